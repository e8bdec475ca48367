/- The walks of FrameBounds. -/
import Derived.Test.YthaoofnnhdkboaaFrO
import Derived.Test.YthaoofnnhdkboaaFrB
import Derived.Test.YthaoofnnhdkboaaCrcN
import Derived.WalkSpells
set_option linter.unusedSimpArgs false
set_option linter.unusedVariables false
namespace Go.Proofs.Ythaoofnnhdkboaa.FrI
open Go.RowKit Go.Proofs.Ythaoofnnhdkboaa.CrcL Go.Proofs.Ythaoofnnhdkboaa.FrW Go.Proofs.Ythaoofnnhdkboaa.FrH Go.Proofs.Ythaoofnnhdkboaa.FrU Go.Proofs.Ythaoofnnhdkboaa.FrL Go.Proofs.Ythaoofnnhdkboaa.FrP Go.Proofs.Ythaoofnnhdkboaa.FrE Go.Proofs.Ythaoofnnhdkboaa.FrA Go.Proofs.Ythaoofnnhdkboaa.FrQ Go.Proofs.Ythaoofnnhdkboaa.FrR Go.Proofs.Ythaoofnnhdkboaa.FrD Go.Proofs.Ythaoofnnhdkboaa.FrK Go.Proofs.Ythaoofnnhdkboaa.FrB
open Go.Proofs.Ythaoofnnhdkboaa.FrG (b8)
attribute [local go_sem high] eqA49 eqA58

open Go.Proofs.Ythaoofnnhdkboaa
theorem zero_size (n : Nat) : (CrcN.zeroS n).size = n := by unfold CrcN.zeroS; rw [strOfNums_size]; simp
theorem app_empty (a : ByteArray) : a ++ ⟨#[]⟩ = a := by apply data_inj; rw [app_list]; simp
theorem no_block {k x s : Int} {t : ByteArray} (h0 : k ≠ 0) (h : fitsB k x t.size 1024 = false) : ¬ okF k x s t := by
  rintro (⟨h1, _⟩ | ⟨_, h1⟩)
  · exact h0 h1
  · rw [h] at h1; cases h1
/-- A block's first nine bytes. -/
def headB (p : ByteArray) (raw : Int) (n : Nat) (sum : Int) : ByteArray := p ++ bigS raw.toNat 2 ++ bigS n 2 ++ bigS sum.toNat 4
theorem getB (kind raw sum bs : Int) (n : Nat) (r : ByteArray) (hk : kind = 1 ∨ kind = 2) (hr : 0 ≤ raw ∧ raw ≤ 65535) (hn : n ≤ 2000) (hs : 0 ≤ sum ∧ sum < 4294967296) :
    getF (headB (strOfNums [kind]) raw n sum ++ r) bs = if bs < raw ∨ fitsB kind raw n 1024 = false then ((0, 0, 0, (⟨#[]⟩ : ByteArray)), 0, 10) else
      if r.size < n then ((0, 0, 0, (⟨#[]⟩ : ByteArray)), 0, 2) else ((kind, raw, sum, (⟨(r.data.toList.take n).toArray⟩ : ByteArray)), 9 + (n : Int), 0) := by
  have hl : (headB (strOfNums [kind]) raw n sum ++ r).data.toList = UInt8.ofNat kind.toNat :: (bL raw.toNat 2 2 ++ (bL n 2 2 ++ (bL sum.toNat 4 4 ++ r.data.toList))) := by
    unfold headB
    rw [app_list, app_list, app_list, app_list, bigS_list, bigS_list, bigS_list]
    show [UInt8.ofNat kind.toNat] ++ _ ++ _ ++ _ ++ _ = _
    simp
  have e2 : (2 : Nat) ^ (8 * 2) = 65536 := by decide
  have e4 : (2 : Nat) ^ (8 * 4) = 4294967296 := by decide
  have hc : ((UInt8.ofNat kind.toNat).toNat : Int) = kind := by rcases hk with rfl | rfl <;> rfl
  have n1 : (numN (bL raw.toNat 2 2) : Int) = raw := by rw [nb _ _ (by omega)]; omega
  have n2 : numN (bL n 2 2) = n := by have := nb n 2 (by omega); omega
  have n3 : (numN (bL sum.toNat 4 4) : Int) = sum := by rw [nb _ _ (by omega)]; omega
  rw [getF_list bs hl (bL_length _ _ _) (bL_length _ _ _) (bL_length _ _ _) (by rw [hc]; exact hk), hc, n1, n2, n3, size_list r]
theorem getB_no (kind raw sum bs : Int) (n : Nat) (r : ByteArray) (hk : kind = 1 ∨ kind = 2) (hr : 0 ≤ raw ∧ raw ≤ 65535) (hn : n ≤ 2000) (hs : 0 ≤ sum ∧ sum < 4294967296) (h : bs < raw ∨ fitsB kind raw n 1024 = false) :
    getF (headB (strOfNums [kind]) raw n sum ++ r) bs = ((0, 0, 0, ⟨#[]⟩), 0, 10) := by rw [getB kind raw sum bs n r hk hr hn hs, if_pos h]
theorem getB_few (kind raw sum bs : Int) (n : Nat) (r : ByteArray) (hk : kind = 1 ∨ kind = 2) (hr : 0 ≤ raw ∧ raw ≤ 65535) (hn : n ≤ 2000) (hs : 0 ≤ sum ∧ sum < 4294967296) (hb : ¬ bs < raw) (h : fitsB kind raw n 1024 = true) (hz : r.size < n) :
    getF (headB (strOfNums [kind]) raw n sum ++ r) bs = ((0, 0, 0, ⟨#[]⟩), 0, 2) := by rw [getB kind raw sum bs n r hk hr hn hs, if_neg (no_or hb h), if_pos hz]
theorem getB_yes (kind raw sum bs : Int) (n : Nat) (r : ByteArray) (hk : kind = 1 ∨ kind = 2) (hr : 0 ≤ raw ∧ raw ≤ 65535) (hn : n ≤ 2000) (hs : 0 ≤ sum ∧ sum < 4294967296) (hb : ¬ bs < raw) (h : fitsB kind raw n 1024 = true) (hz : r.size = n) :
    getF (headB (strOfNums [kind]) raw n sum ++ r) bs = ((kind, raw, sum, r), 9 + (n : Int), 0) := by
  rw [getB kind raw sum bs n r hk hr hn hs, if_neg (no_or hb h), if_neg (by omega)]
  have e : (⟨(r.data.toList.take n).toArray⟩ : ByteArray) = r := by
    apply data_inj
    rw [List.take_of_length_le (by rw [← size_list]; omega)]
  rw [e]
/-- What the region's operations yield. -/
def bdV (kind raw sum : Int) (n : Nat) (p : ByteArray) (B : Nat) (i : Nat) (v : Value) (W : World) : Prop := match i with
  | 0 => v = .int .i64 kind
  | 1 => v = .int .u8 kind
  | 2 => ∃ b, v = .slice (some ⟨b, 0, none⟩) 1 1 ∧ W.cell? ⟨b, 0, none⟩ = some (.int .u8 kind)
  | 3 => v = .string p
  | 4 => v = .int .i64 raw
  | 5 => v = .int .u64 raw
  | 6 => v = .string (bigS raw.toNat 2)
  | 7 => v = .string (p ++ bigS raw.toNat 2)
  | 8 => v = .int .i64 (n : Int)
  | 9 => v = .int .u64 (n : Int)
  | 10 => v = .string (bigS n 2)
  | 11 => v = .string (p ++ bigS raw.toNat 2 ++ bigS n 2)
  | 12 => v = .int .u32 sum
  | 13 => v = .int .u64 sum
  | 14 => v = .string (bigS sum.toNat 4)
  | 15 => v = .string (headB p raw n sum)
  | 16 => v = .string (headB p raw n sum)
  | _ => True
set_option maxRecDepth 20000 in
set_option maxHeartbeats 2000000 in
theorem bounds_n1_1 (raw bs sum : Int) (n : Nat) (w : World) (hk : (1 : Int) = 1 ∨ (1 : Int) = 2) (h0 : ¬ raw < 0) (h1 : ¬ 65535 < raw) (h3 : n ≤ 2000) (h4 : ¬ bs < 1) (h5 : ¬ 2000 < bs) (hsu : 0 ≤ sum ∧ sum < 4294967296) (h6 : raw < 1) :
    Calls Try.prog 18 #[.int .i64 1, .int .i64 raw, .int .i64 (n : Int), .int .i64 bs, .int .u32 sum] w fun e w' => e = .returned (.bool true) ∧ Below w.heap.size w w' := by
  have hbs := bigS_size
  obtain ⟨p, hp⟩ : ∃ p, p = strOfNums [1] := ⟨_, rfl⟩
  have hps : p.size = 1 := by rw [hp]; rfl
  have hcg : ∀ (W : World) (b : Nat), W.cell? ⟨b, 0, none⟩ = some (.int .u8 1) → (convert 32 9 (.slice (some ⟨b, 0, none⟩) 1 1)).run Try.prog W = .ok (.string p) W := fun W b h => by rw [hp]; exact conv1 W b 1 h
  obtain ⟨zs, hzd⟩ : ∃ zs, zs = CrcN.zeroS n := ⟨_, rfl⟩
  have hzz : zs.size = n := by rw [hzd]; exact zero_size n
  have hcz : ∀ (W : World) (b : Nat), (∀ j, j < n → W.cell? ⟨b, j, none⟩ = some (.int .u8 0)) → (convert 32 9 (.slice (some ⟨b, 0, none⟩) n n)).run Try.prog W = .ok (.string zs) W := fun W b h => by rw [hzd]; exact CrcN.conv_n W b n h
  clear hzd
  have hB : (headB p raw n sum).size = 9 := by unfold headB; simp only [ByteArray.size_append, bigS_size, hps]
  have hla : (headB p raw n sum).size + zs.size ≤ maxLen := by rw [hB, hzz]; unfold maxLen; omega
  have hla2 : 9 + n ≤ maxLen := by unfold maxLen; omega
  have hla3 : 9 + zs.size ≤ maxLen := by rw [hzz]; unfold maxLen; omega
  have hwk : IntKind.u8.wrap 1 = 1 := by rfl
  have hwr : IntKind.u64.wrap raw = raw := by rw [show raw = ((raw.toNat : Nat) : Int) by omega]; exact wrap64u _ (by omega)
  have hwn : IntKind.u64.wrap (n : Int) = (n : Int) := wrap64u _ (by omega)
  have hws : IntKind.u64.wrap sum = sum := by rw [show sum = ((sum.toNat : Nat) : Int) by omega]; exact wrap64u _ (by omega)
  have hw9 : IntKind.i64.wrap (9 + (n : Int)) = 9 + (n : Int) := by rw [IntKind.wrap_i64]; omega
  have x1 : decide (raw < 0) = false := by simp <;> omega
  have x2 : decide (raw > 65535) = false := by simp <;> omega
  have x3 : decide ((n : Int) < 0) = false := by simp <;> omega
  have x4 : decide ((n : Int) > 2000) = false := by simp <;> omega
  have x5 : decide (bs < 1) = false := by simp <;> omega
  have x6 : decide (bs > 2000) = false := by simp <;> omega
  have y1 : decide (raw ≥ 1) = false := by simp <;> omega
  have hfit : fitsB 1 raw zs.size 1024 = false := by rw [hzz]; unfold fitsB; simp; omega
  have hok : ¬ okF 1 raw sum zs := no_block (by omega) hfit
  have hpf : putF 1 raw sum zs = ⟨#[]⟩ := by unfold putF; rw [if_neg hok]
  have hqe := getB_no 1 raw sum bs n ⟨#[]⟩ hk (by omega) (by omega) hsu (.inr (by rw [← hzz]; exact hfit))
  have hqh := getB_no 1 raw sum bs n zs hk (by omega) (by omega) hsu (.inr (by rw [← hzz]; exact hfit))
  rw [← hp] at hqe hqh
  rw [app_empty] at hqe
  clear hp
  have bel : Below w.heap.size w w := Below.refl _ _
  go_enter Try.func18, Try.ntmps18
  go_wp2_with fail
  refine (alive_call _).mono ?_
  rintro e w1 ⟨rfl, hb1⟩
  replace bel := bstep bel hb1
  have hmk := CrcN.make_n w1 n (by omega)
  have hcv := hcz (w1.alloc (.cells (madeCells #[Value.int .u8 0] n) 5)) w1.heap.size (CrcN.made_cells w1 n)
  replace bel := bstep bel (balloc (Below.refl w1.heap.size w1) (.cells (madeCells #[Value.int .u8 0] n) 5))
  have f0 : ((w1.alloc (.cells (madeCells #[Value.int .u8 0] n) 5)).alloc (.cells #[.int .i64 1, .int .i64 raw, .int .u32 sum, .string zs] 58)).cell? ⟨w1.heap.size + 1, 0, none⟩ = some (.int .i64 1) := by simp
  have f1 : ((w1.alloc (.cells (madeCells #[Value.int .u8 0] n) 5)).alloc (.cells #[.int .i64 1, .int .i64 raw, .int .u32 sum, .string zs] 58)).cell? ⟨w1.heap.size + 1, 1, none⟩ = some (.int .i64 raw) := by simp
  have f2 : ((w1.alloc (.cells (madeCells #[Value.int .u8 0] n) 5)).alloc (.cells #[.int .i64 1, .int .i64 raw, .int .u32 sum, .string zs] 58)).cell? ⟨w1.heap.size + 1, 2, none⟩ = some (.int .u32 sum) := by simp
  have f3 : ((w1.alloc (.cells (madeCells #[Value.int .u8 0] n) 5)).alloc (.cells #[.int .i64 1, .int .i64 raw, .int .u32 sum, .string zs] 58)).cell? ⟨w1.heap.size + 1, 3, none⟩ = some (.string zs) := by simp
  replace bel := bstep bel (balloc (Below.refl (w1.alloc (.cells (madeCells #[Value.int .u8 0] n) 5)).heap.size (w1.alloc (.cells (madeCells #[Value.int .u8 0] n) 5))) (.cells #[.int .i64 1, .int .i64 raw, .int .u32 sum, .string zs] 58))
  go_wp2_with fail
  refine (put_any 1 raw sum zs _ hsu).mono ?_
  rintro e w2 ⟨rfl, hb2⟩
  replace f0 := pw_cell_below hb2 f0
  replace f1 := pw_cell_below hb2 f1
  replace f2 := pw_cell_below hb2 f2
  replace f3 := pw_cell_below hb2 f3
  replace bel := bstep bel hb2
  rw [decide_eq_false hok, hpf]
  clear hmk hcv
  go_wp2_with fail
  refine Reg.wp_region_lists (fun W W' => Below W.heap.size W W') (bdV 1 raw sum n p w2.heap.size)
    [some 97, some 98, some 99, some 100, some 101, some 102, some 103, some 104, some 105, some 106, some 107, some 108, some 109, some 110, some 111, some 112, some 15]
    [[], [0], [1], [2], [], [4], [5], [3, 6], [], [8], [9, 6], [7, 10], [], [12], [13, 10], [11, 14], [15, 14, 0, 1, 2, 3, 4, 5, 6, 7, 8, 9, 10, 11, 12, 13, 14, 15]]
    (by kernel_rfl) (by kernel_rfl) (by kernel_rfl) (fun _ => Below.refl _ _) (fun _ _ _ h k => bstep h k) ?_ ?_ ?_
  · intro i v W W' h k
    unfold bdV at h ⊢
    split at h <;> first | exact h | (obtain ⟨b, e, hc⟩ := h; exact ⟨b, e, pw_cell_below k hc⟩)
  · refine ⟨?_, ?_, ?_, ?_, ?_, ?_, ?_, ?_, ?_, ?_, ?_, ?_, ?_, ?_, ?_, ?_, ?_, trivial⟩
    · intro vals W K hR hV hK
      simp only [Reg.putS, List.foldl, List.headD, List.tail, List.getD_cons_zero, List.getD_cons_succ, Act.put, List.setIfInBounds_toArray, List.set_cons_zero, List.set_cons_succ] at hK ⊢
      go_simp
      first
        | exact hK _ _ (Below.refl _ _) rfl
        | (rw [if_pos (by omega)]; exact hK _ _ (Below.refl _ _) rfl)
        | (rw [dif_pos (by omega)]; exact hK _ _ (Below.refl _ _) rfl)
        | (rw [if_neg (by omega)]; exact hK _ _ (Below.refl _ _) rfl)
    · intro vals W K hR hV hK
      have d0 := hV 0 (by simp)
      simp only [bdV] at d0
      simp only [Reg.putS, List.foldl, List.headD, List.tail, List.getD_cons_zero, List.getD_cons_succ, Act.put, List.setIfInBounds_toArray, List.set_cons_zero, List.set_cons_succ, d0] at hK ⊢
      go_simp
      first
        | exact hK _ _ (Below.refl _ _) rfl
        | (rw [if_pos (by omega)]; exact hK _ _ (Below.refl _ _) rfl)
        | (rw [dif_pos (by omega)]; exact hK _ _ (Below.refl _ _) rfl)
        | (rw [if_neg (by omega)]; exact hK _ _ (Below.refl _ _) rfl)
    · intro vals W K hR hV hK
      have d1 := hV 1 (by simp)
      simp only [bdV] at d1
      simp only [Reg.putS, List.foldl, List.headD, List.tail, List.getD_cons_zero, List.getD_cons_succ, Act.put, List.setIfInBounds_toArray, List.set_cons_zero, List.set_cons_succ, d1] at hK ⊢
      go_simp
      exact hK _ _ (balloc (Below.refl _ _) _) ⟨_, rfl, by simp⟩
    · intro vals W K hR hV hK
      have d2 := hV 2 (by simp)
      simp only [bdV] at d2
      obtain ⟨b, d2, hcell⟩ := d2
      simp only [Reg.putS, List.foldl, List.headD, List.tail, List.getD_cons_zero, List.getD_cons_succ, Act.put, List.setIfInBounds_toArray, List.set_cons_zero, List.set_cons_succ, d2] at hK ⊢
      have hcv := hcg W b hcell
      go_simp
      first
        | exact hK _ _ (Below.refl _ _) rfl
        | (rw [if_pos (by omega)]; exact hK _ _ (Below.refl _ _) rfl)
        | (rw [dif_pos (by omega)]; exact hK _ _ (Below.refl _ _) rfl)
        | (rw [if_neg (by omega)]; exact hK _ _ (Below.refl _ _) rfl)
    · intro vals W K hR hV hK
      simp only [Reg.putS, List.foldl, List.headD, List.tail, List.getD_cons_zero, List.getD_cons_succ, Act.put, List.setIfInBounds_toArray, List.set_cons_zero, List.set_cons_succ] at hK ⊢
      go_simp
      first
        | exact hK _ _ (Below.refl _ _) rfl
        | (rw [if_pos (by omega)]; exact hK _ _ (Below.refl _ _) rfl)
        | (rw [dif_pos (by omega)]; exact hK _ _ (Below.refl _ _) rfl)
        | (rw [if_neg (by omega)]; exact hK _ _ (Below.refl _ _) rfl)
    · intro vals W K hR hV hK
      have d4 := hV 4 (by simp)
      simp only [bdV] at d4
      simp only [Reg.putS, List.foldl, List.headD, List.tail, List.getD_cons_zero, List.getD_cons_succ, Act.put, List.setIfInBounds_toArray, List.set_cons_zero, List.set_cons_succ, d4] at hK ⊢
      go_simp
      first
        | exact hK _ _ (Below.refl _ _) rfl
        | (rw [if_pos (by omega)]; exact hK _ _ (Below.refl _ _) rfl)
        | (rw [dif_pos (by omega)]; exact hK _ _ (Below.refl _ _) rfl)
        | (rw [if_neg (by omega)]; exact hK _ _ (Below.refl _ _) rfl)
    · intro vals W K hR hV hK
      have d5 := hV 5 (by simp)
      simp only [bdV] at d5
      simp only [Reg.putS, List.foldl, List.headD, List.tail, List.getD_cons_zero, List.getD_cons_succ, Act.put, List.setIfInBounds_toArray, List.set_cons_zero, List.set_cons_succ, d5] at hK ⊢
      go_simp
      refine (refBig_call raw 2 _ (by omega) (by omega) (by omega)).mono ?_
      rintro e w2 ⟨rfl, hb⟩
      exact hK _ _ hb rfl
    · intro vals W K hR hV hK
      have d3 := hV 3 (by simp)
      simp only [bdV] at d3
      have d6 := hV 6 (by simp)
      simp only [bdV] at d6
      simp only [Reg.putS, List.foldl, List.headD, List.tail, List.getD_cons_zero, List.getD_cons_succ, Act.put, List.setIfInBounds_toArray, List.set_cons_zero, List.set_cons_succ, d3, d6] at hK ⊢
      go_simp
      first
        | exact hK _ _ (Below.refl _ _) rfl
        | (rw [if_pos (by omega)]; exact hK _ _ (Below.refl _ _) rfl)
        | (rw [dif_pos (by omega)]; exact hK _ _ (Below.refl _ _) rfl)
        | (rw [if_neg (by omega)]; exact hK _ _ (Below.refl _ _) rfl)
    · intro vals W K hR hV hK
      simp only [Reg.putS, List.foldl, List.headD, List.tail, List.getD_cons_zero, List.getD_cons_succ, Act.put, List.setIfInBounds_toArray, List.set_cons_zero, List.set_cons_succ] at hK ⊢
      go_simp
      first
        | exact hK _ _ (Below.refl _ _) rfl
        | (rw [if_pos (by omega)]; exact hK _ _ (Below.refl _ _) rfl)
        | (rw [dif_pos (by omega)]; exact hK _ _ (Below.refl _ _) rfl)
        | (rw [if_neg (by omega)]; exact hK _ _ (Below.refl _ _) rfl)
    · intro vals W K hR hV hK
      have d8 := hV 8 (by simp)
      simp only [bdV] at d8
      simp only [Reg.putS, List.foldl, List.headD, List.tail, List.getD_cons_zero, List.getD_cons_succ, Act.put, List.setIfInBounds_toArray, List.set_cons_zero, List.set_cons_succ, d8] at hK ⊢
      go_simp
      first
        | exact hK _ _ (Below.refl _ _) rfl
        | (rw [if_pos (by omega)]; exact hK _ _ (Below.refl _ _) rfl)
        | (rw [dif_pos (by omega)]; exact hK _ _ (Below.refl _ _) rfl)
        | (rw [if_neg (by omega)]; exact hK _ _ (Below.refl _ _) rfl)
    · intro vals W K hR hV hK
      have d6 := hV 6 (by simp)
      simp only [bdV] at d6
      have d9 := hV 9 (by simp)
      simp only [bdV] at d9
      simp only [Reg.putS, List.foldl, List.headD, List.tail, List.getD_cons_zero, List.getD_cons_succ, Act.put, List.setIfInBounds_toArray, List.set_cons_zero, List.set_cons_succ, d6, d9] at hK ⊢
      go_simp
      refine (refBig_call (n : Int) 2 _ (by omega) (by omega) (by omega)).mono ?_
      rintro e w2 ⟨rfl, hb⟩
      exact hK _ _ hb rfl
    · intro vals W K hR hV hK
      have d7 := hV 7 (by simp)
      simp only [bdV] at d7
      have d10 := hV 10 (by simp)
      simp only [bdV] at d10
      simp only [Reg.putS, List.foldl, List.headD, List.tail, List.getD_cons_zero, List.getD_cons_succ, Act.put, List.setIfInBounds_toArray, List.set_cons_zero, List.set_cons_succ, d7, d10] at hK ⊢
      go_simp
      first
        | exact hK _ _ (Below.refl _ _) rfl
        | (rw [if_pos (by omega)]; exact hK _ _ (Below.refl _ _) rfl)
        | (rw [dif_pos (by omega)]; exact hK _ _ (Below.refl _ _) rfl)
        | (rw [if_neg (by omega)]; exact hK _ _ (Below.refl _ _) rfl)
    · intro vals W K hR hV hK
      simp only [Reg.putS, List.foldl, List.headD, List.tail, List.getD_cons_zero, List.getD_cons_succ, Act.put, List.setIfInBounds_toArray, List.set_cons_zero, List.set_cons_succ] at hK ⊢
      go_simp
      first
        | exact hK _ _ (Below.refl _ _) rfl
        | (rw [if_pos (by omega)]; exact hK _ _ (Below.refl _ _) rfl)
        | (rw [dif_pos (by omega)]; exact hK _ _ (Below.refl _ _) rfl)
        | (rw [if_neg (by omega)]; exact hK _ _ (Below.refl _ _) rfl)
    · intro vals W K hR hV hK
      have d12 := hV 12 (by simp)
      simp only [bdV] at d12
      simp only [Reg.putS, List.foldl, List.headD, List.tail, List.getD_cons_zero, List.getD_cons_succ, Act.put, List.setIfInBounds_toArray, List.set_cons_zero, List.set_cons_succ, d12] at hK ⊢
      go_simp
      first
        | exact hK _ _ (Below.refl _ _) rfl
        | (rw [if_pos (by omega)]; exact hK _ _ (Below.refl _ _) rfl)
        | (rw [dif_pos (by omega)]; exact hK _ _ (Below.refl _ _) rfl)
        | (rw [if_neg (by omega)]; exact hK _ _ (Below.refl _ _) rfl)
    · intro vals W K hR hV hK
      have d10 := hV 10 (by simp)
      simp only [bdV] at d10
      have d13 := hV 13 (by simp)
      simp only [bdV] at d13
      simp only [Reg.putS, List.foldl, List.headD, List.tail, List.getD_cons_zero, List.getD_cons_succ, Act.put, List.setIfInBounds_toArray, List.set_cons_zero, List.set_cons_succ, d10, d13] at hK ⊢
      go_simp
      refine (refBig_call sum 4 _ (by omega) (by omega) (by omega)).mono ?_
      rintro e w2 ⟨rfl, hb⟩
      exact hK _ _ hb rfl
    · intro vals W K hR hV hK
      have d11 := hV 11 (by simp)
      simp only [bdV] at d11
      have d14 := hV 14 (by simp)
      simp only [bdV] at d14
      simp only [Reg.putS, List.foldl, List.headD, List.tail, List.getD_cons_zero, List.getD_cons_succ, Act.put, List.setIfInBounds_toArray, List.set_cons_zero, List.set_cons_succ, d11, d14] at hK ⊢
      go_simp
      first
        | exact hK _ _ (Below.refl _ _) rfl
        | (rw [if_pos (by omega)]; exact hK _ _ (Below.refl _ _) rfl)
        | (rw [dif_pos (by omega)]; exact hK _ _ (Below.refl _ _) rfl)
        | (rw [if_neg (by omega)]; exact hK _ _ (Below.refl _ _) rfl)
    · intro vals W K hR hV hK
      have d0 := hV 0 (by simp)
      simp only [bdV] at d0
      have d1 := hV 1 (by simp)
      simp only [bdV] at d1
      have d2 := hV 2 (by simp)
      simp only [bdV] at d2
      obtain ⟨b, d2, hcell⟩ := d2
      have d3 := hV 3 (by simp)
      simp only [bdV] at d3
      have d4 := hV 4 (by simp)
      simp only [bdV] at d4
      have d5 := hV 5 (by simp)
      simp only [bdV] at d5
      have d6 := hV 6 (by simp)
      simp only [bdV] at d6
      have d7 := hV 7 (by simp)
      simp only [bdV] at d7
      have d8 := hV 8 (by simp)
      simp only [bdV] at d8
      have d9 := hV 9 (by simp)
      simp only [bdV] at d9
      have d10 := hV 10 (by simp)
      simp only [bdV] at d10
      have d11 := hV 11 (by simp)
      simp only [bdV] at d11
      have d12 := hV 12 (by simp)
      simp only [bdV] at d12
      have d13 := hV 13 (by simp)
      simp only [bdV] at d13
      have d14 := hV 14 (by simp)
      simp only [bdV] at d14
      have d15 := hV 15 (by simp)
      simp only [bdV] at d15
      simp only [Reg.putS, List.foldl, List.headD, List.tail, List.getD_cons_zero, List.getD_cons_succ, Act.put, List.setIfInBounds_toArray, List.set_cons_zero, List.set_cons_succ, d0, d1, d2, d3, d4, d5, d6, d7, d8, d9, d10, d11, d12, d13, d14, d15] at hK ⊢
      go_simp
      first
        | exact hK _ _ (Below.refl _ _) rfl
        | (rw [if_pos (by omega)]; exact hK _ _ (Below.refl _ _) rfl)
        | (rw [dif_pos (by omega)]; exact hK _ _ (Below.refl _ _) rfl)
        | (rw [if_neg (by omega)]; exact hK _ _ (Below.refl _ _) rfl)
  · intro vals W hR hV
    rw [show List.range (List.length [some 97, some 98, some 99, some 100, some 101, some 102, some 103, some 104, some 105, some 106, some 107, some 108, some 109, some 110, some 111, some 112, some 15]) = [0, 1, 2, 3, 4, 5, 6, 7, 8, 9, 10, 11, 12, 13, 14, 15, 16] from rfl]
    have d0 := hV 0 (by decide)
    simp only [bdV] at d0
    have d1 := hV 1 (by decide)
    simp only [bdV] at d1
    have d2 := hV 2 (by decide)
    simp only [bdV] at d2
    obtain ⟨b, d2, hcell⟩ := d2
    have d3 := hV 3 (by decide)
    simp only [bdV] at d3
    have d4 := hV 4 (by decide)
    simp only [bdV] at d4
    have d5 := hV 5 (by decide)
    simp only [bdV] at d5
    have d6 := hV 6 (by decide)
    simp only [bdV] at d6
    have d7 := hV 7 (by decide)
    simp only [bdV] at d7
    have d8 := hV 8 (by decide)
    simp only [bdV] at d8
    have d9 := hV 9 (by decide)
    simp only [bdV] at d9
    have d10 := hV 10 (by decide)
    simp only [bdV] at d10
    have d11 := hV 11 (by decide)
    simp only [bdV] at d11
    have d12 := hV 12 (by decide)
    simp only [bdV] at d12
    have d13 := hV 13 (by decide)
    simp only [bdV] at d13
    have d14 := hV 14 (by decide)
    simp only [bdV] at d14
    have d15 := hV 15 (by decide)
    simp only [bdV] at d15
    have d16 := hV 16 (by decide)
    simp only [bdV] at d16
    clear hV
    simp only [Reg.putS, List.foldl, List.getD_cons_zero, List.getD_cons_succ, Act.put, List.setIfInBounds_toArray, List.set_cons_zero, List.set_cons_succ, d0, d1, d2, d3, d4, d5, d6, d7, d8, d9, d10, d11, d12, d13, d14, d15, d16]
    clear d0 d1 d2 d3 d4 d5 d6 d7 d8 d9 d10 d11 d12 d13 d14 d15 d16
    replace bel := bstep (below_drew bel) hR
    replace f0 := pw_cell_below hR f0
    replace f1 := pw_cell_below hR f1
    replace f2 := pw_cell_below hR f2
    replace f3 := pw_cell_below hR f3
    clear hR
    go_wp2_with fail
    refine (fget_any (headB p raw n sum) bs _ (by omega)).mono ?_
    rintro e w3 ⟨rfl, hb3⟩
    replace f0 := pw_cell_below hb3 f0
    replace f1 := pw_cell_below hb3 f1
    replace f2 := pw_cell_below hb3 f2
    replace f3 := pw_cell_below hb3 f3
    replace bel := bstep bel hb3
    simp only [getOut, frameAgg, hqe]
    have y0 : (w3.alloc (.cells #[.int .i64 0, .int .i64 0, .int .u32 0, .string ⟨#[]⟩] 58)).cell? ⟨w3.heap.size, 0, none⟩ = some (.int .i64 0) := by simp
    have y1 : (w3.alloc (.cells #[.int .i64 0, .int .i64 0, .int .u32 0, .string ⟨#[]⟩] 58)).cell? ⟨w3.heap.size, 1, none⟩ = some (.int .i64 0) := by simp
    have y2 : (w3.alloc (.cells #[.int .i64 0, .int .i64 0, .int .u32 0, .string ⟨#[]⟩] 58)).cell? ⟨w3.heap.size, 2, none⟩ = some (.int .u32 0) := by simp
    have y3 : (w3.alloc (.cells #[.int .i64 0, .int .i64 0, .int .u32 0, .string ⟨#[]⟩] 58)).cell? ⟨w3.heap.size, 3, none⟩ = some (.string ⟨#[]⟩) := by simp
    have f0n := pw_cell_below (balloc (Below.refl w3.heap.size w3) (.cells #[.int .i64 0, .int .i64 0, .int .u32 0, .string ⟨#[]⟩] 58)) f0
    have f1n := pw_cell_below (balloc (Below.refl w3.heap.size w3) (.cells #[.int .i64 0, .int .i64 0, .int .u32 0, .string ⟨#[]⟩] 58)) f1
    have f2n := pw_cell_below (balloc (Below.refl w3.heap.size w3) (.cells #[.int .i64 0, .int .i64 0, .int .u32 0, .string ⟨#[]⟩] 58)) f2
    have f3n := pw_cell_below (balloc (Below.refl w3.heap.size w3) (.cells #[.int .i64 0, .int .i64 0, .int .u32 0, .string ⟨#[]⟩] 58)) f3
    have beln := bstep bel (balloc (Below.refl w3.heap.size w3) (.cells #[.int .i64 0, .int .i64 0, .int .u32 0, .string ⟨#[]⟩] 58))
    go_wp2_with fail
    refine (fget_any (headB p raw n sum ++ zs) bs _ (by rw [ByteArray.size_append]; omega)).mono ?_
    rintro e w4 ⟨rfl, hb4⟩
    replace f0 := pw_cell_below hb4 f0n
    clear f0n
    replace f1 := pw_cell_below hb4 f1n
    clear f1n
    replace f2 := pw_cell_below hb4 f2n
    clear f2n
    replace f3 := pw_cell_below hb4 f3n
    clear f3n
    replace y0 := pw_cell_below hb4 y0
    replace y1 := pw_cell_below hb4 y1
    replace y2 := pw_cell_below hb4 y2
    replace y3 := pw_cell_below hb4 y3
    replace bel := bstep beln hb4
    clear beln
    simp only [getOut, frameAgg, hqh]
    have z0 : (w4.alloc (.cells #[.int .i64 0, .int .i64 0, .int .u32 0, .string ⟨#[]⟩] 58)).cell? ⟨w4.heap.size, 0, none⟩ = some (.int .i64 0) := by simp
    have z1 : (w4.alloc (.cells #[.int .i64 0, .int .i64 0, .int .u32 0, .string ⟨#[]⟩] 58)).cell? ⟨w4.heap.size, 1, none⟩ = some (.int .i64 0) := by simp
    have z2 : (w4.alloc (.cells #[.int .i64 0, .int .i64 0, .int .u32 0, .string ⟨#[]⟩] 58)).cell? ⟨w4.heap.size, 2, none⟩ = some (.int .u32 0) := by simp
    have z3 : (w4.alloc (.cells #[.int .i64 0, .int .i64 0, .int .u32 0, .string ⟨#[]⟩] 58)).cell? ⟨w4.heap.size, 3, none⟩ = some (.string ⟨#[]⟩) := by simp
    have f0n := pw_cell_below (balloc (Below.refl w4.heap.size w4) (.cells #[.int .i64 0, .int .i64 0, .int .u32 0, .string ⟨#[]⟩] 58)) f0
    have f1n := pw_cell_below (balloc (Below.refl w4.heap.size w4) (.cells #[.int .i64 0, .int .i64 0, .int .u32 0, .string ⟨#[]⟩] 58)) f1
    have f2n := pw_cell_below (balloc (Below.refl w4.heap.size w4) (.cells #[.int .i64 0, .int .i64 0, .int .u32 0, .string ⟨#[]⟩] 58)) f2
    have f3n := pw_cell_below (balloc (Below.refl w4.heap.size w4) (.cells #[.int .i64 0, .int .i64 0, .int .u32 0, .string ⟨#[]⟩] 58)) f3
    have y0n := pw_cell_below (balloc (Below.refl w4.heap.size w4) (.cells #[.int .i64 0, .int .i64 0, .int .u32 0, .string ⟨#[]⟩] 58)) y0
    have y1n := pw_cell_below (balloc (Below.refl w4.heap.size w4) (.cells #[.int .i64 0, .int .i64 0, .int .u32 0, .string ⟨#[]⟩] 58)) y1
    have y2n := pw_cell_below (balloc (Below.refl w4.heap.size w4) (.cells #[.int .i64 0, .int .i64 0, .int .u32 0, .string ⟨#[]⟩] 58)) y2
    have y3n := pw_cell_below (balloc (Below.refl w4.heap.size w4) (.cells #[.int .i64 0, .int .i64 0, .int .u32 0, .string ⟨#[]⟩] 58)) y3
    have beln := bstep bel (balloc (Below.refl w4.heap.size w4) (.cells #[.int .i64 0, .int .i64 0, .int .u32 0, .string ⟨#[]⟩] 58))
    go_wp2_with fail
    go_returns
    exact ⟨rfl, beln⟩
set_option maxRecDepth 20000 in
set_option maxHeartbeats 2000000 in
theorem bounds_n1_2 (raw bs sum : Int) (n : Nat) (w : World) (hk : (2 : Int) = 1 ∨ (2 : Int) = 2) (h0 : ¬ raw < 0) (h1 : ¬ 65535 < raw) (h3 : n ≤ 2000) (h4 : ¬ bs < 1) (h5 : ¬ 2000 < bs) (hsu : 0 ≤ sum ∧ sum < 4294967296) (h6 : raw < 1) :
    Calls Try.prog 18 #[.int .i64 2, .int .i64 raw, .int .i64 (n : Int), .int .i64 bs, .int .u32 sum] w fun e w' => e = .returned (.bool true) ∧ Below w.heap.size w w' := by
  have hbs := bigS_size
  obtain ⟨p, hp⟩ : ∃ p, p = strOfNums [2] := ⟨_, rfl⟩
  have hps : p.size = 1 := by rw [hp]; rfl
  have hcg : ∀ (W : World) (b : Nat), W.cell? ⟨b, 0, none⟩ = some (.int .u8 2) → (convert 32 9 (.slice (some ⟨b, 0, none⟩) 1 1)).run Try.prog W = .ok (.string p) W := fun W b h => by rw [hp]; exact conv1 W b 2 h
  obtain ⟨zs, hzd⟩ : ∃ zs, zs = CrcN.zeroS n := ⟨_, rfl⟩
  have hzz : zs.size = n := by rw [hzd]; exact zero_size n
  have hcz : ∀ (W : World) (b : Nat), (∀ j, j < n → W.cell? ⟨b, j, none⟩ = some (.int .u8 0)) → (convert 32 9 (.slice (some ⟨b, 0, none⟩) n n)).run Try.prog W = .ok (.string zs) W := fun W b h => by rw [hzd]; exact CrcN.conv_n W b n h
  clear hzd
  have hB : (headB p raw n sum).size = 9 := by unfold headB; simp only [ByteArray.size_append, bigS_size, hps]
  have hla : (headB p raw n sum).size + zs.size ≤ maxLen := by rw [hB, hzz]; unfold maxLen; omega
  have hla2 : 9 + n ≤ maxLen := by unfold maxLen; omega
  have hla3 : 9 + zs.size ≤ maxLen := by rw [hzz]; unfold maxLen; omega
  have hwk : IntKind.u8.wrap 2 = 2 := by rfl
  have hwr : IntKind.u64.wrap raw = raw := by rw [show raw = ((raw.toNat : Nat) : Int) by omega]; exact wrap64u _ (by omega)
  have hwn : IntKind.u64.wrap (n : Int) = (n : Int) := wrap64u _ (by omega)
  have hws : IntKind.u64.wrap sum = sum := by rw [show sum = ((sum.toNat : Nat) : Int) by omega]; exact wrap64u _ (by omega)
  have hw9 : IntKind.i64.wrap (9 + (n : Int)) = 9 + (n : Int) := by rw [IntKind.wrap_i64]; omega
  have x1 : decide (raw < 0) = false := by simp <;> omega
  have x2 : decide (raw > 65535) = false := by simp <;> omega
  have x3 : decide ((n : Int) < 0) = false := by simp <;> omega
  have x4 : decide ((n : Int) > 2000) = false := by simp <;> omega
  have x5 : decide (bs < 1) = false := by simp <;> omega
  have x6 : decide (bs > 2000) = false := by simp <;> omega
  have y1 : decide (raw ≥ 1) = false := by simp <;> omega
  have hfit : fitsB 2 raw zs.size 1024 = false := by rw [hzz]; unfold fitsB; simp; omega
  have hok : ¬ okF 2 raw sum zs := no_block (by omega) hfit
  have hpf : putF 2 raw sum zs = ⟨#[]⟩ := by unfold putF; rw [if_neg hok]
  have hqe := getB_no 2 raw sum bs n ⟨#[]⟩ hk (by omega) (by omega) hsu (.inr (by rw [← hzz]; exact hfit))
  have hqh := getB_no 2 raw sum bs n zs hk (by omega) (by omega) hsu (.inr (by rw [← hzz]; exact hfit))
  rw [← hp] at hqe hqh
  rw [app_empty] at hqe
  clear hp
  have bel : Below w.heap.size w w := Below.refl _ _
  go_enter Try.func18, Try.ntmps18
  go_wp2_with fail
  refine (alive_call _).mono ?_
  rintro e w1 ⟨rfl, hb1⟩
  replace bel := bstep bel hb1
  have hmk := CrcN.make_n w1 n (by omega)
  have hcv := hcz (w1.alloc (.cells (madeCells #[Value.int .u8 0] n) 5)) w1.heap.size (CrcN.made_cells w1 n)
  replace bel := bstep bel (balloc (Below.refl w1.heap.size w1) (.cells (madeCells #[Value.int .u8 0] n) 5))
  have f0 : ((w1.alloc (.cells (madeCells #[Value.int .u8 0] n) 5)).alloc (.cells #[.int .i64 2, .int .i64 raw, .int .u32 sum, .string zs] 58)).cell? ⟨w1.heap.size + 1, 0, none⟩ = some (.int .i64 2) := by simp
  have f1 : ((w1.alloc (.cells (madeCells #[Value.int .u8 0] n) 5)).alloc (.cells #[.int .i64 2, .int .i64 raw, .int .u32 sum, .string zs] 58)).cell? ⟨w1.heap.size + 1, 1, none⟩ = some (.int .i64 raw) := by simp
  have f2 : ((w1.alloc (.cells (madeCells #[Value.int .u8 0] n) 5)).alloc (.cells #[.int .i64 2, .int .i64 raw, .int .u32 sum, .string zs] 58)).cell? ⟨w1.heap.size + 1, 2, none⟩ = some (.int .u32 sum) := by simp
  have f3 : ((w1.alloc (.cells (madeCells #[Value.int .u8 0] n) 5)).alloc (.cells #[.int .i64 2, .int .i64 raw, .int .u32 sum, .string zs] 58)).cell? ⟨w1.heap.size + 1, 3, none⟩ = some (.string zs) := by simp
  replace bel := bstep bel (balloc (Below.refl (w1.alloc (.cells (madeCells #[Value.int .u8 0] n) 5)).heap.size (w1.alloc (.cells (madeCells #[Value.int .u8 0] n) 5))) (.cells #[.int .i64 2, .int .i64 raw, .int .u32 sum, .string zs] 58))
  go_wp2_with fail
  refine (put_any 2 raw sum zs _ hsu).mono ?_
  rintro e w2 ⟨rfl, hb2⟩
  replace f0 := pw_cell_below hb2 f0
  replace f1 := pw_cell_below hb2 f1
  replace f2 := pw_cell_below hb2 f2
  replace f3 := pw_cell_below hb2 f3
  replace bel := bstep bel hb2
  rw [decide_eq_false hok, hpf]
  clear hmk hcv
  go_wp2_with fail
  refine Reg.wp_region_lists (fun W W' => Below W.heap.size W W') (bdV 2 raw sum n p w2.heap.size)
    [some 97, some 98, some 99, some 100, some 101, some 102, some 103, some 104, some 105, some 106, some 107, some 108, some 109, some 110, some 111, some 112, some 15]
    [[], [0], [1], [2], [], [4], [5], [3, 6], [], [8], [9, 6], [7, 10], [], [12], [13, 10], [11, 14], [15, 14, 0, 1, 2, 3, 4, 5, 6, 7, 8, 9, 10, 11, 12, 13, 14, 15]]
    (by kernel_rfl) (by kernel_rfl) (by kernel_rfl) (fun _ => Below.refl _ _) (fun _ _ _ h k => bstep h k) ?_ ?_ ?_
  · intro i v W W' h k
    unfold bdV at h ⊢
    split at h <;> first | exact h | (obtain ⟨b, e, hc⟩ := h; exact ⟨b, e, pw_cell_below k hc⟩)
  · refine ⟨?_, ?_, ?_, ?_, ?_, ?_, ?_, ?_, ?_, ?_, ?_, ?_, ?_, ?_, ?_, ?_, ?_, trivial⟩
    · intro vals W K hR hV hK
      simp only [Reg.putS, List.foldl, List.headD, List.tail, List.getD_cons_zero, List.getD_cons_succ, Act.put, List.setIfInBounds_toArray, List.set_cons_zero, List.set_cons_succ] at hK ⊢
      go_simp
      first
        | exact hK _ _ (Below.refl _ _) rfl
        | (rw [if_pos (by omega)]; exact hK _ _ (Below.refl _ _) rfl)
        | (rw [dif_pos (by omega)]; exact hK _ _ (Below.refl _ _) rfl)
        | (rw [if_neg (by omega)]; exact hK _ _ (Below.refl _ _) rfl)
    · intro vals W K hR hV hK
      have d0 := hV 0 (by simp)
      simp only [bdV] at d0
      simp only [Reg.putS, List.foldl, List.headD, List.tail, List.getD_cons_zero, List.getD_cons_succ, Act.put, List.setIfInBounds_toArray, List.set_cons_zero, List.set_cons_succ, d0] at hK ⊢
      go_simp
      first
        | exact hK _ _ (Below.refl _ _) rfl
        | (rw [if_pos (by omega)]; exact hK _ _ (Below.refl _ _) rfl)
        | (rw [dif_pos (by omega)]; exact hK _ _ (Below.refl _ _) rfl)
        | (rw [if_neg (by omega)]; exact hK _ _ (Below.refl _ _) rfl)
    · intro vals W K hR hV hK
      have d1 := hV 1 (by simp)
      simp only [bdV] at d1
      simp only [Reg.putS, List.foldl, List.headD, List.tail, List.getD_cons_zero, List.getD_cons_succ, Act.put, List.setIfInBounds_toArray, List.set_cons_zero, List.set_cons_succ, d1] at hK ⊢
      go_simp
      exact hK _ _ (balloc (Below.refl _ _) _) ⟨_, rfl, by simp⟩
    · intro vals W K hR hV hK
      have d2 := hV 2 (by simp)
      simp only [bdV] at d2
      obtain ⟨b, d2, hcell⟩ := d2
      simp only [Reg.putS, List.foldl, List.headD, List.tail, List.getD_cons_zero, List.getD_cons_succ, Act.put, List.setIfInBounds_toArray, List.set_cons_zero, List.set_cons_succ, d2] at hK ⊢
      have hcv := hcg W b hcell
      go_simp
      first
        | exact hK _ _ (Below.refl _ _) rfl
        | (rw [if_pos (by omega)]; exact hK _ _ (Below.refl _ _) rfl)
        | (rw [dif_pos (by omega)]; exact hK _ _ (Below.refl _ _) rfl)
        | (rw [if_neg (by omega)]; exact hK _ _ (Below.refl _ _) rfl)
    · intro vals W K hR hV hK
      simp only [Reg.putS, List.foldl, List.headD, List.tail, List.getD_cons_zero, List.getD_cons_succ, Act.put, List.setIfInBounds_toArray, List.set_cons_zero, List.set_cons_succ] at hK ⊢
      go_simp
      first
        | exact hK _ _ (Below.refl _ _) rfl
        | (rw [if_pos (by omega)]; exact hK _ _ (Below.refl _ _) rfl)
        | (rw [dif_pos (by omega)]; exact hK _ _ (Below.refl _ _) rfl)
        | (rw [if_neg (by omega)]; exact hK _ _ (Below.refl _ _) rfl)
    · intro vals W K hR hV hK
      have d4 := hV 4 (by simp)
      simp only [bdV] at d4
      simp only [Reg.putS, List.foldl, List.headD, List.tail, List.getD_cons_zero, List.getD_cons_succ, Act.put, List.setIfInBounds_toArray, List.set_cons_zero, List.set_cons_succ, d4] at hK ⊢
      go_simp
      first
        | exact hK _ _ (Below.refl _ _) rfl
        | (rw [if_pos (by omega)]; exact hK _ _ (Below.refl _ _) rfl)
        | (rw [dif_pos (by omega)]; exact hK _ _ (Below.refl _ _) rfl)
        | (rw [if_neg (by omega)]; exact hK _ _ (Below.refl _ _) rfl)
    · intro vals W K hR hV hK
      have d5 := hV 5 (by simp)
      simp only [bdV] at d5
      simp only [Reg.putS, List.foldl, List.headD, List.tail, List.getD_cons_zero, List.getD_cons_succ, Act.put, List.setIfInBounds_toArray, List.set_cons_zero, List.set_cons_succ, d5] at hK ⊢
      go_simp
      refine (refBig_call raw 2 _ (by omega) (by omega) (by omega)).mono ?_
      rintro e w2 ⟨rfl, hb⟩
      exact hK _ _ hb rfl
    · intro vals W K hR hV hK
      have d3 := hV 3 (by simp)
      simp only [bdV] at d3
      have d6 := hV 6 (by simp)
      simp only [bdV] at d6
      simp only [Reg.putS, List.foldl, List.headD, List.tail, List.getD_cons_zero, List.getD_cons_succ, Act.put, List.setIfInBounds_toArray, List.set_cons_zero, List.set_cons_succ, d3, d6] at hK ⊢
      go_simp
      first
        | exact hK _ _ (Below.refl _ _) rfl
        | (rw [if_pos (by omega)]; exact hK _ _ (Below.refl _ _) rfl)
        | (rw [dif_pos (by omega)]; exact hK _ _ (Below.refl _ _) rfl)
        | (rw [if_neg (by omega)]; exact hK _ _ (Below.refl _ _) rfl)
    · intro vals W K hR hV hK
      simp only [Reg.putS, List.foldl, List.headD, List.tail, List.getD_cons_zero, List.getD_cons_succ, Act.put, List.setIfInBounds_toArray, List.set_cons_zero, List.set_cons_succ] at hK ⊢
      go_simp
      first
        | exact hK _ _ (Below.refl _ _) rfl
        | (rw [if_pos (by omega)]; exact hK _ _ (Below.refl _ _) rfl)
        | (rw [dif_pos (by omega)]; exact hK _ _ (Below.refl _ _) rfl)
        | (rw [if_neg (by omega)]; exact hK _ _ (Below.refl _ _) rfl)
    · intro vals W K hR hV hK
      have d8 := hV 8 (by simp)
      simp only [bdV] at d8
      simp only [Reg.putS, List.foldl, List.headD, List.tail, List.getD_cons_zero, List.getD_cons_succ, Act.put, List.setIfInBounds_toArray, List.set_cons_zero, List.set_cons_succ, d8] at hK ⊢
      go_simp
      first
        | exact hK _ _ (Below.refl _ _) rfl
        | (rw [if_pos (by omega)]; exact hK _ _ (Below.refl _ _) rfl)
        | (rw [dif_pos (by omega)]; exact hK _ _ (Below.refl _ _) rfl)
        | (rw [if_neg (by omega)]; exact hK _ _ (Below.refl _ _) rfl)
    · intro vals W K hR hV hK
      have d6 := hV 6 (by simp)
      simp only [bdV] at d6
      have d9 := hV 9 (by simp)
      simp only [bdV] at d9
      simp only [Reg.putS, List.foldl, List.headD, List.tail, List.getD_cons_zero, List.getD_cons_succ, Act.put, List.setIfInBounds_toArray, List.set_cons_zero, List.set_cons_succ, d6, d9] at hK ⊢
      go_simp
      refine (refBig_call (n : Int) 2 _ (by omega) (by omega) (by omega)).mono ?_
      rintro e w2 ⟨rfl, hb⟩
      exact hK _ _ hb rfl
    · intro vals W K hR hV hK
      have d7 := hV 7 (by simp)
      simp only [bdV] at d7
      have d10 := hV 10 (by simp)
      simp only [bdV] at d10
      simp only [Reg.putS, List.foldl, List.headD, List.tail, List.getD_cons_zero, List.getD_cons_succ, Act.put, List.setIfInBounds_toArray, List.set_cons_zero, List.set_cons_succ, d7, d10] at hK ⊢
      go_simp
      first
        | exact hK _ _ (Below.refl _ _) rfl
        | (rw [if_pos (by omega)]; exact hK _ _ (Below.refl _ _) rfl)
        | (rw [dif_pos (by omega)]; exact hK _ _ (Below.refl _ _) rfl)
        | (rw [if_neg (by omega)]; exact hK _ _ (Below.refl _ _) rfl)
    · intro vals W K hR hV hK
      simp only [Reg.putS, List.foldl, List.headD, List.tail, List.getD_cons_zero, List.getD_cons_succ, Act.put, List.setIfInBounds_toArray, List.set_cons_zero, List.set_cons_succ] at hK ⊢
      go_simp
      first
        | exact hK _ _ (Below.refl _ _) rfl
        | (rw [if_pos (by omega)]; exact hK _ _ (Below.refl _ _) rfl)
        | (rw [dif_pos (by omega)]; exact hK _ _ (Below.refl _ _) rfl)
        | (rw [if_neg (by omega)]; exact hK _ _ (Below.refl _ _) rfl)
    · intro vals W K hR hV hK
      have d12 := hV 12 (by simp)
      simp only [bdV] at d12
      simp only [Reg.putS, List.foldl, List.headD, List.tail, List.getD_cons_zero, List.getD_cons_succ, Act.put, List.setIfInBounds_toArray, List.set_cons_zero, List.set_cons_succ, d12] at hK ⊢
      go_simp
      first
        | exact hK _ _ (Below.refl _ _) rfl
        | (rw [if_pos (by omega)]; exact hK _ _ (Below.refl _ _) rfl)
        | (rw [dif_pos (by omega)]; exact hK _ _ (Below.refl _ _) rfl)
        | (rw [if_neg (by omega)]; exact hK _ _ (Below.refl _ _) rfl)
    · intro vals W K hR hV hK
      have d10 := hV 10 (by simp)
      simp only [bdV] at d10
      have d13 := hV 13 (by simp)
      simp only [bdV] at d13
      simp only [Reg.putS, List.foldl, List.headD, List.tail, List.getD_cons_zero, List.getD_cons_succ, Act.put, List.setIfInBounds_toArray, List.set_cons_zero, List.set_cons_succ, d10, d13] at hK ⊢
      go_simp
      refine (refBig_call sum 4 _ (by omega) (by omega) (by omega)).mono ?_
      rintro e w2 ⟨rfl, hb⟩
      exact hK _ _ hb rfl
    · intro vals W K hR hV hK
      have d11 := hV 11 (by simp)
      simp only [bdV] at d11
      have d14 := hV 14 (by simp)
      simp only [bdV] at d14
      simp only [Reg.putS, List.foldl, List.headD, List.tail, List.getD_cons_zero, List.getD_cons_succ, Act.put, List.setIfInBounds_toArray, List.set_cons_zero, List.set_cons_succ, d11, d14] at hK ⊢
      go_simp
      first
        | exact hK _ _ (Below.refl _ _) rfl
        | (rw [if_pos (by omega)]; exact hK _ _ (Below.refl _ _) rfl)
        | (rw [dif_pos (by omega)]; exact hK _ _ (Below.refl _ _) rfl)
        | (rw [if_neg (by omega)]; exact hK _ _ (Below.refl _ _) rfl)
    · intro vals W K hR hV hK
      have d0 := hV 0 (by simp)
      simp only [bdV] at d0
      have d1 := hV 1 (by simp)
      simp only [bdV] at d1
      have d2 := hV 2 (by simp)
      simp only [bdV] at d2
      obtain ⟨b, d2, hcell⟩ := d2
      have d3 := hV 3 (by simp)
      simp only [bdV] at d3
      have d4 := hV 4 (by simp)
      simp only [bdV] at d4
      have d5 := hV 5 (by simp)
      simp only [bdV] at d5
      have d6 := hV 6 (by simp)
      simp only [bdV] at d6
      have d7 := hV 7 (by simp)
      simp only [bdV] at d7
      have d8 := hV 8 (by simp)
      simp only [bdV] at d8
      have d9 := hV 9 (by simp)
      simp only [bdV] at d9
      have d10 := hV 10 (by simp)
      simp only [bdV] at d10
      have d11 := hV 11 (by simp)
      simp only [bdV] at d11
      have d12 := hV 12 (by simp)
      simp only [bdV] at d12
      have d13 := hV 13 (by simp)
      simp only [bdV] at d13
      have d14 := hV 14 (by simp)
      simp only [bdV] at d14
      have d15 := hV 15 (by simp)
      simp only [bdV] at d15
      simp only [Reg.putS, List.foldl, List.headD, List.tail, List.getD_cons_zero, List.getD_cons_succ, Act.put, List.setIfInBounds_toArray, List.set_cons_zero, List.set_cons_succ, d0, d1, d2, d3, d4, d5, d6, d7, d8, d9, d10, d11, d12, d13, d14, d15] at hK ⊢
      go_simp
      first
        | exact hK _ _ (Below.refl _ _) rfl
        | (rw [if_pos (by omega)]; exact hK _ _ (Below.refl _ _) rfl)
        | (rw [dif_pos (by omega)]; exact hK _ _ (Below.refl _ _) rfl)
        | (rw [if_neg (by omega)]; exact hK _ _ (Below.refl _ _) rfl)
  · intro vals W hR hV
    rw [show List.range (List.length [some 97, some 98, some 99, some 100, some 101, some 102, some 103, some 104, some 105, some 106, some 107, some 108, some 109, some 110, some 111, some 112, some 15]) = [0, 1, 2, 3, 4, 5, 6, 7, 8, 9, 10, 11, 12, 13, 14, 15, 16] from rfl]
    have d0 := hV 0 (by decide)
    simp only [bdV] at d0
    have d1 := hV 1 (by decide)
    simp only [bdV] at d1
    have d2 := hV 2 (by decide)
    simp only [bdV] at d2
    obtain ⟨b, d2, hcell⟩ := d2
    have d3 := hV 3 (by decide)
    simp only [bdV] at d3
    have d4 := hV 4 (by decide)
    simp only [bdV] at d4
    have d5 := hV 5 (by decide)
    simp only [bdV] at d5
    have d6 := hV 6 (by decide)
    simp only [bdV] at d6
    have d7 := hV 7 (by decide)
    simp only [bdV] at d7
    have d8 := hV 8 (by decide)
    simp only [bdV] at d8
    have d9 := hV 9 (by decide)
    simp only [bdV] at d9
    have d10 := hV 10 (by decide)
    simp only [bdV] at d10
    have d11 := hV 11 (by decide)
    simp only [bdV] at d11
    have d12 := hV 12 (by decide)
    simp only [bdV] at d12
    have d13 := hV 13 (by decide)
    simp only [bdV] at d13
    have d14 := hV 14 (by decide)
    simp only [bdV] at d14
    have d15 := hV 15 (by decide)
    simp only [bdV] at d15
    have d16 := hV 16 (by decide)
    simp only [bdV] at d16
    clear hV
    simp only [Reg.putS, List.foldl, List.getD_cons_zero, List.getD_cons_succ, Act.put, List.setIfInBounds_toArray, List.set_cons_zero, List.set_cons_succ, d0, d1, d2, d3, d4, d5, d6, d7, d8, d9, d10, d11, d12, d13, d14, d15, d16]
    clear d0 d1 d2 d3 d4 d5 d6 d7 d8 d9 d10 d11 d12 d13 d14 d15 d16
    replace bel := bstep (below_drew bel) hR
    replace f0 := pw_cell_below hR f0
    replace f1 := pw_cell_below hR f1
    replace f2 := pw_cell_below hR f2
    replace f3 := pw_cell_below hR f3
    clear hR
    go_wp2_with fail
    refine (fget_any (headB p raw n sum) bs _ (by omega)).mono ?_
    rintro e w3 ⟨rfl, hb3⟩
    replace f0 := pw_cell_below hb3 f0
    replace f1 := pw_cell_below hb3 f1
    replace f2 := pw_cell_below hb3 f2
    replace f3 := pw_cell_below hb3 f3
    replace bel := bstep bel hb3
    simp only [getOut, frameAgg, hqe]
    have y0 : (w3.alloc (.cells #[.int .i64 0, .int .i64 0, .int .u32 0, .string ⟨#[]⟩] 58)).cell? ⟨w3.heap.size, 0, none⟩ = some (.int .i64 0) := by simp
    have y1 : (w3.alloc (.cells #[.int .i64 0, .int .i64 0, .int .u32 0, .string ⟨#[]⟩] 58)).cell? ⟨w3.heap.size, 1, none⟩ = some (.int .i64 0) := by simp
    have y2 : (w3.alloc (.cells #[.int .i64 0, .int .i64 0, .int .u32 0, .string ⟨#[]⟩] 58)).cell? ⟨w3.heap.size, 2, none⟩ = some (.int .u32 0) := by simp
    have y3 : (w3.alloc (.cells #[.int .i64 0, .int .i64 0, .int .u32 0, .string ⟨#[]⟩] 58)).cell? ⟨w3.heap.size, 3, none⟩ = some (.string ⟨#[]⟩) := by simp
    have f0n := pw_cell_below (balloc (Below.refl w3.heap.size w3) (.cells #[.int .i64 0, .int .i64 0, .int .u32 0, .string ⟨#[]⟩] 58)) f0
    have f1n := pw_cell_below (balloc (Below.refl w3.heap.size w3) (.cells #[.int .i64 0, .int .i64 0, .int .u32 0, .string ⟨#[]⟩] 58)) f1
    have f2n := pw_cell_below (balloc (Below.refl w3.heap.size w3) (.cells #[.int .i64 0, .int .i64 0, .int .u32 0, .string ⟨#[]⟩] 58)) f2
    have f3n := pw_cell_below (balloc (Below.refl w3.heap.size w3) (.cells #[.int .i64 0, .int .i64 0, .int .u32 0, .string ⟨#[]⟩] 58)) f3
    have beln := bstep bel (balloc (Below.refl w3.heap.size w3) (.cells #[.int .i64 0, .int .i64 0, .int .u32 0, .string ⟨#[]⟩] 58))
    go_wp2_with fail
    refine (fget_any (headB p raw n sum ++ zs) bs _ (by rw [ByteArray.size_append]; omega)).mono ?_
    rintro e w4 ⟨rfl, hb4⟩
    replace f0 := pw_cell_below hb4 f0n
    clear f0n
    replace f1 := pw_cell_below hb4 f1n
    clear f1n
    replace f2 := pw_cell_below hb4 f2n
    clear f2n
    replace f3 := pw_cell_below hb4 f3n
    clear f3n
    replace y0 := pw_cell_below hb4 y0
    replace y1 := pw_cell_below hb4 y1
    replace y2 := pw_cell_below hb4 y2
    replace y3 := pw_cell_below hb4 y3
    replace bel := bstep beln hb4
    clear beln
    simp only [getOut, frameAgg, hqh]
    have z0 : (w4.alloc (.cells #[.int .i64 0, .int .i64 0, .int .u32 0, .string ⟨#[]⟩] 58)).cell? ⟨w4.heap.size, 0, none⟩ = some (.int .i64 0) := by simp
    have z1 : (w4.alloc (.cells #[.int .i64 0, .int .i64 0, .int .u32 0, .string ⟨#[]⟩] 58)).cell? ⟨w4.heap.size, 1, none⟩ = some (.int .i64 0) := by simp
    have z2 : (w4.alloc (.cells #[.int .i64 0, .int .i64 0, .int .u32 0, .string ⟨#[]⟩] 58)).cell? ⟨w4.heap.size, 2, none⟩ = some (.int .u32 0) := by simp
    have z3 : (w4.alloc (.cells #[.int .i64 0, .int .i64 0, .int .u32 0, .string ⟨#[]⟩] 58)).cell? ⟨w4.heap.size, 3, none⟩ = some (.string ⟨#[]⟩) := by simp
    have f0n := pw_cell_below (balloc (Below.refl w4.heap.size w4) (.cells #[.int .i64 0, .int .i64 0, .int .u32 0, .string ⟨#[]⟩] 58)) f0
    have f1n := pw_cell_below (balloc (Below.refl w4.heap.size w4) (.cells #[.int .i64 0, .int .i64 0, .int .u32 0, .string ⟨#[]⟩] 58)) f1
    have f2n := pw_cell_below (balloc (Below.refl w4.heap.size w4) (.cells #[.int .i64 0, .int .i64 0, .int .u32 0, .string ⟨#[]⟩] 58)) f2
    have f3n := pw_cell_below (balloc (Below.refl w4.heap.size w4) (.cells #[.int .i64 0, .int .i64 0, .int .u32 0, .string ⟨#[]⟩] 58)) f3
    have y0n := pw_cell_below (balloc (Below.refl w4.heap.size w4) (.cells #[.int .i64 0, .int .i64 0, .int .u32 0, .string ⟨#[]⟩] 58)) y0
    have y1n := pw_cell_below (balloc (Below.refl w4.heap.size w4) (.cells #[.int .i64 0, .int .i64 0, .int .u32 0, .string ⟨#[]⟩] 58)) y1
    have y2n := pw_cell_below (balloc (Below.refl w4.heap.size w4) (.cells #[.int .i64 0, .int .i64 0, .int .u32 0, .string ⟨#[]⟩] 58)) y2
    have y3n := pw_cell_below (balloc (Below.refl w4.heap.size w4) (.cells #[.int .i64 0, .int .i64 0, .int .u32 0, .string ⟨#[]⟩] 58)) y3
    have beln := bstep bel (balloc (Below.refl w4.heap.size w4) (.cells #[.int .i64 0, .int .i64 0, .int .u32 0, .string ⟨#[]⟩] 58))
    go_wp2_with fail
    go_returns
    exact ⟨rfl, beln⟩
set_option maxRecDepth 20000 in
set_option maxHeartbeats 2000000 in
theorem bounds_n2_1 (raw bs sum : Int) (n : Nat) (w : World) (hk : (1 : Int) = 1 ∨ (1 : Int) = 2) (h0 : ¬ raw < 0) (h1 : ¬ 65535 < raw) (h3 : n ≤ 2000) (h4 : ¬ bs < 1) (h5 : ¬ 2000 < bs) (hsu : 0 ≤ sum ∧ sum < 4294967296) (h6 : 1024 < raw) :
    Calls Try.prog 18 #[.int .i64 1, .int .i64 raw, .int .i64 (n : Int), .int .i64 bs, .int .u32 sum] w fun e w' => e = .returned (.bool true) ∧ Below w.heap.size w w' := by
  have hbs := bigS_size
  obtain ⟨p, hp⟩ : ∃ p, p = strOfNums [1] := ⟨_, rfl⟩
  have hps : p.size = 1 := by rw [hp]; rfl
  have hcg : ∀ (W : World) (b : Nat), W.cell? ⟨b, 0, none⟩ = some (.int .u8 1) → (convert 32 9 (.slice (some ⟨b, 0, none⟩) 1 1)).run Try.prog W = .ok (.string p) W := fun W b h => by rw [hp]; exact conv1 W b 1 h
  obtain ⟨zs, hzd⟩ : ∃ zs, zs = CrcN.zeroS n := ⟨_, rfl⟩
  have hzz : zs.size = n := by rw [hzd]; exact zero_size n
  have hcz : ∀ (W : World) (b : Nat), (∀ j, j < n → W.cell? ⟨b, j, none⟩ = some (.int .u8 0)) → (convert 32 9 (.slice (some ⟨b, 0, none⟩) n n)).run Try.prog W = .ok (.string zs) W := fun W b h => by rw [hzd]; exact CrcN.conv_n W b n h
  clear hzd
  have hB : (headB p raw n sum).size = 9 := by unfold headB; simp only [ByteArray.size_append, bigS_size, hps]
  have hla : (headB p raw n sum).size + zs.size ≤ maxLen := by rw [hB, hzz]; unfold maxLen; omega
  have hla2 : 9 + n ≤ maxLen := by unfold maxLen; omega
  have hla3 : 9 + zs.size ≤ maxLen := by rw [hzz]; unfold maxLen; omega
  have hwk : IntKind.u8.wrap 1 = 1 := by rfl
  have hwr : IntKind.u64.wrap raw = raw := by rw [show raw = ((raw.toNat : Nat) : Int) by omega]; exact wrap64u _ (by omega)
  have hwn : IntKind.u64.wrap (n : Int) = (n : Int) := wrap64u _ (by omega)
  have hws : IntKind.u64.wrap sum = sum := by rw [show sum = ((sum.toNat : Nat) : Int) by omega]; exact wrap64u _ (by omega)
  have hw9 : IntKind.i64.wrap (9 + (n : Int)) = 9 + (n : Int) := by rw [IntKind.wrap_i64]; omega
  have x1 : decide (raw < 0) = false := by simp <;> omega
  have x2 : decide (raw > 65535) = false := by simp <;> omega
  have x3 : decide ((n : Int) < 0) = false := by simp <;> omega
  have x4 : decide ((n : Int) > 2000) = false := by simp <;> omega
  have x5 : decide (bs < 1) = false := by simp <;> omega
  have x6 : decide (bs > 2000) = false := by simp <;> omega
  have y1 : decide (raw ≥ 1) = true := by simp <;> omega
  have y2 : decide (raw ≤ 1024) = false := by simp <;> omega
  have hfit : fitsB 1 raw zs.size 1024 = false := by rw [hzz]; unfold fitsB; simp; omega
  have hok : ¬ okF 1 raw sum zs := no_block (by omega) hfit
  have hpf : putF 1 raw sum zs = ⟨#[]⟩ := by unfold putF; rw [if_neg hok]
  have hqe := getB_no 1 raw sum bs n ⟨#[]⟩ hk (by omega) (by omega) hsu (.inr (by rw [← hzz]; exact hfit))
  have hqh := getB_no 1 raw sum bs n zs hk (by omega) (by omega) hsu (.inr (by rw [← hzz]; exact hfit))
  rw [← hp] at hqe hqh
  rw [app_empty] at hqe
  clear hp
  have bel : Below w.heap.size w w := Below.refl _ _
  go_enter Try.func18, Try.ntmps18
  go_wp2_with fail
  refine (alive_call _).mono ?_
  rintro e w1 ⟨rfl, hb1⟩
  replace bel := bstep bel hb1
  have hmk := CrcN.make_n w1 n (by omega)
  have hcv := hcz (w1.alloc (.cells (madeCells #[Value.int .u8 0] n) 5)) w1.heap.size (CrcN.made_cells w1 n)
  replace bel := bstep bel (balloc (Below.refl w1.heap.size w1) (.cells (madeCells #[Value.int .u8 0] n) 5))
  have f0 : ((w1.alloc (.cells (madeCells #[Value.int .u8 0] n) 5)).alloc (.cells #[.int .i64 1, .int .i64 raw, .int .u32 sum, .string zs] 58)).cell? ⟨w1.heap.size + 1, 0, none⟩ = some (.int .i64 1) := by simp
  have f1 : ((w1.alloc (.cells (madeCells #[Value.int .u8 0] n) 5)).alloc (.cells #[.int .i64 1, .int .i64 raw, .int .u32 sum, .string zs] 58)).cell? ⟨w1.heap.size + 1, 1, none⟩ = some (.int .i64 raw) := by simp
  have f2 : ((w1.alloc (.cells (madeCells #[Value.int .u8 0] n) 5)).alloc (.cells #[.int .i64 1, .int .i64 raw, .int .u32 sum, .string zs] 58)).cell? ⟨w1.heap.size + 1, 2, none⟩ = some (.int .u32 sum) := by simp
  have f3 : ((w1.alloc (.cells (madeCells #[Value.int .u8 0] n) 5)).alloc (.cells #[.int .i64 1, .int .i64 raw, .int .u32 sum, .string zs] 58)).cell? ⟨w1.heap.size + 1, 3, none⟩ = some (.string zs) := by simp
  replace bel := bstep bel (balloc (Below.refl (w1.alloc (.cells (madeCells #[Value.int .u8 0] n) 5)).heap.size (w1.alloc (.cells (madeCells #[Value.int .u8 0] n) 5))) (.cells #[.int .i64 1, .int .i64 raw, .int .u32 sum, .string zs] 58))
  go_wp2_with fail
  refine (put_any 1 raw sum zs _ hsu).mono ?_
  rintro e w2 ⟨rfl, hb2⟩
  replace f0 := pw_cell_below hb2 f0
  replace f1 := pw_cell_below hb2 f1
  replace f2 := pw_cell_below hb2 f2
  replace f3 := pw_cell_below hb2 f3
  replace bel := bstep bel hb2
  rw [decide_eq_false hok, hpf]
  clear hmk hcv
  go_wp2_with fail
  refine Reg.wp_region_lists (fun W W' => Below W.heap.size W W') (bdV 1 raw sum n p w2.heap.size)
    [some 97, some 98, some 99, some 100, some 101, some 102, some 103, some 104, some 105, some 106, some 107, some 108, some 109, some 110, some 111, some 112, some 15]
    [[], [0], [1], [2], [], [4], [5], [3, 6], [], [8], [9, 6], [7, 10], [], [12], [13, 10], [11, 14], [15, 14, 0, 1, 2, 3, 4, 5, 6, 7, 8, 9, 10, 11, 12, 13, 14, 15]]
    (by kernel_rfl) (by kernel_rfl) (by kernel_rfl) (fun _ => Below.refl _ _) (fun _ _ _ h k => bstep h k) ?_ ?_ ?_
  · intro i v W W' h k
    unfold bdV at h ⊢
    split at h <;> first | exact h | (obtain ⟨b, e, hc⟩ := h; exact ⟨b, e, pw_cell_below k hc⟩)
  · refine ⟨?_, ?_, ?_, ?_, ?_, ?_, ?_, ?_, ?_, ?_, ?_, ?_, ?_, ?_, ?_, ?_, ?_, trivial⟩
    · intro vals W K hR hV hK
      simp only [Reg.putS, List.foldl, List.headD, List.tail, List.getD_cons_zero, List.getD_cons_succ, Act.put, List.setIfInBounds_toArray, List.set_cons_zero, List.set_cons_succ] at hK ⊢
      go_simp
      first
        | exact hK _ _ (Below.refl _ _) rfl
        | (rw [if_pos (by omega)]; exact hK _ _ (Below.refl _ _) rfl)
        | (rw [dif_pos (by omega)]; exact hK _ _ (Below.refl _ _) rfl)
        | (rw [if_neg (by omega)]; exact hK _ _ (Below.refl _ _) rfl)
    · intro vals W K hR hV hK
      have d0 := hV 0 (by simp)
      simp only [bdV] at d0
      simp only [Reg.putS, List.foldl, List.headD, List.tail, List.getD_cons_zero, List.getD_cons_succ, Act.put, List.setIfInBounds_toArray, List.set_cons_zero, List.set_cons_succ, d0] at hK ⊢
      go_simp
      first
        | exact hK _ _ (Below.refl _ _) rfl
        | (rw [if_pos (by omega)]; exact hK _ _ (Below.refl _ _) rfl)
        | (rw [dif_pos (by omega)]; exact hK _ _ (Below.refl _ _) rfl)
        | (rw [if_neg (by omega)]; exact hK _ _ (Below.refl _ _) rfl)
    · intro vals W K hR hV hK
      have d1 := hV 1 (by simp)
      simp only [bdV] at d1
      simp only [Reg.putS, List.foldl, List.headD, List.tail, List.getD_cons_zero, List.getD_cons_succ, Act.put, List.setIfInBounds_toArray, List.set_cons_zero, List.set_cons_succ, d1] at hK ⊢
      go_simp
      exact hK _ _ (balloc (Below.refl _ _) _) ⟨_, rfl, by simp⟩
    · intro vals W K hR hV hK
      have d2 := hV 2 (by simp)
      simp only [bdV] at d2
      obtain ⟨b, d2, hcell⟩ := d2
      simp only [Reg.putS, List.foldl, List.headD, List.tail, List.getD_cons_zero, List.getD_cons_succ, Act.put, List.setIfInBounds_toArray, List.set_cons_zero, List.set_cons_succ, d2] at hK ⊢
      have hcv := hcg W b hcell
      go_simp
      first
        | exact hK _ _ (Below.refl _ _) rfl
        | (rw [if_pos (by omega)]; exact hK _ _ (Below.refl _ _) rfl)
        | (rw [dif_pos (by omega)]; exact hK _ _ (Below.refl _ _) rfl)
        | (rw [if_neg (by omega)]; exact hK _ _ (Below.refl _ _) rfl)
    · intro vals W K hR hV hK
      simp only [Reg.putS, List.foldl, List.headD, List.tail, List.getD_cons_zero, List.getD_cons_succ, Act.put, List.setIfInBounds_toArray, List.set_cons_zero, List.set_cons_succ] at hK ⊢
      go_simp
      first
        | exact hK _ _ (Below.refl _ _) rfl
        | (rw [if_pos (by omega)]; exact hK _ _ (Below.refl _ _) rfl)
        | (rw [dif_pos (by omega)]; exact hK _ _ (Below.refl _ _) rfl)
        | (rw [if_neg (by omega)]; exact hK _ _ (Below.refl _ _) rfl)
    · intro vals W K hR hV hK
      have d4 := hV 4 (by simp)
      simp only [bdV] at d4
      simp only [Reg.putS, List.foldl, List.headD, List.tail, List.getD_cons_zero, List.getD_cons_succ, Act.put, List.setIfInBounds_toArray, List.set_cons_zero, List.set_cons_succ, d4] at hK ⊢
      go_simp
      first
        | exact hK _ _ (Below.refl _ _) rfl
        | (rw [if_pos (by omega)]; exact hK _ _ (Below.refl _ _) rfl)
        | (rw [dif_pos (by omega)]; exact hK _ _ (Below.refl _ _) rfl)
        | (rw [if_neg (by omega)]; exact hK _ _ (Below.refl _ _) rfl)
    · intro vals W K hR hV hK
      have d5 := hV 5 (by simp)
      simp only [bdV] at d5
      simp only [Reg.putS, List.foldl, List.headD, List.tail, List.getD_cons_zero, List.getD_cons_succ, Act.put, List.setIfInBounds_toArray, List.set_cons_zero, List.set_cons_succ, d5] at hK ⊢
      go_simp
      refine (refBig_call raw 2 _ (by omega) (by omega) (by omega)).mono ?_
      rintro e w2 ⟨rfl, hb⟩
      exact hK _ _ hb rfl
    · intro vals W K hR hV hK
      have d3 := hV 3 (by simp)
      simp only [bdV] at d3
      have d6 := hV 6 (by simp)
      simp only [bdV] at d6
      simp only [Reg.putS, List.foldl, List.headD, List.tail, List.getD_cons_zero, List.getD_cons_succ, Act.put, List.setIfInBounds_toArray, List.set_cons_zero, List.set_cons_succ, d3, d6] at hK ⊢
      go_simp
      first
        | exact hK _ _ (Below.refl _ _) rfl
        | (rw [if_pos (by omega)]; exact hK _ _ (Below.refl _ _) rfl)
        | (rw [dif_pos (by omega)]; exact hK _ _ (Below.refl _ _) rfl)
        | (rw [if_neg (by omega)]; exact hK _ _ (Below.refl _ _) rfl)
    · intro vals W K hR hV hK
      simp only [Reg.putS, List.foldl, List.headD, List.tail, List.getD_cons_zero, List.getD_cons_succ, Act.put, List.setIfInBounds_toArray, List.set_cons_zero, List.set_cons_succ] at hK ⊢
      go_simp
      first
        | exact hK _ _ (Below.refl _ _) rfl
        | (rw [if_pos (by omega)]; exact hK _ _ (Below.refl _ _) rfl)
        | (rw [dif_pos (by omega)]; exact hK _ _ (Below.refl _ _) rfl)
        | (rw [if_neg (by omega)]; exact hK _ _ (Below.refl _ _) rfl)
    · intro vals W K hR hV hK
      have d8 := hV 8 (by simp)
      simp only [bdV] at d8
      simp only [Reg.putS, List.foldl, List.headD, List.tail, List.getD_cons_zero, List.getD_cons_succ, Act.put, List.setIfInBounds_toArray, List.set_cons_zero, List.set_cons_succ, d8] at hK ⊢
      go_simp
      first
        | exact hK _ _ (Below.refl _ _) rfl
        | (rw [if_pos (by omega)]; exact hK _ _ (Below.refl _ _) rfl)
        | (rw [dif_pos (by omega)]; exact hK _ _ (Below.refl _ _) rfl)
        | (rw [if_neg (by omega)]; exact hK _ _ (Below.refl _ _) rfl)
    · intro vals W K hR hV hK
      have d6 := hV 6 (by simp)
      simp only [bdV] at d6
      have d9 := hV 9 (by simp)
      simp only [bdV] at d9
      simp only [Reg.putS, List.foldl, List.headD, List.tail, List.getD_cons_zero, List.getD_cons_succ, Act.put, List.setIfInBounds_toArray, List.set_cons_zero, List.set_cons_succ, d6, d9] at hK ⊢
      go_simp
      refine (refBig_call (n : Int) 2 _ (by omega) (by omega) (by omega)).mono ?_
      rintro e w2 ⟨rfl, hb⟩
      exact hK _ _ hb rfl
    · intro vals W K hR hV hK
      have d7 := hV 7 (by simp)
      simp only [bdV] at d7
      have d10 := hV 10 (by simp)
      simp only [bdV] at d10
      simp only [Reg.putS, List.foldl, List.headD, List.tail, List.getD_cons_zero, List.getD_cons_succ, Act.put, List.setIfInBounds_toArray, List.set_cons_zero, List.set_cons_succ, d7, d10] at hK ⊢
      go_simp
      first
        | exact hK _ _ (Below.refl _ _) rfl
        | (rw [if_pos (by omega)]; exact hK _ _ (Below.refl _ _) rfl)
        | (rw [dif_pos (by omega)]; exact hK _ _ (Below.refl _ _) rfl)
        | (rw [if_neg (by omega)]; exact hK _ _ (Below.refl _ _) rfl)
    · intro vals W K hR hV hK
      simp only [Reg.putS, List.foldl, List.headD, List.tail, List.getD_cons_zero, List.getD_cons_succ, Act.put, List.setIfInBounds_toArray, List.set_cons_zero, List.set_cons_succ] at hK ⊢
      go_simp
      first
        | exact hK _ _ (Below.refl _ _) rfl
        | (rw [if_pos (by omega)]; exact hK _ _ (Below.refl _ _) rfl)
        | (rw [dif_pos (by omega)]; exact hK _ _ (Below.refl _ _) rfl)
        | (rw [if_neg (by omega)]; exact hK _ _ (Below.refl _ _) rfl)
    · intro vals W K hR hV hK
      have d12 := hV 12 (by simp)
      simp only [bdV] at d12
      simp only [Reg.putS, List.foldl, List.headD, List.tail, List.getD_cons_zero, List.getD_cons_succ, Act.put, List.setIfInBounds_toArray, List.set_cons_zero, List.set_cons_succ, d12] at hK ⊢
      go_simp
      first
        | exact hK _ _ (Below.refl _ _) rfl
        | (rw [if_pos (by omega)]; exact hK _ _ (Below.refl _ _) rfl)
        | (rw [dif_pos (by omega)]; exact hK _ _ (Below.refl _ _) rfl)
        | (rw [if_neg (by omega)]; exact hK _ _ (Below.refl _ _) rfl)
    · intro vals W K hR hV hK
      have d10 := hV 10 (by simp)
      simp only [bdV] at d10
      have d13 := hV 13 (by simp)
      simp only [bdV] at d13
      simp only [Reg.putS, List.foldl, List.headD, List.tail, List.getD_cons_zero, List.getD_cons_succ, Act.put, List.setIfInBounds_toArray, List.set_cons_zero, List.set_cons_succ, d10, d13] at hK ⊢
      go_simp
      refine (refBig_call sum 4 _ (by omega) (by omega) (by omega)).mono ?_
      rintro e w2 ⟨rfl, hb⟩
      exact hK _ _ hb rfl
    · intro vals W K hR hV hK
      have d11 := hV 11 (by simp)
      simp only [bdV] at d11
      have d14 := hV 14 (by simp)
      simp only [bdV] at d14
      simp only [Reg.putS, List.foldl, List.headD, List.tail, List.getD_cons_zero, List.getD_cons_succ, Act.put, List.setIfInBounds_toArray, List.set_cons_zero, List.set_cons_succ, d11, d14] at hK ⊢
      go_simp
      first
        | exact hK _ _ (Below.refl _ _) rfl
        | (rw [if_pos (by omega)]; exact hK _ _ (Below.refl _ _) rfl)
        | (rw [dif_pos (by omega)]; exact hK _ _ (Below.refl _ _) rfl)
        | (rw [if_neg (by omega)]; exact hK _ _ (Below.refl _ _) rfl)
    · intro vals W K hR hV hK
      have d0 := hV 0 (by simp)
      simp only [bdV] at d0
      have d1 := hV 1 (by simp)
      simp only [bdV] at d1
      have d2 := hV 2 (by simp)
      simp only [bdV] at d2
      obtain ⟨b, d2, hcell⟩ := d2
      have d3 := hV 3 (by simp)
      simp only [bdV] at d3
      have d4 := hV 4 (by simp)
      simp only [bdV] at d4
      have d5 := hV 5 (by simp)
      simp only [bdV] at d5
      have d6 := hV 6 (by simp)
      simp only [bdV] at d6
      have d7 := hV 7 (by simp)
      simp only [bdV] at d7
      have d8 := hV 8 (by simp)
      simp only [bdV] at d8
      have d9 := hV 9 (by simp)
      simp only [bdV] at d9
      have d10 := hV 10 (by simp)
      simp only [bdV] at d10
      have d11 := hV 11 (by simp)
      simp only [bdV] at d11
      have d12 := hV 12 (by simp)
      simp only [bdV] at d12
      have d13 := hV 13 (by simp)
      simp only [bdV] at d13
      have d14 := hV 14 (by simp)
      simp only [bdV] at d14
      have d15 := hV 15 (by simp)
      simp only [bdV] at d15
      simp only [Reg.putS, List.foldl, List.headD, List.tail, List.getD_cons_zero, List.getD_cons_succ, Act.put, List.setIfInBounds_toArray, List.set_cons_zero, List.set_cons_succ, d0, d1, d2, d3, d4, d5, d6, d7, d8, d9, d10, d11, d12, d13, d14, d15] at hK ⊢
      go_simp
      first
        | exact hK _ _ (Below.refl _ _) rfl
        | (rw [if_pos (by omega)]; exact hK _ _ (Below.refl _ _) rfl)
        | (rw [dif_pos (by omega)]; exact hK _ _ (Below.refl _ _) rfl)
        | (rw [if_neg (by omega)]; exact hK _ _ (Below.refl _ _) rfl)
  · intro vals W hR hV
    rw [show List.range (List.length [some 97, some 98, some 99, some 100, some 101, some 102, some 103, some 104, some 105, some 106, some 107, some 108, some 109, some 110, some 111, some 112, some 15]) = [0, 1, 2, 3, 4, 5, 6, 7, 8, 9, 10, 11, 12, 13, 14, 15, 16] from rfl]
    have d0 := hV 0 (by decide)
    simp only [bdV] at d0
    have d1 := hV 1 (by decide)
    simp only [bdV] at d1
    have d2 := hV 2 (by decide)
    simp only [bdV] at d2
    obtain ⟨b, d2, hcell⟩ := d2
    have d3 := hV 3 (by decide)
    simp only [bdV] at d3
    have d4 := hV 4 (by decide)
    simp only [bdV] at d4
    have d5 := hV 5 (by decide)
    simp only [bdV] at d5
    have d6 := hV 6 (by decide)
    simp only [bdV] at d6
    have d7 := hV 7 (by decide)
    simp only [bdV] at d7
    have d8 := hV 8 (by decide)
    simp only [bdV] at d8
    have d9 := hV 9 (by decide)
    simp only [bdV] at d9
    have d10 := hV 10 (by decide)
    simp only [bdV] at d10
    have d11 := hV 11 (by decide)
    simp only [bdV] at d11
    have d12 := hV 12 (by decide)
    simp only [bdV] at d12
    have d13 := hV 13 (by decide)
    simp only [bdV] at d13
    have d14 := hV 14 (by decide)
    simp only [bdV] at d14
    have d15 := hV 15 (by decide)
    simp only [bdV] at d15
    have d16 := hV 16 (by decide)
    simp only [bdV] at d16
    clear hV
    simp only [Reg.putS, List.foldl, List.getD_cons_zero, List.getD_cons_succ, Act.put, List.setIfInBounds_toArray, List.set_cons_zero, List.set_cons_succ, d0, d1, d2, d3, d4, d5, d6, d7, d8, d9, d10, d11, d12, d13, d14, d15, d16]
    clear d0 d1 d2 d3 d4 d5 d6 d7 d8 d9 d10 d11 d12 d13 d14 d15 d16
    replace bel := bstep (below_drew bel) hR
    replace f0 := pw_cell_below hR f0
    replace f1 := pw_cell_below hR f1
    replace f2 := pw_cell_below hR f2
    replace f3 := pw_cell_below hR f3
    clear hR
    go_wp2_with fail
    refine (fget_any (headB p raw n sum) bs _ (by omega)).mono ?_
    rintro e w3 ⟨rfl, hb3⟩
    replace f0 := pw_cell_below hb3 f0
    replace f1 := pw_cell_below hb3 f1
    replace f2 := pw_cell_below hb3 f2
    replace f3 := pw_cell_below hb3 f3
    replace bel := bstep bel hb3
    simp only [getOut, frameAgg, hqe]
    have y0 : (w3.alloc (.cells #[.int .i64 0, .int .i64 0, .int .u32 0, .string ⟨#[]⟩] 58)).cell? ⟨w3.heap.size, 0, none⟩ = some (.int .i64 0) := by simp
    have y1 : (w3.alloc (.cells #[.int .i64 0, .int .i64 0, .int .u32 0, .string ⟨#[]⟩] 58)).cell? ⟨w3.heap.size, 1, none⟩ = some (.int .i64 0) := by simp
    have y2 : (w3.alloc (.cells #[.int .i64 0, .int .i64 0, .int .u32 0, .string ⟨#[]⟩] 58)).cell? ⟨w3.heap.size, 2, none⟩ = some (.int .u32 0) := by simp
    have y3 : (w3.alloc (.cells #[.int .i64 0, .int .i64 0, .int .u32 0, .string ⟨#[]⟩] 58)).cell? ⟨w3.heap.size, 3, none⟩ = some (.string ⟨#[]⟩) := by simp
    have f0n := pw_cell_below (balloc (Below.refl w3.heap.size w3) (.cells #[.int .i64 0, .int .i64 0, .int .u32 0, .string ⟨#[]⟩] 58)) f0
    have f1n := pw_cell_below (balloc (Below.refl w3.heap.size w3) (.cells #[.int .i64 0, .int .i64 0, .int .u32 0, .string ⟨#[]⟩] 58)) f1
    have f2n := pw_cell_below (balloc (Below.refl w3.heap.size w3) (.cells #[.int .i64 0, .int .i64 0, .int .u32 0, .string ⟨#[]⟩] 58)) f2
    have f3n := pw_cell_below (balloc (Below.refl w3.heap.size w3) (.cells #[.int .i64 0, .int .i64 0, .int .u32 0, .string ⟨#[]⟩] 58)) f3
    have beln := bstep bel (balloc (Below.refl w3.heap.size w3) (.cells #[.int .i64 0, .int .i64 0, .int .u32 0, .string ⟨#[]⟩] 58))
    go_wp2_with fail
    refine (fget_any (headB p raw n sum ++ zs) bs _ (by rw [ByteArray.size_append]; omega)).mono ?_
    rintro e w4 ⟨rfl, hb4⟩
    replace f0 := pw_cell_below hb4 f0n
    clear f0n
    replace f1 := pw_cell_below hb4 f1n
    clear f1n
    replace f2 := pw_cell_below hb4 f2n
    clear f2n
    replace f3 := pw_cell_below hb4 f3n
    clear f3n
    replace y0 := pw_cell_below hb4 y0
    replace y1 := pw_cell_below hb4 y1
    replace y2 := pw_cell_below hb4 y2
    replace y3 := pw_cell_below hb4 y3
    replace bel := bstep beln hb4
    clear beln
    simp only [getOut, frameAgg, hqh]
    have z0 : (w4.alloc (.cells #[.int .i64 0, .int .i64 0, .int .u32 0, .string ⟨#[]⟩] 58)).cell? ⟨w4.heap.size, 0, none⟩ = some (.int .i64 0) := by simp
    have z1 : (w4.alloc (.cells #[.int .i64 0, .int .i64 0, .int .u32 0, .string ⟨#[]⟩] 58)).cell? ⟨w4.heap.size, 1, none⟩ = some (.int .i64 0) := by simp
    have z2 : (w4.alloc (.cells #[.int .i64 0, .int .i64 0, .int .u32 0, .string ⟨#[]⟩] 58)).cell? ⟨w4.heap.size, 2, none⟩ = some (.int .u32 0) := by simp
    have z3 : (w4.alloc (.cells #[.int .i64 0, .int .i64 0, .int .u32 0, .string ⟨#[]⟩] 58)).cell? ⟨w4.heap.size, 3, none⟩ = some (.string ⟨#[]⟩) := by simp
    have f0n := pw_cell_below (balloc (Below.refl w4.heap.size w4) (.cells #[.int .i64 0, .int .i64 0, .int .u32 0, .string ⟨#[]⟩] 58)) f0
    have f1n := pw_cell_below (balloc (Below.refl w4.heap.size w4) (.cells #[.int .i64 0, .int .i64 0, .int .u32 0, .string ⟨#[]⟩] 58)) f1
    have f2n := pw_cell_below (balloc (Below.refl w4.heap.size w4) (.cells #[.int .i64 0, .int .i64 0, .int .u32 0, .string ⟨#[]⟩] 58)) f2
    have f3n := pw_cell_below (balloc (Below.refl w4.heap.size w4) (.cells #[.int .i64 0, .int .i64 0, .int .u32 0, .string ⟨#[]⟩] 58)) f3
    have y0n := pw_cell_below (balloc (Below.refl w4.heap.size w4) (.cells #[.int .i64 0, .int .i64 0, .int .u32 0, .string ⟨#[]⟩] 58)) y0
    have y1n := pw_cell_below (balloc (Below.refl w4.heap.size w4) (.cells #[.int .i64 0, .int .i64 0, .int .u32 0, .string ⟨#[]⟩] 58)) y1
    have y2n := pw_cell_below (balloc (Below.refl w4.heap.size w4) (.cells #[.int .i64 0, .int .i64 0, .int .u32 0, .string ⟨#[]⟩] 58)) y2
    have y3n := pw_cell_below (balloc (Below.refl w4.heap.size w4) (.cells #[.int .i64 0, .int .i64 0, .int .u32 0, .string ⟨#[]⟩] 58)) y3
    have beln := bstep bel (balloc (Below.refl w4.heap.size w4) (.cells #[.int .i64 0, .int .i64 0, .int .u32 0, .string ⟨#[]⟩] 58))
    go_wp2_with fail
    go_returns
    exact ⟨rfl, beln⟩
set_option maxRecDepth 20000 in
set_option maxHeartbeats 2000000 in
theorem bounds_n2_2 (raw bs sum : Int) (n : Nat) (w : World) (hk : (2 : Int) = 1 ∨ (2 : Int) = 2) (h0 : ¬ raw < 0) (h1 : ¬ 65535 < raw) (h3 : n ≤ 2000) (h4 : ¬ bs < 1) (h5 : ¬ 2000 < bs) (hsu : 0 ≤ sum ∧ sum < 4294967296) (h6 : 1024 < raw) :
    Calls Try.prog 18 #[.int .i64 2, .int .i64 raw, .int .i64 (n : Int), .int .i64 bs, .int .u32 sum] w fun e w' => e = .returned (.bool true) ∧ Below w.heap.size w w' := by
  have hbs := bigS_size
  obtain ⟨p, hp⟩ : ∃ p, p = strOfNums [2] := ⟨_, rfl⟩
  have hps : p.size = 1 := by rw [hp]; rfl
  have hcg : ∀ (W : World) (b : Nat), W.cell? ⟨b, 0, none⟩ = some (.int .u8 2) → (convert 32 9 (.slice (some ⟨b, 0, none⟩) 1 1)).run Try.prog W = .ok (.string p) W := fun W b h => by rw [hp]; exact conv1 W b 2 h
  obtain ⟨zs, hzd⟩ : ∃ zs, zs = CrcN.zeroS n := ⟨_, rfl⟩
  have hzz : zs.size = n := by rw [hzd]; exact zero_size n
  have hcz : ∀ (W : World) (b : Nat), (∀ j, j < n → W.cell? ⟨b, j, none⟩ = some (.int .u8 0)) → (convert 32 9 (.slice (some ⟨b, 0, none⟩) n n)).run Try.prog W = .ok (.string zs) W := fun W b h => by rw [hzd]; exact CrcN.conv_n W b n h
  clear hzd
  have hB : (headB p raw n sum).size = 9 := by unfold headB; simp only [ByteArray.size_append, bigS_size, hps]
  have hla : (headB p raw n sum).size + zs.size ≤ maxLen := by rw [hB, hzz]; unfold maxLen; omega
  have hla2 : 9 + n ≤ maxLen := by unfold maxLen; omega
  have hla3 : 9 + zs.size ≤ maxLen := by rw [hzz]; unfold maxLen; omega
  have hwk : IntKind.u8.wrap 2 = 2 := by rfl
  have hwr : IntKind.u64.wrap raw = raw := by rw [show raw = ((raw.toNat : Nat) : Int) by omega]; exact wrap64u _ (by omega)
  have hwn : IntKind.u64.wrap (n : Int) = (n : Int) := wrap64u _ (by omega)
  have hws : IntKind.u64.wrap sum = sum := by rw [show sum = ((sum.toNat : Nat) : Int) by omega]; exact wrap64u _ (by omega)
  have hw9 : IntKind.i64.wrap (9 + (n : Int)) = 9 + (n : Int) := by rw [IntKind.wrap_i64]; omega
  have x1 : decide (raw < 0) = false := by simp <;> omega
  have x2 : decide (raw > 65535) = false := by simp <;> omega
  have x3 : decide ((n : Int) < 0) = false := by simp <;> omega
  have x4 : decide ((n : Int) > 2000) = false := by simp <;> omega
  have x5 : decide (bs < 1) = false := by simp <;> omega
  have x6 : decide (bs > 2000) = false := by simp <;> omega
  have y1 : decide (raw ≥ 1) = true := by simp <;> omega
  have y2 : decide (raw ≤ 1024) = false := by simp <;> omega
  have hfit : fitsB 2 raw zs.size 1024 = false := by rw [hzz]; unfold fitsB; simp; omega
  have hok : ¬ okF 2 raw sum zs := no_block (by omega) hfit
  have hpf : putF 2 raw sum zs = ⟨#[]⟩ := by unfold putF; rw [if_neg hok]
  have hqe := getB_no 2 raw sum bs n ⟨#[]⟩ hk (by omega) (by omega) hsu (.inr (by rw [← hzz]; exact hfit))
  have hqh := getB_no 2 raw sum bs n zs hk (by omega) (by omega) hsu (.inr (by rw [← hzz]; exact hfit))
  rw [← hp] at hqe hqh
  rw [app_empty] at hqe
  clear hp
  have bel : Below w.heap.size w w := Below.refl _ _
  go_enter Try.func18, Try.ntmps18
  go_wp2_with fail
  refine (alive_call _).mono ?_
  rintro e w1 ⟨rfl, hb1⟩
  replace bel := bstep bel hb1
  have hmk := CrcN.make_n w1 n (by omega)
  have hcv := hcz (w1.alloc (.cells (madeCells #[Value.int .u8 0] n) 5)) w1.heap.size (CrcN.made_cells w1 n)
  replace bel := bstep bel (balloc (Below.refl w1.heap.size w1) (.cells (madeCells #[Value.int .u8 0] n) 5))
  have f0 : ((w1.alloc (.cells (madeCells #[Value.int .u8 0] n) 5)).alloc (.cells #[.int .i64 2, .int .i64 raw, .int .u32 sum, .string zs] 58)).cell? ⟨w1.heap.size + 1, 0, none⟩ = some (.int .i64 2) := by simp
  have f1 : ((w1.alloc (.cells (madeCells #[Value.int .u8 0] n) 5)).alloc (.cells #[.int .i64 2, .int .i64 raw, .int .u32 sum, .string zs] 58)).cell? ⟨w1.heap.size + 1, 1, none⟩ = some (.int .i64 raw) := by simp
  have f2 : ((w1.alloc (.cells (madeCells #[Value.int .u8 0] n) 5)).alloc (.cells #[.int .i64 2, .int .i64 raw, .int .u32 sum, .string zs] 58)).cell? ⟨w1.heap.size + 1, 2, none⟩ = some (.int .u32 sum) := by simp
  have f3 : ((w1.alloc (.cells (madeCells #[Value.int .u8 0] n) 5)).alloc (.cells #[.int .i64 2, .int .i64 raw, .int .u32 sum, .string zs] 58)).cell? ⟨w1.heap.size + 1, 3, none⟩ = some (.string zs) := by simp
  replace bel := bstep bel (balloc (Below.refl (w1.alloc (.cells (madeCells #[Value.int .u8 0] n) 5)).heap.size (w1.alloc (.cells (madeCells #[Value.int .u8 0] n) 5))) (.cells #[.int .i64 2, .int .i64 raw, .int .u32 sum, .string zs] 58))
  go_wp2_with fail
  refine (put_any 2 raw sum zs _ hsu).mono ?_
  rintro e w2 ⟨rfl, hb2⟩
  replace f0 := pw_cell_below hb2 f0
  replace f1 := pw_cell_below hb2 f1
  replace f2 := pw_cell_below hb2 f2
  replace f3 := pw_cell_below hb2 f3
  replace bel := bstep bel hb2
  rw [decide_eq_false hok, hpf]
  clear hmk hcv
  go_wp2_with fail
  refine Reg.wp_region_lists (fun W W' => Below W.heap.size W W') (bdV 2 raw sum n p w2.heap.size)
    [some 97, some 98, some 99, some 100, some 101, some 102, some 103, some 104, some 105, some 106, some 107, some 108, some 109, some 110, some 111, some 112, some 15]
    [[], [0], [1], [2], [], [4], [5], [3, 6], [], [8], [9, 6], [7, 10], [], [12], [13, 10], [11, 14], [15, 14, 0, 1, 2, 3, 4, 5, 6, 7, 8, 9, 10, 11, 12, 13, 14, 15]]
    (by kernel_rfl) (by kernel_rfl) (by kernel_rfl) (fun _ => Below.refl _ _) (fun _ _ _ h k => bstep h k) ?_ ?_ ?_
  · intro i v W W' h k
    unfold bdV at h ⊢
    split at h <;> first | exact h | (obtain ⟨b, e, hc⟩ := h; exact ⟨b, e, pw_cell_below k hc⟩)
  · refine ⟨?_, ?_, ?_, ?_, ?_, ?_, ?_, ?_, ?_, ?_, ?_, ?_, ?_, ?_, ?_, ?_, ?_, trivial⟩
    · intro vals W K hR hV hK
      simp only [Reg.putS, List.foldl, List.headD, List.tail, List.getD_cons_zero, List.getD_cons_succ, Act.put, List.setIfInBounds_toArray, List.set_cons_zero, List.set_cons_succ] at hK ⊢
      go_simp
      first
        | exact hK _ _ (Below.refl _ _) rfl
        | (rw [if_pos (by omega)]; exact hK _ _ (Below.refl _ _) rfl)
        | (rw [dif_pos (by omega)]; exact hK _ _ (Below.refl _ _) rfl)
        | (rw [if_neg (by omega)]; exact hK _ _ (Below.refl _ _) rfl)
    · intro vals W K hR hV hK
      have d0 := hV 0 (by simp)
      simp only [bdV] at d0
      simp only [Reg.putS, List.foldl, List.headD, List.tail, List.getD_cons_zero, List.getD_cons_succ, Act.put, List.setIfInBounds_toArray, List.set_cons_zero, List.set_cons_succ, d0] at hK ⊢
      go_simp
      first
        | exact hK _ _ (Below.refl _ _) rfl
        | (rw [if_pos (by omega)]; exact hK _ _ (Below.refl _ _) rfl)
        | (rw [dif_pos (by omega)]; exact hK _ _ (Below.refl _ _) rfl)
        | (rw [if_neg (by omega)]; exact hK _ _ (Below.refl _ _) rfl)
    · intro vals W K hR hV hK
      have d1 := hV 1 (by simp)
      simp only [bdV] at d1
      simp only [Reg.putS, List.foldl, List.headD, List.tail, List.getD_cons_zero, List.getD_cons_succ, Act.put, List.setIfInBounds_toArray, List.set_cons_zero, List.set_cons_succ, d1] at hK ⊢
      go_simp
      exact hK _ _ (balloc (Below.refl _ _) _) ⟨_, rfl, by simp⟩
    · intro vals W K hR hV hK
      have d2 := hV 2 (by simp)
      simp only [bdV] at d2
      obtain ⟨b, d2, hcell⟩ := d2
      simp only [Reg.putS, List.foldl, List.headD, List.tail, List.getD_cons_zero, List.getD_cons_succ, Act.put, List.setIfInBounds_toArray, List.set_cons_zero, List.set_cons_succ, d2] at hK ⊢
      have hcv := hcg W b hcell
      go_simp
      first
        | exact hK _ _ (Below.refl _ _) rfl
        | (rw [if_pos (by omega)]; exact hK _ _ (Below.refl _ _) rfl)
        | (rw [dif_pos (by omega)]; exact hK _ _ (Below.refl _ _) rfl)
        | (rw [if_neg (by omega)]; exact hK _ _ (Below.refl _ _) rfl)
    · intro vals W K hR hV hK
      simp only [Reg.putS, List.foldl, List.headD, List.tail, List.getD_cons_zero, List.getD_cons_succ, Act.put, List.setIfInBounds_toArray, List.set_cons_zero, List.set_cons_succ] at hK ⊢
      go_simp
      first
        | exact hK _ _ (Below.refl _ _) rfl
        | (rw [if_pos (by omega)]; exact hK _ _ (Below.refl _ _) rfl)
        | (rw [dif_pos (by omega)]; exact hK _ _ (Below.refl _ _) rfl)
        | (rw [if_neg (by omega)]; exact hK _ _ (Below.refl _ _) rfl)
    · intro vals W K hR hV hK
      have d4 := hV 4 (by simp)
      simp only [bdV] at d4
      simp only [Reg.putS, List.foldl, List.headD, List.tail, List.getD_cons_zero, List.getD_cons_succ, Act.put, List.setIfInBounds_toArray, List.set_cons_zero, List.set_cons_succ, d4] at hK ⊢
      go_simp
      first
        | exact hK _ _ (Below.refl _ _) rfl
        | (rw [if_pos (by omega)]; exact hK _ _ (Below.refl _ _) rfl)
        | (rw [dif_pos (by omega)]; exact hK _ _ (Below.refl _ _) rfl)
        | (rw [if_neg (by omega)]; exact hK _ _ (Below.refl _ _) rfl)
    · intro vals W K hR hV hK
      have d5 := hV 5 (by simp)
      simp only [bdV] at d5
      simp only [Reg.putS, List.foldl, List.headD, List.tail, List.getD_cons_zero, List.getD_cons_succ, Act.put, List.setIfInBounds_toArray, List.set_cons_zero, List.set_cons_succ, d5] at hK ⊢
      go_simp
      refine (refBig_call raw 2 _ (by omega) (by omega) (by omega)).mono ?_
      rintro e w2 ⟨rfl, hb⟩
      exact hK _ _ hb rfl
    · intro vals W K hR hV hK
      have d3 := hV 3 (by simp)
      simp only [bdV] at d3
      have d6 := hV 6 (by simp)
      simp only [bdV] at d6
      simp only [Reg.putS, List.foldl, List.headD, List.tail, List.getD_cons_zero, List.getD_cons_succ, Act.put, List.setIfInBounds_toArray, List.set_cons_zero, List.set_cons_succ, d3, d6] at hK ⊢
      go_simp
      first
        | exact hK _ _ (Below.refl _ _) rfl
        | (rw [if_pos (by omega)]; exact hK _ _ (Below.refl _ _) rfl)
        | (rw [dif_pos (by omega)]; exact hK _ _ (Below.refl _ _) rfl)
        | (rw [if_neg (by omega)]; exact hK _ _ (Below.refl _ _) rfl)
    · intro vals W K hR hV hK
      simp only [Reg.putS, List.foldl, List.headD, List.tail, List.getD_cons_zero, List.getD_cons_succ, Act.put, List.setIfInBounds_toArray, List.set_cons_zero, List.set_cons_succ] at hK ⊢
      go_simp
      first
        | exact hK _ _ (Below.refl _ _) rfl
        | (rw [if_pos (by omega)]; exact hK _ _ (Below.refl _ _) rfl)
        | (rw [dif_pos (by omega)]; exact hK _ _ (Below.refl _ _) rfl)
        | (rw [if_neg (by omega)]; exact hK _ _ (Below.refl _ _) rfl)
    · intro vals W K hR hV hK
      have d8 := hV 8 (by simp)
      simp only [bdV] at d8
      simp only [Reg.putS, List.foldl, List.headD, List.tail, List.getD_cons_zero, List.getD_cons_succ, Act.put, List.setIfInBounds_toArray, List.set_cons_zero, List.set_cons_succ, d8] at hK ⊢
      go_simp
      first
        | exact hK _ _ (Below.refl _ _) rfl
        | (rw [if_pos (by omega)]; exact hK _ _ (Below.refl _ _) rfl)
        | (rw [dif_pos (by omega)]; exact hK _ _ (Below.refl _ _) rfl)
        | (rw [if_neg (by omega)]; exact hK _ _ (Below.refl _ _) rfl)
    · intro vals W K hR hV hK
      have d6 := hV 6 (by simp)
      simp only [bdV] at d6
      have d9 := hV 9 (by simp)
      simp only [bdV] at d9
      simp only [Reg.putS, List.foldl, List.headD, List.tail, List.getD_cons_zero, List.getD_cons_succ, Act.put, List.setIfInBounds_toArray, List.set_cons_zero, List.set_cons_succ, d6, d9] at hK ⊢
      go_simp
      refine (refBig_call (n : Int) 2 _ (by omega) (by omega) (by omega)).mono ?_
      rintro e w2 ⟨rfl, hb⟩
      exact hK _ _ hb rfl
    · intro vals W K hR hV hK
      have d7 := hV 7 (by simp)
      simp only [bdV] at d7
      have d10 := hV 10 (by simp)
      simp only [bdV] at d10
      simp only [Reg.putS, List.foldl, List.headD, List.tail, List.getD_cons_zero, List.getD_cons_succ, Act.put, List.setIfInBounds_toArray, List.set_cons_zero, List.set_cons_succ, d7, d10] at hK ⊢
      go_simp
      first
        | exact hK _ _ (Below.refl _ _) rfl
        | (rw [if_pos (by omega)]; exact hK _ _ (Below.refl _ _) rfl)
        | (rw [dif_pos (by omega)]; exact hK _ _ (Below.refl _ _) rfl)
        | (rw [if_neg (by omega)]; exact hK _ _ (Below.refl _ _) rfl)
    · intro vals W K hR hV hK
      simp only [Reg.putS, List.foldl, List.headD, List.tail, List.getD_cons_zero, List.getD_cons_succ, Act.put, List.setIfInBounds_toArray, List.set_cons_zero, List.set_cons_succ] at hK ⊢
      go_simp
      first
        | exact hK _ _ (Below.refl _ _) rfl
        | (rw [if_pos (by omega)]; exact hK _ _ (Below.refl _ _) rfl)
        | (rw [dif_pos (by omega)]; exact hK _ _ (Below.refl _ _) rfl)
        | (rw [if_neg (by omega)]; exact hK _ _ (Below.refl _ _) rfl)
    · intro vals W K hR hV hK
      have d12 := hV 12 (by simp)
      simp only [bdV] at d12
      simp only [Reg.putS, List.foldl, List.headD, List.tail, List.getD_cons_zero, List.getD_cons_succ, Act.put, List.setIfInBounds_toArray, List.set_cons_zero, List.set_cons_succ, d12] at hK ⊢
      go_simp
      first
        | exact hK _ _ (Below.refl _ _) rfl
        | (rw [if_pos (by omega)]; exact hK _ _ (Below.refl _ _) rfl)
        | (rw [dif_pos (by omega)]; exact hK _ _ (Below.refl _ _) rfl)
        | (rw [if_neg (by omega)]; exact hK _ _ (Below.refl _ _) rfl)
    · intro vals W K hR hV hK
      have d10 := hV 10 (by simp)
      simp only [bdV] at d10
      have d13 := hV 13 (by simp)
      simp only [bdV] at d13
      simp only [Reg.putS, List.foldl, List.headD, List.tail, List.getD_cons_zero, List.getD_cons_succ, Act.put, List.setIfInBounds_toArray, List.set_cons_zero, List.set_cons_succ, d10, d13] at hK ⊢
      go_simp
      refine (refBig_call sum 4 _ (by omega) (by omega) (by omega)).mono ?_
      rintro e w2 ⟨rfl, hb⟩
      exact hK _ _ hb rfl
    · intro vals W K hR hV hK
      have d11 := hV 11 (by simp)
      simp only [bdV] at d11
      have d14 := hV 14 (by simp)
      simp only [bdV] at d14
      simp only [Reg.putS, List.foldl, List.headD, List.tail, List.getD_cons_zero, List.getD_cons_succ, Act.put, List.setIfInBounds_toArray, List.set_cons_zero, List.set_cons_succ, d11, d14] at hK ⊢
      go_simp
      first
        | exact hK _ _ (Below.refl _ _) rfl
        | (rw [if_pos (by omega)]; exact hK _ _ (Below.refl _ _) rfl)
        | (rw [dif_pos (by omega)]; exact hK _ _ (Below.refl _ _) rfl)
        | (rw [if_neg (by omega)]; exact hK _ _ (Below.refl _ _) rfl)
    · intro vals W K hR hV hK
      have d0 := hV 0 (by simp)
      simp only [bdV] at d0
      have d1 := hV 1 (by simp)
      simp only [bdV] at d1
      have d2 := hV 2 (by simp)
      simp only [bdV] at d2
      obtain ⟨b, d2, hcell⟩ := d2
      have d3 := hV 3 (by simp)
      simp only [bdV] at d3
      have d4 := hV 4 (by simp)
      simp only [bdV] at d4
      have d5 := hV 5 (by simp)
      simp only [bdV] at d5
      have d6 := hV 6 (by simp)
      simp only [bdV] at d6
      have d7 := hV 7 (by simp)
      simp only [bdV] at d7
      have d8 := hV 8 (by simp)
      simp only [bdV] at d8
      have d9 := hV 9 (by simp)
      simp only [bdV] at d9
      have d10 := hV 10 (by simp)
      simp only [bdV] at d10
      have d11 := hV 11 (by simp)
      simp only [bdV] at d11
      have d12 := hV 12 (by simp)
      simp only [bdV] at d12
      have d13 := hV 13 (by simp)
      simp only [bdV] at d13
      have d14 := hV 14 (by simp)
      simp only [bdV] at d14
      have d15 := hV 15 (by simp)
      simp only [bdV] at d15
      simp only [Reg.putS, List.foldl, List.headD, List.tail, List.getD_cons_zero, List.getD_cons_succ, Act.put, List.setIfInBounds_toArray, List.set_cons_zero, List.set_cons_succ, d0, d1, d2, d3, d4, d5, d6, d7, d8, d9, d10, d11, d12, d13, d14, d15] at hK ⊢
      go_simp
      first
        | exact hK _ _ (Below.refl _ _) rfl
        | (rw [if_pos (by omega)]; exact hK _ _ (Below.refl _ _) rfl)
        | (rw [dif_pos (by omega)]; exact hK _ _ (Below.refl _ _) rfl)
        | (rw [if_neg (by omega)]; exact hK _ _ (Below.refl _ _) rfl)
  · intro vals W hR hV
    rw [show List.range (List.length [some 97, some 98, some 99, some 100, some 101, some 102, some 103, some 104, some 105, some 106, some 107, some 108, some 109, some 110, some 111, some 112, some 15]) = [0, 1, 2, 3, 4, 5, 6, 7, 8, 9, 10, 11, 12, 13, 14, 15, 16] from rfl]
    have d0 := hV 0 (by decide)
    simp only [bdV] at d0
    have d1 := hV 1 (by decide)
    simp only [bdV] at d1
    have d2 := hV 2 (by decide)
    simp only [bdV] at d2
    obtain ⟨b, d2, hcell⟩ := d2
    have d3 := hV 3 (by decide)
    simp only [bdV] at d3
    have d4 := hV 4 (by decide)
    simp only [bdV] at d4
    have d5 := hV 5 (by decide)
    simp only [bdV] at d5
    have d6 := hV 6 (by decide)
    simp only [bdV] at d6
    have d7 := hV 7 (by decide)
    simp only [bdV] at d7
    have d8 := hV 8 (by decide)
    simp only [bdV] at d8
    have d9 := hV 9 (by decide)
    simp only [bdV] at d9
    have d10 := hV 10 (by decide)
    simp only [bdV] at d10
    have d11 := hV 11 (by decide)
    simp only [bdV] at d11
    have d12 := hV 12 (by decide)
    simp only [bdV] at d12
    have d13 := hV 13 (by decide)
    simp only [bdV] at d13
    have d14 := hV 14 (by decide)
    simp only [bdV] at d14
    have d15 := hV 15 (by decide)
    simp only [bdV] at d15
    have d16 := hV 16 (by decide)
    simp only [bdV] at d16
    clear hV
    simp only [Reg.putS, List.foldl, List.getD_cons_zero, List.getD_cons_succ, Act.put, List.setIfInBounds_toArray, List.set_cons_zero, List.set_cons_succ, d0, d1, d2, d3, d4, d5, d6, d7, d8, d9, d10, d11, d12, d13, d14, d15, d16]
    clear d0 d1 d2 d3 d4 d5 d6 d7 d8 d9 d10 d11 d12 d13 d14 d15 d16
    replace bel := bstep (below_drew bel) hR
    replace f0 := pw_cell_below hR f0
    replace f1 := pw_cell_below hR f1
    replace f2 := pw_cell_below hR f2
    replace f3 := pw_cell_below hR f3
    clear hR
    go_wp2_with fail
    refine (fget_any (headB p raw n sum) bs _ (by omega)).mono ?_
    rintro e w3 ⟨rfl, hb3⟩
    replace f0 := pw_cell_below hb3 f0
    replace f1 := pw_cell_below hb3 f1
    replace f2 := pw_cell_below hb3 f2
    replace f3 := pw_cell_below hb3 f3
    replace bel := bstep bel hb3
    simp only [getOut, frameAgg, hqe]
    have y0 : (w3.alloc (.cells #[.int .i64 0, .int .i64 0, .int .u32 0, .string ⟨#[]⟩] 58)).cell? ⟨w3.heap.size, 0, none⟩ = some (.int .i64 0) := by simp
    have y1 : (w3.alloc (.cells #[.int .i64 0, .int .i64 0, .int .u32 0, .string ⟨#[]⟩] 58)).cell? ⟨w3.heap.size, 1, none⟩ = some (.int .i64 0) := by simp
    have y2 : (w3.alloc (.cells #[.int .i64 0, .int .i64 0, .int .u32 0, .string ⟨#[]⟩] 58)).cell? ⟨w3.heap.size, 2, none⟩ = some (.int .u32 0) := by simp
    have y3 : (w3.alloc (.cells #[.int .i64 0, .int .i64 0, .int .u32 0, .string ⟨#[]⟩] 58)).cell? ⟨w3.heap.size, 3, none⟩ = some (.string ⟨#[]⟩) := by simp
    have f0n := pw_cell_below (balloc (Below.refl w3.heap.size w3) (.cells #[.int .i64 0, .int .i64 0, .int .u32 0, .string ⟨#[]⟩] 58)) f0
    have f1n := pw_cell_below (balloc (Below.refl w3.heap.size w3) (.cells #[.int .i64 0, .int .i64 0, .int .u32 0, .string ⟨#[]⟩] 58)) f1
    have f2n := pw_cell_below (balloc (Below.refl w3.heap.size w3) (.cells #[.int .i64 0, .int .i64 0, .int .u32 0, .string ⟨#[]⟩] 58)) f2
    have f3n := pw_cell_below (balloc (Below.refl w3.heap.size w3) (.cells #[.int .i64 0, .int .i64 0, .int .u32 0, .string ⟨#[]⟩] 58)) f3
    have beln := bstep bel (balloc (Below.refl w3.heap.size w3) (.cells #[.int .i64 0, .int .i64 0, .int .u32 0, .string ⟨#[]⟩] 58))
    go_wp2_with fail
    refine (fget_any (headB p raw n sum ++ zs) bs _ (by rw [ByteArray.size_append]; omega)).mono ?_
    rintro e w4 ⟨rfl, hb4⟩
    replace f0 := pw_cell_below hb4 f0n
    clear f0n
    replace f1 := pw_cell_below hb4 f1n
    clear f1n
    replace f2 := pw_cell_below hb4 f2n
    clear f2n
    replace f3 := pw_cell_below hb4 f3n
    clear f3n
    replace y0 := pw_cell_below hb4 y0
    replace y1 := pw_cell_below hb4 y1
    replace y2 := pw_cell_below hb4 y2
    replace y3 := pw_cell_below hb4 y3
    replace bel := bstep beln hb4
    clear beln
    simp only [getOut, frameAgg, hqh]
    have z0 : (w4.alloc (.cells #[.int .i64 0, .int .i64 0, .int .u32 0, .string ⟨#[]⟩] 58)).cell? ⟨w4.heap.size, 0, none⟩ = some (.int .i64 0) := by simp
    have z1 : (w4.alloc (.cells #[.int .i64 0, .int .i64 0, .int .u32 0, .string ⟨#[]⟩] 58)).cell? ⟨w4.heap.size, 1, none⟩ = some (.int .i64 0) := by simp
    have z2 : (w4.alloc (.cells #[.int .i64 0, .int .i64 0, .int .u32 0, .string ⟨#[]⟩] 58)).cell? ⟨w4.heap.size, 2, none⟩ = some (.int .u32 0) := by simp
    have z3 : (w4.alloc (.cells #[.int .i64 0, .int .i64 0, .int .u32 0, .string ⟨#[]⟩] 58)).cell? ⟨w4.heap.size, 3, none⟩ = some (.string ⟨#[]⟩) := by simp
    have f0n := pw_cell_below (balloc (Below.refl w4.heap.size w4) (.cells #[.int .i64 0, .int .i64 0, .int .u32 0, .string ⟨#[]⟩] 58)) f0
    have f1n := pw_cell_below (balloc (Below.refl w4.heap.size w4) (.cells #[.int .i64 0, .int .i64 0, .int .u32 0, .string ⟨#[]⟩] 58)) f1
    have f2n := pw_cell_below (balloc (Below.refl w4.heap.size w4) (.cells #[.int .i64 0, .int .i64 0, .int .u32 0, .string ⟨#[]⟩] 58)) f2
    have f3n := pw_cell_below (balloc (Below.refl w4.heap.size w4) (.cells #[.int .i64 0, .int .i64 0, .int .u32 0, .string ⟨#[]⟩] 58)) f3
    have y0n := pw_cell_below (balloc (Below.refl w4.heap.size w4) (.cells #[.int .i64 0, .int .i64 0, .int .u32 0, .string ⟨#[]⟩] 58)) y0
    have y1n := pw_cell_below (balloc (Below.refl w4.heap.size w4) (.cells #[.int .i64 0, .int .i64 0, .int .u32 0, .string ⟨#[]⟩] 58)) y1
    have y2n := pw_cell_below (balloc (Below.refl w4.heap.size w4) (.cells #[.int .i64 0, .int .i64 0, .int .u32 0, .string ⟨#[]⟩] 58)) y2
    have y3n := pw_cell_below (balloc (Below.refl w4.heap.size w4) (.cells #[.int .i64 0, .int .i64 0, .int .u32 0, .string ⟨#[]⟩] 58)) y3
    have beln := bstep bel (balloc (Below.refl w4.heap.size w4) (.cells #[.int .i64 0, .int .i64 0, .int .u32 0, .string ⟨#[]⟩] 58))
    go_wp2_with fail
    go_returns
    exact ⟨rfl, beln⟩
set_option maxRecDepth 20000 in
set_option maxHeartbeats 2000000 in
theorem bounds_n3_1 (raw bs sum : Int) (n : Nat) (w : World) (hk : (1 : Int) = 1 ∨ (1 : Int) = 2) (h0 : ¬ raw < 0) (h1 : ¬ 65535 < raw) (h3 : n ≤ 2000) (h4 : ¬ bs < 1) (h5 : ¬ 2000 < bs) (hsu : 0 ≤ sum ∧ sum < 4294967296) (h6 : 1 ≤ raw ∧ raw ≤ 1024) (h7 : n < 1) :
    Calls Try.prog 18 #[.int .i64 1, .int .i64 raw, .int .i64 (n : Int), .int .i64 bs, .int .u32 sum] w fun e w' => e = .returned (.bool true) ∧ Below w.heap.size w w' := by
  have hbs := bigS_size
  obtain ⟨p, hp⟩ : ∃ p, p = strOfNums [1] := ⟨_, rfl⟩
  have hps : p.size = 1 := by rw [hp]; rfl
  have hcg : ∀ (W : World) (b : Nat), W.cell? ⟨b, 0, none⟩ = some (.int .u8 1) → (convert 32 9 (.slice (some ⟨b, 0, none⟩) 1 1)).run Try.prog W = .ok (.string p) W := fun W b h => by rw [hp]; exact conv1 W b 1 h
  obtain ⟨zs, hzd⟩ : ∃ zs, zs = CrcN.zeroS n := ⟨_, rfl⟩
  have hzz : zs.size = n := by rw [hzd]; exact zero_size n
  have hcz : ∀ (W : World) (b : Nat), (∀ j, j < n → W.cell? ⟨b, j, none⟩ = some (.int .u8 0)) → (convert 32 9 (.slice (some ⟨b, 0, none⟩) n n)).run Try.prog W = .ok (.string zs) W := fun W b h => by rw [hzd]; exact CrcN.conv_n W b n h
  clear hzd
  have hB : (headB p raw n sum).size = 9 := by unfold headB; simp only [ByteArray.size_append, bigS_size, hps]
  have hla : (headB p raw n sum).size + zs.size ≤ maxLen := by rw [hB, hzz]; unfold maxLen; omega
  have hla2 : 9 + n ≤ maxLen := by unfold maxLen; omega
  have hla3 : 9 + zs.size ≤ maxLen := by rw [hzz]; unfold maxLen; omega
  have hwk : IntKind.u8.wrap 1 = 1 := by rfl
  have hwr : IntKind.u64.wrap raw = raw := by rw [show raw = ((raw.toNat : Nat) : Int) by omega]; exact wrap64u _ (by omega)
  have hwn : IntKind.u64.wrap (n : Int) = (n : Int) := wrap64u _ (by omega)
  have hws : IntKind.u64.wrap sum = sum := by rw [show sum = ((sum.toNat : Nat) : Int) by omega]; exact wrap64u _ (by omega)
  have hw9 : IntKind.i64.wrap (9 + (n : Int)) = 9 + (n : Int) := by rw [IntKind.wrap_i64]; omega
  have x1 : decide (raw < 0) = false := by simp <;> omega
  have x2 : decide (raw > 65535) = false := by simp <;> omega
  have x3 : decide ((n : Int) < 0) = false := by simp <;> omega
  have x4 : decide ((n : Int) > 2000) = false := by simp <;> omega
  have x5 : decide (bs < 1) = false := by simp <;> omega
  have x6 : decide (bs > 2000) = false := by simp <;> omega
  have y1 : decide (raw ≥ 1) = true := by simp <;> omega
  have y2 : decide (raw ≤ 1024) = true := by simp <;> omega
  have y3 : decide ((n : Int) ≥ 1) = false := by simp <;> omega
  have hfit : fitsB 1 raw zs.size 1024 = false := by rw [hzz]; unfold fitsB; simp; omega
  have hok : ¬ okF 1 raw sum zs := no_block (by omega) hfit
  have hpf : putF 1 raw sum zs = ⟨#[]⟩ := by unfold putF; rw [if_neg hok]
  have hqe := getB_no 1 raw sum bs n ⟨#[]⟩ hk (by omega) (by omega) hsu (.inr (by rw [← hzz]; exact hfit))
  have hqh := getB_no 1 raw sum bs n zs hk (by omega) (by omega) hsu (.inr (by rw [← hzz]; exact hfit))
  rw [← hp] at hqe hqh
  rw [app_empty] at hqe
  clear hp
  have bel : Below w.heap.size w w := Below.refl _ _
  go_enter Try.func18, Try.ntmps18
  go_wp2_with fail
  refine (alive_call _).mono ?_
  rintro e w1 ⟨rfl, hb1⟩
  replace bel := bstep bel hb1
  have hmk := CrcN.make_n w1 n (by omega)
  have hcv := hcz (w1.alloc (.cells (madeCells #[Value.int .u8 0] n) 5)) w1.heap.size (CrcN.made_cells w1 n)
  replace bel := bstep bel (balloc (Below.refl w1.heap.size w1) (.cells (madeCells #[Value.int .u8 0] n) 5))
  have f0 : ((w1.alloc (.cells (madeCells #[Value.int .u8 0] n) 5)).alloc (.cells #[.int .i64 1, .int .i64 raw, .int .u32 sum, .string zs] 58)).cell? ⟨w1.heap.size + 1, 0, none⟩ = some (.int .i64 1) := by simp
  have f1 : ((w1.alloc (.cells (madeCells #[Value.int .u8 0] n) 5)).alloc (.cells #[.int .i64 1, .int .i64 raw, .int .u32 sum, .string zs] 58)).cell? ⟨w1.heap.size + 1, 1, none⟩ = some (.int .i64 raw) := by simp
  have f2 : ((w1.alloc (.cells (madeCells #[Value.int .u8 0] n) 5)).alloc (.cells #[.int .i64 1, .int .i64 raw, .int .u32 sum, .string zs] 58)).cell? ⟨w1.heap.size + 1, 2, none⟩ = some (.int .u32 sum) := by simp
  have f3 : ((w1.alloc (.cells (madeCells #[Value.int .u8 0] n) 5)).alloc (.cells #[.int .i64 1, .int .i64 raw, .int .u32 sum, .string zs] 58)).cell? ⟨w1.heap.size + 1, 3, none⟩ = some (.string zs) := by simp
  replace bel := bstep bel (balloc (Below.refl (w1.alloc (.cells (madeCells #[Value.int .u8 0] n) 5)).heap.size (w1.alloc (.cells (madeCells #[Value.int .u8 0] n) 5))) (.cells #[.int .i64 1, .int .i64 raw, .int .u32 sum, .string zs] 58))
  go_wp2_with fail
  refine (put_any 1 raw sum zs _ hsu).mono ?_
  rintro e w2 ⟨rfl, hb2⟩
  replace f0 := pw_cell_below hb2 f0
  replace f1 := pw_cell_below hb2 f1
  replace f2 := pw_cell_below hb2 f2
  replace f3 := pw_cell_below hb2 f3
  replace bel := bstep bel hb2
  rw [decide_eq_false hok, hpf]
  clear hmk hcv
  go_wp2_with fail
  refine Reg.wp_region_lists (fun W W' => Below W.heap.size W W') (bdV 1 raw sum n p w2.heap.size)
    [some 97, some 98, some 99, some 100, some 101, some 102, some 103, some 104, some 105, some 106, some 107, some 108, some 109, some 110, some 111, some 112, some 15]
    [[], [0], [1], [2], [], [4], [5], [3, 6], [], [8], [9, 6], [7, 10], [], [12], [13, 10], [11, 14], [15, 14, 0, 1, 2, 3, 4, 5, 6, 7, 8, 9, 10, 11, 12, 13, 14, 15]]
    (by kernel_rfl) (by kernel_rfl) (by kernel_rfl) (fun _ => Below.refl _ _) (fun _ _ _ h k => bstep h k) ?_ ?_ ?_
  · intro i v W W' h k
    unfold bdV at h ⊢
    split at h <;> first | exact h | (obtain ⟨b, e, hc⟩ := h; exact ⟨b, e, pw_cell_below k hc⟩)
  · refine ⟨?_, ?_, ?_, ?_, ?_, ?_, ?_, ?_, ?_, ?_, ?_, ?_, ?_, ?_, ?_, ?_, ?_, trivial⟩
    · intro vals W K hR hV hK
      simp only [Reg.putS, List.foldl, List.headD, List.tail, List.getD_cons_zero, List.getD_cons_succ, Act.put, List.setIfInBounds_toArray, List.set_cons_zero, List.set_cons_succ] at hK ⊢
      go_simp
      first
        | exact hK _ _ (Below.refl _ _) rfl
        | (rw [if_pos (by omega)]; exact hK _ _ (Below.refl _ _) rfl)
        | (rw [dif_pos (by omega)]; exact hK _ _ (Below.refl _ _) rfl)
        | (rw [if_neg (by omega)]; exact hK _ _ (Below.refl _ _) rfl)
    · intro vals W K hR hV hK
      have d0 := hV 0 (by simp)
      simp only [bdV] at d0
      simp only [Reg.putS, List.foldl, List.headD, List.tail, List.getD_cons_zero, List.getD_cons_succ, Act.put, List.setIfInBounds_toArray, List.set_cons_zero, List.set_cons_succ, d0] at hK ⊢
      go_simp
      first
        | exact hK _ _ (Below.refl _ _) rfl
        | (rw [if_pos (by omega)]; exact hK _ _ (Below.refl _ _) rfl)
        | (rw [dif_pos (by omega)]; exact hK _ _ (Below.refl _ _) rfl)
        | (rw [if_neg (by omega)]; exact hK _ _ (Below.refl _ _) rfl)
    · intro vals W K hR hV hK
      have d1 := hV 1 (by simp)
      simp only [bdV] at d1
      simp only [Reg.putS, List.foldl, List.headD, List.tail, List.getD_cons_zero, List.getD_cons_succ, Act.put, List.setIfInBounds_toArray, List.set_cons_zero, List.set_cons_succ, d1] at hK ⊢
      go_simp
      exact hK _ _ (balloc (Below.refl _ _) _) ⟨_, rfl, by simp⟩
    · intro vals W K hR hV hK
      have d2 := hV 2 (by simp)
      simp only [bdV] at d2
      obtain ⟨b, d2, hcell⟩ := d2
      simp only [Reg.putS, List.foldl, List.headD, List.tail, List.getD_cons_zero, List.getD_cons_succ, Act.put, List.setIfInBounds_toArray, List.set_cons_zero, List.set_cons_succ, d2] at hK ⊢
      have hcv := hcg W b hcell
      go_simp
      first
        | exact hK _ _ (Below.refl _ _) rfl
        | (rw [if_pos (by omega)]; exact hK _ _ (Below.refl _ _) rfl)
        | (rw [dif_pos (by omega)]; exact hK _ _ (Below.refl _ _) rfl)
        | (rw [if_neg (by omega)]; exact hK _ _ (Below.refl _ _) rfl)
    · intro vals W K hR hV hK
      simp only [Reg.putS, List.foldl, List.headD, List.tail, List.getD_cons_zero, List.getD_cons_succ, Act.put, List.setIfInBounds_toArray, List.set_cons_zero, List.set_cons_succ] at hK ⊢
      go_simp
      first
        | exact hK _ _ (Below.refl _ _) rfl
        | (rw [if_pos (by omega)]; exact hK _ _ (Below.refl _ _) rfl)
        | (rw [dif_pos (by omega)]; exact hK _ _ (Below.refl _ _) rfl)
        | (rw [if_neg (by omega)]; exact hK _ _ (Below.refl _ _) rfl)
    · intro vals W K hR hV hK
      have d4 := hV 4 (by simp)
      simp only [bdV] at d4
      simp only [Reg.putS, List.foldl, List.headD, List.tail, List.getD_cons_zero, List.getD_cons_succ, Act.put, List.setIfInBounds_toArray, List.set_cons_zero, List.set_cons_succ, d4] at hK ⊢
      go_simp
      first
        | exact hK _ _ (Below.refl _ _) rfl
        | (rw [if_pos (by omega)]; exact hK _ _ (Below.refl _ _) rfl)
        | (rw [dif_pos (by omega)]; exact hK _ _ (Below.refl _ _) rfl)
        | (rw [if_neg (by omega)]; exact hK _ _ (Below.refl _ _) rfl)
    · intro vals W K hR hV hK
      have d5 := hV 5 (by simp)
      simp only [bdV] at d5
      simp only [Reg.putS, List.foldl, List.headD, List.tail, List.getD_cons_zero, List.getD_cons_succ, Act.put, List.setIfInBounds_toArray, List.set_cons_zero, List.set_cons_succ, d5] at hK ⊢
      go_simp
      refine (refBig_call raw 2 _ (by omega) (by omega) (by omega)).mono ?_
      rintro e w2 ⟨rfl, hb⟩
      exact hK _ _ hb rfl
    · intro vals W K hR hV hK
      have d3 := hV 3 (by simp)
      simp only [bdV] at d3
      have d6 := hV 6 (by simp)
      simp only [bdV] at d6
      simp only [Reg.putS, List.foldl, List.headD, List.tail, List.getD_cons_zero, List.getD_cons_succ, Act.put, List.setIfInBounds_toArray, List.set_cons_zero, List.set_cons_succ, d3, d6] at hK ⊢
      go_simp
      first
        | exact hK _ _ (Below.refl _ _) rfl
        | (rw [if_pos (by omega)]; exact hK _ _ (Below.refl _ _) rfl)
        | (rw [dif_pos (by omega)]; exact hK _ _ (Below.refl _ _) rfl)
        | (rw [if_neg (by omega)]; exact hK _ _ (Below.refl _ _) rfl)
    · intro vals W K hR hV hK
      simp only [Reg.putS, List.foldl, List.headD, List.tail, List.getD_cons_zero, List.getD_cons_succ, Act.put, List.setIfInBounds_toArray, List.set_cons_zero, List.set_cons_succ] at hK ⊢
      go_simp
      first
        | exact hK _ _ (Below.refl _ _) rfl
        | (rw [if_pos (by omega)]; exact hK _ _ (Below.refl _ _) rfl)
        | (rw [dif_pos (by omega)]; exact hK _ _ (Below.refl _ _) rfl)
        | (rw [if_neg (by omega)]; exact hK _ _ (Below.refl _ _) rfl)
    · intro vals W K hR hV hK
      have d8 := hV 8 (by simp)
      simp only [bdV] at d8
      simp only [Reg.putS, List.foldl, List.headD, List.tail, List.getD_cons_zero, List.getD_cons_succ, Act.put, List.setIfInBounds_toArray, List.set_cons_zero, List.set_cons_succ, d8] at hK ⊢
      go_simp
      first
        | exact hK _ _ (Below.refl _ _) rfl
        | (rw [if_pos (by omega)]; exact hK _ _ (Below.refl _ _) rfl)
        | (rw [dif_pos (by omega)]; exact hK _ _ (Below.refl _ _) rfl)
        | (rw [if_neg (by omega)]; exact hK _ _ (Below.refl _ _) rfl)
    · intro vals W K hR hV hK
      have d6 := hV 6 (by simp)
      simp only [bdV] at d6
      have d9 := hV 9 (by simp)
      simp only [bdV] at d9
      simp only [Reg.putS, List.foldl, List.headD, List.tail, List.getD_cons_zero, List.getD_cons_succ, Act.put, List.setIfInBounds_toArray, List.set_cons_zero, List.set_cons_succ, d6, d9] at hK ⊢
      go_simp
      refine (refBig_call (n : Int) 2 _ (by omega) (by omega) (by omega)).mono ?_
      rintro e w2 ⟨rfl, hb⟩
      exact hK _ _ hb rfl
    · intro vals W K hR hV hK
      have d7 := hV 7 (by simp)
      simp only [bdV] at d7
      have d10 := hV 10 (by simp)
      simp only [bdV] at d10
      simp only [Reg.putS, List.foldl, List.headD, List.tail, List.getD_cons_zero, List.getD_cons_succ, Act.put, List.setIfInBounds_toArray, List.set_cons_zero, List.set_cons_succ, d7, d10] at hK ⊢
      go_simp
      first
        | exact hK _ _ (Below.refl _ _) rfl
        | (rw [if_pos (by omega)]; exact hK _ _ (Below.refl _ _) rfl)
        | (rw [dif_pos (by omega)]; exact hK _ _ (Below.refl _ _) rfl)
        | (rw [if_neg (by omega)]; exact hK _ _ (Below.refl _ _) rfl)
    · intro vals W K hR hV hK
      simp only [Reg.putS, List.foldl, List.headD, List.tail, List.getD_cons_zero, List.getD_cons_succ, Act.put, List.setIfInBounds_toArray, List.set_cons_zero, List.set_cons_succ] at hK ⊢
      go_simp
      first
        | exact hK _ _ (Below.refl _ _) rfl
        | (rw [if_pos (by omega)]; exact hK _ _ (Below.refl _ _) rfl)
        | (rw [dif_pos (by omega)]; exact hK _ _ (Below.refl _ _) rfl)
        | (rw [if_neg (by omega)]; exact hK _ _ (Below.refl _ _) rfl)
    · intro vals W K hR hV hK
      have d12 := hV 12 (by simp)
      simp only [bdV] at d12
      simp only [Reg.putS, List.foldl, List.headD, List.tail, List.getD_cons_zero, List.getD_cons_succ, Act.put, List.setIfInBounds_toArray, List.set_cons_zero, List.set_cons_succ, d12] at hK ⊢
      go_simp
      first
        | exact hK _ _ (Below.refl _ _) rfl
        | (rw [if_pos (by omega)]; exact hK _ _ (Below.refl _ _) rfl)
        | (rw [dif_pos (by omega)]; exact hK _ _ (Below.refl _ _) rfl)
        | (rw [if_neg (by omega)]; exact hK _ _ (Below.refl _ _) rfl)
    · intro vals W K hR hV hK
      have d10 := hV 10 (by simp)
      simp only [bdV] at d10
      have d13 := hV 13 (by simp)
      simp only [bdV] at d13
      simp only [Reg.putS, List.foldl, List.headD, List.tail, List.getD_cons_zero, List.getD_cons_succ, Act.put, List.setIfInBounds_toArray, List.set_cons_zero, List.set_cons_succ, d10, d13] at hK ⊢
      go_simp
      refine (refBig_call sum 4 _ (by omega) (by omega) (by omega)).mono ?_
      rintro e w2 ⟨rfl, hb⟩
      exact hK _ _ hb rfl
    · intro vals W K hR hV hK
      have d11 := hV 11 (by simp)
      simp only [bdV] at d11
      have d14 := hV 14 (by simp)
      simp only [bdV] at d14
      simp only [Reg.putS, List.foldl, List.headD, List.tail, List.getD_cons_zero, List.getD_cons_succ, Act.put, List.setIfInBounds_toArray, List.set_cons_zero, List.set_cons_succ, d11, d14] at hK ⊢
      go_simp
      first
        | exact hK _ _ (Below.refl _ _) rfl
        | (rw [if_pos (by omega)]; exact hK _ _ (Below.refl _ _) rfl)
        | (rw [dif_pos (by omega)]; exact hK _ _ (Below.refl _ _) rfl)
        | (rw [if_neg (by omega)]; exact hK _ _ (Below.refl _ _) rfl)
    · intro vals W K hR hV hK
      have d0 := hV 0 (by simp)
      simp only [bdV] at d0
      have d1 := hV 1 (by simp)
      simp only [bdV] at d1
      have d2 := hV 2 (by simp)
      simp only [bdV] at d2
      obtain ⟨b, d2, hcell⟩ := d2
      have d3 := hV 3 (by simp)
      simp only [bdV] at d3
      have d4 := hV 4 (by simp)
      simp only [bdV] at d4
      have d5 := hV 5 (by simp)
      simp only [bdV] at d5
      have d6 := hV 6 (by simp)
      simp only [bdV] at d6
      have d7 := hV 7 (by simp)
      simp only [bdV] at d7
      have d8 := hV 8 (by simp)
      simp only [bdV] at d8
      have d9 := hV 9 (by simp)
      simp only [bdV] at d9
      have d10 := hV 10 (by simp)
      simp only [bdV] at d10
      have d11 := hV 11 (by simp)
      simp only [bdV] at d11
      have d12 := hV 12 (by simp)
      simp only [bdV] at d12
      have d13 := hV 13 (by simp)
      simp only [bdV] at d13
      have d14 := hV 14 (by simp)
      simp only [bdV] at d14
      have d15 := hV 15 (by simp)
      simp only [bdV] at d15
      simp only [Reg.putS, List.foldl, List.headD, List.tail, List.getD_cons_zero, List.getD_cons_succ, Act.put, List.setIfInBounds_toArray, List.set_cons_zero, List.set_cons_succ, d0, d1, d2, d3, d4, d5, d6, d7, d8, d9, d10, d11, d12, d13, d14, d15] at hK ⊢
      go_simp
      first
        | exact hK _ _ (Below.refl _ _) rfl
        | (rw [if_pos (by omega)]; exact hK _ _ (Below.refl _ _) rfl)
        | (rw [dif_pos (by omega)]; exact hK _ _ (Below.refl _ _) rfl)
        | (rw [if_neg (by omega)]; exact hK _ _ (Below.refl _ _) rfl)
  · intro vals W hR hV
    rw [show List.range (List.length [some 97, some 98, some 99, some 100, some 101, some 102, some 103, some 104, some 105, some 106, some 107, some 108, some 109, some 110, some 111, some 112, some 15]) = [0, 1, 2, 3, 4, 5, 6, 7, 8, 9, 10, 11, 12, 13, 14, 15, 16] from rfl]
    have d0 := hV 0 (by decide)
    simp only [bdV] at d0
    have d1 := hV 1 (by decide)
    simp only [bdV] at d1
    have d2 := hV 2 (by decide)
    simp only [bdV] at d2
    obtain ⟨b, d2, hcell⟩ := d2
    have d3 := hV 3 (by decide)
    simp only [bdV] at d3
    have d4 := hV 4 (by decide)
    simp only [bdV] at d4
    have d5 := hV 5 (by decide)
    simp only [bdV] at d5
    have d6 := hV 6 (by decide)
    simp only [bdV] at d6
    have d7 := hV 7 (by decide)
    simp only [bdV] at d7
    have d8 := hV 8 (by decide)
    simp only [bdV] at d8
    have d9 := hV 9 (by decide)
    simp only [bdV] at d9
    have d10 := hV 10 (by decide)
    simp only [bdV] at d10
    have d11 := hV 11 (by decide)
    simp only [bdV] at d11
    have d12 := hV 12 (by decide)
    simp only [bdV] at d12
    have d13 := hV 13 (by decide)
    simp only [bdV] at d13
    have d14 := hV 14 (by decide)
    simp only [bdV] at d14
    have d15 := hV 15 (by decide)
    simp only [bdV] at d15
    have d16 := hV 16 (by decide)
    simp only [bdV] at d16
    clear hV
    simp only [Reg.putS, List.foldl, List.getD_cons_zero, List.getD_cons_succ, Act.put, List.setIfInBounds_toArray, List.set_cons_zero, List.set_cons_succ, d0, d1, d2, d3, d4, d5, d6, d7, d8, d9, d10, d11, d12, d13, d14, d15, d16]
    clear d0 d1 d2 d3 d4 d5 d6 d7 d8 d9 d10 d11 d12 d13 d14 d15 d16
    replace bel := bstep (below_drew bel) hR
    replace f0 := pw_cell_below hR f0
    replace f1 := pw_cell_below hR f1
    replace f2 := pw_cell_below hR f2
    replace f3 := pw_cell_below hR f3
    clear hR
    go_wp2_with fail
    refine (fget_any (headB p raw n sum) bs _ (by omega)).mono ?_
    rintro e w3 ⟨rfl, hb3⟩
    replace f0 := pw_cell_below hb3 f0
    replace f1 := pw_cell_below hb3 f1
    replace f2 := pw_cell_below hb3 f2
    replace f3 := pw_cell_below hb3 f3
    replace bel := bstep bel hb3
    simp only [getOut, frameAgg, hqe]
    have y0 : (w3.alloc (.cells #[.int .i64 0, .int .i64 0, .int .u32 0, .string ⟨#[]⟩] 58)).cell? ⟨w3.heap.size, 0, none⟩ = some (.int .i64 0) := by simp
    have y1 : (w3.alloc (.cells #[.int .i64 0, .int .i64 0, .int .u32 0, .string ⟨#[]⟩] 58)).cell? ⟨w3.heap.size, 1, none⟩ = some (.int .i64 0) := by simp
    have y2 : (w3.alloc (.cells #[.int .i64 0, .int .i64 0, .int .u32 0, .string ⟨#[]⟩] 58)).cell? ⟨w3.heap.size, 2, none⟩ = some (.int .u32 0) := by simp
    have y3 : (w3.alloc (.cells #[.int .i64 0, .int .i64 0, .int .u32 0, .string ⟨#[]⟩] 58)).cell? ⟨w3.heap.size, 3, none⟩ = some (.string ⟨#[]⟩) := by simp
    have f0n := pw_cell_below (balloc (Below.refl w3.heap.size w3) (.cells #[.int .i64 0, .int .i64 0, .int .u32 0, .string ⟨#[]⟩] 58)) f0
    have f1n := pw_cell_below (balloc (Below.refl w3.heap.size w3) (.cells #[.int .i64 0, .int .i64 0, .int .u32 0, .string ⟨#[]⟩] 58)) f1
    have f2n := pw_cell_below (balloc (Below.refl w3.heap.size w3) (.cells #[.int .i64 0, .int .i64 0, .int .u32 0, .string ⟨#[]⟩] 58)) f2
    have f3n := pw_cell_below (balloc (Below.refl w3.heap.size w3) (.cells #[.int .i64 0, .int .i64 0, .int .u32 0, .string ⟨#[]⟩] 58)) f3
    have beln := bstep bel (balloc (Below.refl w3.heap.size w3) (.cells #[.int .i64 0, .int .i64 0, .int .u32 0, .string ⟨#[]⟩] 58))
    go_wp2_with fail
    refine (fget_any (headB p raw n sum ++ zs) bs _ (by rw [ByteArray.size_append]; omega)).mono ?_
    rintro e w4 ⟨rfl, hb4⟩
    replace f0 := pw_cell_below hb4 f0n
    clear f0n
    replace f1 := pw_cell_below hb4 f1n
    clear f1n
    replace f2 := pw_cell_below hb4 f2n
    clear f2n
    replace f3 := pw_cell_below hb4 f3n
    clear f3n
    replace y0 := pw_cell_below hb4 y0
    replace y1 := pw_cell_below hb4 y1
    replace y2 := pw_cell_below hb4 y2
    replace y3 := pw_cell_below hb4 y3
    replace bel := bstep beln hb4
    clear beln
    simp only [getOut, frameAgg, hqh]
    have z0 : (w4.alloc (.cells #[.int .i64 0, .int .i64 0, .int .u32 0, .string ⟨#[]⟩] 58)).cell? ⟨w4.heap.size, 0, none⟩ = some (.int .i64 0) := by simp
    have z1 : (w4.alloc (.cells #[.int .i64 0, .int .i64 0, .int .u32 0, .string ⟨#[]⟩] 58)).cell? ⟨w4.heap.size, 1, none⟩ = some (.int .i64 0) := by simp
    have z2 : (w4.alloc (.cells #[.int .i64 0, .int .i64 0, .int .u32 0, .string ⟨#[]⟩] 58)).cell? ⟨w4.heap.size, 2, none⟩ = some (.int .u32 0) := by simp
    have z3 : (w4.alloc (.cells #[.int .i64 0, .int .i64 0, .int .u32 0, .string ⟨#[]⟩] 58)).cell? ⟨w4.heap.size, 3, none⟩ = some (.string ⟨#[]⟩) := by simp
    have f0n := pw_cell_below (balloc (Below.refl w4.heap.size w4) (.cells #[.int .i64 0, .int .i64 0, .int .u32 0, .string ⟨#[]⟩] 58)) f0
    have f1n := pw_cell_below (balloc (Below.refl w4.heap.size w4) (.cells #[.int .i64 0, .int .i64 0, .int .u32 0, .string ⟨#[]⟩] 58)) f1
    have f2n := pw_cell_below (balloc (Below.refl w4.heap.size w4) (.cells #[.int .i64 0, .int .i64 0, .int .u32 0, .string ⟨#[]⟩] 58)) f2
    have f3n := pw_cell_below (balloc (Below.refl w4.heap.size w4) (.cells #[.int .i64 0, .int .i64 0, .int .u32 0, .string ⟨#[]⟩] 58)) f3
    have y0n := pw_cell_below (balloc (Below.refl w4.heap.size w4) (.cells #[.int .i64 0, .int .i64 0, .int .u32 0, .string ⟨#[]⟩] 58)) y0
    have y1n := pw_cell_below (balloc (Below.refl w4.heap.size w4) (.cells #[.int .i64 0, .int .i64 0, .int .u32 0, .string ⟨#[]⟩] 58)) y1
    have y2n := pw_cell_below (balloc (Below.refl w4.heap.size w4) (.cells #[.int .i64 0, .int .i64 0, .int .u32 0, .string ⟨#[]⟩] 58)) y2
    have y3n := pw_cell_below (balloc (Below.refl w4.heap.size w4) (.cells #[.int .i64 0, .int .i64 0, .int .u32 0, .string ⟨#[]⟩] 58)) y3
    have beln := bstep bel (balloc (Below.refl w4.heap.size w4) (.cells #[.int .i64 0, .int .i64 0, .int .u32 0, .string ⟨#[]⟩] 58))
    go_wp2_with fail
    go_returns
    exact ⟨rfl, beln⟩
set_option maxRecDepth 20000 in
set_option maxHeartbeats 2000000 in
theorem bounds_n3_2 (raw bs sum : Int) (n : Nat) (w : World) (hk : (2 : Int) = 1 ∨ (2 : Int) = 2) (h0 : ¬ raw < 0) (h1 : ¬ 65535 < raw) (h3 : n ≤ 2000) (h4 : ¬ bs < 1) (h5 : ¬ 2000 < bs) (hsu : 0 ≤ sum ∧ sum < 4294967296) (h6 : 1 ≤ raw ∧ raw ≤ 1024) (h7 : n < 1) :
    Calls Try.prog 18 #[.int .i64 2, .int .i64 raw, .int .i64 (n : Int), .int .i64 bs, .int .u32 sum] w fun e w' => e = .returned (.bool true) ∧ Below w.heap.size w w' := by
  have hbs := bigS_size
  obtain ⟨p, hp⟩ : ∃ p, p = strOfNums [2] := ⟨_, rfl⟩
  have hps : p.size = 1 := by rw [hp]; rfl
  have hcg : ∀ (W : World) (b : Nat), W.cell? ⟨b, 0, none⟩ = some (.int .u8 2) → (convert 32 9 (.slice (some ⟨b, 0, none⟩) 1 1)).run Try.prog W = .ok (.string p) W := fun W b h => by rw [hp]; exact conv1 W b 2 h
  obtain ⟨zs, hzd⟩ : ∃ zs, zs = CrcN.zeroS n := ⟨_, rfl⟩
  have hzz : zs.size = n := by rw [hzd]; exact zero_size n
  have hcz : ∀ (W : World) (b : Nat), (∀ j, j < n → W.cell? ⟨b, j, none⟩ = some (.int .u8 0)) → (convert 32 9 (.slice (some ⟨b, 0, none⟩) n n)).run Try.prog W = .ok (.string zs) W := fun W b h => by rw [hzd]; exact CrcN.conv_n W b n h
  clear hzd
  have hB : (headB p raw n sum).size = 9 := by unfold headB; simp only [ByteArray.size_append, bigS_size, hps]
  have hla : (headB p raw n sum).size + zs.size ≤ maxLen := by rw [hB, hzz]; unfold maxLen; omega
  have hla2 : 9 + n ≤ maxLen := by unfold maxLen; omega
  have hla3 : 9 + zs.size ≤ maxLen := by rw [hzz]; unfold maxLen; omega
  have hwk : IntKind.u8.wrap 2 = 2 := by rfl
  have hwr : IntKind.u64.wrap raw = raw := by rw [show raw = ((raw.toNat : Nat) : Int) by omega]; exact wrap64u _ (by omega)
  have hwn : IntKind.u64.wrap (n : Int) = (n : Int) := wrap64u _ (by omega)
  have hws : IntKind.u64.wrap sum = sum := by rw [show sum = ((sum.toNat : Nat) : Int) by omega]; exact wrap64u _ (by omega)
  have hw9 : IntKind.i64.wrap (9 + (n : Int)) = 9 + (n : Int) := by rw [IntKind.wrap_i64]; omega
  have x1 : decide (raw < 0) = false := by simp <;> omega
  have x2 : decide (raw > 65535) = false := by simp <;> omega
  have x3 : decide ((n : Int) < 0) = false := by simp <;> omega
  have x4 : decide ((n : Int) > 2000) = false := by simp <;> omega
  have x5 : decide (bs < 1) = false := by simp <;> omega
  have x6 : decide (bs > 2000) = false := by simp <;> omega
  have y1 : decide (raw ≥ 1) = true := by simp <;> omega
  have y2 : decide (raw ≤ 1024) = true := by simp <;> omega
  have y3 : decide ((n : Int) ≥ 1) = false := by simp <;> omega
  have hfit : fitsB 2 raw zs.size 1024 = false := by rw [hzz]; unfold fitsB; simp; omega
  have hok : ¬ okF 2 raw sum zs := no_block (by omega) hfit
  have hpf : putF 2 raw sum zs = ⟨#[]⟩ := by unfold putF; rw [if_neg hok]
  have hqe := getB_no 2 raw sum bs n ⟨#[]⟩ hk (by omega) (by omega) hsu (.inr (by rw [← hzz]; exact hfit))
  have hqh := getB_no 2 raw sum bs n zs hk (by omega) (by omega) hsu (.inr (by rw [← hzz]; exact hfit))
  rw [← hp] at hqe hqh
  rw [app_empty] at hqe
  clear hp
  have bel : Below w.heap.size w w := Below.refl _ _
  go_enter Try.func18, Try.ntmps18
  go_wp2_with fail
  refine (alive_call _).mono ?_
  rintro e w1 ⟨rfl, hb1⟩
  replace bel := bstep bel hb1
  have hmk := CrcN.make_n w1 n (by omega)
  have hcv := hcz (w1.alloc (.cells (madeCells #[Value.int .u8 0] n) 5)) w1.heap.size (CrcN.made_cells w1 n)
  replace bel := bstep bel (balloc (Below.refl w1.heap.size w1) (.cells (madeCells #[Value.int .u8 0] n) 5))
  have f0 : ((w1.alloc (.cells (madeCells #[Value.int .u8 0] n) 5)).alloc (.cells #[.int .i64 2, .int .i64 raw, .int .u32 sum, .string zs] 58)).cell? ⟨w1.heap.size + 1, 0, none⟩ = some (.int .i64 2) := by simp
  have f1 : ((w1.alloc (.cells (madeCells #[Value.int .u8 0] n) 5)).alloc (.cells #[.int .i64 2, .int .i64 raw, .int .u32 sum, .string zs] 58)).cell? ⟨w1.heap.size + 1, 1, none⟩ = some (.int .i64 raw) := by simp
  have f2 : ((w1.alloc (.cells (madeCells #[Value.int .u8 0] n) 5)).alloc (.cells #[.int .i64 2, .int .i64 raw, .int .u32 sum, .string zs] 58)).cell? ⟨w1.heap.size + 1, 2, none⟩ = some (.int .u32 sum) := by simp
  have f3 : ((w1.alloc (.cells (madeCells #[Value.int .u8 0] n) 5)).alloc (.cells #[.int .i64 2, .int .i64 raw, .int .u32 sum, .string zs] 58)).cell? ⟨w1.heap.size + 1, 3, none⟩ = some (.string zs) := by simp
  replace bel := bstep bel (balloc (Below.refl (w1.alloc (.cells (madeCells #[Value.int .u8 0] n) 5)).heap.size (w1.alloc (.cells (madeCells #[Value.int .u8 0] n) 5))) (.cells #[.int .i64 2, .int .i64 raw, .int .u32 sum, .string zs] 58))
  go_wp2_with fail
  refine (put_any 2 raw sum zs _ hsu).mono ?_
  rintro e w2 ⟨rfl, hb2⟩
  replace f0 := pw_cell_below hb2 f0
  replace f1 := pw_cell_below hb2 f1
  replace f2 := pw_cell_below hb2 f2
  replace f3 := pw_cell_below hb2 f3
  replace bel := bstep bel hb2
  rw [decide_eq_false hok, hpf]
  clear hmk hcv
  go_wp2_with fail
  refine Reg.wp_region_lists (fun W W' => Below W.heap.size W W') (bdV 2 raw sum n p w2.heap.size)
    [some 97, some 98, some 99, some 100, some 101, some 102, some 103, some 104, some 105, some 106, some 107, some 108, some 109, some 110, some 111, some 112, some 15]
    [[], [0], [1], [2], [], [4], [5], [3, 6], [], [8], [9, 6], [7, 10], [], [12], [13, 10], [11, 14], [15, 14, 0, 1, 2, 3, 4, 5, 6, 7, 8, 9, 10, 11, 12, 13, 14, 15]]
    (by kernel_rfl) (by kernel_rfl) (by kernel_rfl) (fun _ => Below.refl _ _) (fun _ _ _ h k => bstep h k) ?_ ?_ ?_
  · intro i v W W' h k
    unfold bdV at h ⊢
    split at h <;> first | exact h | (obtain ⟨b, e, hc⟩ := h; exact ⟨b, e, pw_cell_below k hc⟩)
  · refine ⟨?_, ?_, ?_, ?_, ?_, ?_, ?_, ?_, ?_, ?_, ?_, ?_, ?_, ?_, ?_, ?_, ?_, trivial⟩
    · intro vals W K hR hV hK
      simp only [Reg.putS, List.foldl, List.headD, List.tail, List.getD_cons_zero, List.getD_cons_succ, Act.put, List.setIfInBounds_toArray, List.set_cons_zero, List.set_cons_succ] at hK ⊢
      go_simp
      first
        | exact hK _ _ (Below.refl _ _) rfl
        | (rw [if_pos (by omega)]; exact hK _ _ (Below.refl _ _) rfl)
        | (rw [dif_pos (by omega)]; exact hK _ _ (Below.refl _ _) rfl)
        | (rw [if_neg (by omega)]; exact hK _ _ (Below.refl _ _) rfl)
    · intro vals W K hR hV hK
      have d0 := hV 0 (by simp)
      simp only [bdV] at d0
      simp only [Reg.putS, List.foldl, List.headD, List.tail, List.getD_cons_zero, List.getD_cons_succ, Act.put, List.setIfInBounds_toArray, List.set_cons_zero, List.set_cons_succ, d0] at hK ⊢
      go_simp
      first
        | exact hK _ _ (Below.refl _ _) rfl
        | (rw [if_pos (by omega)]; exact hK _ _ (Below.refl _ _) rfl)
        | (rw [dif_pos (by omega)]; exact hK _ _ (Below.refl _ _) rfl)
        | (rw [if_neg (by omega)]; exact hK _ _ (Below.refl _ _) rfl)
    · intro vals W K hR hV hK
      have d1 := hV 1 (by simp)
      simp only [bdV] at d1
      simp only [Reg.putS, List.foldl, List.headD, List.tail, List.getD_cons_zero, List.getD_cons_succ, Act.put, List.setIfInBounds_toArray, List.set_cons_zero, List.set_cons_succ, d1] at hK ⊢
      go_simp
      exact hK _ _ (balloc (Below.refl _ _) _) ⟨_, rfl, by simp⟩
    · intro vals W K hR hV hK
      have d2 := hV 2 (by simp)
      simp only [bdV] at d2
      obtain ⟨b, d2, hcell⟩ := d2
      simp only [Reg.putS, List.foldl, List.headD, List.tail, List.getD_cons_zero, List.getD_cons_succ, Act.put, List.setIfInBounds_toArray, List.set_cons_zero, List.set_cons_succ, d2] at hK ⊢
      have hcv := hcg W b hcell
      go_simp
      first
        | exact hK _ _ (Below.refl _ _) rfl
        | (rw [if_pos (by omega)]; exact hK _ _ (Below.refl _ _) rfl)
        | (rw [dif_pos (by omega)]; exact hK _ _ (Below.refl _ _) rfl)
        | (rw [if_neg (by omega)]; exact hK _ _ (Below.refl _ _) rfl)
    · intro vals W K hR hV hK
      simp only [Reg.putS, List.foldl, List.headD, List.tail, List.getD_cons_zero, List.getD_cons_succ, Act.put, List.setIfInBounds_toArray, List.set_cons_zero, List.set_cons_succ] at hK ⊢
      go_simp
      first
        | exact hK _ _ (Below.refl _ _) rfl
        | (rw [if_pos (by omega)]; exact hK _ _ (Below.refl _ _) rfl)
        | (rw [dif_pos (by omega)]; exact hK _ _ (Below.refl _ _) rfl)
        | (rw [if_neg (by omega)]; exact hK _ _ (Below.refl _ _) rfl)
    · intro vals W K hR hV hK
      have d4 := hV 4 (by simp)
      simp only [bdV] at d4
      simp only [Reg.putS, List.foldl, List.headD, List.tail, List.getD_cons_zero, List.getD_cons_succ, Act.put, List.setIfInBounds_toArray, List.set_cons_zero, List.set_cons_succ, d4] at hK ⊢
      go_simp
      first
        | exact hK _ _ (Below.refl _ _) rfl
        | (rw [if_pos (by omega)]; exact hK _ _ (Below.refl _ _) rfl)
        | (rw [dif_pos (by omega)]; exact hK _ _ (Below.refl _ _) rfl)
        | (rw [if_neg (by omega)]; exact hK _ _ (Below.refl _ _) rfl)
    · intro vals W K hR hV hK
      have d5 := hV 5 (by simp)
      simp only [bdV] at d5
      simp only [Reg.putS, List.foldl, List.headD, List.tail, List.getD_cons_zero, List.getD_cons_succ, Act.put, List.setIfInBounds_toArray, List.set_cons_zero, List.set_cons_succ, d5] at hK ⊢
      go_simp
      refine (refBig_call raw 2 _ (by omega) (by omega) (by omega)).mono ?_
      rintro e w2 ⟨rfl, hb⟩
      exact hK _ _ hb rfl
    · intro vals W K hR hV hK
      have d3 := hV 3 (by simp)
      simp only [bdV] at d3
      have d6 := hV 6 (by simp)
      simp only [bdV] at d6
      simp only [Reg.putS, List.foldl, List.headD, List.tail, List.getD_cons_zero, List.getD_cons_succ, Act.put, List.setIfInBounds_toArray, List.set_cons_zero, List.set_cons_succ, d3, d6] at hK ⊢
      go_simp
      first
        | exact hK _ _ (Below.refl _ _) rfl
        | (rw [if_pos (by omega)]; exact hK _ _ (Below.refl _ _) rfl)
        | (rw [dif_pos (by omega)]; exact hK _ _ (Below.refl _ _) rfl)
        | (rw [if_neg (by omega)]; exact hK _ _ (Below.refl _ _) rfl)
    · intro vals W K hR hV hK
      simp only [Reg.putS, List.foldl, List.headD, List.tail, List.getD_cons_zero, List.getD_cons_succ, Act.put, List.setIfInBounds_toArray, List.set_cons_zero, List.set_cons_succ] at hK ⊢
      go_simp
      first
        | exact hK _ _ (Below.refl _ _) rfl
        | (rw [if_pos (by omega)]; exact hK _ _ (Below.refl _ _) rfl)
        | (rw [dif_pos (by omega)]; exact hK _ _ (Below.refl _ _) rfl)
        | (rw [if_neg (by omega)]; exact hK _ _ (Below.refl _ _) rfl)
    · intro vals W K hR hV hK
      have d8 := hV 8 (by simp)
      simp only [bdV] at d8
      simp only [Reg.putS, List.foldl, List.headD, List.tail, List.getD_cons_zero, List.getD_cons_succ, Act.put, List.setIfInBounds_toArray, List.set_cons_zero, List.set_cons_succ, d8] at hK ⊢
      go_simp
      first
        | exact hK _ _ (Below.refl _ _) rfl
        | (rw [if_pos (by omega)]; exact hK _ _ (Below.refl _ _) rfl)
        | (rw [dif_pos (by omega)]; exact hK _ _ (Below.refl _ _) rfl)
        | (rw [if_neg (by omega)]; exact hK _ _ (Below.refl _ _) rfl)
    · intro vals W K hR hV hK
      have d6 := hV 6 (by simp)
      simp only [bdV] at d6
      have d9 := hV 9 (by simp)
      simp only [bdV] at d9
      simp only [Reg.putS, List.foldl, List.headD, List.tail, List.getD_cons_zero, List.getD_cons_succ, Act.put, List.setIfInBounds_toArray, List.set_cons_zero, List.set_cons_succ, d6, d9] at hK ⊢
      go_simp
      refine (refBig_call (n : Int) 2 _ (by omega) (by omega) (by omega)).mono ?_
      rintro e w2 ⟨rfl, hb⟩
      exact hK _ _ hb rfl
    · intro vals W K hR hV hK
      have d7 := hV 7 (by simp)
      simp only [bdV] at d7
      have d10 := hV 10 (by simp)
      simp only [bdV] at d10
      simp only [Reg.putS, List.foldl, List.headD, List.tail, List.getD_cons_zero, List.getD_cons_succ, Act.put, List.setIfInBounds_toArray, List.set_cons_zero, List.set_cons_succ, d7, d10] at hK ⊢
      go_simp
      first
        | exact hK _ _ (Below.refl _ _) rfl
        | (rw [if_pos (by omega)]; exact hK _ _ (Below.refl _ _) rfl)
        | (rw [dif_pos (by omega)]; exact hK _ _ (Below.refl _ _) rfl)
        | (rw [if_neg (by omega)]; exact hK _ _ (Below.refl _ _) rfl)
    · intro vals W K hR hV hK
      simp only [Reg.putS, List.foldl, List.headD, List.tail, List.getD_cons_zero, List.getD_cons_succ, Act.put, List.setIfInBounds_toArray, List.set_cons_zero, List.set_cons_succ] at hK ⊢
      go_simp
      first
        | exact hK _ _ (Below.refl _ _) rfl
        | (rw [if_pos (by omega)]; exact hK _ _ (Below.refl _ _) rfl)
        | (rw [dif_pos (by omega)]; exact hK _ _ (Below.refl _ _) rfl)
        | (rw [if_neg (by omega)]; exact hK _ _ (Below.refl _ _) rfl)
    · intro vals W K hR hV hK
      have d12 := hV 12 (by simp)
      simp only [bdV] at d12
      simp only [Reg.putS, List.foldl, List.headD, List.tail, List.getD_cons_zero, List.getD_cons_succ, Act.put, List.setIfInBounds_toArray, List.set_cons_zero, List.set_cons_succ, d12] at hK ⊢
      go_simp
      first
        | exact hK _ _ (Below.refl _ _) rfl
        | (rw [if_pos (by omega)]; exact hK _ _ (Below.refl _ _) rfl)
        | (rw [dif_pos (by omega)]; exact hK _ _ (Below.refl _ _) rfl)
        | (rw [if_neg (by omega)]; exact hK _ _ (Below.refl _ _) rfl)
    · intro vals W K hR hV hK
      have d10 := hV 10 (by simp)
      simp only [bdV] at d10
      have d13 := hV 13 (by simp)
      simp only [bdV] at d13
      simp only [Reg.putS, List.foldl, List.headD, List.tail, List.getD_cons_zero, List.getD_cons_succ, Act.put, List.setIfInBounds_toArray, List.set_cons_zero, List.set_cons_succ, d10, d13] at hK ⊢
      go_simp
      refine (refBig_call sum 4 _ (by omega) (by omega) (by omega)).mono ?_
      rintro e w2 ⟨rfl, hb⟩
      exact hK _ _ hb rfl
    · intro vals W K hR hV hK
      have d11 := hV 11 (by simp)
      simp only [bdV] at d11
      have d14 := hV 14 (by simp)
      simp only [bdV] at d14
      simp only [Reg.putS, List.foldl, List.headD, List.tail, List.getD_cons_zero, List.getD_cons_succ, Act.put, List.setIfInBounds_toArray, List.set_cons_zero, List.set_cons_succ, d11, d14] at hK ⊢
      go_simp
      first
        | exact hK _ _ (Below.refl _ _) rfl
        | (rw [if_pos (by omega)]; exact hK _ _ (Below.refl _ _) rfl)
        | (rw [dif_pos (by omega)]; exact hK _ _ (Below.refl _ _) rfl)
        | (rw [if_neg (by omega)]; exact hK _ _ (Below.refl _ _) rfl)
    · intro vals W K hR hV hK
      have d0 := hV 0 (by simp)
      simp only [bdV] at d0
      have d1 := hV 1 (by simp)
      simp only [bdV] at d1
      have d2 := hV 2 (by simp)
      simp only [bdV] at d2
      obtain ⟨b, d2, hcell⟩ := d2
      have d3 := hV 3 (by simp)
      simp only [bdV] at d3
      have d4 := hV 4 (by simp)
      simp only [bdV] at d4
      have d5 := hV 5 (by simp)
      simp only [bdV] at d5
      have d6 := hV 6 (by simp)
      simp only [bdV] at d6
      have d7 := hV 7 (by simp)
      simp only [bdV] at d7
      have d8 := hV 8 (by simp)
      simp only [bdV] at d8
      have d9 := hV 9 (by simp)
      simp only [bdV] at d9
      have d10 := hV 10 (by simp)
      simp only [bdV] at d10
      have d11 := hV 11 (by simp)
      simp only [bdV] at d11
      have d12 := hV 12 (by simp)
      simp only [bdV] at d12
      have d13 := hV 13 (by simp)
      simp only [bdV] at d13
      have d14 := hV 14 (by simp)
      simp only [bdV] at d14
      have d15 := hV 15 (by simp)
      simp only [bdV] at d15
      simp only [Reg.putS, List.foldl, List.headD, List.tail, List.getD_cons_zero, List.getD_cons_succ, Act.put, List.setIfInBounds_toArray, List.set_cons_zero, List.set_cons_succ, d0, d1, d2, d3, d4, d5, d6, d7, d8, d9, d10, d11, d12, d13, d14, d15] at hK ⊢
      go_simp
      first
        | exact hK _ _ (Below.refl _ _) rfl
        | (rw [if_pos (by omega)]; exact hK _ _ (Below.refl _ _) rfl)
        | (rw [dif_pos (by omega)]; exact hK _ _ (Below.refl _ _) rfl)
        | (rw [if_neg (by omega)]; exact hK _ _ (Below.refl _ _) rfl)
  · intro vals W hR hV
    rw [show List.range (List.length [some 97, some 98, some 99, some 100, some 101, some 102, some 103, some 104, some 105, some 106, some 107, some 108, some 109, some 110, some 111, some 112, some 15]) = [0, 1, 2, 3, 4, 5, 6, 7, 8, 9, 10, 11, 12, 13, 14, 15, 16] from rfl]
    have d0 := hV 0 (by decide)
    simp only [bdV] at d0
    have d1 := hV 1 (by decide)
    simp only [bdV] at d1
    have d2 := hV 2 (by decide)
    simp only [bdV] at d2
    obtain ⟨b, d2, hcell⟩ := d2
    have d3 := hV 3 (by decide)
    simp only [bdV] at d3
    have d4 := hV 4 (by decide)
    simp only [bdV] at d4
    have d5 := hV 5 (by decide)
    simp only [bdV] at d5
    have d6 := hV 6 (by decide)
    simp only [bdV] at d6
    have d7 := hV 7 (by decide)
    simp only [bdV] at d7
    have d8 := hV 8 (by decide)
    simp only [bdV] at d8
    have d9 := hV 9 (by decide)
    simp only [bdV] at d9
    have d10 := hV 10 (by decide)
    simp only [bdV] at d10
    have d11 := hV 11 (by decide)
    simp only [bdV] at d11
    have d12 := hV 12 (by decide)
    simp only [bdV] at d12
    have d13 := hV 13 (by decide)
    simp only [bdV] at d13
    have d14 := hV 14 (by decide)
    simp only [bdV] at d14
    have d15 := hV 15 (by decide)
    simp only [bdV] at d15
    have d16 := hV 16 (by decide)
    simp only [bdV] at d16
    clear hV
    simp only [Reg.putS, List.foldl, List.getD_cons_zero, List.getD_cons_succ, Act.put, List.setIfInBounds_toArray, List.set_cons_zero, List.set_cons_succ, d0, d1, d2, d3, d4, d5, d6, d7, d8, d9, d10, d11, d12, d13, d14, d15, d16]
    clear d0 d1 d2 d3 d4 d5 d6 d7 d8 d9 d10 d11 d12 d13 d14 d15 d16
    replace bel := bstep (below_drew bel) hR
    replace f0 := pw_cell_below hR f0
    replace f1 := pw_cell_below hR f1
    replace f2 := pw_cell_below hR f2
    replace f3 := pw_cell_below hR f3
    clear hR
    go_wp2_with fail
    refine (fget_any (headB p raw n sum) bs _ (by omega)).mono ?_
    rintro e w3 ⟨rfl, hb3⟩
    replace f0 := pw_cell_below hb3 f0
    replace f1 := pw_cell_below hb3 f1
    replace f2 := pw_cell_below hb3 f2
    replace f3 := pw_cell_below hb3 f3
    replace bel := bstep bel hb3
    simp only [getOut, frameAgg, hqe]
    have y0 : (w3.alloc (.cells #[.int .i64 0, .int .i64 0, .int .u32 0, .string ⟨#[]⟩] 58)).cell? ⟨w3.heap.size, 0, none⟩ = some (.int .i64 0) := by simp
    have y1 : (w3.alloc (.cells #[.int .i64 0, .int .i64 0, .int .u32 0, .string ⟨#[]⟩] 58)).cell? ⟨w3.heap.size, 1, none⟩ = some (.int .i64 0) := by simp
    have y2 : (w3.alloc (.cells #[.int .i64 0, .int .i64 0, .int .u32 0, .string ⟨#[]⟩] 58)).cell? ⟨w3.heap.size, 2, none⟩ = some (.int .u32 0) := by simp
    have y3 : (w3.alloc (.cells #[.int .i64 0, .int .i64 0, .int .u32 0, .string ⟨#[]⟩] 58)).cell? ⟨w3.heap.size, 3, none⟩ = some (.string ⟨#[]⟩) := by simp
    have f0n := pw_cell_below (balloc (Below.refl w3.heap.size w3) (.cells #[.int .i64 0, .int .i64 0, .int .u32 0, .string ⟨#[]⟩] 58)) f0
    have f1n := pw_cell_below (balloc (Below.refl w3.heap.size w3) (.cells #[.int .i64 0, .int .i64 0, .int .u32 0, .string ⟨#[]⟩] 58)) f1
    have f2n := pw_cell_below (balloc (Below.refl w3.heap.size w3) (.cells #[.int .i64 0, .int .i64 0, .int .u32 0, .string ⟨#[]⟩] 58)) f2
    have f3n := pw_cell_below (balloc (Below.refl w3.heap.size w3) (.cells #[.int .i64 0, .int .i64 0, .int .u32 0, .string ⟨#[]⟩] 58)) f3
    have beln := bstep bel (balloc (Below.refl w3.heap.size w3) (.cells #[.int .i64 0, .int .i64 0, .int .u32 0, .string ⟨#[]⟩] 58))
    go_wp2_with fail
    refine (fget_any (headB p raw n sum ++ zs) bs _ (by rw [ByteArray.size_append]; omega)).mono ?_
    rintro e w4 ⟨rfl, hb4⟩
    replace f0 := pw_cell_below hb4 f0n
    clear f0n
    replace f1 := pw_cell_below hb4 f1n
    clear f1n
    replace f2 := pw_cell_below hb4 f2n
    clear f2n
    replace f3 := pw_cell_below hb4 f3n
    clear f3n
    replace y0 := pw_cell_below hb4 y0
    replace y1 := pw_cell_below hb4 y1
    replace y2 := pw_cell_below hb4 y2
    replace y3 := pw_cell_below hb4 y3
    replace bel := bstep beln hb4
    clear beln
    simp only [getOut, frameAgg, hqh]
    have z0 : (w4.alloc (.cells #[.int .i64 0, .int .i64 0, .int .u32 0, .string ⟨#[]⟩] 58)).cell? ⟨w4.heap.size, 0, none⟩ = some (.int .i64 0) := by simp
    have z1 : (w4.alloc (.cells #[.int .i64 0, .int .i64 0, .int .u32 0, .string ⟨#[]⟩] 58)).cell? ⟨w4.heap.size, 1, none⟩ = some (.int .i64 0) := by simp
    have z2 : (w4.alloc (.cells #[.int .i64 0, .int .i64 0, .int .u32 0, .string ⟨#[]⟩] 58)).cell? ⟨w4.heap.size, 2, none⟩ = some (.int .u32 0) := by simp
    have z3 : (w4.alloc (.cells #[.int .i64 0, .int .i64 0, .int .u32 0, .string ⟨#[]⟩] 58)).cell? ⟨w4.heap.size, 3, none⟩ = some (.string ⟨#[]⟩) := by simp
    have f0n := pw_cell_below (balloc (Below.refl w4.heap.size w4) (.cells #[.int .i64 0, .int .i64 0, .int .u32 0, .string ⟨#[]⟩] 58)) f0
    have f1n := pw_cell_below (balloc (Below.refl w4.heap.size w4) (.cells #[.int .i64 0, .int .i64 0, .int .u32 0, .string ⟨#[]⟩] 58)) f1
    have f2n := pw_cell_below (balloc (Below.refl w4.heap.size w4) (.cells #[.int .i64 0, .int .i64 0, .int .u32 0, .string ⟨#[]⟩] 58)) f2
    have f3n := pw_cell_below (balloc (Below.refl w4.heap.size w4) (.cells #[.int .i64 0, .int .i64 0, .int .u32 0, .string ⟨#[]⟩] 58)) f3
    have y0n := pw_cell_below (balloc (Below.refl w4.heap.size w4) (.cells #[.int .i64 0, .int .i64 0, .int .u32 0, .string ⟨#[]⟩] 58)) y0
    have y1n := pw_cell_below (balloc (Below.refl w4.heap.size w4) (.cells #[.int .i64 0, .int .i64 0, .int .u32 0, .string ⟨#[]⟩] 58)) y1
    have y2n := pw_cell_below (balloc (Below.refl w4.heap.size w4) (.cells #[.int .i64 0, .int .i64 0, .int .u32 0, .string ⟨#[]⟩] 58)) y2
    have y3n := pw_cell_below (balloc (Below.refl w4.heap.size w4) (.cells #[.int .i64 0, .int .i64 0, .int .u32 0, .string ⟨#[]⟩] 58)) y3
    have beln := bstep bel (balloc (Below.refl w4.heap.size w4) (.cells #[.int .i64 0, .int .i64 0, .int .u32 0, .string ⟨#[]⟩] 58))
    go_wp2_with fail
    go_returns
    exact ⟨rfl, beln⟩
set_option maxRecDepth 20000 in
set_option maxHeartbeats 2000000 in
theorem bounds_n4_1 (raw bs sum : Int) (n : Nat) (w : World) (hk : (1 : Int) = 1 ∨ (1 : Int) = 2) (h0 : ¬ raw < 0) (h1 : ¬ 65535 < raw) (h3 : n ≤ 2000) (h4 : ¬ bs < 1) (h5 : ¬ 2000 < bs) (hsu : 0 ≤ sum ∧ sum < 4294967296) (h6 : 1 ≤ raw ∧ raw ≤ 1024) (h7 : 1 ≤ n)  (h9 : (n : Int) ≠ raw) :
    Calls Try.prog 18 #[.int .i64 1, .int .i64 raw, .int .i64 (n : Int), .int .i64 bs, .int .u32 sum] w fun e w' => e = .returned (.bool true) ∧ Below w.heap.size w w' := by
  have hbs := bigS_size
  obtain ⟨p, hp⟩ : ∃ p, p = strOfNums [1] := ⟨_, rfl⟩
  have hps : p.size = 1 := by rw [hp]; rfl
  have hcg : ∀ (W : World) (b : Nat), W.cell? ⟨b, 0, none⟩ = some (.int .u8 1) → (convert 32 9 (.slice (some ⟨b, 0, none⟩) 1 1)).run Try.prog W = .ok (.string p) W := fun W b h => by rw [hp]; exact conv1 W b 1 h
  obtain ⟨zs, hzd⟩ : ∃ zs, zs = CrcN.zeroS n := ⟨_, rfl⟩
  have hzz : zs.size = n := by rw [hzd]; exact zero_size n
  have hcz : ∀ (W : World) (b : Nat), (∀ j, j < n → W.cell? ⟨b, j, none⟩ = some (.int .u8 0)) → (convert 32 9 (.slice (some ⟨b, 0, none⟩) n n)).run Try.prog W = .ok (.string zs) W := fun W b h => by rw [hzd]; exact CrcN.conv_n W b n h
  clear hzd
  have hB : (headB p raw n sum).size = 9 := by unfold headB; simp only [ByteArray.size_append, bigS_size, hps]
  have hla : (headB p raw n sum).size + zs.size ≤ maxLen := by rw [hB, hzz]; unfold maxLen; omega
  have hla2 : 9 + n ≤ maxLen := by unfold maxLen; omega
  have hla3 : 9 + zs.size ≤ maxLen := by rw [hzz]; unfold maxLen; omega
  have hwk : IntKind.u8.wrap 1 = 1 := by rfl
  have hwr : IntKind.u64.wrap raw = raw := by rw [show raw = ((raw.toNat : Nat) : Int) by omega]; exact wrap64u _ (by omega)
  have hwn : IntKind.u64.wrap (n : Int) = (n : Int) := wrap64u _ (by omega)
  have hws : IntKind.u64.wrap sum = sum := by rw [show sum = ((sum.toNat : Nat) : Int) by omega]; exact wrap64u _ (by omega)
  have hw9 : IntKind.i64.wrap (9 + (n : Int)) = 9 + (n : Int) := by rw [IntKind.wrap_i64]; omega
  have x1 : decide (raw < 0) = false := by simp <;> omega
  have x2 : decide (raw > 65535) = false := by simp <;> omega
  have x3 : decide ((n : Int) < 0) = false := by simp <;> omega
  have x4 : decide ((n : Int) > 2000) = false := by simp <;> omega
  have x5 : decide (bs < 1) = false := by simp <;> omega
  have x6 : decide (bs > 2000) = false := by simp <;> omega
  have y1 : decide (raw ≥ 1) = true := by simp <;> omega
  have y2 : decide (raw ≤ 1024) = true := by simp <;> omega
  have y3 : decide ((n : Int) ≥ 1) = true := by simp <;> omega
  have y4 : ((1 : Int) == 1) = true := by simp <;> omega
  have y5 : ((n : Int) == raw) = false := by simp <;> omega
  have y6 : ((1 : Int) == 2) = false := by simp <;> omega
  have hfit : fitsB 1 raw zs.size 1024 = false := by rw [hzz]; unfold fitsB; simp; omega
  have hok : ¬ okF 1 raw sum zs := no_block (by omega) hfit
  have hpf : putF 1 raw sum zs = ⟨#[]⟩ := by unfold putF; rw [if_neg hok]
  have hqe := getB_no 1 raw sum bs n ⟨#[]⟩ hk (by omega) (by omega) hsu (.inr (by rw [← hzz]; exact hfit))
  have hqh := getB_no 1 raw sum bs n zs hk (by omega) (by omega) hsu (.inr (by rw [← hzz]; exact hfit))
  rw [← hp] at hqe hqh
  rw [app_empty] at hqe
  clear hp
  have bel : Below w.heap.size w w := Below.refl _ _
  go_enter Try.func18, Try.ntmps18
  go_wp2_with fail
  refine (alive_call _).mono ?_
  rintro e w1 ⟨rfl, hb1⟩
  replace bel := bstep bel hb1
  have hmk := CrcN.make_n w1 n (by omega)
  have hcv := hcz (w1.alloc (.cells (madeCells #[Value.int .u8 0] n) 5)) w1.heap.size (CrcN.made_cells w1 n)
  replace bel := bstep bel (balloc (Below.refl w1.heap.size w1) (.cells (madeCells #[Value.int .u8 0] n) 5))
  have f0 : ((w1.alloc (.cells (madeCells #[Value.int .u8 0] n) 5)).alloc (.cells #[.int .i64 1, .int .i64 raw, .int .u32 sum, .string zs] 58)).cell? ⟨w1.heap.size + 1, 0, none⟩ = some (.int .i64 1) := by simp
  have f1 : ((w1.alloc (.cells (madeCells #[Value.int .u8 0] n) 5)).alloc (.cells #[.int .i64 1, .int .i64 raw, .int .u32 sum, .string zs] 58)).cell? ⟨w1.heap.size + 1, 1, none⟩ = some (.int .i64 raw) := by simp
  have f2 : ((w1.alloc (.cells (madeCells #[Value.int .u8 0] n) 5)).alloc (.cells #[.int .i64 1, .int .i64 raw, .int .u32 sum, .string zs] 58)).cell? ⟨w1.heap.size + 1, 2, none⟩ = some (.int .u32 sum) := by simp
  have f3 : ((w1.alloc (.cells (madeCells #[Value.int .u8 0] n) 5)).alloc (.cells #[.int .i64 1, .int .i64 raw, .int .u32 sum, .string zs] 58)).cell? ⟨w1.heap.size + 1, 3, none⟩ = some (.string zs) := by simp
  replace bel := bstep bel (balloc (Below.refl (w1.alloc (.cells (madeCells #[Value.int .u8 0] n) 5)).heap.size (w1.alloc (.cells (madeCells #[Value.int .u8 0] n) 5))) (.cells #[.int .i64 1, .int .i64 raw, .int .u32 sum, .string zs] 58))
  go_wp2_with fail
  refine (put_any 1 raw sum zs _ hsu).mono ?_
  rintro e w2 ⟨rfl, hb2⟩
  replace f0 := pw_cell_below hb2 f0
  replace f1 := pw_cell_below hb2 f1
  replace f2 := pw_cell_below hb2 f2
  replace f3 := pw_cell_below hb2 f3
  replace bel := bstep bel hb2
  rw [decide_eq_false hok, hpf]
  clear hmk hcv
  go_wp2_with fail
  refine Reg.wp_region_lists (fun W W' => Below W.heap.size W W') (bdV 1 raw sum n p w2.heap.size)
    [some 97, some 98, some 99, some 100, some 101, some 102, some 103, some 104, some 105, some 106, some 107, some 108, some 109, some 110, some 111, some 112, some 15]
    [[], [0], [1], [2], [], [4], [5], [3, 6], [], [8], [9, 6], [7, 10], [], [12], [13, 10], [11, 14], [15, 14, 0, 1, 2, 3, 4, 5, 6, 7, 8, 9, 10, 11, 12, 13, 14, 15]]
    (by kernel_rfl) (by kernel_rfl) (by kernel_rfl) (fun _ => Below.refl _ _) (fun _ _ _ h k => bstep h k) ?_ ?_ ?_
  · intro i v W W' h k
    unfold bdV at h ⊢
    split at h <;> first | exact h | (obtain ⟨b, e, hc⟩ := h; exact ⟨b, e, pw_cell_below k hc⟩)
  · refine ⟨?_, ?_, ?_, ?_, ?_, ?_, ?_, ?_, ?_, ?_, ?_, ?_, ?_, ?_, ?_, ?_, ?_, trivial⟩
    · intro vals W K hR hV hK
      simp only [Reg.putS, List.foldl, List.headD, List.tail, List.getD_cons_zero, List.getD_cons_succ, Act.put, List.setIfInBounds_toArray, List.set_cons_zero, List.set_cons_succ] at hK ⊢
      go_simp
      first
        | exact hK _ _ (Below.refl _ _) rfl
        | (rw [if_pos (by omega)]; exact hK _ _ (Below.refl _ _) rfl)
        | (rw [dif_pos (by omega)]; exact hK _ _ (Below.refl _ _) rfl)
        | (rw [if_neg (by omega)]; exact hK _ _ (Below.refl _ _) rfl)
    · intro vals W K hR hV hK
      have d0 := hV 0 (by simp)
      simp only [bdV] at d0
      simp only [Reg.putS, List.foldl, List.headD, List.tail, List.getD_cons_zero, List.getD_cons_succ, Act.put, List.setIfInBounds_toArray, List.set_cons_zero, List.set_cons_succ, d0] at hK ⊢
      go_simp
      first
        | exact hK _ _ (Below.refl _ _) rfl
        | (rw [if_pos (by omega)]; exact hK _ _ (Below.refl _ _) rfl)
        | (rw [dif_pos (by omega)]; exact hK _ _ (Below.refl _ _) rfl)
        | (rw [if_neg (by omega)]; exact hK _ _ (Below.refl _ _) rfl)
    · intro vals W K hR hV hK
      have d1 := hV 1 (by simp)
      simp only [bdV] at d1
      simp only [Reg.putS, List.foldl, List.headD, List.tail, List.getD_cons_zero, List.getD_cons_succ, Act.put, List.setIfInBounds_toArray, List.set_cons_zero, List.set_cons_succ, d1] at hK ⊢
      go_simp
      exact hK _ _ (balloc (Below.refl _ _) _) ⟨_, rfl, by simp⟩
    · intro vals W K hR hV hK
      have d2 := hV 2 (by simp)
      simp only [bdV] at d2
      obtain ⟨b, d2, hcell⟩ := d2
      simp only [Reg.putS, List.foldl, List.headD, List.tail, List.getD_cons_zero, List.getD_cons_succ, Act.put, List.setIfInBounds_toArray, List.set_cons_zero, List.set_cons_succ, d2] at hK ⊢
      have hcv := hcg W b hcell
      go_simp
      first
        | exact hK _ _ (Below.refl _ _) rfl
        | (rw [if_pos (by omega)]; exact hK _ _ (Below.refl _ _) rfl)
        | (rw [dif_pos (by omega)]; exact hK _ _ (Below.refl _ _) rfl)
        | (rw [if_neg (by omega)]; exact hK _ _ (Below.refl _ _) rfl)
    · intro vals W K hR hV hK
      simp only [Reg.putS, List.foldl, List.headD, List.tail, List.getD_cons_zero, List.getD_cons_succ, Act.put, List.setIfInBounds_toArray, List.set_cons_zero, List.set_cons_succ] at hK ⊢
      go_simp
      first
        | exact hK _ _ (Below.refl _ _) rfl
        | (rw [if_pos (by omega)]; exact hK _ _ (Below.refl _ _) rfl)
        | (rw [dif_pos (by omega)]; exact hK _ _ (Below.refl _ _) rfl)
        | (rw [if_neg (by omega)]; exact hK _ _ (Below.refl _ _) rfl)
    · intro vals W K hR hV hK
      have d4 := hV 4 (by simp)
      simp only [bdV] at d4
      simp only [Reg.putS, List.foldl, List.headD, List.tail, List.getD_cons_zero, List.getD_cons_succ, Act.put, List.setIfInBounds_toArray, List.set_cons_zero, List.set_cons_succ, d4] at hK ⊢
      go_simp
      first
        | exact hK _ _ (Below.refl _ _) rfl
        | (rw [if_pos (by omega)]; exact hK _ _ (Below.refl _ _) rfl)
        | (rw [dif_pos (by omega)]; exact hK _ _ (Below.refl _ _) rfl)
        | (rw [if_neg (by omega)]; exact hK _ _ (Below.refl _ _) rfl)
    · intro vals W K hR hV hK
      have d5 := hV 5 (by simp)
      simp only [bdV] at d5
      simp only [Reg.putS, List.foldl, List.headD, List.tail, List.getD_cons_zero, List.getD_cons_succ, Act.put, List.setIfInBounds_toArray, List.set_cons_zero, List.set_cons_succ, d5] at hK ⊢
      go_simp
      refine (refBig_call raw 2 _ (by omega) (by omega) (by omega)).mono ?_
      rintro e w2 ⟨rfl, hb⟩
      exact hK _ _ hb rfl
    · intro vals W K hR hV hK
      have d3 := hV 3 (by simp)
      simp only [bdV] at d3
      have d6 := hV 6 (by simp)
      simp only [bdV] at d6
      simp only [Reg.putS, List.foldl, List.headD, List.tail, List.getD_cons_zero, List.getD_cons_succ, Act.put, List.setIfInBounds_toArray, List.set_cons_zero, List.set_cons_succ, d3, d6] at hK ⊢
      go_simp
      first
        | exact hK _ _ (Below.refl _ _) rfl
        | (rw [if_pos (by omega)]; exact hK _ _ (Below.refl _ _) rfl)
        | (rw [dif_pos (by omega)]; exact hK _ _ (Below.refl _ _) rfl)
        | (rw [if_neg (by omega)]; exact hK _ _ (Below.refl _ _) rfl)
    · intro vals W K hR hV hK
      simp only [Reg.putS, List.foldl, List.headD, List.tail, List.getD_cons_zero, List.getD_cons_succ, Act.put, List.setIfInBounds_toArray, List.set_cons_zero, List.set_cons_succ] at hK ⊢
      go_simp
      first
        | exact hK _ _ (Below.refl _ _) rfl
        | (rw [if_pos (by omega)]; exact hK _ _ (Below.refl _ _) rfl)
        | (rw [dif_pos (by omega)]; exact hK _ _ (Below.refl _ _) rfl)
        | (rw [if_neg (by omega)]; exact hK _ _ (Below.refl _ _) rfl)
    · intro vals W K hR hV hK
      have d8 := hV 8 (by simp)
      simp only [bdV] at d8
      simp only [Reg.putS, List.foldl, List.headD, List.tail, List.getD_cons_zero, List.getD_cons_succ, Act.put, List.setIfInBounds_toArray, List.set_cons_zero, List.set_cons_succ, d8] at hK ⊢
      go_simp
      first
        | exact hK _ _ (Below.refl _ _) rfl
        | (rw [if_pos (by omega)]; exact hK _ _ (Below.refl _ _) rfl)
        | (rw [dif_pos (by omega)]; exact hK _ _ (Below.refl _ _) rfl)
        | (rw [if_neg (by omega)]; exact hK _ _ (Below.refl _ _) rfl)
    · intro vals W K hR hV hK
      have d6 := hV 6 (by simp)
      simp only [bdV] at d6
      have d9 := hV 9 (by simp)
      simp only [bdV] at d9
      simp only [Reg.putS, List.foldl, List.headD, List.tail, List.getD_cons_zero, List.getD_cons_succ, Act.put, List.setIfInBounds_toArray, List.set_cons_zero, List.set_cons_succ, d6, d9] at hK ⊢
      go_simp
      refine (refBig_call (n : Int) 2 _ (by omega) (by omega) (by omega)).mono ?_
      rintro e w2 ⟨rfl, hb⟩
      exact hK _ _ hb rfl
    · intro vals W K hR hV hK
      have d7 := hV 7 (by simp)
      simp only [bdV] at d7
      have d10 := hV 10 (by simp)
      simp only [bdV] at d10
      simp only [Reg.putS, List.foldl, List.headD, List.tail, List.getD_cons_zero, List.getD_cons_succ, Act.put, List.setIfInBounds_toArray, List.set_cons_zero, List.set_cons_succ, d7, d10] at hK ⊢
      go_simp
      first
        | exact hK _ _ (Below.refl _ _) rfl
        | (rw [if_pos (by omega)]; exact hK _ _ (Below.refl _ _) rfl)
        | (rw [dif_pos (by omega)]; exact hK _ _ (Below.refl _ _) rfl)
        | (rw [if_neg (by omega)]; exact hK _ _ (Below.refl _ _) rfl)
    · intro vals W K hR hV hK
      simp only [Reg.putS, List.foldl, List.headD, List.tail, List.getD_cons_zero, List.getD_cons_succ, Act.put, List.setIfInBounds_toArray, List.set_cons_zero, List.set_cons_succ] at hK ⊢
      go_simp
      first
        | exact hK _ _ (Below.refl _ _) rfl
        | (rw [if_pos (by omega)]; exact hK _ _ (Below.refl _ _) rfl)
        | (rw [dif_pos (by omega)]; exact hK _ _ (Below.refl _ _) rfl)
        | (rw [if_neg (by omega)]; exact hK _ _ (Below.refl _ _) rfl)
    · intro vals W K hR hV hK
      have d12 := hV 12 (by simp)
      simp only [bdV] at d12
      simp only [Reg.putS, List.foldl, List.headD, List.tail, List.getD_cons_zero, List.getD_cons_succ, Act.put, List.setIfInBounds_toArray, List.set_cons_zero, List.set_cons_succ, d12] at hK ⊢
      go_simp
      first
        | exact hK _ _ (Below.refl _ _) rfl
        | (rw [if_pos (by omega)]; exact hK _ _ (Below.refl _ _) rfl)
        | (rw [dif_pos (by omega)]; exact hK _ _ (Below.refl _ _) rfl)
        | (rw [if_neg (by omega)]; exact hK _ _ (Below.refl _ _) rfl)
    · intro vals W K hR hV hK
      have d10 := hV 10 (by simp)
      simp only [bdV] at d10
      have d13 := hV 13 (by simp)
      simp only [bdV] at d13
      simp only [Reg.putS, List.foldl, List.headD, List.tail, List.getD_cons_zero, List.getD_cons_succ, Act.put, List.setIfInBounds_toArray, List.set_cons_zero, List.set_cons_succ, d10, d13] at hK ⊢
      go_simp
      refine (refBig_call sum 4 _ (by omega) (by omega) (by omega)).mono ?_
      rintro e w2 ⟨rfl, hb⟩
      exact hK _ _ hb rfl
    · intro vals W K hR hV hK
      have d11 := hV 11 (by simp)
      simp only [bdV] at d11
      have d14 := hV 14 (by simp)
      simp only [bdV] at d14
      simp only [Reg.putS, List.foldl, List.headD, List.tail, List.getD_cons_zero, List.getD_cons_succ, Act.put, List.setIfInBounds_toArray, List.set_cons_zero, List.set_cons_succ, d11, d14] at hK ⊢
      go_simp
      first
        | exact hK _ _ (Below.refl _ _) rfl
        | (rw [if_pos (by omega)]; exact hK _ _ (Below.refl _ _) rfl)
        | (rw [dif_pos (by omega)]; exact hK _ _ (Below.refl _ _) rfl)
        | (rw [if_neg (by omega)]; exact hK _ _ (Below.refl _ _) rfl)
    · intro vals W K hR hV hK
      have d0 := hV 0 (by simp)
      simp only [bdV] at d0
      have d1 := hV 1 (by simp)
      simp only [bdV] at d1
      have d2 := hV 2 (by simp)
      simp only [bdV] at d2
      obtain ⟨b, d2, hcell⟩ := d2
      have d3 := hV 3 (by simp)
      simp only [bdV] at d3
      have d4 := hV 4 (by simp)
      simp only [bdV] at d4
      have d5 := hV 5 (by simp)
      simp only [bdV] at d5
      have d6 := hV 6 (by simp)
      simp only [bdV] at d6
      have d7 := hV 7 (by simp)
      simp only [bdV] at d7
      have d8 := hV 8 (by simp)
      simp only [bdV] at d8
      have d9 := hV 9 (by simp)
      simp only [bdV] at d9
      have d10 := hV 10 (by simp)
      simp only [bdV] at d10
      have d11 := hV 11 (by simp)
      simp only [bdV] at d11
      have d12 := hV 12 (by simp)
      simp only [bdV] at d12
      have d13 := hV 13 (by simp)
      simp only [bdV] at d13
      have d14 := hV 14 (by simp)
      simp only [bdV] at d14
      have d15 := hV 15 (by simp)
      simp only [bdV] at d15
      simp only [Reg.putS, List.foldl, List.headD, List.tail, List.getD_cons_zero, List.getD_cons_succ, Act.put, List.setIfInBounds_toArray, List.set_cons_zero, List.set_cons_succ, d0, d1, d2, d3, d4, d5, d6, d7, d8, d9, d10, d11, d12, d13, d14, d15] at hK ⊢
      go_simp
      first
        | exact hK _ _ (Below.refl _ _) rfl
        | (rw [if_pos (by omega)]; exact hK _ _ (Below.refl _ _) rfl)
        | (rw [dif_pos (by omega)]; exact hK _ _ (Below.refl _ _) rfl)
        | (rw [if_neg (by omega)]; exact hK _ _ (Below.refl _ _) rfl)
  · intro vals W hR hV
    rw [show List.range (List.length [some 97, some 98, some 99, some 100, some 101, some 102, some 103, some 104, some 105, some 106, some 107, some 108, some 109, some 110, some 111, some 112, some 15]) = [0, 1, 2, 3, 4, 5, 6, 7, 8, 9, 10, 11, 12, 13, 14, 15, 16] from rfl]
    have d0 := hV 0 (by decide)
    simp only [bdV] at d0
    have d1 := hV 1 (by decide)
    simp only [bdV] at d1
    have d2 := hV 2 (by decide)
    simp only [bdV] at d2
    obtain ⟨b, d2, hcell⟩ := d2
    have d3 := hV 3 (by decide)
    simp only [bdV] at d3
    have d4 := hV 4 (by decide)
    simp only [bdV] at d4
    have d5 := hV 5 (by decide)
    simp only [bdV] at d5
    have d6 := hV 6 (by decide)
    simp only [bdV] at d6
    have d7 := hV 7 (by decide)
    simp only [bdV] at d7
    have d8 := hV 8 (by decide)
    simp only [bdV] at d8
    have d9 := hV 9 (by decide)
    simp only [bdV] at d9
    have d10 := hV 10 (by decide)
    simp only [bdV] at d10
    have d11 := hV 11 (by decide)
    simp only [bdV] at d11
    have d12 := hV 12 (by decide)
    simp only [bdV] at d12
    have d13 := hV 13 (by decide)
    simp only [bdV] at d13
    have d14 := hV 14 (by decide)
    simp only [bdV] at d14
    have d15 := hV 15 (by decide)
    simp only [bdV] at d15
    have d16 := hV 16 (by decide)
    simp only [bdV] at d16
    clear hV
    simp only [Reg.putS, List.foldl, List.getD_cons_zero, List.getD_cons_succ, Act.put, List.setIfInBounds_toArray, List.set_cons_zero, List.set_cons_succ, d0, d1, d2, d3, d4, d5, d6, d7, d8, d9, d10, d11, d12, d13, d14, d15, d16]
    clear d0 d1 d2 d3 d4 d5 d6 d7 d8 d9 d10 d11 d12 d13 d14 d15 d16
    replace bel := bstep (below_drew bel) hR
    replace f0 := pw_cell_below hR f0
    replace f1 := pw_cell_below hR f1
    replace f2 := pw_cell_below hR f2
    replace f3 := pw_cell_below hR f3
    clear hR
    go_wp2_with fail
    refine (fget_any (headB p raw n sum) bs _ (by omega)).mono ?_
    rintro e w3 ⟨rfl, hb3⟩
    replace f0 := pw_cell_below hb3 f0
    replace f1 := pw_cell_below hb3 f1
    replace f2 := pw_cell_below hb3 f2
    replace f3 := pw_cell_below hb3 f3
    replace bel := bstep bel hb3
    simp only [getOut, frameAgg, hqe]
    have y0 : (w3.alloc (.cells #[.int .i64 0, .int .i64 0, .int .u32 0, .string ⟨#[]⟩] 58)).cell? ⟨w3.heap.size, 0, none⟩ = some (.int .i64 0) := by simp
    have y1 : (w3.alloc (.cells #[.int .i64 0, .int .i64 0, .int .u32 0, .string ⟨#[]⟩] 58)).cell? ⟨w3.heap.size, 1, none⟩ = some (.int .i64 0) := by simp
    have y2 : (w3.alloc (.cells #[.int .i64 0, .int .i64 0, .int .u32 0, .string ⟨#[]⟩] 58)).cell? ⟨w3.heap.size, 2, none⟩ = some (.int .u32 0) := by simp
    have y3 : (w3.alloc (.cells #[.int .i64 0, .int .i64 0, .int .u32 0, .string ⟨#[]⟩] 58)).cell? ⟨w3.heap.size, 3, none⟩ = some (.string ⟨#[]⟩) := by simp
    have f0n := pw_cell_below (balloc (Below.refl w3.heap.size w3) (.cells #[.int .i64 0, .int .i64 0, .int .u32 0, .string ⟨#[]⟩] 58)) f0
    have f1n := pw_cell_below (balloc (Below.refl w3.heap.size w3) (.cells #[.int .i64 0, .int .i64 0, .int .u32 0, .string ⟨#[]⟩] 58)) f1
    have f2n := pw_cell_below (balloc (Below.refl w3.heap.size w3) (.cells #[.int .i64 0, .int .i64 0, .int .u32 0, .string ⟨#[]⟩] 58)) f2
    have f3n := pw_cell_below (balloc (Below.refl w3.heap.size w3) (.cells #[.int .i64 0, .int .i64 0, .int .u32 0, .string ⟨#[]⟩] 58)) f3
    have beln := bstep bel (balloc (Below.refl w3.heap.size w3) (.cells #[.int .i64 0, .int .i64 0, .int .u32 0, .string ⟨#[]⟩] 58))
    go_wp2_with fail
    refine (fget_any (headB p raw n sum ++ zs) bs _ (by rw [ByteArray.size_append]; omega)).mono ?_
    rintro e w4 ⟨rfl, hb4⟩
    replace f0 := pw_cell_below hb4 f0n
    clear f0n
    replace f1 := pw_cell_below hb4 f1n
    clear f1n
    replace f2 := pw_cell_below hb4 f2n
    clear f2n
    replace f3 := pw_cell_below hb4 f3n
    clear f3n
    replace y0 := pw_cell_below hb4 y0
    replace y1 := pw_cell_below hb4 y1
    replace y2 := pw_cell_below hb4 y2
    replace y3 := pw_cell_below hb4 y3
    replace bel := bstep beln hb4
    clear beln
    simp only [getOut, frameAgg, hqh]
    have z0 : (w4.alloc (.cells #[.int .i64 0, .int .i64 0, .int .u32 0, .string ⟨#[]⟩] 58)).cell? ⟨w4.heap.size, 0, none⟩ = some (.int .i64 0) := by simp
    have z1 : (w4.alloc (.cells #[.int .i64 0, .int .i64 0, .int .u32 0, .string ⟨#[]⟩] 58)).cell? ⟨w4.heap.size, 1, none⟩ = some (.int .i64 0) := by simp
    have z2 : (w4.alloc (.cells #[.int .i64 0, .int .i64 0, .int .u32 0, .string ⟨#[]⟩] 58)).cell? ⟨w4.heap.size, 2, none⟩ = some (.int .u32 0) := by simp
    have z3 : (w4.alloc (.cells #[.int .i64 0, .int .i64 0, .int .u32 0, .string ⟨#[]⟩] 58)).cell? ⟨w4.heap.size, 3, none⟩ = some (.string ⟨#[]⟩) := by simp
    have f0n := pw_cell_below (balloc (Below.refl w4.heap.size w4) (.cells #[.int .i64 0, .int .i64 0, .int .u32 0, .string ⟨#[]⟩] 58)) f0
    have f1n := pw_cell_below (balloc (Below.refl w4.heap.size w4) (.cells #[.int .i64 0, .int .i64 0, .int .u32 0, .string ⟨#[]⟩] 58)) f1
    have f2n := pw_cell_below (balloc (Below.refl w4.heap.size w4) (.cells #[.int .i64 0, .int .i64 0, .int .u32 0, .string ⟨#[]⟩] 58)) f2
    have f3n := pw_cell_below (balloc (Below.refl w4.heap.size w4) (.cells #[.int .i64 0, .int .i64 0, .int .u32 0, .string ⟨#[]⟩] 58)) f3
    have y0n := pw_cell_below (balloc (Below.refl w4.heap.size w4) (.cells #[.int .i64 0, .int .i64 0, .int .u32 0, .string ⟨#[]⟩] 58)) y0
    have y1n := pw_cell_below (balloc (Below.refl w4.heap.size w4) (.cells #[.int .i64 0, .int .i64 0, .int .u32 0, .string ⟨#[]⟩] 58)) y1
    have y2n := pw_cell_below (balloc (Below.refl w4.heap.size w4) (.cells #[.int .i64 0, .int .i64 0, .int .u32 0, .string ⟨#[]⟩] 58)) y2
    have y3n := pw_cell_below (balloc (Below.refl w4.heap.size w4) (.cells #[.int .i64 0, .int .i64 0, .int .u32 0, .string ⟨#[]⟩] 58)) y3
    have beln := bstep bel (balloc (Below.refl w4.heap.size w4) (.cells #[.int .i64 0, .int .i64 0, .int .u32 0, .string ⟨#[]⟩] 58))
    go_wp2_with fail
    go_returns
    exact ⟨rfl, beln⟩
set_option maxRecDepth 20000 in
set_option maxHeartbeats 2000000 in
theorem bounds_n5_2 (raw bs sum : Int) (n : Nat) (w : World) (hk : (2 : Int) = 1 ∨ (2 : Int) = 2) (h0 : ¬ raw < 0) (h1 : ¬ 65535 < raw) (h3 : n ≤ 2000) (h4 : ¬ bs < 1) (h5 : ¬ 2000 < bs) (hsu : 0 ≤ sum ∧ sum < 4294967296) (h6 : 1 ≤ raw ∧ raw ≤ 1024) (h7 : 1 ≤ n)  (h9 : ¬ (n : Int) < raw) :
    Calls Try.prog 18 #[.int .i64 2, .int .i64 raw, .int .i64 (n : Int), .int .i64 bs, .int .u32 sum] w fun e w' => e = .returned (.bool true) ∧ Below w.heap.size w w' := by
  have hbs := bigS_size
  obtain ⟨p, hp⟩ : ∃ p, p = strOfNums [2] := ⟨_, rfl⟩
  have hps : p.size = 1 := by rw [hp]; rfl
  have hcg : ∀ (W : World) (b : Nat), W.cell? ⟨b, 0, none⟩ = some (.int .u8 2) → (convert 32 9 (.slice (some ⟨b, 0, none⟩) 1 1)).run Try.prog W = .ok (.string p) W := fun W b h => by rw [hp]; exact conv1 W b 2 h
  obtain ⟨zs, hzd⟩ : ∃ zs, zs = CrcN.zeroS n := ⟨_, rfl⟩
  have hzz : zs.size = n := by rw [hzd]; exact zero_size n
  have hcz : ∀ (W : World) (b : Nat), (∀ j, j < n → W.cell? ⟨b, j, none⟩ = some (.int .u8 0)) → (convert 32 9 (.slice (some ⟨b, 0, none⟩) n n)).run Try.prog W = .ok (.string zs) W := fun W b h => by rw [hzd]; exact CrcN.conv_n W b n h
  clear hzd
  have hB : (headB p raw n sum).size = 9 := by unfold headB; simp only [ByteArray.size_append, bigS_size, hps]
  have hla : (headB p raw n sum).size + zs.size ≤ maxLen := by rw [hB, hzz]; unfold maxLen; omega
  have hla2 : 9 + n ≤ maxLen := by unfold maxLen; omega
  have hla3 : 9 + zs.size ≤ maxLen := by rw [hzz]; unfold maxLen; omega
  have hwk : IntKind.u8.wrap 2 = 2 := by rfl
  have hwr : IntKind.u64.wrap raw = raw := by rw [show raw = ((raw.toNat : Nat) : Int) by omega]; exact wrap64u _ (by omega)
  have hwn : IntKind.u64.wrap (n : Int) = (n : Int) := wrap64u _ (by omega)
  have hws : IntKind.u64.wrap sum = sum := by rw [show sum = ((sum.toNat : Nat) : Int) by omega]; exact wrap64u _ (by omega)
  have hw9 : IntKind.i64.wrap (9 + (n : Int)) = 9 + (n : Int) := by rw [IntKind.wrap_i64]; omega
  have x1 : decide (raw < 0) = false := by simp <;> omega
  have x2 : decide (raw > 65535) = false := by simp <;> omega
  have x3 : decide ((n : Int) < 0) = false := by simp <;> omega
  have x4 : decide ((n : Int) > 2000) = false := by simp <;> omega
  have x5 : decide (bs < 1) = false := by simp <;> omega
  have x6 : decide (bs > 2000) = false := by simp <;> omega
  have y1 : decide (raw ≥ 1) = true := by simp <;> omega
  have y2 : decide (raw ≤ 1024) = true := by simp <;> omega
  have y3 : decide ((n : Int) ≥ 1) = true := by simp <;> omega
  have y4 : ((2 : Int) == 1) = false := by simp <;> omega
  have y6 : ((2 : Int) == 2) = true := by simp <;> omega
  have y7 : decide ((n : Int) < raw) = false := by simp <;> omega
  have hfit : fitsB 2 raw zs.size 1024 = false := by rw [hzz]; unfold fitsB; simp; omega
  have hok : ¬ okF 2 raw sum zs := no_block (by omega) hfit
  have hpf : putF 2 raw sum zs = ⟨#[]⟩ := by unfold putF; rw [if_neg hok]
  have hqe := getB_no 2 raw sum bs n ⟨#[]⟩ hk (by omega) (by omega) hsu (.inr (by rw [← hzz]; exact hfit))
  have hqh := getB_no 2 raw sum bs n zs hk (by omega) (by omega) hsu (.inr (by rw [← hzz]; exact hfit))
  rw [← hp] at hqe hqh
  rw [app_empty] at hqe
  clear hp
  have bel : Below w.heap.size w w := Below.refl _ _
  go_enter Try.func18, Try.ntmps18
  go_wp2_with fail
  refine (alive_call _).mono ?_
  rintro e w1 ⟨rfl, hb1⟩
  replace bel := bstep bel hb1
  have hmk := CrcN.make_n w1 n (by omega)
  have hcv := hcz (w1.alloc (.cells (madeCells #[Value.int .u8 0] n) 5)) w1.heap.size (CrcN.made_cells w1 n)
  replace bel := bstep bel (balloc (Below.refl w1.heap.size w1) (.cells (madeCells #[Value.int .u8 0] n) 5))
  have f0 : ((w1.alloc (.cells (madeCells #[Value.int .u8 0] n) 5)).alloc (.cells #[.int .i64 2, .int .i64 raw, .int .u32 sum, .string zs] 58)).cell? ⟨w1.heap.size + 1, 0, none⟩ = some (.int .i64 2) := by simp
  have f1 : ((w1.alloc (.cells (madeCells #[Value.int .u8 0] n) 5)).alloc (.cells #[.int .i64 2, .int .i64 raw, .int .u32 sum, .string zs] 58)).cell? ⟨w1.heap.size + 1, 1, none⟩ = some (.int .i64 raw) := by simp
  have f2 : ((w1.alloc (.cells (madeCells #[Value.int .u8 0] n) 5)).alloc (.cells #[.int .i64 2, .int .i64 raw, .int .u32 sum, .string zs] 58)).cell? ⟨w1.heap.size + 1, 2, none⟩ = some (.int .u32 sum) := by simp
  have f3 : ((w1.alloc (.cells (madeCells #[Value.int .u8 0] n) 5)).alloc (.cells #[.int .i64 2, .int .i64 raw, .int .u32 sum, .string zs] 58)).cell? ⟨w1.heap.size + 1, 3, none⟩ = some (.string zs) := by simp
  replace bel := bstep bel (balloc (Below.refl (w1.alloc (.cells (madeCells #[Value.int .u8 0] n) 5)).heap.size (w1.alloc (.cells (madeCells #[Value.int .u8 0] n) 5))) (.cells #[.int .i64 2, .int .i64 raw, .int .u32 sum, .string zs] 58))
  go_wp2_with fail
  refine (put_any 2 raw sum zs _ hsu).mono ?_
  rintro e w2 ⟨rfl, hb2⟩
  replace f0 := pw_cell_below hb2 f0
  replace f1 := pw_cell_below hb2 f1
  replace f2 := pw_cell_below hb2 f2
  replace f3 := pw_cell_below hb2 f3
  replace bel := bstep bel hb2
  rw [decide_eq_false hok, hpf]
  clear hmk hcv
  go_wp2_with fail
  refine Reg.wp_region_lists (fun W W' => Below W.heap.size W W') (bdV 2 raw sum n p w2.heap.size)
    [some 97, some 98, some 99, some 100, some 101, some 102, some 103, some 104, some 105, some 106, some 107, some 108, some 109, some 110, some 111, some 112, some 15]
    [[], [0], [1], [2], [], [4], [5], [3, 6], [], [8], [9, 6], [7, 10], [], [12], [13, 10], [11, 14], [15, 14, 0, 1, 2, 3, 4, 5, 6, 7, 8, 9, 10, 11, 12, 13, 14, 15]]
    (by kernel_rfl) (by kernel_rfl) (by kernel_rfl) (fun _ => Below.refl _ _) (fun _ _ _ h k => bstep h k) ?_ ?_ ?_
  · intro i v W W' h k
    unfold bdV at h ⊢
    split at h <;> first | exact h | (obtain ⟨b, e, hc⟩ := h; exact ⟨b, e, pw_cell_below k hc⟩)
  · refine ⟨?_, ?_, ?_, ?_, ?_, ?_, ?_, ?_, ?_, ?_, ?_, ?_, ?_, ?_, ?_, ?_, ?_, trivial⟩
    · intro vals W K hR hV hK
      simp only [Reg.putS, List.foldl, List.headD, List.tail, List.getD_cons_zero, List.getD_cons_succ, Act.put, List.setIfInBounds_toArray, List.set_cons_zero, List.set_cons_succ] at hK ⊢
      go_simp
      first
        | exact hK _ _ (Below.refl _ _) rfl
        | (rw [if_pos (by omega)]; exact hK _ _ (Below.refl _ _) rfl)
        | (rw [dif_pos (by omega)]; exact hK _ _ (Below.refl _ _) rfl)
        | (rw [if_neg (by omega)]; exact hK _ _ (Below.refl _ _) rfl)
    · intro vals W K hR hV hK
      have d0 := hV 0 (by simp)
      simp only [bdV] at d0
      simp only [Reg.putS, List.foldl, List.headD, List.tail, List.getD_cons_zero, List.getD_cons_succ, Act.put, List.setIfInBounds_toArray, List.set_cons_zero, List.set_cons_succ, d0] at hK ⊢
      go_simp
      first
        | exact hK _ _ (Below.refl _ _) rfl
        | (rw [if_pos (by omega)]; exact hK _ _ (Below.refl _ _) rfl)
        | (rw [dif_pos (by omega)]; exact hK _ _ (Below.refl _ _) rfl)
        | (rw [if_neg (by omega)]; exact hK _ _ (Below.refl _ _) rfl)
    · intro vals W K hR hV hK
      have d1 := hV 1 (by simp)
      simp only [bdV] at d1
      simp only [Reg.putS, List.foldl, List.headD, List.tail, List.getD_cons_zero, List.getD_cons_succ, Act.put, List.setIfInBounds_toArray, List.set_cons_zero, List.set_cons_succ, d1] at hK ⊢
      go_simp
      exact hK _ _ (balloc (Below.refl _ _) _) ⟨_, rfl, by simp⟩
    · intro vals W K hR hV hK
      have d2 := hV 2 (by simp)
      simp only [bdV] at d2
      obtain ⟨b, d2, hcell⟩ := d2
      simp only [Reg.putS, List.foldl, List.headD, List.tail, List.getD_cons_zero, List.getD_cons_succ, Act.put, List.setIfInBounds_toArray, List.set_cons_zero, List.set_cons_succ, d2] at hK ⊢
      have hcv := hcg W b hcell
      go_simp
      first
        | exact hK _ _ (Below.refl _ _) rfl
        | (rw [if_pos (by omega)]; exact hK _ _ (Below.refl _ _) rfl)
        | (rw [dif_pos (by omega)]; exact hK _ _ (Below.refl _ _) rfl)
        | (rw [if_neg (by omega)]; exact hK _ _ (Below.refl _ _) rfl)
    · intro vals W K hR hV hK
      simp only [Reg.putS, List.foldl, List.headD, List.tail, List.getD_cons_zero, List.getD_cons_succ, Act.put, List.setIfInBounds_toArray, List.set_cons_zero, List.set_cons_succ] at hK ⊢
      go_simp
      first
        | exact hK _ _ (Below.refl _ _) rfl
        | (rw [if_pos (by omega)]; exact hK _ _ (Below.refl _ _) rfl)
        | (rw [dif_pos (by omega)]; exact hK _ _ (Below.refl _ _) rfl)
        | (rw [if_neg (by omega)]; exact hK _ _ (Below.refl _ _) rfl)
    · intro vals W K hR hV hK
      have d4 := hV 4 (by simp)
      simp only [bdV] at d4
      simp only [Reg.putS, List.foldl, List.headD, List.tail, List.getD_cons_zero, List.getD_cons_succ, Act.put, List.setIfInBounds_toArray, List.set_cons_zero, List.set_cons_succ, d4] at hK ⊢
      go_simp
      first
        | exact hK _ _ (Below.refl _ _) rfl
        | (rw [if_pos (by omega)]; exact hK _ _ (Below.refl _ _) rfl)
        | (rw [dif_pos (by omega)]; exact hK _ _ (Below.refl _ _) rfl)
        | (rw [if_neg (by omega)]; exact hK _ _ (Below.refl _ _) rfl)
    · intro vals W K hR hV hK
      have d5 := hV 5 (by simp)
      simp only [bdV] at d5
      simp only [Reg.putS, List.foldl, List.headD, List.tail, List.getD_cons_zero, List.getD_cons_succ, Act.put, List.setIfInBounds_toArray, List.set_cons_zero, List.set_cons_succ, d5] at hK ⊢
      go_simp
      refine (refBig_call raw 2 _ (by omega) (by omega) (by omega)).mono ?_
      rintro e w2 ⟨rfl, hb⟩
      exact hK _ _ hb rfl
    · intro vals W K hR hV hK
      have d3 := hV 3 (by simp)
      simp only [bdV] at d3
      have d6 := hV 6 (by simp)
      simp only [bdV] at d6
      simp only [Reg.putS, List.foldl, List.headD, List.tail, List.getD_cons_zero, List.getD_cons_succ, Act.put, List.setIfInBounds_toArray, List.set_cons_zero, List.set_cons_succ, d3, d6] at hK ⊢
      go_simp
      first
        | exact hK _ _ (Below.refl _ _) rfl
        | (rw [if_pos (by omega)]; exact hK _ _ (Below.refl _ _) rfl)
        | (rw [dif_pos (by omega)]; exact hK _ _ (Below.refl _ _) rfl)
        | (rw [if_neg (by omega)]; exact hK _ _ (Below.refl _ _) rfl)
    · intro vals W K hR hV hK
      simp only [Reg.putS, List.foldl, List.headD, List.tail, List.getD_cons_zero, List.getD_cons_succ, Act.put, List.setIfInBounds_toArray, List.set_cons_zero, List.set_cons_succ] at hK ⊢
      go_simp
      first
        | exact hK _ _ (Below.refl _ _) rfl
        | (rw [if_pos (by omega)]; exact hK _ _ (Below.refl _ _) rfl)
        | (rw [dif_pos (by omega)]; exact hK _ _ (Below.refl _ _) rfl)
        | (rw [if_neg (by omega)]; exact hK _ _ (Below.refl _ _) rfl)
    · intro vals W K hR hV hK
      have d8 := hV 8 (by simp)
      simp only [bdV] at d8
      simp only [Reg.putS, List.foldl, List.headD, List.tail, List.getD_cons_zero, List.getD_cons_succ, Act.put, List.setIfInBounds_toArray, List.set_cons_zero, List.set_cons_succ, d8] at hK ⊢
      go_simp
      first
        | exact hK _ _ (Below.refl _ _) rfl
        | (rw [if_pos (by omega)]; exact hK _ _ (Below.refl _ _) rfl)
        | (rw [dif_pos (by omega)]; exact hK _ _ (Below.refl _ _) rfl)
        | (rw [if_neg (by omega)]; exact hK _ _ (Below.refl _ _) rfl)
    · intro vals W K hR hV hK
      have d6 := hV 6 (by simp)
      simp only [bdV] at d6
      have d9 := hV 9 (by simp)
      simp only [bdV] at d9
      simp only [Reg.putS, List.foldl, List.headD, List.tail, List.getD_cons_zero, List.getD_cons_succ, Act.put, List.setIfInBounds_toArray, List.set_cons_zero, List.set_cons_succ, d6, d9] at hK ⊢
      go_simp
      refine (refBig_call (n : Int) 2 _ (by omega) (by omega) (by omega)).mono ?_
      rintro e w2 ⟨rfl, hb⟩
      exact hK _ _ hb rfl
    · intro vals W K hR hV hK
      have d7 := hV 7 (by simp)
      simp only [bdV] at d7
      have d10 := hV 10 (by simp)
      simp only [bdV] at d10
      simp only [Reg.putS, List.foldl, List.headD, List.tail, List.getD_cons_zero, List.getD_cons_succ, Act.put, List.setIfInBounds_toArray, List.set_cons_zero, List.set_cons_succ, d7, d10] at hK ⊢
      go_simp
      first
        | exact hK _ _ (Below.refl _ _) rfl
        | (rw [if_pos (by omega)]; exact hK _ _ (Below.refl _ _) rfl)
        | (rw [dif_pos (by omega)]; exact hK _ _ (Below.refl _ _) rfl)
        | (rw [if_neg (by omega)]; exact hK _ _ (Below.refl _ _) rfl)
    · intro vals W K hR hV hK
      simp only [Reg.putS, List.foldl, List.headD, List.tail, List.getD_cons_zero, List.getD_cons_succ, Act.put, List.setIfInBounds_toArray, List.set_cons_zero, List.set_cons_succ] at hK ⊢
      go_simp
      first
        | exact hK _ _ (Below.refl _ _) rfl
        | (rw [if_pos (by omega)]; exact hK _ _ (Below.refl _ _) rfl)
        | (rw [dif_pos (by omega)]; exact hK _ _ (Below.refl _ _) rfl)
        | (rw [if_neg (by omega)]; exact hK _ _ (Below.refl _ _) rfl)
    · intro vals W K hR hV hK
      have d12 := hV 12 (by simp)
      simp only [bdV] at d12
      simp only [Reg.putS, List.foldl, List.headD, List.tail, List.getD_cons_zero, List.getD_cons_succ, Act.put, List.setIfInBounds_toArray, List.set_cons_zero, List.set_cons_succ, d12] at hK ⊢
      go_simp
      first
        | exact hK _ _ (Below.refl _ _) rfl
        | (rw [if_pos (by omega)]; exact hK _ _ (Below.refl _ _) rfl)
        | (rw [dif_pos (by omega)]; exact hK _ _ (Below.refl _ _) rfl)
        | (rw [if_neg (by omega)]; exact hK _ _ (Below.refl _ _) rfl)
    · intro vals W K hR hV hK
      have d10 := hV 10 (by simp)
      simp only [bdV] at d10
      have d13 := hV 13 (by simp)
      simp only [bdV] at d13
      simp only [Reg.putS, List.foldl, List.headD, List.tail, List.getD_cons_zero, List.getD_cons_succ, Act.put, List.setIfInBounds_toArray, List.set_cons_zero, List.set_cons_succ, d10, d13] at hK ⊢
      go_simp
      refine (refBig_call sum 4 _ (by omega) (by omega) (by omega)).mono ?_
      rintro e w2 ⟨rfl, hb⟩
      exact hK _ _ hb rfl
    · intro vals W K hR hV hK
      have d11 := hV 11 (by simp)
      simp only [bdV] at d11
      have d14 := hV 14 (by simp)
      simp only [bdV] at d14
      simp only [Reg.putS, List.foldl, List.headD, List.tail, List.getD_cons_zero, List.getD_cons_succ, Act.put, List.setIfInBounds_toArray, List.set_cons_zero, List.set_cons_succ, d11, d14] at hK ⊢
      go_simp
      first
        | exact hK _ _ (Below.refl _ _) rfl
        | (rw [if_pos (by omega)]; exact hK _ _ (Below.refl _ _) rfl)
        | (rw [dif_pos (by omega)]; exact hK _ _ (Below.refl _ _) rfl)
        | (rw [if_neg (by omega)]; exact hK _ _ (Below.refl _ _) rfl)
    · intro vals W K hR hV hK
      have d0 := hV 0 (by simp)
      simp only [bdV] at d0
      have d1 := hV 1 (by simp)
      simp only [bdV] at d1
      have d2 := hV 2 (by simp)
      simp only [bdV] at d2
      obtain ⟨b, d2, hcell⟩ := d2
      have d3 := hV 3 (by simp)
      simp only [bdV] at d3
      have d4 := hV 4 (by simp)
      simp only [bdV] at d4
      have d5 := hV 5 (by simp)
      simp only [bdV] at d5
      have d6 := hV 6 (by simp)
      simp only [bdV] at d6
      have d7 := hV 7 (by simp)
      simp only [bdV] at d7
      have d8 := hV 8 (by simp)
      simp only [bdV] at d8
      have d9 := hV 9 (by simp)
      simp only [bdV] at d9
      have d10 := hV 10 (by simp)
      simp only [bdV] at d10
      have d11 := hV 11 (by simp)
      simp only [bdV] at d11
      have d12 := hV 12 (by simp)
      simp only [bdV] at d12
      have d13 := hV 13 (by simp)
      simp only [bdV] at d13
      have d14 := hV 14 (by simp)
      simp only [bdV] at d14
      have d15 := hV 15 (by simp)
      simp only [bdV] at d15
      simp only [Reg.putS, List.foldl, List.headD, List.tail, List.getD_cons_zero, List.getD_cons_succ, Act.put, List.setIfInBounds_toArray, List.set_cons_zero, List.set_cons_succ, d0, d1, d2, d3, d4, d5, d6, d7, d8, d9, d10, d11, d12, d13, d14, d15] at hK ⊢
      go_simp
      first
        | exact hK _ _ (Below.refl _ _) rfl
        | (rw [if_pos (by omega)]; exact hK _ _ (Below.refl _ _) rfl)
        | (rw [dif_pos (by omega)]; exact hK _ _ (Below.refl _ _) rfl)
        | (rw [if_neg (by omega)]; exact hK _ _ (Below.refl _ _) rfl)
  · intro vals W hR hV
    rw [show List.range (List.length [some 97, some 98, some 99, some 100, some 101, some 102, some 103, some 104, some 105, some 106, some 107, some 108, some 109, some 110, some 111, some 112, some 15]) = [0, 1, 2, 3, 4, 5, 6, 7, 8, 9, 10, 11, 12, 13, 14, 15, 16] from rfl]
    have d0 := hV 0 (by decide)
    simp only [bdV] at d0
    have d1 := hV 1 (by decide)
    simp only [bdV] at d1
    have d2 := hV 2 (by decide)
    simp only [bdV] at d2
    obtain ⟨b, d2, hcell⟩ := d2
    have d3 := hV 3 (by decide)
    simp only [bdV] at d3
    have d4 := hV 4 (by decide)
    simp only [bdV] at d4
    have d5 := hV 5 (by decide)
    simp only [bdV] at d5
    have d6 := hV 6 (by decide)
    simp only [bdV] at d6
    have d7 := hV 7 (by decide)
    simp only [bdV] at d7
    have d8 := hV 8 (by decide)
    simp only [bdV] at d8
    have d9 := hV 9 (by decide)
    simp only [bdV] at d9
    have d10 := hV 10 (by decide)
    simp only [bdV] at d10
    have d11 := hV 11 (by decide)
    simp only [bdV] at d11
    have d12 := hV 12 (by decide)
    simp only [bdV] at d12
    have d13 := hV 13 (by decide)
    simp only [bdV] at d13
    have d14 := hV 14 (by decide)
    simp only [bdV] at d14
    have d15 := hV 15 (by decide)
    simp only [bdV] at d15
    have d16 := hV 16 (by decide)
    simp only [bdV] at d16
    clear hV
    simp only [Reg.putS, List.foldl, List.getD_cons_zero, List.getD_cons_succ, Act.put, List.setIfInBounds_toArray, List.set_cons_zero, List.set_cons_succ, d0, d1, d2, d3, d4, d5, d6, d7, d8, d9, d10, d11, d12, d13, d14, d15, d16]
    clear d0 d1 d2 d3 d4 d5 d6 d7 d8 d9 d10 d11 d12 d13 d14 d15 d16
    replace bel := bstep (below_drew bel) hR
    replace f0 := pw_cell_below hR f0
    replace f1 := pw_cell_below hR f1
    replace f2 := pw_cell_below hR f2
    replace f3 := pw_cell_below hR f3
    clear hR
    go_wp2_with fail
    refine (fget_any (headB p raw n sum) bs _ (by omega)).mono ?_
    rintro e w3 ⟨rfl, hb3⟩
    replace f0 := pw_cell_below hb3 f0
    replace f1 := pw_cell_below hb3 f1
    replace f2 := pw_cell_below hb3 f2
    replace f3 := pw_cell_below hb3 f3
    replace bel := bstep bel hb3
    simp only [getOut, frameAgg, hqe]
    have y0 : (w3.alloc (.cells #[.int .i64 0, .int .i64 0, .int .u32 0, .string ⟨#[]⟩] 58)).cell? ⟨w3.heap.size, 0, none⟩ = some (.int .i64 0) := by simp
    have y1 : (w3.alloc (.cells #[.int .i64 0, .int .i64 0, .int .u32 0, .string ⟨#[]⟩] 58)).cell? ⟨w3.heap.size, 1, none⟩ = some (.int .i64 0) := by simp
    have y2 : (w3.alloc (.cells #[.int .i64 0, .int .i64 0, .int .u32 0, .string ⟨#[]⟩] 58)).cell? ⟨w3.heap.size, 2, none⟩ = some (.int .u32 0) := by simp
    have y3 : (w3.alloc (.cells #[.int .i64 0, .int .i64 0, .int .u32 0, .string ⟨#[]⟩] 58)).cell? ⟨w3.heap.size, 3, none⟩ = some (.string ⟨#[]⟩) := by simp
    have f0n := pw_cell_below (balloc (Below.refl w3.heap.size w3) (.cells #[.int .i64 0, .int .i64 0, .int .u32 0, .string ⟨#[]⟩] 58)) f0
    have f1n := pw_cell_below (balloc (Below.refl w3.heap.size w3) (.cells #[.int .i64 0, .int .i64 0, .int .u32 0, .string ⟨#[]⟩] 58)) f1
    have f2n := pw_cell_below (balloc (Below.refl w3.heap.size w3) (.cells #[.int .i64 0, .int .i64 0, .int .u32 0, .string ⟨#[]⟩] 58)) f2
    have f3n := pw_cell_below (balloc (Below.refl w3.heap.size w3) (.cells #[.int .i64 0, .int .i64 0, .int .u32 0, .string ⟨#[]⟩] 58)) f3
    have beln := bstep bel (balloc (Below.refl w3.heap.size w3) (.cells #[.int .i64 0, .int .i64 0, .int .u32 0, .string ⟨#[]⟩] 58))
    go_wp2_with fail
    refine (fget_any (headB p raw n sum ++ zs) bs _ (by rw [ByteArray.size_append]; omega)).mono ?_
    rintro e w4 ⟨rfl, hb4⟩
    replace f0 := pw_cell_below hb4 f0n
    clear f0n
    replace f1 := pw_cell_below hb4 f1n
    clear f1n
    replace f2 := pw_cell_below hb4 f2n
    clear f2n
    replace f3 := pw_cell_below hb4 f3n
    clear f3n
    replace y0 := pw_cell_below hb4 y0
    replace y1 := pw_cell_below hb4 y1
    replace y2 := pw_cell_below hb4 y2
    replace y3 := pw_cell_below hb4 y3
    replace bel := bstep beln hb4
    clear beln
    simp only [getOut, frameAgg, hqh]
    have z0 : (w4.alloc (.cells #[.int .i64 0, .int .i64 0, .int .u32 0, .string ⟨#[]⟩] 58)).cell? ⟨w4.heap.size, 0, none⟩ = some (.int .i64 0) := by simp
    have z1 : (w4.alloc (.cells #[.int .i64 0, .int .i64 0, .int .u32 0, .string ⟨#[]⟩] 58)).cell? ⟨w4.heap.size, 1, none⟩ = some (.int .i64 0) := by simp
    have z2 : (w4.alloc (.cells #[.int .i64 0, .int .i64 0, .int .u32 0, .string ⟨#[]⟩] 58)).cell? ⟨w4.heap.size, 2, none⟩ = some (.int .u32 0) := by simp
    have z3 : (w4.alloc (.cells #[.int .i64 0, .int .i64 0, .int .u32 0, .string ⟨#[]⟩] 58)).cell? ⟨w4.heap.size, 3, none⟩ = some (.string ⟨#[]⟩) := by simp
    have f0n := pw_cell_below (balloc (Below.refl w4.heap.size w4) (.cells #[.int .i64 0, .int .i64 0, .int .u32 0, .string ⟨#[]⟩] 58)) f0
    have f1n := pw_cell_below (balloc (Below.refl w4.heap.size w4) (.cells #[.int .i64 0, .int .i64 0, .int .u32 0, .string ⟨#[]⟩] 58)) f1
    have f2n := pw_cell_below (balloc (Below.refl w4.heap.size w4) (.cells #[.int .i64 0, .int .i64 0, .int .u32 0, .string ⟨#[]⟩] 58)) f2
    have f3n := pw_cell_below (balloc (Below.refl w4.heap.size w4) (.cells #[.int .i64 0, .int .i64 0, .int .u32 0, .string ⟨#[]⟩] 58)) f3
    have y0n := pw_cell_below (balloc (Below.refl w4.heap.size w4) (.cells #[.int .i64 0, .int .i64 0, .int .u32 0, .string ⟨#[]⟩] 58)) y0
    have y1n := pw_cell_below (balloc (Below.refl w4.heap.size w4) (.cells #[.int .i64 0, .int .i64 0, .int .u32 0, .string ⟨#[]⟩] 58)) y1
    have y2n := pw_cell_below (balloc (Below.refl w4.heap.size w4) (.cells #[.int .i64 0, .int .i64 0, .int .u32 0, .string ⟨#[]⟩] 58)) y2
    have y3n := pw_cell_below (balloc (Below.refl w4.heap.size w4) (.cells #[.int .i64 0, .int .i64 0, .int .u32 0, .string ⟨#[]⟩] 58)) y3
    have beln := bstep bel (balloc (Below.refl w4.heap.size w4) (.cells #[.int .i64 0, .int .i64 0, .int .u32 0, .string ⟨#[]⟩] 58))
    go_wp2_with fail
    go_returns
    exact ⟨rfl, beln⟩
set_option maxRecDepth 20000 in
set_option maxHeartbeats 2000000 in
theorem bounds_y1f_1 (raw bs sum : Int) (n : Nat) (w : World) (hk : (1 : Int) = 1 ∨ (1 : Int) = 2) (h0 : ¬ raw < 0) (h1 : ¬ 65535 < raw) (h3 : n ≤ 2000) (h4 : ¬ bs < 1) (h5 : ¬ 2000 < bs) (hsu : 0 ≤ sum ∧ sum < 4294967296) (h6 : 1 ≤ raw ∧ raw ≤ 1024) (h7 : 1 ≤ n)  (h9 : (n : Int) = raw) (h10 : bs < raw) :
    Calls Try.prog 18 #[.int .i64 1, .int .i64 raw, .int .i64 (n : Int), .int .i64 bs, .int .u32 sum] w fun e w' => e = .returned (.bool true) ∧ Below w.heap.size w w' := by
  have hbs := bigS_size
  obtain ⟨p, hp⟩ : ∃ p, p = strOfNums [1] := ⟨_, rfl⟩
  have hps : p.size = 1 := by rw [hp]; rfl
  have hcg : ∀ (W : World) (b : Nat), W.cell? ⟨b, 0, none⟩ = some (.int .u8 1) → (convert 32 9 (.slice (some ⟨b, 0, none⟩) 1 1)).run Try.prog W = .ok (.string p) W := fun W b h => by rw [hp]; exact conv1 W b 1 h
  obtain ⟨zs, hzd⟩ : ∃ zs, zs = CrcN.zeroS n := ⟨_, rfl⟩
  have hzz : zs.size = n := by rw [hzd]; exact zero_size n
  have hcz : ∀ (W : World) (b : Nat), (∀ j, j < n → W.cell? ⟨b, j, none⟩ = some (.int .u8 0)) → (convert 32 9 (.slice (some ⟨b, 0, none⟩) n n)).run Try.prog W = .ok (.string zs) W := fun W b h => by rw [hzd]; exact CrcN.conv_n W b n h
  clear hzd
  have hB : (headB p raw n sum).size = 9 := by unfold headB; simp only [ByteArray.size_append, bigS_size, hps]
  have hla : (headB p raw n sum).size + zs.size ≤ maxLen := by rw [hB, hzz]; unfold maxLen; omega
  have hla2 : 9 + n ≤ maxLen := by unfold maxLen; omega
  have hla3 : 9 + zs.size ≤ maxLen := by rw [hzz]; unfold maxLen; omega
  have hwk : IntKind.u8.wrap 1 = 1 := by rfl
  have hwr : IntKind.u64.wrap raw = raw := by rw [show raw = ((raw.toNat : Nat) : Int) by omega]; exact wrap64u _ (by omega)
  have hwn : IntKind.u64.wrap (n : Int) = (n : Int) := wrap64u _ (by omega)
  have hws : IntKind.u64.wrap sum = sum := by rw [show sum = ((sum.toNat : Nat) : Int) by omega]; exact wrap64u _ (by omega)
  have hw9 : IntKind.i64.wrap (9 + (n : Int)) = 9 + (n : Int) := by rw [IntKind.wrap_i64]; omega
  have x1 : decide (raw < 0) = false := by simp <;> omega
  have x2 : decide (raw > 65535) = false := by simp <;> omega
  have x3 : decide ((n : Int) < 0) = false := by simp <;> omega
  have x4 : decide ((n : Int) > 2000) = false := by simp <;> omega
  have x5 : decide (bs < 1) = false := by simp <;> omega
  have x6 : decide (bs > 2000) = false := by simp <;> omega
  have y1 : decide (raw ≥ 1) = true := by simp <;> omega
  have y2 : decide (raw ≤ 1024) = true := by simp <;> omega
  have y3 : decide ((n : Int) ≥ 1) = true := by simp <;> omega
  have y4 : ((1 : Int) == 1) = true := by simp <;> omega
  have y5 : ((n : Int) == raw) = true := by simp <;> omega
  have hfit : fitsB 1 raw zs.size 1024 = true := by rw [hzz]; unfold fitsB; simp; omega
  have hok : okF 1 raw sum zs := .inr ⟨by omega, hfit⟩
  have hpf : putF 1 raw sum zs = frameS 1 raw sum zs := by unfold putF; rw [if_pos hok, if_neg (by omega)]
  have hb : decide (raw > bs) = true := by simp <;> omega
  have hqe := getB_no 1 raw sum bs n ⟨#[]⟩ hk (by omega) (by omega) hsu (.inl (by omega))
  have hqh := getB_no 1 raw sum bs n zs hk (by omega) (by omega) hsu (.inl (by omega))
  rw [← hp] at hqe hqh
  rw [app_empty] at hqe
  clear hp
  clear h9
  have bel : Below w.heap.size w w := Below.refl _ _
  go_enter Try.func18, Try.ntmps18
  go_wp2_with fail
  refine (alive_call _).mono ?_
  rintro e w1 ⟨rfl, hb1⟩
  replace bel := bstep bel hb1
  have hmk := CrcN.make_n w1 n (by omega)
  have hcv := hcz (w1.alloc (.cells (madeCells #[Value.int .u8 0] n) 5)) w1.heap.size (CrcN.made_cells w1 n)
  replace bel := bstep bel (balloc (Below.refl w1.heap.size w1) (.cells (madeCells #[Value.int .u8 0] n) 5))
  have f0 : ((w1.alloc (.cells (madeCells #[Value.int .u8 0] n) 5)).alloc (.cells #[.int .i64 1, .int .i64 raw, .int .u32 sum, .string zs] 58)).cell? ⟨w1.heap.size + 1, 0, none⟩ = some (.int .i64 1) := by simp
  have f1 : ((w1.alloc (.cells (madeCells #[Value.int .u8 0] n) 5)).alloc (.cells #[.int .i64 1, .int .i64 raw, .int .u32 sum, .string zs] 58)).cell? ⟨w1.heap.size + 1, 1, none⟩ = some (.int .i64 raw) := by simp
  have f2 : ((w1.alloc (.cells (madeCells #[Value.int .u8 0] n) 5)).alloc (.cells #[.int .i64 1, .int .i64 raw, .int .u32 sum, .string zs] 58)).cell? ⟨w1.heap.size + 1, 2, none⟩ = some (.int .u32 sum) := by simp
  have f3 : ((w1.alloc (.cells (madeCells #[Value.int .u8 0] n) 5)).alloc (.cells #[.int .i64 1, .int .i64 raw, .int .u32 sum, .string zs] 58)).cell? ⟨w1.heap.size + 1, 3, none⟩ = some (.string zs) := by simp
  replace bel := bstep bel (balloc (Below.refl (w1.alloc (.cells (madeCells #[Value.int .u8 0] n) 5)).heap.size (w1.alloc (.cells (madeCells #[Value.int .u8 0] n) 5))) (.cells #[.int .i64 1, .int .i64 raw, .int .u32 sum, .string zs] 58))
  go_wp2_with fail
  refine (put_any 1 raw sum zs _ hsu).mono ?_
  rintro e w2 ⟨rfl, hb2⟩
  replace f0 := pw_cell_below hb2 f0
  replace f1 := pw_cell_below hb2 f1
  replace f2 := pw_cell_below hb2 f2
  replace f3 := pw_cell_below hb2 f3
  replace bel := bstep bel hb2
  rw [decide_eq_true hok, hpf]
  clear hmk hcv
  go_wp2_with fail
  refine Reg.wp_region_lists (fun W W' => Below W.heap.size W W') (bdV 1 raw sum n p w2.heap.size)
    [some 97, some 98, some 99, some 100, some 101, some 102, some 103, some 104, some 105, some 106, some 107, some 108, some 109, some 110, some 111, some 112, some 15]
    [[], [0], [1], [2], [], [4], [5], [3, 6], [], [8], [9, 6], [7, 10], [], [12], [13, 10], [11, 14], [15, 14, 0, 1, 2, 3, 4, 5, 6, 7, 8, 9, 10, 11, 12, 13, 14, 15]]
    (by kernel_rfl) (by kernel_rfl) (by kernel_rfl) (fun _ => Below.refl _ _) (fun _ _ _ h k => bstep h k) ?_ ?_ ?_
  · intro i v W W' h k
    unfold bdV at h ⊢
    split at h <;> first | exact h | (obtain ⟨b, e, hc⟩ := h; exact ⟨b, e, pw_cell_below k hc⟩)
  · refine ⟨?_, ?_, ?_, ?_, ?_, ?_, ?_, ?_, ?_, ?_, ?_, ?_, ?_, ?_, ?_, ?_, ?_, trivial⟩
    · intro vals W K hR hV hK
      simp only [Reg.putS, List.foldl, List.headD, List.tail, List.getD_cons_zero, List.getD_cons_succ, Act.put, List.setIfInBounds_toArray, List.set_cons_zero, List.set_cons_succ] at hK ⊢
      go_simp
      first
        | exact hK _ _ (Below.refl _ _) rfl
        | (rw [if_pos (by omega)]; exact hK _ _ (Below.refl _ _) rfl)
        | (rw [dif_pos (by omega)]; exact hK _ _ (Below.refl _ _) rfl)
        | (rw [if_neg (by omega)]; exact hK _ _ (Below.refl _ _) rfl)
    · intro vals W K hR hV hK
      have d0 := hV 0 (by simp)
      simp only [bdV] at d0
      simp only [Reg.putS, List.foldl, List.headD, List.tail, List.getD_cons_zero, List.getD_cons_succ, Act.put, List.setIfInBounds_toArray, List.set_cons_zero, List.set_cons_succ, d0] at hK ⊢
      go_simp
      first
        | exact hK _ _ (Below.refl _ _) rfl
        | (rw [if_pos (by omega)]; exact hK _ _ (Below.refl _ _) rfl)
        | (rw [dif_pos (by omega)]; exact hK _ _ (Below.refl _ _) rfl)
        | (rw [if_neg (by omega)]; exact hK _ _ (Below.refl _ _) rfl)
    · intro vals W K hR hV hK
      have d1 := hV 1 (by simp)
      simp only [bdV] at d1
      simp only [Reg.putS, List.foldl, List.headD, List.tail, List.getD_cons_zero, List.getD_cons_succ, Act.put, List.setIfInBounds_toArray, List.set_cons_zero, List.set_cons_succ, d1] at hK ⊢
      go_simp
      exact hK _ _ (balloc (Below.refl _ _) _) ⟨_, rfl, by simp⟩
    · intro vals W K hR hV hK
      have d2 := hV 2 (by simp)
      simp only [bdV] at d2
      obtain ⟨b, d2, hcell⟩ := d2
      simp only [Reg.putS, List.foldl, List.headD, List.tail, List.getD_cons_zero, List.getD_cons_succ, Act.put, List.setIfInBounds_toArray, List.set_cons_zero, List.set_cons_succ, d2] at hK ⊢
      have hcv := hcg W b hcell
      go_simp
      first
        | exact hK _ _ (Below.refl _ _) rfl
        | (rw [if_pos (by omega)]; exact hK _ _ (Below.refl _ _) rfl)
        | (rw [dif_pos (by omega)]; exact hK _ _ (Below.refl _ _) rfl)
        | (rw [if_neg (by omega)]; exact hK _ _ (Below.refl _ _) rfl)
    · intro vals W K hR hV hK
      simp only [Reg.putS, List.foldl, List.headD, List.tail, List.getD_cons_zero, List.getD_cons_succ, Act.put, List.setIfInBounds_toArray, List.set_cons_zero, List.set_cons_succ] at hK ⊢
      go_simp
      first
        | exact hK _ _ (Below.refl _ _) rfl
        | (rw [if_pos (by omega)]; exact hK _ _ (Below.refl _ _) rfl)
        | (rw [dif_pos (by omega)]; exact hK _ _ (Below.refl _ _) rfl)
        | (rw [if_neg (by omega)]; exact hK _ _ (Below.refl _ _) rfl)
    · intro vals W K hR hV hK
      have d4 := hV 4 (by simp)
      simp only [bdV] at d4
      simp only [Reg.putS, List.foldl, List.headD, List.tail, List.getD_cons_zero, List.getD_cons_succ, Act.put, List.setIfInBounds_toArray, List.set_cons_zero, List.set_cons_succ, d4] at hK ⊢
      go_simp
      first
        | exact hK _ _ (Below.refl _ _) rfl
        | (rw [if_pos (by omega)]; exact hK _ _ (Below.refl _ _) rfl)
        | (rw [dif_pos (by omega)]; exact hK _ _ (Below.refl _ _) rfl)
        | (rw [if_neg (by omega)]; exact hK _ _ (Below.refl _ _) rfl)
    · intro vals W K hR hV hK
      have d5 := hV 5 (by simp)
      simp only [bdV] at d5
      simp only [Reg.putS, List.foldl, List.headD, List.tail, List.getD_cons_zero, List.getD_cons_succ, Act.put, List.setIfInBounds_toArray, List.set_cons_zero, List.set_cons_succ, d5] at hK ⊢
      go_simp
      refine (refBig_call raw 2 _ (by omega) (by omega) (by omega)).mono ?_
      rintro e w2 ⟨rfl, hb⟩
      exact hK _ _ hb rfl
    · intro vals W K hR hV hK
      have d3 := hV 3 (by simp)
      simp only [bdV] at d3
      have d6 := hV 6 (by simp)
      simp only [bdV] at d6
      simp only [Reg.putS, List.foldl, List.headD, List.tail, List.getD_cons_zero, List.getD_cons_succ, Act.put, List.setIfInBounds_toArray, List.set_cons_zero, List.set_cons_succ, d3, d6] at hK ⊢
      go_simp
      first
        | exact hK _ _ (Below.refl _ _) rfl
        | (rw [if_pos (by omega)]; exact hK _ _ (Below.refl _ _) rfl)
        | (rw [dif_pos (by omega)]; exact hK _ _ (Below.refl _ _) rfl)
        | (rw [if_neg (by omega)]; exact hK _ _ (Below.refl _ _) rfl)
    · intro vals W K hR hV hK
      simp only [Reg.putS, List.foldl, List.headD, List.tail, List.getD_cons_zero, List.getD_cons_succ, Act.put, List.setIfInBounds_toArray, List.set_cons_zero, List.set_cons_succ] at hK ⊢
      go_simp
      first
        | exact hK _ _ (Below.refl _ _) rfl
        | (rw [if_pos (by omega)]; exact hK _ _ (Below.refl _ _) rfl)
        | (rw [dif_pos (by omega)]; exact hK _ _ (Below.refl _ _) rfl)
        | (rw [if_neg (by omega)]; exact hK _ _ (Below.refl _ _) rfl)
    · intro vals W K hR hV hK
      have d8 := hV 8 (by simp)
      simp only [bdV] at d8
      simp only [Reg.putS, List.foldl, List.headD, List.tail, List.getD_cons_zero, List.getD_cons_succ, Act.put, List.setIfInBounds_toArray, List.set_cons_zero, List.set_cons_succ, d8] at hK ⊢
      go_simp
      first
        | exact hK _ _ (Below.refl _ _) rfl
        | (rw [if_pos (by omega)]; exact hK _ _ (Below.refl _ _) rfl)
        | (rw [dif_pos (by omega)]; exact hK _ _ (Below.refl _ _) rfl)
        | (rw [if_neg (by omega)]; exact hK _ _ (Below.refl _ _) rfl)
    · intro vals W K hR hV hK
      have d6 := hV 6 (by simp)
      simp only [bdV] at d6
      have d9 := hV 9 (by simp)
      simp only [bdV] at d9
      simp only [Reg.putS, List.foldl, List.headD, List.tail, List.getD_cons_zero, List.getD_cons_succ, Act.put, List.setIfInBounds_toArray, List.set_cons_zero, List.set_cons_succ, d6, d9] at hK ⊢
      go_simp
      refine (refBig_call (n : Int) 2 _ (by omega) (by omega) (by omega)).mono ?_
      rintro e w2 ⟨rfl, hb⟩
      exact hK _ _ hb rfl
    · intro vals W K hR hV hK
      have d7 := hV 7 (by simp)
      simp only [bdV] at d7
      have d10 := hV 10 (by simp)
      simp only [bdV] at d10
      simp only [Reg.putS, List.foldl, List.headD, List.tail, List.getD_cons_zero, List.getD_cons_succ, Act.put, List.setIfInBounds_toArray, List.set_cons_zero, List.set_cons_succ, d7, d10] at hK ⊢
      go_simp
      first
        | exact hK _ _ (Below.refl _ _) rfl
        | (rw [if_pos (by omega)]; exact hK _ _ (Below.refl _ _) rfl)
        | (rw [dif_pos (by omega)]; exact hK _ _ (Below.refl _ _) rfl)
        | (rw [if_neg (by omega)]; exact hK _ _ (Below.refl _ _) rfl)
    · intro vals W K hR hV hK
      simp only [Reg.putS, List.foldl, List.headD, List.tail, List.getD_cons_zero, List.getD_cons_succ, Act.put, List.setIfInBounds_toArray, List.set_cons_zero, List.set_cons_succ] at hK ⊢
      go_simp
      first
        | exact hK _ _ (Below.refl _ _) rfl
        | (rw [if_pos (by omega)]; exact hK _ _ (Below.refl _ _) rfl)
        | (rw [dif_pos (by omega)]; exact hK _ _ (Below.refl _ _) rfl)
        | (rw [if_neg (by omega)]; exact hK _ _ (Below.refl _ _) rfl)
    · intro vals W K hR hV hK
      have d12 := hV 12 (by simp)
      simp only [bdV] at d12
      simp only [Reg.putS, List.foldl, List.headD, List.tail, List.getD_cons_zero, List.getD_cons_succ, Act.put, List.setIfInBounds_toArray, List.set_cons_zero, List.set_cons_succ, d12] at hK ⊢
      go_simp
      first
        | exact hK _ _ (Below.refl _ _) rfl
        | (rw [if_pos (by omega)]; exact hK _ _ (Below.refl _ _) rfl)
        | (rw [dif_pos (by omega)]; exact hK _ _ (Below.refl _ _) rfl)
        | (rw [if_neg (by omega)]; exact hK _ _ (Below.refl _ _) rfl)
    · intro vals W K hR hV hK
      have d10 := hV 10 (by simp)
      simp only [bdV] at d10
      have d13 := hV 13 (by simp)
      simp only [bdV] at d13
      simp only [Reg.putS, List.foldl, List.headD, List.tail, List.getD_cons_zero, List.getD_cons_succ, Act.put, List.setIfInBounds_toArray, List.set_cons_zero, List.set_cons_succ, d10, d13] at hK ⊢
      go_simp
      refine (refBig_call sum 4 _ (by omega) (by omega) (by omega)).mono ?_
      rintro e w2 ⟨rfl, hb⟩
      exact hK _ _ hb rfl
    · intro vals W K hR hV hK
      have d11 := hV 11 (by simp)
      simp only [bdV] at d11
      have d14 := hV 14 (by simp)
      simp only [bdV] at d14
      simp only [Reg.putS, List.foldl, List.headD, List.tail, List.getD_cons_zero, List.getD_cons_succ, Act.put, List.setIfInBounds_toArray, List.set_cons_zero, List.set_cons_succ, d11, d14] at hK ⊢
      go_simp
      first
        | exact hK _ _ (Below.refl _ _) rfl
        | (rw [if_pos (by omega)]; exact hK _ _ (Below.refl _ _) rfl)
        | (rw [dif_pos (by omega)]; exact hK _ _ (Below.refl _ _) rfl)
        | (rw [if_neg (by omega)]; exact hK _ _ (Below.refl _ _) rfl)
    · intro vals W K hR hV hK
      have d0 := hV 0 (by simp)
      simp only [bdV] at d0
      have d1 := hV 1 (by simp)
      simp only [bdV] at d1
      have d2 := hV 2 (by simp)
      simp only [bdV] at d2
      obtain ⟨b, d2, hcell⟩ := d2
      have d3 := hV 3 (by simp)
      simp only [bdV] at d3
      have d4 := hV 4 (by simp)
      simp only [bdV] at d4
      have d5 := hV 5 (by simp)
      simp only [bdV] at d5
      have d6 := hV 6 (by simp)
      simp only [bdV] at d6
      have d7 := hV 7 (by simp)
      simp only [bdV] at d7
      have d8 := hV 8 (by simp)
      simp only [bdV] at d8
      have d9 := hV 9 (by simp)
      simp only [bdV] at d9
      have d10 := hV 10 (by simp)
      simp only [bdV] at d10
      have d11 := hV 11 (by simp)
      simp only [bdV] at d11
      have d12 := hV 12 (by simp)
      simp only [bdV] at d12
      have d13 := hV 13 (by simp)
      simp only [bdV] at d13
      have d14 := hV 14 (by simp)
      simp only [bdV] at d14
      have d15 := hV 15 (by simp)
      simp only [bdV] at d15
      simp only [Reg.putS, List.foldl, List.headD, List.tail, List.getD_cons_zero, List.getD_cons_succ, Act.put, List.setIfInBounds_toArray, List.set_cons_zero, List.set_cons_succ, d0, d1, d2, d3, d4, d5, d6, d7, d8, d9, d10, d11, d12, d13, d14, d15] at hK ⊢
      go_simp
      first
        | exact hK _ _ (Below.refl _ _) rfl
        | (rw [if_pos (by omega)]; exact hK _ _ (Below.refl _ _) rfl)
        | (rw [dif_pos (by omega)]; exact hK _ _ (Below.refl _ _) rfl)
        | (rw [if_neg (by omega)]; exact hK _ _ (Below.refl _ _) rfl)
  · intro vals W hR hV
    rw [show List.range (List.length [some 97, some 98, some 99, some 100, some 101, some 102, some 103, some 104, some 105, some 106, some 107, some 108, some 109, some 110, some 111, some 112, some 15]) = [0, 1, 2, 3, 4, 5, 6, 7, 8, 9, 10, 11, 12, 13, 14, 15, 16] from rfl]
    have d0 := hV 0 (by decide)
    simp only [bdV] at d0
    have d1 := hV 1 (by decide)
    simp only [bdV] at d1
    have d2 := hV 2 (by decide)
    simp only [bdV] at d2
    obtain ⟨b, d2, hcell⟩ := d2
    have d3 := hV 3 (by decide)
    simp only [bdV] at d3
    have d4 := hV 4 (by decide)
    simp only [bdV] at d4
    have d5 := hV 5 (by decide)
    simp only [bdV] at d5
    have d6 := hV 6 (by decide)
    simp only [bdV] at d6
    have d7 := hV 7 (by decide)
    simp only [bdV] at d7
    have d8 := hV 8 (by decide)
    simp only [bdV] at d8
    have d9 := hV 9 (by decide)
    simp only [bdV] at d9
    have d10 := hV 10 (by decide)
    simp only [bdV] at d10
    have d11 := hV 11 (by decide)
    simp only [bdV] at d11
    have d12 := hV 12 (by decide)
    simp only [bdV] at d12
    have d13 := hV 13 (by decide)
    simp only [bdV] at d13
    have d14 := hV 14 (by decide)
    simp only [bdV] at d14
    have d15 := hV 15 (by decide)
    simp only [bdV] at d15
    have d16 := hV 16 (by decide)
    simp only [bdV] at d16
    clear hV
    simp only [Reg.putS, List.foldl, List.getD_cons_zero, List.getD_cons_succ, Act.put, List.setIfInBounds_toArray, List.set_cons_zero, List.set_cons_succ, d0, d1, d2, d3, d4, d5, d6, d7, d8, d9, d10, d11, d12, d13, d14, d15, d16]
    clear d0 d1 d2 d3 d4 d5 d6 d7 d8 d9 d10 d11 d12 d13 d14 d15 d16
    replace bel := bstep (below_drew bel) hR
    replace f0 := pw_cell_below hR f0
    replace f1 := pw_cell_below hR f1
    replace f2 := pw_cell_below hR f2
    replace f3 := pw_cell_below hR f3
    clear hR
    go_wp2_with fail
    refine (fget_any (headB p raw n sum) bs _ (by omega)).mono ?_
    rintro e w3 ⟨rfl, hb3⟩
    replace f0 := pw_cell_below hb3 f0
    replace f1 := pw_cell_below hb3 f1
    replace f2 := pw_cell_below hb3 f2
    replace f3 := pw_cell_below hb3 f3
    replace bel := bstep bel hb3
    simp only [getOut, frameAgg, hqe]
    have y0 : (w3.alloc (.cells #[.int .i64 0, .int .i64 0, .int .u32 0, .string ⟨#[]⟩] 58)).cell? ⟨w3.heap.size, 0, none⟩ = some (.int .i64 0) := by simp
    have y1 : (w3.alloc (.cells #[.int .i64 0, .int .i64 0, .int .u32 0, .string ⟨#[]⟩] 58)).cell? ⟨w3.heap.size, 1, none⟩ = some (.int .i64 0) := by simp
    have y2 : (w3.alloc (.cells #[.int .i64 0, .int .i64 0, .int .u32 0, .string ⟨#[]⟩] 58)).cell? ⟨w3.heap.size, 2, none⟩ = some (.int .u32 0) := by simp
    have y3 : (w3.alloc (.cells #[.int .i64 0, .int .i64 0, .int .u32 0, .string ⟨#[]⟩] 58)).cell? ⟨w3.heap.size, 3, none⟩ = some (.string ⟨#[]⟩) := by simp
    have f0n := pw_cell_below (balloc (Below.refl w3.heap.size w3) (.cells #[.int .i64 0, .int .i64 0, .int .u32 0, .string ⟨#[]⟩] 58)) f0
    have f1n := pw_cell_below (balloc (Below.refl w3.heap.size w3) (.cells #[.int .i64 0, .int .i64 0, .int .u32 0, .string ⟨#[]⟩] 58)) f1
    have f2n := pw_cell_below (balloc (Below.refl w3.heap.size w3) (.cells #[.int .i64 0, .int .i64 0, .int .u32 0, .string ⟨#[]⟩] 58)) f2
    have f3n := pw_cell_below (balloc (Below.refl w3.heap.size w3) (.cells #[.int .i64 0, .int .i64 0, .int .u32 0, .string ⟨#[]⟩] 58)) f3
    have beln := bstep bel (balloc (Below.refl w3.heap.size w3) (.cells #[.int .i64 0, .int .i64 0, .int .u32 0, .string ⟨#[]⟩] 58))
    go_wp2_with fail
    refine (fget_any (headB p raw n sum ++ zs) bs _ (by rw [ByteArray.size_append]; omega)).mono ?_
    rintro e w4 ⟨rfl, hb4⟩
    replace f0 := pw_cell_below hb4 f0n
    clear f0n
    replace f1 := pw_cell_below hb4 f1n
    clear f1n
    replace f2 := pw_cell_below hb4 f2n
    clear f2n
    replace f3 := pw_cell_below hb4 f3n
    clear f3n
    replace y0 := pw_cell_below hb4 y0
    replace y1 := pw_cell_below hb4 y1
    replace y2 := pw_cell_below hb4 y2
    replace y3 := pw_cell_below hb4 y3
    replace bel := bstep beln hb4
    clear beln
    simp only [getOut, frameAgg, hqh]
    have z0 : (w4.alloc (.cells #[.int .i64 0, .int .i64 0, .int .u32 0, .string ⟨#[]⟩] 58)).cell? ⟨w4.heap.size, 0, none⟩ = some (.int .i64 0) := by simp
    have z1 : (w4.alloc (.cells #[.int .i64 0, .int .i64 0, .int .u32 0, .string ⟨#[]⟩] 58)).cell? ⟨w4.heap.size, 1, none⟩ = some (.int .i64 0) := by simp
    have z2 : (w4.alloc (.cells #[.int .i64 0, .int .i64 0, .int .u32 0, .string ⟨#[]⟩] 58)).cell? ⟨w4.heap.size, 2, none⟩ = some (.int .u32 0) := by simp
    have z3 : (w4.alloc (.cells #[.int .i64 0, .int .i64 0, .int .u32 0, .string ⟨#[]⟩] 58)).cell? ⟨w4.heap.size, 3, none⟩ = some (.string ⟨#[]⟩) := by simp
    have f0n := pw_cell_below (balloc (Below.refl w4.heap.size w4) (.cells #[.int .i64 0, .int .i64 0, .int .u32 0, .string ⟨#[]⟩] 58)) f0
    have f1n := pw_cell_below (balloc (Below.refl w4.heap.size w4) (.cells #[.int .i64 0, .int .i64 0, .int .u32 0, .string ⟨#[]⟩] 58)) f1
    have f2n := pw_cell_below (balloc (Below.refl w4.heap.size w4) (.cells #[.int .i64 0, .int .i64 0, .int .u32 0, .string ⟨#[]⟩] 58)) f2
    have f3n := pw_cell_below (balloc (Below.refl w4.heap.size w4) (.cells #[.int .i64 0, .int .i64 0, .int .u32 0, .string ⟨#[]⟩] 58)) f3
    have y0n := pw_cell_below (balloc (Below.refl w4.heap.size w4) (.cells #[.int .i64 0, .int .i64 0, .int .u32 0, .string ⟨#[]⟩] 58)) y0
    have y1n := pw_cell_below (balloc (Below.refl w4.heap.size w4) (.cells #[.int .i64 0, .int .i64 0, .int .u32 0, .string ⟨#[]⟩] 58)) y1
    have y2n := pw_cell_below (balloc (Below.refl w4.heap.size w4) (.cells #[.int .i64 0, .int .i64 0, .int .u32 0, .string ⟨#[]⟩] 58)) y2
    have y3n := pw_cell_below (balloc (Below.refl w4.heap.size w4) (.cells #[.int .i64 0, .int .i64 0, .int .u32 0, .string ⟨#[]⟩] 58)) y3
    have beln := bstep bel (balloc (Below.refl w4.heap.size w4) (.cells #[.int .i64 0, .int .i64 0, .int .u32 0, .string ⟨#[]⟩] 58))
    go_wp2_with fail
    go_returns
    exact ⟨rfl, beln⟩
set_option maxRecDepth 20000 in
set_option maxHeartbeats 2000000 in
theorem bounds_y1n_1 (raw bs sum : Int) (n : Nat) (w : World) (hk : (1 : Int) = 1 ∨ (1 : Int) = 2) (h0 : ¬ raw < 0) (h1 : ¬ 65535 < raw) (h3 : n ≤ 2000) (h4 : ¬ bs < 1) (h5 : ¬ 2000 < bs) (hsu : 0 ≤ sum ∧ sum < 4294967296) (h6 : 1 ≤ raw ∧ raw ≤ 1024) (h7 : 1 ≤ n)  (h9 : (n : Int) = raw) (h10 : ¬ bs < raw) :
    Calls Try.prog 18 #[.int .i64 1, .int .i64 raw, .int .i64 (n : Int), .int .i64 bs, .int .u32 sum] w fun e w' => e = .returned (.bool true) ∧ Below w.heap.size w w' := by
  have hbs := bigS_size
  obtain ⟨p, hp⟩ : ∃ p, p = strOfNums [1] := ⟨_, rfl⟩
  have hps : p.size = 1 := by rw [hp]; rfl
  have hcg : ∀ (W : World) (b : Nat), W.cell? ⟨b, 0, none⟩ = some (.int .u8 1) → (convert 32 9 (.slice (some ⟨b, 0, none⟩) 1 1)).run Try.prog W = .ok (.string p) W := fun W b h => by rw [hp]; exact conv1 W b 1 h
  obtain ⟨zs, hzd⟩ : ∃ zs, zs = CrcN.zeroS n := ⟨_, rfl⟩
  have hzz : zs.size = n := by rw [hzd]; exact zero_size n
  have hcz : ∀ (W : World) (b : Nat), (∀ j, j < n → W.cell? ⟨b, j, none⟩ = some (.int .u8 0)) → (convert 32 9 (.slice (some ⟨b, 0, none⟩) n n)).run Try.prog W = .ok (.string zs) W := fun W b h => by rw [hzd]; exact CrcN.conv_n W b n h
  clear hzd
  have hB : (headB p raw n sum).size = 9 := by unfold headB; simp only [ByteArray.size_append, bigS_size, hps]
  have hla : (headB p raw n sum).size + zs.size ≤ maxLen := by rw [hB, hzz]; unfold maxLen; omega
  have hla2 : 9 + n ≤ maxLen := by unfold maxLen; omega
  have hla3 : 9 + zs.size ≤ maxLen := by rw [hzz]; unfold maxLen; omega
  have hwk : IntKind.u8.wrap 1 = 1 := by rfl
  have hwr : IntKind.u64.wrap raw = raw := by rw [show raw = ((raw.toNat : Nat) : Int) by omega]; exact wrap64u _ (by omega)
  have hwn : IntKind.u64.wrap (n : Int) = (n : Int) := wrap64u _ (by omega)
  have hws : IntKind.u64.wrap sum = sum := by rw [show sum = ((sum.toNat : Nat) : Int) by omega]; exact wrap64u _ (by omega)
  have hw9 : IntKind.i64.wrap (9 + (n : Int)) = 9 + (n : Int) := by rw [IntKind.wrap_i64]; omega
  have x1 : decide (raw < 0) = false := by simp <;> omega
  have x2 : decide (raw > 65535) = false := by simp <;> omega
  have x3 : decide ((n : Int) < 0) = false := by simp <;> omega
  have x4 : decide ((n : Int) > 2000) = false := by simp <;> omega
  have x5 : decide (bs < 1) = false := by simp <;> omega
  have x6 : decide (bs > 2000) = false := by simp <;> omega
  have y1 : decide (raw ≥ 1) = true := by simp <;> omega
  have y2 : decide (raw ≤ 1024) = true := by simp <;> omega
  have y3 : decide ((n : Int) ≥ 1) = true := by simp <;> omega
  have y4 : ((1 : Int) == 1) = true := by simp <;> omega
  have y5 : ((n : Int) == raw) = true := by simp <;> omega
  have hfit : fitsB 1 raw zs.size 1024 = true := by rw [hzz]; unfold fitsB; simp; omega
  have hok : okF 1 raw sum zs := .inr ⟨by omega, hfit⟩
  have hpf : putF 1 raw sum zs = frameS 1 raw sum zs := by unfold putF; rw [if_pos hok, if_neg (by omega)]
  have hb : decide (raw > bs) = false := by simp <;> omega
  have hqe := getB_few 1 raw sum bs n ⟨#[]⟩ hk (by omega) (by omega) hsu (by omega) (by rw [← hzz]; exact hfit) (show (0 : Nat) < n by omega)
  have hqh := getB_yes 1 raw sum bs n zs hk (by omega) (by omega) hsu (by omega) (by rw [← hzz]; exact hfit) hzz
  rw [← hp] at hqe hqh
  rw [app_empty] at hqe
  clear hp
  clear h9
  have bel : Below w.heap.size w w := Below.refl _ _
  go_enter Try.func18, Try.ntmps18
  go_wp2_with fail
  refine (alive_call _).mono ?_
  rintro e w1 ⟨rfl, hb1⟩
  replace bel := bstep bel hb1
  have hmk := CrcN.make_n w1 n (by omega)
  have hcv := hcz (w1.alloc (.cells (madeCells #[Value.int .u8 0] n) 5)) w1.heap.size (CrcN.made_cells w1 n)
  replace bel := bstep bel (balloc (Below.refl w1.heap.size w1) (.cells (madeCells #[Value.int .u8 0] n) 5))
  have f0 : ((w1.alloc (.cells (madeCells #[Value.int .u8 0] n) 5)).alloc (.cells #[.int .i64 1, .int .i64 raw, .int .u32 sum, .string zs] 58)).cell? ⟨w1.heap.size + 1, 0, none⟩ = some (.int .i64 1) := by simp
  have f1 : ((w1.alloc (.cells (madeCells #[Value.int .u8 0] n) 5)).alloc (.cells #[.int .i64 1, .int .i64 raw, .int .u32 sum, .string zs] 58)).cell? ⟨w1.heap.size + 1, 1, none⟩ = some (.int .i64 raw) := by simp
  have f2 : ((w1.alloc (.cells (madeCells #[Value.int .u8 0] n) 5)).alloc (.cells #[.int .i64 1, .int .i64 raw, .int .u32 sum, .string zs] 58)).cell? ⟨w1.heap.size + 1, 2, none⟩ = some (.int .u32 sum) := by simp
  have f3 : ((w1.alloc (.cells (madeCells #[Value.int .u8 0] n) 5)).alloc (.cells #[.int .i64 1, .int .i64 raw, .int .u32 sum, .string zs] 58)).cell? ⟨w1.heap.size + 1, 3, none⟩ = some (.string zs) := by simp
  replace bel := bstep bel (balloc (Below.refl (w1.alloc (.cells (madeCells #[Value.int .u8 0] n) 5)).heap.size (w1.alloc (.cells (madeCells #[Value.int .u8 0] n) 5))) (.cells #[.int .i64 1, .int .i64 raw, .int .u32 sum, .string zs] 58))
  go_wp2_with fail
  refine (put_any 1 raw sum zs _ hsu).mono ?_
  rintro e w2 ⟨rfl, hb2⟩
  replace f0 := pw_cell_below hb2 f0
  replace f1 := pw_cell_below hb2 f1
  replace f2 := pw_cell_below hb2 f2
  replace f3 := pw_cell_below hb2 f3
  replace bel := bstep bel hb2
  rw [decide_eq_true hok, hpf]
  clear hmk hcv
  go_wp2_with fail
  refine Reg.wp_region_lists (fun W W' => Below W.heap.size W W') (bdV 1 raw sum n p w2.heap.size)
    [some 97, some 98, some 99, some 100, some 101, some 102, some 103, some 104, some 105, some 106, some 107, some 108, some 109, some 110, some 111, some 112, some 15]
    [[], [0], [1], [2], [], [4], [5], [3, 6], [], [8], [9, 6], [7, 10], [], [12], [13, 10], [11, 14], [15, 14, 0, 1, 2, 3, 4, 5, 6, 7, 8, 9, 10, 11, 12, 13, 14, 15]]
    (by kernel_rfl) (by kernel_rfl) (by kernel_rfl) (fun _ => Below.refl _ _) (fun _ _ _ h k => bstep h k) ?_ ?_ ?_
  · intro i v W W' h k
    unfold bdV at h ⊢
    split at h <;> first | exact h | (obtain ⟨b, e, hc⟩ := h; exact ⟨b, e, pw_cell_below k hc⟩)
  · refine ⟨?_, ?_, ?_, ?_, ?_, ?_, ?_, ?_, ?_, ?_, ?_, ?_, ?_, ?_, ?_, ?_, ?_, trivial⟩
    · intro vals W K hR hV hK
      simp only [Reg.putS, List.foldl, List.headD, List.tail, List.getD_cons_zero, List.getD_cons_succ, Act.put, List.setIfInBounds_toArray, List.set_cons_zero, List.set_cons_succ] at hK ⊢
      go_simp
      first
        | exact hK _ _ (Below.refl _ _) rfl
        | (rw [if_pos (by omega)]; exact hK _ _ (Below.refl _ _) rfl)
        | (rw [dif_pos (by omega)]; exact hK _ _ (Below.refl _ _) rfl)
        | (rw [if_neg (by omega)]; exact hK _ _ (Below.refl _ _) rfl)
    · intro vals W K hR hV hK
      have d0 := hV 0 (by simp)
      simp only [bdV] at d0
      simp only [Reg.putS, List.foldl, List.headD, List.tail, List.getD_cons_zero, List.getD_cons_succ, Act.put, List.setIfInBounds_toArray, List.set_cons_zero, List.set_cons_succ, d0] at hK ⊢
      go_simp
      first
        | exact hK _ _ (Below.refl _ _) rfl
        | (rw [if_pos (by omega)]; exact hK _ _ (Below.refl _ _) rfl)
        | (rw [dif_pos (by omega)]; exact hK _ _ (Below.refl _ _) rfl)
        | (rw [if_neg (by omega)]; exact hK _ _ (Below.refl _ _) rfl)
    · intro vals W K hR hV hK
      have d1 := hV 1 (by simp)
      simp only [bdV] at d1
      simp only [Reg.putS, List.foldl, List.headD, List.tail, List.getD_cons_zero, List.getD_cons_succ, Act.put, List.setIfInBounds_toArray, List.set_cons_zero, List.set_cons_succ, d1] at hK ⊢
      go_simp
      exact hK _ _ (balloc (Below.refl _ _) _) ⟨_, rfl, by simp⟩
    · intro vals W K hR hV hK
      have d2 := hV 2 (by simp)
      simp only [bdV] at d2
      obtain ⟨b, d2, hcell⟩ := d2
      simp only [Reg.putS, List.foldl, List.headD, List.tail, List.getD_cons_zero, List.getD_cons_succ, Act.put, List.setIfInBounds_toArray, List.set_cons_zero, List.set_cons_succ, d2] at hK ⊢
      have hcv := hcg W b hcell
      go_simp
      first
        | exact hK _ _ (Below.refl _ _) rfl
        | (rw [if_pos (by omega)]; exact hK _ _ (Below.refl _ _) rfl)
        | (rw [dif_pos (by omega)]; exact hK _ _ (Below.refl _ _) rfl)
        | (rw [if_neg (by omega)]; exact hK _ _ (Below.refl _ _) rfl)
    · intro vals W K hR hV hK
      simp only [Reg.putS, List.foldl, List.headD, List.tail, List.getD_cons_zero, List.getD_cons_succ, Act.put, List.setIfInBounds_toArray, List.set_cons_zero, List.set_cons_succ] at hK ⊢
      go_simp
      first
        | exact hK _ _ (Below.refl _ _) rfl
        | (rw [if_pos (by omega)]; exact hK _ _ (Below.refl _ _) rfl)
        | (rw [dif_pos (by omega)]; exact hK _ _ (Below.refl _ _) rfl)
        | (rw [if_neg (by omega)]; exact hK _ _ (Below.refl _ _) rfl)
    · intro vals W K hR hV hK
      have d4 := hV 4 (by simp)
      simp only [bdV] at d4
      simp only [Reg.putS, List.foldl, List.headD, List.tail, List.getD_cons_zero, List.getD_cons_succ, Act.put, List.setIfInBounds_toArray, List.set_cons_zero, List.set_cons_succ, d4] at hK ⊢
      go_simp
      first
        | exact hK _ _ (Below.refl _ _) rfl
        | (rw [if_pos (by omega)]; exact hK _ _ (Below.refl _ _) rfl)
        | (rw [dif_pos (by omega)]; exact hK _ _ (Below.refl _ _) rfl)
        | (rw [if_neg (by omega)]; exact hK _ _ (Below.refl _ _) rfl)
    · intro vals W K hR hV hK
      have d5 := hV 5 (by simp)
      simp only [bdV] at d5
      simp only [Reg.putS, List.foldl, List.headD, List.tail, List.getD_cons_zero, List.getD_cons_succ, Act.put, List.setIfInBounds_toArray, List.set_cons_zero, List.set_cons_succ, d5] at hK ⊢
      go_simp
      refine (refBig_call raw 2 _ (by omega) (by omega) (by omega)).mono ?_
      rintro e w2 ⟨rfl, hb⟩
      exact hK _ _ hb rfl
    · intro vals W K hR hV hK
      have d3 := hV 3 (by simp)
      simp only [bdV] at d3
      have d6 := hV 6 (by simp)
      simp only [bdV] at d6
      simp only [Reg.putS, List.foldl, List.headD, List.tail, List.getD_cons_zero, List.getD_cons_succ, Act.put, List.setIfInBounds_toArray, List.set_cons_zero, List.set_cons_succ, d3, d6] at hK ⊢
      go_simp
      first
        | exact hK _ _ (Below.refl _ _) rfl
        | (rw [if_pos (by omega)]; exact hK _ _ (Below.refl _ _) rfl)
        | (rw [dif_pos (by omega)]; exact hK _ _ (Below.refl _ _) rfl)
        | (rw [if_neg (by omega)]; exact hK _ _ (Below.refl _ _) rfl)
    · intro vals W K hR hV hK
      simp only [Reg.putS, List.foldl, List.headD, List.tail, List.getD_cons_zero, List.getD_cons_succ, Act.put, List.setIfInBounds_toArray, List.set_cons_zero, List.set_cons_succ] at hK ⊢
      go_simp
      first
        | exact hK _ _ (Below.refl _ _) rfl
        | (rw [if_pos (by omega)]; exact hK _ _ (Below.refl _ _) rfl)
        | (rw [dif_pos (by omega)]; exact hK _ _ (Below.refl _ _) rfl)
        | (rw [if_neg (by omega)]; exact hK _ _ (Below.refl _ _) rfl)
    · intro vals W K hR hV hK
      have d8 := hV 8 (by simp)
      simp only [bdV] at d8
      simp only [Reg.putS, List.foldl, List.headD, List.tail, List.getD_cons_zero, List.getD_cons_succ, Act.put, List.setIfInBounds_toArray, List.set_cons_zero, List.set_cons_succ, d8] at hK ⊢
      go_simp
      first
        | exact hK _ _ (Below.refl _ _) rfl
        | (rw [if_pos (by omega)]; exact hK _ _ (Below.refl _ _) rfl)
        | (rw [dif_pos (by omega)]; exact hK _ _ (Below.refl _ _) rfl)
        | (rw [if_neg (by omega)]; exact hK _ _ (Below.refl _ _) rfl)
    · intro vals W K hR hV hK
      have d6 := hV 6 (by simp)
      simp only [bdV] at d6
      have d9 := hV 9 (by simp)
      simp only [bdV] at d9
      simp only [Reg.putS, List.foldl, List.headD, List.tail, List.getD_cons_zero, List.getD_cons_succ, Act.put, List.setIfInBounds_toArray, List.set_cons_zero, List.set_cons_succ, d6, d9] at hK ⊢
      go_simp
      refine (refBig_call (n : Int) 2 _ (by omega) (by omega) (by omega)).mono ?_
      rintro e w2 ⟨rfl, hb⟩
      exact hK _ _ hb rfl
    · intro vals W K hR hV hK
      have d7 := hV 7 (by simp)
      simp only [bdV] at d7
      have d10 := hV 10 (by simp)
      simp only [bdV] at d10
      simp only [Reg.putS, List.foldl, List.headD, List.tail, List.getD_cons_zero, List.getD_cons_succ, Act.put, List.setIfInBounds_toArray, List.set_cons_zero, List.set_cons_succ, d7, d10] at hK ⊢
      go_simp
      first
        | exact hK _ _ (Below.refl _ _) rfl
        | (rw [if_pos (by omega)]; exact hK _ _ (Below.refl _ _) rfl)
        | (rw [dif_pos (by omega)]; exact hK _ _ (Below.refl _ _) rfl)
        | (rw [if_neg (by omega)]; exact hK _ _ (Below.refl _ _) rfl)
    · intro vals W K hR hV hK
      simp only [Reg.putS, List.foldl, List.headD, List.tail, List.getD_cons_zero, List.getD_cons_succ, Act.put, List.setIfInBounds_toArray, List.set_cons_zero, List.set_cons_succ] at hK ⊢
      go_simp
      first
        | exact hK _ _ (Below.refl _ _) rfl
        | (rw [if_pos (by omega)]; exact hK _ _ (Below.refl _ _) rfl)
        | (rw [dif_pos (by omega)]; exact hK _ _ (Below.refl _ _) rfl)
        | (rw [if_neg (by omega)]; exact hK _ _ (Below.refl _ _) rfl)
    · intro vals W K hR hV hK
      have d12 := hV 12 (by simp)
      simp only [bdV] at d12
      simp only [Reg.putS, List.foldl, List.headD, List.tail, List.getD_cons_zero, List.getD_cons_succ, Act.put, List.setIfInBounds_toArray, List.set_cons_zero, List.set_cons_succ, d12] at hK ⊢
      go_simp
      first
        | exact hK _ _ (Below.refl _ _) rfl
        | (rw [if_pos (by omega)]; exact hK _ _ (Below.refl _ _) rfl)
        | (rw [dif_pos (by omega)]; exact hK _ _ (Below.refl _ _) rfl)
        | (rw [if_neg (by omega)]; exact hK _ _ (Below.refl _ _) rfl)
    · intro vals W K hR hV hK
      have d10 := hV 10 (by simp)
      simp only [bdV] at d10
      have d13 := hV 13 (by simp)
      simp only [bdV] at d13
      simp only [Reg.putS, List.foldl, List.headD, List.tail, List.getD_cons_zero, List.getD_cons_succ, Act.put, List.setIfInBounds_toArray, List.set_cons_zero, List.set_cons_succ, d10, d13] at hK ⊢
      go_simp
      refine (refBig_call sum 4 _ (by omega) (by omega) (by omega)).mono ?_
      rintro e w2 ⟨rfl, hb⟩
      exact hK _ _ hb rfl
    · intro vals W K hR hV hK
      have d11 := hV 11 (by simp)
      simp only [bdV] at d11
      have d14 := hV 14 (by simp)
      simp only [bdV] at d14
      simp only [Reg.putS, List.foldl, List.headD, List.tail, List.getD_cons_zero, List.getD_cons_succ, Act.put, List.setIfInBounds_toArray, List.set_cons_zero, List.set_cons_succ, d11, d14] at hK ⊢
      go_simp
      first
        | exact hK _ _ (Below.refl _ _) rfl
        | (rw [if_pos (by omega)]; exact hK _ _ (Below.refl _ _) rfl)
        | (rw [dif_pos (by omega)]; exact hK _ _ (Below.refl _ _) rfl)
        | (rw [if_neg (by omega)]; exact hK _ _ (Below.refl _ _) rfl)
    · intro vals W K hR hV hK
      have d0 := hV 0 (by simp)
      simp only [bdV] at d0
      have d1 := hV 1 (by simp)
      simp only [bdV] at d1
      have d2 := hV 2 (by simp)
      simp only [bdV] at d2
      obtain ⟨b, d2, hcell⟩ := d2
      have d3 := hV 3 (by simp)
      simp only [bdV] at d3
      have d4 := hV 4 (by simp)
      simp only [bdV] at d4
      have d5 := hV 5 (by simp)
      simp only [bdV] at d5
      have d6 := hV 6 (by simp)
      simp only [bdV] at d6
      have d7 := hV 7 (by simp)
      simp only [bdV] at d7
      have d8 := hV 8 (by simp)
      simp only [bdV] at d8
      have d9 := hV 9 (by simp)
      simp only [bdV] at d9
      have d10 := hV 10 (by simp)
      simp only [bdV] at d10
      have d11 := hV 11 (by simp)
      simp only [bdV] at d11
      have d12 := hV 12 (by simp)
      simp only [bdV] at d12
      have d13 := hV 13 (by simp)
      simp only [bdV] at d13
      have d14 := hV 14 (by simp)
      simp only [bdV] at d14
      have d15 := hV 15 (by simp)
      simp only [bdV] at d15
      simp only [Reg.putS, List.foldl, List.headD, List.tail, List.getD_cons_zero, List.getD_cons_succ, Act.put, List.setIfInBounds_toArray, List.set_cons_zero, List.set_cons_succ, d0, d1, d2, d3, d4, d5, d6, d7, d8, d9, d10, d11, d12, d13, d14, d15] at hK ⊢
      go_simp
      first
        | exact hK _ _ (Below.refl _ _) rfl
        | (rw [if_pos (by omega)]; exact hK _ _ (Below.refl _ _) rfl)
        | (rw [dif_pos (by omega)]; exact hK _ _ (Below.refl _ _) rfl)
        | (rw [if_neg (by omega)]; exact hK _ _ (Below.refl _ _) rfl)
  · intro vals W hR hV
    rw [show List.range (List.length [some 97, some 98, some 99, some 100, some 101, some 102, some 103, some 104, some 105, some 106, some 107, some 108, some 109, some 110, some 111, some 112, some 15]) = [0, 1, 2, 3, 4, 5, 6, 7, 8, 9, 10, 11, 12, 13, 14, 15, 16] from rfl]
    have d0 := hV 0 (by decide)
    simp only [bdV] at d0
    have d1 := hV 1 (by decide)
    simp only [bdV] at d1
    have d2 := hV 2 (by decide)
    simp only [bdV] at d2
    obtain ⟨b, d2, hcell⟩ := d2
    have d3 := hV 3 (by decide)
    simp only [bdV] at d3
    have d4 := hV 4 (by decide)
    simp only [bdV] at d4
    have d5 := hV 5 (by decide)
    simp only [bdV] at d5
    have d6 := hV 6 (by decide)
    simp only [bdV] at d6
    have d7 := hV 7 (by decide)
    simp only [bdV] at d7
    have d8 := hV 8 (by decide)
    simp only [bdV] at d8
    have d9 := hV 9 (by decide)
    simp only [bdV] at d9
    have d10 := hV 10 (by decide)
    simp only [bdV] at d10
    have d11 := hV 11 (by decide)
    simp only [bdV] at d11
    have d12 := hV 12 (by decide)
    simp only [bdV] at d12
    have d13 := hV 13 (by decide)
    simp only [bdV] at d13
    have d14 := hV 14 (by decide)
    simp only [bdV] at d14
    have d15 := hV 15 (by decide)
    simp only [bdV] at d15
    have d16 := hV 16 (by decide)
    simp only [bdV] at d16
    clear hV
    simp only [Reg.putS, List.foldl, List.getD_cons_zero, List.getD_cons_succ, Act.put, List.setIfInBounds_toArray, List.set_cons_zero, List.set_cons_succ, d0, d1, d2, d3, d4, d5, d6, d7, d8, d9, d10, d11, d12, d13, d14, d15, d16]
    clear d0 d1 d2 d3 d4 d5 d6 d7 d8 d9 d10 d11 d12 d13 d14 d15 d16
    replace bel := bstep (below_drew bel) hR
    replace f0 := pw_cell_below hR f0
    replace f1 := pw_cell_below hR f1
    replace f2 := pw_cell_below hR f2
    replace f3 := pw_cell_below hR f3
    clear hR
    go_wp2_with fail
    refine (fget_any (headB p raw n sum) bs _ (by omega)).mono ?_
    rintro e w3 ⟨rfl, hb3⟩
    replace f0 := pw_cell_below hb3 f0
    replace f1 := pw_cell_below hb3 f1
    replace f2 := pw_cell_below hb3 f2
    replace f3 := pw_cell_below hb3 f3
    replace bel := bstep bel hb3
    simp only [getOut, frameAgg, hqe]
    have y0 : (w3.alloc (.cells #[.int .i64 0, .int .i64 0, .int .u32 0, .string ⟨#[]⟩] 58)).cell? ⟨w3.heap.size, 0, none⟩ = some (.int .i64 0) := by simp
    have y1 : (w3.alloc (.cells #[.int .i64 0, .int .i64 0, .int .u32 0, .string ⟨#[]⟩] 58)).cell? ⟨w3.heap.size, 1, none⟩ = some (.int .i64 0) := by simp
    have y2 : (w3.alloc (.cells #[.int .i64 0, .int .i64 0, .int .u32 0, .string ⟨#[]⟩] 58)).cell? ⟨w3.heap.size, 2, none⟩ = some (.int .u32 0) := by simp
    have y3 : (w3.alloc (.cells #[.int .i64 0, .int .i64 0, .int .u32 0, .string ⟨#[]⟩] 58)).cell? ⟨w3.heap.size, 3, none⟩ = some (.string ⟨#[]⟩) := by simp
    have f0n := pw_cell_below (balloc (Below.refl w3.heap.size w3) (.cells #[.int .i64 0, .int .i64 0, .int .u32 0, .string ⟨#[]⟩] 58)) f0
    have f1n := pw_cell_below (balloc (Below.refl w3.heap.size w3) (.cells #[.int .i64 0, .int .i64 0, .int .u32 0, .string ⟨#[]⟩] 58)) f1
    have f2n := pw_cell_below (balloc (Below.refl w3.heap.size w3) (.cells #[.int .i64 0, .int .i64 0, .int .u32 0, .string ⟨#[]⟩] 58)) f2
    have f3n := pw_cell_below (balloc (Below.refl w3.heap.size w3) (.cells #[.int .i64 0, .int .i64 0, .int .u32 0, .string ⟨#[]⟩] 58)) f3
    have beln := bstep bel (balloc (Below.refl w3.heap.size w3) (.cells #[.int .i64 0, .int .i64 0, .int .u32 0, .string ⟨#[]⟩] 58))
    go_wp2_with fail
    refine (fget_any (headB p raw n sum ++ zs) bs _ (by rw [ByteArray.size_append]; omega)).mono ?_
    rintro e w4 ⟨rfl, hb4⟩
    replace f0 := pw_cell_below hb4 f0n
    clear f0n
    replace f1 := pw_cell_below hb4 f1n
    clear f1n
    replace f2 := pw_cell_below hb4 f2n
    clear f2n
    replace f3 := pw_cell_below hb4 f3n
    clear f3n
    replace y0 := pw_cell_below hb4 y0
    replace y1 := pw_cell_below hb4 y1
    replace y2 := pw_cell_below hb4 y2
    replace y3 := pw_cell_below hb4 y3
    replace bel := bstep beln hb4
    clear beln
    simp only [getOut, frameAgg, hqh]
    have z0 : (w4.alloc (.cells #[.int .i64 1, .int .i64 raw, .int .u32 sum, .string zs] 58)).cell? ⟨w4.heap.size, 0, none⟩ = some (.int .i64 1) := by simp
    have z1 : (w4.alloc (.cells #[.int .i64 1, .int .i64 raw, .int .u32 sum, .string zs] 58)).cell? ⟨w4.heap.size, 1, none⟩ = some (.int .i64 raw) := by simp
    have z2 : (w4.alloc (.cells #[.int .i64 1, .int .i64 raw, .int .u32 sum, .string zs] 58)).cell? ⟨w4.heap.size, 2, none⟩ = some (.int .u32 sum) := by simp
    have z3 : (w4.alloc (.cells #[.int .i64 1, .int .i64 raw, .int .u32 sum, .string zs] 58)).cell? ⟨w4.heap.size, 3, none⟩ = some (.string zs) := by simp
    have f0n := pw_cell_below (balloc (Below.refl w4.heap.size w4) (.cells #[.int .i64 1, .int .i64 raw, .int .u32 sum, .string zs] 58)) f0
    have f1n := pw_cell_below (balloc (Below.refl w4.heap.size w4) (.cells #[.int .i64 1, .int .i64 raw, .int .u32 sum, .string zs] 58)) f1
    have f2n := pw_cell_below (balloc (Below.refl w4.heap.size w4) (.cells #[.int .i64 1, .int .i64 raw, .int .u32 sum, .string zs] 58)) f2
    have f3n := pw_cell_below (balloc (Below.refl w4.heap.size w4) (.cells #[.int .i64 1, .int .i64 raw, .int .u32 sum, .string zs] 58)) f3
    have y0n := pw_cell_below (balloc (Below.refl w4.heap.size w4) (.cells #[.int .i64 1, .int .i64 raw, .int .u32 sum, .string zs] 58)) y0
    have y1n := pw_cell_below (balloc (Below.refl w4.heap.size w4) (.cells #[.int .i64 1, .int .i64 raw, .int .u32 sum, .string zs] 58)) y1
    have y2n := pw_cell_below (balloc (Below.refl w4.heap.size w4) (.cells #[.int .i64 1, .int .i64 raw, .int .u32 sum, .string zs] 58)) y2
    have y3n := pw_cell_below (balloc (Below.refl w4.heap.size w4) (.cells #[.int .i64 1, .int .i64 raw, .int .u32 sum, .string zs] 58)) y3
    have beln := bstep bel (balloc (Below.refl w4.heap.size w4) (.cells #[.int .i64 1, .int .i64 raw, .int .u32 sum, .string zs] 58))
    go_wp2_with fail
    go_returns
    exact ⟨rfl, beln⟩
set_option maxRecDepth 20000 in
set_option maxHeartbeats 2000000 in
theorem bounds_y2f_2 (raw bs sum : Int) (n : Nat) (w : World) (hk : (2 : Int) = 1 ∨ (2 : Int) = 2) (h0 : ¬ raw < 0) (h1 : ¬ 65535 < raw) (h3 : n ≤ 2000) (h4 : ¬ bs < 1) (h5 : ¬ 2000 < bs) (hsu : 0 ≤ sum ∧ sum < 4294967296) (h6 : 1 ≤ raw ∧ raw ≤ 1024) (h7 : 1 ≤ n)  (h9 : (n : Int) < raw) (h10 : bs < raw) :
    Calls Try.prog 18 #[.int .i64 2, .int .i64 raw, .int .i64 (n : Int), .int .i64 bs, .int .u32 sum] w fun e w' => e = .returned (.bool true) ∧ Below w.heap.size w w' := by
  have hbs := bigS_size
  obtain ⟨p, hp⟩ : ∃ p, p = strOfNums [2] := ⟨_, rfl⟩
  have hps : p.size = 1 := by rw [hp]; rfl
  have hcg : ∀ (W : World) (b : Nat), W.cell? ⟨b, 0, none⟩ = some (.int .u8 2) → (convert 32 9 (.slice (some ⟨b, 0, none⟩) 1 1)).run Try.prog W = .ok (.string p) W := fun W b h => by rw [hp]; exact conv1 W b 2 h
  obtain ⟨zs, hzd⟩ : ∃ zs, zs = CrcN.zeroS n := ⟨_, rfl⟩
  have hzz : zs.size = n := by rw [hzd]; exact zero_size n
  have hcz : ∀ (W : World) (b : Nat), (∀ j, j < n → W.cell? ⟨b, j, none⟩ = some (.int .u8 0)) → (convert 32 9 (.slice (some ⟨b, 0, none⟩) n n)).run Try.prog W = .ok (.string zs) W := fun W b h => by rw [hzd]; exact CrcN.conv_n W b n h
  clear hzd
  have hB : (headB p raw n sum).size = 9 := by unfold headB; simp only [ByteArray.size_append, bigS_size, hps]
  have hla : (headB p raw n sum).size + zs.size ≤ maxLen := by rw [hB, hzz]; unfold maxLen; omega
  have hla2 : 9 + n ≤ maxLen := by unfold maxLen; omega
  have hla3 : 9 + zs.size ≤ maxLen := by rw [hzz]; unfold maxLen; omega
  have hwk : IntKind.u8.wrap 2 = 2 := by rfl
  have hwr : IntKind.u64.wrap raw = raw := by rw [show raw = ((raw.toNat : Nat) : Int) by omega]; exact wrap64u _ (by omega)
  have hwn : IntKind.u64.wrap (n : Int) = (n : Int) := wrap64u _ (by omega)
  have hws : IntKind.u64.wrap sum = sum := by rw [show sum = ((sum.toNat : Nat) : Int) by omega]; exact wrap64u _ (by omega)
  have hw9 : IntKind.i64.wrap (9 + (n : Int)) = 9 + (n : Int) := by rw [IntKind.wrap_i64]; omega
  have x1 : decide (raw < 0) = false := by simp <;> omega
  have x2 : decide (raw > 65535) = false := by simp <;> omega
  have x3 : decide ((n : Int) < 0) = false := by simp <;> omega
  have x4 : decide ((n : Int) > 2000) = false := by simp <;> omega
  have x5 : decide (bs < 1) = false := by simp <;> omega
  have x6 : decide (bs > 2000) = false := by simp <;> omega
  have y1 : decide (raw ≥ 1) = true := by simp <;> omega
  have y2 : decide (raw ≤ 1024) = true := by simp <;> omega
  have y3 : decide ((n : Int) ≥ 1) = true := by simp <;> omega
  have y4 : ((2 : Int) == 1) = false := by simp <;> omega
  have y6 : ((2 : Int) == 2) = true := by simp <;> omega
  have y7 : decide ((n : Int) < raw) = true := by simp <;> omega
  have hfit : fitsB 2 raw zs.size 1024 = true := by rw [hzz]; unfold fitsB; simp; omega
  have hok : okF 2 raw sum zs := .inr ⟨by omega, hfit⟩
  have hpf : putF 2 raw sum zs = frameS 2 raw sum zs := by unfold putF; rw [if_pos hok, if_neg (by omega)]
  have hb : decide (raw > bs) = true := by simp <;> omega
  have hqe := getB_no 2 raw sum bs n ⟨#[]⟩ hk (by omega) (by omega) hsu (.inl (by omega))
  have hqh := getB_no 2 raw sum bs n zs hk (by omega) (by omega) hsu (.inl (by omega))
  rw [← hp] at hqe hqh
  rw [app_empty] at hqe
  clear hp
  have bel : Below w.heap.size w w := Below.refl _ _
  go_enter Try.func18, Try.ntmps18
  go_wp2_with fail
  refine (alive_call _).mono ?_
  rintro e w1 ⟨rfl, hb1⟩
  replace bel := bstep bel hb1
  have hmk := CrcN.make_n w1 n (by omega)
  have hcv := hcz (w1.alloc (.cells (madeCells #[Value.int .u8 0] n) 5)) w1.heap.size (CrcN.made_cells w1 n)
  replace bel := bstep bel (balloc (Below.refl w1.heap.size w1) (.cells (madeCells #[Value.int .u8 0] n) 5))
  have f0 : ((w1.alloc (.cells (madeCells #[Value.int .u8 0] n) 5)).alloc (.cells #[.int .i64 2, .int .i64 raw, .int .u32 sum, .string zs] 58)).cell? ⟨w1.heap.size + 1, 0, none⟩ = some (.int .i64 2) := by simp
  have f1 : ((w1.alloc (.cells (madeCells #[Value.int .u8 0] n) 5)).alloc (.cells #[.int .i64 2, .int .i64 raw, .int .u32 sum, .string zs] 58)).cell? ⟨w1.heap.size + 1, 1, none⟩ = some (.int .i64 raw) := by simp
  have f2 : ((w1.alloc (.cells (madeCells #[Value.int .u8 0] n) 5)).alloc (.cells #[.int .i64 2, .int .i64 raw, .int .u32 sum, .string zs] 58)).cell? ⟨w1.heap.size + 1, 2, none⟩ = some (.int .u32 sum) := by simp
  have f3 : ((w1.alloc (.cells (madeCells #[Value.int .u8 0] n) 5)).alloc (.cells #[.int .i64 2, .int .i64 raw, .int .u32 sum, .string zs] 58)).cell? ⟨w1.heap.size + 1, 3, none⟩ = some (.string zs) := by simp
  replace bel := bstep bel (balloc (Below.refl (w1.alloc (.cells (madeCells #[Value.int .u8 0] n) 5)).heap.size (w1.alloc (.cells (madeCells #[Value.int .u8 0] n) 5))) (.cells #[.int .i64 2, .int .i64 raw, .int .u32 sum, .string zs] 58))
  go_wp2_with fail
  refine (put_any 2 raw sum zs _ hsu).mono ?_
  rintro e w2 ⟨rfl, hb2⟩
  replace f0 := pw_cell_below hb2 f0
  replace f1 := pw_cell_below hb2 f1
  replace f2 := pw_cell_below hb2 f2
  replace f3 := pw_cell_below hb2 f3
  replace bel := bstep bel hb2
  rw [decide_eq_true hok, hpf]
  clear hmk hcv
  go_wp2_with fail
  refine Reg.wp_region_lists (fun W W' => Below W.heap.size W W') (bdV 2 raw sum n p w2.heap.size)
    [some 97, some 98, some 99, some 100, some 101, some 102, some 103, some 104, some 105, some 106, some 107, some 108, some 109, some 110, some 111, some 112, some 15]
    [[], [0], [1], [2], [], [4], [5], [3, 6], [], [8], [9, 6], [7, 10], [], [12], [13, 10], [11, 14], [15, 14, 0, 1, 2, 3, 4, 5, 6, 7, 8, 9, 10, 11, 12, 13, 14, 15]]
    (by kernel_rfl) (by kernel_rfl) (by kernel_rfl) (fun _ => Below.refl _ _) (fun _ _ _ h k => bstep h k) ?_ ?_ ?_
  · intro i v W W' h k
    unfold bdV at h ⊢
    split at h <;> first | exact h | (obtain ⟨b, e, hc⟩ := h; exact ⟨b, e, pw_cell_below k hc⟩)
  · refine ⟨?_, ?_, ?_, ?_, ?_, ?_, ?_, ?_, ?_, ?_, ?_, ?_, ?_, ?_, ?_, ?_, ?_, trivial⟩
    · intro vals W K hR hV hK
      simp only [Reg.putS, List.foldl, List.headD, List.tail, List.getD_cons_zero, List.getD_cons_succ, Act.put, List.setIfInBounds_toArray, List.set_cons_zero, List.set_cons_succ] at hK ⊢
      go_simp
      first
        | exact hK _ _ (Below.refl _ _) rfl
        | (rw [if_pos (by omega)]; exact hK _ _ (Below.refl _ _) rfl)
        | (rw [dif_pos (by omega)]; exact hK _ _ (Below.refl _ _) rfl)
        | (rw [if_neg (by omega)]; exact hK _ _ (Below.refl _ _) rfl)
    · intro vals W K hR hV hK
      have d0 := hV 0 (by simp)
      simp only [bdV] at d0
      simp only [Reg.putS, List.foldl, List.headD, List.tail, List.getD_cons_zero, List.getD_cons_succ, Act.put, List.setIfInBounds_toArray, List.set_cons_zero, List.set_cons_succ, d0] at hK ⊢
      go_simp
      first
        | exact hK _ _ (Below.refl _ _) rfl
        | (rw [if_pos (by omega)]; exact hK _ _ (Below.refl _ _) rfl)
        | (rw [dif_pos (by omega)]; exact hK _ _ (Below.refl _ _) rfl)
        | (rw [if_neg (by omega)]; exact hK _ _ (Below.refl _ _) rfl)
    · intro vals W K hR hV hK
      have d1 := hV 1 (by simp)
      simp only [bdV] at d1
      simp only [Reg.putS, List.foldl, List.headD, List.tail, List.getD_cons_zero, List.getD_cons_succ, Act.put, List.setIfInBounds_toArray, List.set_cons_zero, List.set_cons_succ, d1] at hK ⊢
      go_simp
      exact hK _ _ (balloc (Below.refl _ _) _) ⟨_, rfl, by simp⟩
    · intro vals W K hR hV hK
      have d2 := hV 2 (by simp)
      simp only [bdV] at d2
      obtain ⟨b, d2, hcell⟩ := d2
      simp only [Reg.putS, List.foldl, List.headD, List.tail, List.getD_cons_zero, List.getD_cons_succ, Act.put, List.setIfInBounds_toArray, List.set_cons_zero, List.set_cons_succ, d2] at hK ⊢
      have hcv := hcg W b hcell
      go_simp
      first
        | exact hK _ _ (Below.refl _ _) rfl
        | (rw [if_pos (by omega)]; exact hK _ _ (Below.refl _ _) rfl)
        | (rw [dif_pos (by omega)]; exact hK _ _ (Below.refl _ _) rfl)
        | (rw [if_neg (by omega)]; exact hK _ _ (Below.refl _ _) rfl)
    · intro vals W K hR hV hK
      simp only [Reg.putS, List.foldl, List.headD, List.tail, List.getD_cons_zero, List.getD_cons_succ, Act.put, List.setIfInBounds_toArray, List.set_cons_zero, List.set_cons_succ] at hK ⊢
      go_simp
      first
        | exact hK _ _ (Below.refl _ _) rfl
        | (rw [if_pos (by omega)]; exact hK _ _ (Below.refl _ _) rfl)
        | (rw [dif_pos (by omega)]; exact hK _ _ (Below.refl _ _) rfl)
        | (rw [if_neg (by omega)]; exact hK _ _ (Below.refl _ _) rfl)
    · intro vals W K hR hV hK
      have d4 := hV 4 (by simp)
      simp only [bdV] at d4
      simp only [Reg.putS, List.foldl, List.headD, List.tail, List.getD_cons_zero, List.getD_cons_succ, Act.put, List.setIfInBounds_toArray, List.set_cons_zero, List.set_cons_succ, d4] at hK ⊢
      go_simp
      first
        | exact hK _ _ (Below.refl _ _) rfl
        | (rw [if_pos (by omega)]; exact hK _ _ (Below.refl _ _) rfl)
        | (rw [dif_pos (by omega)]; exact hK _ _ (Below.refl _ _) rfl)
        | (rw [if_neg (by omega)]; exact hK _ _ (Below.refl _ _) rfl)
    · intro vals W K hR hV hK
      have d5 := hV 5 (by simp)
      simp only [bdV] at d5
      simp only [Reg.putS, List.foldl, List.headD, List.tail, List.getD_cons_zero, List.getD_cons_succ, Act.put, List.setIfInBounds_toArray, List.set_cons_zero, List.set_cons_succ, d5] at hK ⊢
      go_simp
      refine (refBig_call raw 2 _ (by omega) (by omega) (by omega)).mono ?_
      rintro e w2 ⟨rfl, hb⟩
      exact hK _ _ hb rfl
    · intro vals W K hR hV hK
      have d3 := hV 3 (by simp)
      simp only [bdV] at d3
      have d6 := hV 6 (by simp)
      simp only [bdV] at d6
      simp only [Reg.putS, List.foldl, List.headD, List.tail, List.getD_cons_zero, List.getD_cons_succ, Act.put, List.setIfInBounds_toArray, List.set_cons_zero, List.set_cons_succ, d3, d6] at hK ⊢
      go_simp
      first
        | exact hK _ _ (Below.refl _ _) rfl
        | (rw [if_pos (by omega)]; exact hK _ _ (Below.refl _ _) rfl)
        | (rw [dif_pos (by omega)]; exact hK _ _ (Below.refl _ _) rfl)
        | (rw [if_neg (by omega)]; exact hK _ _ (Below.refl _ _) rfl)
    · intro vals W K hR hV hK
      simp only [Reg.putS, List.foldl, List.headD, List.tail, List.getD_cons_zero, List.getD_cons_succ, Act.put, List.setIfInBounds_toArray, List.set_cons_zero, List.set_cons_succ] at hK ⊢
      go_simp
      first
        | exact hK _ _ (Below.refl _ _) rfl
        | (rw [if_pos (by omega)]; exact hK _ _ (Below.refl _ _) rfl)
        | (rw [dif_pos (by omega)]; exact hK _ _ (Below.refl _ _) rfl)
        | (rw [if_neg (by omega)]; exact hK _ _ (Below.refl _ _) rfl)
    · intro vals W K hR hV hK
      have d8 := hV 8 (by simp)
      simp only [bdV] at d8
      simp only [Reg.putS, List.foldl, List.headD, List.tail, List.getD_cons_zero, List.getD_cons_succ, Act.put, List.setIfInBounds_toArray, List.set_cons_zero, List.set_cons_succ, d8] at hK ⊢
      go_simp
      first
        | exact hK _ _ (Below.refl _ _) rfl
        | (rw [if_pos (by omega)]; exact hK _ _ (Below.refl _ _) rfl)
        | (rw [dif_pos (by omega)]; exact hK _ _ (Below.refl _ _) rfl)
        | (rw [if_neg (by omega)]; exact hK _ _ (Below.refl _ _) rfl)
    · intro vals W K hR hV hK
      have d6 := hV 6 (by simp)
      simp only [bdV] at d6
      have d9 := hV 9 (by simp)
      simp only [bdV] at d9
      simp only [Reg.putS, List.foldl, List.headD, List.tail, List.getD_cons_zero, List.getD_cons_succ, Act.put, List.setIfInBounds_toArray, List.set_cons_zero, List.set_cons_succ, d6, d9] at hK ⊢
      go_simp
      refine (refBig_call (n : Int) 2 _ (by omega) (by omega) (by omega)).mono ?_
      rintro e w2 ⟨rfl, hb⟩
      exact hK _ _ hb rfl
    · intro vals W K hR hV hK
      have d7 := hV 7 (by simp)
      simp only [bdV] at d7
      have d10 := hV 10 (by simp)
      simp only [bdV] at d10
      simp only [Reg.putS, List.foldl, List.headD, List.tail, List.getD_cons_zero, List.getD_cons_succ, Act.put, List.setIfInBounds_toArray, List.set_cons_zero, List.set_cons_succ, d7, d10] at hK ⊢
      go_simp
      first
        | exact hK _ _ (Below.refl _ _) rfl
        | (rw [if_pos (by omega)]; exact hK _ _ (Below.refl _ _) rfl)
        | (rw [dif_pos (by omega)]; exact hK _ _ (Below.refl _ _) rfl)
        | (rw [if_neg (by omega)]; exact hK _ _ (Below.refl _ _) rfl)
    · intro vals W K hR hV hK
      simp only [Reg.putS, List.foldl, List.headD, List.tail, List.getD_cons_zero, List.getD_cons_succ, Act.put, List.setIfInBounds_toArray, List.set_cons_zero, List.set_cons_succ] at hK ⊢
      go_simp
      first
        | exact hK _ _ (Below.refl _ _) rfl
        | (rw [if_pos (by omega)]; exact hK _ _ (Below.refl _ _) rfl)
        | (rw [dif_pos (by omega)]; exact hK _ _ (Below.refl _ _) rfl)
        | (rw [if_neg (by omega)]; exact hK _ _ (Below.refl _ _) rfl)
    · intro vals W K hR hV hK
      have d12 := hV 12 (by simp)
      simp only [bdV] at d12
      simp only [Reg.putS, List.foldl, List.headD, List.tail, List.getD_cons_zero, List.getD_cons_succ, Act.put, List.setIfInBounds_toArray, List.set_cons_zero, List.set_cons_succ, d12] at hK ⊢
      go_simp
      first
        | exact hK _ _ (Below.refl _ _) rfl
        | (rw [if_pos (by omega)]; exact hK _ _ (Below.refl _ _) rfl)
        | (rw [dif_pos (by omega)]; exact hK _ _ (Below.refl _ _) rfl)
        | (rw [if_neg (by omega)]; exact hK _ _ (Below.refl _ _) rfl)
    · intro vals W K hR hV hK
      have d10 := hV 10 (by simp)
      simp only [bdV] at d10
      have d13 := hV 13 (by simp)
      simp only [bdV] at d13
      simp only [Reg.putS, List.foldl, List.headD, List.tail, List.getD_cons_zero, List.getD_cons_succ, Act.put, List.setIfInBounds_toArray, List.set_cons_zero, List.set_cons_succ, d10, d13] at hK ⊢
      go_simp
      refine (refBig_call sum 4 _ (by omega) (by omega) (by omega)).mono ?_
      rintro e w2 ⟨rfl, hb⟩
      exact hK _ _ hb rfl
    · intro vals W K hR hV hK
      have d11 := hV 11 (by simp)
      simp only [bdV] at d11
      have d14 := hV 14 (by simp)
      simp only [bdV] at d14
      simp only [Reg.putS, List.foldl, List.headD, List.tail, List.getD_cons_zero, List.getD_cons_succ, Act.put, List.setIfInBounds_toArray, List.set_cons_zero, List.set_cons_succ, d11, d14] at hK ⊢
      go_simp
      first
        | exact hK _ _ (Below.refl _ _) rfl
        | (rw [if_pos (by omega)]; exact hK _ _ (Below.refl _ _) rfl)
        | (rw [dif_pos (by omega)]; exact hK _ _ (Below.refl _ _) rfl)
        | (rw [if_neg (by omega)]; exact hK _ _ (Below.refl _ _) rfl)
    · intro vals W K hR hV hK
      have d0 := hV 0 (by simp)
      simp only [bdV] at d0
      have d1 := hV 1 (by simp)
      simp only [bdV] at d1
      have d2 := hV 2 (by simp)
      simp only [bdV] at d2
      obtain ⟨b, d2, hcell⟩ := d2
      have d3 := hV 3 (by simp)
      simp only [bdV] at d3
      have d4 := hV 4 (by simp)
      simp only [bdV] at d4
      have d5 := hV 5 (by simp)
      simp only [bdV] at d5
      have d6 := hV 6 (by simp)
      simp only [bdV] at d6
      have d7 := hV 7 (by simp)
      simp only [bdV] at d7
      have d8 := hV 8 (by simp)
      simp only [bdV] at d8
      have d9 := hV 9 (by simp)
      simp only [bdV] at d9
      have d10 := hV 10 (by simp)
      simp only [bdV] at d10
      have d11 := hV 11 (by simp)
      simp only [bdV] at d11
      have d12 := hV 12 (by simp)
      simp only [bdV] at d12
      have d13 := hV 13 (by simp)
      simp only [bdV] at d13
      have d14 := hV 14 (by simp)
      simp only [bdV] at d14
      have d15 := hV 15 (by simp)
      simp only [bdV] at d15
      simp only [Reg.putS, List.foldl, List.headD, List.tail, List.getD_cons_zero, List.getD_cons_succ, Act.put, List.setIfInBounds_toArray, List.set_cons_zero, List.set_cons_succ, d0, d1, d2, d3, d4, d5, d6, d7, d8, d9, d10, d11, d12, d13, d14, d15] at hK ⊢
      go_simp
      first
        | exact hK _ _ (Below.refl _ _) rfl
        | (rw [if_pos (by omega)]; exact hK _ _ (Below.refl _ _) rfl)
        | (rw [dif_pos (by omega)]; exact hK _ _ (Below.refl _ _) rfl)
        | (rw [if_neg (by omega)]; exact hK _ _ (Below.refl _ _) rfl)
  · intro vals W hR hV
    rw [show List.range (List.length [some 97, some 98, some 99, some 100, some 101, some 102, some 103, some 104, some 105, some 106, some 107, some 108, some 109, some 110, some 111, some 112, some 15]) = [0, 1, 2, 3, 4, 5, 6, 7, 8, 9, 10, 11, 12, 13, 14, 15, 16] from rfl]
    have d0 := hV 0 (by decide)
    simp only [bdV] at d0
    have d1 := hV 1 (by decide)
    simp only [bdV] at d1
    have d2 := hV 2 (by decide)
    simp only [bdV] at d2
    obtain ⟨b, d2, hcell⟩ := d2
    have d3 := hV 3 (by decide)
    simp only [bdV] at d3
    have d4 := hV 4 (by decide)
    simp only [bdV] at d4
    have d5 := hV 5 (by decide)
    simp only [bdV] at d5
    have d6 := hV 6 (by decide)
    simp only [bdV] at d6
    have d7 := hV 7 (by decide)
    simp only [bdV] at d7
    have d8 := hV 8 (by decide)
    simp only [bdV] at d8
    have d9 := hV 9 (by decide)
    simp only [bdV] at d9
    have d10 := hV 10 (by decide)
    simp only [bdV] at d10
    have d11 := hV 11 (by decide)
    simp only [bdV] at d11
    have d12 := hV 12 (by decide)
    simp only [bdV] at d12
    have d13 := hV 13 (by decide)
    simp only [bdV] at d13
    have d14 := hV 14 (by decide)
    simp only [bdV] at d14
    have d15 := hV 15 (by decide)
    simp only [bdV] at d15
    have d16 := hV 16 (by decide)
    simp only [bdV] at d16
    clear hV
    simp only [Reg.putS, List.foldl, List.getD_cons_zero, List.getD_cons_succ, Act.put, List.setIfInBounds_toArray, List.set_cons_zero, List.set_cons_succ, d0, d1, d2, d3, d4, d5, d6, d7, d8, d9, d10, d11, d12, d13, d14, d15, d16]
    clear d0 d1 d2 d3 d4 d5 d6 d7 d8 d9 d10 d11 d12 d13 d14 d15 d16
    replace bel := bstep (below_drew bel) hR
    replace f0 := pw_cell_below hR f0
    replace f1 := pw_cell_below hR f1
    replace f2 := pw_cell_below hR f2
    replace f3 := pw_cell_below hR f3
    clear hR
    go_wp2_with fail
    refine (fget_any (headB p raw n sum) bs _ (by omega)).mono ?_
    rintro e w3 ⟨rfl, hb3⟩
    replace f0 := pw_cell_below hb3 f0
    replace f1 := pw_cell_below hb3 f1
    replace f2 := pw_cell_below hb3 f2
    replace f3 := pw_cell_below hb3 f3
    replace bel := bstep bel hb3
    simp only [getOut, frameAgg, hqe]
    have y0 : (w3.alloc (.cells #[.int .i64 0, .int .i64 0, .int .u32 0, .string ⟨#[]⟩] 58)).cell? ⟨w3.heap.size, 0, none⟩ = some (.int .i64 0) := by simp
    have y1 : (w3.alloc (.cells #[.int .i64 0, .int .i64 0, .int .u32 0, .string ⟨#[]⟩] 58)).cell? ⟨w3.heap.size, 1, none⟩ = some (.int .i64 0) := by simp
    have y2 : (w3.alloc (.cells #[.int .i64 0, .int .i64 0, .int .u32 0, .string ⟨#[]⟩] 58)).cell? ⟨w3.heap.size, 2, none⟩ = some (.int .u32 0) := by simp
    have y3 : (w3.alloc (.cells #[.int .i64 0, .int .i64 0, .int .u32 0, .string ⟨#[]⟩] 58)).cell? ⟨w3.heap.size, 3, none⟩ = some (.string ⟨#[]⟩) := by simp
    have f0n := pw_cell_below (balloc (Below.refl w3.heap.size w3) (.cells #[.int .i64 0, .int .i64 0, .int .u32 0, .string ⟨#[]⟩] 58)) f0
    have f1n := pw_cell_below (balloc (Below.refl w3.heap.size w3) (.cells #[.int .i64 0, .int .i64 0, .int .u32 0, .string ⟨#[]⟩] 58)) f1
    have f2n := pw_cell_below (balloc (Below.refl w3.heap.size w3) (.cells #[.int .i64 0, .int .i64 0, .int .u32 0, .string ⟨#[]⟩] 58)) f2
    have f3n := pw_cell_below (balloc (Below.refl w3.heap.size w3) (.cells #[.int .i64 0, .int .i64 0, .int .u32 0, .string ⟨#[]⟩] 58)) f3
    have beln := bstep bel (balloc (Below.refl w3.heap.size w3) (.cells #[.int .i64 0, .int .i64 0, .int .u32 0, .string ⟨#[]⟩] 58))
    go_wp2_with fail
    refine (fget_any (headB p raw n sum ++ zs) bs _ (by rw [ByteArray.size_append]; omega)).mono ?_
    rintro e w4 ⟨rfl, hb4⟩
    replace f0 := pw_cell_below hb4 f0n
    clear f0n
    replace f1 := pw_cell_below hb4 f1n
    clear f1n
    replace f2 := pw_cell_below hb4 f2n
    clear f2n
    replace f3 := pw_cell_below hb4 f3n
    clear f3n
    replace y0 := pw_cell_below hb4 y0
    replace y1 := pw_cell_below hb4 y1
    replace y2 := pw_cell_below hb4 y2
    replace y3 := pw_cell_below hb4 y3
    replace bel := bstep beln hb4
    clear beln
    simp only [getOut, frameAgg, hqh]
    have z0 : (w4.alloc (.cells #[.int .i64 0, .int .i64 0, .int .u32 0, .string ⟨#[]⟩] 58)).cell? ⟨w4.heap.size, 0, none⟩ = some (.int .i64 0) := by simp
    have z1 : (w4.alloc (.cells #[.int .i64 0, .int .i64 0, .int .u32 0, .string ⟨#[]⟩] 58)).cell? ⟨w4.heap.size, 1, none⟩ = some (.int .i64 0) := by simp
    have z2 : (w4.alloc (.cells #[.int .i64 0, .int .i64 0, .int .u32 0, .string ⟨#[]⟩] 58)).cell? ⟨w4.heap.size, 2, none⟩ = some (.int .u32 0) := by simp
    have z3 : (w4.alloc (.cells #[.int .i64 0, .int .i64 0, .int .u32 0, .string ⟨#[]⟩] 58)).cell? ⟨w4.heap.size, 3, none⟩ = some (.string ⟨#[]⟩) := by simp
    have f0n := pw_cell_below (balloc (Below.refl w4.heap.size w4) (.cells #[.int .i64 0, .int .i64 0, .int .u32 0, .string ⟨#[]⟩] 58)) f0
    have f1n := pw_cell_below (balloc (Below.refl w4.heap.size w4) (.cells #[.int .i64 0, .int .i64 0, .int .u32 0, .string ⟨#[]⟩] 58)) f1
    have f2n := pw_cell_below (balloc (Below.refl w4.heap.size w4) (.cells #[.int .i64 0, .int .i64 0, .int .u32 0, .string ⟨#[]⟩] 58)) f2
    have f3n := pw_cell_below (balloc (Below.refl w4.heap.size w4) (.cells #[.int .i64 0, .int .i64 0, .int .u32 0, .string ⟨#[]⟩] 58)) f3
    have y0n := pw_cell_below (balloc (Below.refl w4.heap.size w4) (.cells #[.int .i64 0, .int .i64 0, .int .u32 0, .string ⟨#[]⟩] 58)) y0
    have y1n := pw_cell_below (balloc (Below.refl w4.heap.size w4) (.cells #[.int .i64 0, .int .i64 0, .int .u32 0, .string ⟨#[]⟩] 58)) y1
    have y2n := pw_cell_below (balloc (Below.refl w4.heap.size w4) (.cells #[.int .i64 0, .int .i64 0, .int .u32 0, .string ⟨#[]⟩] 58)) y2
    have y3n := pw_cell_below (balloc (Below.refl w4.heap.size w4) (.cells #[.int .i64 0, .int .i64 0, .int .u32 0, .string ⟨#[]⟩] 58)) y3
    have beln := bstep bel (balloc (Below.refl w4.heap.size w4) (.cells #[.int .i64 0, .int .i64 0, .int .u32 0, .string ⟨#[]⟩] 58))
    go_wp2_with fail
    go_returns
    exact ⟨rfl, beln⟩
set_option maxRecDepth 20000 in
set_option maxHeartbeats 2000000 in
theorem bounds_y2n_2 (raw bs sum : Int) (n : Nat) (w : World) (hk : (2 : Int) = 1 ∨ (2 : Int) = 2) (h0 : ¬ raw < 0) (h1 : ¬ 65535 < raw) (h3 : n ≤ 2000) (h4 : ¬ bs < 1) (h5 : ¬ 2000 < bs) (hsu : 0 ≤ sum ∧ sum < 4294967296) (h6 : 1 ≤ raw ∧ raw ≤ 1024) (h7 : 1 ≤ n)  (h9 : (n : Int) < raw) (h10 : ¬ bs < raw) :
    Calls Try.prog 18 #[.int .i64 2, .int .i64 raw, .int .i64 (n : Int), .int .i64 bs, .int .u32 sum] w fun e w' => e = .returned (.bool true) ∧ Below w.heap.size w w' := by
  have hbs := bigS_size
  obtain ⟨p, hp⟩ : ∃ p, p = strOfNums [2] := ⟨_, rfl⟩
  have hps : p.size = 1 := by rw [hp]; rfl
  have hcg : ∀ (W : World) (b : Nat), W.cell? ⟨b, 0, none⟩ = some (.int .u8 2) → (convert 32 9 (.slice (some ⟨b, 0, none⟩) 1 1)).run Try.prog W = .ok (.string p) W := fun W b h => by rw [hp]; exact conv1 W b 2 h
  obtain ⟨zs, hzd⟩ : ∃ zs, zs = CrcN.zeroS n := ⟨_, rfl⟩
  have hzz : zs.size = n := by rw [hzd]; exact zero_size n
  have hcz : ∀ (W : World) (b : Nat), (∀ j, j < n → W.cell? ⟨b, j, none⟩ = some (.int .u8 0)) → (convert 32 9 (.slice (some ⟨b, 0, none⟩) n n)).run Try.prog W = .ok (.string zs) W := fun W b h => by rw [hzd]; exact CrcN.conv_n W b n h
  clear hzd
  have hB : (headB p raw n sum).size = 9 := by unfold headB; simp only [ByteArray.size_append, bigS_size, hps]
  have hla : (headB p raw n sum).size + zs.size ≤ maxLen := by rw [hB, hzz]; unfold maxLen; omega
  have hla2 : 9 + n ≤ maxLen := by unfold maxLen; omega
  have hla3 : 9 + zs.size ≤ maxLen := by rw [hzz]; unfold maxLen; omega
  have hwk : IntKind.u8.wrap 2 = 2 := by rfl
  have hwr : IntKind.u64.wrap raw = raw := by rw [show raw = ((raw.toNat : Nat) : Int) by omega]; exact wrap64u _ (by omega)
  have hwn : IntKind.u64.wrap (n : Int) = (n : Int) := wrap64u _ (by omega)
  have hws : IntKind.u64.wrap sum = sum := by rw [show sum = ((sum.toNat : Nat) : Int) by omega]; exact wrap64u _ (by omega)
  have hw9 : IntKind.i64.wrap (9 + (n : Int)) = 9 + (n : Int) := by rw [IntKind.wrap_i64]; omega
  have x1 : decide (raw < 0) = false := by simp <;> omega
  have x2 : decide (raw > 65535) = false := by simp <;> omega
  have x3 : decide ((n : Int) < 0) = false := by simp <;> omega
  have x4 : decide ((n : Int) > 2000) = false := by simp <;> omega
  have x5 : decide (bs < 1) = false := by simp <;> omega
  have x6 : decide (bs > 2000) = false := by simp <;> omega
  have y1 : decide (raw ≥ 1) = true := by simp <;> omega
  have y2 : decide (raw ≤ 1024) = true := by simp <;> omega
  have y3 : decide ((n : Int) ≥ 1) = true := by simp <;> omega
  have y4 : ((2 : Int) == 1) = false := by simp <;> omega
  have y6 : ((2 : Int) == 2) = true := by simp <;> omega
  have y7 : decide ((n : Int) < raw) = true := by simp <;> omega
  have hfit : fitsB 2 raw zs.size 1024 = true := by rw [hzz]; unfold fitsB; simp; omega
  have hok : okF 2 raw sum zs := .inr ⟨by omega, hfit⟩
  have hpf : putF 2 raw sum zs = frameS 2 raw sum zs := by unfold putF; rw [if_pos hok, if_neg (by omega)]
  have hb : decide (raw > bs) = false := by simp <;> omega
  have hqe := getB_few 2 raw sum bs n ⟨#[]⟩ hk (by omega) (by omega) hsu (by omega) (by rw [← hzz]; exact hfit) (show (0 : Nat) < n by omega)
  have hqh := getB_yes 2 raw sum bs n zs hk (by omega) (by omega) hsu (by omega) (by rw [← hzz]; exact hfit) hzz
  rw [← hp] at hqe hqh
  rw [app_empty] at hqe
  clear hp
  have bel : Below w.heap.size w w := Below.refl _ _
  go_enter Try.func18, Try.ntmps18
  go_wp2_with fail
  refine (alive_call _).mono ?_
  rintro e w1 ⟨rfl, hb1⟩
  replace bel := bstep bel hb1
  have hmk := CrcN.make_n w1 n (by omega)
  have hcv := hcz (w1.alloc (.cells (madeCells #[Value.int .u8 0] n) 5)) w1.heap.size (CrcN.made_cells w1 n)
  replace bel := bstep bel (balloc (Below.refl w1.heap.size w1) (.cells (madeCells #[Value.int .u8 0] n) 5))
  have f0 : ((w1.alloc (.cells (madeCells #[Value.int .u8 0] n) 5)).alloc (.cells #[.int .i64 2, .int .i64 raw, .int .u32 sum, .string zs] 58)).cell? ⟨w1.heap.size + 1, 0, none⟩ = some (.int .i64 2) := by simp
  have f1 : ((w1.alloc (.cells (madeCells #[Value.int .u8 0] n) 5)).alloc (.cells #[.int .i64 2, .int .i64 raw, .int .u32 sum, .string zs] 58)).cell? ⟨w1.heap.size + 1, 1, none⟩ = some (.int .i64 raw) := by simp
  have f2 : ((w1.alloc (.cells (madeCells #[Value.int .u8 0] n) 5)).alloc (.cells #[.int .i64 2, .int .i64 raw, .int .u32 sum, .string zs] 58)).cell? ⟨w1.heap.size + 1, 2, none⟩ = some (.int .u32 sum) := by simp
  have f3 : ((w1.alloc (.cells (madeCells #[Value.int .u8 0] n) 5)).alloc (.cells #[.int .i64 2, .int .i64 raw, .int .u32 sum, .string zs] 58)).cell? ⟨w1.heap.size + 1, 3, none⟩ = some (.string zs) := by simp
  replace bel := bstep bel (balloc (Below.refl (w1.alloc (.cells (madeCells #[Value.int .u8 0] n) 5)).heap.size (w1.alloc (.cells (madeCells #[Value.int .u8 0] n) 5))) (.cells #[.int .i64 2, .int .i64 raw, .int .u32 sum, .string zs] 58))
  go_wp2_with fail
  refine (put_any 2 raw sum zs _ hsu).mono ?_
  rintro e w2 ⟨rfl, hb2⟩
  replace f0 := pw_cell_below hb2 f0
  replace f1 := pw_cell_below hb2 f1
  replace f2 := pw_cell_below hb2 f2
  replace f3 := pw_cell_below hb2 f3
  replace bel := bstep bel hb2
  rw [decide_eq_true hok, hpf]
  clear hmk hcv
  go_wp2_with fail
  refine Reg.wp_region_lists (fun W W' => Below W.heap.size W W') (bdV 2 raw sum n p w2.heap.size)
    [some 97, some 98, some 99, some 100, some 101, some 102, some 103, some 104, some 105, some 106, some 107, some 108, some 109, some 110, some 111, some 112, some 15]
    [[], [0], [1], [2], [], [4], [5], [3, 6], [], [8], [9, 6], [7, 10], [], [12], [13, 10], [11, 14], [15, 14, 0, 1, 2, 3, 4, 5, 6, 7, 8, 9, 10, 11, 12, 13, 14, 15]]
    (by kernel_rfl) (by kernel_rfl) (by kernel_rfl) (fun _ => Below.refl _ _) (fun _ _ _ h k => bstep h k) ?_ ?_ ?_
  · intro i v W W' h k
    unfold bdV at h ⊢
    split at h <;> first | exact h | (obtain ⟨b, e, hc⟩ := h; exact ⟨b, e, pw_cell_below k hc⟩)
  · refine ⟨?_, ?_, ?_, ?_, ?_, ?_, ?_, ?_, ?_, ?_, ?_, ?_, ?_, ?_, ?_, ?_, ?_, trivial⟩
    · intro vals W K hR hV hK
      simp only [Reg.putS, List.foldl, List.headD, List.tail, List.getD_cons_zero, List.getD_cons_succ, Act.put, List.setIfInBounds_toArray, List.set_cons_zero, List.set_cons_succ] at hK ⊢
      go_simp
      first
        | exact hK _ _ (Below.refl _ _) rfl
        | (rw [if_pos (by omega)]; exact hK _ _ (Below.refl _ _) rfl)
        | (rw [dif_pos (by omega)]; exact hK _ _ (Below.refl _ _) rfl)
        | (rw [if_neg (by omega)]; exact hK _ _ (Below.refl _ _) rfl)
    · intro vals W K hR hV hK
      have d0 := hV 0 (by simp)
      simp only [bdV] at d0
      simp only [Reg.putS, List.foldl, List.headD, List.tail, List.getD_cons_zero, List.getD_cons_succ, Act.put, List.setIfInBounds_toArray, List.set_cons_zero, List.set_cons_succ, d0] at hK ⊢
      go_simp
      first
        | exact hK _ _ (Below.refl _ _) rfl
        | (rw [if_pos (by omega)]; exact hK _ _ (Below.refl _ _) rfl)
        | (rw [dif_pos (by omega)]; exact hK _ _ (Below.refl _ _) rfl)
        | (rw [if_neg (by omega)]; exact hK _ _ (Below.refl _ _) rfl)
    · intro vals W K hR hV hK
      have d1 := hV 1 (by simp)
      simp only [bdV] at d1
      simp only [Reg.putS, List.foldl, List.headD, List.tail, List.getD_cons_zero, List.getD_cons_succ, Act.put, List.setIfInBounds_toArray, List.set_cons_zero, List.set_cons_succ, d1] at hK ⊢
      go_simp
      exact hK _ _ (balloc (Below.refl _ _) _) ⟨_, rfl, by simp⟩
    · intro vals W K hR hV hK
      have d2 := hV 2 (by simp)
      simp only [bdV] at d2
      obtain ⟨b, d2, hcell⟩ := d2
      simp only [Reg.putS, List.foldl, List.headD, List.tail, List.getD_cons_zero, List.getD_cons_succ, Act.put, List.setIfInBounds_toArray, List.set_cons_zero, List.set_cons_succ, d2] at hK ⊢
      have hcv := hcg W b hcell
      go_simp
      first
        | exact hK _ _ (Below.refl _ _) rfl
        | (rw [if_pos (by omega)]; exact hK _ _ (Below.refl _ _) rfl)
        | (rw [dif_pos (by omega)]; exact hK _ _ (Below.refl _ _) rfl)
        | (rw [if_neg (by omega)]; exact hK _ _ (Below.refl _ _) rfl)
    · intro vals W K hR hV hK
      simp only [Reg.putS, List.foldl, List.headD, List.tail, List.getD_cons_zero, List.getD_cons_succ, Act.put, List.setIfInBounds_toArray, List.set_cons_zero, List.set_cons_succ] at hK ⊢
      go_simp
      first
        | exact hK _ _ (Below.refl _ _) rfl
        | (rw [if_pos (by omega)]; exact hK _ _ (Below.refl _ _) rfl)
        | (rw [dif_pos (by omega)]; exact hK _ _ (Below.refl _ _) rfl)
        | (rw [if_neg (by omega)]; exact hK _ _ (Below.refl _ _) rfl)
    · intro vals W K hR hV hK
      have d4 := hV 4 (by simp)
      simp only [bdV] at d4
      simp only [Reg.putS, List.foldl, List.headD, List.tail, List.getD_cons_zero, List.getD_cons_succ, Act.put, List.setIfInBounds_toArray, List.set_cons_zero, List.set_cons_succ, d4] at hK ⊢
      go_simp
      first
        | exact hK _ _ (Below.refl _ _) rfl
        | (rw [if_pos (by omega)]; exact hK _ _ (Below.refl _ _) rfl)
        | (rw [dif_pos (by omega)]; exact hK _ _ (Below.refl _ _) rfl)
        | (rw [if_neg (by omega)]; exact hK _ _ (Below.refl _ _) rfl)
    · intro vals W K hR hV hK
      have d5 := hV 5 (by simp)
      simp only [bdV] at d5
      simp only [Reg.putS, List.foldl, List.headD, List.tail, List.getD_cons_zero, List.getD_cons_succ, Act.put, List.setIfInBounds_toArray, List.set_cons_zero, List.set_cons_succ, d5] at hK ⊢
      go_simp
      refine (refBig_call raw 2 _ (by omega) (by omega) (by omega)).mono ?_
      rintro e w2 ⟨rfl, hb⟩
      exact hK _ _ hb rfl
    · intro vals W K hR hV hK
      have d3 := hV 3 (by simp)
      simp only [bdV] at d3
      have d6 := hV 6 (by simp)
      simp only [bdV] at d6
      simp only [Reg.putS, List.foldl, List.headD, List.tail, List.getD_cons_zero, List.getD_cons_succ, Act.put, List.setIfInBounds_toArray, List.set_cons_zero, List.set_cons_succ, d3, d6] at hK ⊢
      go_simp
      first
        | exact hK _ _ (Below.refl _ _) rfl
        | (rw [if_pos (by omega)]; exact hK _ _ (Below.refl _ _) rfl)
        | (rw [dif_pos (by omega)]; exact hK _ _ (Below.refl _ _) rfl)
        | (rw [if_neg (by omega)]; exact hK _ _ (Below.refl _ _) rfl)
    · intro vals W K hR hV hK
      simp only [Reg.putS, List.foldl, List.headD, List.tail, List.getD_cons_zero, List.getD_cons_succ, Act.put, List.setIfInBounds_toArray, List.set_cons_zero, List.set_cons_succ] at hK ⊢
      go_simp
      first
        | exact hK _ _ (Below.refl _ _) rfl
        | (rw [if_pos (by omega)]; exact hK _ _ (Below.refl _ _) rfl)
        | (rw [dif_pos (by omega)]; exact hK _ _ (Below.refl _ _) rfl)
        | (rw [if_neg (by omega)]; exact hK _ _ (Below.refl _ _) rfl)
    · intro vals W K hR hV hK
      have d8 := hV 8 (by simp)
      simp only [bdV] at d8
      simp only [Reg.putS, List.foldl, List.headD, List.tail, List.getD_cons_zero, List.getD_cons_succ, Act.put, List.setIfInBounds_toArray, List.set_cons_zero, List.set_cons_succ, d8] at hK ⊢
      go_simp
      first
        | exact hK _ _ (Below.refl _ _) rfl
        | (rw [if_pos (by omega)]; exact hK _ _ (Below.refl _ _) rfl)
        | (rw [dif_pos (by omega)]; exact hK _ _ (Below.refl _ _) rfl)
        | (rw [if_neg (by omega)]; exact hK _ _ (Below.refl _ _) rfl)
    · intro vals W K hR hV hK
      have d6 := hV 6 (by simp)
      simp only [bdV] at d6
      have d9 := hV 9 (by simp)
      simp only [bdV] at d9
      simp only [Reg.putS, List.foldl, List.headD, List.tail, List.getD_cons_zero, List.getD_cons_succ, Act.put, List.setIfInBounds_toArray, List.set_cons_zero, List.set_cons_succ, d6, d9] at hK ⊢
      go_simp
      refine (refBig_call (n : Int) 2 _ (by omega) (by omega) (by omega)).mono ?_
      rintro e w2 ⟨rfl, hb⟩
      exact hK _ _ hb rfl
    · intro vals W K hR hV hK
      have d7 := hV 7 (by simp)
      simp only [bdV] at d7
      have d10 := hV 10 (by simp)
      simp only [bdV] at d10
      simp only [Reg.putS, List.foldl, List.headD, List.tail, List.getD_cons_zero, List.getD_cons_succ, Act.put, List.setIfInBounds_toArray, List.set_cons_zero, List.set_cons_succ, d7, d10] at hK ⊢
      go_simp
      first
        | exact hK _ _ (Below.refl _ _) rfl
        | (rw [if_pos (by omega)]; exact hK _ _ (Below.refl _ _) rfl)
        | (rw [dif_pos (by omega)]; exact hK _ _ (Below.refl _ _) rfl)
        | (rw [if_neg (by omega)]; exact hK _ _ (Below.refl _ _) rfl)
    · intro vals W K hR hV hK
      simp only [Reg.putS, List.foldl, List.headD, List.tail, List.getD_cons_zero, List.getD_cons_succ, Act.put, List.setIfInBounds_toArray, List.set_cons_zero, List.set_cons_succ] at hK ⊢
      go_simp
      first
        | exact hK _ _ (Below.refl _ _) rfl
        | (rw [if_pos (by omega)]; exact hK _ _ (Below.refl _ _) rfl)
        | (rw [dif_pos (by omega)]; exact hK _ _ (Below.refl _ _) rfl)
        | (rw [if_neg (by omega)]; exact hK _ _ (Below.refl _ _) rfl)
    · intro vals W K hR hV hK
      have d12 := hV 12 (by simp)
      simp only [bdV] at d12
      simp only [Reg.putS, List.foldl, List.headD, List.tail, List.getD_cons_zero, List.getD_cons_succ, Act.put, List.setIfInBounds_toArray, List.set_cons_zero, List.set_cons_succ, d12] at hK ⊢
      go_simp
      first
        | exact hK _ _ (Below.refl _ _) rfl
        | (rw [if_pos (by omega)]; exact hK _ _ (Below.refl _ _) rfl)
        | (rw [dif_pos (by omega)]; exact hK _ _ (Below.refl _ _) rfl)
        | (rw [if_neg (by omega)]; exact hK _ _ (Below.refl _ _) rfl)
    · intro vals W K hR hV hK
      have d10 := hV 10 (by simp)
      simp only [bdV] at d10
      have d13 := hV 13 (by simp)
      simp only [bdV] at d13
      simp only [Reg.putS, List.foldl, List.headD, List.tail, List.getD_cons_zero, List.getD_cons_succ, Act.put, List.setIfInBounds_toArray, List.set_cons_zero, List.set_cons_succ, d10, d13] at hK ⊢
      go_simp
      refine (refBig_call sum 4 _ (by omega) (by omega) (by omega)).mono ?_
      rintro e w2 ⟨rfl, hb⟩
      exact hK _ _ hb rfl
    · intro vals W K hR hV hK
      have d11 := hV 11 (by simp)
      simp only [bdV] at d11
      have d14 := hV 14 (by simp)
      simp only [bdV] at d14
      simp only [Reg.putS, List.foldl, List.headD, List.tail, List.getD_cons_zero, List.getD_cons_succ, Act.put, List.setIfInBounds_toArray, List.set_cons_zero, List.set_cons_succ, d11, d14] at hK ⊢
      go_simp
      first
        | exact hK _ _ (Below.refl _ _) rfl
        | (rw [if_pos (by omega)]; exact hK _ _ (Below.refl _ _) rfl)
        | (rw [dif_pos (by omega)]; exact hK _ _ (Below.refl _ _) rfl)
        | (rw [if_neg (by omega)]; exact hK _ _ (Below.refl _ _) rfl)
    · intro vals W K hR hV hK
      have d0 := hV 0 (by simp)
      simp only [bdV] at d0
      have d1 := hV 1 (by simp)
      simp only [bdV] at d1
      have d2 := hV 2 (by simp)
      simp only [bdV] at d2
      obtain ⟨b, d2, hcell⟩ := d2
      have d3 := hV 3 (by simp)
      simp only [bdV] at d3
      have d4 := hV 4 (by simp)
      simp only [bdV] at d4
      have d5 := hV 5 (by simp)
      simp only [bdV] at d5
      have d6 := hV 6 (by simp)
      simp only [bdV] at d6
      have d7 := hV 7 (by simp)
      simp only [bdV] at d7
      have d8 := hV 8 (by simp)
      simp only [bdV] at d8
      have d9 := hV 9 (by simp)
      simp only [bdV] at d9
      have d10 := hV 10 (by simp)
      simp only [bdV] at d10
      have d11 := hV 11 (by simp)
      simp only [bdV] at d11
      have d12 := hV 12 (by simp)
      simp only [bdV] at d12
      have d13 := hV 13 (by simp)
      simp only [bdV] at d13
      have d14 := hV 14 (by simp)
      simp only [bdV] at d14
      have d15 := hV 15 (by simp)
      simp only [bdV] at d15
      simp only [Reg.putS, List.foldl, List.headD, List.tail, List.getD_cons_zero, List.getD_cons_succ, Act.put, List.setIfInBounds_toArray, List.set_cons_zero, List.set_cons_succ, d0, d1, d2, d3, d4, d5, d6, d7, d8, d9, d10, d11, d12, d13, d14, d15] at hK ⊢
      go_simp
      first
        | exact hK _ _ (Below.refl _ _) rfl
        | (rw [if_pos (by omega)]; exact hK _ _ (Below.refl _ _) rfl)
        | (rw [dif_pos (by omega)]; exact hK _ _ (Below.refl _ _) rfl)
        | (rw [if_neg (by omega)]; exact hK _ _ (Below.refl _ _) rfl)
  · intro vals W hR hV
    rw [show List.range (List.length [some 97, some 98, some 99, some 100, some 101, some 102, some 103, some 104, some 105, some 106, some 107, some 108, some 109, some 110, some 111, some 112, some 15]) = [0, 1, 2, 3, 4, 5, 6, 7, 8, 9, 10, 11, 12, 13, 14, 15, 16] from rfl]
    have d0 := hV 0 (by decide)
    simp only [bdV] at d0
    have d1 := hV 1 (by decide)
    simp only [bdV] at d1
    have d2 := hV 2 (by decide)
    simp only [bdV] at d2
    obtain ⟨b, d2, hcell⟩ := d2
    have d3 := hV 3 (by decide)
    simp only [bdV] at d3
    have d4 := hV 4 (by decide)
    simp only [bdV] at d4
    have d5 := hV 5 (by decide)
    simp only [bdV] at d5
    have d6 := hV 6 (by decide)
    simp only [bdV] at d6
    have d7 := hV 7 (by decide)
    simp only [bdV] at d7
    have d8 := hV 8 (by decide)
    simp only [bdV] at d8
    have d9 := hV 9 (by decide)
    simp only [bdV] at d9
    have d10 := hV 10 (by decide)
    simp only [bdV] at d10
    have d11 := hV 11 (by decide)
    simp only [bdV] at d11
    have d12 := hV 12 (by decide)
    simp only [bdV] at d12
    have d13 := hV 13 (by decide)
    simp only [bdV] at d13
    have d14 := hV 14 (by decide)
    simp only [bdV] at d14
    have d15 := hV 15 (by decide)
    simp only [bdV] at d15
    have d16 := hV 16 (by decide)
    simp only [bdV] at d16
    clear hV
    simp only [Reg.putS, List.foldl, List.getD_cons_zero, List.getD_cons_succ, Act.put, List.setIfInBounds_toArray, List.set_cons_zero, List.set_cons_succ, d0, d1, d2, d3, d4, d5, d6, d7, d8, d9, d10, d11, d12, d13, d14, d15, d16]
    clear d0 d1 d2 d3 d4 d5 d6 d7 d8 d9 d10 d11 d12 d13 d14 d15 d16
    replace bel := bstep (below_drew bel) hR
    replace f0 := pw_cell_below hR f0
    replace f1 := pw_cell_below hR f1
    replace f2 := pw_cell_below hR f2
    replace f3 := pw_cell_below hR f3
    clear hR
    go_wp2_with fail
    refine (fget_any (headB p raw n sum) bs _ (by omega)).mono ?_
    rintro e w3 ⟨rfl, hb3⟩
    replace f0 := pw_cell_below hb3 f0
    replace f1 := pw_cell_below hb3 f1
    replace f2 := pw_cell_below hb3 f2
    replace f3 := pw_cell_below hb3 f3
    replace bel := bstep bel hb3
    simp only [getOut, frameAgg, hqe]
    have y0 : (w3.alloc (.cells #[.int .i64 0, .int .i64 0, .int .u32 0, .string ⟨#[]⟩] 58)).cell? ⟨w3.heap.size, 0, none⟩ = some (.int .i64 0) := by simp
    have y1 : (w3.alloc (.cells #[.int .i64 0, .int .i64 0, .int .u32 0, .string ⟨#[]⟩] 58)).cell? ⟨w3.heap.size, 1, none⟩ = some (.int .i64 0) := by simp
    have y2 : (w3.alloc (.cells #[.int .i64 0, .int .i64 0, .int .u32 0, .string ⟨#[]⟩] 58)).cell? ⟨w3.heap.size, 2, none⟩ = some (.int .u32 0) := by simp
    have y3 : (w3.alloc (.cells #[.int .i64 0, .int .i64 0, .int .u32 0, .string ⟨#[]⟩] 58)).cell? ⟨w3.heap.size, 3, none⟩ = some (.string ⟨#[]⟩) := by simp
    have f0n := pw_cell_below (balloc (Below.refl w3.heap.size w3) (.cells #[.int .i64 0, .int .i64 0, .int .u32 0, .string ⟨#[]⟩] 58)) f0
    have f1n := pw_cell_below (balloc (Below.refl w3.heap.size w3) (.cells #[.int .i64 0, .int .i64 0, .int .u32 0, .string ⟨#[]⟩] 58)) f1
    have f2n := pw_cell_below (balloc (Below.refl w3.heap.size w3) (.cells #[.int .i64 0, .int .i64 0, .int .u32 0, .string ⟨#[]⟩] 58)) f2
    have f3n := pw_cell_below (balloc (Below.refl w3.heap.size w3) (.cells #[.int .i64 0, .int .i64 0, .int .u32 0, .string ⟨#[]⟩] 58)) f3
    have beln := bstep bel (balloc (Below.refl w3.heap.size w3) (.cells #[.int .i64 0, .int .i64 0, .int .u32 0, .string ⟨#[]⟩] 58))
    go_wp2_with fail
    refine (fget_any (headB p raw n sum ++ zs) bs _ (by rw [ByteArray.size_append]; omega)).mono ?_
    rintro e w4 ⟨rfl, hb4⟩
    replace f0 := pw_cell_below hb4 f0n
    clear f0n
    replace f1 := pw_cell_below hb4 f1n
    clear f1n
    replace f2 := pw_cell_below hb4 f2n
    clear f2n
    replace f3 := pw_cell_below hb4 f3n
    clear f3n
    replace y0 := pw_cell_below hb4 y0
    replace y1 := pw_cell_below hb4 y1
    replace y2 := pw_cell_below hb4 y2
    replace y3 := pw_cell_below hb4 y3
    replace bel := bstep beln hb4
    clear beln
    simp only [getOut, frameAgg, hqh]
    have z0 : (w4.alloc (.cells #[.int .i64 2, .int .i64 raw, .int .u32 sum, .string zs] 58)).cell? ⟨w4.heap.size, 0, none⟩ = some (.int .i64 2) := by simp
    have z1 : (w4.alloc (.cells #[.int .i64 2, .int .i64 raw, .int .u32 sum, .string zs] 58)).cell? ⟨w4.heap.size, 1, none⟩ = some (.int .i64 raw) := by simp
    have z2 : (w4.alloc (.cells #[.int .i64 2, .int .i64 raw, .int .u32 sum, .string zs] 58)).cell? ⟨w4.heap.size, 2, none⟩ = some (.int .u32 sum) := by simp
    have z3 : (w4.alloc (.cells #[.int .i64 2, .int .i64 raw, .int .u32 sum, .string zs] 58)).cell? ⟨w4.heap.size, 3, none⟩ = some (.string zs) := by simp
    have f0n := pw_cell_below (balloc (Below.refl w4.heap.size w4) (.cells #[.int .i64 2, .int .i64 raw, .int .u32 sum, .string zs] 58)) f0
    have f1n := pw_cell_below (balloc (Below.refl w4.heap.size w4) (.cells #[.int .i64 2, .int .i64 raw, .int .u32 sum, .string zs] 58)) f1
    have f2n := pw_cell_below (balloc (Below.refl w4.heap.size w4) (.cells #[.int .i64 2, .int .i64 raw, .int .u32 sum, .string zs] 58)) f2
    have f3n := pw_cell_below (balloc (Below.refl w4.heap.size w4) (.cells #[.int .i64 2, .int .i64 raw, .int .u32 sum, .string zs] 58)) f3
    have y0n := pw_cell_below (balloc (Below.refl w4.heap.size w4) (.cells #[.int .i64 2, .int .i64 raw, .int .u32 sum, .string zs] 58)) y0
    have y1n := pw_cell_below (balloc (Below.refl w4.heap.size w4) (.cells #[.int .i64 2, .int .i64 raw, .int .u32 sum, .string zs] 58)) y1
    have y2n := pw_cell_below (balloc (Below.refl w4.heap.size w4) (.cells #[.int .i64 2, .int .i64 raw, .int .u32 sum, .string zs] 58)) y2
    have y3n := pw_cell_below (balloc (Below.refl w4.heap.size w4) (.cells #[.int .i64 2, .int .i64 raw, .int .u32 sum, .string zs] 58)) y3
    have beln := bstep bel (balloc (Below.refl w4.heap.size w4) (.cells #[.int .i64 2, .int .i64 raw, .int .u32 sum, .string zs] 58))
    go_wp2_with fail
    go_returns
    exact ⟨rfl, beln⟩

end Go.Proofs.Ythaoofnnhdkboaa.FrI
