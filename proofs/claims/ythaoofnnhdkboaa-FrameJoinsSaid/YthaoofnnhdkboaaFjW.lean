/- The walk of FrameJoins. -/
import Derived.Test.YthaoofnnhdkboaaFjP
import Derived.WalkSpells
import Derived.OwnWalk
set_option linter.unusedSimpArgs false
set_option linter.unusedVariables false
namespace Go.Proofs.Ythaoofnnhdkboaa.FjW
open Go Go.RowKit Go.Proofs.Ythaoofnnhdkboaa.CrcL Go.Proofs.Ythaoofnnhdkboaa.FrW Go.Proofs.Ythaoofnnhdkboaa.FrH Go.Proofs.Ythaoofnnhdkboaa.FrU Go.Proofs.Ythaoofnnhdkboaa.FrL Go.Proofs.Ythaoofnnhdkboaa.FrP Go.Proofs.Ythaoofnnhdkboaa.FrE Go.Proofs.Ythaoofnnhdkboaa.FrA Go.Proofs.Ythaoofnnhdkboaa.FrR Go.Proofs.Ythaoofnnhdkboaa.FrD Go.Proofs.Ythaoofnnhdkboaa.FrK Go.Proofs.Ythaoofnnhdkboaa.FrC Go.Proofs.Ythaoofnnhdkboaa.Args Go.Proofs.Ythaoofnnhdkboaa.FjP
open Go.Proofs.Ythaoofnnhdkboaa.FrQ renaming put_any → fput_any
attribute [local go_sem high] eqA49 eqA58

theorem info58 : (Try.prog.info? 58).map (fun i => (i.zero, i.size, i.bytes)) = some (some (.agg #[.int .i64 0, .int .i64 0, .int .u32 0, .string ⟨#[]⟩]), 4, 40) := by kernel_rfl

theorem flat_get : ∀ (l : List Fr) (k i : Nat) (u : Value), k < l.length → (cells4 (l.getD k noFr))[i]? = some u → (l.flatMap cells4)[k * 4 + i]? = some u
  | [], k, i, u, h, _ => by simp at h
  | f :: l, 0, i, u, _, hu => by
    have h4 : i < (cells4 f).length := (List.getElem?_eq_some_iff.1 hu).1
    rw [List.flatMap_cons, Nat.zero_mul, Nat.zero_add, List.getElem?_append_left h4]
    exact hu
  | f :: l, k + 1, i, u, h, hu => by
    have e : (cells4 f).length = 4 := rfl
    rw [List.flatMap_cons, List.getElem?_append_right (by rw [e]; omega), e, show (k + 1) * 4 + i - 4 = k * 4 + i by omega]
    exact flat_get l k i u (by simpa using h) hu
theorem far_cell {W : World} {a : Addr} {m i : Nat} {u : Value} (hi : 0 < i) (h : W.cell? (a.add (m + i)) = some u) : W.cell? ⟨(a.add m).block, (a.add m).off + i, none⟩ = some u := by
  rw [← h]
  unfold Addr.add
  rw [if_neg (show ¬ m + i = 0 by omega)]
  by_cases hm : m = 0
  · rw [if_pos hm, hm, Nat.zero_add]
  · rw [if_neg hm, Nat.add_assoc]
theorem own_below {W W' : World} {base : Nat} {e : TypeId} {size n : Nat} {v : Value} {xs : List Value} (h : W.ownsRow base e size v n xs) (hb : Below W.heap.size W W') : W'.ownsRow base e size v n xs := by
  refine ⟨h.1, ?_⟩
  rcases h.2 with h1 | ⟨g, cap, cur, h1, h2, h3, h4⟩
  · exact .inl h1
  · exact .inr ⟨g, cap, cur, h1, h2, (hb.block g (Array.getElem?_eq_some_iff.1 h3).1).trans h3, h4⟩
theorem own_ge {W : World} {base : Nat} {e : TypeId} {size n : Nat} {v : Value} {xs : List Value} (h : W.ownsRow base e size v n xs) : ∀ k, v.ownBlock = some k → base ≤ k := by
  intro k hk
  rcases h.2 with ⟨rfl, _⟩ | ⟨g, cap, cur, rfl, h2, _⟩
  · cases hk
  · simp [Value.ownBlock] at hk; omega
theorem own_form {W : World} {base : Nat} {e : TypeId} {size n : Nat} {v : Value} {xs : List Value} (h : W.ownsRow base e size v n xs) :
    ∃ V cp, v = .slice V n cp ∧ (0 < n → ∃ g, V = some ⟨g, 0, none⟩ ∧ g < W.heap.size ∧ ∀ j u, xs[j]? = some u → W.cell? ⟨g, j, none⟩ = some u) := by
  rcases h.2 with ⟨h1, h2⟩ | ⟨g, cap, cur, h1, h2, h3, h4, h5, h6, h7⟩
  · subst h2; exact ⟨none, 0, h1, fun h => absurd h (by omega)⟩
  · refine ⟨some ⟨g, 0, none⟩, cap, h1, fun _ => ⟨g, rfl, (Array.getElem?_eq_some_iff.1 h3).1, fun j u hu => ?_⟩⟩
    rw [← h7, List.getElem?_take] at hu
    split at hu
    · simp only [World.cell?, h3, Option.isSome_none, Bool.false_eq_true, if_false]
      simpa using hu
    · cases hu
theorem cat_drop : ∀ (l : List Fr) (k : Nat), (cat (l.drop k)).size ≤ (cat l).size
  | [], k => by simp
  | f :: l, 0 => Nat.le_refl _
  | f :: l, k + 1 => Nat.le_trans (cat_drop l k) (by show _ ≤ (putFr f ++ cat l).size; rw [ByteArray.size_append]; omega)
set_option maxRecDepth 20000 in
set_option maxHeartbeats 1000000 in
theorem joins_in (A : Option Addr) (n cap : Nat) (fs : List Fr) (w : World) (hn : n ≤ 20) (hlen : fs.length = n) (hA : 0 < n → ∃ ad : Addr, A = some ad ∧ ∀ j, j < n → ∀ i u, (cells4 (fs.getD j noFr))[i]? = some u → w.cell? (ad.add (j * 4 + i)) = some u) (hwf : ∀ f ∈ fs, 0 ≤ f.2.2.1 ∧ f.2.2.1 < 4294967296) :
    Calls Try.prog 21 #[.slice A n cap] w fun e w' => e = .returned (.bool true) ∧ Below w.heap.size w w' := by
  obtain ⟨i0, hi, hz0, hz1, hz2⟩ := info_parts info58
  have hL : decide ((n : Int) > 20) = false := by simp; omega
  have bel : Below w.heap.size w w := Below.refl _ _
  go_enter Try.func21, Try.ntmps21
  go_wp2_with fail
  refine (alive_call _).mono ?_
  rintro e w1 ⟨rfl, hb1⟩
  replace bel := bstep bel hb1
  go_wp2_with fail
  go_loopw [3, 4, 28] (fun b v i wr => ∃ k : Nat, k ≤ n ∧ i = .int .i64 k ∧ b = .string (cat (acc fs k)) ∧ (cat (acc fs k)).size ≤ k * 309 ∧ wr.ownsRow w.heap.size 58 4 v (acc fs k).length ((acc fs k).flatMap cells4) ∧ Below w.heap.size w wr ∧ ∀ f ∈ acc fs k, f.2.2.2.size ≤ 300) (fun _ _ i _ => n - (intOf i).toNat)
  case atStart => exact ⟨0, Nat.zero_le _, rfl, rfl, Nat.zero_le _, World.ownsRow_nil _ _ _ _, bel, fun f hf => by cases hf⟩
  case round =>
    obtain ⟨k, hk, rfl, rfl, hcs, hown, hb, hsm⟩ := hrel
    by_cases hlt : k < n
    · obtain ⟨ad, rfl, hc⟩ := hA (by omega)
      have hc4 := hc k hlt
      have hf : fs.getD k noFr ∈ fs := by
        rw [List.getD_eq_getElem?_getD, List.getElem?_eq_getElem (by omega)]; exact List.getElem_mem _
      have hfw := hwf _ hf
      obtain ⟨f, hfd⟩ : ∃ f, fs.getD k noFr = f := ⟨_, rfl⟩
      have hy := acc_yes (fs := fs) (k := k) (by omega)
      have hno := acc_no (fs := fs) (k := k) (by omega)
      rw [hfd] at hc4 hfw hy hno
      clear hf hfd hc hA
      obtain ⟨x0, x1, x2, x3⟩ := f
      have d0 := pw_cell_below hb (hc4 0 _ rfl)
      have d1 := far_cell (by decide) (pw_cell_below hb (hc4 1 _ rfl))
      have d2 := far_cell (by decide) (pw_cell_below hb (hc4 2 _ rfl))
      have d3 := far_cell (by decide) (pw_cell_below hb (hc4 3 _ rfl))
      rw [Nat.add_zero] at d0
      clear hc4
      have s0 : (wr.alloc (.cells #[.int .i64 x0, .int .i64 x1, .int .u32 x2, .string x3] 58)).cell? ⟨wr.heap.size, 0, none⟩ = some (.int .i64 x0) := by simp
      have s1 : (wr.alloc (.cells #[.int .i64 x0, .int .i64 x1, .int .u32 x2, .string x3] 58)).cell? ⟨wr.heap.size, 1, none⟩ = some (.int .i64 x1) := by simp
      have s2 : (wr.alloc (.cells #[.int .i64 x0, .int .i64 x1, .int .u32 x2, .string x3] 58)).cell? ⟨wr.heap.size, 2, none⟩ = some (.int .u32 x2) := by simp
      have s3 : (wr.alloc (.cells #[.int .i64 x0, .int .i64 x1, .int .u32 x2, .string x3] 58)).cell? ⟨wr.heap.size, 3, none⟩ = some (.string x3) := by simp
      have hba := bstep hb (balloc (Below.refl wr.heap.size wr) (.cells #[.int .i64 x0, .int .i64 x1, .int .u32 x2, .string x3] 58))
      have hoa := own_below hown (balloc (Below.refl wr.heap.size wr) (.cells #[.int .i64 x0, .int .i64 x1, .int .u32 x2, .string x3] 58))
      rcases Nat.lt_or_ge 300 x3.size with h3 | h3
      · have hs3 : decide ((x3.size : Int) > 300) = true := by simp; omega
        clear hown hb
        go_wp2_with fail
        go_returns
        exact ⟨rfl, hba⟩
      · have hs3 : decide ((x3.size : Int) > 300) = false := by simp; omega
        clear hown hb
        go_wp2_with fail
        refine (fput_any x0 x1 x2 x3 _ hfw).mono ?_
        rintro e w2 ⟨rfl, hb2⟩
        have hbb := bstep hba hb2
        have hob := own_below hoa hb2
        replace s0 := pw_cell_below hb2 s0
        replace s1 := pw_cell_below hb2 s1
        replace s2 := pw_cell_below hb2 s2
        replace s3 := pw_cell_below hb2 s3
        clear hba hoa d0 d1 d2 d3 hb2
        cases hok : okFr (x0, x1, x2, x3) with
        | false =>
          have hok2 : decide (FrQ.okF x0 x1 x2 x3) = false := hok
          have hac := hno hok
          rw [hok2]
          go_wp2_with fail
          go_roundw
          case rel => exact ⟨k + 1, by omega, by go_num, by rw [hac], by rw [hac]; omega, by rw [hac]; exact hob, hbb, by rw [hac]; exact hsm⟩
          case measure => simp [intOf]; omega
        | true =>
          have hok2 : decide (FrQ.okF x0 x1 x2 x3) = true := hok
          have hac := hy hok
          have hps := put_size hok
          have hps2 : (FrQ.putF x0 x1 x2 x3).size ≤ 309 := by
            have e : (FrQ.putF x0 x1 x2 x3).size = (putFr (x0, x1, x2, x3)).size := rfl
            unfold sizeFr at hps
            simp only at hps
            rw [e]
            split at hps <;> omega
          have hla : (cat (acc fs k)).size + (FrQ.putF x0 x1 x2 x3).size ≤ maxLen := by unfold maxLen; omega
          have hle : (acc fs k).length ≤ k := by
            unfold acc
            exact Nat.le_trans (List.length_filter_le _ _) (by rw [List.length_take]; omega)
          have hge : w.heap.size ≤ w2.heap.size := hbb.size
          have hcat : cat (acc fs (k + 1)) = cat (acc fs k) ++ FrQ.putF x0 x1 x2 x3 := by rw [hac, cat_snoc]; rfl
          have hlen1 : (acc fs (k + 1)).length = (acc fs k).length + 1 := by rw [hac]; simp
          have hmap : (acc fs (k + 1)).flatMap cells4 = (acc fs k).flatMap cells4 ++ cells4 (x0, x1, x2, x3) := by rw [hac]; simp
          have hsm1 : ∀ f ∈ acc fs (k + 1), f.2.2.2.size ≤ 300 := by
            intro f hf
            rw [hac] at hf
            rcases List.mem_append.1 hf with h | h
            · exact hsm f h
            · rw [List.mem_singleton.1 h]; exact h3
          clear hac hps hok hno hy
          rw [hok2]
          go_wp2_with (first | (at_builtin; refine wpList_append_own _ rfl (.tmp 45) (.tmp 47) 68 rfl w.heap.size 58 i0 _ 4 40 Try.underlying68 hi hz0 hz1 hz2 rfl (by decide) _ _ _ rfl (hob.alloc _) ⟨w2.heap.size, 0, none⟩ 1 1 (cells4 (x0, x1, x2, x3)) rfl rfl ?c1 ?c2 ?c3 ?c4 ?c5 ?_))
          case c1 =>
            intro j u hj
            match j, hj with
            | 0, hj => simp [cells4] at hj; subst hj; simp [Addr.add]
            | 1, hj => simp [cells4] at hj; subst hj; simp [Addr.add]
            | 2, hj => simp [cells4] at hj; subst hj; simp [Addr.add]
            | 3, hj => simp [cells4] at hj; subst hj; simp [Addr.add]
            | j + 4, hj => simp [cells4] at hj
          case c2 =>
            intro u hu
            simp [cells4] at hu
            rcases hu with rfl | rfl | rfl | rfl <;> rfl
          case c3 => unfold maxLen; omega
          case c4 => omega
          case c5 => simp; omega
          · intro v' w3 hown' hgrow _
            have hb3 : Below w.heap.size w w3 := (bstep hbb (balloc (Below.refl w2.heap.size w2) (.cells #[.int .i64 x0, .int .i64 x1, .int .u32 x2, .string x3] 58))).grown hgrow (by simp; omega) (own_ge hob)
            clear hgrow hob hbb s0 s1 s2 s3
            go_wp2
            go_roundw
            case rel => exact ⟨k + 1, by omega, by go_num, by rw [hcat], by rw [hcat, ByteArray.size_append]; omega, by rw [hlen1, hmap]; exact hown', hb3, hsm1⟩
            case measure => simp [intOf]; omega
    · have hkn : k = n := by omega
      subst hkn
      have hgood : ∀ f ∈ acc fs k, okFr f = true ∧ 0 ≤ f.2.2.1 ∧ f.2.2.1 < 4294967296 := by
        intro f hf
        unfold acc at hf
        rw [List.mem_filter] at hf
        exact ⟨hf.2, hwf f (List.mem_of_mem_take hf.1)⟩
      have hLl : (acc fs k).length ≤ 20 := by
        unfold acc
        exact Nat.le_trans (List.length_filter_le _ _) (by rw [List.length_take]; omega)
      clear hA hwf
      generalize acc fs k = L at *
      obtain ⟨m, hm⟩ : ∃ m, m = L.length := ⟨_, rfl⟩
      rw [← hm] at hown hLl
      obtain ⟨V, cp, rfl, hV⟩ := own_form hown
      clear hown
      have hmh : Hid (m = L.length) := hm
      clear hm
      go_wp2_with fail
      go_loopw [3, 52] (fun b i wx => ∃ k : Nat, k ≤ m ∧ i = .int .i64 k ∧ b = .string (cat (L.drop k)) ∧ Below w.heap.size w wx ∧ Below wr.heap.size wr wx) (fun _ i _ => m - (intOf i).toNat)
      case atStart => exact ⟨0, Nat.zero_le _, rfl, rfl, hb, Below.refl _ _⟩
      case round =>
        obtain ⟨k, hk, rfl, rfl, hbx, hby⟩ := hrel
        have hm := hmh.out
        by_cases hlt : k < m
        · obtain ⟨g, rfl, hgl, hc⟩ := hV (by omega)
          have hfl : L.getD k noFr ∈ L := by
            rw [List.getD_eq_getElem?_getD, List.getElem?_eq_getElem (by omega)]; exact List.getElem_mem _
          have hdr : L.drop k = L.getD k noFr :: L.drop (k + 1) := by
            rw [List.drop_eq_getElem_cons (by omega), List.getD_eq_getElem?_getD, List.getElem?_eq_getElem (by omega)]; rfl
          have hc4 := fun i u => flat_get L k i u (by omega)
          have hgd := hgood _ hfl
          have hsz := hsm _ hfl
          generalize L.getD k noFr = f at hdr hc4 hgd hsz
          obtain ⟨x0, x1, x2, x3⟩ := f
          have d0 := pw_cell_below hby (hc _ _ (hc4 0 _ rfl))
          have d1 := pw_cell_below hby (hc _ _ (hc4 1 _ rfl))
          have d2 := pw_cell_below hby (hc _ _ (hc4 2 _ rfl))
          have d3 := pw_cell_below hby (hc _ _ (hc4 3 _ rfl))
          rw [Nat.add_zero] at d0
          have hps := put_size hgd.1
          have hsz : x3.size ≤ 300 := hsz
          have hget := get_first (cat (L.drop (k + 1))) hgd.1 hgd.2
          have hcut := cut_first (putFr (x0, x1, x2, x3)) (cat (L.drop (k + 1)))
          have hq : cat (L.drop k) = putFr (x0, x1, x2, x3) ++ cat (L.drop (k + 1)) := by rw [hdr]; rfl
          have hqs : (cat (L.drop k)).size = (putFr (x0, x1, x2, x3)).size + (cat (L.drop (k + 1))).size := by rw [hq, ByteArray.size_append]
          rw [← hq] at hget hcut
          have hbig : (cat (L.drop k)).size ≤ 140737488351232 := Nat.le_trans (cat_drop L k) (by omega)
          clear hdr hc4 hgd hc hV hgood hsm hfl hq hm hmh hcs
          generalize cat (L.drop k) = q at *
          generalize hr : cat (L.drop (k + 1)) = r at *
          have s0 : (wr.alloc (.cells #[.int .i64 x0, .int .i64 x1, .int .u32 x2, .string x3] 58)).cell? ⟨wr.heap.size, 0, none⟩ = some (.int .i64 x0) := by simp
          have s1 : (wr.alloc (.cells #[.int .i64 x0, .int .i64 x1, .int .u32 x2, .string x3] 58)).cell? ⟨wr.heap.size, 1, none⟩ = some (.int .i64 x1) := by simp
          have s2 : (wr.alloc (.cells #[.int .i64 x0, .int .i64 x1, .int .u32 x2, .string x3] 58)).cell? ⟨wr.heap.size, 2, none⟩ = some (.int .u32 x2) := by simp
          have s3 : (wr.alloc (.cells #[.int .i64 x0, .int .i64 x1, .int .u32 x2, .string x3] 58)).cell? ⟨wr.heap.size, 3, none⟩ = some (.string x3) := by simp
          by_cases h0 : x0 = 0
          · subst h0
            have hps : ((putFr (0, x1, x2, x3)).size : Int) = 5 := hps
            replace hget : getF q 1024 = ((0, x1, x2, x3), 5, 0) := hget
            have hn9 : IntKind.i64.wrap (9 + (x3.size : Int)) = 9 + (x3.size : Int) := by rw [IntKind.wrap_i64]; omega
            have hgt : decide (5 > (q.size : Int)) = false := by simp; omega
            have hle : 5 ≤ (q.size : Int) := by omega
            have hnn : (0 : Int) ≤ 5 := by omega
            have hcut2 : q.extract 5 q.size = r := by rw [← hcut]; congr 1; omega
            have hrs : r.size ≤ 140737488351232 := by omega
            clear hps hcut hqs
            go_wp2_with fail
            refine (fget_any q 1024 _ hbig).mono ?_
            rintro e w2 ⟨rfl, hb2⟩
            simp only [getOut, frameAgg, hget]
            replace s0 := pw_cell_below hb2 s0
            replace s1 := pw_cell_below hb2 s1
            replace s2 := pw_cell_below hb2 s2
            replace s3 := pw_cell_below hb2 s3
            have hbz := bstep (bstep hbx (balloc (Below.refl wr.heap.size wr) (.cells #[.int .i64 0, .int .i64 x1, .int .u32 x2, .string x3] 58))) hb2
            have hyz := bstep (bstep hby (balloc (Below.refl wr.heap.size wr) (.cells #[.int .i64 0, .int .i64 x1, .int .u32 x2, .string x3] 58))) hb2
            clear hb2 hbx hby d0 d1 d2 d3 hget
            have z0 : (w2.alloc (.cells #[.int .i64 0, .int .i64 x1, .int .u32 x2, .string x3] 58)).cell? ⟨w2.heap.size, 0, none⟩ = some (.int .i64 0) := by simp
            have z1 : (w2.alloc (.cells #[.int .i64 0, .int .i64 x1, .int .u32 x2, .string x3] 58)).cell? ⟨w2.heap.size, 1, none⟩ = some (.int .i64 x1) := by simp
            have z2 : (w2.alloc (.cells #[.int .i64 0, .int .i64 x1, .int .u32 x2, .string x3] 58)).cell? ⟨w2.heap.size, 2, none⟩ = some (.int .u32 x2) := by simp
            have z3 : (w2.alloc (.cells #[.int .i64 0, .int .i64 x1, .int .u32 x2, .string x3] 58)).cell? ⟨w2.heap.size, 3, none⟩ = some (.string x3) := by simp
            have s0n := pw_cell_below (balloc (Below.refl w2.heap.size w2) (.cells #[.int .i64 0, .int .i64 x1, .int .u32 x2, .string x3] 58)) s0
            have s1n := pw_cell_below (balloc (Below.refl w2.heap.size w2) (.cells #[.int .i64 0, .int .i64 x1, .int .u32 x2, .string x3] 58)) s1
            have s2n := pw_cell_below (balloc (Below.refl w2.heap.size w2) (.cells #[.int .i64 0, .int .i64 x1, .int .u32 x2, .string x3] 58)) s2
            have s3n := pw_cell_below (balloc (Below.refl w2.heap.size w2) (.cells #[.int .i64 0, .int .i64 x1, .int .u32 x2, .string x3] 58)) s3
            have hbv := bstep hbz (balloc (Below.refl w2.heap.size w2) (.cells #[.int .i64 0, .int .i64 x1, .int .u32 x2, .string x3] 58))
            have hyv := bstep hyz (balloc (Below.refl w2.heap.size w2) (.cells #[.int .i64 0, .int .i64 x1, .int .u32 x2, .string x3] 58))
            clear hbz hyz s0 s1 s2 s3
            go_wp2_with fail
            go_roundw
            case rel => exact ⟨k + 1, by omega, by go_num, by rw [hr], hbv, hyv⟩
            case measure => simp [intOf]; omega
          · have hk0 : (x0 == 0) = false := by simpa using h0
            have hps : ((putFr (x0, x1, x2, x3)).size : Int) = 9 + (x3.size : Int) := by rw [hps]; exact if_neg h0
            replace hget : getF q 1024 = ((x0, x1, x2, x3), 9 + (x3.size : Int), 0) := by rw [hget]; congr 2; exact if_neg h0
            clear h0
            have hn9 : IntKind.i64.wrap (9 + (x3.size : Int)) = 9 + (x3.size : Int) := by rw [IntKind.wrap_i64]; omega
            have hgt : decide ((9 + (x3.size : Int)) > (q.size : Int)) = false := by simp; omega
            have hle : (9 + (x3.size : Int)) ≤ (q.size : Int) := by omega
            have hnn : (0 : Int) ≤ (9 + (x3.size : Int)) := by omega
            have hto : (9 + (x3.size : Int)).toNat = 9 + x3.size := by omega
            have hcut2 : q.extract (9 + x3.size) q.size = r := by rw [← hcut]; congr 1; omega
            have hrs : r.size ≤ 140737488351232 := by omega
            clear hps hcut hqs
            go_wp2_with fail
            refine (fget_any q 1024 _ hbig).mono ?_
            rintro e w2 ⟨rfl, hb2⟩
            simp only [getOut, frameAgg, hget]
            replace s0 := pw_cell_below hb2 s0
            replace s1 := pw_cell_below hb2 s1
            replace s2 := pw_cell_below hb2 s2
            replace s3 := pw_cell_below hb2 s3
            have hbz := bstep (bstep hbx (balloc (Below.refl wr.heap.size wr) (.cells #[.int .i64 x0, .int .i64 x1, .int .u32 x2, .string x3] 58))) hb2
            have hyz := bstep (bstep hby (balloc (Below.refl wr.heap.size wr) (.cells #[.int .i64 x0, .int .i64 x1, .int .u32 x2, .string x3] 58))) hb2
            clear hb2 hbx hby d0 d1 d2 d3 hget
            have z0 : (w2.alloc (.cells #[.int .i64 x0, .int .i64 x1, .int .u32 x2, .string x3] 58)).cell? ⟨w2.heap.size, 0, none⟩ = some (.int .i64 x0) := by simp
            have z1 : (w2.alloc (.cells #[.int .i64 x0, .int .i64 x1, .int .u32 x2, .string x3] 58)).cell? ⟨w2.heap.size, 1, none⟩ = some (.int .i64 x1) := by simp
            have z2 : (w2.alloc (.cells #[.int .i64 x0, .int .i64 x1, .int .u32 x2, .string x3] 58)).cell? ⟨w2.heap.size, 2, none⟩ = some (.int .u32 x2) := by simp
            have z3 : (w2.alloc (.cells #[.int .i64 x0, .int .i64 x1, .int .u32 x2, .string x3] 58)).cell? ⟨w2.heap.size, 3, none⟩ = some (.string x3) := by simp
            have s0n := pw_cell_below (balloc (Below.refl w2.heap.size w2) (.cells #[.int .i64 x0, .int .i64 x1, .int .u32 x2, .string x3] 58)) s0
            have s1n := pw_cell_below (balloc (Below.refl w2.heap.size w2) (.cells #[.int .i64 x0, .int .i64 x1, .int .u32 x2, .string x3] 58)) s1
            have s2n := pw_cell_below (balloc (Below.refl w2.heap.size w2) (.cells #[.int .i64 x0, .int .i64 x1, .int .u32 x2, .string x3] 58)) s2
            have s3n := pw_cell_below (balloc (Below.refl w2.heap.size w2) (.cells #[.int .i64 x0, .int .i64 x1, .int .u32 x2, .string x3] 58)) s3
            have hbv := bstep hbz (balloc (Below.refl w2.heap.size w2) (.cells #[.int .i64 x0, .int .i64 x1, .int .u32 x2, .string x3] 58))
            have hyv := bstep hyz (balloc (Below.refl w2.heap.size w2) (.cells #[.int .i64 x0, .int .i64 x1, .int .u32 x2, .string x3] 58))
            clear hbz hyz s0 s1 s2 s3
            go_wp2_with fail
            go_roundw
            case rel => exact ⟨k + 1, by omega, by go_num, by rw [hr], hbv, hyv⟩
            case measure => simp [intOf]; omega
        · have hkm : k = m := by omega
          have hnil : cat (L.drop k) = ⟨#[]⟩ := by rw [List.drop_of_length_le (by omega)]; rfl
          rw [hnil]
          clear hV hgood hsm hm hmh hnil
          have hget := getF_empty 1024
          go_wp2_with fail
          refine (fget_any ⟨#[]⟩ 1024 _ (Nat.zero_le _)).mono ?_
          rintro e w2 ⟨rfl, hb2⟩
          simp only [getOut, frameAgg, hget]
          have hbz := bstep hbx hb2
          have hbv := bstep hbz (balloc (Below.refl w2.heap.size w2) (.cells #[.int .i64 0, .int .i64 0, .int .u32 0, .string ⟨#[]⟩] 58))
          clear hb2 hbx hby hbz hget
          go_wp2_with fail
          go_returns
          exact ⟨rfl, hbv⟩
set_option maxHeartbeats 400000 in
theorem joins_out (A : Option Addr) (n cap : Nat) (w : World) (hn : 20 < n) :
    Calls Try.prog 21 #[.slice A n cap] w fun e w' => e = .returned (.bool true) ∧ Below w.heap.size w w' := by
  have hL : decide ((n : Int) > 20) = true := by simp; omega
  go_enter Try.func21, Try.ntmps21
  go_wp2_with fail
  refine (alive_call _).mono ?_
  rintro e w1 ⟨rfl, hb1⟩
  go_wp2_with fail
  go_returns
  exact ⟨rfl, hb1⟩
theorem joins_walk (A : Option Addr) (n cap : Nat) (fs : List Fr) (w : World) (h : FramesIn w A n cap fs) :
    Calls Try.prog 21 #[.slice A n cap] w fun e w' => e = .returned (.bool true) ∧ Below w.heap.size w w' := by
  rcases Nat.lt_or_ge 20 n with hn | hn
  · exact joins_out A n cap w hn
  · exact joins_in A n cap fs w hn h.len h.at_ h.wf
end Go.Proofs.Ythaoofnnhdkboaa.FjW
