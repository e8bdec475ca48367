/- The walk of TrieWalks. -/
import Derived.Test.YtdmmalkppfmkpaaTwA
set_option linter.unusedSimpArgs false
set_option linter.unusedVariables false
namespace Go.Proofs.Ytdmmalkppfmkpaa.TwW
open Go Go.RowKit Go.Proofs.Ytdmmalkppfmkpaa.Base Go.Proofs.Ytdmmalkppfmkpaa.DiA Go.Proofs.Ytdmmalkppfmkpaa.DiB Go.Proofs.Ytdmmalkppfmkpaa.DiC Go.Proofs.Ytdmmalkppfmkpaa.DiD Go.Proofs.Ytdmmalkppfmkpaa.TrP Go.Proofs.Ytdmmalkppfmkpaa.TrM Go.Proofs.Ytdmmalkppfmkpaa.TrA Go.Proofs.Ytdmmalkppfmkpaa.TrB Go.Proofs.Ytdmmalkppfmkpaa.TrD Go.Proofs.Ytdmmalkppfmkpaa.TrE Go.Proofs.Ytdmmalkppfmkpaa.TgW Go.Proofs.Ytdmmalkppfmkpaa.TwA
def twV (px : Nat) (s : ByteArray) (ix x : Nat) (i : Nat) (v : Value) (W : World) : Prop := match i with
  | 0 => v = .pointer (some ⟨px, 0, none⟩)
  | 1 => v = .int .i64 (x : Int)
  | 2 => v = .string (s.extract 0 (ix + 1))
  | 3 => v = .string s
  | 4 => v = .int .i64 (ix : Int)
  | 5 => v = .int .i64 ((ix : Int) + 1)
  | 6 => v = .string (s.extract 0 (ix + 1))
  | 7 => v = .bool false
  | 8 => v = .bool false
  | 9 => v = .pointer (some ⟨px, 0, none⟩)
  | 10 => v = .int .i64 (x : Int)
  | 11 => v = .int .i64 ((ix : Int) + 1)
  | 12 => v = .int .i64 (ix : Int)
  | 13 => v = .int .i64 ((ix : Int) + 1)
  | 14 => v = .bool false
  | 15 => v = .bool false
  | _ => True

theorem okD_apart {zs : List ByteArray} (h : okD zs = true) : ∀ j k, j < k → k < zs.length → zs.getD j ByteArray.empty ≠ zs.getD k ByteArray.empty := by
  intro j k hjk hk e
  unfold okD at h
  rw [Bool.and_eq_true] at h
  have := okUpto_le (k := k + 1) (by omega) h.2
  rw [okUpto_succ, Bool.and_eq_true] at this
  have h2 := this.2
  unfold goodAt at h2
  simp only [Bool.and_eq_true, Bool.not_eq_true', decide_eq_true_eq] at h2
  have hm : zs.getD k ByteArray.empty ∈ zs.take k := by
    rw [← e, List.getD_eq_getElem?_getD, List.getElem?_eq_getElem (by omega)]
    exact List.mem_take_iff_getElem.2 ⟨j, by omega, rfl⟩
  have := (Lib.containsS_iff (zs.take k) (zs.getD k ByteArray.empty)).2 hm
  rw [h2.2.2.2] at this
  cases this
set_option maxHeartbeats 400000 in
theorem walks_few (A : Option Addr) (n cap : Nat) (b : ByteArray) (w : World) (hf : Calls Try.prog 9 #[.slice A n cap] w fun e w' => e = .returned (.bool false) ∧ w' = w) :
    Calls Try.prog 4 #[.slice A n cap, .string b] w fun e w' => e = .returned (.bool true) ∧ Below w.heap.size w w' := by
  go_enter Try.func4, Try.ntmps4
  go_wp2_with fail
  refine hf.mono ?_
  rintro e w1 ⟨rfl, hw⟩
  rw [hw]
  clear hf hw
  go_wp2_with fail
  refine (alive_call _).mono ?_
  rintro e w2 ⟨rfl, b2⟩
  go_wp2_with fail
  go_ret
  exact ⟨rfl, b2⟩
set_option maxHeartbeats 400000 in
theorem walks_long (A : Option Addr) (n cap : Nat) (b : ByteArray) (w : World) (hf : Calls Try.prog 9 #[.slice A n cap] w fun e w' => e = .returned (.bool true) ∧ w' = w) (hs : 60 < b.size) :
    Calls Try.prog 4 #[.slice A n cap, .string b] w fun e w' => e = .returned (.bool true) ∧ Below w.heap.size w w' := by
  have hd : decide ((b.size : Int) > 60) = true := decide_eq_true (by omega)
  clear hs
  go_enter Try.func4, Try.ntmps4
  go_wp2_with fail
  refine hf.mono ?_
  rintro e w1 ⟨rfl, hw⟩
  rw [hw]
  clear hf hw
  go_wp2_with fail
  refine (alive_call _).mono ?_
  rintro e w2 ⟨rfl, b2⟩
  go_wp2_with fail
  go_ret
  exact ⟨rfl, b2⟩
set_option maxRecDepth 20000 in
set_option maxHeartbeats 4000000 in
theorem walks_some (ad : Addr) (n cap : Nat) (zs : List ByteArray) (b : ByteArray) (w : World) (hf : Calls Try.prog 9 #[.slice (some ad) n cap] w fun e w' => e = .returned (.bool true) ∧ w' = w) (hs : b.size ≤ 60)
    (hn : n = zs.length) (hat : StrsAt w (some ad) zs) (hn1 : n ≤ 110) (htot : total zs ≤ 1300) :
    Calls Try.prog 4 #[.slice (some ad) n cap, .string b] w fun e w' => e = .returned (.bool true) ∧ Below w.heap.size w w' := by
  obtain ⟨i0, hi, hz0, hz1, hz2⟩ := info_parts info9
  have hd : decide ((b.size : Int) > 60) = false := decide_eq_false (by omega)
  have hnh : Hid (n = zs.length) := hn
  clear hn
  go_enter Try.func4, Try.ntmps4
  go_wp2_with fail
  refine hf.mono ?_
  rintro e w1 ⟨rfl, hw⟩
  rw [hw]
  clear hf hw w1
  go_wp2_with fail
  refine (alive_call _).mono ?_
  rintro e w1 ⟨rfl, b1⟩
  have hat1 := hat.below b1
  have bel := b1
  clear b1
  go_wp2_with fail
  refine (make_any (some ad) n cap zs w1 hnh.out hat1 (by omega)).mono ?_
  rintro e w2 ⟨b2, ⟨_, rfl⟩ | ⟨okd, pd, rfl, _, hdt⟩⟩
  · have bel2 := bstep bel b2
    clear hat1 bel b2 hat
    go_wp2_with fail
    go_ret
    exact ⟨rfl, bel2⟩
  have bel2 := bstep bel b2
  have hdist : Hid (∀ j k, j < k → k < zs.length → zs.getD j ByteArray.empty ≠ zs.getD k ByteArray.empty) := okD_apart okd
  clear hat1 bel b2 okd
  have hzl : zs.length ≤ 1000 := by rw [← hnh.out]; omega
  go_wp2_with fail
  refine (TrD.new_any _ pd zs w2 hdt hzl (by omega)).mono ?_
  rintro e w3 ⟨b3, px, NX, mx, rfl, hX, hNX, hlX⟩
  have bel3 := bstep bel2 b3
  clear hdt bel2 b3 hzl
  have hXl : NX.length ≤ 1301 := by omega
  obtain ⟨X, hXd⟩ : ∃ X, Hid (X = build zs zs.length) := ⟨_, Lib.hid rfl⟩
  have hgood : Hid (TrP.Good zs zs.length X) := by show TrP.Good zs zs.length X; rw [hXd.out]; exact build_good _ _
  have hNXh : Hid (NX.map (·.p) = X) := by show NX.map (·.p) = X; rw [hXd.out]; exact hNX
  have hways : Hid (∀ j, j < zs.length → ∃ a, way X (zs.getD j ByteArray.empty) (zs.getD j ByteArray.empty).size = some a) := by
    show ∀ j, j < zs.length → ∃ a, way X (zs.getD j ByteArray.empty) (zs.getD j ByteArray.empty).size = some a
    intro j hj
    rw [hXd.out]
    obtain ⟨a, ha, _⟩ := build_way zs zs.length j hj
    exact ⟨a, ha⟩
  have hfinds : Hid (∀ s a, way X s s.size = some a → FindIs zs s (X.getD a noPn).word) := by
    show ∀ s a, way X s s.size = some a → FindIs zs s (X.getD a noPn).word
    intro s a h
    rw [hXd.out] at h ⊢
    exact way_find zs s a h
  clear hNX hXd hlX
  have hat3 := hat.below bel3
  have h1 : ∀ j u, (zs.map Value.string)[j]? = some u → w3.cell? (ad.add j) = some u := by
    intro j u hu
    have hz : 0 < zs.length := by
      have := (List.getElem?_eq_some_iff.1 hu).1
      simp at this; omega
    obtain ⟨ad', he, hc⟩ := own_strs hat3 hz
    obtain rfl := Option.some.inj he
    exact hc j u hu
  have hone : ∀ u ∈ zs.map Value.string, u.oneCell' = true := by
    intro u hu
    obtain ⟨x, _, rfl⟩ := List.mem_map.1 hu
    rfl
  have hml : (zs.map Value.string).length = n * 1 := by rw [List.length_map, ← hnh.out]; omega
  go_wp2_with (first | (at_builtin; refine wpList_append_own _ rfl (.const (.slice none 0 0)) (.tmp 34) 22 rfl w3.heap.size 9 i0 _ 1 16 Try.underlying22 hi hz0 hz1 hz2 rfl (by decide) _ 0 [] rfl (World.ownsRow_nil _ _ _ _) ad n cap (zs.map Value.string) rfl hml h1 hone ?d1 ?d2 (Nat.le_refl _) ?_))
  case d1 => unfold maxLen; omega
  case d2 => omega
  intro v3 w4 ho3 hg3 _
  try simp only [Nat.zero_add, List.nil_append] at ho3
  have b4 : Below w3.heap.size w3 w4 := (Below.refl _ _).grown hg3 (Nat.le_refl _) (fun k hk => by cases hk)
  clear hg3 h1 hone hml hat3
  obtain ⟨V3, c3', rfl, _⟩ := own_form ho3
  have hs3 := b4.size
  go_wp2_with (first | (at_builtin; refine wpList_append_own _ rfl (.tmp 35) (.tmp 37) 22 rfl w3.heap.size 9 i0 _ 1 16 Try.underlying22 hi hz0 hz1 hz2 rfl (by decide) _ n (zs.map Value.string) rfl (ho3.alloc _) ⟨w4.heap.size, 0, none⟩ 1 1 [.string b] rfl rfl ?c1 ?c2 ?c3 ?c4 ?c5 ?_))
  case c1 => intro j u hj; match j, hj with | 0, hj => simp at hj; subst hj; simp [Addr.add] | j + 1, hj => simp at hj
  case c2 => intro u hu; simp at hu; subst hu; rfl
  case c3 => unfold maxLen; omega
  case c4 => omega
  case c5 => first | (simp; done) | (simp; omega)
  intro v5 w5 own2 hg5 _
  have b5 : Below w3.heap.size w3 w5 := (b4.alloc hs3 _).grown hg5 (by simp; omega) (own_ge ho3)
  rw [show zs.map Value.string ++ [Value.string b] = (zs ++ [b]).map Value.string by simp] at own2
  clear hg5 ho3 b4 hs3
  obtain ⟨V2, c2, rfl, hs2⟩ := own_cells own2 (by simp [← hnh.out])
  have bel5 := bel3.trans (b5.mono bel3.size)
  have t5 := hX.below b5
  clear own2 bel3 hX b5
  have hlz : Hid ((zs ++ [b]).length = n + 1) := by show _ = _; rw [List.length_append, hnh.out]; rfl
  go_wp2_with fail
  go_loopw [40] (fun ii wx => ∃ k : Nat, k ≤ n + 1 ∧ ii = .int .i64 k ∧ Below w.heap.size w wx ∧ TrieAt w2.heap.size wx px NX mx ∧ StrsAt wx V2 (zs ++ [b])) (fun ii _ => n + 1 - (intOf ii).toNat)
  case atStart => exact ⟨0, Nat.zero_le _, rfl, bel5, t5, hs2⟩
  case round =>
    obtain ⟨k, hk, rfl, belr, tr, sr⟩ := hrel
    clear hs2 bel5 t5
    by_cases hlt : k < n + 1
    · obtain ⟨bb, off, rfl, _, hc⟩ := sr (by rw [hlz.out]; omega)
      have hcell := hc k (by rw [hlz.out]; exact hlt)
      obtain ⟨s, hsd⟩ : ∃ s, (zs ++ [b]).getD k ByteArray.empty = s := ⟨_, rfl⟩
      rw [hsd] at hcell
      have hsl : Hid (k < n → zs.getD k ByteArray.empty = s) := by
        show k < n → _
        intro h
        rw [← hsd, List.getD_eq_getElem?_getD, List.getD_eq_getElem?_getD, List.getElem?_append_left (by rw [← hnh.out]; exact h)]
      have hsb : Hid (k = n → b = s) := by
        show k = n → _
        intro h
        rw [← hsd, List.getD_eq_getElem?_getD, h, hnh.out]
        simp
      have hss : s.size ≤ 1300 := by
        rcases Nat.lt_or_ge k n with h | h
        · rw [← hsl.out h]
          have h1 := total_succ (zs := zs) (k := k) (by rw [← hnh.out]; exact h)
          have h2 := total_take_le zs (k + 1)
          omega
        · rw [← hsb.out (by omega)]; omega
      clear hsd hc
      have hkk : ((k : Int) < (n : Int) + 1) := by omega
      go_wp2_with fail
      go_loopw [9, 10] (fun nv iv wx => ∃ (i a : Nat), i ≤ s.size ∧ iv = .int .i64 i ∧ nv = .int .i64 a ∧ Hid (way X s i = some a) ∧ Below w.heap.size w wx ∧ TrieAt w2.heap.size wx px NX mx ∧ StrsAt wx (some ⟨bb, off, none⟩) (zs ++ [b])) (fun _ iv _ => s.size - (intOf iv).toNat)
      case atStart => exact ⟨0, 0, Nat.zero_le _, rfl, rfl, rfl, belr, tr, sr⟩
      case round =>
        obtain ⟨i, a, hil, rfl, rfl, hw, belx, htx, hsx⟩ := hrel
        clear belr tr sr hcell
        obtain ⟨hal, hatx⟩ := way_text hgood.out s i a hil hw.out
        by_cases hlti : i < s.size
        · have hcr := byteOf_range s i
          have hbj := byte_get s i hlti
          have hstep : way X s (i + 1) = (X.getD a noPn).sons (TrP.byteOf s i) := by
            show (match way X s i with | some a => (X.getD a noPn).sons (TrP.byteOf s i) | none => none) = _
            rw [hw.out]
          generalize TrP.byteOf s i = c at hcr hbj hstep
          have hid : decide ((i : Int) < (s.size : Int)) = true := decide_eq_true (by omega)
          cases hso : (X.getD a noPn).sons c with
          | none =>
            rw [hso] at hstep
            have hkn : k = n := by
              rcases Nat.lt_or_ge k n with h | h
              · exfalso
                have hz := hways.out k (by rw [← hnh.out]; exact h)
                rw [hsl.out h] at hz
                obtain ⟨a', ha'⟩ := way_before s.size (i + 1) (by omega) hz
                rw [hstep] at ha'; cases ha'
              · omega
            have hnx := next_none htx (by omega) hNXh.out hal hcr hso
            clear hstep hso hw hsl hsb hcr hatx
            subst hkn
            go_wp2_with fail
            refine hnx.mono ?_
            rintro e w6 ⟨rfl, b6⟩
            have bel6 := bstep belx b6
            have t6 := htx.below b6
            have s6 := hsx.below b6
            clear hnx b6 belx htx hsx
            go_wp2_with fail
            go_roundw
            case rel => exact ⟨k + 1, by omega, by go_num, bel6, t6, s6⟩
            case measure => first | (simp [intOf]; done) | (simp [intOf]; omega)
          | some x =>
          have hway : Hid (way X s (i + 1) = some x) := by show way X s (i + 1) = some x; rw [hstep, hso]
          obtain ⟨hxl, hxt0⟩ := way_text hgood.out s (i + 1) x (by omega) hway.out
          have hxt : Hid ((X.getD x noPn).text = s.extract 0 (i + 1)) := hxt0
          have hxd : Hid ((X.getD x noPn).text.size = i + 1) := by show (X.getD x noPn).text.size = i + 1; rw [hxt0, ByteArray.size_extract]; omega
          have hnx := next_some htx (by omega) hNXh.out hal hcr hso
          have hwi : IntKind.i64.wrap ((i : Int) + 1) = (i : Int) + 1 := by rw [IntKind.wrap_i64]; omega
          have hi1 : (i : Int) + 1 ≤ (s.size : Int) := by omega
          clear hstep hso hw hcr hatx hxt0
          go_wp2_with fail
          refine hnx.mono ?_
          rintro e w6 ⟨rfl, b6⟩
          replace belx := bstep belx b6
          replace htx := htx.below b6
          replace hsx := hsx.below b6
          clear hnx b6
          go_wp2_with fail
          refine Reg.wp_region_lists (fun W W' => Below W.heap.size W W') (twV px s i x)
            [some 66, some 67, some 68, some 69, some 70, some 71, some 72, some 73, some 74, some 75, some 76, some 77, some 78, some 79, some 80, some 81]
            [[], [], [0, 1], [], [], [4], [3, 5], [2, 6], [7, 2], [8], [8], [9, 10, 8, 8], [8], [12, 8], [11, 13, 8], [8, 14]]
            (by kernel_rfl) (by kernel_rfl) (by kernel_rfl) (fun _ => Below.refl _ _) (fun _ _ _ h k => bstep h k) ?_ ?_ ?_
          · intro i v W W' h k
            unfold twV at h ⊢
            split at h <;> first | exact h
          · refine ⟨?_, ?_, ?_, ?_, ?_, ?_, ?_, ?_, ?_, ?_, ?_, ?_, ?_, ?_, ?_, ?_, trivial⟩
            · intro vals W K hR hV hK
              simp only [Reg.putS, List.foldl, List.headD, List.tail, List.getD_cons_zero, List.getD_cons_succ, Act.put, List.setIfInBounds_toArray, List.set_cons_zero, List.set_cons_succ] at hK ⊢
              go_simp
              first
                | exact hK _ _ (Below.refl _ _) rfl
                | (rw [if_pos (by omega)]; exact hK _ _ (Below.refl _ _) rfl)
                | (rw [dif_pos (by omega)]; exact hK _ _ (Below.refl _ _) rfl)
                | (rw [if_neg (by omega)]; exact hK _ _ (Below.refl _ _) rfl)
            · intro vals W K hR hV hK
              simp only [Reg.putS, List.foldl, List.headD, List.tail, List.getD_cons_zero, List.getD_cons_succ, Act.put, List.setIfInBounds_toArray, List.set_cons_zero, List.set_cons_succ] at hK ⊢
              go_simp
              first
                | exact hK _ _ (Below.refl _ _) rfl
                | (rw [if_pos (by omega)]; exact hK _ _ (Below.refl _ _) rfl)
                | (rw [dif_pos (by omega)]; exact hK _ _ (Below.refl _ _) rfl)
                | (rw [if_neg (by omega)]; exact hK _ _ (Below.refl _ _) rfl)
            · intro vals W K hR hV hK
              have d0 := hV 0 (by simp)
              simp only [twV] at d0
              have d1 := hV 1 (by simp)
              simp only [twV] at d1
              simp only [Reg.putS, List.foldl, List.headD, List.tail, List.getD_cons_zero, List.getD_cons_succ, Act.put, List.setIfInBounds_toArray, List.set_cons_zero, List.set_cons_succ, d0, d1] at hK ⊢
              have htW := htx.below (below_undrew hR)
              go_simp
              refine (text_in htW (by omega) hNXh.out x hxl).mono ?_
              rintro e w2 ⟨rfl, hb⟩
              rw [hxt.out]
              exact hK _ _ hb rfl
            · intro vals W K hR hV hK
              simp only [Reg.putS, List.foldl, List.headD, List.tail, List.getD_cons_zero, List.getD_cons_succ, Act.put, List.setIfInBounds_toArray, List.set_cons_zero, List.set_cons_succ] at hK ⊢
              go_simp
              first
                | exact hK _ _ (Below.refl _ _) rfl
                | (rw [if_pos (by omega)]; exact hK _ _ (Below.refl _ _) rfl)
                | (rw [dif_pos (by omega)]; exact hK _ _ (Below.refl _ _) rfl)
                | (rw [if_neg (by omega)]; exact hK _ _ (Below.refl _ _) rfl)
            · intro vals W K hR hV hK
              simp only [Reg.putS, List.foldl, List.headD, List.tail, List.getD_cons_zero, List.getD_cons_succ, Act.put, List.setIfInBounds_toArray, List.set_cons_zero, List.set_cons_succ] at hK ⊢
              go_simp
              first
                | exact hK _ _ (Below.refl _ _) rfl
                | (rw [if_pos (by omega)]; exact hK _ _ (Below.refl _ _) rfl)
                | (rw [dif_pos (by omega)]; exact hK _ _ (Below.refl _ _) rfl)
                | (rw [if_neg (by omega)]; exact hK _ _ (Below.refl _ _) rfl)
            · intro vals W K hR hV hK
              have d4 := hV 4 (by simp)
              simp only [twV] at d4
              simp only [Reg.putS, List.foldl, List.headD, List.tail, List.getD_cons_zero, List.getD_cons_succ, Act.put, List.setIfInBounds_toArray, List.set_cons_zero, List.set_cons_succ, d4] at hK ⊢
              go_simp
              first
                | exact hK _ _ (Below.refl _ _) rfl
                | (rw [if_pos (by omega)]; exact hK _ _ (Below.refl _ _) rfl)
                | (rw [dif_pos (by omega)]; exact hK _ _ (Below.refl _ _) rfl)
                | (rw [if_neg (by omega)]; exact hK _ _ (Below.refl _ _) rfl)
            · intro vals W K hR hV hK
              have d3 := hV 3 (by simp)
              simp only [twV] at d3
              have d5 := hV 5 (by simp)
              simp only [twV] at d5
              simp only [Reg.putS, List.foldl, List.headD, List.tail, List.getD_cons_zero, List.getD_cons_succ, Act.put, List.setIfInBounds_toArray, List.set_cons_zero, List.set_cons_succ, d3, d5] at hK ⊢
              go_simp
              first
                | exact hK _ _ (Below.refl _ _) rfl
                | (rw [if_pos (by omega)]; exact hK _ _ (Below.refl _ _) rfl)
                | (rw [dif_pos (by omega)]; exact hK _ _ (Below.refl _ _) rfl)
                | (rw [if_neg (by omega)]; exact hK _ _ (Below.refl _ _) rfl)
            · intro vals W K hR hV hK
              have d2 := hV 2 (by simp)
              simp only [twV] at d2
              have d6 := hV 6 (by simp)
              simp only [twV] at d6
              simp only [Reg.putS, List.foldl, List.headD, List.tail, List.getD_cons_zero, List.getD_cons_succ, Act.put, List.setIfInBounds_toArray, List.set_cons_zero, List.set_cons_succ, d2, d6] at hK ⊢
              go_simp
              first
                | exact hK _ _ (Below.refl _ _) rfl
                | (rw [if_pos (by omega)]; exact hK _ _ (Below.refl _ _) rfl)
                | (rw [dif_pos (by omega)]; exact hK _ _ (Below.refl _ _) rfl)
                | (rw [if_neg (by omega)]; exact hK _ _ (Below.refl _ _) rfl)
            · intro vals W K hR hV hK
              have d2 := hV 2 (by simp)
              simp only [twV] at d2
              have d7 := hV 7 (by simp)
              simp only [twV] at d7
              simp only [Reg.putS, List.foldl, List.headD, List.tail, List.getD_cons_zero, List.getD_cons_succ, Act.put, List.setIfInBounds_toArray, List.set_cons_zero, List.set_cons_succ, d2, d7] at hK ⊢
              go_simp
              first
                | exact hK _ _ (Below.refl _ _) rfl
                | (rw [if_pos (by omega)]; exact hK _ _ (Below.refl _ _) rfl)
                | (rw [dif_pos (by omega)]; exact hK _ _ (Below.refl _ _) rfl)
                | (rw [if_neg (by omega)]; exact hK _ _ (Below.refl _ _) rfl)
            · intro vals W K hR hV hK
              have d8 := hV 8 (by simp)
              simp only [twV] at d8
              simp only [Reg.putS, List.foldl, List.headD, List.tail, List.getD_cons_zero, List.getD_cons_succ, Act.put, List.setIfInBounds_toArray, List.set_cons_zero, List.set_cons_succ, d8] at hK ⊢
              go_simp
              first
                | exact hK _ _ (Below.refl _ _) rfl
                | (rw [if_pos (by omega)]; exact hK _ _ (Below.refl _ _) rfl)
                | (rw [dif_pos (by omega)]; exact hK _ _ (Below.refl _ _) rfl)
                | (rw [if_neg (by omega)]; exact hK _ _ (Below.refl _ _) rfl)
            · intro vals W K hR hV hK
              have d8 := hV 8 (by simp)
              simp only [twV] at d8
              simp only [Reg.putS, List.foldl, List.headD, List.tail, List.getD_cons_zero, List.getD_cons_succ, Act.put, List.setIfInBounds_toArray, List.set_cons_zero, List.set_cons_succ, d8] at hK ⊢
              go_simp
              first
                | exact hK _ _ (Below.refl _ _) rfl
                | (rw [if_pos (by omega)]; exact hK _ _ (Below.refl _ _) rfl)
                | (rw [dif_pos (by omega)]; exact hK _ _ (Below.refl _ _) rfl)
                | (rw [if_neg (by omega)]; exact hK _ _ (Below.refl _ _) rfl)
            · intro vals W K hR hV hK
              have d8 := hV 8 (by simp)
              simp only [twV] at d8
              have d9 := hV 9 (by simp)
              simp only [twV] at d9
              have d10 := hV 10 (by simp)
              simp only [twV] at d10
              simp only [Reg.putS, List.foldl, List.headD, List.tail, List.getD_cons_zero, List.getD_cons_succ, Act.put, List.setIfInBounds_toArray, List.set_cons_zero, List.set_cons_succ, d8, d9, d10] at hK ⊢
              have htW := htx.below (below_undrew hR)
              go_simp
              refine (depth_in htW (by omega) hNXh.out x hxl hxd.out).mono ?_
              rintro e w2 ⟨rfl, hb⟩
              exact hK _ _ hb rfl
            · intro vals W K hR hV hK
              have d8 := hV 8 (by simp)
              simp only [twV] at d8
              simp only [Reg.putS, List.foldl, List.headD, List.tail, List.getD_cons_zero, List.getD_cons_succ, Act.put, List.setIfInBounds_toArray, List.set_cons_zero, List.set_cons_succ, d8] at hK ⊢
              go_simp
              first
                | exact hK _ _ (Below.refl _ _) rfl
                | (rw [if_pos (by omega)]; exact hK _ _ (Below.refl _ _) rfl)
                | (rw [dif_pos (by omega)]; exact hK _ _ (Below.refl _ _) rfl)
                | (rw [if_neg (by omega)]; exact hK _ _ (Below.refl _ _) rfl)
            · intro vals W K hR hV hK
              have d8 := hV 8 (by simp)
              simp only [twV] at d8
              have d12 := hV 12 (by simp)
              simp only [twV] at d12
              simp only [Reg.putS, List.foldl, List.headD, List.tail, List.getD_cons_zero, List.getD_cons_succ, Act.put, List.setIfInBounds_toArray, List.set_cons_zero, List.set_cons_succ, d8, d12] at hK ⊢
              go_simp
              first
                | exact hK _ _ (Below.refl _ _) rfl
                | (rw [if_pos (by omega)]; exact hK _ _ (Below.refl _ _) rfl)
                | (rw [dif_pos (by omega)]; exact hK _ _ (Below.refl _ _) rfl)
                | (rw [if_neg (by omega)]; exact hK _ _ (Below.refl _ _) rfl)
            · intro vals W K hR hV hK
              have d8 := hV 8 (by simp)
              simp only [twV] at d8
              have d11 := hV 11 (by simp)
              simp only [twV] at d11
              have d13 := hV 13 (by simp)
              simp only [twV] at d13
              simp only [Reg.putS, List.foldl, List.headD, List.tail, List.getD_cons_zero, List.getD_cons_succ, Act.put, List.setIfInBounds_toArray, List.set_cons_zero, List.set_cons_succ, d8, d11, d13] at hK ⊢
              go_simp
              first
                | exact hK _ _ (Below.refl _ _) rfl
                | (rw [if_pos (by omega)]; exact hK _ _ (Below.refl _ _) rfl)
                | (rw [dif_pos (by omega)]; exact hK _ _ (Below.refl _ _) rfl)
                | (rw [if_neg (by omega)]; exact hK _ _ (Below.refl _ _) rfl)
            · intro vals W K hR hV hK
              have d8 := hV 8 (by simp)
              simp only [twV] at d8
              have d14 := hV 14 (by simp)
              simp only [twV] at d14
              simp only [Reg.putS, List.foldl, List.headD, List.tail, List.getD_cons_zero, List.getD_cons_succ, Act.put, List.setIfInBounds_toArray, List.set_cons_zero, List.set_cons_succ, d8, d14] at hK ⊢
              go_simp
              first
                | exact hK _ _ (Below.refl _ _) rfl
                | (rw [if_pos (by omega)]; exact hK _ _ (Below.refl _ _) rfl)
                | (rw [dif_pos (by omega)]; exact hK _ _ (Below.refl _ _) rfl)
                | (rw [if_neg (by omega)]; exact hK _ _ (Below.refl _ _) rfl)
          · intro vals W hR hV
            rw [show List.range (List.length [some 66, some 67, some 68, some 69, some 70, some 71, some 72, some 73, some 74, some 75, some 76, some 77, some 78, some 79, some 80, some 81]) = [0, 1, 2, 3, 4, 5, 6, 7, 8, 9, 10, 11, 12, 13, 14, 15] from rfl]
            have d0 := hV 0 (by decide)
            simp only [twV] at d0
            have d1 := hV 1 (by decide)
            simp only [twV] at d1
            have d2 := hV 2 (by decide)
            simp only [twV] at d2
            have d3 := hV 3 (by decide)
            simp only [twV] at d3
            have d4 := hV 4 (by decide)
            simp only [twV] at d4
            have d5 := hV 5 (by decide)
            simp only [twV] at d5
            have d6 := hV 6 (by decide)
            simp only [twV] at d6
            have d7 := hV 7 (by decide)
            simp only [twV] at d7
            have d8 := hV 8 (by decide)
            simp only [twV] at d8
            have d9 := hV 9 (by decide)
            simp only [twV] at d9
            have d10 := hV 10 (by decide)
            simp only [twV] at d10
            have d11 := hV 11 (by decide)
            simp only [twV] at d11
            have d12 := hV 12 (by decide)
            simp only [twV] at d12
            have d13 := hV 13 (by decide)
            simp only [twV] at d13
            have d14 := hV 14 (by decide)
            simp only [twV] at d14
            have d15 := hV 15 (by decide)
            simp only [twV] at d15
            clear hV
            simp only [Reg.putS, List.foldl, List.getD_cons_zero, List.getD_cons_succ, Act.put, List.setIfInBounds_toArray, List.set_cons_zero, List.set_cons_succ, d0, d1, d2, d3, d4, d5, d6, d7, d8, d9, d10, d11, d12, d13, d14, d15]
            clear d0 d1 d2 d3 d4 d5 d6 d7 d8 d9 d10 d11 d12 d13 d14 d15
            have hWb : Below w6.heap.size w6 W := below_undrew hR
            have htW := htx.below hWb
            have hsW := hsx.below hWb
            have bW := belx.trans (hWb.mono belx.size)
            clear hR hWb htx hsx belx hxt hxd
            go_wp2_with fail
            go_roundw
            case rel => exact ⟨i + 1, x, by omega, by go_num, rfl, hway, bW, htW, hsW⟩
            case measure => first | (simp [intOf]; done) | (simp [intOf]; omega)
        · have his : i = s.size := by omega
          have hid : decide ((i : Int) < (s.size : Int)) = false := decide_eq_false (by omega)
          have hwf : way X s s.size = some a := by rw [← his]; exact hw.out
          have hfi := hfinds.out s a hwf
          have cW := word_in htx (by omega) hNXh.out a hal
          generalize hwd : (X.getD a noPn).word = wd at cW hfi
          rcases Nat.lt_or_ge k n with hkn | hkn
          · have hwk : wd = (k : Int) := find_one hdist.out hfi (.inr ⟨k, by rw [← hnh.out]; exact hkn, rfl, hsl.out hkn⟩)
            subst hwk
            have hkd : decide ((k : Int) < (n : Int)) = true := decide_eq_true (by omega)
            have hke : ((k : Int) == (n : Int)) = false := by simp; omega
            clear hfi hwf hw his hatx hsl hsb hwd
            go_wp2_with fail
            refine cW.mono ?_
            rintro e w6 ⟨rfl, b6⟩
            have bel6 := bstep belx b6
            have t6 := htx.below b6
            have s6 := hsx.below b6
            clear cW b6 belx htx hsx
            go_wp2_with fail
            go_roundw
            case rel => exact ⟨k + 1, by omega, by go_num, bel6, t6, s6⟩
            case measure => first | (simp [intOf]; done) | (simp [intOf]; omega)
          · have hkn2 : k = n := by omega
            subst hkn2
            have hbs := hsb.out rfl
            clear hwf hw his hatx hsl hsb hwd
            go_wp2_with fail
            refine cW.mono ?_
            rintro e w6 ⟨rfl, b6⟩
            have bel6 := bstep belx b6
            have t6 := htx.below b6
            have s6 := hsx.below b6
            have cF := find_any (some ad) k cap zs s w6 hnh.out (hat.below bel6) (by omega)
            have hfih : Hid (FindIs zs s wd) := hfi
            clear cW b6 belx htx hsx hfi hbs
            go_wp2_with fail
            refine cF.mono ?_
            rintro e w7 ⟨⟨r, rfl, hr⟩, hw7⟩
            rw [hw7]
            have hrw : r = wd := find_one hdist.out hr hfih.out
            subst hrw
            clear cF hr hw7 hfih
            go_wp2_with fail
            go_roundw
            case rel => exact ⟨k + 1, by omega, by go_num, bel6, t6, s6⟩
            case measure => first | (simp [intOf]; done) | (simp [intOf]; omega)
    · have hkn : k = n + 1 := by omega
      clear hat
      subst hkn
      go_wp2_with fail
      go_ret
      exact ⟨rfl, belr⟩
end Go.Proofs.Ytdmmalkppfmkpaa.TwW
