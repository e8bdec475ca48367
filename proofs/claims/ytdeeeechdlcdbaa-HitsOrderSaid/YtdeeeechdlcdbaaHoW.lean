/- The walk of HitsOrder. -/
import Derived.Test.YtdeeeechdlcdbaaHnW
import Derived.Test.YtdeeeechdlcdbaaHoA
import Derived.Test.YtdeeeechdlcdbaaStep
import Derived.Test.YtdeeeechdlcdbaaRegQ
import Derived.IntWalk
import Derived.Deep.QuietTactic
import Derived.BigQuiet
set_option linter.unusedVariables false
set_option linter.unusedSimpArgs false
namespace Go.Proofs.Ytdeeeechdlcdbaa.HoW
open Go Go.RowKit Go.Sort Go.Lib Go.Proofs Go.Proofs.Ytdeeeechdlcdbaa Go.Proofs.Ytdeeeechdlcdbaa.Base Go.Proofs.Ytdeeeechdlcdbaa.DiA Go.Proofs.Ytdeeeechdlcdbaa.DiB Go.Proofs.Ytdeeeechdlcdbaa.DiD Go.Proofs.Ytdeeeechdlcdbaa.TcP Go.Proofs.Ytdeeeechdlcdbaa.LkM Go.Proofs.Ytdeeeechdlcdbaa.LkN Go.Proofs.Ytdeeeechdlcdbaa.LkS Go.Proofs.Ytdeeeechdlcdbaa.PhP Go.Proofs.Ytdeeeechdlcdbaa.PhW Go.Proofs.Ytdeeeechdlcdbaa.ScP Go.Proofs.Ytdeeeechdlcdbaa.ScF Go.Proofs.Ytdeeeechdlcdbaa.ScE Go.Proofs.Ytdeeeechdlcdbaa.ScX Go.Proofs.Ytdeeeechdlcdbaa.ScA Go.Proofs.Ytdeeeechdlcdbaa.ScN Go.Proofs.Ytdeeeechdlcdbaa.RwA Go.Proofs.Ytdeeeechdlcdbaa.HiP Go.Proofs.Ytdeeeechdlcdbaa.HiQ Go.Proofs.Ytdeeeechdlcdbaa.HiA Go.Proofs.Ytdeeeechdlcdbaa.HiB Go.Proofs.Ytdeeeechdlcdbaa.HiW Go.Proofs.Ytdeeeechdlcdbaa.HiL Go.Proofs.Ytdeeeechdlcdbaa.HiM Go.Proofs.Ytdeeeechdlcdbaa.HiV Go.Proofs.Ytdeeeechdlcdbaa.HnW Go.Proofs.Ytdeeeechdlcdbaa.HoA
theorem szk_le {zs : List ByteArray} (h : okD zs = true) (k : Nat) : szk zs k ≤ 1000 := by
  rcases Nat.lt_or_ge k zs.length with hk | hk
  · have := (okD_at h hk).2.1
    unfold szk; omega
  · rw [szk_none hk]; omega
def oV (w9 : World) (V : Option Addr) (nH cp r : Nat) (H : List (Nat × Nat)) (i : Nat) (pv v : Value) (W : World) : Prop := match i with
  | 0 => v = .slice V nH cp
  | 1 => v = .int .i64 (r : Int)
  | 2 => ∃ A c, v = .slice A (nH - r) c ∧ HAt w9 A (H.drop r)
  | 3 => W.ownsRow w9.heap.size 35 2 v (nH - r) (hitC (H.drop r))
  | 4 => v = .slice V nH cp
  | 5 => v = .int .i64 (r : Int)
  | 6 => ∃ A c, v = .slice A r c ∧ HAt w9 A (H.take r)
  | 7 => W.ownsRow w9.heap.size 35 2 v (nH) (hitC (H.drop r ++ H.take r))
  | 8 => v = .slice V nH cp
  | 9 => W.ownsRow w9.heap.size 35 2 v (nH + nH) (hitC (H.drop r ++ H.take r ++ H))
  | 10 => v = pv
  | _ => True
def oR (w9 : World) (nH r : Nat) (i : Nat) (W W' : World) : Prop := match i with
  | 7 => Below w9.heap.size W W' ∧ ∀ (u : Value) (k : Nat) (zs : List Value), k ≤ nH - r → W.ownsRow w9.heap.size 35 2 u k zs → W'.ownsRow w9.heap.size 35 2 u k zs
  | 9 => Below w9.heap.size W W' ∧ ∀ (u : Value) (k : Nat) (zs : List Value), k ≤ nH → W.ownsRow w9.heap.size 35 2 u k zs → W'.ownsRow w9.heap.size 35 2 u k zs
  | _ => Below W.heap.size W W'
theorem oR_cases {w9 : World} {nH r i : Nat} {W W' : World} (h : oR w9 nH r i W W') : (i = 7 ∧ Below w9.heap.size W W' ∧ ∀ (u : Value) (k : Nat) (zs : List Value), k ≤ nH - r → W.ownsRow w9.heap.size 35 2 u k zs → W'.ownsRow w9.heap.size 35 2 u k zs) ∨ (i = 9 ∧ Below w9.heap.size W W' ∧ ∀ (u : Value) (k : Nat) (zs : List Value), k ≤ nH → W.ownsRow w9.heap.size 35 2 u k zs → W'.ownsRow w9.heap.size 35 2 u k zs) ∨ (i ≠ 7 ∧ i ≠ 9 ∧ Below W.heap.size W W') := by
  unfold oR at h
  split at h
  · exact .inl ⟨rfl, h⟩
  · exact .inr (.inl ⟨rfl, h⟩)
  · rename_i h7 h9; exact .inr (.inr ⟨h7, h9, h⟩)
theorem oG_stay {w9 : World} {nH r i : Nat} {W W' : World} (h : Below w9.heap.size w9 W) (k : oR w9 nH r i W W') : Below w9.heap.size w9 W' := by
  rcases oR_cases k with ⟨_, g, _⟩ | ⟨_, g, _⟩ | ⟨_, _, g⟩
  · exact h.trans g
  · exact h.trans g
  · exact h.trans (g.mono h.size)
def pr : Nat → Nat
  | 10 => 9
  | i => i
theorem pr0 : pr 0 = 0 := rfl
theorem pr1 : pr 1 = 1 := rfl
theorem pr2 : pr 2 = 2 := rfl
theorem pr3 : pr 3 = 3 := rfl
theorem pr4 : pr 4 = 4 := rfl
theorem pr5 : pr 5 = 5 := rfl
theorem pr6 : pr 6 = 6 := rfl
theorem pr7 : pr 7 = 7 := rfl
theorem pr8 : pr 8 = 8 := rfl
theorem pr9 : pr 9 = 9 := rfl
theorem pr10 : pr 10 = 9 := rfl
theorem ne910 : ((9 : Nat) = 10) = False := by simp
def oD : List (List Nat) := [[], [], [0, 1], [2], [], [], [4, 5], [3, 6, 3], [], [7, 8, 7], [9, 9, 0, 1, 2, 3, 4, 5, 6, 7, 8, 9]]
theorem pr_ok (i : Nat) : pr i = i ∨ pr i ∈ oD.getD i [] := by
  by_cases h : i = 10
  · subst h; exact .inr (by decide)
  · left; unfold pr; split
    · exact absurd rfl h
    · rfl
theorem oV_stay {w9 : World} {V : Option Addr} {nH cp r i j : Nat} {H : List (Nat × Nat)} {p v : Value} {W W' : World} (hr : r ≤ nH) (h1 : i ≠ j) (h2 : i ∉ oD.getD j []) (h : oV w9 V nH cp r H j p v W) (k : oR w9 nH r i W W') : oV w9 V nH cp r H j p v W' := by
  unfold oV at h ⊢
  split at h
  case h_4 =>
    rcases oR_cases k with ⟨_, _, g⟩ | ⟨_, _, g⟩ | ⟨_, _, g⟩
    · exact g _ _ _ (Nat.le_refl _) h
    · exact g _ _ _ (Nat.sub_le _ _) h
    · exact own_below h g
  case h_8 =>
    rcases oR_cases k with ⟨e, _⟩ | ⟨_, _, g⟩ | ⟨_, _, g⟩
    · exact absurd e h1
    · exact g _ _ _ (Nat.le_refl _) h
    · exact own_below h g
  case h_10 =>
    rcases oR_cases k with ⟨e, _⟩ | ⟨e, _⟩ | ⟨_, _, g⟩
    · subst e; exact absurd (by decide) h2
    · exact absurd e h1
    · exact own_below h g
  all_goals first | exact h | trivial
def qV (g1 g2 bn iq m ca cb : Nat) (VA VB : Option Addr) (i : Nat) (pv v : Value) (W : World) : Prop := match i with
  | 0 => v = .slice (some ⟨g1, 0, none⟩) bn bn
  | 1 => v = .int .i64 (iq : Int)
  | 2 => v = .pointer (some ⟨g1, iq, none⟩)
  | 3 => v = .slice VA m ca
  | 4 => v = .slice (some ⟨g2, 0, none⟩) bn bn
  | 5 => v = .int .i64 (iq : Int)
  | 6 => v = .pointer (some ⟨g2, iq, none⟩)
  | 7 => v = .slice VB m cb
  | 8 => v = .bool true
  | 9 => v = .bool false
  | _ => True
theorem fold_row {sz : Nat → Nat} {N n : Nat} : ∀ (H : List (Int × Int)) (L : List (List Nat)) (b : Nat), (∀ i, (L.getD i []).length ≤ b) → ∀ i, ((H.foldl (addHit sz N n) L).getD i []).length ≤ b + H.length
  | [], L, b, h, i => h i
  | x :: H, L, b, h, i => by
    have := fold_row (sz := sz) (N := N) (n := n) H (addHit sz N n L x) (b + 1) (add_len x L b h) i
    simp only [List.foldl_cons, List.length_cons]
    omega
theorem starts_row_len {sz : Nat → Nat} {N n : Nat} (H : List (Int × Int)) (i : Nat) : ((startsL sz N n H).getD i []).length ≤ H.length := by
  rw [startsL_at, (rowS_perm _).length_eq]
  have := fold_row (sz := sz) (N := N) (n := n) H (List.replicate n []) 0 (fun i => by rw [List.getD_eq_getElem?_getD, List.getElem?_replicate]; split <;> simp) i
  unfold startsF
  omega
theorem eH (b : ByteArray) (zs : List ByteArray) : feedU zs [] 0 b.data.toList b.size = hitsL zs b.data.toList := by unfold hitsL; rw [← size_list]
set_option maxHeartbeats 400000 in
theorem law_few (A : Option Addr) (n cap : Nat) (b : ByteArray) (k0 : Int) (w : World) (hf : Calls Try.prog 23 #[.slice A n cap] w fun e w' => e = .returned (.bool false) ∧ w' = w) :
    Calls Try.prog 22 #[.slice A n cap, .string b, .int .i64 k0] w fun e w' => e = .returned (.bool true) ∧ Below w.heap.size w w' := by
  go_enter Try.func22, Try.ntmps22
  go_wp2_with fail
  refine hf.mono ?_
  rintro e w1 ⟨rfl, hw⟩
  rw [hw]
  clear hf hw
  go_wp2_with fail
  refine (HiV.alive_call _).mono ?_
  rintro e w2 ⟨rfl, b2⟩
  go_wp2_with fail
  go_ret
  exact ⟨rfl, b2⟩
set_option maxHeartbeats 400000 in
theorem law_out0 (A : Option Addr) (n cap : Nat) (b : ByteArray) (k0 : Int) (w : World) (hf : Calls Try.prog 23 #[.slice A n cap] w fun e w' => e = .returned (.bool true) ∧ w' = w) (hd0 : decide ((b.size : Int) > 120) = true) :
    Calls Try.prog 22 #[.slice A n cap, .string b, .int .i64 k0] w fun e w' => e = .returned (.bool true) ∧ Below w.heap.size w w' := by
  go_enter Try.func22, Try.ntmps22
  go_wp2_with fail
  refine hf.mono ?_
  rintro e w1 ⟨rfl, hw⟩
  rw [hw]
  clear hf hw
  go_wp2_with fail
  refine (HiV.alive_call _).mono ?_
  rintro e w2 ⟨rfl, b2⟩
  go_wp2_with fail
  go_ret
  exact ⟨rfl, b2⟩
set_option maxRecDepth 20000 in
set_option maxHeartbeats 8000000 in
theorem law_in (A : Option Addr) (n cap : Nat) (zs : List ByteArray) (b : ByteArray) (k0 : Int) (w : World) (hf : Calls Try.prog 23 #[.slice A n cap] w fun e w' => e = .returned (.bool true) ∧ w' = w)
    (hn : n = zs.length) (hat : StrsAt w A zs) (hn1 : n ≤ 110) (htot : total zs ≤ 1300) (hd0 : decide ((b.size : Int) > 120) = false) :
    Calls Try.prog 22 #[.slice A n cap, .string b, .int .i64 k0] w fun e w' => e = .returned (.bool true) ∧ Below w.heap.size w w' := by
  have hnh : Hid (n = zs.length) := hn
  clear hn
  go_enter Try.func22, Try.ntmps22
  go_wp2_with fail
  refine hf.mono ?_
  rintro e w1 ⟨rfl, hw⟩
  rw [hw]
  clear hf hw w1
  go_wp2_with fail
  refine (HiV.alive_call _).mono ?_
  rintro e w1 ⟨rfl, bel⟩
  have hat1 := hat.below bel
  go_wp2_with fail
  refine (make_any A n cap zs w1 hnh.out hat1 (by omega)).mono ?_
  rintro e w2 ⟨b2, ⟨hok, rfl⟩ | ⟨hok, p, rfl, _, hdict⟩⟩
  · have belF := bstep bel b2
    clear hat hat1 hok
    go_wp2_with fail
    go_ret
    exact ⟨rfl, belF⟩
  replace bel := bstep bel b2
  have hat2 := hat1.below b2
  have hD : Hid (DV w1.heap.size w2 (.pointer (some ⟨p, 0, none⟩)) zs) := Lib.hid (.inr ⟨p, rfl, hdict⟩)
  have hokh : Hid (okD zs = true) := hok
  have hp : Hid (∀ k, k < zs.length → 1 ≤ szk zs k) := szk_pos hok
  have hs : Hid (∀ k, szk zs k ≤ 1000) := szk_le hok
  have hz : Hid (zs.length ≤ 1000) := Nat.le_trans (okD_len hok) (by decide)
  clear hat hat1 hok b2 hdict
  obtain ⟨bn, hbn⟩ : ∃ bn, b.size = bn := ⟨_, rfl⟩
  have hbnh : Hid (b.size = bn) := hbn
  have hb2 : b.size ≤ 120 := by have := of_decide_eq_false hd0; omega
  have hbl : Hid (bn = b.data.toList.length) := by show _ = _; rw [← hbn]; exact size_list b
  clear hd0
  go_wp2_with fail
  refine (LkX.lmake_any A n cap zs w2 hnh.out hat2 (by omega)).mono ?_
  rintro e w3 ⟨b3, ⟨hno, _⟩ | ⟨_, lp, B, px, m, N, F, O, L, rfl, hl⟩⟩
  · rw [hokh.out] at hno; cases hno
  have hlx : Hid (Lx w3 lp zs (TrP.build zs zs.length)) := by
    refine ⟨⟨B, px, m, N, F, O, L, hl.at_, hl.eq, hl.ok, ?_⟩, tr_build hokh.out⟩
    have := hl.len; omega
  have cA := all_any hlx.out (Below.refl _ w3) b (by omega)
  rw [eH b zs] at cA
  replace bel := bstep bel b3
  have hD3 : Hid (DV w1.heap.size w3 (.pointer (some ⟨p, 0, none⟩)) zs) := hD.out.below b3
  have hlen : (hitsL zs b.data.toList).length ≤ 4800 := by
    have := feedU_len (tr_build hokh.out) [] 0 b.data.toList b.size
    rw [eH] at this; omega
  have hmem : Hid (∀ x, x ∈ hitsL zs b.data.toList ↔ x ∈ hitsL zs b.data.toList) := fun _ => Iff.rfl
  obtain ⟨H, hH⟩ : ∃ H, hitsL zs b.data.toList = H := ⟨_, rfl⟩
  replace hmem : Hid (∀ x, x ∈ H ↔ x ∈ hitsL zs b.data.toList) := fun x => by rw [hH]
  rw [hH] at cA hlen
  obtain ⟨nH, hnH⟩ : ∃ nH, H.length = nH := ⟨_, rfl⟩
  rw [hnH] at cA hlen
  have hnHh : Hid (nH = H.length) := hnH.symm
  clear hH hnH hl b3 hD hat2
  go_wp2_with fail
  refine cA.mono ?_
  rintro e w4 ⟨v4, rfl, hr4, b4⟩
  obtain ⟨V, cp, rfl, hcp⟩ := own_cap hr4
  obtain ⟨V', cp', ev, hat4⟩ := row_hits hr4 hnHh.out
  injection ev with ev ev2 ev3
  rw [← ev] at hat4
  clear ev ev2 ev3 hr4 cA
  replace bel := bstep bel b4
  have hD4 : Hid (DV w1.heap.size w4 (.pointer (some ⟨p, 0, none⟩)) zs) := hD3.out.below b4
  obtain ⟨r, er, hr, ht1, ht2⟩ := turn_ex k0 nH
  have zw1 : IntKind.i64.wrap ((nH : Int) + 1) = (nH : Int) + 1 := by rw [IntKind.wrap_i64]; omega
  have zw2 : IntKind.i64.wrap (k0.tmod ((nH : Int) + 1) + (nH : Int)) = k0.tmod ((nH : Int) + 1) + (nH : Int) := by rw [IntKind.wrap_i64]; omega
  have zw3 : IntKind.i64.wrap (k0.tmod ((nH : Int) + 1) + (nH : Int) + 1) = k0.tmod ((nH : Int) + 1) + (nH : Int) + 1 := by rw [IntKind.wrap_i64]; omega
  have zne : (nH : Int) + 1 ≠ 0 := by omega
  clear b4 hD3
  go_wp2_with fail
  refine RegU.wp_region_lists (fun W => Below w4.heap.size w4 W) (fun _ _ => True) (oR w4 nH r) pr (oV w4 V nH cp r H)
    [some 48, some 49, some 50, some 51, some 52, some 53, some 54, some 55, some 56, some 57, some 10]
    [[], [], [0, 1], [2], [], [], [4, 5], [3, 6, 3], [], [7, 8, 7], [9, 9, 0, 1, 2, 3, 4, 5, 6, 7, 8, 9]]
    (by kernel_rfl) (by kernel_rfl) (by kernel_rfl) pr_ok ?_ ?_ ?_ ?_ ?_ ?_ ?_
  · exact below_drew (Below.refl _ _)
  · intro i; trivial
  · intro i W W' h k2; exact oG_stay h k2
  · intro j i W W' _ _ _ _; trivial
  · intro j i p v W W' h1 h2 h3 h4
    exact oV_stay hr h1 h2 h3 h4
  · refine ⟨?_, ?_, ?_, ?_, ?_, ?_, ?_, ?_, ?_, ?_, ?_, trivial⟩
    · intro vals W K hG hU hV hK
      simp only [pr0, pr1, pr2, pr3, pr4, pr5, pr6, pr7, pr8, pr9, pr10, ne910, if_true, if_false] at hK
      simp only [Reg.putS, List.foldl, List.headD, List.tail, List.getD_cons_zero, List.getD_cons_succ, Act.put, List.setIfInBounds_toArray, List.set_cons_zero, List.set_cons_succ] at hK ⊢
      go_simp
      first
        | exact hK _ _ (Below.refl _ _) rfl
        | (rw [if_pos (by omega)]; exact hK _ _ (Below.refl _ _) rfl)
        | (rw [dif_pos (by omega)]; exact hK _ _ (Below.refl _ _) rfl)
        | (rw [if_neg (by omega)]; exact hK _ _ (Below.refl _ _) rfl)
    · intro vals W K hG hU hV hK
      simp only [pr0, pr1, pr2, pr3, pr4, pr5, pr6, pr7, pr8, pr9, pr10, ne910, if_true, if_false] at hK
      simp only [Reg.putS, List.foldl, List.headD, List.tail, List.getD_cons_zero, List.getD_cons_succ, Act.put, List.setIfInBounds_toArray, List.set_cons_zero, List.set_cons_succ] at hK ⊢
      go_simp
      first
        | exact hK _ _ (Below.refl _ _) rfl
        | (rw [if_pos (by omega)]; exact hK _ _ (Below.refl _ _) rfl)
        | (rw [dif_pos (by omega)]; exact hK _ _ (Below.refl _ _) rfl)
        | (rw [if_neg (by omega)]; exact hK _ _ (Below.refl _ _) rfl)
    · refine Step.step_of ?g ?_
      case g => rfl
      intro A vals W K hA hG hU hV hK
      simp only [pr0, pr1, pr2, pr3, pr4, pr5, pr6, pr7, pr8, pr9, pr10, ne910, if_true, if_false] at hK
      have d0 := hV 0 (by simp)
      simp only [oV] at d0
      have d1 := hV 1 (by simp)
      simp only [oV] at d1
      refine wpo_from (.tmp 48) (.tmp 49) rfl ((Step.putE hA rfl (Nat.lt_of_sub_eq_succ rfl)).trans d0) ((Step.putE hA rfl (Nat.lt_of_sub_eq_succ rfl)).trans d1) hat4 hnHh.out hr hcp ?_
      intro A2 c2 h2
      exact hK _ _ (Below.refl _ _) ⟨_, _, rfl, h2⟩
    · refine Step.step_of ?g ?_
      case g => rfl
      intro A vals W K hA hG hU hV hK
      simp only [pr0, pr1, pr2, pr3, pr4, pr5, pr6, pr7, pr8, pr9, pr10, ne910, if_true, if_false] at hK
      have d2 := hV 2 (by simp)
      simp only [oV] at d2
      obtain ⟨A2, c2, d2, h2⟩ := d2
      refine wpo_keep (.const (.slice none 0 0)) (.tmp 50) rfl w4.heap.size 0 (.slice none 0 0) [] rfl (World.ownsRow_nil _ _ _ _) rfl A2 (nH - r) c2 (H.drop r) ((Step.putE hA rfl (Nat.lt_of_sub_eq_succ rfl)).trans d2) (h2.below hG) (by rw [List.length_drop, hnHh.out]) (by omega) hG.size ?_
      intro v' w' k1 k2 _
      rw [Nat.zero_add] at k1
      exact hK _ _ ((Below.refl _ _).grown k2 (Nat.le_refl _) (fun k hk => by cases hk)) k1
    · intro vals W K hG hU hV hK
      simp only [pr0, pr1, pr2, pr3, pr4, pr5, pr6, pr7, pr8, pr9, pr10, ne910, if_true, if_false] at hK
      simp only [Reg.putS, List.foldl, List.headD, List.tail, List.getD_cons_zero, List.getD_cons_succ, Act.put, List.setIfInBounds_toArray, List.set_cons_zero, List.set_cons_succ] at hK ⊢
      go_simp
      first
        | exact hK _ _ (Below.refl _ _) rfl
        | (rw [if_pos (by omega)]; exact hK _ _ (Below.refl _ _) rfl)
        | (rw [dif_pos (by omega)]; exact hK _ _ (Below.refl _ _) rfl)
        | (rw [if_neg (by omega)]; exact hK _ _ (Below.refl _ _) rfl)
    · intro vals W K hG hU hV hK
      simp only [pr0, pr1, pr2, pr3, pr4, pr5, pr6, pr7, pr8, pr9, pr10, ne910, if_true, if_false] at hK
      simp only [Reg.putS, List.foldl, List.headD, List.tail, List.getD_cons_zero, List.getD_cons_succ, Act.put, List.setIfInBounds_toArray, List.set_cons_zero, List.set_cons_succ] at hK ⊢
      go_simp
      first
        | exact hK _ _ (Below.refl _ _) rfl
        | (rw [if_pos (by omega)]; exact hK _ _ (Below.refl _ _) rfl)
        | (rw [dif_pos (by omega)]; exact hK _ _ (Below.refl _ _) rfl)
        | (rw [if_neg (by omega)]; exact hK _ _ (Below.refl _ _) rfl)
    · refine Step.step_of ?g ?_
      case g => rfl
      intro A vals W K hA hG hU hV hK
      simp only [pr0, pr1, pr2, pr3, pr4, pr5, pr6, pr7, pr8, pr9, pr10, ne910, if_true, if_false] at hK
      have d4 := hV 4 (by simp)
      simp only [oV] at d4
      have d5 := hV 5 (by simp)
      simp only [oV] at d5
      refine wpo_upto (.tmp 52) (.tmp 53) rfl ((Step.putE hA rfl (Nat.lt_of_sub_eq_succ rfl)).trans d4) ((Step.putE hA rfl (Nat.lt_of_sub_eq_succ rfl)).trans d5) hat4 hnHh.out hr hcp ?_
      intro A2 c2 h2
      exact hK _ _ (Below.refl _ _) ⟨_, _, rfl, h2⟩
    · refine Step.step_of ?g ?_
      case g => rfl
      intro A vals W K hA hG hU hV hK
      simp only [pr0, pr1, pr2, pr3, pr4, pr5, pr6, pr7, pr8, pr9, pr10, ne910, if_true, if_false] at hK
      have d3 := hV 3 (by simp)
      simp only [oV] at d3
      obtain d3 := d3
      have d6 := hV 6 (by simp)
      simp only [oV] at d6
      obtain ⟨A6, c6, d6, h6⟩ := d6
      refine wpo_keep (.tmp 51) (.tmp 54) rfl w4.heap.size (nH - r) (vals 3) (H.drop r) (Step.putE hA rfl (Nat.lt_of_sub_eq_succ rfl)) d3 (by rw [List.length_drop, hnHh.out]) A6 r c6 (H.take r) ((Step.putE hA rfl (Nat.lt_of_sub_eq_succ rfl)).trans d6) (h6.below hG) (by rw [List.length_take]; have := hnHh.out; omega) (by omega) hG.size ?_
      intro v' w' k1 k2 k3
      rw [Nat.sub_add_cancel hr] at k1
      exact hK _ _ ⟨(Below.refl _ _).grown k2 hG.size (own_ge d3), k3⟩ k1
    · intro vals W K hG hU hV hK
      simp only [pr0, pr1, pr2, pr3, pr4, pr5, pr6, pr7, pr8, pr9, pr10, ne910, if_true, if_false] at hK
      simp only [Reg.putS, List.foldl, List.headD, List.tail, List.getD_cons_zero, List.getD_cons_succ, Act.put, List.setIfInBounds_toArray, List.set_cons_zero, List.set_cons_succ] at hK ⊢
      go_simp
      first
        | exact hK _ _ (Below.refl _ _) rfl
        | (rw [if_pos (by omega)]; exact hK _ _ (Below.refl _ _) rfl)
        | (rw [dif_pos (by omega)]; exact hK _ _ (Below.refl _ _) rfl)
        | (rw [if_neg (by omega)]; exact hK _ _ (Below.refl _ _) rfl)
    · refine Step.step_of ?g ?_
      case g => rfl
      intro A vals W K hA hG hU hV hK
      simp only [pr0, pr1, pr2, pr3, pr4, pr5, pr6, pr7, pr8, pr9, pr10, ne910, if_true, if_false] at hK
      have d7 := hV 7 (by simp)
      simp only [oV] at d7
      obtain d7 := d7
      have d8 := hV 8 (by simp)
      simp only [oV] at d8
      refine wpo_keep (.tmp 55) (.tmp 56) rfl w4.heap.size nH (vals 7) (H.drop r ++ H.take r) (Step.putE hA rfl (Nat.lt_of_sub_eq_succ rfl)) d7 (by rw [List.length_append, List.length_drop, List.length_take]; have := hnHh.out; omega) V nH cp H ((Step.putE hA rfl (Nat.lt_of_sub_eq_succ rfl)).trans d8) (hat4.below hG) hnHh.out (by omega) hG.size ?_
      intro v' w' k1 k2 k3
      exact hK _ _ ⟨(Below.refl _ _).grown k2 hG.size (own_ge d7), k3⟩ k1
    · intro vals W K hG hU hV hK
      simp only [pr0, pr1, pr2, pr3, pr4, pr5, pr6, pr7, pr8, pr9, pr10, ne910, if_true, if_false] at hK
      have d0 := hV 0 (by simp)
      simp only [oV] at d0
      have d1 := hV 1 (by simp)
      simp only [oV] at d1
      have d4 := hV 4 (by simp)
      simp only [oV] at d4
      have d5 := hV 5 (by simp)
      simp only [oV] at d5
      have d8 := hV 8 (by simp)
      simp only [oV] at d8
      simp only [Reg.putS, List.foldl, List.headD, List.tail, List.getD_cons_zero, List.getD_cons_succ, Act.put, List.setIfInBounds_toArray, List.set_cons_zero, List.set_cons_succ, d0, d1, d4, d5, d8] at hK ⊢
      go_simp
      exact hK _ _ (Below.refl _ _) rfl
  · intro vals W hG hV
    rw [show List.range (List.length [some 48, some 49, some 50, some 51, some 52, some 53, some 54, some 55, some 56, some 57, some 10]) = [0, 1, 2, 3, 4, 5, 6, 7, 8, 9, 10] from rfl]
    have d0 := hV 0 (by decide)
    simp only [oV] at d0
    have d1 := hV 1 (by decide)
    simp only [oV] at d1
    have d2 := hV 2 (by decide)
    simp only [oV] at d2
    obtain ⟨A2, c2, d2, h2⟩ := d2
    have d3 := hV 3 (by decide)
    simp only [oV] at d3
    obtain d3 := d3
    have d4 := hV 4 (by decide)
    simp only [oV] at d4
    have d5 := hV 5 (by decide)
    simp only [oV] at d5
    have d6 := hV 6 (by decide)
    simp only [oV] at d6
    obtain ⟨A6, c6, d6, h6⟩ := d6
    have d7 := hV 7 (by decide)
    simp only [oV] at d7
    obtain d7 := d7
    have d8 := hV 8 (by decide)
    simp only [oV] at d8
    have d9 := hV 9 (by decide)
    simp only [oV] at d9
    obtain d9 := d9
    have d10 := hV 10 (by decide)
    simp only [oV] at d10
    obtain d10 := d10
    clear hV
    simp only [Reg.putS, List.foldl, List.getD_cons_zero, List.getD_cons_succ, Act.put, List.setIfInBounds_toArray, List.set_cons_zero, List.set_cons_succ, d0, d1, d4, d5, d8]
    clear d0 d1 d4 d5 d8
    have b4W : Below w4.heap.size w4 W := hG
    obtain ⟨V2, cp2, e2, hV2⟩ := row_hits d9 (by rw [List.length_append, List.length_append, List.length_drop, List.length_take]; have := hnHh.out; omega)
    rw [d10, pr10, e2]
    clear d10 e2 d9 d7 d3 d2 d6 h2 h6 hG
    replace bel := bstep bel b4W
    have hat5 := hat4.below b4W
    have hD5 := hD4.out.below b4W
    have i1 := hin_of hat5
    have i2 := hin_of hV2
    have l2 : (H.drop r ++ H.take r ++ H).length = nH + nH := by rw [List.length_append, List.length_append, List.length_drop, List.length_take]; have := hnHh.out; omega
    have c1 := starts_any (n := bn) (m := nH) (cp := cp) hD5 hp.out hs.out hz.out (by omega) (by unfold HiQ.asInt; rw [List.length_map]; exact hnHh.out) (by omega) i1
    have hsame : Hid (∀ i, (startsL (szk zs) zs.length bn (HiQ.asInt H)).getD i [] = (startsL (szk zs) zs.length bn (HiQ.asInt (H.drop r ++ H.take r ++ H))).getD i []) := by
      intro i
      rw [hbl.out]
      exact starts_same hokh.out (fun x => mem_asInt_iff hmem.out x) (fun x => mem_asInt_iff (fun y => (mem_turned r y).trans (hmem.out y)) x) i
    have hlen2 : Hid (nH + nH = (HiQ.asInt (H.drop r ++ H.take r ++ H)).length) := by unfold HiQ.asInt; rw [List.length_map]; exact l2.symm
    have sl1 : Hid ((startsL (szk zs) zs.length bn (HiQ.asInt H)).length = bn) := len_startsL hp.out _
    have sl2 : Hid ((startsL (szk zs) zs.length bn (HiQ.asInt (H.drop r ++ H.take r ++ H))).length = bn) := len_startsL hp.out _
    have sb1 : Hid (∀ i, ((startsL (szk zs) zs.length bn (HiQ.asInt H)).getD i []).length ≤ 10000) := fun i => by have := starts_row_len (sz := szk zs) (N := zs.length) (n := bn) (HiQ.asInt H) i; have e : (HiQ.asInt H).length = H.length := (by unfold HiQ.asInt; exact List.length_map _); have := hnHh.out; omega
    have i2h : Hid (HIn W V2 (HiQ.asInt (H.drop r ++ H.take r ++ H))) := i2
    have hD5h : Hid (DV w1.heap.size W (.pointer (some ⟨p, 0, none⟩)) zs) := hD5
    generalize HiQ.asInt H = G1 at c1 hsame sl1 sb1 
    generalize HiQ.asInt (H.drop r ++ H.take r ++ H) = G2 at hsame hlen2 sl2 i2h
    clear i1 i2 l2 hV2 hat5 hat4 b4W hr
    generalize W = w5 at bel c1 i2h hD5h ⊢
    go_wp2_with fail
    refine c1.mono ?_
    rintro e w6 ⟨b6, g1, B1, rfl, _, _, hR1⟩
    have c2 := starts_any (n := bn) (m := nH + nH) (cp := cp2) (hD5h.out.below b6) hp.out hs.out hz.out (by omega) hlen2.out (by omega) (i2h.out.below b6)
    replace bel := bstep bel b6
    clear c1 b6
    go_wp2_with fail
    refine c2.mono ?_
    rintro e w7 ⟨b7, g2, B2, rfl, _, _, hR2⟩
    replace bel := bstep bel b7
    have hR1h : Hid (Rws B1 g1 w7 (startsL (szk zs) zs.length bn G1)) := hR1.below b7
    have hR2h : Hid (Rws B2 g2 w7 (startsL (szk zs) zs.length bn G2)) := hR2
    have e1 : ((bn : Int) != (bn : Int)) = false := by simp
    clear c2 b7 hR1 hR2
    go_wp2_with fail
    go_loopw [82] (fun s wr => ∃ i : Nat, i ≤ bn ∧ s = .int .i64 (i : Int) ∧ Below w7.heap.size w7 wr) (fun s _ => bn - (intOf s).toNat)
    case atStart => exact ⟨0, Nat.zero_le _, rfl, Below.refl _ _⟩
    case round =>
      obtain ⟨i, hi, rfl, br⟩ := hrel
      by_cases hlt : i < bn
      · have hid : decide ((i : Int) < (bn : Int)) = true := decide_eq_true (by omega)
        have hii : (i : Int) < (bn : Int) := by omega
        obtain ⟨VA, ca, hca, hVA⟩ := rws_row (hR1h.out.below br) (i := i) (by rw [sl1.out]; exact hlt)
        obtain ⟨VB, cb, hcb, hVB⟩ := rws_row (hR2h.out.below br) (i := i) (by rw [sl2.out]; exact hlt)
        rw [← hsame.out i] at hcb hVB
        have hb1 := sb1.out i
        obtain ⟨RW, hRW⟩ : ∃ RW, (startsL (szk zs) zs.length bn G1).getD i [] = RW := ⟨_, rfl⟩
        rw [hRW] at hca hcb hVA hVB hb1
        clear hRW
        obtain ⟨m, hm⟩ : ∃ m, RW.length = m := ⟨_, rfl⟩
        rw [hm] at hca hcb hb1
        have hmt : m = (toI RW).length := by rw [toI_len]; exact hm.symm
        have cS := fun (W : World) (hW : Below wr.heap.size wr W) => LkS.same_call VA VB m m ca cb (toI RW) (toI RW) W hmt hmt (hVA.below hW) (hVB.below hW) (by omega) (by omega)
        simp only [decide_true] at cS
        have z1 : IntKind.i64.wrap ((i : Int) + 1) = (i : Int) + 1 := by rw [IntKind.wrap_i64]; omega
        clear hVA hVB hmt
        go_wp2_with fail
        refine RegU.wp_region_lists (fun W => Below wr.heap.size wr W) (fun _ _ => True) (fun _ W W' => Below W.heap.size W W') (fun i => i) (qV g1 g2 bn i m ca cb VA VB)
          [some 85, some 86, some 87, some 88, some 89, some 90, some 91, some 92, some 93, some 94]
          [[], [], [0, 1], [2], [], [], [4, 5], [6], [3, 7], [8]]
          (by kernel_rfl) (by kernel_rfl) (by kernel_rfl) (fun i => .inl rfl) ?_ ?_ ?_ ?_ ?_ ?_ ?_
        · exact below_drew (Below.refl _ _)
        · intro i; trivial
        · intro i W W' h k2; exact h.trans (k2.mono h.size)
        · intro j i W W' _ _ _ _; trivial
        · intro j i p v W W' h1 h2 h3 h4
          unfold qV at h3 ⊢; split at h3 <;> first | exact h3 | trivial
        · refine ⟨?_, ?_, ?_, ?_, ?_, ?_, ?_, ?_, ?_, ?_, trivial⟩
          · intro vals W K hG hU hV hK
            simp only [if_true] at hK
            simp only [Reg.putS, List.foldl, List.headD, List.tail, List.getD_cons_zero, List.getD_cons_succ, Act.put, List.setIfInBounds_toArray, List.set_cons_zero, List.set_cons_succ] at hK ⊢
            go_simp
            first
              | exact hK _ _ (Below.refl _ _) rfl
              | (rw [if_pos (by omega)]; exact hK _ _ (Below.refl _ _) rfl)
              | (rw [dif_pos (by omega)]; exact hK _ _ (Below.refl _ _) rfl)
              | (rw [if_neg (by omega)]; exact hK _ _ (Below.refl _ _) rfl)
          · intro vals W K hG hU hV hK
            simp only [if_true] at hK
            simp only [Reg.putS, List.foldl, List.headD, List.tail, List.getD_cons_zero, List.getD_cons_succ, Act.put, List.setIfInBounds_toArray, List.set_cons_zero, List.set_cons_succ] at hK ⊢
            go_simp
            first
              | exact hK _ _ (Below.refl _ _) rfl
              | (rw [if_pos (by omega)]; exact hK _ _ (Below.refl _ _) rfl)
              | (rw [dif_pos (by omega)]; exact hK _ _ (Below.refl _ _) rfl)
              | (rw [if_neg (by omega)]; exact hK _ _ (Below.refl _ _) rfl)
          · intro vals W K hG hU hV hK
            simp only [if_true] at hK
            have d0 := hV 0 (by simp)
            simp only [qV] at d0
            have d1 := hV 1 (by simp)
            simp only [qV] at d1
            simp only [Reg.putS, List.foldl, List.headD, List.tail, List.getD_cons_zero, List.getD_cons_succ, Act.put, List.setIfInBounds_toArray, List.set_cons_zero, List.set_cons_succ, d0, d1] at hK ⊢
            go_simp
            first
              | exact hK _ _ (Below.refl _ _) rfl
              | (rw [if_pos (by omega)]; exact hK _ _ (Below.refl _ _) rfl)
              | (rw [dif_pos (by omega)]; exact hK _ _ (Below.refl _ _) rfl)
              | (rw [if_neg (by omega)]; exact hK _ _ (Below.refl _ _) rfl)
          · intro vals W K hG hU hV hK
            simp only [if_true] at hK
            have d2 := hV 2 (by simp)
            simp only [qV] at d2
            simp only [Reg.putS, List.foldl, List.headD, List.tail, List.getD_cons_zero, List.getD_cons_succ, Act.put, List.setIfInBounds_toArray, List.set_cons_zero, List.set_cons_succ, d2] at hK ⊢
            have hcl := pw_cell_below hG hca
            go_simp
            first
              | exact hK _ _ (Below.refl _ _) rfl
              | (rw [if_pos (by omega)]; exact hK _ _ (Below.refl _ _) rfl)
              | (rw [dif_pos (by omega)]; exact hK _ _ (Below.refl _ _) rfl)
              | (rw [if_neg (by omega)]; exact hK _ _ (Below.refl _ _) rfl)
          · intro vals W K hG hU hV hK
            simp only [if_true] at hK
            simp only [Reg.putS, List.foldl, List.headD, List.tail, List.getD_cons_zero, List.getD_cons_succ, Act.put, List.setIfInBounds_toArray, List.set_cons_zero, List.set_cons_succ] at hK ⊢
            go_simp
            first
              | exact hK _ _ (Below.refl _ _) rfl
              | (rw [if_pos (by omega)]; exact hK _ _ (Below.refl _ _) rfl)
              | (rw [dif_pos (by omega)]; exact hK _ _ (Below.refl _ _) rfl)
              | (rw [if_neg (by omega)]; exact hK _ _ (Below.refl _ _) rfl)
          · intro vals W K hG hU hV hK
            simp only [if_true] at hK
            simp only [Reg.putS, List.foldl, List.headD, List.tail, List.getD_cons_zero, List.getD_cons_succ, Act.put, List.setIfInBounds_toArray, List.set_cons_zero, List.set_cons_succ] at hK ⊢
            go_simp
            first
              | exact hK _ _ (Below.refl _ _) rfl
              | (rw [if_pos (by omega)]; exact hK _ _ (Below.refl _ _) rfl)
              | (rw [dif_pos (by omega)]; exact hK _ _ (Below.refl _ _) rfl)
              | (rw [if_neg (by omega)]; exact hK _ _ (Below.refl _ _) rfl)
          · intro vals W K hG hU hV hK
            simp only [if_true] at hK
            have d4 := hV 4 (by simp)
            simp only [qV] at d4
            have d5 := hV 5 (by simp)
            simp only [qV] at d5
            simp only [Reg.putS, List.foldl, List.headD, List.tail, List.getD_cons_zero, List.getD_cons_succ, Act.put, List.setIfInBounds_toArray, List.set_cons_zero, List.set_cons_succ, d4, d5] at hK ⊢
            go_simp
            first
              | exact hK _ _ (Below.refl _ _) rfl
              | (rw [if_pos (by omega)]; exact hK _ _ (Below.refl _ _) rfl)
              | (rw [dif_pos (by omega)]; exact hK _ _ (Below.refl _ _) rfl)
              | (rw [if_neg (by omega)]; exact hK _ _ (Below.refl _ _) rfl)
          · intro vals W K hG hU hV hK
            simp only [if_true] at hK
            have d6 := hV 6 (by simp)
            simp only [qV] at d6
            simp only [Reg.putS, List.foldl, List.headD, List.tail, List.getD_cons_zero, List.getD_cons_succ, Act.put, List.setIfInBounds_toArray, List.set_cons_zero, List.set_cons_succ, d6] at hK ⊢
            have hcl := pw_cell_below hG hcb
            go_simp
            first
              | exact hK _ _ (Below.refl _ _) rfl
              | (rw [if_pos (by omega)]; exact hK _ _ (Below.refl _ _) rfl)
              | (rw [dif_pos (by omega)]; exact hK _ _ (Below.refl _ _) rfl)
              | (rw [if_neg (by omega)]; exact hK _ _ (Below.refl _ _) rfl)
          · intro vals W K hG hU hV hK
            simp only [if_true] at hK
            have d3 := hV 3 (by simp)
            simp only [qV] at d3
            have d7 := hV 7 (by simp)
            simp only [qV] at d7
            simp only [Reg.putS, List.foldl, List.headD, List.tail, List.getD_cons_zero, List.getD_cons_succ, Act.put, List.setIfInBounds_toArray, List.set_cons_zero, List.set_cons_succ, d3, d7] at hK ⊢
            have cW := cS W hG
            go_simp
            refine cW.mono ?_
            rintro e w2 ⟨rfl, hb⟩
            exact hK _ _ hb rfl
          · intro vals W K hG hU hV hK
            simp only [if_true] at hK
            have d8 := hV 8 (by simp)
            simp only [qV] at d8
            simp only [Reg.putS, List.foldl, List.headD, List.tail, List.getD_cons_zero, List.getD_cons_succ, Act.put, List.setIfInBounds_toArray, List.set_cons_zero, List.set_cons_succ, d8] at hK ⊢
            go_simp
            first
              | exact hK _ _ (Below.refl _ _) rfl
              | (rw [if_pos (by omega)]; exact hK _ _ (Below.refl _ _) rfl)
              | (rw [dif_pos (by omega)]; exact hK _ _ (Below.refl _ _) rfl)
              | (rw [if_neg (by omega)]; exact hK _ _ (Below.refl _ _) rfl)
        · intro vals W hG hV
          rw [show List.range (List.length [some 85, some 86, some 87, some 88, some 89, some 90, some 91, some 92, some 93, some 94]) = [0, 1, 2, 3, 4, 5, 6, 7, 8, 9] from rfl]
          have d0 := hV 0 (by decide)
          simp only [qV] at d0
          have d1 := hV 1 (by decide)
          simp only [qV] at d1
          have d2 := hV 2 (by decide)
          simp only [qV] at d2
          have d3 := hV 3 (by decide)
          simp only [qV] at d3
          have d4 := hV 4 (by decide)
          simp only [qV] at d4
          have d5 := hV 5 (by decide)
          simp only [qV] at d5
          have d6 := hV 6 (by decide)
          simp only [qV] at d6
          have d7 := hV 7 (by decide)
          simp only [qV] at d7
          have d8 := hV 8 (by decide)
          simp only [qV] at d8
          have d9 := hV 9 (by decide)
          simp only [qV] at d9
          clear hV
          simp only [Reg.putS, List.foldl, List.getD_cons_zero, List.getD_cons_succ, Act.put, List.setIfInBounds_toArray, List.set_cons_zero, List.set_cons_succ, d0, d1, d2, d3, d4, d5, d6, d7, d8, d9]
          clear d0 d1 d2 d3 d4 d5 d6 d7 d8 d9
          have b8 : Below wr.heap.size wr W := hG
          replace b8 := br.trans (b8.mono br.size)
          clear hG br cS hca hcb
          generalize W = w8 at b8 ⊢
          go_wp2_with fail
          go_roundw
          case rel => exact ⟨i + 1, hlt, by go_num, b8⟩
          case measure => simp [intOf]; omega
      · have hid : decide ((i : Int) < (bn : Int)) = false := decide_eq_false (by omega)
        have hii : ¬ (i : Int) < (bn : Int) := by omega
        have belF := bstep bel br
        clear br bel
        go_wp2_with fail
        go_ret
        exact ⟨rfl, belF⟩
end Go.Proofs.Ytdeeeechdlcdbaa.HoW
