/- LensOrderless: the walk. -/
import Derived.Test.YthgidcfgelpkhaaLwBnd
import Derived.Test.YthgidcfgelpkhaaLpK
import Derived.Test.YthgidcfgelpkhaaStep
import Derived.Test.YthgidcfgelpkhaaKeep
set_option linter.unusedVariables false
set_option linter.unusedSimpArgs false
namespace Go.Proofs.Ythgidcfgelpkhaa
open Go Go.Shelf Go.RowKit Go.Lib Go.Sort Go.Proofs Go.Proofs.Ythgidcfgelpkhaa.Base
/-- Whole numbers to read, a nil slice of none too. -/
def SrcI (w : World) (A : Option Addr) (xs : List Value) : Prop := (A = none ∧ xs = []) ∨ ∃ ad, A = some ad ∧ ∀ j u, xs[j]? = some u → w.cell? (ad.add j) = some u
theorem int_one {l : List Int} : ∀ u ∈ l.map (Value.int .i64), u.oneCell' = true := by
  intro u hu
  obtain ⟨x, _, rfl⟩ := List.mem_map.1 hu
  rfl
def olV (B : Nat) (w0 : World) (V0 : Value) (n q m1 : Nat) (zs : List Int) (i : Nat) (pv v : Value) (W : World) : Prop := match i with
  | 0 => v = V0
  | 1 => v = .int .i64 (q : Int)
  | 2 => ∃ A c, v = .slice A m1 c ∧ SrcI w0 A ((zs.drop q).map (Value.int .i64))
  | 3 => ∃ A c, v = .slice A m1 c ∧ W.ownsRow B 3 1 (.slice A m1 c) m1 ((zs.drop q).map (Value.int .i64))
  | 4 => v = V0
  | 5 => v = .int .i64 (q : Int)
  | 6 => ∃ A c, v = .slice A q c ∧ SrcI w0 A ((zs.take q).map (Value.int .i64))
  | 7 => ∃ A c, v = .slice A n c ∧ W.ownsRow B 3 1 (.slice A n c) n ((zs.drop q).map (Value.int .i64) ++ (zs.take q).map (Value.int .i64))
  | 8 => ∃ A c, v = .slice A n c ∧ W.ownsRow B 3 1 (.slice A n c) n ((zs.drop q).map (Value.int .i64) ++ (zs.take q).map (Value.int .i64))
  | _ => True

def olR (B m1 : Nat) (xs : List Value) (i : Nat) (W W' : World) : Prop := match i with
  | 7 => ∃ vv, W.ownsRow B 3 1 vv m1 xs ∧ W.grownBy W' vv.ownBlock ∧ W'.ownsRow B 3 1 vv m1 xs ∧ ∀ g, vv.ownBlock = some g → B ≤ g
  | _ => RowKit.Below W.heap.size W W'
theorem olG_stay {m1 : Nat} {xs : List Value} {w0 : World} {i : Nat} {W W' : World} (h : RowKit.Below w0.heap.size w0 W) (k : olR w0.heap.size m1 xs i W W') : RowKit.Below w0.heap.size w0 W' := by
  unfold olR at k
  split at k
  · obtain ⟨vv, _, k2, _, k4⟩ := k
    exact h.grown k2 h.size k4
  · exact h.trans (k.mono h.size)
theorem olV_stay {w0 : World} {V0 : Value} {n q m1 : Nat} {zs : List Int} {j i : Nat} {p v : Value} {W W' : World} (h1 : ¬ (j = 7 ∧ i = 7)) (h2 : ¬ (j = 8 ∧ i = 7)) (h3 : olV w0.heap.size w0 V0 n q m1 zs j p v W) (h4 : olR w0.heap.size m1 ((zs.drop q).map (Value.int .i64)) i W W') : olV w0.heap.size w0 V0 n q m1 zs j p v W' := by
  unfold olV at h3 ⊢
  split at h3
  case h_4 =>
    obtain ⟨A, c, e, ho⟩ := h3
    refine ⟨A, c, e, ?_⟩
    unfold olR at h4
    split at h4
    · obtain ⟨vv, k1, k2, k3, _⟩ := h4
      exact Keep.own_front ho k1 k2 (by decide) k3 (Nat.le_refl _) (by rw [← k1.1, List.take_length])
    · exact own_below ho h4
  case h_8 =>
    obtain ⟨A, c, e, ho⟩ := h3
    refine ⟨A, c, e, ?_⟩
    unfold olR at h4
    split at h4
    · exact absurd ⟨rfl, rfl⟩ h1
    · exact own_below ho h4
  case h_9 =>
    obtain ⟨A, c, e, ho⟩ := h3
    refine ⟨A, c, e, ?_⟩
    unfold olR at h4
    split at h4
    · exact absurd ⟨rfl, rfl⟩ h2
    · exact own_below ho h4
  all_goals first | exact h3 | trivial
theorem tmod_range (k : Int) {n : Nat} (_ : 0 ≤ n) : -(n : Int) ≤ Int.tmod k ((n : Int) + 1) ∧ Int.tmod k ((n : Int) + 1) ≤ n := by
  rcases Int.le_total 0 k with h | h
  · have h1 := Int.tmod_nonneg ((n : Int) + 1) h
    have h2 := Int.tmod_lt_of_pos k (b := (n : Int) + 1) (by omega)
    omega
  · have h1 := Int.tmod_nonneg ((n : Int) + 1) (a := -k) (by omega)
    have h2 := Int.tmod_lt_of_pos (-k) (b := (n : Int) + 1) (by omega)
    rw [Int.neg_tmod] at h1 h2
    omega
theorem tmod_pos (k : Int) (n : Nat) (h : 0 ≤ k) : 0 ≤ Int.tmod k ((n : Int) + 1) ∧ Int.tmod k ((n : Int) + 1) ≤ n := by
  have h1 := Int.tmod_nonneg ((n : Int) + 1) h
  have h2 := Int.tmod_lt_of_pos k (b := (n : Int) + 1) (by omega)
  omega
theorem src_below {w0 W : World} {a : Addr} {u : Value} (h : RowKit.Below w0.heap.size w0 W) (hc : w0.cell? a = some u) : W.cell? a = some u := pw_cell_below h hc
theorem nil_len {xs : List Int} (h : xs.map (Value.int .i64) = []) : xs.length = 0 := by
  have := congrArg List.length h
  simpa using this

set_option maxHeartbeats 1000000 in
set_option maxRecDepth 100000 in
theorem ols_some (b off n cap : Nat) (k : Int) (zs : List Int) (w : World) (hn : n = zs.length) (hcap : n ≤ cap) (hn60 : n ≤ 60) (hat : IntsAt w (some ⟨b, off, none⟩) zs) (he : errP (15 : Nat) zs = 0) :
    Calls Try.prog 9 #[.slice (some ⟨b, off, none⟩) n cap, .int .i64 k] w fun e w' => e = .returned (.bool true) ∧ RowKit.Below w.heap.size w w' := by
  obtain ⟨i3, hi3, hy0, hy1, hy2⟩ := info_parts info3
  have d1 : decide ((n : Int) > 60) = false := decide_eq_false (by omega)
  obtain ⟨m', hm', hm1', _, hbad, _, hfit⟩ := err_zero he
  obtain rfl : 15 = m' := by omega
  have hzb : ∀ zs' : List Int, zs.Perm zs' → ∀ z ∈ zs', 0 ≤ z ∧ z ≤ 4294967296 := fun zs' hp z hz => by have := bad_each hbad z (hp.mem_iff.2 hz); omega
  have OF : Aside (∀ (zs' : List Int) (A : Option Addr) (cap : Nat), zs.Perm zs' → ∀ W, IntsAt W A zs' → Calls Try.prog 15 #[.int .i64 15, .slice A n cap] W fun e w' => ∃ A c', e = .returned (.tuple #[.slice A n c', .int .i64 0]) ∧ IntsAt w' A (intsOf (lensP 15 zs')) ∧ RowKit.Below W.heap.size W w') := by
    intro zs' A cap hp W h
    refine (of_good (mo := 15) A n cap _ W (by rw [hn, hp.length_eq]) h (by rw [← err_perm hp]; exact he)).mono ?_
    rintro e w' ⟨A, c', rfl, ho, hb⟩
    exact ⟨A, c', rfl, (ints_of_own ho).2, hb⟩
  have WT : Aside (∀ (zs' : List Int) (A V : Option Addr) (c1 c2 : Nat), zs.Perm zs' → ∀ W, IntsAt W A (intsOf (lensP 15 zs')) → IntsAt W V zs' → Calls Try.prog 20 #[.slice A n c1, .slice V n c2] W fun e w' => e = .returned (.int .i64 (weightP (intsOf (lensP 15 zs)) zs)) ∧ RowKit.Below W.heap.size W w') := by
    intro zs' A V c1 c2 hp W h h'
    have := weight_of (most := 15) (n := n) (c1 := c1) (c2 := c2) (by rw [← err_perm hp]; exact he) (by rw [hn, hp.length_eq]) rfl h h' (hzb zs' hp)
    rw [(lens_perm hm1' hfit hp).1] at this
    exact this
  have KR : Aside (∀ (zs' : List Int) (A : Option Addr) (c1 : Nat), zs.Perm zs' → ∀ W, IntsAt W A (intsOf (lensP 15 zs')) → Calls Try.prog 21 #[.slice A n c1] W fun e w' => e = .returned (.int .i64 (kraftP (intsOf (lensP 15 zs)))) ∧ RowKit.Below W.heap.size W w') := by
    intro zs' A c1 hp W h
    have := kraft_call A n c1 _ W (by rw [intsOf_length, lensP_length, hn, hp.length_eq]) h (by omega)
    rw [(lens_perm hm1' hfit hp).2] at this
    exact this
  have HN : Hid (n = zs.length) := hn
  have hof := OF.out zs (some ⟨b, off, none⟩) cap (List.Perm.refl _)
  have HOF : Aside _ := hof
  obtain ⟨W1, hW1⟩ : ∃ x, weightP (intsOf (lensP 15 zs)) zs = x := ⟨_, rfl⟩
  obtain ⟨K1, hK1⟩ : ∃ x, kraftP (intsOf (lensP 15 zs)) = x := ⟨_, rfl⟩
  rw [hW1] at WT
  rw [hK1] at KR
  have dW : (W1 != W1) = false := by simp
  have dK : (K1 != K1) = false := by simp
  have dnn : ((n : Int) != (n : Int)) = false := by simp
  obtain ⟨r1, hr1⟩ : ∃ r1 : Int, Int.tmod k ((n : Int) + 1) = r1 := ⟨_, rfl⟩
  have hr1b : -(n : Int) ≤ r1 ∧ r1 ≤ n := by
    rw [← hr1]
    exact tmod_range k (by omega)
  obtain ⟨q, hq, hqn⟩ : ∃ q : Nat, Int.tmod (r1 + n + 1) ((n : Int) + 1) = (q : Int) ∧ q ≤ n := by
    refine ⟨(Int.tmod (r1 + n + 1) ((n : Int) + 1)).toNat, ?_, ?_⟩
    · have := tmod_pos (r1 + n + 1) n (by omega); omega
    · have := tmod_pos (r1 + n + 1) n (by omega); omega
  have z1 : IntKind.i64.wrap ((n : Int) + 1) = (n : Int) + 1 := by rw [IntKind.wrap_i64]; omega
  have z2 : IntKind.i64.wrap (r1 + (n : Int)) = r1 + n := by rw [IntKind.wrap_i64]; omega
  have z3 : IntKind.i64.wrap (r1 + (n : Int) + 1) = r1 + n + 1 := by rw [IntKind.wrap_i64]; omega
  have z4 : IntKind.i64.wrap r1 = r1 := by rw [IntKind.wrap_i64]; omega
  have z5 : IntKind.i64.wrap (q : Int) = q := by rw [IntKind.wrap_i64]; omega
  obtain ⟨m1, hm1⟩ : ∃ m1, (zs.drop q).length = m1 := ⟨_, rfl⟩
  have hm1q : m1 + q ≤ n ∧ n ≤ m1 + q := by rw [List.length_drop] at hm1; omega
  have hm1 : Hid ((zs.drop q).length = m1) := hm1
  clear hof hn he hm' hbad hfit hzb hW1 hK1
  go_enter Try.func9, Try.ntmps9
  go_wp2_with fail
  refine (alive_call _).mono ?_
  rintro e w1 ⟨rfl, b1⟩
  have hat1 := hat.below b1
  have hofw := HOF.out w1 hat1
  clear HOF hat
  go_wp2_with fail
  refine hofw.mono ?_
  rintro e w0 ⟨A, cA, rfl, hA, b2⟩
  have hat2 := hat1.below b2
  have b3 := bstep b1 b2
  clear hofw hat1 b1 b2
  go_wp2_with fail
  have hqN : (q : Int) ≤ (n : Int) := by omega
  have hqC : (q : Int) ≤ (cap : Int) := by omega
  have src2 : SrcI w0 (some ⟨b, off + q, none⟩) ((zs.drop q).map (Value.int .i64)) := by
    refine .inr ⟨_, rfl, fun j u hj => ?_⟩
    have hlt : j < (zs.drop q).length := by have := (List.getElem?_eq_some_iff.1 hj).1; simpa using this
    rw [List.length_drop] at hlt
    obtain ⟨b', o', e, _, hc⟩ := hat2 (by omega)
    injection e with e
    injection e with e1 e2
    subst e1 e2
    have := hc (q + j) (by omega)
    rw [Addr.add_lit, Nat.add_assoc, this]
    rw [← hj, List.getElem?_map, List.getElem?_drop, List.getD_eq_getElem?_getD, List.getElem?_eq_getElem (by omega)]
    rfl
  have src2' : cap = q → SrcI w0 (some ⟨b, off, none⟩) ((zs.drop q).map (Value.int .i64)) := fun h => by
    have e : zs.drop q = [] := List.drop_eq_nil_of_le (by have := HN.out; omega)
    exact .inr ⟨_, rfl, fun j u hj => by rw [e] at hj; simp at hj⟩
  have src6 : SrcI w0 (some ⟨b, off, none⟩) ((zs.take q).map (Value.int .i64)) := by
    refine .inr ⟨_, rfl, fun j u hj => ?_⟩
    have hlt : j < (zs.take q).length := by have := (List.getElem?_eq_some_iff.1 hj).1; simpa using this
    rw [List.length_take] at hlt
    obtain ⟨b', o', e, _, hc⟩ := hat2 (by omega)
    injection e with e
    injection e with e1 e2
    subst e1 e2
    have := hc j (by omega)
    rw [Addr.add_lit, this]
    rw [← hj, List.getElem?_map, List.getElem?_take, if_pos (by omega), List.getD_eq_getElem?_getD, List.getElem?_eq_getElem (by omega)]
    rfl
  have src2i : SrcI w0 (if cap = q then some ⟨b, off, none⟩ else some ⟨b, off + q, none⟩) ((zs.drop q).map (Value.int .i64)) := by
    by_cases h : cap = q
    · rw [if_pos h]; exact src2' h
    · rw [if_neg h]; exact src2
  clear src2'
  refine RegU.wp_region_lists (RowKit.Below w0.heap.size w0) (fun _ _ => True) (olR w0.heap.size m1 ((zs.drop q).map (Value.int .i64))) (fun i => i) (olV w0.heap.size w0 (.slice (some ⟨b, off, none⟩) n cap) n q m1 zs)
    [some 48, some 49, some 50, some 51, some 52, some 53, some 54, some 55, some 8]
    [[], [], [0, 1], [2], [], [], [4, 5], [3, 6, 3], [7, 7, 0, 1, 2, 3, 4, 5, 6, 7]]
    (by kernel_rfl) (by kernel_rfl) (by kernel_rfl) (fun i => .inl rfl) ?_ ?_ ?_ ?_ ?_ ?_ ?_
  · exact ⟨rfl, rfl, rfl, Nat.le_refl _, fun _ _ => rfl⟩
  · intro i; trivial
  · intro i W W' h k2; exact olG_stay h k2
  · intros; trivial
  · intro j i p v W W' h1 h2 h3 h4; refine olV_stay ?_ ?_ h3 h4
    · rintro ⟨rfl, rfl⟩; exact h1 rfl
    · rintro ⟨rfl, rfl⟩; exact h2 (by decide)
  · refine ⟨?_, ?_, ?_, ?_, ?_, ?_, ?_, ?_, ?_, trivial⟩
    · intro vals W K hG hU hV hK
      simp only [if_true] at hK
      simp only [Reg.putS, List.foldl, List.headD, List.tail, List.getD_cons_zero, List.getD_cons_succ, Act.put, List.setIfInBounds_toArray, List.set_cons_zero, List.set_cons_succ] at hK ⊢
      go_simp
      first
        | exact hK _ _ (Below.refl _ _) rfl
        | (rw [if_pos (by omega)]; exact hK _ _ (Below.refl _ _) rfl)
        | (rw [dif_pos (by omega)]; exact hK _ _ (Below.refl _ _) rfl)
        | (rw [if_neg (by omega)]; exact hK _ _ (Below.refl _ _) rfl)
    · intro vals W K hG hU hV hK
      simp only [if_true] at hK
      simp only [Reg.putS, List.foldl, List.headD, List.tail, List.getD_cons_zero, List.getD_cons_succ, Act.put, List.setIfInBounds_toArray, List.set_cons_zero, List.set_cons_succ] at hK ⊢
      go_simp
      first
        | exact hK _ _ (Below.refl _ _) rfl
        | (rw [if_pos (by omega)]; exact hK _ _ (Below.refl _ _) rfl)
        | (rw [dif_pos (by omega)]; exact hK _ _ (Below.refl _ _) rfl)
        | (rw [if_neg (by omega)]; exact hK _ _ (Below.refl _ _) rfl)
    · intro vals W K hG hU hV hK
      simp only [if_true] at hK
      have d0 := hV 0 (by simp)
      simp only [olV] at d0
      have d1 := hV 1 (by simp)
      simp only [olV] at d1
      simp only [Reg.putS, List.foldl, List.headD, List.tail, List.getD_cons_zero, List.getD_cons_succ, Act.put, List.setIfInBounds_toArray, List.set_cons_zero, List.set_cons_succ, d0, d1] at hK ⊢
      go_simp
      exact hK _ _ (Below.refl _ _) ⟨if cap = q then some ⟨b, off, none⟩ else some ⟨b, off + q, none⟩, cap - q, by rw [show n - q = m1 by omega], src2i⟩
    · refine Step.step_of ?g ?_
      case g => rfl
      intro A vals W K hA hG hU hV hK
      simp only [if_true] at hK
      have d2 := hV 2 (by simp)
      simp only [olV] at d2
      obtain ⟨A2, c2, d2, src2⟩ := d2
      rcases src2 with ⟨rfl, hx⟩ | ⟨ad, rfl, hc⟩
      · have hm0 : m1 = 0 := by rw [← hm1.out]; exact nil_len hx
        refine Keep.wp_append_nothing _ (.const (.slice none 0 0)) (.tmp 50) 22 rfl w0.heap.size 3 i3 1 Try.underlying22 hi3 (.slice none 0 0) 0 [] rfl (World.ownsRow_nil _ _ _ _) c2 ?x1 ?x2
        case x1 => rw [(Step.putE hA rfl (Nat.lt_of_sub_eq_succ rfl)).trans d2, hm0]
        case x2 => exact hK _ _ (Below.refl _ _) ⟨none, 0, by rw [hm0], by rw [hm0, hx]; exact World.ownsRow_nil _ _ _ _⟩
      · refine Keep.wp_append_keep _ (.const (.slice none 0 0)) (.tmp 50) 22 rfl w0.heap.size 3 i3 (.int .i64 0) 1 8 Try.underlying22 hi3 hy0 hy1 hy2 rfl (by decide) _ 0 [] rfl (World.ownsRow_nil _ _ _ _) ad m1 c2 ((zs.drop q).map (Value.int .i64)) ((Step.putE hA rfl (Nat.lt_of_sub_eq_succ rfl)).trans d2) (by rw [List.length_map, hm1.out, Nat.mul_one]) (fun j u h => src_below hG (hc j u h)) int_one ?c1 ?c2 hG.size ?c3
        case c1 => unfold maxLen; omega
        case c2 => omega
        case c3 =>
          intro v' w' ho hgr _
          rw [Nat.zero_add, List.nil_append] at ho
          obtain ⟨A, c, rfl, -⟩ := own_form ho
          exact hK _ _ ((Below.refl _ _).grown hgr (Nat.le_refl _) (fun k hk => by cases hk)) ⟨A, c, rfl, ho⟩
    · intro vals W K hG hU hV hK
      simp only [if_true] at hK
      simp only [Reg.putS, List.foldl, List.headD, List.tail, List.getD_cons_zero, List.getD_cons_succ, Act.put, List.setIfInBounds_toArray, List.set_cons_zero, List.set_cons_succ] at hK ⊢
      go_simp
      first
        | exact hK _ _ (Below.refl _ _) rfl
        | (rw [if_pos (by omega)]; exact hK _ _ (Below.refl _ _) rfl)
        | (rw [dif_pos (by omega)]; exact hK _ _ (Below.refl _ _) rfl)
        | (rw [if_neg (by omega)]; exact hK _ _ (Below.refl _ _) rfl)
    · intro vals W K hG hU hV hK
      simp only [if_true] at hK
      simp only [Reg.putS, List.foldl, List.headD, List.tail, List.getD_cons_zero, List.getD_cons_succ, Act.put, List.setIfInBounds_toArray, List.set_cons_zero, List.set_cons_succ] at hK ⊢
      go_simp
      first
        | exact hK _ _ (Below.refl _ _) rfl
        | (rw [if_pos (by omega)]; exact hK _ _ (Below.refl _ _) rfl)
        | (rw [dif_pos (by omega)]; exact hK _ _ (Below.refl _ _) rfl)
        | (rw [if_neg (by omega)]; exact hK _ _ (Below.refl _ _) rfl)
    · intro vals W K hG hU hV hK
      simp only [if_true] at hK
      have d4 := hV 4 (by simp)
      simp only [olV] at d4
      have d5 := hV 5 (by simp)
      simp only [olV] at d5
      simp only [Reg.putS, List.foldl, List.headD, List.tail, List.getD_cons_zero, List.getD_cons_succ, Act.put, List.setIfInBounds_toArray, List.set_cons_zero, List.set_cons_succ, d4, d5] at hK ⊢
      go_simp
      all_goals exact hK _ _ (Below.refl _ _) ⟨_, _, rfl, src6⟩
    · refine Step.step_of ?g ?_
      case g => rfl
      intro A vals W K hA hG hU hV hK
      simp only [if_true] at hK
      have d3 := hV 3 (by simp)
      simp only [olV] at d3
      obtain ⟨A3, c3, d3, ho3⟩ := d3
      have d6 := hV 6 (by simp)
      simp only [olV] at d6
      obtain ⟨A6, c6, d6, src6⟩ := d6
      rcases src6 with ⟨rfl, hx⟩ | ⟨ad, rfl, hc⟩
      · have hq0 : q = 0 := by have h := nil_len hx; rw [List.length_take_of_le (by have := HN.out; omega)] at h; exact h
        refine Keep.wp_append_nothing _ (.tmp 51) (.tmp 54) 22 rfl w0.heap.size 3 i3 1 Try.underlying22 hi3 _ m1 ((zs.drop q).map (Value.int .i64)) ((Step.putE hA rfl (Nat.lt_of_sub_eq_succ rfl)).trans d3) ho3 c6 ?x1 ?x2
        case x1 => rw [(Step.putE hA rfl (Nat.lt_of_sub_eq_succ rfl)).trans d6]; congr 1
        case x2 =>
          have e2 : n = m1 := by omega
          refine hK _ _ ⟨_, ho3, ⟨rfl, rfl, rfl, Nat.le_refl _, fun _ _ _ => rfl⟩, ho3, own_ge ho3⟩ ⟨A3, c3, by rw [e2], ?_⟩
          rw [hx, List.append_nil, e2]; exact ho3
      · refine Keep.wp_append_keep _ (.tmp 51) (.tmp 54) 22 rfl w0.heap.size 3 i3 (.int .i64 0) 1 8 Try.underlying22 hi3 hy0 hy1 hy2 rfl (by decide) _ m1 ((zs.drop q).map (Value.int .i64)) ((Step.putE hA rfl (Nat.lt_of_sub_eq_succ rfl)).trans d3) ho3 ad q c6 ((zs.take q).map (Value.int .i64)) ((Step.putE hA rfl (Nat.lt_of_sub_eq_succ rfl)).trans d6) (by rw [List.length_map, List.length_take_of_le (by have := HN.out; omega), Nat.mul_one]) (fun j u h => src_below hG (hc j u h)) int_one ?c1 ?c2 hG.size ?c3
        case c1 => unfold maxLen; omega
        case c2 => omega
        case c3 =>
          intro v' w' ho hgr hk
          rw [show m1 + q = n by omega] at ho
          obtain ⟨A, c, rfl, -⟩ := own_form ho
          exact hK _ _ ⟨_, ho3, hgr, hk, own_ge ho3⟩ ⟨A, c, rfl, ho⟩
    · intro vals W K hG hU hV hK
      simp only [if_true] at hK
      have d0 := hV 0 (by simp)
      simp only [olV] at d0
      have d1 := hV 1 (by simp)
      simp only [olV] at d1
      have d4 := hV 4 (by simp)
      simp only [olV] at d4
      have d5 := hV 5 (by simp)
      simp only [olV] at d5
      have d7 := hV 7 (by simp)
      simp only [olV] at d7
      obtain ⟨A7, c7, d7, ho7⟩ := d7
      simp only [Reg.putS, List.foldl, List.headD, List.tail, List.getD_cons_zero, List.getD_cons_succ, Act.put, List.setIfInBounds_toArray, List.set_cons_zero, List.set_cons_succ, d0, d1, d4, d5, d7] at hK ⊢
      go_simp
      exact hK _ _ (Below.refl _ _) ⟨A7, c7, rfl, ho7⟩
  · intro vals W hG hV
    rw [show List.range (List.length [some 48, some 49, some 50, some 51, some 52, some 53, some 54, some 55, some 8]) = [0, 1, 2, 3, 4, 5, 6, 7, 8] from rfl]
    have d0 := hV 0 (by decide)
    simp only [olV] at d0
    have d1 := hV 1 (by decide)
    simp only [olV] at d1
    have d2 := hV 2 (by decide)
    simp only [olV] at d2
    obtain ⟨A2, c2, d2, src2⟩ := d2
    have d3 := hV 3 (by decide)
    simp only [olV] at d3
    obtain ⟨A3, c3, d3, ho3⟩ := d3
    have d4 := hV 4 (by decide)
    simp only [olV] at d4
    have d5 := hV 5 (by decide)
    simp only [olV] at d5
    have d6 := hV 6 (by decide)
    simp only [olV] at d6
    obtain ⟨A6, c6, d6, src6⟩ := d6
    have d7 := hV 7 (by decide)
    simp only [olV] at d7
    obtain ⟨A7, c7, d7, ho7⟩ := d7
    have d8 := hV 8 (by decide)
    simp only [olV] at d8
    obtain ⟨A8, c8, d8, ho8⟩ := d8
    clear hV
    simp only [Reg.putS, List.foldl, List.getD_cons_zero, List.getD_cons_succ, Act.put, List.setIfInBounds_toArray, List.set_cons_zero, List.set_cons_succ, d0, d1, d2, d3, d4, d5, d6, d7, d8]
    clear d0 d1 d2 d3 d4 d5 d6 d7 d8
    clear src2 src6 ho3 ho7 src2i
    obtain ⟨xs, hxs, hxe⟩ : ∃ xs, (zs.drop q).map (Value.int .i64) ++ (zs.take q).map (Value.int .i64) = xs.map (Value.int .i64) ∧ xs = zs.drop q ++ zs.take q := ⟨_, by rw [List.map_append], rfl⟩
    have hperm : Hid (zs.Perm xs) := by
      show zs.Perm xs
      rw [hxe]
      have := List.perm_append_comm (l₁ := zs.take q) (l₂ := zs.drop q)
      rw [List.take_append_drop] at this
      exact this
    rw [hxs] at ho8
    have hat8 := (ints_own ho8).2
    have hof := OF.out xs A8 c8 hperm.out W hat8
    have hA2 := hA.below hG
    have hat3 := hat2.below hG
    have b4 := bstep b3 hG
    clear ho8 hxs hxe hA hat2 b3 hG OF
    go_wp2_with fail
    refine hof.mono ?_
    rintro e w4 ⟨B, cB, rfl, hB, b5⟩
    have hA4 := hA2.below b5
    have hat4 := hat3.below b5
    have hat9 := hat8.below b5
    have b6 := bstep b4 b5
    have k1 := WT.out xs B A8 cB c8 hperm.out w4 hB hat9
    clear hof hA2 hat3 hat8 b4 b5
    go_wp2_with fail
    refine k1.mono ?_
    rintro e w5 ⟨rfl, e1⟩
    have hA5 := hA4.below e1
    have hat5 := hat4.below e1
    have hB5 := hB.below e1
    have b7 := bstep b6 e1
    have k2 := WT.out zs A (some ⟨b, off, none⟩) cA cap (List.Perm.refl _) w5 hA5 hat5
    clear k1 e1 b6 hA4 hat4 hB hat9
    go_wp2_with fail
    refine k2.mono ?_
    rintro e w6 ⟨rfl, e1⟩
    have hA6 := hA5.below e1
    have hB6 := hB5.below e1
    have b8 := bstep b7 e1
    have k3 := KR.out xs B cB hperm.out w6 hB6
    clear k2 e1 b7 hA5 hat5 hB5
    go_wp2_with fail
    refine k3.mono ?_
    rintro e w7 ⟨rfl, e1⟩
    have hA7 := hA6.below e1
    have b9 := bstep b8 e1
    have k4 := KR.out zs A cA (List.Perm.refl _) w7 hA7
    clear k3 e1 b8 hA6 hB6
    go_wp2_with fail
    refine k4.mono ?_
    rintro e w8 ⟨rfl, e1⟩
    have b10 := bstep b9 e1
    clear k4 e1 b9 hA7
    go_wp2
    go_ret
    exact ⟨rfl, b10⟩

set_option maxHeartbeats 1000000 in
set_option maxRecDepth 100000 in
theorem ols_none (n cap : Nat) (k : Int) (zs : List Int) (w : World) (hn : n = zs.length) (hcap : n ≤ cap) (hn60 : n ≤ 60) (hat : IntsAt w (none) zs) (he : errP (15 : Nat) zs = 0) :
    Calls Try.prog 9 #[.slice (none) n cap, .int .i64 k] w fun e w' => e = .returned (.bool true) ∧ RowKit.Below w.heap.size w w' := by
  obtain ⟨i3, hi3, hy0, hy1, hy2⟩ := info_parts info3
  have d1 : decide ((n : Int) > 60) = false := decide_eq_false (by omega)
  obtain ⟨m', hm', hm1', _, hbad, _, hfit⟩ := err_zero he
  obtain rfl : 15 = m' := by omega
  have hzb : ∀ zs' : List Int, zs.Perm zs' → ∀ z ∈ zs', 0 ≤ z ∧ z ≤ 4294967296 := fun zs' hp z hz => by have := bad_each hbad z (hp.mem_iff.2 hz); omega
  have OF : Aside (∀ (zs' : List Int) (A : Option Addr) (cap : Nat), zs.Perm zs' → ∀ W, IntsAt W A zs' → Calls Try.prog 15 #[.int .i64 15, .slice A n cap] W fun e w' => ∃ A c', e = .returned (.tuple #[.slice A n c', .int .i64 0]) ∧ IntsAt w' A (intsOf (lensP 15 zs')) ∧ RowKit.Below W.heap.size W w') := by
    intro zs' A cap hp W h
    refine (of_good (mo := 15) A n cap _ W (by rw [hn, hp.length_eq]) h (by rw [← err_perm hp]; exact he)).mono ?_
    rintro e w' ⟨A, c', rfl, ho, hb⟩
    exact ⟨A, c', rfl, (ints_of_own ho).2, hb⟩
  have WT : Aside (∀ (zs' : List Int) (A V : Option Addr) (c1 c2 : Nat), zs.Perm zs' → ∀ W, IntsAt W A (intsOf (lensP 15 zs')) → IntsAt W V zs' → Calls Try.prog 20 #[.slice A n c1, .slice V n c2] W fun e w' => e = .returned (.int .i64 (weightP (intsOf (lensP 15 zs)) zs)) ∧ RowKit.Below W.heap.size W w') := by
    intro zs' A V c1 c2 hp W h h'
    have := weight_of (most := 15) (n := n) (c1 := c1) (c2 := c2) (by rw [← err_perm hp]; exact he) (by rw [hn, hp.length_eq]) rfl h h' (hzb zs' hp)
    rw [(lens_perm hm1' hfit hp).1] at this
    exact this
  have KR : Aside (∀ (zs' : List Int) (A : Option Addr) (c1 : Nat), zs.Perm zs' → ∀ W, IntsAt W A (intsOf (lensP 15 zs')) → Calls Try.prog 21 #[.slice A n c1] W fun e w' => e = .returned (.int .i64 (kraftP (intsOf (lensP 15 zs)))) ∧ RowKit.Below W.heap.size W w') := by
    intro zs' A c1 hp W h
    have := kraft_call A n c1 _ W (by rw [intsOf_length, lensP_length, hn, hp.length_eq]) h (by omega)
    rw [(lens_perm hm1' hfit hp).2] at this
    exact this
  have HN : Hid (n = zs.length) := hn
  have hof := OF.out zs (none) cap (List.Perm.refl _)
  have HOF : Aside _ := hof
  obtain ⟨W1, hW1⟩ : ∃ x, weightP (intsOf (lensP 15 zs)) zs = x := ⟨_, rfl⟩
  obtain ⟨K1, hK1⟩ : ∃ x, kraftP (intsOf (lensP 15 zs)) = x := ⟨_, rfl⟩
  rw [hW1] at WT
  rw [hK1] at KR
  have dW : (W1 != W1) = false := by simp
  have dK : (K1 != K1) = false := by simp
  have dnn : ((n : Int) != (n : Int)) = false := by simp
  obtain ⟨r1, hr1⟩ : ∃ r1 : Int, Int.tmod k ((n : Int) + 1) = r1 := ⟨_, rfl⟩
  have hr1b : -(n : Int) ≤ r1 ∧ r1 ≤ n := by
    rw [← hr1]
    exact tmod_range k (by omega)
  obtain ⟨q, hq, hqn⟩ : ∃ q : Nat, Int.tmod (r1 + n + 1) ((n : Int) + 1) = (q : Int) ∧ q ≤ n := by
    refine ⟨(Int.tmod (r1 + n + 1) ((n : Int) + 1)).toNat, ?_, ?_⟩
    · have := tmod_pos (r1 + n + 1) n (by omega); omega
    · have := tmod_pos (r1 + n + 1) n (by omega); omega
  have z1 : IntKind.i64.wrap ((n : Int) + 1) = (n : Int) + 1 := by rw [IntKind.wrap_i64]; omega
  have z2 : IntKind.i64.wrap (r1 + (n : Int)) = r1 + n := by rw [IntKind.wrap_i64]; omega
  have z3 : IntKind.i64.wrap (r1 + (n : Int) + 1) = r1 + n + 1 := by rw [IntKind.wrap_i64]; omega
  have z4 : IntKind.i64.wrap r1 = r1 := by rw [IntKind.wrap_i64]; omega
  have z5 : IntKind.i64.wrap (q : Int) = q := by rw [IntKind.wrap_i64]; omega
  obtain ⟨m1, hm1⟩ : ∃ m1, (zs.drop q).length = m1 := ⟨_, rfl⟩
  have hm1q : m1 + q ≤ n ∧ n ≤ m1 + q := by rw [List.length_drop] at hm1; omega
  have hm1 : Hid ((zs.drop q).length = m1) := hm1
  clear hof hn he hm' hbad hfit hzb hW1 hK1
  go_enter Try.func9, Try.ntmps9
  go_wp2_with fail
  refine (alive_call _).mono ?_
  rintro e w1 ⟨rfl, b1⟩
  have hat1 := hat.below b1
  have hofw := HOF.out w1 hat1
  clear HOF hat
  go_wp2_with fail
  refine hofw.mono ?_
  rintro e w0 ⟨A, cA, rfl, hA, b2⟩
  have hat2 := hat1.below b2
  have b3 := bstep b1 b2
  clear hofw hat1 b1 b2
  go_wp2_with fail
  have hqN : (q : Int) ≤ (n : Int) := by omega
  have hqC : (q : Int) ≤ (cap : Int) := by omega
  have hz : zs = [] := by
    refine List.eq_nil_of_length_eq_zero ?_
    rcases Nat.eq_zero_or_pos zs.length with h | h
    · exact h
    · obtain ⟨_, _, e, _⟩ := hat2 h
      cases e
  have src2 : SrcI w0 none ((zs.drop q).map (Value.int .i64)) := .inl ⟨rfl, by rw [hz]; simp⟩
  have src6 : SrcI w0 none ((zs.take q).map (Value.int .i64)) := .inl ⟨rfl, by rw [hz]; simp⟩
  clear hz
  refine RegU.wp_region_lists (RowKit.Below w0.heap.size w0) (fun _ _ => True) (olR w0.heap.size m1 ((zs.drop q).map (Value.int .i64))) (fun i => i) (olV w0.heap.size w0 (.slice none n cap) n q m1 zs)
    [some 48, some 49, some 50, some 51, some 52, some 53, some 54, some 55, some 8]
    [[], [], [0, 1], [2], [], [], [4, 5], [3, 6, 3], [7, 7, 0, 1, 2, 3, 4, 5, 6, 7]]
    (by kernel_rfl) (by kernel_rfl) (by kernel_rfl) (fun i => .inl rfl) ?_ ?_ ?_ ?_ ?_ ?_ ?_
  · exact ⟨rfl, rfl, rfl, Nat.le_refl _, fun _ _ => rfl⟩
  · intro i; trivial
  · intro i W W' h k2; exact olG_stay h k2
  · intros; trivial
  · intro j i p v W W' h1 h2 h3 h4; refine olV_stay ?_ ?_ h3 h4
    · rintro ⟨rfl, rfl⟩; exact h1 rfl
    · rintro ⟨rfl, rfl⟩; exact h2 (by decide)
  · refine ⟨?_, ?_, ?_, ?_, ?_, ?_, ?_, ?_, ?_, trivial⟩
    · intro vals W K hG hU hV hK
      simp only [if_true] at hK
      simp only [Reg.putS, List.foldl, List.headD, List.tail, List.getD_cons_zero, List.getD_cons_succ, Act.put, List.setIfInBounds_toArray, List.set_cons_zero, List.set_cons_succ] at hK ⊢
      go_simp
      first
        | exact hK _ _ (Below.refl _ _) rfl
        | (rw [if_pos (by omega)]; exact hK _ _ (Below.refl _ _) rfl)
        | (rw [dif_pos (by omega)]; exact hK _ _ (Below.refl _ _) rfl)
        | (rw [if_neg (by omega)]; exact hK _ _ (Below.refl _ _) rfl)
    · intro vals W K hG hU hV hK
      simp only [if_true] at hK
      simp only [Reg.putS, List.foldl, List.headD, List.tail, List.getD_cons_zero, List.getD_cons_succ, Act.put, List.setIfInBounds_toArray, List.set_cons_zero, List.set_cons_succ] at hK ⊢
      go_simp
      first
        | exact hK _ _ (Below.refl _ _) rfl
        | (rw [if_pos (by omega)]; exact hK _ _ (Below.refl _ _) rfl)
        | (rw [dif_pos (by omega)]; exact hK _ _ (Below.refl _ _) rfl)
        | (rw [if_neg (by omega)]; exact hK _ _ (Below.refl _ _) rfl)
    · intro vals W K hG hU hV hK
      simp only [if_true] at hK
      have d0 := hV 0 (by simp)
      simp only [olV] at d0
      have d1 := hV 1 (by simp)
      simp only [olV] at d1
      simp only [Reg.putS, List.foldl, List.headD, List.tail, List.getD_cons_zero, List.getD_cons_succ, Act.put, List.setIfInBounds_toArray, List.set_cons_zero, List.set_cons_succ, d0, d1] at hK ⊢
      go_simp
      exact hK _ _ (Below.refl _ _) ⟨none, _, by rw [show n - q = m1 by omega], src2⟩
    · refine Step.step_of ?g ?_
      case g => rfl
      intro A vals W K hA hG hU hV hK
      simp only [if_true] at hK
      have d2 := hV 2 (by simp)
      simp only [olV] at d2
      obtain ⟨A2, c2, d2, src2⟩ := d2
      rcases src2 with ⟨rfl, hx⟩ | ⟨ad, rfl, hc⟩
      · have hm0 : m1 = 0 := by rw [← hm1.out]; exact nil_len hx
        refine Keep.wp_append_nothing _ (.const (.slice none 0 0)) (.tmp 50) 22 rfl w0.heap.size 3 i3 1 Try.underlying22 hi3 (.slice none 0 0) 0 [] rfl (World.ownsRow_nil _ _ _ _) c2 ?x1 ?x2
        case x1 => rw [(Step.putE hA rfl (Nat.lt_of_sub_eq_succ rfl)).trans d2, hm0]
        case x2 => exact hK _ _ (Below.refl _ _) ⟨none, 0, by rw [hm0], by rw [hm0, hx]; exact World.ownsRow_nil _ _ _ _⟩
      · refine Keep.wp_append_keep _ (.const (.slice none 0 0)) (.tmp 50) 22 rfl w0.heap.size 3 i3 (.int .i64 0) 1 8 Try.underlying22 hi3 hy0 hy1 hy2 rfl (by decide) _ 0 [] rfl (World.ownsRow_nil _ _ _ _) ad m1 c2 ((zs.drop q).map (Value.int .i64)) ((Step.putE hA rfl (Nat.lt_of_sub_eq_succ rfl)).trans d2) (by rw [List.length_map, hm1.out, Nat.mul_one]) (fun j u h => src_below hG (hc j u h)) int_one ?c1 ?c2 hG.size ?c3
        case c1 => unfold maxLen; omega
        case c2 => omega
        case c3 =>
          intro v' w' ho hgr _
          rw [Nat.zero_add, List.nil_append] at ho
          obtain ⟨A, c, rfl, -⟩ := own_form ho
          exact hK _ _ ((Below.refl _ _).grown hgr (Nat.le_refl _) (fun k hk => by cases hk)) ⟨A, c, rfl, ho⟩
    · intro vals W K hG hU hV hK
      simp only [if_true] at hK
      simp only [Reg.putS, List.foldl, List.headD, List.tail, List.getD_cons_zero, List.getD_cons_succ, Act.put, List.setIfInBounds_toArray, List.set_cons_zero, List.set_cons_succ] at hK ⊢
      go_simp
      first
        | exact hK _ _ (Below.refl _ _) rfl
        | (rw [if_pos (by omega)]; exact hK _ _ (Below.refl _ _) rfl)
        | (rw [dif_pos (by omega)]; exact hK _ _ (Below.refl _ _) rfl)
        | (rw [if_neg (by omega)]; exact hK _ _ (Below.refl _ _) rfl)
    · intro vals W K hG hU hV hK
      simp only [if_true] at hK
      simp only [Reg.putS, List.foldl, List.headD, List.tail, List.getD_cons_zero, List.getD_cons_succ, Act.put, List.setIfInBounds_toArray, List.set_cons_zero, List.set_cons_succ] at hK ⊢
      go_simp
      first
        | exact hK _ _ (Below.refl _ _) rfl
        | (rw [if_pos (by omega)]; exact hK _ _ (Below.refl _ _) rfl)
        | (rw [dif_pos (by omega)]; exact hK _ _ (Below.refl _ _) rfl)
        | (rw [if_neg (by omega)]; exact hK _ _ (Below.refl _ _) rfl)
    · intro vals W K hG hU hV hK
      simp only [if_true] at hK
      have d4 := hV 4 (by simp)
      simp only [olV] at d4
      have d5 := hV 5 (by simp)
      simp only [olV] at d5
      simp only [Reg.putS, List.foldl, List.headD, List.tail, List.getD_cons_zero, List.getD_cons_succ, Act.put, List.setIfInBounds_toArray, List.set_cons_zero, List.set_cons_succ, d4, d5] at hK ⊢
      go_simp
      exact hK _ _ (Below.refl _ _) ⟨none, _, rfl, src6⟩
    · refine Step.step_of ?g ?_
      case g => rfl
      intro A vals W K hA hG hU hV hK
      simp only [if_true] at hK
      have d3 := hV 3 (by simp)
      simp only [olV] at d3
      obtain ⟨A3, c3, d3, ho3⟩ := d3
      have d6 := hV 6 (by simp)
      simp only [olV] at d6
      obtain ⟨A6, c6, d6, src6⟩ := d6
      rcases src6 with ⟨rfl, hx⟩ | ⟨ad, rfl, hc⟩
      · have hq0 : q = 0 := by have h := nil_len hx; rw [List.length_take_of_le (by have := HN.out; omega)] at h; exact h
        refine Keep.wp_append_nothing _ (.tmp 51) (.tmp 54) 22 rfl w0.heap.size 3 i3 1 Try.underlying22 hi3 _ m1 ((zs.drop q).map (Value.int .i64)) ((Step.putE hA rfl (Nat.lt_of_sub_eq_succ rfl)).trans d3) ho3 c6 ?x1 ?x2
        case x1 => rw [(Step.putE hA rfl (Nat.lt_of_sub_eq_succ rfl)).trans d6]; congr 1
        case x2 =>
          have e2 : n = m1 := by omega
          refine hK _ _ ⟨_, ho3, ⟨rfl, rfl, rfl, Nat.le_refl _, fun _ _ _ => rfl⟩, ho3, own_ge ho3⟩ ⟨A3, c3, by rw [e2], ?_⟩
          rw [hx, List.append_nil, e2]; exact ho3
      · refine Keep.wp_append_keep _ (.tmp 51) (.tmp 54) 22 rfl w0.heap.size 3 i3 (.int .i64 0) 1 8 Try.underlying22 hi3 hy0 hy1 hy2 rfl (by decide) _ m1 ((zs.drop q).map (Value.int .i64)) ((Step.putE hA rfl (Nat.lt_of_sub_eq_succ rfl)).trans d3) ho3 ad q c6 ((zs.take q).map (Value.int .i64)) ((Step.putE hA rfl (Nat.lt_of_sub_eq_succ rfl)).trans d6) (by rw [List.length_map, List.length_take_of_le (by have := HN.out; omega), Nat.mul_one]) (fun j u h => src_below hG (hc j u h)) int_one ?c1 ?c2 hG.size ?c3
        case c1 => unfold maxLen; omega
        case c2 => omega
        case c3 =>
          intro v' w' ho hgr hk
          rw [show m1 + q = n by omega] at ho
          obtain ⟨A, c, rfl, -⟩ := own_form ho
          exact hK _ _ ⟨_, ho3, hgr, hk, own_ge ho3⟩ ⟨A, c, rfl, ho⟩
    · intro vals W K hG hU hV hK
      simp only [if_true] at hK
      have d0 := hV 0 (by simp)
      simp only [olV] at d0
      have d1 := hV 1 (by simp)
      simp only [olV] at d1
      have d4 := hV 4 (by simp)
      simp only [olV] at d4
      have d5 := hV 5 (by simp)
      simp only [olV] at d5
      have d7 := hV 7 (by simp)
      simp only [olV] at d7
      obtain ⟨A7, c7, d7, ho7⟩ := d7
      simp only [Reg.putS, List.foldl, List.headD, List.tail, List.getD_cons_zero, List.getD_cons_succ, Act.put, List.setIfInBounds_toArray, List.set_cons_zero, List.set_cons_succ, d0, d1, d4, d5, d7] at hK ⊢
      go_simp
      exact hK _ _ (Below.refl _ _) ⟨A7, c7, rfl, ho7⟩
  · intro vals W hG hV
    rw [show List.range (List.length [some 48, some 49, some 50, some 51, some 52, some 53, some 54, some 55, some 8]) = [0, 1, 2, 3, 4, 5, 6, 7, 8] from rfl]
    have d0 := hV 0 (by decide)
    simp only [olV] at d0
    have d1 := hV 1 (by decide)
    simp only [olV] at d1
    have d2 := hV 2 (by decide)
    simp only [olV] at d2
    obtain ⟨A2, c2, d2, src2⟩ := d2
    have d3 := hV 3 (by decide)
    simp only [olV] at d3
    obtain ⟨A3, c3, d3, ho3⟩ := d3
    have d4 := hV 4 (by decide)
    simp only [olV] at d4
    have d5 := hV 5 (by decide)
    simp only [olV] at d5
    have d6 := hV 6 (by decide)
    simp only [olV] at d6
    obtain ⟨A6, c6, d6, src6⟩ := d6
    have d7 := hV 7 (by decide)
    simp only [olV] at d7
    obtain ⟨A7, c7, d7, ho7⟩ := d7
    have d8 := hV 8 (by decide)
    simp only [olV] at d8
    obtain ⟨A8, c8, d8, ho8⟩ := d8
    clear hV
    simp only [Reg.putS, List.foldl, List.getD_cons_zero, List.getD_cons_succ, Act.put, List.setIfInBounds_toArray, List.set_cons_zero, List.set_cons_succ, d0, d1, d2, d3, d4, d5, d6, d7, d8]
    clear d0 d1 d2 d3 d4 d5 d6 d7 d8
    clear src2 src6 ho3 ho7
    obtain ⟨xs, hxs, hxe⟩ : ∃ xs, (zs.drop q).map (Value.int .i64) ++ (zs.take q).map (Value.int .i64) = xs.map (Value.int .i64) ∧ xs = zs.drop q ++ zs.take q := ⟨_, by rw [List.map_append], rfl⟩
    have hperm : Hid (zs.Perm xs) := by
      show zs.Perm xs
      rw [hxe]
      have := List.perm_append_comm (l₁ := zs.take q) (l₂ := zs.drop q)
      rw [List.take_append_drop] at this
      exact this
    rw [hxs] at ho8
    have hat8 := (ints_own ho8).2
    have hof := OF.out xs A8 c8 hperm.out W hat8
    have hA2 := hA.below hG
    have hat3 := hat2.below hG
    have b4 := bstep b3 hG
    clear ho8 hxs hxe hA hat2 b3 hG OF
    go_wp2_with fail
    refine hof.mono ?_
    rintro e w4 ⟨B, cB, rfl, hB, b5⟩
    have hA4 := hA2.below b5
    have hat4 := hat3.below b5
    have hat9 := hat8.below b5
    have b6 := bstep b4 b5
    have k1 := WT.out xs B A8 cB c8 hperm.out w4 hB hat9
    clear hof hA2 hat3 hat8 b4 b5
    go_wp2_with fail
    refine k1.mono ?_
    rintro e w5 ⟨rfl, e1⟩
    have hA5 := hA4.below e1
    have hat5 := hat4.below e1
    have hB5 := hB.below e1
    have b7 := bstep b6 e1
    have k2 := WT.out zs A (none) cA cap (List.Perm.refl _) w5 hA5 hat5
    clear k1 e1 b6 hA4 hat4 hB hat9
    go_wp2_with fail
    refine k2.mono ?_
    rintro e w6 ⟨rfl, e1⟩
    have hA6 := hA5.below e1
    have hB6 := hB5.below e1
    have b8 := bstep b7 e1
    have k3 := KR.out xs B cB hperm.out w6 hB6
    clear k2 e1 b7 hA5 hat5 hB5
    go_wp2_with fail
    refine k3.mono ?_
    rintro e w7 ⟨rfl, e1⟩
    have hA7 := hA6.below e1
    have b9 := bstep b8 e1
    have k4 := KR.out zs A cA (List.Perm.refl _) w7 hA7
    clear k3 e1 b8 hA6 hB6
    go_wp2_with fail
    refine k4.mono ?_
    rintro e w8 ⟨rfl, e1⟩
    have b10 := bstep b9 e1
    clear k4 e1 b9 hA7
    go_wp2
    go_ret
    exact ⟨rfl, b10⟩

set_option maxHeartbeats 1000000 in
set_option maxRecDepth 100000 in
theorem ols_any (ad0 : Addr) (n cap : Nat) (k : Int) (zs : List Int) (w : World) (hn : n = zs.length) (hcap : n ≤ cap) (hn60 : n ≤ 60) (hzz : Hid (zs = [])) (hat : IntsAt w (some ad0) zs) (he : errP (15 : Nat) zs = 0) :
    Calls Try.prog 9 #[.slice (some ad0) n cap, .int .i64 k] w fun e w' => e = .returned (.bool true) ∧ RowKit.Below w.heap.size w w' := by
  obtain ⟨i3, hi3, hy0, hy1, hy2⟩ := info_parts info3
  have d1 : decide ((n : Int) > 60) = false := decide_eq_false (by omega)
  obtain ⟨m', hm', hm1', _, hbad, _, hfit⟩ := err_zero he
  obtain rfl : 15 = m' := by omega
  have hzb : ∀ zs' : List Int, zs.Perm zs' → ∀ z ∈ zs', 0 ≤ z ∧ z ≤ 4294967296 := fun zs' hp z hz => by have := bad_each hbad z (hp.mem_iff.2 hz); omega
  have OF : Aside (∀ (zs' : List Int) (A : Option Addr) (cap : Nat), zs.Perm zs' → ∀ W, IntsAt W A zs' → Calls Try.prog 15 #[.int .i64 15, .slice A n cap] W fun e w' => ∃ A c', e = .returned (.tuple #[.slice A n c', .int .i64 0]) ∧ IntsAt w' A (intsOf (lensP 15 zs')) ∧ RowKit.Below W.heap.size W w') := by
    intro zs' A cap hp W h
    refine (of_good (mo := 15) A n cap _ W (by rw [hn, hp.length_eq]) h (by rw [← err_perm hp]; exact he)).mono ?_
    rintro e w' ⟨A, c', rfl, ho, hb⟩
    exact ⟨A, c', rfl, (ints_of_own ho).2, hb⟩
  have WT : Aside (∀ (zs' : List Int) (A V : Option Addr) (c1 c2 : Nat), zs.Perm zs' → ∀ W, IntsAt W A (intsOf (lensP 15 zs')) → IntsAt W V zs' → Calls Try.prog 20 #[.slice A n c1, .slice V n c2] W fun e w' => e = .returned (.int .i64 (weightP (intsOf (lensP 15 zs)) zs)) ∧ RowKit.Below W.heap.size W w') := by
    intro zs' A V c1 c2 hp W h h'
    have := weight_of (most := 15) (n := n) (c1 := c1) (c2 := c2) (by rw [← err_perm hp]; exact he) (by rw [hn, hp.length_eq]) rfl h h' (hzb zs' hp)
    rw [(lens_perm hm1' hfit hp).1] at this
    exact this
  have KR : Aside (∀ (zs' : List Int) (A : Option Addr) (c1 : Nat), zs.Perm zs' → ∀ W, IntsAt W A (intsOf (lensP 15 zs')) → Calls Try.prog 21 #[.slice A n c1] W fun e w' => e = .returned (.int .i64 (kraftP (intsOf (lensP 15 zs)))) ∧ RowKit.Below W.heap.size W w') := by
    intro zs' A c1 hp W h
    have := kraft_call A n c1 _ W (by rw [intsOf_length, lensP_length, hn, hp.length_eq]) h (by omega)
    rw [(lens_perm hm1' hfit hp).2] at this
    exact this
  have HN : Hid (n = zs.length) := hn
  have hof := OF.out zs (some ad0) cap (List.Perm.refl _)
  have HOF : Aside _ := hof
  obtain ⟨W1, hW1⟩ : ∃ x, weightP (intsOf (lensP 15 zs)) zs = x := ⟨_, rfl⟩
  obtain ⟨K1, hK1⟩ : ∃ x, kraftP (intsOf (lensP 15 zs)) = x := ⟨_, rfl⟩
  rw [hW1] at WT
  rw [hK1] at KR
  have dW : (W1 != W1) = false := by simp
  have dK : (K1 != K1) = false := by simp
  have dnn : ((n : Int) != (n : Int)) = false := by simp
  obtain ⟨r1, hr1⟩ : ∃ r1 : Int, Int.tmod k ((n : Int) + 1) = r1 := ⟨_, rfl⟩
  have hr1b : -(n : Int) ≤ r1 ∧ r1 ≤ n := by
    rw [← hr1]
    exact tmod_range k (by omega)
  obtain ⟨q, hq, hqn⟩ : ∃ q : Nat, Int.tmod (r1 + n + 1) ((n : Int) + 1) = (q : Int) ∧ q ≤ n := by
    refine ⟨(Int.tmod (r1 + n + 1) ((n : Int) + 1)).toNat, ?_, ?_⟩
    · have := tmod_pos (r1 + n + 1) n (by omega); omega
    · have := tmod_pos (r1 + n + 1) n (by omega); omega
  have z1 : IntKind.i64.wrap ((n : Int) + 1) = (n : Int) + 1 := by rw [IntKind.wrap_i64]; omega
  have z2 : IntKind.i64.wrap (r1 + (n : Int)) = r1 + n := by rw [IntKind.wrap_i64]; omega
  have z3 : IntKind.i64.wrap (r1 + (n : Int) + 1) = r1 + n + 1 := by rw [IntKind.wrap_i64]; omega
  have z4 : IntKind.i64.wrap r1 = r1 := by rw [IntKind.wrap_i64]; omega
  have z5 : IntKind.i64.wrap (q : Int) = q := by rw [IntKind.wrap_i64]; omega
  obtain ⟨m1, hm1⟩ : ∃ m1, (zs.drop q).length = m1 := ⟨_, rfl⟩
  have hm1q : m1 + q ≤ n ∧ n ≤ m1 + q := by rw [List.length_drop] at hm1; omega
  have hm1 : Hid ((zs.drop q).length = m1) := hm1
  clear hof hn he hm' hbad hfit hzb hW1 hK1
  go_enter Try.func9, Try.ntmps9
  go_wp2_with fail
  refine (alive_call _).mono ?_
  rintro e w1 ⟨rfl, b1⟩
  have hat1 := hat.below b1
  have hofw := HOF.out w1 hat1
  clear HOF hat
  go_wp2_with fail
  refine hofw.mono ?_
  rintro e w0 ⟨A, cA, rfl, hA, b2⟩
  have hat2 := hat1.below b2
  have b3 := bstep b1 b2
  clear hofw hat1 b1 b2
  go_wp2_with fail
  have hqN : (q : Int) ≤ (n : Int) := by omega
  have hqC : (q : Int) ≤ (cap : Int) := by omega
  have src2 : ∀ A, SrcI w0 A ((zs.drop q).map (Value.int .i64)) := fun A => by
    have e : (zs.drop q).map (Value.int .i64) = [] := by rw [hzz.out]; simp
    rw [e]
    cases A with
    | none => exact .inl ⟨rfl, rfl⟩
    | some a => exact .inr ⟨a, rfl, fun j u hj => by simp at hj⟩
  have src6 : SrcI w0 (some ad0) ((zs.take q).map (Value.int .i64)) := .inr ⟨_, rfl, fun j u hj => by rw [hzz.out] at hj; simp at hj⟩
  refine RegU.wp_region_lists (RowKit.Below w0.heap.size w0) (fun _ _ => True) (olR w0.heap.size m1 ((zs.drop q).map (Value.int .i64))) (fun i => i) (olV w0.heap.size w0 (.slice (some ad0) n cap) n q m1 zs)
    [some 48, some 49, some 50, some 51, some 52, some 53, some 54, some 55, some 8]
    [[], [], [0, 1], [2], [], [], [4, 5], [3, 6, 3], [7, 7, 0, 1, 2, 3, 4, 5, 6, 7]]
    (by kernel_rfl) (by kernel_rfl) (by kernel_rfl) (fun i => .inl rfl) ?_ ?_ ?_ ?_ ?_ ?_ ?_
  · exact ⟨rfl, rfl, rfl, Nat.le_refl _, fun _ _ => rfl⟩
  · intro i; trivial
  · intro i W W' h k2; exact olG_stay h k2
  · intros; trivial
  · intro j i p v W W' h1 h2 h3 h4; refine olV_stay ?_ ?_ h3 h4
    · rintro ⟨rfl, rfl⟩; exact h1 rfl
    · rintro ⟨rfl, rfl⟩; exact h2 (by decide)
  · refine ⟨?_, ?_, ?_, ?_, ?_, ?_, ?_, ?_, ?_, trivial⟩
    · intro vals W K hG hU hV hK
      simp only [if_true] at hK
      simp only [Reg.putS, List.foldl, List.headD, List.tail, List.getD_cons_zero, List.getD_cons_succ, Act.put, List.setIfInBounds_toArray, List.set_cons_zero, List.set_cons_succ] at hK ⊢
      go_simp
      first
        | exact hK _ _ (Below.refl _ _) rfl
        | (rw [if_pos (by omega)]; exact hK _ _ (Below.refl _ _) rfl)
        | (rw [dif_pos (by omega)]; exact hK _ _ (Below.refl _ _) rfl)
        | (rw [if_neg (by omega)]; exact hK _ _ (Below.refl _ _) rfl)
    · intro vals W K hG hU hV hK
      simp only [if_true] at hK
      simp only [Reg.putS, List.foldl, List.headD, List.tail, List.getD_cons_zero, List.getD_cons_succ, Act.put, List.setIfInBounds_toArray, List.set_cons_zero, List.set_cons_succ] at hK ⊢
      go_simp
      first
        | exact hK _ _ (Below.refl _ _) rfl
        | (rw [if_pos (by omega)]; exact hK _ _ (Below.refl _ _) rfl)
        | (rw [dif_pos (by omega)]; exact hK _ _ (Below.refl _ _) rfl)
        | (rw [if_neg (by omega)]; exact hK _ _ (Below.refl _ _) rfl)
    · intro vals W K hG hU hV hK
      simp only [if_true] at hK
      have d0 := hV 0 (by simp)
      simp only [olV] at d0
      have d1 := hV 1 (by simp)
      simp only [olV] at d1
      simp only [Reg.putS, List.foldl, List.headD, List.tail, List.getD_cons_zero, List.getD_cons_succ, Act.put, List.setIfInBounds_toArray, List.set_cons_zero, List.set_cons_succ, d0, d1] at hK ⊢
      go_simp
      exact hK _ _ (Below.refl _ _) ⟨_, _, by rw [show n - q = m1 by omega], src2 _⟩
    · refine Step.step_of ?g ?_
      case g => rfl
      intro A vals W K hA hG hU hV hK
      simp only [if_true] at hK
      have d2 := hV 2 (by simp)
      simp only [olV] at d2
      obtain ⟨A2, c2, d2, src2⟩ := d2
      rcases src2 with ⟨rfl, hx⟩ | ⟨ad, rfl, hc⟩
      · have hm0 : m1 = 0 := by rw [← hm1.out]; exact nil_len hx
        refine Keep.wp_append_nothing _ (.const (.slice none 0 0)) (.tmp 50) 22 rfl w0.heap.size 3 i3 1 Try.underlying22 hi3 (.slice none 0 0) 0 [] rfl (World.ownsRow_nil _ _ _ _) c2 ?x1 ?x2
        case x1 => rw [(Step.putE hA rfl (Nat.lt_of_sub_eq_succ rfl)).trans d2, hm0]
        case x2 => exact hK _ _ (Below.refl _ _) ⟨none, 0, by rw [hm0], by rw [hm0, hx]; exact World.ownsRow_nil _ _ _ _⟩
      · refine Keep.wp_append_keep _ (.const (.slice none 0 0)) (.tmp 50) 22 rfl w0.heap.size 3 i3 (.int .i64 0) 1 8 Try.underlying22 hi3 hy0 hy1 hy2 rfl (by decide) _ 0 [] rfl (World.ownsRow_nil _ _ _ _) ad m1 c2 ((zs.drop q).map (Value.int .i64)) ((Step.putE hA rfl (Nat.lt_of_sub_eq_succ rfl)).trans d2) (by rw [List.length_map, hm1.out, Nat.mul_one]) (fun j u h => src_below hG (hc j u h)) int_one ?c1 ?c2 hG.size ?c3
        case c1 => unfold maxLen; omega
        case c2 => omega
        case c3 =>
          intro v' w' ho hgr _
          rw [Nat.zero_add, List.nil_append] at ho
          obtain ⟨A, c, rfl, -⟩ := own_form ho
          exact hK _ _ ((Below.refl _ _).grown hgr (Nat.le_refl _) (fun k hk => by cases hk)) ⟨A, c, rfl, ho⟩
    · intro vals W K hG hU hV hK
      simp only [if_true] at hK
      simp only [Reg.putS, List.foldl, List.headD, List.tail, List.getD_cons_zero, List.getD_cons_succ, Act.put, List.setIfInBounds_toArray, List.set_cons_zero, List.set_cons_succ] at hK ⊢
      go_simp
      first
        | exact hK _ _ (Below.refl _ _) rfl
        | (rw [if_pos (by omega)]; exact hK _ _ (Below.refl _ _) rfl)
        | (rw [dif_pos (by omega)]; exact hK _ _ (Below.refl _ _) rfl)
        | (rw [if_neg (by omega)]; exact hK _ _ (Below.refl _ _) rfl)
    · intro vals W K hG hU hV hK
      simp only [if_true] at hK
      simp only [Reg.putS, List.foldl, List.headD, List.tail, List.getD_cons_zero, List.getD_cons_succ, Act.put, List.setIfInBounds_toArray, List.set_cons_zero, List.set_cons_succ] at hK ⊢
      go_simp
      first
        | exact hK _ _ (Below.refl _ _) rfl
        | (rw [if_pos (by omega)]; exact hK _ _ (Below.refl _ _) rfl)
        | (rw [dif_pos (by omega)]; exact hK _ _ (Below.refl _ _) rfl)
        | (rw [if_neg (by omega)]; exact hK _ _ (Below.refl _ _) rfl)
    · intro vals W K hG hU hV hK
      simp only [if_true] at hK
      have d4 := hV 4 (by simp)
      simp only [olV] at d4
      have d5 := hV 5 (by simp)
      simp only [olV] at d5
      simp only [Reg.putS, List.foldl, List.headD, List.tail, List.getD_cons_zero, List.getD_cons_succ, Act.put, List.setIfInBounds_toArray, List.set_cons_zero, List.set_cons_succ, d4, d5] at hK ⊢
      go_simp
      exact hK _ _ (Below.refl _ _) ⟨_, _, rfl, src6⟩
    · refine Step.step_of ?g ?_
      case g => rfl
      intro A vals W K hA hG hU hV hK
      simp only [if_true] at hK
      have d3 := hV 3 (by simp)
      simp only [olV] at d3
      obtain ⟨A3, c3, d3, ho3⟩ := d3
      have d6 := hV 6 (by simp)
      simp only [olV] at d6
      obtain ⟨A6, c6, d6, src6⟩ := d6
      rcases src6 with ⟨rfl, hx⟩ | ⟨ad, rfl, hc⟩
      · have hq0 : q = 0 := by have h := nil_len hx; rw [List.length_take_of_le (by have := HN.out; omega)] at h; exact h
        refine Keep.wp_append_nothing _ (.tmp 51) (.tmp 54) 22 rfl w0.heap.size 3 i3 1 Try.underlying22 hi3 _ m1 ((zs.drop q).map (Value.int .i64)) ((Step.putE hA rfl (Nat.lt_of_sub_eq_succ rfl)).trans d3) ho3 c6 ?x1 ?x2
        case x1 => rw [(Step.putE hA rfl (Nat.lt_of_sub_eq_succ rfl)).trans d6]; congr 1
        case x2 =>
          have e2 : n = m1 := by omega
          refine hK _ _ ⟨_, ho3, ⟨rfl, rfl, rfl, Nat.le_refl _, fun _ _ _ => rfl⟩, ho3, own_ge ho3⟩ ⟨A3, c3, by rw [e2], ?_⟩
          rw [hx, List.append_nil, e2]; exact ho3
      · refine Keep.wp_append_keep _ (.tmp 51) (.tmp 54) 22 rfl w0.heap.size 3 i3 (.int .i64 0) 1 8 Try.underlying22 hi3 hy0 hy1 hy2 rfl (by decide) _ m1 ((zs.drop q).map (Value.int .i64)) ((Step.putE hA rfl (Nat.lt_of_sub_eq_succ rfl)).trans d3) ho3 ad q c6 ((zs.take q).map (Value.int .i64)) ((Step.putE hA rfl (Nat.lt_of_sub_eq_succ rfl)).trans d6) (by rw [List.length_map, List.length_take_of_le (by have := HN.out; omega), Nat.mul_one]) (fun j u h => src_below hG (hc j u h)) int_one ?c1 ?c2 hG.size ?c3
        case c1 => unfold maxLen; omega
        case c2 => omega
        case c3 =>
          intro v' w' ho hgr hk
          rw [show m1 + q = n by omega] at ho
          obtain ⟨A, c, rfl, -⟩ := own_form ho
          exact hK _ _ ⟨_, ho3, hgr, hk, own_ge ho3⟩ ⟨A, c, rfl, ho⟩
    · intro vals W K hG hU hV hK
      simp only [if_true] at hK
      have d0 := hV 0 (by simp)
      simp only [olV] at d0
      have d1 := hV 1 (by simp)
      simp only [olV] at d1
      have d4 := hV 4 (by simp)
      simp only [olV] at d4
      have d5 := hV 5 (by simp)
      simp only [olV] at d5
      have d7 := hV 7 (by simp)
      simp only [olV] at d7
      obtain ⟨A7, c7, d7, ho7⟩ := d7
      simp only [Reg.putS, List.foldl, List.headD, List.tail, List.getD_cons_zero, List.getD_cons_succ, Act.put, List.setIfInBounds_toArray, List.set_cons_zero, List.set_cons_succ, d0, d1, d4, d5, d7] at hK ⊢
      go_simp
      exact hK _ _ (Below.refl _ _) ⟨A7, c7, rfl, ho7⟩
  · intro vals W hG hV
    rw [show List.range (List.length [some 48, some 49, some 50, some 51, some 52, some 53, some 54, some 55, some 8]) = [0, 1, 2, 3, 4, 5, 6, 7, 8] from rfl]
    have d0 := hV 0 (by decide)
    simp only [olV] at d0
    have d1 := hV 1 (by decide)
    simp only [olV] at d1
    have d2 := hV 2 (by decide)
    simp only [olV] at d2
    obtain ⟨A2, c2, d2, src2⟩ := d2
    have d3 := hV 3 (by decide)
    simp only [olV] at d3
    obtain ⟨A3, c3, d3, ho3⟩ := d3
    have d4 := hV 4 (by decide)
    simp only [olV] at d4
    have d5 := hV 5 (by decide)
    simp only [olV] at d5
    have d6 := hV 6 (by decide)
    simp only [olV] at d6
    obtain ⟨A6, c6, d6, src6⟩ := d6
    have d7 := hV 7 (by decide)
    simp only [olV] at d7
    obtain ⟨A7, c7, d7, ho7⟩ := d7
    have d8 := hV 8 (by decide)
    simp only [olV] at d8
    obtain ⟨A8, c8, d8, ho8⟩ := d8
    clear hV
    simp only [Reg.putS, List.foldl, List.getD_cons_zero, List.getD_cons_succ, Act.put, List.setIfInBounds_toArray, List.set_cons_zero, List.set_cons_succ, d0, d1, d2, d3, d4, d5, d6, d7, d8]
    clear d0 d1 d2 d3 d4 d5 d6 d7 d8
    clear src2 src6 ho3 ho7
    obtain ⟨xs, hxs, hxe⟩ : ∃ xs, (zs.drop q).map (Value.int .i64) ++ (zs.take q).map (Value.int .i64) = xs.map (Value.int .i64) ∧ xs = zs.drop q ++ zs.take q := ⟨_, by rw [List.map_append], rfl⟩
    have hperm : Hid (zs.Perm xs) := by
      show zs.Perm xs
      rw [hxe]
      have := List.perm_append_comm (l₁ := zs.take q) (l₂ := zs.drop q)
      rw [List.take_append_drop] at this
      exact this
    rw [hxs] at ho8
    have hat8 := (ints_own ho8).2
    have hof := OF.out xs A8 c8 hperm.out W hat8
    have hA2 := hA.below hG
    have hat3 := hat2.below hG
    have b4 := bstep b3 hG
    clear ho8 hxs hxe hA hat2 b3 hG OF
    go_wp2_with fail
    refine hof.mono ?_
    rintro e w4 ⟨B, cB, rfl, hB, b5⟩
    have hA4 := hA2.below b5
    have hat4 := hat3.below b5
    have hat9 := hat8.below b5
    have b6 := bstep b4 b5
    have k1 := WT.out xs B A8 cB c8 hperm.out w4 hB hat9
    clear hof hA2 hat3 hat8 b4 b5
    go_wp2_with fail
    refine k1.mono ?_
    rintro e w5 ⟨rfl, e1⟩
    have hA5 := hA4.below e1
    have hat5 := hat4.below e1
    have hB5 := hB.below e1
    have b7 := bstep b6 e1
    have k2 := WT.out zs A (some ad0) cA cap (List.Perm.refl _) w5 hA5 hat5
    clear k1 e1 b6 hA4 hat4 hB hat9
    go_wp2_with fail
    refine k2.mono ?_
    rintro e w6 ⟨rfl, e1⟩
    have hA6 := hA5.below e1
    have hB6 := hB5.below e1
    have b8 := bstep b7 e1
    have k3 := KR.out xs B cB hperm.out w6 hB6
    clear k2 e1 b7 hA5 hat5 hB5
    go_wp2_with fail
    refine k3.mono ?_
    rintro e w7 ⟨rfl, e1⟩
    have hA7 := hA6.below e1
    have b9 := bstep b8 e1
    have k4 := KR.out zs A cA (List.Perm.refl _) w7 hA7
    clear k3 e1 b8 hA6 hB6
    go_wp2_with fail
    refine k4.mono ?_
    rintro e w8 ⟨rfl, e1⟩
    have b10 := bstep b9 e1
    clear k4 e1 b9 hA7
    go_wp2
    go_ret
    exact ⟨rfl, b10⟩

set_option maxHeartbeats 1000000 in
set_option maxRecDepth 100000 in
theorem ols_walk (V : Option Addr) (n cap : Nat) (zs : List Int) (k : Int) (w : World) (hin : Args.IntsIn .i64 w V n cap zs) (_hk : (Lit.int .i64 k).wf = true) :
    Calls Try.prog 9 #[.slice V n cap, .int .i64 k] w fun e w' => e = .returned (.bool true) ∧ RowKit.Below w.heap.size w w' := by
  have hat := intsAt_of hin
  have hn : n = zs.length := hin.len.symm
  have hsz := hin.size
  have hcap := hin.le
  clear _hk hin
  by_cases hbig : n > 60
  · have d1 : decide ((n : Int) > 60) = true := decide_eq_true (by omega)
    clear hat hn
    go_enter Try.func9, Try.ntmps9
    go_wp2_with fail
    refine (alive_call _).mono ?_
    rintro e w1 ⟨rfl, b1⟩
    go_wp2
    go_ret
    exact ⟨rfl, b1⟩
  have d1 : decide ((n : Int) > 60) = false := decide_eq_false (by omega)
  obtain ⟨E, hE⟩ : ∃ E, errP (15 : Nat) zs = E := ⟨_, rfl⟩
  by_cases h0 : E = 0
  · subst h0
    rcases V with _ | ad
    · exact ols_none n cap k zs w hn hcap (by omega) hat hE
    · by_cases hz : zs = []
      · exact ols_any ad n cap k zs w hn hcap (by omega) hz hat hE
      · obtain ⟨b, off, e, _, _⟩ := hat (List.length_pos_iff.2 hz)
        obtain rfl := Option.some.inj e
        exact ols_some b off n cap k zs w hn hcap (by omega) hat hE
  · have hof := fun (W : World) (h : IntsAt W V zs) => of_bad (mo := 15) V n cap zs W hn h hsz hE h0
    have HOF : Aside _ := hof
    have dE : ((E : Int) != 0) = true := by simp; omega
    clear hof hE hn h0
    go_enter Try.func9, Try.ntmps9
    go_wp2_with fail
    refine (alive_call _).mono ?_
    rintro e w1 ⟨rfl, b1⟩
    have hofw := HOF.out w1 (hat.below b1)
    clear HOF hat
    go_wp2_with fail
    refine hofw.mono ?_
    rintro e w2 ⟨rfl, b2⟩
    have b3 := bstep b1 b2
    clear hofw b1 b2
    go_wp2
    go_ret
    exact ⟨rfl, b3⟩
end Go.Proofs.Ythgidcfgelpkhaa
