/- LensZeros: the walk. -/
import Derived.Test.YthgidcfgelpkhaaLwOls
set_option linter.unusedVariables false
set_option linter.unusedSimpArgs false
namespace Go.Proofs.Ythgidcfgelpkhaa
open Go Go.Shelf Go.RowKit Go.Lib Go.Sort Go.Proofs Go.Proofs.Ythgidcfgelpkhaa.Base
def zeV (B : Nat) (w0 : World) (V0 : Value) (n q m1 : Nat) (zs : List Int) (i : Nat) (pv v : Value) (W : World) : Prop := match i with
  | 0 => v = V0
  | 1 => v = .int .i64 (q : Int)
  | 2 => ∃ A c, v = .slice A q c ∧ SrcI w0 A ((zs.take q).map (Value.int .i64))
  | 3 => (∃ A c, v = .slice A q c ∧ W.ownsRow B 3 1 (.slice A q c) q ((zs.take q).map (Value.int .i64))) ∧ (q = 0 → v = .slice none 0 0)
  | 4 => ∃ b, v = .slice (some ⟨b, 0, none⟩) 1 1 ∧ W.heap[b]? = some (.cells #[.int .i64 0] 3 (0, 0))
  | 5 => ∃ A c, v = .slice A (q + 1) c ∧ W.ownsRow B 3 1 (.slice A (q + 1) c) (q + 1) ((zs.take q ++ [0]).map (Value.int .i64))
  | 6 => v = V0
  | 7 => v = .int .i64 (q : Int)
  | 8 => ∃ A c, v = .slice A m1 c ∧ SrcI w0 A ((zs.drop q).map (Value.int .i64))
  | 9 => ∃ A c, v = .slice A (n + 1) c ∧ W.ownsRow B 3 1 (.slice A (n + 1) c) (n + 1) ((zs.take q ++ [0] ++ zs.drop q).map (Value.int .i64))
  | 10 => ∃ A c, v = .slice A (n + 1) c ∧ W.ownsRow B 3 1 (.slice A (n + 1) c) (n + 1) ((zs.take q ++ [0] ++ zs.drop q).map (Value.int .i64))
  | _ => True

def zeGrow (B nn : Nat) (xs : List Value) (W W' : World) : Prop := ∃ vv, W.ownsRow B 3 1 vv nn xs ∧ W.grownBy W' vv.ownBlock ∧ W'.ownsRow B 3 1 vv nn xs ∧ (∀ g, vv.ownBlock = some g → B ≤ g) ∧ (1 ≤ nn ∨ vv = .slice none 0 0)
def zeR (B q : Nat) (xs ys : List Value) (i : Nat) (W W' : World) : Prop := match i with
  | 5 => zeGrow B q xs W W'
  | 9 => zeGrow B (q + 1) ys W W'
  | _ => RowKit.Below W.heap.size W W'
theorem zeG_stay {q : Nat} {xs ys : List Value} {w0 : World} {i : Nat} {W W' : World} (h : RowKit.Below w0.heap.size w0 W) (k : zeR w0.heap.size q xs ys i W W') : RowKit.Below w0.heap.size w0 W' := by
  unfold zeR at k
  split at k
  · obtain ⟨vv, _, k2, _, k4, _⟩ := k
    exact h.grown k2 h.size k4
  · obtain ⟨vv, _, k2, _, k4, _⟩ := k
    exact h.grown k2 h.size k4
  · exact h.trans (k.mono h.size)
theorem zeV_stay {w0 : World} {V0 : Value} {n q m1 : Nat} {zs : List Int} (hq : q ≤ zs.length) {j i : Nat} {p v : Value} {W W' : World} (h1 : ¬ ((j = 5 ∧ i = 5) ∨ (j = 9 ∧ i = 9) ∨ (j = 9 ∧ i = 5) ∨ (j = 10 ∧ i = 5) ∨ (j = 10 ∧ i = 9)))
    (h3 : zeV w0.heap.size w0 V0 n q m1 zs j p v W) (h4 : zeR w0.heap.size q ((zs.take q).map (Value.int .i64)) ((zs.take q ++ [0]).map (Value.int .i64)) i W W') : zeV w0.heap.size w0 V0 n q m1 zs j p v W' := by
  have ht : ((zs.take q).map (Value.int .i64)).length = q := by rw [List.length_map, List.length_take_of_le hq]
  unfold zeV at h3 ⊢
  split at h3
  case h_4 =>
    obtain ⟨⟨A, c, e, ho⟩, hz⟩ := h3
    refine ⟨⟨A, c, e, ?_⟩, hz⟩
    unfold zeR at h4
    split at h4
    · obtain ⟨vv, k1, k2, k3, _⟩ := h4
      exact Keep.own_front ho k1 k2 (by decide) k3 (Nat.le_refl _) (by rw [← k1.1, List.take_length])
    · obtain ⟨vv, k1, k2, k3, _⟩ := h4
      exact Keep.own_front ho k1 k2 (by decide) k3 (Nat.le_succ _) (by rw [List.map_append, Nat.mul_one, List.take_left' ht])
    · exact own_below ho h4
  case h_5 =>
    obtain ⟨b, e, hb⟩ := h3
    refine ⟨b, e, ?_⟩
    unfold zeR at h4
    split at h4
    · obtain ⟨vv, k1, k2, k3, _, k5⟩ := h4
      exact Keep.cell_front hb k1 k2 k3 k5
    · obtain ⟨vv, k1, k2, k3, _, k5⟩ := h4
      exact Keep.cell_front hb k1 k2 k3 k5
    · exact heap_below h4 hb
  case h_6 =>
    obtain ⟨A, c, e, ho⟩ := h3
    refine ⟨A, c, e, ?_⟩
    unfold zeR at h4
    split at h4
    · exact absurd (.inl ⟨rfl, rfl⟩) h1
    · obtain ⟨vv, k1, k2, k3, _⟩ := h4
      exact Keep.own_front ho k1 k2 (by decide) k3 (Nat.le_refl _) (by rw [← k1.1, List.take_length])
    · exact own_below ho h4
  case h_10 =>
    obtain ⟨A, c, e, ho⟩ := h3
    refine ⟨A, c, e, ?_⟩
    unfold zeR at h4
    split at h4
    · exact absurd (.inr (.inr (.inl ⟨rfl, rfl⟩))) h1
    · exact absurd (.inr (.inl ⟨rfl, rfl⟩)) h1
    · exact own_below ho h4
  case h_11 =>
    obtain ⟨A, c, e, ho⟩ := h3
    refine ⟨A, c, e, ?_⟩
    unfold zeR at h4
    split at h4
    · exact absurd (.inr (.inr (.inr (.inl ⟨rfl, rfl⟩)))) h1
    · exact absurd (.inr (.inr (.inr (.inr ⟨rfl, rfl⟩)))) h1
    · exact own_below ho h4
  all_goals first | exact h3 | trivial

/-- Of, whatever it answers. -/
theorem of_both {mo : Int} {E : Nat} (V : Option Addr) (n cap : Nat) (zs : List Int) (w : World) (hn : n = zs.length) (hat : IntsAt w V zs) (hle : n ≤ 140737488351232) (he : errP mo zs = E) :
    Calls Try.prog 15 #[.int .i64 mo, .slice V n cap] w fun e w' => ∃ A n' c, e = .returned (.tuple #[.slice A n' c, .int .i64 (E : Int)]) ∧ (E = 0 → n' = n ∧ IntsAt w' A (intsOf (lensP mo.toNat zs))) ∧ RowKit.Below w.heap.size w w' := by
  by_cases h0 : E = 0
  · subst h0
    refine (of_goodI V n cap zs w hn hat he).mono ?_
    rintro e w' ⟨A, c, rfl, ho, hb⟩
    exact ⟨A, n, c, rfl, fun _ => ⟨rfl, (ints_of_own ho).2⟩, hb⟩
  · refine (of_bad V n cap zs w hn hat hle he h0).mono ?_
    rintro e w' ⟨rfl, hb⟩
    exact ⟨none, 0, 0, rfl, fun h => absurd h h0, hb⟩

set_option maxHeartbeats 1000000 in
set_option maxRecDepth 100000 in
theorem zer_some (b off n cap : Nat) (most k : Int) (zs : List Int) (w : World) (hn : n = zs.length) (hcap : n ≤ cap) (hn100 : n ≤ 100) (hat : IntsAt w (some ⟨b, off, none⟩) zs) :
    Calls Try.prog 10 #[.int .i64 most, .slice (some ⟨b, off, none⟩) n cap, .int .i64 k] w fun e w' => e = .returned (.bool true) ∧ RowKit.Below w.heap.size w w' := by
  have mixed : Try.prog.follows .mixedOrders = true := by kernel_rfl
  obtain ⟨i3, hi3, hy0, hy1, hy2⟩ := info_parts info3
  have d1 : decide ((n : Int) > 100) = false := decide_eq_false (by omega)
  obtain ⟨E, hE⟩ : ∃ E, errP most zs = E := ⟨_, rfl⟩
  have HN : Hid (n = zs.length) := hn
  have HE : Hid (errP most zs = E) := hE
  have hof := fun W (h : IntsAt W (some ⟨b, off, none⟩) zs) => of_both (some ⟨b, off, none⟩) n cap zs W hn h (by omega) hE
  have HOF : Aside _ := hof
  have dnn : ((n : Int) != (n : Int)) = false := by simp
  obtain ⟨r1, hr1⟩ : ∃ r1 : Int, Int.tmod k ((n : Int) + 1) = r1 := ⟨_, rfl⟩
  have hr1b : -(n : Int) ≤ r1 ∧ r1 ≤ n := by
    rw [← hr1]
    exact tmod_range k (by omega)
  obtain ⟨q, hq, hqn⟩ : ∃ q : Nat, Int.tmod (r1 + n + 1) ((n : Int) + 1) = (q : Int) ∧ q ≤ n := by
    refine ⟨(Int.tmod (r1 + n + 1) ((n : Int) + 1)).toNat, ?_, ?_⟩
    · have := tmod_pos (r1 + n + 1) n (by omega); omega
    · have := tmod_pos (r1 + n + 1) n (by omega); omega
  have z1 : IntKind.i64.wrap ((n : Int) + 1) = (n : Int) + 1 := by rw [IntKind.wrap_i64]; omega
  have z2 : IntKind.i64.wrap (r1 + (n : Int)) = r1 + n := by rw [IntKind.wrap_i64]; omega
  have z3 : IntKind.i64.wrap (r1 + (n : Int) + 1) = r1 + n + 1 := by rw [IntKind.wrap_i64]; omega
  have z4 : IntKind.i64.wrap r1 = r1 := by rw [IntKind.wrap_i64]; omega
  have z5 : IntKind.i64.wrap (q : Int) = q := by rw [IntKind.wrap_i64]; omega
  obtain ⟨m1, hm1⟩ : ∃ m1, (zs.drop q).length = m1 := ⟨_, rfl⟩
  have hm1q : m1 + q ≤ n ∧ n ≤ m1 + q := by rw [List.length_drop] at hm1; omega
  have hm1 : Hid ((zs.drop q).length = m1) := hm1
  clear hof hn hE
  go_enter Try.func10, Try.ntmps10
  go_wp2_with fail
  refine (alive_call _).mono ?_
  rintro e w1 ⟨rfl, b1⟩
  have hat1 := hat.below b1
  have hofw := HOF.out w1 hat1
  clear HOF hat
  go_wp2_with fail
  refine hofw.mono ?_
  rintro e w0 ⟨A, nA, cA, rfl, hA, b2⟩
  have HA : Aside (E = 0 → nA = n ∧ IntsAt w0 A (intsOf (lensP most.toNat zs))) := hA
  have hat2 := hat1.below b2
  have b3 := bstep b1 b2
  clear hofw hat1 b1 b2 hA
  go_wp2_with fail
  have hqN : (q : Int) ≤ (n : Int) := by omega
  have hqC : (q : Int) ≤ (cap : Int) := by omega
  have src8' : SrcI w0 (some ⟨b, off + q, none⟩) ((zs.drop q).map (Value.int .i64)) := by
    refine .inr ⟨_, rfl, fun j u hj => ?_⟩
    have hlt : j < (zs.drop q).length := by have := (List.getElem?_eq_some_iff.1 hj).1; simpa using this
    rw [List.length_drop] at hlt
    obtain ⟨b', o', e, _, hc⟩ := hat2 (by omega)
    injection e with e
    injection e with e1 e2
    subst e1 e2
    have := hc (q + j) (by omega)
    rw [Addr.add_lit, Nat.add_assoc, this]
    rw [← hj, List.getElem?_map, List.getElem?_drop, List.getD_eq_getElem?_getD, List.getElem?_eq_getElem (by omega)]
    rfl
  have src8 : SrcI w0 (if cap = q then some ⟨b, off, none⟩ else some ⟨b, off + q, none⟩) ((zs.drop q).map (Value.int .i64)) := by
    by_cases h : cap = q
    · rw [if_pos h]
      have e : zs.drop q = [] := List.drop_eq_nil_of_le (by have := HN.out; omega)
      exact .inr ⟨_, rfl, fun j u hj => by rw [e] at hj; simp at hj⟩
    · rw [if_neg h]; exact src8'
  have src2 : SrcI w0 (some ⟨b, off, none⟩) ((zs.take q).map (Value.int .i64)) := by
    refine .inr ⟨_, rfl, fun j u hj => ?_⟩
    have hlt : j < (zs.take q).length := by have := (List.getElem?_eq_some_iff.1 hj).1; simpa using this
    rw [List.length_take] at hlt
    obtain ⟨b', o', e, _, hc⟩ := hat2 (by omega)
    injection e with e
    injection e with e1 e2
    subst e1 e2
    have := hc j (by omega)
    rw [Addr.add_lit, this]
    rw [← hj, List.getElem?_map, List.getElem?_take, if_pos (by omega), List.getD_eq_getElem?_getD, List.getElem?_eq_getElem (by omega)]
    rfl
  clear src8'
  refine RegU.wp_region_lists (RowKit.Below w0.heap.size w0) (fun _ _ => True) (zeR w0.heap.size q ((zs.take q).map (Value.int .i64)) ((zs.take q ++ [0]).map (Value.int .i64))) (fun i => i) (zeV w0.heap.size w0 (.slice (some ⟨b, off, none⟩) n cap) n q m1 zs)
    [some 41, some 42, some 43, some 44, some 45, some 46, some 47, some 48, some 49, some 50, some 10]
    [[], [], [0, 1], [2], [], [3, 4, 3], [], [], [6, 7], [5, 8, 5], [9, 9, 0, 1, 2, 3, 4, 5, 6, 7, 8, 9]]
    (by kernel_rfl) (by kernel_rfl) (by kernel_rfl) (fun i => .inl rfl) ?_ ?_ ?_ ?_ ?_ ?_ ?_
  · exact ⟨rfl, rfl, rfl, Nat.le_refl _, fun _ _ => rfl⟩
  · intro i; trivial
  · intro i W W' h k2; exact zeG_stay h k2
  · intros; trivial
  · intro j i p v W W' h1 h2 h3 h4; refine zeV_stay (by have := HN.out; omega) ?_ h3 h4
    rintro (⟨rfl, rfl⟩ | ⟨rfl, rfl⟩ | ⟨rfl, rfl⟩ | ⟨rfl, rfl⟩ | ⟨rfl, rfl⟩)
    · exact h1 rfl
    · exact h1 rfl
    · exact h2 (by decide)
    · exact h2 (by decide)
    · exact h2 (by decide)
  · refine ⟨?_, ?_, ?_, ?_, ?_, ?_, ?_, ?_, ?_, ?_, ?_, trivial⟩
    · intro vals W K hG hU hV hK
      simp only [if_true] at hK
      simp only [Reg.putS, List.foldl, List.headD, List.tail, List.getD_cons_zero, List.getD_cons_succ, Act.put, List.setIfInBounds_toArray, List.set_cons_zero, List.set_cons_succ] at hK ⊢
      go_simp
      first
        | exact hK _ _ (Below.refl _ _) rfl
        | (rw [if_pos (by omega)]; exact hK _ _ (Below.refl _ _) rfl)
        | (rw [dif_pos (by omega)]; exact hK _ _ (Below.refl _ _) rfl)
        | (rw [if_neg (by omega)]; exact hK _ _ (Below.refl _ _) rfl)
    · intro vals W K hG hU hV hK
      simp only [if_true] at hK
      simp only [Reg.putS, List.foldl, List.headD, List.tail, List.getD_cons_zero, List.getD_cons_succ, Act.put, List.setIfInBounds_toArray, List.set_cons_zero, List.set_cons_succ] at hK ⊢
      go_simp
      first
        | exact hK _ _ (Below.refl _ _) rfl
        | (rw [if_pos (by omega)]; exact hK _ _ (Below.refl _ _) rfl)
        | (rw [dif_pos (by omega)]; exact hK _ _ (Below.refl _ _) rfl)
        | (rw [if_neg (by omega)]; exact hK _ _ (Below.refl _ _) rfl)
    · intro vals W K hG hU hV hK
      simp only [if_true] at hK
      have d0 := hV 0 (by simp)
      simp only [zeV] at d0
      have d1 := hV 1 (by simp)
      simp only [zeV] at d1
      simp only [Reg.putS, List.foldl, List.headD, List.tail, List.getD_cons_zero, List.getD_cons_succ, Act.put, List.setIfInBounds_toArray, List.set_cons_zero, List.set_cons_succ, d0, d1] at hK ⊢
      go_simp
      exact hK _ _ (Below.refl _ _) ⟨_, _, rfl, src2⟩
    · refine Step.step_of ?g ?_
      case g => rfl
      intro A vals W K hA hG hU hV hK
      simp only [if_true] at hK
      have d2 := hV 2 (by simp)
      simp only [zeV] at d2
      obtain ⟨A2, c2, d2, src2⟩ := d2
      rcases src2 with ⟨rfl, hx⟩ | ⟨ad, rfl, hc⟩
      · have hm0 : q = 0 := by have h := nil_len hx; rw [List.length_take_of_le (by have := HN.out; omega)] at h; exact h
        refine Keep.wp_append_nothing _ (.const (.slice none 0 0)) (.tmp 43) 22 rfl w0.heap.size 3 i3 1 Try.underlying22 hi3 (.slice none 0 0) 0 [] rfl (World.ownsRow_nil _ _ _ _) c2 ?x1 ?x2
        case x1 => rw [(Step.putE hA rfl (Nat.lt_of_sub_eq_succ rfl)).trans d2, hm0]
        case x2 => exact hK _ _ (Below.refl _ _) ⟨⟨none, 0, by rw [hm0], by rw [hx, hm0]; exact World.ownsRow_nil _ _ _ _⟩, fun _ => rfl⟩
      · refine wp_append_own _ (.const (.slice none 0 0)) (.tmp 43) 22 rfl w0.heap.size 3 i3 (.int .i64 0) 1 8 Try.underlying22 hi3 hy0 hy1 hy2 rfl (by decide) _ 0 [] rfl (World.ownsRow_nil _ _ _ _) ad q c2 ((zs.take q).map (Value.int .i64)) ((Step.putE hA rfl (Nat.lt_of_sub_eq_succ rfl)).trans d2) (by rw [List.length_map, List.length_take_of_le (by have := HN.out; omega), Nat.mul_one]) (fun j u h => src_below hG (hc j u h)) int_one ?c1 ?c2 hG.size ?c3
        case c1 => unfold maxLen; omega
        case c2 => omega
        case c3 =>
          intro v' w' ho hgr hnil
          rw [Nat.zero_add, List.nil_append] at ho
          obtain ⟨A, c, rfl, -⟩ := own_form ho
          exact hK _ _ ((Below.refl _ _).grown hgr (Nat.le_refl _) (fun k hk => by cases hk)) ⟨⟨A, c, rfl, ho⟩, fun h0 => hnil.2 ⟨rfl, h0⟩⟩
    · intro vals W K hG hU hV hK
      simp only [if_true] at hK
      simp only [Reg.putS, List.foldl, List.headD, List.tail, List.getD_cons_zero, List.getD_cons_succ, Act.put, List.setIfInBounds_toArray, List.set_cons_zero, List.set_cons_succ] at hK ⊢
      go_simp
      exact hK _ _ (balloc (Below.refl _ _) _) ⟨_, rfl, heap_new W _⟩
    · refine Step.step_of ?g ?_
      case g => rfl
      intro A vals W K hA hG hU hV hK
      simp only [if_true] at hK
      have d3 := hV 3 (by simp)
      simp only [zeV] at d3
      obtain ⟨⟨A3, c3, d3, ho3⟩, hz3⟩ := d3
      have d4 := hV 4 (by simp)
      simp only [zeV] at d4
      obtain ⟨b4, d4, hb4⟩ := d4
      refine Keep.wp_append_keep _ (.tmp 44) (.tmp 45) 22 rfl w0.heap.size 3 i3 (.int .i64 0) 1 8 Try.underlying22 hi3 hy0 hy1 hy2 rfl (by decide) _ q ((zs.take q).map (Value.int .i64)) ((Step.putE hA rfl (Nat.lt_of_sub_eq_succ rfl)).trans d3) ho3 ⟨b4, 0, none⟩ 1 1 [.int .i64 0] ((Step.putE hA rfl (Nat.lt_of_sub_eq_succ rfl)).trans d4) rfl ?c0 (fun u hu => by rw [List.mem_singleton.1 hu]; rfl) ?c1 ?c2 hG.size ?c3
      case c0 => intro j u hj; rw [Addr.add_lit, Nat.zero_add]; exact cell_of hb4 (by simpa using hj)
      case c1 => unfold maxLen; omega
      case c2 => omega
      case c3 =>
        intro v' w' ho hgr hk
        obtain ⟨A, c, rfl, -⟩ := own_form ho
        exact hK _ _ ⟨_, ho3, hgr, hk, own_ge ho3, by rcases Nat.eq_zero_or_pos q with h | h; exact .inr (d3.symm.trans (hz3 h)); exact .inl h⟩ ⟨A, c, rfl, by rw [List.map_append]; exact ho⟩
    · intro vals W K hG hU hV hK
      simp only [if_true] at hK
      simp only [Reg.putS, List.foldl, List.headD, List.tail, List.getD_cons_zero, List.getD_cons_succ, Act.put, List.setIfInBounds_toArray, List.set_cons_zero, List.set_cons_succ] at hK ⊢
      go_simp
      first
        | exact hK _ _ (Below.refl _ _) rfl
        | (rw [if_pos (by omega)]; exact hK _ _ (Below.refl _ _) rfl)
        | (rw [dif_pos (by omega)]; exact hK _ _ (Below.refl _ _) rfl)
        | (rw [if_neg (by omega)]; exact hK _ _ (Below.refl _ _) rfl)
    · intro vals W K hG hU hV hK
      simp only [if_true] at hK
      simp only [Reg.putS, List.foldl, List.headD, List.tail, List.getD_cons_zero, List.getD_cons_succ, Act.put, List.setIfInBounds_toArray, List.set_cons_zero, List.set_cons_succ] at hK ⊢
      go_simp
      first
        | exact hK _ _ (Below.refl _ _) rfl
        | (rw [if_pos (by omega)]; exact hK _ _ (Below.refl _ _) rfl)
        | (rw [dif_pos (by omega)]; exact hK _ _ (Below.refl _ _) rfl)
        | (rw [if_neg (by omega)]; exact hK _ _ (Below.refl _ _) rfl)
    · intro vals W K hG hU hV hK
      simp only [if_true] at hK
      have d6 := hV 6 (by simp)
      simp only [zeV] at d6
      have d7 := hV 7 (by simp)
      simp only [zeV] at d7
      simp only [Reg.putS, List.foldl, List.headD, List.tail, List.getD_cons_zero, List.getD_cons_succ, Act.put, List.setIfInBounds_toArray, List.set_cons_zero, List.set_cons_succ, d6, d7] at hK ⊢
      go_simp
      exact hK _ _ (Below.refl _ _) ⟨if cap = q then some ⟨b, off, none⟩ else some ⟨b, off + q, none⟩, cap - q, by rw [show n - q = m1 by omega], src8⟩
    · refine Step.step_of ?g ?_
      case g => rfl
      intro A vals W K hA hG hU hV hK
      simp only [if_true] at hK
      have d5 := hV 5 (by simp)
      simp only [zeV] at d5
      obtain ⟨A5, c5, d5, ho5⟩ := d5
      have d8 := hV 8 (by simp)
      simp only [zeV] at d8
      obtain ⟨A8, c8, d8, src8⟩ := d8
      rcases src8 with ⟨rfl, hx⟩ | ⟨ad, rfl, hc⟩
      · have hm0 : m1 = 0 := by rw [← hm1.out]; exact nil_len hx
        refine Keep.wp_append_nothing _ (.tmp 46) (.tmp 49) 22 rfl w0.heap.size 3 i3 1 Try.underlying22 hi3 _ (q + 1) ((zs.take q ++ [0]).map (Value.int .i64)) ((Step.putE hA rfl (Nat.lt_of_sub_eq_succ rfl)).trans d5) ho5 c8 ?x1 ?x2
        case x1 => rw [(Step.putE hA rfl (Nat.lt_of_sub_eq_succ rfl)).trans d8, hm0]
        case x2 =>
          have e2 : n + 1 = q + 1 := by omega
          refine hK _ _ ⟨_, ho5, ⟨rfl, rfl, rfl, Nat.le_refl _, fun _ _ _ => rfl⟩, ho5, own_ge ho5, .inl (by omega)⟩ ⟨A5, c5, by rw [e2], ?_⟩
          rw [List.map_append, hx, List.append_nil, e2]; exact ho5
      · refine Keep.wp_append_keep _ (.tmp 46) (.tmp 49) 22 rfl w0.heap.size 3 i3 (.int .i64 0) 1 8 Try.underlying22 hi3 hy0 hy1 hy2 rfl (by decide) _ (q + 1) ((zs.take q ++ [0]).map (Value.int .i64)) ((Step.putE hA rfl (Nat.lt_of_sub_eq_succ rfl)).trans d5) ho5 ad m1 c8 ((zs.drop q).map (Value.int .i64)) ((Step.putE hA rfl (Nat.lt_of_sub_eq_succ rfl)).trans d8) (by rw [List.length_map, hm1.out, Nat.mul_one]) (fun j u h => src_below hG (hc j u h)) int_one ?c1 ?c2 hG.size ?c3
        case c1 => unfold maxLen; omega
        case c2 => omega
        case c3 =>
          intro v' w' ho hgr hk
          rw [show q + 1 + m1 = n + 1 by omega] at ho
          obtain ⟨A, c, rfl, -⟩ := own_form ho
          exact hK _ _ ⟨_, ho5, hgr, hk, own_ge ho5, .inl (by omega)⟩ ⟨A, c, rfl, by rw [List.map_append]; exact ho⟩
    · intro vals W K hG hU hV hK
      simp only [if_true] at hK
      have d0 := hV 0 (by simp)
      simp only [zeV] at d0
      have d1 := hV 1 (by simp)
      simp only [zeV] at d1
      have d6 := hV 6 (by simp)
      simp only [zeV] at d6
      have d7 := hV 7 (by simp)
      simp only [zeV] at d7
      have d9 := hV 9 (by simp)
      simp only [zeV] at d9
      obtain ⟨A9, c9, d9, ho9⟩ := d9
      simp only [Reg.putS, List.foldl, List.headD, List.tail, List.getD_cons_zero, List.getD_cons_succ, Act.put, List.setIfInBounds_toArray, List.set_cons_zero, List.set_cons_succ, d0, d1, d6, d7, d9] at hK ⊢
      go_simp
      exact hK _ _ (Below.refl _ _) ⟨A9, c9, rfl, ho9⟩
  · intro vals W hG hV
    rw [show List.range (List.length [some 41, some 42, some 43, some 44, some 45, some 46, some 47, some 48, some 49, some 50, some 10]) = [0, 1, 2, 3, 4, 5, 6, 7, 8, 9, 10] from rfl]
    have d0 := hV 0 (by decide)
    simp only [zeV] at d0
    have d1 := hV 1 (by decide)
    simp only [zeV] at d1
    have d2 := hV 2 (by decide)
    simp only [zeV] at d2
    obtain ⟨A2, c2, d2, src2⟩ := d2
    have d3 := hV 3 (by decide)
    simp only [zeV] at d3
    obtain ⟨⟨A3, c3, d3, ho3⟩, hz3⟩ := d3
    have d4 := hV 4 (by decide)
    simp only [zeV] at d4
    obtain ⟨b4, d4, hb4⟩ := d4
    have d5 := hV 5 (by decide)
    simp only [zeV] at d5
    obtain ⟨A5, c5, d5, ho5⟩ := d5
    have d6 := hV 6 (by decide)
    simp only [zeV] at d6
    have d7 := hV 7 (by decide)
    simp only [zeV] at d7
    have d8 := hV 8 (by decide)
    simp only [zeV] at d8
    obtain ⟨A8, c8, d8, src8⟩ := d8
    have d9 := hV 9 (by decide)
    simp only [zeV] at d9
    obtain ⟨A9, c9, d9, ho9⟩ := d9
    have d10 := hV 10 (by decide)
    simp only [zeV] at d10
    obtain ⟨A10, c10, d10, ho10⟩ := d10
    clear hV
    simp only [Reg.putS, List.foldl, List.getD_cons_zero, List.getD_cons_succ, Act.put, List.setIfInBounds_toArray, List.set_cons_zero, List.set_cons_succ, d0, d1, d2, d3, d4, d5, d6, d7, d8, d9, d10]
    clear d0 d1 d2 d3 d4 d5 d6 d7 d8 d9 d10
    clear src2 src8 ho3 ho5 ho9 hb4 hz3
    have hxs : (zs.take q ++ [0] ++ zs.drop q).map (Value.int .i64) = (putZ q zs).map (Value.int .i64) := by unfold putZ; rw [List.append_assoc]; rfl
    rw [hxs] at ho10
    have hat8 := (ints_own ho10).2
    obtain ⟨N1, hN1⟩ : ∃ N1, n + 1 = N1 := ⟨_, rfl⟩
    have bN1 : n + 1 ≤ N1 ∧ N1 ≤ n + 1 := by omega
    rw [hN1]
    have hpl : N1 = (putZ q zs).length := by rw [put_length (by have := HN.out; omega), ← HN.out, hN1]
    have hE2 : errP most (putZ q zs) = E := by rw [err_put (by have := HN.out; omega) (by have := HN.out; omega)]; exact HE.out
    have hof := of_both A10 N1 c10 (putZ q zs) W hpl hat8 (by omega) hE2
    have HA3 : Aside (E = 0 → nA = n ∧ IntsAt W A (intsOf (lensP most.toNat zs))) := fun h => ⟨(HA.out h).1, (HA.out h).2.below hG⟩
    have b4 := bstep b3 hG
    have HPL : Hid (N1 = (putZ q zs).length) := hpl
    clear ho10 hxs HA hat2 hat8 b3 hG hpl hE2 hN1
    go_wp2_with fail
    refine hof.mono ?_
    rintro e w4 ⟨B, nB, cB, rfl, hB, b5⟩
    have HB4 : Aside (E = 0 → nB = N1 ∧ IntsAt w4 B (intsOf (lensP most.toNat (putZ q zs)))) := hB
    have HA4 : Aside (E = 0 → nA = n ∧ IntsAt w4 A (intsOf (lensP most.toNat zs))) := fun h => ⟨(HA3.out h).1, (HA3.out h).2.below b5⟩
    have b6 := bstep b4 b5
    clear hof HA3 hB b4 b5
    have dEE : ((E : Int) != (E : Int)) = false := by simp
    by_cases hE0 : E = 0
    · subst hE0
      obtain ⟨rfl, hA⟩ := HA4.out rfl
      obtain ⟨rfl, hB⟩ := HB4.out rfl
      obtain ⟨m, hm, h1, h15, _, _, hf⟩ := err_zero HE.out
      have hlp := lens_put (k := q) h1 hf (by have := HN.out; omega)
      have HL1 : Hid ((lensP most.toNat zs).length = nA) := by show _ = _; rw [lensP_length, HN.out]
      have HL2 : Hid ((lensP most.toNat (putZ q zs)).length = nB) := by show _ = _; rw [lensP_length, HPL.out]
      have HLP : Hid ((∀ s, s < nA → (lensP most.toNat (putZ q zs)).getD (shiftP q s) 0 = (lensP most.toNat zs).getD s 0) ∧ (lensP most.toNat (putZ q zs)).getD q 0 = 0) := by
        show _ ∧ _
        rw [hm, Int.toNat_natCast, HN.out]
        exact hlp
      have dNN : ((nB : Int) != (nB : Int)) = false := by simp
      clear hlp hf HA4 HB4 hm
      go_wp2
      go_loopg [13, 81] nB (fun kx s13 s81 wr => ∃ i : Nat, i ≤ nB ∧ nB - i ≤ kx ∧ s81 = .int .i64 i ∧ RowKit.Below w.heap.size w wr ∧ RowKit.Below w4.heap.size w4 wr)
      case atStart => exact ⟨0, Nat.zero_le _, Nat.le_refl _, rfl, b6, Below.refl _ _⟩
      case round =>
        clear b6
        obtain ⟨i, hi, hkx, rfl, b6, b7⟩ := hrel
        by_cases hlt : i < nB
        · have hltz : (i : Int) < (nB : Int) := by omega
          obtain ⟨bb, ob, rfl, -, cb⟩ := hB (by rw [intsOf_length]; have := HL2.out; omega)
          have x1 := pw_cell_below b7 (cb i (by rw [intsOf_length]; have := HL2.out; omega))
          rw [intsOf_getD] at x1
          have zk : IntKind.i64.wrap ((i : Int) + 1) = (i : Int) + 1 := by rw [IntKind.wrap_i64]; omega
          rcases Nat.lt_trichotomy i q with hiq | hiq | hiq
          · have t1 : decide ((i : Int) < (q : Int)) = true := decide_eq_true (by omega)
            have t1b : decide (i < q) = true := decide_eq_true (by omega)
            have t2 : ((i : Int) == (q : Int)) = false := by simp; omega
            have t3 : decide ((i : Int) > (q : Int)) = false := decide_eq_false (by omega)
            have t3b : decide (q < i) = false := decide_eq_false (by omega)
            have hin : (i : Int) < (nA : Int) := by omega
            obtain ⟨ba, oa, rfl, -, ca⟩ := hA (by rw [intsOf_length]; have := HL1.out; omega)
            have y1 := pw_cell_below b7 (ca i (by rw [intsOf_length]; have := HL1.out; omega))
            rw [intsOf_getD] at y1
            have hl := HLP.out.1 i (by omega)
            rw [show shiftP q i = i from if_pos hiq] at hl
            rw [hl] at x1
            generalize (((lensP most.toNat zs).getD i 0 : Nat) : Int) = P at x1 y1
            have t4 : (P != P) = false := by simp
            clear hl ca cb
            go_wp2_with fail
            go_quiet (fail)
            go_wp2_with fail
            go_quiet (fail)
            go_wp2
            go_roundg (nB - (i + 1))
            case measure => omega
            case rel => exact ⟨i + 1, hlt, Nat.le_refl _, rfl, drewN_below b6 _, drewN_below b7 _⟩
          · have t1 : decide ((i : Int) < (q : Int)) = false := decide_eq_false (by omega)
            have t1b : decide (i < q) = false := decide_eq_false (by omega)
            have t2 : ((i : Int) == (q : Int)) = true := by simp; omega
            have t3 : decide ((i : Int) > (q : Int)) = false := decide_eq_false (by omega)
            have t3b : decide (q < i) = false := decide_eq_false (by omega)
            obtain ⟨P, hP⟩ : ∃ P : Int, (((lensP most.toNat (putZ q zs)).getD i 0 : Nat) : Int) = P := ⟨_, rfl⟩
            rw [hP] at x1
            have hP0 : P = 0 := by rw [← hP, hiq, HLP.out.2]; rfl
            have t4 : (P != 0) = false := by rw [hP0]; rfl
            replace hiq : Hid (i = q) := hiq
            clear hP hP0 cb
            go_wp2_with fail
            go_quiet (fail)
            go_wp2_with fail
            go_quiet (fail)
            go_wp2
            go_roundg (nB - (i + 1))
            case measure => omega
            case rel => exact ⟨i + 1, hlt, Nat.le_refl _, rfl, drewN_below b6 _, drewN_below b7 _⟩
          · have t1 : decide ((i : Int) < (q : Int)) = false := decide_eq_false (by omega)
            have t1b : decide (i < q) = false := decide_eq_false (by omega)
            have t2 : ((i : Int) == (q : Int)) = false := by simp; omega
            have t3 : decide ((i : Int) > (q : Int)) = true := decide_eq_true (by omega)
            have t3b : decide (q < i) = true := decide_eq_true (by omega)
            obtain ⟨j, hj⟩ : ∃ j, i = j + 1 := ⟨i - 1, by omega⟩
            have hin : (j : Int) < (nA : Int) := by omega
            have zw : IntKind.i64.wrap ((i : Int) - 1) = (j : Int) := by rw [IntKind.wrap_i64]; omega
            obtain ⟨ba, oa, rfl, -, ca⟩ := hA (by rw [intsOf_length]; have := HL1.out; omega)
            have y1 := pw_cell_below b7 (ca j (by rw [intsOf_length]; have := HL1.out; omega))
            rw [intsOf_getD] at y1
            have hl := HLP.out.1 j (by omega)
            rw [show shiftP q j = i from (if_neg (by omega)).trans hj.symm] at hl
            rw [hl] at x1
            generalize (((lensP most.toNat zs).getD j 0 : Nat) : Int) = P at x1 y1
            have t4 : (P != P) = false := by simp
            replace hj : Hid (i = j + 1) := hj
            clear hl ca cb
            go_wp2_with fail
            go_quiet (fail)
            go_wp2_with fail
            go_quiet (fail)
            go_wp2
            go_roundg (nB - (i + 1))
            case measure => omega
            case rel => exact ⟨i + 1, hlt, Nat.le_refl _, rfl, drewN_below b6 _, drewN_below b7 _⟩
        · have hltz : ¬ (i : Int) < (nB : Int) := by omega
          clear hA hB b7
          go_wp2
          go_ret
          exact ⟨rfl, b6⟩
    · have dE0 : ((E : Int) != 0) = true := by simp; omega
      have dEq : ((E : Int) == (E : Int)) = true := by simp
      clear HA4 HB4 hE0
      go_wp2
      go_ret
      exact ⟨rfl, b6⟩

set_option maxHeartbeats 1000000 in
set_option maxRecDepth 100000 in
theorem zer_none (n cap : Nat) (most k : Int) (zs : List Int) (w : World) (hn : n = zs.length) (hcap : n ≤ cap) (hn100 : n ≤ 100) (hat : IntsAt w (none) zs) :
    Calls Try.prog 10 #[.int .i64 most, .slice (none) n cap, .int .i64 k] w fun e w' => e = .returned (.bool true) ∧ RowKit.Below w.heap.size w w' := by
  have mixed : Try.prog.follows .mixedOrders = true := by kernel_rfl
  obtain ⟨i3, hi3, hy0, hy1, hy2⟩ := info_parts info3
  have d1 : decide ((n : Int) > 100) = false := decide_eq_false (by omega)
  obtain ⟨E, hE⟩ : ∃ E, errP most zs = E := ⟨_, rfl⟩
  have HN : Hid (n = zs.length) := hn
  have HE : Hid (errP most zs = E) := hE
  have hof := fun W (h : IntsAt W (none) zs) => of_both (none) n cap zs W hn h (by omega) hE
  have HOF : Aside _ := hof
  have dnn : ((n : Int) != (n : Int)) = false := by simp
  obtain ⟨r1, hr1⟩ : ∃ r1 : Int, Int.tmod k ((n : Int) + 1) = r1 := ⟨_, rfl⟩
  have hr1b : -(n : Int) ≤ r1 ∧ r1 ≤ n := by
    rw [← hr1]
    exact tmod_range k (by omega)
  obtain ⟨q, hq, hqn⟩ : ∃ q : Nat, Int.tmod (r1 + n + 1) ((n : Int) + 1) = (q : Int) ∧ q ≤ n := by
    refine ⟨(Int.tmod (r1 + n + 1) ((n : Int) + 1)).toNat, ?_, ?_⟩
    · have := tmod_pos (r1 + n + 1) n (by omega); omega
    · have := tmod_pos (r1 + n + 1) n (by omega); omega
  have z1 : IntKind.i64.wrap ((n : Int) + 1) = (n : Int) + 1 := by rw [IntKind.wrap_i64]; omega
  have z2 : IntKind.i64.wrap (r1 + (n : Int)) = r1 + n := by rw [IntKind.wrap_i64]; omega
  have z3 : IntKind.i64.wrap (r1 + (n : Int) + 1) = r1 + n + 1 := by rw [IntKind.wrap_i64]; omega
  have z4 : IntKind.i64.wrap r1 = r1 := by rw [IntKind.wrap_i64]; omega
  have z5 : IntKind.i64.wrap (q : Int) = q := by rw [IntKind.wrap_i64]; omega
  obtain ⟨m1, hm1⟩ : ∃ m1, (zs.drop q).length = m1 := ⟨_, rfl⟩
  have hm1q : m1 + q ≤ n ∧ n ≤ m1 + q := by rw [List.length_drop] at hm1; omega
  have hm1 : Hid ((zs.drop q).length = m1) := hm1
  clear hof hn hE
  go_enter Try.func10, Try.ntmps10
  go_wp2_with fail
  refine (alive_call _).mono ?_
  rintro e w1 ⟨rfl, b1⟩
  have hat1 := hat.below b1
  have hofw := HOF.out w1 hat1
  clear HOF hat
  go_wp2_with fail
  refine hofw.mono ?_
  rintro e w0 ⟨A, nA, cA, rfl, hA, b2⟩
  have HA : Aside (E = 0 → nA = n ∧ IntsAt w0 A (intsOf (lensP most.toNat zs))) := hA
  have hat2 := hat1.below b2
  have b3 := bstep b1 b2
  clear hofw hat1 b1 b2 hA
  go_wp2_with fail
  have hqN : (q : Int) ≤ (n : Int) := by omega
  have hqC : (q : Int) ≤ (cap : Int) := by omega
  have hz : zs = [] := by
    refine List.eq_nil_of_length_eq_zero ?_
    rcases Nat.eq_zero_or_pos zs.length with h | h
    · exact h
    · obtain ⟨_, _, e, _⟩ := hat2 h
      cases e
  have src8 : SrcI w0 none ((zs.drop q).map (Value.int .i64)) := .inl ⟨rfl, by rw [hz]; simp⟩
  have src2 : SrcI w0 none ((zs.take q).map (Value.int .i64)) := .inl ⟨rfl, by rw [hz]; simp⟩
  clear hz
  refine RegU.wp_region_lists (RowKit.Below w0.heap.size w0) (fun _ _ => True) (zeR w0.heap.size q ((zs.take q).map (Value.int .i64)) ((zs.take q ++ [0]).map (Value.int .i64))) (fun i => i) (zeV w0.heap.size w0 (.slice none n cap) n q m1 zs)
    [some 41, some 42, some 43, some 44, some 45, some 46, some 47, some 48, some 49, some 50, some 10]
    [[], [], [0, 1], [2], [], [3, 4, 3], [], [], [6, 7], [5, 8, 5], [9, 9, 0, 1, 2, 3, 4, 5, 6, 7, 8, 9]]
    (by kernel_rfl) (by kernel_rfl) (by kernel_rfl) (fun i => .inl rfl) ?_ ?_ ?_ ?_ ?_ ?_ ?_
  · exact ⟨rfl, rfl, rfl, Nat.le_refl _, fun _ _ => rfl⟩
  · intro i; trivial
  · intro i W W' h k2; exact zeG_stay h k2
  · intros; trivial
  · intro j i p v W W' h1 h2 h3 h4; refine zeV_stay (by have := HN.out; omega) ?_ h3 h4
    rintro (⟨rfl, rfl⟩ | ⟨rfl, rfl⟩ | ⟨rfl, rfl⟩ | ⟨rfl, rfl⟩ | ⟨rfl, rfl⟩)
    · exact h1 rfl
    · exact h1 rfl
    · exact h2 (by decide)
    · exact h2 (by decide)
    · exact h2 (by decide)
  · refine ⟨?_, ?_, ?_, ?_, ?_, ?_, ?_, ?_, ?_, ?_, ?_, trivial⟩
    · intro vals W K hG hU hV hK
      simp only [if_true] at hK
      simp only [Reg.putS, List.foldl, List.headD, List.tail, List.getD_cons_zero, List.getD_cons_succ, Act.put, List.setIfInBounds_toArray, List.set_cons_zero, List.set_cons_succ] at hK ⊢
      go_simp
      first
        | exact hK _ _ (Below.refl _ _) rfl
        | (rw [if_pos (by omega)]; exact hK _ _ (Below.refl _ _) rfl)
        | (rw [dif_pos (by omega)]; exact hK _ _ (Below.refl _ _) rfl)
        | (rw [if_neg (by omega)]; exact hK _ _ (Below.refl _ _) rfl)
    · intro vals W K hG hU hV hK
      simp only [if_true] at hK
      simp only [Reg.putS, List.foldl, List.headD, List.tail, List.getD_cons_zero, List.getD_cons_succ, Act.put, List.setIfInBounds_toArray, List.set_cons_zero, List.set_cons_succ] at hK ⊢
      go_simp
      first
        | exact hK _ _ (Below.refl _ _) rfl
        | (rw [if_pos (by omega)]; exact hK _ _ (Below.refl _ _) rfl)
        | (rw [dif_pos (by omega)]; exact hK _ _ (Below.refl _ _) rfl)
        | (rw [if_neg (by omega)]; exact hK _ _ (Below.refl _ _) rfl)
    · intro vals W K hG hU hV hK
      simp only [if_true] at hK
      have d0 := hV 0 (by simp)
      simp only [zeV] at d0
      have d1 := hV 1 (by simp)
      simp only [zeV] at d1
      simp only [Reg.putS, List.foldl, List.headD, List.tail, List.getD_cons_zero, List.getD_cons_succ, Act.put, List.setIfInBounds_toArray, List.set_cons_zero, List.set_cons_succ, d0, d1] at hK ⊢
      go_simp
      exact hK _ _ (Below.refl _ _) ⟨none, _, rfl, src2⟩
    · refine Step.step_of ?g ?_
      case g => rfl
      intro A vals W K hA hG hU hV hK
      simp only [if_true] at hK
      have d2 := hV 2 (by simp)
      simp only [zeV] at d2
      obtain ⟨A2, c2, d2, src2⟩ := d2
      rcases src2 with ⟨rfl, hx⟩ | ⟨ad, rfl, hc⟩
      · have hm0 : q = 0 := by have h := nil_len hx; rw [List.length_take_of_le (by have := HN.out; omega)] at h; exact h
        refine Keep.wp_append_nothing _ (.const (.slice none 0 0)) (.tmp 43) 22 rfl w0.heap.size 3 i3 1 Try.underlying22 hi3 (.slice none 0 0) 0 [] rfl (World.ownsRow_nil _ _ _ _) c2 ?x1 ?x2
        case x1 => rw [(Step.putE hA rfl (Nat.lt_of_sub_eq_succ rfl)).trans d2, hm0]
        case x2 => exact hK _ _ (Below.refl _ _) ⟨⟨none, 0, by rw [hm0], by rw [hx, hm0]; exact World.ownsRow_nil _ _ _ _⟩, fun _ => rfl⟩
      · refine wp_append_own _ (.const (.slice none 0 0)) (.tmp 43) 22 rfl w0.heap.size 3 i3 (.int .i64 0) 1 8 Try.underlying22 hi3 hy0 hy1 hy2 rfl (by decide) _ 0 [] rfl (World.ownsRow_nil _ _ _ _) ad q c2 ((zs.take q).map (Value.int .i64)) ((Step.putE hA rfl (Nat.lt_of_sub_eq_succ rfl)).trans d2) (by rw [List.length_map, List.length_take_of_le (by have := HN.out; omega), Nat.mul_one]) (fun j u h => src_below hG (hc j u h)) int_one ?c1 ?c2 hG.size ?c3
        case c1 => unfold maxLen; omega
        case c2 => omega
        case c3 =>
          intro v' w' ho hgr hnil
          rw [Nat.zero_add, List.nil_append] at ho
          obtain ⟨A, c, rfl, -⟩ := own_form ho
          exact hK _ _ ((Below.refl _ _).grown hgr (Nat.le_refl _) (fun k hk => by cases hk)) ⟨⟨A, c, rfl, ho⟩, fun h0 => hnil.2 ⟨rfl, h0⟩⟩
    · intro vals W K hG hU hV hK
      simp only [if_true] at hK
      simp only [Reg.putS, List.foldl, List.headD, List.tail, List.getD_cons_zero, List.getD_cons_succ, Act.put, List.setIfInBounds_toArray, List.set_cons_zero, List.set_cons_succ] at hK ⊢
      go_simp
      exact hK _ _ (balloc (Below.refl _ _) _) ⟨_, rfl, heap_new W _⟩
    · refine Step.step_of ?g ?_
      case g => rfl
      intro A vals W K hA hG hU hV hK
      simp only [if_true] at hK
      have d3 := hV 3 (by simp)
      simp only [zeV] at d3
      obtain ⟨⟨A3, c3, d3, ho3⟩, hz3⟩ := d3
      have d4 := hV 4 (by simp)
      simp only [zeV] at d4
      obtain ⟨b4, d4, hb4⟩ := d4
      refine Keep.wp_append_keep _ (.tmp 44) (.tmp 45) 22 rfl w0.heap.size 3 i3 (.int .i64 0) 1 8 Try.underlying22 hi3 hy0 hy1 hy2 rfl (by decide) _ q ((zs.take q).map (Value.int .i64)) ((Step.putE hA rfl (Nat.lt_of_sub_eq_succ rfl)).trans d3) ho3 ⟨b4, 0, none⟩ 1 1 [.int .i64 0] ((Step.putE hA rfl (Nat.lt_of_sub_eq_succ rfl)).trans d4) rfl ?c0 (fun u hu => by rw [List.mem_singleton.1 hu]; rfl) ?c1 ?c2 hG.size ?c3
      case c0 => intro j u hj; rw [Addr.add_lit, Nat.zero_add]; exact cell_of hb4 (by simpa using hj)
      case c1 => unfold maxLen; omega
      case c2 => omega
      case c3 =>
        intro v' w' ho hgr hk
        obtain ⟨A, c, rfl, -⟩ := own_form ho
        exact hK _ _ ⟨_, ho3, hgr, hk, own_ge ho3, by rcases Nat.eq_zero_or_pos q with h | h; exact .inr (d3.symm.trans (hz3 h)); exact .inl h⟩ ⟨A, c, rfl, by rw [List.map_append]; exact ho⟩
    · intro vals W K hG hU hV hK
      simp only [if_true] at hK
      simp only [Reg.putS, List.foldl, List.headD, List.tail, List.getD_cons_zero, List.getD_cons_succ, Act.put, List.setIfInBounds_toArray, List.set_cons_zero, List.set_cons_succ] at hK ⊢
      go_simp
      first
        | exact hK _ _ (Below.refl _ _) rfl
        | (rw [if_pos (by omega)]; exact hK _ _ (Below.refl _ _) rfl)
        | (rw [dif_pos (by omega)]; exact hK _ _ (Below.refl _ _) rfl)
        | (rw [if_neg (by omega)]; exact hK _ _ (Below.refl _ _) rfl)
    · intro vals W K hG hU hV hK
      simp only [if_true] at hK
      simp only [Reg.putS, List.foldl, List.headD, List.tail, List.getD_cons_zero, List.getD_cons_succ, Act.put, List.setIfInBounds_toArray, List.set_cons_zero, List.set_cons_succ] at hK ⊢
      go_simp
      first
        | exact hK _ _ (Below.refl _ _) rfl
        | (rw [if_pos (by omega)]; exact hK _ _ (Below.refl _ _) rfl)
        | (rw [dif_pos (by omega)]; exact hK _ _ (Below.refl _ _) rfl)
        | (rw [if_neg (by omega)]; exact hK _ _ (Below.refl _ _) rfl)
    · intro vals W K hG hU hV hK
      simp only [if_true] at hK
      have d6 := hV 6 (by simp)
      simp only [zeV] at d6
      have d7 := hV 7 (by simp)
      simp only [zeV] at d7
      simp only [Reg.putS, List.foldl, List.headD, List.tail, List.getD_cons_zero, List.getD_cons_succ, Act.put, List.setIfInBounds_toArray, List.set_cons_zero, List.set_cons_succ, d6, d7] at hK ⊢
      go_simp
      exact hK _ _ (Below.refl _ _) ⟨none, _, by rw [show n - q = m1 by omega], src8⟩
    · refine Step.step_of ?g ?_
      case g => rfl
      intro A vals W K hA hG hU hV hK
      simp only [if_true] at hK
      have d5 := hV 5 (by simp)
      simp only [zeV] at d5
      obtain ⟨A5, c5, d5, ho5⟩ := d5
      have d8 := hV 8 (by simp)
      simp only [zeV] at d8
      obtain ⟨A8, c8, d8, src8⟩ := d8
      rcases src8 with ⟨rfl, hx⟩ | ⟨ad, rfl, hc⟩
      · have hm0 : m1 = 0 := by rw [← hm1.out]; exact nil_len hx
        refine Keep.wp_append_nothing _ (.tmp 46) (.tmp 49) 22 rfl w0.heap.size 3 i3 1 Try.underlying22 hi3 _ (q + 1) ((zs.take q ++ [0]).map (Value.int .i64)) ((Step.putE hA rfl (Nat.lt_of_sub_eq_succ rfl)).trans d5) ho5 c8 ?x1 ?x2
        case x1 => rw [(Step.putE hA rfl (Nat.lt_of_sub_eq_succ rfl)).trans d8, hm0]
        case x2 =>
          have e2 : n + 1 = q + 1 := by omega
          refine hK _ _ ⟨_, ho5, ⟨rfl, rfl, rfl, Nat.le_refl _, fun _ _ _ => rfl⟩, ho5, own_ge ho5, .inl (by omega)⟩ ⟨A5, c5, by rw [e2], ?_⟩
          rw [List.map_append, hx, List.append_nil, e2]; exact ho5
      · refine Keep.wp_append_keep _ (.tmp 46) (.tmp 49) 22 rfl w0.heap.size 3 i3 (.int .i64 0) 1 8 Try.underlying22 hi3 hy0 hy1 hy2 rfl (by decide) _ (q + 1) ((zs.take q ++ [0]).map (Value.int .i64)) ((Step.putE hA rfl (Nat.lt_of_sub_eq_succ rfl)).trans d5) ho5 ad m1 c8 ((zs.drop q).map (Value.int .i64)) ((Step.putE hA rfl (Nat.lt_of_sub_eq_succ rfl)).trans d8) (by rw [List.length_map, hm1.out, Nat.mul_one]) (fun j u h => src_below hG (hc j u h)) int_one ?c1 ?c2 hG.size ?c3
        case c1 => unfold maxLen; omega
        case c2 => omega
        case c3 =>
          intro v' w' ho hgr hk
          rw [show q + 1 + m1 = n + 1 by omega] at ho
          obtain ⟨A, c, rfl, -⟩ := own_form ho
          exact hK _ _ ⟨_, ho5, hgr, hk, own_ge ho5, .inl (by omega)⟩ ⟨A, c, rfl, by rw [List.map_append]; exact ho⟩
    · intro vals W K hG hU hV hK
      simp only [if_true] at hK
      have d0 := hV 0 (by simp)
      simp only [zeV] at d0
      have d1 := hV 1 (by simp)
      simp only [zeV] at d1
      have d6 := hV 6 (by simp)
      simp only [zeV] at d6
      have d7 := hV 7 (by simp)
      simp only [zeV] at d7
      have d9 := hV 9 (by simp)
      simp only [zeV] at d9
      obtain ⟨A9, c9, d9, ho9⟩ := d9
      simp only [Reg.putS, List.foldl, List.headD, List.tail, List.getD_cons_zero, List.getD_cons_succ, Act.put, List.setIfInBounds_toArray, List.set_cons_zero, List.set_cons_succ, d0, d1, d6, d7, d9] at hK ⊢
      go_simp
      exact hK _ _ (Below.refl _ _) ⟨A9, c9, rfl, ho9⟩
  · intro vals W hG hV
    rw [show List.range (List.length [some 41, some 42, some 43, some 44, some 45, some 46, some 47, some 48, some 49, some 50, some 10]) = [0, 1, 2, 3, 4, 5, 6, 7, 8, 9, 10] from rfl]
    have d0 := hV 0 (by decide)
    simp only [zeV] at d0
    have d1 := hV 1 (by decide)
    simp only [zeV] at d1
    have d2 := hV 2 (by decide)
    simp only [zeV] at d2
    obtain ⟨A2, c2, d2, src2⟩ := d2
    have d3 := hV 3 (by decide)
    simp only [zeV] at d3
    obtain ⟨⟨A3, c3, d3, ho3⟩, hz3⟩ := d3
    have d4 := hV 4 (by decide)
    simp only [zeV] at d4
    obtain ⟨b4, d4, hb4⟩ := d4
    have d5 := hV 5 (by decide)
    simp only [zeV] at d5
    obtain ⟨A5, c5, d5, ho5⟩ := d5
    have d6 := hV 6 (by decide)
    simp only [zeV] at d6
    have d7 := hV 7 (by decide)
    simp only [zeV] at d7
    have d8 := hV 8 (by decide)
    simp only [zeV] at d8
    obtain ⟨A8, c8, d8, src8⟩ := d8
    have d9 := hV 9 (by decide)
    simp only [zeV] at d9
    obtain ⟨A9, c9, d9, ho9⟩ := d9
    have d10 := hV 10 (by decide)
    simp only [zeV] at d10
    obtain ⟨A10, c10, d10, ho10⟩ := d10
    clear hV
    simp only [Reg.putS, List.foldl, List.getD_cons_zero, List.getD_cons_succ, Act.put, List.setIfInBounds_toArray, List.set_cons_zero, List.set_cons_succ, d0, d1, d2, d3, d4, d5, d6, d7, d8, d9, d10]
    clear d0 d1 d2 d3 d4 d5 d6 d7 d8 d9 d10
    clear src2 src8 ho3 ho5 ho9 hb4 hz3
    have hxs : (zs.take q ++ [0] ++ zs.drop q).map (Value.int .i64) = (putZ q zs).map (Value.int .i64) := by unfold putZ; rw [List.append_assoc]; rfl
    rw [hxs] at ho10
    have hat8 := (ints_own ho10).2
    obtain ⟨N1, hN1⟩ : ∃ N1, n + 1 = N1 := ⟨_, rfl⟩
    have bN1 : n + 1 ≤ N1 ∧ N1 ≤ n + 1 := by omega
    rw [hN1]
    have hpl : N1 = (putZ q zs).length := by rw [put_length (by have := HN.out; omega), ← HN.out, hN1]
    have hE2 : errP most (putZ q zs) = E := by rw [err_put (by have := HN.out; omega) (by have := HN.out; omega)]; exact HE.out
    have hof := of_both A10 N1 c10 (putZ q zs) W hpl hat8 (by omega) hE2
    have HA3 : Aside (E = 0 → nA = n ∧ IntsAt W A (intsOf (lensP most.toNat zs))) := fun h => ⟨(HA.out h).1, (HA.out h).2.below hG⟩
    have b4 := bstep b3 hG
    have HPL : Hid (N1 = (putZ q zs).length) := hpl
    clear ho10 hxs HA hat2 hat8 b3 hG hpl hE2 hN1
    go_wp2_with fail
    refine hof.mono ?_
    rintro e w4 ⟨B, nB, cB, rfl, hB, b5⟩
    have HB4 : Aside (E = 0 → nB = N1 ∧ IntsAt w4 B (intsOf (lensP most.toNat (putZ q zs)))) := hB
    have HA4 : Aside (E = 0 → nA = n ∧ IntsAt w4 A (intsOf (lensP most.toNat zs))) := fun h => ⟨(HA3.out h).1, (HA3.out h).2.below b5⟩
    have b6 := bstep b4 b5
    clear hof HA3 hB b4 b5
    have dEE : ((E : Int) != (E : Int)) = false := by simp
    by_cases hE0 : E = 0
    · subst hE0
      obtain ⟨rfl, hA⟩ := HA4.out rfl
      obtain ⟨rfl, hB⟩ := HB4.out rfl
      obtain ⟨m, hm, h1, h15, _, _, hf⟩ := err_zero HE.out
      have hlp := lens_put (k := q) h1 hf (by have := HN.out; omega)
      have HL1 : Hid ((lensP most.toNat zs).length = nA) := by show _ = _; rw [lensP_length, HN.out]
      have HL2 : Hid ((lensP most.toNat (putZ q zs)).length = nB) := by show _ = _; rw [lensP_length, HPL.out]
      have HLP : Hid ((∀ s, s < nA → (lensP most.toNat (putZ q zs)).getD (shiftP q s) 0 = (lensP most.toNat zs).getD s 0) ∧ (lensP most.toNat (putZ q zs)).getD q 0 = 0) := by
        show _ ∧ _
        rw [hm, Int.toNat_natCast, HN.out]
        exact hlp
      have dNN : ((nB : Int) != (nB : Int)) = false := by simp
      clear hlp hf HA4 HB4 hm
      go_wp2
      go_loopg [13, 81] nB (fun kx s13 s81 wr => ∃ i : Nat, i ≤ nB ∧ nB - i ≤ kx ∧ s81 = .int .i64 i ∧ RowKit.Below w.heap.size w wr ∧ RowKit.Below w4.heap.size w4 wr)
      case atStart => exact ⟨0, Nat.zero_le _, Nat.le_refl _, rfl, b6, Below.refl _ _⟩
      case round =>
        clear b6
        obtain ⟨i, hi, hkx, rfl, b6, b7⟩ := hrel
        by_cases hlt : i < nB
        · have hltz : (i : Int) < (nB : Int) := by omega
          obtain ⟨bb, ob, rfl, -, cb⟩ := hB (by rw [intsOf_length]; have := HL2.out; omega)
          have x1 := pw_cell_below b7 (cb i (by rw [intsOf_length]; have := HL2.out; omega))
          rw [intsOf_getD] at x1
          have zk : IntKind.i64.wrap ((i : Int) + 1) = (i : Int) + 1 := by rw [IntKind.wrap_i64]; omega
          rcases Nat.lt_trichotomy i q with hiq | hiq | hiq
          · have t1 : decide ((i : Int) < (q : Int)) = true := decide_eq_true (by omega)
            have t1b : decide (i < q) = true := decide_eq_true (by omega)
            have t2 : ((i : Int) == (q : Int)) = false := by simp; omega
            have t3 : decide ((i : Int) > (q : Int)) = false := decide_eq_false (by omega)
            have t3b : decide (q < i) = false := decide_eq_false (by omega)
            have hin : (i : Int) < (nA : Int) := by omega
            obtain ⟨ba, oa, rfl, -, ca⟩ := hA (by rw [intsOf_length]; have := HL1.out; omega)
            have y1 := pw_cell_below b7 (ca i (by rw [intsOf_length]; have := HL1.out; omega))
            rw [intsOf_getD] at y1
            have hl := HLP.out.1 i (by omega)
            rw [show shiftP q i = i from if_pos hiq] at hl
            rw [hl] at x1
            generalize (((lensP most.toNat zs).getD i 0 : Nat) : Int) = P at x1 y1
            have t4 : (P != P) = false := by simp
            clear hl ca cb
            go_wp2_with fail
            go_quiet (fail)
            go_wp2_with fail
            go_quiet (fail)
            go_wp2
            go_roundg (nB - (i + 1))
            case measure => omega
            case rel => exact ⟨i + 1, hlt, Nat.le_refl _, rfl, drewN_below b6 _, drewN_below b7 _⟩
          · have t1 : decide ((i : Int) < (q : Int)) = false := decide_eq_false (by omega)
            have t1b : decide (i < q) = false := decide_eq_false (by omega)
            have t2 : ((i : Int) == (q : Int)) = true := by simp; omega
            have t3 : decide ((i : Int) > (q : Int)) = false := decide_eq_false (by omega)
            have t3b : decide (q < i) = false := decide_eq_false (by omega)
            obtain ⟨P, hP⟩ : ∃ P : Int, (((lensP most.toNat (putZ q zs)).getD i 0 : Nat) : Int) = P := ⟨_, rfl⟩
            rw [hP] at x1
            have hP0 : P = 0 := by rw [← hP, hiq, HLP.out.2]; rfl
            have t4 : (P != 0) = false := by rw [hP0]; rfl
            replace hiq : Hid (i = q) := hiq
            clear hP hP0 cb
            go_wp2_with fail
            go_quiet (fail)
            go_wp2_with fail
            go_quiet (fail)
            go_wp2
            go_roundg (nB - (i + 1))
            case measure => omega
            case rel => exact ⟨i + 1, hlt, Nat.le_refl _, rfl, drewN_below b6 _, drewN_below b7 _⟩
          · have t1 : decide ((i : Int) < (q : Int)) = false := decide_eq_false (by omega)
            have t1b : decide (i < q) = false := decide_eq_false (by omega)
            have t2 : ((i : Int) == (q : Int)) = false := by simp; omega
            have t3 : decide ((i : Int) > (q : Int)) = true := decide_eq_true (by omega)
            have t3b : decide (q < i) = true := decide_eq_true (by omega)
            obtain ⟨j, hj⟩ : ∃ j, i = j + 1 := ⟨i - 1, by omega⟩
            have hin : (j : Int) < (nA : Int) := by omega
            have zw : IntKind.i64.wrap ((i : Int) - 1) = (j : Int) := by rw [IntKind.wrap_i64]; omega
            obtain ⟨ba, oa, rfl, -, ca⟩ := hA (by rw [intsOf_length]; have := HL1.out; omega)
            have y1 := pw_cell_below b7 (ca j (by rw [intsOf_length]; have := HL1.out; omega))
            rw [intsOf_getD] at y1
            have hl := HLP.out.1 j (by omega)
            rw [show shiftP q j = i from (if_neg (by omega)).trans hj.symm] at hl
            rw [hl] at x1
            generalize (((lensP most.toNat zs).getD j 0 : Nat) : Int) = P at x1 y1
            have t4 : (P != P) = false := by simp
            replace hj : Hid (i = j + 1) := hj
            clear hl ca cb
            go_wp2_with fail
            go_quiet (fail)
            go_wp2_with fail
            go_quiet (fail)
            go_wp2
            go_roundg (nB - (i + 1))
            case measure => omega
            case rel => exact ⟨i + 1, hlt, Nat.le_refl _, rfl, drewN_below b6 _, drewN_below b7 _⟩
        · have hltz : ¬ (i : Int) < (nB : Int) := by omega
          clear hA hB b7
          go_wp2
          go_ret
          exact ⟨rfl, b6⟩
    · have dE0 : ((E : Int) != 0) = true := by simp; omega
      have dEq : ((E : Int) == (E : Int)) = true := by simp
      clear HA4 HB4 hE0
      go_wp2
      go_ret
      exact ⟨rfl, b6⟩

set_option maxHeartbeats 1000000 in
set_option maxRecDepth 100000 in
theorem zer_any (ad0 : Addr) (n cap : Nat) (most k : Int) (zs : List Int) (w : World) (hn : n = zs.length) (hcap : n ≤ cap) (hn100 : n ≤ 100) (hzz : Hid (zs = [])) (hat : IntsAt w (some ad0) zs) :
    Calls Try.prog 10 #[.int .i64 most, .slice (some ad0) n cap, .int .i64 k] w fun e w' => e = .returned (.bool true) ∧ RowKit.Below w.heap.size w w' := by
  have mixed : Try.prog.follows .mixedOrders = true := by kernel_rfl
  obtain ⟨i3, hi3, hy0, hy1, hy2⟩ := info_parts info3
  have d1 : decide ((n : Int) > 100) = false := decide_eq_false (by omega)
  obtain ⟨E, hE⟩ : ∃ E, errP most zs = E := ⟨_, rfl⟩
  have HN : Hid (n = zs.length) := hn
  have HE : Hid (errP most zs = E) := hE
  have hof := fun W (h : IntsAt W (some ad0) zs) => of_both (some ad0) n cap zs W hn h (by omega) hE
  have HOF : Aside _ := hof
  have dnn : ((n : Int) != (n : Int)) = false := by simp
  obtain ⟨r1, hr1⟩ : ∃ r1 : Int, Int.tmod k ((n : Int) + 1) = r1 := ⟨_, rfl⟩
  have hr1b : -(n : Int) ≤ r1 ∧ r1 ≤ n := by
    rw [← hr1]
    exact tmod_range k (by omega)
  obtain ⟨q, hq, hqn⟩ : ∃ q : Nat, Int.tmod (r1 + n + 1) ((n : Int) + 1) = (q : Int) ∧ q ≤ n := by
    refine ⟨(Int.tmod (r1 + n + 1) ((n : Int) + 1)).toNat, ?_, ?_⟩
    · have := tmod_pos (r1 + n + 1) n (by omega); omega
    · have := tmod_pos (r1 + n + 1) n (by omega); omega
  have z1 : IntKind.i64.wrap ((n : Int) + 1) = (n : Int) + 1 := by rw [IntKind.wrap_i64]; omega
  have z2 : IntKind.i64.wrap (r1 + (n : Int)) = r1 + n := by rw [IntKind.wrap_i64]; omega
  have z3 : IntKind.i64.wrap (r1 + (n : Int) + 1) = r1 + n + 1 := by rw [IntKind.wrap_i64]; omega
  have z4 : IntKind.i64.wrap r1 = r1 := by rw [IntKind.wrap_i64]; omega
  have z5 : IntKind.i64.wrap (q : Int) = q := by rw [IntKind.wrap_i64]; omega
  obtain ⟨m1, hm1⟩ : ∃ m1, (zs.drop q).length = m1 := ⟨_, rfl⟩
  have hm1q : m1 + q ≤ n ∧ n ≤ m1 + q := by rw [List.length_drop] at hm1; omega
  have hm1 : Hid ((zs.drop q).length = m1) := hm1
  clear hof hn hE
  go_enter Try.func10, Try.ntmps10
  go_wp2_with fail
  refine (alive_call _).mono ?_
  rintro e w1 ⟨rfl, b1⟩
  have hat1 := hat.below b1
  have hofw := HOF.out w1 hat1
  clear HOF hat
  go_wp2_with fail
  refine hofw.mono ?_
  rintro e w0 ⟨A, nA, cA, rfl, hA, b2⟩
  have HA : Aside (E = 0 → nA = n ∧ IntsAt w0 A (intsOf (lensP most.toNat zs))) := hA
  have hat2 := hat1.below b2
  have b3 := bstep b1 b2
  clear hofw hat1 b1 b2 hA
  go_wp2_with fail
  have hqN : (q : Int) ≤ (n : Int) := by omega
  have hqC : (q : Int) ≤ (cap : Int) := by omega
  have src8 : ∀ A, SrcI w0 A ((zs.drop q).map (Value.int .i64)) := fun A => by
    have e : (zs.drop q).map (Value.int .i64) = [] := by rw [hzz.out]; simp
    rw [e]
    cases A with
    | none => exact .inl ⟨rfl, rfl⟩
    | some a => exact .inr ⟨a, rfl, fun j u hj => by simp at hj⟩
  have src2 : SrcI w0 (some ad0) ((zs.take q).map (Value.int .i64)) := .inr ⟨_, rfl, fun j u hj => by rw [hzz.out] at hj; simp at hj⟩
  refine RegU.wp_region_lists (RowKit.Below w0.heap.size w0) (fun _ _ => True) (zeR w0.heap.size q ((zs.take q).map (Value.int .i64)) ((zs.take q ++ [0]).map (Value.int .i64))) (fun i => i) (zeV w0.heap.size w0 (.slice (some ad0) n cap) n q m1 zs)
    [some 41, some 42, some 43, some 44, some 45, some 46, some 47, some 48, some 49, some 50, some 10]
    [[], [], [0, 1], [2], [], [3, 4, 3], [], [], [6, 7], [5, 8, 5], [9, 9, 0, 1, 2, 3, 4, 5, 6, 7, 8, 9]]
    (by kernel_rfl) (by kernel_rfl) (by kernel_rfl) (fun i => .inl rfl) ?_ ?_ ?_ ?_ ?_ ?_ ?_
  · exact ⟨rfl, rfl, rfl, Nat.le_refl _, fun _ _ => rfl⟩
  · intro i; trivial
  · intro i W W' h k2; exact zeG_stay h k2
  · intros; trivial
  · intro j i p v W W' h1 h2 h3 h4; refine zeV_stay (by have := HN.out; omega) ?_ h3 h4
    rintro (⟨rfl, rfl⟩ | ⟨rfl, rfl⟩ | ⟨rfl, rfl⟩ | ⟨rfl, rfl⟩ | ⟨rfl, rfl⟩)
    · exact h1 rfl
    · exact h1 rfl
    · exact h2 (by decide)
    · exact h2 (by decide)
    · exact h2 (by decide)
  · refine ⟨?_, ?_, ?_, ?_, ?_, ?_, ?_, ?_, ?_, ?_, ?_, trivial⟩
    · intro vals W K hG hU hV hK
      simp only [if_true] at hK
      simp only [Reg.putS, List.foldl, List.headD, List.tail, List.getD_cons_zero, List.getD_cons_succ, Act.put, List.setIfInBounds_toArray, List.set_cons_zero, List.set_cons_succ] at hK ⊢
      go_simp
      first
        | exact hK _ _ (Below.refl _ _) rfl
        | (rw [if_pos (by omega)]; exact hK _ _ (Below.refl _ _) rfl)
        | (rw [dif_pos (by omega)]; exact hK _ _ (Below.refl _ _) rfl)
        | (rw [if_neg (by omega)]; exact hK _ _ (Below.refl _ _) rfl)
    · intro vals W K hG hU hV hK
      simp only [if_true] at hK
      simp only [Reg.putS, List.foldl, List.headD, List.tail, List.getD_cons_zero, List.getD_cons_succ, Act.put, List.setIfInBounds_toArray, List.set_cons_zero, List.set_cons_succ] at hK ⊢
      go_simp
      first
        | exact hK _ _ (Below.refl _ _) rfl
        | (rw [if_pos (by omega)]; exact hK _ _ (Below.refl _ _) rfl)
        | (rw [dif_pos (by omega)]; exact hK _ _ (Below.refl _ _) rfl)
        | (rw [if_neg (by omega)]; exact hK _ _ (Below.refl _ _) rfl)
    · intro vals W K hG hU hV hK
      simp only [if_true] at hK
      have d0 := hV 0 (by simp)
      simp only [zeV] at d0
      have d1 := hV 1 (by simp)
      simp only [zeV] at d1
      simp only [Reg.putS, List.foldl, List.headD, List.tail, List.getD_cons_zero, List.getD_cons_succ, Act.put, List.setIfInBounds_toArray, List.set_cons_zero, List.set_cons_succ, d0, d1] at hK ⊢
      go_simp
      exact hK _ _ (Below.refl _ _) ⟨_, _, rfl, src2⟩
    · refine Step.step_of ?g ?_
      case g => rfl
      intro A vals W K hA hG hU hV hK
      simp only [if_true] at hK
      have d2 := hV 2 (by simp)
      simp only [zeV] at d2
      obtain ⟨A2, c2, d2, src2⟩ := d2
      rcases src2 with ⟨rfl, hx⟩ | ⟨ad, rfl, hc⟩
      · have hm0 : q = 0 := by have h := nil_len hx; rw [List.length_take_of_le (by have := HN.out; omega)] at h; exact h
        refine Keep.wp_append_nothing _ (.const (.slice none 0 0)) (.tmp 43) 22 rfl w0.heap.size 3 i3 1 Try.underlying22 hi3 (.slice none 0 0) 0 [] rfl (World.ownsRow_nil _ _ _ _) c2 ?x1 ?x2
        case x1 => rw [(Step.putE hA rfl (Nat.lt_of_sub_eq_succ rfl)).trans d2, hm0]
        case x2 => exact hK _ _ (Below.refl _ _) ⟨⟨none, 0, by rw [hm0], by rw [hx, hm0]; exact World.ownsRow_nil _ _ _ _⟩, fun _ => rfl⟩
      · refine wp_append_own _ (.const (.slice none 0 0)) (.tmp 43) 22 rfl w0.heap.size 3 i3 (.int .i64 0) 1 8 Try.underlying22 hi3 hy0 hy1 hy2 rfl (by decide) _ 0 [] rfl (World.ownsRow_nil _ _ _ _) ad q c2 ((zs.take q).map (Value.int .i64)) ((Step.putE hA rfl (Nat.lt_of_sub_eq_succ rfl)).trans d2) (by rw [List.length_map, List.length_take_of_le (by have := HN.out; omega), Nat.mul_one]) (fun j u h => src_below hG (hc j u h)) int_one ?c1 ?c2 hG.size ?c3
        case c1 => unfold maxLen; omega
        case c2 => omega
        case c3 =>
          intro v' w' ho hgr hnil
          rw [Nat.zero_add, List.nil_append] at ho
          obtain ⟨A, c, rfl, -⟩ := own_form ho
          exact hK _ _ ((Below.refl _ _).grown hgr (Nat.le_refl _) (fun k hk => by cases hk)) ⟨⟨A, c, rfl, ho⟩, fun h0 => hnil.2 ⟨rfl, h0⟩⟩
    · intro vals W K hG hU hV hK
      simp only [if_true] at hK
      simp only [Reg.putS, List.foldl, List.headD, List.tail, List.getD_cons_zero, List.getD_cons_succ, Act.put, List.setIfInBounds_toArray, List.set_cons_zero, List.set_cons_succ] at hK ⊢
      go_simp
      exact hK _ _ (balloc (Below.refl _ _) _) ⟨_, rfl, heap_new W _⟩
    · refine Step.step_of ?g ?_
      case g => rfl
      intro A vals W K hA hG hU hV hK
      simp only [if_true] at hK
      have d3 := hV 3 (by simp)
      simp only [zeV] at d3
      obtain ⟨⟨A3, c3, d3, ho3⟩, hz3⟩ := d3
      have d4 := hV 4 (by simp)
      simp only [zeV] at d4
      obtain ⟨b4, d4, hb4⟩ := d4
      refine Keep.wp_append_keep _ (.tmp 44) (.tmp 45) 22 rfl w0.heap.size 3 i3 (.int .i64 0) 1 8 Try.underlying22 hi3 hy0 hy1 hy2 rfl (by decide) _ q ((zs.take q).map (Value.int .i64)) ((Step.putE hA rfl (Nat.lt_of_sub_eq_succ rfl)).trans d3) ho3 ⟨b4, 0, none⟩ 1 1 [.int .i64 0] ((Step.putE hA rfl (Nat.lt_of_sub_eq_succ rfl)).trans d4) rfl ?c0 (fun u hu => by rw [List.mem_singleton.1 hu]; rfl) ?c1 ?c2 hG.size ?c3
      case c0 => intro j u hj; rw [Addr.add_lit, Nat.zero_add]; exact cell_of hb4 (by simpa using hj)
      case c1 => unfold maxLen; omega
      case c2 => omega
      case c3 =>
        intro v' w' ho hgr hk
        obtain ⟨A, c, rfl, -⟩ := own_form ho
        exact hK _ _ ⟨_, ho3, hgr, hk, own_ge ho3, by rcases Nat.eq_zero_or_pos q with h | h; exact .inr (d3.symm.trans (hz3 h)); exact .inl h⟩ ⟨A, c, rfl, by rw [List.map_append]; exact ho⟩
    · intro vals W K hG hU hV hK
      simp only [if_true] at hK
      simp only [Reg.putS, List.foldl, List.headD, List.tail, List.getD_cons_zero, List.getD_cons_succ, Act.put, List.setIfInBounds_toArray, List.set_cons_zero, List.set_cons_succ] at hK ⊢
      go_simp
      first
        | exact hK _ _ (Below.refl _ _) rfl
        | (rw [if_pos (by omega)]; exact hK _ _ (Below.refl _ _) rfl)
        | (rw [dif_pos (by omega)]; exact hK _ _ (Below.refl _ _) rfl)
        | (rw [if_neg (by omega)]; exact hK _ _ (Below.refl _ _) rfl)
    · intro vals W K hG hU hV hK
      simp only [if_true] at hK
      simp only [Reg.putS, List.foldl, List.headD, List.tail, List.getD_cons_zero, List.getD_cons_succ, Act.put, List.setIfInBounds_toArray, List.set_cons_zero, List.set_cons_succ] at hK ⊢
      go_simp
      first
        | exact hK _ _ (Below.refl _ _) rfl
        | (rw [if_pos (by omega)]; exact hK _ _ (Below.refl _ _) rfl)
        | (rw [dif_pos (by omega)]; exact hK _ _ (Below.refl _ _) rfl)
        | (rw [if_neg (by omega)]; exact hK _ _ (Below.refl _ _) rfl)
    · intro vals W K hG hU hV hK
      simp only [if_true] at hK
      have d6 := hV 6 (by simp)
      simp only [zeV] at d6
      have d7 := hV 7 (by simp)
      simp only [zeV] at d7
      simp only [Reg.putS, List.foldl, List.headD, List.tail, List.getD_cons_zero, List.getD_cons_succ, Act.put, List.setIfInBounds_toArray, List.set_cons_zero, List.set_cons_succ, d6, d7] at hK ⊢
      go_simp
      exact hK _ _ (Below.refl _ _) ⟨_, _, by rw [show n - q = m1 by omega], src8 _⟩
    · refine Step.step_of ?g ?_
      case g => rfl
      intro A vals W K hA hG hU hV hK
      simp only [if_true] at hK
      have d5 := hV 5 (by simp)
      simp only [zeV] at d5
      obtain ⟨A5, c5, d5, ho5⟩ := d5
      have d8 := hV 8 (by simp)
      simp only [zeV] at d8
      obtain ⟨A8, c8, d8, src8⟩ := d8
      rcases src8 with ⟨rfl, hx⟩ | ⟨ad, rfl, hc⟩
      · have hm0 : m1 = 0 := by rw [← hm1.out]; exact nil_len hx
        refine Keep.wp_append_nothing _ (.tmp 46) (.tmp 49) 22 rfl w0.heap.size 3 i3 1 Try.underlying22 hi3 _ (q + 1) ((zs.take q ++ [0]).map (Value.int .i64)) ((Step.putE hA rfl (Nat.lt_of_sub_eq_succ rfl)).trans d5) ho5 c8 ?x1 ?x2
        case x1 => rw [(Step.putE hA rfl (Nat.lt_of_sub_eq_succ rfl)).trans d8, hm0]
        case x2 =>
          have e2 : n + 1 = q + 1 := by omega
          refine hK _ _ ⟨_, ho5, ⟨rfl, rfl, rfl, Nat.le_refl _, fun _ _ _ => rfl⟩, ho5, own_ge ho5, .inl (by omega)⟩ ⟨A5, c5, by rw [e2], ?_⟩
          rw [List.map_append, hx, List.append_nil, e2]; exact ho5
      · refine Keep.wp_append_keep _ (.tmp 46) (.tmp 49) 22 rfl w0.heap.size 3 i3 (.int .i64 0) 1 8 Try.underlying22 hi3 hy0 hy1 hy2 rfl (by decide) _ (q + 1) ((zs.take q ++ [0]).map (Value.int .i64)) ((Step.putE hA rfl (Nat.lt_of_sub_eq_succ rfl)).trans d5) ho5 ad m1 c8 ((zs.drop q).map (Value.int .i64)) ((Step.putE hA rfl (Nat.lt_of_sub_eq_succ rfl)).trans d8) (by rw [List.length_map, hm1.out, Nat.mul_one]) (fun j u h => src_below hG (hc j u h)) int_one ?c1 ?c2 hG.size ?c3
        case c1 => unfold maxLen; omega
        case c2 => omega
        case c3 =>
          intro v' w' ho hgr hk
          rw [show q + 1 + m1 = n + 1 by omega] at ho
          obtain ⟨A, c, rfl, -⟩ := own_form ho
          exact hK _ _ ⟨_, ho5, hgr, hk, own_ge ho5, .inl (by omega)⟩ ⟨A, c, rfl, by rw [List.map_append]; exact ho⟩
    · intro vals W K hG hU hV hK
      simp only [if_true] at hK
      have d0 := hV 0 (by simp)
      simp only [zeV] at d0
      have d1 := hV 1 (by simp)
      simp only [zeV] at d1
      have d6 := hV 6 (by simp)
      simp only [zeV] at d6
      have d7 := hV 7 (by simp)
      simp only [zeV] at d7
      have d9 := hV 9 (by simp)
      simp only [zeV] at d9
      obtain ⟨A9, c9, d9, ho9⟩ := d9
      simp only [Reg.putS, List.foldl, List.headD, List.tail, List.getD_cons_zero, List.getD_cons_succ, Act.put, List.setIfInBounds_toArray, List.set_cons_zero, List.set_cons_succ, d0, d1, d6, d7, d9] at hK ⊢
      go_simp
      exact hK _ _ (Below.refl _ _) ⟨A9, c9, rfl, ho9⟩
  · intro vals W hG hV
    rw [show List.range (List.length [some 41, some 42, some 43, some 44, some 45, some 46, some 47, some 48, some 49, some 50, some 10]) = [0, 1, 2, 3, 4, 5, 6, 7, 8, 9, 10] from rfl]
    have d0 := hV 0 (by decide)
    simp only [zeV] at d0
    have d1 := hV 1 (by decide)
    simp only [zeV] at d1
    have d2 := hV 2 (by decide)
    simp only [zeV] at d2
    obtain ⟨A2, c2, d2, src2⟩ := d2
    have d3 := hV 3 (by decide)
    simp only [zeV] at d3
    obtain ⟨⟨A3, c3, d3, ho3⟩, hz3⟩ := d3
    have d4 := hV 4 (by decide)
    simp only [zeV] at d4
    obtain ⟨b4, d4, hb4⟩ := d4
    have d5 := hV 5 (by decide)
    simp only [zeV] at d5
    obtain ⟨A5, c5, d5, ho5⟩ := d5
    have d6 := hV 6 (by decide)
    simp only [zeV] at d6
    have d7 := hV 7 (by decide)
    simp only [zeV] at d7
    have d8 := hV 8 (by decide)
    simp only [zeV] at d8
    obtain ⟨A8, c8, d8, src8⟩ := d8
    have d9 := hV 9 (by decide)
    simp only [zeV] at d9
    obtain ⟨A9, c9, d9, ho9⟩ := d9
    have d10 := hV 10 (by decide)
    simp only [zeV] at d10
    obtain ⟨A10, c10, d10, ho10⟩ := d10
    clear hV
    simp only [Reg.putS, List.foldl, List.getD_cons_zero, List.getD_cons_succ, Act.put, List.setIfInBounds_toArray, List.set_cons_zero, List.set_cons_succ, d0, d1, d2, d3, d4, d5, d6, d7, d8, d9, d10]
    clear d0 d1 d2 d3 d4 d5 d6 d7 d8 d9 d10
    clear src2 src8 ho3 ho5 ho9 hb4 hz3
    have hxs : (zs.take q ++ [0] ++ zs.drop q).map (Value.int .i64) = (putZ q zs).map (Value.int .i64) := by unfold putZ; rw [List.append_assoc]; rfl
    rw [hxs] at ho10
    have hat8 := (ints_own ho10).2
    obtain ⟨N1, hN1⟩ : ∃ N1, n + 1 = N1 := ⟨_, rfl⟩
    have bN1 : n + 1 ≤ N1 ∧ N1 ≤ n + 1 := by omega
    rw [hN1]
    have hpl : N1 = (putZ q zs).length := by rw [put_length (by have := HN.out; omega), ← HN.out, hN1]
    have hE2 : errP most (putZ q zs) = E := by rw [err_put (by have := HN.out; omega) (by have := HN.out; omega)]; exact HE.out
    have hof := of_both A10 N1 c10 (putZ q zs) W hpl hat8 (by omega) hE2
    have HA3 : Aside (E = 0 → nA = n ∧ IntsAt W A (intsOf (lensP most.toNat zs))) := fun h => ⟨(HA.out h).1, (HA.out h).2.below hG⟩
    have b4 := bstep b3 hG
    have HPL : Hid (N1 = (putZ q zs).length) := hpl
    clear ho10 hxs HA hat2 hat8 b3 hG hpl hE2 hN1
    go_wp2_with fail
    refine hof.mono ?_
    rintro e w4 ⟨B, nB, cB, rfl, hB, b5⟩
    have HB4 : Aside (E = 0 → nB = N1 ∧ IntsAt w4 B (intsOf (lensP most.toNat (putZ q zs)))) := hB
    have HA4 : Aside (E = 0 → nA = n ∧ IntsAt w4 A (intsOf (lensP most.toNat zs))) := fun h => ⟨(HA3.out h).1, (HA3.out h).2.below b5⟩
    have b6 := bstep b4 b5
    clear hof HA3 hB b4 b5
    have dEE : ((E : Int) != (E : Int)) = false := by simp
    by_cases hE0 : E = 0
    · subst hE0
      obtain ⟨rfl, hA⟩ := HA4.out rfl
      obtain ⟨rfl, hB⟩ := HB4.out rfl
      obtain ⟨m, hm, h1, h15, _, _, hf⟩ := err_zero HE.out
      have hlp := lens_put (k := q) h1 hf (by have := HN.out; omega)
      have HL1 : Hid ((lensP most.toNat zs).length = nA) := by show _ = _; rw [lensP_length, HN.out]
      have HL2 : Hid ((lensP most.toNat (putZ q zs)).length = nB) := by show _ = _; rw [lensP_length, HPL.out]
      have HLP : Hid ((∀ s, s < nA → (lensP most.toNat (putZ q zs)).getD (shiftP q s) 0 = (lensP most.toNat zs).getD s 0) ∧ (lensP most.toNat (putZ q zs)).getD q 0 = 0) := by
        show _ ∧ _
        rw [hm, Int.toNat_natCast, HN.out]
        exact hlp
      have dNN : ((nB : Int) != (nB : Int)) = false := by simp
      clear hlp hf HA4 HB4 hm
      go_wp2
      go_loopg [13, 81] nB (fun kx s13 s81 wr => ∃ i : Nat, i ≤ nB ∧ nB - i ≤ kx ∧ s81 = .int .i64 i ∧ RowKit.Below w.heap.size w wr ∧ RowKit.Below w4.heap.size w4 wr)
      case atStart => exact ⟨0, Nat.zero_le _, Nat.le_refl _, rfl, b6, Below.refl _ _⟩
      case round =>
        clear b6
        obtain ⟨i, hi, hkx, rfl, b6, b7⟩ := hrel
        by_cases hlt : i < nB
        · have hltz : (i : Int) < (nB : Int) := by omega
          obtain ⟨bb, ob, rfl, -, cb⟩ := hB (by rw [intsOf_length]; have := HL2.out; omega)
          have x1 := pw_cell_below b7 (cb i (by rw [intsOf_length]; have := HL2.out; omega))
          rw [intsOf_getD] at x1
          have zk : IntKind.i64.wrap ((i : Int) + 1) = (i : Int) + 1 := by rw [IntKind.wrap_i64]; omega
          rcases Nat.lt_trichotomy i q with hiq | hiq | hiq
          · have t1 : decide ((i : Int) < (q : Int)) = true := decide_eq_true (by omega)
            have t1b : decide (i < q) = true := decide_eq_true (by omega)
            have t2 : ((i : Int) == (q : Int)) = false := by simp; omega
            have t3 : decide ((i : Int) > (q : Int)) = false := decide_eq_false (by omega)
            have t3b : decide (q < i) = false := decide_eq_false (by omega)
            have hin : (i : Int) < (nA : Int) := by omega
            obtain ⟨ba, oa, rfl, -, ca⟩ := hA (by rw [intsOf_length]; have := HL1.out; omega)
            have y1 := pw_cell_below b7 (ca i (by rw [intsOf_length]; have := HL1.out; omega))
            rw [intsOf_getD] at y1
            have hl := HLP.out.1 i (by omega)
            rw [show shiftP q i = i from if_pos hiq] at hl
            rw [hl] at x1
            generalize (((lensP most.toNat zs).getD i 0 : Nat) : Int) = P at x1 y1
            have t4 : (P != P) = false := by simp
            clear hl ca cb
            go_wp2_with fail
            go_quiet (fail)
            go_wp2_with fail
            go_quiet (fail)
            go_wp2
            go_roundg (nB - (i + 1))
            case measure => omega
            case rel => exact ⟨i + 1, hlt, Nat.le_refl _, rfl, drewN_below b6 _, drewN_below b7 _⟩
          · have t1 : decide ((i : Int) < (q : Int)) = false := decide_eq_false (by omega)
            have t1b : decide (i < q) = false := decide_eq_false (by omega)
            have t2 : ((i : Int) == (q : Int)) = true := by simp; omega
            have t3 : decide ((i : Int) > (q : Int)) = false := decide_eq_false (by omega)
            have t3b : decide (q < i) = false := decide_eq_false (by omega)
            obtain ⟨P, hP⟩ : ∃ P : Int, (((lensP most.toNat (putZ q zs)).getD i 0 : Nat) : Int) = P := ⟨_, rfl⟩
            rw [hP] at x1
            have hP0 : P = 0 := by rw [← hP, hiq, HLP.out.2]; rfl
            have t4 : (P != 0) = false := by rw [hP0]; rfl
            replace hiq : Hid (i = q) := hiq
            clear hP hP0 cb
            go_wp2_with fail
            go_quiet (fail)
            go_wp2_with fail
            go_quiet (fail)
            go_wp2
            go_roundg (nB - (i + 1))
            case measure => omega
            case rel => exact ⟨i + 1, hlt, Nat.le_refl _, rfl, drewN_below b6 _, drewN_below b7 _⟩
          · have t1 : decide ((i : Int) < (q : Int)) = false := decide_eq_false (by omega)
            have t1b : decide (i < q) = false := decide_eq_false (by omega)
            have t2 : ((i : Int) == (q : Int)) = false := by simp; omega
            have t3 : decide ((i : Int) > (q : Int)) = true := decide_eq_true (by omega)
            have t3b : decide (q < i) = true := decide_eq_true (by omega)
            obtain ⟨j, hj⟩ : ∃ j, i = j + 1 := ⟨i - 1, by omega⟩
            have hin : (j : Int) < (nA : Int) := by omega
            have zw : IntKind.i64.wrap ((i : Int) - 1) = (j : Int) := by rw [IntKind.wrap_i64]; omega
            obtain ⟨ba, oa, rfl, -, ca⟩ := hA (by rw [intsOf_length]; have := HL1.out; omega)
            have y1 := pw_cell_below b7 (ca j (by rw [intsOf_length]; have := HL1.out; omega))
            rw [intsOf_getD] at y1
            have hl := HLP.out.1 j (by omega)
            rw [show shiftP q j = i from (if_neg (by omega)).trans hj.symm] at hl
            rw [hl] at x1
            generalize (((lensP most.toNat zs).getD j 0 : Nat) : Int) = P at x1 y1
            have t4 : (P != P) = false := by simp
            replace hj : Hid (i = j + 1) := hj
            clear hl ca cb
            go_wp2_with fail
            go_quiet (fail)
            go_wp2_with fail
            go_quiet (fail)
            go_wp2
            go_roundg (nB - (i + 1))
            case measure => omega
            case rel => exact ⟨i + 1, hlt, Nat.le_refl _, rfl, drewN_below b6 _, drewN_below b7 _⟩
        · have hltz : ¬ (i : Int) < (nB : Int) := by omega
          clear hA hB b7
          go_wp2
          go_ret
          exact ⟨rfl, b6⟩
    · have dE0 : ((E : Int) != 0) = true := by simp; omega
      have dEq : ((E : Int) == (E : Int)) = true := by simp
      clear HA4 HB4 hE0
      go_wp2
      go_ret
      exact ⟨rfl, b6⟩

set_option maxHeartbeats 1000000 in
set_option maxRecDepth 100000 in
theorem zer_walk (most : Int) (V : Option Addr) (n cap : Nat) (zs : List Int) (k : Int) (w : World) (_hm : (Lit.int .i64 most).wf = true) (hin : Args.IntsIn .i64 w V n cap zs) (_hk : (Lit.int .i64 k).wf = true) :
    Calls Try.prog 10 #[.int .i64 most, .slice V n cap, .int .i64 k] w fun e w' => e = .returned (.bool true) ∧ RowKit.Below w.heap.size w w' := by
  have hat := intsAt_of hin
  have hn : n = zs.length := hin.len.symm
  have hcap := hin.le
  clear _hk _hm hin
  by_cases hbig : n > 100
  · have d1 : decide ((n : Int) > 100) = true := decide_eq_true (by omega)
    clear hat hn
    go_enter Try.func10, Try.ntmps10
    go_wp2_with fail
    refine (alive_call _).mono ?_
    rintro e w1 ⟨rfl, b1⟩
    go_wp2
    go_ret
    exact ⟨rfl, b1⟩
  rcases V with _ | ad
  · exact zer_none n cap most k zs w hn hcap (by omega) hat
  · by_cases hz : zs = []
    · exact zer_any ad n cap most k zs w hn hcap (by omega) hz hat
    · obtain ⟨b, off, e, _, _⟩ := hat (List.length_pos_iff.2 hz)
      obtain rfl := Option.some.inj e
      exact zer_some b off n cap most k zs w hn hcap (by omega) hat
end Go.Proofs.Ythgidcfgelpkhaa
