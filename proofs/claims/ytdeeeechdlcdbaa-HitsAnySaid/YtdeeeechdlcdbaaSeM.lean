/- A set of numbers, as a map in memory. -/
import Derived.Test.YtdeeeechdlcdbaaLkS
import Derived.Maps.Views
set_option linter.unusedSimpArgs false
set_option linter.unusedVariables false
namespace Go.Proofs.Ytdeeeechdlcdbaa.SeM
open Go Go.RowKit Go.Maps Go.Proofs.Ytdeeeechdlcdbaa.Base Go.Proofs.Ytdeeeechdlcdbaa.TrM
theorem law3 : Keyed Try.prog 3 := int_keyed Try.underlying3
theorem zero4 (w : World) : (zeroValue 4).run Try.prog w = .ok (.bool false) w := by kernel_rfl
def keyN (c : Nat) : Lit := .int .i64 (c : Int)
theorem wf_n {c : Nat} (h : c ≤ 1000000) : (keyN c).wf = true := wf_nat h
theorem isKeyN (c : Nat) : WideAt.IsKeyLit (keyN c) := by simp [keyN, WideAt.IsKeyLit]
theorem keyN_ne {c d : Nat} (h : c ≠ d) : keyN c ≠ keyN d := by
  intro e; unfold keyN at e; injection e with _ e; exact h (by omega)
theorem plainElem_bool_inv {P : Program} {e : TypeId} (he : P.underlying e = some .bool) {v : Value} {z : DataW Unit × List MemPlace} (h : plainElem P e v = some z) : ∃ x, v = .bool x ∧ z = (.lit (.bool x), []) := by
  unfold plainElem at h
  rw [he] at h
  cases v <;> simp at h
  exact ⟨_, rfl, h.symm⟩
/-- Block b is a map in which just the numbers of S are. -/
def SetAt (w : World) (b : Nat) (S : List Nat) : Prop :=
  ∃ D : DataW Unit, w.ownsMap Try.prog 3 (plainElem Try.prog 4) b S.length D ∧ Tidy D ∧ Maps.size D = S.length ∧ ∀ c : Nat, Maps.has D (keyN c) = decide (c ∈ S) ∧ D.atKey (keyN c) (.lit (.bool false)) = .lit (.bool (decide (c ∈ S)))
section
variable {w w' : World} {b : Nat} {S : List Nat}
theorem SetAt.lt (h : SetAt w b S) : b < w.heap.size := by obtain ⟨D, h, _⟩ := h; exact h.lt
theorem SetAt.below (h : SetAt w b S) (hb : Below w.heap.size w w') : SetAt w' b S := by
  have hlt := h.lt
  obtain ⟨D, ⟨es, clock, hbk, r⟩, s⟩ := h
  exact ⟨D, ⟨es, clock, (hb.block b hlt).trans hbk, r⟩, s⟩
theorem SetAt.made (w : World) : SetAt (w.alloc (.map #[] 0)) w.heap.size [] :=
  ⟨.map [], World.ownsMap_made _ _ _ _, tidy_empty, rfl, fun c => ⟨rfl, rfl⟩⟩
set_option maxRecDepth 100000 in
theorem SetAt.look (h : SetAt w b S) {c : Nat} (hc : c ≤ 1000000) : (Instr.lookup 69 (.map (some b)) (.int .i64 (c : Int)) false).run Try.prog w = .ok (.bool (decide (c ∈ S))) w := by
  obtain ⟨D, ⟨es, clock, hb, F, _, rfl⟩, _, _, r⟩ := h
  obtain ⟨r1, r2⟩ := r c
  rcases Maps.fit_look false law3 Try.underlying69 (zero4 w) hb F (keyOf_int_mk Try.underlying3 (wf_n hc)) with ⟨hrun, _, hat⟩ | ⟨e0, y, _, _, hrun, hRv, hat, _⟩
  · have hz := hat (.lit (.bool false))
    have e : (DataW.lit (.bool false) : DataW Unit) = .lit (.bool (decide (c ∈ S))) := hz.symm.trans r2
    injection e with e
    injection e with e
    simp only [Bool.false_eq_true, if_false] at hrun
    rw [← e]
    exact hrun
  · have hz := hat (.lit (.bool false))
    have e : y.1 = .lit (.bool (decide (c ∈ S))) := hz.symm.trans r2
    obtain ⟨x, hx, hy⟩ := plainElem_bool_inv Try.underlying4 hRv
    rw [hy] at e
    injection e with e
    injection e with e
    simp only [Bool.false_eq_true, if_false] at hrun
    rw [← e, ← hx]
    exact hrun
theorem SetAt.put (h : SetAt w b S) {c : Nat} (hc : c ≤ 1000000) (hn : c ∉ S) (hl : S.length < maxLen) :
    ∃ w', (Instr.mapUpdate 69 (.map (some b)) (.int .i64 (c : Int)) (.bool true)).run Try.prog w = .ok () w' ∧ SetAt w' b (S ++ [c]) ∧ w.grownBy w' (some b) := by
  obtain ⟨D, h, ht, hs, r⟩ := h
  obtain ⟨w', hrun, ho, hg⟩ := h.update law3 Try.underlying69 hl (keyOf_int_mk Try.underlying3 (wf_n hc)) (plainElem_bool Try.underlying4 true)
  have hI : IsMap D := h.isMap
  refine ⟨w', hrun, ⟨_, by rw [List.length_append]; exact ho, ht.put (isKeyN c) _, ?_, fun d => ?_⟩, hg⟩
  · have := size_put (k := keyN c) ht (.lit (.bool true))
    rw [(r c).1, decide_eq_false hn, if_neg (by decide), hs] at this
    rw [List.length_append]; exact this
  · by_cases hdc : d = c
    · subst hdc
      have e : decide (d ∈ S ++ [d]) = true := by simp
      rw [e]
      exact ⟨has_put_same hI (isKeyN d) _, atKey_put_same hI (isKeyN d) _ _⟩
    · have e : decide (d ∈ S ++ [c]) = decide (d ∈ S) := by simp [hdc]
      rw [e]
      obtain ⟨r1, r2⟩ := r d
      exact ⟨(has_put_other (keyN_ne hdc) _).trans r1, (atKey_put_other (keyN_ne hdc) _ _).trans r2⟩
theorem SetAt.own (h : SetAt w b S) : ∃ D, w.ownsMap Try.prog 3 (plainElem (H := Unit) Try.prog 4) b S.length D ∧ Maps.size D = S.length := by
  obtain ⟨D, h, _, hs, _⟩ := h
  exact ⟨D, h, hs⟩
end
theorem own_grown {w w' : World} {base n b : Nat} {e : TypeId} {size : Nat} {v : Value} {xs : List Value} (h : w.ownsRow base e size v n xs) (hg : w.grownBy w' (some b)) (hb : b < base) : w'.ownsRow base e size v n xs := by
  refine ⟨h.1, ?_⟩
  rcases h.2 with h1 | ⟨g, cap, cur, h1, h2, h3, h4⟩
  · exact .inl h1
  · exact .inr ⟨g, cap, cur, h1, h2, (hg.block g (heap_lt h3) (fun e => by injection e with e; omega)).trans h3, h4⟩
end Go.Proofs.Ytdeeeechdlcdbaa.SeM
