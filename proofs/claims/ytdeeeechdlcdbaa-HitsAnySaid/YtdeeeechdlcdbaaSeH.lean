/- A set of hits, as a map in memory. -/
import Derived.Test.YtdeeeechdlcdbaaSeM
import Derived.Test.YtdeeeechdlcdbaaHiW
import Derived.DeepKeys4
set_option linter.unusedSimpArgs false
set_option linter.unusedVariables false
namespace Go.Proofs.Ytdeeeechdlcdbaa.SeH
open Go Go.RowKit Go.Maps Go.Proofs.Ytdeeeechdlcdbaa.Base Go.Proofs.Ytdeeeechdlcdbaa.TrM
theorem laid : laidOutB Try.prog = true := by kernel_rfl
theorem row35 : (35 : TypeId) < Try.prog.types.size := of_decide_eq_true (by kernel_rfl)
theorem klaw35 : WideMaps.KeyLaw Try.prog 35 := deep_law_laid laid (m := 2) (by omega) row35 (by kernel_rfl) (by rw [Try.underlying35])
theorem law35 : Keyed Try.prog 35 := Keyed.of_law klaw35
theorem zero4 (w : World) : (zeroValue 4).run Try.prog w = .ok (.bool false) w := by kernel_rfl
def hitV (x : Int × Int) : Value := .agg #[.int .i64 x.1, .int .i64 x.2]
def keyH (x : Int × Int) : Lit := .string (keyBytes [.int .i64 x.1, .int .i64 x.2])
def WfH (x : Int × Int) : Prop := (Lit.int .i64 x.1).wf = true ∧ (Lit.int .i64 x.2).wf = true
theorem keyType35 : Try.prog.keyType 35 = true := by kernel_rfl
theorem succ_of {a n : Nat} (h : a < n) : ∃ m, n = m + 1 := ⟨n - 1, by omega⟩
theorem types_succ : ∃ m, Try.prog.types.size = m + 1 := succ_of row35
theorem cells35 : Try.prog.cellsOf 35 = 2 := by kernel_rfl
theorem cells3 : Try.prog.cellsOf 3 = 1 := by kernel_rfl
theorem key_hit {x : Int × Int} (h : WfH x) : keyOf Try.prog 35 (hitV x) = some (keyH x) := by
  obtain ⟨m, hm⟩ := types_succ
  unfold keyOf hitV keyH
  simp only [Try.underlying35]
  rw [if_pos (by simp [keyType35, Value.formed, Try.underlying35, cells35]), hm]
  unfold Program.keyLits
  simp only [Try.underlying35, Value.cells]
  rw [if_pos ⟨by rw [cells35]; rfl, by simp⟩]
  simp only [List.mapM_cons, List.mapM_nil, cells3]
  simp [Program.keyLits, Try.underlying3, h.1, h.2]
theorem hitV_inj {x y : Int × Int} (h : hitV x = hitV y) : x = y := by
  unfold hitV at h
  injection h with h
  injection h with h
  injection h with h1 h2
  injection h2 with h2 _
  injection h1 with _ h1
  injection h2 with _ h2
  exact Prod.ext h1 h2
theorem keyH_ne {x y : Int × Int} (hx : WfH x) (hy : WfH y) (h : x ≠ y) : keyH x ≠ keyH y := by
  intro e
  have h1 := key_hit hx
  rw [e] at h1
  exact h (hitV_inj (law35.inj h1 (key_hit hy)))
theorem isKeyH (x : Int × Int) : WideAt.IsKeyLit (keyH x) := by simp [keyH, WideAt.IsKeyLit]
theorem plainElem_boolH {P : Program} {e : TypeId} (he : P.underlying e = some .bool) {v : Value} {z : DataW Unit × List MemPlace} (h : plainElem P e v = some z) : ∃ x, v = .bool x ∧ z = (.lit (.bool x), []) := by
  unfold plainElem at h
  rw [he] at h
  cases v <;> simp at h
  exact ⟨_, rfl, h.symm⟩
/-- Put in, but once. -/
def addIf (S : List (Int × Int)) (x : Int × Int) : List (Int × Int) := if x ∈ S then S else S ++ [x]
theorem mem_addIf {S : List (Int × Int)} {x y : Int × Int} : y ∈ addIf S x ↔ y = x ∨ y ∈ S := by
  unfold addIf
  by_cases h : x ∈ S
  · rw [if_pos h]
    exact ⟨.inr, fun h2 => h2.elim (fun e => by rw [e]; exact h) id⟩
  · rw [if_neg h]; simp [or_comm]
/-- Block b is a map in which just the hits of S are; at most m were put. -/
def SetAt (w : World) (b m : Nat) (S : List (Int × Int)) : Prop :=
  ∃ D : DataW Unit, w.ownsMap Try.prog 35 (plainElem Try.prog 4) b m D ∧ Tidy D ∧ Maps.size D = S.length ∧ ∀ c : Int × Int, WfH c → Maps.has D (keyH c) = decide (c ∈ S) ∧ D.atKey (keyH c) (.lit (.bool false)) = .lit (.bool (decide (c ∈ S)))
section
variable {w w' : World} {b m : Nat} {S : List (Int × Int)}
theorem SetAt.lt (h : SetAt w b m S) : b < w.heap.size := by obtain ⟨D, h, _⟩ := h; exact h.lt
theorem SetAt.below (h : SetAt w b m S) (hb : Below w.heap.size w w') : SetAt w' b m S := by
  have hlt := h.lt
  obtain ⟨D, ⟨es, clock, hbk, r⟩, s⟩ := h
  exact ⟨D, ⟨es, clock, (hb.block b hlt).trans hbk, r⟩, s⟩
theorem SetAt.made (w : World) : SetAt (w.alloc (.map #[] 0)) w.heap.size 0 [] :=
  ⟨.map [], World.ownsMap_made _ _ _ _, tidy_empty, rfl, fun c _ => ⟨rfl, rfl⟩⟩
set_option maxRecDepth 100000 in
theorem SetAt.look (h : SetAt w b m S) {c : Int × Int} (hc : WfH c) : (Instr.lookup 33 (.map (some b)) (.agg #[.int .i64 c.1, .int .i64 c.2]) false).run Try.prog w = .ok (.bool (decide (c ∈ S))) w := by
  obtain ⟨D, ⟨es, clock, hb, F, _, rfl⟩, _, _, r⟩ := h
  obtain ⟨r1, r2⟩ := r c hc
  rcases Maps.fit_look false law35 Try.underlying33 (zero4 w) hb F (key_hit hc) with ⟨hrun, _, hat⟩ | ⟨e0, y, _, _, hrun, hRv, hat, _⟩
  · have hz := hat (.lit (.bool false))
    have e : (DataW.lit (.bool false) : DataW Unit) = .lit (.bool (decide (c ∈ S))) := hz.symm.trans r2
    injection e with e
    injection e with e
    simp only [Bool.false_eq_true, if_false] at hrun
    rw [← e]
    exact hrun
  · have hz := hat (.lit (.bool false))
    have e : y.1 = .lit (.bool (decide (c ∈ S))) := hz.symm.trans r2
    obtain ⟨x, hx, hy⟩ := plainElem_boolH Try.underlying4 hRv
    rw [hy] at e
    injection e with e
    injection e with e
    simp only [Bool.false_eq_true, if_false] at hrun
    rw [← e, ← hx]
    exact hrun
theorem SetAt.put (h : SetAt w b m S) {c : Int × Int} (hc : WfH c) (hl : m < maxLen) :
    ∃ w', (Instr.mapUpdate 33 (.map (some b)) (.agg #[.int .i64 c.1, .int .i64 c.2]) (.bool true)).run Try.prog w = .ok () w' ∧ SetAt w' b (m + 1) (addIf S c) ∧ w.grownBy w' (some b) := by
  obtain ⟨D, h, ht, hs, r⟩ := h
  obtain ⟨w', hrun, ho, hg⟩ := h.update law35 Try.underlying33 hl (key_hit hc) (plainElem_bool Try.underlying4 true)
  have hI : IsMap D := h.isMap
  refine ⟨w', hrun, ⟨_, ho, ht.put (isKeyH c) _, ?_, fun d hd => ?_⟩, hg⟩
  · have := size_put (k := keyH c) ht (.lit (.bool true))
    rw [(r c hc).1, hs] at this
    unfold addIf
    by_cases hn : c ∈ S
    · rw [if_pos hn]
      rw [decide_eq_true hn, if_pos rfl] at this
      exact this
    · rw [if_neg hn, List.length_append]
      rw [decide_eq_false hn, if_neg (by decide)] at this
      exact this
  · by_cases hdc : d = c
    · subst hdc
      have e : decide (d ∈ addIf S d) = true := decide_eq_true (mem_addIf.2 (.inl rfl))
      rw [e]
      exact ⟨has_put_same hI (isKeyH d) _, atKey_put_same hI (isKeyH d) _ _⟩
    · have e : decide (d ∈ addIf S c) = decide (d ∈ S) := decide_eq_decide.2 (by rw [mem_addIf]; simp [hdc])
      rw [e]
      obtain ⟨r1, r2⟩ := r d hd
      exact ⟨(has_put_other (keyH_ne hd hc hdc) _).trans r1, (atKey_put_other (keyH_ne hd hc hdc) _ _).trans r2⟩
theorem SetAt.own (h : SetAt w b m S) : ∃ D, w.ownsMap Try.prog 35 (plainElem (H := Unit) Try.prog 4) b m D ∧ Maps.size D = S.length := by
  obtain ⟨D, h, _, hs, _⟩ := h
  exact ⟨D, h, hs⟩
end
end Go.Proofs.Ytdeeeechdlcdbaa.SeH
