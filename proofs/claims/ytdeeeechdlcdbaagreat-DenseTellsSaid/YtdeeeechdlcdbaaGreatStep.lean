/- One operation of a region that draws, with the frame as a variable. -/
import Derived.Test.YtdeeeechdlcdbaaGreatRg
import Derived.Test.YtdeeeechdlcdbaaGreatBase
import Derived.Maps.AppendAt
namespace Go.Proofs.YtdeeeechdlcdbaaGreat.Step
open Go Go.RowKit
/-- The operation of a list that writes a slot last. -/
def lastOf (S : List (Option Nat)) : List Nat → Nat → Option Nat
  | [], _ => none
  | i :: l, s => match lastOf S l s with | some j => some j | none => if S.getD i none = some s then some i else none
theorem putS_none {S : List (Option Nat)} {vals : Nat → Value} {s : Nat} : ∀ (l : List Nat) (a : Act), lastOf S l s = none → (Reg.putS S a l vals).tmps[s]? = a.tmps[s]?
  | [], _, _ => rfl
  | i :: l, a, h => by
    unfold lastOf at h
    cases hl : lastOf S l s with
    | some j => rw [hl] at h; cases h
    | none =>
      rw [hl] at h
      have hi : S.getD i none ≠ some s := by intro e; simp only [e, if_true] at h; cases h
      show (Reg.putS S (a.put (S.getD i none) (vals i)) l vals).tmps[s]? = _
      rw [putS_none l _ hl, Reg.put_get, if_neg hi]
theorem putS_get {S : List (Option Nat)} {vals : Nat → Value} {s j : Nat} : ∀ (l : List Nat) (a : Act), lastOf S l s = some j → s < a.tmps.size → (Reg.putS S a l vals).tmps[s]?.getD undef = vals j
  | [], _, h, _ => by cases h
  | i :: l, a, h, hs => by
    show (Reg.putS S (a.put (S.getD i none) (vals i)) l vals).tmps[s]?.getD undef = _
    unfold lastOf at h
    cases hl : lastOf S l s with
    | some j' =>
      rw [hl] at h
      obtain rfl := Option.some.inj h
      refine putS_get l _ hl ?_
      cases S.getD i none <;> simpa [Act.put] using hs
    | none =>
      rw [hl] at h
      by_cases hi : S.getD i none = some s
      · simp only [hi, if_true, Option.some.injEq] at h
        subst h
        rw [putS_none l _ hl, Reg.put_get, if_pos hi, Array.getElem?_eq_getElem hs]
        rfl
      · simp only [hi, if_false] at h
        cases h
theorem putA {S : List (Option Nat)} {A : Act} {a0 : Act} {l : List Nat} {vals : Nat → Value} {s j : Nat} (hA : A = Reg.putS S a0 l vals) (h : lastOf S l s = some j) (hs : s < a0.tmps.size) : A.tmps[s]?.getD undef = vals j := by
  subst hA
  exact putS_get _ _ h hs
theorem putE {S : List (Option Nat)} {A : Act} {a0 : Act} {l : List Nat} {vals : Nat → Value} {s j : Nat} (hA : A = Reg.putS S a0 l vals) (h : lastOf S l s = some j) (hs : s < a0.tmps.size) : A.eval (.tmp s) = vals j := by
  show A.tmps.getD s undef = vals j
  rw [Array.getD_eq_getD_getElem?]
  exact putA hA h hs
theorem step_of {S : List (Option Nat)} {a0 : Act} {P : Program} {G : World → Prop} {U : Nat → World → Prop} {R : Nat → World → World → Prop} {par : Nat → Nat} {V : Nat → Value → Value → World → Prop} {i : Nat} {D : List Nat} {o : Oper} (hg : o.guard = none)
    (h : ∀ (A : Act) (vals : Nat → Value) (w : World) (K : Act → World → Prop), A = Reg.putS S a0 D vals → G w → U i w → (∀ j ∈ D, V j (vals (par j)) (vals j) w) → (∀ v w', R i w w' → V i (if par i = i then v else vals (par i)) v w' → K (A.put o.dst v) w') → Oper.wp P o A w K (fun _ _ _ => False)) : RegU.StepS S a0 P G U R par V i D o := by
  intro vals w K h1 hu h2 h3
  rw [if_pos (show Region.wanted o _ = true by unfold Region.wanted; rw [hg])]
  exact h _ vals w K rfl h1 hu h2 h3
/-- A slice's header, stored into a struct's one cell. -/
theorem step_store1 {P : Program} {A : Act} {aft : Array Edge} {pos : String} {ty T p t x n c : Nat} {V : Option Addr} {W : World} {K : Act → World → Prop} (hz : ∀ w, (sizeOf T).run P w = .ok 1 w)
    (h1 : A.tmps[p]?.getD undef = .pointer (some ⟨t, 0, none⟩)) (h2 : A.tmps[x]?.getD undef = .slice V n c)
    {u : Value} {tt : TypeId} (hc : W.heap[t]? = some (.cells #[u] tt (0, 0))) (hK : K A (W.setCell ⟨t, 0, none⟩ (.slice V n c))) :
    Oper.wp P { dst := none, op := .store T (.tmp p) (.tmp x), type := ty, pos := pos, after := aft, guard := none } A W K (fun _ _ _ => False) := by
  have hc0 : W.cell? ⟨t, 0, none⟩ = some u := Base.cell_of hc rfl
  have hf0 : W.frozen? ⟨t, 0, none⟩ = false := Base.frozen_of hc
  have hzz := hz
  unfold Oper.wp
  go_simp
  exact hK
end Go.Proofs.YtdeeeechdlcdbaaGreat.Step
