/- A law for a region that draws its order and only reads, guards and all: the values are told ahead, each operation is proved by itself, over a frame that is a variable. -/
import Derived.Test.YtdeeeechdlcdbaaStep
import Derived.Deep.QuietTactic
import Derived.IntWalk
namespace Go.Proofs.Ytdeeeechdlcdbaa.RegQ
open Go Go.RowKit Go.Proofs.Ytdeeeechdlcdbaa.Reg Go.Proofs.Ytdeeeechdlcdbaa.Step
/-- The frame behind the first i operations. -/
def fr (S : List (Option Nat)) (a0 : Act) (vals : Nat → Value) (i : Nat) : Act := putS S a0 (List.range i) vals
theorem fr_succ (S : List (Option Nat)) (a0 : Act) (vals : Nat → Value) (i : Nat) : fr S a0 vals (i + 1) = (fr S a0 vals i).put (S.getD i none) (vals i) := by
  unfold fr putS
  rw [List.range_succ, List.foldl_append]; rfl
/-- Is an operation wanted, by the values? -/
def wantV (S : List (Option Nat)) (vals : Nat → Value) (o : Oper) (i : Nat) : Bool := match o.guard with
  | none => true
  | some (g, b) => match S.getD g none with
    | some s => match lastOf S (List.range i) s with
      | some j => match vals j with
        | .bool c => c == b
        | _ => false
      | none => false
    | none => false
/-- The class of worlds: some draws on. -/
def Dr (w0 w : World) : Prop := ∃ n, w = w0.drewN n
/-- One operation: wanted, and of this value; or passed over. -/
def StepV (S : List (Option Nat)) (a0 : Act) (P : Program) (w0 : World) (vals : Nat → Value) (i : Nat) (o : Oper) : Prop :=
  (wantV S vals o i = true ∧ ∀ A, A = fr S a0 vals i → ∀ w, Dr w0 w → o.quietAt P A (Dr w0) w (vals i)) ∨ (wantV S vals o i = false ∧ vals i = undef)
def AllV (S : List (Option Nat)) (a0 : Act) (P : Program) (w0 : World) (vals : Nat → Value) : Nat → List Oper → Prop
  | _, [] => True
  | i, o :: os => StepV S a0 P w0 vals i o ∧ AllV S a0 P w0 vals (i + 1) os
/-- Each guard's slot is written, ahead of the operation, by the guard's operation alone. -/
def guardsOk (S : List (Option Nat)) (a0 : Act) (ops : List Oper) : Bool := (List.range ops.length).all fun i => match ops[i]? with
  | some o => match o.guard with
    | none => true
    | some (g, _) => match S.getD g none with
      | some s => decide (s < a0.tmps.size) && (lastOf S (List.range i) s).isSome
      | none => false
  | none => true
theorem want_eq {S : List (Option Nat)} {a0 : Act} {vals : Nat → Value} {ops : List Oper} (hS : (S == ops.map (·.dst)) = true) (hg : guardsOk S a0 ops = true) {i : Nat} {o : Oper} (ho : ops[i]? = some o) : Region.wanted o (yielded ops.toArray (fr S a0 vals i).tmps) = wantV S vals o i := by
  have hSe : S = ops.map (·.dst) := eq_of_beq hS
  unfold Region.wanted wantV
  cases hgd : o.guard with
  | none => rfl
  | some gb =>
    obtain ⟨g, b⟩ := gb
    have hi : i < ops.length := (List.getElem?_eq_some_iff.1 ho).1
    have h1 := List.all_eq_true.1 hg i (List.mem_range.2 hi)
    simp only [ho, hgd] at h1
    have hy : ((ops.toArray[g]?).bind (·.dst)) = S.getD g none := by
      rw [hSe, List.getElem?_toArray, List.getD_eq_getElem?_getD, List.getElem?_map]
      cases ops[g]? <;> rfl
    simp only [yielded, hy]
    cases hs : S.getD g none with
    | none => rw [hs] at h1; simp at h1
    | some s =>
      rw [hs] at h1
      simp only [Bool.and_eq_true, decide_eq_true_eq, Option.isSome_iff_exists] at h1
      obtain ⟨h2, j, h3⟩ := h1
      have h4 : (fr S a0 vals i).tmps[s]? = some (vals j) := by
        have h5 : (fr S a0 vals i).tmps[s]?.getD undef = vals j := putS_get (vals := vals) (List.range i) a0 h3 h2
        have hlt : s < (fr S a0 vals i).tmps.size := by
          unfold fr putS
          have : ∀ (l : List Nat) (a : Act), (l.foldl (fun a j => a.put (S.getD j none) (vals j)) a).tmps.size = a.tmps.size := by
            intro l
            induction l with
            | nil => intro a; rfl
            | cons x l ih => intro a; rw [List.foldl_cons, ih]; cases S.getD x none <;> simp [Act.put]
          rw [this]; exact h2
        rw [Array.getElem?_eq_getElem hlt] at h5 ⊢
        exact congrArg some h5
      simp only [Option.bind_some, h4, h3]
      cases vals j <;> simp
theorem all_quiet {S : List (Option Nat)} {a0 : Act} {P : Program} {w0 : World} {vals : Nat → Value} {ops : List Oper} {Q : Act → Prop} (hS : (S == ops.map (·.dst)) = true) (hg : guardsOk S a0 ops = true) :
    ∀ (rest : List Oper) (i : Nat), (∀ k, rest[k]? = ops[i + k]?) → AllV S a0 P w0 vals i rest → Q (fr S a0 vals (i + rest.length)) → wpQuiet P ops.toArray (Dr w0) Q rest (fr S a0 vals i)
  | [], i, _, _, hq => hq
  | o :: rest, i, hr, h, hq => by
    have ho : ops[i]? = some o := by have := hr 0; simpa using this.symm
    have hw := want_eq (vals := vals) hS hg ho
    have hd : S.getD i none = o.dst := by
      have hSe : S = ops.map (·.dst) := eq_of_beq hS
      rw [hSe, List.getD_eq_getElem?_getD, List.getElem?_map, ho]; rfl
    have hnext := all_quiet (Q := Q) hS hg rest (i + 1) (fun k => by have := hr (k + 1); rw [show i + 1 + k = i + (k + 1) by omega]; simpa using this) h.2 (by rw [show i + 1 + rest.length = i + (rest.length + 1) by omega]; exact hq)
    unfold wpQuiet
    rw [hw]
    rcases h.1 with ⟨h1, h2⟩ | ⟨h1, h2⟩
    · rw [if_pos h1]
      refine ⟨vals i, fun w hC => h2 _ rfl w hC, ?_⟩
      rw [← hd, ← fr_succ]
      exact hnext
    · rw [if_neg (by rw [h1]; exact Bool.false_ne_true), ← h2, ← hd, ← fr_succ]
      exact hnext
/-- The law. -/
theorem wp_region_vals {id : Nat} {P : Program} {Q : Exit → Act → World → Prop} {a0 : Act} {w : World} {ops : List Oper} (S : List (Option Nat)) (vals : Nat → Value) (l : List Nat) (hl : List.range ops.length = l) (hm : P.follows .mixedOrders = true) (hB : Region.lexB .any ops.toArray = true) (hS : (S == ops.map (·.dst)) = true) (hg : guardsOk S a0 ops = true)
    (hs : AllV S a0 P w vals 0 ops) (hend : ∀ n, Q .normal (putS S a0 l vals) (w.drewN n)) : (Code.region id ops.toArray true).wp P Q a0 w := by
  refine wp_region_quiet_lit hm hB ?_
  have h0 : fr S a0 vals 0 = a0 := rfl
  have := all_quiet (Q := fun a' => ∀ w', (∃ n, w' = w.drewN n) → Q .normal a' w') hS hg ops 0 (fun k => by rw [Nat.zero_add]) hs (by rintro w' ⟨n, rfl⟩; rw [Nat.zero_add]; unfold fr; rw [hl]; exact hend n)
  rw [h0] at this
  exact this
section
variable {S : List (Option Nat)} {a0 : Act} {P : Program} {w0 : World} {vals : Nat → Value} {i : Nat} {o : Oper}
theorem step_in (hw : wantV S vals o i = true) (h : ∀ A, A = fr S a0 vals i → ∀ w, Dr w0 w → o.quietAt P A (Dr w0) w (vals i)) : StepV S a0 P w0 vals i o := .inl ⟨hw, h⟩
theorem step_no (hw : wantV S vals o i = false) (h : vals i = undef) : StepV S a0 P w0 vals i o := .inr ⟨hw, h⟩
theorem outG {A : Act} {s : Nat} {v : Value} (hA : A = fr S a0 vals i) (h : lastOf S (List.range i) s = none) (hv : a0.tmps[s]?.getD undef = v) : A.tmps[s]?.getD undef = v := by
  subst hA
  unfold fr
  rw [putS_none _ _ h]; exact hv
theorem inG {A : Act} {s j : Nat} {v : Value} (hA : A = fr S a0 vals i) (h : lastOf S (List.range i) s = some j) (hs : s < a0.tmps.size) (hv : vals j = v) : A.tmps[s]?.getD undef = v := (putA hA h hs).trans hv
end
end Go.Proofs.Ytdeeeechdlcdbaa.RegQ
