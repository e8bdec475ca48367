/- What Of computes, in plain Lean: symbols by count, packages, levels, lengths. -/
import Derived.Test.YthgidcfgelpkhaaStR
namespace Go.Proofs.Ythgidcfgelpkhaa
open Go.Sort

/-- A symbol that is there, or a package: its count, its symbols. -/
abbrev PC := Nat × List Nat
def ltP (a b : PC) : Bool := decide (a.1 < b.1)
/-- The symbols that are there, in their order. -/
def rawAt (s : Nat) (z : Int) : List PC := if 0 < z then [(z.toNat, [s])] else []
def rawFrom : Nat → List Int → List PC
  | _, [] => []
  | s, z :: zs => rawAt s z ++ rawFrom (s + 1) zs
def singleP (zs : List Int) : List PC := sortedBy ltP (rawFrom 0 zs)
/-- Two by two. -/
def packP : List PC → List PC
  | a :: b :: l => (a.1 + b.1, a.2 ++ b.2) :: packP l
  | _ => []
def levelP (first : List PC) : Nat → List PC
  | 0 => first
  | k + 1 => sortedBy ltP (first ++ packP (levelP first k))
def takeN (m : Nat) : Nat := if m = 1 then 1 else 2 * m - 2
def chosenP (most : Nat) (zs : List Int) : List Nat := ((levelP (singleP zs) (most - 1)).take (takeN (singleP zs).length)).flatMap (·.2)
def lensP (most : Nat) (zs : List Int) : List Nat := (List.range zs.length).map fun s => (chosenP most zs).count s
def badP (zs : List Int) : Bool := zs.any fun c => decide (c < 0) || decide (c > 1073741824)
/-- Why there are none. -/
def errP (most : Int) (zs : List Int) : Nat :=
  if (decide (most < 1) || decide (most > 15)) || badP zs then 1 else if decide (zs.length > 356) || decide ((singleP zs).length > 2 ^ most.toNat) then 10 else 0

theorem rawFrom_append (s : Nat) (a b : List Int) : rawFrom s (a ++ b) = rawFrom s a ++ rawFrom (s + a.length) b := by
  induction a generalizing s with
  | nil => rfl
  | cons z a ih => rw [List.cons_append, rawFrom, rawFrom, ih, List.append_assoc, List.length_cons, Nat.add_assoc s, Nat.add_comm 1]
theorem rawFrom_take {zs : List Int} {k : Nat} (hk : k < zs.length) : rawFrom 0 (zs.take (k + 1)) = rawFrom 0 (zs.take k) ++ rawAt k (zs.getD k 0) := by
  rw [List.take_succ_eq_append_getElem hk, rawFrom_append, List.length_take_of_le (Nat.le_of_lt hk), Nat.zero_add]
  simp [rawFrom, List.getD_eq_getElem?_getD, hk]
theorem rawFrom_le (s : Nat) (zs : List Int) : (rawFrom s zs).length ≤ zs.length := by
  induction zs generalizing s with
  | nil => exact Nat.le_refl _
  | cons z zs ih =>
    have := ih (s + 1)
    rw [rawFrom, List.length_append, List.length_cons]
    unfold rawAt
    split <;> simp <;> omega
theorem sortedBy_length {β : Type} (lt : β → β → Bool) (l : List β) : (sortedBy lt l).length = l.length := by simp [sortedBy]
theorem singleP_le (zs : List Int) : (singleP zs).length ≤ zs.length := by rw [singleP, sortedBy_length]; exact rawFrom_le 0 zs
theorem packP_length : ∀ l : List PC, (packP l).length = l.length / 2
  | [] => by simp [packP]
  | [_] => by simp [packP]
  | a :: b :: l => by rw [packP, List.length_cons, packP_length l, List.length_cons, List.length_cons]; omega
end Go.Proofs.Ythgidcfgelpkhaa
