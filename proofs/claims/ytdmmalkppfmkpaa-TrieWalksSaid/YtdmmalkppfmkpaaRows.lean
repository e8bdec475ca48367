/-
  No cell of these rows narrows 'for every input' (looked for: loops, veiled, ifaces, maps, wideKeys, modest, calm, conditions, laid).
  DERIVED. THE GIVEN ROWS OF THIS SEAT. 6 by the template 'for every input the law returns true; each argument reads behind the call as it read before'; 0 by the template 'total and deterministic' (their statements: YtdmmalkppfmkpaaTotals.lean).
  GIVEN WITH THE SEED: the statements are not yours to turn. If you find one false, say at which input.
  Laid BY PROGRAM, IN A SANDBOX (cutbox-rows.mjs): the forced cells as the released guide's own fill.sh prints them over the translation 805d09d26b49294f… (all of the seat's roots in one cut). By AI agents, Wed Nov 11 2026. No macro, syntax, notation, axiom, sorry.
-/
import Derived.Test.YtdmmalkppfmkpaaChecked
import GoSem.Claim
import GoSem.ClaimJoined
import GoSem.ClaimMapViews
import Derived.JoinedTies
import Derived.KernelRfl
namespace Go.Proofs.Ytdmmalkppfmkpaa
/- THE CELL 'sum', in the pinned program and in every row, IS THE sha256 OF THE DUMP (.gsa) THAT YtdmmalkppfmkpaaProg.lean LOADS. Nothing in Lean hashes anything: it is a label: what it is worth is what the hold of that sum in a sandbox is worth. -/
noncomputable def Try.pinned : Pinned := { name := "ytdmmalkppfmkpaa", sum := "805d09d26b49294ffe9887325383ac17af699a0a963e333beb7bbd75bdfe4e84", checked := Try.checked }
namespace Rows
def none {H : Type} : Left H := { results := [], args := [] }

/-- 'lexiphanelaw7.TrieGrows': WHATEVER THE INPUT: true; the input reads as it did. -/
def trieGrowsSpec : ChangeSpec := { name := "trieGrows", fn := fun _ => fun
  | [d1, d2] => { results := [.lit (.bool true)], args := [d1, d2] }
  | _ => none }
def trieGrowsRow : OpenClaim := { program := "ytdmmalkppfmkpaa", sum := "805d09d26b49294ffe9887325383ac17af699a0a963e333beb7bbd75bdfe4e84", func := "lexiphane/lexiphanelaw7.TrieGrows", spec := "trieGrows", apart := false }
def TrieGrowsSaid : Prop := trieGrowsRow.holds Try.pinned (OpenSpec.ofChange trieGrowsSpec)

/-- ITS FALSE NEIGHBOUR: 'it returns false'. Refute it at one input. -/
def trieGrowsWrong : ChangeSpec := { name := "trieGrows", fn := fun _ => fun
  | [d1, d2] => { results := [.lit (.bool false)], args := [d1, d2] }
  | _ => none }
def TrieGrowsWrongFalsely : Prop := trieGrowsRow.holds Try.pinned (OpenSpec.ofChange trieGrowsWrong)

/-- 'lexiphanelaw7.TrieWalks': WHATEVER THE INPUT: true; the input reads as it did. -/
def trieWalksSpec : ChangeSpec := { name := "trieWalks", fn := fun _ => fun
  | [d1, d2] => { results := [.lit (.bool true)], args := [d1, d2] }
  | _ => none }
def trieWalksRow : OpenClaim := { program := "ytdmmalkppfmkpaa", sum := "805d09d26b49294ffe9887325383ac17af699a0a963e333beb7bbd75bdfe4e84", func := "lexiphane/lexiphanelaw7.TrieWalks", spec := "trieWalks", apart := false }
def TrieWalksSaid : Prop := trieWalksRow.holds Try.pinned (OpenSpec.ofChange trieWalksSpec)

/-- ITS FALSE NEIGHBOUR: 'it returns false'. Refute it at one input. -/
def trieWalksWrong : ChangeSpec := { name := "trieWalks", fn := fun _ => fun
  | [d1, d2] => { results := [.lit (.bool false)], args := [d1, d2] }
  | _ => none }
def TrieWalksWrongFalsely : Prop := trieWalksRow.holds Try.pinned (OpenSpec.ofChange trieWalksWrong)

/-- 'lexiphanelaw7.TrieCounts': WHATEVER THE INPUT: true; the input reads as it did. -/
def trieCountsSpec : ChangeSpec := { name := "trieCounts", fn := fun _ => fun
  | [d] => { results := [.lit (.bool true)], args := [d] }
  | _ => none }
def trieCountsRow : OpenClaim := { program := "ytdmmalkppfmkpaa", sum := "805d09d26b49294ffe9887325383ac17af699a0a963e333beb7bbd75bdfe4e84", func := "lexiphane/lexiphanelaw7.TrieCounts", spec := "trieCounts", unfollowed := true, recurses := true, apart := false }
def TrieCountsSaid : Prop := trieCountsRow.holds Try.pinned (OpenSpec.ofChange trieCountsSpec)

/-- ITS FALSE NEIGHBOUR: 'it returns false'. Refute it at one input. -/
def trieCountsWrong : ChangeSpec := { name := "trieCounts", fn := fun _ => fun
  | [d] => { results := [.lit (.bool false)], args := [d] }
  | _ => none }
def TrieCountsWrongFalsely : Prop := trieCountsRow.holds Try.pinned (OpenSpec.ofChange trieCountsWrong)

/-- 'lexiphanelaw7.TrieShared': WHATEVER THE INPUT: true; the input reads as it did. -/
def trieSharedSpec : ChangeSpec := { name := "trieShared", fn := fun _ => fun
  | [d1, d2, d3] => { results := [.lit (.bool true)], args := [d1, d2, d3] }
  | _ => none }
def trieSharedRow : OpenClaim := { program := "ytdmmalkppfmkpaa", sum := "805d09d26b49294ffe9887325383ac17af699a0a963e333beb7bbd75bdfe4e84", func := "lexiphane/lexiphanelaw7.TrieShared", spec := "trieShared", unfollowed := true, recurses := true, apart := false }
def TrieSharedSaid : Prop := trieSharedRow.holds Try.pinned (OpenSpec.ofChange trieSharedSpec)

/-- ITS FALSE NEIGHBOUR: 'it returns false'. Refute it at one input. -/
def trieSharedWrong : ChangeSpec := { name := "trieShared", fn := fun _ => fun
  | [d1, d2, d3] => { results := [.lit (.bool false)], args := [d1, d2, d3] }
  | _ => none }
def TrieSharedWrongFalsely : Prop := trieSharedRow.holds Try.pinned (OpenSpec.ofChange trieSharedWrong)

/-- 'lexiphanelaw7.TrieNext': WHATEVER THE INPUT: true; the input reads as it did. -/
def trieNextSpec : ChangeSpec := { name := "trieNext", fn := fun _ => fun
  | [d1, d2] => { results := [.lit (.bool true)], args := [d1, d2] }
  | _ => none }
def trieNextRow : OpenClaim := { program := "ytdmmalkppfmkpaa", sum := "805d09d26b49294ffe9887325383ac17af699a0a963e333beb7bbd75bdfe4e84", func := "lexiphane/lexiphanelaw7.TrieNext", spec := "trieNext", unfollowed := true, recurses := true, apart := false }
def TrieNextSaid : Prop := trieNextRow.holds Try.pinned (OpenSpec.ofChange trieNextSpec)

/-- ITS FALSE NEIGHBOUR: 'it returns false'. Refute it at one input. -/
def trieNextWrong : ChangeSpec := { name := "trieNext", fn := fun _ => fun
  | [d1, d2] => { results := [.lit (.bool false)], args := [d1, d2] }
  | _ => none }
def TrieNextWrongFalsely : Prop := trieNextRow.holds Try.pinned (OpenSpec.ofChange trieNextWrong)

/-- 'lexiphanelaw7.TrieTells': WHATEVER THE INPUT: true; the input reads as it did. -/
def trieTellsSpec : ChangeSpec := { name := "trieTells", fn := fun _ => fun
  | [d1, d2, d3] => { results := [.lit (.bool true)], args := [d1, d2, d3] }
  | _ => none }
def trieTellsRow : OpenClaim := { program := "ytdmmalkppfmkpaa", sum := "805d09d26b49294ffe9887325383ac17af699a0a963e333beb7bbd75bdfe4e84", func := "lexiphane/lexiphanelaw7.TrieTells", spec := "trieTells", unfollowed := true, recurses := true, apart := false }
def TrieTellsSaid : Prop := trieTellsRow.holds Try.pinned (OpenSpec.ofChange trieTellsSpec)

/-- ITS FALSE NEIGHBOUR: 'it returns false'. Refute it at one input. -/
def trieTellsWrong : ChangeSpec := { name := "trieTells", fn := fun _ => fun
  | [d1, d2, d3] => { results := [.lit (.bool false)], args := [d1, d2, d3] }
  | _ => none }
def TrieTellsWrongFalsely : Prop := trieTellsRow.holds Try.pinned (OpenSpec.ofChange trieTellsWrong)

/- THE SECOND FORM. 'bulk': how many values and letters a reading holds, each counted each time it is reached (what is shared counts as often as it is met; a slice's spare places count too). A statement '..UptoSaid' is the law's where the arguments, and the package variables that the reading takes, are together of bulk at most 1048576: NARROWER than '..Said'. Prove '..Said' where nothing that the law and all that it calls make is longer than what came in: it says more and counts as full. Else prove '..UptoSaid'. A law counts once. -/
mutual
def uptoBulk {H : Type} : DataW H → Nat
  | .lit (.string bytes) => bytes.length + 1
  | .lit _ => 1
  | .nil => 1
  | .ptr d => uptoBulk d + 1
  | .slice elems spare => uptoBulkAll elems + uptoBulkAll spare + 1
  | .agg parts => uptoBulkAll parts + 1
  | .iface _ d => uptoBulk d + 1
  | .map entries => uptoBulkEntries entries + 1
  | .held _ => 1
def uptoBulkAll {H : Type} : List (DataW H) → Nat
  | [] => 0
  | d :: r => uptoBulk d + uptoBulkAll r
def uptoBulkEntries {H : Type} : List (Lit × DataW H) → Nat
  | [] => 0
  | x :: r => uptoBulkEntry x + uptoBulkEntries r
def uptoBulkEntry {H : Type} : Lit × DataW H → Nat
  | (.string bytes, d) => bytes.length + uptoBulk d + 1
  | (_, d) => uptoBulk d + 1
 end
def uptoSmall : (H : Type) → List (DataW H) → Bool := fun _ ds => decide (uptoBulkAll ds ≤ 1048576)
def OpenSpec.upto (s : _root_.Go.ChangeSpec) : _root_.Go.OpenSpec := { _root_.Go.OpenSpec.ofChange s with cond := some uptoSmall }

/-- 'lexiphanelaw7.TrieGrows', WHERE WHAT IT READS IS OF BULK AT MOST 1048576: true; the input reads as it did. -/
def trieGrowsUptoRow : OpenClaim := { program := "ytdmmalkppfmkpaa", sum := "805d09d26b49294ffe9887325383ac17af699a0a963e333beb7bbd75bdfe4e84", func := "lexiphane/lexiphanelaw7.TrieGrows", spec := "trieGrows", apart := false, narrowed := true }
def TrieGrowsUptoSaid : Prop := trieGrowsUptoRow.holds Try.pinned (OpenSpec.upto trieGrowsSpec)

/-- 'lexiphanelaw7.TrieWalks', WHERE WHAT IT READS IS OF BULK AT MOST 1048576: true; the input reads as it did. -/
def trieWalksUptoRow : OpenClaim := { program := "ytdmmalkppfmkpaa", sum := "805d09d26b49294ffe9887325383ac17af699a0a963e333beb7bbd75bdfe4e84", func := "lexiphane/lexiphanelaw7.TrieWalks", spec := "trieWalks", apart := false, narrowed := true }
def TrieWalksUptoSaid : Prop := trieWalksUptoRow.holds Try.pinned (OpenSpec.upto trieWalksSpec)

/-- 'lexiphanelaw7.TrieCounts', WHERE WHAT IT READS IS OF BULK AT MOST 1048576: true; the input reads as it did. -/
def trieCountsUptoRow : OpenClaim := { program := "ytdmmalkppfmkpaa", sum := "805d09d26b49294ffe9887325383ac17af699a0a963e333beb7bbd75bdfe4e84", func := "lexiphane/lexiphanelaw7.TrieCounts", spec := "trieCounts", unfollowed := true, recurses := true, apart := false, narrowed := true }
def TrieCountsUptoSaid : Prop := trieCountsUptoRow.holds Try.pinned (OpenSpec.upto trieCountsSpec)

/-- 'lexiphanelaw7.TrieShared', WHERE WHAT IT READS IS OF BULK AT MOST 1048576: true; the input reads as it did. -/
def trieSharedUptoRow : OpenClaim := { program := "ytdmmalkppfmkpaa", sum := "805d09d26b49294ffe9887325383ac17af699a0a963e333beb7bbd75bdfe4e84", func := "lexiphane/lexiphanelaw7.TrieShared", spec := "trieShared", unfollowed := true, recurses := true, apart := false, narrowed := true }
def TrieSharedUptoSaid : Prop := trieSharedUptoRow.holds Try.pinned (OpenSpec.upto trieSharedSpec)

/-- 'lexiphanelaw7.TrieNext', WHERE WHAT IT READS IS OF BULK AT MOST 1048576: true; the input reads as it did. -/
def trieNextUptoRow : OpenClaim := { program := "ytdmmalkppfmkpaa", sum := "805d09d26b49294ffe9887325383ac17af699a0a963e333beb7bbd75bdfe4e84", func := "lexiphane/lexiphanelaw7.TrieNext", spec := "trieNext", unfollowed := true, recurses := true, apart := false, narrowed := true }
def TrieNextUptoSaid : Prop := trieNextUptoRow.holds Try.pinned (OpenSpec.upto trieNextSpec)

/-- 'lexiphanelaw7.TrieTells', WHERE WHAT IT READS IS OF BULK AT MOST 1048576: true; the input reads as it did. -/
def trieTellsUptoRow : OpenClaim := { program := "ytdmmalkppfmkpaa", sum := "805d09d26b49294ffe9887325383ac17af699a0a963e333beb7bbd75bdfe4e84", func := "lexiphane/lexiphanelaw7.TrieTells", spec := "trieTells", unfollowed := true, recurses := true, apart := false, narrowed := true }
def TrieTellsUptoSaid : Prop := trieTellsUptoRow.holds Try.pinned (OpenSpec.upto trieTellsSpec)

end Rows
end Go.Proofs.Ytdmmalkppfmkpaa
