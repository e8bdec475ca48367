/-
  No cell of these rows narrows 'for every input' (looked for: loops, veiled, ifaces, maps, wideKeys, modest, calm, conditions, laid).
  DERIVED. THE GIVEN ROWS OF THIS SEAT. 4 by the template 'for every input the law returns true; each argument reads behind the call as it read before'; 0 by the template 'total and deterministic' (their statements: YtdeeeechdlcdbaaGreatTotals.lean).
  GIVEN WITH THE SEED: the statements are not yours to turn. If you find one false, say at which input.
  Laid BY PROGRAM, IN A SANDBOX (cutbox-rows.mjs): the forced cells as the released guide's own fill.sh prints them over the translation 4232bdb786432f65… (all of the seat's roots in one cut). By AI agents, Wed Nov 11 2026. No macro, syntax, notation, axiom, sorry.
-/
import Derived.Test.YtdeeeechdlcdbaaGreatChecked
import GoSem.Claim
import GoSem.ClaimJoined
import GoSem.ClaimMapViews
import Derived.JoinedTies
import Derived.KernelRfl
namespace Go.Proofs.YtdeeeechdlcdbaaGreat
/- THE CELL 'sum', in the pinned program and in every row, IS THE sha256 OF THE DUMP (.gsa) THAT YtdeeeechdlcdbaaGreatProg.lean LOADS. Nothing in Lean hashes anything: it is a label: what it is worth is what the hold of that sum in a sandbox is worth. -/
noncomputable def Tryz.pinned : Pinned := { name := "ytdeeeechdlcdbaagreat", sum := "4232bdb786432f65a01788d231c9a9f431d7e8b5c1e39f6f9cb8dca52b512b8d", checked := Tryz.checked }
namespace Rows
def none {H : Type} : Left H := { results := [], args := [] }

/-- 'lexiphanelaw8.LinksTells': WHATEVER THE INPUT: true; the input reads as it did. -/
def linksTellsSpec : ChangeSpec := { name := "linksTells", fn := fun _ => fun
  | [d1, d2] => { results := [.lit (.bool true)], args := [d1, d2] }
  | _ => none }
def linksTellsRow : OpenClaim := { program := "ytdeeeechdlcdbaagreat", sum := "4232bdb786432f65a01788d231c9a9f431d7e8b5c1e39f6f9cb8dca52b512b8d", func := "lexiphane/lexiphanelaw8.LinksTells", spec := "linksTells", unfollowed := true, recurses := true, apart := false }
def LinksTellsSaid : Prop := linksTellsRow.holds Tryz.pinned (OpenSpec.ofChange linksTellsSpec)

/-- ITS FALSE NEIGHBOUR: 'it returns false'. Refute it at one input. -/
def linksTellsWrong : ChangeSpec := { name := "linksTells", fn := fun _ => fun
  | [d1, d2] => { results := [.lit (.bool false)], args := [d1, d2] }
  | _ => none }
def LinksTellsWrongFalsely : Prop := linksTellsRow.holds Tryz.pinned (OpenSpec.ofChange linksTellsWrong)

/-- 'lexiphanelaw9.ScanPlays': WHATEVER THE INPUT: true; the input reads as it did. -/
def scanPlaysSpec : ChangeSpec := { name := "scanPlays", fn := fun _ => fun
  | [d1, d2, d3] => { results := [.lit (.bool true)], args := [d1, d2, d3] }
  | _ => none }
def scanPlaysRow : OpenClaim := { program := "ytdeeeechdlcdbaagreat", sum := "4232bdb786432f65a01788d231c9a9f431d7e8b5c1e39f6f9cb8dca52b512b8d", func := "lexiphane/lexiphanelaw9.ScanPlays", spec := "scanPlays", unfollowed := true, recurses := true, apart := false }
def ScanPlaysSaid : Prop := scanPlaysRow.holds Tryz.pinned (OpenSpec.ofChange scanPlaysSpec)

/-- ITS FALSE NEIGHBOUR: 'it returns false'. Refute it at one input. -/
def scanPlaysWrong : ChangeSpec := { name := "scanPlays", fn := fun _ => fun
  | [d1, d2, d3] => { results := [.lit (.bool false)], args := [d1, d2, d3] }
  | _ => none }
def ScanPlaysWrongFalsely : Prop := scanPlaysRow.holds Tryz.pinned (OpenSpec.ofChange scanPlaysWrong)

/-- 'lexiphanelaw10.DenseTells': WHATEVER THE INPUT: true; the input reads as it did. -/
def denseTellsSpec : ChangeSpec := { name := "denseTells", fn := fun _ => fun
  | [d1, d2, d3] => { results := [.lit (.bool true)], args := [d1, d2, d3] }
  | _ => none }
def denseTellsRow : OpenClaim := { program := "ytdeeeechdlcdbaagreat", sum := "4232bdb786432f65a01788d231c9a9f431d7e8b5c1e39f6f9cb8dca52b512b8d", func := "lexiphane/lexiphanelaw10.DenseTells", spec := "denseTells", unfollowed := true, recurses := true, apart := false }
def DenseTellsSaid : Prop := denseTellsRow.holds Tryz.pinned (OpenSpec.ofChange denseTellsSpec)

/-- ITS FALSE NEIGHBOUR: 'it returns false'. Refute it at one input. -/
def denseTellsWrong : ChangeSpec := { name := "denseTells", fn := fun _ => fun
  | [d1, d2, d3] => { results := [.lit (.bool false)], args := [d1, d2, d3] }
  | _ => none }
def DenseTellsWrongFalsely : Prop := denseTellsRow.holds Tryz.pinned (OpenSpec.ofChange denseTellsWrong)

/-- 'lexiphanelaw11.HitsTells': WHATEVER THE INPUT: true; the input reads as it did. -/
def hitsTellsSpec : ChangeSpec := { name := "hitsTells", fn := fun _ => fun
  | [d1, d2, d3] => { results := [.lit (.bool true)], args := [d1, d2, d3] }
  | _ => none }
def hitsTellsRow : OpenClaim := { program := "ytdeeeechdlcdbaagreat", sum := "4232bdb786432f65a01788d231c9a9f431d7e8b5c1e39f6f9cb8dca52b512b8d", func := "lexiphane/lexiphanelaw11.HitsTells", spec := "hitsTells", unfollowed := true, recurses := true, apart := false }
def HitsTellsSaid : Prop := hitsTellsRow.holds Tryz.pinned (OpenSpec.ofChange hitsTellsSpec)

/-- ITS FALSE NEIGHBOUR: 'it returns false'. Refute it at one input. -/
def hitsTellsWrong : ChangeSpec := { name := "hitsTells", fn := fun _ => fun
  | [d1, d2, d3] => { results := [.lit (.bool false)], args := [d1, d2, d3] }
  | _ => none }
def HitsTellsWrongFalsely : Prop := hitsTellsRow.holds Tryz.pinned (OpenSpec.ofChange hitsTellsWrong)

/- THE SECOND FORM. 'bulk': how many values and letters a reading holds, each counted each time it is reached (what is shared counts as often as it is met; a slice's spare places count too). A statement '..UptoSaid' is the law's where the arguments, and the package variables that the reading takes, are together of bulk at most 1048576: NARROWER than '..Said'. Prove '..Said' where nothing that the law and all that it calls make is longer than what came in: it says more and counts as full. Else prove '..UptoSaid'. A law counts once. -/
mutual
def uptoBulk {H : Type} : DataW H → Nat
  | .lit (.string bytes) => bytes.length + 1
  | .lit _ => 1
  | .nil => 1
  | .ptr d => uptoBulk d + 1
  | .slice elems spare => uptoBulkAll elems + uptoBulkAll spare + 1
  | .agg parts => uptoBulkAll parts + 1
  | .iface _ d => uptoBulk d + 1
  | .map entries => uptoBulkEntries entries + 1
  | .held _ => 1
def uptoBulkAll {H : Type} : List (DataW H) → Nat
  | [] => 0
  | d :: r => uptoBulk d + uptoBulkAll r
def uptoBulkEntries {H : Type} : List (Lit × DataW H) → Nat
  | [] => 0
  | x :: r => uptoBulkEntry x + uptoBulkEntries r
def uptoBulkEntry {H : Type} : Lit × DataW H → Nat
  | (.string bytes, d) => bytes.length + uptoBulk d + 1
  | (_, d) => uptoBulk d + 1
 end
def uptoSmall : (H : Type) → List (DataW H) → Bool := fun _ ds => decide (uptoBulkAll ds ≤ 1048576)
def OpenSpec.upto (s : _root_.Go.ChangeSpec) : _root_.Go.OpenSpec := { _root_.Go.OpenSpec.ofChange s with cond := some uptoSmall }

/-- 'lexiphanelaw8.LinksTells', WHERE WHAT IT READS IS OF BULK AT MOST 1048576: true; the input reads as it did. -/
def linksTellsUptoRow : OpenClaim := { program := "ytdeeeechdlcdbaagreat", sum := "4232bdb786432f65a01788d231c9a9f431d7e8b5c1e39f6f9cb8dca52b512b8d", func := "lexiphane/lexiphanelaw8.LinksTells", spec := "linksTells", unfollowed := true, recurses := true, apart := false, narrowed := true }
def LinksTellsUptoSaid : Prop := linksTellsUptoRow.holds Tryz.pinned (OpenSpec.upto linksTellsSpec)

/-- 'lexiphanelaw9.ScanPlays', WHERE WHAT IT READS IS OF BULK AT MOST 1048576: true; the input reads as it did. -/
def scanPlaysUptoRow : OpenClaim := { program := "ytdeeeechdlcdbaagreat", sum := "4232bdb786432f65a01788d231c9a9f431d7e8b5c1e39f6f9cb8dca52b512b8d", func := "lexiphane/lexiphanelaw9.ScanPlays", spec := "scanPlays", unfollowed := true, recurses := true, apart := false, narrowed := true }
def ScanPlaysUptoSaid : Prop := scanPlaysUptoRow.holds Tryz.pinned (OpenSpec.upto scanPlaysSpec)

/-- 'lexiphanelaw10.DenseTells', WHERE WHAT IT READS IS OF BULK AT MOST 1048576: true; the input reads as it did. -/
def denseTellsUptoRow : OpenClaim := { program := "ytdeeeechdlcdbaagreat", sum := "4232bdb786432f65a01788d231c9a9f431d7e8b5c1e39f6f9cb8dca52b512b8d", func := "lexiphane/lexiphanelaw10.DenseTells", spec := "denseTells", unfollowed := true, recurses := true, apart := false, narrowed := true }
def DenseTellsUptoSaid : Prop := denseTellsUptoRow.holds Tryz.pinned (OpenSpec.upto denseTellsSpec)

/-- 'lexiphanelaw11.HitsTells', WHERE WHAT IT READS IS OF BULK AT MOST 1048576: true; the input reads as it did. -/
def hitsTellsUptoRow : OpenClaim := { program := "ytdeeeechdlcdbaagreat", sum := "4232bdb786432f65a01788d231c9a9f431d7e8b5c1e39f6f9cb8dca52b512b8d", func := "lexiphane/lexiphanelaw11.HitsTells", spec := "hitsTells", unfollowed := true, recurses := true, apart := false, narrowed := true }
def HitsTellsUptoSaid : Prop := hitsTellsUptoRow.holds Tryz.pinned (OpenSpec.upto hitsTellsSpec)

end Rows
end Go.Proofs.YtdeeeechdlcdbaaGreat
