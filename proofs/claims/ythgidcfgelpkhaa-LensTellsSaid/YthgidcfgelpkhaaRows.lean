/-
  No cell of these rows narrows 'for every input' (looked for: loops, veiled, ifaces, maps, wideKeys, modest, calm, conditions, laid).
  DERIVED. THE GIVEN ROWS OF THIS SEAT. 10 by the template 'for every input the law returns true; each argument reads behind the call as it read before'; 0 by the template 'total and deterministic' (their statements: YthgidcfgelpkhaaTotals.lean).
  GIVEN WITH THE SEED: the statements are not yours to turn. If you find one false, say at which input.
  Laid BY PROGRAM, IN A SANDBOX (cutbox-rows.mjs): the forced cells as the released guide's own fill.sh prints them over the translation e6148b1c47898170… (all of the seat's roots in one cut). By AI agents, Wed Nov 11 2026. No macro, syntax, notation, axiom, sorry.
-/
import Derived.Test.YthgidcfgelpkhaaChecked
import GoSem.Claim
import GoSem.ClaimJoined
import GoSem.ClaimMapViews
import Derived.JoinedTies
import Derived.KernelRfl
namespace Go.Proofs.Ythgidcfgelpkhaa
/- THE CELL 'sum', in the pinned program and in every row, IS THE sha256 OF THE DUMP (.gsa) THAT YthgidcfgelpkhaaProg.lean LOADS. Nothing in Lean hashes anything: it is a label: what it is worth is what the hold of that sum in a sandbox is worth. -/
noncomputable def Try.pinned : Pinned := { name := "ythgidcfgelpkhaa", sum := "e6148b1c4789817065aa1d3f7ecdb2d2663922e648455dbb972f866d38c96382", checked := Try.checked }
namespace Rows
def none {H : Type} : Left H := { results := [], args := [] }

/-- 'lexiphanelaw18.LensTells': WHATEVER THE INPUT: true; the input reads as it did. -/
def lensTellsSpec : ChangeSpec := { name := "lensTells", fn := fun _ => fun
  | [d1, d2] => { results := [.lit (.bool true)], args := [d1, d2] }
  | _ => none }
def lensTellsRow : OpenClaim := { program := "ythgidcfgelpkhaa", sum := "e6148b1c4789817065aa1d3f7ecdb2d2663922e648455dbb972f866d38c96382", func := "lexiphane/lexiphanelaw18.LensTells", spec := "lensTells", unfollowed := true, recurses := true, apart := false }
def LensTellsSaid : Prop := lensTellsRow.holds Try.pinned (OpenSpec.ofChange lensTellsSpec)

/-- ITS FALSE NEIGHBOUR: 'it returns false'. Refute it at one input. -/
def lensTellsWrong : ChangeSpec := { name := "lensTells", fn := fun _ => fun
  | [d1, d2] => { results := [.lit (.bool false)], args := [d1, d2] }
  | _ => none }
def LensTellsWrongFalsely : Prop := lensTellsRow.holds Try.pinned (OpenSpec.ofChange lensTellsWrong)

/-- 'lexiphanelaw18.LensLeast': WHATEVER THE INPUT: true; the input reads as it did. -/
def lensLeastSpec : ChangeSpec := { name := "lensLeast", fn := fun _ => fun
  | [d1, d2, d3] => { results := [.lit (.bool true)], args := [d1, d2, d3] }
  | _ => none }
def lensLeastRow : OpenClaim := { program := "ythgidcfgelpkhaa", sum := "e6148b1c4789817065aa1d3f7ecdb2d2663922e648455dbb972f866d38c96382", func := "lexiphane/lexiphanelaw18.LensLeast", spec := "lensLeast", unfollowed := true, recurses := true, apart := false }
def LensLeastSaid : Prop := lensLeastRow.holds Try.pinned (OpenSpec.ofChange lensLeastSpec)

/-- ITS FALSE NEIGHBOUR: 'it returns false'. Refute it at one input. -/
def lensLeastWrong : ChangeSpec := { name := "lensLeast", fn := fun _ => fun
  | [d1, d2, d3] => { results := [.lit (.bool false)], args := [d1, d2, d3] }
  | _ => none }
def LensLeastWrongFalsely : Prop := lensLeastRow.holds Try.pinned (OpenSpec.ofChange lensLeastWrong)

/-- 'lexiphanelaw18.LensOrder': WHATEVER THE INPUT: true; the input reads as it did. -/
def lensOrderSpec : ChangeSpec := { name := "lensOrder", fn := fun _ => fun
  | [d1, d2] => { results := [.lit (.bool true)], args := [d1, d2] }
  | _ => none }
def lensOrderRow : OpenClaim := { program := "ythgidcfgelpkhaa", sum := "e6148b1c4789817065aa1d3f7ecdb2d2663922e648455dbb972f866d38c96382", func := "lexiphane/lexiphanelaw18.LensOrder", spec := "lensOrder", unfollowed := true, recurses := true, apart := false }
def LensOrderSaid : Prop := lensOrderRow.holds Try.pinned (OpenSpec.ofChange lensOrderSpec)

/-- ITS FALSE NEIGHBOUR: 'it returns false'. Refute it at one input. -/
def lensOrderWrong : ChangeSpec := { name := "lensOrder", fn := fun _ => fun
  | [d1, d2] => { results := [.lit (.bool false)], args := [d1, d2] }
  | _ => none }
def LensOrderWrongFalsely : Prop := lensOrderRow.holds Try.pinned (OpenSpec.ofChange lensOrderWrong)

/-- 'lexiphanelaw18.LensBound': WHATEVER THE INPUT: true; the input reads as it did. -/
def lensBoundSpec : ChangeSpec := { name := "lensBound", fn := fun _ => fun
  | [d1, d2] => { results := [.lit (.bool true)], args := [d1, d2] }
  | _ => none }
def lensBoundRow : OpenClaim := { program := "ythgidcfgelpkhaa", sum := "e6148b1c4789817065aa1d3f7ecdb2d2663922e648455dbb972f866d38c96382", func := "lexiphane/lexiphanelaw18.LensBound", spec := "lensBound", unfollowed := true, recurses := true, apart := false }
def LensBoundSaid : Prop := lensBoundRow.holds Try.pinned (OpenSpec.ofChange lensBoundSpec)

/-- ITS FALSE NEIGHBOUR: 'it returns false'. Refute it at one input. -/
def lensBoundWrong : ChangeSpec := { name := "lensBound", fn := fun _ => fun
  | [d1, d2] => { results := [.lit (.bool false)], args := [d1, d2] }
  | _ => none }
def LensBoundWrongFalsely : Prop := lensBoundRow.holds Try.pinned (OpenSpec.ofChange lensBoundWrong)

/-- 'lexiphanelaw18.LensEven': WHATEVER THE INPUT: true; the input reads as it did. -/
def lensEvenSpec : ChangeSpec := { name := "lensEven", fn := fun _ => fun
  | [d1, d2, d3] => { results := [.lit (.bool true)], args := [d1, d2, d3] }
  | _ => none }
def lensEvenRow : OpenClaim := { program := "ythgidcfgelpkhaa", sum := "e6148b1c4789817065aa1d3f7ecdb2d2663922e648455dbb972f866d38c96382", func := "lexiphane/lexiphanelaw18.LensEven", spec := "lensEven", unfollowed := true, recurses := true, apart := false }
def LensEvenSaid : Prop := lensEvenRow.holds Try.pinned (OpenSpec.ofChange lensEvenSpec)

/-- ITS FALSE NEIGHBOUR: 'it returns false'. Refute it at one input. -/
def lensEvenWrong : ChangeSpec := { name := "lensEven", fn := fun _ => fun
  | [d1, d2, d3] => { results := [.lit (.bool false)], args := [d1, d2, d3] }
  | _ => none }
def LensEvenWrongFalsely : Prop := lensEvenRow.holds Try.pinned (OpenSpec.ofChange lensEvenWrong)

/-- 'lexiphanelaw18.LensRefuses': WHATEVER THE INPUT: true; the input reads as it did. -/
def lensRefusesSpec : ChangeSpec := { name := "lensRefuses", fn := fun _ => fun
  | [d1, d2, d3] => { results := [.lit (.bool true)], args := [d1, d2, d3] }
  | _ => none }
def lensRefusesRow : OpenClaim := { program := "ythgidcfgelpkhaa", sum := "e6148b1c4789817065aa1d3f7ecdb2d2663922e648455dbb972f866d38c96382", func := "lexiphane/lexiphanelaw18.LensRefuses", spec := "lensRefuses", unfollowed := true, recurses := true, apart := false }
def LensRefusesSaid : Prop := lensRefusesRow.holds Try.pinned (OpenSpec.ofChange lensRefusesSpec)

/-- ITS FALSE NEIGHBOUR: 'it returns false'. Refute it at one input. -/
def lensRefusesWrong : ChangeSpec := { name := "lensRefuses", fn := fun _ => fun
  | [d1, d2, d3] => { results := [.lit (.bool false)], args := [d1, d2, d3] }
  | _ => none }
def LensRefusesWrongFalsely : Prop := lensRefusesRow.holds Try.pinned (OpenSpec.ofChange lensRefusesWrong)

/-- 'lexiphanelaw18.LensOrderless': WHATEVER THE INPUT: true; the input reads as it did. -/
def lensOrderlessSpec : ChangeSpec := { name := "lensOrderless", fn := fun _ => fun
  | [d1, d2] => { results := [.lit (.bool true)], args := [d1, d2] }
  | _ => none }
def lensOrderlessRow : OpenClaim := { program := "ythgidcfgelpkhaa", sum := "e6148b1c4789817065aa1d3f7ecdb2d2663922e648455dbb972f866d38c96382", func := "lexiphane/lexiphanelaw18.LensOrderless", spec := "lensOrderless", unfollowed := true, recurses := true, apart := false }
def LensOrderlessSaid : Prop := lensOrderlessRow.holds Try.pinned (OpenSpec.ofChange lensOrderlessSpec)

/-- ITS FALSE NEIGHBOUR: 'it returns false'. Refute it at one input. -/
def lensOrderlessWrong : ChangeSpec := { name := "lensOrderless", fn := fun _ => fun
  | [d1, d2] => { results := [.lit (.bool false)], args := [d1, d2] }
  | _ => none }
def LensOrderlessWrongFalsely : Prop := lensOrderlessRow.holds Try.pinned (OpenSpec.ofChange lensOrderlessWrong)

/-- 'lexiphanelaw18.LensZeros': WHATEVER THE INPUT: true; the input reads as it did. -/
def lensZerosSpec : ChangeSpec := { name := "lensZeros", fn := fun _ => fun
  | [d1, d2, d3] => { results := [.lit (.bool true)], args := [d1, d2, d3] }
  | _ => none }
def lensZerosRow : OpenClaim := { program := "ythgidcfgelpkhaa", sum := "e6148b1c4789817065aa1d3f7ecdb2d2663922e648455dbb972f866d38c96382", func := "lexiphane/lexiphanelaw18.LensZeros", spec := "lensZeros", unfollowed := true, recurses := true, apart := false }
def LensZerosSaid : Prop := lensZerosRow.holds Try.pinned (OpenSpec.ofChange lensZerosSpec)

/-- ITS FALSE NEIGHBOUR: 'it returns false'. Refute it at one input. -/
def lensZerosWrong : ChangeSpec := { name := "lensZeros", fn := fun _ => fun
  | [d1, d2, d3] => { results := [.lit (.bool false)], args := [d1, d2, d3] }
  | _ => none }
def LensZerosWrongFalsely : Prop := lensZerosRow.holds Try.pinned (OpenSpec.ofChange lensZerosWrong)

/-- 'lexiphanelaw18.LensTwo': WHATEVER THE INPUT: true; the input reads as it did. -/
def lensTwoSpec : ChangeSpec := { name := "lensTwo", fn := fun _ => fun
  | [d1, d2, d3] => { results := [.lit (.bool true)], args := [d1, d2, d3] }
  | _ => none }
def lensTwoRow : OpenClaim := { program := "ythgidcfgelpkhaa", sum := "e6148b1c4789817065aa1d3f7ecdb2d2663922e648455dbb972f866d38c96382", func := "lexiphane/lexiphanelaw18.LensTwo", spec := "lensTwo", unfollowed := true, recurses := true, apart := false }
def LensTwoSaid : Prop := lensTwoRow.holds Try.pinned (OpenSpec.ofChange lensTwoSpec)

/-- ITS FALSE NEIGHBOUR: 'it returns false'. Refute it at one input. -/
def lensTwoWrong : ChangeSpec := { name := "lensTwo", fn := fun _ => fun
  | [d1, d2, d3] => { results := [.lit (.bool false)], args := [d1, d2, d3] }
  | _ => none }
def LensTwoWrongFalsely : Prop := lensTwoRow.holds Try.pinned (OpenSpec.ofChange lensTwoWrong)

/-- 'lexiphanelaw18.LensSteep': WHATEVER THE INPUT: true; the input reads as it did. -/
def lensSteepSpec : ChangeSpec := { name := "lensSteep", fn := fun _ => fun
  | [d] => { results := [.lit (.bool true)], args := [d] }
  | _ => none }
def lensSteepRow : OpenClaim := { program := "ythgidcfgelpkhaa", sum := "e6148b1c4789817065aa1d3f7ecdb2d2663922e648455dbb972f866d38c96382", func := "lexiphane/lexiphanelaw18.LensSteep", spec := "lensSteep", unfollowed := true, recurses := true, apart := false }
def LensSteepSaid : Prop := lensSteepRow.holds Try.pinned (OpenSpec.ofChange lensSteepSpec)

/-- ITS FALSE NEIGHBOUR: 'it returns false'. Refute it at one input. -/
def lensSteepWrong : ChangeSpec := { name := "lensSteep", fn := fun _ => fun
  | [d] => { results := [.lit (.bool false)], args := [d] }
  | _ => none }
def LensSteepWrongFalsely : Prop := lensSteepRow.holds Try.pinned (OpenSpec.ofChange lensSteepWrong)

/- THE SECOND FORM. 'bulk': how many values and letters a reading holds, each counted each time it is reached (what is shared counts as often as it is met; a slice's spare places count too). A statement '..UptoSaid' is the law's where the arguments, and the package variables that the reading takes, are together of bulk at most 1048576: NARROWER than '..Said'. Prove '..Said' where nothing that the law and all that it calls make is longer than what came in: it says more and counts as full. Else prove '..UptoSaid'. A law counts once. -/
mutual
def uptoBulk {H : Type} : DataW H → Nat
  | .lit (.string bytes) => bytes.length + 1
  | .lit _ => 1
  | .nil => 1
  | .ptr d => uptoBulk d + 1
  | .slice elems spare => uptoBulkAll elems + uptoBulkAll spare + 1
  | .agg parts => uptoBulkAll parts + 1
  | .iface _ d => uptoBulk d + 1
  | .map entries => uptoBulkEntries entries + 1
  | .held _ => 1
def uptoBulkAll {H : Type} : List (DataW H) → Nat
  | [] => 0
  | d :: r => uptoBulk d + uptoBulkAll r
def uptoBulkEntries {H : Type} : List (Lit × DataW H) → Nat
  | [] => 0
  | x :: r => uptoBulkEntry x + uptoBulkEntries r
def uptoBulkEntry {H : Type} : Lit × DataW H → Nat
  | (.string bytes, d) => bytes.length + uptoBulk d + 1
  | (_, d) => uptoBulk d + 1
 end
def uptoSmall : (H : Type) → List (DataW H) → Bool := fun _ ds => decide (uptoBulkAll ds ≤ 1048576)
def OpenSpec.upto (s : _root_.Go.ChangeSpec) : _root_.Go.OpenSpec := { _root_.Go.OpenSpec.ofChange s with cond := some uptoSmall }

/-- 'lexiphanelaw18.LensTells', WHERE WHAT IT READS IS OF BULK AT MOST 1048576: true; the input reads as it did. -/
def lensTellsUptoRow : OpenClaim := { program := "ythgidcfgelpkhaa", sum := "e6148b1c4789817065aa1d3f7ecdb2d2663922e648455dbb972f866d38c96382", func := "lexiphane/lexiphanelaw18.LensTells", spec := "lensTells", unfollowed := true, recurses := true, apart := false, narrowed := true }
def LensTellsUptoSaid : Prop := lensTellsUptoRow.holds Try.pinned (OpenSpec.upto lensTellsSpec)

/-- 'lexiphanelaw18.LensLeast', WHERE WHAT IT READS IS OF BULK AT MOST 1048576: true; the input reads as it did. -/
def lensLeastUptoRow : OpenClaim := { program := "ythgidcfgelpkhaa", sum := "e6148b1c4789817065aa1d3f7ecdb2d2663922e648455dbb972f866d38c96382", func := "lexiphane/lexiphanelaw18.LensLeast", spec := "lensLeast", unfollowed := true, recurses := true, apart := false, narrowed := true }
def LensLeastUptoSaid : Prop := lensLeastUptoRow.holds Try.pinned (OpenSpec.upto lensLeastSpec)

/-- 'lexiphanelaw18.LensOrder', WHERE WHAT IT READS IS OF BULK AT MOST 1048576: true; the input reads as it did. -/
def lensOrderUptoRow : OpenClaim := { program := "ythgidcfgelpkhaa", sum := "e6148b1c4789817065aa1d3f7ecdb2d2663922e648455dbb972f866d38c96382", func := "lexiphane/lexiphanelaw18.LensOrder", spec := "lensOrder", unfollowed := true, recurses := true, apart := false, narrowed := true }
def LensOrderUptoSaid : Prop := lensOrderUptoRow.holds Try.pinned (OpenSpec.upto lensOrderSpec)

/-- 'lexiphanelaw18.LensBound', WHERE WHAT IT READS IS OF BULK AT MOST 1048576: true; the input reads as it did. -/
def lensBoundUptoRow : OpenClaim := { program := "ythgidcfgelpkhaa", sum := "e6148b1c4789817065aa1d3f7ecdb2d2663922e648455dbb972f866d38c96382", func := "lexiphane/lexiphanelaw18.LensBound", spec := "lensBound", unfollowed := true, recurses := true, apart := false, narrowed := true }
def LensBoundUptoSaid : Prop := lensBoundUptoRow.holds Try.pinned (OpenSpec.upto lensBoundSpec)

/-- 'lexiphanelaw18.LensEven', WHERE WHAT IT READS IS OF BULK AT MOST 1048576: true; the input reads as it did. -/
def lensEvenUptoRow : OpenClaim := { program := "ythgidcfgelpkhaa", sum := "e6148b1c4789817065aa1d3f7ecdb2d2663922e648455dbb972f866d38c96382", func := "lexiphane/lexiphanelaw18.LensEven", spec := "lensEven", unfollowed := true, recurses := true, apart := false, narrowed := true }
def LensEvenUptoSaid : Prop := lensEvenUptoRow.holds Try.pinned (OpenSpec.upto lensEvenSpec)

/-- 'lexiphanelaw18.LensRefuses', WHERE WHAT IT READS IS OF BULK AT MOST 1048576: true; the input reads as it did. -/
def lensRefusesUptoRow : OpenClaim := { program := "ythgidcfgelpkhaa", sum := "e6148b1c4789817065aa1d3f7ecdb2d2663922e648455dbb972f866d38c96382", func := "lexiphane/lexiphanelaw18.LensRefuses", spec := "lensRefuses", unfollowed := true, recurses := true, apart := false, narrowed := true }
def LensRefusesUptoSaid : Prop := lensRefusesUptoRow.holds Try.pinned (OpenSpec.upto lensRefusesSpec)

/-- 'lexiphanelaw18.LensOrderless', WHERE WHAT IT READS IS OF BULK AT MOST 1048576: true; the input reads as it did. -/
def lensOrderlessUptoRow : OpenClaim := { program := "ythgidcfgelpkhaa", sum := "e6148b1c4789817065aa1d3f7ecdb2d2663922e648455dbb972f866d38c96382", func := "lexiphane/lexiphanelaw18.LensOrderless", spec := "lensOrderless", unfollowed := true, recurses := true, apart := false, narrowed := true }
def LensOrderlessUptoSaid : Prop := lensOrderlessUptoRow.holds Try.pinned (OpenSpec.upto lensOrderlessSpec)

/-- 'lexiphanelaw18.LensZeros', WHERE WHAT IT READS IS OF BULK AT MOST 1048576: true; the input reads as it did. -/
def lensZerosUptoRow : OpenClaim := { program := "ythgidcfgelpkhaa", sum := "e6148b1c4789817065aa1d3f7ecdb2d2663922e648455dbb972f866d38c96382", func := "lexiphane/lexiphanelaw18.LensZeros", spec := "lensZeros", unfollowed := true, recurses := true, apart := false, narrowed := true }
def LensZerosUptoSaid : Prop := lensZerosUptoRow.holds Try.pinned (OpenSpec.upto lensZerosSpec)

/-- 'lexiphanelaw18.LensTwo', WHERE WHAT IT READS IS OF BULK AT MOST 1048576: true; the input reads as it did. -/
def lensTwoUptoRow : OpenClaim := { program := "ythgidcfgelpkhaa", sum := "e6148b1c4789817065aa1d3f7ecdb2d2663922e648455dbb972f866d38c96382", func := "lexiphane/lexiphanelaw18.LensTwo", spec := "lensTwo", unfollowed := true, recurses := true, apart := false, narrowed := true }
def LensTwoUptoSaid : Prop := lensTwoUptoRow.holds Try.pinned (OpenSpec.upto lensTwoSpec)

/-- 'lexiphanelaw18.LensSteep', WHERE WHAT IT READS IS OF BULK AT MOST 1048576: true; the input reads as it did. -/
def lensSteepUptoRow : OpenClaim := { program := "ythgidcfgelpkhaa", sum := "e6148b1c4789817065aa1d3f7ecdb2d2663922e648455dbb972f866d38c96382", func := "lexiphane/lexiphanelaw18.LensSteep", spec := "lensSteep", unfollowed := true, recurses := true, apart := false, narrowed := true }
def LensSteepUptoSaid : Prop := lensSteepUptoRow.holds Try.pinned (OpenSpec.upto lensSteepSpec)

end Rows
end Go.Proofs.Ythgidcfgelpkhaa
