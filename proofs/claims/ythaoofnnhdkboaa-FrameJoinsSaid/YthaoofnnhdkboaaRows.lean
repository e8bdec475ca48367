/-
  No cell of these rows narrows 'for every input' (looked for: loops, veiled, ifaces, maps, wideKeys, modest, calm, conditions, laid).
  DERIVED. THE GIVEN ROWS OF THIS SEAT. 20 by the template 'for every input the law returns true; each argument reads behind the call as it read before'; 0 by the template 'total and deterministic' (their statements: YthaoofnnhdkboaaTotals.lean).
  GIVEN WITH THE SEED: the statements are not yours to turn. If you find one false, say at which input.
  Laid BY PROGRAM, IN A SANDBOX (cutbox-rows.mjs): the forced cells as the released guide's own fill.sh prints them over the translation 777f35b2de188384… (all of the seat's roots in one cut). By AI agents, Wed Nov 11 2026. No macro, syntax, notation, axiom, sorry.
-/
import Derived.Test.YthaoofnnhdkboaaChecked
import GoSem.Claim
import GoSem.ClaimJoined
import GoSem.ClaimMapViews
import Derived.JoinedTies
import Derived.KernelRfl
namespace Go.Proofs.Ythaoofnnhdkboaa
/- THE CELL 'sum', in the pinned program and in every row, IS THE sha256 OF THE DUMP (.gsa) THAT YthaoofnnhdkboaaProg.lean LOADS. Nothing in Lean hashes anything: it is a label: what it is worth is what the hold of that sum in a sandbox is worth. -/
noncomputable def Try.pinned : Pinned := { name := "ythaoofnnhdkboaa", sum := "777f35b2de188384dd0fd8e3caa017c8c1514455bcac976b8c2c131a44e30f04", checked := Try.checked }
namespace Rows
def none {H : Type} : Left H := { results := [], args := [] }

/-- 'lexiphanelaw5.FnvTells': WHATEVER THE INPUT: true; the input reads as it did. -/
def fnvTellsSpec : ChangeSpec := { name := "fnvTells", fn := fun _ => fun
  | [d] => { results := [.lit (.bool true)], args := [d] }
  | _ => none }
def fnvTellsRow : OpenClaim := { program := "ythaoofnnhdkboaa", sum := "777f35b2de188384dd0fd8e3caa017c8c1514455bcac976b8c2c131a44e30f04", func := "lexiphane/lexiphanelaw5.FnvTells", spec := "fnvTells", apart := false }
def FnvTellsSaid : Prop := fnvTellsRow.holds Try.pinned (OpenSpec.ofChange fnvTellsSpec)

/-- ITS FALSE NEIGHBOUR: 'it returns false'. Refute it at one input. -/
def fnvTellsWrong : ChangeSpec := { name := "fnvTells", fn := fun _ => fun
  | [d] => { results := [.lit (.bool false)], args := [d] }
  | _ => none }
def FnvTellsWrongFalsely : Prop := fnvTellsRow.holds Try.pinned (OpenSpec.ofChange fnvTellsWrong)

/-- 'lexiphanelaw5.FnvTurned': WHATEVER THE INPUT: true; the input reads as it did. -/
def fnvTurnedSpec : ChangeSpec := { name := "fnvTurned", fn := fun _ => fun
  | [d1, d2] => { results := [.lit (.bool true)], args := [d1, d2] }
  | _ => none }
def fnvTurnedRow : OpenClaim := { program := "ythaoofnnhdkboaa", sum := "777f35b2de188384dd0fd8e3caa017c8c1514455bcac976b8c2c131a44e30f04", func := "lexiphane/lexiphanelaw5.FnvTurned", spec := "fnvTurned", apart := false }
def FnvTurnedSaid : Prop := fnvTurnedRow.holds Try.pinned (OpenSpec.ofChange fnvTurnedSpec)

/-- ITS FALSE NEIGHBOUR: 'it returns false'. Refute it at one input. -/
def fnvTurnedWrong : ChangeSpec := { name := "fnvTurned", fn := fun _ => fun
  | [d1, d2] => { results := [.lit (.bool false)], args := [d1, d2] }
  | _ => none }
def FnvTurnedWrongFalsely : Prop := fnvTurnedRow.holds Try.pinned (OpenSpec.ofChange fnvTurnedWrong)

/-- 'lexiphanelaw5.FnvSteps': WHATEVER THE INPUT: true; the input reads as it did. -/
def fnvStepsSpec : ChangeSpec := { name := "fnvSteps", fn := fun _ => fun
  | [d1, d2] => { results := [.lit (.bool true)], args := [d1, d2] }
  | _ => none }
def fnvStepsRow : OpenClaim := { program := "ythaoofnnhdkboaa", sum := "777f35b2de188384dd0fd8e3caa017c8c1514455bcac976b8c2c131a44e30f04", func := "lexiphane/lexiphanelaw5.FnvSteps", spec := "fnvSteps", apart := false }
def FnvStepsSaid : Prop := fnvStepsRow.holds Try.pinned (OpenSpec.ofChange fnvStepsSpec)

/-- ITS FALSE NEIGHBOUR: 'it returns false'. Refute it at one input. -/
def fnvStepsWrong : ChangeSpec := { name := "fnvSteps", fn := fun _ => fun
  | [d1, d2] => { results := [.lit (.bool false)], args := [d1, d2] }
  | _ => none }
def FnvStepsWrongFalsely : Prop := fnvStepsRow.holds Try.pinned (OpenSpec.ofChange fnvStepsWrong)

/-- 'lexiphanelaw5.FnvPieces': WHATEVER THE INPUT: true; the input reads as it did. -/
def fnvPiecesSpec : ChangeSpec := { name := "fnvPieces", fn := fun _ => fun
  | [d1, d2] => { results := [.lit (.bool true)], args := [d1, d2] }
  | _ => none }
def fnvPiecesRow : OpenClaim := { program := "ythaoofnnhdkboaa", sum := "777f35b2de188384dd0fd8e3caa017c8c1514455bcac976b8c2c131a44e30f04", func := "lexiphane/lexiphanelaw5.FnvPieces", spec := "fnvPieces", apart := false }
def FnvPiecesSaid : Prop := fnvPiecesRow.holds Try.pinned (OpenSpec.ofChange fnvPiecesSpec)

/-- ITS FALSE NEIGHBOUR: 'it returns false'. Refute it at one input. -/
def fnvPiecesWrong : ChangeSpec := { name := "fnvPieces", fn := fun _ => fun
  | [d1, d2] => { results := [.lit (.bool false)], args := [d1, d2] }
  | _ => none }
def FnvPiecesWrongFalsely : Prop := fnvPiecesRow.holds Try.pinned (OpenSpec.ofChange fnvPiecesWrong)

/-- 'lexiphanelaw4.CrcTurned': WHATEVER THE INPUT: true; the input reads as it did. -/
def crcTurnedSpec : ChangeSpec := { name := "crcTurned", fn := fun _ => fun
  | [d1, d2, d3] => { results := [.lit (.bool true)], args := [d1, d2, d3] }
  | _ => none }
def crcTurnedRow : OpenClaim := { program := "ythaoofnnhdkboaa", sum := "777f35b2de188384dd0fd8e3caa017c8c1514455bcac976b8c2c131a44e30f04", func := "lexiphane/lexiphanelaw4.CrcTurned", spec := "crcTurned", apart := false }
def CrcTurnedSaid : Prop := crcTurnedRow.holds Try.pinned (OpenSpec.ofChange crcTurnedSpec)

/-- ITS FALSE NEIGHBOUR: 'it returns false'. Refute it at one input. -/
def crcTurnedWrong : ChangeSpec := { name := "crcTurned", fn := fun _ => fun
  | [d1, d2, d3] => { results := [.lit (.bool false)], args := [d1, d2, d3] }
  | _ => none }
def CrcTurnedWrongFalsely : Prop := crcTurnedRow.holds Try.pinned (OpenSpec.ofChange crcTurnedWrong)

/-- 'lexiphanelaw4.CrcZeros': WHATEVER THE INPUT: true; the input reads as it did. -/
def crcZerosSpec : ChangeSpec := { name := "crcZeros", fn := fun _ => fun
  | [d1, d2] => { results := [.lit (.bool true)], args := [d1, d2] }
  | _ => none }
def crcZerosRow : OpenClaim := { program := "ythaoofnnhdkboaa", sum := "777f35b2de188384dd0fd8e3caa017c8c1514455bcac976b8c2c131a44e30f04", func := "lexiphane/lexiphanelaw4.CrcZeros", spec := "crcZeros", apart := false }
def CrcZerosSaid : Prop := crcZerosRow.holds Try.pinned (OpenSpec.ofChange crcZerosSpec)

/-- ITS FALSE NEIGHBOUR: 'it returns false'. Refute it at one input. -/
def crcZerosWrong : ChangeSpec := { name := "crcZeros", fn := fun _ => fun
  | [d1, d2] => { results := [.lit (.bool false)], args := [d1, d2] }
  | _ => none }
def CrcZerosWrongFalsely : Prop := crcZerosRow.holds Try.pinned (OpenSpec.ofChange crcZerosWrong)

/-- 'lexiphanelaw4.CrcEnds': WHATEVER THE INPUT: true; the input reads as it did. -/
def crcEndsSpec : ChangeSpec := { name := "crcEnds", fn := fun _ => fun
  | [d1, d2] => { results := [.lit (.bool true)], args := [d1, d2] }
  | _ => none }
def crcEndsRow : OpenClaim := { program := "ythaoofnnhdkboaa", sum := "777f35b2de188384dd0fd8e3caa017c8c1514455bcac976b8c2c131a44e30f04", func := "lexiphane/lexiphanelaw4.CrcEnds", spec := "crcEnds", unfollowed := true, recurses := true, apart := false }
def CrcEndsSaid : Prop := crcEndsRow.holds Try.pinned (OpenSpec.ofChange crcEndsSpec)

/-- ITS FALSE NEIGHBOUR: 'it returns false'. Refute it at one input. -/
def crcEndsWrong : ChangeSpec := { name := "crcEnds", fn := fun _ => fun
  | [d1, d2] => { results := [.lit (.bool false)], args := [d1, d2] }
  | _ => none }
def CrcEndsWrongFalsely : Prop := crcEndsRow.holds Try.pinned (OpenSpec.ofChange crcEndsWrong)

/-- 'lexiphanelaw4.CrcLinear': WHATEVER THE INPUT: true; the input reads as it did. -/
def crcLinearSpec : ChangeSpec := { name := "crcLinear", fn := fun _ => fun
  | [d1, d2, d3] => { results := [.lit (.bool true)], args := [d1, d2, d3] }
  | _ => none }
def crcLinearRow : OpenClaim := { program := "ythaoofnnhdkboaa", sum := "777f35b2de188384dd0fd8e3caa017c8c1514455bcac976b8c2c131a44e30f04", func := "lexiphane/lexiphanelaw4.CrcLinear", spec := "crcLinear", apart := false }
def CrcLinearSaid : Prop := crcLinearRow.holds Try.pinned (OpenSpec.ofChange crcLinearSpec)

/-- ITS FALSE NEIGHBOUR: 'it returns false'. Refute it at one input. -/
def crcLinearWrong : ChangeSpec := { name := "crcLinear", fn := fun _ => fun
  | [d1, d2, d3] => { results := [.lit (.bool false)], args := [d1, d2, d3] }
  | _ => none }
def CrcLinearWrongFalsely : Prop := crcLinearRow.holds Try.pinned (OpenSpec.ofChange crcLinearWrong)

/-- 'lexiphanelaw4.CrcTells': WHATEVER THE INPUT: true; the input reads as it did. -/
def crcTellsSpec : ChangeSpec := { name := "crcTells", fn := fun _ => fun
  | [d] => { results := [.lit (.bool true)], args := [d] }
  | _ => none }
def crcTellsRow : OpenClaim := { program := "ythaoofnnhdkboaa", sum := "777f35b2de188384dd0fd8e3caa017c8c1514455bcac976b8c2c131a44e30f04", func := "lexiphane/lexiphanelaw4.CrcTells", spec := "crcTells", apart := false }
def CrcTellsSaid : Prop := crcTellsRow.holds Try.pinned (OpenSpec.ofChange crcTellsSpec)

/-- ITS FALSE NEIGHBOUR: 'it returns false'. Refute it at one input. -/
def crcTellsWrong : ChangeSpec := { name := "crcTells", fn := fun _ => fun
  | [d] => { results := [.lit (.bool false)], args := [d] }
  | _ => none }
def CrcTellsWrongFalsely : Prop := crcTellsRow.holds Try.pinned (OpenSpec.ofChange crcTellsWrong)

/-- 'lexiphanelaw4.CrcResets': WHATEVER THE INPUT: true; the input reads as it did. -/
def crcResetsSpec : ChangeSpec := { name := "crcResets", fn := fun _ => fun
  | [d1, d2] => { results := [.lit (.bool true)], args := [d1, d2] }
  | _ => none }
def crcResetsRow : OpenClaim := { program := "ythaoofnnhdkboaa", sum := "777f35b2de188384dd0fd8e3caa017c8c1514455bcac976b8c2c131a44e30f04", func := "lexiphane/lexiphanelaw4.CrcResets", spec := "crcResets", apart := false }
def CrcResetsSaid : Prop := crcResetsRow.holds Try.pinned (OpenSpec.ofChange crcResetsSpec)

/-- ITS FALSE NEIGHBOUR: 'it returns false'. Refute it at one input. -/
def crcResetsWrong : ChangeSpec := { name := "crcResets", fn := fun _ => fun
  | [d1, d2] => { results := [.lit (.bool false)], args := [d1, d2] }
  | _ => none }
def CrcResetsWrongFalsely : Prop := crcResetsRow.holds Try.pinned (OpenSpec.ofChange crcResetsWrong)

/-- 'lexiphanelaw23.FrameHeads': WHATEVER THE INPUT: true; the input reads as it did. -/
def frameHeadsSpec : ChangeSpec := { name := "frameHeads", fn := fun _ => fun
  | [d1, d2] => { results := [.lit (.bool true)], args := [d1, d2] }
  | _ => none }
def frameHeadsRow : OpenClaim := { program := "ythaoofnnhdkboaa", sum := "777f35b2de188384dd0fd8e3caa017c8c1514455bcac976b8c2c131a44e30f04", func := "lexiphane/lexiphanelaw23.FrameHeads", spec := "frameHeads", apart := false }
def FrameHeadsSaid : Prop := frameHeadsRow.holds Try.pinned (OpenSpec.ofChange frameHeadsSpec)

/-- ITS FALSE NEIGHBOUR: 'it returns false'. Refute it at one input. -/
def frameHeadsWrong : ChangeSpec := { name := "frameHeads", fn := fun _ => fun
  | [d1, d2] => { results := [.lit (.bool false)], args := [d1, d2] }
  | _ => none }
def FrameHeadsWrongFalsely : Prop := frameHeadsRow.holds Try.pinned (OpenSpec.ofChange frameHeadsWrong)

/-- 'lexiphanelaw23.HeadBytes': WHATEVER THE INPUT: true; the input reads as it did. -/
def headBytesSpec : ChangeSpec := { name := "headBytes", fn := fun _ => fun
  | [d1, d2, d3] => { results := [.lit (.bool true)], args := [d1, d2, d3] }
  | _ => none }
def headBytesRow : OpenClaim := { program := "ythaoofnnhdkboaa", sum := "777f35b2de188384dd0fd8e3caa017c8c1514455bcac976b8c2c131a44e30f04", func := "lexiphane/lexiphanelaw23.HeadBytes", spec := "headBytes", apart := false }
def HeadBytesSaid : Prop := headBytesRow.holds Try.pinned (OpenSpec.ofChange headBytesSpec)

/-- ITS FALSE NEIGHBOUR: 'it returns false'. Refute it at one input. -/
def headBytesWrong : ChangeSpec := { name := "headBytes", fn := fun _ => fun
  | [d1, d2, d3] => { results := [.lit (.bool false)], args := [d1, d2, d3] }
  | _ => none }
def HeadBytesWrongFalsely : Prop := headBytesRow.holds Try.pinned (OpenSpec.ofChange headBytesWrong)

/-- 'lexiphanelaw23.HeadOnly': WHATEVER THE INPUT: true; the input reads as it did. -/
def headOnlySpec : ChangeSpec := { name := "headOnly", fn := fun _ => fun
  | [d1, d2] => { results := [.lit (.bool true)], args := [d1, d2] }
  | _ => none }
def headOnlyRow : OpenClaim := { program := "ythaoofnnhdkboaa", sum := "777f35b2de188384dd0fd8e3caa017c8c1514455bcac976b8c2c131a44e30f04", func := "lexiphane/lexiphanelaw23.HeadOnly", spec := "headOnly", apart := false }
def HeadOnlySaid : Prop := headOnlyRow.holds Try.pinned (OpenSpec.ofChange headOnlySpec)

/-- ITS FALSE NEIGHBOUR: 'it returns false'. Refute it at one input. -/
def headOnlyWrong : ChangeSpec := { name := "headOnly", fn := fun _ => fun
  | [d1, d2] => { results := [.lit (.bool false)], args := [d1, d2] }
  | _ => none }
def HeadOnlyWrongFalsely : Prop := headOnlyRow.holds Try.pinned (OpenSpec.ofChange headOnlyWrong)

/-- 'lexiphanelaw23.FrameTells': WHATEVER THE INPUT: true; the input reads as it did. -/
def frameTellsSpec : ChangeSpec := { name := "frameTells", fn := fun _ => fun
  | [d1, d2, d3] => { results := [.lit (.bool true)], args := [d1, d2, d3] }
  | _ => none }
def frameTellsRow : OpenClaim := { program := "ythaoofnnhdkboaa", sum := "777f35b2de188384dd0fd8e3caa017c8c1514455bcac976b8c2c131a44e30f04", func := "lexiphane/lexiphanelaw23.FrameTells", spec := "frameTells", apart := false }
def FrameTellsSaid : Prop := frameTellsRow.holds Try.pinned (OpenSpec.ofChange frameTellsSpec)

/-- ITS FALSE NEIGHBOUR: 'it returns false'. Refute it at one input. -/
def frameTellsWrong : ChangeSpec := { name := "frameTells", fn := fun _ => fun
  | [d1, d2, d3] => { results := [.lit (.bool false)], args := [d1, d2, d3] }
  | _ => none }
def FrameTellsWrongFalsely : Prop := frameTellsRow.holds Try.pinned (OpenSpec.ofChange frameTellsWrong)

/-- 'lexiphanelaw23.FrameCuts': WHATEVER THE INPUT: true; the input reads as it did. -/
def frameCutsSpec : ChangeSpec := { name := "frameCuts", fn := fun _ => fun
  | [d1, d2, d3, d4] => { results := [.lit (.bool true)], args := [d1, d2, d3, d4] }
  | _ => none }
def frameCutsRow : OpenClaim := { program := "ythaoofnnhdkboaa", sum := "777f35b2de188384dd0fd8e3caa017c8c1514455bcac976b8c2c131a44e30f04", func := "lexiphane/lexiphanelaw23.FrameCuts", spec := "frameCuts", apart := false }
def FrameCutsSaid : Prop := frameCutsRow.holds Try.pinned (OpenSpec.ofChange frameCutsSpec)

/-- ITS FALSE NEIGHBOUR: 'it returns false'. Refute it at one input. -/
def frameCutsWrong : ChangeSpec := { name := "frameCuts", fn := fun _ => fun
  | [d1, d2, d3, d4] => { results := [.lit (.bool false)], args := [d1, d2, d3, d4] }
  | _ => none }
def FrameCutsWrongFalsely : Prop := frameCutsRow.holds Try.pinned (OpenSpec.ofChange frameCutsWrong)

/-- 'lexiphanelaw23.FrameBounds': WHATEVER THE INPUT: true; the input reads as it did. -/
def frameBoundsSpec : ChangeSpec := { name := "frameBounds", fn := fun _ => fun
  | [d1, d2, d3, d4, d5] => { results := [.lit (.bool true)], args := [d1, d2, d3, d4, d5] }
  | _ => none }
def frameBoundsRow : OpenClaim := { program := "ythaoofnnhdkboaa", sum := "777f35b2de188384dd0fd8e3caa017c8c1514455bcac976b8c2c131a44e30f04", func := "lexiphane/lexiphanelaw23.FrameBounds", spec := "frameBounds", apart := false }
def FrameBoundsSaid : Prop := frameBoundsRow.holds Try.pinned (OpenSpec.ofChange frameBoundsSpec)

/-- ITS FALSE NEIGHBOUR: 'it returns false'. Refute it at one input. -/
def frameBoundsWrong : ChangeSpec := { name := "frameBounds", fn := fun _ => fun
  | [d1, d2, d3, d4, d5] => { results := [.lit (.bool false)], args := [d1, d2, d3, d4, d5] }
  | _ => none }
def FrameBoundsWrongFalsely : Prop := frameBoundsRow.holds Try.pinned (OpenSpec.ofChange frameBoundsWrong)

/-- 'lexiphanelaw23.FrameKinds': WHATEVER THE INPUT: true; the input reads as it did. -/
def frameKindsSpec : ChangeSpec := { name := "frameKinds", fn := fun _ => fun
  | [d1, d2, d3] => { results := [.lit (.bool true)], args := [d1, d2, d3] }
  | _ => none }
def frameKindsRow : OpenClaim := { program := "ythaoofnnhdkboaa", sum := "777f35b2de188384dd0fd8e3caa017c8c1514455bcac976b8c2c131a44e30f04", func := "lexiphane/lexiphanelaw23.FrameKinds", spec := "frameKinds", apart := false }
def FrameKindsSaid : Prop := frameKindsRow.holds Try.pinned (OpenSpec.ofChange frameKindsSpec)

/-- ITS FALSE NEIGHBOUR: 'it returns false'. Refute it at one input. -/
def frameKindsWrong : ChangeSpec := { name := "frameKinds", fn := fun _ => fun
  | [d1, d2, d3] => { results := [.lit (.bool false)], args := [d1, d2, d3] }
  | _ => none }
def FrameKindsWrongFalsely : Prop := frameKindsRow.holds Try.pinned (OpenSpec.ofChange frameKindsWrong)

/-- 'lexiphanelaw23.FrameEnds': WHATEVER THE INPUT: true; the input reads as it did. -/
def frameEndsSpec : ChangeSpec := { name := "frameEnds", fn := fun _ => fun
  | [d1, d2, d3, d4] => { results := [.lit (.bool true)], args := [d1, d2, d3, d4] }
  | _ => none }
def frameEndsRow : OpenClaim := { program := "ythaoofnnhdkboaa", sum := "777f35b2de188384dd0fd8e3caa017c8c1514455bcac976b8c2c131a44e30f04", func := "lexiphane/lexiphanelaw23.FrameEnds", spec := "frameEnds", apart := false }
def FrameEndsSaid : Prop := frameEndsRow.holds Try.pinned (OpenSpec.ofChange frameEndsSpec)

/-- ITS FALSE NEIGHBOUR: 'it returns false'. Refute it at one input. -/
def frameEndsWrong : ChangeSpec := { name := "frameEnds", fn := fun _ => fun
  | [d1, d2, d3, d4] => { results := [.lit (.bool false)], args := [d1, d2, d3, d4] }
  | _ => none }
def FrameEndsWrongFalsely : Prop := frameEndsRow.holds Try.pinned (OpenSpec.ofChange frameEndsWrong)

/-- 'lexiphanelaw23.FrameJoins': WHATEVER THE INPUT: true; the input reads as it did. -/
def frameJoinsSpec : ChangeSpec := { name := "frameJoins", fn := fun _ => fun
  | [d] => { results := [.lit (.bool true)], args := [d] }
  | _ => none }
def frameJoinsRow : OpenClaim := { program := "ythaoofnnhdkboaa", sum := "777f35b2de188384dd0fd8e3caa017c8c1514455bcac976b8c2c131a44e30f04", func := "lexiphane/lexiphanelaw23.FrameJoins", spec := "frameJoins", apart := false }
def FrameJoinsSaid : Prop := frameJoinsRow.holds Try.pinned (OpenSpec.ofChange frameJoinsSpec)

/-- ITS FALSE NEIGHBOUR: 'it returns false'. Refute it at one input. -/
def frameJoinsWrong : ChangeSpec := { name := "frameJoins", fn := fun _ => fun
  | [d] => { results := [.lit (.bool false)], args := [d] }
  | _ => none }
def FrameJoinsWrongFalsely : Prop := frameJoinsRow.holds Try.pinned (OpenSpec.ofChange frameJoinsWrong)

/-- 'lexiphanelaw23.FrameSums': WHATEVER THE INPUT: true; the input reads as it did. -/
def frameSumsSpec : ChangeSpec := { name := "frameSums", fn := fun _ => fun
  | [d1, d2, d3] => { results := [.lit (.bool true)], args := [d1, d2, d3] }
  | _ => none }
def frameSumsRow : OpenClaim := { program := "ythaoofnnhdkboaa", sum := "777f35b2de188384dd0fd8e3caa017c8c1514455bcac976b8c2c131a44e30f04", func := "lexiphane/lexiphanelaw23.FrameSums", spec := "frameSums", apart := false }
def FrameSumsSaid : Prop := frameSumsRow.holds Try.pinned (OpenSpec.ofChange frameSumsSpec)

/-- ITS FALSE NEIGHBOUR: 'it returns false'. Refute it at one input. -/
def frameSumsWrong : ChangeSpec := { name := "frameSums", fn := fun _ => fun
  | [d1, d2, d3] => { results := [.lit (.bool false)], args := [d1, d2, d3] }
  | _ => none }
def FrameSumsWrongFalsely : Prop := frameSumsRow.holds Try.pinned (OpenSpec.ofChange frameSumsWrong)

/- THE SECOND FORM. 'bulk': how many values and letters a reading holds, each counted each time it is reached (what is shared counts as often as it is met; a slice's spare places count too). A statement '..UptoSaid' is the law's where the arguments, and the package variables that the reading takes, are together of bulk at most 1048576: NARROWER than '..Said'. Prove '..Said' where nothing that the law and all that it calls make is longer than what came in: it says more and counts as full. Else prove '..UptoSaid'. A law counts once. -/
mutual
def uptoBulk {H : Type} : DataW H → Nat
  | .lit (.string bytes) => bytes.length + 1
  | .lit _ => 1
  | .nil => 1
  | .ptr d => uptoBulk d + 1
  | .slice elems spare => uptoBulkAll elems + uptoBulkAll spare + 1
  | .agg parts => uptoBulkAll parts + 1
  | .iface _ d => uptoBulk d + 1
  | .map entries => uptoBulkEntries entries + 1
  | .held _ => 1
def uptoBulkAll {H : Type} : List (DataW H) → Nat
  | [] => 0
  | d :: r => uptoBulk d + uptoBulkAll r
def uptoBulkEntries {H : Type} : List (Lit × DataW H) → Nat
  | [] => 0
  | x :: r => uptoBulkEntry x + uptoBulkEntries r
def uptoBulkEntry {H : Type} : Lit × DataW H → Nat
  | (.string bytes, d) => bytes.length + uptoBulk d + 1
  | (_, d) => uptoBulk d + 1
 end
def uptoSmall : (H : Type) → List (DataW H) → Bool := fun _ ds => decide (uptoBulkAll ds ≤ 1048576)
def OpenSpec.upto (s : _root_.Go.ChangeSpec) : _root_.Go.OpenSpec := { _root_.Go.OpenSpec.ofChange s with cond := some uptoSmall }

/-- 'lexiphanelaw5.FnvTells', WHERE WHAT IT READS IS OF BULK AT MOST 1048576: true; the input reads as it did. -/
def fnvTellsUptoRow : OpenClaim := { program := "ythaoofnnhdkboaa", sum := "777f35b2de188384dd0fd8e3caa017c8c1514455bcac976b8c2c131a44e30f04", func := "lexiphane/lexiphanelaw5.FnvTells", spec := "fnvTells", apart := false, narrowed := true }
def FnvTellsUptoSaid : Prop := fnvTellsUptoRow.holds Try.pinned (OpenSpec.upto fnvTellsSpec)

/-- 'lexiphanelaw5.FnvTurned', WHERE WHAT IT READS IS OF BULK AT MOST 1048576: true; the input reads as it did. -/
def fnvTurnedUptoRow : OpenClaim := { program := "ythaoofnnhdkboaa", sum := "777f35b2de188384dd0fd8e3caa017c8c1514455bcac976b8c2c131a44e30f04", func := "lexiphane/lexiphanelaw5.FnvTurned", spec := "fnvTurned", apart := false, narrowed := true }
def FnvTurnedUptoSaid : Prop := fnvTurnedUptoRow.holds Try.pinned (OpenSpec.upto fnvTurnedSpec)

/-- 'lexiphanelaw5.FnvSteps', WHERE WHAT IT READS IS OF BULK AT MOST 1048576: true; the input reads as it did. -/
def fnvStepsUptoRow : OpenClaim := { program := "ythaoofnnhdkboaa", sum := "777f35b2de188384dd0fd8e3caa017c8c1514455bcac976b8c2c131a44e30f04", func := "lexiphane/lexiphanelaw5.FnvSteps", spec := "fnvSteps", apart := false, narrowed := true }
def FnvStepsUptoSaid : Prop := fnvStepsUptoRow.holds Try.pinned (OpenSpec.upto fnvStepsSpec)

/-- 'lexiphanelaw5.FnvPieces', WHERE WHAT IT READS IS OF BULK AT MOST 1048576: true; the input reads as it did. -/
def fnvPiecesUptoRow : OpenClaim := { program := "ythaoofnnhdkboaa", sum := "777f35b2de188384dd0fd8e3caa017c8c1514455bcac976b8c2c131a44e30f04", func := "lexiphane/lexiphanelaw5.FnvPieces", spec := "fnvPieces", apart := false, narrowed := true }
def FnvPiecesUptoSaid : Prop := fnvPiecesUptoRow.holds Try.pinned (OpenSpec.upto fnvPiecesSpec)

/-- 'lexiphanelaw4.CrcTurned', WHERE WHAT IT READS IS OF BULK AT MOST 1048576: true; the input reads as it did. -/
def crcTurnedUptoRow : OpenClaim := { program := "ythaoofnnhdkboaa", sum := "777f35b2de188384dd0fd8e3caa017c8c1514455bcac976b8c2c131a44e30f04", func := "lexiphane/lexiphanelaw4.CrcTurned", spec := "crcTurned", apart := false, narrowed := true }
def CrcTurnedUptoSaid : Prop := crcTurnedUptoRow.holds Try.pinned (OpenSpec.upto crcTurnedSpec)

/-- 'lexiphanelaw4.CrcZeros', WHERE WHAT IT READS IS OF BULK AT MOST 1048576: true; the input reads as it did. -/
def crcZerosUptoRow : OpenClaim := { program := "ythaoofnnhdkboaa", sum := "777f35b2de188384dd0fd8e3caa017c8c1514455bcac976b8c2c131a44e30f04", func := "lexiphane/lexiphanelaw4.CrcZeros", spec := "crcZeros", apart := false, narrowed := true }
def CrcZerosUptoSaid : Prop := crcZerosUptoRow.holds Try.pinned (OpenSpec.upto crcZerosSpec)

/-- 'lexiphanelaw4.CrcEnds', WHERE WHAT IT READS IS OF BULK AT MOST 1048576: true; the input reads as it did. -/
def crcEndsUptoRow : OpenClaim := { program := "ythaoofnnhdkboaa", sum := "777f35b2de188384dd0fd8e3caa017c8c1514455bcac976b8c2c131a44e30f04", func := "lexiphane/lexiphanelaw4.CrcEnds", spec := "crcEnds", unfollowed := true, recurses := true, apart := false, narrowed := true }
def CrcEndsUptoSaid : Prop := crcEndsUptoRow.holds Try.pinned (OpenSpec.upto crcEndsSpec)

/-- 'lexiphanelaw4.CrcLinear', WHERE WHAT IT READS IS OF BULK AT MOST 1048576: true; the input reads as it did. -/
def crcLinearUptoRow : OpenClaim := { program := "ythaoofnnhdkboaa", sum := "777f35b2de188384dd0fd8e3caa017c8c1514455bcac976b8c2c131a44e30f04", func := "lexiphane/lexiphanelaw4.CrcLinear", spec := "crcLinear", apart := false, narrowed := true }
def CrcLinearUptoSaid : Prop := crcLinearUptoRow.holds Try.pinned (OpenSpec.upto crcLinearSpec)

/-- 'lexiphanelaw4.CrcTells', WHERE WHAT IT READS IS OF BULK AT MOST 1048576: true; the input reads as it did. -/
def crcTellsUptoRow : OpenClaim := { program := "ythaoofnnhdkboaa", sum := "777f35b2de188384dd0fd8e3caa017c8c1514455bcac976b8c2c131a44e30f04", func := "lexiphane/lexiphanelaw4.CrcTells", spec := "crcTells", apart := false, narrowed := true }
def CrcTellsUptoSaid : Prop := crcTellsUptoRow.holds Try.pinned (OpenSpec.upto crcTellsSpec)

/-- 'lexiphanelaw4.CrcResets', WHERE WHAT IT READS IS OF BULK AT MOST 1048576: true; the input reads as it did. -/
def crcResetsUptoRow : OpenClaim := { program := "ythaoofnnhdkboaa", sum := "777f35b2de188384dd0fd8e3caa017c8c1514455bcac976b8c2c131a44e30f04", func := "lexiphane/lexiphanelaw4.CrcResets", spec := "crcResets", apart := false, narrowed := true }
def CrcResetsUptoSaid : Prop := crcResetsUptoRow.holds Try.pinned (OpenSpec.upto crcResetsSpec)

/-- 'lexiphanelaw23.FrameHeads', WHERE WHAT IT READS IS OF BULK AT MOST 1048576: true; the input reads as it did. -/
def frameHeadsUptoRow : OpenClaim := { program := "ythaoofnnhdkboaa", sum := "777f35b2de188384dd0fd8e3caa017c8c1514455bcac976b8c2c131a44e30f04", func := "lexiphane/lexiphanelaw23.FrameHeads", spec := "frameHeads", apart := false, narrowed := true }
def FrameHeadsUptoSaid : Prop := frameHeadsUptoRow.holds Try.pinned (OpenSpec.upto frameHeadsSpec)

/-- 'lexiphanelaw23.HeadBytes', WHERE WHAT IT READS IS OF BULK AT MOST 1048576: true; the input reads as it did. -/
def headBytesUptoRow : OpenClaim := { program := "ythaoofnnhdkboaa", sum := "777f35b2de188384dd0fd8e3caa017c8c1514455bcac976b8c2c131a44e30f04", func := "lexiphane/lexiphanelaw23.HeadBytes", spec := "headBytes", apart := false, narrowed := true }
def HeadBytesUptoSaid : Prop := headBytesUptoRow.holds Try.pinned (OpenSpec.upto headBytesSpec)

/-- 'lexiphanelaw23.HeadOnly', WHERE WHAT IT READS IS OF BULK AT MOST 1048576: true; the input reads as it did. -/
def headOnlyUptoRow : OpenClaim := { program := "ythaoofnnhdkboaa", sum := "777f35b2de188384dd0fd8e3caa017c8c1514455bcac976b8c2c131a44e30f04", func := "lexiphane/lexiphanelaw23.HeadOnly", spec := "headOnly", apart := false, narrowed := true }
def HeadOnlyUptoSaid : Prop := headOnlyUptoRow.holds Try.pinned (OpenSpec.upto headOnlySpec)

/-- 'lexiphanelaw23.FrameTells', WHERE WHAT IT READS IS OF BULK AT MOST 1048576: true; the input reads as it did. -/
def frameTellsUptoRow : OpenClaim := { program := "ythaoofnnhdkboaa", sum := "777f35b2de188384dd0fd8e3caa017c8c1514455bcac976b8c2c131a44e30f04", func := "lexiphane/lexiphanelaw23.FrameTells", spec := "frameTells", apart := false, narrowed := true }
def FrameTellsUptoSaid : Prop := frameTellsUptoRow.holds Try.pinned (OpenSpec.upto frameTellsSpec)

/-- 'lexiphanelaw23.FrameCuts', WHERE WHAT IT READS IS OF BULK AT MOST 1048576: true; the input reads as it did. -/
def frameCutsUptoRow : OpenClaim := { program := "ythaoofnnhdkboaa", sum := "777f35b2de188384dd0fd8e3caa017c8c1514455bcac976b8c2c131a44e30f04", func := "lexiphane/lexiphanelaw23.FrameCuts", spec := "frameCuts", apart := false, narrowed := true }
def FrameCutsUptoSaid : Prop := frameCutsUptoRow.holds Try.pinned (OpenSpec.upto frameCutsSpec)

/-- 'lexiphanelaw23.FrameBounds', WHERE WHAT IT READS IS OF BULK AT MOST 1048576: true; the input reads as it did. -/
def frameBoundsUptoRow : OpenClaim := { program := "ythaoofnnhdkboaa", sum := "777f35b2de188384dd0fd8e3caa017c8c1514455bcac976b8c2c131a44e30f04", func := "lexiphane/lexiphanelaw23.FrameBounds", spec := "frameBounds", apart := false, narrowed := true }
def FrameBoundsUptoSaid : Prop := frameBoundsUptoRow.holds Try.pinned (OpenSpec.upto frameBoundsSpec)

/-- 'lexiphanelaw23.FrameKinds', WHERE WHAT IT READS IS OF BULK AT MOST 1048576: true; the input reads as it did. -/
def frameKindsUptoRow : OpenClaim := { program := "ythaoofnnhdkboaa", sum := "777f35b2de188384dd0fd8e3caa017c8c1514455bcac976b8c2c131a44e30f04", func := "lexiphane/lexiphanelaw23.FrameKinds", spec := "frameKinds", apart := false, narrowed := true }
def FrameKindsUptoSaid : Prop := frameKindsUptoRow.holds Try.pinned (OpenSpec.upto frameKindsSpec)

/-- 'lexiphanelaw23.FrameEnds', WHERE WHAT IT READS IS OF BULK AT MOST 1048576: true; the input reads as it did. -/
def frameEndsUptoRow : OpenClaim := { program := "ythaoofnnhdkboaa", sum := "777f35b2de188384dd0fd8e3caa017c8c1514455bcac976b8c2c131a44e30f04", func := "lexiphane/lexiphanelaw23.FrameEnds", spec := "frameEnds", apart := false, narrowed := true }
def FrameEndsUptoSaid : Prop := frameEndsUptoRow.holds Try.pinned (OpenSpec.upto frameEndsSpec)

/-- 'lexiphanelaw23.FrameJoins', WHERE WHAT IT READS IS OF BULK AT MOST 1048576: true; the input reads as it did. -/
def frameJoinsUptoRow : OpenClaim := { program := "ythaoofnnhdkboaa", sum := "777f35b2de188384dd0fd8e3caa017c8c1514455bcac976b8c2c131a44e30f04", func := "lexiphane/lexiphanelaw23.FrameJoins", spec := "frameJoins", apart := false, narrowed := true }
def FrameJoinsUptoSaid : Prop := frameJoinsUptoRow.holds Try.pinned (OpenSpec.upto frameJoinsSpec)

/-- 'lexiphanelaw23.FrameSums', WHERE WHAT IT READS IS OF BULK AT MOST 1048576: true; the input reads as it did. -/
def frameSumsUptoRow : OpenClaim := { program := "ythaoofnnhdkboaa", sum := "777f35b2de188384dd0fd8e3caa017c8c1514455bcac976b8c2c131a44e30f04", func := "lexiphane/lexiphanelaw23.FrameSums", spec := "frameSums", apart := false, narrowed := true }
def FrameSumsUptoSaid : Prop := frameSumsUptoRow.holds Try.pinned (OpenSpec.upto frameSumsSpec)

end Rows
end Go.Proofs.Ythaoofnnhdkboaa
