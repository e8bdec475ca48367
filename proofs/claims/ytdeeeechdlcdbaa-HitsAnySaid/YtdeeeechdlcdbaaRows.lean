/-
  No cell of these rows narrows 'for every input' (looked for: loops, veiled, ifaces, maps, wideKeys, modest, calm, conditions, laid).
  DERIVED. THE GIVEN ROWS OF THIS SEAT. 20 by the template 'for every input the law returns true; each argument reads behind the call as it read before'; 0 by the template 'total and deterministic' (their statements: YtdeeeechdlcdbaaTotals.lean).
  GIVEN WITH THE SEED: the statements are not yours to turn. If you find one false, say at which input.
  Laid BY PROGRAM, IN A SANDBOX (cutbox-rows.mjs): the forced cells as the released guide's own fill.sh prints them over the translation 0233b766b8fca513… (all of the seat's roots in one cut). By AI agents, Wed Nov 11 2026. No macro, syntax, notation, axiom, sorry.
-/
import Derived.Test.YtdeeeechdlcdbaaChecked
import GoSem.Claim
import GoSem.ClaimJoined
import GoSem.ClaimMapViews
import Derived.JoinedTies
import Derived.KernelRfl
namespace Go.Proofs.Ytdeeeechdlcdbaa
/- THE CELL 'sum', in the pinned program and in every row, IS THE sha256 OF THE DUMP (.gsa) THAT YtdeeeechdlcdbaaProg.lean LOADS. Nothing in Lean hashes anything: it is a label: what it is worth is what the hold of that sum in a sandbox is worth. -/
noncomputable def Try.pinned : Pinned := { name := "ytdeeeechdlcdbaa", sum := "0233b766b8fca513f6bbae095844c8c2dbc254c912f227e7c437d6fdf964f90b", checked := Try.checked }
namespace Rows
def none {H : Type} : Left H := { results := [], args := [] }

/-- 'lexiphanelaw11.HitsAny': WHATEVER THE INPUT: true; the input reads as it did. -/
def hitsAnySpec : ChangeSpec := { name := "hitsAny", fn := fun _ => fun
  | [d1, d2, d3] => { results := [.lit (.bool true)], args := [d1, d2, d3] }
  | _ => none }
def hitsAnyRow : OpenClaim := { program := "ytdeeeechdlcdbaa", sum := "0233b766b8fca513f6bbae095844c8c2dbc254c912f227e7c437d6fdf964f90b", func := "lexiphane/lexiphanelaw11.HitsAny", spec := "hitsAny", unfollowed := true, recurses := true, plainKeys := false, apart := false }
def HitsAnySaid : Prop := hitsAnyRow.holds Try.pinned (OpenSpec.ofChange hitsAnySpec)

/-- ITS FALSE NEIGHBOUR: 'it returns false'. Refute it at one input. -/
def hitsAnyWrong : ChangeSpec := { name := "hitsAny", fn := fun _ => fun
  | [d1, d2, d3] => { results := [.lit (.bool false)], args := [d1, d2, d3] }
  | _ => none }
def HitsAnyWrongFalsely : Prop := hitsAnyRow.holds Try.pinned (OpenSpec.ofChange hitsAnyWrong)

/-- 'lexiphanelaw7.TrieCounts': WHATEVER THE INPUT: true; the input reads as it did. -/
def trieCountsSpec : ChangeSpec := { name := "trieCounts", fn := fun _ => fun
  | [d] => { results := [.lit (.bool true)], args := [d] }
  | _ => none }
def trieCountsRow : OpenClaim := { program := "ytdeeeechdlcdbaa", sum := "0233b766b8fca513f6bbae095844c8c2dbc254c912f227e7c437d6fdf964f90b", func := "lexiphane/lexiphanelaw7.TrieCounts", spec := "trieCounts", unfollowed := true, recurses := true, plainKeys := false, apart := false }
def TrieCountsSaid : Prop := trieCountsRow.holds Try.pinned (OpenSpec.ofChange trieCountsSpec)

/-- ITS FALSE NEIGHBOUR: 'it returns false'. Refute it at one input. -/
def trieCountsWrong : ChangeSpec := { name := "trieCounts", fn := fun _ => fun
  | [d] => { results := [.lit (.bool false)], args := [d] }
  | _ => none }
def TrieCountsWrongFalsely : Prop := trieCountsRow.holds Try.pinned (OpenSpec.ofChange trieCountsWrong)

/-- 'lexiphanelaw7.TrieShared': WHATEVER THE INPUT: true; the input reads as it did. -/
def trieSharedSpec : ChangeSpec := { name := "trieShared", fn := fun _ => fun
  | [d1, d2, d3] => { results := [.lit (.bool true)], args := [d1, d2, d3] }
  | _ => none }
def trieSharedRow : OpenClaim := { program := "ytdeeeechdlcdbaa", sum := "0233b766b8fca513f6bbae095844c8c2dbc254c912f227e7c437d6fdf964f90b", func := "lexiphane/lexiphanelaw7.TrieShared", spec := "trieShared", unfollowed := true, recurses := true, plainKeys := false, apart := false }
def TrieSharedSaid : Prop := trieSharedRow.holds Try.pinned (OpenSpec.ofChange trieSharedSpec)

/-- ITS FALSE NEIGHBOUR: 'it returns false'. Refute it at one input. -/
def trieSharedWrong : ChangeSpec := { name := "trieShared", fn := fun _ => fun
  | [d1, d2, d3] => { results := [.lit (.bool false)], args := [d1, d2, d3] }
  | _ => none }
def TrieSharedWrongFalsely : Prop := trieSharedRow.holds Try.pinned (OpenSpec.ofChange trieSharedWrong)

/-- 'lexiphanelaw7.TrieNext': WHATEVER THE INPUT: true; the input reads as it did. -/
def trieNextSpec : ChangeSpec := { name := "trieNext", fn := fun _ => fun
  | [d1, d2] => { results := [.lit (.bool true)], args := [d1, d2] }
  | _ => none }
def trieNextRow : OpenClaim := { program := "ytdeeeechdlcdbaa", sum := "0233b766b8fca513f6bbae095844c8c2dbc254c912f227e7c437d6fdf964f90b", func := "lexiphane/lexiphanelaw7.TrieNext", spec := "trieNext", unfollowed := true, recurses := true, plainKeys := false, apart := false }
def TrieNextSaid : Prop := trieNextRow.holds Try.pinned (OpenSpec.ofChange trieNextSpec)

/-- ITS FALSE NEIGHBOUR: 'it returns false'. Refute it at one input. -/
def trieNextWrong : ChangeSpec := { name := "trieNext", fn := fun _ => fun
  | [d1, d2] => { results := [.lit (.bool false)], args := [d1, d2] }
  | _ => none }
def TrieNextWrongFalsely : Prop := trieNextRow.holds Try.pinned (OpenSpec.ofChange trieNextWrong)

/-- 'lexiphanelaw7.TrieTells': WHATEVER THE INPUT: true; the input reads as it did. -/
def trieTellsSpec : ChangeSpec := { name := "trieTells", fn := fun _ => fun
  | [d1, d2, d3] => { results := [.lit (.bool true)], args := [d1, d2, d3] }
  | _ => none }
def trieTellsRow : OpenClaim := { program := "ytdeeeechdlcdbaa", sum := "0233b766b8fca513f6bbae095844c8c2dbc254c912f227e7c437d6fdf964f90b", func := "lexiphane/lexiphanelaw7.TrieTells", spec := "trieTells", unfollowed := true, recurses := true, plainKeys := false, apart := false }
def TrieTellsSaid : Prop := trieTellsRow.holds Try.pinned (OpenSpec.ofChange trieTellsSpec)

/-- ITS FALSE NEIGHBOUR: 'it returns false'. Refute it at one input. -/
def trieTellsWrong : ChangeSpec := { name := "trieTells", fn := fun _ => fun
  | [d1, d2, d3] => { results := [.lit (.bool false)], args := [d1, d2, d3] }
  | _ => none }
def TrieTellsWrongFalsely : Prop := trieTellsRow.holds Try.pinned (OpenSpec.ofChange trieTellsWrong)

/-- 'lexiphanelaw11.HitsLongest': WHATEVER THE INPUT: true; the input reads as it did. -/
def hitsLongestSpec : ChangeSpec := { name := "hitsLongest", fn := fun _ => fun
  | [d1, d2] => { results := [.lit (.bool true)], args := [d1, d2] }
  | _ => none }
def hitsLongestRow : OpenClaim := { program := "ytdeeeechdlcdbaa", sum := "0233b766b8fca513f6bbae095844c8c2dbc254c912f227e7c437d6fdf964f90b", func := "lexiphane/lexiphanelaw11.HitsLongest", spec := "hitsLongest", unfollowed := true, recurses := true, plainKeys := false, apart := false }
def HitsLongestSaid : Prop := hitsLongestRow.holds Try.pinned (OpenSpec.ofChange hitsLongestSpec)

/-- ITS FALSE NEIGHBOUR: 'it returns false'. Refute it at one input. -/
def hitsLongestWrong : ChangeSpec := { name := "hitsLongest", fn := fun _ => fun
  | [d1, d2] => { results := [.lit (.bool false)], args := [d1, d2] }
  | _ => none }
def HitsLongestWrongFalsely : Prop := hitsLongestRow.holds Try.pinned (OpenSpec.ofChange hitsLongestWrong)

/-- 'lexiphanelaw11.HitsNone': WHATEVER THE INPUT: true; the input reads as it did. -/
def hitsNoneSpec : ChangeSpec := { name := "hitsNone", fn := fun _ => fun
  | [d1, d2, d3] => { results := [.lit (.bool true)], args := [d1, d2, d3] }
  | _ => none }
def hitsNoneRow : OpenClaim := { program := "ytdeeeechdlcdbaa", sum := "0233b766b8fca513f6bbae095844c8c2dbc254c912f227e7c437d6fdf964f90b", func := "lexiphane/lexiphanelaw11.HitsNone", spec := "hitsNone", unfollowed := true, recurses := true, plainKeys := false, apart := false }
def HitsNoneSaid : Prop := hitsNoneRow.holds Try.pinned (OpenSpec.ofChange hitsNoneSpec)

/-- ITS FALSE NEIGHBOUR: 'it returns false'. Refute it at one input. -/
def hitsNoneWrong : ChangeSpec := { name := "hitsNone", fn := fun _ => fun
  | [d1, d2, d3] => { results := [.lit (.bool false)], args := [d1, d2, d3] }
  | _ => none }
def HitsNoneWrongFalsely : Prop := hitsNoneRow.holds Try.pinned (OpenSpec.ofChange hitsNoneWrong)

/-- 'lexiphanelaw8.LinksEnds': WHATEVER THE INPUT: true; the input reads as it did. -/
def linksEndsSpec : ChangeSpec := { name := "linksEnds", fn := fun _ => fun
  | [d] => { results := [.lit (.bool true)], args := [d] }
  | _ => none }
def linksEndsRow : OpenClaim := { program := "ytdeeeechdlcdbaa", sum := "0233b766b8fca513f6bbae095844c8c2dbc254c912f227e7c437d6fdf964f90b", func := "lexiphane/lexiphanelaw8.LinksEnds", spec := "linksEnds", unfollowed := true, recurses := true, plainKeys := false, apart := false }
def LinksEndsSaid : Prop := linksEndsRow.holds Try.pinned (OpenSpec.ofChange linksEndsSpec)

/-- ITS FALSE NEIGHBOUR: 'it returns false'. Refute it at one input. -/
def linksEndsWrong : ChangeSpec := { name := "linksEnds", fn := fun _ => fun
  | [d] => { results := [.lit (.bool false)], args := [d] }
  | _ => none }
def LinksEndsWrongFalsely : Prop := linksEndsRow.holds Try.pinned (OpenSpec.ofChange linksEndsWrong)

/-- 'lexiphanelaw8.LinksOrder': WHATEVER THE INPUT: true; the input reads as it did. -/
def linksOrderSpec : ChangeSpec := { name := "linksOrder", fn := fun _ => fun
  | [d] => { results := [.lit (.bool true)], args := [d] }
  | _ => none }
def linksOrderRow : OpenClaim := { program := "ytdeeeechdlcdbaa", sum := "0233b766b8fca513f6bbae095844c8c2dbc254c912f227e7c437d6fdf964f90b", func := "lexiphane/lexiphanelaw8.LinksOrder", spec := "linksOrder", unfollowed := true, recurses := true, plainKeys := false, apart := false }
def LinksOrderSaid : Prop := linksOrderRow.holds Try.pinned (OpenSpec.ofChange linksOrderSpec)

/-- ITS FALSE NEIGHBOUR: 'it returns false'. Refute it at one input. -/
def linksOrderWrong : ChangeSpec := { name := "linksOrder", fn := fun _ => fun
  | [d] => { results := [.lit (.bool false)], args := [d] }
  | _ => none }
def LinksOrderWrongFalsely : Prop := linksOrderRow.holds Try.pinned (OpenSpec.ofChange linksOrderWrong)

/-- 'lexiphanelaw8.LinksOuts': WHATEVER THE INPUT: true; the input reads as it did. -/
def linksOutsSpec : ChangeSpec := { name := "linksOuts", fn := fun _ => fun
  | [d] => { results := [.lit (.bool true)], args := [d] }
  | _ => none }
def linksOutsRow : OpenClaim := { program := "ytdeeeechdlcdbaa", sum := "0233b766b8fca513f6bbae095844c8c2dbc254c912f227e7c437d6fdf964f90b", func := "lexiphane/lexiphanelaw8.LinksOuts", spec := "linksOuts", unfollowed := true, recurses := true, plainKeys := false, apart := false }
def LinksOutsSaid : Prop := linksOutsRow.holds Try.pinned (OpenSpec.ofChange linksOutsSpec)

/-- ITS FALSE NEIGHBOUR: 'it returns false'. Refute it at one input. -/
def linksOutsWrong : ChangeSpec := { name := "linksOuts", fn := fun _ => fun
  | [d] => { results := [.lit (.bool false)], args := [d] }
  | _ => none }
def LinksOutsWrongFalsely : Prop := linksOutsRow.holds Try.pinned (OpenSpec.ofChange linksOutsWrong)

/-- 'lexiphanelaw10.DenseRows': WHATEVER THE INPUT: true; the input reads as it did. -/
def denseRowsSpec : ChangeSpec := { name := "denseRows", fn := fun _ => fun
  | [d1, d2] => { results := [.lit (.bool true)], args := [d1, d2] }
  | _ => none }
def denseRowsRow : OpenClaim := { program := "ytdeeeechdlcdbaa", sum := "0233b766b8fca513f6bbae095844c8c2dbc254c912f227e7c437d6fdf964f90b", func := "lexiphane/lexiphanelaw10.DenseRows", spec := "denseRows", unfollowed := true, recurses := true, plainKeys := false, apart := false }
def DenseRowsSaid : Prop := denseRowsRow.holds Try.pinned (OpenSpec.ofChange denseRowsSpec)

/-- ITS FALSE NEIGHBOUR: 'it returns false'. Refute it at one input. -/
def denseRowsWrong : ChangeSpec := { name := "denseRows", fn := fun _ => fun
  | [d1, d2] => { results := [.lit (.bool false)], args := [d1, d2] }
  | _ => none }
def DenseRowsWrongFalsely : Prop := denseRowsRow.holds Try.pinned (OpenSpec.ofChange denseRowsWrong)

/-- 'lexiphanelaw10.DenseNone': WHATEVER THE INPUT: true; the input reads as it did. -/
def denseNoneSpec : ChangeSpec := { name := "denseNone", fn := fun _ => fun
  | [d1, d2, d3] => { results := [.lit (.bool true)], args := [d1, d2, d3] }
  | _ => none }
def denseNoneRow : OpenClaim := { program := "ytdeeeechdlcdbaa", sum := "0233b766b8fca513f6bbae095844c8c2dbc254c912f227e7c437d6fdf964f90b", func := "lexiphane/lexiphanelaw10.DenseNone", spec := "denseNone", unfollowed := true, recurses := true, plainKeys := false, apart := false }
def DenseNoneSaid : Prop := denseNoneRow.holds Try.pinned (OpenSpec.ofChange denseNoneSpec)

/-- ITS FALSE NEIGHBOUR: 'it returns false'. Refute it at one input. -/
def denseNoneWrong : ChangeSpec := { name := "denseNone", fn := fun _ => fun
  | [d1, d2, d3] => { results := [.lit (.bool false)], args := [d1, d2, d3] }
  | _ => none }
def DenseNoneWrongFalsely : Prop := denseNoneRow.holds Try.pinned (OpenSpec.ofChange denseNoneWrong)

/-- 'lexiphanelaw9.ScanSteps': WHATEVER THE INPUT: true; the input reads as it did. -/
def scanStepsSpec : ChangeSpec := { name := "scanSteps", fn := fun _ => fun
  | [d1, d2, d3] => { results := [.lit (.bool true)], args := [d1, d2, d3] }
  | _ => none }
def scanStepsRow : OpenClaim := { program := "ytdeeeechdlcdbaa", sum := "0233b766b8fca513f6bbae095844c8c2dbc254c912f227e7c437d6fdf964f90b", func := "lexiphane/lexiphanelaw9.ScanSteps", spec := "scanSteps", unfollowed := true, recurses := true, plainKeys := false, apart := false }
def ScanStepsSaid : Prop := scanStepsRow.holds Try.pinned (OpenSpec.ofChange scanStepsSpec)

/-- ITS FALSE NEIGHBOUR: 'it returns false'. Refute it at one input. -/
def scanStepsWrong : ChangeSpec := { name := "scanSteps", fn := fun _ => fun
  | [d1, d2, d3] => { results := [.lit (.bool false)], args := [d1, d2, d3] }
  | _ => none }
def ScanStepsWrongFalsely : Prop := scanStepsRow.holds Try.pinned (OpenSpec.ofChange scanStepsWrong)

/-- 'lexiphanelaw9.ScanNode': WHATEVER THE INPUT: true; the input reads as it did. -/
def scanNodeSpec : ChangeSpec := { name := "scanNode", fn := fun _ => fun
  | [d1, d2, d3] => { results := [.lit (.bool true)], args := [d1, d2, d3] }
  | _ => none }
def scanNodeRow : OpenClaim := { program := "ytdeeeechdlcdbaa", sum := "0233b766b8fca513f6bbae095844c8c2dbc254c912f227e7c437d6fdf964f90b", func := "lexiphane/lexiphanelaw9.ScanNode", spec := "scanNode", unfollowed := true, recurses := true, plainKeys := false, apart := false }
def ScanNodeSaid : Prop := scanNodeRow.holds Try.pinned (OpenSpec.ofChange scanNodeSpec)

/-- ITS FALSE NEIGHBOUR: 'it returns false'. Refute it at one input. -/
def scanNodeWrong : ChangeSpec := { name := "scanNode", fn := fun _ => fun
  | [d1, d2, d3] => { results := [.lit (.bool false)], args := [d1, d2, d3] }
  | _ => none }
def ScanNodeWrongFalsely : Prop := scanNodeRow.holds Try.pinned (OpenSpec.ofChange scanNodeWrong)

/-- 'lexiphanelaw9.ScanPieces': WHATEVER THE INPUT: true; the input reads as it did. -/
def scanPiecesSpec : ChangeSpec := { name := "scanPieces", fn := fun _ => fun
  | [d1, d2, d3] => { results := [.lit (.bool true)], args := [d1, d2, d3] }
  | _ => none }
def scanPiecesRow : OpenClaim := { program := "ytdeeeechdlcdbaa", sum := "0233b766b8fca513f6bbae095844c8c2dbc254c912f227e7c437d6fdf964f90b", func := "lexiphane/lexiphanelaw9.ScanPieces", spec := "scanPieces", unfollowed := true, recurses := true, plainKeys := false, apart := false }
def ScanPiecesSaid : Prop := scanPiecesRow.holds Try.pinned (OpenSpec.ofChange scanPiecesSpec)

/-- ITS FALSE NEIGHBOUR: 'it returns false'. Refute it at one input. -/
def scanPiecesWrong : ChangeSpec := { name := "scanPieces", fn := fun _ => fun
  | [d1, d2, d3] => { results := [.lit (.bool false)], args := [d1, d2, d3] }
  | _ => none }
def ScanPiecesWrongFalsely : Prop := scanPiecesRow.holds Try.pinned (OpenSpec.ofChange scanPiecesWrong)

/-- 'lexiphanelaw9.ScanFinds': WHATEVER THE INPUT: true; the input reads as it did. -/
def scanFindsSpec : ChangeSpec := { name := "scanFinds", fn := fun _ => fun
  | [d1, d2] => { results := [.lit (.bool true)], args := [d1, d2] }
  | _ => none }
def scanFindsRow : OpenClaim := { program := "ytdeeeechdlcdbaa", sum := "0233b766b8fca513f6bbae095844c8c2dbc254c912f227e7c437d6fdf964f90b", func := "lexiphane/lexiphanelaw9.ScanFinds", spec := "scanFinds", unfollowed := true, recurses := true, plainKeys := false, apart := false }
def ScanFindsSaid : Prop := scanFindsRow.holds Try.pinned (OpenSpec.ofChange scanFindsSpec)

/-- ITS FALSE NEIGHBOUR: 'it returns false'. Refute it at one input. -/
def scanFindsWrong : ChangeSpec := { name := "scanFinds", fn := fun _ => fun
  | [d1, d2] => { results := [.lit (.bool false)], args := [d1, d2] }
  | _ => none }
def ScanFindsWrongFalsely : Prop := scanFindsRow.holds Try.pinned (OpenSpec.ofChange scanFindsWrong)

/-- 'lexiphanelaw9.ScanTwo': WHATEVER THE INPUT: true; the input reads as it did. -/
def scanTwoSpec : ChangeSpec := { name := "scanTwo", fn := fun _ => fun
  | [d1, d2, d3] => { results := [.lit (.bool true)], args := [d1, d2, d3] }
  | _ => none }
def scanTwoRow : OpenClaim := { program := "ytdeeeechdlcdbaa", sum := "0233b766b8fca513f6bbae095844c8c2dbc254c912f227e7c437d6fdf964f90b", func := "lexiphane/lexiphanelaw9.ScanTwo", spec := "scanTwo", unfollowed := true, recurses := true, plainKeys := false, apart := false }
def ScanTwoSaid : Prop := scanTwoRow.holds Try.pinned (OpenSpec.ofChange scanTwoSpec)

/-- ITS FALSE NEIGHBOUR: 'it returns false'. Refute it at one input. -/
def scanTwoWrong : ChangeSpec := { name := "scanTwo", fn := fun _ => fun
  | [d1, d2, d3] => { results := [.lit (.bool false)], args := [d1, d2, d3] }
  | _ => none }
def ScanTwoWrongFalsely : Prop := scanTwoRow.holds Try.pinned (OpenSpec.ofChange scanTwoWrong)

/-- 'lexiphanelaw9.ScanResets': WHATEVER THE INPUT: true; the input reads as it did. -/
def scanResetsSpec : ChangeSpec := { name := "scanResets", fn := fun _ => fun
  | [d1, d2, d3] => { results := [.lit (.bool true)], args := [d1, d2, d3] }
  | _ => none }
def scanResetsRow : OpenClaim := { program := "ytdeeeechdlcdbaa", sum := "0233b766b8fca513f6bbae095844c8c2dbc254c912f227e7c437d6fdf964f90b", func := "lexiphane/lexiphanelaw9.ScanResets", spec := "scanResets", unfollowed := true, recurses := true, plainKeys := false, apart := false }
def ScanResetsSaid : Prop := scanResetsRow.holds Try.pinned (OpenSpec.ofChange scanResetsSpec)

/-- ITS FALSE NEIGHBOUR: 'it returns false'. Refute it at one input. -/
def scanResetsWrong : ChangeSpec := { name := "scanResets", fn := fun _ => fun
  | [d1, d2, d3] => { results := [.lit (.bool false)], args := [d1, d2, d3] }
  | _ => none }
def ScanResetsWrongFalsely : Prop := scanResetsRow.holds Try.pinned (OpenSpec.ofChange scanResetsWrong)

/-- 'lexiphanelaw10.DenseWalks': WHATEVER THE INPUT: true; the input reads as it did. -/
def denseWalksSpec : ChangeSpec := { name := "denseWalks", fn := fun _ => fun
  | [d1, d2] => { results := [.lit (.bool true)], args := [d1, d2] }
  | _ => none }
def denseWalksRow : OpenClaim := { program := "ytdeeeechdlcdbaa", sum := "0233b766b8fca513f6bbae095844c8c2dbc254c912f227e7c437d6fdf964f90b", func := "lexiphane/lexiphanelaw10.DenseWalks", spec := "denseWalks", unfollowed := true, recurses := true, plainKeys := false, apart := false }
def DenseWalksSaid : Prop := denseWalksRow.holds Try.pinned (OpenSpec.ofChange denseWalksSpec)

/-- ITS FALSE NEIGHBOUR: 'it returns false'. Refute it at one input. -/
def denseWalksWrong : ChangeSpec := { name := "denseWalks", fn := fun _ => fun
  | [d1, d2] => { results := [.lit (.bool false)], args := [d1, d2] }
  | _ => none }
def DenseWalksWrongFalsely : Prop := denseWalksRow.holds Try.pinned (OpenSpec.ofChange denseWalksWrong)

/-- 'lexiphanelaw11.HitsOrder': WHATEVER THE INPUT: true; the input reads as it did. -/
def hitsOrderSpec : ChangeSpec := { name := "hitsOrder", fn := fun _ => fun
  | [d1, d2, d3] => { results := [.lit (.bool true)], args := [d1, d2, d3] }
  | _ => none }
def hitsOrderRow : OpenClaim := { program := "ytdeeeechdlcdbaa", sum := "0233b766b8fca513f6bbae095844c8c2dbc254c912f227e7c437d6fdf964f90b", func := "lexiphane/lexiphanelaw11.HitsOrder", spec := "hitsOrder", unfollowed := true, recurses := true, plainKeys := false, apart := false }
def HitsOrderSaid : Prop := hitsOrderRow.holds Try.pinned (OpenSpec.ofChange hitsOrderSpec)

/-- ITS FALSE NEIGHBOUR: 'it returns false'. Refute it at one input. -/
def hitsOrderWrong : ChangeSpec := { name := "hitsOrder", fn := fun _ => fun
  | [d1, d2, d3] => { results := [.lit (.bool false)], args := [d1, d2, d3] }
  | _ => none }
def HitsOrderWrongFalsely : Prop := hitsOrderRow.holds Try.pinned (OpenSpec.ofChange hitsOrderWrong)

/- THE SECOND FORM. 'bulk': how many values and letters a reading holds, each counted each time it is reached (what is shared counts as often as it is met; a slice's spare places count too). A statement '..UptoSaid' is the law's where the arguments, and the package variables that the reading takes, are together of bulk at most 1048576: NARROWER than '..Said'. Prove '..Said' where nothing that the law and all that it calls make is longer than what came in: it says more and counts as full. Else prove '..UptoSaid'. A law counts once. -/
mutual
def uptoBulk {H : Type} : DataW H → Nat
  | .lit (.string bytes) => bytes.length + 1
  | .lit _ => 1
  | .nil => 1
  | .ptr d => uptoBulk d + 1
  | .slice elems spare => uptoBulkAll elems + uptoBulkAll spare + 1
  | .agg parts => uptoBulkAll parts + 1
  | .iface _ d => uptoBulk d + 1
  | .map entries => uptoBulkEntries entries + 1
  | .held _ => 1
def uptoBulkAll {H : Type} : List (DataW H) → Nat
  | [] => 0
  | d :: r => uptoBulk d + uptoBulkAll r
def uptoBulkEntries {H : Type} : List (Lit × DataW H) → Nat
  | [] => 0
  | x :: r => uptoBulkEntry x + uptoBulkEntries r
def uptoBulkEntry {H : Type} : Lit × DataW H → Nat
  | (.string bytes, d) => bytes.length + uptoBulk d + 1
  | (_, d) => uptoBulk d + 1
 end
def uptoSmall : (H : Type) → List (DataW H) → Bool := fun _ ds => decide (uptoBulkAll ds ≤ 1048576)
def OpenSpec.upto (s : _root_.Go.ChangeSpec) : _root_.Go.OpenSpec := { _root_.Go.OpenSpec.ofChange s with cond := some uptoSmall }

/-- 'lexiphanelaw11.HitsAny', WHERE WHAT IT READS IS OF BULK AT MOST 1048576: true; the input reads as it did. -/
def hitsAnyUptoRow : OpenClaim := { program := "ytdeeeechdlcdbaa", sum := "0233b766b8fca513f6bbae095844c8c2dbc254c912f227e7c437d6fdf964f90b", func := "lexiphane/lexiphanelaw11.HitsAny", spec := "hitsAny", unfollowed := true, recurses := true, plainKeys := false, apart := false, narrowed := true }
def HitsAnyUptoSaid : Prop := hitsAnyUptoRow.holds Try.pinned (OpenSpec.upto hitsAnySpec)

/-- 'lexiphanelaw7.TrieCounts', WHERE WHAT IT READS IS OF BULK AT MOST 1048576: true; the input reads as it did. -/
def trieCountsUptoRow : OpenClaim := { program := "ytdeeeechdlcdbaa", sum := "0233b766b8fca513f6bbae095844c8c2dbc254c912f227e7c437d6fdf964f90b", func := "lexiphane/lexiphanelaw7.TrieCounts", spec := "trieCounts", unfollowed := true, recurses := true, plainKeys := false, apart := false, narrowed := true }
def TrieCountsUptoSaid : Prop := trieCountsUptoRow.holds Try.pinned (OpenSpec.upto trieCountsSpec)

/-- 'lexiphanelaw7.TrieShared', WHERE WHAT IT READS IS OF BULK AT MOST 1048576: true; the input reads as it did. -/
def trieSharedUptoRow : OpenClaim := { program := "ytdeeeechdlcdbaa", sum := "0233b766b8fca513f6bbae095844c8c2dbc254c912f227e7c437d6fdf964f90b", func := "lexiphane/lexiphanelaw7.TrieShared", spec := "trieShared", unfollowed := true, recurses := true, plainKeys := false, apart := false, narrowed := true }
def TrieSharedUptoSaid : Prop := trieSharedUptoRow.holds Try.pinned (OpenSpec.upto trieSharedSpec)

/-- 'lexiphanelaw7.TrieNext', WHERE WHAT IT READS IS OF BULK AT MOST 1048576: true; the input reads as it did. -/
def trieNextUptoRow : OpenClaim := { program := "ytdeeeechdlcdbaa", sum := "0233b766b8fca513f6bbae095844c8c2dbc254c912f227e7c437d6fdf964f90b", func := "lexiphane/lexiphanelaw7.TrieNext", spec := "trieNext", unfollowed := true, recurses := true, plainKeys := false, apart := false, narrowed := true }
def TrieNextUptoSaid : Prop := trieNextUptoRow.holds Try.pinned (OpenSpec.upto trieNextSpec)

/-- 'lexiphanelaw7.TrieTells', WHERE WHAT IT READS IS OF BULK AT MOST 1048576: true; the input reads as it did. -/
def trieTellsUptoRow : OpenClaim := { program := "ytdeeeechdlcdbaa", sum := "0233b766b8fca513f6bbae095844c8c2dbc254c912f227e7c437d6fdf964f90b", func := "lexiphane/lexiphanelaw7.TrieTells", spec := "trieTells", unfollowed := true, recurses := true, plainKeys := false, apart := false, narrowed := true }
def TrieTellsUptoSaid : Prop := trieTellsUptoRow.holds Try.pinned (OpenSpec.upto trieTellsSpec)

/-- 'lexiphanelaw11.HitsLongest', WHERE WHAT IT READS IS OF BULK AT MOST 1048576: true; the input reads as it did. -/
def hitsLongestUptoRow : OpenClaim := { program := "ytdeeeechdlcdbaa", sum := "0233b766b8fca513f6bbae095844c8c2dbc254c912f227e7c437d6fdf964f90b", func := "lexiphane/lexiphanelaw11.HitsLongest", spec := "hitsLongest", unfollowed := true, recurses := true, plainKeys := false, apart := false, narrowed := true }
def HitsLongestUptoSaid : Prop := hitsLongestUptoRow.holds Try.pinned (OpenSpec.upto hitsLongestSpec)

/-- 'lexiphanelaw11.HitsNone', WHERE WHAT IT READS IS OF BULK AT MOST 1048576: true; the input reads as it did. -/
def hitsNoneUptoRow : OpenClaim := { program := "ytdeeeechdlcdbaa", sum := "0233b766b8fca513f6bbae095844c8c2dbc254c912f227e7c437d6fdf964f90b", func := "lexiphane/lexiphanelaw11.HitsNone", spec := "hitsNone", unfollowed := true, recurses := true, plainKeys := false, apart := false, narrowed := true }
def HitsNoneUptoSaid : Prop := hitsNoneUptoRow.holds Try.pinned (OpenSpec.upto hitsNoneSpec)

/-- 'lexiphanelaw8.LinksEnds', WHERE WHAT IT READS IS OF BULK AT MOST 1048576: true; the input reads as it did. -/
def linksEndsUptoRow : OpenClaim := { program := "ytdeeeechdlcdbaa", sum := "0233b766b8fca513f6bbae095844c8c2dbc254c912f227e7c437d6fdf964f90b", func := "lexiphane/lexiphanelaw8.LinksEnds", spec := "linksEnds", unfollowed := true, recurses := true, plainKeys := false, apart := false, narrowed := true }
def LinksEndsUptoSaid : Prop := linksEndsUptoRow.holds Try.pinned (OpenSpec.upto linksEndsSpec)

/-- 'lexiphanelaw8.LinksOrder', WHERE WHAT IT READS IS OF BULK AT MOST 1048576: true; the input reads as it did. -/
def linksOrderUptoRow : OpenClaim := { program := "ytdeeeechdlcdbaa", sum := "0233b766b8fca513f6bbae095844c8c2dbc254c912f227e7c437d6fdf964f90b", func := "lexiphane/lexiphanelaw8.LinksOrder", spec := "linksOrder", unfollowed := true, recurses := true, plainKeys := false, apart := false, narrowed := true }
def LinksOrderUptoSaid : Prop := linksOrderUptoRow.holds Try.pinned (OpenSpec.upto linksOrderSpec)

/-- 'lexiphanelaw8.LinksOuts', WHERE WHAT IT READS IS OF BULK AT MOST 1048576: true; the input reads as it did. -/
def linksOutsUptoRow : OpenClaim := { program := "ytdeeeechdlcdbaa", sum := "0233b766b8fca513f6bbae095844c8c2dbc254c912f227e7c437d6fdf964f90b", func := "lexiphane/lexiphanelaw8.LinksOuts", spec := "linksOuts", unfollowed := true, recurses := true, plainKeys := false, apart := false, narrowed := true }
def LinksOutsUptoSaid : Prop := linksOutsUptoRow.holds Try.pinned (OpenSpec.upto linksOutsSpec)

/-- 'lexiphanelaw10.DenseRows', WHERE WHAT IT READS IS OF BULK AT MOST 1048576: true; the input reads as it did. -/
def denseRowsUptoRow : OpenClaim := { program := "ytdeeeechdlcdbaa", sum := "0233b766b8fca513f6bbae095844c8c2dbc254c912f227e7c437d6fdf964f90b", func := "lexiphane/lexiphanelaw10.DenseRows", spec := "denseRows", unfollowed := true, recurses := true, plainKeys := false, apart := false, narrowed := true }
def DenseRowsUptoSaid : Prop := denseRowsUptoRow.holds Try.pinned (OpenSpec.upto denseRowsSpec)

/-- 'lexiphanelaw10.DenseNone', WHERE WHAT IT READS IS OF BULK AT MOST 1048576: true; the input reads as it did. -/
def denseNoneUptoRow : OpenClaim := { program := "ytdeeeechdlcdbaa", sum := "0233b766b8fca513f6bbae095844c8c2dbc254c912f227e7c437d6fdf964f90b", func := "lexiphane/lexiphanelaw10.DenseNone", spec := "denseNone", unfollowed := true, recurses := true, plainKeys := false, apart := false, narrowed := true }
def DenseNoneUptoSaid : Prop := denseNoneUptoRow.holds Try.pinned (OpenSpec.upto denseNoneSpec)

/-- 'lexiphanelaw9.ScanSteps', WHERE WHAT IT READS IS OF BULK AT MOST 1048576: true; the input reads as it did. -/
def scanStepsUptoRow : OpenClaim := { program := "ytdeeeechdlcdbaa", sum := "0233b766b8fca513f6bbae095844c8c2dbc254c912f227e7c437d6fdf964f90b", func := "lexiphane/lexiphanelaw9.ScanSteps", spec := "scanSteps", unfollowed := true, recurses := true, plainKeys := false, apart := false, narrowed := true }
def ScanStepsUptoSaid : Prop := scanStepsUptoRow.holds Try.pinned (OpenSpec.upto scanStepsSpec)

/-- 'lexiphanelaw9.ScanNode', WHERE WHAT IT READS IS OF BULK AT MOST 1048576: true; the input reads as it did. -/
def scanNodeUptoRow : OpenClaim := { program := "ytdeeeechdlcdbaa", sum := "0233b766b8fca513f6bbae095844c8c2dbc254c912f227e7c437d6fdf964f90b", func := "lexiphane/lexiphanelaw9.ScanNode", spec := "scanNode", unfollowed := true, recurses := true, plainKeys := false, apart := false, narrowed := true }
def ScanNodeUptoSaid : Prop := scanNodeUptoRow.holds Try.pinned (OpenSpec.upto scanNodeSpec)

/-- 'lexiphanelaw9.ScanPieces', WHERE WHAT IT READS IS OF BULK AT MOST 1048576: true; the input reads as it did. -/
def scanPiecesUptoRow : OpenClaim := { program := "ytdeeeechdlcdbaa", sum := "0233b766b8fca513f6bbae095844c8c2dbc254c912f227e7c437d6fdf964f90b", func := "lexiphane/lexiphanelaw9.ScanPieces", spec := "scanPieces", unfollowed := true, recurses := true, plainKeys := false, apart := false, narrowed := true }
def ScanPiecesUptoSaid : Prop := scanPiecesUptoRow.holds Try.pinned (OpenSpec.upto scanPiecesSpec)

/-- 'lexiphanelaw9.ScanFinds', WHERE WHAT IT READS IS OF BULK AT MOST 1048576: true; the input reads as it did. -/
def scanFindsUptoRow : OpenClaim := { program := "ytdeeeechdlcdbaa", sum := "0233b766b8fca513f6bbae095844c8c2dbc254c912f227e7c437d6fdf964f90b", func := "lexiphane/lexiphanelaw9.ScanFinds", spec := "scanFinds", unfollowed := true, recurses := true, plainKeys := false, apart := false, narrowed := true }
def ScanFindsUptoSaid : Prop := scanFindsUptoRow.holds Try.pinned (OpenSpec.upto scanFindsSpec)

/-- 'lexiphanelaw9.ScanTwo', WHERE WHAT IT READS IS OF BULK AT MOST 1048576: true; the input reads as it did. -/
def scanTwoUptoRow : OpenClaim := { program := "ytdeeeechdlcdbaa", sum := "0233b766b8fca513f6bbae095844c8c2dbc254c912f227e7c437d6fdf964f90b", func := "lexiphane/lexiphanelaw9.ScanTwo", spec := "scanTwo", unfollowed := true, recurses := true, plainKeys := false, apart := false, narrowed := true }
def ScanTwoUptoSaid : Prop := scanTwoUptoRow.holds Try.pinned (OpenSpec.upto scanTwoSpec)

/-- 'lexiphanelaw9.ScanResets', WHERE WHAT IT READS IS OF BULK AT MOST 1048576: true; the input reads as it did. -/
def scanResetsUptoRow : OpenClaim := { program := "ytdeeeechdlcdbaa", sum := "0233b766b8fca513f6bbae095844c8c2dbc254c912f227e7c437d6fdf964f90b", func := "lexiphane/lexiphanelaw9.ScanResets", spec := "scanResets", unfollowed := true, recurses := true, plainKeys := false, apart := false, narrowed := true }
def ScanResetsUptoSaid : Prop := scanResetsUptoRow.holds Try.pinned (OpenSpec.upto scanResetsSpec)

/-- 'lexiphanelaw10.DenseWalks', WHERE WHAT IT READS IS OF BULK AT MOST 1048576: true; the input reads as it did. -/
def denseWalksUptoRow : OpenClaim := { program := "ytdeeeechdlcdbaa", sum := "0233b766b8fca513f6bbae095844c8c2dbc254c912f227e7c437d6fdf964f90b", func := "lexiphane/lexiphanelaw10.DenseWalks", spec := "denseWalks", unfollowed := true, recurses := true, plainKeys := false, apart := false, narrowed := true }
def DenseWalksUptoSaid : Prop := denseWalksUptoRow.holds Try.pinned (OpenSpec.upto denseWalksSpec)

/-- 'lexiphanelaw11.HitsOrder', WHERE WHAT IT READS IS OF BULK AT MOST 1048576: true; the input reads as it did. -/
def hitsOrderUptoRow : OpenClaim := { program := "ytdeeeechdlcdbaa", sum := "0233b766b8fca513f6bbae095844c8c2dbc254c912f227e7c437d6fdf964f90b", func := "lexiphane/lexiphanelaw11.HitsOrder", spec := "hitsOrder", unfollowed := true, recurses := true, plainKeys := false, apart := false, narrowed := true }
def HitsOrderUptoSaid : Prop := hitsOrderUptoRow.holds Try.pinned (OpenSpec.upto hitsOrderSpec)

end Rows
end Go.Proofs.Ytdeeeechdlcdbaa
