/- Structs as arguments: a head (type 49) and a frame (type 58), opened and shut. -/
import Derived.Test.YthaoofnnhdkboaaProg
import Derived.Lib.SmallJoins
import Derived.ChangeArms
import Derived.ChangeSame
import Derived.ProofKit
set_option linter.unusedVariables false
namespace Go.Proofs.Ythaoofnnhdkboaa.Str
open Go.ChangeShapes Go.WideShapes Go.ChangeAt Go.RowKit Go.Joins
theorem cells49 : Try.prog.cellsOf 49 = 3 := by kernel_rfl
theorem cells58 : Try.prog.cellsOf 58 = 4 := by kernel_rfl
section
variable {H : Type} {enc : TypeId × Value → H} {w : World} {base : Nat} {spare : Nat → Bool} {held : Bool}
theorem in49 {r : Reach} {b0 : Nat} {v : Value} {d : DataW H} {p : List MemPlace} (hv : Value.okWide Try.prog w r b0 49 v) (h : DataW.Trod enc Try.prog w base spare held 49 v d p) :
    ∃ c b id : Int, v = .agg #[.int .i64 c, .int .i64 b, .int .u64 id] ∧ d = .agg [.lit (.int .i64 c), .lit (.int .i64 b), .lit (.int .u64 id)] ∧ p = [] ∧
      (Lit.int .i64 c).wf = true ∧ (Lit.int .i64 b).wf = true ∧ (Lit.int .u64 id).wf = true := by
  obtain ⟨c0, c1, c2, y0, y1, y2, m, rfl, rfl, rfl, h0, h1, h2⟩ := open_agg3 Try.underlying49 (by kernel_rfl) cells49 hv h
  obtain ⟨a, e0, rfl, wa⟩ := DataW.trod_int Try.underlying3 h0
  obtain ⟨b, e1, rfl, wb⟩ := DataW.trod_int Try.underlying3 h1
  obtain ⟨c, e2, rfl, wc⟩ := DataW.trod_int Try.underlying25 h2
  simp at e0 e1 e2
  subst e0 e1 e2
  exact ⟨a, b, c, rfl, rfl, rfl, wa, wb, wc⟩
theorem shut49 {c b id : Int} (wa : (Lit.int .i64 c).wf = true) (wb : (Lit.int .i64 b).wf = true) (wc : (Lit.int .u64 id).wf = true) :
    DataW.Trod enc Try.prog w base spare held 49 (.agg #[.int .i64 c, .int .i64 b, .int .u64 id]) (.agg [.lit (.int .i64 c), .lit (.int .i64 b), .lit (.int .u64 id)]) [] :=
  shut_agg3 (y0 := (.lit (.int .i64 c), [])) (y1 := (.lit (.int .i64 b), [])) (y2 := (.lit (.int .u64 id), [])) Try.underlying49 (by kernel_rfl) cells49
    ⟨1, trod_int_mk 0 Try.underlying3 wa⟩ ⟨1, trod_int_mk 0 Try.underlying3 wb⟩ ⟨1, trod_int_mk 0 Try.underlying25 wc⟩
theorem in58 {r : Reach} {b0 : Nat} {v : Value} {d : DataW H} {p : List MemPlace} (hv : Value.okWide Try.prog w r b0 58 v) (h : DataW.Trod enc Try.prog w base spare held 58 v d p) :
    ∃ (k x s : Int) (t : ByteArray), v = .agg #[.int .i64 k, .int .i64 x, .int .u32 s, .string t] ∧ d = .agg [.lit (.int .i64 k), .lit (.int .i64 x), .lit (.int .u32 s), .lit (.string t.data.toList)] ∧ p = [] ∧
      (Lit.int .i64 k).wf = true ∧ (Lit.int .i64 x).wf = true ∧ (Lit.int .u32 s).wf = true ∧ t.size ≤ maxLen := by
  obtain ⟨c0, c1, c2, c3, y0, y1, y2, y3, m, rfl, rfl, rfl, h0, h1, h2, h3⟩ := open_agg4 Try.underlying58 (by kernel_rfl) cells58 hv h
  obtain ⟨a, e0, rfl, wa⟩ := DataW.trod_int Try.underlying3 h0
  obtain ⟨b, e1, rfl, wb⟩ := DataW.trod_int Try.underlying3 h1
  obtain ⟨c, e2, rfl, wc⟩ := DataW.trod_int Try.underlying36 h2
  obtain ⟨t, e3, rfl, wt⟩ := DataW.trod_string Try.underlying9 h3
  simp at e0 e1 e2 e3
  subst e0 e1 e2 e3
  exact ⟨a, b, c, t, rfl, rfl, rfl, wa, wb, wc, wt⟩
theorem shut58 {k x s : Int} {t : ByteArray} (wa : (Lit.int .i64 k).wf = true) (wb : (Lit.int .i64 x).wf = true) (wc : (Lit.int .u32 s).wf = true) (wt : t.size ≤ maxLen) :
    DataW.Trod enc Try.prog w base spare held 58 (.agg #[.int .i64 k, .int .i64 x, .int .u32 s, .string t]) (.agg [.lit (.int .i64 k), .lit (.int .i64 x), .lit (.int .u32 s), .lit (.string t.data.toList)]) [] :=
  shut_agg4 (y0 := (.lit (.int .i64 k), [])) (y1 := (.lit (.int .i64 x), [])) (y2 := (.lit (.int .u32 s), [])) (y3 := (.lit (.string t.data.toList), [])) Try.underlying58 (by kernel_rfl) cells58
    ⟨1, trod_int_mk 0 Try.underlying3 wa⟩ ⟨1, trod_int_mk 0 Try.underlying3 wb⟩ ⟨1, trod_int_mk 0 Try.underlying36 wc⟩ ⟨1, by simp [DataW.trod, Try.underlying9, wt]⟩
end
end Go.Proofs.Ythaoofnnhdkboaa.Str
