/- A slice of frames that came in, as a list. -/
import Derived.Test.YthaoofnnhdkboaaStr
import Derived.Test.YthaoofnnhdkboaaArgs
import Derived.Deep.Slices
import Derived.Deep.Fields
set_option linter.unusedVariables false
namespace Go.Proofs.Ythaoofnnhdkboaa.Args
open Go Go.ChangeShapes Go.WideShapes Go.ChangeAt Go.RowKit Go.Joins Go.Deep
abbrev Fr := Int × Int × Int × ByteArray
def noFr : Fr := (0, 0, 0, ⟨#[]⟩)
def cells4 (f : Fr) : List Value := [.int .i64 f.1, .int .i64 f.2.1, .int .u32 f.2.2.1, .string f.2.2.2]
/-- A slice of frames that came in. -/
structure FramesIn (w : World) (A : Option Addr) (n cap : Nat) (fs : List Fr) : Prop where
  len : fs.length = n
  le : n ≤ cap
  at_ : 0 < n → ∃ ad : Addr, A = some ad ∧ ∀ j, j < n → ∀ i u, (cells4 (fs.getD j noFr))[i]? = some u → w.cell? (ad.add (j * 4 + i)) = some u
  wf : ∀ f ∈ fs, 0 ≤ f.2.2.1 ∧ f.2.2.1 < 4294967296
section
variable {H : Type} {enc : TypeId × Value → H} {w : World} {base : Nat} {spare : Nat → Bool} {held : Bool}
theorem trod58 {fuel : Nat} {cs : List Value} {x : DataW H × List MemPlace} (h : DataW.trod enc Try.prog w base spare held fuel 58 cs = some x) :
    ∃ f : Fr, cs = cells4 f ∧ (Lit.int .u32 f.2.2.1).wf = true := by
  obtain ⟨xs, n, _, hx, hlen, hxl, hg⟩ := DataW.trod_struct Try.underlying58 h
  rw [Str.cells58] at hlen
  match cs, hlen with
  | [c0, c1, c2, c3], _ =>
    match xs, hxl with
    | [y0, y1, y2, y3], _ =>
      have k3 : Try.prog.cellsOf 3 = 1 := by kernel_rfl
      have k36 : Try.prog.cellsOf 36 = 1 := by kernel_rfl
      have k9 : Try.prog.cellsOf 9 = 1 := by kernel_rfl
      have g0 : DataW.trod enc Try.prog w base spare held n 3 [c0] = some y0 := by have := hg 0 _ rfl; simpa [k3] using this
      have g1 : DataW.trod enc Try.prog w base spare held n 3 [c1] = some y1 := by have := hg 1 _ rfl; simpa [k3] using this
      have g2 : DataW.trod enc Try.prog w base spare held n 36 [c2] = some y2 := by have := hg 2 _ rfl; simpa [k36] using this
      have g3 : DataW.trod enc Try.prog w base spare held n 9 [c3] = some y3 := by have := hg 3 _ rfl; simpa [k9] using this
      obtain ⟨a, e0, rfl, wa⟩ := DataW.trod_int Try.underlying3 g0
      obtain ⟨b, e1, rfl, wb⟩ := DataW.trod_int Try.underlying3 g1
      obtain ⟨c, e2, rfl, wc⟩ := DataW.trod_int Try.underlying36 g2
      obtain ⟨t, e3, rfl, wt⟩ := DataW.trod_string Try.underlying9 g3
      simp at e0 e1 e2 e3
      subst e0 e1 e2 e3
      exact ⟨(a, b, c, t), rfl, wc⟩
theorem frames_in {ts : List TypeId} {ds : List (DataW H)} {j : Nat} {r : Reach} {b0 : Nat} {t : TypeId} {v : Value} {d : DataW H} {ps : List MemPlace} (hsz : (DataW.weightsEach Try.prog ts ds).all (· ≤ reachBytes) = true) (ht : ts[j]? = some t) (hd : ds[j]? = some d)
    (hu : Try.prog.underlying t = some (.slice 58)) (hv : Value.okWide Try.prog w r b0 t v) (h : DataW.Trod enc Try.prog w base spare held t v d ps) : ∃ A n cap fs, v = .slice A n cap ∧ FramesIn w A n cap fs := by
  obtain ⟨A, n, cap, rfl⟩ := okWide_slice hu hv
  refine ⟨A, n, cap, ?_⟩
  obtain ⟨fuel, hf⟩ := h
  rcases open_slice hu hf with ⟨hcs, _⟩ | ⟨a, len, cap', m, n', D, Pl, hcs, _, hl, hm, hmm, hx, hi⟩
  · simp [Value.cells] at hcs
    obtain ⟨rfl, rfl, rfl⟩ := hcs
    exact ⟨[], rfl, ⟨rfl, Nat.le_refl _, fun h => by omega, fun x hx => by cases hx⟩⟩
  · simp [Value.cells] at hcs
    obtain ⟨rfl, rfl, rfl⟩ := hcs
    have hle : n ≤ m := by rw [hmm]; split <;> omega
    have each : ∀ i, i < n → ∃ f : Fr, (∀ k u, (cells4 f)[k]? = some u → w.cell? (a.add (i * 4 + k)) = some u) ∧ (Lit.int .u32 f.2.2.1).wf = true := by
      intro i hin
      obtain ⟨cs', hc, htr⟩ := hi i (by omega)
      rw [Str.cells58] at hc
      obtain ⟨_, hcl, hat⟩ := World.cells?_some hc
      obtain ⟨f, rfl, wf⟩ := trod58 htr
      refine ⟨f, fun k u hk => ?_, wf⟩
      have hk4 : k < 4 := by
        have := (List.getElem?_eq_some_iff.1 hk).1
        simpa [cells4] using this
      rw [← Go.Deep.add_add, hat k hk4, hk]
    let F : Nat → Fr := fun i => if h : i < n then (each i h).choose else noFr
    have hF : ∀ i, i < n → (∀ k u, (cells4 (F i))[k]? = some u → w.cell? (a.add (i * 4 + k)) = some u) ∧ (Lit.int .u32 (F i).2.2.1).wf = true := by
      intro i hin
      have : F i = (each i hin).choose := dif_pos hin
      rw [this]
      exact (each i hin).choose_spec
    refine ⟨(List.range n).map F, rfl, ⟨by simp, hl, fun _ => ⟨a, rfl, fun j hj i u hu => ?_⟩, fun f hf => ?_⟩⟩
    · have e : ((List.range n).map F).getD j noFr = F j := by simp [List.getD_eq_getElem?_getD, hj]
      rw [e] at hu
      exact (hF j hj).1 i u hu
    · obtain ⟨i, hin, rfl⟩ := List.mem_map.1 hf
      have := (hF i (List.mem_range.1 hin)).2
      simp [Lit.wf, IntKind.min, IntKind.max, IntKind.signed, IntKind.bits] at this
      omega
end
end Go.Proofs.Ythaoofnnhdkboaa.Args
