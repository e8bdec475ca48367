/- A slice of hits that came in, as a list. -/
import Derived.Test.YtdeeeechdlcdbaaArgs
import Derived.Test.YtdeeeechdlcdbaaSeH
import Derived.Lib.SmallJoins
import Derived.ChangeArms
import Derived.ChangeSame
import Derived.ProofKit
import Derived.Deep.Slices
import Derived.Deep.Fields
set_option linter.unusedVariables false
namespace Go.Proofs.Ytdeeeechdlcdbaa.Args
open Go Go.ChangeShapes Go.WideShapes Go.ChangeAt Go.RowKit Go.Joins Go.Deep
def cells2 (f : Int × Int) : List Value := [.int .i64 f.1, .int .i64 f.2]
/-- A slice of hits that came in. -/
structure HitsIn (w : World) (A : Option Addr) (n cap : Nat) (fs : List (Int × Int)) : Prop where
  len : fs.length = n
  le : n ≤ cap
  at_ : 0 < n → ∃ ad : Addr, A = some ad ∧ ∀ j, j < n → ∀ i u, (cells2 (fs.getD j (0, 0)))[i]? = some u → w.cell? (ad.add (j * 2 + i)) = some u
  wf : ∀ f ∈ fs, SeH.WfH f
section
variable {H : Type} {enc : TypeId × Value → H} {w : World} {base : Nat} {spare : Nat → Bool} {held : Bool}
set_option maxRecDepth 100000 in
theorem trod35 {fuel : Nat} {cs : List Value} {x : DataW H × List MemPlace} (h : DataW.trod enc Try.prog w base spare held fuel 35 cs = some x) :
    ∃ f : Int × Int, cs = cells2 f ∧ SeH.WfH f := by
  obtain ⟨xs, n, _, hx, hlen, hxl, hg⟩ := DataW.trod_struct Try.underlying35 h
  rw [SeH.cells35] at hlen
  match cs, hlen with
  | [c0, c1], _ =>
    match xs, hxl with
    | [y0, y1], _ =>
      have k3 : Try.prog.cellsOf 3 = 1 := by kernel_rfl
      have g0 : DataW.trod enc Try.prog w base spare held n 3 [c0] = some y0 := by have := hg 0 _ rfl; simpa [k3] using this
      have g1 : DataW.trod enc Try.prog w base spare held n 3 [c1] = some y1 := by have := hg 1 _ rfl; simpa [k3] using this
      obtain ⟨a, e0, rfl, wa⟩ := DataW.trod_int Try.underlying3 g0
      obtain ⟨b, e1, rfl, wb⟩ := DataW.trod_int Try.underlying3 g1
      simp at e0 e1
      subst e0 e1
      exact ⟨(a, b), rfl, wa, wb⟩
set_option maxRecDepth 100000 in
theorem frames_in {ts : List TypeId} {ds : List (DataW H)} {j : Nat} {r : Reach} {b0 : Nat} {t : TypeId} {v : Value} {d : DataW H} {ps : List MemPlace} (hsz : (DataW.weightsEach Try.prog ts ds).all (· ≤ reachBytes) = true) (ht : ts[j]? = some t) (hd : ds[j]? = some d)
    (hu : Try.prog.underlying t = some (.slice 35)) (hv : Value.okWide Try.prog w r b0 t v) (h : DataW.Trod enc Try.prog w base spare held t v d ps) : ∃ A n cap fs, v = .slice A n cap ∧ HitsIn w A n cap fs := by
  obtain ⟨A, n, cap, rfl⟩ := okWide_slice hu hv
  refine ⟨A, n, cap, ?_⟩
  obtain ⟨fuel, hf⟩ := h
  rcases open_slice hu hf with ⟨hcs, _⟩ | ⟨a, len, cap', m, n', D, Pl, hcs, _, hl, hm, hmm, hx, hi⟩
  · simp [Value.cells] at hcs
    obtain ⟨rfl, rfl, rfl⟩ := hcs
    exact ⟨[], rfl, ⟨rfl, Nat.le_refl _, fun h => by omega, fun x hx => by cases hx⟩⟩
  · simp [Value.cells] at hcs
    obtain ⟨rfl, rfl, rfl⟩ := hcs
    have hle : n ≤ m := by rw [hmm]; split <;> omega
    have each : ∀ i, i < n → ∃ f : Int × Int, (∀ k u, (cells2 f)[k]? = some u → w.cell? (a.add (i * 2 + k)) = some u) ∧ SeH.WfH f := by
      intro i hin
      obtain ⟨cs', hc, htr⟩ := hi i (by omega)
      rw [SeH.cells35] at hc
      obtain ⟨_, hcl, hat⟩ := World.cells?_some hc
      obtain ⟨f, rfl, wf⟩ := trod35 htr
      refine ⟨f, fun k u hk => ?_, wf⟩
      have hk4 : k < 2 := by
        have := (List.getElem?_eq_some_iff.1 hk).1
        simpa [cells2] using this
      rw [← Go.Deep.add_add, hat k hk4, hk]
    let F : Nat → Int × Int := fun i => if h : i < n then (each i h).choose else (0, 0)
    have hF : ∀ i, i < n → (∀ k u, (cells2 (F i))[k]? = some u → w.cell? (a.add (i * 2 + k)) = some u) ∧ SeH.WfH (F i) := by
      intro i hin
      have : F i = (each i hin).choose := dif_pos hin
      rw [this]
      exact (each i hin).choose_spec
    refine ⟨(List.range n).map F, rfl, ⟨by simp, hl, fun _ => ⟨a, rfl, fun j hj i u hu => ?_⟩, fun f hf => ?_⟩⟩
    · have e : ((List.range n).map F).getD j (0, 0) = F j := by simp [List.getD_eq_getElem?_getD, hj]
      rw [e] at hu
      exact (hF j hj).1 i u hu
    · obtain ⟨i, hin, rfl⟩ := List.mem_map.1 hf
      exact (hF i (List.mem_range.1 hin)).2
end
/-- Hits that came in, where they are. -/
theorem hIn_of {w : World} {A : Option Addr} {n cap : Nat} {fs : List (Int × Int)} (h : HitsIn w A n cap fs) : HiW.HIn w A fs := by
  intro hn
  have hn' : 0 < n := by rw [h.len] at hn; exact hn
  obtain ⟨ad, hA, hc⟩ := h.at_ hn'
  have h0 := hc 0 hn' 0 _ rfl
  have hs : ad.spot = none := by
    unfold World.cell? Addr.add at h0
    rw [if_pos rfl] at h0
    cases hsp : ad.spot with
    | none => rfl
    | some x => rw [hsp] at h0; split at h0 <;> simp at h0
  have hlt := DiA.cell_lt h0
  have e0 : ad = ⟨ad.block, ad.off, none⟩ := by obtain ⟨x, y, z⟩ := ad; simp at hs; subst hs; rfl
  refine ⟨ad.block, ad.off, hA.trans (congrArg some e0), by simpa [Addr.add] using hlt, fun j hj => ?_⟩
  rw [h.len] at hj
  have h1 := hc j hj 0 _ rfl
  have h2 := hc j hj 1 _ rfl
  rw [e0, Addr.add_lit] at h1 h2
  exact ⟨by rw [Nat.add_zero] at h1; exact h1, by rw [← Nat.add_assoc] at h2; exact h2⟩
end Go.Proofs.Ytdeeeechdlcdbaa.Args
