/- The walk of ScanPlays, joined. -/
import Derived.Test.YtdeeeechdlcdbaaGreatSyW
import Derived.Test.YtdeeeechdlcdbaaGreatArgs
namespace Go.Proofs.YtdeeeechdlcdbaaGreat.SyX
open Go Go.RowKit Go.Proofs.YtdeeeechdlcdbaaGreat.DiA
theorem walk (A : Option Addr) (n cap : Nat) (zs : List ByteArray) (P : Option Addr) (pn pc : Nat) (ps : List ByteArray) (R : Option Addr) (rn rc : Nat) (Bo : Nat → Bool) (w : World) (h : Args.StrsIn w A n cap zs) (hp : Args.StrsIn w P pn pc ps) (hr : Args.BoolsIn w R rn rc Bo) :
    Calls Tryz.prog 4 #[.slice A n cap, .slice P pn pc, .slice R rn rc] w fun e w' => e = .returned (.bool true) ∧ Below w.heap.size w w' := by
  have hat := strsAt_of h
  have hf := few_any A n cap zs w h.len.symm hat h.each h.size
  cases hb : fewB zs with
  | false => rw [hb] at hf; exact SyW.law_few A n cap P pn pc R rn rc w hf
  | true =>
    rw [hb] at hf
    unfold fewB at hb
    rw [Bool.and_eq_true, decide_eq_true_eq, decide_eq_true_eq] at hb
    have h1 : n ≤ 110 := by rw [← h.len]; exact hb.1
    by_cases g0 : (pn : Int) > 20
    · exact SyW.law_out A n cap P pn pc R rn rc w hf (decide_eq_true g0)
    refine SyW.law_in A n cap P pn pc R rn rc zs ps Bo w hf h.len.symm hat h1 hb.2 (decide_eq_false g0) hp.len (strsAt_of hp) fun h0 => ?_
    obtain ⟨ad, e, hc⟩ := hr.at_ h0
    have h1 := hc 0 h0
    have hs : ad.spot = none := by
      unfold World.cell? Addr.add at h1
      rw [if_pos rfl] at h1
      cases hsp : ad.spot with
      | none => rfl
      | some x => rw [hsp] at h1; split at h1 <;> simp at h1
    refine ⟨ad.block, ad.off, ?_, fun j hj => ?_⟩
    · rw [e]; obtain ⟨x, y, z⟩ := ad; simp at hs; subst hs; rfl
    · rw [← hc j hj]
      unfold Addr.add
      by_cases h : j = 0
      · subst h; rw [if_pos rfl]; obtain ⟨x, y, z⟩ := ad; simp at hs; subst hs; rfl
      · rw [if_neg h]
end Go.Proofs.YtdeeeechdlcdbaaGreat.SyX
