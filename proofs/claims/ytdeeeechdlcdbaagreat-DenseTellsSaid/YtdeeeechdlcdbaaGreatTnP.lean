/- Tries: how long the nodes' texts are; one byte as a string. -/
import Derived.Test.YtdeeeechdlcdbaaGreatTcP
import Derived.Laws.BytesArg
set_option linter.unusedVariables false
namespace Go.Proofs.YtdeeeechdlcdbaaGreat.TnP
open Go Go.RowKit Go.Proofs.YtdeeeechdlcdbaaGreat.Base Go.Proofs.YtdeeeechdlcdbaaGreat.DiA Go.Proofs.YtdeeeechdlcdbaaGreat.TrP Go.Proofs.YtdeeeechdlcdbaaGreat.TcP
def Small (M : Nat) (S : List Pn) : Prop := ∀ i, i < S.length → (S.getD i noPn).text.size ≤ M
theorem small_mod {M : Nat} {S : List Pn} (h : Small M S) (f : Pn → Pn) (hf : ∀ n, (f n).text = n.text) (i : Nat) : Small M (S.modify i f) := by
  intro j hj
  rw [List.length_modify] at hj
  rw [getD_mod _ _ _ _ hj]
  split
  · rw [hf]; exact h j hj
  · exact h j hj
theorem small_app {M : Nat} {S : List Pn} (h : Small M S) (n : Pn) (hn : n.text.size ≤ M) : Small M (S ++ [n]) := by
  intro j hj
  rw [List.length_append, List.length_singleton] at hj
  rcases Nat.lt_or_ge j S.length with h1 | h1
  · rw [getD_app _ _ _ h1]; exact h j h1
  · obtain rfl : j = S.length := by omega
    rw [getD_last]; exact hn
theorem small_walk {M : Nat} {S : List Pn} (h : Small M S) (s : ByteArray) (hs : s.size ≤ M) : ∀ k, Small M (walkS S s k).1
  | 0 => h
  | k + 1 => by
    have ih := small_walk h s hs k
    show Small M (TrP.step (walkS S s k) s k).1
    generalize walkS S s k = st at ih
    obtain ⟨T, a⟩ := st
    unfold TrP.step
    simp only
    split
    · exact ih
    · refine small_mod (small_app ih (newPn s k) ?_) (setSon (TrP.byteOf s k) T.length) (fun _ => rfl) _
      show (s.extract 0 (k + 1)).size ≤ M
      rw [ByteArray.size_extract]; omega
theorem small_build {M : Nat} (zs : List ByteArray) (h : ∀ k, (zs.getD k ByteArray.empty).size ≤ M) : ∀ k, Small M (build zs k)
  | 0 => by
    intro i hi
    have : i = 0 := by simp [build] at hi; omega
    subst this
    exact Nat.zero_le _
  | k + 1 => small_mod (small_walk (small_build zs h k) _ (h k) _) (setWord k) (fun _ => rfl) _
theorem size_total (zs : List ByteArray) (k : Nat) : (zs.getD k ByteArray.empty).size ≤ total zs := by
  rcases Nat.lt_or_ge k zs.length with h | h
  · have := total_succ h
    have := total_le zs (k + 1)
    omega
  · rw [List.getD_eq_getElem?_getD, List.getElem?_eq_none h]; exact Nat.zero_le _
theorem conv1 (w : World) (b : Nat) (x : Int) (h : w.cell? ⟨b, 0, none⟩ = some (.int .u8 x)) : (convert 63 9 (.slice (some ⟨b, 0, none⟩) 1 1)).run Tryz.prog w = .ok (.string (strOfNums [x])) w := by
  refine run_convert_bytes_arg w 63 5 Tryz.underlying63 Tryz.underlying5 b 0 1 1 [x] rfl ?_ 9 Tryz.underlying9
  intro i hi
  obtain rfl : i = 0 := by omega
  exact h
theorem one_str (c : Int) : strOfNums [c] = ⟨#[UInt8.ofNat c.toNat]⟩ := rfl
end Go.Proofs.YtdeeeechdlcdbaaGreat.TnP
