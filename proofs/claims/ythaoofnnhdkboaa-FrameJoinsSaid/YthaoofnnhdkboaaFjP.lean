/- Plain facts on frames one behind the other. -/
import Derived.Test.YthaoofnnhdkboaaFjA
import Derived.Test.YthaoofnnhdkboaaFrC
set_option linter.unusedVariables false
namespace Go.Proofs.Ythaoofnnhdkboaa.FjP
open Go Go.RowKit Go.Proofs.Ythaoofnnhdkboaa.CrcL Go.Proofs.Ythaoofnnhdkboaa.FrW Go.Proofs.Ythaoofnnhdkboaa.FrH Go.Proofs.Ythaoofnnhdkboaa.FrL Go.Proofs.Ythaoofnnhdkboaa.FrQ Go.Proofs.Ythaoofnnhdkboaa.FrR Go.Proofs.Ythaoofnnhdkboaa.FrD Go.Proofs.Ythaoofnnhdkboaa.FrC Go.Proofs.Ythaoofnnhdkboaa.Args
/-- May it be a frame? -/
def okFr (f : Fr) : Bool := decide (okF f.1 f.2.1 f.2.2.1 f.2.2.2)
def putFr (f : Fr) : ByteArray := putF f.1 f.2.1 f.2.2.1 f.2.2.2
/-- The frames' bytes, one behind the other. -/
def cat : List Fr → ByteArray
  | [] => ⟨#[]⟩
  | f :: l => putFr f ++ cat l
theorem app_nil (a : ByteArray) : a ++ (⟨#[]⟩ : ByteArray) = a := by apply data_inj; rw [app_list]; simp
theorem nil_app (a : ByteArray) : (⟨#[]⟩ : ByteArray) ++ a = a := by apply data_inj; rw [app_list]; simp
theorem cat_snoc (l : List Fr) (f : Fr) : cat (l ++ [f]) = cat l ++ putFr f := by
  induction l with
  | nil => show putFr f ++ ⟨#[]⟩ = ⟨#[]⟩ ++ putFr f; rw [app_nil, nil_app]
  | cons g l ih => show putFr g ++ cat (l ++ [f]) = putFr g ++ cat l ++ putFr f; rw [ih, ByteArray.append_assoc]
/-- The frames that may be, of the first k. -/
def acc (fs : List Fr) (k : Nat) : List Fr := (fs.take k).filter okFr
theorem acc_yes {fs : List Fr} {k : Nat} (hk : k < fs.length) (h : okFr (fs.getD k noFr) = true) : acc fs (k + 1) = acc fs k ++ [fs.getD k noFr] := by
  unfold acc
  have e : fs.getD k noFr = fs[k] := by simp [List.getD_eq_getElem?_getD, hk]
  rw [e] at h ⊢
  rw [List.take_succ_eq_append_getElem hk, List.filter_append]
  simp [h]
theorem acc_no {fs : List Fr} {k : Nat} (hk : k < fs.length) (h : okFr (fs.getD k noFr) = false) : acc fs (k + 1) = acc fs k := by
  unfold acc
  have e : fs.getD k noFr = fs[k] := by simp [List.getD_eq_getElem?_getD, hk]
  rw [e] at h
  rw [List.take_succ_eq_append_getElem hk, List.filter_append]
  simp [h]
/-- How long a frame is. -/
def sizeFr (f : Fr) : Int := if f.1 = 0 then 5 else 9 + (f.2.2.2.size : Int)
theorem put_size {f : Fr} (h : okFr f = true) : ((putFr f).size : Int) = sizeFr f := by
  have ok := of_decide_eq_true h
  unfold putFr putF sizeFr
  rw [if_pos ok]
  by_cases h0 : f.1 = 0
  · rw [if_pos h0, if_pos h0]
    simp only [ByteArray.size_append, bigS_size]; rfl
  · rw [if_neg h0, if_neg h0, frameS_size]
    omega
/-- The first frame comes back. -/
theorem get_first {f : Fr} (r : ByteArray) (h : okFr f = true) (hs : 0 ≤ f.2.2.1 ∧ f.2.2.1 < 4294967296) : getF (putFr f ++ r) 1024 = (f, sizeFr f, 0) := by
  have ok := of_decide_eq_true h
  obtain ⟨k, x, s, t⟩ := f
  unfold putFr putF sizeFr
  simp only at ok hs ⊢
  rw [if_pos ok]
  by_cases h0 : k = 0
  · rw [if_pos h0, if_pos h0]
    rcases ok with ⟨_, h1, h2, h3, h4⟩ | ⟨h1, _⟩
    · subst h0 h3 h4
      exact getF_end x 1024 r ⟨h1, h2⟩
    · exact absurd h0 h1
  · rw [if_neg h0, if_neg h0]
    rcases ok with ⟨h1, _⟩ | ⟨_, hf⟩
    · exact absurd h1 h0
    · have hp := fits_parts hf
      exact getF_frame k x s 1024 t r (by omega) (by omega) hs (by omega) hf
theorem cut_first (a r : ByteArray) : (a ++ r).extract a.size (a ++ r).size = r := by
  apply data_inj
  rw [ext_list, app_list, ByteArray.size_append, show a.size = a.data.toList.length from size_list a, List.drop_left' rfl, List.take_of_length_le (by rw [← size_list]; omega)]
end Go.Proofs.Ythaoofnnhdkboaa.FjP
