/- For HitsTells: a list more, or none where the book is full; which phrase stands where, by lists. -/
import Derived.Test.YtdeeeechdlcdbaaGreatStaA
import Derived.Test.YtdeeeechdlcdbaaGreatLhA
import Derived.Test.YtdeeeechdlcdbaaGreatHiV
import Derived.Test.YtdeeeechdlcdbaaGreatBkIF
set_option linter.unusedVariables false
set_option linter.unusedSimpArgs false
namespace Go.Proofs.YtdeeeechdlcdbaaGreat.HtA
open Go Go.RowKit Go.Lib Go.Sort Go.Proofs Go.Proofs.YtdeeeechdlcdbaaGreat Go.Proofs.YtdeeeechdlcdbaaGreat.Base Go.Proofs.YtdeeeechdlcdbaaGreat.DiA Go.Proofs.YtdeeeechdlcdbaaGreat.DiB Go.Proofs.YtdeeeechdlcdbaaGreat.TcP Go.Proofs.YtdeeeechdlcdbaaGreat.LkM Go.Proofs.YtdeeeechdlcdbaaGreat.LkS Go.Proofs.YtdeeeechdlcdbaaGreat.PhP Go.Proofs.YtdeeeechdlcdbaaGreat.ScP Go.Proofs.YtdeeeechdlcdbaaGreat.ScF Go.Proofs.YtdeeeechdlcdbaaGreat.ScE Go.Proofs.YtdeeeechdlcdbaaGreat.ScN Go.Proofs.YtdeeeechdlcdbaaGreat.RwA Go.Proofs.YtdeeeechdlcdbaaGreat.HiP Go.Proofs.YtdeeeechdlcdbaaGreat.HiQ Go.Proofs.YtdeeeechdlcdbaaGreat.HiW Go.Proofs.YtdeeeechdlcdbaaGreat.HiV
set_option maxRecDepth 20000 in
theorem add_full {B0 B pb : Nat} {ls : List BkInts.L} {V : Option Addr} {n c : Nat} (w : World) (h : BkInts.Book B0 B w pb ls) (hn : ¬ ls.length < 250) :
    Calls Tryz.prog 16 #[.pointer (some ⟨pb, 0, none⟩), .slice V n c] w fun e w' => e = .returned (.tuple #[]) ∧ w' = w := by
  obtain ⟨V0, W0, cs, hb⟩ := h
  have f0 : w.cell? ⟨pb, 0, none⟩ = some V0 := BkInts.book_field hb.book 0 _ rfl
  obtain ⟨A, cA, rfl, _⟩ := own_form hb.lists
  obtain ⟨m, hm⟩ : ∃ m, ls.length = m := ⟨_, rfl⟩
  rw [hm] at f0 hn
  have t1 : decide ((m : Int) < 250) = false := decide_eq_false (by omega)
  have t2 : decide (m < 250) = false := decide_eq_false hn
  clear hb hm hn
  go_enter Tryz.func16, Tryz.ntmps16
  go_wp2
  refine bodyPost_end (results_none rfl _ _ _) rfl ?_
  exact ⟨rfl, rfl⟩
/-- A list more, or none: the book is full. -/
theorem add_any {B0 B pb : Nat} {ls : List BkInts.L} {A : Option Addr} {c m : Nat} {S : List Nat} (w : World) (h : BkInts.Book B0 B w pb ls) (hx : BkInts.Row B0 w (.slice A m c, toI S)) (hax : ∀ y ∈ ls, BkInts.Apt y.1 (.slice A m c)) (hl : S.length ≤ 1000000) (hBw : B ≤ w.heap.size) (h250 : ls.length ≤ 250) :
    Calls Tryz.prog 16 #[.pointer (some ⟨pb, 0, none⟩), .slice A m c] w fun e w' => e = .returned (.tuple #[]) ∧ (∃ ls', BkInts.Book B0 B w' pb ls' ∧ (∀ y ∈ ls', y ∈ ls ∨ y = (.slice A m c, toI S)) ∧ ls'.length ≤ 250) ∧ RowKit.Below B w w' := by
  by_cases hn : ls.length < 250
  · obtain ⟨V0, W0, cs, hb⟩ := h
    refine (BkInts.add_call (x := (.slice A m c, toI S)) w hb hn hx hax (by show (toI S).length ≤ _; rw [toI_len]; exact hl) hBw).mono ?_
    rintro e w' ⟨rfl, h1, _, h2⟩
    exact ⟨rfl, ⟨_, h1, fun y hy => by rcases List.mem_append.1 hy with h | h; exact .inl h; exact .inr (List.mem_singleton.1 h), by rw [List.length_append]; simp; omega⟩, h2⟩
  · refine (add_full w h hn).mono ?_
    rintro e w' ⟨rfl, rfl⟩
    exact ⟨rfl, ⟨ls, h, fun y hy => .inl hy, h250⟩, Below.refl _ _⟩
theorem rowM {B n : Nat} {w : World} {v : Value} {L : List Nat} (h : w.ownsRow B 3 1 v n (L.map encN)) (hn : L.length = n) : BkInts.Row B w (v, toI L) := by
  show w.ownsRow B 3 1 v (toI L).length _
  rw [toI_len, hn, ← toI_map]; exact h
/-- A phrase is found at its own number. -/
theorem find_at {zs : List ByteArray} (hok : okD zs = true) {k : Nat} (hk : k < zs.length) : findI zs (zk zs k) = (k : Int) := by
  unfold findI
  cases h : findL zs (zk zs k) with
  | none => exact absurd rfl (findL_none h k hk)
  | some j =>
    obtain ⟨h1, h2⟩ := findL_some h
    rw [zk_inj hok j k h1 hk h2]
/-- What stands at a place, by the hits: as many as lengths, each found at its own text. -/
theorem starts_at {zs : List ByteArray} (hok : okD zs = true) {B : List UInt8} {H : List (Int × Int)} (hH : ∀ x, x ∈ H ↔ x ∈ HiQ.asInt (hitsL zs B)) (i : Nat) :
    ((startsL (szk zs) zs.length B.length H).getD i []).length = (lensL zs B i).length ∧ ∀ j, j < (lensL zs B i).length → i + (lensL zs B i).getD j 0 ≤ B.length ∧ findI zs ((B.drop i).take ((lensL zs B i).getD j 0)) = ((((startsL (szk zs) zs.length B.length H).getD i []).getD j 0 : Nat) : Int) := by
  have hm := starts_lens hok hH i
  have hl : ((startsL (szk zs) zs.length B.length H).getD i []).length = (lensL zs B i).length := by rw [← hm, List.length_map]
  refine ⟨hl, fun j hj => ?_⟩
  have hj2 : j < ((startsL (szk zs) zs.length B.length H).getD i []).length := by rw [hl]; exact hj
  obtain ⟨k, hk⟩ : ∃ k, ((startsL (szk zs) zs.length B.length H).getD i [])[j]? = some k := ⟨_, List.getElem?_eq_getElem hj2⟩
  have hmem := List.mem_of_getElem? hk
  obtain ⟨k1, k2⟩ := (starts_hits hok hH).1 hmem
  obtain ⟨s1, s2⟩ := stands_iff.1 k2
  have e1 : ((startsL (szk zs) zs.length B.length H).getD i []).getD j 0 = k := by rw [List.getD_eq_getElem?_getD, hk]; rfl
  have e2 : (lensL zs B i).getD j 0 = szk zs k := by rw [← hm, List.getD_eq_getElem?_getD, List.getElem?_map, hk]; rfl
  rw [e1, e2, s2]
  exact ⟨s1, find_at hok k1⟩
theorem lens_len {zs : List ByteArray} (B : List UInt8) (i : Nat) (hok : okD zs = true) : (lensL zs B i).length ≤ zs.length := by
  have h : (lensL zs B i).length = (lenU zs B i zs.length).length := (List.mergeSort_perm _ _).length_eq
  rw [h]; exact lenU_len zs B i zs.length
end Go.Proofs.YtdeeeechdlcdbaaGreat.HtA
