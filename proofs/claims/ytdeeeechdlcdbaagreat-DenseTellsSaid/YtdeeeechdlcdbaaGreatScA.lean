/- Hits appended; hits of bytes that come in pieces. -/
import Derived.Test.YtdeeeechdlcdbaaGreatScX
import Derived.Test.YtdeeeechdlcdbaaGreatArgs
import Derived.Maps.AppendAt
set_option linter.unusedVariables false
set_option linter.unusedSimpArgs false
namespace Go.Proofs.YtdeeeechdlcdbaaGreat.ScA
open Go Go.RowKit Go.Proofs Go.Proofs.YtdeeeechdlcdbaaGreat Go.Proofs.YtdeeeechdlcdbaaGreat.Base Go.Proofs.YtdeeeechdlcdbaaGreat.DiA Go.Proofs.YtdeeeechdlcdbaaGreat.DiB Go.Proofs.YtdeeeechdlcdbaaGreat.DiC Go.Proofs.YtdeeeechdlcdbaaGreat.TrP Go.Proofs.YtdeeeechdlcdbaaGreat.TtP Go.Proofs.YtdeeeechdlcdbaaGreat.TcP Go.Proofs.YtdeeeechdlcdbaaGreat.LkP Go.Proofs.YtdeeeechdlcdbaaGreat.ScP Go.Proofs.YtdeeeechdlcdbaaGreat.ScS Go.Proofs.YtdeeeechdlcdbaaGreat.ScH Go.Proofs.YtdeeeechdlcdbaaGreat.ScF Go.Proofs.YtdeeeechdlcdbaaGreat.ScE Go.Proofs.YtdeeeechdlcdbaaGreat.ScX
theorem intsAt_of {w : World} {A : Option Addr} {n cap : Nat} {zs : List Int} (h : Args.IntsIn .i64 w A n cap zs) : LkS.At w A zs := by
  intro hn
  obtain ⟨ad, hA, hc⟩ := h.at_ (by rw [h.len] at hn; exact hn)
  have h0 := hc 0 (by rw [h.len] at hn; exact hn)
  have hs : ad.spot = none := by
    unfold World.cell? Addr.add at h0
    rw [if_pos rfl] at h0
    cases hsp : ad.spot with
    | none => rfl
    | some x => rw [hsp] at h0; split at h0 <;> simp at h0
  have hlt := cell_lt h0
  refine ⟨ad.block, ad.off, ?_, by simpa [Addr.add] using hlt, fun j hj => ?_⟩
  · rw [hA]; obtain ⟨x, y, z⟩ := ad; simp at hs; subst hs; rfl
  · have := hc j (by rw [h.len] at hj; exact hj)
    rw [← this]
    unfold Addr.add
    by_cases h : j = 0
    · subst h; rw [if_pos rfl]; obtain ⟨x, y, z⟩ := ad; simp at hs; subst hs; rfl
    · rw [if_neg h]
theorem cut_ex (c : Int) (n : Nat) : ∃ j : Nat, min (max c 0) (n : Int) = (j : Int) ∧ j ≤ n := by
  by_cases h0 : c ≤ 0
  · exact ⟨0, by rw [Int.max_eq_right h0]; exact Int.min_eq_left (by omega), Nat.zero_le _⟩
  · by_cases h1 : c ≤ n
    · exact ⟨c.toNat, by rw [Int.max_eq_left (by omega), Int.min_eq_left h1]; omega, by omega⟩
    · exact ⟨n, by rw [Int.max_eq_left (by omega)]; exact Int.min_eq_right (by omega), Nat.le_refl _⟩
theorem feedU_app (zs : List ByteArray) (B : List UInt8) (m n : Nat) (h : m + n ≤ B.length) : feedU zs [] 0 B (m + n) = feedU zs [] 0 B m ++ feedU zs (B.take m) m ((B.drop m).take n) n := by
  unfold feedU
  rw [List.range_add, List.flatMap_append, List.flatMap_map]
  congr 1
  rw [List.flatMap_def, List.flatMap_def]
  congr 1
  apply List.map_congr_left
  intro j hj
  have hjn : j < n := List.mem_range.1 hj
  have e1 : [] ++ B.take (m + j + 1) = B.take m ++ ((B.drop m).take n).take (j + 1) := by
    rw [List.nil_append, List.take_take, Nat.min_eq_left (by omega), Nat.add_assoc, List.take_add]
  rw [e1, show 0 + (m + j + 1) = m + (j + 1) by omega]
theorem hitC_cell {H : List (Nat × Nat)} {u : Value} (h : u ∈ hitC H) : u.oneCell' = true := by
  unfold hitC at h
  obtain ⟨x, _, hx⟩ := List.mem_flatMap.1 h
  simp at hx
  rcases hx with rfl | rfl <;> rfl
theorem hitC_len (H : List (Nat × Nat)) : (hitC H).length = H.length * 2 := by
  induction H with
  | nil => rfl
  | cons x l ih =>
    unfold hitC at ih ⊢
    rw [List.flatMap_cons, List.length_append, ih]
    simp; omega
/-- append(got, hits...). -/
theorem wp_app {w : World} {ops : Array Oper} {rest : List Oper} {o : Oper} {a : Act} {Q : Exit → Act → World → Prop} (hgd : o.guard = none) (s x : Operand)
    (ho : o.op = .call { callee := .builtin .append, args := #[s, x], argTypes := #[52, 52] })
    (base n k : Nat) (v : Value) (xs : List (Nat × Nat)) (hs : a.eval s = v) (hown : w.ownsRow base 93 2 v n (hitC xs)) (hn : n = xs.length)
    (base2 m : Nat) (v2 : Value) (ys zs : List (Nat × Nat)) (hx : a.eval x = v2) (hown2 : w.ownsRow base2 93 2 v2 m (hitC ys)) (hm : m = ys.length)
    (hz : zs = xs ++ ys) (hk : k = zs.length) (hl : k ≤ 1000000) (hbase : base ≤ w.heap.size)
    (h : ∀ V cp w', w'.ownsRow base 93 2 (.slice V k cp) k (hitC zs) → w.grownBy w' v.ownBlock → ((Value.slice V k cp).ownBlock = v.ownBlock ∨ (Value.slice V k cp).ownBlock = some w.heap.size) → wpList Tryz.prog ops Q rest (a.put o.dst (.slice V k cp)) w') : wpList Tryz.prog ops Q (o :: rest) a w := by
  obtain ⟨i0, hi, hz0, hz1, hz2⟩ := info_parts info35
  subst hz
  have hk2 : k = n + m := by rw [hk, hn, hm, List.length_append]
  rcases hown2.2 with ⟨h1, h2⟩ | ⟨g, cap, cur, h1, h2, h3, h4, h5, h6, h7⟩
  · subst h1
    subst h2
    have hys : ys = [] := List.eq_nil_of_length_eq_zero hm.symm
    subst hys
    rw [List.append_nil] at h
    rw [Nat.add_zero] at hk2
    subst hk2
    refine wpList_append_own_none hgd s x 52 ho base 93 i0 2 Tryz.underlying52 hi v k _ hs hown hx ?_
    obtain ⟨V, cp, rfl, _⟩ := own_form hown
    exact h V cp w hown ⟨rfl, rfl, rfl, Nat.le_refl _, fun _ _ _ => rfl⟩ (.inl rfl)
  · subst h1
    refine wpList_append_own_at w hgd s x 52 ho base 93 i0 _ 2 16 Tryz.underlying52 hi hz0 hz1 hz2 rfl (by decide) v n _ hs hown ⟨g, 0, none⟩ m cap (hitC ys) hx hown2.1 (World.ownsRow.cells (g := g) hown2 rfl) (fun u hu => hitC_cell hu) (by unfold maxLen; omega) (by omega) hbase ?_
    intro v' w' k1 k2 _ k4
    rw [← hk2, ← hitC_app] at k1
    obtain ⟨V, cp, rfl, _⟩ := own_form k1
    exact h V cp w' k1 k2 k4
theorem Sc.grown {W0 w w' : World} {p q n : Nat} {X : List Pn} {s : List UInt8} {row : Option Nat} (h : Sc W0 p q X s n w) (hg : w.grownBy w' row) (hq : ∀ k, row = some k → W0.heap.size ≤ k ∧ k ≠ q) : Sc W0 p q X s n w' := by
  have hl := h.lt
  obtain ⟨x, h1, h2⟩ := h.node
  exact ⟨h.ge, ⟨x, (hg.block q hl (fun e => (hq q e.symm).2 rfl)).trans h1, h2⟩, h.bel.grown hg h.bel.size (fun k hk => (hq k hk).1)⟩
end Go.Proofs.YtdeeeechdlcdbaaGreat.ScA
