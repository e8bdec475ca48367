/- Hits put behind hits, in a region that draws: whatever is no longer than what grows stays. -/
import Derived.Test.YtdeeeechdlcdbaaHiW
import Derived.Test.YtdeeeechdlcdbaaScA
import Derived.Test.YtdeeeechdlcdbaaKeep
set_option linter.unusedVariables false
set_option linter.unusedSimpArgs false
namespace Go.Proofs.Ytdeeeechdlcdbaa.HoA
open Go Go.RowKit Go.Proofs Go.Proofs.Ytdeeeechdlcdbaa Go.Proofs.Ytdeeeechdlcdbaa.Base Go.Proofs.Ytdeeeechdlcdbaa.DiA Go.Proofs.Ytdeeeechdlcdbaa.ScF Go.Proofs.Ytdeeeechdlcdbaa.ScH Go.Proofs.Ytdeeeechdlcdbaa.ScE Go.Proofs.Ytdeeeechdlcdbaa.ScA Go.Proofs.Ytdeeeechdlcdbaa.HiQ Go.Proofs.Ytdeeeechdlcdbaa.HiW
theorem own_front2 {w w' : World} {B e size n nn : Nat} {v vv : Value} {xs xx : List Value} (h : w.ownsRow B e size v n xs) (hw : w.ownsRow B e size vv nn xx) (hg : w.grownBy w' vv.ownBlock) (hs : 0 < size) (h' : w'.ownsRow B e size vv nn xx) (hn : n ≤ nn) : w'.ownsRow B e size v n xs := by
  by_cases hv : v.ownBlock = vv.ownBlock ∧ v.ownBlock ≠ none
  · refine Keep.own_front h hw hg hs h' hn ?_
    rcases h.2 with ⟨rfl, h0⟩ | ⟨g, cap, cur, rfl, hb, hc, h3, h4, h5, h6⟩
    · exact absurd rfl hv.2
    · rcases hw.2 with ⟨rfl, _⟩ | ⟨g2, cap2, cur2, rfl, _, hc2, _, _, h52, h62⟩
      · exact absurd hv.1 (by simp [Value.ownBlock])
      · have hgg : g = g2 := Option.some.inj hv.1
        subst hgg
        rw [hc] at hc2
        injection hc2 with hc2
        injection hc2 with hc3 _
        subst hc3
        rw [← h6, ← h62, List.take_take, Nat.min_eq_left (Nat.mul_le_mul_right _ hn)]
  · rcases h.2 with ⟨rfl, h0⟩ | ⟨g, cap, cur, rfl, hb, hc, h3, h4, h5, h6⟩
    · exact ⟨h.1, .inl ⟨rfl, h0⟩⟩
    · refine h.kept hg (.inr fun e => hv ⟨?_, by simp [Value.ownBlock]⟩)
      first | exact e | exact e.symm
/-- An append of hits, whatever is put behind whatever: rows of its own that are no longer stay. -/
theorem wpo_keep {w : World} {o : Oper} {a : Act} {K : Act → World → Prop} {Q : Exit → Act → World → Prop} (s x : Operand)
    (ho : o.op = .call { callee := .builtin .append, args := #[s, x], argTypes := #[23, 23] })
    (base n : Nat) (v : Value) (xs : List (Nat × Nat)) (hs : a.eval s = v) (hown : w.ownsRow base 35 2 v n (hitC xs)) (hn : n = xs.length)
    (A : Option Addr) (m c : Nat) (ys : List (Nat × Nat)) (hx : a.eval x = .slice A m c) (hat : HAt w A ys) (hm : m = ys.length) (hl : n + m ≤ 1000000) (hbase : base ≤ w.heap.size)
    (h : ∀ v' w', w'.ownsRow base 35 2 v' (n + m) (hitC (xs ++ ys)) → w.grownBy w' v.ownBlock → (∀ (u : Value) (k : Nat) (zs : List Value), k ≤ n → w.ownsRow base 35 2 u k zs → w'.ownsRow base 35 2 u k zs) → K (a.put o.dst v') w') : o.wp Try.prog a w K Q := by
  obtain ⟨i0, hi, hz0, hz1, hz2⟩ := info_parts info35
  rcases A with _ | ad
  · have hm0 : m = 0 := by
      rcases Nat.eq_zero_or_pos ys.length with h0 | h0
      · omega
      · obtain ⟨_, _, h1, _⟩ := hat h0; cases h1
    have hy0 : ys = [] := List.eq_nil_of_length_eq_zero (by omega)
    subst hm0
    subst hy0
    rw [List.append_nil] at h
    exact Keep.wp_append_nothing w s x 23 ho base 35 i0 2 Try.underlying23 hi v n _ hs hown c hx (h v w hown ⟨rfl, rfl, rfl, Nat.le_refl _, fun _ _ _ => rfl⟩ (fun _ _ _ _ hu => hu))
  · refine Keep.wp_append_keep w s x 23 ho base 35 i0 _ 2 16 Try.underlying23 hi hz0 hz1 hz2 rfl (by decide) v n _ hs hown ad m c (hitC ys) hx (by rw [hitC_len, hm]) ?_ (fun u hu => hitC_cell hu) (by unfold maxLen; omega) (by omega) hbase ?_
    · intro j u hj
      have hjl : j < ys.length * 2 := by rw [← hitC_len]; exact (List.getElem?_eq_some_iff.1 hj).1
      obtain ⟨b, off, h1, h2, h3⟩ := hat (by omega)
      obtain rfl := Option.some.inj h1
      have h4 := h3 (j / 2) (by omega)
      have hk : ys[j / 2]? = some (ys.getD (j / 2) (0, 0)) := by rw [List.getD_eq_getElem?_getD, List.getElem?_eq_getElem (by omega)]; rfl
      rcases Nat.mod_two_eq_zero_or_one j with hr | hr
      · have hu := flat2 ys (j / 2) 0 _ _ hk (show ([.int .i64 ((ys.getD (j / 2) (0, 0)).1 : Int), .int .i64 ((ys.getD (j / 2) (0, 0)).2 : Int)] : List Value)[0]? = some (.int .i64 ((ys.getD (j / 2) (0, 0)).1 : Int)) from rfl)
        rw [show j / 2 * 2 + 0 = j by omega] at hu
        rw [hu] at hj
        obtain rfl := Option.some.inj hj
        rw [Addr.add_lit, show off + j = off + j / 2 * 2 by omega]
        exact h4.1
      · have hu := flat2 ys (j / 2) 1 _ _ hk (show ([.int .i64 ((ys.getD (j / 2) (0, 0)).1 : Int), .int .i64 ((ys.getD (j / 2) (0, 0)).2 : Int)] : List Value)[1]? = some (.int .i64 ((ys.getD (j / 2) (0, 0)).2 : Int)) from rfl)
        rw [show j / 2 * 2 + 1 = j by omega] at hu
        rw [hu] at hj
        obtain rfl := Option.some.inj hj
        rw [Addr.add_lit, show off + j = off + j / 2 * 2 + 1 by omega]
        exact h4.2
    · intro v' w' k1 k2 k3
      rw [← hitC_app] at k1
      exact h v' w' k1 k2 (fun u k zs hk hu => own_front2 hu hown k2 (by decide) k3 hk)
/-- A piece of hits. -/
theorem hat_piece {w : World} {b off r m : Nat} {H : List (Nat × Nat)} (h : HAt w (some ⟨b, off, none⟩) H) (hr : r + m ≤ H.length) : HAt w (some ⟨b, off + r * 2, none⟩) ((H.drop r).take m) := by
  intro hn
  have hl : ((H.drop r).take m).length = m := by rw [List.length_take, List.length_drop]; omega
  rw [hl] at hn ⊢
  obtain ⟨b', off', h1, h2, h3⟩ := h (by omega)
  injection h1 with h1
  injection h1 with e1 e2
  subst e1 e2
  refine ⟨_, _, rfl, h2, fun j hj => ?_⟩
  have h4 := h3 (r + j) (by omega)
  have e : ((H.drop r).take m).getD j (0, 0) = H.getD (r + j) (0, 0) := by
    rw [List.getD_eq_getElem?_getD, List.getElem?_take, if_pos hj, List.getElem?_drop, List.getD_eq_getElem?_getD]
  rw [e, show off + r * 2 + j * 2 = off + (r + j) * 2 by omega]
  exact h4
/-- Hits of a row, as hits among the arguments. -/
theorem hin_of {w : World} {A : Option Addr} {H : List (Nat × Nat)} (h : HAt w A H) : HIn w A (HiQ.asInt H) := by
  intro hn
  have hl : (HiQ.asInt H).length = H.length := by unfold HiQ.asInt; exact List.length_map _
  obtain ⟨b, off, h1, h2, h3⟩ := h (by omega)
  refine ⟨b, off, h1, h2, fun j hj => ?_⟩
  have h4 := h3 j (by omega)
  have e : (HiQ.asInt H).getD j (0, 0) = (((H.getD j (0, 0)).1 : Int), ((H.getD j (0, 0)).2 : Int)) := by
    unfold HiQ.asInt
    rw [List.getD_eq_getElem?_getD, List.getElem?_map, List.getElem?_eq_getElem (by omega), List.getD_eq_getElem?_getD, List.getElem?_eq_getElem (by omega)]; rfl
  rw [e]
  exact h4
/-- A row of its own has room for what it holds. -/
theorem own_cap {w : World} {B e size n : Nat} {v : Value} {xs : List Value} (h : w.ownsRow B e size v n xs) : ∃ V cp, v = .slice V n cp ∧ n ≤ cp := by
  rcases h.2 with ⟨rfl, rfl⟩ | ⟨g, cap, cur, rfl, _, _, h4, _⟩
  · exact ⟨none, 0, rfl, Nat.le_refl _⟩
  · exact ⟨_, cap, rfl, h4⟩
theorem elem23 : Try.prog.underlying 23 = some (.slice (Try.prog.elem 23)) := by kernel_rfl
theorem size23 (w : World) : (sizeOf (Try.prog.elem 23)).run Try.prog w = .ok 2 w := by kernel_rfl
theorem hat_sliced {w : World} {V : Option Addr} {l h m n : Nat} {H : List (Nat × Nat)} (hat : HAt w V H) (hn : n = H.length) (hl : l ≤ h) (hh : h ≤ n) (hm : n ≤ m) : HAt w (if m = l then V else V.map (·.add (l * 2))) ((H.drop l).take (h - l)) := by
  by_cases hlh : l = h
  · have : (H.drop l).take (h - l) = [] := by rw [hlh, Nat.sub_self]; rfl
    rw [this]; intro h0; exact absurd h0 (Nat.lt_irrefl 0)
  · rw [if_neg (by omega)]
    obtain ⟨b, off, rfl, _, _⟩ := hat (by omega)
    show HAt w (some (Addr.add ⟨b, off, none⟩ (l * 2))) _
    rw [Addr.add_lit]
    exact hat_piece (r := l) (m := h - l) hat (by omega)
/-- From a place on. -/
theorem wpo_from {w w0 : World} {o : Oper} {a : Act} {K : Act → World → Prop} {Q : Exit → Act → World → Prop} (x lo : Operand) (ho : o.op = .slice 23 x (some lo) none none)
    {V : Option Addr} {n cp r : Nat} {H : List (Nat × Nat)} (hx : a.eval x = .slice V n cp) (hlo : a.eval lo = .int .i64 (r : Int)) (hat : HAt w0 V H) (hn : n = H.length) (hr : r ≤ n) (hc : n ≤ cp)
    (h : ∀ A c, HAt w0 A (H.drop r) → K (a.put o.dst (.slice A (n - r) c)) w) : o.wp Try.prog a w K Q := by
  have h1 := hat_sliced (m := cp) hat hn hr (Nat.le_refl n) hc
  have h2 : (H.drop r).take (n - r) = H.drop r := List.take_of_length_le (by rw [List.length_drop]; omega)
  rw [h2] at h1
  have hrun : (Instr.sliceAt 23 (.slice V n cp) (some (.int .i64 (r : Int))) none none).run Try.prog w = .ok (.slice (if cp = r then V else V.map (·.add (r * 2))) (n - r) (cp - r)) w := by
    rw [run_sliceAt_slice _ _ _ _ _ _ elem23, run_slice_l _ _ _ _ _ elem23 _ _ (by omega) (by omega), size23]
    rfl
  unfold Oper.wp execOp
  simp only [ho, Option.map_some, Option.map_none, Sem.run_bind, Sem.run_pure, Result.andThen_ok, hx, hlo, hrun]
  exact h _ _ h1
/-- Up to a place. -/
theorem wpo_upto {w w0 : World} {o : Oper} {a : Act} {K : Act → World → Prop} {Q : Exit → Act → World → Prop} (x hi : Operand) (ho : o.op = .slice 23 x none (some hi) none)
    {V : Option Addr} {n cp r : Nat} {H : List (Nat × Nat)} (hx : a.eval x = .slice V n cp) (hhi : a.eval hi = .int .i64 (r : Int)) (hat : HAt w0 V H) (hn : n = H.length) (hr : r ≤ n) (hc : n ≤ cp)
    (h : ∀ A c, HAt w0 A (H.take r) → K (a.put o.dst (.slice A r c)) w) : o.wp Try.prog a w K Q := by
  have h1 := hat_sliced (m := cp) (l := 0) hat hn (Nat.zero_le r) hr hc
  rw [List.drop_zero, Nat.sub_zero] at h1
  have hrun : (Instr.sliceAt 23 (.slice V n cp) none (some (.int .i64 (r : Int))) none).run Try.prog w = .ok (.slice (if cp = 0 then V else V.map (·.add (0 * 2))) r cp) w := by
    rw [run_sliceAt_slice _ _ _ _ _ _ elem23, run_slice_h _ _ _ _ _ elem23 _ _ (by omega) (by omega), size23]
    rfl
  unfold Oper.wp execOp
  simp only [ho, Option.map_some, Option.map_none, Sem.run_bind, Sem.run_pure, Result.andThen_ok, hx, hhi, hrun]
  exact h _ _ h1
/-- The place where hits are turned. -/
theorem turn_ex (k : Int) (n : Nat) : ∃ r : Nat, ((k.tmod ((n : Int) + 1)) + (n : Int) + 1).tmod ((n : Int) + 1) = (r : Int) ∧ r ≤ n ∧ -(n : Int) ≤ k.tmod ((n : Int) + 1) ∧ k.tmod ((n : Int) + 1) ≤ (n : Int) := by
  have h1 := Int.tmod_lt_of_pos k (show (0 : Int) < (n : Int) + 1 by omega)
  have h2 : -((n : Int) + 1) < k.tmod ((n : Int) + 1) := by
    have := Int.tmod_lt_of_pos (-k) (show (0 : Int) < (n : Int) + 1 by omega)
    rw [Int.neg_tmod] at this; omega
  have h3 : 0 ≤ k.tmod ((n : Int) + 1) + (n : Int) + 1 := by omega
  have h4 := Int.tmod_lt_of_pos (k.tmod ((n : Int) + 1) + (n : Int) + 1) (show (0 : Int) < (n : Int) + 1 by omega)
  have h5 := Int.tmod_nonneg ((n : Int) + 1) h3
  exact ⟨(((k.tmod ((n : Int) + 1)) + (n : Int) + 1).tmod ((n : Int) + 1)).toNat, by omega, by omega, by omega, by omega⟩
/-- Turned and put behind, twice: the same hits. -/
theorem mem_turned {H : List (Nat × Nat)} (r : Nat) (x : Nat × Nat) : x ∈ H.drop r ++ H.take r ++ H ↔ x ∈ H := by
  rw [List.mem_append]
  constructor
  · rintro (h | h)
    · rcases List.mem_append.1 h with h | h
      · exact List.mem_of_mem_drop h
      · exact List.mem_of_mem_take h
    · exact h
  · exact fun h => .inr h
theorem mem_asInt_iff {H G : List (Nat × Nat)} (h : ∀ x, x ∈ G ↔ x ∈ H) (x : Int × Int) : x ∈ HiQ.asInt G ↔ x ∈ HiQ.asInt H := by
  unfold HiQ.asInt
  simp only [List.mem_map, h]
end Go.Proofs.Ytdeeeechdlcdbaa.HoA
