/- An append that keeps what the elder slice shows. -/
import Derived.WalkKit
import Derived.Laws.AppendOwn
import Derived.Laws.OwnMore
import Derived.Laws.AppendOwnNone
namespace Go.Proofs.YtdeeeechdlcdbaaGreat.Keep
open Go Go.RowKit

/-- A row stays, where a longer row, of which it is a beginning, is owned before and behind. -/
theorem own_front {w w' : World} {B e size n nn : Nat} {v vv : Value} {xs xx : List Value} (h : w.ownsRow B e size v n xs) (hw : w.ownsRow B e size vv nn xx) (hg : w.grownBy w' vv.ownBlock) (hs : 0 < size) (h' : w'.ownsRow B e size vv nn xx) (hn : n ≤ nn) (hx : xs = xx.take (n * size)) : w'.ownsRow B e size v n xs := by
  rcases h.2 with ⟨rfl, h0⟩ | ⟨g, cap, cur, rfl, hb, hc, h3, h4, h5, h6⟩
  · exact ⟨h.1, .inl ⟨rfl, h0⟩⟩
  · by_cases hv : vv.ownBlock = some g
    · rcases hw.2 with ⟨rfl, _⟩ | ⟨g2, cap2, cur2, rfl, _, hc2, _, _, h52, _⟩
      · cases hv
      · have hgg : g2 = g := Option.some.inj hv
        subst hgg
        rw [hc] at hc2
        injection hc2 with hc2
        injection hc2 with hc3 _
        subst hc3
        have : cap = cap2 := by
          rw [h5] at h52
          exact Nat.eq_of_mul_eq_mul_right hs h52
        subst this
        rcases h'.2 with ⟨e1, _⟩ | ⟨g3, cap3, cur3, e1, _, hc3, _, _, h53, h63⟩
        · cases e1
        · injection e1 with e3 e4 e5
          injection e3 with e3
          injection e3 with e3
          subst e3 e5
          refine ⟨h.1, .inr ⟨g2, cap, cur3, rfl, hb, hc3, h3, h4, h53, ?_⟩⟩
          rw [hx, ← h63, List.take_take, Nat.min_eq_left (Nat.mul_le_mul_right _ hn)]
    · exact h.kept hg (.inr (fun e => hv e.symm))
/-- A block of one cell stays likewise. -/
theorem cell_front {w w' : World} {B e nn b : Nat} {vv u : Value} {xx : List Value} (hb : w.heap[b]? = some (.cells #[u] e (0, 0))) (hw : w.ownsRow B e 1 vv nn xx) (hg : w.grownBy w' vv.ownBlock) (h' : w'.ownsRow B e 1 vv nn xx) (hn : 1 ≤ nn ∨ vv = .slice none 0 0) : w'.heap[b]? = some (.cells #[u] e (0, 0)) := by
  have hlt : b < w.heap.size := (Array.getElem?_eq_some_iff.1 hb).1
  by_cases hv : vv.ownBlock = some b
  · rcases hw.2 with ⟨rfl, _⟩ | ⟨g2, cap2, cur2, rfl, _, hc2, h32, _, h52, h62⟩
    · cases hv
    · have hgg : g2 = b := Option.some.inj hv
      subst hgg
      rw [hb] at hc2
      injection hc2 with hc2
      injection hc2 with hc3 _
      subst hc3
      rcases hn with hn | hn
      · have hc1 : cap2 = 1 := by simpa using h52.symm
        have hn1 : nn = 1 := by omega
        subst hc1 hn1
        rcases h'.2 with ⟨e1, _⟩ | ⟨g3, cap3, cur3, e1, _, hc3, _, _, h53, h63⟩
        · cases e1
        · injection e1 with e3 e4 e5
          injection e3 with e3
          injection e3 with e3
          subst e3 e5
          have : cur3 = #[u] := by
            apply Array.toList_inj.1
            have e6 : cur3.toList.take 1 = cur3.toList := List.take_of_length_le (by rw [Array.length_toList]; omega)
            simp only [Nat.mul_one] at h63 h62
            rw [← e6, h63, ← h62]
            rfl
          rw [hc3, this]
      · cases hn
  · rw [hg.block b hlt (fun e => hv e.symm)]; exact hb

section
variable {P : Program} (w : World)
/-- run_append_own, and the elder slice shows what it showed. -/
theorem run_append_keep (base : Nat) (t ty e : TypeId) (i : TypeInfo) (z : Value) (size bytes : Nat) (ht : P.underlying t = some (.slice e)) (hi : P.info? e = some i) (hz : i.zero = some z)
    (hsize : i.size = size) (hby : i.bytes = bytes) (hzs : z.cells.size = size) (hsz : 0 < size)
    (v : Value) (n : Nat) (xs : List Value) (hown : w.ownsRow base e size v n xs)
    (a : Addr) (m c : Nat) (news : List Value) (hl : news.length = m * size) (hnews : ∀ j u, news[j]? = some u → w.cell? (a.add j) = some u) (h1 : ∀ u ∈ news, u.oneCell' = true)
    (h63 : n + m ≤ maxLen) (hbytes : (n + m) * bytes ≤ 140737488355328) (hbase : base ≤ w.heap.size) :
    ∃ v' w', (Builtin.append_ #[t, t] ty #[v, .slice (some a) m c]).run P w = .ok v' w' ∧ w'.ownsRow base e size v' (n + m) (xs ++ news) ∧ w.grownBy w' v.ownBlock ∧ w'.ownsRow base e size v n xs := by
  obtain ⟨v', w', hr, ho, hg, hn⟩ := run_append_own (P := P) w base t ty e i z size bytes ht hi hz hsize hby hzs hsz v n xs hown a m c news hl hnews h1 h63 hbytes hbase
  refine ⟨v', w', hr, ho, hg, ?_⟩
  rcases hown.2 with ⟨rfl, h0⟩ | ⟨g, cap, cur, rfl, hbg, hgc, hnc, hcm, hcs, htake⟩
  · exact ⟨hown.1, .inl ⟨rfl, h0⟩⟩
  · by_cases hroom : n + m ≤ cap
    · obtain ⟨w2, hr2, ho2, _⟩ := run_append_fits (P := P) w base t ty e i size ht hi hsize g n cap xs hown a m c news hl hnews h1 hroom
      rw [hr] at hr2
      injection hr2 with e1 e2
      subst e2
      rcases ho2.2 with ⟨e, _⟩ | ⟨g2, cap2, cur2, e, hb2, hc2, hn2, hm2, hs2, ht2⟩
      · cases e
      · injection e with e3 e4 e5
        injection e3 with e3
        injection e3 with e3
        subst e3 e5
        refine ⟨hown.1, .inr ⟨g, cap, cur2, rfl, hbg, hc2, hnc, hcm, hs2, ?_⟩⟩
        have h2 : (cur2.toList.take ((n + m) * size)).take (n * size) = (xs ++ news).take (n * size) := by rw [ht2]
        rw [List.take_take, Nat.min_eq_left (Nat.mul_le_mul_right _ (Nat.le_add_right _ _))] at h2
        rw [h2, ← hown.1, List.take_left']
        rfl
    · subst hsize hby
      have holds : ∀ j u, xs[j]? = some u → w.cell? ((⟨g, 0, none⟩ : Addr).add j) = some u := hown.cells (g := g) rfl
      have hsmall : n + m ≤ 9223372036854775807 := by simp only [maxLen] at h63; omega
      have hr2 := run_append_grow (P := P) w t ty e i z ht hi hz ⟨g, 0, none⟩ n cap xs hown.1 holds a m c news hl hnews (by omega) (by omega) (growslice_fits (by omega) hbytes)
      rw [hr] at hr2
      injection hr2 with e1 e2
      subst e2
      exact World.ownsRow.alloc (World.ownsRow.drew hown) _
theorem wp_append_keep {o : Oper} {a : Act} {K : Act → World → Prop} {Q : Exit → Act → World → Prop} (s x : Operand) (t : TypeId)
    (ho : o.op = .call { callee := .builtin .append, args := #[s, x], argTypes := #[t, t] })
    (base : Nat) (e : TypeId) (i : TypeInfo) (z : Value) (size bytes : Nat) (ht : P.underlying t = some (.slice e)) (hi : P.info? e = some i) (hz : i.zero = some z)
    (hsize : i.size = size) (hby : i.bytes = bytes) (hzs : z.cells.size = size) (hsz : 0 < size)
    (v : Value) (n : Nat) (xs : List Value) (hs : a.eval s = v) (hown : w.ownsRow base e size v n xs)
    (ad : Addr) (m c : Nat) (news : List Value) (hx : a.eval x = .slice (some ad) m c) (hl : news.length = m * size) (hnews : ∀ j u, news[j]? = some u → w.cell? (ad.add j) = some u) (h1 : ∀ u ∈ news, u.oneCell' = true)
    (h63 : n + m ≤ maxLen) (hbytes : (n + m) * bytes ≤ 140737488355328) (hbase : base ≤ w.heap.size)
    (h : ∀ v' w', w'.ownsRow base e size v' (n + m) (xs ++ news) → w.grownBy w' v.ownBlock → w'.ownsRow base e size v n xs → K (a.put o.dst v') w') : o.wp P a w K Q := by
  obtain ⟨v', w', hr, h2, h3, h4⟩ := run_append_keep (P := P) w base t o.type e i z size bytes ht hi hz hsize hby hzs hsz v n xs hown ad m c news hl hnews h1 h63 hbytes hbase
  unfold Oper.wp execOp
  simp only [ho, resolve, invoke, builtin, Sem.run_bind, Sem.run_pure, Result.andThen_ok, List.map_toArray, List.map_cons, List.map_nil, hs, hx, hr]
  exact h v' w' h2 h3 h4
/-- Nothing put behind a row. -/
theorem run_append_nothing (base : Nat) (t ty e : TypeId) (i : TypeInfo) (size : Nat) (ht : P.underlying t = some (.slice e)) (hi : P.info? e = some i)
    (v : Value) (n : Nat) (xs : List Value) (hown : w.ownsRow base e size v n xs) (c : Nat) :
    (Builtin.append_ #[t, t] ty #[v, .slice none 0 c]).run P w = .ok v w := by
  rcases hown.2 with ⟨rfl, rfl⟩ | ⟨g, cap, cur, rfl, _, _, hnc, _⟩
  · simp [Builtin.append_, run_underlying ht, sizeOf, typeInfo, hi, Builtin.lenOf, Builtin.firstCells]
  · simp [Builtin.append_, run_underlying ht, sizeOf, typeInfo, hi, Builtin.lenOf, Builtin.firstCells, hnc, storeCells]
theorem wp_append_nothing {o : Oper} {a : Act} {K : Act → World → Prop} {Q : Exit → Act → World → Prop} (s x : Operand) (t : TypeId)
    (ho : o.op = .call { callee := .builtin .append, args := #[s, x], argTypes := #[t, t] })
    (base : Nat) (e : TypeId) (i : TypeInfo) (size : Nat) (ht : P.underlying t = some (.slice e)) (hi : P.info? e = some i)
    (v : Value) (n : Nat) (xs : List Value) (hs : a.eval s = v) (hown : w.ownsRow base e size v n xs) (c : Nat) (hx : a.eval x = .slice none 0 c)
    (h : K (a.put o.dst v) w) : o.wp P a w K Q := by
  have hr := run_append_nothing (P := P) w base t o.type e i size ht hi v n xs hown c
  unfold Oper.wp execOp
  simp only [ho, resolve, invoke, builtin, Sem.run_bind, Sem.run_pure, Result.andThen_ok, List.map_toArray, List.map_cons, List.map_nil, hs, hx, hr]
  exact h
end
end Go.Proofs.YtdeeeechdlcdbaaGreat.Keep
