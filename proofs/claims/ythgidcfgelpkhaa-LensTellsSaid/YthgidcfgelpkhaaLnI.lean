/- Items of the reference in memory; appends of which the row's place is told. -/
import Derived.Test.YthgidcfgelpkhaaLwOls
import Derived.Test.YthgidcfgelpkhaaLpM
set_option linter.unusedVariables false
set_option linter.unusedSimpArgs false
namespace Go.Proofs.Ythgidcfgelpkhaa
open Go Go.Shelf Go.RowKit Go.Lib Go.Sort Go.Proofs Go.Proofs.Ythgidcfgelpkhaa.Base
theorem info59 : (Try.prog.info? 59).map (fun i => (i.zero, i.size, i.bytes)) = some (some (.agg #[.int .i64 0, .slice none 0 0]), 2, 32) := by kernel_rfl

/-- A row of items. -/
def RowI (B : Nat) (w : World) (v : Value) (l : List Coin) : Prop := w.ownsRow B 59 2 v l.length (l.flatMap encC) ∧ ∀ c ∈ l, Syms B w c
theorem RowI.below {B : Nat} {w w' : World} {v : Value} {l : List Coin} (h : RowI B w v l) (hb : RowKit.Below w.heap.size w w') : RowI B w' v l := ⟨own_below h.1 hb, fun c hc => (h.2 c hc).below hb⟩
theorem RowI.nil (B : Nat) (w : World) : RowI B w (.slice none 0 0) [] := ⟨World.ownsRow_nil _ _ _ _, fun c hc => by cases hc⟩
theorem RowI.mono {B B' : Nat} {w : World} {v : Value} {l : List Coin} (h : RowI B w v l) (hb : B' ≤ B) : RowI B' w v l := ⟨own_mono h.1 hb, fun c hc => own_mono (h.2 c hc) hb⟩
theorem Syms.keptI {B B' : Nat} {w w' : World} {c : Coin} {v : Value} {n : Nat} {xs : List Value} (h : Syms B w c) (hr : w.ownsRow B' 59 2 v n xs) (hg : w.grownBy w' v.ownBlock) : Syms B w' c := by
  obtain ⟨cs, hcs⟩ := h.tag
  exact World.ownsRow.kept h hg (.inr (Ne.symm (own_ne hr hcs (by decide))))
theorem RowI.push {B : Nat} {w w' : World} {v v' : Value} {l : List Coin} {c : Coin} (h : RowI B w v l) (hc : Syms B w c) (ho : w'.ownsRow B 59 2 v' (l.length + 1) (l.flatMap encC ++ encC c)) (hg : w.grownBy w' v.ownBlock) : RowI B w' v' (l ++ [c]) := by
  refine ⟨by simpa using ho, fun x hx => ?_⟩
  rcases List.mem_append.1 hx with hx | hx
  · exact (h.2 x hx).keptI h.1 hg
  · rw [List.mem_singleton.1 hx]; exact hc.keptI h.1 hg
theorem RowI.cell {B : Nat} {w : World} {A : Option Addr} {n cp : Nat} {l : List Coin} (h : RowI B w (.slice A n cp) l) (hl : 0 < l.length) :
    n = l.length ∧ ∃ g, A = some ⟨g, 0, none⟩ ∧ g < w.heap.size ∧ ∀ (j : Nat) (c : Coin), l[j]? = some c → w.cell? ⟨g, j * 2, none⟩ = some (.int .i64 (c.n : Int)) ∧ w.cell? ⟨g, j * 2 + 1, none⟩ = some c.sl := by
  obtain ⟨V, cp', hv, hf⟩ := own_form h.1
  injection hv with h1 h2 h3
  subst h1 h2 h3
  obtain ⟨g, hA, hlt, hc⟩ := hf hl
  refine ⟨rfl, g, hA, hlt, fun j c hj => ?_⟩
  have hjl : j < l.length := (List.getElem?_eq_some_iff.1 hj).1
  have hbang : l[j]! = c := by rw [List.getElem!_eq_getElem?_getD, hj]; rfl
  exact ⟨hc _ _ (by rw [flat_at l (j * 2) (by omega), show j * 2 / 2 = j by omega, show j * 2 % 2 = 0 by omega, hbang]; rfl), hc _ _ (by rw [flat_at l (j * 2 + 1) (by omega), show (j * 2 + 1) / 2 = j by omega, show (j * 2 + 1) % 2 = 1 by omega, hbang]; rfl)⟩
/-- The cells of a row, to be put behind another one. -/
theorem RowI.srcs {B : Nat} {w : World} {g n cp : Nat} {l : List Coin} (h : RowI B w (.slice (some ⟨g, 0, none⟩) n cp) l) : ∀ j u, (l.flatMap encC)[j]? = some u → w.cell? ⟨g, j, none⟩ = some u := by
  intro j u hj
  have := World.ownsRow.cells h.1 rfl j u hj
  rw [Addr.add_lit, Nat.zero_add] at this
  exact this
theorem flat_take (l : List Coin) (k : Nat) : (l.take k).flatMap encC = (l.flatMap encC).take (k * 2) := by
  refine List.ext_getElem? fun t => ?_
  rw [List.getElem?_take]
  by_cases h : t < (l.take k).length * 2
  · rw [flat_at _ t h]
    rw [List.length_take] at h
    rw [if_pos (by omega), flat_at l t (by omega)]
    congr 2
    rw [List.getElem!_eq_getElem?_getD, List.getElem!_eq_getElem?_getD, List.getElem?_take, if_pos (by omega)]
  · rw [List.getElem?_eq_none (by rw [flat_len]; omega)]
    rw [List.length_take] at h
    split
    · rw [List.getElem?_eq_none (by rw [flat_len]; omega)]
    · rfl
theorem flat_drop (l : List Coin) (k : Nat) : (l.drop k).flatMap encC = (l.flatMap encC).drop (k * 2) := by
  have h1 : (l.take k).flatMap encC ++ (l.drop k).flatMap encC = l.flatMap encC := by rw [← List.flatMap_append, List.take_append_drop]
  by_cases hk : k ≤ l.length
  · have h2 : ((l.take k).flatMap encC).length = k * 2 := by rw [flat_len, List.length_take_of_le hk]
    rw [← h1, List.drop_left' h2]
  · rw [List.drop_eq_nil_of_le (by omega), List.drop_eq_nil_of_le (by rw [flat_len]; omega)]
    rfl

/-- A block of one element stays, where a row of that type is grown that is owned. -/
theorem block_front {w w' : World} {B e size nn b : Nat} {cs : Array Value} {vv : Value} {xx : List Value} (hs : 0 < size) (hb : w.heap[b]? = some (.cells cs e (0, 0))) (hcs : cs.size = size) (hw : w.ownsRow B e size vv nn xx) (hg : w.grownBy w' vv.ownBlock) (h' : w'.ownsRow B e size vv nn xx) (hn : 1 ≤ nn ∨ vv = .slice none 0 0) : w'.heap[b]? = some (.cells cs e (0, 0)) := by
  have hlt : b < w.heap.size := heap_lt hb
  by_cases hv : vv.ownBlock = some b
  · rcases hw.2 with ⟨rfl, _⟩ | ⟨g2, cap2, cur2, rfl, _, hc2, h32, _, h52, h62⟩
    · cases hv
    · have hgg : g2 = b := Option.some.inj hv
      subst hgg
      rw [hb] at hc2
      injection hc2 with hc2
      injection hc2 with hc3 _
      subst hc3
      rcases hn with hn | hn
      · have hc1 : cap2 = 1 := by
          have e1 : cap2 * size = 1 * size := by omega
          exact Nat.eq_of_mul_eq_mul_right hs e1
        have hn1 : nn = 1 := by omega
        subst hc1 hn1
        rcases h'.2 with ⟨e1, _⟩ | ⟨g3, cap3, cur3, e1, _, hc3, _, _, h53, h63⟩
        · cases e1
        · injection e1 with e3 e4 e5
          injection e3 with e3
          injection e3 with e3
          subst e3 e5
          have : cur3 = cs := by
            apply Array.toList_inj.1
            have e6 : cur3.toList.take (1 * size) = cur3.toList := List.take_of_length_le (by rw [Array.length_toList]; omega)
            have e7 : cs.toList.take (1 * size) = cs.toList := List.take_of_length_le (by rw [Array.length_toList]; omega)
            rw [← e6, h63, ← h62, e7]
          rw [hc3, this]
      · cases hn
  · rw [hg.block b hlt (fun e => hv e.symm)]; exact hb
/-- A block of another type stays. -/
theorem block_other {w w' : World} {B e t size nn b : Nat} {cs : Array Value} {vv : Value} {xx : List Value} (hb : w.heap[b]? = some (.cells cs t (0, 0))) (hw : w.ownsRow B e size vv nn xx) (hg : w.grownBy w' vv.ownBlock) (hne : e ≠ t) : w'.heap[b]? = some (.cells cs t (0, 0)) := by
  rw [hg.block b (heap_lt hb) (fun h => own_ne hw hb hne h.symm)]; exact hb
def growR (B e size nn : Nat) (xs : List Value) (W W' : World) : Prop := ∃ vv, W.ownsRow B e size vv nn xs ∧ W.grownBy W' vv.ownBlock ∧ W'.ownsRow B e size vv nn xs ∧ (∀ g, vv.ownBlock = some g → B ≤ g) ∧ (1 ≤ nn ∨ vv = .slice none 0 0)

section
variable {P : Program} (w : World)
/-- run_append_own, and where the row lies behind it. -/
theorem run_append_place (base : Nat) (t ty e : TypeId) (i : TypeInfo) (z : Value) (size bytes : Nat) (ht : P.underlying t = some (.slice e)) (hi : P.info? e = some i) (hz : i.zero = some z)
    (hsize : i.size = size) (hby : i.bytes = bytes) (hzs : z.cells.size = size) (hsz : 0 < size)
    (v : Value) (n : Nat) (xs : List Value) (hown : w.ownsRow base e size v n xs)
    (a : Addr) (m c : Nat) (news : List Value) (hl : news.length = m * size) (hnews : ∀ j u, news[j]? = some u → w.cell? (a.add j) = some u) (h1 : ∀ u ∈ news, u.oneCell' = true)
    (h63 : n + m ≤ maxLen) (hbytes : (n + m) * bytes ≤ 140737488355328) (hbase : base ≤ w.heap.size) :
    ∃ v' w', (Builtin.append_ #[t, t] ty #[v, .slice (some a) m c]).run P w = .ok v' w' ∧ w'.ownsRow base e size v' (n + m) (xs ++ news) ∧ w.grownBy w' v.ownBlock ∧ (v'.ownBlock = v.ownBlock ∨ ∀ g, v'.ownBlock = some g → w.heap.size ≤ g) := by
  rcases hown.2 with ⟨rfl, h0⟩ | ⟨g, cap, cur, rfl, hbg, hgc, hnc, hcm, hcs, htake⟩
  · subst h0
    have hx0 : xs = [] := List.eq_nil_of_length_eq_zero (by rw [hown.1]; simp)
    subst hx0
    obtain ⟨v', w', hr, ho, hg, hn⟩ := run_append_own (P := P) w w.heap.size t ty e i z size bytes ht hi hz hsize hby hzs hsz (.slice none 0 0) 0 [] (World.ownsRow_nil _ _ _ _) a m c news hl hnews h1 h63 hbytes (Nat.le_refl _)
    exact ⟨v', w', hr, own_mono ho hbase, hg, .inr (own_ge ho)⟩
  · by_cases hroom : n + m ≤ cap
    · obtain ⟨w2, hr2, ho2, hg2⟩ := run_append_fits (P := P) w base t ty e i size ht hi hsize g n cap xs hown a m c news hl hnews h1 hroom
      exact ⟨_, w2, hr2, ho2, hg2, .inl rfl⟩
    · obtain ⟨v', w', hr, ho, hg, hn⟩ := run_append_own (P := P) w base t ty e i z size bytes ht hi hz hsize hby hzs hsz _ n xs hown a m c news hl hnews h1 h63 hbytes hbase
      refine ⟨v', w', hr, ho, hg, .inr ?_⟩
      subst hsize hby
      have holds : ∀ j u, xs[j]? = some u → w.cell? ((⟨g, 0, none⟩ : Addr).add j) = some u := hown.cells (g := g) rfl
      have hsmall : n + m ≤ 9223372036854775807 := by simp only [maxLen] at h63; omega
      have hr2 := run_append_grow (P := P) w t ty e i z ht hi hz ⟨g, 0, none⟩ n cap xs hown.1 holds a m c news hl hnews (by omega) (by omega) (growslice_fits (by omega) hbytes)
      rw [hr] at hr2
      injection hr2 with e1 e2
      subst e1
      intro g' hg'
      have : w.heap.size = g' := Option.some.inj hg'
      omega
theorem wpList_append_place {ops : Array Oper} {rest : List Oper} {o : Oper} {a : Act} {Q : Exit → Act → World → Prop} (hgd : o.guard = none) (s x : Operand) (t : TypeId)
    (ho : o.op = .call { callee := .builtin .append, args := #[s, x], argTypes := #[t, t] })
    (base : Nat) (e : TypeId) (i : TypeInfo) (z : Value) (size bytes : Nat) (ht : P.underlying t = some (.slice e)) (hi : P.info? e = some i) (hz : i.zero = some z)
    (hsize : i.size = size) (hby : i.bytes = bytes) (hzs : z.cells.size = size) (hsz : 0 < size)
    (v : Value) (n : Nat) (xs : List Value) (hs : a.eval s = v) (hown : w.ownsRow base e size v n xs)
    (ad : Addr) (m c : Nat) (news : List Value) (hx : a.eval x = .slice (some ad) m c) (hl : news.length = m * size) (hnews : ∀ j u, news[j]? = some u → w.cell? (ad.add j) = some u) (h1 : ∀ u ∈ news, u.oneCell' = true)
    (h63 : n + m ≤ maxLen) (hbytes : (n + m) * bytes ≤ 140737488355328) (hbase : base ≤ w.heap.size)
    (h : ∀ v' w', w'.ownsRow base e size v' (n + m) (xs ++ news) → w.grownBy w' v.ownBlock → (v'.ownBlock = v.ownBlock ∨ ∀ g, v'.ownBlock = some g → w.heap.size ≤ g) → wpList P ops Q rest (a.put o.dst v') w') : wpList P ops Q (o :: rest) a w := by
  refine wpList_plain hgd fun K hK => ?_
  obtain ⟨v', w', hr, h2, h3, h4⟩ := run_append_place (P := P) w base t o.type e i z size bytes ht hi hz hsize hby hzs hsz v n xs hown ad m c news hl hnews h1 h63 hbytes hbase
  unfold Oper.wp execOp
  simp only [ho, resolve, invoke, builtin, Sem.run_bind, Sem.run_pure, Result.andThen_ok, List.map_toArray, List.map_cons, List.map_nil, hs, hx, hr]
  exact hK _ _ (h v' w' h2 h3 h4)
end
end Go.Proofs.Ythgidcfgelpkhaa
