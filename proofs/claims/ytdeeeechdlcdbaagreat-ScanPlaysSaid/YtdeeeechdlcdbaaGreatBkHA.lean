/- Lists that are kept (lexiphanebook): facts without a walk. -/
import Derived.Test.YtdeeeechdlcdbaaGreatBase
import Derived.Test.YtdeeeechdlcdbaaGreatScE
import Derived.Test.YtdeeeechdlcdbaaGreatKeep
import Derived.Test.YtdeeeechdlcdbaaGreatRg
import Derived.Test.YtdeeeechdlcdbaaGreatStep
import Derived.Lib.Hide
import Derived.Laws.BitsLemmas
import Derived.Test.YtdeeeechdlcdbaaGreatProg
import Derived.Sort.WalkB2
import Derived.Sort.WalkB12
import Derived.Deep.LoopGhost
import Derived.BigQuiet
import Derived.Deep.DeepCutAuto
import Derived.Deep.CutBlock
set_option linter.unusedVariables false
set_option linter.unusedSimpArgs false
namespace Go.Proofs.YtdeeeechdlcdbaaGreat.BkHits
open Go Go.RowKit Go.Lib Go.Sort Go.Proofs Go.Proofs.YtdeeeechdlcdbaaGreat.Base
theorem infoE : (Tryz.prog.info? 93).map (fun i => (i.zero, i.size, i.bytes)) = some (some (.agg #[.int .i64 0, .int .i64 0]), 2, 16) := by kernel_rfl
theorem infoL : (Tryz.prog.info? 52).map (fun i => (i.zero, i.size, i.bytes)) = some (some (.slice none 0 0), 1, 24) := by kernel_rfl
abbrev E := Int × Int
abbrev L := Value × List E
def hc (l : List E) : List Value := l.flatMap fun e => [.int .i64 e.1, .int .i64 e.2]
theorem hc_len (l : List E) : (hc l).length = l.length * 2 := by
  induction l with
  | nil => rfl
  | cons e l ih =>
    unfold hc at ih ⊢
    rw [List.flatMap_cons, List.length_append, ih]
    simp; omega
theorem hc_app (a b : List E) : hc (a ++ b) = hc a ++ hc b := List.flatMap_append
theorem hc_at : ∀ (l : List E) (k i : Nat) (nd : E) (u : Value), l[k]? = some nd → ([.int .i64 nd.1, .int .i64 nd.2] : List Value)[i]? = some u → (hc l)[k * 2 + i]? = some u
  | [], k, i, nd, u, h, _ => by simp at h
  | f :: l, 0, i, nd, u, h, hu => by
    simp at h; subst h
    have h4 : i < 2 := (List.getElem?_eq_some_iff.1 hu).1
    unfold hc
    rw [List.flatMap_cons, Nat.zero_mul, Nat.zero_add, List.getElem?_append_left (by simpa using h4)]
    exact hu
  | f :: l, k + 1, i, nd, u, h, hu => by
    unfold hc
    rw [List.flatMap_cons, List.getElem?_append_right (by simp; omega)]
    have := hc_at l k i nd u (by simpa using h) hu
    unfold hc at this
    rw [← this]
    congr 1
    simp
    omega
theorem hc_get {l : List E} {k : Nat} (h : k < l.length) : (hc l)[k * 2]? = some (.int .i64 (l.getD k (0, 0)).1) ∧ (hc l)[k * 2 + 1]? = some (.int .i64 (l.getD k (0, 0)).2) := by
  have h2 : l[k]? = some (l.getD k (0, 0)) := by rw [List.getD_eq_getElem?_getD, List.getElem?_eq_getElem h]; rfl
  exact ⟨hc_at l k 0 _ _ h2 rfl, hc_at l k 1 _ _ h2 rfl⟩
theorem hc_take : ∀ (l : List E) (n : Nat), hc (l.take n) = (hc l).take (n * 2)
  | l, 0 => by simp [hc]
  | [], n + 1 => by simp [hc]
  | e :: l, n + 1 => by
    have := hc_take l n
    unfold hc at this ⊢
    rw [List.take_succ_cons, List.flatMap_cons, List.flatMap_cons, this, show (n + 1) * 2 = n * 2 + 1 + 1 by omega]
    rfl
theorem hc_set : ∀ (l : List E) (k : Nat) (e : E), hc (l.set k e) = ((hc l).set (k * 2) (.int .i64 e.1)).set (k * 2 + 1) (.int .i64 e.2)
  | [], k, e => by simp [hc]
  | f :: l, 0, e => rfl
  | f :: l, k + 1, e => by
    have := hc_set l k e
    unfold hc at this ⊢
    rw [List.set_cons_succ, List.flatMap_cons, List.flatMap_cons, this, show (k + 1) * 2 = k * 2 + 1 + 1 by omega]
    rfl
/-- Hits, to be read. -/
def At (w : World) (A : Option Addr) (zs : List E) : Prop := 0 < zs.length → ∃ b off, A = some ⟨b, off, none⟩ ∧ b < w.heap.size ∧ ∀ j, j < zs.length → w.cell? ⟨b, off + j * 2, none⟩ = some (.int .i64 (zs.getD j (0, 0)).1) ∧ w.cell? ⟨b, off + j * 2 + 1, none⟩ = some (.int .i64 (zs.getD j (0, 0)).2)
def Row (B : Nat) (w : World) (x : L) : Prop := w.ownsRow B 93 2 x.1 x.2.length (hc x.2)
def Apt (x y : Value) : Prop := ∀ g, x.ownBlock = some g → y.ownBlock ≠ some g
structure Rows (B : Nat) (w : World) (ls : List L) : Prop where
  own : ∀ x ∈ ls, Row B w x
  apart : ls.Pairwise fun x y => Apt x.1 y.1
def mark (i k : Nat) : E := (-1000 * (i : Int) - (k : Int) - 1, 0)
def marks (i fr n : Nat) : List E := (List.range n).map fun j => mark i (fr + j)
theorem marks_length (i fr n : Nat) : (marks i fr n).length = n := by simp [marks]
theorem marks_succ (i fr n : Nat) : marks i fr (n + 1) = marks i fr n ++ [mark i (fr + n)] := by simp [marks, List.range_succ]
theorem marks_append (i fr n : Nat) : ∀ m, marks i fr n ++ marks i (fr + n) m = marks i fr (n + m)
  | 0 => by simp [marks]
  | m + 1 => by rw [marks_succ, ← List.append_assoc, marks_append i fr n m, ← Nat.add_assoc, marks_succ, Nat.add_assoc]
theorem marks_getD (i fr n : Nat) {j : Nat} (h : j < n) : (marks i fr n).getD j (0, 0) = mark i (fr + j) := by
  simp [marks, List.getD_eq_getElem?_getD, h]
theorem Apt.symm {x y : Value} (h : Apt x y) : Apt y x := fun g hy hx => h g hx hy
theorem At.below {w w' : World} {A : Option Addr} {zs : List E} (h : At w A zs) (hb : RowKit.Below w.heap.size w w') : At w' A zs := fun h0 => by
  obtain ⟨b, off, rfl, hlt, hc⟩ := h h0
  exact ⟨b, off, rfl, Nat.lt_of_lt_of_le hlt hb.size, fun j hj => ⟨pw_cell_below hb (hc j hj).1, pw_cell_below hb (hc j hj).2⟩⟩
theorem Row.below {B : Nat} {w w' : World} {x : L} (h : Row B w x) (hb : RowKit.Below w.heap.size w w') : Row B w' x := own_below h hb
theorem Rows.below {B : Nat} {w w' : World} {ls : List L} (h : Rows B w ls) (hb : RowKit.Below w.heap.size w w') : Rows B w' ls := ⟨fun x hx => (h.own x hx).below hb, h.apart⟩
theorem own_mono {w : World} {base base' : Nat} {e : TypeId} {size : Nat} {v : Value} {n : Nat} {xs : List Value} (h : w.ownsRow base e size v n xs) (hb : base' ≤ base) : w.ownsRow base' e size v n xs := by
  refine ⟨h.1, ?_⟩
  rcases h.2 with h1 | ⟨g, cap, cur, h1, h2, h3⟩
  · exact .inl h1
  · exact .inr ⟨g, cap, cur, h1, Nat.le_trans hb h2, h3⟩
theorem Row.at {B : Nat} {w : World} {x : L} (h : Row B w x) : ∃ A c, x.1 = .slice A x.2.length c ∧ At w A x.2 := by
  obtain ⟨A, c, e, hc⟩ := own_form h
  refine ⟨A, c, e, fun h0 => ?_⟩
  obtain ⟨g, rfl, hg, hcs⟩ := hc h0
  refine ⟨g, 0, rfl, hg, fun j hj => ?_⟩
  rw [Nat.zero_add]
  exact ⟨hcs _ _ (hc_get hj).1, hcs _ _ (hc_get hj).2⟩
theorem row_at {B : Nat} {w : World} {v : Value} {zs : List E} (h : Row B w (v, zs)) : ∃ A c, v = .slice A zs.length c ∧ At w A zs := h.at
theorem row_form {B : Nat} {w : World} {v : Value} {zs : List E} (h : Row B w (v, zs)) : ∃ A c, v = .slice A zs.length c ∧ (0 < zs.length → ∃ g, A = some ⟨g, 0, none⟩ ∧ g < w.heap.size) := by
  obtain ⟨A, c, e, f⟩ := own_form h
  refine ⟨A, c, e, fun h0 => ?_⟩
  obtain ⟨g, h1, h2, _⟩ := f h0
  exact ⟨g, h1, h2⟩
/-- A row stays, where another one grows. -/
theorem Row.other {B : Nat} {w w' : World} {x : L} {v : Value} (h : Row B w x) (hg : w.grownBy w' v.ownBlock) (ha : Apt x.1 v) : Row B w' x := by
  refine World.ownsRow.kept h hg ?_
  cases hx : x.1.ownBlock with
  | none =>
    exact .inl rfl
  | some g => exact .inr (fun e => ha g hx e.symm)
/-- One row is another one now, in its own memory. -/
theorem Rows.set {B : Nat} {w w' : World} {ls : List L} {i : Nat} {x : L} {zs : List E} (h : Rows B w ls) (hi : ls[i]? = some x) (hg : w.grownBy w' x.1.ownBlock) (hx : Row B w' (x.1, zs)) : Rows B w' (ls.set i (x.1, zs)) := by
  obtain ⟨hlt, rfl⟩ := List.getElem?_eq_some_iff.1 hi
  have hp := List.pairwise_iff_getElem.1 h.apart
  refine ⟨fun y hy => ?_, ?_⟩
  · obtain ⟨j, hj, rfl⟩ := List.mem_iff_getElem.1 hy
    rw [List.length_set] at hj
    by_cases hij : i = j
    · subst hij; rw [List.getElem_set_self]; exact hx
    · rw [List.getElem_set_ne hij]
      refine (h.own _ (List.getElem_mem hj)).other hg ?_
      rcases Nat.lt_or_ge i j with hlt2 | hge
      · exact (hp i j hlt hj hlt2).symm
      · exact hp j i hj hlt (by omega)
  · rw [List.pairwise_iff_getElem]
    intro a b ha hb hab
    rw [List.length_set] at ha hb
    have := hp a b ha hb hab
    rw [List.getElem_set, List.getElem_set]
    split <;> split <;> simp_all
theorem Rows.apt {B : Nat} {w : World} {ls : List L} (h : Rows B w ls) {i j : Nat} {x y : L} (hi : ls[i]? = some x) (hj : ls[j]? = some y) (hne : i ≠ j) : Apt x.1 y.1 := by
  obtain ⟨h1, rfl⟩ := List.getElem?_eq_some_iff.1 hi
  obtain ⟨h2, rfl⟩ := List.getElem?_eq_some_iff.1 hj
  have hp := List.pairwise_iff_getElem.1 h.apart
  rcases Nat.lt_or_ge i j with hlt | hge
  · exact hp i j h1 h2 hlt
  · exact (hp j i h2 h1 (by omega)).symm
/-- An append to an owned row: where it lies, and the elder slice shows what it showed. -/
theorem wp_append_both {P : Program} (w : World) {o : Oper} {a : Act} {K : Act → World → Prop} {Q : Exit → Act → World → Prop} (s x : Operand) (t : TypeId)
    (ho : o.op = .call { callee := .builtin .append, args := #[s, x], argTypes := #[t, t] })
    (base : Nat) (e : TypeId) (i : TypeInfo) (z : Value) (size bytes : Nat) (ht : P.underlying t = some (.slice e)) (hi : P.info? e = some i) (hz : i.zero = some z)
    (hsize : i.size = size) (hby : i.bytes = bytes) (hzs : z.cells.size = size) (hsz : 0 < size)
    (v : Value) (n : Nat) (xs : List Value) (hs : a.eval s = v) (hown : w.ownsRow base e size v n xs)
    (ad : Addr) (m c : Nat) (news : List Value) (hx : a.eval x = .slice (some ad) m c) (hl : news.length = m * size) (hnews : ∀ j u, news[j]? = some u → w.cell? (ad.add j) = some u) (h1 : ∀ u ∈ news, u.oneCell' = true)
    (h63 : n + m ≤ maxLen) (hbytes : (n + m) * bytes ≤ 140737488355328) (hbase : base ≤ w.heap.size)
    (h : ∀ v' w', w'.ownsRow base e size v' (n + m) (xs ++ news) → w.grownBy w' v.ownBlock → w'.ownsRow base e size v n xs → (v'.ownBlock = v.ownBlock ∨ ∀ g, v'.ownBlock = some g → w.heap.size ≤ g) → K (a.put o.dst v') w') : o.wp P a w K Q := by
  obtain ⟨v', w', hr, h2, h3, h4⟩ := Keep.run_append_keep (P := P) w base t o.type e i z size bytes ht hi hz hsize hby hzs hsz v n xs hown ad m c news hl hnews h1 h63 hbytes hbase
  have h5 : v'.ownBlock = v.ownBlock ∨ ∀ g, v'.ownBlock = some g → w.heap.size ≤ g := by
    rcases hown.2 with ⟨e1, e2⟩ | ⟨g, cap, cur, e1, hbg, hgc, hnc, hcm, hcs, htake⟩
    · subst e1 e2
      have hx0 : xs = [] := List.eq_nil_of_length_eq_zero (by rw [hown.1]; simp)
      subst hx0
      obtain ⟨v2, w2, hr2, ho2, _⟩ := run_append_own (P := P) w w.heap.size t o.type e i z size bytes ht hi hz hsize hby hzs hsz (.slice none 0 0) 0 [] (World.ownsRow_nil _ _ _ _) ad m c news hl hnews h1 h63 hbytes (Nat.le_refl _)
      rw [hr] at hr2
      injection hr2 with e3 e4
      subst e3
      exact .inr (own_ge ho2)
    · subst e1
      by_cases hroom : n + m ≤ cap
      · obtain ⟨w2, hr2, _⟩ := run_append_fits (P := P) w base t o.type e i size ht hi hsize g n cap xs hown ad m c news hl hnews h1 hroom
        rw [hr] at hr2
        injection hr2 with e3 e4
        subst e3
        exact .inl rfl
      · subst hsize hby
        have holds : ∀ j u, xs[j]? = some u → w.cell? ((⟨g, 0, none⟩ : Addr).add j) = some u := hown.cells (g := g) rfl
        have hsmall : n + m ≤ 9223372036854775807 := by simp only [maxLen] at h63; omega
        have hr2 := run_append_grow (P := P) w t o.type e i z ht hi hz ⟨g, 0, none⟩ n cap xs hown.1 holds ad m c news hl hnews (by omega) (by omega) (growslice_fits (by omega) hbytes)
        rw [hr] at hr2
        injection hr2 with e3 e4
        subst e3
        refine .inr fun g' hg' => ?_
        have : w.heap.size = g' := Option.some.inj hg'
        omega
  unfold Oper.wp execOp
  simp only [ho, resolve, invoke, builtin, Sem.run_bind, Sem.run_pure, Result.andThen_ok, List.map_toArray, List.map_cons, List.map_nil, hs, hx, hr]
  exact h v' w' h2 h3 h4 h5
theorem wpList_append_both {P : Program} (w : World) {ops : Array Oper} {rest : List Oper} {o : Oper} {a : Act} {Q : Exit → Act → World → Prop} (hgd : o.guard = none) (s x : Operand) (t : TypeId)
    (ho : o.op = .call { callee := .builtin .append, args := #[s, x], argTypes := #[t, t] })
    (base : Nat) (e : TypeId) (i : TypeInfo) (z : Value) (size bytes : Nat) (ht : P.underlying t = some (.slice e)) (hi : P.info? e = some i) (hz : i.zero = some z)
    (hsize : i.size = size) (hby : i.bytes = bytes) (hzs : z.cells.size = size) (hsz : 0 < size)
    (v : Value) (n : Nat) (xs : List Value) (hs : a.eval s = v) (hown : w.ownsRow base e size v n xs)
    (ad : Addr) (m c : Nat) (news : List Value) (hx : a.eval x = .slice (some ad) m c) (hl : news.length = m * size) (hnews : ∀ j u, news[j]? = some u → w.cell? (ad.add j) = some u) (h1 : ∀ u ∈ news, u.oneCell' = true)
    (h63 : n + m ≤ maxLen) (hbytes : (n + m) * bytes ≤ 140737488355328) (hbase : base ≤ w.heap.size)
    (h : ∀ v' w', w'.ownsRow base e size v' (n + m) (xs ++ news) → w.grownBy w' v.ownBlock → w'.ownsRow base e size v n xs → (v'.ownBlock = v.ownBlock ∨ ∀ g, v'.ownBlock = some g → w.heap.size ≤ g) → wpList P ops Q rest (a.put o.dst v') w') : wpList P ops Q (o :: rest) a w :=
  wpList_plain hgd fun K hK => wp_append_both (P := P) w s x t ho base e i z size bytes ht hi hz hsize hby hzs hsz v n xs hs hown ad m c news hx hl hnews h1 h63 hbytes hbase (fun v' w' k1 k2 k3 k4 => hK _ _ (h v' w' k1 k2 k3 k4))
theorem wpList_append_nothing {P : Program} (w : World) {ops : Array Oper} {rest : List Oper} {o : Oper} {a : Act} {Q : Exit → Act → World → Prop} (hgd : o.guard = none) (s x : Operand) (t : TypeId)
    (ho : o.op = .call { callee := .builtin .append, args := #[s, x], argTypes := #[t, t] })
    (base : Nat) (e : TypeId) (i : TypeInfo) (size : Nat) (ht : P.underlying t = some (.slice e)) (hi : P.info? e = some i)
    (v : Value) (n : Nat) (xs : List Value) (hs : a.eval s = v) (hown : w.ownsRow base e size v n xs) (c : Nat) (hx : a.eval x = .slice none 0 c)
    (h : wpList P ops Q rest (a.put o.dst v) w) : wpList P ops Q (o :: rest) a w :=
  wpList_plain hgd fun K hK => Keep.wp_append_nothing (P := P) w s x t ho base e i size ht hi v n xs hs hown c hx (hK _ _ h)
/-- The book. -/
def bookCells (V W : Value) : Array Value := #[.slice none 0 0, .slice none 0 0, .slice none 0 0, .slice none 0 0, V, W, .slice none 0 0, .slice none 0 0, .slice none 0 0, .slice none 0 0]
/-- Rows from B0 on; the book's own lists, and copies, from B on. -/
structure BookAt (B0 B : Nat) (w : World) (pb : Nat) (V W : Value) (ls : List L) (cs : List Value) : Prop where
  ge : B ≤ pb
  book : w.heap[pb]? = some (.cells (bookCells V W) 42 (0, 0))
  lists : w.ownsRow B 52 1 V ls.length (ls.map Prod.fst)
  copies : w.ownsRow B 52 1 W ls.length cs
  apt : Apt V W
  was : ∀ (j : Nat) (x : L), ls[j]? = some x → ∃ c, cs[j]? = some c ∧ Row B w (c, x.2)
  rows : Rows B0 w ls
def Book (B0 B : Nat) (w : World) (pb : Nat) (ls : List L) : Prop := ∃ V W cs, BookAt B0 B w pb V W ls cs
theorem BookAt.below {B0 B : Nat} {w w' : World} {pb : Nat} {V W : Value} {ls : List L} {cs : List Value} (h : BookAt B0 B w pb V W ls cs) (hb : RowKit.Below w.heap.size w w') : BookAt B0 B w' pb V W ls cs :=
  ⟨h.ge, heap_below hb h.book, own_below h.lists hb, own_below h.copies hb, h.apt, fun j x hj => by obtain ⟨c, h1, h2⟩ := h.was j x hj; exact ⟨c, h1, h2.below hb⟩, h.rows.below hb⟩
theorem Book.below {B0 B : Nat} {w w' : World} {pb : Nat} {ls : List L} (h : Book B0 B w pb ls) (hb : RowKit.Below w.heap.size w w') : Book B0 B w' pb ls := by
  obtain ⟨V, W, cs, h⟩ := h
  exact ⟨V, W, cs, h.below hb⟩
theorem Rows.mono {B B' : Nat} {w : World} {ls : List L} (h : Rows B w ls) (hb : B' ≤ B) : Rows B' w ls := ⟨fun x hx => own_mono (h.own x hx) hb, h.apart⟩
theorem Book.mono {B0 B B' : Nat} {w : World} {pb : Nat} {ls : List L} (h : Book B0 B w pb ls) (h0 : B' ≤ B0) (h1 : B' ≤ B) : Book B' B' w pb ls := by
  obtain ⟨V, W, cs, h⟩ := h
  exact ⟨V, W, cs, Nat.le_trans h1 h.ge, h.book, own_mono h.lists h1, own_mono h.copies h1, h.apt, fun j x hj => by obtain ⟨c, k1, k2⟩ := h.was j x hj; exact ⟨c, k1, own_mono k2 h1⟩, h.rows.mono h0⟩
theorem Book.new {B0 B : Nat} {w : World} (h : B ≤ w.heap.size) : Book B0 B (w.alloc (.cells (bookCells (.slice none 0 0) (.slice none 0 0)) 42)) w.heap.size [] :=
  ⟨.slice none 0 0, .slice none 0 0, [], ⟨h, heap_new _ _, World.ownsRow_nil _ _ _ _, World.ownsRow_nil _ _ _ _, (fun g hg => by cases hg), (fun j x hj => by simp at hj), ⟨(fun x hx => by cases hx), .nil⟩⟩⟩
/-- What is no book, and no list of lists, stays. -/
def Stays (w w' : World) : Prop := ∀ (g : Nat) (o : Obj), w.heap[g]? = some o → (∀ cs m, o ≠ .cells cs 52 m) → (∀ cs m, o ≠ .cells cs 42 m) → w'.heap[g]? = some o
theorem Stays.row {B e size n : Nat} {w w' : World} {v : Value} {xs : List Value} (h : Stays w w') (ho : w.ownsRow B e size v n xs) (h1 : e ≠ 52) (h2 : e ≠ 42) : w'.ownsRow B e size v n xs := by
  refine ⟨ho.1, ?_⟩
  rcases ho.2 with h3 | ⟨g, cap, cur, e1, e2, e3, e4⟩
  · exact .inl h3
  · refine .inr ⟨g, cap, cur, e1, e2, h g _ e3 (fun cs m e => ?_) (fun cs m e => ?_), e4⟩
    · injection e with _ e; exact h1 e
    · injection e with _ e; exact h2 e
/-- Rows of two types lie apart. -/
theorem own_apt {w : World} {B B' e e' s s' n n' : Nat} {v v' : Value} {xs xs' : List Value} (h : w.ownsRow B e s v n xs) (h' : w.ownsRow B' e' s' v' n' xs') (hne : e ≠ e') : Apt v v' := by
  intro g hg hg'
  rcases h'.2 with ⟨rfl, _⟩ | ⟨g', cap, cur, rfl, _, hc, _⟩
  · cases hg'
  · have : g' = g := Option.some.inj hg'
    subst this
    exact own_ne h hc hne hg
/-- A slice's header, stored. -/
theorem step_store {P : Program} {A : Act} {aft : Array Edge} {pos : String} {ty T p t off x n c : Nat} {V : Option Addr} {W : World} {K : Act → World → Prop} (hz : ∀ w, (sizeOf T).run P w = .ok 1 w)
    (h1 : A.tmps[p]?.getD undef = .pointer (some ⟨t, off, none⟩)) (h2 : A.tmps[x]?.getD undef = .slice V n c)
    {u : Value} (hc0 : W.cell? ⟨t, off, none⟩ = some u) (hf0 : W.frozen? ⟨t, off, none⟩ = false) (hK : K A (W.setCell ⟨t, off, none⟩ (.slice V n c))) :
    Oper.wp P { dst := none, op := .store T (.tmp p) (.tmp x), type := ty, pos := pos, after := aft, guard := none } A W K (fun _ _ _ => False) := by
  have hzz := hz
  unfold Oper.wp
  go_simp
  exact hK
theorem Rows.stays {B : Nat} {w w' : World} {ls : List L} (h : Rows B w ls) (hs : Stays w w') : Rows B w' ls := ⟨fun x hx => hs.row (h.own x hx) (by decide) (by decide), h.apart⟩
theorem Stays.trans {w a b : World} (h : Stays w a) (k : Stays a b) : Stays w b := fun g o hg h1 h2 => k g o (h g o hg h1 h2) h1 h2
theorem Stays.of_below {w w' : World} (h : RowKit.Below w.heap.size w w') : Stays w w' := fun g o hg _ _ => heap_below h hg
theorem Stays.of_grown {B n : Nat} {w w' : World} {v : Value} {xs : List Value} (ho : w.ownsRow B 52 1 v n xs) (hg : w.grownBy w' v.ownBlock) : Stays w w' := fun g o h h1 h2 => by
  rw [hg.block g (heap_lt h) (fun e => ?_)]
  · exact h
  · rcases ho.2 with ⟨e1, _⟩ | ⟨g', cap, cur, e1, _, hc, _⟩
    · rw [e1] at e; cases e
    · rw [e1] at e
      have : g = g' := Option.some.inj e
      subst this
      rw [h] at hc
      injection hc with hc
      exact h1 _ _ hc
theorem Stays.of_set {w : World} {pb i : Nat} {cs : Array Value} {v : Value} (hb : w.heap[pb]? = some (.cells cs 42 (0, 0))) : Stays w (w.setCell ⟨pb, i, none⟩ v) := fun g o h h1 h2 => by
  have hne : pb ≠ g := fun e => by
    subst e
    rw [h] at hb
    injection hb with hb
    exact h2 _ _ hb
  rw [setCell_eq]
  unfold mapBlock
  show (w.heap.modify pb _)[g]? = _
  rw [Array.getElem?_modify, if_neg hne]
  exact h
theorem below_alloc (w : World) (o : Obj) : RowKit.Below w.heap.size w (w.alloc o) := balloc (Below.refl _ _) _
theorem set_heap {W : World} {b : Nat} {cs : Array Value} {t : TypeId} (hh : W.heap[b]? = some (.cells cs t (0, 0))) (i : Nat) (v : Value) : (W.setCell ⟨b, i, none⟩ v).heap[b]? = some (.cells (cs.setIfInBounds i v) t (0, 0)) := by
  rw [setCell_eq]
  unfold mapBlock
  show (W.heap.modify b _)[b]? = _
  rw [Array.getElem?_modify, if_pos rfl, hh]
  rfl
theorem set_grown (W : World) (b i : Nat) (v : Value) : W.grownBy (W.setCell ⟨b, i, none⟩ v) (some b) := by
  refine ⟨rfl, rfl, rfl, ?_, fun k hk hne => ?_⟩
  · have : (W.setCell ⟨b, i, none⟩ v).heap.size = W.heap.size := by simp [World.setCell]
    omega
  · rw [setCell_eq]
    unfold mapBlock
    show (W.heap.modify b _)[k]? = _
    rw [Array.getElem?_modify, if_neg (fun e => hne (by rw [e]))]
/-- One list more. -/
theorem Rows.push {B : Nat} {w : World} {ls : List L} {x : L} (h : Rows B w ls) (hx : Row B w x) (ha : ∀ y ∈ ls, Apt y.1 x.1) : Rows B w (ls ++ [x]) := by
  refine ⟨fun y hy => ?_, ?_⟩
  · rcases List.mem_append.1 hy with hy | hy
    · exact h.own y hy
    · rw [List.mem_singleton.1 hy]; exact hx
  · rw [List.pairwise_append]
    refine ⟨h.apart, List.pairwise_singleton _ _, fun y hy z hz => ?_⟩
    rw [List.mem_singleton.1 hz]; exact ha y hy

theorem one_kind {l : List E} : ∀ u ∈ hc l, u.oneCell' = true := by
  intro u hu
  unfold hc at hu
  obtain ⟨e, _, h⟩ := List.mem_flatMap.1 hu
  simp at h
  rcases h with rfl | rfl <;> rfl
set_option maxRecDepth 100000 in
theorem copy_call (A : Option Addr) (n c : Nat) (zs : List E) (w : World) (hn : n = zs.length) (hat : At w A zs) (hle : n ≤ 1000000) :
    Calls Tryz.prog 75 #[.slice A n c] w fun e w' => ∃ v, e = .returned v ∧ Row w.heap.size w' (v, zs) ∧ RowKit.Below w.heap.size w w' := by
  obtain ⟨i3, hi3, hy0, hy1, hy2⟩ := info_parts infoE
  have HN : Hid (n = zs.length) := hn
  rcases A with _ | ad
  · obtain rfl : n = 0 := by
      rcases Nat.eq_zero_or_pos n with h | h
      · exact h
      · obtain ⟨b, off, h1, _⟩ := hat (by omega)
        cases h1
    obtain rfl : zs = [] := List.eq_nil_of_length_eq_zero HN.out.symm
    clear hn hat HN
    go_enter Tryz.func75, Tryz.ntmps75
    go_wp2_with (first | (at_builtin; refine wpList_append_nothing _ rfl (.const (.slice none 0 0)) (.tmp 3) 52 rfl w.heap.size 93 i3 2 Tryz.underlying52 hi3 (.slice none 0 0) 0 [] rfl (World.ownsRow_nil _ _ _ _) c rfl ?_))
    go_ret
    exact ⟨_, rfl, World.ownsRow_nil _ _ _ _, Below.refl _ _⟩
  · have hl : (hc zs).length = n * 2 := by rw [hc_len, HN.out]
    have hcc : ∀ j u, (hc zs)[j]? = some u → w.cell? (ad.add j) = some u := by
      intro j u hj
      have hjl := (List.getElem?_eq_some_iff.1 hj).1
      rw [hc_len] at hjl
      obtain ⟨b, off, h1, _, h2⟩ := hat (by omega)
      injection h1 with h1
      subst h1
      have g := hc_get (l := zs) (k := j / 2) (by omega)
      have g2 := h2 (j / 2) (by omega)
      rw [Addr.add_lit]
      rcases Nat.mod_two_eq_zero_or_one j with hr | hr
      · have e : j = j / 2 * 2 := by omega
        rw [e] at hj
        rw [g.1] at hj
        rw [e, ← Option.some.inj hj]
        exact g2.1
      · have e : j = j / 2 * 2 + 1 := by omega
        rw [e] at hj
        rw [g.2] at hj
        rw [e, ← Option.some.inj hj, ← Nat.add_assoc]
        exact g2.2
    clear hn
    go_enter Tryz.func75, Tryz.ntmps75
    go_wp2_with (first | (at_builtin; refine wpList_append_own _ rfl (.const (.slice none 0 0)) (.tmp 3) 52 rfl w.heap.size 93 i3 _ 2 16 Tryz.underlying52 hi3 hy0 hy1 hy2 rfl (by decide) _ 0 [] rfl (World.ownsRow_nil _ _ _ _) ad n c (hc zs) rfl hl hcc one_kind ?d1 ?d2 (Nat.le_refl _) ?_))
    case d1 => unfold maxLen; omega
    case d2 => omega
    intro v w1 ho hg _
    have hrow : Row w.heap.size w1 (v, zs) := by unfold Row; rw [← HN.out]; simpa using ho
    have bel : RowKit.Below w.heap.size w w1 := (Below.refl _ _).grown hg (Nat.le_refl _) (fun k hk => by cases hk)
    obtain ⟨A1, c1, rfl, -⟩ := own_form ho
    clear ho hg hl hcc hat
    go_wp2
    go_ret
    exact ⟨_, rfl, hrow, bel⟩
set_option maxHeartbeats 1000000 in
theorem mark_call (i fr n : Nat) (w : World) (hi : i ≤ 300) (hf : fr + n ≤ 2000000) :
    Calls Tryz.prog 98 #[.int .i64 (i : Int), .int .i64 (fr : Int), .int .i64 (n : Int)] w fun e w' => ∃ v, e = .returned v ∧ Row w.heap.size w' (v, marks i fr n) ∧ RowKit.Below w.heap.size w w' := by
  obtain ⟨i3, hi3, hy0, hy1, hy2⟩ := info_parts infoE
  obtain ⟨S, hS⟩ : ∃ S, fr + n = S := ⟨_, rfl⟩
  have hSq : fr + n ≤ S ∧ S ≤ fr + n := by omega
  have zS : IntKind.i64.wrap ((fr : Int) + (n : Int)) = (S : Int) := by rw [IntKind.wrap_i64]; omega
  clear hS
  go_enter Tryz.func98, Tryz.ntmps98
  go_wp2_with fail
  go_loopg [7, 8] n (fun kx s7 s8 wr => ∃ (k q : Nat), k ≤ n ∧ n - k ≤ kx ∧ (fr + k ≤ q ∧ q ≤ fr + k) ∧ s8 = .int .i64 (q : Int) ∧ wr.ownsRow w.heap.size 93 2 s7 k (hc (marks i fr k)) ∧ RowKit.Below w.heap.size w wr)
  case atStart => exact ⟨0, fr, Nat.zero_le _, Nat.le_refl _, by omega, rfl, World.ownsRow_nil _ _ _ _, Below.refl _ _⟩
  case round =>
    obtain ⟨k, q, hk, hkx, hq, rfl, ho, bel⟩ := hrel
    obtain ⟨A0, c0, rfl, -⟩ := own_form ho
    by_cases hlt : k < n
    · have hltz : (q : Int) < (S : Int) := by omega
      have z1 : IntKind.i64.wrap (-1000 * (i : Int)) = -1000 * (i : Int) := by rw [IntKind.wrap_i64]; omega
      have z2 : IntKind.i64.wrap (-1000 * (i : Int) - (q : Int)) = -1000 * (i : Int) - (q : Int) := by rw [IntKind.wrap_i64]; omega
      obtain ⟨mk, hmk0⟩ : ∃ mk, (mark i (fr + k)).1 = mk := ⟨_, rfl⟩
      have hmk : mark i (fr + k) = (mk, 0) := by rw [← hmk0]; rfl
      have z3 : IntKind.i64.wrap (-1000 * (i : Int) - (q : Int) - 1) = mk := by rw [IntKind.wrap_i64, ← hmk0]; unfold mark; simp only; omega
      clear hmk0
      have hs := marks_succ i fr k
      have HM : Hid (mark i (fr + k) = (mk, 0)) := hmk
      have HS : Hid _ := hs
      have ho2 := ho.alloc (.cells #[.int .i64 mk, .int .i64 0] 93)
      have bel2 := balloc bel (.cells #[.int .i64 mk, .int .i64 0] 93)
      have hsz2 := bel2.size
      have hh2 := heap_new wr (.cells #[.int .i64 mk, .int .i64 0] 93)
      clear hs hmk ho bel
      go_wp2_with (first | (at_builtin; refine wpList_append_own _ rfl (.tmp 17) (.tmp 24) 52 rfl w.heap.size 93 i3 _ 2 16 Tryz.underlying52 hi3 hy0 hy1 hy2 rfl (by decide) _ k (hc (marks i fr k)) rfl ho2 ⟨wr.heap.size, 0, none⟩ 1 1 [.int .i64 mk, .int .i64 0] rfl rfl ?e1 ?e2 ?e3 ?e4 hsz2 ?_))
      case e1 => intro j u hj; rw [Addr.add_lit, Nat.zero_add]; exact cell_of hh2 (by simpa using hj)
      case e2 => intro u hu; simp at hu; rcases hu with rfl | rfl <;> rfl
      case e3 => unfold maxLen; omega
      case e4 => omega
      intro v3 w3 ho3 hg3 _
      have ho4 : w3.ownsRow w.heap.size 93 2 v3 (k + 1) (hc (marks i fr (k + 1))) := by rw [HS.out, hc_app, HM.out]; exact ho3
      have bel3 : RowKit.Below w.heap.size w w3 := bel2.grown hg3 hsz2 (own_ge ho2)
      obtain ⟨A3, c3, rfl, -⟩ := own_form ho3
      have zq : IntKind.i64.wrap ((q : Int) + 1) = (q : Int) + 1 := by rw [IntKind.wrap_i64]; omega
      clear ho3 hg3 ho2 bel2 hh2 hsz2
      go_wp2
      go_roundg (n - (k + 1))
      case measure => omega
      case rel => exact ⟨k + 1, q + 1, hlt, Nat.le_refl _, by omega, rfl, ho4, bel3⟩
    · have hltz : ¬ (q : Int) < (S : Int) := by omega
      obtain rfl : k = n := by omega
      have hrow : Row w.heap.size wr (.slice A0 k c0, marks i fr k) := by unfold Row; simp only [marks_length]; exact ho
      clear ho
      go_wp2
      go_ret
      exact ⟨_, rfl, hrow, bel⟩
theorem same_aux {xs ys : List E} (hl : xs.length = ys.length) (h : ∀ j, j < xs.length → xs.getD j (0, 0) = ys.getD j (0, 0)) : xs = ys := by
  refine List.ext_getElem hl fun j h1 h2 => ?_
  have := h j h1
  simpa [List.getD_eq_getElem?_getD, h1, h2] using this
theorem below_drewN {B n : Nat} {w W : World} (h : RowKit.Below B w W) : RowKit.Below B w (W.drewN n) := ⟨h.os, h.tape, h.output, h.size, h.block⟩
set_option maxHeartbeats 2000000 in
set_option maxRecDepth 100000 in
theorem same_call (A V : Option Addr) (n1 n2 c1 c2 : Nat) (xs ys : List E) (w : World) (h1 : n1 = xs.length) (h2 : n2 = ys.length) (ha : At w A xs) (hv : At w V ys) (hle : n1 ≤ 4611686018427387904) (hle2 : n2 ≤ 4611686018427387904) :
    Calls Tryz.prog 26 #[.slice A n1 c1, .slice V n2 c2] w fun e w' => e = .returned (.bool (decide (xs = ys))) ∧ RowKit.Below w.heap.size w w' := by
  have mixed : Tryz.prog.follows .mixedOrders = true := by kernel_rfl
  have H1 : Hid (n1 = xs.length) := h1
  have H2 : Hid (n2 = ys.length) := h2
  by_cases hnn : n1 = n2
  · subst hnn
    have hd : ((n1 : Int) != (n1 : Int)) = false := by simp
    clear h1 h2
    go_enter Tryz.func26, Tryz.ntmps26
    go_wp2
    go_loopg [5] n1 (fun kx s5 wr => ∃ (k : Nat), k ≤ n1 ∧ n1 - k ≤ kx ∧ s5 = .int .i64 k ∧ Hid (∀ j, j < k → xs.getD j (0, 0) = ys.getD j (0, 0)) ∧ RowKit.Below w.heap.size w wr)
    case atStart => exact ⟨0, Nat.zero_le _, Nat.le_refl _, rfl, (fun j hj => absurd hj (Nat.not_lt_zero _) : ∀ j, j < 0 → xs.getD j (0, 0) = ys.getD j (0, 0)), Below.refl _ _⟩
    case round =>
      obtain ⟨k, hk, hkx, rfl, HE, bel⟩ := hrel
      by_cases hlt : k < n1
      · have hltz : (k : Int) < (n1 : Int) := by omega
        have q1 := H1.out
        have q2 := H2.out
        obtain ⟨ba, oa, rfl, _, ca⟩ := ha (by omega)
        obtain ⟨bv, ov, rfl, _, cv⟩ := hv (by omega)
        have l1 := pw_cell_below bel (ca k (by omega)).1
        have l1' := pw_cell_below bel (ca k (by omega)).2
        have l2 := pw_cell_below bel (cv k (by omega)).1
        have l2' := pw_cell_below bel (cv k (by omega)).2
        have hne : xs.getD k (0, 0) ≠ ys.getD k (0, 0) → xs ≠ ys := fun h e => h (by rw [e])
        have hnx : xs.getD k (0, 0) = ys.getD k (0, 0) → ∀ j, j < k + 1 → xs.getD j (0, 0) = ys.getD j (0, 0) := fun h j hj => by
          by_cases e : j = k
          · rw [e]; exact h
          · exact HE.out j (by omega)
        generalize xs.getD k (0, 0) = X at l1 l1' hne hnx
        generalize ys.getD k (0, 0) = Z at l2 l2' hne hnx
        obtain ⟨X1, X2⟩ := X
        obtain ⟨Z1, Z2⟩ := Z
        simp only at l1 l1' l2 l2'
        have zk : IntKind.i64.wrap ((k : Int) + 1) = (k : Int) + 1 := by rw [IntKind.wrap_i64]; omega
        have hq := ScE.neq35 X1 Z1 X2 Z2
        by_cases hXZ : X1 = Z1 ∧ X2 = Z2
        · obtain ⟨rfl, rfl⟩ := hXZ
          have HN : Hid _ := hnx rfl
          have hb : (!(X1 == X1 && (X2 == X2))) = false := by simp
          rw [hb] at hq
          clear ca cv ha hv hne hnx q1 q2 HE
          go_wp2_with fail
          go_quiet (fail)
          have bel2 : RowKit.Below w.heap.size w _ := below_drewN (n := nq) bel
          clear bel
          go_wp2
          go_roundg (n1 - (k + 1))
          case measure => omega
          case rel => exact ⟨k + 1, hlt, Nat.le_refl _, rfl, HN, bel2⟩
        · have hfin : Hid (decide (xs = ys) = false) := decide_eq_false (hne (fun e => hXZ (by injection e with e1 e2; exact ⟨e1, e2⟩)))
          have hb : (!(X1 == Z1 && (X2 == Z2))) = true := by
            simp only [Bool.not_eq_true', Bool.and_eq_false_iff, beq_eq_false_iff_ne]
            omega
          rw [hb] at hq
          clear ca cv ha hv hne hnx q1 q2 HE hXZ
          go_wp2_with fail
          go_quiet (fail)
          have bel2 : RowKit.Below w.heap.size w _ := below_drewN (n := nq) bel
          clear bel
          go_wp2
          go_ret
          exact ⟨by rw [hfin.out]; rfl, bel2⟩
      · have hltz : ¬ (k : Int) < (n1 : Int) := by omega
        obtain rfl : k = n1 := by omega
        have hfin : Hid (decide (xs = ys) = true) := decide_eq_true (same_aux (by rw [← H1.out, ← H2.out]) (fun j hj => HE.out j (by rw [H1.out]; exact hj)))
        clear HE ha hv
        go_wp2
        go_ret
        exact ⟨by rw [hfin.out]; rfl, bel⟩
  · have hd : ((n1 : Int) != (n2 : Int)) = true := by simp; omega
    have hfin : Hid (decide (xs = ys) = false) := decide_eq_false (fun e => hnn (by rw [h1, h2, e]))
    clear ha hv h1 h2
    go_enter Tryz.func26, Tryz.ntmps26
    go_wp2
    go_ret
    exact ⟨by rw [hfin.out]; rfl, Below.refl _ _⟩

def stV (pb k n gV gW cV cW m c1 c2 : Nat) (A1 A2 : Option Addr) (i : Nat) (pv v : Value) (W : World) : Prop := match i with
  | 0 => v = .pointer (some ⟨pb, 0, none⟩)
  | 1 => v = .pointer (some ⟨pb, 0, none⟩)
  | 2 => v = .pointer (some ⟨pb, 4, none⟩)
  | 3 => v = .slice (some ⟨gV, 0, none⟩) n cV
  | 4 => v = .int .i64 (k : Int)
  | 5 => v = .pointer (some ⟨gV, k, none⟩)
  | 6 => v = .slice A1 m c1
  | 7 => v = .pointer (some ⟨pb, 0, none⟩)
  | 8 => v = .pointer (some ⟨pb, 0, none⟩)
  | 9 => v = .pointer (some ⟨pb, 5, none⟩)
  | 10 => v = .slice (some ⟨gW, 0, none⟩) n cW
  | 11 => v = .int .i64 (k : Int)
  | 12 => v = .pointer (some ⟨gW, k, none⟩)
  | 13 => v = .slice A2 m c2
  | 14 => v = .bool true
  | 15 => v = .bool false
  | _ => True
set_option maxHeartbeats 2000000 in
set_option maxRecDepth 100000 in
theorem still_call {B0 B pb : Nat} {V W : Value} {ls : List L} {cs : List Value} (w : World) (h : BookAt B0 B w pb V W ls cs) (hn : ls.length ≤ 250) (hlen : ∀ x ∈ ls, x.2.length ≤ 1000000) :
    Calls Tryz.prog 55 #[.pointer (some ⟨pb, 0, none⟩)] w fun e w' => e = .returned (.bool true) ∧ RowKit.Below w.heap.size w w' := by
  have mixed : Tryz.prog.follows .mixedOrders = true := by kernel_rfl
  obtain ⟨AV, cV, rfl, fV⟩ := own_form h.lists
  obtain ⟨AW, cW, rfl, fW⟩ := own_form h.copies
  obtain ⟨n, hnl⟩ : ∃ n, ls.length = n := ⟨_, rfl⟩
  have HN : Hid (ls.length = n) := hnl
  have b0 : w.cell? ⟨pb, 4, none⟩ = some (.slice AV n cV) := by rw [← hnl]; exact cell_of h.book rfl
  have b1 : w.cell? ⟨pb, 5, none⟩ = some (.slice AW n cW) := by rw [← hnl]; exact cell_of h.book rfl
  have FV : Hid _ := fV
  have FW : Hid _ := fW
  have HL : Hid _ := hlen
  have HB : Hid _ := h
  rw [hnl] at hn
  clear hnl fV fW hlen h
  go_enter Tryz.func55, Tryz.ntmps55
  go_wp2_with fail
  go_loopg [3] n (fun kx s3 wr => ∃ (k : Nat), k ≤ n ∧ n - k ≤ kx ∧ s3 = .int .i64 (k : Int) ∧ RowKit.Below w.heap.size w wr)
  case atStart => exact ⟨0, Nat.zero_le _, Nat.le_refl _, rfl, Below.refl _ _⟩
  case round =>
    obtain ⟨w0, rfl⟩ : ∃ x, x = wr := ⟨_, rfl⟩
    obtain ⟨k, hk, hkx, rfl, bel⟩ := hrel
    by_cases hlt : k < n
    · have hltz : (k : Int) < (n : Int) := by omega
      obtain ⟨x, hx⟩ : ∃ x, ls[k]? = some x := ⟨_, List.getElem?_eq_getElem (by have := HN.out; omega)⟩
      obtain ⟨gV, rfl, -, kV⟩ := FV.out (by rw [HN.out]; omega)
      obtain ⟨gW, rfl, -, kW⟩ := FW.out (by rw [HN.out]; omega)
      obtain ⟨A1, c1, e1, a1⟩ := (HB.out.rows.own x (List.mem_of_getElem? hx)).at
      obtain ⟨cc, e2, a2'⟩ := HB.out.was k x hx
      obtain ⟨A2, c2, rfl, a2⟩ := row_at a2'
      have g1 : w.cell? ⟨gV, k, none⟩ = some (.slice A1 x.2.length c1) := kV k _ (by rw [List.getElem?_map, hx, ← e1]; rfl)
      have g2 : w.cell? ⟨gW, k, none⟩ = some (.slice A2 x.2.length c2) := kW k _ e2
      have f0 := pw_cell_below bel b0
      have f1 := pw_cell_below bel g1
      have f2 := pw_cell_below bel b1
      have f3 := pw_cell_below bel g2
      have SM : Hid (∀ X, RowKit.Below w0.heap.size w0 X → Calls Tryz.prog 26 #[.slice A1 x.2.length c1, .slice A2 x.2.length c2] X fun e w' => e = .returned (.bool true) ∧ RowKit.Below X.heap.size X w') := by
        show ∀ X, _
        intro X hX
        have hb := bstep bel hX
        have hl := HL.out x (List.mem_of_getElem? hx)
        refine (same_call A1 A2 _ _ c1 c2 x.2 x.2 X rfl rfl (a1.below hb) (a2.below hb) (by omega) (by omega)).mono ?_
        rintro e w' ⟨rfl, hb2⟩
        exact ⟨by simp, hb2⟩
      obtain ⟨m, hm⟩ : ∃ m, x.2.length = m := ⟨_, rfl⟩
      rw [hm] at f1 f3 SM
      have zk : IntKind.i64.wrap ((k : Int) + 1) = (k : Int) + 1 := by rw [IntKind.wrap_i64]; omega
      clear hx kV kW e1 a1 e2 a2 a2' g1 g2 hm
      go_wp2_with fail
      refine RegU.wp_region_lists (RowKit.Below w0.heap.size w0) (fun _ _ => True) (fun _ W W' => RowKit.Below W.heap.size W W') (fun i => i) (stV pb k n gV gW cV cW m c1 c2 A1 A2)
        [some 13, some 14, some 15, some 16, some 17, some 18, some 19, some 20, some 21, some 22, some 23, some 24, some 25, some 26, some 27, some 28]
        [[], [0], [1], [2], [], [3, 4], [5], [], [7], [8], [9], [], [10, 11], [12], [6, 13], [14]]
        (by kernel_rfl) (by kernel_rfl) (by kernel_rfl) (fun i => .inl rfl) ?_ ?_ ?_ ?_ ?_ ?_ ?_
      · exact ⟨rfl, rfl, rfl, Nat.le_refl _, fun _ _ => rfl⟩
      · intro i; trivial
      · intro i W W' h k2; exact h.trans (k2.mono h.size)
      · intros; trivial
      · intro j i p v W W' h1 h2 h3 h4; exact h3
      · refine ⟨?_, ?_, ?_, ?_, ?_, ?_, ?_, ?_, ?_, ?_, ?_, ?_, ?_, ?_, ?_, ?_, trivial⟩
        · intro vals W K hG hU hV hK
          simp only [if_true] at hK
          simp only [Reg.putS, List.foldl, List.headD, List.tail, List.getD_cons_zero, List.getD_cons_succ, Act.put, List.setIfInBounds_toArray, List.set_cons_zero, List.set_cons_succ] at hK ⊢
          go_simp
          first
            | exact hK _ _ (Below.refl _ _) rfl
            | (rw [if_pos (by omega)]; exact hK _ _ (Below.refl _ _) rfl)
            | (rw [dif_pos (by omega)]; exact hK _ _ (Below.refl _ _) rfl)
            | (rw [if_neg (by omega)]; exact hK _ _ (Below.refl _ _) rfl)
        · intro vals W K hG hU hV hK
          simp only [if_true] at hK
          have d0 := hV 0 (by simp)
          simp only [stV] at d0
          simp only [Reg.putS, List.foldl, List.headD, List.tail, List.getD_cons_zero, List.getD_cons_succ, Act.put, List.setIfInBounds_toArray, List.set_cons_zero, List.set_cons_succ, d0] at hK ⊢
          go_simp
          first
            | exact hK _ _ (Below.refl _ _) rfl
            | (rw [if_pos (by omega)]; exact hK _ _ (Below.refl _ _) rfl)
            | (rw [dif_pos (by omega)]; exact hK _ _ (Below.refl _ _) rfl)
            | (rw [if_neg (by omega)]; exact hK _ _ (Below.refl _ _) rfl)
        · intro vals W K hG hU hV hK
          simp only [if_true] at hK
          have d1 := hV 1 (by simp)
          simp only [stV] at d1
          simp only [Reg.putS, List.foldl, List.headD, List.tail, List.getD_cons_zero, List.getD_cons_succ, Act.put, List.setIfInBounds_toArray, List.set_cons_zero, List.set_cons_succ, d1] at hK ⊢
          go_simp
          first
            | exact hK _ _ (Below.refl _ _) rfl
            | (rw [if_pos (by omega)]; exact hK _ _ (Below.refl _ _) rfl)
            | (rw [dif_pos (by omega)]; exact hK _ _ (Below.refl _ _) rfl)
            | (rw [if_neg (by omega)]; exact hK _ _ (Below.refl _ _) rfl)
        · intro vals W K hG hU hV hK
          simp only [if_true] at hK
          have d2 := hV 2 (by simp)
          simp only [stV] at d2
          simp only [Reg.putS, List.foldl, List.headD, List.tail, List.getD_cons_zero, List.getD_cons_succ, Act.put, List.setIfInBounds_toArray, List.set_cons_zero, List.set_cons_succ, d2] at hK ⊢
          have hcl := pw_cell_below hG f0
          go_simp
          first
            | exact hK _ _ (Below.refl _ _) rfl
            | (rw [if_pos (by omega)]; exact hK _ _ (Below.refl _ _) rfl)
            | (rw [dif_pos (by omega)]; exact hK _ _ (Below.refl _ _) rfl)
            | (rw [if_neg (by omega)]; exact hK _ _ (Below.refl _ _) rfl)
        · intro vals W K hG hU hV hK
          simp only [if_true] at hK
          simp only [Reg.putS, List.foldl, List.headD, List.tail, List.getD_cons_zero, List.getD_cons_succ, Act.put, List.setIfInBounds_toArray, List.set_cons_zero, List.set_cons_succ] at hK ⊢
          go_simp
          first
            | exact hK _ _ (Below.refl _ _) rfl
            | (rw [if_pos (by omega)]; exact hK _ _ (Below.refl _ _) rfl)
            | (rw [dif_pos (by omega)]; exact hK _ _ (Below.refl _ _) rfl)
            | (rw [if_neg (by omega)]; exact hK _ _ (Below.refl _ _) rfl)
        · intro vals W K hG hU hV hK
          simp only [if_true] at hK
          have d3 := hV 3 (by simp)
          simp only [stV] at d3
          have d4 := hV 4 (by simp)
          simp only [stV] at d4
          simp only [Reg.putS, List.foldl, List.headD, List.tail, List.getD_cons_zero, List.getD_cons_succ, Act.put, List.setIfInBounds_toArray, List.set_cons_zero, List.set_cons_succ, d3, d4] at hK ⊢
          go_simp
          first
            | exact hK _ _ (Below.refl _ _) rfl
            | (rw [if_pos (by omega)]; exact hK _ _ (Below.refl _ _) rfl)
            | (rw [dif_pos (by omega)]; exact hK _ _ (Below.refl _ _) rfl)
            | (rw [if_neg (by omega)]; exact hK _ _ (Below.refl _ _) rfl)
        · intro vals W K hG hU hV hK
          simp only [if_true] at hK
          have d5 := hV 5 (by simp)
          simp only [stV] at d5
          simp only [Reg.putS, List.foldl, List.headD, List.tail, List.getD_cons_zero, List.getD_cons_succ, Act.put, List.setIfInBounds_toArray, List.set_cons_zero, List.set_cons_succ, d5] at hK ⊢
          have hcl := pw_cell_below hG f1
          go_simp
          first
            | exact hK _ _ (Below.refl _ _) rfl
            | (rw [if_pos (by omega)]; exact hK _ _ (Below.refl _ _) rfl)
            | (rw [dif_pos (by omega)]; exact hK _ _ (Below.refl _ _) rfl)
            | (rw [if_neg (by omega)]; exact hK _ _ (Below.refl _ _) rfl)
        · intro vals W K hG hU hV hK
          simp only [if_true] at hK
          simp only [Reg.putS, List.foldl, List.headD, List.tail, List.getD_cons_zero, List.getD_cons_succ, Act.put, List.setIfInBounds_toArray, List.set_cons_zero, List.set_cons_succ] at hK ⊢
          go_simp
          first
            | exact hK _ _ (Below.refl _ _) rfl
            | (rw [if_pos (by omega)]; exact hK _ _ (Below.refl _ _) rfl)
            | (rw [dif_pos (by omega)]; exact hK _ _ (Below.refl _ _) rfl)
            | (rw [if_neg (by omega)]; exact hK _ _ (Below.refl _ _) rfl)
        · intro vals W K hG hU hV hK
          simp only [if_true] at hK
          have d7 := hV 7 (by simp)
          simp only [stV] at d7
          simp only [Reg.putS, List.foldl, List.headD, List.tail, List.getD_cons_zero, List.getD_cons_succ, Act.put, List.setIfInBounds_toArray, List.set_cons_zero, List.set_cons_succ, d7] at hK ⊢
          go_simp
          first
            | exact hK _ _ (Below.refl _ _) rfl
            | (rw [if_pos (by omega)]; exact hK _ _ (Below.refl _ _) rfl)
            | (rw [dif_pos (by omega)]; exact hK _ _ (Below.refl _ _) rfl)
            | (rw [if_neg (by omega)]; exact hK _ _ (Below.refl _ _) rfl)
        · intro vals W K hG hU hV hK
          simp only [if_true] at hK
          have d8 := hV 8 (by simp)
          simp only [stV] at d8
          simp only [Reg.putS, List.foldl, List.headD, List.tail, List.getD_cons_zero, List.getD_cons_succ, Act.put, List.setIfInBounds_toArray, List.set_cons_zero, List.set_cons_succ, d8] at hK ⊢
          go_simp
          first
            | exact hK _ _ (Below.refl _ _) rfl
            | (rw [if_pos (by omega)]; exact hK _ _ (Below.refl _ _) rfl)
            | (rw [dif_pos (by omega)]; exact hK _ _ (Below.refl _ _) rfl)
            | (rw [if_neg (by omega)]; exact hK _ _ (Below.refl _ _) rfl)
        · intro vals W K hG hU hV hK
          simp only [if_true] at hK
          have d9 := hV 9 (by simp)
          simp only [stV] at d9
          simp only [Reg.putS, List.foldl, List.headD, List.tail, List.getD_cons_zero, List.getD_cons_succ, Act.put, List.setIfInBounds_toArray, List.set_cons_zero, List.set_cons_succ, d9] at hK ⊢
          have hcl := pw_cell_below hG f2
          go_simp
          first
            | exact hK _ _ (Below.refl _ _) rfl
            | (rw [if_pos (by omega)]; exact hK _ _ (Below.refl _ _) rfl)
            | (rw [dif_pos (by omega)]; exact hK _ _ (Below.refl _ _) rfl)
            | (rw [if_neg (by omega)]; exact hK _ _ (Below.refl _ _) rfl)
        · intro vals W K hG hU hV hK
          simp only [if_true] at hK
          simp only [Reg.putS, List.foldl, List.headD, List.tail, List.getD_cons_zero, List.getD_cons_succ, Act.put, List.setIfInBounds_toArray, List.set_cons_zero, List.set_cons_succ] at hK ⊢
          go_simp
          first
            | exact hK _ _ (Below.refl _ _) rfl
            | (rw [if_pos (by omega)]; exact hK _ _ (Below.refl _ _) rfl)
            | (rw [dif_pos (by omega)]; exact hK _ _ (Below.refl _ _) rfl)
            | (rw [if_neg (by omega)]; exact hK _ _ (Below.refl _ _) rfl)
        · intro vals W K hG hU hV hK
          simp only [if_true] at hK
          have d10 := hV 10 (by simp)
          simp only [stV] at d10
          have d11 := hV 11 (by simp)
          simp only [stV] at d11
          simp only [Reg.putS, List.foldl, List.headD, List.tail, List.getD_cons_zero, List.getD_cons_succ, Act.put, List.setIfInBounds_toArray, List.set_cons_zero, List.set_cons_succ, d10, d11] at hK ⊢
          go_simp
          first
            | exact hK _ _ (Below.refl _ _) rfl
            | (rw [if_pos (by omega)]; exact hK _ _ (Below.refl _ _) rfl)
            | (rw [dif_pos (by omega)]; exact hK _ _ (Below.refl _ _) rfl)
            | (rw [if_neg (by omega)]; exact hK _ _ (Below.refl _ _) rfl)
        · intro vals W K hG hU hV hK
          simp only [if_true] at hK
          have d12 := hV 12 (by simp)
          simp only [stV] at d12
          simp only [Reg.putS, List.foldl, List.headD, List.tail, List.getD_cons_zero, List.getD_cons_succ, Act.put, List.setIfInBounds_toArray, List.set_cons_zero, List.set_cons_succ, d12] at hK ⊢
          have hcl := pw_cell_below hG f3
          go_simp
          first
            | exact hK _ _ (Below.refl _ _) rfl
            | (rw [if_pos (by omega)]; exact hK _ _ (Below.refl _ _) rfl)
            | (rw [dif_pos (by omega)]; exact hK _ _ (Below.refl _ _) rfl)
            | (rw [if_neg (by omega)]; exact hK _ _ (Below.refl _ _) rfl)
        · intro vals W K hG hU hV hK
          simp only [if_true] at hK
          have d6 := hV 6 (by simp)
          simp only [stV] at d6
          have d13 := hV 13 (by simp)
          simp only [stV] at d13
          simp only [Reg.putS, List.foldl, List.headD, List.tail, List.getD_cons_zero, List.getD_cons_succ, Act.put, List.setIfInBounds_toArray, List.set_cons_zero, List.set_cons_succ, d6, d13] at hK ⊢
          go_simp
          refine (SM.out W hG).mono ?_
          rintro e w2 ⟨rfl, hb⟩
          exact hK _ _ hb rfl
        · intro vals W K hG hU hV hK
          simp only [if_true] at hK
          have d14 := hV 14 (by simp)
          simp only [stV] at d14
          simp only [Reg.putS, List.foldl, List.headD, List.tail, List.getD_cons_zero, List.getD_cons_succ, Act.put, List.setIfInBounds_toArray, List.set_cons_zero, List.set_cons_succ, d14] at hK ⊢
          go_simp
          first
            | exact hK _ _ (Below.refl _ _) rfl
            | (rw [if_pos (by omega)]; exact hK _ _ (Below.refl _ _) rfl)
            | (rw [dif_pos (by omega)]; exact hK _ _ (Below.refl _ _) rfl)
            | (rw [if_neg (by omega)]; exact hK _ _ (Below.refl _ _) rfl)
      · intro vals W hG hV
        rw [show List.range (List.length [some 13, some 14, some 15, some 16, some 17, some 18, some 19, some 20, some 21, some 22, some 23, some 24, some 25, some 26, some 27, some 28]) = [0, 1, 2, 3, 4, 5, 6, 7, 8, 9, 10, 11, 12, 13, 14, 15] from rfl]
        have d0 := hV 0 (by decide)
        simp only [stV] at d0
        have d1 := hV 1 (by decide)
        simp only [stV] at d1
        have d2 := hV 2 (by decide)
        simp only [stV] at d2
        have d3 := hV 3 (by decide)
        simp only [stV] at d3
        have d4 := hV 4 (by decide)
        simp only [stV] at d4
        have d5 := hV 5 (by decide)
        simp only [stV] at d5
        have d6 := hV 6 (by decide)
        simp only [stV] at d6
        have d7 := hV 7 (by decide)
        simp only [stV] at d7
        have d8 := hV 8 (by decide)
        simp only [stV] at d8
        have d9 := hV 9 (by decide)
        simp only [stV] at d9
        have d10 := hV 10 (by decide)
        simp only [stV] at d10
        have d11 := hV 11 (by decide)
        simp only [stV] at d11
        have d12 := hV 12 (by decide)
        simp only [stV] at d12
        have d13 := hV 13 (by decide)
        simp only [stV] at d13
        have d14 := hV 14 (by decide)
        simp only [stV] at d14
        have d15 := hV 15 (by decide)
        simp only [stV] at d15
        clear hV
        simp only [Reg.putS, List.foldl, List.getD_cons_zero, List.getD_cons_succ, Act.put, List.setIfInBounds_toArray, List.set_cons_zero, List.set_cons_succ, d0, d1, d2, d3, d4, d5, d6, d7, d8, d9, d10, d11, d12, d13, d14, d15]
        clear d0 d1 d2 d3 d4 d5 d6 d7 d8 d9 d10 d11 d12 d13 d14 d15
        clear f0 f1 f2 f3 SM
        go_wp2
        go_roundg (n - (k + 1))
        case measure => omega
        case rel => exact ⟨k + 1, hlt, Nat.le_refl _, rfl, bstep bel hG⟩
    · have hltz : ¬ (k : Int) < (n : Int) := by omega
      have f0 := pw_cell_below bel b0
      go_wp2
      go_ret
      exact ⟨rfl, bel⟩
def mkV (w0 : World) (k n gV cV m c1 : Nat) (A1 : Option Addr) (i : Nat) (pv v : Value) (W : World) : Prop := match i with
  | 0 => v = .slice (some ⟨gV, 0, none⟩) n cV
  | 1 => v = .int .i64 (k : Int)
  | 2 => v = .pointer (some ⟨gV, k, none⟩)
  | 3 => v = .slice A1 m c1
  | 4 => v = .int .i64 (k : Int)
  | 5 => v = .slice (some ⟨gV, 0, none⟩) n cV
  | 6 => v = .int .i64 (k : Int)
  | 7 => v = .pointer (some ⟨gV, k, none⟩)
  | 8 => v = .slice A1 m c1
  | 9 => v = .int .i64 (m : Int)
  | 10 => ∃ A2 c2, v = .slice A2 m c2 ∧ At W A2 (marks k 0 m)
  | 11 => v = .bool true
  | 12 => v = .bool false
  | _ => True
theorem mkV_stay {w0 : World} {k n gV cV m c1 : Nat} {A1 : Option Addr} {j : Nat} {p v : Value} {W W' : World} (h : mkV w0 k n gV cV m c1 A1 j p v W) (hb : RowKit.Below W.heap.size W W') : mkV w0 k n gV cV m c1 A1 j p v W' := by
  unfold mkV at h ⊢
  split at h
  case h_11 => obtain ⟨A2, c2, e, ha⟩ := h; exact ⟨A2, c2, e, ha.below hb⟩
  all_goals exact h
/-- Headers of lists that bear their marks. -/
def MarkedVs (w : World) (vs : List Value) : Prop := ∀ (k : Nat) (v : Value), vs[k]? = some v → ∃ A m c, v = .slice A m c ∧ m ≤ 1500000 ∧ At w A (marks k 0 m)
set_option maxHeartbeats 2000000 in
set_option maxRecDepth 100000 in
theorem marked_call {B n : Nat} {V : Value} {vs : List Value} (w : World) (hv : w.ownsRow B 52 1 V n vs) (hn : n ≤ 250) (hm : MarkedVs w vs) :
    Calls Tryz.prog 70 #[V] w fun e w' => e = .returned (.bool true) ∧ RowKit.Below w.heap.size w w' := by
  have mixed : Tryz.prog.follows .mixedOrders = true := by kernel_rfl
  obtain ⟨AV, cV, rfl, fV⟩ := own_form hv
  have HN : Hid (vs.length = n) := by show _ = _; have := hv.1; omega
  have FV : Hid _ := fV
  have HM : Hid _ := hm
  clear fV hm hv
  go_enter Tryz.func70, Tryz.ntmps70
  go_wp2_with fail
  go_loopg [3] n (fun kx s3 wr => ∃ (k : Nat), k ≤ n ∧ n - k ≤ kx ∧ s3 = .int .i64 (k : Int) ∧ RowKit.Below w.heap.size w wr)
  case atStart => exact ⟨0, Nat.zero_le _, Nat.le_refl _, rfl, Below.refl _ _⟩
  case round =>
    obtain ⟨w0, rfl⟩ : ∃ x, x = wr := ⟨_, rfl⟩
    obtain ⟨k, hk, hkx, rfl, bel⟩ := hrel
    by_cases hlt : k < n
    · have hltz : (k : Int) < (n : Int) := by omega
      obtain ⟨x, hx⟩ : ∃ x, vs[k]? = some x := ⟨_, List.getElem?_eq_getElem (by have := HN.out; omega)⟩
      obtain ⟨gV, rfl, -, kV⟩ := FV.out (by omega)
      obtain ⟨A1, m, c1, rfl, hm6, a1⟩ := HM.out k x hx
      have f1 := pw_cell_below bel (kV k _ hx)
      have hk3 : k ≤ 300 := by omega
      have SM : Hid (∀ X, RowKit.Below w0.heap.size w0 X → ∀ A2 c2, At X A2 (marks k 0 m) → Calls Tryz.prog 26 #[.slice A1 m c1, .slice A2 m c2] X fun e w' => e = .returned (.bool true) ∧ RowKit.Below X.heap.size X w') := by
        show ∀ X, _
        intro X hX A2 c2 a2
        have hb := bstep bel hX
        refine (same_call A1 A2 _ _ c1 c2 (marks k 0 m) (marks k 0 m) X (marks_length _ _ _).symm (marks_length _ _ _).symm (a1.below hb) a2 (by omega) (by omega)).mono ?_
        rintro e w' ⟨rfl, hb2⟩
        exact ⟨by simp, hb2⟩
      have zk : IntKind.i64.wrap ((k : Int) + 1) = (k : Int) + 1 := by rw [IntKind.wrap_i64]; omega
      clear hx kV a1
      go_wp2_with fail
      refine RegU.wp_region_lists (RowKit.Below w0.heap.size w0) (fun _ _ => True) (fun _ W W' => RowKit.Below W.heap.size W W') (fun i => i) (mkV w0 k n gV cV m c1 A1)
        [some 10, some 11, some 12, some 13, some 14, some 15, some 16, some 17, some 18, some 19, some 20, some 21, some 22]
        [[], [], [0, 1], [2], [], [], [], [5, 6], [7], [8], [4, 9], [3, 10, 10], [11]]
        (by kernel_rfl) (by kernel_rfl) (by kernel_rfl) (fun i => .inl rfl) ?_ ?_ ?_ ?_ ?_ ?_ ?_
      · exact ⟨rfl, rfl, rfl, Nat.le_refl _, fun _ _ => rfl⟩
      · intro i; trivial
      · intro i W W' h k2; exact h.trans (k2.mono h.size)
      · intros; trivial
      · intro j i p v W W' h1 h2 h3 h4; exact mkV_stay h3 h4
      · refine ⟨?_, ?_, ?_, ?_, ?_, ?_, ?_, ?_, ?_, ?_, ?_, ?_, ?_, trivial⟩
        · intro vals W K hG hU hV hK
          simp only [if_true] at hK
          simp only [Reg.putS, List.foldl, List.headD, List.tail, List.getD_cons_zero, List.getD_cons_succ, Act.put, List.setIfInBounds_toArray, List.set_cons_zero, List.set_cons_succ] at hK ⊢
          go_simp
          first
            | exact hK _ _ (Below.refl _ _) rfl
            | (rw [if_pos (by omega)]; exact hK _ _ (Below.refl _ _) rfl)
            | (rw [dif_pos (by omega)]; exact hK _ _ (Below.refl _ _) rfl)
            | (rw [if_neg (by omega)]; exact hK _ _ (Below.refl _ _) rfl)
        · intro vals W K hG hU hV hK
          simp only [if_true] at hK
          simp only [Reg.putS, List.foldl, List.headD, List.tail, List.getD_cons_zero, List.getD_cons_succ, Act.put, List.setIfInBounds_toArray, List.set_cons_zero, List.set_cons_succ] at hK ⊢
          go_simp
          first
            | exact hK _ _ (Below.refl _ _) rfl
            | (rw [if_pos (by omega)]; exact hK _ _ (Below.refl _ _) rfl)
            | (rw [dif_pos (by omega)]; exact hK _ _ (Below.refl _ _) rfl)
            | (rw [if_neg (by omega)]; exact hK _ _ (Below.refl _ _) rfl)
        · intro vals W K hG hU hV hK
          simp only [if_true] at hK
          have d0 := hV 0 (by simp)
          simp only [mkV] at d0
          have d1 := hV 1 (by simp)
          simp only [mkV] at d1
          simp only [Reg.putS, List.foldl, List.headD, List.tail, List.getD_cons_zero, List.getD_cons_succ, Act.put, List.setIfInBounds_toArray, List.set_cons_zero, List.set_cons_succ, d0, d1] at hK ⊢
          go_simp
          first
            | exact hK _ _ (Below.refl _ _) rfl
            | (rw [if_pos (by omega)]; exact hK _ _ (Below.refl _ _) rfl)
            | (rw [dif_pos (by omega)]; exact hK _ _ (Below.refl _ _) rfl)
            | (rw [if_neg (by omega)]; exact hK _ _ (Below.refl _ _) rfl)
        · intro vals W K hG hU hV hK
          simp only [if_true] at hK
          have d2 := hV 2 (by simp)
          simp only [mkV] at d2
          simp only [Reg.putS, List.foldl, List.headD, List.tail, List.getD_cons_zero, List.getD_cons_succ, Act.put, List.setIfInBounds_toArray, List.set_cons_zero, List.set_cons_succ, d2] at hK ⊢
          have hcl := pw_cell_below hG f1
          go_simp
          first
            | exact hK _ _ (Below.refl _ _) rfl
            | (rw [if_pos (by omega)]; exact hK _ _ (Below.refl _ _) rfl)
            | (rw [dif_pos (by omega)]; exact hK _ _ (Below.refl _ _) rfl)
            | (rw [if_neg (by omega)]; exact hK _ _ (Below.refl _ _) rfl)
        · intro vals W K hG hU hV hK
          simp only [if_true] at hK
          simp only [Reg.putS, List.foldl, List.headD, List.tail, List.getD_cons_zero, List.getD_cons_succ, Act.put, List.setIfInBounds_toArray, List.set_cons_zero, List.set_cons_succ] at hK ⊢
          go_simp
          first
            | exact hK _ _ (Below.refl _ _) rfl
            | (rw [if_pos (by omega)]; exact hK _ _ (Below.refl _ _) rfl)
            | (rw [dif_pos (by omega)]; exact hK _ _ (Below.refl _ _) rfl)
            | (rw [if_neg (by omega)]; exact hK _ _ (Below.refl _ _) rfl)
        · intro vals W K hG hU hV hK
          simp only [if_true] at hK
          simp only [Reg.putS, List.foldl, List.headD, List.tail, List.getD_cons_zero, List.getD_cons_succ, Act.put, List.setIfInBounds_toArray, List.set_cons_zero, List.set_cons_succ] at hK ⊢
          go_simp
          first
            | exact hK _ _ (Below.refl _ _) rfl
            | (rw [if_pos (by omega)]; exact hK _ _ (Below.refl _ _) rfl)
            | (rw [dif_pos (by omega)]; exact hK _ _ (Below.refl _ _) rfl)
            | (rw [if_neg (by omega)]; exact hK _ _ (Below.refl _ _) rfl)
        · intro vals W K hG hU hV hK
          simp only [if_true] at hK
          simp only [Reg.putS, List.foldl, List.headD, List.tail, List.getD_cons_zero, List.getD_cons_succ, Act.put, List.setIfInBounds_toArray, List.set_cons_zero, List.set_cons_succ] at hK ⊢
          go_simp
          first
            | exact hK _ _ (Below.refl _ _) rfl
            | (rw [if_pos (by omega)]; exact hK _ _ (Below.refl _ _) rfl)
            | (rw [dif_pos (by omega)]; exact hK _ _ (Below.refl _ _) rfl)
            | (rw [if_neg (by omega)]; exact hK _ _ (Below.refl _ _) rfl)
        · intro vals W K hG hU hV hK
          simp only [if_true] at hK
          have d5 := hV 5 (by simp)
          simp only [mkV] at d5
          have d6 := hV 6 (by simp)
          simp only [mkV] at d6
          simp only [Reg.putS, List.foldl, List.headD, List.tail, List.getD_cons_zero, List.getD_cons_succ, Act.put, List.setIfInBounds_toArray, List.set_cons_zero, List.set_cons_succ, d5, d6] at hK ⊢
          go_simp
          first
            | exact hK _ _ (Below.refl _ _) rfl
            | (rw [if_pos (by omega)]; exact hK _ _ (Below.refl _ _) rfl)
            | (rw [dif_pos (by omega)]; exact hK _ _ (Below.refl _ _) rfl)
            | (rw [if_neg (by omega)]; exact hK _ _ (Below.refl _ _) rfl)
        · intro vals W K hG hU hV hK
          simp only [if_true] at hK
          have d7 := hV 7 (by simp)
          simp only [mkV] at d7
          simp only [Reg.putS, List.foldl, List.headD, List.tail, List.getD_cons_zero, List.getD_cons_succ, Act.put, List.setIfInBounds_toArray, List.set_cons_zero, List.set_cons_succ, d7] at hK ⊢
          have hcl := pw_cell_below hG f1
          go_simp
          first
            | exact hK _ _ (Below.refl _ _) rfl
            | (rw [if_pos (by omega)]; exact hK _ _ (Below.refl _ _) rfl)
            | (rw [dif_pos (by omega)]; exact hK _ _ (Below.refl _ _) rfl)
            | (rw [if_neg (by omega)]; exact hK _ _ (Below.refl _ _) rfl)
        · intro vals W K hG hU hV hK
          simp only [if_true] at hK
          have d8 := hV 8 (by simp)
          simp only [mkV] at d8
          simp only [Reg.putS, List.foldl, List.headD, List.tail, List.getD_cons_zero, List.getD_cons_succ, Act.put, List.setIfInBounds_toArray, List.set_cons_zero, List.set_cons_succ, d8] at hK ⊢
          go_simp
          first
            | exact hK _ _ (Below.refl _ _) rfl
            | (rw [if_pos (by omega)]; exact hK _ _ (Below.refl _ _) rfl)
            | (rw [dif_pos (by omega)]; exact hK _ _ (Below.refl _ _) rfl)
            | (rw [if_neg (by omega)]; exact hK _ _ (Below.refl _ _) rfl)
        · intro vals W K hG hU hV hK
          simp only [if_true] at hK
          have d4 := hV 4 (by simp)
          simp only [mkV] at d4
          have d9 := hV 9 (by simp)
          simp only [mkV] at d9
          simp only [Reg.putS, List.foldl, List.headD, List.tail, List.getD_cons_zero, List.getD_cons_succ, Act.put, List.setIfInBounds_toArray, List.set_cons_zero, List.set_cons_succ, d4, d9] at hK ⊢
          go_simp
          refine (mark_call k 0 m W hk3 (by omega)).mono ?_
          rintro e w2 ⟨v2, rfl, hr, hb⟩
          obtain ⟨A2, c2, rfl, ha⟩ := row_at hr
          exact hK _ _ hb ⟨A2, c2, by rw [marks_length], ha⟩
        · intro vals W K hG hU hV hK
          simp only [if_true] at hK
          have d3 := hV 3 (by simp)
          simp only [mkV] at d3
          have d10 := hV 10 (by simp)
          simp only [mkV] at d10
          obtain ⟨A2, c2, d10, a2⟩ := d10
          simp only [Reg.putS, List.foldl, List.headD, List.tail, List.getD_cons_zero, List.getD_cons_succ, Act.put, List.setIfInBounds_toArray, List.set_cons_zero, List.set_cons_succ, d3, d10] at hK ⊢
          go_simp
          refine (SM.out W hG A2 c2 a2).mono ?_
          rintro e w2 ⟨rfl, hb⟩
          exact hK _ _ hb rfl
        · intro vals W K hG hU hV hK
          simp only [if_true] at hK
          have d11 := hV 11 (by simp)
          simp only [mkV] at d11
          simp only [Reg.putS, List.foldl, List.headD, List.tail, List.getD_cons_zero, List.getD_cons_succ, Act.put, List.setIfInBounds_toArray, List.set_cons_zero, List.set_cons_succ, d11] at hK ⊢
          go_simp
          first
            | exact hK _ _ (Below.refl _ _) rfl
            | (rw [if_pos (by omega)]; exact hK _ _ (Below.refl _ _) rfl)
            | (rw [dif_pos (by omega)]; exact hK _ _ (Below.refl _ _) rfl)
            | (rw [if_neg (by omega)]; exact hK _ _ (Below.refl _ _) rfl)
      · intro vals W hG hV
        rw [show List.range (List.length [some 10, some 11, some 12, some 13, some 14, some 15, some 16, some 17, some 18, some 19, some 20, some 21, some 22]) = [0, 1, 2, 3, 4, 5, 6, 7, 8, 9, 10, 11, 12] from rfl]
        have d0 := hV 0 (by decide)
        simp only [mkV] at d0
        have d1 := hV 1 (by decide)
        simp only [mkV] at d1
        have d2 := hV 2 (by decide)
        simp only [mkV] at d2
        have d3 := hV 3 (by decide)
        simp only [mkV] at d3
        have d4 := hV 4 (by decide)
        simp only [mkV] at d4
        have d5 := hV 5 (by decide)
        simp only [mkV] at d5
        have d6 := hV 6 (by decide)
        simp only [mkV] at d6
        have d7 := hV 7 (by decide)
        simp only [mkV] at d7
        have d8 := hV 8 (by decide)
        simp only [mkV] at d8
        have d9 := hV 9 (by decide)
        simp only [mkV] at d9
        have d10 := hV 10 (by decide)
        simp only [mkV] at d10
        obtain ⟨A2, c2, d10, a2⟩ := d10
        have d11 := hV 11 (by decide)
        simp only [mkV] at d11
        have d12 := hV 12 (by decide)
        simp only [mkV] at d12
        clear hV
        simp only [Reg.putS, List.foldl, List.getD_cons_zero, List.getD_cons_succ, Act.put, List.setIfInBounds_toArray, List.set_cons_zero, List.set_cons_succ, d0, d1, d2, d3, d4, d5, d6, d7, d8, d9, d11, d12]
        clear d0 d1 d2 d3 d4 d5 d6 d7 d8 d9 d11 d12
        clear f1 SM
        go_wp2
        go_roundg (n - (k + 1))
        case measure => omega
        case rel => exact ⟨k + 1, hlt, Nat.le_refl _, rfl, bstep bel hG⟩
    · have hltz : ¬ (k : Int) < (n : Int) := by omega
      go_wp2
      go_ret
      exact ⟨rfl, bel⟩
end Go.Proofs.YtdeeeechdlcdbaaGreat.BkHits
