/- Lists that are kept (lexiphanebook): facts without a walk. -/
import Derived.Test.YtdeeeechdlcdbaaGreatBase
import Derived.Test.YtdeeeechdlcdbaaGreatKeep
import Derived.Test.YtdeeeechdlcdbaaGreatRg
import Derived.Test.YtdeeeechdlcdbaaGreatStep
import Derived.Lib.Hide
import Derived.Laws.BitsLemmas
import Derived.Test.YtdeeeechdlcdbaaGreatProg
import Derived.Sort.WalkB2
import Derived.Sort.WalkB12
import Derived.Deep.LoopGhost
import Derived.BigQuiet
import Derived.Deep.DeepCutAuto
import Derived.Deep.CutBlock
set_option linter.unusedVariables false
set_option linter.unusedSimpArgs false
namespace Go.Proofs.YtdeeeechdlcdbaaGreat.MBytes
open Go Go.RowKit Go.Lib Go.Sort Go.Proofs Go.Proofs.YtdeeeechdlcdbaaGreat.Base
variable {oth : Nat → Value}
theorem infoE : (Tryz.prog.info? 5).map (fun i => (i.zero, i.size, i.bytes)) = some (some (.int .u8 0), 1, 1) := by kernel_rfl
theorem infoL : (Tryz.prog.info? 63).map (fun i => (i.zero, i.size, i.bytes)) = some (some (.slice none 0 0), 1, 24) := by kernel_rfl
abbrev L := Value × List Int
/-- Whole numbers, to be read. -/
def At (w : World) (A : Option Addr) (zs : List Int) : Prop := 0 < zs.length → ∃ b off, A = some ⟨b, off, none⟩ ∧ b < w.heap.size ∧ ∀ j, j < zs.length → w.cell? ⟨b, off + j, none⟩ = some (.int .u8 (zs.getD j 0))
def Row (B : Nat) (w : World) (x : L) : Prop := w.ownsRow B 5 1 x.1 x.2.length (x.2.map (Value.int .u8))
def Apt (x y : Value) : Prop := ∀ g, x.ownBlock = some g → y.ownBlock ≠ some g
structure Rows (B : Nat) (w : World) (ls : List L) : Prop where
 own : ∀ x ∈ ls, Row B w x
 apart : ls.Pairwise fun x y => Apt x.1 y.1
def mark (i k : Nat) : Int := (3 * (i : Int) + (k : Int) + 1) % 256
def marks (i fr n : Nat) : List Int := (List.range n).map fun j => mark i (fr + j)
theorem marks_length (i fr n : Nat) : (marks i fr n).length = n := by simp [marks]
theorem marks_succ (i fr n : Nat) : marks i fr (n + 1) = marks i fr n ++ [mark i (fr + n)] := by simp [marks, List.range_succ]
theorem marks_append (i fr n : Nat) : ∀ m, marks i fr n ++ marks i (fr + n) m = marks i fr (n + m)
 | 0 => by simp [marks]
 | m + 1 => by rw [marks_succ, ← List.append_assoc, marks_append i fr n m, ← Nat.add_assoc, marks_succ, Nat.add_assoc]
theorem marks_getD (i fr n : Nat) {j : Nat} (h : j < n) : (marks i fr n).getD j 0 = mark i (fr + j) := by
 simp [marks, List.getD_eq_getElem?_getD, h]
theorem Apt.symm {x y : Value} (h : Apt x y) : Apt y x := fun g hy hx => h g hx hy
theorem At.below {w w' : World} {A : Option Addr} {zs : List Int} (h : At w A zs) (hb : RowKit.Below w.heap.size w w') : At w' A zs := fun h0 => by
 obtain ⟨b, off, rfl, hlt, hc⟩ := h h0
 exact ⟨b, off, rfl, Nat.lt_of_lt_of_le hlt hb.size, fun j hj => pw_cell_below hb (hc j hj)⟩
theorem Row.below {B : Nat} {w w' : World} {x : L} (h : Row B w x) (hb : RowKit.Below w.heap.size w w') : Row B w' x := own_below h hb
theorem Rows.below {B : Nat} {w w' : World} {ls : List L} (h : Rows B w ls) (hb : RowKit.Below w.heap.size w w') : Rows B w' ls := ⟨fun x hx => (h.own x hx).below hb, h.apart⟩
theorem own_mono {w : World} {base base' : Nat} {e : TypeId} {size : Nat} {v : Value} {n : Nat} {xs : List Value} (h : w.ownsRow base e size v n xs) (hb : base' ≤ base) : w.ownsRow base' e size v n xs := by
 refine ⟨h.1, ?_⟩
 rcases h.2 with h1 | ⟨g, cap, cur, h1, h2, h3⟩
 ·exact .inl h1
 ·exact .inr ⟨g, cap, cur, h1, Nat.le_trans hb h2, h3⟩
theorem Row.at {B : Nat} {w : World} {x : L} (h : Row B w x) : ∃ A c, x.1 = .slice A x.2.length c ∧ At w A x.2 := by
 obtain ⟨A, c, e, hc⟩ := own_form h
 refine ⟨A, c, e, fun h0 => ?_⟩
 obtain ⟨g, rfl, hg, hcs⟩ := hc h0
 refine ⟨g, 0, rfl, hg, fun j hj => ?_⟩
 rw [Nat.zero_add]
 exact hcs j _ (by simp [List.getD_eq_getElem?_getD, hj])
theorem row_at {B : Nat} {w : World} {v : Value} {zs : List Int} (h : Row B w (v, zs)) : ∃ A c, v = .slice A zs.length c ∧ At w A zs := h.at
theorem row_form {B : Nat} {w : World} {v : Value} {zs : List Int} (h : Row B w (v, zs)) : ∃ A c, v = .slice A zs.length c ∧ (0 < zs.length → ∃ g, A = some ⟨g, 0, none⟩ ∧ g < w.heap.size) := by
 obtain ⟨A, c, e, f⟩ := own_form h
 refine ⟨A, c, e, fun h0 => ?_⟩
 obtain ⟨g, h1, h2, _⟩ := f h0
 exact ⟨g, h1, h2⟩
/-- A row stays, where another one grows. -/
theorem Row.other {B : Nat} {w w' : World} {x : L} {v : Value} (h : Row B w x) (hg : w.grownBy w' v.ownBlock) (ha : Apt x.1 v) : Row B w' x := by
 refine World.ownsRow.kept h hg ?_
 cases hx : x.1.ownBlock with
 | none =>
  exact .inl rfl
 | some g => exact .inr (fun e => ha g hx e.symm)
/-- One row is another one now, in its own memory. -/
theorem Rows.set {B : Nat} {w w' : World} {ls : List L} {i : Nat} {x : L} {zs : List Int} (h : Rows B w ls) (hi : ls[i]? = some x) (hg : w.grownBy w' x.1.ownBlock) (hx : Row B w' (x.1, zs)) : Rows B w' (ls.set i (x.1, zs)) := by
 obtain ⟨hlt, rfl⟩ := List.getElem?_eq_some_iff.1 hi
 have hp := List.pairwise_iff_getElem.1 h.apart
 refine ⟨fun y hy => ?_, ?_⟩
 ·obtain ⟨j, hj, rfl⟩ := List.mem_iff_getElem.1 hy
  rw [List.length_set] at hj
  by_cases hij : i = j
  ·subst hij; rw [List.getElem_set_self]; exact hx
  ·rw [List.getElem_set_ne hij]
   refine (h.own _ (List.getElem_mem hj)).other hg ?_
   rcases Nat.lt_or_ge i j with hlt2 | hge
   ·exact (hp i j hlt hj hlt2).symm
   ·exact hp j i hj hlt (by omega)
 ·rw [List.pairwise_iff_getElem]
  intro a b ha hb hab
  rw [List.length_set] at ha hb
  have := hp a b ha hb hab
  rw [List.getElem_set, List.getElem_set]
  split <;> split <;> simp_all
theorem Rows.apt {B : Nat} {w : World} {ls : List L} (h : Rows B w ls) {i j : Nat} {x y : L} (hi : ls[i]? = some x) (hj : ls[j]? = some y) (hne : i ≠ j) : Apt x.1 y.1 := by
 obtain ⟨h1, rfl⟩ := List.getElem?_eq_some_iff.1 hi
 obtain ⟨h2, rfl⟩ := List.getElem?_eq_some_iff.1 hj
 have hp := List.pairwise_iff_getElem.1 h.apart
 rcases Nat.lt_or_ge i j with hlt | hge
 ·exact hp i j h1 h2 hlt
 ·exact (hp j i h2 h1 (by omega)).symm
/-- An append to an owned row: where it lies, and the elder slice shows what it showed. -/
theorem wp_append_both {P : Program} (w : World) {o : Oper} {a : Act} {K : Act → World → Prop} {Q : Exit → Act → World → Prop} (s x : Operand) (t : TypeId)
  (ho : o.op = .call { callee := .builtin .append, args := #[s, x], argTypes := #[t, t] })
  (base : Nat) (e : TypeId) (i : TypeInfo) (z : Value) (size bytes : Nat) (ht : P.underlying t = some (.slice e)) (hi : P.info? e = some i) (hz : i.zero = some z)
  (hsize : i.size = size) (hby : i.bytes = bytes) (hzs : z.cells.size = size) (hsz : 0 < size)
  (v : Value) (n : Nat) (xs : List Value) (hs : a.eval s = v) (hown : w.ownsRow base e size v n xs)
  (ad : Addr) (m c : Nat) (news : List Value) (hx : a.eval x = .slice (some ad) m c) (hl : news.length = m * size) (hnews : ∀ j u, news[j]? = some u → w.cell? (ad.add j) = some u) (h1 : ∀ u ∈ news, u.oneCell' = true)
  (h63 : n + m ≤ maxLen) (hbytes : (n + m) * bytes ≤ 140737488355328) (hbase : base ≤ w.heap.size)
  (h : ∀ v' w', w'.ownsRow base e size v' (n + m) (xs ++ news) → w.grownBy w' v.ownBlock → w'.ownsRow base e size v n xs → (v'.ownBlock = v.ownBlock ∨ ∀ g, v'.ownBlock = some g → w.heap.size ≤ g) → K (a.put o.dst v') w') : o.wp P a w K Q := by
 obtain ⟨v', w', hr, h2, h3, h4⟩ := Keep.run_append_keep (P := P) w base t o.type e i z size bytes ht hi hz hsize hby hzs hsz v n xs hown ad m c news hl hnews h1 h63 hbytes hbase
 have h5 : v'.ownBlock = v.ownBlock ∨ ∀ g, v'.ownBlock = some g → w.heap.size ≤ g := by
  rcases hown.2 with ⟨e1, e2⟩ | ⟨g, cap, cur, e1, hbg, hgc, hnc, hcm, hcs, htake⟩
  ·subst e1 e2
   have hx0 : xs = [] := List.eq_nil_of_length_eq_zero (by rw [hown.1]; simp)
   subst hx0
   obtain ⟨v2, w2, hr2, ho2, _⟩ := run_append_own (P := P) w w.heap.size t o.type e i z size bytes ht hi hz hsize hby hzs hsz (.slice none 0 0) 0 [] (World.ownsRow_nil _ _ _ _) ad m c news hl hnews h1 h63 hbytes (Nat.le_refl _)
   rw [hr] at hr2
   injection hr2 with e3 e4
   subst e3
   exact .inr (own_ge ho2)
  ·subst e1
   by_cases hroom : n + m ≤ cap
   ·obtain ⟨w2, hr2, _⟩ := run_append_fits (P := P) w base t o.type e i size ht hi hsize g n cap xs hown ad m c news hl hnews h1 hroom
    rw [hr] at hr2
    injection hr2 with e3 e4
    subst e3
    exact .inl rfl
   ·subst hsize hby
    have holds : ∀ j u, xs[j]? = some u → w.cell? ((⟨g, 0, none⟩ : Addr).add j) = some u := hown.cells (g := g) rfl
    have hsmall : n + m ≤ 9223372036854775807 := by simp only [maxLen] at h63; omega
    have hr2 := run_append_grow (P := P) w t o.type e i z ht hi hz ⟨g, 0, none⟩ n cap xs hown.1 holds ad m c news hl hnews (by omega) (by omega) (growslice_fits (by omega) hbytes)
    rw [hr] at hr2
    injection hr2 with e3 e4
    subst e3
    refine .inr fun g' hg' => ?_
    have : w.heap.size = g' := Option.some.inj hg'
    omega
 unfold Oper.wp execOp
 simp only [ho, resolve, invoke, builtin, Sem.run_bind, Sem.run_pure, Result.andThen_ok, List.map_toArray, List.map_cons, List.map_nil, hs, hx, hr]
 exact h v' w' h2 h3 h4 h5
theorem wpList_append_both {P : Program} (w : World) {ops : Array Oper} {rest : List Oper} {o : Oper} {a : Act} {Q : Exit → Act → World → Prop} (hgd : o.guard = none) (s x : Operand) (t : TypeId)
  (ho : o.op = .call { callee := .builtin .append, args := #[s, x], argTypes := #[t, t] })
  (base : Nat) (e : TypeId) (i : TypeInfo) (z : Value) (size bytes : Nat) (ht : P.underlying t = some (.slice e)) (hi : P.info? e = some i) (hz : i.zero = some z)
  (hsize : i.size = size) (hby : i.bytes = bytes) (hzs : z.cells.size = size) (hsz : 0 < size)
  (v : Value) (n : Nat) (xs : List Value) (hs : a.eval s = v) (hown : w.ownsRow base e size v n xs)
  (ad : Addr) (m c : Nat) (news : List Value) (hx : a.eval x = .slice (some ad) m c) (hl : news.length = m * size) (hnews : ∀ j u, news[j]? = some u → w.cell? (ad.add j) = some u) (h1 : ∀ u ∈ news, u.oneCell' = true)
  (h63 : n + m ≤ maxLen) (hbytes : (n + m) * bytes ≤ 140737488355328) (hbase : base ≤ w.heap.size)
  (h : ∀ v' w', w'.ownsRow base e size v' (n + m) (xs ++ news) → w.grownBy w' v.ownBlock → w'.ownsRow base e size v n xs → (v'.ownBlock = v.ownBlock ∨ ∀ g, v'.ownBlock = some g → w.heap.size ≤ g) → wpList P ops Q rest (a.put o.dst v') w') : wpList P ops Q (o :: rest) a w :=
 wpList_plain hgd fun K hK => wp_append_both (P := P) w s x t ho base e i z size bytes ht hi hz hsize hby hzs hsz v n xs hs hown ad m c news hx hl hnews h1 h63 hbytes hbase (fun v' w' k1 k2 k3 k4 => hK _ _ (h v' w' k1 k2 k3 k4))
theorem wpList_append_nothing {P : Program} (w : World) {ops : Array Oper} {rest : List Oper} {o : Oper} {a : Act} {Q : Exit → Act → World → Prop} (hgd : o.guard = none) (s x : Operand) (t : TypeId)
  (ho : o.op = .call { callee := .builtin .append, args := #[s, x], argTypes := #[t, t] })
  (base : Nat) (e : TypeId) (i : TypeInfo) (size : Nat) (ht : P.underlying t = some (.slice e)) (hi : P.info? e = some i)
  (v : Value) (n : Nat) (xs : List Value) (hs : a.eval s = v) (hown : w.ownsRow base e size v n xs) (c : Nat) (hx : a.eval x = .slice none 0 c)
  (h : wpList P ops Q rest (a.put o.dst v) w) : wpList P ops Q (o :: rest) a w :=
 wpList_plain hgd fun K hK => Keep.wp_append_nothing (P := P) w s x t ho base e i size ht hi v n xs hs hown c hx (hK _ _ h)
/-- The book. -/
def bookCells (oth : Nat → Value) (V W : Value) : Array Value := #[oth 0, oth 1, oth 2, oth 3, oth 4, oth 5, oth 6, oth 7, V, W]
structure BookAt (oth : Nat → Value) (B0 B : Nat) (w : World) (pb : Nat) (V W : Value) (ls : List L) (cs : List Value) : Prop where
 ge : B ≤ pb
 book : w.heap[pb]? = some (.cells (bookCells oth V W) 42 (0, 0))
 lists : w.ownsRow B 63 1 V ls.length (ls.map Prod.fst)
 copies : w.ownsRow B 63 1 W ls.length cs
 apt : Apt V W
 was : ∀ (j : Nat) (x : L), ls[j]? = some x → ∃ c, cs[j]? = some c ∧ Row B w (c, x.2)
 rows : Rows B0 w ls
def Book (oth : Nat → Value) (B0 B : Nat) (w : World) (pb : Nat) (ls : List L) : Prop := ∃ V W cs, BookAt oth B0 B w pb V W ls cs
theorem BookAt.below {B0 B : Nat} {w w' : World} {pb : Nat} {V W : Value} {ls : List L} {cs : List Value} (h : BookAt oth B0 B w pb V W ls cs) (hb : RowKit.Below w.heap.size w w') : BookAt oth B0 B w' pb V W ls cs :=
 ⟨h.ge, heap_below hb h.book, own_below h.lists hb, own_below h.copies hb, h.apt, fun j x hj => by obtain ⟨c, h1, h2⟩ := h.was j x hj; exact ⟨c, h1, h2.below hb⟩, h.rows.below hb⟩
theorem Book.below {B0 B : Nat} {w w' : World} {pb : Nat} {ls : List L} (h : Book oth B0 B w pb ls) (hb : RowKit.Below w.heap.size w w') : Book oth B0 B w' pb ls := by
 obtain ⟨V, W, cs, h⟩ := h
 exact ⟨V, W, cs, h.below hb⟩
theorem Rows.mono {B B' : Nat} {w : World} {ls : List L} (h : Rows B w ls) (hb : B' ≤ B) : Rows B' w ls := ⟨fun x hx => own_mono (h.own x hx) hb, h.apart⟩
theorem Book.mono {B0 B B' : Nat} {w : World} {pb : Nat} {ls : List L} (h : Book oth B0 B w pb ls) (h0 : B' ≤ B0) (h1 : B' ≤ B) : Book oth B' B' w pb ls := by
 obtain ⟨V, W, cs, h⟩ := h
 exact ⟨V, W, cs, Nat.le_trans h1 h.ge, h.book, own_mono h.lists h1, own_mono h.copies h1, h.apt, fun j x hj => by obtain ⟨c, k1, k2⟩ := h.was j x hj; exact ⟨c, k1, own_mono k2 h1⟩, h.rows.mono h0⟩
theorem Book.new {B0 B : Nat} {w : World} (h : B ≤ w.heap.size) : Book oth B0 B (w.alloc (.cells (bookCells oth (.slice none 0 0) (.slice none 0 0)) 42)) w.heap.size [] :=
 ⟨.slice none 0 0, .slice none 0 0, [], ⟨h, heap_new _ _, World.ownsRow_nil _ _ _ _, World.ownsRow_nil _ _ _ _, (fun g hg => by cases hg), (fun j x hj => by simp at hj), ⟨(fun x hx => by cases hx), .nil⟩⟩⟩
/-- What is no book, and no list of lists, stays. -/
def Stays (w w' : World) : Prop := ∀ (g : Nat) (o : Obj), w.heap[g]? = some o → (∀ cs m, o ≠ .cells cs 63 m) → (∀ cs m, o ≠ .cells cs 42 m) → w'.heap[g]? = some o
theorem Stays.row {B e size n : Nat} {w w' : World} {v : Value} {xs : List Value} (h : Stays w w') (ho : w.ownsRow B e size v n xs) (h1 : e ≠ 63) (h2 : e ≠ 42) : w'.ownsRow B e size v n xs := by
 refine ⟨ho.1, ?_⟩
 rcases ho.2 with h3 | ⟨g, cap, cur, e1, e2, e3, e4⟩
 ·exact .inl h3
 ·refine .inr ⟨g, cap, cur, e1, e2, h g _ e3 (fun cs m e => ?_) (fun cs m e => ?_), e4⟩
  ·injection e with _ e; exact h1 e
  ·injection e with _ e; exact h2 e
/-- Rows of two types lie apart. -/
theorem own_apt {w : World} {B B' e e' s s' n n' : Nat} {v v' : Value} {xs xs' : List Value} (h : w.ownsRow B e s v n xs) (h' : w.ownsRow B' e' s' v' n' xs') (hne : e ≠ e') : Apt v v' := by
 intro g hg hg'
 rcases h'.2 with ⟨rfl, _⟩ | ⟨g', cap, cur, rfl, _, hc, _⟩
 ·cases hg'
 ·have : g' = g := Option.some.inj hg'
  subst this
  exact own_ne h hc hne hg
/-- A slice's header, stored. -/
theorem step_store {P : Program} {A : Act} {aft : Array Edge} {pos : String} {ty T p t off x n c : Nat} {V : Option Addr} {W : World} {K : Act → World → Prop} (hz : ∀ w, (sizeOf T).run P w = .ok 1 w)
  (h1 : A.tmps[p]?.getD undef = .pointer (some ⟨t, off, none⟩)) (h2 : A.tmps[x]?.getD undef = .slice V n c)
  {u : Value} (hc0 : W.cell? ⟨t, off, none⟩ = some u) (hf0 : W.frozen? ⟨t, off, none⟩ = false) (hK : K A (W.setCell ⟨t, off, none⟩ (.slice V n c))) :
  Oper.wp P { dst := none, op := .store T (.tmp p) (.tmp x), type := ty, pos := pos, after := aft, guard := none } A W K (fun _ _ _ => False) := by
 have hzz := hz
 unfold Oper.wp
 go_simp
 exact hK
theorem Rows.stays {B : Nat} {w w' : World} {ls : List L} (h : Rows B w ls) (hs : Stays w w') : Rows B w' ls := ⟨fun x hx => hs.row (h.own x hx) (by decide) (by decide), h.apart⟩
theorem Stays.trans {w a b : World} (h : Stays w a) (k : Stays a b) : Stays w b := fun g o hg h1 h2 => k g o (h g o hg h1 h2) h1 h2
theorem Stays.of_below {w w' : World} (h : RowKit.Below w.heap.size w w') : Stays w w' := fun g o hg _ _ => heap_below h hg
theorem Stays.of_grown {B n : Nat} {w w' : World} {v : Value} {xs : List Value} (ho : w.ownsRow B 63 1 v n xs) (hg : w.grownBy w' v.ownBlock) : Stays w w' := fun g o h h1 h2 => by
 rw [hg.block g (heap_lt h) (fun e => ?_)]
 ·exact h
 ·rcases ho.2 with ⟨e1, _⟩ | ⟨g', cap, cur, e1, _, hc, _⟩
  ·rw [e1] at e; cases e
  ·rw [e1] at e
   have : g = g' := Option.some.inj e
   subst this
   rw [h] at hc
   injection hc with hc
   exact h1 _ _ hc
theorem Stays.of_set {w : World} {pb i : Nat} {cs : Array Value} {v : Value} (hb : w.heap[pb]? = some (.cells cs 42 (0, 0))) : Stays w (w.setCell ⟨pb, i, none⟩ v) := fun g o h h1 h2 => by
 have hne : pb ≠ g := fun e => by
  subst e
  rw [h] at hb
  injection hb with hb
  exact h2 _ _ hb
 rw [setCell_eq]
 unfold mapBlock
 show (w.heap.modify pb _)[g]? = _
 rw [Array.getElem?_modify, if_neg hne]
 exact h
/-- What is neither a row's memory nor a list of lists stays. -/
def TStays (w w' : World) : Prop := ∀ (g : Nat) (o : Obj), w.heap[g]? = some o → (∀ cs m, o ≠ .cells cs 5 m) → (∀ cs m, o ≠ .cells cs 63 m) → w'.heap[g]? = some o
theorem TStays.row {B e size n : Nat} {w w' : World} {v : Value} {xs : List Value} (h : TStays w w') (ho : w.ownsRow B e size v n xs) (h1 : e ≠ 5) (h2 : e ≠ 63) : w'.ownsRow B e size v n xs := by
 refine ⟨ho.1, ?_⟩
 rcases ho.2 with h3 | ⟨g, cap, cur, e1, e2, e3, e4⟩
 ·exact .inl h3
 ·refine .inr ⟨g, cap, cur, e1, e2, h g _ e3 (fun cs m e => ?_) (fun cs m e => ?_), e4⟩
  ·injection e with _ e; exact h1 e
  ·injection e with _ e; exact h2 e
structure BT (B : Nat) (w w' : World) : Prop where
 bel : RowKit.Below B w w'
 ts : TStays w w'
theorem BT.refl {B : Nat} (w : World) : BT B w w := ⟨Below.refl _ _, fun _ _ h _ _ => h⟩
theorem BT.size {B : Nat} {w w' : World} (h : BT B w w') : w.heap.size ≤ w'.heap.size := h.bel.size
theorem BT.step {B : Nat} {w a b : World} (h : BT B w a) (hb : RowKit.Below a.heap.size a b) (hB : B ≤ a.heap.size) : BT B w b := ⟨h.bel.trans (hb.mono hB), fun g o k h1 h2 => heap_below hb (h.ts g o k h1 h2)⟩
theorem BT.grown {B B' e s n : Nat} {w a b : World} {v : Value} {xs : List Value} (h : BT B w a) (ho : a.ownsRow B' e s v n xs) (he : e = 5 ∨ e = 63) (hg : a.grownBy b v.ownBlock) (hk : ∀ k, v.ownBlock = some k → B ≤ k) (hB : B ≤ a.heap.size) : BT B w b := by
 refine ⟨h.bel.trans ⟨hg.os, hg.tape, hg.output, hg.size, fun k h1 => hg.block k (Nat.lt_of_lt_of_le h1 hB) (fun e => by have := hk k e.symm; omega)⟩, fun g o k h1 h2 => ?_⟩
 have k2 := h.ts g o k h1 h2
 rw [hg.block g (heap_lt k2) (fun e => ?_)]
 ·exact k2
 ·rcases ho.2 with ⟨e1, _⟩ | ⟨g', cap, cur, e1, _, hc, _⟩
  ·rw [e1] at e; cases e
  ·rw [e1] at e
   have : g = g' := Option.some.inj e
   subst this
   rw [k2] at hc
   injection hc with hc
   rcases he with rfl | rfl
   ·exact h1 _ _ hc
   ·exact h2 _ _ hc
theorem below_alloc (w : World) (o : Obj) : RowKit.Below w.heap.size w (w.alloc o) := balloc (Below.refl _ _) _
theorem set_heap {W : World} {b : Nat} {cs : Array Value} {t : TypeId} (hh : W.heap[b]? = some (.cells cs t (0, 0))) (i : Nat) (v : Value) : (W.setCell ⟨b, i, none⟩ v).heap[b]? = some (.cells (cs.setIfInBounds i v) t (0, 0)) := by
 rw [setCell_eq]
 unfold mapBlock
 show (W.heap.modify b _)[b]? = _
 rw [Array.getElem?_modify, if_pos rfl, hh]
 rfl
theorem set_grown (W : World) (b i : Nat) (v : Value) : W.grownBy (W.setCell ⟨b, i, none⟩ v) (some b) := by
 refine ⟨rfl, rfl, rfl, ?_, fun k hk hne => ?_⟩
 ·have : (W.setCell ⟨b, i, none⟩ v).heap.size = W.heap.size := by simp [World.setCell]
  omega
 ·rw [setCell_eq]
  unfold mapBlock
  show (W.heap.modify b _)[k]? = _
  rw [Array.getElem?_modify, if_neg (fun e => hne (by rw [e]))]
/-- One list more. -/
theorem Rows.push {B : Nat} {w : World} {ls : List L} {x : L} (h : Rows B w ls) (hx : Row B w x) (ha : ∀ y ∈ ls, Apt y.1 x.1) : Rows B w (ls ++ [x]) := by
 refine ⟨fun y hy => ?_, ?_⟩
 ·rcases List.mem_append.1 hy with hy | hy
  ·exact h.own y hy
  ·rw [List.mem_singleton.1 hy]; exact hx
 ·rw [List.pairwise_append]
  refine ⟨h.apart, List.pairwise_singleton _ _, fun y hy z hz => ?_⟩
  rw [List.mem_singleton.1 hz]; exact ha y hy

theorem one_kind {l : List Int} : ∀ u ∈ l.map (Value.int .u8), u.oneCell' = true := by
 intro u hu
 obtain ⟨x, _, rfl⟩ := List.mem_map.1 hu
 rfl
set_option maxRecDepth 100000 in
theorem copy_call (A : Option Addr) (n c : Nat) (zs : List Int) (w : World) (hn : n = zs.length) (hat : At w A zs) (hle : n ≤ 1000000) :
  Calls Tryz.prog 79 #[.slice A n c] w fun e w' => ∃ v, e = .returned v ∧ Row w.heap.size w' (v, zs) ∧ RowKit.Below w.heap.size w w' := by
 obtain ⟨i3, hi3, hy0, hy1, hy2⟩ := info_parts infoE
 have HN : Hid (n = zs.length) := hn
 rcases A with _ | ad
 ·obtain rfl : n = 0 := by
   rcases Nat.eq_zero_or_pos n with h | h
   ·exact h
   ·obtain ⟨b, off, h1, _⟩ := hat (by omega)
    cases h1
  obtain rfl : zs = [] := List.eq_nil_of_length_eq_zero HN.out.symm
  clear hn hat HN
  go_enter Tryz.func79, Tryz.ntmps79
  go_wp2_with (first | (at_builtin; refine wpList_append_nothing _ rfl (.const (.slice none 0 0)) (.tmp 3) 63 rfl w.heap.size 5 i3 1 Tryz.underlying63 hi3 (.slice none 0 0) 0 [] rfl (World.ownsRow_nil _ _ _ _) c rfl ?_))
  go_ret
  exact ⟨_, rfl, World.ownsRow_nil _ _ _ _, Below.refl _ _⟩
 ·have hl : (zs.map (Value.int .u8)).length = n * 1 := by rw [List.length_map, Nat.mul_one, HN.out]
  have hc : ∀ j u, (zs.map (Value.int .u8))[j]? = some u → w.cell? (ad.add j) = some u := by
   intro j u hj
   rw [List.getElem?_map] at hj
   obtain ⟨z, hz, rfl⟩ := Option.map_eq_some_iff.1 hj
   obtain ⟨hjl, rfl⟩ := List.getElem?_eq_some_iff.1 hz
   obtain ⟨b, off, h1, _, h2⟩ := hat (by omega)
   injection h1 with h1
   subst h1
   rw [Addr.add_lit, h2 j hjl]
   simp [List.getD_eq_getElem?_getD, hjl]
  clear hn
  go_enter Tryz.func79, Tryz.ntmps79
  go_wp2_with (first | (at_builtin; refine wpList_append_own _ rfl (.const (.slice none 0 0)) (.tmp 3) 63 rfl w.heap.size 5 i3 _ 1 1 Tryz.underlying63 hi3 hy0 hy1 hy2 rfl (by decide) _ 0 [] rfl (World.ownsRow_nil _ _ _ _) ad n c (zs.map (Value.int .u8)) rfl hl hc one_kind ?d1 ?d2 (Nat.le_refl _) ?_))
  case d1 => unfold maxLen; omega
  case d2 => omega
  intro v w1 ho hg _
  have hrow : Row w.heap.size w1 (v, zs) := by unfold Row; rw [← HN.out]; simpa using ho
  have bel : RowKit.Below w.heap.size w w1 := (Below.refl _ _).grown hg (Nat.le_refl _) (fun k hk => by cases hk)
  obtain ⟨A1, c1, rfl, -⟩ := own_form ho
  clear ho hg hl hc hat
  go_wp2
  go_ret
  exact ⟨_, rfl, hrow, bel⟩
set_option maxHeartbeats 1000000 in
theorem mark_call (i fr n : Nat) (w : World) (hi : i ≤ 300) (hf : fr + n ≤ 2000000) :
  Calls Tryz.prog 100 #[.int .i64 (i : Int), .int .i64 (fr : Int), .int .i64 (n : Int)] w fun e w' => ∃ v, e = .returned v ∧ Row w.heap.size w' (v, marks i fr n) ∧ RowKit.Below w.heap.size w w' := by
 obtain ⟨i3, hi3, hy0, hy1, hy2⟩ := info_parts infoE
 obtain ⟨S, hS⟩ : ∃ S, fr + n = S := ⟨_, rfl⟩
 have hSq : fr + n ≤ S ∧ S ≤ fr + n := by omega
 have zS : IntKind.i64.wrap ((fr : Int) + (n : Int)) = (S : Int) := by rw [IntKind.wrap_i64]; omega
 clear hS
 go_enter Tryz.func100, Tryz.ntmps100
 go_wp2_with fail
 go_loopg [7, 8] n (fun kx s7 s8 wr => ∃ (k q : Nat), k ≤ n ∧ n - k ≤ kx ∧ (fr + k ≤ q ∧ q ≤ fr + k) ∧ s8 = .int .i64 (q : Int) ∧ wr.ownsRow w.heap.size 5 1 s7 k ((marks i fr k).map (Value.int .u8)) ∧ RowKit.Below w.heap.size w wr)
 case atStart => exact ⟨0, fr, Nat.zero_le _, Nat.le_refl _, by omega, rfl, World.ownsRow_nil _ _ _ _, Below.refl _ _⟩
 case round =>
  obtain ⟨k, q, hk, hkx, hq, rfl, ho, bel⟩ := hrel
  obtain ⟨A0, c0, rfl, -⟩ := own_form ho
  by_cases hlt : k < n
  ·have hltz : (q : Int) < (S : Int) := by omega
   have z1 : IntKind.i64.wrap (3 * (i : Int)) = 3 * (i : Int) := by rw [IntKind.wrap_i64]; omega
   have z2 : IntKind.i64.wrap (3 * (i : Int) + (q : Int)) = 3 * (i : Int) + (q : Int) := by rw [IntKind.wrap_i64]; omega
   have z2b : IntKind.i64.wrap (3 * (i : Int) + (q : Int) + 1) = 3 * (i : Int) + (q : Int) + 1 := by rw [IntKind.wrap_i64]; omega
   obtain ⟨mk, hmk⟩ : ∃ mk, mark i (fr + k) = mk := ⟨_, rfl⟩
   have z3 : IntKind.u8.wrap (3 * (i : Int) + (q : Int) + 1) = mk := by rw [IntKind.wrap_u8, ← hmk]; unfold mark; omega
   have hs := marks_succ i fr k
   have HM : Hid (mark i (fr + k) = mk) := hmk
   have HS : Hid _ := hs
   have ho2 := ho.alloc (.cells #[.int .u8 mk] 5)
   have bel2 := balloc bel (.cells #[.int .u8 mk] 5)
   have hsz2 := bel2.size
   have hh2 := heap_new wr (.cells #[.int .u8 mk] 5)
   clear hs hmk ho bel
   go_wp2_with (first | (at_builtin; refine wpList_append_own _ rfl (.tmp 17) (.tmp 24) 63 rfl w.heap.size 5 i3 _ 1 1 Tryz.underlying63 hi3 hy0 hy1 hy2 rfl (by decide) _ k ((marks i fr k).map (Value.int .u8)) rfl ho2 ⟨wr.heap.size, 0, none⟩ 1 1 [.int .u8 mk] rfl rfl ?e1 ?e2 ?e3 ?e4 hsz2 ?_))
   case e1 => intro j u hj; rw [Addr.add_lit, Nat.zero_add]; exact cell_of hh2 (by simpa using hj)
   case e2 => intro u hu; simp at hu; subst hu; rfl
   case e3 => unfold maxLen; omega
   case e4 => omega
   intro v3 w3 ho3 hg3 _
   have ho4 : w3.ownsRow w.heap.size 5 1 v3 (k + 1) ((marks i fr (k + 1)).map (Value.int .u8)) := by rw [HS.out, List.map_append, HM.out]; exact ho3
   have bel3 : RowKit.Below w.heap.size w w3 := bel2.grown hg3 hsz2 (own_ge ho2)
   obtain ⟨A3, c3, rfl, -⟩ := own_form ho3
   have zq : IntKind.i64.wrap ((q : Int) + 1) = (q : Int) + 1 := by rw [IntKind.wrap_i64]; omega
   clear ho3 hg3 ho2 bel2 hh2 hsz2
   go_wp2
   go_roundg (n - (k + 1))
   case measure => omega
   case rel => exact ⟨k + 1, q + 1, hlt, Nat.le_refl _, by omega, rfl, ho4, bel3⟩
  ·have hltz : ¬ (q : Int) < (S : Int) := by omega
   obtain rfl : k = n := by omega
   have hrow : Row w.heap.size wr (.slice A0 k c0, marks i fr k) := by unfold Row; simp only [marks_length]; exact ho
   clear ho
   go_wp2
   go_ret
   exact ⟨_, rfl, hrow, bel⟩
theorem same_aux {xs ys : List Int} (hl : xs.length = ys.length) (h : ∀ j, j < xs.length → xs.getD j 0 = ys.getD j 0) : xs = ys := by
 refine List.ext_getElem hl fun j h1 h2 => ?_
 have := h j h1
 simpa [List.getD_eq_getElem?_getD, h1, h2] using this
theorem below_drewN {B n : Nat} {w W : World} (h : RowKit.Below B w W) : RowKit.Below B w (W.drewN n) := ⟨h.os, h.tape, h.output, h.size, h.block⟩
set_option maxHeartbeats 2000000 in
set_option maxRecDepth 100000 in
theorem same_call (A V : Option Addr) (n1 n2 c1 c2 : Nat) (xs ys : List Int) (w : World) (h1 : n1 = xs.length) (h2 : n2 = ys.length) (ha : At w A xs) (hv : At w V ys) (hle : n1 ≤ 4611686018427387904) (hle2 : n2 ≤ 4611686018427387904) :
  Calls Tryz.prog 37 #[.slice A n1 c1, .slice V n2 c2] w fun e w' => e = .returned (.bool (decide (xs = ys))) ∧ RowKit.Below w.heap.size w w' := by
 have mixed : Tryz.prog.follows .mixedOrders = true := by kernel_rfl
 have H1 : Hid (n1 = xs.length) := h1
 have H2 : Hid (n2 = ys.length) := h2
 by_cases hnn : n1 = n2
 ·subst hnn
  have hd : ((n1 : Int) != (n1 : Int)) = false := by simp
  clear h1 h2
  go_enter Tryz.func37, Tryz.ntmps37
  go_wp2
  go_loopg [5] n1 (fun kx s5 wr => ∃ (k : Nat), k ≤ n1 ∧ n1 - k ≤ kx ∧ s5 = .int .i64 k ∧ Hid (∀ j, j < k → xs.getD j 0 = ys.getD j 0) ∧ RowKit.Below w.heap.size w wr)
  case atStart => exact ⟨0, Nat.zero_le _, Nat.le_refl _, rfl, (fun j hj => absurd hj (Nat.not_lt_zero _) : ∀ j, j < 0 → xs.getD j 0 = ys.getD j 0), Below.refl _ _⟩
  case round =>
   obtain ⟨k, hk, hkx, rfl, HE, bel⟩ := hrel
   by_cases hlt : k < n1
   ·have hltz : (k : Int) < (n1 : Int) := by omega
    have q1 := H1.out
    have q2 := H2.out
    obtain ⟨ba, oa, rfl, _, ca⟩ := ha (by omega)
    obtain ⟨bv, ov, rfl, _, cv⟩ := hv (by omega)
    have l1 := pw_cell_below bel (ca k (by omega))
    have l2 := pw_cell_below bel (cv k (by omega))
    have hne : xs.getD k 0 ≠ ys.getD k 0 → xs ≠ ys := fun h e => h (by rw [e])
    have hnx : xs.getD k 0 = ys.getD k 0 → ∀ j, j < k + 1 → xs.getD j 0 = ys.getD j 0 := fun h j hj => by
     by_cases e : j = k
     ·rw [e]; exact h
     ·exact HE.out j (by omega)
    generalize xs.getD k 0 = X at l1 hne hnx
    generalize ys.getD k 0 = Z at l2 hne hnx
    have zk : IntKind.i64.wrap ((k : Int) + 1) = (k : Int) + 1 := by rw [IntKind.wrap_i64]; omega
    by_cases hXZ : X = Z
    ·subst hXZ
     have HN : Hid _ := hnx rfl
     have hdx : (X != X) = false := by simp
     clear ca cv ha hv hne hnx q1 q2 HE
     go_wp2_with fail
     go_quiet (fail)
     have bel2 : RowKit.Below w.heap.size w _ := below_drewN (n := nq) bel
     clear bel
     go_wp2
     go_roundg (n1 - (k + 1))
     case measure => omega
     case rel => exact ⟨k + 1, hlt, Nat.le_refl _, rfl, HN, bel2⟩
    ·have hfin : Hid (decide (xs = ys) = false) := decide_eq_false (hne hXZ)
     have hdx : (X != Z) = true := by simp [hXZ]
     clear ca cv ha hv hne hnx q1 q2 HE
     go_wp2_with fail
     go_quiet (fail)
     have bel2 : RowKit.Below w.heap.size w _ := below_drewN (n := nq) bel
     clear bel
     go_wp2
     go_ret
     exact ⟨by rw [hfin.out]; rfl, bel2⟩
   ·have hltz : ¬ (k : Int) < (n1 : Int) := by omega
    obtain rfl : k = n1 := by omega
    have hfin : Hid (decide (xs = ys) = true) := decide_eq_true (same_aux (by rw [← H1.out, ← H2.out]) (fun j hj => HE.out j (by rw [H1.out]; exact hj)))
    clear HE ha hv
    go_wp2
    go_ret
    exact ⟨by rw [hfin.out]; rfl, bel⟩
 ·have hfin : Hid (decide (xs = ys) = false) := decide_eq_false (fun e => hnn (by rw [h1, h2, e]))
  have hd : ((n1 : Int) != (n2 : Int)) = true := by simp; omega
  clear h1 h2
  go_enter Tryz.func37, Tryz.ntmps37
  go_wp2
  go_ret
  exact ⟨by rw [hfin.out]; rfl, Below.refl _ _⟩

def stV (pb k n gV gW cV cW m c1 c2 : Nat) (A1 A2 : Option Addr) (i : Nat) (pv v : Value) (W : World) : Prop := match i with
 | 0 => v = .pointer (some ⟨pb, 0, none⟩)
 | 1 => v = .pointer (some ⟨pb, 0, none⟩)
 | 2 => v = .pointer (some ⟨pb, 8, none⟩)
 | 3 => v = .slice (some ⟨gV, 0, none⟩) n cV
 | 4 => v = .int .i64 (k : Int)
 | 5 => v = .pointer (some ⟨gV, k, none⟩)
 | 6 => v = .slice A1 m c1
 | 7 => v = .pointer (some ⟨pb, 0, none⟩)
 | 8 => v = .pointer (some ⟨pb, 0, none⟩)
 | 9 => v = .pointer (some ⟨pb, 9, none⟩)
 | 10 => v = .slice (some ⟨gW, 0, none⟩) n cW
 | 11 => v = .int .i64 (k : Int)
 | 12 => v = .pointer (some ⟨gW, k, none⟩)
 | 13 => v = .slice A2 m c2
 | 14 => v = .bool true
 | 15 => v = .bool false
 | _ => True
set_option maxHeartbeats 2000000 in
set_option maxRecDepth 100000 in
theorem still_call {B0 B pb : Nat} {V W : Value} {ls : List L} {cs : List Value} (w : World) (h : BookAt oth B0 B w pb V W ls cs) (hn : ls.length ≤ 250) (hlen : ∀ x ∈ ls, x.2.length ≤ 1000000) :
  Calls Tryz.prog 57 #[.pointer (some ⟨pb, 0, none⟩)] w fun e w' => e = .returned (.bool true) ∧ RowKit.Below w.heap.size w w' := by
 have mixed : Tryz.prog.follows .mixedOrders = true := by kernel_rfl
 obtain ⟨AV, cV, rfl, fV⟩ := own_form h.lists
 obtain ⟨AW, cW, rfl, fW⟩ := own_form h.copies
 obtain ⟨n, hnl⟩ : ∃ n, ls.length = n := ⟨_, rfl⟩
 have HN : Hid (ls.length = n) := hnl
 have b0 : w.cell? ⟨pb, 8, none⟩ = some (.slice AV n cV) := by rw [← hnl]; exact cell_of h.book rfl
 have b1 : w.cell? ⟨pb, 9, none⟩ = some (.slice AW n cW) := by rw [← hnl]; exact cell_of h.book rfl
 have FV : Hid _ := fV
 have FW : Hid _ := fW
 have HL : Hid _ := hlen
 have HB : Hid _ := h
 rw [hnl] at hn
 clear hnl fV fW hlen h
 go_enter Tryz.func57, Tryz.ntmps57
 go_wp2_with fail
 go_loopg [3] n (fun kx s3 wr => ∃ (k : Nat), k ≤ n ∧ n - k ≤ kx ∧ s3 = .int .i64 (k : Int) ∧ RowKit.Below w.heap.size w wr)
 case atStart => exact ⟨0, Nat.zero_le _, Nat.le_refl _, rfl, Below.refl _ _⟩
 case round =>
  obtain ⟨w0, rfl⟩ : ∃ x, x = wr := ⟨_, rfl⟩
  obtain ⟨k, hk, hkx, rfl, bel⟩ := hrel
  by_cases hlt : k < n
  ·have hltz : (k : Int) < (n : Int) := by omega
   obtain ⟨x, hx⟩ : ∃ x, ls[k]? = some x := ⟨_, List.getElem?_eq_getElem (by have := HN.out; omega)⟩
   obtain ⟨gV, rfl, -, kV⟩ := FV.out (by rw [HN.out]; omega)
   obtain ⟨gW, rfl, -, kW⟩ := FW.out (by rw [HN.out]; omega)
   obtain ⟨A1, c1, e1, a1⟩ := (HB.out.rows.own x (List.mem_of_getElem? hx)).at
   obtain ⟨cc, e2, a2'⟩ := HB.out.was k x hx
   obtain ⟨A2, c2, rfl, a2⟩ := row_at a2'
   have g1 : w.cell? ⟨gV, k, none⟩ = some (.slice A1 x.2.length c1) := kV k _ (by rw [List.getElem?_map, hx, ← e1]; rfl)
   have g2 : w.cell? ⟨gW, k, none⟩ = some (.slice A2 x.2.length c2) := kW k _ e2
   have f0 := pw_cell_below bel b0
   have f1 := pw_cell_below bel g1
   have f2 := pw_cell_below bel b1
   have f3 := pw_cell_below bel g2
   have SM : Hid (∀ X, RowKit.Below w0.heap.size w0 X → Calls Tryz.prog 37 #[.slice A1 x.2.length c1, .slice A2 x.2.length c2] X fun e w' => e = .returned (.bool true) ∧ RowKit.Below X.heap.size X w') := by
    show ∀ X, _
    intro X hX
    have hb := bstep bel hX
    have hl := HL.out x (List.mem_of_getElem? hx)
    refine (same_call A1 A2 _ _ c1 c2 x.2 x.2 X rfl rfl (a1.below hb) (a2.below hb) (by omega) (by omega)).mono ?_
    rintro e w' ⟨rfl, hb2⟩
    exact ⟨by simp, hb2⟩
   obtain ⟨m, hm⟩ : ∃ m, x.2.length = m := ⟨_, rfl⟩
   rw [hm] at f1 f3 SM
   have zk : IntKind.i64.wrap ((k : Int) + 1) = (k : Int) + 1 := by rw [IntKind.wrap_i64]; omega
   clear hx kV kW e1 a1 e2 a2 a2' g1 g2 hm
   go_wp2_with fail
   refine RegU.wp_region_lists (RowKit.Below w0.heap.size w0) (fun _ _ => True) (fun _ W W' => RowKit.Below W.heap.size W W') (fun i => i) (stV pb k n gV gW cV cW m c1 c2 A1 A2)
    [some 13, some 14, some 15, some 16, some 17, some 18, some 19, some 20, some 21, some 22, some 23, some 24, some 25, some 26, some 27, some 28]
    [[], [0], [1], [2], [], [3, 4], [5], [], [7], [8], [9], [], [10, 11], [12], [6, 13], [14]]
    (by kernel_rfl) (by kernel_rfl) (by kernel_rfl) (fun i => .inl rfl) ?_ ?_ ?_ ?_ ?_ ?_ ?_
   ·exact ⟨rfl, rfl, rfl, Nat.le_refl _, fun _ _ => rfl⟩
   ·intro i; trivial
   ·intro i W W' h k2; exact h.trans (k2.mono h.size)
   ·intros; trivial
   ·intro j i p v W W' h1 h2 h3 h4; exact h3
   ·refine ⟨?_, ?_, ?_, ?_, ?_, ?_, ?_, ?_, ?_, ?_, ?_, ?_, ?_, ?_, ?_, ?_, trivial⟩
    ·intro vals W K hG hU hV hK
     simp only [if_true] at hK
     simp only [Reg.putS, List.foldl, List.headD, List.tail, List.getD_cons_zero, List.getD_cons_succ, Act.put, List.setIfInBounds_toArray, List.set_cons_zero, List.set_cons_succ] at hK ⊢
     go_simp
     exact hK _ _ (Below.refl _ _) rfl
    ·intro vals W K hG hU hV hK
     simp only [if_true] at hK
     have d0 := hV 0 (by simp)
     simp only [stV] at d0
     simp only [Reg.putS, List.foldl, List.headD, List.tail, List.getD_cons_zero, List.getD_cons_succ, Act.put, List.setIfInBounds_toArray, List.set_cons_zero, List.set_cons_succ, d0] at hK ⊢
     go_simp
     exact hK _ _ (Below.refl _ _) rfl
    ·intro vals W K hG hU hV hK
     simp only [if_true] at hK
     have d1 := hV 1 (by simp)
     simp only [stV] at d1
     simp only [Reg.putS, List.foldl, List.headD, List.tail, List.getD_cons_zero, List.getD_cons_succ, Act.put, List.setIfInBounds_toArray, List.set_cons_zero, List.set_cons_succ, d1] at hK ⊢
     go_simp
     exact hK _ _ (Below.refl _ _) rfl
    ·intro vals W K hG hU hV hK
     simp only [if_true] at hK
     have d2 := hV 2 (by simp)
     simp only [stV] at d2
     simp only [Reg.putS, List.foldl, List.headD, List.tail, List.getD_cons_zero, List.getD_cons_succ, Act.put, List.setIfInBounds_toArray, List.set_cons_zero, List.set_cons_succ, d2] at hK ⊢
     have hcl := pw_cell_below hG f0
     go_simp
     exact hK _ _ (Below.refl _ _) rfl
    ·intro vals W K hG hU hV hK
     simp only [if_true] at hK
     simp only [Reg.putS, List.foldl, List.headD, List.tail, List.getD_cons_zero, List.getD_cons_succ, Act.put, List.setIfInBounds_toArray, List.set_cons_zero, List.set_cons_succ] at hK ⊢
     go_simp
     exact hK _ _ (Below.refl _ _) rfl
    ·intro vals W K hG hU hV hK
     simp only [if_true] at hK
     have d3 := hV 3 (by simp)
     simp only [stV] at d3
     have d4 := hV 4 (by simp)
     simp only [stV] at d4
     simp only [Reg.putS, List.foldl, List.headD, List.tail, List.getD_cons_zero, List.getD_cons_succ, Act.put, List.setIfInBounds_toArray, List.set_cons_zero, List.set_cons_succ, d3, d4] at hK ⊢
     go_simp
     exact hK _ _ (Below.refl _ _) rfl
    ·intro vals W K hG hU hV hK
     simp only [if_true] at hK
     have d5 := hV 5 (by simp)
     simp only [stV] at d5
     simp only [Reg.putS, List.foldl, List.headD, List.tail, List.getD_cons_zero, List.getD_cons_succ, Act.put, List.setIfInBounds_toArray, List.set_cons_zero, List.set_cons_succ, d5] at hK ⊢
     have hcl := pw_cell_below hG f1
     go_simp
     exact hK _ _ (Below.refl _ _) rfl
    ·intro vals W K hG hU hV hK
     simp only [if_true] at hK
     simp only [Reg.putS, List.foldl, List.headD, List.tail, List.getD_cons_zero, List.getD_cons_succ, Act.put, List.setIfInBounds_toArray, List.set_cons_zero, List.set_cons_succ] at hK ⊢
     go_simp
     exact hK _ _ (Below.refl _ _) rfl
    ·intro vals W K hG hU hV hK
     simp only [if_true] at hK
     have d7 := hV 7 (by simp)
     simp only [stV] at d7
     simp only [Reg.putS, List.foldl, List.headD, List.tail, List.getD_cons_zero, List.getD_cons_succ, Act.put, List.setIfInBounds_toArray, List.set_cons_zero, List.set_cons_succ, d7] at hK ⊢
     go_simp
     exact hK _ _ (Below.refl _ _) rfl
    ·intro vals W K hG hU hV hK
     simp only [if_true] at hK
     have d8 := hV 8 (by simp)
     simp only [stV] at d8
     simp only [Reg.putS, List.foldl, List.headD, List.tail, List.getD_cons_zero, List.getD_cons_succ, Act.put, List.setIfInBounds_toArray, List.set_cons_zero, List.set_cons_succ, d8] at hK ⊢
     go_simp
     exact hK _ _ (Below.refl _ _) rfl
    ·intro vals W K hG hU hV hK
     simp only [if_true] at hK
     have d9 := hV 9 (by simp)
     simp only [stV] at d9
     simp only [Reg.putS, List.foldl, List.headD, List.tail, List.getD_cons_zero, List.getD_cons_succ, Act.put, List.setIfInBounds_toArray, List.set_cons_zero, List.set_cons_succ, d9] at hK ⊢
     have hcl := pw_cell_below hG f2
     go_simp
     exact hK _ _ (Below.refl _ _) rfl
    ·intro vals W K hG hU hV hK
     simp only [if_true] at hK
     simp only [Reg.putS, List.foldl, List.headD, List.tail, List.getD_cons_zero, List.getD_cons_succ, Act.put, List.setIfInBounds_toArray, List.set_cons_zero, List.set_cons_succ] at hK ⊢
     go_simp
     exact hK _ _ (Below.refl _ _) rfl
    ·intro vals W K hG hU hV hK
     simp only [if_true] at hK
     have d10 := hV 10 (by simp)
     simp only [stV] at d10
     have d11 := hV 11 (by simp)
     simp only [stV] at d11
     simp only [Reg.putS, List.foldl, List.headD, List.tail, List.getD_cons_zero, List.getD_cons_succ, Act.put, List.setIfInBounds_toArray, List.set_cons_zero, List.set_cons_succ, d10, d11] at hK ⊢
     go_simp
     exact hK _ _ (Below.refl _ _) rfl
    ·intro vals W K hG hU hV hK
     simp only [if_true] at hK
     have d12 := hV 12 (by simp)
     simp only [stV] at d12
     simp only [Reg.putS, List.foldl, List.headD, List.tail, List.getD_cons_zero, List.getD_cons_succ, Act.put, List.setIfInBounds_toArray, List.set_cons_zero, List.set_cons_succ, d12] at hK ⊢
     have hcl := pw_cell_below hG f3
     go_simp
     exact hK _ _ (Below.refl _ _) rfl
    ·intro vals W K hG hU hV hK
     simp only [if_true] at hK
     have d6 := hV 6 (by simp)
     simp only [stV] at d6
     have d13 := hV 13 (by simp)
     simp only [stV] at d13
     simp only [Reg.putS, List.foldl, List.headD, List.tail, List.getD_cons_zero, List.getD_cons_succ, Act.put, List.setIfInBounds_toArray, List.set_cons_zero, List.set_cons_succ, d6, d13] at hK ⊢
     go_simp
     refine (SM.out W hG).mono ?_
     rintro e w2 ⟨rfl, hb⟩
     exact hK _ _ hb rfl
    ·intro vals W K hG hU hV hK
     simp only [if_true] at hK
     have d14 := hV 14 (by simp)
     simp only [stV] at d14
     simp only [Reg.putS, List.foldl, List.headD, List.tail, List.getD_cons_zero, List.getD_cons_succ, Act.put, List.setIfInBounds_toArray, List.set_cons_zero, List.set_cons_succ, d14] at hK ⊢
     go_simp
     exact hK _ _ (Below.refl _ _) rfl
   ·intro vals W hG hV
    rw [show List.range (List.length [some 13, some 14, some 15, some 16, some 17, some 18, some 19, some 20, some 21, some 22, some 23, some 24, some 25, some 26, some 27, some 28]) = [0, 1, 2, 3, 4, 5, 6, 7, 8, 9, 10, 11, 12, 13, 14, 15] from rfl]
    have d0 := hV 0 (by decide)
    simp only [stV] at d0
    have d1 := hV 1 (by decide)
    simp only [stV] at d1
    have d2 := hV 2 (by decide)
    simp only [stV] at d2
    have d3 := hV 3 (by decide)
    simp only [stV] at d3
    have d4 := hV 4 (by decide)
    simp only [stV] at d4
    have d5 := hV 5 (by decide)
    simp only [stV] at d5
    have d6 := hV 6 (by decide)
    simp only [stV] at d6
    have d7 := hV 7 (by decide)
    simp only [stV] at d7
    have d8 := hV 8 (by decide)
    simp only [stV] at d8
    have d9 := hV 9 (by decide)
    simp only [stV] at d9
    have d10 := hV 10 (by decide)
    simp only [stV] at d10
    have d11 := hV 11 (by decide)
    simp only [stV] at d11
    have d12 := hV 12 (by decide)
    simp only [stV] at d12
    have d13 := hV 13 (by decide)
    simp only [stV] at d13
    have d14 := hV 14 (by decide)
    simp only [stV] at d14
    have d15 := hV 15 (by decide)
    simp only [stV] at d15
    clear hV
    simp only [Reg.putS, List.foldl, List.getD_cons_zero, List.getD_cons_succ, Act.put, List.setIfInBounds_toArray, List.set_cons_zero, List.set_cons_succ, d0, d1, d2, d3, d4, d5, d6, d7, d8, d9, d10, d11, d12, d13, d14, d15]
    clear d0 d1 d2 d3 d4 d5 d6 d7 d8 d9 d10 d11 d12 d13 d14 d15
    clear f0 f1 f2 f3 SM
    go_wp2
    go_roundg (n - (k + 1))
    case measure => omega
    case rel => exact ⟨k + 1, hlt, Nat.le_refl _, rfl, bstep bel hG⟩
  ·have hltz : ¬ (k : Int) < (n : Int) := by omega
   have f0 := pw_cell_below bel b0
   go_wp2
   go_ret
   exact ⟨rfl, bel⟩
def mkV (w0 : World) (k n gV cV m c1 : Nat) (A1 : Option Addr) (i : Nat) (pv v : Value) (W : World) : Prop := match i with
 | 0 => v = .slice (some ⟨gV, 0, none⟩) n cV
 | 1 => v = .int .i64 (k : Int)
 | 2 => v = .pointer (some ⟨gV, k, none⟩)
 | 3 => v = .slice A1 m c1
 | 4 => v = .int .i64 (k : Int)
 | 5 => v = .slice (some ⟨gV, 0, none⟩) n cV
 | 6 => v = .int .i64 (k : Int)
 | 7 => v = .pointer (some ⟨gV, k, none⟩)
 | 8 => v = .slice A1 m c1
 | 9 => v = .int .i64 (m : Int)
 | 10 => ∃ A2 c2, v = .slice A2 m c2 ∧ At W A2 (marks k 0 m)
 | 11 => v = .bool true
 | 12 => v = .bool false
 | _ => True
theorem mkV_stay {w0 : World} {k n gV cV m c1 : Nat} {A1 : Option Addr} {j : Nat} {p v : Value} {W W' : World} (h : mkV w0 k n gV cV m c1 A1 j p v W) (hb : RowKit.Below W.heap.size W W') : mkV w0 k n gV cV m c1 A1 j p v W' := by
 unfold mkV at h ⊢
 split at h
 case h_11 => obtain ⟨A2, c2, e, ha⟩ := h; exact ⟨A2, c2, e, ha.below hb⟩
 all_goals exact h
/-- Headers of lists that bear their marks. -/
def MarkedVs (w : World) (vs : List Value) : Prop := ∀ (k : Nat) (v : Value), vs[k]? = some v → ∃ A m c, v = .slice A m c ∧ m ≤ 1500000 ∧ At w A (marks k 0 m)
set_option maxHeartbeats 2000000 in
set_option maxRecDepth 100000 in
theorem marked_call {B n : Nat} {V : Value} {vs : List Value} (w : World) (hv : w.ownsRow B 63 1 V n vs) (hn : n ≤ 250) (hm : MarkedVs w vs) :
  Calls Tryz.prog 72 #[V] w fun e w' => e = .returned (.bool true) ∧ RowKit.Below w.heap.size w w' := by
 have mixed : Tryz.prog.follows .mixedOrders = true := by kernel_rfl
 obtain ⟨AV, cV, rfl, fV⟩ := own_form hv
 have HN : Hid (vs.length = n) := by show _ = _; have := hv.1; omega
 have FV : Hid _ := fV
 have HM : Hid _ := hm
 clear fV hm hv
 go_enter Tryz.func72, Tryz.ntmps72
 go_wp2_with fail
 go_loopg [3] n (fun kx s3 wr => ∃ (k : Nat), k ≤ n ∧ n - k ≤ kx ∧ s3 = .int .i64 (k : Int) ∧ RowKit.Below w.heap.size w wr)
 case atStart => exact ⟨0, Nat.zero_le _, Nat.le_refl _, rfl, Below.refl _ _⟩
 case round =>
  obtain ⟨w0, rfl⟩ : ∃ x, x = wr := ⟨_, rfl⟩
  obtain ⟨k, hk, hkx, rfl, bel⟩ := hrel
  by_cases hlt : k < n
  ·have hltz : (k : Int) < (n : Int) := by omega
   obtain ⟨x, hx⟩ : ∃ x, vs[k]? = some x := ⟨_, List.getElem?_eq_getElem (by have := HN.out; omega)⟩
   obtain ⟨gV, rfl, -, kV⟩ := FV.out (by omega)
   obtain ⟨A1, m, c1, rfl, hm6, a1⟩ := HM.out k x hx
   have f1 := pw_cell_below bel (kV k _ hx)
   have hk3 : k ≤ 300 := by omega
   have SM : Hid (∀ X, RowKit.Below w0.heap.size w0 X → ∀ A2 c2, At X A2 (marks k 0 m) → Calls Tryz.prog 37 #[.slice A1 m c1, .slice A2 m c2] X fun e w' => e = .returned (.bool true) ∧ RowKit.Below X.heap.size X w') := by
    show ∀ X, _
    intro X hX A2 c2 a2
    have hb := bstep bel hX
    refine (same_call A1 A2 _ _ c1 c2 (marks k 0 m) (marks k 0 m) X (marks_length _ _ _).symm (marks_length _ _ _).symm (a1.below hb) a2 (by omega) (by omega)).mono ?_
    rintro e w' ⟨rfl, hb2⟩
    exact ⟨by simp, hb2⟩
   have zk : IntKind.i64.wrap ((k : Int) + 1) = (k : Int) + 1 := by rw [IntKind.wrap_i64]; omega
   clear hx kV a1
   go_wp2_with fail
   refine RegU.wp_region_lists (RowKit.Below w0.heap.size w0) (fun _ _ => True) (fun _ W W' => RowKit.Below W.heap.size W W') (fun i => i) (mkV w0 k n gV cV m c1 A1)
    [some 10, some 11, some 12, some 13, some 14, some 15, some 16, some 17, some 18, some 19, some 20, some 21, some 22]
    [[], [], [0, 1], [2], [], [], [], [5, 6], [7], [8], [4, 9], [3, 10, 10], [11]]
    (by kernel_rfl) (by kernel_rfl) (by kernel_rfl) (fun i => .inl rfl) ?_ ?_ ?_ ?_ ?_ ?_ ?_
   ·exact ⟨rfl, rfl, rfl, Nat.le_refl _, fun _ _ => rfl⟩
   ·intro i; trivial
   ·intro i W W' h k2; exact h.trans (k2.mono h.size)
   ·intros; trivial
   ·intro j i p v W W' h1 h2 h3 h4; exact mkV_stay h3 h4
   ·refine ⟨?_, ?_, ?_, ?_, ?_, ?_, ?_, ?_, ?_, ?_, ?_, ?_, ?_, trivial⟩
    ·intro vals W K hG hU hV hK
     simp only [if_true] at hK
     simp only [Reg.putS, List.foldl, List.headD, List.tail, List.getD_cons_zero, List.getD_cons_succ, Act.put, List.setIfInBounds_toArray, List.set_cons_zero, List.set_cons_succ] at hK ⊢
     go_simp
     exact hK _ _ (Below.refl _ _) rfl
    ·intro vals W K hG hU hV hK
     simp only [if_true] at hK
     simp only [Reg.putS, List.foldl, List.headD, List.tail, List.getD_cons_zero, List.getD_cons_succ, Act.put, List.setIfInBounds_toArray, List.set_cons_zero, List.set_cons_succ] at hK ⊢
     go_simp
     exact hK _ _ (Below.refl _ _) rfl
    ·intro vals W K hG hU hV hK
     simp only [if_true] at hK
     have d0 := hV 0 (by simp)
     simp only [mkV] at d0
     have d1 := hV 1 (by simp)
     simp only [mkV] at d1
     simp only [Reg.putS, List.foldl, List.headD, List.tail, List.getD_cons_zero, List.getD_cons_succ, Act.put, List.setIfInBounds_toArray, List.set_cons_zero, List.set_cons_succ, d0, d1] at hK ⊢
     go_simp
     exact hK _ _ (Below.refl _ _) rfl
    ·intro vals W K hG hU hV hK
     simp only [if_true] at hK
     have d2 := hV 2 (by simp)
     simp only [mkV] at d2
     simp only [Reg.putS, List.foldl, List.headD, List.tail, List.getD_cons_zero, List.getD_cons_succ, Act.put, List.setIfInBounds_toArray, List.set_cons_zero, List.set_cons_succ, d2] at hK ⊢
     have hcl := pw_cell_below hG f1
     go_simp
     exact hK _ _ (Below.refl _ _) rfl
    ·intro vals W K hG hU hV hK
     simp only [if_true] at hK
     simp only [Reg.putS, List.foldl, List.headD, List.tail, List.getD_cons_zero, List.getD_cons_succ, Act.put, List.setIfInBounds_toArray, List.set_cons_zero, List.set_cons_succ] at hK ⊢
     go_simp
     exact hK _ _ (Below.refl _ _) rfl
    ·intro vals W K hG hU hV hK
     simp only [if_true] at hK
     simp only [Reg.putS, List.foldl, List.headD, List.tail, List.getD_cons_zero, List.getD_cons_succ, Act.put, List.setIfInBounds_toArray, List.set_cons_zero, List.set_cons_succ] at hK ⊢
     go_simp
     exact hK _ _ (Below.refl _ _) rfl
    ·intro vals W K hG hU hV hK
     simp only [if_true] at hK
     simp only [Reg.putS, List.foldl, List.headD, List.tail, List.getD_cons_zero, List.getD_cons_succ, Act.put, List.setIfInBounds_toArray, List.set_cons_zero, List.set_cons_succ] at hK ⊢
     go_simp
     exact hK _ _ (Below.refl _ _) rfl
    ·intro vals W K hG hU hV hK
     simp only [if_true] at hK
     have d5 := hV 5 (by simp)
     simp only [mkV] at d5
     have d6 := hV 6 (by simp)
     simp only [mkV] at d6
     simp only [Reg.putS, List.foldl, List.headD, List.tail, List.getD_cons_zero, List.getD_cons_succ, Act.put, List.setIfInBounds_toArray, List.set_cons_zero, List.set_cons_succ, d5, d6] at hK ⊢
     go_simp
     exact hK _ _ (Below.refl _ _) rfl
    ·intro vals W K hG hU hV hK
     simp only [if_true] at hK
     have d7 := hV 7 (by simp)
     simp only [mkV] at d7
     simp only [Reg.putS, List.foldl, List.headD, List.tail, List.getD_cons_zero, List.getD_cons_succ, Act.put, List.setIfInBounds_toArray, List.set_cons_zero, List.set_cons_succ, d7] at hK ⊢
     have hcl := pw_cell_below hG f1
     go_simp
     exact hK _ _ (Below.refl _ _) rfl
    ·intro vals W K hG hU hV hK
     simp only [if_true] at hK
     have d8 := hV 8 (by simp)
     simp only [mkV] at d8
     simp only [Reg.putS, List.foldl, List.headD, List.tail, List.getD_cons_zero, List.getD_cons_succ, Act.put, List.setIfInBounds_toArray, List.set_cons_zero, List.set_cons_succ, d8] at hK ⊢
     go_simp
     exact hK _ _ (Below.refl _ _) rfl
    ·intro vals W K hG hU hV hK
     simp only [if_true] at hK
     have d4 := hV 4 (by simp)
     simp only [mkV] at d4
     have d9 := hV 9 (by simp)
     simp only [mkV] at d9
     simp only [Reg.putS, List.foldl, List.headD, List.tail, List.getD_cons_zero, List.getD_cons_succ, Act.put, List.setIfInBounds_toArray, List.set_cons_zero, List.set_cons_succ, d4, d9] at hK ⊢
     go_simp
     refine (mark_call k 0 m W hk3 (by omega)).mono ?_
     rintro e w2 ⟨v2, rfl, hr, hb⟩
     obtain ⟨A2, c2, rfl, ha⟩ := row_at hr
     exact hK _ _ hb ⟨A2, c2, by rw [marks_length], ha⟩
    ·intro vals W K hG hU hV hK
     simp only [if_true] at hK
     have d3 := hV 3 (by simp)
     simp only [mkV] at d3
     have d10 := hV 10 (by simp)
     simp only [mkV] at d10
     obtain ⟨A2, c2, d10, a2⟩ := d10
     simp only [Reg.putS, List.foldl, List.headD, List.tail, List.getD_cons_zero, List.getD_cons_succ, Act.put, List.setIfInBounds_toArray, List.set_cons_zero, List.set_cons_succ, d3, d10] at hK ⊢
     go_simp
     refine (SM.out W hG A2 c2 a2).mono ?_
     rintro e w2 ⟨rfl, hb⟩
     exact hK _ _ hb rfl
    ·intro vals W K hG hU hV hK
     simp only [if_true] at hK
     have d11 := hV 11 (by simp)
     simp only [mkV] at d11
     simp only [Reg.putS, List.foldl, List.headD, List.tail, List.getD_cons_zero, List.getD_cons_succ, Act.put, List.setIfInBounds_toArray, List.set_cons_zero, List.set_cons_succ, d11] at hK ⊢
     go_simp
     exact hK _ _ (Below.refl _ _) rfl
   ·intro vals W hG hV
    rw [show List.range (List.length [some 10, some 11, some 12, some 13, some 14, some 15, some 16, some 17, some 18, some 19, some 20, some 21, some 22]) = [0, 1, 2, 3, 4, 5, 6, 7, 8, 9, 10, 11, 12] from rfl]
    have d0 := hV 0 (by decide)
    simp only [mkV] at d0
    have d1 := hV 1 (by decide)
    simp only [mkV] at d1
    have d2 := hV 2 (by decide)
    simp only [mkV] at d2
    have d3 := hV 3 (by decide)
    simp only [mkV] at d3
    have d4 := hV 4 (by decide)
    simp only [mkV] at d4
    have d5 := hV 5 (by decide)
    simp only [mkV] at d5
    have d6 := hV 6 (by decide)
    simp only [mkV] at d6
    have d7 := hV 7 (by decide)
    simp only [mkV] at d7
    have d8 := hV 8 (by decide)
    simp only [mkV] at d8
    have d9 := hV 9 (by decide)
    simp only [mkV] at d9
    have d10 := hV 10 (by decide)
    simp only [mkV] at d10
    obtain ⟨A2, c2, d10, a2⟩ := d10
    have d11 := hV 11 (by decide)
    simp only [mkV] at d11
    have d12 := hV 12 (by decide)
    simp only [mkV] at d12
    clear hV
    simp only [Reg.putS, List.foldl, List.getD_cons_zero, List.getD_cons_succ, Act.put, List.setIfInBounds_toArray, List.set_cons_zero, List.set_cons_succ, d0, d1, d2, d3, d4, d5, d6, d7, d8, d9, d11, d12]
    clear d0 d1 d2 d3 d4 d5 d6 d7 d8 d9 d11 d12
    clear f1 SM
    go_wp2
    go_roundg (n - (k + 1))
    case measure => omega
    case rel => exact ⟨k + 1, hlt, Nat.le_refl _, rfl, bstep bel hG⟩
  ·have hltz : ¬ (k : Int) < (n : Int) := by omega
   go_wp2
   go_ret
   exact ⟨rfl, bel⟩
end Go.Proofs.YtdeeeechdlcdbaaGreat.MBytes
/- Lists that are kept (lexiphanebook): one list more. -/
set_option linter.unusedVariables false
set_option linter.unusedSimpArgs false
namespace Go.Proofs.YtdeeeechdlcdbaaGreat.MBytes
open Go Go.RowKit Go.Lib Go.Sort Go.Proofs Go.Proofs.YtdeeeechdlcdbaaGreat.Base
variable {oth : Nat → Value}
def adV (oth : Nat → Value) (B0 B : Nat) (w w0 : World) (pb n cW m cx : Nat) (AW Ax : Option Addr) (cs : List Value) (zs : List Int) (ls : List L) (i : Nat) (pv v : Value) (W : World) : Prop := match i with
 | 0 => v = .pointer (some ⟨pb, 0, none⟩)
 | 1 => v = .pointer (some ⟨pb, 0, none⟩)
 | 2 => v = .pointer (some ⟨pb, 0, none⟩)
 | 3 => v = .pointer (some ⟨pb, 9, none⟩)
 | 4 => v = .slice AW n cW
 | 5 => v = .slice Ax m cx
 | 6 => ∃ A c, v = .slice A m c ∧ Row w0.heap.size W (.slice A m c, zs)
 | 7 => ∃ b A c, v = .slice (some ⟨b, 0, none⟩) 1 1 ∧ W.heap[b]? = some (.cells #[.slice A m c] 63 (0, 0)) ∧ w0.heap.size ≤ b ∧ Row w0.heap.size W (.slice A m c, zs)
 | 8 => ∃ A' c' A c, v = .slice A' (n + 1) c' ∧ W.ownsRow B 63 1 (.slice A' (n + 1) c') (n + 1) (cs ++ [.slice A m c]) ∧ Row w0.heap.size W (.slice A m c, zs) ∧ (∀ g, (Value.slice A' (n + 1) c').ownBlock = some g → (Value.slice AW n cW).ownBlock = some g ∨ w0.heap.size ≤ g)
 | 9 => v = .pointer (some ⟨pb, 0, none⟩)
 | 10 => v = .pointer (some ⟨pb, 9, none⟩)
 | 11 => Book oth B0 B W pb (ls ++ [(.slice Ax m cx, zs)]) ∧ Stays w W ∧ RowKit.Below B w W
 | _ => True
def adU (B : Nat) (w0 : World) (n cW : Nat) (AW : Option Addr) (cs : List Value) (i : Nat) (W : World) : Prop := match i with
 | 8 => w0.grownBy W (Value.slice AW n cW).ownBlock ∧ W.ownsRow B 63 1 (.slice AW n cW) n cs
 | 4 | 6 | 7 | 11 => w0.grownBy W (Value.slice AW n cW).ownBlock
 | _ => True
def adR (pb n cW : Nat) (AW : Option Addr) (i : Nat) (W W' : World) : Prop := match i with
 | 8 => W.grownBy W' (Value.slice AW n cW).ownBlock
 | 11 => W.grownBy W' (some pb)
 | _ => RowKit.Below W.heap.size W W'
theorem grown_trans {a b c : World} {r : Option Nat} (h : a.grownBy b r) (k : b.grownBy c r) : a.grownBy c r := ⟨k.os.trans h.os, k.tape.trans h.tape, k.output.trans h.output, Nat.le_trans h.size k.size, fun i hi hne => (k.block i (Nat.lt_of_lt_of_le hi h.size) hne).trans (h.block i hi hne)⟩
theorem grown_below {a b : World} {r : Option Nat} (h : RowKit.Below a.heap.size a b) : a.grownBy b r := ⟨h.os, h.tape, h.output, h.size, fun i hi _ => h.block i hi⟩
theorem adU_stay {B pb n cW : Nat} {w0 : World} {AW : Option Addr} {cs : List Value} {W W' : World} {j i : Nat} (hne : j ≠ i) (hj : i = 11 → j ≠ 4 ∧ j ≠ 6 ∧ j ≠ 7 ∧ j ≠ 8) (h : adU B w0 n cW AW cs j W) (k : adR pb n cW AW i W W') : adU B w0 n cW AW cs j W' := by
 have gr : i ≠ 11 → W.grownBy W' (Value.slice AW n cW).ownBlock := by
  intro h11
  unfold adR at k
  split at k
  ·exact k
  ·exact absurd rfl h11
  ·exact grown_below k
 unfold adU at h ⊢
 split at h
 ·by_cases h11 : i = 11
  ·exact absurd rfl (hj h11).2.2.2
  ·refine ⟨grown_trans h.1 (gr h11), ?_⟩
   unfold adR at k
   split at k
   ·exact absurd rfl hne
   ·exact absurd rfl h11
   ·exact own_below h.2 k
 ·by_cases h11 : i = 11
  ·exact absurd rfl (hj h11).1
  ·exact grown_trans h (gr h11)
 ·by_cases h11 : i = 11
  ·exact absurd rfl (hj h11).2.1
  ·exact grown_trans h (gr h11)
 ·by_cases h11 : i = 11
  ·exact absurd rfl (hj h11).2.2.1
  ·exact grown_trans h (gr h11)
 ·by_cases h11 : i = 11
  ·exact absurd h11.symm hne
  ·exact grown_trans h (gr h11)
 ·trivial
theorem apt_new {k : Nat} {W : World} {x : L} {v : Value} (h : Row k W x) (hl : ∀ g, v.ownBlock = some g → g < k) : Apt x.1 v := fun g hg e => by
 have h1 := own_ge h g hg
 have h2 := hl g e
 omega
theorem adV_stay {B0 B : Nat} {w w0 : World} {pb n cW m cx : Nat} {AW Ax : Option Addr} {cs : List Value} {zs : List Int} {ls : List L} {j i : Nat} {p v : Value} {W W' : World} (hlt : ∀ g, (Value.slice AW n cW).ownBlock = some g → g < w0.heap.size) (hpb : pb < w0.heap.size) (hpbW : some pb ≠ (Value.slice AW n cW).ownBlock) (hBw : B ≤ w.heap.size) (hne : i ≠ j) (hj : j = 11 → i ≠ 8) (h : adV oth B0 B w w0 pb n cW m cx AW Ax cs zs ls j p v W) (k : adR pb n cW AW i W W') : adV oth B0 B w w0 pb n cW m cx AW Ax cs zs ls j p v W' := by
 have row : ∀ {x : L}, Row w0.heap.size W x → Row w0.heap.size W' x := by
  intro x hx
  unfold adR at k
  split at k
  ·exact hx.other k (apt_new hx hlt)
  ·exact World.ownsRow.kept hx k (.inr (fun e => by have := own_ge hx pb e; omega))
  ·exact hx.below k
 unfold adV at h ⊢
 split at h
 case h_7 => obtain ⟨A, c, e, hr⟩ := h; exact ⟨A, c, e, row hr⟩
 case h_8 =>
  obtain ⟨b, A, c, e, hh, hb, hr⟩ := h
  refine ⟨b, A, c, e, ?_, hb, row hr⟩
  unfold adR at k
  split at k
  ·rw [k.block b (heap_lt hh) (fun e => by have := hlt b e.symm; omega)]; exact hh
  ·rw [k.block b (heap_lt hh) (fun e => by have := Option.some.inj e; omega)]; exact hh
  ·exact heap_below k hh
 case h_9 =>
  obtain ⟨A', c', A, c, e, ho, hr, hp⟩ := h
  refine ⟨A', c', A, c, e, ?_, row hr, hp⟩
  unfold adR at k
  split at k
  ·exact absurd rfl hne
  ·refine World.ownsRow.kept ho k (.inr (fun e => ?_))
   rcases hp pb e with h1 | h1
   ·exact hpbW h1.symm
   ·omega
  ·exact own_below ho k
 case h_12 =>
  obtain ⟨t1, t2, t3⟩ := h
  unfold adR at k
  split at k
  ·exact absurd rfl (hj rfl)
  ·exact absurd rfl hne
  ·exact ⟨t1.below k, t2.trans (Stays.of_below k), t3.trans (k.mono (Nat.le_trans hBw t3.size))⟩
 all_goals exact h
theorem adU_start {B n cW : Nat} {AW : Option Addr} {cs : List Value} {w : World} (h : w.ownsRow B 63 1 (.slice AW n cW) n cs) (i : Nat) : adU B w n cW AW cs i { w with drawn := w.drawn + 1 } := by
 unfold adU
 split
 ·exact ⟨⟨rfl, rfl, rfl, Nat.le_refl _, fun _ _ _ => rfl⟩, h⟩
 all_goals first | trivial | exact ⟨rfl, rfl, rfl, Nat.le_refl _, fun _ _ _ => rfl⟩
theorem cell_frozen_grown {w w' : World} {r : Option Nat} {pb i : Nat} {cs : Array Value} {t : TypeId} (h : w.heap[pb]? = some (.cells cs t (0, 0))) (hg : w.grownBy w' r) (hne : some pb ≠ r) : w'.frozen? ⟨pb, i, none⟩ = false := by
 have : w'.heap[pb]? = some (.cells cs t (0, 0)) := by rw [hg.block pb (heap_lt h) hne]; exact h
 exact frozen_of this
theorem below_of_grown {B : Nat} {w w' : World} {r : Option Nat} (h : w.grownBy w' r) (hr : ∀ k, r = some k → B ≤ k) (hB : B ≤ w.heap.size) : RowKit.Below B w w' := ⟨h.os, h.tape, h.output, h.size, fun k hk => h.block k (Nat.lt_of_lt_of_le hk hB) (fun e => by have := hr k e.symm; omega)⟩
set_option maxHeartbeats 2000000 in
set_option maxRecDepth 1000000 in
theorem add_call {B0 B pb : Nat} {V0 W0 : Value} {ls : List L} {cs : List Value} {x : L} (w : World) (h : BookAt oth B0 B w pb V0 W0 ls cs) (hn : ls.length < 250) (hx : Row B0 w x) (hax : ∀ y ∈ ls, Apt y.1 x.1) (hlx : x.2.length ≤ 1000000) (hBw : B ≤ w.heap.size) :
  Calls Tryz.prog 36 #[.pointer (some ⟨pb, 0, none⟩), x.1] w fun e w' => e = .returned (.tuple #[]) ∧ Book oth B0 B w' pb (ls ++ [x]) ∧ Stays w w' ∧ RowKit.Below B w w' := by
 have mixed : Tryz.prog.follows .mixedOrders = true := by kernel_rfl
 obtain ⟨i0, hi, hz0, hz1, hz2⟩ := info_parts infoL
 obtain ⟨AV, cV, rfl, -⟩ := own_form h.lists
 obtain ⟨AW, cW, rfl, -⟩ := own_form h.copies
 obtain ⟨xv, zs⟩ := x
 obtain ⟨Ax, cx, rfl, hatx⟩ := row_at hx
 obtain ⟨n, hnl⟩ : ∃ n, ls.length = n := ⟨_, rfl⟩
 obtain ⟨m, hm⟩ : ∃ m, zs.length = m := ⟨_, rfl⟩
 have HN : Hid (ls.length = n) := hnl
 have HZ : Hid (m = zs.length) := hm.symm
 rw [hnl] at h
 simp only [hm] at hx hax hlx hatx ⊢
 have hnl2 : n < 250 := by omega
 have hm6 : m ≤ 1000000 := hlx
 have HB : Hid _ := h
 have HX : Hid (Row B0 w (.slice Ax m cx, zs)) := hx
 have HAX : Hid (∀ y ∈ ls, Apt y.1 (.slice Ax m cx)) := hax
 have b0 : w.cell? ⟨pb, 8, none⟩ = some (.slice AV n cV) := cell_of h.book rfl
 have b1 : w.cell? ⟨pb, 9, none⟩ = some (.slice AW n cW) := cell_of h.book rfl
 have hl0 : (w.alloc (.cells #[.slice Ax m cx] 63)).ownsRow B 63 1 (.slice AV n cV) n (ls.map Prod.fst) := by
  have := h.lists
  rw [hnl] at this
  exact this.alloc _
 have hala := below_alloc w (.cells #[.slice Ax m cx] 63)
 have hszA : B ≤ (w.alloc (.cells #[.slice Ax m cx] 63)).heap.size := Nat.le_trans hBw hala.size
 have hhA := heap_new w (.cells #[.slice Ax m cx] 63)
 have hpbA := heap_below hala h.book
 have f3A : (w.alloc (.cells #[.slice Ax m cx] 63)).ownsRow B 63 1 (.slice AW n cW) n cs := by
  have := h.copies
  rw [hnl] at this
  exact this.alloc _
 have hz250 : (n : Int) < 250 := by omega
 clear hnl hm hax hx hatx h
 go_enter Tryz.func36, Tryz.ntmps36
 go_wp2_with (first | (at_builtin; go_loud (refine wpList_append_both _ rfl (.tmp 14) (.tmp 16) 40 rfl B 63 i0 _ 1 24 Tryz.underlying40 hi hz0 hz1 hz2 rfl (by decide) _ n (ls.map Prod.fst) rfl hl0 ⟨w.heap.size, 0, none⟩ 1 1 [.slice Ax m cx] rfl rfl ?e1 ?e2 ?e3 ?e4 hszA ?_)))
 case e1 => intro j u hj; rw [Addr.add_lit, Nat.zero_add]; exact cell_of hhA (by simpa using hj)
 case e2 => intro u hu; simp at hu; subst hu; rfl
 case e3 => unfold maxLen; omega
 case e4 => omega
 intro v1 w1 ho1 hg1 hk1 hpl1
 obtain ⟨A1, c1, rfl, -⟩ := own_form ho1
 have hneV := own_ne hl0 hpbA (by decide)
 have hneW := own_ne f3A hpbA (by decide)
 have hpb1 : w1.heap[pb]? = some (.cells (bookCells oth (.slice AV n cV) (.slice AW n cW)) 42 (0, 0)) := by rw [hg1.block pb (heap_lt hpbA) (fun e => hneV e.symm)]; exact hpbA
 have k0 : w1.cell? ⟨pb, 8, none⟩ = some (.slice AV n cV) := cell_of hpb1 rfl
 have k1 : w1.frozen? ⟨pb, 8, none⟩ = false := frozen_of hpb1
 have hS1 : Stays w w1 := (Stays.of_below hala).trans (Stays.of_grown hl0 hg1)
 have hS0 : Stays w1 (w1.setCell ⟨pb, 8, none⟩ (.slice A1 (n + 1) c1)) := Stays.of_set hpb1
 have hpb0 := set_heap hpb1 8 (.slice A1 (n + 1) c1)
 have hg0 := set_grown w1 pb 8 (.slice A1 (n + 1) c1)
 have aVW : Apt (.slice AV n cV) (.slice AW n cW) := HB.out.apt
 have f31 : w1.ownsRow B 63 1 (.slice AW n cW) n cs := f3A.kept hg1 (by
  cases hx : (Value.slice AW n cW).ownBlock with
  | none => exact .inl rfl
  | some g => exact .inr (fun e => aVW.symm g hx e.symm))
 have a1W : Apt (.slice A1 (n + 1) c1) (.slice AW n cW) := by
  intro g hg hg'
  rcases hpl1 with e | e
  ·exact aVW g (by rw [← e]; exact hg) hg'
  ·have h1 := e g hg
   have h2 := own_lt f3A g hg'
   have h3 : (w.alloc (.cells #[.slice Ax m cx] 63)).heap.size = w.heap.size + 1 := by show (w.heap.push _).size = _; rw [Array.size_push]
   omega
 have ho10 : (w1.setCell ⟨pb, 8, none⟩ (.slice A1 (n + 1) c1)).ownsRow B 63 1 (.slice A1 (n + 1) c1) (n + 1) (ls.map Prod.fst ++ [.slice Ax m cx]) := ho1.kept hg0 (.inr (own_ne ho1 hpb1 (by decide)))
 have f30 : (w1.setCell ⟨pb, 8, none⟩ (.slice A1 (n + 1) c1)).ownsRow B 63 1 (.slice AW n cW) n cs := f31.kept hg0 (.inr (own_ne f31 hpb1 (by decide)))
 have hBelow1 : RowKit.Below B w w1 := (hala.mono hBw).trans (below_of_grown hg1 (own_ge hl0) hszA)
 have hB1 : B ≤ w1.heap.size := Nat.le_trans hBw hBelow1.size
 have hBelow0 : RowKit.Below B w (w1.setCell ⟨pb, 8, none⟩ (.slice A1 (n + 1) c1)) := hBelow1.trans (below_of_grown hg0 (fun k e => by have := HB.out.ge; have := Option.some.inj e; omega) hB1)
 have hsz10 : w1.heap.size ≤ (w1.setCell ⟨pb, 8, none⟩ (.slice A1 (n + 1) c1)).heap.size := hg0.size
 have hlt1 := own_lt ho1
 have hltW := own_lt f30
 have hneW0 : some pb ≠ (Value.slice AW n cW).ownBlock := fun e => hneW e.symm
 clear hl0 hala hszA hhA hpbA f3A hneV hneW f31 hg1 hk1 hpl1 ho1 hg0
 go_upto_region 2 with fail
 clear k0 k1 hpb1
 obtain ⟨w0, hw0⟩ : ∃ x, w1.setCell ⟨pb, 8, none⟩ (.slice A1 (n + 1) c1) = x := ⟨_, rfl⟩
 rw [hw0] at hS0 hpb0 ho10 f30 hBelow0 hsz10 hltW ⊢
 clear hw0
 have f2 : w0.heap[pb]? = some (.cells (bookCells oth (.slice A1 (n + 1) c1) (.slice AW n cW)) 42 (0, 0)) := hpb0
 have f1 : w0.cell? ⟨pb, 9, none⟩ = some (.slice AW n cW) := cell_of f2 rfl
 have f3 := f30
 have hpbW := hneW0
 have hlt : ∀ g, (Value.slice AW n cW).ownBlock = some g → g < w0.heap.size := hltW
 have hBs : B ≤ w0.heap.size := Nat.le_trans hBw hBelow0.size
 have hS : Stays w w0 := hS1.trans hS0
 have hat : Hid (∀ W, w0.grownBy W (Value.slice AW n cW).ownBlock → At W Ax zs) := by
  show ∀ W, _
  intro W hg
  have h1 : Row B0 w0 (.slice Ax m cx, zs) := hS.row HX.out (by decide) (by decide)
  have h2 := h1.other hg (own_apt h1 f30 (by decide))
  obtain ⟨A', c', e, h3⟩ := row_at h2
  injection e with e1 e2 e3
  rw [e1]; exact h3
 have FIN : Hid (∀ (W : World) (A8 : Option Addr) (c8 : Nat) (A9 : Option Addr) (c9 : Nat), w0.grownBy W (Value.slice AW n cW).ownBlock → W.ownsRow B 63 1 (.slice A8 (n + 1) c8) (n + 1) (cs ++ [.slice A9 m c9]) → Row w0.heap.size W (.slice A9 m c9, zs) → (∀ g, (Value.slice A8 (n + 1) c8).ownBlock = some g → (Value.slice AW n cW).ownBlock = some g ∨ w0.heap.size ≤ g) →
   Book oth B0 B (W.setCell ⟨pb, 9, none⟩ (.slice A8 (n + 1) c8)) pb (ls ++ [(.slice Ax m cx, zs)]) ∧ Stays w (W.setCell ⟨pb, 9, none⟩ (.slice A8 (n + 1) c8)) ∧ RowKit.Below B w (W.setCell ⟨pb, 9, none⟩ (.slice A8 (n + 1) c8))) := by
  show ∀ W, _
  intro W A8 c8 A9 c9 hg ho8 r8 hp8
  have hpbW' : W.heap[pb]? = some (.cells (bookCells oth (.slice A1 (n + 1) c1) (.slice AW n cW)) 42 (0, 0)) := by rw [hg.block pb (heap_lt f2) hpbW]; exact f2
  have hgS := set_grown W pb 9 (.slice A8 (n + 1) c8)
  have hSW : Stays w W := hS.trans (Stays.of_grown f30 hg)
  have hS4 : Stays W (W.setCell ⟨pb, 9, none⟩ (.slice A8 (n + 1) c8)) := Stays.of_set hpbW'
  have hSF := hSW.trans hS4
  have hoW : W.ownsRow B 63 1 (.slice A1 (n + 1) c1) (n + 1) (ls.map Prod.fst ++ [.slice Ax m cx]) := ho10.kept hg (by
   cases hx : (Value.slice A1 (n + 1) c1).ownBlock with
   | none => exact .inl rfl
   | some g => exact .inr (fun e => a1W g hx e.symm))
  have hcl : cs.length = n := by have := f30.1; omega
  refine ⟨⟨.slice A1 (n + 1) c1, .slice A8 (n + 1) c8, cs ++ [.slice A9 m c9], ⟨HB.out.ge, ?_, ?_, ?_, ?_, ?_, ?_⟩⟩, hSF, ?_⟩
  ·exact set_heap hpbW' 9 _
  ·have := hoW.kept hgS (.inr (own_ne hoW hpbW' (by decide)))
   rw [List.length_append, List.length_singleton, HN.out, List.map_append]
   exact this
  ·have := ho8.kept hgS (.inr (own_ne ho8 hpbW' (by decide)))
   rw [List.length_append, List.length_singleton, HN.out]
   exact this
  ·intro g hg1 hg8
   rcases hp8 g hg8 with e | e
   ·exact a1W g hg1 e
   ·have := hlt1 g hg1
    omega
  ·intro j y hj
   rcases Nat.lt_or_ge j n with hjn | hjn
   ·rw [List.getElem?_append_left (by rw [HN.out]; exact hjn)] at hj
    obtain ⟨c, h1, h2⟩ := HB.out.was j y hj
    exact ⟨c, by rw [List.getElem?_append_left (by omega)]; exact h1, hSF.row h2 (by decide) (by decide)⟩
   ·rw [List.getElem?_append_right (by rw [HN.out]; exact hjn)] at hj
    rw [HN.out] at hj
    have hjj : j - n = 0 := by
     have := (List.getElem?_eq_some_iff.1 hj).1
     simp at this; omega
    rw [hjj] at hj
    obtain rfl : (Value.slice Ax m cx, zs) = y := by simpa using hj
    refine ⟨.slice A9 m c9, by rw [List.getElem?_append_right (by omega), hcl, hjj]; rfl, own_mono (hS4.row r8 (by decide) (by decide)) hBs⟩
  ·exact (HB.out.rows.stays hSF).push (hSF.row HX.out (by decide) (by decide)) HAX.out
  ·have hBW : RowKit.Below B w W := hBelow0.trans (below_of_grown hg (own_ge f30) hBs)
   exact hBW.trans (below_of_grown hgS (fun k e => by have := HB.out.ge; have := Option.some.inj e; omega) (Nat.le_trans hBw hBW.size))
 clear hS0 hS1 hS hpb0 ho10 f30 hBelow0 hBelow1 hsz10 hlt1 hltW a1W aVW hB1
 refine RegU.wp_region_lists (fun _ => True) (adU B w0 n cW AW cs) (adR pb n cW AW) (fun i => i) (adV oth B0 B w w0 pb n cW m cx AW Ax cs zs ls)
  [some 20, some 21, some 22, some 23, some 24, some 25, some 26, some 27, some 28, some 29, some 30, none]
  [[], [], [1], [2], [3], [], [5], [6], [4, 7, 6], [0, 0, 1, 2, 3, 4, 5, 6, 7, 8], [9, 0, 1, 2, 3, 4, 5, 6, 7, 8], [10, 8, 8, 0, 1, 2, 3, 4, 5, 6, 7, 8]]
  (by kernel_rfl) (by kernel_rfl) (by kernel_rfl) (fun i => .inl rfl) ?_ ?_ ?_ ?_ ?_ ?_ ?_
 ·trivial
 ·intro i; exact adU_start f3 i
 ·intros; trivial
 ·intro j i W W' h1 h2 h3 h4; refine adU_stay h1 ?_ h3 h4
  rintro rfl
  refine ⟨?_, ?_, ?_, ?_⟩ <;> (rintro rfl; exact h2 (by decide))
 ·intro j i p v W W' h1 h2 h3 h4; refine adV_stay hlt (heap_lt f2) hpbW hBw h1 ?_ h3 h4
  rintro rfl rfl
  exact h2 (by decide)
 ·refine ⟨?_, ?_, ?_, ?_, ?_, ?_, ?_, ?_, ?_, ?_, ?_, ?_, trivial⟩
  ·intro vals W K hG hU hV hK
   simp only [if_true] at hK
   simp only [Reg.putS, List.foldl, List.headD, List.tail, List.getD_cons_zero, List.getD_cons_succ, Act.put, List.setIfInBounds_toArray, List.set_cons_zero, List.set_cons_succ] at hK ⊢
   go_simp
   exact hK _ _ (Below.refl _ _) rfl
  ·intro vals W K hG hU hV hK
   simp only [if_true] at hK
   simp only [Reg.putS, List.foldl, List.headD, List.tail, List.getD_cons_zero, List.getD_cons_succ, Act.put, List.setIfInBounds_toArray, List.set_cons_zero, List.set_cons_succ] at hK ⊢
   go_simp
   exact hK _ _ (Below.refl _ _) rfl
  ·intro vals W K hG hU hV hK
   simp only [if_true] at hK
   have d1 := hV 1 (by simp)
   simp only [adV] at d1
   simp only [Reg.putS, List.foldl, List.headD, List.tail, List.getD_cons_zero, List.getD_cons_succ, Act.put, List.setIfInBounds_toArray, List.set_cons_zero, List.set_cons_succ, d1] at hK ⊢
   go_simp
   exact hK _ _ (Below.refl _ _) rfl
  ·intro vals W K hG hU hV hK
   simp only [if_true] at hK
   have d2 := hV 2 (by simp)
   simp only [adV] at d2
   simp only [Reg.putS, List.foldl, List.headD, List.tail, List.getD_cons_zero, List.getD_cons_succ, Act.put, List.setIfInBounds_toArray, List.set_cons_zero, List.set_cons_succ, d2] at hK ⊢
   go_simp
   exact hK _ _ (Below.refl _ _) rfl
  ·intro vals W K hG hU hV hK
   simp only [if_true] at hK
   have d3 := hV 3 (by simp)
   simp only [adV] at d3
   simp only [Reg.putS, List.foldl, List.headD, List.tail, List.getD_cons_zero, List.getD_cons_succ, Act.put, List.setIfInBounds_toArray, List.set_cons_zero, List.set_cons_succ, d3] at hK ⊢
   have hcl := (show w0.grownBy W _ from hU).cell f1 hpbW
   go_simp
   exact hK _ _ (Below.refl _ _) rfl
  ·intro vals W K hG hU hV hK
   simp only [if_true] at hK
   simp only [Reg.putS, List.foldl, List.headD, List.tail, List.getD_cons_zero, List.getD_cons_succ, Act.put, List.setIfInBounds_toArray, List.set_cons_zero, List.set_cons_succ] at hK ⊢
   go_simp
   exact hK _ _ (Below.refl _ _) rfl
  ·intro vals W K hG hU hV hK
   simp only [if_true] at hK
   have d5 := hV 5 (by simp)
   simp only [adV] at d5
   simp only [Reg.putS, List.foldl, List.headD, List.tail, List.getD_cons_zero, List.getD_cons_succ, Act.put, List.setIfInBounds_toArray, List.set_cons_zero, List.set_cons_succ, d5] at hK ⊢
   go_simp
   refine (copy_call Ax m cx zs W HZ.out (hat.out W hU) hm6).mono ?_
   rintro e w2 ⟨v2, rfl, hr, hb⟩
   obtain ⟨A2, c2, rfl, -⟩ := row_at hr
   rw [← HZ.out] at hr ⊢
   exact hK _ _ hb ⟨A2, c2, rfl, own_mono hr (show w0.grownBy W _ from hU).size⟩
  ·intro vals W K hG hU hV hK
   simp only [if_true] at hK
   have d6 := hV 6 (by simp)
   simp only [adV] at d6
   obtain ⟨A6, c6, d6, r6⟩ := d6
   simp only [Reg.putS, List.foldl, List.headD, List.tail, List.getD_cons_zero, List.getD_cons_succ, Act.put, List.setIfInBounds_toArray, List.set_cons_zero, List.set_cons_succ, d6] at hK ⊢
   go_simp
   exact hK _ _ (balloc (Below.refl _ _) _) ⟨_, A6, c6, rfl, heap_new W _, (show w0.grownBy W _ from hU).size, r6.below (balloc (Below.refl _ _) _)⟩
  ·refine Step.step_of ?g ?_
   case g => rfl
   intro A vals W K hA hG hU hV hK
   simp only [if_true] at hK
   have d4 := hV 4 (by simp)
   simp only [adV] at d4
   have d7 := hV 7 (by simp)
   simp only [adV] at d7
   obtain ⟨b7, A7, c7, d7, hh7, hge7, r7⟩ := d7
   refine wp_append_both _ (.tmp 24) (.tmp 27) 40 rfl B 63 i0 _ 1 24 Tryz.underlying40 hi hz0 hz1 hz2 rfl (by decide) _ n cs ((Step.putE hA rfl (Nat.lt_of_sub_eq_succ rfl)).trans d4) hU.2 ⟨b7, 0, none⟩ 1 1 [.slice A7 m c7] ((Step.putE hA rfl (Nat.lt_of_sub_eq_succ rfl)).trans d7) rfl ?k1 ?k2 ?k3 ?k4 (Nat.le_trans hBs hU.1.size) ?k5
   case k1 => intro j u hj; rw [Addr.add_lit, Nat.zero_add]; exact cell_of hh7 (by simpa using hj)
   case k2 => intro u hu; simp at hu; subst hu; rfl
   case k3 => unfold maxLen; omega
   case k4 => omega
   case k5 =>
    intro v' w' ho hgr hk hpl
    obtain ⟨A', c', rfl, -⟩ := own_form ho
    refine hK _ _ hgr ⟨A', c', A7, c7, rfl, ho, r7.other hgr (apt_new r7 hlt), fun g hg => ?_⟩
    rcases hpl with h | h
    ·exact .inl (by rw [← h]; exact hg)
    ·exact .inr (Nat.le_trans hU.1.size (h g hg))
  ·intro vals W K hG hU hV hK
   simp only [if_true] at hK
   have d0 := hV 0 (by simp)
   simp only [adV] at d0
   have d1 := hV 1 (by simp)
   simp only [adV] at d1
   have d2 := hV 2 (by simp)
   simp only [adV] at d2
   have d3 := hV 3 (by simp)
   simp only [adV] at d3
   have d4 := hV 4 (by simp)
   simp only [adV] at d4
   have d5 := hV 5 (by simp)
   simp only [adV] at d5
   simp only [Reg.putS, List.foldl, List.headD, List.tail, List.getD_cons_zero, List.getD_cons_succ, Act.put, List.setIfInBounds_toArray, List.set_cons_zero, List.set_cons_succ, d0, d1, d2, d3, d4, d5] at hK ⊢
   go_simp
   exact hK _ _ (Below.refl _ _) rfl
  ·intro vals W K hG hU hV hK
   simp only [if_true] at hK
   have d0 := hV 0 (by simp)
   simp only [adV] at d0
   have d1 := hV 1 (by simp)
   simp only [adV] at d1
   have d2 := hV 2 (by simp)
   simp only [adV] at d2
   have d3 := hV 3 (by simp)
   simp only [adV] at d3
   have d4 := hV 4 (by simp)
   simp only [adV] at d4
   have d5 := hV 5 (by simp)
   simp only [adV] at d5
   have d9 := hV 9 (by simp)
   simp only [adV] at d9
   simp only [Reg.putS, List.foldl, List.headD, List.tail, List.getD_cons_zero, List.getD_cons_succ, Act.put, List.setIfInBounds_toArray, List.set_cons_zero, List.set_cons_succ, d0, d1, d2, d3, d4, d5, d9] at hK ⊢
   go_simp
   exact hK _ _ (Below.refl _ _) rfl
  ·refine Step.step_of ?g ?_
   case g => rfl
   intro A vals W K hA hG hU hV hK
   simp only [if_true] at hK
   have d8 := hV 8 (by simp)
   simp only [adV] at d8
   obtain ⟨A8, c8, A9, c9, d8, ho8, r8, hp8⟩ := d8
   have d10 := hV 10 (by simp)
   simp only [adV] at d10
   exact step_store Tryz.sizeOf40 ((Step.putA hA rfl (Nat.lt_of_sub_eq_succ rfl)).trans d10) ((Step.putA hA rfl (Nat.lt_of_sub_eq_succ rfl)).trans d8) ((show w0.grownBy W _ from hU).cell f1 hpbW) (cell_frozen_grown (i := 9) f2 (show w0.grownBy W _ from hU) hpbW) (hK undef _ (set_grown W pb _ _) (FIN.out W A8 c8 A9 c9 hU ho8 r8 hp8))
 ·intro vals W hG hV
  rw [show List.range (List.length [some 20, some 21, some 22, some 23, some 24, some 25, some 26, some 27, some 28, some 29, some 30, none]) = [0, 1, 2, 3, 4, 5, 6, 7, 8, 9, 10, 11] from rfl]
  have d0 := hV 0 (by decide)
  simp only [adV] at d0
  have d1 := hV 1 (by decide)
  simp only [adV] at d1
  have d2 := hV 2 (by decide)
  simp only [adV] at d2
  have d3 := hV 3 (by decide)
  simp only [adV] at d3
  have d4 := hV 4 (by decide)
  simp only [adV] at d4
  have d5 := hV 5 (by decide)
  simp only [adV] at d5
  have d6 := hV 6 (by decide)
  simp only [adV] at d6
  obtain ⟨A6, c6, d6, r6⟩ := d6
  have d7 := hV 7 (by decide)
  simp only [adV] at d7
  obtain ⟨b7, A7, c7, d7, hh7, hge7, r7⟩ := d7
  have d8 := hV 8 (by decide)
  simp only [adV] at d8
  obtain ⟨A8, c8, A9, c9, d8, ho8, r8, hp8⟩ := d8
  have d9 := hV 9 (by decide)
  simp only [adV] at d9
  have d10 := hV 10 (by decide)
  simp only [adV] at d10
  have d11 := hV 11 (by decide)
  simp only [adV] at d11
  obtain ⟨t1, t2, t3⟩ := d11
  clear hV
  simp only [Reg.putS, List.foldl, List.getD_cons_zero, List.getD_cons_succ, Act.put, List.setIfInBounds_toArray, List.set_cons_zero, List.set_cons_succ, d0, d1, d2, d3, d4, d5, d8, d9, d10]
  clear d0 d1 d2 d3 d4 d5 d8 d9 d10
  go_wp2
  go_end0
  exact ⟨rfl, t1, t2, t3⟩


theorem set_self {ls : List L} {i : Nat} {x : L} (h : ls[i]? = some x) : ls.set i x = ls := by
 obtain ⟨hi, rfl⟩ := List.getElem?_eq_some_iff.1 h
 exact List.set_getElem_self hi
def ptV (B : Nat) (w0 : World) (pb n ii k gV cV m bx cx bm cm : Nat) (zk : List Int) (i : Nat) (pv v : Value) (W : World) : Prop := match i with
 | 0 => v = .pointer (some ⟨pb, 0, none⟩)
 | 1 => v = .pointer (some ⟨pb, 0, none⟩)
 | 2 => v = .pointer (some ⟨pb, 8, none⟩)
 | 3 => v = .slice (some ⟨gV, 0, none⟩) n cV
 | 4 => v = .int .i64 (ii : Int)
 | 5 => v = .pointer (some ⟨gV, ii, none⟩)
 | 6 => v = .slice (some ⟨bx, 0, none⟩) m cx
 | 7 => v = .int .i64 (k : Int)
 | 8 => v = .slice (some ⟨bm, 0, none⟩) m cm
 | 9 => v = .int .i64 (k : Int)
 | 10 => v = .pointer (some ⟨bm, k, none⟩)
 | 11 => v = .int .u8 (mark ii k)
 | 12 => v = .pointer (some ⟨bx, k, none⟩)
 | 13 => Row B W (.slice (some ⟨bx, 0, none⟩) m cx, zk.set k (mark ii k)) ∧ w0.grownBy W (some bx)
 | _ => True
def ptU (w0 : World) (i : Nat) (W : World) : Prop := match i with
 | 3 | 6 | 11 | 13 => RowKit.Below w0.heap.size w0 W
 | _ => True
def ptR (i : Nat) (W W' : World) : Prop := match i with
 | 13 => True
 | _ => RowKit.Below W.heap.size W W'
theorem ptU_stay {w0 : World} {W W' : World} {j i : Nat} (hne : j ≠ i) (hj : i = 13 → j ≠ 3 ∧ j ≠ 6 ∧ j ≠ 11) (h : ptU w0 j W) (k : ptR i W W') : ptU w0 j W' := by
 have gr : i ≠ 13 → RowKit.Below W.heap.size W W' := by
  intro h13
  unfold ptR at k
  split at k
  ·exact absurd rfl h13
  ·exact k
 unfold ptU at h ⊢
 split at h
 ·by_cases h13 : i = 13
  ·exact absurd rfl (hj h13).1
  ·exact bstep h (gr h13)
 ·by_cases h13 : i = 13
  ·exact absurd rfl (hj h13).2.1
  ·exact bstep h (gr h13)
 ·by_cases h13 : i = 13
  ·exact absurd rfl (hj h13).2.2
  ·exact bstep h (gr h13)
 ·by_cases h13 : i = 13
  ·exact absurd h13.symm hne
  ·exact bstep h (gr h13)
 ·trivial
theorem ptU_start {w : World} (i : Nat) : ptU w i { w with drawn := w.drawn + 1 } := by
 unfold ptU
 split
 all_goals first | trivial | exact ⟨rfl, rfl, rfl, Nat.le_refl _, fun _ _ => rfl⟩
theorem ptV_stay {B : Nat} {w0 : World} {pb n i' k gV cV m bx cx bm cm : Nat} {zk : List Int} {j i : Nat} {p v : Value} {W W' : World} (hne : i ≠ j) (h : ptV B w0 pb n i' k gV cV m bx cx bm cm zk j p v W) (kk : ptR i W W') : ptV B w0 pb n i' k gV cV m bx cx bm cm zk j p v W' := by
 unfold ptV at h ⊢
 split at h
 case h_14 =>
  unfold ptR at kk
  split at kk
  ·exact absurd rfl hne
  ·exact ⟨h.1.below kk, grown_trans h.2 (grown_below kk)⟩
 all_goals exact h
/-- The lists as they lie, without their copies. -/
structure BookL (oth : Nat → Value) (B : Nat) (w : World) (pb : Nat) (V W : Value) (ls : List L) : Prop where
 ge : B ≤ pb
 book : w.heap[pb]? = some (.cells (bookCells oth V W) 42 (0, 0))
 lists : w.ownsRow B 63 1 V ls.length (ls.map Prod.fst)
 rows : Rows B w ls
 each : ∀ x ∈ ls, x.2.length ≤ 1000000
theorem BookL.below {B : Nat} {w w' : World} {pb : Nat} {V W : Value} {ls : List L} (h : BookL oth B w pb V W ls) (hb : RowKit.Below w.heap.size w w') : BookL oth B w' pb V W ls := ⟨h.ge, heap_below hb h.book, own_below h.lists hb, h.rows.below hb, h.each⟩
/-- One list's numbers are others now. -/
theorem BookL.set {B : Nat} {w w' : World} {pb : Nat} {V W : Value} {ls : List L} {i : Nat} {x : L} {zs : List Int} (h : BookL oth B w pb V W ls) (hi : ls[i]? = some x) (hg : w.grownBy w' x.1.ownBlock) (hx : Row B w' (x.1, zs)) (hl : zs.length = x.2.length) : BookL oth B w' pb V W (ls.set i (x.1, zs)) := by
 obtain ⟨hlt, rfl⟩ := List.getElem?_eq_some_iff.1 hi
 have hr := h.rows.own _ (List.getElem_mem hlt)
 have hne : ∀ {o : Obj}, w.heap[pb]? = some o → some pb ≠ (ls[i]).1.ownBlock := fun _ e => by
  have := own_ne hr h.book (by decide)
  exact this e.symm
 refine ⟨h.ge, ?_, ?_, h.rows.set hi hg hx, ?_⟩
 ·rw [hg.block pb (heap_lt h.book) (hne h.book)]; exact h.book
 ·have e1 : (ls.set i ((ls[i]).1, zs)).map Prod.fst = ls.map Prod.fst := by
   rw [List.map_set]
   refine List.ext_getElem (by simp) fun j h1 h2 => ?_
   rw [List.getElem_set]
   split
   ·rename_i e; subst e; simp
   ·rfl
  rw [e1, List.length_set]
  refine World.ownsRow.kept h.lists hg ?_
  cases hx' : V.ownBlock with
  | none => exact .inl rfl
  | some g => exact .inr (fun e => own_apt h.lists hr (by decide) g hx' e.symm)
 ·intro y hy
  rcases List.mem_or_eq_of_mem_set hy with hy | rfl
  ·exact h.each y hy
  ·show zs.length ≤ _; rw [hl]; exact h.each _ (List.getElem_mem hlt)
def Marked (d : Nat) (ls : List L) : Prop := ∀ j x, ls[j]? = some x → j < d → x.2 = marks j 0 x.2.length
set_option maxHeartbeats 2000000 in
set_option maxRecDepth 1000000 in
theorem put_call {B pb : Nat} {V W : Value} {ls0 : List L} (w : World) (h : BookL oth B w pb V W ls0) (hn : ls0.length ≤ 250) (hB : B ≤ w.heap.size) :
  Calls Tryz.prog 62 #[.pointer (some ⟨pb, 0, none⟩)] w fun e w' => e = .returned (.tuple #[]) ∧ ∃ ls, ls.length = ls0.length ∧ BookL oth B w' pb V W ls ∧ Marked ls.length ls ∧ BT B w w' := by
 have mixed : Tryz.prog.follows .mixedOrders = true := by kernel_rfl
 obtain ⟨n, hnl⟩ : ∃ n, ls0.length = n := ⟨_, rfl⟩
 have hLL := h.lists
 obtain ⟨AV, cV, rfl, -⟩ := own_form hLL
 rw [hnl] at h hn ⊢
 have HN0 : Hid (ls0.length = n) := hnl
 have HB0 : Hid (BookL oth B w pb (.slice AV n cV) W ls0) := h
 clear hLL hnl h
 go_enter Tryz.func62, Tryz.ntmps62
 go_wp2_with fail
 go_loopg [2] n (fun kx s2 wr => ∃ (i : Nat) (ls : List L), i ≤ n ∧ n - i ≤ kx ∧ s2 = .int .i64 (i : Int) ∧ Hid (ls.length = n) ∧ BookL oth B wr pb (.slice AV n cV) W ls ∧ Hid (Marked i ls) ∧ BT B w wr)
 case atStart => exact ⟨0, ls0, Nat.zero_le _, Nat.le_refl _, rfl, HN0, HB0.out, (fun j x _ h => absurd h (Nat.not_lt_zero _) : Marked 0 ls0), BT.refl _⟩
 case round =>
  clear HN0 HB0
  obtain ⟨i, ls, hin, hkx, rfl, HN, hb, hmk, bel⟩ := hrel
  obtain ⟨w1, rfl⟩ : ∃ x, x = wr := ⟨_, rfl⟩
  have b0 : w1.cell? ⟨pb, 8, none⟩ = some (.slice AV n cV) := cell_of hb.book rfl
  by_cases hlt : i < n
  ·have hltz : (i : Int) < (n : Int) := by omega
   obtain ⟨x, hx⟩ : ∃ x, ls[i]? = some x := ⟨_, List.getElem?_eq_getElem (by have := HN.out; omega)⟩
   obtain ⟨AV', cV', e, fV⟩ := own_form hb.lists
   obtain ⟨gV, rfl, -, kV⟩ := fV (by rw [HN.out]; omega)
   injection e with e1 e2 e3
   subst e1 e3
   have hrx := hb.rows.own x (List.mem_of_getElem? hx)
   have hlx := hb.each x (List.mem_of_getElem? hx)
   obtain ⟨xv, zs⟩ := x
   obtain ⟨Ax, cx, rfl, fx⟩ := row_form hrx
   have g1 : w1.cell? ⟨gV, i, none⟩ = some (.slice Ax zs.length cx) := kV i _ (by rw [List.getElem?_map, hx]; rfl)
   obtain ⟨m, hm⟩ : ∃ m, zs.length = m := ⟨_, rfl⟩
   have HX : Hid (ls[i]? = some (.slice Ax m cx, zs)) := by show _ = _; rw [hx]; simp only [hm]
   have HZ : Hid (zs.length = m) := hm
   simp only [hm] at g1 fx hlx hrx
   have hi3 : i ≤ 300 := by omega
   have FX : Hid _ := fx
   clear hm hx fx kV fV e2
   go_wp2_with fail
   refine (mark_call i 0 m w1 hi3 (by omega)).mono ?_
   rintro e w2 ⟨vm, rfl, hrm, bel2⟩
   have hb2 := hb.below bel2
   have hB1 : B ≤ w1.heap.size := Nat.le_trans hB bel.size
   have bel3 : BT B w w2 := bel.step bel2 hB1
   obtain ⟨Am, cm, rfl, fm⟩ := row_form hrm
   simp only [marks_length] at hrm fm ⊢
   have FM : Hid _ := fm
   have hxlt : ∀ g, (Value.slice Ax m cx).ownBlock = some g → g < w1.heap.size := own_lt hrx
   have HRM : Hid (Row w1.heap.size w2 (.slice Am m cm, marks i 0 m)) := hrm
   have hb3 : BookL oth B w2 pb (.slice (some ⟨gV, 0, none⟩) n cV) W (ls.set i (.slice Ax m cx, zs)) := by rw [set_self HX.out]; exact hb2
   clear b0 hb hrx fm hrm g1 bel2 bel
   go_wp2_with fail
   go_loopg [4] m (fun kx s4 wr => ∃ (k : Nat) (zk : List Int), k ≤ m ∧ m - k ≤ kx ∧ s4 = .int .i64 (k : Int) ∧ Hid (zk.length = m ∧ (∀ j, j < k → zk.getD j 0 = mark i j) ∧ BookL oth B wr pb (.slice (some ⟨gV, 0, none⟩) n cV) W (ls.set i (.slice Ax m cx, zk)) ∧ Row w1.heap.size wr (.slice Am m cm, marks i 0 m) ∧ BT B w wr))
   case atStart => exact ⟨0, zs, Nat.zero_le _, Nat.le_refl _, rfl, ⟨HZ.out, (fun j hj => absurd hj (Nat.not_lt_zero _)), hb3, HRM.out, bel3⟩⟩
   case round =>
    clear hb2 hb3 HRM bel3
    obtain ⟨w0, rfl⟩ : ∃ x, x = wr := ⟨_, rfl⟩
    obtain ⟨k, zk, hkm, hkx2, rfl, HK⟩ := hrel
    by_cases hlt2 : k < m
    ·have hltz2 : (k : Int) < (m : Int) := by omega
     obtain ⟨bx, rfl, -⟩ := FX.out (by omega)
     obtain ⟨bm, rfl, -⟩ := FM.out (by omega)
     have hil : i < ls.length := by have := HN.out; omega
     have hsi : (ls.set i (Value.slice (some ⟨bx, 0, none⟩) m cx, zk))[i]? = some (Value.slice (some ⟨bx, 0, none⟩) m cx, zk) := by rw [List.getElem?_set_self hil]
     have hrx := HK.out.2.2.1.rows.own _ (List.mem_of_getElem? hsi)
     have hrx' : w0.ownsRow B 5 1 (.slice (some ⟨bx, 0, none⟩) m cx) m (zk.map (Value.int .u8)) := by have h := hrx; unfold Row at h; rw [HK.out.1] at h; exact h
     have hrm' : w0.ownsRow w1.heap.size 5 1 (.slice (some ⟨bm, 0, none⟩) m cm) m ((marks i 0 m).map (Value.int .u8)) := by have h := HK.out.2.2.2.1; unfold Row at h; simp only [marks_length] at h; exact h
     have f0 : w0.cell? ⟨pb, 8, none⟩ = some (.slice (some ⟨gV, 0, none⟩) n cV) := cell_of HK.out.2.2.1.book rfl
     obtain ⟨A', c', e, fV⟩ := own_form HK.out.2.2.1.lists
     obtain ⟨g', rfl, -, kV⟩ := fV (by rw [List.length_set]; omega)
     injection e with e1 e2 e3
     injection e1 with e1
     injection e1 with e1
     subst e1
     clear e2 e3
     have f1 : w0.cell? ⟨gV, i, none⟩ = some (.slice (some ⟨bx, 0, none⟩) m cx) := kV i _ (by rw [List.getElem?_map, hsi]; rfl)
     have f2 : w0.cell? ⟨bm, k, none⟩ = some (.int .u8 (mark i k)) := by
      have := World.ownsRow.cells hrm' rfl k (.int .u8 (mark i k)) (by rw [List.getElem?_map]; simp [marks, hlt2])
      rw [Addr.add_lit, Nat.zero_add] at this
      exact this
     have f3 : w0.cell? ⟨bx, k, none⟩ = some (.int .u8 (zk.getD k 0)) := by
      have := World.ownsRow.cells hrx' rfl k (.int .u8 (zk.getD k 0)) (by have := HK.out.1; simp [List.getD_eq_getElem?_getD, show k < zk.length by omega])
      rw [Addr.add_lit, Nat.zero_add] at this
      exact this
     have FZ : Hid (∀ X, RowKit.Below w0.heap.size w0 X → X.frozen? ⟨bx, k, none⟩ = false) := fun X hX => (own_below hrx' hX).frozenAt k
     have FIN : Hid (∀ X, RowKit.Below w0.heap.size w0 X → Row B (X.setCell ⟨bx, k, none⟩ (.int .u8 (mark i k))) (.slice (some ⟨bx, 0, none⟩) m cx, zk.set k (mark i k)) ∧ w0.grownBy (X.setCell ⟨bx, k, none⟩ (.int .u8 (mark i k))) (some bx)) := by
      show ∀ X, _
      intro X hX
      obtain ⟨s1, s2⟩ := (own_below hrx' hX).stored k (.int .u8 (mark i k))
      refine ⟨?_, grown_trans (grown_below hX) s2⟩
      unfold Row
      simp only [List.length_set, HK.out.1, List.map_set]
      exact s1
     have ROWS : Hid (∀ X, w0.grownBy X (some bx) → Row B X (.slice (some ⟨bx, 0, none⟩) m cx, zk.set k (mark i k)) → Hid ((zk.set k (mark i k)).length = m ∧ (∀ j, j < k + 1 → (zk.set k (mark i k)).getD j 0 = mark i j) ∧ BookL oth B X pb (.slice (some ⟨gV, 0, none⟩) n cV) W (ls.set i (.slice (some ⟨bx, 0, none⟩) m cx, zk.set k (mark i k))) ∧ Row w1.heap.size X (.slice (some ⟨bm, 0, none⟩) m cm, marks i 0 m) ∧ BT B w X)) := by
      show ∀ X, _
      intro X hg hr
      obtain ⟨q1, q2, q3, q4, q5⟩ := HK.out
      refine ⟨by rw [List.length_set]; exact q1, fun j hj => ?_, ?_, ?_, ?_⟩
      ·rw [List.getD_eq_getElem?_getD, List.getElem?_set]
       split
       ·rename_i e; subst e; rw [if_pos (by omega)]; rfl
       ·have := q2 j (by omega)
        rw [List.getD_eq_getElem?_getD] at this
        exact this
      ·have := q3.set hsi hg hr (by rw [List.length_set])
       rw [List.set_set] at this
       exact this
      ·exact q4.other (v := .slice (some ⟨bx, 0, none⟩) m cx) hg (fun g hg1 hg2 => by
        have h1 := own_ge q4 g hg1
        have h2 := hxlt g hg2
        omega)
      ·exact q5.grown hrx (.inl rfl) hg (fun k hk => own_ge hrx k hk) (Nat.le_trans hB q5.size)
     have zk1 : IntKind.i64.wrap ((k : Int) + 1) = (k : Int) + 1 := by rw [IntKind.wrap_i64]; omega
     clear HK hrx hrx' hrm' hsi kV fV
     go_wp2_with fail
     refine RegU.wp_region_lists (fun _ => True) (ptU w0) ptR (fun i => i) (ptV B w0 pb n i k gV cV m bx cx bm cm zk)
      [some 30, some 31, some 32, some 33, some 34, some 35, some 36, some 37, some 38, some 39, some 40, some 41, some 42, none]
      [[], [0], [1], [2], [], [3, 4], [5], [], [], [], [8, 9], [10], [6, 7, 0, 1, 2, 3, 4, 5, 6, 7, 8, 9, 10, 11], [12, 11, 0, 1, 2, 3, 4, 5, 6, 7, 8, 9, 10, 11]]
      (by kernel_rfl) (by kernel_rfl) (by kernel_rfl) (fun i => .inl rfl) ?_ ?_ ?_ ?_ ?_ ?_ ?_
     ·trivial
     ·intro i; exact ptU_start i
     ·intros; trivial
     ·intro j i W W' h1 h2 h3 h4; refine ptU_stay h1 ?_ h3 h4
      rintro rfl
      refine ⟨?_, ?_, ?_⟩ <;> (rintro rfl; exact h2 (by decide))
     ·intro j i p v W W' h1 h2 h3 h4; exact ptV_stay h1 h3 h4
     ·refine ⟨?_, ?_, ?_, ?_, ?_, ?_, ?_, ?_, ?_, ?_, ?_, ?_, ?_, ?_, trivial⟩
      ·intro vals W K hG hU hV hK
       simp only [if_true] at hK
       simp only [Reg.putS, List.foldl, List.headD, List.tail, List.getD_cons_zero, List.getD_cons_succ, Act.put, List.setIfInBounds_toArray, List.set_cons_zero, List.set_cons_succ] at hK ⊢
       go_simp
       exact hK _ _ (Below.refl _ _) rfl
      ·intro vals W K hG hU hV hK
       simp only [if_true] at hK
       have d0 := hV 0 (by simp)
       simp only [ptV] at d0
       simp only [Reg.putS, List.foldl, List.headD, List.tail, List.getD_cons_zero, List.getD_cons_succ, Act.put, List.setIfInBounds_toArray, List.set_cons_zero, List.set_cons_succ, d0] at hK ⊢
       go_simp
       exact hK _ _ (Below.refl _ _) rfl
      ·intro vals W K hG hU hV hK
       simp only [if_true] at hK
       have d1 := hV 1 (by simp)
       simp only [ptV] at d1
       simp only [Reg.putS, List.foldl, List.headD, List.tail, List.getD_cons_zero, List.getD_cons_succ, Act.put, List.setIfInBounds_toArray, List.set_cons_zero, List.set_cons_succ, d1] at hK ⊢
       go_simp
       exact hK _ _ (Below.refl _ _) rfl
      ·intro vals W K hG hU hV hK
       simp only [if_true] at hK
       have d2 := hV 2 (by simp)
       simp only [ptV] at d2
       simp only [Reg.putS, List.foldl, List.headD, List.tail, List.getD_cons_zero, List.getD_cons_succ, Act.put, List.setIfInBounds_toArray, List.set_cons_zero, List.set_cons_succ, d2] at hK ⊢
       have hcl := pw_cell_below (show RowKit.Below w0.heap.size w0 W from hU) f0
       go_simp
       exact hK _ _ (Below.refl _ _) rfl
      ·intro vals W K hG hU hV hK
       simp only [if_true] at hK
       simp only [Reg.putS, List.foldl, List.headD, List.tail, List.getD_cons_zero, List.getD_cons_succ, Act.put, List.setIfInBounds_toArray, List.set_cons_zero, List.set_cons_succ] at hK ⊢
       go_simp
       exact hK _ _ (Below.refl _ _) rfl
      ·intro vals W K hG hU hV hK
       simp only [if_true] at hK
       have d3 := hV 3 (by simp)
       simp only [ptV] at d3
       have d4 := hV 4 (by simp)
       simp only [ptV] at d4
       simp only [Reg.putS, List.foldl, List.headD, List.tail, List.getD_cons_zero, List.getD_cons_succ, Act.put, List.setIfInBounds_toArray, List.set_cons_zero, List.set_cons_succ, d3, d4] at hK ⊢
       go_simp
       exact hK _ _ (Below.refl _ _) rfl
      ·intro vals W K hG hU hV hK
       simp only [if_true] at hK
       have d5 := hV 5 (by simp)
       simp only [ptV] at d5
       simp only [Reg.putS, List.foldl, List.headD, List.tail, List.getD_cons_zero, List.getD_cons_succ, Act.put, List.setIfInBounds_toArray, List.set_cons_zero, List.set_cons_succ, d5] at hK ⊢
       have hcl := pw_cell_below (show RowKit.Below w0.heap.size w0 W from hU) f1
       go_simp
       exact hK _ _ (Below.refl _ _) rfl
      ·intro vals W K hG hU hV hK
       simp only [if_true] at hK
       simp only [Reg.putS, List.foldl, List.headD, List.tail, List.getD_cons_zero, List.getD_cons_succ, Act.put, List.setIfInBounds_toArray, List.set_cons_zero, List.set_cons_succ] at hK ⊢
       go_simp
       exact hK _ _ (Below.refl _ _) rfl
      ·intro vals W K hG hU hV hK
       simp only [if_true] at hK
       simp only [Reg.putS, List.foldl, List.headD, List.tail, List.getD_cons_zero, List.getD_cons_succ, Act.put, List.setIfInBounds_toArray, List.set_cons_zero, List.set_cons_succ] at hK ⊢
       go_simp
       exact hK _ _ (Below.refl _ _) rfl
      ·intro vals W K hG hU hV hK
       simp only [if_true] at hK
       simp only [Reg.putS, List.foldl, List.headD, List.tail, List.getD_cons_zero, List.getD_cons_succ, Act.put, List.setIfInBounds_toArray, List.set_cons_zero, List.set_cons_succ] at hK ⊢
       go_simp
       exact hK _ _ (Below.refl _ _) rfl
      ·intro vals W K hG hU hV hK
       simp only [if_true] at hK
       have d8 := hV 8 (by simp)
       simp only [ptV] at d8
       have d9 := hV 9 (by simp)
       simp only [ptV] at d9
       simp only [Reg.putS, List.foldl, List.headD, List.tail, List.getD_cons_zero, List.getD_cons_succ, Act.put, List.setIfInBounds_toArray, List.set_cons_zero, List.set_cons_succ, d8, d9] at hK ⊢
       go_simp
       exact hK _ _ (Below.refl _ _) rfl
      ·intro vals W K hG hU hV hK
       simp only [if_true] at hK
       have d10 := hV 10 (by simp)
       simp only [ptV] at d10
       simp only [Reg.putS, List.foldl, List.headD, List.tail, List.getD_cons_zero, List.getD_cons_succ, Act.put, List.setIfInBounds_toArray, List.set_cons_zero, List.set_cons_succ, d10] at hK ⊢
       have hcl := pw_cell_below (show RowKit.Below w0.heap.size w0 W from hU) f2
       go_simp
       exact hK _ _ (Below.refl _ _) rfl
      ·intro vals W K hG hU hV hK
       simp only [if_true] at hK
       have d0 := hV 0 (by simp)
       simp only [ptV] at d0
       have d1 := hV 1 (by simp)
       simp only [ptV] at d1
       have d2 := hV 2 (by simp)
       simp only [ptV] at d2
       have d3 := hV 3 (by simp)
       simp only [ptV] at d3
       have d4 := hV 4 (by simp)
       simp only [ptV] at d4
       have d5 := hV 5 (by simp)
       simp only [ptV] at d5
       have d6 := hV 6 (by simp)
       simp only [ptV] at d6
       have d7 := hV 7 (by simp)
       simp only [ptV] at d7
       have d8 := hV 8 (by simp)
       simp only [ptV] at d8
       have d9 := hV 9 (by simp)
       simp only [ptV] at d9
       have d10 := hV 10 (by simp)
       simp only [ptV] at d10
       have d11 := hV 11 (by simp)
       simp only [ptV] at d11
       simp only [Reg.putS, List.foldl, List.headD, List.tail, List.getD_cons_zero, List.getD_cons_succ, Act.put, List.setIfInBounds_toArray, List.set_cons_zero, List.set_cons_succ, d0, d1, d2, d3, d4, d5, d6, d7, d8, d9, d10, d11] at hK ⊢
       go_simp
       exact hK _ _ (Below.refl _ _) rfl
      ·intro vals W K hG hU hV hK
       simp only [if_true] at hK
       have d0 := hV 0 (by simp)
       simp only [ptV] at d0
       have d1 := hV 1 (by simp)
       simp only [ptV] at d1
       have d2 := hV 2 (by simp)
       simp only [ptV] at d2
       have d3 := hV 3 (by simp)
       simp only [ptV] at d3
       have d4 := hV 4 (by simp)
       simp only [ptV] at d4
       have d5 := hV 5 (by simp)
       simp only [ptV] at d5
       have d6 := hV 6 (by simp)
       simp only [ptV] at d6
       have d7 := hV 7 (by simp)
       simp only [ptV] at d7
       have d8 := hV 8 (by simp)
       simp only [ptV] at d8
       have d9 := hV 9 (by simp)
       simp only [ptV] at d9
       have d10 := hV 10 (by simp)
       simp only [ptV] at d10
       have d11 := hV 11 (by simp)
       simp only [ptV] at d11
       have d12 := hV 12 (by simp)
       simp only [ptV] at d12
       simp only [Reg.putS, List.foldl, List.headD, List.tail, List.getD_cons_zero, List.getD_cons_succ, Act.put, List.setIfInBounds_toArray, List.set_cons_zero, List.set_cons_succ, d0, d1, d2, d3, d4, d5, d6, d7, d8, d9, d10, d11, d12] at hK ⊢
       have k0 := pw_cell_below (show RowKit.Below w0.heap.size w0 W from hU) f3
       have k1 := FZ.out W hU
       go_simp
       exact hK undef _ trivial (FIN.out W hU)
     ·intro vals W hG hV
      rw [show List.range (List.length [some 30, some 31, some 32, some 33, some 34, some 35, some 36, some 37, some 38, some 39, some 40, some 41, some 42, none]) = [0, 1, 2, 3, 4, 5, 6, 7, 8, 9, 10, 11, 12, 13] from rfl]
      have d0 := hV 0 (by decide)
      simp only [ptV] at d0
      have d1 := hV 1 (by decide)
      simp only [ptV] at d1
      have d2 := hV 2 (by decide)
      simp only [ptV] at d2
      have d3 := hV 3 (by decide)
      simp only [ptV] at d3
      have d4 := hV 4 (by decide)
      simp only [ptV] at d4
      have d5 := hV 5 (by decide)
      simp only [ptV] at d5
      have d6 := hV 6 (by decide)
      simp only [ptV] at d6
      have d7 := hV 7 (by decide)
      simp only [ptV] at d7
      have d8 := hV 8 (by decide)
      simp only [ptV] at d8
      have d9 := hV 9 (by decide)
      simp only [ptV] at d9
      have d10 := hV 10 (by decide)
      simp only [ptV] at d10
      have d11 := hV 11 (by decide)
      simp only [ptV] at d11
      have d12 := hV 12 (by decide)
      simp only [ptV] at d12
      have d13 := hV 13 (by decide)
      simp only [ptV] at d13
      obtain ⟨t1, t2⟩ := d13
      clear hV
      simp only [Reg.putS, List.foldl, List.getD_cons_zero, List.getD_cons_succ, Act.put, List.setIfInBounds_toArray, List.set_cons_zero, List.set_cons_succ, d0, d1, d2, d3, d4, d5, d6, d7, d8, d9, d10, d11, d12]
      clear d0 d1 d2 d3 d4 d5 d6 d7 d8 d9 d10 d11 d12
      clear f0 f1 f2 f3 FZ FIN
      have hrw := ROWS.out W t2 t1
      go_wp2
      go_roundg (m - (k + 1))
      case measure => omega
      case rel => exact ⟨k + 1, zk.set k (mark i k), hlt2, Nat.le_refl _, rfl, hrw⟩
    ·have hltz2 : ¬ (k : Int) < (m : Int) := by omega
     obtain ⟨q1, q2, q3, q4, q5⟩ := HK.out
     have hmk2 : Hid (Marked (i + 1) (ls.set i (.slice Ax m cx, zk))) := by
      show Marked _ _
      intro j x hj hji
      rw [List.getElem?_set] at hj
      split at hj
      ·rename_i e; subst e
       split at hj
       ·injection hj with hj
        subst hj
        refine same_aux (by rw [marks_length]) fun t ht => ?_
        have ht' : t < m := by rw [← q1]; exact ht
        rw [q2 t (by omega), marks_getD _ _ _ (by show t < zk.length; omega), Nat.zero_add]
       ·cases hj
      ·exact hmk.out j x hj (by omega)
     have HN2 : Hid ((ls.set i (Value.slice Ax m cx, zk)).length = n) := by show _ = _; rw [List.length_set]; exact HN.out
     have zi : IntKind.i64.wrap ((i : Int) + 1) = (i : Int) + 1 := by rw [IntKind.wrap_i64]; omega
     clear HK q1 q2 q4 hmk
     go_wp2
     go_roundg (n - (i + 1))
     case measure => omega
     case rel => exact ⟨i + 1, _, hlt, Nat.le_refl _, rfl, HN2, q3, hmk2, q5⟩
  ·have hltz : ¬ (i : Int) < (n : Int) := by omega
   obtain rfl : i = n := by omega
   clear hkx
   go_wp2
   go_end0
   exact ⟨rfl, ls, HN.out, hb, by rw [HN.out]; exact hmk.out, bel⟩
end Go.Proofs.YtdeeeechdlcdbaaGreat.MBytes
/- Lists that are kept (lexiphanebook): lists grown. -/
set_option linter.unusedVariables false
set_option linter.unusedSimpArgs false
namespace Go.Proofs.YtdeeeechdlcdbaaGreat.MBytes
open Go Go.RowKit Go.Lib Go.Sort Go.Proofs Go.Proofs.YtdeeeechdlcdbaaGreat.Base
variable {oth : Nat → Value}
/-- Lists that hold their marks, as rows. -/
def MarkedRs (B : Nat) (w : World) (vs : List Value) : Prop := ∀ j v, vs[j]? = some v → ∃ m, m ≤ 1000100 ∧ Row B w (v, marks j 0 m)
theorem MarkedRs.vs {B : Nat} {w : World} {vs : List Value} (h : MarkedRs B w vs) : MarkedVs w vs := by
 intro j v hj
 obtain ⟨m, hm, hr⟩ := h j v hj
 obtain ⟨A, c, e, ha⟩ := hr.at
 simp only [marks_length] at e
 exact ⟨A, m, c, e, by omega, ha⟩
theorem marks_take (i m k : Nat) (h : m ≤ k) : (marks i 0 k).take m = marks i 0 m := by
 unfold marks
 rw [← List.map_take, List.take_range, Nat.min_eq_left h]
theorem BookL.grow {B : Nat} {w w' : World} {pb : Nat} {V W lcur : Value} {ls : List L} {i : Nat} {x : L} {zs : List Int} (h : BookL oth B w pb V W ls) (hi : ls[i]? = some x) (hl : Row B w (lcur, zs)) (hpre : x.2 = zs.take x.2.length) (hle : x.2.length ≤ zs.length)
  (hap : ∀ j y, ls[j]? = some y → j ≠ i → Apt lcur y.1) (hg : w.grownBy w' lcur.ownBlock) (hl' : Row B w' (lcur, zs)) : BookL oth B w' pb V W ls := by
 refine ⟨h.ge, ?_, ?_, ⟨fun y hy => ?_, h.rows.apart⟩, h.each⟩
 ·rw [hg.block pb (heap_lt h.book) (fun e => own_ne hl h.book (by decide) e.symm)]; exact h.book
 ·refine World.ownsRow.kept h.lists hg ?_
  cases hx' : V.ownBlock with
  | none => exact .inl rfl
  | some g => exact .inr (fun e => own_apt h.lists hl (by decide) g hx' e.symm)
 ·obtain ⟨j, hj⟩ := List.mem_iff_getElem?.1 hy
  by_cases hji : j = i
  ·subst hji
   rw [hi] at hj
   injection hj with hj
   subst hj
   refine Keep.own_front (h.rows.own x hy) hl hg (by decide) hl' hle ?_
   show x.2.map (Value.int .u8) = (zs.map (Value.int .u8)).take (x.2.length * 1)
   rw [Nat.mul_one, ← List.map_take, ← hpre]
  ·exact (h.rows.own y hy).other hg (hap j y hj hji).symm
/-- While list i grows. -/
structure In (oth : Nat → Value) (B : Nat) (w0 w : World) (pb : Nat) (V W : Value) (ls outs : List L) (i m t : Nat) (vo lcur : Value) : Prop where
 cur : Row B w (lcur, marks i 0 (m + t))
 book : BookL oth B w pb V W ls
 apt : ∀ j y, ls[j]? = some y → j ≠ i → Apt lcur y.1
 prev : ∀ y ∈ outs, Row B w y ∧ Apt lcur y.1
 out : w.ownsRow w0.heap.size 63 1 vo i (outs.map Prod.fst)
 bel : BT B w0 w
theorem In.below {B : Nat} {w0 w w' : World} {pb : Nat} {V W : Value} {ls outs : List L} {i m t : Nat} {vo lcur : Value} (h : In oth B w0 w pb V W ls outs i m t vo lcur) (hb : RowKit.Below w.heap.size w w') (hB : B ≤ w0.heap.size) : In oth B w0 w' pb V W ls outs i m t vo lcur :=
 ⟨h.cur.below hb, h.book.below hb, h.apt, fun y hy => ⟨(h.prev y hy).1.below hb, (h.prev y hy).2⟩, own_below h.out hb, h.bel.step hb (Nat.le_trans hB h.bel.size)⟩
theorem In.step {B : Nat} {w0 w w' : World} {pb : Nat} {V W : Value} {ls outs : List L} {i m t d : Nat} {vo lcur v' xv : Value} (h : In oth B w0 w pb V W ls outs i m t vo lcur) (hB : B ≤ w0.heap.size) (hi : ls[i]? = some (xv, marks i 0 m))
  (ho : w'.ownsRow B 5 1 v' (m + t + d) ((marks i 0 (m + t)).map (Value.int .u8) ++ (marks i (m + t) d).map (Value.int .u8))) (hg : w.grownBy w' lcur.ownBlock) (hk : w'.ownsRow B 5 1 lcur (m + t) ((marks i 0 (m + t)).map (Value.int .u8)))
  (hp : v'.ownBlock = lcur.ownBlock ∨ ∀ g, v'.ownBlock = some g → w.heap.size ≤ g) : In oth B w0 w' pb V W ls outs i m (t + d) vo v' := by
 have hk' : Row B w' (lcur, marks i 0 (m + t)) := by unfold Row; simp only [marks_length]; exact hk
 have hap : ∀ {y : Value}, (∀ g, y.ownBlock = some g → g < w.heap.size) → Apt lcur y → Apt v' y := by
  intro y hy ha g hg1 hg2
  rcases hp with e | e
  ·exact ha g (by rw [← e]; exact hg1) hg2
  ·have := e g hg1
   have := hy g hg2
   omega
 refine ⟨?_, h.book.grow hi h.cur ?_ ?_ h.apt hg hk', fun j y hj hji => hap (own_lt (h.book.rows.own y (List.mem_of_getElem? hj))) (h.apt j y hj hji), fun y hy => ⟨(h.prev y hy).1.other hg (h.prev y hy).2.symm, hap (own_lt (h.prev y hy).1) (h.prev y hy).2⟩, ?_, ?_⟩
 ·unfold Row
  simp only [marks_length]
  rw [← Nat.add_assoc, ← marks_append i 0 (m + t) d, Nat.zero_add, List.map_append]
  exact ho
 ·show marks i 0 m = _
  simp only [marks_length]
  rw [marks_take i m (m + t) (by omega)]
 ·simp only [marks_length]; omega
 ·refine World.ownsRow.kept h.out hg ?_
  cases hx' : vo.ownBlock with
  | none => exact .inl rfl
  | some g => exact .inr (fun e => own_apt h.out h.cur (by decide) g hx' e.symm)
 ·exact h.bel.grown h.cur (.inl rfl) hg (fun k e => own_ge h.cur k e) (Nat.le_trans hB h.bel.size)
/-- Between two lists. -/
structure Out (oth : Nat → Value) (B : Nat) (w0 w : World) (pb : Nat) (V W : Value) (ls outs : List L) (i : Nat) (vo : Value) : Prop where
 len : outs.length = i
 out : w.ownsRow w0.heap.size 63 1 vo i (outs.map Prod.fst)
 each : ∀ j y, outs[j]? = some y → y.2 = marks j 0 y.2.length ∧ y.2.length ≤ 1000100 ∧ Row B w y
 apt : ∀ y ∈ outs, ∀ j x, i ≤ j → ls[j]? = some x → Apt y.1 x.1
 book : BookL oth B w pb V W ls
 bel : BT B w0 w
set_option maxHeartbeats 2000000 in
set_option maxRecDepth 1000000 in
theorem grow_call {B pb : Nat} {V W : Value} {ls : List L} (w : World) (h : BookL oth B w pb V W ls) (hm : Marked ls.length ls) (hn : ls.length ≤ 250) (hB : B ≤ w.heap.size) :
  Calls Tryz.prog 67 #[.pointer (some ⟨pb, 0, none⟩)] w fun e w' => ∃ vo gs, e = .returned vo ∧ w'.ownsRow w.heap.size 63 1 vo ls.length gs ∧ MarkedRs B w' gs ∧ BookL oth B w' pb V W ls ∧ BT B w w' := by
 have mixed : Tryz.prog.follows .mixedOrders = true := by kernel_rfl
 obtain ⟨i0, hi0, hz0, hz1, hz2⟩ := info_parts infoL
 obtain ⟨i3, hi3, hy0, hy1, hy2⟩ := info_parts infoE
 obtain ⟨n, hnl⟩ : ∃ n, ls.length = n := ⟨_, rfl⟩
 have hLL := h.lists
 obtain ⟨AV, cV, rfl, -⟩ := own_form hLL
 rw [hnl] at h hn hm ⊢
 have HN : Hid (ls.length = n) := hnl
 have HMK : Hid (Marked n ls) := hm
 have hVo : Hid (∀ g, (Value.slice AV n cV).ownBlock = some g → g < w.heap.size) := own_lt h.lists
 have hstart : Hid (Out oth B w w pb (.slice AV n cV) W ls [] 0 (.slice none 0 0)) := (⟨rfl, World.ownsRow_nil _ _ _ _, (fun j y hj => by simp at hj), (fun y hy => by cases hy), h, BT.refl _⟩ : Out oth B w w pb (.slice AV n cV) W ls [] 0 (.slice none 0 0))
 clear hLL hnl h hm
 go_enter Tryz.func67, Tryz.ntmps67
 go_wp2_with fail
 go_loopg [3, 4] n (fun kx s3 s4 wr => ∃ (i : Nat) (outs : List L), i ≤ n ∧ n - i ≤ kx ∧ s4 = .int .i64 (i : Int) ∧ Hid (Out oth B w wr pb (.slice AV n cV) W ls outs i s3))
 case atStart => exact ⟨0, [], Nat.zero_le _, Nat.le_refl _, rfl, hstart⟩
 case round =>
  clear hstart
  obtain ⟨i, outs, hin, hkx, rfl, HO⟩ := hrel
  obtain ⟨w1, rfl⟩ : ∃ x, x = wr := ⟨_, rfl⟩
  have b0 : w1.cell? ⟨pb, 8, none⟩ = some (.slice AV n cV) := cell_of HO.out.book.book rfl
  obtain ⟨Ao, co, rfl, -⟩ := own_form HO.out.out
  by_cases hlt : i < n
  ·have hltz : (i : Int) < (n : Int) := by omega
   obtain ⟨x, hx⟩ : ∃ x, ls[i]? = some x := ⟨_, List.getElem?_eq_getElem (by have := HN.out; omega)⟩
   obtain ⟨AV', cV', e, fV⟩ := own_form HO.out.book.lists
   obtain ⟨gV, rfl, -, kV⟩ := fV (by rw [HN.out]; omega)
   injection e with e1 e2 e3
   subst e1 e3
   have hxm := HMK.out i x hx hlt
   have hlx := HO.out.book.each x (List.mem_of_getElem? hx)
   have hrx := HO.out.book.rows.own x (List.mem_of_getElem? hx)
   obtain ⟨xv, zs⟩ := x
   obtain ⟨m, hmz⟩ : ∃ m, zs.length = m := ⟨_, rfl⟩
   simp only [hmz] at hxm hlx
   subst hxm
   obtain ⟨Ax, cx, rfl, -⟩ := row_form hrx
   simp only [marks_length] at hx hrx
   have g1 : w1.cell? ⟨gV, i, none⟩ = some (.slice Ax m cx) := kV i _ (by rw [List.getElem?_map, hx]; rfl)
   have HX : Hid (ls[i]? = some (.slice Ax m cx, marks i 0 m)) := hx
   have hi3' : i ≤ 300 := by omega
   have hstart : Hid (In oth B w w1 pb (.slice (some ⟨gV, 0, none⟩) n cV) W ls outs i m 0 (.slice Ao i co) (.slice Ax m cx)) := by
    have ho := HO.out
    exact (⟨by rw [Nat.add_zero]; exact hrx, ho.book, fun j y hj hji => ho.book.rows.apt hx hj (Ne.symm hji), fun y hy => ⟨by obtain ⟨j, hj⟩ := List.mem_iff_getElem?.1 hy; exact (ho.each j y hj).2.2, (ho.apt y hy i _ (Nat.le_refl _) hx).symm⟩, ho.out, ho.bel⟩ : In oth B w w1 pb (.slice (some ⟨gV, 0, none⟩) n cV) W ls outs i m 0 (.slice Ao i co) (.slice Ax m cx))
   clear hx hrx kV fV e2 hmz
   go_wp2_with fail
   go_loopg [5, 6] 12 (fun kx s5 s6 wr => ∃ (t q : Nat), t ≤ 12 ∧ 12 - t ≤ kx ∧ (m + t ≤ q ∧ q ≤ m + t) ∧ s6 = .int .i64 (t : Int) ∧ ∃ A c, s5 = .slice A q c ∧ Hid (In oth B w wr pb (.slice (some ⟨gV, 0, none⟩) n cV) W ls outs i m t (.slice Ao i co) (.slice A q c)))
   case atStart => exact ⟨0, m, Nat.zero_le _, Nat.le_refl _, by omega, rfl, Ax, cx, rfl, hstart⟩
   case round =>
    clear hstart
    obtain ⟨t, q, ht, hkx2, hq, rfl, Ac, cc, rfl, HI⟩ := hrel
    obtain ⟨w2, rfl⟩ : ∃ x, x = wr := ⟨_, rfl⟩
    have HQ : Hid (q = m + t) := (by omega : _ = _)
    by_cases hlt2 : t < 12
    ·have hltz2 : (t : Int) < 12 := by omega
     go_wp2_with fail
     refine (mark_call i q 1 w2 hi3' (by omega)).mono ?_
     rintro e w3 ⟨vm, rfl, hrm, bel3⟩
     obtain ⟨Am, cm, rfl, fm⟩ := row_form hrm
     simp only [marks_length] at hrm fm ⊢
     obtain ⟨bm, rfl, -⟩ := fm (by omega)
     have hI3 := HI.out.below bel3 hB
     have HI3 : Hid (In oth B w w3 pb (.slice (some ⟨gV, 0, none⟩) n cV) W ls outs i m t (.slice Ao i co) (.slice Ac q cc)) := hI3
     have hcur : w3.ownsRow B 5 1 (.slice Ac q cc) q ((marks i 0 q).map (Value.int .u8)) := by
      have h := hI3.cur
      unfold Row at h
      simp only [marks_length] at h
      rw [HQ.out] at h ⊢
      exact h
     have hnews : ∀ j u, ((marks i q 1).map (Value.int .u8))[j]? = some u → w3.cell? ((⟨bm, 0, none⟩ : Addr).add j) = some u := World.ownsRow.cells hrm rfl
     have hln : ((marks i q 1).map (Value.int .u8)).length = 1 * 1 := by rw [List.length_map, marks_length]
     have hB3 : B ≤ w3.heap.size := Nat.le_trans hB hI3.bel.size
     clear HI hrm fm hI3 bel3
     go_wp2_with (first | (at_builtin; refine wpList_append_both _ rfl (.tmp 27) (.tmp 31) 63 rfl B 5 i3 _ 1 1 Tryz.underlying63 hi3 hy0 hy1 hy2 rfl (by decide) _ q ((marks i 0 q).map (Value.int .u8)) rfl hcur ⟨bm, 0, none⟩ 1 cm ((marks i q 1).map (Value.int .u8)) rfl hln hnews one_kind ?d1 ?d2 hB3 ?_))
     case d1 => unfold maxLen; omega
     case d2 => omega
     intro v4 w4 ho4 hg4 hk4 hp4
     have hI4 : Hid (In oth B w w4 pb (.slice (some ⟨gV, 0, none⟩) n cV) W ls outs i m (t + 1) (.slice Ao i co) v4) := by
      refine HI3.out.step hB HX.out ?_ hg4 ?_ hp4
      ·rw [← HQ.out]; exact ho4
      ·rw [← HQ.out]; exact hk4
     obtain ⟨A4, c4, rfl, -⟩ := own_form ho4
     have zt : IntKind.i64.wrap ((t : Int) + 1) = (t : Int) + 1 := by rw [IntKind.wrap_i64]; omega
     clear HI3 hcur hnews hln hB3 ho4 hg4 hk4 hp4
     go_wp2
     go_roundg (12 - (t + 1))
     case measure => omega
     case rel => exact ⟨t + 1, q + 1, hlt2, Nat.le_refl _, by omega, rfl, A4, c4, rfl, hI4⟩
    ·have hltz2 : ¬ (t : Int) < 12 := by omega
     go_wp2_with fail
     refine (mark_call i q 60 w2 hi3' (by omega)).mono ?_
     rintro e w3 ⟨vm, rfl, hrm, bel3⟩
     obtain ⟨Am, cm, rfl, fm⟩ := row_form hrm
     simp only [marks_length] at hrm fm ⊢
     obtain ⟨bm, rfl, -⟩ := fm (by omega)
     have hI3 := HI.out.below bel3 hB
     have HI3 : Hid (In oth B w w3 pb (.slice (some ⟨gV, 0, none⟩) n cV) W ls outs i m t (.slice Ao i co) (.slice Ac q cc)) := hI3
     have hcur : w3.ownsRow B 5 1 (.slice Ac q cc) q ((marks i 0 q).map (Value.int .u8)) := by
      have h := hI3.cur
      unfold Row at h
      simp only [marks_length] at h
      rw [HQ.out] at h ⊢
      exact h
     have hnews : ∀ j u, ((marks i q 60).map (Value.int .u8))[j]? = some u → w3.cell? ((⟨bm, 0, none⟩ : Addr).add j) = some u := World.ownsRow.cells hrm rfl
     have hln : ((marks i q 60).map (Value.int .u8)).length = 60 * 1 := by rw [List.length_map, marks_length]
     have hB3 : B ≤ w3.heap.size := Nat.le_trans hB hI3.bel.size
     clear HI hrm fm hI3 bel3
     go_wp2_with (first | (at_builtin; refine wpList_append_both _ rfl (.tmp 34) (.tmp 38) 63 rfl B 5 i3 _ 1 1 Tryz.underlying63 hi3 hy0 hy1 hy2 rfl (by decide) _ q ((marks i 0 q).map (Value.int .u8)) rfl hcur ⟨bm, 0, none⟩ 60 cm ((marks i q 60).map (Value.int .u8)) rfl hln hnews one_kind ?d1 ?d2 hB3 ?_))
     case d1 => unfold maxLen; omega
     case d2 => omega
     intro v4 w4 ho4 hg4 hk4 hp4
     have hI4 : In oth B w w4 pb (.slice (some ⟨gV, 0, none⟩) n cV) W ls outs i m (t + 60) (.slice Ao i co) v4 := by
      refine HI3.out.step hB HX.out ?_ hg4 ?_ hp4
      ·rw [← HQ.out]; exact ho4
      ·rw [← HQ.out]; exact hk4
     obtain ⟨A4, c4, rfl, -⟩ := own_form ho4
     have HI4 : Hid _ := hI4
     have hI5 := hI4.below (below_alloc w4 (.cells #[.slice A4 (q + 60) c4] 63)) hB
     have HI5 : Hid (In oth B w (w4.alloc (.cells #[.slice A4 (q + 60) c4] 63)) pb (.slice (some ⟨gV, 0, none⟩) n cV) W ls outs i m (t + 60) (.slice Ao i co) (.slice A4 (q + 60) c4)) := hI5
     have hout := hI5.out
     have hout6 : Hid _ := hout
     have hh5 := heap_new w4 (.cells #[.slice A4 (q + 60) c4] 63)
     have hsz5 : w.heap.size ≤ (w4.alloc (.cells #[.slice A4 (q + 60) c4] 63)).heap.size := hI5.bel.size
     clear HI3 hcur hnews hln hB3 ho4 hg4 hk4 hp4 HI4 hI4 hI5
     go_wp2_with (first | (at_builtin; refine wpList_append_both _ rfl (.tmp 33) (.tmp 40) 40 rfl w.heap.size 63 i0 _ 1 24 Tryz.underlying40 hi0 hz0 hz1 hz2 rfl (by decide) _ i (outs.map Prod.fst) rfl hout ⟨w4.heap.size, 0, none⟩ 1 1 [.slice A4 (q + 60) c4] rfl rfl ?e1 ?e2 ?e3 ?e4 hsz5 ?_))
     case e1 => intro j u hj; rw [Addr.add_lit, Nat.zero_add]; exact cell_of hh5 (by simpa using hj)
     case e2 => intro u hu; simp at hu; subst hu; rfl
     case e3 => unfold maxLen; omega
     case e4 => omega
     intro v6 w6 ho6 hg6 hk6 hp6
     obtain ⟨A6, c6, rfl, -⟩ := own_form ho6
     have hS6 : Stays (w4.alloc (.cells #[.slice A4 (q + 60) c4] 63)) w6 := Stays.of_grown hout hg6
     have hO6 : Hid (Out oth B w w6 pb (.slice (some ⟨gV, 0, none⟩) n cV) W ls (outs ++ [(.slice A4 (q + 60) c4, marks i 0 (m + (t + 60)))]) (i + 1) (.slice A6 (i + 1) c6)) := by
      have k := HI5.out
      have ko := HO.out
      have hneV : (Value.slice (some ⟨gV, 0, none⟩) n cV).ownBlock = none ∨ (Value.slice (some ⟨gV, 0, none⟩) n cV).ownBlock ≠ (Value.slice Ao i co).ownBlock := .inr (fun e => by
       have h2 := own_ge ko.out gV e.symm
       have h3 := hVo.out gV rfl
       omega)
      have hpb6 : some pb ≠ (Value.slice Ao i co).ownBlock := fun e => own_ne hout6.out k.book.book (by decide) e.symm
      have hbk : BookL oth B w6 pb (.slice (some ⟨gV, 0, none⟩) n cV) W ls := ⟨k.book.ge, by rw [hg6.block pb (heap_lt k.book.book) hpb6]; exact k.book.book, World.ownsRow.kept k.book.lists hg6 hneV, k.book.rows.stays hS6, k.book.each⟩
      refine (⟨?_, ?_, ?_, ?_, hbk, ?_⟩ : Out _ _ _ _ _ _ _ _ _ _ _)
      ·rw [List.length_append, ko.len]; rfl
      ·rw [List.map_append]; exact ho6
      ·intro j y hj
       rcases Nat.lt_or_ge j i with hji | hji
       ·rw [List.getElem?_append_left (by rw [ko.len]; exact hji)] at hj
        obtain ⟨q1, q2, _⟩ := ko.each j y hj
        exact ⟨q1, q2, hS6.row (k.prev y (List.mem_of_getElem? hj)).1 (by decide) (by decide)⟩
       ·rw [List.getElem?_append_right (by rw [ko.len]; exact hji), ko.len] at hj
        have hjj : j - i = 0 := by
         have := (List.getElem?_eq_some_iff.1 hj).1
         simp at this; omega
        obtain rfl : j = i := by omega
        rw [hjj] at hj
        obtain rfl : (Value.slice A4 (q + 60) c4, marks j 0 (m + (t + 60))) = y := by simpa using hj
        exact ⟨by simp only [marks_length], by simp only [marks_length]; omega, hS6.row k.cur (by decide) (by decide)⟩
      ·intro y hy j x hij hj
       rcases List.mem_append.1 hy with hy | hy
       ·exact ko.apt y hy j x (by omega) hj
       ·rw [List.mem_singleton.1 hy]; exact k.apt j x hj (by omega)
      ·exact k.bel.grown hout6.out (.inr rfl) hg6 (fun g e => Nat.le_trans hB (own_ge ko.out g e)) (Nat.le_trans hB k.bel.size)
     have zi : IntKind.i64.wrap ((i : Int) + 1) = (i : Int) + 1 := by rw [IntKind.wrap_i64]; omega
     clear HI5 hout hh5 hsz5 ho6 hg6 hk6 hp6 hS6 hout6
     go_wp2
     go_roundg (n - (i + 1))
     case measure => omega
     case rel => exact ⟨i + 1, _, hlt, Nat.le_refl _, rfl, hO6⟩
  ·have hltz : ¬ (i : Int) < (n : Int) := by omega
   obtain rfl : i = n := by omega
   have hfin : Hid (MarkedRs B w1 (outs.map Prod.fst)) := by
    show ∀ j v, _
    intro j v hj
    rw [List.getElem?_map] at hj
    obtain ⟨y, hy, rfl⟩ := Option.map_eq_some_iff.1 hj
    obtain ⟨q1, q2, q3⟩ := HO.out.each j y hy
    exact ⟨y.2.length, q2, by rw [← q1]; exact q3⟩
   have ho := HO.out.out
   have hb := HO.out.book
   have hbl := HO.out.bel
   have HOO : Hid (w1.ownsRow w.heap.size 63 1 (.slice Ao i co) i (outs.map Prod.fst)) := ho
   clear HO ho
   go_wp2
   go_ret
   exact ⟨_, rfl, _, HOO.out, hfin.out, hb, hbl⟩

theorem heads_marked {B : Nat} {w : World} {pb : Nat} {V W : Value} {ls : List L} (h : BookL oth B w pb V W ls) (hm : Marked ls.length ls) : MarkedVs w (ls.map Prod.fst) := by
 intro j v hj
 rw [List.getElem?_map] at hj
 obtain ⟨y, hy, rfl⟩ := Option.map_eq_some_iff.1 hj
 have hmem := List.mem_of_getElem? hy
 obtain ⟨A, c, e, ha⟩ := (h.rows.own y hmem).at
 refine ⟨A, _, c, e, by have := h.each y hmem; omega, ?_⟩
 rw [← hm j y hy (List.getElem?_eq_some_iff.1 hy).1]; exact ha
theorem book_field {w : World} {pb : Nat} {V W : Value} (h : w.heap[pb]? = some (.cells (bookCells oth V W) 42 (0, 0))) (i : Nat) (v : Value) (hi : (bookCells oth V W)[i]? = some v) : w.cell? ⟨pb, i, none⟩ = some v := cell_of h hi
end Go.Proofs.YtdeeeechdlcdbaaGreat.MBytes
