/- A book of lists of three kinds: numbers, hits, bytes; what is added to it; are its lists apart? -/
import Derived.Test.YtdeeeechdlcdbaaGreatMi
import Derived.Test.YtdeeeechdlcdbaaGreatMh
import Derived.Test.YtdeeeechdlcdbaaGreatMb
set_option linter.unusedVariables false
set_option linter.unusedSimpArgs false
namespace Go.Proofs.YtdeeeechdlcdbaaGreat.MxA
open Go Go.RowKit Go.Lib Go.Sort Go.Proofs Go.Proofs.YtdeeeechdlcdbaaGreat.Base
abbrev nil : Value := .slice none 0 0
def oI (V4 W4 V8 W8 : Value) : Nat → Value | 4 => V4 | 5 => W4 | 8 => V8 | 9 => W8 | _ => nil
def oH (V0 W0 V8 W8 : Value) : Nat → Value | 0 => V0 | 1 => W0 | 8 => V8 | 9 => W8 | _ => nil
def oB (V0 W0 V4 W4 : Value) : Nat → Value | 0 => V0 | 1 => W0 | 4 => V4 | 5 => W4 | _ => nil
def Moves (w w' : World) (E L : TypeId) : Prop := ∀ {B e s n : Nat} {v : Value} {xs : List Value}, w.ownsRow B e s v n xs → e = E ∨ e = L → w'.ownsRow B e s v n xs
theorem moveI {o o' : Nat → Value} {B : Nat} {w w' : World} {pb : Nat} {V W : Value} {ls : List MInts.L} {cs : List Value} (h : MInts.BookAt o B B w pb V W ls cs) (hb : w'.heap[pb]? = some (.cells (MInts.bookCells o' V W) 42 (0, 0))) (hr : Moves w w' 3 31) : MInts.BookAt o' B B w' pb V W ls cs :=
 ⟨h.ge, hb, hr h.lists (.inr rfl), hr h.copies (.inr rfl), h.apt, fun j x hj => by obtain ⟨c, h1, h2⟩ := h.was j x hj; exact ⟨c, h1, hr h2 (.inl rfl)⟩, ⟨fun x hx => hr (h.rows.own x hx) (.inl rfl), h.rows.apart⟩⟩
theorem moveLI {o : Nat → Value} {B : Nat} {w w' : World} {pb : Nat} {V W : Value} {ls : List MInts.L} (h : MInts.BookL o B w pb V W ls) (hb : w'.heap[pb]? = w.heap[pb]?) (hr : Moves w w' 3 31) : MInts.BookL o B w' pb V W ls :=
 ⟨h.ge, hb.trans h.book, hr h.lists (.inr rfl), ⟨fun x hx => hr (h.rows.own x hx) (.inl rfl), h.rows.apart⟩, h.each⟩
theorem moveRI {B : Nat} {w w' : World} {gs : List Value} (h : MInts.MarkedRs B w gs) (hr : Moves w w' 3 31) : MInts.MarkedRs B w' gs := fun j v hj => by
 obtain ⟨m, h1, h2⟩ := h j v hj
 exact ⟨m, h1, hr h2 (.inl rfl)⟩
theorem stIH {w w' : World} (h : MInts.Stays w w') : Moves w w' 93 52 := fun ho he => h.row ho (by rcases he with rfl | rfl <;> decide) (by rcases he with rfl | rfl <;> decide)
theorem tsIH {w w' : World} (h : MInts.TStays w w') : Moves w w' 93 52 := fun ho he => h.row ho (by rcases he with rfl | rfl <;> decide) (by rcases he with rfl | rfl <;> decide)
theorem stIB {w w' : World} (h : MInts.Stays w w') : Moves w w' 5 63 := fun ho he => h.row ho (by rcases he with rfl | rfl <;> decide) (by rcases he with rfl | rfl <;> decide)
theorem tsIB {w w' : World} (h : MInts.TStays w w') : Moves w w' 5 63 := fun ho he => h.row ho (by rcases he with rfl | rfl <;> decide) (by rcases he with rfl | rfl <;> decide)
theorem pbI {B pb : Nat} {w w' : World} {cs : Array Value} (h : MInts.BT B w w') (hb : w.heap[pb]? = some (.cells cs 42 (0, 0))) : w'.heap[pb]? = w.heap[pb]? := by
 rw [hb]
 exact h.ts pb _ hb (fun cs m e => by injection e with _ e; cases e) (fun cs m e => by injection e with _ e; cases e)
theorem moveH {o o' : Nat → Value} {B : Nat} {w w' : World} {pb : Nat} {V W : Value} {ls : List MHits.L} {cs : List Value} (h : MHits.BookAt o B B w pb V W ls cs) (hb : w'.heap[pb]? = some (.cells (MHits.bookCells o' V W) 42 (0, 0))) (hr : Moves w w' 93 52) : MHits.BookAt o' B B w' pb V W ls cs :=
 ⟨h.ge, hb, hr h.lists (.inr rfl), hr h.copies (.inr rfl), h.apt, fun j x hj => by obtain ⟨c, h1, h2⟩ := h.was j x hj; exact ⟨c, h1, hr h2 (.inl rfl)⟩, ⟨fun x hx => hr (h.rows.own x hx) (.inl rfl), h.rows.apart⟩⟩
theorem moveLH {o : Nat → Value} {B : Nat} {w w' : World} {pb : Nat} {V W : Value} {ls : List MHits.L} (h : MHits.BookL o B w pb V W ls) (hb : w'.heap[pb]? = w.heap[pb]?) (hr : Moves w w' 93 52) : MHits.BookL o B w' pb V W ls :=
 ⟨h.ge, hb.trans h.book, hr h.lists (.inr rfl), ⟨fun x hx => hr (h.rows.own x hx) (.inl rfl), h.rows.apart⟩, h.each⟩
theorem moveRH {B : Nat} {w w' : World} {gs : List Value} (h : MHits.MarkedRs B w gs) (hr : Moves w w' 93 52) : MHits.MarkedRs B w' gs := fun j v hj => by
 obtain ⟨m, h1, h2⟩ := h j v hj
 exact ⟨m, h1, hr h2 (.inl rfl)⟩
theorem stHI {w w' : World} (h : MHits.Stays w w') : Moves w w' 3 31 := fun ho he => h.row ho (by rcases he with rfl | rfl <;> decide) (by rcases he with rfl | rfl <;> decide)
theorem tsHI {w w' : World} (h : MHits.TStays w w') : Moves w w' 3 31 := fun ho he => h.row ho (by rcases he with rfl | rfl <;> decide) (by rcases he with rfl | rfl <;> decide)
theorem stHB {w w' : World} (h : MHits.Stays w w') : Moves w w' 5 63 := fun ho he => h.row ho (by rcases he with rfl | rfl <;> decide) (by rcases he with rfl | rfl <;> decide)
theorem tsHB {w w' : World} (h : MHits.TStays w w') : Moves w w' 5 63 := fun ho he => h.row ho (by rcases he with rfl | rfl <;> decide) (by rcases he with rfl | rfl <;> decide)
theorem pbH {B pb : Nat} {w w' : World} {cs : Array Value} (h : MHits.BT B w w') (hb : w.heap[pb]? = some (.cells cs 42 (0, 0))) : w'.heap[pb]? = w.heap[pb]? := by
 rw [hb]
 exact h.ts pb _ hb (fun cs m e => by injection e with _ e; cases e) (fun cs m e => by injection e with _ e; cases e)
theorem moveB {o o' : Nat → Value} {B : Nat} {w w' : World} {pb : Nat} {V W : Value} {ls : List MBytes.L} {cs : List Value} (h : MBytes.BookAt o B B w pb V W ls cs) (hb : w'.heap[pb]? = some (.cells (MBytes.bookCells o' V W) 42 (0, 0))) (hr : Moves w w' 5 63) : MBytes.BookAt o' B B w' pb V W ls cs :=
 ⟨h.ge, hb, hr h.lists (.inr rfl), hr h.copies (.inr rfl), h.apt, fun j x hj => by obtain ⟨c, h1, h2⟩ := h.was j x hj; exact ⟨c, h1, hr h2 (.inl rfl)⟩, ⟨fun x hx => hr (h.rows.own x hx) (.inl rfl), h.rows.apart⟩⟩
theorem moveLB {o : Nat → Value} {B : Nat} {w w' : World} {pb : Nat} {V W : Value} {ls : List MBytes.L} (h : MBytes.BookL o B w pb V W ls) (hb : w'.heap[pb]? = w.heap[pb]?) (hr : Moves w w' 5 63) : MBytes.BookL o B w' pb V W ls :=
 ⟨h.ge, hb.trans h.book, hr h.lists (.inr rfl), ⟨fun x hx => hr (h.rows.own x hx) (.inl rfl), h.rows.apart⟩, h.each⟩
theorem moveRB {B : Nat} {w w' : World} {gs : List Value} (h : MBytes.MarkedRs B w gs) (hr : Moves w w' 5 63) : MBytes.MarkedRs B w' gs := fun j v hj => by
 obtain ⟨m, h1, h2⟩ := h j v hj
 exact ⟨m, h1, hr h2 (.inl rfl)⟩
theorem stBI {w w' : World} (h : MBytes.Stays w w') : Moves w w' 3 31 := fun ho he => h.row ho (by rcases he with rfl | rfl <;> decide) (by rcases he with rfl | rfl <;> decide)
theorem tsBI {w w' : World} (h : MBytes.TStays w w') : Moves w w' 3 31 := fun ho he => h.row ho (by rcases he with rfl | rfl <;> decide) (by rcases he with rfl | rfl <;> decide)
theorem stBH {w w' : World} (h : MBytes.Stays w w') : Moves w w' 93 52 := fun ho he => h.row ho (by rcases he with rfl | rfl <;> decide) (by rcases he with rfl | rfl <;> decide)
theorem tsBH {w w' : World} (h : MBytes.TStays w w') : Moves w w' 93 52 := fun ho he => h.row ho (by rcases he with rfl | rfl <;> decide) (by rcases he with rfl | rfl <;> decide)
theorem pbB {B pb : Nat} {w w' : World} {cs : Array Value} (h : MBytes.BT B w w') (hb : w.heap[pb]? = some (.cells cs 42 (0, 0))) : w'.heap[pb]? = w.heap[pb]? := by
 rw [hb]
 exact h.ts pb _ hb (fun cs m e => by injection e with _ e; cases e) (fun cs m e => by injection e with _ e; cases e)
/-- The book: from base on. -/
structure BkAt (B : Nat) (w : World) (pb : Nat) (lI : List MInts.L) (lH : List MHits.L) (lB : List MBytes.L) (V0 W0 V4 W4 V8 W8 : Value) (c0 c4 c8 : List Value) : Prop where
 i : MInts.BookAt (oI V4 W4 V8 W8) B B w pb V0 W0 lI c0
 h : MHits.BookAt (oH V0 W0 V8 W8) B B w pb V4 W4 lH c4
 b : MBytes.BookAt (oB V0 W0 V4 W4) B B w pb V8 W8 lB c8
def Bk (B : Nat) (w : World) (pb : Nat) (lI : List MInts.L) (lH : List MHits.L) (lB : List MBytes.L) : Prop := ∃ V0 W0 V4 W4 V8 W8 c0 c4 c8, BkAt B w pb lI lH lB V0 W0 V4 W4 V8 W8 c0 c4 c8
theorem Bk.below {B : Nat} {w w' : World} {pb : Nat} {lI : List MInts.L} {lH : List MHits.L} {lB : List MBytes.L} (h : Bk B w pb lI lH lB) (hb : RowKit.Below w.heap.size w w') : Bk B w' pb lI lH lB := by
 obtain ⟨V0, W0, V4, W4, V8, W8, c0, c4, c8, h⟩ := h
 exact ⟨V0, W0, V4, W4, V8, W8, c0, c4, c8, h.i.below hb, h.h.below hb, h.b.below hb⟩
theorem Bk.new {B : Nat} {w : World} (h : B ≤ w.heap.size) : Bk B (w.alloc (.cells #[nil, nil, nil, nil, nil, nil, nil, nil, nil, nil] 42)) w.heap.size [] [] [] := by
 obtain ⟨_, _, _, hi⟩ := MInts.Book.new (oth := oI nil nil nil nil) (B0 := B) (B := B) (w := w) h
 refine ⟨nil, nil, nil, nil, nil, nil, [], [], [], ?_, ?_, ?_⟩
 ·exact ⟨h, heap_new _ _, World.ownsRow_nil _ _ _ _, World.ownsRow_nil _ _ _ _, (fun g hg => by cases hg), (fun j x hj => by simp at hj), ⟨(fun x hx => by cases hx), .nil⟩⟩
 ·exact ⟨h, heap_new _ _, World.ownsRow_nil _ _ _ _, World.ownsRow_nil _ _ _ _, (fun g hg => by cases hg), (fun j x hj => by simp at hj), ⟨(fun x hx => by cases hx), .nil⟩⟩
 ·exact ⟨h, heap_new _ _, World.ownsRow_nil _ _ _ _, World.ownsRow_nil _ _ _ _, (fun g hg => by cases hg), (fun j x hj => by simp at hj), ⟨(fun x hx => by cases hx), .nil⟩⟩
theorem addI {B pb : Nat} {lI : List MInts.L} {lH : List MHits.L} {lB : List MBytes.L} {x : MInts.L} (w : World) (h : Bk B w pb lI lH lB) (hn : lI.length < 250) (hx : MInts.Row B w x) (hax : ∀ y ∈ lI, MInts.Apt y.1 x.1) (hlx : x.2.length ≤ 1000000) (hBw : B ≤ w.heap.size) :
  Calls Tryz.prog 16 #[.pointer (some ⟨pb, 0, none⟩), x.1] w fun e w' => e = .returned (.tuple #[]) ∧ Bk B w' pb (lI ++ [x]) lH lB ∧ MInts.Stays w w' ∧ RowKit.Below B w w' := by
 obtain ⟨V0, W0, V4, W4, V8, W8, c0, c4, c8, h⟩ := h
 refine (MInts.add_call w h.i hn hx hax hlx hBw).mono ?_
 rintro e w' ⟨rfl, ⟨V, W, cs, hb⟩, hs, hbel⟩
 exact ⟨rfl, ⟨V, W, V4, W4, V8, W8, cs, c4, c8, hb, moveH h.h hb.book (stIH hs), moveB h.b hb.book (stIB hs)⟩, hs, hbel⟩
theorem addH {B pb : Nat} {lI : List MInts.L} {lH : List MHits.L} {lB : List MBytes.L} {x : MHits.L} (w : World) (h : Bk B w pb lI lH lB) (hn : lH.length < 250) (hx : MHits.Row B w x) (hax : ∀ y ∈ lH, MHits.Apt y.1 x.1) (hlx : x.2.length ≤ 1000000) (hBw : B ≤ w.heap.size) :
  Calls Tryz.prog 25 #[.pointer (some ⟨pb, 0, none⟩), x.1] w fun e w' => e = .returned (.tuple #[]) ∧ Bk B w' pb lI (lH ++ [x]) lB ∧ MHits.Stays w w' ∧ RowKit.Below B w w' := by
 obtain ⟨V0, W0, V4, W4, V8, W8, c0, c4, c8, h⟩ := h
 refine (MHits.add_call w h.h hn hx hax hlx hBw).mono ?_
 rintro e w' ⟨rfl, ⟨V, W, cs, hb⟩, hs, hbel⟩
 exact ⟨rfl, ⟨V0, W0, V, W, V8, W8, c0, cs, c8, moveI h.i hb.book (stHI hs), hb, moveB h.b hb.book (stHB hs)⟩, hs, hbel⟩
theorem addB {B pb : Nat} {lI : List MInts.L} {lH : List MHits.L} {lB : List MBytes.L} {x : MBytes.L} (w : World) (h : Bk B w pb lI lH lB) (hn : lB.length < 250) (hx : MBytes.Row B w x) (hax : ∀ y ∈ lB, MBytes.Apt y.1 x.1) (hlx : x.2.length ≤ 1000000) (hBw : B ≤ w.heap.size) :
  Calls Tryz.prog 36 #[.pointer (some ⟨pb, 0, none⟩), x.1] w fun e w' => e = .returned (.tuple #[]) ∧ Bk B w' pb lI lH (lB ++ [x]) ∧ MBytes.Stays w w' ∧ RowKit.Below B w w' := by
 obtain ⟨V0, W0, V4, W4, V8, W8, c0, c4, c8, h⟩ := h
 refine (MBytes.add_call w h.b hn hx hax hlx hBw).mono ?_
 rintro e w' ⟨rfl, ⟨V, W, cs, hb⟩, hs, hbel⟩
 exact ⟨rfl, ⟨V0, W0, V4, W4, V, W, c0, c4, cs, moveI h.i hb.book (stBI hs), moveH h.h hb.book (stBH hs), hb⟩, hs, hbel⟩
set_option maxHeartbeats 4000000 in
set_option maxRecDepth 1000000 in
theorem apart_call {B pb : Nat} {lI : List MInts.L} {lH : List MHits.L} {lB : List MBytes.L} (w : World) (h : Bk B w pb lI lH lB) (nI : lI.length ≤ 250) (nH : lH.length ≤ 250) (nB : lB.length ≤ 250) (eI : ∀ x ∈ lI, x.2.length ≤ 1000000) (eH : ∀ x ∈ lH, x.2.length ≤ 1000000) (eB : ∀ x ∈ lB, x.2.length ≤ 1000000) (hB : B ≤ w.heap.size) :
  Calls Tryz.prog 20 #[.pointer (some ⟨pb, 0, none⟩)] w fun e w' => e = .returned (.bool true) ∧ RowKit.Below B w w' := by
 have mixed : Tryz.prog.follows .mixedOrders = true := by kernel_rfl
 obtain ⟨V0, W0, V4, W4, V8, W8, c0, c4, c8, h⟩ := h
 have HI : Hid _ := h.i
 have HH : Hid _ := h.h
 have HB : Hid _ := h.b
 have EI : Hid _ := eI
 have EH : Hid _ := eH
 have EB : Hid _ := eB
 clear h eI eH eB
 go_enter Tryz.func20, Tryz.ntmps20
 have a0 : RowKit.Below B w w := Below.refl _ _
 have i0 := HI.out
 have h0 := HH.out
 have b0 := HB.out
 go_wp2_with fail
 refine (MInts.still_call w i0 nI EI.out).mono ?_
 rintro e w1 ⟨rfl, d1⟩
 have i1 := i0.below d1
 have h1 := h0.below d1
 have b1 := b0.below d1
 have a1 := a0.trans (d1.mono (Nat.le_trans hB a0.size))
 clear i0 h0 b0 d1 a0
 go_wp2_with fail
 refine (MInts.stillTexts_call w1 i1.book rfl).mono ?_
 rintro e w2 ⟨rfl, d2⟩
 have i2 := i1.below d2
 have h2 := h1.below d2
 have b2 := b1.below d2
 have a2 := a1.trans (d2.mono (Nat.le_trans hB a1.size))
 clear i1 h1 b1 d2 a1
 go_wp2_with fail
 refine (MHits.still_call w2 h2 nH EH.out).mono ?_
 rintro e w3 ⟨rfl, d3⟩
 have i3 := i2.below d3
 have h3 := h2.below d3
 have b3 := b2.below d3
 have a3 := a2.trans (d3.mono (Nat.le_trans hB a2.size))
 clear i2 h2 b2 d3 a2
 go_wp2_with fail
 refine (MInts.stillCosts_call w3 i3.book rfl).mono ?_
 rintro e w4 ⟨rfl, d4⟩
 have i4 := i3.below d4
 have h4 := h3.below d4
 have b4 := b3.below d4
 have a4 := a3.trans (d4.mono (Nat.le_trans hB a3.size))
 clear i3 h3 b3 d4 a3
 go_wp2_with fail
 refine (MBytes.still_call w4 b4 nB EB.out).mono ?_
 rintro e w5 ⟨rfl, d5⟩
 have i5 := i4.below d5
 have h5 := h4.below d5
 have b5 := b4.below d5
 have a5 := a4.trans (d5.mono (Nat.le_trans hB a4.size))
 clear i4 h4 b4 d5 a4
 have I5 : MInts.BookL (oI V4 W4 V8 W8) B w5 pb V0 W0 lI := ⟨i5.ge, i5.book, i5.lists, i5.rows, EI.out⟩
 have H5 : MHits.BookL (oH V0 W0 V8 W8) B w5 pb V4 W4 lH := ⟨h5.ge, h5.book, h5.lists, h5.rows, EH.out⟩
 have B5 : MBytes.BookL (oB V0 W0 V4 W4) B w5 pb V8 W8 lB := ⟨b5.ge, b5.book, b5.lists, b5.rows, EB.out⟩
 clear i5 h5 b5
 go_wp2_with fail
 refine (MInts.put_call w5 I5 nI (Nat.le_trans hB a5.size)).mono ?_
 rintro e w6 ⟨rfl, lI', hlen, I6, hmI, d6⟩
 have nI' : lI'.length ≤ 250 := by omega
 have H6 := moveLH H5 (pbI d6 H5.book) (tsIH d6.ts)
 have B6 := moveLB B5 (pbI d6 B5.book) (tsIB d6.ts)
 have a6 := a5.trans d6.bel
 clear hlen I5 H5 B5 d6 a5
 go_wp2_with fail
 refine (MInts.putTexts_call w6 I6.book rfl).mono ?_
 rintro e w7 ⟨rfl, d7⟩
 have I7 := I6.below d7
 have H7 := H6.below d7
 have B7 := B6.below d7
 have a7 := a6.trans (d7.mono (Nat.le_trans hB a6.size))
 clear I6 H6 B6 d7 a6
 go_wp2_with fail
 refine (MHits.put_call w7 H7 nH (Nat.le_trans hB a7.size)).mono ?_
 rintro e w8 ⟨rfl, lH', hlen, H8, hmH, d8⟩
 have nH' : lH'.length ≤ 250 := by omega
 have I8 := moveLI I7 (pbH d8 I7.book) (tsHI d8.ts)
 have B8 := moveLB B7 (pbH d8 B7.book) (tsHB d8.ts)
 have a8 := a7.trans d8.bel
 clear hlen I7 H7 B7 d8 a7
 go_wp2_with fail
 refine (MInts.putCosts_call w8 I8.book rfl).mono ?_
 rintro e w9 ⟨rfl, d9⟩
 have I9 := I8.below d9
 have H9 := H8.below d9
 have B9 := B8.below d9
 have a9 := a8.trans (d9.mono (Nat.le_trans hB a8.size))
 clear I8 H8 B8 d9 a8
 go_wp2_with fail
 refine (MBytes.put_call w9 B9 nB (Nat.le_trans hB a9.size)).mono ?_
 rintro e w10 ⟨rfl, lB', hlen, B10, hmB, d10⟩
 have nB' : lB'.length ≤ 250 := by omega
 have I10 := moveLI I9 (pbB d10 I9.book) (tsBI d10.ts)
 have H10 := moveLH H9 (pbB d10 H9.book) (tsBH d10.ts)
 have a10 := a9.trans d10.bel
 clear hlen I9 H9 B9 d10 a9
 go_wp2_with fail
 refine (MInts.grow_call w10 I10 hmI nI' (Nat.le_trans hB a10.size)).mono ?_
 rintro e w11 ⟨voI, gsI, rfl, hoI, hgI, I11, d11⟩
 have H11 := moveLH H10 (pbI d11 H10.book) (tsIH d11.ts)
 have B11 := moveLB B10 (pbI d11 B10.book) (tsIB d11.ts)
 have a11 := a10.trans d11.bel
 obtain ⟨AI, coI, rfl, -⟩ := own_form hoI
 clear I10 H10 B10 d11 a10
 go_wp2_with fail
 refine (MInts.growTexts_call w11 I11.book rfl).mono ?_
 rintro e w12 ⟨rfl, d12⟩
 have I12 := I11.below d12
 have H12 := H11.below d12
 have B12 := B11.below d12
 have hoI := own_below hoI d12
 have hgI := moveRI hgI (fun h _ => own_below h d12)
 have a12 := a11.trans (d12.mono (Nat.le_trans hB a11.size))
 clear I11 H11 B11 d12 a11
 go_wp2_with fail
 refine (MHits.grow_call w12 H12 hmH nH' (Nat.le_trans hB a12.size)).mono ?_
 rintro e w13 ⟨voH, gsH, rfl, hoH, hgH, H13, d13⟩
 have I13 := moveLI I12 (pbH d13 I12.book) (tsHI d13.ts)
 have B13 := moveLB B12 (pbH d13 B12.book) (tsHB d13.ts)
 have hoI := tsHI d13.ts hoI (.inr rfl)
 have hgI := moveRI hgI (tsHI d13.ts)
 have a13 := a12.trans d13.bel
 obtain ⟨AH, coH, rfl, -⟩ := own_form hoH
 clear I12 H12 B12 d13 a12
 go_wp2_with fail
 refine (MInts.growCosts_call w13 I13.book rfl).mono ?_
 rintro e w14 ⟨rfl, d14⟩
 have I14 := I13.below d14
 have H14 := H13.below d14
 have B14 := B13.below d14
 have hoI := own_below hoI d14
 have hgI := moveRI hgI (fun h _ => own_below h d14)
 have hoH := own_below hoH d14
 have hgH := moveRH hgH (fun h _ => own_below h d14)
 have a14 := a13.trans (d14.mono (Nat.le_trans hB a13.size))
 clear I13 H13 B13 d14 a13
 go_wp2_with fail
 refine (MBytes.grow_call w14 B14 hmB nB' (Nat.le_trans hB a14.size)).mono ?_
 rintro e w15 ⟨voB, gsB, rfl, hoB, hgB, B15, d15⟩
 have I15 := moveLI I14 (pbB d15 I14.book) (tsBI d15.ts)
 have H15 := moveLH H14 (pbB d15 H14.book) (tsBH d15.ts)
 have hoI := tsBI d15.ts hoI (.inr rfl)
 have hgI := moveRI hgI (tsBI d15.ts)
 have hoH := tsBH d15.ts hoH (.inr rfl)
 have hgH := moveRH hgH (tsBH d15.ts)
 have a15 := a14.trans d15.bel
 obtain ⟨AB, coB, rfl, -⟩ := own_form hoB
 clear I14 H14 B14 d15 a14
 go_wp2_with fail
 refine (MInts.marked_call w15 hoI (by omega) hgI.vs).mono ?_
 rintro e w16 ⟨rfl, d16⟩
 have I16 := I15.below d16
 have H16 := H15.below d16
 have B16 := B15.below d16
 clear hoI hgI
 have hoH := own_below hoH d16
 have hgH := moveRH hgH (fun h _ => own_below h d16)
 have hoB := own_below hoB d16
 have hgB := moveRB hgB (fun h _ => own_below h d16)
 have a16 := a15.trans (d16.mono (Nat.le_trans hB a15.size))
 clear I15 H15 B15 d16 a15
 have f16 := MInts.book_field I16.book 0 _ rfl
 go_wp2_with fail
 refine (MInts.marked_call w16 I16.lists nI' (MInts.heads_marked I16 hmI)).mono ?_
 rintro e w17 ⟨rfl, d17⟩
 have I17 := I16.below d17
 have H17 := H16.below d17
 have B17 := B16.below d17
 have hoH := own_below hoH d17
 have hgH := moveRH hgH (fun h _ => own_below h d17)
 have hoB := own_below hoB d17
 have hgB := moveRB hgB (fun h _ => own_below h d17)
 have a17 := a16.trans (d17.mono (Nat.le_trans hB a16.size))
 clear I16 H16 B16 d17 a16 f16
 go_wp2_with fail
 refine (MInts.markedTexts_call w17).mono ?_
 rintro e w18 ⟨rfl, d18⟩
 have I18 := I17.below d18
 have H18 := H17.below d18
 have B18 := B17.below d18
 have hoH := own_below hoH d18
 have hgH := moveRH hgH (fun h _ => own_below h d18)
 have hoB := own_below hoB d18
 have hgB := moveRB hgB (fun h _ => own_below h d18)
 have a18 := a17.trans (d18.mono (Nat.le_trans hB a17.size))
 clear I17 H17 B17 d18 a17
 have f18 : w18.cell? ⟨pb, 2, none⟩ = some nil := MInts.book_field I18.book 2 _ rfl
 go_wp2_with fail
 refine (MInts.markedTexts_call w18).mono ?_
 rintro e w19 ⟨rfl, d19⟩
 have I19 := I18.below d19
 have H19 := H18.below d19
 have B19 := B18.below d19
 have hoH := own_below hoH d19
 have hgH := moveRH hgH (fun h _ => own_below h d19)
 have hoB := own_below hoB d19
 have hgB := moveRB hgB (fun h _ => own_below h d19)
 have a19 := a18.trans (d19.mono (Nat.le_trans hB a18.size))
 clear I18 H18 B18 d19 a18 f18
 go_wp2_with fail
 refine (MHits.marked_call w19 hoH (by omega) hgH.vs).mono ?_
 rintro e w20 ⟨rfl, d20⟩
 have I20 := I19.below d20
 have H20 := H19.below d20
 have B20 := B19.below d20
 clear hoH hgH
 have hoB := own_below hoB d20
 have hgB := moveRB hgB (fun h _ => own_below h d20)
 have a20 := a19.trans (d20.mono (Nat.le_trans hB a19.size))
 clear I19 H19 B19 d20 a19
 have f20 := MHits.book_field H20.book 4 _ rfl
 go_wp2_with fail
 refine (MHits.marked_call w20 H20.lists nH' (MHits.heads_marked H20 hmH)).mono ?_
 rintro e w21 ⟨rfl, d21⟩
 have I21 := I20.below d21
 have H21 := H20.below d21
 have B21 := B20.below d21
 have hoB := own_below hoB d21
 have hgB := moveRB hgB (fun h _ => own_below h d21)
 have a21 := a20.trans (d21.mono (Nat.le_trans hB a20.size))
 clear I20 H20 B20 d21 a20 f20
 go_wp2_with fail
 refine (MInts.markedCosts_call w21).mono ?_
 rintro e w22 ⟨rfl, d22⟩
 have I22 := I21.below d22
 have H22 := H21.below d22
 have B22 := B21.below d22
 have hoB := own_below hoB d22
 have hgB := moveRB hgB (fun h _ => own_below h d22)
 have a22 := a21.trans (d22.mono (Nat.le_trans hB a21.size))
 clear I21 H21 B21 d22 a21
 have f22 : w22.cell? ⟨pb, 6, none⟩ = some nil := MInts.book_field I22.book 6 _ rfl
 go_wp2_with fail
 refine (MInts.markedCosts_call w22).mono ?_
 rintro e w23 ⟨rfl, d23⟩
 have I23 := I22.below d23
 have H23 := H22.below d23
 have B23 := B22.below d23
 have hoB := own_below hoB d23
 have hgB := moveRB hgB (fun h _ => own_below h d23)
 have a23 := a22.trans (d23.mono (Nat.le_trans hB a22.size))
 clear I22 H22 B22 d23 a22 f22
 go_wp2_with fail
 refine (MBytes.marked_call w23 hoB (by omega) hgB.vs).mono ?_
 rintro e w24 ⟨rfl, d24⟩
 have I24 := I23.below d24
 have H24 := H23.below d24
 have B24 := B23.below d24
 clear hoB hgB
 have a24 := a23.trans (d24.mono (Nat.le_trans hB a23.size))
 clear I23 H23 B23 d24 a23
 have f24 := MBytes.book_field B24.book 8 _ rfl
 go_wp2_with fail
 refine (MBytes.marked_call w24 B24.lists nB' (MBytes.heads_marked B24 hmB)).mono ?_
 rintro e w25 ⟨rfl, d25⟩
 have I25 := I24.below d25
 have H25 := H24.below d25
 have B25 := B24.below d25
 have a25 := a24.trans (d25.mono (Nat.le_trans hB a24.size))
 clear I24 H24 B24 d25 a24 f24
 go_wp2
 go_ret
 exact ⟨rfl, a25⟩
end Go.Proofs.YtdeeeechdlcdbaaGreat.MxA
