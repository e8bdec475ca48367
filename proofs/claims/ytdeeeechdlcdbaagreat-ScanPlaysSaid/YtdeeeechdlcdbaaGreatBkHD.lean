/- Lists that are kept (lexiphanebook): one list more. -/
import Derived.Test.YtdeeeechdlcdbaaGreatBkHA
set_option linter.unusedVariables false
set_option linter.unusedSimpArgs false
namespace Go.Proofs.YtdeeeechdlcdbaaGreat.BkHits
open Go Go.RowKit Go.Lib Go.Sort Go.Proofs Go.Proofs.YtdeeeechdlcdbaaGreat.Base
def adV (B0 B : Nat) (w w0 : World) (pb n cW m cx : Nat) (AW Ax : Option Addr) (cs : List Value) (zs : List E) (ls : List L) (i : Nat) (pv v : Value) (W : World) : Prop := match i with
  | 0 => v = .pointer (some ⟨pb, 0, none⟩)
  | 1 => v = .pointer (some ⟨pb, 0, none⟩)
  | 2 => v = .pointer (some ⟨pb, 0, none⟩)
  | 3 => v = .pointer (some ⟨pb, 5, none⟩)
  | 4 => v = .slice AW n cW
  | 5 => v = .slice Ax m cx
  | 6 => ∃ A c, v = .slice A m c ∧ Row w0.heap.size W (.slice A m c, zs)
  | 7 => ∃ b A c, v = .slice (some ⟨b, 0, none⟩) 1 1 ∧ W.heap[b]? = some (.cells #[.slice A m c] 52 (0, 0)) ∧ w0.heap.size ≤ b ∧ Row w0.heap.size W (.slice A m c, zs)
  | 8 => ∃ A' c' A c, v = .slice A' (n + 1) c' ∧ W.ownsRow B 52 1 (.slice A' (n + 1) c') (n + 1) (cs ++ [.slice A m c]) ∧ Row w0.heap.size W (.slice A m c, zs) ∧ (∀ g, (Value.slice A' (n + 1) c').ownBlock = some g → (Value.slice AW n cW).ownBlock = some g ∨ w0.heap.size ≤ g)
  | 9 => v = .pointer (some ⟨pb, 0, none⟩)
  | 10 => v = .pointer (some ⟨pb, 5, none⟩)
  | 11 => Book B0 B W pb (ls ++ [(.slice Ax m cx, zs)]) ∧ Stays w W ∧ RowKit.Below B w W
  | _ => True
def adU (B : Nat) (w0 : World) (n cW : Nat) (AW : Option Addr) (cs : List Value) (i : Nat) (W : World) : Prop := match i with
  | 8 => w0.grownBy W (Value.slice AW n cW).ownBlock ∧ W.ownsRow B 52 1 (.slice AW n cW) n cs
  | 4 | 6 | 7 | 11 => w0.grownBy W (Value.slice AW n cW).ownBlock
  | _ => True
def adR (pb n cW : Nat) (AW : Option Addr) (i : Nat) (W W' : World) : Prop := match i with
  | 8 => W.grownBy W' (Value.slice AW n cW).ownBlock
  | 11 => W.grownBy W' (some pb)
  | _ => RowKit.Below W.heap.size W W'
theorem grown_trans {a b c : World} {r : Option Nat} (h : a.grownBy b r) (k : b.grownBy c r) : a.grownBy c r := ⟨k.os.trans h.os, k.tape.trans h.tape, k.output.trans h.output, Nat.le_trans h.size k.size, fun i hi hne => (k.block i (Nat.lt_of_lt_of_le hi h.size) hne).trans (h.block i hi hne)⟩
theorem grown_below {a b : World} {r : Option Nat} (h : RowKit.Below a.heap.size a b) : a.grownBy b r := ⟨h.os, h.tape, h.output, h.size, fun i hi _ => h.block i hi⟩
theorem adU_stay {B pb n cW : Nat} {w0 : World} {AW : Option Addr} {cs : List Value} {W W' : World} {j i : Nat} (hne : j ≠ i) (hj : i = 11 → j ≠ 4 ∧ j ≠ 6 ∧ j ≠ 7 ∧ j ≠ 8) (h : adU B w0 n cW AW cs j W) (k : adR pb n cW AW i W W') : adU B w0 n cW AW cs j W' := by
  have gr : i ≠ 11 → W.grownBy W' (Value.slice AW n cW).ownBlock := by
    intro h11
    unfold adR at k
    split at k
    · exact k
    · exact absurd rfl h11
    · exact grown_below k
  unfold adU at h ⊢
  split at h
  · by_cases h11 : i = 11
    · exact absurd rfl (hj h11).2.2.2
    · refine ⟨grown_trans h.1 (gr h11), ?_⟩
      unfold adR at k
      split at k
      · exact absurd rfl hne
      · exact absurd rfl h11
      · exact own_below h.2 k
  · by_cases h11 : i = 11
    · exact absurd rfl (hj h11).1
    · exact grown_trans h (gr h11)
  · by_cases h11 : i = 11
    · exact absurd rfl (hj h11).2.1
    · exact grown_trans h (gr h11)
  · by_cases h11 : i = 11
    · exact absurd rfl (hj h11).2.2.1
    · exact grown_trans h (gr h11)
  · by_cases h11 : i = 11
    · exact absurd h11.symm hne
    · exact grown_trans h (gr h11)
  · trivial
theorem apt_new {k : Nat} {W : World} {x : L} {v : Value} (h : Row k W x) (hl : ∀ g, v.ownBlock = some g → g < k) : Apt x.1 v := fun g hg e => by
  have h1 := own_ge h g hg
  have h2 := hl g e
  omega
theorem adV_stay {B0 B : Nat} {w w0 : World} {pb n cW m cx : Nat} {AW Ax : Option Addr} {cs : List Value} {zs : List E} {ls : List L} {j i : Nat} {p v : Value} {W W' : World} (hlt : ∀ g, (Value.slice AW n cW).ownBlock = some g → g < w0.heap.size) (hpb : pb < w0.heap.size) (hpbW : some pb ≠ (Value.slice AW n cW).ownBlock) (hBw : B ≤ w.heap.size) (hne : i ≠ j) (hj : j = 11 → i ≠ 8) (h : adV B0 B w w0 pb n cW m cx AW Ax cs zs ls j p v W) (k : adR pb n cW AW i W W') : adV B0 B w w0 pb n cW m cx AW Ax cs zs ls j p v W' := by
  have row : ∀ {x : L}, Row w0.heap.size W x → Row w0.heap.size W' x := by
    intro x hx
    unfold adR at k
    split at k
    · exact hx.other k (apt_new hx hlt)
    · exact World.ownsRow.kept hx k (.inr (fun e => by have := own_ge hx pb e; omega))
    · exact hx.below k
  unfold adV at h ⊢
  split at h
  case h_7 => obtain ⟨A, c, e, hr⟩ := h; exact ⟨A, c, e, row hr⟩
  case h_8 =>
    obtain ⟨b, A, c, e, hh, hb, hr⟩ := h
    refine ⟨b, A, c, e, ?_, hb, row hr⟩
    unfold adR at k
    split at k
    · rw [k.block b (heap_lt hh) (fun e => by have := hlt b e.symm; omega)]; exact hh
    · rw [k.block b (heap_lt hh) (fun e => by have := Option.some.inj e; omega)]; exact hh
    · exact heap_below k hh
  case h_9 =>
    obtain ⟨A', c', A, c, e, ho, hr, hp⟩ := h
    refine ⟨A', c', A, c, e, ?_, row hr, hp⟩
    unfold adR at k
    split at k
    · exact absurd rfl hne
    · refine World.ownsRow.kept ho k (.inr (fun e => ?_))
      rcases hp pb e with h1 | h1
      · exact hpbW h1.symm
      · omega
    · exact own_below ho k
  case h_12 =>
    obtain ⟨t1, t2, t3⟩ := h
    unfold adR at k
    split at k
    · exact absurd rfl (hj rfl)
    · exact absurd rfl hne
    · exact ⟨t1.below k, t2.trans (Stays.of_below k), t3.trans (k.mono (Nat.le_trans hBw t3.size))⟩
  all_goals exact h
theorem adU_start {B n cW : Nat} {AW : Option Addr} {cs : List Value} {w : World} (h : w.ownsRow B 52 1 (.slice AW n cW) n cs) (i : Nat) : adU B w n cW AW cs i { w with drawn := w.drawn + 1 } := by
  unfold adU
  split
  · exact ⟨⟨rfl, rfl, rfl, Nat.le_refl _, fun _ _ _ => rfl⟩, h⟩
  all_goals first | trivial | exact ⟨rfl, rfl, rfl, Nat.le_refl _, fun _ _ _ => rfl⟩
theorem cell_frozen_grown {w w' : World} {r : Option Nat} {pb i : Nat} {cs : Array Value} {t : TypeId} (h : w.heap[pb]? = some (.cells cs t (0, 0))) (hg : w.grownBy w' r) (hne : some pb ≠ r) : w'.frozen? ⟨pb, i, none⟩ = false := by
  have : w'.heap[pb]? = some (.cells cs t (0, 0)) := by rw [hg.block pb (heap_lt h) hne]; exact h
  exact frozen_of this
theorem below_of_grown {B : Nat} {w w' : World} {r : Option Nat} (h : w.grownBy w' r) (hr : ∀ k, r = some k → B ≤ k) (hB : B ≤ w.heap.size) : RowKit.Below B w w' := ⟨h.os, h.tape, h.output, h.size, fun k hk => h.block k (Nat.lt_of_lt_of_le hk hB) (fun e => by have := hr k e.symm; omega)⟩
set_option maxHeartbeats 2000000 in
set_option maxRecDepth 1000000 in
theorem add_call {B0 B pb : Nat} {V0 W0 : Value} {ls : List L} {cs : List Value} {x : L} (w : World) (h : BookAt B0 B w pb V0 W0 ls cs) (hn : ls.length < 250) (hx : Row B0 w x) (hax : ∀ y ∈ ls, Apt y.1 x.1) (hlx : x.2.length ≤ 1000000) (hBw : B ≤ w.heap.size) :
    Calls Tryz.prog 25 #[.pointer (some ⟨pb, 0, none⟩), x.1] w fun e w' => e = .returned (.tuple #[]) ∧ Book B0 B w' pb (ls ++ [x]) ∧ Stays w w' ∧ RowKit.Below B w w' := by
  have mixed : Tryz.prog.follows .mixedOrders = true := by kernel_rfl
  obtain ⟨i0, hi, hz0, hz1, hz2⟩ := info_parts infoL
  obtain ⟨AV, cV, rfl, -⟩ := own_form h.lists
  obtain ⟨AW, cW, rfl, -⟩ := own_form h.copies
  obtain ⟨xv, zs⟩ := x
  obtain ⟨Ax, cx, rfl, hatx⟩ := row_at hx
  obtain ⟨n, hnl⟩ : ∃ n, ls.length = n := ⟨_, rfl⟩
  obtain ⟨m, hm⟩ : ∃ m, zs.length = m := ⟨_, rfl⟩
  have HN : Hid (ls.length = n) := hnl
  have HZ : Hid (m = zs.length) := hm.symm
  rw [hnl] at h
  simp only [hm] at hx hax hlx hatx ⊢
  have hnl2 : n < 250 := by omega
  have hm6 : m ≤ 1000000 := hlx
  have HB : Hid _ := h
  have HX : Hid (Row B0 w (.slice Ax m cx, zs)) := hx
  have HAX : Hid (∀ y ∈ ls, Apt y.1 (.slice Ax m cx)) := hax
  have b0 : w.cell? ⟨pb, 4, none⟩ = some (.slice AV n cV) := cell_of h.book rfl
  have b1 : w.cell? ⟨pb, 5, none⟩ = some (.slice AW n cW) := cell_of h.book rfl
  have hl0 : (w.alloc (.cells #[.slice Ax m cx] 52)).ownsRow B 52 1 (.slice AV n cV) n (ls.map Prod.fst) := by
    have := h.lists
    rw [hnl] at this
    exact this.alloc _
  have hala := below_alloc w (.cells #[.slice Ax m cx] 52)
  have hszA : B ≤ (w.alloc (.cells #[.slice Ax m cx] 52)).heap.size := Nat.le_trans hBw hala.size
  have hhA := heap_new w (.cells #[.slice Ax m cx] 52)
  have hpbA := heap_below hala h.book
  have f3A : (w.alloc (.cells #[.slice Ax m cx] 52)).ownsRow B 52 1 (.slice AW n cW) n cs := by
    have := h.copies
    rw [hnl] at this
    exact this.alloc _
  have hz250 : (n : Int) < 250 := by omega
  clear hnl hm hax hx hatx h
  go_enter Tryz.func25, Tryz.ntmps25
  go_wp2_with (first | (at_builtin; go_loud (refine wpList_append_both _ rfl (.tmp 14) (.tmp 16) 38 rfl B 52 i0 _ 1 24 Tryz.underlying38 hi hz0 hz1 hz2 rfl (by decide) _ n (ls.map Prod.fst) rfl hl0 ⟨w.heap.size, 0, none⟩ 1 1 [.slice Ax m cx] rfl rfl ?e1 ?e2 ?e3 ?e4 hszA ?_)))
  case e1 => intro j u hj; rw [Addr.add_lit, Nat.zero_add]; exact cell_of hhA (by simpa using hj)
  case e2 => intro u hu; simp at hu; subst hu; rfl
  case e3 => unfold maxLen; omega
  case e4 => omega
  intro v1 w1 ho1 hg1 hk1 hpl1
  obtain ⟨A1, c1, rfl, -⟩ := own_form ho1
  have hneV := own_ne hl0 hpbA (by decide)
  have hneW := own_ne f3A hpbA (by decide)
  have hpb1 : w1.heap[pb]? = some (.cells (bookCells (.slice AV n cV) (.slice AW n cW)) 42 (0, 0)) := by rw [hg1.block pb (heap_lt hpbA) (fun e => hneV e.symm)]; exact hpbA
  have k0 : w1.cell? ⟨pb, 4, none⟩ = some (.slice AV n cV) := cell_of hpb1 rfl
  have k1 : w1.frozen? ⟨pb, 4, none⟩ = false := frozen_of hpb1
  have hS1 : Stays w w1 := (Stays.of_below hala).trans (Stays.of_grown hl0 hg1)
  have hS0 : Stays w1 (w1.setCell ⟨pb, 4, none⟩ (.slice A1 (n + 1) c1)) := Stays.of_set hpb1
  have hpb0 := set_heap hpb1 4 (.slice A1 (n + 1) c1)
  have hg0 := set_grown w1 pb 4 (.slice A1 (n + 1) c1)
  have aVW : Apt (.slice AV n cV) (.slice AW n cW) := HB.out.apt
  have f31 : w1.ownsRow B 52 1 (.slice AW n cW) n cs := f3A.kept hg1 (by
    cases hx : (Value.slice AW n cW).ownBlock with
    | none => exact .inl rfl
    | some g => exact .inr (fun e => aVW.symm g hx e.symm))
  have a1W : Apt (.slice A1 (n + 1) c1) (.slice AW n cW) := by
    intro g hg hg'
    rcases hpl1 with e | e
    · exact aVW g (by rw [← e]; exact hg) hg'
    · have h1 := e g hg
      have h2 := own_lt f3A g hg'
      have h3 : (w.alloc (.cells #[.slice Ax m cx] 52)).heap.size = w.heap.size + 1 := by show (w.heap.push _).size = _; rw [Array.size_push]
      omega
  have ho10 : (w1.setCell ⟨pb, 4, none⟩ (.slice A1 (n + 1) c1)).ownsRow B 52 1 (.slice A1 (n + 1) c1) (n + 1) (ls.map Prod.fst ++ [.slice Ax m cx]) := ho1.kept hg0 (.inr (own_ne ho1 hpb1 (by decide)))
  have f30 : (w1.setCell ⟨pb, 4, none⟩ (.slice A1 (n + 1) c1)).ownsRow B 52 1 (.slice AW n cW) n cs := f31.kept hg0 (.inr (own_ne f31 hpb1 (by decide)))
  have hBelow1 : RowKit.Below B w w1 := (hala.mono hBw).trans (below_of_grown hg1 (own_ge hl0) hszA)
  have hB1 : B ≤ w1.heap.size := Nat.le_trans hBw hBelow1.size
  have hBelow0 : RowKit.Below B w (w1.setCell ⟨pb, 4, none⟩ (.slice A1 (n + 1) c1)) := hBelow1.trans (below_of_grown hg0 (fun k e => by have := HB.out.ge; have := Option.some.inj e; omega) hB1)
  have hsz10 : w1.heap.size ≤ (w1.setCell ⟨pb, 4, none⟩ (.slice A1 (n + 1) c1)).heap.size := hg0.size
  have hlt1 := own_lt ho1
  have hltW := own_lt f30
  have hneW0 : some pb ≠ (Value.slice AW n cW).ownBlock := fun e => hneW e.symm
  clear hl0 hala hszA hhA hpbA f3A hneV hneW f31 hg1 hk1 hpl1 ho1 hg0
  go_upto_region 2 with fail
  clear k0 k1 hpb1
  obtain ⟨w0, hw0⟩ : ∃ x, w1.setCell ⟨pb, 4, none⟩ (.slice A1 (n + 1) c1) = x := ⟨_, rfl⟩
  rw [hw0] at hS0 hpb0 ho10 f30 hBelow0 hsz10 hltW ⊢
  clear hw0
  have f2 : w0.heap[pb]? = some (.cells (bookCells (.slice A1 (n + 1) c1) (.slice AW n cW)) 42 (0, 0)) := hpb0
  have f1 : w0.cell? ⟨pb, 5, none⟩ = some (.slice AW n cW) := cell_of f2 rfl
  have f3 := f30
  have hpbW := hneW0
  have hlt : ∀ g, (Value.slice AW n cW).ownBlock = some g → g < w0.heap.size := hltW
  have hBs : B ≤ w0.heap.size := Nat.le_trans hBw hBelow0.size
  have hS : Stays w w0 := hS1.trans hS0
  have hat : Hid (∀ W, w0.grownBy W (Value.slice AW n cW).ownBlock → At W Ax zs) := by
    show ∀ W, _
    intro W hg
    have h1 : Row B0 w0 (.slice Ax m cx, zs) := hS.row HX.out (by decide) (by decide)
    have h2 := h1.other hg (own_apt h1 f30 (by decide))
    obtain ⟨A', c', e, h3⟩ := row_at h2
    injection e with e1 e2 e3
    rw [e1]; exact h3
  have FIN : Hid (∀ (W : World) (A8 : Option Addr) (c8 : Nat) (A9 : Option Addr) (c9 : Nat), w0.grownBy W (Value.slice AW n cW).ownBlock → W.ownsRow B 52 1 (.slice A8 (n + 1) c8) (n + 1) (cs ++ [.slice A9 m c9]) → Row w0.heap.size W (.slice A9 m c9, zs) → (∀ g, (Value.slice A8 (n + 1) c8).ownBlock = some g → (Value.slice AW n cW).ownBlock = some g ∨ w0.heap.size ≤ g) →
      Book B0 B (W.setCell ⟨pb, 5, none⟩ (.slice A8 (n + 1) c8)) pb (ls ++ [(.slice Ax m cx, zs)]) ∧ Stays w (W.setCell ⟨pb, 5, none⟩ (.slice A8 (n + 1) c8)) ∧ RowKit.Below B w (W.setCell ⟨pb, 5, none⟩ (.slice A8 (n + 1) c8))) := by
    show ∀ W, _
    intro W A8 c8 A9 c9 hg ho8 r8 hp8
    have hpbW' : W.heap[pb]? = some (.cells (bookCells (.slice A1 (n + 1) c1) (.slice AW n cW)) 42 (0, 0)) := by rw [hg.block pb (heap_lt f2) hpbW]; exact f2
    have hgS := set_grown W pb 5 (.slice A8 (n + 1) c8)
    have hSW : Stays w W := hS.trans (Stays.of_grown f30 hg)
    have hS4 : Stays W (W.setCell ⟨pb, 5, none⟩ (.slice A8 (n + 1) c8)) := Stays.of_set hpbW'
    have hSF := hSW.trans hS4
    have hoW : W.ownsRow B 52 1 (.slice A1 (n + 1) c1) (n + 1) (ls.map Prod.fst ++ [.slice Ax m cx]) := ho10.kept hg (by
      cases hx : (Value.slice A1 (n + 1) c1).ownBlock with
      | none => exact .inl rfl
      | some g => exact .inr (fun e => a1W g hx e.symm))
    have hcl : cs.length = n := by have := f30.1; omega
    refine ⟨⟨.slice A1 (n + 1) c1, .slice A8 (n + 1) c8, cs ++ [.slice A9 m c9], ⟨HB.out.ge, ?_, ?_, ?_, ?_, ?_, ?_⟩⟩, hSF, ?_⟩
    · exact set_heap hpbW' 5 _
    · have := hoW.kept hgS (.inr (own_ne hoW hpbW' (by decide)))
      rw [List.length_append, List.length_singleton, HN.out, List.map_append]
      exact this
    · have := ho8.kept hgS (.inr (own_ne ho8 hpbW' (by decide)))
      rw [List.length_append, List.length_singleton, HN.out]
      exact this
    · intro g hg1 hg8
      rcases hp8 g hg8 with e | e
      · exact a1W g hg1 e
      · have := hlt1 g hg1
        omega
    · intro j y hj
      rcases Nat.lt_or_ge j n with hjn | hjn
      · rw [List.getElem?_append_left (by rw [HN.out]; exact hjn)] at hj
        obtain ⟨c, h1, h2⟩ := HB.out.was j y hj
        exact ⟨c, by rw [List.getElem?_append_left (by omega)]; exact h1, hSF.row h2 (by decide) (by decide)⟩
      · rw [List.getElem?_append_right (by rw [HN.out]; exact hjn)] at hj
        rw [HN.out] at hj
        have hjj : j - n = 0 := by
          have := (List.getElem?_eq_some_iff.1 hj).1
          simp at this; omega
        rw [hjj] at hj
        obtain rfl : (Value.slice Ax m cx, zs) = y := by simpa using hj
        refine ⟨.slice A9 m c9, by rw [List.getElem?_append_right (by omega), hcl, hjj]; rfl, own_mono (hS4.row r8 (by decide) (by decide)) hBs⟩
    · exact (HB.out.rows.stays hSF).push (hSF.row HX.out (by decide) (by decide)) HAX.out
    · have hBW : RowKit.Below B w W := hBelow0.trans (below_of_grown hg (own_ge f30) hBs)
      exact hBW.trans (below_of_grown hgS (fun k e => by have := HB.out.ge; have := Option.some.inj e; omega) (Nat.le_trans hBw hBW.size))
  clear hS0 hS1 hS hpb0 ho10 f30 hBelow0 hBelow1 hsz10 hlt1 hltW a1W aVW hB1
  refine RegU.wp_region_lists (fun _ => True) (adU B w0 n cW AW cs) (adR pb n cW AW) (fun i => i) (adV B0 B w w0 pb n cW m cx AW Ax cs zs ls)
    [some 20, some 21, some 22, some 23, some 24, some 25, some 26, some 27, some 28, some 29, some 30, none]
    [[], [], [1], [2], [3], [], [5], [6], [4, 7, 6], [0, 0, 1, 2, 3, 4, 5, 6, 7, 8], [9, 0, 1, 2, 3, 4, 5, 6, 7, 8], [10, 8, 8, 0, 1, 2, 3, 4, 5, 6, 7, 8]]
    (by kernel_rfl) (by kernel_rfl) (by kernel_rfl) (fun i => .inl rfl) ?_ ?_ ?_ ?_ ?_ ?_ ?_
  · trivial
  · intro i; exact adU_start f3 i
  · intros; trivial
  · intro j i W W' h1 h2 h3 h4; refine adU_stay h1 ?_ h3 h4
    rintro rfl
    refine ⟨?_, ?_, ?_, ?_⟩ <;> (rintro rfl; exact h2 (by decide))
  · intro j i p v W W' h1 h2 h3 h4; refine adV_stay hlt (heap_lt f2) hpbW hBw h1 ?_ h3 h4
    rintro rfl rfl
    exact h2 (by decide)
  · refine ⟨?_, ?_, ?_, ?_, ?_, ?_, ?_, ?_, ?_, ?_, ?_, ?_, trivial⟩
    · intro vals W K hG hU hV hK
      simp only [if_true] at hK
      simp only [Reg.putS, List.foldl, List.headD, List.tail, List.getD_cons_zero, List.getD_cons_succ, Act.put, List.setIfInBounds_toArray, List.set_cons_zero, List.set_cons_succ] at hK ⊢
      go_simp
      first
        | exact hK _ _ (Below.refl _ _) rfl
        | (rw [if_pos (by omega)]; exact hK _ _ (Below.refl _ _) rfl)
        | (rw [dif_pos (by omega)]; exact hK _ _ (Below.refl _ _) rfl)
        | (rw [if_neg (by omega)]; exact hK _ _ (Below.refl _ _) rfl)
    · intro vals W K hG hU hV hK
      simp only [if_true] at hK
      simp only [Reg.putS, List.foldl, List.headD, List.tail, List.getD_cons_zero, List.getD_cons_succ, Act.put, List.setIfInBounds_toArray, List.set_cons_zero, List.set_cons_succ] at hK ⊢
      go_simp
      first
        | exact hK _ _ (Below.refl _ _) rfl
        | (rw [if_pos (by omega)]; exact hK _ _ (Below.refl _ _) rfl)
        | (rw [dif_pos (by omega)]; exact hK _ _ (Below.refl _ _) rfl)
        | (rw [if_neg (by omega)]; exact hK _ _ (Below.refl _ _) rfl)
    · intro vals W K hG hU hV hK
      simp only [if_true] at hK
      have d1 := hV 1 (by simp)
      simp only [adV] at d1
      simp only [Reg.putS, List.foldl, List.headD, List.tail, List.getD_cons_zero, List.getD_cons_succ, Act.put, List.setIfInBounds_toArray, List.set_cons_zero, List.set_cons_succ, d1] at hK ⊢
      go_simp
      first
        | exact hK _ _ (Below.refl _ _) rfl
        | (rw [if_pos (by omega)]; exact hK _ _ (Below.refl _ _) rfl)
        | (rw [dif_pos (by omega)]; exact hK _ _ (Below.refl _ _) rfl)
        | (rw [if_neg (by omega)]; exact hK _ _ (Below.refl _ _) rfl)
    · intro vals W K hG hU hV hK
      simp only [if_true] at hK
      have d2 := hV 2 (by simp)
      simp only [adV] at d2
      simp only [Reg.putS, List.foldl, List.headD, List.tail, List.getD_cons_zero, List.getD_cons_succ, Act.put, List.setIfInBounds_toArray, List.set_cons_zero, List.set_cons_succ, d2] at hK ⊢
      go_simp
      first
        | exact hK _ _ (Below.refl _ _) rfl
        | (rw [if_pos (by omega)]; exact hK _ _ (Below.refl _ _) rfl)
        | (rw [dif_pos (by omega)]; exact hK _ _ (Below.refl _ _) rfl)
        | (rw [if_neg (by omega)]; exact hK _ _ (Below.refl _ _) rfl)
    · intro vals W K hG hU hV hK
      simp only [if_true] at hK
      have d3 := hV 3 (by simp)
      simp only [adV] at d3
      simp only [Reg.putS, List.foldl, List.headD, List.tail, List.getD_cons_zero, List.getD_cons_succ, Act.put, List.setIfInBounds_toArray, List.set_cons_zero, List.set_cons_succ, d3] at hK ⊢
      have hcl := (show w0.grownBy W _ from hU).cell f1 hpbW
      go_simp
      first
        | exact hK _ _ (Below.refl _ _) rfl
        | (rw [if_pos (by omega)]; exact hK _ _ (Below.refl _ _) rfl)
        | (rw [dif_pos (by omega)]; exact hK _ _ (Below.refl _ _) rfl)
        | (rw [if_neg (by omega)]; exact hK _ _ (Below.refl _ _) rfl)
    · intro vals W K hG hU hV hK
      simp only [if_true] at hK
      simp only [Reg.putS, List.foldl, List.headD, List.tail, List.getD_cons_zero, List.getD_cons_succ, Act.put, List.setIfInBounds_toArray, List.set_cons_zero, List.set_cons_succ] at hK ⊢
      go_simp
      first
        | exact hK _ _ (Below.refl _ _) rfl
        | (rw [if_pos (by omega)]; exact hK _ _ (Below.refl _ _) rfl)
        | (rw [dif_pos (by omega)]; exact hK _ _ (Below.refl _ _) rfl)
        | (rw [if_neg (by omega)]; exact hK _ _ (Below.refl _ _) rfl)
    · intro vals W K hG hU hV hK
      simp only [if_true] at hK
      have d5 := hV 5 (by simp)
      simp only [adV] at d5
      simp only [Reg.putS, List.foldl, List.headD, List.tail, List.getD_cons_zero, List.getD_cons_succ, Act.put, List.setIfInBounds_toArray, List.set_cons_zero, List.set_cons_succ, d5] at hK ⊢
      go_simp
      refine (copy_call Ax m cx zs W HZ.out (hat.out W hU) hm6).mono ?_
      rintro e w2 ⟨v2, rfl, hr, hb⟩
      obtain ⟨A2, c2, rfl, -⟩ := row_at hr
      rw [← HZ.out] at hr ⊢
      exact hK _ _ hb ⟨A2, c2, rfl, own_mono hr (show w0.grownBy W _ from hU).size⟩
    · intro vals W K hG hU hV hK
      simp only [if_true] at hK
      have d6 := hV 6 (by simp)
      simp only [adV] at d6
      obtain ⟨A6, c6, d6, r6⟩ := d6
      simp only [Reg.putS, List.foldl, List.headD, List.tail, List.getD_cons_zero, List.getD_cons_succ, Act.put, List.setIfInBounds_toArray, List.set_cons_zero, List.set_cons_succ, d6] at hK ⊢
      go_simp
      exact hK _ _ (balloc (Below.refl _ _) _) ⟨_, A6, c6, rfl, heap_new W _, (show w0.grownBy W _ from hU).size, r6.below (balloc (Below.refl _ _) _)⟩
    · refine Step.step_of ?g ?_
      case g => rfl
      intro A vals W K hA hG hU hV hK
      simp only [if_true] at hK
      have d4 := hV 4 (by simp)
      simp only [adV] at d4
      have d7 := hV 7 (by simp)
      simp only [adV] at d7
      obtain ⟨b7, A7, c7, d7, hh7, hge7, r7⟩ := d7
      refine wp_append_both _ (.tmp 24) (.tmp 27) 38 rfl B 52 i0 _ 1 24 Tryz.underlying38 hi hz0 hz1 hz2 rfl (by decide) _ n cs ((Step.putE hA rfl (Nat.lt_of_sub_eq_succ rfl)).trans d4) hU.2 ⟨b7, 0, none⟩ 1 1 [.slice A7 m c7] ((Step.putE hA rfl (Nat.lt_of_sub_eq_succ rfl)).trans d7) rfl ?k1 ?k2 ?k3 ?k4 (Nat.le_trans hBs hU.1.size) ?k5
      case k1 => intro j u hj; rw [Addr.add_lit, Nat.zero_add]; exact cell_of hh7 (by simpa using hj)
      case k2 => intro u hu; simp at hu; subst hu; rfl
      case k3 => unfold maxLen; omega
      case k4 => omega
      case k5 =>
        intro v' w' ho hgr hk hpl
        obtain ⟨A', c', rfl, -⟩ := own_form ho
        refine hK _ _ hgr ⟨A', c', A7, c7, rfl, ho, r7.other hgr (apt_new r7 hlt), fun g hg => ?_⟩
        rcases hpl with h | h
        · exact .inl (by rw [← h]; exact hg)
        · exact .inr (Nat.le_trans hU.1.size (h g hg))
    · intro vals W K hG hU hV hK
      simp only [if_true] at hK
      have d0 := hV 0 (by simp)
      simp only [adV] at d0
      have d1 := hV 1 (by simp)
      simp only [adV] at d1
      have d2 := hV 2 (by simp)
      simp only [adV] at d2
      have d3 := hV 3 (by simp)
      simp only [adV] at d3
      have d4 := hV 4 (by simp)
      simp only [adV] at d4
      have d5 := hV 5 (by simp)
      simp only [adV] at d5
      simp only [Reg.putS, List.foldl, List.headD, List.tail, List.getD_cons_zero, List.getD_cons_succ, Act.put, List.setIfInBounds_toArray, List.set_cons_zero, List.set_cons_succ, d0, d1, d2, d3, d4, d5] at hK ⊢
      go_simp
      first
        | exact hK _ _ (Below.refl _ _) rfl
        | (rw [if_pos (by omega)]; exact hK _ _ (Below.refl _ _) rfl)
        | (rw [dif_pos (by omega)]; exact hK _ _ (Below.refl _ _) rfl)
        | (rw [if_neg (by omega)]; exact hK _ _ (Below.refl _ _) rfl)
    · intro vals W K hG hU hV hK
      simp only [if_true] at hK
      have d0 := hV 0 (by simp)
      simp only [adV] at d0
      have d1 := hV 1 (by simp)
      simp only [adV] at d1
      have d2 := hV 2 (by simp)
      simp only [adV] at d2
      have d3 := hV 3 (by simp)
      simp only [adV] at d3
      have d4 := hV 4 (by simp)
      simp only [adV] at d4
      have d5 := hV 5 (by simp)
      simp only [adV] at d5
      have d9 := hV 9 (by simp)
      simp only [adV] at d9
      simp only [Reg.putS, List.foldl, List.headD, List.tail, List.getD_cons_zero, List.getD_cons_succ, Act.put, List.setIfInBounds_toArray, List.set_cons_zero, List.set_cons_succ, d0, d1, d2, d3, d4, d5, d9] at hK ⊢
      go_simp
      first
        | exact hK _ _ (Below.refl _ _) rfl
        | (rw [if_pos (by omega)]; exact hK _ _ (Below.refl _ _) rfl)
        | (rw [dif_pos (by omega)]; exact hK _ _ (Below.refl _ _) rfl)
        | (rw [if_neg (by omega)]; exact hK _ _ (Below.refl _ _) rfl)
    · refine Step.step_of ?g ?_
      case g => rfl
      intro A vals W K hA hG hU hV hK
      simp only [if_true] at hK
      have d8 := hV 8 (by simp)
      simp only [adV] at d8
      obtain ⟨A8, c8, A9, c9, d8, ho8, r8, hp8⟩ := d8
      have d10 := hV 10 (by simp)
      simp only [adV] at d10
      exact step_store Tryz.sizeOf38 ((Step.putA hA rfl (Nat.lt_of_sub_eq_succ rfl)).trans d10) ((Step.putA hA rfl (Nat.lt_of_sub_eq_succ rfl)).trans d8) ((show w0.grownBy W _ from hU).cell f1 hpbW) (cell_frozen_grown (i := 5) f2 (show w0.grownBy W _ from hU) hpbW) (hK undef _ (set_grown W pb _ _) (FIN.out W A8 c8 A9 c9 hU ho8 r8 hp8))
  · intro vals W hG hV
    rw [show List.range (List.length [some 20, some 21, some 22, some 23, some 24, some 25, some 26, some 27, some 28, some 29, some 30, none]) = [0, 1, 2, 3, 4, 5, 6, 7, 8, 9, 10, 11] from rfl]
    have d0 := hV 0 (by decide)
    simp only [adV] at d0
    have d1 := hV 1 (by decide)
    simp only [adV] at d1
    have d2 := hV 2 (by decide)
    simp only [adV] at d2
    have d3 := hV 3 (by decide)
    simp only [adV] at d3
    have d4 := hV 4 (by decide)
    simp only [adV] at d4
    have d5 := hV 5 (by decide)
    simp only [adV] at d5
    have d6 := hV 6 (by decide)
    simp only [adV] at d6
    obtain ⟨A6, c6, d6, r6⟩ := d6
    have d7 := hV 7 (by decide)
    simp only [adV] at d7
    obtain ⟨b7, A7, c7, d7, hh7, hge7, r7⟩ := d7
    have d8 := hV 8 (by decide)
    simp only [adV] at d8
    obtain ⟨A8, c8, A9, c9, d8, ho8, r8, hp8⟩ := d8
    have d9 := hV 9 (by decide)
    simp only [adV] at d9
    have d10 := hV 10 (by decide)
    simp only [adV] at d10
    have d11 := hV 11 (by decide)
    simp only [adV] at d11
    obtain ⟨t1, t2, t3⟩ := d11
    clear hV
    simp only [Reg.putS, List.foldl, List.getD_cons_zero, List.getD_cons_succ, Act.put, List.setIfInBounds_toArray, List.set_cons_zero, List.set_cons_succ, d0, d1, d2, d3, d4, d5, d8, d9, d10]
    clear d0 d1 d2 d3 d4 d5 d8 d9 d10
    go_wp2
    go_end0
    exact ⟨rfl, t1, t2, t3⟩


theorem set_self {ls : List L} {i : Nat} {x : L} (h : ls[i]? = some x) : ls.set i x = ls := by
  obtain ⟨hi, rfl⟩ := List.getElem?_eq_some_iff.1 h
  exact List.set_getElem_self hi
def ptV (B : Nat) (w0 : World) (pb n ii k gV cV m bx cx bm cm : Nat) (zk : List E) (i : Nat) (pv v : Value) (W : World) : Prop := match i with
  | 0 => v = .pointer (some ⟨pb, 0, none⟩)
  | 1 => v = .pointer (some ⟨pb, 0, none⟩)
  | 2 => v = .pointer (some ⟨pb, 4, none⟩)
  | 3 => v = .slice (some ⟨gV, 0, none⟩) n cV
  | 4 => v = .int .i64 (ii : Int)
  | 5 => v = .pointer (some ⟨gV, ii, none⟩)
  | 6 => v = .slice (some ⟨bx, 0, none⟩) m cx
  | 7 => v = .int .i64 (k : Int)
  | 8 => v = .slice (some ⟨bm, 0, none⟩) m cm
  | 9 => v = .int .i64 (k : Int)
  | 10 => v = .pointer (some ⟨bm, k * 2, none⟩)
  | 11 => v = .agg #[.int .i64 (mark ii k).1, .int .i64 0]
  | 12 => v = .pointer (some ⟨bx, k * 2, none⟩)
  | 13 => Row B W (.slice (some ⟨bx, 0, none⟩) m cx, zk.set k (mark ii k)) ∧ w0.grownBy W (some bx)
  | _ => True
def ptU (w0 : World) (i : Nat) (W : World) : Prop := match i with
  | 3 | 6 | 11 | 13 => RowKit.Below w0.heap.size w0 W
  | _ => True
def ptR (i : Nat) (W W' : World) : Prop := match i with
  | 13 => True
  | _ => RowKit.Below W.heap.size W W'
theorem ptU_stay {w0 : World} {W W' : World} {j i : Nat} (hne : j ≠ i) (hj : i = 13 → j ≠ 3 ∧ j ≠ 6 ∧ j ≠ 11) (h : ptU w0 j W) (k : ptR i W W') : ptU w0 j W' := by
  have gr : i ≠ 13 → RowKit.Below W.heap.size W W' := by
    intro h13
    unfold ptR at k
    split at k
    · exact absurd rfl h13
    · exact k
  unfold ptU at h ⊢
  split at h
  · by_cases h13 : i = 13
    · exact absurd rfl (hj h13).1
    · exact bstep h (gr h13)
  · by_cases h13 : i = 13
    · exact absurd rfl (hj h13).2.1
    · exact bstep h (gr h13)
  · by_cases h13 : i = 13
    · exact absurd rfl (hj h13).2.2
    · exact bstep h (gr h13)
  · by_cases h13 : i = 13
    · exact absurd h13.symm hne
    · exact bstep h (gr h13)
  · trivial
theorem ptU_start {w : World} (i : Nat) : ptU w i { w with drawn := w.drawn + 1 } := by
  unfold ptU
  split
  all_goals first | trivial | exact ⟨rfl, rfl, rfl, Nat.le_refl _, fun _ _ => rfl⟩
theorem ptV_stay {B : Nat} {w0 : World} {pb n i' k gV cV m bx cx bm cm : Nat} {zk : List E} {j i : Nat} {p v : Value} {W W' : World} (hne : i ≠ j) (h : ptV B w0 pb n i' k gV cV m bx cx bm cm zk j p v W) (kk : ptR i W W') : ptV B w0 pb n i' k gV cV m bx cx bm cm zk j p v W' := by
  unfold ptV at h ⊢
  split at h
  case h_14 =>
    unfold ptR at kk
    split at kk
    · exact absurd rfl hne
    · exact ⟨h.1.below kk, grown_trans h.2 (grown_below kk)⟩
  all_goals exact h
/-- The lists as they lie, without their copies. -/
structure BookL (B : Nat) (w : World) (pb : Nat) (V W : Value) (ls : List L) : Prop where
  ge : B ≤ pb
  book : w.heap[pb]? = some (.cells (bookCells V W) 42 (0, 0))
  lists : w.ownsRow B 52 1 V ls.length (ls.map Prod.fst)
  rows : Rows B w ls
  each : ∀ x ∈ ls, x.2.length ≤ 1000000
theorem BookL.below {B : Nat} {w w' : World} {pb : Nat} {V W : Value} {ls : List L} (h : BookL B w pb V W ls) (hb : RowKit.Below w.heap.size w w') : BookL B w' pb V W ls := ⟨h.ge, heap_below hb h.book, own_below h.lists hb, h.rows.below hb, h.each⟩
/-- One list's numbers are others now. -/
theorem BookL.set {B : Nat} {w w' : World} {pb : Nat} {V W : Value} {ls : List L} {i : Nat} {x : L} {zs : List E} (h : BookL B w pb V W ls) (hi : ls[i]? = some x) (hg : w.grownBy w' x.1.ownBlock) (hx : Row B w' (x.1, zs)) (hl : zs.length = x.2.length) : BookL B w' pb V W (ls.set i (x.1, zs)) := by
  obtain ⟨hlt, rfl⟩ := List.getElem?_eq_some_iff.1 hi
  have hr := h.rows.own _ (List.getElem_mem hlt)
  have hne : ∀ {o : Obj}, w.heap[pb]? = some o → some pb ≠ (ls[i]).1.ownBlock := fun _ e => by
    have := own_ne hr h.book (by decide)
    exact this e.symm
  refine ⟨h.ge, ?_, ?_, h.rows.set hi hg hx, ?_⟩
  · rw [hg.block pb (heap_lt h.book) (hne h.book)]; exact h.book
  · have e1 : (ls.set i ((ls[i]).1, zs)).map Prod.fst = ls.map Prod.fst := by
      rw [List.map_set]
      refine List.ext_getElem (by simp) fun j h1 h2 => ?_
      rw [List.getElem_set]
      split
      · rename_i e; subst e; simp
      · rfl
    rw [e1, List.length_set]
    refine World.ownsRow.kept h.lists hg ?_
    cases hx' : V.ownBlock with
    | none => exact .inl rfl
    | some g => exact .inr (fun e => own_apt h.lists hr (by decide) g hx' e.symm)
  · intro y hy
    rcases List.mem_or_eq_of_mem_set hy with hy | rfl
    · exact h.each y hy
    · show zs.length ≤ _; rw [hl]; exact h.each _ (List.getElem_mem hlt)
def Marked (d : Nat) (ls : List L) : Prop := ∀ j x, ls[j]? = some x → j < d → x.2 = marks j 0 x.2.length
set_option maxHeartbeats 2000000 in
set_option maxRecDepth 1000000 in
theorem put_call {B pb : Nat} {V W : Value} {ls0 : List L} (w : World) (h : BookL B w pb V W ls0) (hn : ls0.length ≤ 250) (hB : B ≤ w.heap.size) :
    Calls Tryz.prog 60 #[.pointer (some ⟨pb, 0, none⟩)] w fun e w' => e = .returned (.tuple #[]) ∧ ∃ ls, ls.length = ls0.length ∧ BookL B w' pb V W ls ∧ Marked ls.length ls ∧ RowKit.Below B w w' := by
  have mixed : Tryz.prog.follows .mixedOrders = true := by kernel_rfl
  obtain ⟨n, hnl⟩ : ∃ n, ls0.length = n := ⟨_, rfl⟩
  have hLL := h.lists
  obtain ⟨AV, cV, rfl, -⟩ := own_form hLL
  rw [hnl] at h hn ⊢
  have HN0 : Hid (ls0.length = n) := hnl
  have HB0 : Hid (BookL B w pb (.slice AV n cV) W ls0) := h
  clear hLL hnl h
  go_enter Tryz.func60, Tryz.ntmps60
  go_wp2_with fail
  go_loopg [2] n (fun kx s2 wr => ∃ (i : Nat) (ls : List L), i ≤ n ∧ n - i ≤ kx ∧ s2 = .int .i64 (i : Int) ∧ Hid (ls.length = n) ∧ BookL B wr pb (.slice AV n cV) W ls ∧ Hid (Marked i ls) ∧ RowKit.Below B w wr)
  case atStart => exact ⟨0, ls0, Nat.zero_le _, Nat.le_refl _, rfl, HN0, HB0.out, (fun j x _ h => absurd h (Nat.not_lt_zero _) : Marked 0 ls0), Below.refl _ _⟩
  case round =>
    clear HN0 HB0
    obtain ⟨i, ls, hin, hkx, rfl, HN, hb, hmk, bel⟩ := hrel
    obtain ⟨w1, rfl⟩ : ∃ x, x = wr := ⟨_, rfl⟩
    have b0 : w1.cell? ⟨pb, 4, none⟩ = some (.slice AV n cV) := cell_of hb.book rfl
    by_cases hlt : i < n
    · have hltz : (i : Int) < (n : Int) := by omega
      obtain ⟨x, hx⟩ : ∃ x, ls[i]? = some x := ⟨_, List.getElem?_eq_getElem (by have := HN.out; omega)⟩
      obtain ⟨AV', cV', e, fV⟩ := own_form hb.lists
      obtain ⟨gV, rfl, -, kV⟩ := fV (by rw [HN.out]; omega)
      injection e with e1 e2 e3
      subst e1 e3
      have hrx := hb.rows.own x (List.mem_of_getElem? hx)
      have hlx := hb.each x (List.mem_of_getElem? hx)
      obtain ⟨xv, zs⟩ := x
      obtain ⟨Ax, cx, rfl, fx⟩ := row_form hrx
      have g1 : w1.cell? ⟨gV, i, none⟩ = some (.slice Ax zs.length cx) := kV i _ (by rw [List.getElem?_map, hx]; rfl)
      obtain ⟨m, hm⟩ : ∃ m, zs.length = m := ⟨_, rfl⟩
      have HX : Hid (ls[i]? = some (.slice Ax m cx, zs)) := by show _ = _; rw [hx]; simp only [hm]
      have HZ : Hid (zs.length = m) := hm
      simp only [hm] at g1 fx hlx hrx
      have hi3 : i ≤ 300 := by omega
      have FX : Hid _ := fx
      clear hm hx fx kV fV e2
      go_wp2_with fail
      refine (mark_call i 0 m w1 hi3 (by omega)).mono ?_
      rintro e w2 ⟨vm, rfl, hrm, bel2⟩
      have hb2 := hb.below bel2
      have hB1 : B ≤ w1.heap.size := Nat.le_trans hB bel.size
      have bel3 : RowKit.Below B w w2 := bel.trans (bel2.mono hB1)
      obtain ⟨Am, cm, rfl, fm⟩ := row_form hrm
      simp only [marks_length] at hrm fm ⊢
      have FM : Hid _ := fm
      have hxlt : ∀ g, (Value.slice Ax m cx).ownBlock = some g → g < w1.heap.size := own_lt hrx
      have HRM : Hid (Row w1.heap.size w2 (.slice Am m cm, marks i 0 m)) := hrm
      have hb3 : BookL B w2 pb (.slice (some ⟨gV, 0, none⟩) n cV) W (ls.set i (.slice Ax m cx, zs)) := by rw [set_self HX.out]; exact hb2
      clear b0 hb hrx fm hrm g1 bel2 bel
      go_wp2_with fail
      go_loopg [4] m (fun kx s4 wr => ∃ (k : Nat) (zk : List E), k ≤ m ∧ m - k ≤ kx ∧ s4 = .int .i64 (k : Int) ∧ Hid (zk.length = m ∧ (∀ j, j < k → zk.getD j (0, 0) = mark i j) ∧ BookL B wr pb (.slice (some ⟨gV, 0, none⟩) n cV) W (ls.set i (.slice Ax m cx, zk)) ∧ Row w1.heap.size wr (.slice Am m cm, marks i 0 m) ∧ RowKit.Below B w wr))
      case atStart => exact ⟨0, zs, Nat.zero_le _, Nat.le_refl _, rfl, ⟨HZ.out, (fun j hj => absurd hj (Nat.not_lt_zero _)), hb3, HRM.out, bel3⟩⟩
      case round =>
        clear hb2 hb3 HRM bel3
        obtain ⟨w0, rfl⟩ : ∃ x, x = wr := ⟨_, rfl⟩
        obtain ⟨k, zk, hkm, hkx2, rfl, HK⟩ := hrel
        by_cases hlt2 : k < m
        · have hltz2 : (k : Int) < (m : Int) := by omega
          obtain ⟨bx, rfl, -⟩ := FX.out (by omega)
          obtain ⟨bm, rfl, -⟩ := FM.out (by omega)
          have hil : i < ls.length := by have := HN.out; omega
          have hsi : (ls.set i (Value.slice (some ⟨bx, 0, none⟩) m cx, zk))[i]? = some (Value.slice (some ⟨bx, 0, none⟩) m cx, zk) := by rw [List.getElem?_set_self hil]
          have hrx := HK.out.2.2.1.rows.own _ (List.mem_of_getElem? hsi)
          have hrx' : w0.ownsRow B 93 2 (.slice (some ⟨bx, 0, none⟩) m cx) m (hc zk) := by have h := hrx; unfold Row at h; rw [HK.out.1] at h; exact h
          have hrm' : w0.ownsRow w1.heap.size 93 2 (.slice (some ⟨bm, 0, none⟩) m cm) m (hc (marks i 0 m)) := by have h := HK.out.2.2.2.1; unfold Row at h; simp only [marks_length] at h; exact h
          have f0 : w0.cell? ⟨pb, 4, none⟩ = some (.slice (some ⟨gV, 0, none⟩) n cV) := cell_of HK.out.2.2.1.book rfl
          obtain ⟨A', c', e, fV⟩ := own_form HK.out.2.2.1.lists
          obtain ⟨g', rfl, -, kV⟩ := fV (by rw [List.length_set]; omega)
          injection e with e1 e2 e3
          injection e1 with e1
          injection e1 with e1
          subst e1
          clear e2 e3
          have f1 : w0.cell? ⟨gV, i, none⟩ = some (.slice (some ⟨bx, 0, none⟩) m cx) := kV i _ (by rw [List.getElem?_map, hsi]; rfl)
          have gm := hc_get (l := marks i 0 m) (k := k) (by rw [marks_length]; exact hlt2)
          have gmk : (marks i 0 m).getD k (0, 0) = mark i k := by rw [marks_getD _ _ _ hlt2, Nat.zero_add]
          rw [gmk] at gm
          have gz := hc_get (l := zk) (k := k) (by have := HK.out.1; omega)
          have f2 : w0.cell? ⟨bm, k * 2, none⟩ = some (.int .i64 (mark i k).1) := by
            have := World.ownsRow.cells hrm' rfl _ _ gm.1
            rw [Addr.add_lit, Nat.zero_add] at this
            exact this
          have f2' : w0.cell? ⟨bm, k * 2 + 1, none⟩ = some (.int .i64 0) := by
            have := World.ownsRow.cells hrm' rfl _ _ gm.2
            rw [Addr.add_lit, Nat.zero_add] at this
            exact this
          have f3 : w0.cell? ⟨bx, k * 2, none⟩ = some (.int .i64 (zk.getD k (0, 0)).1) := by
            have := World.ownsRow.cells hrx' rfl _ _ gz.1
            rw [Addr.add_lit, Nat.zero_add] at this
            exact this
          have f3' : w0.cell? ⟨bx, k * 2 + 1, none⟩ = some (.int .i64 (zk.getD k (0, 0)).2) := by
            have := World.ownsRow.cells hrx' rfl _ _ gz.2
            rw [Addr.add_lit, Nat.zero_add] at this
            exact this
          have FZ : Hid (∀ X j, RowKit.Below w0.heap.size w0 X → X.frozen? ⟨bx, j, none⟩ = false) := fun X j hX => (own_below hrx' hX).frozenAt j
          have FIN : Hid (∀ X, RowKit.Below w0.heap.size w0 X → Row B ((X.setCell ⟨bx, k * 2, none⟩ (.int .i64 (mark i k).1)).setCell ⟨bx, k * 2 + 1, none⟩ (.int .i64 0)) (.slice (some ⟨bx, 0, none⟩) m cx, zk.set k (mark i k)) ∧ w0.grownBy ((X.setCell ⟨bx, k * 2, none⟩ (.int .i64 (mark i k).1)).setCell ⟨bx, k * 2 + 1, none⟩ (.int .i64 0)) (some bx)) := by
            show ∀ X, _
            intro X hX
            obtain ⟨s1, s2⟩ := (own_below hrx' hX).stored (k * 2) (.int .i64 (mark i k).1)
            obtain ⟨s3, s4⟩ := s1.stored (k * 2 + 1) (.int .i64 0)
            refine ⟨?_, grown_trans (grown_below hX) (grown_trans s2 s4)⟩
            unfold Row
            simp only [List.length_set, HK.out.1, hc_set]
            exact s3
          have ROWS : Hid (∀ X, w0.grownBy X (some bx) → Row B X (.slice (some ⟨bx, 0, none⟩) m cx, zk.set k (mark i k)) → Hid ((zk.set k (mark i k)).length = m ∧ (∀ j, j < k + 1 → (zk.set k (mark i k)).getD j (0, 0) = mark i j) ∧ BookL B X pb (.slice (some ⟨gV, 0, none⟩) n cV) W (ls.set i (.slice (some ⟨bx, 0, none⟩) m cx, zk.set k (mark i k))) ∧ Row w1.heap.size X (.slice (some ⟨bm, 0, none⟩) m cm, marks i 0 m) ∧ RowKit.Below B w X)) := by
            show ∀ X, _
            intro X hg hr
            obtain ⟨q1, q2, q3, q4, q5⟩ := HK.out
            refine ⟨by rw [List.length_set]; exact q1, fun j hj => ?_, ?_, ?_, ?_⟩
            · rw [List.getD_eq_getElem?_getD, List.getElem?_set]
              split
              · rename_i e; subst e; rw [if_pos (by omega)]; rfl
              · have := q2 j (by omega)
                rw [List.getD_eq_getElem?_getD] at this
                exact this
            · have := q3.set hsi hg hr (by rw [List.length_set])
              rw [List.set_set] at this
              exact this
            · exact q4.other (v := .slice (some ⟨bx, 0, none⟩) m cx) hg (fun g hg1 hg2 => by
                have h1 := own_ge q4 g hg1
                have h2 := hxlt g hg2
                omega)
            · exact q5.trans (below_of_grown hg (fun k hk => own_ge hrx k hk) (Nat.le_trans hB q5.size))
          have zk1 : IntKind.i64.wrap ((k : Int) + 1) = (k : Int) + 1 := by rw [IntKind.wrap_i64]; omega
          clear HK hrx hrx' hrm' hsi kV fV gm gmk gz
          go_wp2_with fail
          refine RegU.wp_region_lists (fun _ => True) (ptU w0) ptR (fun i => i) (ptV B w0 pb n i k gV cV m bx cx bm cm zk)
            [some 30, some 31, some 32, some 33, some 34, some 35, some 36, some 37, some 38, some 39, some 40, some 41, some 42, none]
            [[], [0], [1], [2], [], [3, 4], [5], [], [], [], [8, 9], [10], [6, 7, 0, 1, 2, 3, 4, 5, 6, 7, 8, 9, 10, 11], [12, 11, 0, 1, 2, 3, 4, 5, 6, 7, 8, 9, 10, 11]]
            (by kernel_rfl) (by kernel_rfl) (by kernel_rfl) (fun i => .inl rfl) ?_ ?_ ?_ ?_ ?_ ?_ ?_
          · trivial
          · intro i; exact ptU_start i
          · intros; trivial
          · intro j i W W' h1 h2 h3 h4; refine ptU_stay h1 ?_ h3 h4
            rintro rfl
            refine ⟨?_, ?_, ?_⟩ <;> (rintro rfl; exact h2 (by decide))
          · intro j i p v W W' h1 h2 h3 h4; exact ptV_stay h1 h3 h4
          · refine ⟨?_, ?_, ?_, ?_, ?_, ?_, ?_, ?_, ?_, ?_, ?_, ?_, ?_, ?_, trivial⟩
            · intro vals W K hG hU hV hK
              simp only [if_true] at hK
              simp only [Reg.putS, List.foldl, List.headD, List.tail, List.getD_cons_zero, List.getD_cons_succ, Act.put, List.setIfInBounds_toArray, List.set_cons_zero, List.set_cons_succ] at hK ⊢
              go_simp
              first
                | exact hK _ _ (Below.refl _ _) rfl
                | (rw [if_pos (by omega)]; exact hK _ _ (Below.refl _ _) rfl)
                | (rw [dif_pos (by omega)]; exact hK _ _ (Below.refl _ _) rfl)
                | (rw [if_neg (by omega)]; exact hK _ _ (Below.refl _ _) rfl)
            · intro vals W K hG hU hV hK
              simp only [if_true] at hK
              have d0 := hV 0 (by simp)
              simp only [ptV] at d0
              simp only [Reg.putS, List.foldl, List.headD, List.tail, List.getD_cons_zero, List.getD_cons_succ, Act.put, List.setIfInBounds_toArray, List.set_cons_zero, List.set_cons_succ, d0] at hK ⊢
              go_simp
              first
                | exact hK _ _ (Below.refl _ _) rfl
                | (rw [if_pos (by omega)]; exact hK _ _ (Below.refl _ _) rfl)
                | (rw [dif_pos (by omega)]; exact hK _ _ (Below.refl _ _) rfl)
                | (rw [if_neg (by omega)]; exact hK _ _ (Below.refl _ _) rfl)
            · intro vals W K hG hU hV hK
              simp only [if_true] at hK
              have d1 := hV 1 (by simp)
              simp only [ptV] at d1
              simp only [Reg.putS, List.foldl, List.headD, List.tail, List.getD_cons_zero, List.getD_cons_succ, Act.put, List.setIfInBounds_toArray, List.set_cons_zero, List.set_cons_succ, d1] at hK ⊢
              go_simp
              first
                | exact hK _ _ (Below.refl _ _) rfl
                | (rw [if_pos (by omega)]; exact hK _ _ (Below.refl _ _) rfl)
                | (rw [dif_pos (by omega)]; exact hK _ _ (Below.refl _ _) rfl)
                | (rw [if_neg (by omega)]; exact hK _ _ (Below.refl _ _) rfl)
            · intro vals W K hG hU hV hK
              simp only [if_true] at hK
              have d2 := hV 2 (by simp)
              simp only [ptV] at d2
              simp only [Reg.putS, List.foldl, List.headD, List.tail, List.getD_cons_zero, List.getD_cons_succ, Act.put, List.setIfInBounds_toArray, List.set_cons_zero, List.set_cons_succ, d2] at hK ⊢
              have hcl := pw_cell_below (show RowKit.Below w0.heap.size w0 W from hU) f0
              go_simp
              first
                | exact hK _ _ (Below.refl _ _) rfl
                | (rw [if_pos (by omega)]; exact hK _ _ (Below.refl _ _) rfl)
                | (rw [dif_pos (by omega)]; exact hK _ _ (Below.refl _ _) rfl)
                | (rw [if_neg (by omega)]; exact hK _ _ (Below.refl _ _) rfl)
            · intro vals W K hG hU hV hK
              simp only [if_true] at hK
              simp only [Reg.putS, List.foldl, List.headD, List.tail, List.getD_cons_zero, List.getD_cons_succ, Act.put, List.setIfInBounds_toArray, List.set_cons_zero, List.set_cons_succ] at hK ⊢
              go_simp
              first
                | exact hK _ _ (Below.refl _ _) rfl
                | (rw [if_pos (by omega)]; exact hK _ _ (Below.refl _ _) rfl)
                | (rw [dif_pos (by omega)]; exact hK _ _ (Below.refl _ _) rfl)
                | (rw [if_neg (by omega)]; exact hK _ _ (Below.refl _ _) rfl)
            · intro vals W K hG hU hV hK
              simp only [if_true] at hK
              have d3 := hV 3 (by simp)
              simp only [ptV] at d3
              have d4 := hV 4 (by simp)
              simp only [ptV] at d4
              simp only [Reg.putS, List.foldl, List.headD, List.tail, List.getD_cons_zero, List.getD_cons_succ, Act.put, List.setIfInBounds_toArray, List.set_cons_zero, List.set_cons_succ, d3, d4] at hK ⊢
              go_simp
              first
                | exact hK _ _ (Below.refl _ _) rfl
                | (rw [if_pos (by omega)]; exact hK _ _ (Below.refl _ _) rfl)
                | (rw [dif_pos (by omega)]; exact hK _ _ (Below.refl _ _) rfl)
                | (rw [if_neg (by omega)]; exact hK _ _ (Below.refl _ _) rfl)
            · intro vals W K hG hU hV hK
              simp only [if_true] at hK
              have d5 := hV 5 (by simp)
              simp only [ptV] at d5
              simp only [Reg.putS, List.foldl, List.headD, List.tail, List.getD_cons_zero, List.getD_cons_succ, Act.put, List.setIfInBounds_toArray, List.set_cons_zero, List.set_cons_succ, d5] at hK ⊢
              have hcl := pw_cell_below (show RowKit.Below w0.heap.size w0 W from hU) f1
              go_simp
              first
                | exact hK _ _ (Below.refl _ _) rfl
                | (rw [if_pos (by omega)]; exact hK _ _ (Below.refl _ _) rfl)
                | (rw [dif_pos (by omega)]; exact hK _ _ (Below.refl _ _) rfl)
                | (rw [if_neg (by omega)]; exact hK _ _ (Below.refl _ _) rfl)
            · intro vals W K hG hU hV hK
              simp only [if_true] at hK
              simp only [Reg.putS, List.foldl, List.headD, List.tail, List.getD_cons_zero, List.getD_cons_succ, Act.put, List.setIfInBounds_toArray, List.set_cons_zero, List.set_cons_succ] at hK ⊢
              go_simp
              first
                | exact hK _ _ (Below.refl _ _) rfl
                | (rw [if_pos (by omega)]; exact hK _ _ (Below.refl _ _) rfl)
                | (rw [dif_pos (by omega)]; exact hK _ _ (Below.refl _ _) rfl)
                | (rw [if_neg (by omega)]; exact hK _ _ (Below.refl _ _) rfl)
            · intro vals W K hG hU hV hK
              simp only [if_true] at hK
              simp only [Reg.putS, List.foldl, List.headD, List.tail, List.getD_cons_zero, List.getD_cons_succ, Act.put, List.setIfInBounds_toArray, List.set_cons_zero, List.set_cons_succ] at hK ⊢
              go_simp
              first
                | exact hK _ _ (Below.refl _ _) rfl
                | (rw [if_pos (by omega)]; exact hK _ _ (Below.refl _ _) rfl)
                | (rw [dif_pos (by omega)]; exact hK _ _ (Below.refl _ _) rfl)
                | (rw [if_neg (by omega)]; exact hK _ _ (Below.refl _ _) rfl)
            · intro vals W K hG hU hV hK
              simp only [if_true] at hK
              simp only [Reg.putS, List.foldl, List.headD, List.tail, List.getD_cons_zero, List.getD_cons_succ, Act.put, List.setIfInBounds_toArray, List.set_cons_zero, List.set_cons_succ] at hK ⊢
              go_simp
              first
                | exact hK _ _ (Below.refl _ _) rfl
                | (rw [if_pos (by omega)]; exact hK _ _ (Below.refl _ _) rfl)
                | (rw [dif_pos (by omega)]; exact hK _ _ (Below.refl _ _) rfl)
                | (rw [if_neg (by omega)]; exact hK _ _ (Below.refl _ _) rfl)
            · intro vals W K hG hU hV hK
              simp only [if_true] at hK
              have d8 := hV 8 (by simp)
              simp only [ptV] at d8
              have d9 := hV 9 (by simp)
              simp only [ptV] at d9
              simp only [Reg.putS, List.foldl, List.headD, List.tail, List.getD_cons_zero, List.getD_cons_succ, Act.put, List.setIfInBounds_toArray, List.set_cons_zero, List.set_cons_succ, d8, d9] at hK ⊢
              go_simp
              first
                | exact hK _ _ (Below.refl _ _) rfl
                | (rw [if_pos (by omega)]; exact hK _ _ (Below.refl _ _) rfl)
                | (rw [dif_pos (by omega)]; exact hK _ _ (Below.refl _ _) rfl)
                | (rw [if_neg (by omega)]; exact hK _ _ (Below.refl _ _) rfl)
            · intro vals W K hG hU hV hK
              simp only [if_true] at hK
              have d10 := hV 10 (by simp)
              simp only [ptV] at d10
              simp only [Reg.putS, List.foldl, List.headD, List.tail, List.getD_cons_zero, List.getD_cons_succ, Act.put, List.setIfInBounds_toArray, List.set_cons_zero, List.set_cons_succ, d10] at hK ⊢
              have hcl := pw_cell_below (show RowKit.Below w0.heap.size w0 W from hU) f2
              have hcl' := pw_cell_below (show RowKit.Below w0.heap.size w0 W from hU) f2'
              go_simp
              first
                | exact hK _ _ (Below.refl _ _) rfl
                | (rw [if_pos (by omega)]; exact hK _ _ (Below.refl _ _) rfl)
                | (rw [dif_pos (by omega)]; exact hK _ _ (Below.refl _ _) rfl)
                | (rw [if_neg (by omega)]; exact hK _ _ (Below.refl _ _) rfl)
            · intro vals W K hG hU hV hK
              simp only [if_true] at hK
              have d0 := hV 0 (by simp)
              simp only [ptV] at d0
              have d1 := hV 1 (by simp)
              simp only [ptV] at d1
              have d2 := hV 2 (by simp)
              simp only [ptV] at d2
              have d3 := hV 3 (by simp)
              simp only [ptV] at d3
              have d4 := hV 4 (by simp)
              simp only [ptV] at d4
              have d5 := hV 5 (by simp)
              simp only [ptV] at d5
              have d6 := hV 6 (by simp)
              simp only [ptV] at d6
              have d7 := hV 7 (by simp)
              simp only [ptV] at d7
              have d8 := hV 8 (by simp)
              simp only [ptV] at d8
              have d9 := hV 9 (by simp)
              simp only [ptV] at d9
              have d10 := hV 10 (by simp)
              simp only [ptV] at d10
              have d11 := hV 11 (by simp)
              simp only [ptV] at d11
              simp only [Reg.putS, List.foldl, List.headD, List.tail, List.getD_cons_zero, List.getD_cons_succ, Act.put, List.setIfInBounds_toArray, List.set_cons_zero, List.set_cons_succ, d0, d1, d2, d3, d4, d5, d6, d7, d8, d9, d10, d11] at hK ⊢
              go_simp
              first
                | exact hK _ _ (Below.refl _ _) rfl
                | (rw [if_pos (by omega)]; exact hK _ _ (Below.refl _ _) rfl)
                | (rw [dif_pos (by omega)]; exact hK _ _ (Below.refl _ _) rfl)
                | (rw [if_neg (by omega)]; exact hK _ _ (Below.refl _ _) rfl)
            · intro vals W K hG hU hV hK
              simp only [if_true] at hK
              have d0 := hV 0 (by simp)
              simp only [ptV] at d0
              have d1 := hV 1 (by simp)
              simp only [ptV] at d1
              have d2 := hV 2 (by simp)
              simp only [ptV] at d2
              have d3 := hV 3 (by simp)
              simp only [ptV] at d3
              have d4 := hV 4 (by simp)
              simp only [ptV] at d4
              have d5 := hV 5 (by simp)
              simp only [ptV] at d5
              have d6 := hV 6 (by simp)
              simp only [ptV] at d6
              have d7 := hV 7 (by simp)
              simp only [ptV] at d7
              have d8 := hV 8 (by simp)
              simp only [ptV] at d8
              have d9 := hV 9 (by simp)
              simp only [ptV] at d9
              have d10 := hV 10 (by simp)
              simp only [ptV] at d10
              have d11 := hV 11 (by simp)
              simp only [ptV] at d11
              have d12 := hV 12 (by simp)
              simp only [ptV] at d12
              simp only [Reg.putS, List.foldl, List.headD, List.tail, List.getD_cons_zero, List.getD_cons_succ, Act.put, List.setIfInBounds_toArray, List.set_cons_zero, List.set_cons_succ, d0, d1, d2, d3, d4, d5, d6, d7, d8, d9, d10, d11, d12] at hK ⊢
              have k0 := pw_cell_below (show RowKit.Below w0.heap.size w0 W from hU) f3
              have k0' := pw_cell_below (show RowKit.Below w0.heap.size w0 W from hU) f3'
              have k1 := FZ.out W (k * 2) hU
              have k1' := FZ.out W (k * 2 + 1) hU
              go_simp
              exact hK undef _ trivial (FIN.out W hU)
          · intro vals W hG hV
            rw [show List.range (List.length [some 30, some 31, some 32, some 33, some 34, some 35, some 36, some 37, some 38, some 39, some 40, some 41, some 42, none]) = [0, 1, 2, 3, 4, 5, 6, 7, 8, 9, 10, 11, 12, 13] from rfl]
            have d0 := hV 0 (by decide)
            simp only [ptV] at d0
            have d1 := hV 1 (by decide)
            simp only [ptV] at d1
            have d2 := hV 2 (by decide)
            simp only [ptV] at d2
            have d3 := hV 3 (by decide)
            simp only [ptV] at d3
            have d4 := hV 4 (by decide)
            simp only [ptV] at d4
            have d5 := hV 5 (by decide)
            simp only [ptV] at d5
            have d6 := hV 6 (by decide)
            simp only [ptV] at d6
            have d7 := hV 7 (by decide)
            simp only [ptV] at d7
            have d8 := hV 8 (by decide)
            simp only [ptV] at d8
            have d9 := hV 9 (by decide)
            simp only [ptV] at d9
            have d10 := hV 10 (by decide)
            simp only [ptV] at d10
            have d11 := hV 11 (by decide)
            simp only [ptV] at d11
            have d12 := hV 12 (by decide)
            simp only [ptV] at d12
            have d13 := hV 13 (by decide)
            simp only [ptV] at d13
            obtain ⟨t1, t2⟩ := d13
            clear hV
            simp only [Reg.putS, List.foldl, List.getD_cons_zero, List.getD_cons_succ, Act.put, List.setIfInBounds_toArray, List.set_cons_zero, List.set_cons_succ, d0, d1, d2, d3, d4, d5, d6, d7, d8, d9, d10, d11, d12]
            clear d0 d1 d2 d3 d4 d5 d6 d7 d8 d9 d10 d11 d12
            clear f0 f1 f2 f2' f3 f3' FZ FIN
            have hrw := ROWS.out W t2 t1
            go_wp2
            go_roundg (m - (k + 1))
            case measure => omega
            case rel => exact ⟨k + 1, zk.set k (mark i k), hlt2, Nat.le_refl _, rfl, hrw⟩
        · have hltz2 : ¬ (k : Int) < (m : Int) := by omega
          obtain ⟨q1, q2, q3, q4, q5⟩ := HK.out
          have hmk2 : Hid (Marked (i + 1) (ls.set i (.slice Ax m cx, zk))) := by
            show Marked _ _
            intro j x hj hji
            rw [List.getElem?_set] at hj
            split at hj
            · rename_i e; subst e
              split at hj
              · injection hj with hj
                subst hj
                refine same_aux (by rw [marks_length]) fun t ht => ?_
                have ht' : t < m := by rw [← q1]; exact ht
                rw [q2 t (by omega), marks_getD _ _ _ (by show t < zk.length; omega), Nat.zero_add]
              · cases hj
            · exact hmk.out j x hj (by omega)
          have HN2 : Hid ((ls.set i (Value.slice Ax m cx, zk)).length = n) := by show _ = _; rw [List.length_set]; exact HN.out
          have zi : IntKind.i64.wrap ((i : Int) + 1) = (i : Int) + 1 := by rw [IntKind.wrap_i64]; omega
          clear HK q1 q2 q4 hmk
          go_wp2
          go_roundg (n - (i + 1))
          case measure => omega
          case rel => exact ⟨i + 1, _, hlt, Nat.le_refl _, rfl, HN2, q3, hmk2, q5⟩
    · have hltz : ¬ (i : Int) < (n : Int) := by omega
      obtain rfl : i = n := by omega
      clear hkx
      go_wp2
      go_end0
      exact ⟨rfl, ls, HN.out, hb, by rw [HN.out]; exact hmk.out, bel⟩
end Go.Proofs.YtdeeeechdlcdbaaGreat.BkHits
