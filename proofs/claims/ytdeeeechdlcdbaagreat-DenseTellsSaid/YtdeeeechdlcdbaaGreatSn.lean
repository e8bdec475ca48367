/- The keys of a map of bytes, one by one. -/
import Derived.Test.YtdeeeechdlcdbaaGreatSr
import Derived.Lib.SlKeysI
import Derived.Shelf.SlIter.Collect
import Derived.Shelf.SlIter.Nil
import Derived.RangeFuncSeq
import Derived.RangeFuncGives
import Derived.Sort.MapsRangeIn
import Derived.WalkKit
import Derived.OwnWalkIn
import Derived.TacticsInMore
import Derived.RegionIn
import Derived.LoopNIn
import Derived.LoopIn
import Derived.Maps.AppendAt
import Derived.RangeFuncBound
import Derived.Sort.OwnSorted
import Derived.Shelf.SlIter.Sorted
import Derived.Test.YtdeeeechdlcdbaaGreatTw
import Derived.Test.YtdeeeechdlcdbaaGreatTrQ
set_option linter.unusedVariables false
set_option linter.unusedSimpArgs false
namespace Go.Proofs.YtdeeeechdlcdbaaGreat.Sn
open Go Go.RowKit Go.Maps Go.Sort Go.Proofs Go.Proofs.YtdeeeechdlcdbaaGreat.Sr
theorem encB_inj {x y : Int} (h : encB x = encB y) : x = y := by simpa [encB] using h
abbrev leB1 : Int → Int → Bool := fun x y => decide (x ≤ y)
/-- A map's keys. -/
def byteKeys {H : Type} : DataW H → List Int
  | .map es => es.map fun p => Go.intOf p.1
  | _ => []
theorem keyOf_u8 {P : Program} {k : TypeId} (hk : P.underlying k = some (.int .u8)) {key : Value} {kl : Lit} (h : keyOf P k key = some kl) : ∃ x : Int, key = encB x ∧ kl = .int .u8 x ∧ (Lit.int .u8 x).wf = true := by
  cases key <;> simp [keyOf, hk, mapKey] at h
  rename_i q a
  obtain ⟨⟨rfl, hw⟩, rfl⟩ := h
  exact ⟨a, rfl, rfl, hw⟩
theorem perm_byteKeys {H : Type} {es : List (Lit × DataW H)} (hp : es.Pairwise (fun p q => p.1 ≠ q.1)) (hk : ∀ p ∈ es, ∃ x, p.1 = .int .u8 x) {ss : List Int} (hnd : ss.Nodup) (hm : ∀ x, x ∈ ss ↔ has (.map es) (.int .u8 x) = true) :
    ss.Perm (byteKeys (.map es)) := by
  refine (List.perm_ext_iff_of_nodup hnd ?_).2 fun x => ?_
  · show (es.map fun p => Go.intOf p.1).Nodup
    refine List.pairwise_map.2 (hp.imp_of_mem fun {p q} hp' hq' hne e => hne ?_)
    obtain ⟨a, ha⟩ := hk p hp'
    obtain ⟨b, hb⟩ := hk q hq'
    rw [ha, hb] at e ⊢
    exact congrArg _ e
  · rw [hm x, has_eq, List.any_eq_true]
    show _ ↔ x ∈ es.map fun p => Go.intOf p.1
    rw [List.mem_map]
    constructor
    · rintro ⟨p, hp', hs⟩
      obtain ⟨a, ha⟩ := hk p hp'
      rw [ha] at hs
      exact ⟨p, hp', by rw [ha]; simpa [Lit.sameKey, Go.intOf] using hs⟩
    · rintro ⟨p, hp', rfl⟩
      obtain ⟨a, ha⟩ := hk p hp'
      exact ⟨p, hp', by rw [ha]; simp [Lit.sameKey, Go.intOf]⟩
def CollectedB {H : Type} (D0 : DataW H) (left : Lit → Bool) (ss : List Int) : Prop := ss.Nodup ∧ ∀ x, x ∈ ss ↔ (has D0 (.int .u8 x) = true ∧ left (.int .u8 x) = false)
section
variable {H : Type} {D0 : DataW H} {left : Lit → Bool} {ss : List Int}
theorem CollectedB.start (D0 : DataW H) : CollectedB D0 (has D0) [] := ⟨List.nodup_nil, fun x => by cases has D0 (.int .u8 x) <;> simp⟩
theorem CollectedB.step (h : CollectedB D0 left ss) {x : Int} {y : DataW H} (hlk : left (.int .u8 x) = true) (hat : ∀ zd, D0.atKey (.int .u8 x) zd = y) : CollectedB D0 (fun z => left z && !z.sameKey (.int .u8 x)) (ss ++ [x]) := by
  have hhas : has D0 (.int .u8 x) = true := has_true_of_atKey hat
  have hnew : x ∉ ss := fun hx => by have := ((h.2 x).1 hx).2; rw [hlk] at this; cases this
  refine ⟨List.nodup_append.2 ⟨h.1, by simp, fun a ha b hb => by simp at hb; subst hb; exact fun e => hnew (e ▸ ha)⟩, fun y => ?_⟩
  by_cases hy : y = x
  · subst hy; simp [hhas, Lit.sameKey]
  · simp [h.2 y, hy, Lit.sameKey]
variable {P : Program} {k : TypeId} {R : Value → Option (DataW H × List MemPlace)} {w : World} {b n : Nat}
theorem CollectedB.perm (h : CollectedB D0 left ss) (hown : w.ownsMap P k R b n D0) (K : Keyed P k) (hk : P.underlying k = some (.int .u8)) (hl : ∀ kl, left kl = false) : ss.Perm (byteKeys D0) := by
  obtain ⟨es, hD, hpw, _⟩ := hown.entries K
  obtain ⟨es', hD', hko⟩ := hown.keysOf
  obtain rfl : es = es' := by rw [hD] at hD'; simpa using hD'
  subst hD
  exact perm_byteKeys hpw (fun p hp => by obtain ⟨v, hv⟩ := hko p hp; obtain ⟨x, _, hx, _⟩ := keyOf_u8 hk hv; exact ⟨x, hx⟩) h.1 (fun x => by rw [h.2 x, hl]; simp)
theorem byteKeys_wf (hown : w.ownsMap P k R b n D0) (hk : P.underlying k = some (.int .u8)) : ∀ x ∈ byteKeys D0, (Lit.int .u8 x).wf = true := by
  obtain ⟨es, rfl, hko⟩ := hown.keysOf
  intro x hx
  obtain ⟨p, hp, rfl⟩ := List.mem_map.1 hx
  obtain ⟨v, hv⟩ := hko p hp
  obtain ⟨y, _, hy, hl⟩ := keyOf_u8 hk hv
  rw [hy]; exact hl
end
theorem holds_of_block_b {w : World} {g : Nat} {cur : Array Value} {e : TypeId} {ss : List Int} (hb : w.heap[g]? = some (.cells cur e (0, 0))) (ht : cur.toList.take ss.length = ss.map encB) : Holds encB w g 0 ss.toArray := by
  intro j hj
  have hj' : j < ss.length := by simpa using hj
  refine ⟨?_, by simp [World.frozen?, hb]⟩
  have h1 : (cur.toList.take ss.length)[j]? = (ss.map encB)[j]? := by rw [ht]
  rw [List.getElem?_take_of_lt hj'] at h1
  simp only [World.cell?, hb, Nat.zero_add]
  simp only [Option.isSome_none, Bool.false_eq_true, if_false]
  rw [← Array.getElem?_toList, h1]
  simp [hj']
theorem heap_sorted_b {w : World} {g n : Nat} {os : Array Obj} {cur : Array Value} {e : TypeId} {fr : Nat × Nat} (d : Array Int) (hb : w.heap[g]? = some (.cells cur e fr)) :
    (grow (putRow encB (Sort.ahead w n) g 0 d) os).heap[g]? = some (.cells (putCells encB 0 d cur) e fr) := by
  have hg : g < w.heap.size := (Array.getElem?_eq_some_iff.1 hb).1
  rw [heap_grow_old _ _ (by simpa using hg)]
  simp [putRow, mapBlock, Sort.ahead, Array.getElem?_modify, hb, onCells]
theorem grownBy_sorted_b {w : World} {g n : Nat} {os : Array Obj} (d : Array Int) : w.grownBy (grow (putRow encB (Sort.ahead w n) g 0 d) os) (some g) := by
  refine ⟨rfl, rfl, rfl, by simp, fun k hk hne => ?_⟩
  rw [heap_grow_old _ _ (by simpa using hk)]
  have : g ≠ k := fun e => hne (by rw [e])
  simp [putRow, mapBlock, Sort.ahead, Array.getElem?_modify, this]
theorem take_putCells_b (cur : Array Value) (ts : List Int) (h : ts.length ≤ cur.size) : (putCells encB 0 ts.toArray cur).toList.take ts.length = ts.map encB := by
  apply List.ext_getElem?
  intro j
  by_cases hj : j < ts.length
  · rw [List.getElem?_take_of_lt hj, Array.getElem?_toList]
    simp [putCells, hj, show j < cur.size by omega]
  · rw [List.getElem?_take_eq_none (by omega), List.getElem?_eq_none (by simp; omega)]
theorem ownsRow_sorted_b {w : World} {base g cap n : Nat} {e : TypeId} {os : Array Obj} {cur : Array Value} {ss ts : List Int} (hl : ts.length = ss.length) (hbase : base ≤ g) (hb : w.heap[g]? = some (.cells cur e (0, 0)))
    (h1 : ss.length ≤ cap) (h2 : cap ≤ maxLen) (h3 : cur.size = cap * 1) :
    (grow (putRow encB (Sort.ahead w n) g 0 ts.toArray) os).ownsRow base e 1 (.slice (some ⟨g, 0, none⟩) ss.length cap) ss.length (ts.map encB) :=
  ⟨by simp [hl], .inr ⟨g, cap, _, rfl, hbase, heap_sorted_b _ hb, h1, h2, by simp [putCells, h3], by rw [Nat.mul_one, ← hl]; exact take_putCells_b cur ts (by omega)⟩⟩
theorem lawU8 : Keyed Tryz.prog 5 := int_keyed Tryz.underlying5
set_option maxRecDepth 100000 in
set_option maxHeartbeats 1000000 in
theorem keys1N_in {H : Type} (F : Fence) (n : Nat) (h10 : F.fn 118) (hro : F.round = none) (hn : 1 ≤ n) (l Bm b nn : Nat) (D0 : DataW H) (J : List Int → World → Prop)
    (hY : ∀ pre x W, J pre W → pre.length < Maps.size D0 → YieldAt F (n - 1) Tryz.prog l #[encB x] W fun e W' => e = .returned (.bool true) ∧ J (pre ++ [x]) W' ∧ KeepsWalks W W')
    (W : World) (hJ : AbidesFrom W.heap.size J) (hm : W.cell? ⟨Bm, 0, none⟩ = some (.map (some b))) (hown : W.ownsMap Tryz.prog 5 (plainElem Tryz.prog 3) b nn D0) (h0 : J [] W) :
    CallsIn F n Tryz.prog 118 #[.func (.yield l) #[] #[], .pointer (some ⟨Bm, 0, none⟩)] W fun e W' => (∃ v, e = .returned v) ∧ ∃ ss : List Int, ss.Perm (byteKeys D0) ∧ J ss W' := by
  refine callsIn_of_wp Tryz.func118 rfl h10 ?_ hro
  simp only [Tryz.ntmps118, List.size_toArray, List.length_cons, List.length_nil, Nat.reduceAdd, Nat.reduceSub, Array.replicate_succ, Array.replicate_zero, List.push_toArray, List.append_toArray, List.nil_append, List.cons_append]
  gi_wp2_with (first
    | (gi_at_range; refine wpListIn_range_own _ rfl _ 120 rfl 5 3 lawU8 Tryz.underlying120 _ b nn _ rfl hown ?_; intro w0 hrg0 hg0 hs0)
    | gi_in)
  go_frame
  gi_loopw [3] (fun _ wr => ∃ (left : Lit → Bool) (cnt : Nat) (ss : List Int), wr.ranges Tryz.prog 5 (plainElem Tryz.prog 3) b W.heap.size nn D0 left cnt ∧ ss.length + cnt ≤ Maps.size D0 ∧ CollectedB D0 left ss ∧ J ss wr)
    (fun _ wr => wr.rangeLeft b W.heap.size)
  case atStart =>
    exact ⟨_, _, [], hrg0, by simp, CollectedB.start D0, hJ [] W w0 none h0 hg0 (fun r e => by cases e)⟩
  case round =>
    obtain ⟨left, cnt, ss, hrg, hcs, hC, hJs⟩ := hrel
    gi_wp2_with (first
      | (gi_at_next; refine wpListIn_next_ranges _ rfl _ rfl 5 lawU8 (plainElem Tryz.prog 3) encB (Value.int .i64) (fun key kl hk => by obtain ⟨x, hx, _⟩ := keyOf_u8 Tryz.underlying5 hk; exact ⟨x, hx⟩) (fun v y hv => by obtain ⟨c, rfl, _⟩ := plainElem_int_inv Tryz.underlying3 hv; exact ⟨c, rfl⟩) b W.heap.size nn _ _ _ rfl hrg ?_ ?_)
      | gi_in)
    · intro hc0 hl0
      gi_wp2
      go_end0
      exact ⟨⟨_, rfl⟩, ss, hC.perm hown lawU8 Tryz.underlying5 hl0, hJs⟩
    · intro x c kl yd yp w2 cnt2 hkey hlk hv hat hrg2 hlt hg2 hs2 hen
      obtain ⟨x', ex, rfl, _⟩ := keyOf_u8 Tryz.underlying5 hkey
      obtain rfl : x = x' := encB_inj ex
      have hJ2 : J ss w2 := hJ ss wr w2 (some W.heap.size) hJs hg2 (fun r e => by cases e; exact ⟨Nat.le_refl _, hrg.iter_walk⟩)
      obtain ⟨fn, tmps, assign, body, hy, hR⟩ := hY ss x w2 hJ2 (by omega)
      clear hs2
      gi_wp2
      refine hR.mono ?_
      rintro e W3 ⟨rfl, hJ3, hk3⟩
      gi_wp2
      have hrg3 := hrg2.of_walks hk3
      go_roundw
      case rel => exact ⟨_, cnt2, ss ++ [x], hrg3, by simp; omega, hC.step hlk hat, hJ3⟩
      case measure => rw [hrg3.left_eq, hrg.left_eq]; exact hlt
theorem keys_gives {H : Type} (F : Fence) (n : Nat) (h10 : F.fn 118) (hro : F.round = none) (hn : 1 ≤ n) (Bm b nn : Nat) (D0 : DataW H) (w : World) (hBm : Bm < w.heap.size)
    (hm : w.cell? ⟨Bm, 0, none⟩ = some (.map (some b))) (hown : w.ownsMap Tryz.prog 5 (plainElem Tryz.prog 3) b nn D0) :
    SeqGives F n Tryz.prog 118 #[.pointer (some ⟨Bm, 0, none⟩)] encB (fun ss => ss.Perm (byteKeys D0)) (Maps.size D0) w := fun l J W hW hJ hY h0 => by
  have hown' : W.ownsMap Tryz.prog 5 (plainElem Tryz.prog 3) b nn D0 := by
    have hbl := hown.lt
    obtain ⟨es, clock, hb, Ft, hs, hD⟩ := hown
    exact ⟨es, clock, (hW.block b hbl).trans hb, Ft, hs, hD⟩
  exact keys1N_in F n h10 hro hn l Bm b nn D0 J hY W hJ ((hW.cell (p := ⟨Bm, 0, none⟩) hBm).trans hm) hown' h0
set_option maxHeartbeats 1000000 in
theorem keys_in (F : Fence) (n : Nat) (h7 : F.fn 103) (hro : F.round = none) (mb : Option Nat) (w : World) :
    CallsIn F n Tryz.prog 103 #[.map mb] w fun e w' => e = .returned (.func (.func 118) #[] #[.pointer (some ⟨w.heap.size, 0, none⟩)]) ∧ w' = w.alloc (.cells #[.map mb] 120) := by
  refine callsIn_of_wp Tryz.func103 rfl h7 ?_ hro
  simp only [Tryz.ntmps103, List.size_toArray, List.length_cons, List.length_nil, Nat.reduceAdd, Nat.reduceSub, Array.replicate_succ, Array.replicate_zero, List.push_toArray, List.append_toArray, List.nil_append, List.cons_append]
  gi_wp2
  go_ret
  exact ⟨rfl, rfl⟩
set_option maxRecDepth 100000 in
set_option maxHeartbeats 1000000 in
theorem keys1_nil_in (F : Fence) (n : Nat) (h10 : F.fn 118) (hro : F.round = none) (l Bm : Nat) (J : List Int → World → Prop) (W : World) (hJ : AbidesFrom W.heap.size J)
    (hm : W.cell? ⟨Bm, 0, none⟩ = some (.map none)) (h0 : J [] W) :
    CallsIn F n Tryz.prog 118 #[.func (.yield l) #[] #[], .pointer (some ⟨Bm, 0, none⟩)] W fun e W' => (∃ v, e = .returned v) ∧ ∃ ss : List Int, ss = [] ∧ J ss W' := by
  refine callsIn_of_wp Tryz.func118 rfl h10 ?_ hro
  simp only [Tryz.ntmps118, List.size_toArray, List.length_cons, List.length_nil, Nat.reduceAdd, Nat.reduceSub, Array.replicate_succ, Array.replicate_zero, List.push_toArray, List.append_toArray, List.nil_append, List.cons_append]
  have hrg := run_range_nilMap (P := Tryz.prog) W 120 5 3 Tryz.underlying120
  have hnx : ∀ ty, (Instr.next (.pointer (some ⟨W.heap.size, 0, none⟩)) false ty).run Tryz.prog (W.alloc (.mapIter none 0 #[] 0)) = _ := fun ty => run_next_nilMap _ ty 0 0 #[]
  gi_wp2
  refine wpIn_loop_rounds 1 ?_
  rw [roundsIn_succ]
  gi_wp2
  go_end0
  exact ⟨⟨_, rfl⟩, [], rfl, hJ [] W _ none h0 (World.grownBy_alloc W _ none) (fun r e => by cases e)⟩
theorem keys_gives_nil (F : Fence) (n : Nat) (h10 : F.fn 118) (hro : F.round = none) (Bm : Nat) (w : World) (hBm : Bm < w.heap.size) (hm : w.cell? ⟨Bm, 0, none⟩ = some (.map none)) :
    SeqGives F n Tryz.prog 118 #[.pointer (some ⟨Bm, 0, none⟩)] encB (fun ss : List Int => ss = []) 0 w := fun l J W hW hJ _ h0 =>
  keys1_nil_in F n h10 hro l Bm J W hJ ((hW.cell (p := ⟨Bm, 0, none⟩) hBm).trans hm) h0
end Go.Proofs.YtdeeeechdlcdbaaGreat.Sn
/- The keys of a map of bytes, collected. -/
set_option linter.unusedVariables false
set_option linter.unusedSimpArgs false
namespace Go.Proofs.YtdeeeechdlcdbaaGreat.Sn
open Go Go.RowKit Go.Maps Go.Sort Go.Proofs Go.Proofs.YtdeeeechdlcdbaaGreat.Sr
def apAssign : Code := (Code.region 2 #[{ dst := some 5, op := Op.assign (Operand.tmp 7), type := 5, pos := "iter.go:51", after := #[], guard := none }] false)
def apBody : Code := (Code.block 1 (Code.region 3 #[{ dst := some 8, op := Op.load 63 (Operand.tmp 2), type := 63, pos := "iter.go:52", after := #[], guard := none }, { dst := some 9, op := Op.move (Operand.tmp 5), type := 5, pos := "iter.go:52", after := #[], guard := none }, { dst := some 10, op := Op.buildSlice 63 1 #[(0, Operand.tmp 9)], type := 63, pos := "iter.go:52", after := #[{ on := 1, ground := Ground.data }], guard := none }, { dst := some 11, op := Op.call { callee := Callee.builtin Builtin.append, args := #[Operand.tmp 8, Operand.tmp 10], argTypes := #[63, 63] }, type := 63, pos := "iter.go:52", after := #[{ on := 0, ground := Ground.data }, { on := 2, ground := Ground.data }], guard := none }, { dst := none, op := Op.store 63 (Operand.tmp 2) (Operand.tmp 11), type := 0, pos := "iter.go:52", after := #[{ on := 3, ground := Ground.data }, { on := 3, ground := Ground.chain }, { on := 0, ground := Ground.phase }, { on := 1, ground := Ground.phase }, { on := 2, ground := Ground.phase }, { on := 3, ground := Ground.phase }], guard := none }] false))
def apRec (fn : FuncId) (sv : Value) (Bs D : Nat) (st : LoopState) (pend : Option Code) : Loop :=
  { state := st, pending := pend, fn, tmps := #[.slice none 0 0, sv, .pointer (some ⟨Bs, 0, none⟩), undef, .slice none 0 0, undef, sv, undef, undef, undef, undef, undef, undef], params := #[7], assign := apAssign, body := apBody, defers := D }
structure ApAt (w0 : World) (fn : FuncId) (sv : Value) (Bs l D : Nat) (ss : List Int) (W : World) : Prop where
  box : ∃ v, W.heap[Bs]? = some (.cells #[v] 63 (0, 0)) ∧ W.ownsRow w0.heap.size 5 1 v ss.length (ss.map encB) ∧ (v = .slice none 0 0 ↔ ss = [])
  L : W.heap[l]? = some (.loop (apRec fn sv Bs D .ready none))
  K : W.heap[D]? = some (.deferred (some []))
  below : Below w0.heap.size w0 W
theorem ap_abides (w0 : World) (fn : FuncId) (sv : Value) (Bs l D B : Nat) (hB : w0.heap.size ≤ B) : AbidesFrom B (ApAt w0 fn sv Bs l D) := fun s W W' row h hg hrow => by
  have hrow' : ∀ r, row = some r → ∃ o : Obj, W.heap[r]? = some o ∧ o.isWalk = true := fun r e => (hrow r e).2
  obtain ⟨v, hv, hr, hn⟩ := h.box
  exact ⟨⟨v, (grownBy_keeps hg hrow' hv rfl).trans hv, ownsRow_abides_a hr hg hrow', hn⟩, (grownBy_keeps hg hrow' h.L rfl).trans h.L, (grownBy_keeps hg hrow' h.K rfl).trans h.K,
    h.below.grown hg h.below.size (fun k e => Nat.le_trans hB (hrow k e).1)⟩
theorem infoU8 : (Tryz.prog.info? 5).map (fun i => (i.zero, i.size, i.bytes)) = some (some (.int .u8 0), 1, 1) := by kernel_rfl
set_option maxRecDepth 100000 in
set_option maxHeartbeats 2000000 in
theorem apYield (F : Fence) (m : Nat) (w0 : World) (fn : FuncId) (hfn : F.fn fn) (sv : Value) (Bs l D : Nat) (hBl : Bs ≠ l) (hDl : D ≠ l) (hDB : D ≠ Bs) (h0B : w0.heap.size ≤ Bs) (h0l : w0.heap.size ≤ l)
    (N : Nat) (hN : N ≤ maxLen) (hNb : N * 1 ≤ 140737488355328) (ss : List Int) (x : Int) (W : World) (h : ApAt w0 fn sv Bs l D ss W) (hlen : ss.length < N) :
    YieldAt F m Tryz.prog l #[encB x] W fun e W' => e = .returned (.bool true) ∧ ApAt w0 fn sv Bs l D (ss ++ [x]) W' ∧ KeepsWalks W W' := by
  obtain ⟨i0, hi, hz0, hz1, hz2⟩ := info_parts infoU8
  obtain ⟨v, hv, hrow, _⟩ := h.box
  refine ⟨fn, #[.slice none 0 0, sv, .pointer (some ⟨Bs, 0, none⟩), undef, .slice none 0 0, undef, sv, encB x, undef, undef, undef, undef, undef], apAssign, apBody, by simpa [apRec] using run_yield (P := Tryz.prog) (args := #[encB x]) h.L rfl, roundIn_of_wpIn hfn ?_⟩
  have hl : l < W.heap.size := (Array.getElem?_eq_some_iff.1 h.L).1
  have hbr := run_beginRound (P := Tryz.prog) h.L rfl
  obtain ⟨W2, hW2⟩ : ∃ W2, W.putObj l (.loop { apRec fn sv Bs D .ready none with state := .busy }) = W2 := ⟨_, rfl⟩
  rw [hW2] at hbr
  have hg2 : W.grownBy W2 (some l) := by rw [← hW2]; exact grownBy_putObj_a _ _ _
  have hk2 : KeepsWalks W W2 := by rw [← hW2]; exact KeepsWalks.putObj _ h.L rfl
  have hv2 : W2.heap[Bs]? = some (.cells #[v] 63 (0, 0)) := by rw [← hW2]; exact (World.putObj_heap_other hBl).trans hv
  have hK2 : W2.heap[D]? = some (.deferred (some [])) := by rw [← hW2]; exact (World.putObj_heap_other hDl).trans h.K
  have hL2 : W2.heap[l]? = some (.loop { apRec fn sv Bs D .ready none with state := .busy }) := by rw [← hW2]; exact World.putObj_heap_same hl
  have hrow2 : W2.ownsRow w0.heap.size 5 1 v ss.length (ss.map encB) := hrow.kept hg2 (ownsRow_ne_a hrow h.L (fun cur e => by cases e))
  have hb2 : Below w0.heap.size w0 W2 := h.below.grown hg2 h.below.size (fun k e => by cases e; exact h0l)
  obtain ⟨hc2, hf2⟩ := cell_of_box_a hv2
  have hBlt : Bs < W2.heap.size := (Array.getElem?_eq_some_iff.1 hv2).1
  have hl2 : l < W2.heap.size := (Array.getElem?_eq_some_iff.1 hL2).1
  have hDlt : D < W2.heap.size := (Array.getElem?_eq_some_iff.1 hK2).1
  have ne_of : ∀ {j : Nat} {o : Obj}, W2.heap[j]? = some o → (∀ cur, o ≠ .cells cur 5 (0, 0)) → some j ≠ v.ownBlock := fun hj hno => by
    rcases ownsRow_ne_a hrow2 hj hno with e | e
    · rw [e]; simp
    · exact fun e' => e e'.symm
  clear hW2
  unfold apAssign
  gi_wp2_with gi_round_op_a
  unfold apBody
  gi_wp2_with (first
    | (gi_at_builtin; refine wpListIn_append_own _ rfl _ _ 63 rfl w0.heap.size 5 i0 (.int .u8 0) 1 1 Tryz.underlying63 hi hz0 hz1 hz2 rfl (by decide) _ _ _ rfl (hrow2.alloc _) ⟨W2.heap.size, 0, none⟩ 1 1 [encB x] rfl rfl (cell_one_new _ _ _) (by simp [Value.oneCell', encB]) (by omega) (by omega) (by have := hb2.size; simp; omega) ?_; intro v' w3 hown' hg3 hnil3
       have hv3 : w3.heap[Bs]? = some (.cells #[v] 63 (0, 0)) := (hg3.block Bs (by simp; omega) (ne_of hv2 (fun cur e => by cases e))).trans ((Below.heap_alloc _ _ Bs hBlt).trans hv2)
       obtain ⟨hc3, hf3⟩ := cell_of_box_a hv3
       obtain ⟨g', cap', cur', rfl, hbase', hgb', hr1, hr2, hr3, hr4⟩ : ∃ g' cap' cur', v' = .slice (some ⟨g', 0, none⟩) (ss.length + 1) cap' ∧ w0.heap.size ≤ g' ∧ w3.heap[g']? = some (.cells cur' 5 (0, 0)) ∧ ss.length + 1 ≤ cap' ∧ cap' ≤ maxLen ∧ cur'.size = cap' * 1 ∧ cur'.toList.take ((ss.length + 1) * 1) = ss.map encB ++ [encB x] := by
         rcases hown'.2 with ⟨_, h0⟩ | h'
         · exact absurd h0 (by omega)
         · exact h'
       go_frame)
    | gi_round_op_a)
  have hg3' : (W2.alloc (.cells #[encB x] 5)).grownBy w3 v.ownBlock := hg3
  have hL3 : w3.heap[l]? = some (.loop { apRec fn sv Bs D .ready none with state := .busy }) := (hg3'.block l (by simp; omega) (ne_of hL2 (fun cur e => by cases e))).trans ((Below.heap_alloc _ _ l hl2).trans hL2)
  have hK3 : w3.heap[D]? = some (.deferred (some [])) := (hg3'.block D (by simp; omega) (ne_of hK2 (fun cur e => by cases e))).trans ((Below.heap_alloc _ _ D hDlt).trans hK2)
  obtain ⟨w4, hw4⟩ : ∃ w4, w3.setCell ⟨Bs, 0, none⟩ (.slice (some ⟨g', 0, none⟩) (ss.length + 1) cap') = w4 := ⟨_, rfl⟩
  rw [hw4]
  have hg4 : w3.grownBy w4 (some Bs) := by rw [← hw4]; exact grownBy_setCell0_a _ _ _
  have hv4 : w4.heap[Bs]? = some (.cells #[.slice (some ⟨g', 0, none⟩) (ss.length + 1) cap'] 63 (0, 0)) := by rw [← hw4]; exact heap_setCell_box_a _ hv3
  have hL4 : w4.heap[l]? = some (.loop { apRec fn sv Bs D .ready none with state := .busy }) := (hg4.block l (Array.getElem?_eq_some_iff.1 hL3).1 (fun e => hBl (by cases e; rfl))).trans hL3
  have hK4 : w4.heap[D]? = some (.deferred (some [])) := (hg4.block D (Array.getElem?_eq_some_iff.1 hK3).1 (fun e => hDB (by cases e; rfl))).trans hK3
  have hrow4 := hown'.kept hg4 (ownsRow_ne_a hown' hv3 (fun cur e => by cases e))
  have hl4 : l < w4.heap.size := (Array.getElem?_eq_some_iff.1 hL4).1
  have hb3 : Below w0.heap.size w0 w3 := (hb2.alloc hb2.size _).grown hg3' (by have := hb2.size; simp; omega) (fun k e => (hrow2.lt k e).1)
  have hb4 : Below w0.heap.size w0 w4 := hb3.grown hg4 hb3.size (fun k e => by cases e; exact h0B)
  have hk4 : KeepsWalks W w4 := ((hk2.trans (KeepsWalks.alloc _ _)).trans (KeepsWalks.of_grownBy hg3' (ownsRow_not_walk_a (hrow2.alloc _)))).trans (by rw [← hw4]; exact KeepsWalks.setCell _ _ _)
  clear hw4
  refine ⟨_, _, run_endRound none hL4, rfl, ⟨⟨_, (World.putObj_heap_other hBl).trans hv4, ?_, by simp⟩, World.putObj_heap_same hl4, (World.putObj_heap_other hDl).trans hK4, hb4.grown (grownBy_putObj_a _ _ _) hb4.size (fun k e => by cases e; exact h0l)⟩, hk4.trans (KeepsWalks.putObj _ hL4 rfl)⟩
  have := hrow4.kept (grownBy_putObj_a w4 l (.loop { { apRec fn sv Bs D .ready none with state := .busy } with state := if (none : Option Code).isNone then .ready else .done, pending := none })) (ownsRow_ne_a hrow4 hL4 (fun cur e => by cases e))
  simpa using this
set_option maxRecDepth 100000 in
set_option maxHeartbeats 2000000 in
theorem appendSeq_in (F : Fence) (n : Nat) (h11 : F.fn 132) (hro : F.round = none) (hn : 2 ≤ n) (g : Nat) (lb : Array Value) (hFg : F.fn g) (eg : ∀ args w, (callFunc g args).run Tryz.prog w = .ok (.enter g args) w)
    (S : List Int → Prop) (N : Nat) (hN : N ≤ maxLen) (hNb : N * 1 ≤ 140737488355328) (w : World) (hseq : SeqGives F (n - 1) Tryz.prog g lb encB S N w) :
    CallsIn F n Tryz.prog 132 #[.slice none 0 0, .func (.func g) #[] lb] w fun e w' => ∃ (v : Value) (ss : List Int), e = .returned v ∧ S ss ∧ w'.ownsRow w.heap.size 5 1 v ss.length (ss.map encB) ∧ (v = .slice none 0 0 ↔ ss = []) ∧ Below w.heap.size w w' := by
  have h1 : 1 ≤ n := by omega
  refine callsIn_of_wp_marks Tryz.func132 rfl h11 ?_ hro
  simp only [Tryz.ntmps132, List.size_toArray, List.length_cons, List.length_nil, Nat.reduceAdd, Nat.reduceSub, Array.replicate_succ, Array.replicate_zero, List.push_toArray, List.append_toArray, List.nil_append, List.cons_append]
  gi_wp2
  refine wpIn_rangeFunc ?_
  intro fn hfn
  rw [hro]
  obtain ⟨W0, hW0⟩ : ∃ W0, w.alloc (.cells #[.slice none 0 0] 63) = W0 := ⟨_, rfl⟩
  have hs0 : W0.heap.size = w.heap.size + 1 := by rw [← hW0]; simp
  have hv0 : W0.heap[w.heap.size]? = some (.cells #[.slice none 0 0] 63 (0, 0)) := by rw [← hW0]; exact World.alloc_heap_new w _
  have hb0 : Below w.heap.size w W0 := by rw [← hW0]; exact (Below.refl _ w).alloc (Nat.le_refl _) _
  rw [hW0]
  obtain ⟨W1, hW1⟩ : ∃ W1, (W0.alloc (.deferred (some []))).alloc (.loop (apRec fn (.func (.func g) #[] lb) w.heap.size W0.heap.size .ready none)) = W1 := ⟨_, rfl⟩
  have hold : ∀ k, k < W0.heap.size → W1.heap[k]? = W0.heap[k]? := fun k hk => by
    rw [← hW1]; exact (Below.heap_alloc _ _ k (by simp; omega)).trans (Below.heap_alloc _ _ k hk)
  have hb1 : Below w.heap.size w W1 := by rw [← hW1]; exact (hb0.alloc hb0.size _).alloc (by have := hb0.size; simp; omega) _
  have hs1 : W1.heap.size = W0.heap.size + 2 := by rw [← hW1]; simp
  have hM : ApAt w fn (.func (.func g) #[] lb) w.heap.size (W0.heap.size + 1) W0.heap.size [] W1 :=
    ⟨⟨_, (hold w.heap.size (by omega)).trans hv0, ⟨rfl, .inl ⟨rfl, rfl⟩⟩, by simp⟩,
     by rw [← hW1]; have := World.alloc_heap_new (W0.alloc (.deferred (some []))) (.loop (apRec fn (.func (.func g) #[] lb) w.heap.size W0.heap.size .ready none)); rwa [World.size_alloc] at this,
     by rw [← hW1]; exact (Below.heap_alloc _ _ _ (by simp)).trans (World.alloc_heap_new W0 _), hb1⟩
  refine ⟨W0.heap.size + 1, [{ target := .collected W0.heap.size, args := #[] }], W1, { target := .fn (.func g) lb, args := #[.func (.yield (W0.heap.size + 1)) #[] #[]] }, W1, g,
    #[.func (.yield (W0.heap.size + 1)) #[] #[]] ++ lb, W1, ?_, ?_, ?_, ?_, fun _ => h1, ?_⟩
  · rw [← hW1]; exact run_enterLoop_outer _ _ _ _ _
  · simp [resolve, go_sem]
  · intro f' hf'; simp [Target.leads] at hf'; subst hf'; exact hFg
  · simp [invoke, go_sem, eg]
  · refine (hseq (W0.heap.size + 1) (ApAt w fn (.func (.func g) #[] lb) w.heap.size (W0.heap.size + 1) W0.heap.size) W1 hb1 (ap_abides _ _ _ _ _ _ _ hb1.size)
      (fun pre x W hJ hl => apYield F (n - 1 - 1) w fn hfn _ w.heap.size (W0.heap.size + 1) W0.heap.size (by omega) (by omega) (by omega) (Nat.le_refl _) (by omega) N hN hNb pre x W hJ hl) hM).mono ?_
    rintro e W2 ⟨⟨v0, rfl⟩, ss, hS, h2⟩
    obtain ⟨v, hv, hrow, hnil⟩ := h2.box
    have hend := run_endLoop (P := Tryz.prog) h2.L (by simp [apRec])
    obtain ⟨W3, hW3⟩ : ∃ W3, W2.putObj (W0.heap.size + 1) (.loop { apRec fn (.func (.func g) #[] lb) w.heap.size W0.heap.size .ready none with state := .exhausted }) = W3 := ⟨_, rfl⟩
    rw [hW3] at hend
    have hg3 : W2.grownBy W3 (some (W0.heap.size + 1)) := by rw [← hW3]; exact grownBy_putObj_a _ _ _
    have hv3 : W3.heap[w.heap.size]? = some (.cells #[v] 63 (0, 0)) := by rw [← hW3]; exact (World.putObj_heap_other (by omega)).trans hv
    have hK3 : W3.heap[W0.heap.size]? = some (.deferred (some [])) := by rw [← hW3]; exact (World.putObj_heap_other (by omega)).trans h2.K
    have hrow3 := hrow.kept hg3 (ownsRow_ne_a hrow h2.L (fun cur e => by cases e))
    have hb3 : Below w.heap.size w W3 := h2.below.grown hg3 h2.below.size (fun k e => by cases e; omega)
    obtain ⟨hc3, hf3⟩ := cell_of_box_a hv3
    clear hW3
    refine ⟨none, W3, hend, ?_⟩
    gi_wp2
    rw [← hs0]
    refine ⟨by simp, .inl ⟨_, _, rfl, run_takeDeferred hK3, ?_⟩⟩
    exact ⟨_, results_tmp rfl _ _ _, v, ss, rfl, hS, hrow3.kept (grownBy_putObj_a _ _ _) (ownsRow_ne_a hrow3 hK3 (fun cur e => by cases e)), hnil, hb3.grown (grownBy_putObj_a _ _ _) hb3.size (fun k e => by cases e; omega)⟩
set_option maxHeartbeats 1000000 in
theorem collect_in (F : Fence) (n : Nat) (h8 : F.fn 116) (h11 : F.fn 132) (hro : F.round = none) (hn : 3 ≤ n) (g : Nat) (lb : Array Value) (hFg : F.fn g) (eg : ∀ args w, (callFunc g args).run Tryz.prog w = .ok (.enter g args) w)
    (S : List Int → Prop) (N : Nat) (hN : N ≤ maxLen) (hNb : N * 1 ≤ 140737488355328) (w : World) (hseq : SeqGives F (n - 1 - 1) Tryz.prog g lb encB S N w) :
    CallsIn F n Tryz.prog 116 #[.func (.func g) #[] lb] w fun e w' => ∃ (v : Value) (ss : List Int), e = .returned v ∧ S ss ∧ w'.ownsRow w.heap.size 5 1 v ss.length (ss.map encB) ∧ (v = .slice none 0 0 ↔ ss = []) ∧ Below w.heap.size w w' := by
  have h1 : 1 ≤ n := by omega
  refine callsIn_of_wp Tryz.func116 rfl h8 ?_ hro
  simp only [Tryz.ntmps116, List.size_toArray, List.length_cons, List.length_nil, Nat.reduceAdd, Nat.reduceSub, Array.replicate_succ, Array.replicate_zero, List.push_toArray, List.append_toArray, List.nil_append, List.cons_append]
  gi_wp2_with (gi_at_call 132; refine (appendSeq_in F (n - 1) h11 hro (by omega) g lb hFg eg S N hN hNb _ hseq).mono ?_; rintro e w' ⟨v, ss, rfl, hS, hrow, hnil, hb⟩)
  go_ret
  exact ⟨v, ss, rfl, hS, hrow, hnil, hb⟩
end Go.Proofs.YtdeeeechdlcdbaaGreat.Sn
/- The keys of a map of bytes, sorted. -/
set_option linter.unusedVariables false
set_option linter.unusedSimpArgs false
namespace Go.Proofs.YtdeeeechdlcdbaaGreat.Sn
open Go Go.RowKit Go.Maps Go.Sort Go.Proofs Go.Proofs.YtdeeeechdlcdbaaGreat.Sr
def SortsIn (F : Fence) (m : Nat) : Prop :=
  (∀ (blk off cap : Nat) (ss : List Int) (W : World), Holds encB W blk off ss.toArray → blk < W.heap.size → ss.length < 4611686018427387904 →
    CallsIn F m Tryz.prog 117 #[.slice (some ⟨blk, off, none⟩) ss.length cap] W fun e w' => e = .returned (.tuple #[]) ∧ ∃ k os, w' = grow (putRow encB (Sort.ahead W k) blk off (ss.mergeSort fun x y => decide (x ≤ y)).toArray) os) ∧
  (∀ (p : Option Addr) (cap : Nat) (W : World), CallsIn F m Tryz.prog 117 #[.slice p 0 cap] W fun e w' => e = .returned (.tuple #[]) ∧ w' = W)
set_option maxRecDepth 100000 in
set_option maxHeartbeats 2000000 in
theorem sorted_in (F : Fence) (n : Nat) (h6 : F.fn 102) (h8 : F.fn 116) (h9 : F.fn 117) (h11 : F.fn 132) (hro : F.round = none) (hn : 4 ≤ n) (hsort : SortsIn F (n - 1)) (g : Nat) (lb : Array Value) (hFg : F.fn g) (eg : ∀ args w, (callFunc g args).run Tryz.prog w = .ok (.enter g args) w)
    (S : List Int → Prop) (N : Nat) (hN : N ≤ maxLen) (hNb : N * 1 ≤ 140737488355328) (w : World) (hseq : SeqGives F (n - 1 - 1 - 1) Tryz.prog g lb encB S N w) :
    CallsIn F n Tryz.prog 102 #[.func (.func g) #[] lb] w fun e w' => ∃ (v : Value) (ss : List Int), e = .returned v ∧ S ss ∧
      w'.ownsRow w.heap.size 5 1 v ss.length ((ss.mergeSort (fun x y => decide (x ≤ y))).map encB) ∧ (v = .slice none 0 0 ↔ ss = []) ∧ Below w.heap.size w w' := by
  have h1 : 1 ≤ n := by omega
  refine callsIn_of_wp Tryz.func102 rfl h6 ?_ hro
  simp only [Tryz.ntmps102, List.size_toArray, List.length_cons, List.length_nil, Nat.reduceAdd, Nat.reduceSub, Array.replicate_succ, Array.replicate_zero, List.push_toArray, List.append_toArray, List.nil_append, List.cons_append]
  gi_wp2_with (gi_at_call 116; refine (collect_in F (n - 1) h8 h11 hro (by omega) g lb hFg eg _ N hN hNb _ hseq.bounded).mono ?_; rintro e W ⟨v, ss, rfl, ⟨hS, hlen⟩, hrow, hnil, hb⟩)
  rcases hrow.2 with ⟨rfl, hz⟩ | ⟨gb, cap, cur, rfl, hbase, hgb, r1, r2, r3, r4⟩
  · have hss : ss = [] := List.eq_nil_of_length_eq_zero hz
    subst hss
    gi_wp2_with (gi_at_call 117; refine (hsort.2 none 0 W).mono ?_; rintro e w' ⟨rfl, rfl⟩)
    go_ret
    exact ⟨.slice none 0 0, [], rfl, hS, by simpa using hrow, by simp, hb⟩
  · have hH : Holds encB W gb 0 ss.toArray := holds_of_block_b hgb (by simpa using r4)
    have hgl : gb < W.heap.size := (Array.getElem?_eq_some_iff.1 hgb).1
    have hsz : ss.length < 4611686018427387904 := by omega
    have cS := hsort.1 gb 0 cap ss W hH hgl hsz
    gi_wp2_with (gi_at_call 117; refine cS.mono ?_; rintro e w' ⟨rfl, nn, os, rfl⟩)
    go_ret
    exact ⟨_, ss, rfl, hS, ownsRow_sorted_b (by simp) hbase hgb r1 r2 r3, hnil, hb.grown (grownBy_sorted_b _) hb.size (fun j hj => by cases hj; exact hbase)⟩
theorem sorts_wide (m : Nat) : SortsIn Fence.wide m :=
  ⟨fun blk off cap ss W hH hblk hsz => callsIn_wide.2 (sort_bytes blk off cap ss W hH hblk hsz), fun p cap W => callsIn_wide.2 (Sort_u8_nil p cap W)⟩
end Go.Proofs.YtdeeeechdlcdbaaGreat.Sn
/- The sons of a trie's node, sorted. -/
set_option linter.unusedVariables false
set_option linter.unusedSimpArgs false
namespace Go.Proofs.YtdeeeechdlcdbaaGreat.Sn
open Go Go.RowKit Go.Maps Go.Sort Go.Proofs Go.Proofs.YtdeeeechdlcdbaaGreat.Base Go.Proofs.YtdeeeechdlcdbaaGreat.Sr Go.Proofs.YtdeeeechdlcdbaaGreat.TrP Go.Proofs.YtdeeeechdlcdbaaGreat.TrM Go.Proofs.YtdeeeechdlcdbaaGreat.TrA Go.Proofs.YtdeeeechdlcdbaaGreat.TrQ Go.Proofs.YtdeeeechdlcdbaaGreat.TrE
theorem sonsL_lt (f : Int → Option Nat) : (sonsL f).Pairwise (· < ·) := by
  unfold sonsL
  refine List.Pairwise.filter _ (List.Pairwise.map _ (fun a b h => ?_) (List.pairwise_lt_range (n := 256)))
  omega
theorem sort_sons {f : Int → Option Nat} {ss : List Int} (hp : ss.Perm (sonsL f)) : ss.mergeSort (fun x y => decide (x ≤ y)) = sonsL f := by
  have h1 : (ss.mergeSort (fun x y => decide (x ≤ y))).Pairwise (fun x y => x ≤ y) := by
    have := List.pairwise_mergeSort (le := fun x y : Int => decide (x ≤ y)) (fun a b c h1 h2 => by simp at *; omega) (fun a b => by simp; omega) ss
    exact this.imp (fun h => by simpa using h)
  have h2 : (sonsL f).Pairwise (fun x y => x ≤ y) := (sonsL_lt f).imp (fun h => by omega)
  exact List.Perm.eq_of_pairwise (fun a b _ _ h1 h2 => by omega) h1 h2 ((List.mergeSort_perm ss _).trans hp)
theorem sons_keys {w : World} {b n : Nat} {D0 : DataW Unit} {R : Value → Option (DataW Unit × List MemPlace)} (hown : w.ownsMap Tryz.prog 5 R b n D0) {f : Int → Option Nat} (r : ∀ c : Int, 0 ≤ c ∧ c ≤ 255 → Maps.has D0 (key c) = (f c).isSome) : (sonsL f).Perm (byteKeys D0) := by
  obtain ⟨es, hD, hpw, _⟩ := hown.entries law5
  obtain ⟨es', hD', hko⟩ := hown.keysOf
  obtain rfl : es = es' := by rw [hD] at hD'; simpa using hD'
  subst hD
  refine perm_byteKeys hpw (fun p hp => by obtain ⟨v, hv⟩ := hko p hp; obtain ⟨x, _, hx, _⟩ := keyOf_u8 Tryz.underlying5 hv; exact ⟨x, hx⟩) (bytes_nodup.filter _) (fun x => ?_)
  rw [mem_sonsL]
  constructor
  · rintro ⟨h1, h2⟩
    exact (r x h1).trans h2
  · intro hh
    have hx : 0 ≤ x ∧ x ≤ 255 := by
      rw [has_eq, List.any_eq_true] at hh
      obtain ⟨p, hp, hs⟩ := hh
      obtain ⟨v, hv⟩ := hko p hp
      obtain ⟨y, _, hy, hl⟩ := keyOf_u8 Tryz.underlying5 hv
      rw [hy] at hs
      have e : y = x := by simpa [Lit.sameKey] using hs
      subst e
      simp [Lit.wf, IntKind.min, IntKind.max, IntKind.signed, IntKind.bits] at hl
      omega
    exact ⟨hx, (r x hx).symm.trans hh⟩
theorem keys_size {w : World} {b n : Nat} {D0 : DataW Unit} {R : Value → Option (DataW Unit × List MemPlace)} (hown : w.ownsMap Tryz.prog 5 R b n D0) {f : Int → Option Nat} (r : ∀ c : Int, 0 ≤ c ∧ c ≤ 255 → Maps.has D0 (key c) = (f c).isSome) : Maps.size D0 ≤ 256 := by
  have h := (sons_keys hown r).length_eq
  obtain ⟨es, hD, hpw, _⟩ := hown.entries law5
  subst hD
  have h2 := sonsL_len f
  have h3 : (byteKeys (.map es)).length = es.length := by simp [byteKeys]
  show es.length ≤ 256
  omega
theorem field_2 (t : ByteArray) (x : Int) (mp : Option Nat) (W : World) : (Instr.field 122 (.agg #[.string t, .int .i64 x, .map mp]) 2).run Tryz.prog W = .ok (.map mp) W := field63_2 t x mp W
set_option maxRecDepth 100000 in
set_option maxHeartbeats 2000000 in
theorem sons_in {B p m : Nat} {N : List Nd} {w : World} (h : TrieAt B w p N m) (hbig : N.length ≤ 1000000) {k : Nat} {nd : Nd} (hk : N[k]? = some nd) :
    Calls Tryz.prog 77 #[.pointer (some ⟨p, 0, none⟩), .int .i64 (k : Int)] w fun e w' => ∃ v : Value, e = .returned v ∧ w'.ownsRow w.heap.size 5 1 v (sonsL nd.p.sons).length ((sonsL nd.p.sons).map encB) ∧ Below w.heap.size w w' := by
  have hA := at_in h hk hbig
  have hm := (h.maps nd (List.mem_of_getElem? hk)).2
  have cA : CallsIn Fence.wide 5 Tryz.prog 104 _ _ _ := callsIn_wide.2 hA
  have cK : ∀ mb W, CallsIn Fence.wide 5 Tryz.prog 103 #[.map mb] W fun e w' => e = .returned (.func (.func 118) #[] #[.pointer (some ⟨W.heap.size, 0, none⟩)]) ∧ w' = W.alloc (.cells #[.map mb] 120) := fun mb W => keys_in Fence.wide 5 trivial rfl mb W
  have cS : ∀ W : World, Below w.heap.size w W → CallsIn Fence.wide 5 Tryz.prog 102 #[.func (.func 118) #[] #[.pointer (some ⟨W.heap.size, 0, none⟩)]] (W.alloc (.cells #[.map (some nd.mp)] 120)) fun e w' => ∃ v : Value, e = .returned v ∧ w'.ownsRow w.heap.size 5 1 v (sonsL nd.p.sons).length ((sonsL nd.p.sons).map encB) ∧ Below w.heap.size w w' := by
    intro W hW
    obtain ⟨D, hown, r⟩ := hm.below hW
    have r1 : ∀ c : Int, 0 ≤ c ∧ c ≤ 255 → Maps.has D (key c) = (nd.p.sons c).isSome := fun c hc => (r c hc).1
    have hbl := hown.lt
    have hsz := keys_size hown r1
    have hpk := sons_keys hown r1
    have h256 : (256 : Nat) ≤ maxLen := by decide
    have hseq : SeqGives Fence.wide 2 Tryz.prog 118 #[.pointer (some ⟨W.heap.size, 0, none⟩)] encB (fun ss => ss.Perm (byteKeys D)) (Maps.size D) (W.alloc (.cells #[.map (some nd.mp)] 120)) :=
      keys_gives Fence.wide _ trivial rfl (by omega) W.heap.size nd.mp m D _ (by simp) (by simp) (by
        obtain ⟨es, clock, hb, Ft, hs, hD⟩ := hown
        exact ⟨es, clock, (Below.heap_alloc _ _ nd.mp hbl).trans hb, Ft, hs, hD⟩)
    refine (sorted_in Fence.wide 5 trivial trivial trivial trivial rfl (by omega) (sorts_wide _) 118 #[.pointer (some ⟨W.heap.size, 0, none⟩)] trivial (enters_of Tryz.func118 (by kernel_rfl) rfl) _ _ (Nat.le_trans hsz h256) (by omega) _ hseq).mono ?_
    rintro e w' ⟨v, ss, rfl, hS, hrow, _, hb⟩
    have hp2 : ss.Perm (sonsL nd.p.sons) := hS.trans hpk.symm
    rw [sort_sons hp2, hp2.length_eq] at hrow
    have hWs := hW.size
    exact ⟨v, rfl, ownsRow_base_a hrow (by simp; omega), (hW.trans ((Below.refl _ W).alloc (Nat.le_refl _) _ |>.mono hWs)).trans (hb.mono (by simp; omega))⟩
  clear hm hA h hk
  obtain ⟨⟨tx, wd, sn⟩, mp⟩ := nd
  simp only at cA cS
  generalize sonsL sn = L at cS
  have hfd := field_2 tx wd (some mp)
  refine (callsIn_wide (n := 6)).1 ?_
  have hf1 : Fence.wide.fn 104 := trivial
  have hf2 : Fence.wide.fn 103 := trivial
  have hf3 : Fence.wide.fn 102 := trivial
  refine callsIn_of_wp Tryz.func77 rfl trivial ?_ rfl
  simp only [Tryz.ntmps77, List.size_toArray, List.length_cons, List.length_nil, Nat.reduceAdd, Nat.reduceSub, Array.replicate_succ, Array.replicate_zero, List.push_toArray, List.append_toArray, List.nil_append, List.cons_append]
  gi_wp2_with (gi_at_call 104; refine cA.mono ?_; rintro e w1 ⟨rfl, hb1⟩)
  have cS1 := cS w1 hb1
  simp only [atV]
  rw [hfd w1]
  gi_wp2_with (first
    | (gi_at_call 103; refine (cK _ _).mono ?_; rintro e w' ⟨rfl, rfl⟩)
    | (gi_at_call 102; refine cS1.mono ?_; rintro e w' ⟨v, rfl, hrow, hb⟩))
  go_ret
  exact ⟨v, rfl, hrow, hb⟩
end Go.Proofs.YtdeeeechdlcdbaaGreat.Sn
