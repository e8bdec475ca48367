/- Coins in memory: rows of coins that a call owns, what sorting a row leaves, comparisons of two coins. -/
import Derived.Test.YthgidcfgelpkhaaStG
import Derived.Test.YthgidcfgelpkhaaBase
set_option linter.unusedVariables false
set_option linter.unusedSimpArgs false
namespace Go.Proofs.Ythgidcfgelpkhaa
open Go Go.Shelf Go.RowKit Go.Lib Go.Sort Go.Proofs Go.Proofs.Ythgidcfgelpkhaa.Base

theorem info_parts {P : Program} {t : TypeId} {z : Value} {n b : Nat} (h : (P.info? t).map (fun i => (i.zero, i.size, i.bytes)) = some (some z, n, b)) : ∃ i, P.info? t = some i ∧ i.zero = some z ∧ i.size = n ∧ i.bytes = b := by
  cases hi : P.info? t with
  | none => rw [hi] at h; cases h
  | some i =>
    rw [hi] at h
    have h := Option.some.inj h
    exact ⟨i, rfl, congrArg Prod.fst h, congrArg (fun x => x.2.1) h, congrArg (fun x => x.2.2) h⟩
theorem info3 : (Try.prog.info? 3).map (fun i => (i.zero, i.size, i.bytes)) = some (some (.int .i64 0), 1, 8) := by kernel_rfl
theorem info22 : (Try.prog.info? 22).map (fun i => (i.zero, i.size, i.bytes)) = some (some (.slice none 0 0), 1, 24) := by kernel_rfl
theorem info54 : (Try.prog.info? 54).map (fun i => (i.zero, i.size, i.bytes)) = some (some (.agg #[.int .i64 0, .slice none 0 0]), 2, 32) := by kernel_rfl

/-- A coin, and where its symbols lie. -/
structure Coin where
  n : Nat
  small : n < 1125899906842624
  syms : List Nat
  blk : Nat
  cap : Nat
instance : Inhabited Coin := ⟨⟨0, by omega, [], 0, 0⟩⟩

def symV (s : Nat) : Value := .int .i64 (s : Int)
def Coin.sl (c : Coin) : Value := .slice (some ⟨c.blk, 0, none⟩) c.syms.length c.cap
def encC (c : Coin) : List Value := [.int .i64 (c.n : Int), c.sl]
def Coin.plain (c : Coin) : Nat × List Nat := (c.n, c.syms)
def cfC (x y : Coin) : Int := (x.n : Int) - (y.n : Int)

theorem encC_len (x : Coin) : (encC x).length = 2 := rfl
theorem encC_one (x : Coin) : ∀ v ∈ encC x, v.oneCell' = true := by
  intro v hv
  simp [encC, Coin.sl] at hv
  rcases hv with rfl | rfl <;> rfl

theorem ltC (x y : Coin) : ltOf cfC x y = decide (x.n < y.n) := by
  unfold ltOf cfC
  simp only [decide_eq_decide]
  omega
theorem swoC : SWO (ltOf cfC) where
  irrefl := fun x => by rw [ltC]; simp
  trans := fun x y z => by simp only [ltC, decide_eq_true_eq]; omega
  ntrans := fun x y z => by simp only [ltC, decide_eq_false_iff_not]; omega

/-- The symbols of a coin lie in memory of the call's own. -/
def Syms (B : Nat) (w : World) (c : Coin) : Prop := w.ownsRow B 3 1 c.sl c.syms.length (c.syms.map symV)
/-- A row of coins. -/
def RowC (B : Nat) (w : World) (v : Value) (l : List Coin) : Prop := w.ownsRow B 54 2 v l.length (l.flatMap encC) ∧ ∀ c ∈ l, Syms B w c

theorem toList_bang (d : Array Coin) (i : Nat) : d.toList[i]! = d[i]! := by
  by_cases h : i < d.size
  · rw [getElem!_pos d.toList i (by simpa using h), getElem!_pos d i h]; simp
  · rw [getElem!_neg d.toList i (by simpa using h), getElem!_neg d i h]
theorem flat_len (l : List Coin) : (l.flatMap encC).length = l.length * 2 := by
  induction l with
  | nil => rfl
  | cons c l ih => rw [List.flatMap_cons, List.length_append, ih, encC_len, List.length_cons]; omega
theorem flat_at : ∀ (l : List Coin) (t : Nat), t < l.length * 2 → (l.flatMap encC)[t]? = some ((encC l[t / 2]!)[t % 2]!)
  | [], t, h => absurd h (by simp)
  | c :: l, 0, _ => by simp [encC]
  | c :: l, 1, _ => by simp [encC]
  | c :: l, t + 2, h => by
    rw [List.flatMap_cons, List.getElem?_append_right (by rw [encC_len]; omega), encC_len, Nat.add_sub_cancel, flat_at l t (by simp at h; omega)]
    rw [show (t + 2) / 2 = t / 2 + 1 by omega, show (t + 2) % 2 = t % 2 by omega]
    simp
theorem flat_one {l : List Coin} : ∀ u ∈ l.flatMap encC, u.oneCell' = true := by
  intro u hu
  obtain ⟨c, _, hc⟩ := List.mem_flatMap.1 hu
  exact encC_one c u hc
theorem flatK_list (d : Array Coin) : (flatK encC 2 d).toList = d.toList.flatMap encC := by
  refine List.ext_getElem? fun t => ?_
  by_cases h : t < d.size * 2
  · rw [flat_at d.toList t (by simpa using h), toList_bang]
    simp [flatK, h]
  · rw [List.getElem?_eq_none (by rw [Array.length_toList, size_flatK]; omega), List.getElem?_eq_none (by rw [flat_len]; simpa using h)]

/-- An owned row of coins, as the sort wants it. -/
theorem holds_of_own {B : Nat} {w : World} {g cap n : Nat} {d : Array Coin} (hn : d.size = n) (h : w.ownsRow B 54 2 (.slice (some ⟨g, 0, none⟩) n cap) n (d.toList.flatMap encC)) : HoldsK encC 2 w g 0 d := by
  intro j hj
  rw [size_flatK] at hj
  have hc := h.cellAt j (by omega)
  rw [flat_at d.toList j (by simpa using hj)] at hc
  refine ⟨?_, by rw [Nat.zero_add]; exact h.frozenAt j⟩
  rw [Nat.zero_add, hc, get_flatK _ _ _ _ hj, toList_bang]
  rfl

theorem sorted_row {B : Nat} {w w' : World} {g cap n : Nat} {d d' : Array Coin} (hn : d.size = n) (hn' : d'.size = n) (h : w.ownsRow B 54 2 (.slice (some ⟨g, 0, none⟩) n cap) n (d.toList.flatMap encC)) (hs : SWK encC 2 w g 0 d' w') :
    w'.ownsRow B 54 2 (.slice (some ⟨g, 0, none⟩) n cap) n (d'.toList.flatMap encC) ∧ w.grownBy w' (some g) := by
  obtain ⟨m, os, rfl⟩ := hs
  obtain ⟨hl, h⟩ := h
  rcases h with ⟨h1, h2⟩ | ⟨g', cap', cur, h1, h2, h3, h4, h5, h6, h7⟩
  · cases h1
  · cases h1
    have hg := heap_lt h3
    have e : sortWorldK encC 2 w g 0 m d' os = { heap := w.heap.modify g (onCells (putCells id 0 (flatK encC 2 d'))) ++ os, tape := w.tape, drawn := w.drawn + m, os := w.os, output := w.output } := rfl
    rw [e]
    have hother : ∀ k, k < w.heap.size → k ≠ g → (w.heap.modify g (onCells (putCells id 0 (flatK encC 2 d'))) ++ os)[k]? = w.heap[k]? := by
      intro k hk hkg
      rw [Array.getElem?_append_left (by simpa using hk), Array.getElem?_modify, if_neg (Ne.symm hkg)]
    refine ⟨⟨by rw [flat_len]; simp [hn'], .inr ⟨g, cap, putCells id 0 (flatK encC 2 d') cur, rfl, h2, ?_, h4, h5, by simp [putCells, h6], ?_⟩⟩, rfl, rfl, rfl, by simp, fun k hk hkg => hother k hk (fun e => hkg (by rw [e]))⟩
    · show (w.heap.modify g (onCells (putCells id 0 (flatK encC 2 d'))) ++ os)[g]? = _
      rw [Array.getElem?_append_left (by simpa using hg), Array.getElem?_modify, if_pos rfl, h3]
      rfl
    · rw [← flatK_list]
      have hF : (flatK encC 2 d').size = n * 2 := by rw [size_flatK, hn']
      have hcs : n * 2 ≤ cur.size := by rw [h6]; exact Nat.mul_le_mul_right 2 h4
      refine List.ext_getElem? fun t => ?_
      rw [List.getElem?_take]
      by_cases ht : t < n * 2
      · rw [if_pos ht, Array.getElem?_toList, Array.getElem?_toList]
        simp only [putCells, Array.getElem?_mapIdx]
        rw [Array.getElem?_eq_getElem (by omega), Array.getElem?_eq_getElem (by omega), Option.map_some, if_pos ⟨Nat.zero_le _, by omega⟩]
        simp [getElem!_pos, hF, ht]
      · rw [if_neg ht, List.getElem?_eq_none (by rw [Array.length_toList]; omega)]

/-- A comparison of two coins, in whatever world: what the closures of single and Of tell. -/
theorem closure53 (x y : Coin) (W : World) : Calls Try.prog 53 #[.agg (encC x).toArray, .agg (encC y).toArray] W fun e w' => e = .returned (.int .i64 (cfC x y)) ∧ ∃ q os', w' = grow (W.drewN q) os' := by
  have h1 := x.small
  have h2 := y.small
  have hw : IntKind.i64.wrap ((x.n : Int) - (y.n : Int)) = (x.n : Int) - (y.n : Int) := by rw [IntKind.wrap_i64]; omega
  unfold cfC encC Coin.sl
  generalize x.n = a at h1 hw ⊢
  generalize y.n = b at h2 hw ⊢
  go_enter Try.func53, Try.ntmps53
  go_wp2
  go_ret
  exact ⟨rfl, 0, _, by rw [alloc_eq_grow, alloc_eq_grow, grow_grow]; rfl⟩
theorem closure30 (x y : Coin) (W : World) : Calls Try.prog 30 #[.agg (encC x).toArray, .agg (encC y).toArray] W fun e w' => e = .returned (.int .i64 (cfC x y)) ∧ ∃ q os', w' = grow (W.drewN q) os' := by
  have h1 := x.small
  have h2 := y.small
  have hw : IntKind.i64.wrap ((x.n : Int) - (y.n : Int)) = (x.n : Int) - (y.n : Int) := by rw [IntKind.wrap_i64]; omega
  unfold cfC encC Coin.sl
  generalize x.n = a at h1 hw ⊢
  generalize y.n = b at h2 hw ⊢
  go_enter Try.func30, Try.ntmps30
  go_wp2
  go_ret
  exact ⟨rfl, 0, _, by rw [alloc_eq_grow, alloc_eq_grow, grow_grow]; rfl⟩

set_option maxHeartbeats 1000000 in
theorem sort_nil (g : Nat) (w : World) : Calls Try.prog 29 #[.slice none 0 0, .func (.func g) #[] #[]] w fun e w' => e = .returned (.tuple #[]) ∧ w' = w := by
  have hins : Calls Try.prog 67 #[.slice none 0 0, .int .i64 0, .int .i64 0, .func (.func g) #[] #[]] w fun e w' => e = .returned (.tuple #[]) ∧ w' = w := by
    go_enter Try.func67, Try.ntmps67
    go_wp2
    go_loopg [8] 0 (fun _ s8 wr => s8 = .int .i64 1 ∧ wr = w)
    case atStart => exact ⟨rfl, rfl⟩
    case round =>
      obtain ⟨rfl, rfl⟩ := hrel
      go_wp2
      go_end0
      exact ⟨rfl, rfl⟩
  have hst : Calls Try.prog 55 #[.slice none 0 0, .int .i64 0, .func (.func g) #[] #[]] w fun e w' => e = .returned (.tuple #[]) ∧ w' = w := by
    go_enter Try.func55, Try.ntmps55
    go_wp2
    go_loopg [7, 8] 0 (fun _ s7 s8 wr => s7 = .int .i64 0 ∧ s8 = .int .i64 20 ∧ wr = w)
    case atStart => exact ⟨rfl, rfl, rfl⟩
    case round =>
      obtain ⟨rfl, rfl, rfl⟩ := hrel
      go_wp2_with fail
      refine hins.mono ?_
      rintro e w' ⟨rfl, rfl⟩
      go_wp2
      go_loopg [6, 7, 8, 9] 0 (fun _ s6 s7 s8 s9 wr => s6 = .int .i64 20 ∧ wr = w')
      case atStart => exact ⟨rfl, rfl⟩
      case round =>
        obtain ⟨rfl, rfl⟩ := hrel
        go_wp2
        go_end0
        exact ⟨rfl, rfl⟩
  go_enter Try.func29, Try.ntmps29
  go_wp2_with fail
  refine hst.mono ?_
  rintro e w' ⟨rfl, rfl⟩
  go_wp2
  go_end0
  exact ⟨rfl, rfl⟩

/-- What sorting a row of coins leaves: the row anew, and all else as it was. -/
theorem sort_row (g : Nat) (hcmp : ∀ x y W, Calls Try.prog g #[.agg (encC x).toArray, .agg (encC y).toArray] W fun e w' => e = .returned (.int .i64 (cfC x y)) ∧ ∃ q os', w' = grow (W.drewN q) os')
    (eg : ∀ args w, (callFunc g args).run Try.prog w = .ok (.enter g args) w) {B : Nat} {w : World} {v : Value} {l : List Coin} (h : RowC B w v l) (hl : l.length ≤ 100000) :
    Calls Try.prog 29 #[v, .func (.func g) #[] #[]] w fun e w' => e = .returned (.tuple #[]) ∧ RowC B w' v (sortedBy (ltOf cfC) l) ∧ w.grownBy w' v.ownBlock := by
  obtain ⟨ho, hs⟩ := h
  rcases ho.2 with ⟨rfl, h0⟩ | ⟨b, cap, cur, rfl, h2, h3, h4⟩
  · have hl0 : l = [] := List.eq_nil_of_length_eq_zero h0
    subst hl0
    refine (sort_nil g w).mono ?_
    rintro e w' ⟨rfl, rfl⟩
    have e0 : sortedBy (ltOf cfC) [] = [] := by simp [sortedBy]
    rw [e0]
    exact ⟨rfl, ⟨ho, hs⟩, rfl, rfl, rfl, Nat.le_refl _, fun _ _ _ => rfl⟩
  · have hd : l.toArray.toList = l := by simp
    have hz : l.toArray.size = l.length := by simp
    have ho' : w.ownsRow B 54 2 (.slice (some ⟨b, 0, none⟩) l.length cap) l.length (l.toArray.toList.flatMap encC) := by rw [hd]; exact ho
    have hlt := heap_lt h3
    have hc := sorted_call encC encC_len encC_one cfC swoC g #[] b 0 cap l.toArray w eg (fun m os dk _ x y => hcmp x y _) (holds_of_own hz ho') hlt (by omega)
    rw [hz] at hc
    refine hc.mono ?_
    rintro e w' ⟨rfl, d', hd', hw⟩
    rw [hd] at hd'
    have hz' : d'.size = l.length := by rw [← Array.length_toList, hd']; simp [sortedBy]
    obtain ⟨k1, k2⟩ := sorted_row hz hz' ho' hw
    rw [hd'] at k1
    have hlen : (sortedBy (ltOf cfC) l).length = l.length := by simp [sortedBy]
    refine ⟨rfl, ⟨by rw [hlen]; exact k1, fun c hc => ?_⟩, k2⟩
    have hcl : c ∈ l := by unfold sortedBy at hc; exact List.mem_mergeSort.1 hc
    have hsy := hs c hcl
    refine World.ownsRow.kept hsy k2 (.inr ?_)
    intro e
    have := own_ne hsy h3 (by decide)
    exact this e
end Go.Proofs.Ythgidcfgelpkhaa
