/- Lists of whole numbers: compared, cloned; the order of links. -/
import Derived.Test.YtdeeeechdlcdbaaGreatLkN
import Derived.Shelf.SlicesE.Clone
import Derived.Deep.QuietTactic
import Derived.Deep.LoopGhost
import Derived.BigQuiet
set_option linter.unusedVariables false
set_option linter.unusedSimpArgs false
namespace Go.Proofs.YtdeeeechdlcdbaaGreat.LkS
open Go Go.RowKit Go.Proofs Go.Proofs.YtdeeeechdlcdbaaGreat Go.Proofs.YtdeeeechdlcdbaaGreat.Base Go.Proofs.YtdeeeechdlcdbaaGreat.DiA Go.Proofs.YtdeeeechdlcdbaaGreat.DiC Go.Proofs.YtdeeeechdlcdbaaGreat.TrP Go.Proofs.YtdeeeechdlcdbaaGreat.TrM Go.Proofs.YtdeeeechdlcdbaaGreat.TrA Go.Proofs.YtdeeeechdlcdbaaGreat.TrD Go.Proofs.YtdeeeechdlcdbaaGreat.TrE Go.Proofs.YtdeeeechdlcdbaaGreat.TtP Go.Proofs.YtdeeeechdlcdbaaGreat.TcP Go.Proofs.YtdeeeechdlcdbaaGreat.LkA Go.Proofs.YtdeeeechdlcdbaaGreat.LkP Go.Proofs.YtdeeeechdlcdbaaGreat.LkM Go.Proofs.YtdeeeechdlcdbaaGreat.LkO Go.Proofs.YtdeeeechdlcdbaaGreat.LkQ Go.Proofs.YtdeeeechdlcdbaaGreat.LkN
/-- A slice of numbers, as a list. -/
def At (w : World) (A : Option Addr) (xs : List Int) : Prop := 0 < xs.length → ∃ b off, A = some ⟨b, off, none⟩ ∧ b < w.heap.size ∧ ∀ j, j < xs.length → w.cell? ⟨b, off + j, none⟩ = some (.int .i64 (xs.getD j 0))
theorem At.below {w w' : World} {A : Option Addr} {xs : List Int} (h : At w A xs) (hb : Below w.heap.size w w') : At w' A xs := by
  intro hn
  obtain ⟨b, off, hA, hlt, hc⟩ := h hn
  exact ⟨b, off, hA, Nat.lt_of_lt_of_le hlt hb.size, fun j hj => pw_cell_below hb (hc j hj)⟩
theorem row_at {w : World} {B n : Nat} {v : Value} {xs : List Int} (h : w.ownsRow B 3 1 v n (xs.map (Value.int .i64))) : xs.length = n ∧ ∃ V cp, v = .slice V n cp ∧ At w V xs := by
  have hl : xs.length = n := by have := h.1; simpa using this
  obtain ⟨V, cp, hv, hc⟩ := own_form h
  refine ⟨hl, V, cp, hv, fun hn => ?_⟩
  obtain ⟨g, hV, hg, hcell⟩ := hc (by omega)
  refine ⟨g, 0, hV, hg, fun j hj => ?_⟩
  rw [Nat.zero_add]
  refine hcell j _ ?_
  rw [List.getElem?_map, List.getElem?_eq_getElem hj, List.getD_eq_getElem?_getD, List.getElem?_eq_getElem hj]; rfl
def toI (L : List Nat) : List Int := L.map fun (x : Nat) => (x : Int)
theorem toI_map (L : List Nat) : L.map encN = (toI L).map (Value.int .i64) := by unfold toI; rw [List.map_map]; rfl
theorem same_aux {xs ys : List Int} (h : xs.length = ys.length) (hj : ∀ j, j < xs.length → xs.getD j 0 = ys.getD j 0) : xs = ys := by
  apply List.ext_getElem h
  intro i h1 h2
  have := hj i h1
  rw [List.getD_eq_getElem?_getD, List.getElem?_eq_getElem h1, List.getD_eq_getElem?_getD, List.getElem?_eq_getElem h2] at this
  exact this
set_option maxHeartbeats 2000000 in
set_option maxRecDepth 100000 in
theorem same_call (A V : Option Addr) (n1 n2 c1 c2 : Nat) (xs ys : List Int) (w : World) (h1 : n1 = xs.length) (h2 : n2 = ys.length) (ha : At w A xs) (hv : At w V ys) (hle : n1 ≤ 4611686018427387904) (hle2 : n2 ≤ 4611686018427387904) :
    Calls Tryz.prog 18 #[.slice A n1 c1, .slice V n2 c2] w fun e w' => e = .returned (.bool (decide (xs = ys))) ∧ RowKit.Below w.heap.size w w' := by
  have mixed : Tryz.prog.follows .mixedOrders = true := by kernel_rfl
  have H1 : Hid (n1 = xs.length) := h1
  have H2 : Hid (n2 = ys.length) := h2
  by_cases hnn : n1 = n2
  · subst hnn
    have hd : ((n1 : Int) != (n1 : Int)) = false := by simp
    clear h1 h2
    go_enter Tryz.func18, Tryz.ntmps18
    go_wp2
    go_loopg [5] n1 (fun kx s5 wr => ∃ (k : Nat), k ≤ n1 ∧ n1 - k ≤ kx ∧ s5 = .int .i64 k ∧ Hid (∀ j, j < k → xs.getD j 0 = ys.getD j 0) ∧ RowKit.Below w.heap.size w wr)
    case atStart => exact ⟨0, Nat.zero_le _, Nat.le_refl _, rfl, (fun j hj => absurd hj (Nat.not_lt_zero _) : ∀ j, j < 0 → xs.getD j 0 = ys.getD j 0), Below.refl _ _⟩
    case round =>
      obtain ⟨k, hk, hkx, rfl, HE, bel⟩ := hrel
      by_cases hlt : k < n1
      · have hltz : (k : Int) < (n1 : Int) := by omega
        have q1 := H1.out
        have q2 := H2.out
        obtain ⟨ba, oa, rfl, _, ca⟩ := ha (by omega)
        obtain ⟨bv, ov, rfl, _, cv⟩ := hv (by omega)
        have l1 := pw_cell_below bel (ca k (by omega))
        have l2 := pw_cell_below bel (cv k (by omega))
        have hne : xs.getD k 0 ≠ ys.getD k 0 → xs ≠ ys := fun h e => h (by rw [e])
        have hnx : xs.getD k 0 = ys.getD k 0 → ∀ j, j < k + 1 → xs.getD j 0 = ys.getD j 0 := fun h j hj => by
          by_cases e : j = k
          · rw [e]; exact h
          · exact HE.out j (by omega)
        generalize xs.getD k 0 = X at l1 hne hnx
        generalize ys.getD k 0 = Z at l2 hne hnx
        have zk : IntKind.i64.wrap ((k : Int) + 1) = (k : Int) + 1 := by rw [IntKind.wrap_i64]; omega
        by_cases hXZ : X = Z
        · subst hXZ
          have HN : Hid _ := hnx rfl
          have hdx : (X != X) = false := by simp
          clear ca cv ha hv hne hnx q1 q2 HE
          go_wp2_with fail
          go_quiet (fail)
          have bel2 : RowKit.Below w.heap.size w _ := drewN_below (n := nq) bel
          clear bel
          go_wp2
          go_roundg (n1 - (k + 1))
          case measure => omega
          case rel => exact ⟨k + 1, hlt, Nat.le_refl _, rfl, HN, bel2⟩
        · have hfin : Hid (decide (xs = ys) = false) := decide_eq_false (hne hXZ)
          have hdx : (X != Z) = true := by simp [hXZ]
          clear ca cv ha hv hne hnx q1 q2 HE
          go_wp2_with fail
          go_quiet (fail)
          have bel2 : RowKit.Below w.heap.size w _ := drewN_below (n := nq) bel
          clear bel
          go_wp2
          go_ret
          exact ⟨by rw [hfin.out]; rfl, bel2⟩
      · have hltz : ¬ (k : Int) < (n1 : Int) := by omega
        obtain rfl : k = n1 := by omega
        have hfin : Hid (decide (xs = ys) = true) := decide_eq_true (same_aux (by rw [← H1.out, ← H2.out]) (fun j hj => HE.out j (by rw [H1.out]; exact hj)))
        clear HE ha hv
        go_wp2
        go_ret
        exact ⟨by rw [hfin.out]; rfl, bel⟩
  · have hd : ((n1 : Int) != (n2 : Int)) = true := by simp; omega
    have hfin : Hid (decide (xs = ys) = false) := decide_eq_false (fun e => hnn (by rw [h1, h2, e]))
    clear ha hv h1 h2
    go_enter Tryz.func18, Tryz.ntmps18
    go_wp2
    go_ret
    exact ⟨by rw [hfin.out]; rfl, Below.refl _ _⟩
def laysClone_ren : Go.Shelf.Ren := ⟨fun | 41 => 52 | n => n, fun | 22 => 31 | 23 => 3 | 4 => 4 | n => n, fun | n => n⟩
theorem laysClone : Go.Proofs.SlLaysE0.n41 Tryz.prog laysClone_ren := {
  mixed := by kernel_rfl
  f41 := ⟨Tryz.f52.name, by decide, Tryz.func52.trans (congrArg some (by kernel_rfl))⟩
  t4 := Tryz.underlying4
  a4 := Tryz.isAgg4
  z4 := Tryz.sizeOf4
  v4 := Tryz.zeroValue4
  t22 := Tryz.underlying31
  a22 := Tryz.isAgg31
  z22 := Tryz.sizeOf31
  v22 := Tryz.zeroValue31 }
theorem clone_call {B n : Nat} {v : Value} {xs : List Int} {w : World} (h : w.ownsRow B 3 1 v n (xs.map (Value.int .i64))) (hbig : n ≤ 1000000) :
    Calls Tryz.prog 52 #[v] w fun e w' => ∃ v', e = .returned v' ∧ w'.ownsRow w.heap.size 3 1 v' n (xs.map (Value.int .i64)) ∧ Below w.heap.size w w' := by
  obtain ⟨i0, hi, hz0, hz1, hz2⟩ := info_parts info3
  rcases h.2 with ⟨rfl, h0⟩ | ⟨g, cap, cur, rfl, h2, h3, h4, h5, h6, h7⟩
  · refine (AnyE.slices_Clone_nil laysClone 0 0 w).mono ?_
    rintro e w' ⟨rfl, rfl⟩
    subst h0
    have : xs = [] := List.eq_nil_of_length_eq_zero (by have := h.1; simpa using this)
    subst this
    exact ⟨_, rfl, World.ownsRow_nil _ _ _ _, Below.refl _ _⟩
  · have hcs := World.ownsRow.cells (g := g) h rfl
    refine (AnyE.slices_Clone laysClone i0 (.int .i64 0) 1 8 hi hz0 hz1 hz2 rfl (by decide) Tryz.sizeOf3 g 0 n cap (xs.map (Value.int .i64)) w h.1 (by unfold maxLen; omega) (by omega) ?_ ?_).mono ?_
    · intro j u hj
      have := hcs j u hj
      rw [Addr.add_lit] at this
      exact this
    · intro u hu
      obtain ⟨x, _, rfl⟩ := List.mem_map.1 hu
      rfl
    · rintro e w' ⟨v', rfl, ho, _, hb⟩
      exact ⟨v', rfl, ho, hb⟩
section
variable {B p px m : Nat} {N : List Nd} {F O L : List Nat} {w : World}
set_option maxHeartbeats 400000 in
theorem order_any (h : LkAt B w p px N m F O L) (hbig : N.length ≤ 1000000) : Calls Tryz.prog 17 #[.pointer (some ⟨p, 0, none⟩)] w fun e w' => ∃ v, e = .returned v ∧ w'.ownsRow w.heap.size 3 1 v N.length ((toI L).map (Value.int .i64)) ∧ Below w.heap.size w w' := by
  obtain ⟨h1, vf, vo, vl, h2, h3, h4, h5⟩ := h
  rw [toI_map] at h5
  have c0 : w.cell? ⟨p, 3, none⟩ = some vl := cell_of h2 rfl
  have hc := clone_call h5 hbig
  clear h1 h2 h3 h4 h5
  go_enter Tryz.func17, Tryz.ntmps17
  go_wp2_with fail
  refine hc.mono ?_
  rintro e w1 ⟨v, rfl, hr, hb⟩
  clear hc
  obtain ⟨V, cp, rfl, _⟩ := own_form hr
  go_wp2_with fail
  go_ret
  exact ⟨_, rfl, hr, hb⟩
theorem order_nil (w : World) : Calls Tryz.prog 17 #[.pointer none] w fun e w' => e = .returned (.slice none 0 0) ∧ w' = w := by
  go_enter Tryz.func17, Tryz.ntmps17
  go_wp2_with fail
  go_ret
  exact ⟨rfl, rfl⟩
end
end Go.Proofs.YtdeeeechdlcdbaaGreat.LkS
