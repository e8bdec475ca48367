/- Hits compared: two of them, and lists of them. The equality of structs began as print.sh's own print (of another seat). -/
import Derived.Test.YtdeeeechdlcdbaaGreatScF
import Derived.Laws.StructEq
import Derived.Deep.QuietTactic
import Derived.Deep.LoopGhost
import Derived.BigQuiet
set_option linter.unusedSimpArgs false
set_option linter.unusedVariables false
namespace Go.Proofs.YtdeeeechdlcdbaaGreat.ScE
open Go Go.RowKit Go.Proofs Go.Proofs.YtdeeeechdlcdbaaGreat.Base Go.Proofs.YtdeeeechdlcdbaaGreat.TcP Go.Proofs.YtdeeeechdlcdbaaGreat.ScF
section
variable {P : Program} {d : Nat} {xs ys : Array Value} {f : Field} {fs : List Field} {a b : Value} {r s : Bool} {w : World}
theorem eqf_last (hn : (f.name == "_") = false) (ha : (part f.type xs f.offset).run P w = .ok a w) (hb : (part f.type ys f.offset).run P w = .ok b w) (he : (Op.equalIn d f.type a b).run P w = .ok r w) : (Op.eqFields d xs ys [f]).run P w = .ok r w := by
  have hn' : f.name ≠ "_" := by simpa using hn
  simp only [Op.eqFields, if_pos hn', Sem.run_bind, ha, hb, he, Result.andThen_ok]
  cases r <;> simp
theorem eqf_cons (hn : (f.name == "_") = false) (ha : (part f.type xs f.offset).run P w = .ok a w) (hb : (part f.type ys f.offset).run P w = .ok b w) (he : (Op.equalIn d f.type a b).run P w = .ok r w) (hr : (Op.eqFields d xs ys fs).run P w = .ok s w) : (Op.eqFields d xs ys (f :: fs)).run P w = .ok (r && s) w := by
  have hn' : f.name ≠ "_" := by simpa using hn
  rw [Op.eqFields]
  simp only [if_pos hn', Sem.run_bind, ha, hb, he, Result.andThen_ok]
  cases r
  · simp
  · simpa using hr
theorem eqA_of {t : TypeId} {fs : Array Field} (hu : P.underlying t = some (.struct fs)) (hp : P.stoodInHeld t = false) (h : (Op.eqFields d xs ys fs.toList).run P w = .ok r w) : (Op.equalIn (d + 1) t (.agg xs) (.agg ys)).run P w = .ok r w := by
  have hf : P.fieldsOf t = fs := by simp [Program.fieldsOf, hu]
  rw [run_equalIn_struct (P := P) w d t xs ys (by rw [hf]; exact hu) hp, hf]
  exact h
end
theorem eqA35 (d : Nat) (w : World) (x0 y0 x1 y1 : Int) :
    (Op.equalIn (d + 2) 93 (.agg #[.int .i64 x0, .int .i64 x1]) (.agg #[.int .i64 y0, .int .i64 y1])).run Tryz.prog w = .ok (x0 == y0 && (x1 == y1)) w := by
  refine eqA_of Tryz.underlying93 (by kernel_rfl) ?_
  refine eqf_cons (by rfl) (by go_simp; rfl) (by go_simp; rfl) (by go_simp) ?_
  exact eqf_last (by rfl) (by go_simp; rfl) (by go_simp; rfl) (by go_simp)
theorem neq35 (x0 y0 x1 y1 : Int) (w : World) : (binOp .neq 93 (.agg #[.int .i64 x0, .int .i64 x1]) (.agg #[.int .i64 y0, .int .i64 y1])).run Tryz.prog w = .ok (.bool (!(x0 == y0 && (x1 == y1)))) w := by
  rw [run_neq_struct, eqA35 9998]
  rfl
/-- A slice of hits, as a list. -/
def HAt (w : World) (A : Option Addr) (H : List (Nat × Nat)) : Prop := 0 < H.length → ∃ b off, A = some ⟨b, off, none⟩ ∧ b < w.heap.size ∧ ∀ j, j < H.length → w.cell? ⟨b, off + j * 2, none⟩ = some (.int .i64 ((H.getD j (0, 0)).1 : Int)) ∧ w.cell? ⟨b, off + j * 2 + 1, none⟩ = some (.int .i64 ((H.getD j (0, 0)).2 : Int))
theorem HAt.below {w w' : World} {A : Option Addr} {H : List (Nat × Nat)} (h : HAt w A H) (hb : Below w.heap.size w w') : HAt w' A H := by
  intro hn
  obtain ⟨b, off, hA, hlt, hc⟩ := h hn
  exact ⟨b, off, hA, Nat.lt_of_lt_of_le hlt hb.size, fun j hj => ⟨pw_cell_below hb (hc j hj).1, pw_cell_below hb (hc j hj).2⟩⟩
theorem flat2 : ∀ (l : List (Nat × Nat)) (k i : Nat) (nd : Nat × Nat) (u : Value), l[k]? = some nd → ([.int .i64 (nd.1 : Int), .int .i64 (nd.2 : Int)] : List Value)[i]? = some u → (hitC l)[k * 2 + i]? = some u
  | [], k, i, nd, u, h, _ => by simp at h
  | f :: l, 0, i, nd, u, h, hu => by
    simp at h; subst h
    have h4 : i < 2 := (List.getElem?_eq_some_iff.1 hu).1
    unfold hitC
    rw [List.flatMap_cons, Nat.zero_mul, Nat.zero_add, List.getElem?_append_left (by simpa using h4)]
    exact hu
  | f :: l, k + 1, i, nd, u, h, hu => by
    unfold hitC
    rw [List.flatMap_cons, List.getElem?_append_right (by simp; omega)]
    have := flat2 l k i nd u (by simpa using h) hu
    unfold hitC at this
    rw [← this]
    congr 1
    simp
    omega
theorem row_hits {w : World} {B n : Nat} {v : Value} {H : List (Nat × Nat)} (h : w.ownsRow B 93 2 v n (hitC H)) (hn : n = H.length) : ∃ V cp, v = .slice V n cp ∧ HAt w V H := by
  obtain ⟨V, cp, hv, hc⟩ := own_form h
  refine ⟨V, cp, hv, fun h0 => ?_⟩
  obtain ⟨g, hV, hg, hcell⟩ := hc (by omega)
  refine ⟨g, 0, hV, hg, fun j hj => ?_⟩
  have hj2 : H[j]? = some (H.getD j (0, 0)) := by rw [List.getD_eq_getElem?_getD, List.getElem?_eq_getElem hj]; rfl
  rw [Nat.zero_add]
  exact ⟨hcell _ _ (flat2 H j 0 _ _ hj2 rfl), hcell _ _ (flat2 H j 1 _ _ hj2 rfl)⟩
theorem sameH_aux {xs ys : List (Nat × Nat)} (h : xs.length = ys.length) (hj : ∀ j, j < xs.length → xs.getD j (0, 0) = ys.getD j (0, 0)) : xs = ys := by
  apply List.ext_getElem h
  intro i h1 h2
  have := hj i h1
  rw [List.getD_eq_getElem?_getD, List.getElem?_eq_getElem h1, List.getD_eq_getElem?_getD, List.getElem?_eq_getElem h2] at this
  exact this
set_option maxHeartbeats 2000000 in
set_option maxRecDepth 100000 in
theorem same_hits (A V : Option Addr) (n1 n2 c1 c2 : Nat) (xs ys : List (Nat × Nat)) (w : World) (h1 : n1 = xs.length) (h2 : n2 = ys.length) (ha : HAt w A xs) (hv : HAt w V ys) (hle : n1 ≤ 100000000) (hle2 : n2 ≤ 100000000) :
    Calls Tryz.prog 26 #[.slice A n1 c1, .slice V n2 c2] w fun e w' => e = .returned (.bool (decide (xs = ys))) ∧ RowKit.Below w.heap.size w w' := by
  have mixed : Tryz.prog.follows .mixedOrders = true := by kernel_rfl
  have H1 : Hid (n1 = xs.length) := h1
  have H2 : Hid (n2 = ys.length) := h2
  by_cases hnn : n1 = n2
  · subst hnn
    have hd : ((n1 : Int) != (n1 : Int)) = false := by simp
    clear h1 h2
    go_enter Tryz.func26, Tryz.ntmps26
    go_wp2
    go_loopg [5] n1 (fun kx s5 wr => ∃ (k : Nat), k ≤ n1 ∧ n1 - k ≤ kx ∧ s5 = .int .i64 k ∧ Hid (∀ j, j < k → xs.getD j (0, 0) = ys.getD j (0, 0)) ∧ RowKit.Below w.heap.size w wr)
    case atStart => exact ⟨0, Nat.zero_le _, Nat.le_refl _, rfl, (fun j hj => absurd hj (Nat.not_lt_zero _) : ∀ j, j < 0 → xs.getD j (0, 0) = ys.getD j (0, 0)), Below.refl _ _⟩
    case round =>
      obtain ⟨k, hk, hkx, rfl, HE, bel⟩ := hrel
      by_cases hlt : k < n1
      · have hltz : (k : Int) < (n1 : Int) := by omega
        have q1 := H1.out
        have q2 := H2.out
        obtain ⟨ba, oa, rfl, _, ca⟩ := ha (by omega)
        obtain ⟨bv, ov, rfl, _, cv⟩ := hv (by omega)
        have l1 := pw_cell_below bel (ca k (by omega)).1
        have l1' := pw_cell_below bel (ca k (by omega)).2
        have l2 := pw_cell_below bel (cv k (by omega)).1
        have l2' := pw_cell_below bel (cv k (by omega)).2
        have hne : xs.getD k (0, 0) ≠ ys.getD k (0, 0) → xs ≠ ys := fun h e => h (by rw [e])
        have hnx : xs.getD k (0, 0) = ys.getD k (0, 0) → ∀ j, j < k + 1 → xs.getD j (0, 0) = ys.getD j (0, 0) := fun h j hj => by
          by_cases e : j = k
          · rw [e]; exact h
          · exact HE.out j (by omega)
        generalize xs.getD k (0, 0) = X at l1 l1' hne hnx
        generalize ys.getD k (0, 0) = Z at l2 l2' hne hnx
        obtain ⟨X1, X2⟩ := X
        obtain ⟨Z1, Z2⟩ := Z
        simp only at l1 l1' l2 l2'
        have zk : IntKind.i64.wrap ((k : Int) + 1) = (k : Int) + 1 := by rw [IntKind.wrap_i64]; omega
        have hq := neq35 (X1 : Int) (Z1 : Int) (X2 : Int) (Z2 : Int)
        by_cases hXZ : X1 = Z1 ∧ X2 = Z2
        · obtain ⟨rfl, rfl⟩ := hXZ
          have HN : Hid _ := hnx rfl
          have hb : (!((X1 : Int) == (X1 : Int) && ((X2 : Int) == (X2 : Int)))) = false := by simp
          rw [hb] at hq
          clear ca cv ha hv hne hnx q1 q2 HE
          go_wp2_with fail
          go_quiet (fail)
          have bel2 : RowKit.Below w.heap.size w _ := drewN_below (n := nq) bel
          clear bel
          go_wp2
          go_roundg (n1 - (k + 1))
          case measure => omega
          case rel => exact ⟨k + 1, hlt, Nat.le_refl _, rfl, HN, bel2⟩
        · have hfin : Hid (decide (xs = ys) = false) := decide_eq_false (hne (fun e => hXZ (by injection e with e1 e2; exact ⟨e1, e2⟩)))
          have hb : (!((X1 : Int) == (Z1 : Int) && ((X2 : Int) == (Z2 : Int)))) = true := by
            simp only [Bool.not_eq_true', Bool.and_eq_false_iff, beq_eq_false_iff_ne]
            omega
          rw [hb] at hq
          clear ca cv ha hv hne hnx q1 q2 HE hXZ
          go_wp2_with fail
          go_quiet (fail)
          have bel2 : RowKit.Below w.heap.size w _ := drewN_below (n := nq) bel
          clear bel
          go_wp2
          go_ret
          exact ⟨by rw [hfin.out]; rfl, bel2⟩
      · have hltz : ¬ (k : Int) < (n1 : Int) := by omega
        obtain rfl : k = n1 := by omega
        have hfin : Hid (decide (xs = ys) = true) := decide_eq_true (sameH_aux (by rw [← H1.out, ← H2.out]) (fun j hj => HE.out j (by rw [H1.out]; exact hj)))
        clear HE ha hv
        go_wp2
        go_ret
        exact ⟨by rw [hfin.out]; rfl, bel⟩
  · have hd : ((n1 : Int) != (n2 : Int)) = true := by simp; omega
    have hfin : Hid (decide (xs = ys) = false) := decide_eq_false (fun e => hnn (by rw [h1, h2, e]))
    clear ha hv h1 h2
    go_enter Tryz.func26, Tryz.ntmps26
    go_wp2
    go_ret
    exact ⟨by rw [hfin.out]; rfl, Below.refl _ _⟩
end Go.Proofs.YtdeeeechdlcdbaaGreat.ScE
