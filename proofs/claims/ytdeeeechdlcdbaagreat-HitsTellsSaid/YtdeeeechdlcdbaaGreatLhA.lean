/- Hits that are lent with room behind them, in which a mark stands: the walks of copyHits, LentHits and StaysHits. -/
import Derived.Test.YtdeeeechdlcdbaaGreatScA
import Derived.Test.YtdeeeechdlcdbaaGreatScE
import Derived.Test.YtdeeeechdlcdbaaGreatKeep
import Derived.IntWalk
set_option linter.unusedVariables false
set_option linter.unusedSimpArgs false
namespace Go.Proofs.YtdeeeechdlcdbaaGreat.LhA
open Go Go.RowKit Go.Lib Go.Sort Go.Proofs Go.Proofs.YtdeeeechdlcdbaaGreat Go.Proofs.YtdeeeechdlcdbaaGreat.Base Go.Proofs.YtdeeeechdlcdbaaGreat.DiA Go.Proofs.YtdeeeechdlcdbaaGreat.ScF Go.Proofs.YtdeeeechdlcdbaaGreat.ScH Go.Proofs.YtdeeeechdlcdbaaGreat.ScE Go.Proofs.YtdeeeechdlcdbaaGreat.ScA Go.Proofs.YtdeeeechdlcdbaaGreat.TrE
theorem own_cap {w : World} {B e size n : Nat} {v : Value} {xs : List Value} (h : w.ownsRow B e size v n xs) : ∃ V cp, v = .slice V n cp ∧ n ≤ cp := by
  rcases h.2 with ⟨rfl, rfl⟩ | ⟨g, cap, cur, rfl, _, _, h4, _⟩
  · exact ⟨none, 0, rfl, Nat.le_refl _⟩
  · exact ⟨_, cap, rfl, h4⟩
set_option maxRecDepth 20000 in
theorem copy_call {B k : Nat} {v : Value} {H : List (Nat × Nat)} (w : World) (hr : w.ownsRow B 93 2 v k (hitC H)) (hk : k = H.length) (hbig : k ≤ 100000) :
    Calls Tryz.prog 75 #[v] w fun e w' => ∃ V cp, e = .returned (.slice V k cp) ∧ w'.ownsRow w.heap.size 93 2 (.slice V k cp) k (hitC H) ∧ Below w.heap.size w w' := by
  obtain ⟨V0, c0, rfl, _⟩ := own_form hr
  have hkh : Hid (k = H.length) := hk
  have hk2 : Hid (k = ([] ++ H).length) := by show _ = _; rw [List.nil_append]; exact hk
  clear hk
  go_enter Tryz.func75, Tryz.ntmps75
  go_wp2_with (first | (at_builtin; refine wp_app rfl (.const (.slice none 0 0)) (.tmp 3) rfl w.heap.size 0 k _ [] rfl (World.ownsRow_nil _ _ _ _) rfl B k _ H ([] ++ H) rfl hr hkh.out rfl hk2.out (by omega) (Nat.le_refl _) ?_))
  intro V cp w1 h1 hg _
  have bel : Below w.heap.size w w1 := (Below.refl _ _).grown hg (Nat.le_refl _) (fun k hk => by cases hk)
  clear hg hr
  go_wp2
  go_ret
  exact ⟨V, cp, rfl, h1, bel⟩
/-- Hits, lent: a list whose memory goes on behind it, with a mark. -/
def Lent (B : Nat) (w : World) (v : Value) (k : Nat) (H : List (Nat × Nat)) : Prop := ∃ g cp, v = .slice (some ⟨g, 0, none⟩) k cp ∧ w.ownsRow B 93 2 (.slice (some ⟨g, 0, none⟩) (k + 1) cp) (k + 1) (hitC H ++ [.int .i64 (-77), .int .i64 0])
set_option maxRecDepth 20000 in
theorem lent_call {B k : Nat} {v : Value} {H : List (Nat × Nat)} (w : World) (hr : w.ownsRow B 93 2 v k (hitC H)) (hk : k = H.length) (hbig : k ≤ 100000) :
    Calls Tryz.prog 43 #[v] w fun e w' => ∃ v', e = .returned v' ∧ Lent w.heap.size w' v' k H ∧ Below w.heap.size w w' := by
  obtain ⟨i0, hi, hz0, hz1, hz2⟩ := info_parts info35
  have cC := copy_call w hr hk hbig
  obtain ⟨V0, c0, rfl, _⟩ := own_form hr
  clear hk hr
  go_enter Tryz.func43, Tryz.ntmps43
  go_wp2_with fail
  refine cC.mono ?_
  rintro e w1 ⟨V, cp, rfl, h1, b1⟩
  clear cC
  have own7 := h1.alloc (.cells #[.int .i64 (-77), .int .i64 0] 93)
  have b7 : Below w.heap.size w (w1.alloc (.cells #[.int .i64 (-77), .int .i64 0] 93)) := b1.trans ((balloc (Below.refl _ _) _).mono b1.size)
  have hh3 := heap_new w1 (.cells #[.int .i64 (-77), .int .i64 0] 93)
  have hs7 := b7.size
  clear h1
  go_wp2_with (first | (at_builtin; refine wpList_append_own _ rfl (.tmp 4) (.tmp 6) 52 rfl w.heap.size 93 i0 _ 2 16 Tryz.underlying52 hi hz0 hz1 hz2 rfl (by decide) _ k (hitC H) rfl own7 ⟨w1.heap.size, 0, none⟩ 1 1 [.int .i64 (-77), .int .i64 0] rfl rfl ?k1 ?k2 ?k3 ?k4 ?k5 ?_))
  case k1 => intro j u hj; rw [Addr.add_lit, Nat.zero_add]; exact cell_of hh3 (by simpa using hj)
  case k2 => intro u hu; simp at hu; rcases hu with rfl | rfl <;> rfl
  case k3 => unfold maxLen; omega
  case k4 => omega
  case k5 => omega
  intro v8 w8 own8 hg8 _
  have b8 := b7.grown hg8 b7.size (fun q hq => own_ge own7 q hq)
  obtain ⟨V8, c8, rfl, hc8⟩ := own_cap own8
  obtain ⟨g, rfl⟩ : ∃ g, V8 = some ⟨g, 0, none⟩ := by
    rcases own8.2 with ⟨h, _⟩ | ⟨g, cap, cur, h, _⟩
    · injection h with _ h _; cases h
    · injection h with h _ _; exact ⟨g, h⟩
  have q1 : (0 : Int) ≤ (k : Int) := by omega
  have q2 : (k : Int) ≤ (c8 : Int) := by omega
  have hc0 : ¬ (c8 = 0) := by omega
  clear own7 hg8 b7 hh3 hs7 hz0 hz1 hz2 hi
  go_wp2
  go_ret
  exact ⟨_, rfl, ⟨g, c8, rfl, own8⟩, b8⟩
/-- What lies there. -/
theorem lent_parts {B k : Nat} {w : World} {v : Value} {H : List (Nat × Nat)} (hl : Lent B w v k H) (hk : k = H.length) : ∃ g cp, v = .slice (some ⟨g, 0, none⟩) k cp ∧ HAt w (some ⟨g, 0, none⟩) H ∧ (∀ j u, (hitC H)[j]? = some u → w.cell? ⟨g, j, none⟩ = some u) ∧ w.cell? ⟨g, k * 2, none⟩ = some (.int .i64 (-77)) ∧ k + 1 ≤ cp := by
  obtain ⟨g, cp, rfl, hrow⟩ := hl
  have hcells : ∀ j u, (hitC H ++ [.int .i64 (-77), .int .i64 0] : List Value)[j]? = some u → w.cell? ⟨g, j, none⟩ = some u := by
    obtain ⟨_, _, e, hc⟩ := own_form hrow
    obtain ⟨g', e2, _, hc⟩ := hc (Nat.succ_pos k)
    injection e with e1 _ _
    rw [← e1] at e2
    injection e2 with e2
    injection e2 with e2 _ _
    subst e2
    exact hc
  have hath : HAt w (some ⟨g, 0, none⟩) H := by
    intro hn
    refine ⟨g, 0, rfl, own_lt hrow g rfl, fun j hj => ?_⟩
    have hk2 : H[j]? = some (H.getD j (0, 0)) := by rw [List.getD_eq_getElem?_getD, List.getElem?_eq_getElem hj]; rfl
    have f0 := flat2 H j 0 _ _ hk2 rfl
    have f1 := flat2 H j 1 _ _ hk2 rfl
    rw [Nat.add_zero] at f0
    rw [Nat.zero_add]
    exact ⟨hcells _ _ (by rw [List.getElem?_append_left (List.getElem?_eq_some_iff.1 f0).1]; exact f0), hcells _ _ (by rw [List.getElem?_append_left (List.getElem?_eq_some_iff.1 f1).1]; exact f1)⟩
  have hend : w.cell? ⟨g, k * 2, none⟩ = some (.int .i64 (-77)) := hcells _ _ (by
    rw [List.getElem?_append_right (by rw [hitC_len]; omega), hitC_len, show k * 2 - H.length * 2 = 0 by omega]; rfl)
  have hcp : k + 1 ≤ cp := by
    obtain ⟨_, _, e, h⟩ := own_cap hrow
    injection e with _ _ e; omega
  exact ⟨g, cp, rfl, hath, fun j u hj => hcells j u (by rw [List.getElem?_append_left (List.getElem?_eq_some_iff.1 hj).1]; exact hj), hend, hcp⟩
theorem Lent.below {B k : Nat} {w w' : World} {v : Value} {H : List (Nat × Nat)} (h : Lent B w v k H) (hb : Below w.heap.size w w') : Lent B w' v k H := by
  obtain ⟨g, cp, e, hr⟩ := h
  exact ⟨g, cp, e, own_below hr hb⟩
set_option maxRecDepth 20000 in
set_option maxHeartbeats 1000000 in
theorem stays_call {B B2 k : Nat} {v u : Value} {H : List (Nat × Nat)} (w : World) (hl : Lent B w v k H) (hu : w.ownsRow B2 93 2 u k (hitC H)) (hk : k = H.length) (hbig : k ≤ 100000) :
    Calls Tryz.prog 46 #[v, u] w fun e w' => e = .returned (.bool true) ∧ Below w.heap.size w w' := by
  obtain ⟨g, cp, rfl, hath, -, hend, hcp⟩ := lent_parts hl hk
  obtain ⟨U, cu, rfl, hatu⟩ := row_hits hu hk
  have cS := same_hits (some ⟨g, 0, none⟩) U k k cp cu H H w hk hk hath hatu (by omega) (by omega)
  rw [decide_eq_true (show H = H from rfl)] at cS
  obtain ⟨k1, hk1⟩ : ∃ k1, k + 1 = k1 := ⟨_, rfl⟩
  have zk : IntKind.i64.wrap ((k : Int) + 1) = (k1 : Int) := by rw [IntKind.wrap_i64]; omega
  have q1 : (0 : Int) ≤ (k1 : Int) := by omega
  have q2 : (k1 : Int) ≤ (cp : Int) := by omega
  have q3 : (k : Int) < (k1 : Int) := by omega
  have q4 : k < k1 := by omega
  have q5 : ¬ (cp = 0) := by omega
  clear hk1 hcp
  clear hath hatu hu hl hk
  go_enter Tryz.func46, Tryz.ntmps46
  go_wp2_with fail
  refine cS.mono ?_
  rintro e w1 ⟨rfl, b1⟩
  have hend1 := pw_cell_below b1 hend
  go_wp2
  go_ret
  exact ⟨rfl, b1⟩
end Go.Proofs.YtdeeeechdlcdbaaGreat.LhA
