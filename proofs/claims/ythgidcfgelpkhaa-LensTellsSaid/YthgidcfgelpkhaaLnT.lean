/- The reference's answers; lists that are lent. -/
import Derived.Test.YthgidcfgelpkhaaLnR
import Derived.Test.YthgidcfgelpkhaaBkIF
import Derived.Test.YthgidcfgelpkhaaLwRef
set_option linter.unusedVariables false
set_option linter.unusedSimpArgs false
namespace Go.Proofs.Ythgidcfgelpkhaa
open Go Go.Shelf Go.RowKit Go.Lib Go.Sort Go.Proofs Go.Proofs.Ythgidcfgelpkhaa.Base
set_option maxRecDepth 100000 in
/-- The reference's lengths. -/
theorem ref_call (mo : Int) (V : Option Addr) (n cap : Nat) (zs : List Int) (w : World) (hn : n = zs.length) (hat : IntsAt w V zs) (hle : n ≤ 400) :
    Calls Try.prog 16 #[.int .i64 mo, .slice V n cap] w fun e w' => OfPost w n mo zs e w' := by
  by_cases h1 : mo < 1
  · have hE : Hid (errP mo zs = 1) := err_most (.inl h1)
    have t1 : decide (mo < 1) = true := decide_eq_true h1
    clear hn hat h1
    go_enter Try.func16, Try.ntmps16
    go_wp2
    refine bodyPost_ret (v := .tuple #[.slice none 0 0, .int .i64 1]) ?_ rfl ⟨Below.refl _ _, .inl ⟨by rw [hE.out]; decide, by rw [hE.out]; rfl⟩⟩
    simp [results, Try.results16, go_sem]
  · by_cases h2 : mo > 15
    · have hE : Hid (errP mo zs = 1) := err_most (.inr h2)
      have t1 : decide (mo < 1) = false := decide_eq_false h1
      have t2 : decide (mo > 15) = true := decide_eq_true h2
      clear hn hat h1 h2
      go_enter Try.func16, Try.ntmps16
      go_wp2
      refine bodyPost_ret (v := .tuple #[.slice none 0 0, .int .i64 1]) ?_ rfl ⟨Below.refl _ _, .inl ⟨by rw [hE.out]; decide, by rw [hE.out]; rfl⟩⟩
      simp [results, Try.results16, go_sem]
    · obtain ⟨m, rfl⟩ : ∃ m : Nat, mo = (m : Int) := ⟨mo.toNat, by omega⟩
      exact ref_fine m V n cap zs w hn hat hle (by omega)

set_option maxHeartbeats 1000000 in
theorem refKraft_call (A : Option Addr) (n c : Nat) (xs : List Int) (w : World) (h1 : n = xs.length) (ha : IntsAt w A xs) (hle : n ≤ 1000000) :
    Calls Try.prog 22 #[.slice A n c] w fun e w' => e = .returned (.int .i64 (kraftP xs)) ∧ RowKit.Below w.heap.size w w' := by
  have H1 : Hid (n = xs.length) := h1
  clear h1
  go_enter Try.func22, Try.ntmps22
  go_wp2
  go_loopg [3, 4] n (fun kx s3 s8 wr => ∃ (k : Nat) (x : Int), k ≤ n ∧ n - k ≤ kx ∧ s8 = .int .i64 k ∧ s3 = .int .i64 x ∧ Hid (x = kraftP (xs.take k)) ∧ RowKit.Below w.heap.size w wr)
  case atStart => exact ⟨0, 0, Nat.zero_le _, Nat.le_refl _, rfl, rfl, (by simp [kraftP] : (0 : Int) = kraftP (xs.take 0)), Below.refl _ _⟩
  case round =>
    obtain ⟨k, x, hk, hkx, rfl, rfl, HE, bel⟩ := hrel
    by_cases hlt : k < n
    · have hltz : (k : Int) < (n : Int) := by omega
      have q1 := H1.out
      obtain ⟨ba, oa, rfl, _, ca⟩ := ha (by omega)
      have l1 := pw_cell_below bel (ca k (by omega))
      have hT := kraftP_take (xs := xs) (k := k) (by omega)
      have hb3 := kraftP_bound (xs.take k)
      rw [List.length_take_of_le (by omega), ← HE.out] at hb3
      rw [← HE.out] at hT
      generalize xs.getD k 0 = X at l1 hT
      have hk1 := kraft1_le X
      have zk : IntKind.i64.wrap ((k : Int) + 1) = (k : Int) + 1 := by rw [IntKind.wrap_i64]; omega
      by_cases hX : 1 ≤ X
      · have d1 : decide (X ≥ 1) = true := decide_eq_true hX
        by_cases hX2 : X ≤ 15
        · have d2 : decide (X ≤ 15) = true := decide_eq_true hX2
          obtain ⟨m, rfl⟩ : ∃ m : Nat, X = (m : Int) := ⟨X.toNat, by omega⟩
          obtain ⟨t, ht⟩ : ∃ t : Nat, (15 : Int) - (m : Int) = (t : Int) := ⟨15 - m, by omega⟩
          have hkv : kraft1 (m : Int) = (2 : Int) ^ t := by
            unfold kraft1
            rw [if_pos ⟨hX, hX2⟩]
            congr 1
            omega
          have zt : IntKind.i64.wrap (15 - (m : Int)) = (t : Int) := by rw [← ht, IntKind.wrap_i64]; omega
          have zu : IntKind.u64.wrap (t : Int) = (t : Int) := by rw [IntKind.wrap_u64]; omega
          have zt0 : (0 : Int) ≤ (t : Int) := by omega
          have zt64 : (t : Int) ≤ 64 := by omega
          rw [hkv] at hT hk1
          obtain ⟨y, hy⟩ : ∃ y, (2 : Int) ^ t = y := ⟨_, rfl⟩
          rw [hy] at hT hk1
          have zp : IntKind.i64.wrap ((2 : Int) ^ t) = y := by rw [hy, IntKind.wrap_i64]; omega
          have zs : IntKind.i64.wrap (x + y) = x + y := by rw [IntKind.wrap_i64]; omega
          have HT : Hid _ := hT
          clear ca ha hT hb3 hk1 q1 ht hkv hy
          go_wp2
          go_roundg (n - (k + 1))
          case measure => omega
          case rel => exact ⟨k + 1, _, hlt, Nat.le_refl _, rfl, rfl, HT.out.symm, bel⟩
        · have d2 : decide (X ≤ 15) = false := decide_eq_false hX2
          rw [show kraft1 X = 0 from if_neg (fun h => hX2 h.2), Int.add_zero] at hT
          have HT : Hid _ := hT
          clear ca ha hT hb3 hk1 q1
          go_wp2
          go_roundg (n - (k + 1))
          case measure => omega
          case rel => exact ⟨k + 1, _, hlt, Nat.le_refl _, rfl, rfl, HT.out.symm, bel⟩
      · have d1 : decide (X ≥ 1) = false := decide_eq_false hX
        rw [show kraft1 X = 0 from if_neg (fun h => hX h.1), Int.add_zero] at hT
        have HT : Hid _ := hT
        clear ca ha hT hb3 hk1 q1
        go_wp2
        go_roundg (n - (k + 1))
        case measure => omega
        case rel => exact ⟨k + 1, _, hlt, Nat.le_refl _, rfl, rfl, HT.out.symm, bel⟩
    · have hltz : ¬ (k : Int) < (n : Int) := by omega
      obtain rfl : k = n := by omega
      have hfin : Hid (x = kraftP xs) := by show _ = _; rw [HE.out, H1.out, List.take_length]
      clear HE ha
      go_wp2
      go_ret
      exact ⟨by rw [← hfin.out]; rfl, bel⟩
/-- A list with a mark behind it. -/
def LentAt (w : World) (A : Option Addr) (c : Nat) (zs : List Int) : Prop := zs.length < c ∧ ∃ b, A = some ⟨b, 0, none⟩ ∧ b < w.heap.size ∧ (∀ j, j < zs.length → w.cell? ⟨b, j, none⟩ = some (.int .i64 (zs.getD j 0))) ∧ w.cell? ⟨b, zs.length, none⟩ = some (.int .i64 (-77))
theorem LentAt.below {w w' : World} {A : Option Addr} {c : Nat} {zs : List Int} (h : LentAt w A c zs) (hb : RowKit.Below w.heap.size w w') : LentAt w' A c zs := by
  obtain ⟨h0, b, rfl, h1, h2, h3⟩ := h
  exact ⟨h0, b, rfl, Nat.lt_of_lt_of_le h1 hb.size, fun j hj => pw_cell_below hb (h2 j hj), pw_cell_below hb h3⟩
theorem LentAt.ints {w : World} {A : Option Addr} {c : Nat} {zs : List Int} (h : LentAt w A c zs) : IntsAt w A zs := by
  obtain ⟨h0, b, rfl, h1, h2, h3⟩ := h
  intro _
  exact ⟨b, 0, rfl, h1, fun j hj => by rw [Nat.zero_add]; exact h2 j hj⟩
set_option maxHeartbeats 1000000 in
set_option maxRecDepth 100000 in
theorem lent_call (A : Option Addr) (n c : Nat) (zs : List Int) (w : World) (hn : n = zs.length) (hat : IntsAt w A zs) (hle : n ≤ 1000) :
    Calls Try.prog 14 #[.slice A n c] w fun e w' => ∃ V cv, e = .returned (.slice V n cv) ∧ BkInts.Row w.heap.size w' (.slice V (n + 1) cv, zs ++ [-77]) ∧ RowKit.Below w.heap.size w w' := by
  obtain ⟨i3, hi3, hy0, hy1, hy2⟩ := info_parts info3
  have HN : Hid (n = zs.length) := hn
  have hcp := BkInts.copy_call A n c zs w hn hat (by omega)
  clear hn hat
  go_enter Try.func14, Try.ntmps14
  go_wp2_with fail
  refine hcp.mono ?_
  clear hcp
  rintro e w1 ⟨v, rfl, hr, b1⟩
  obtain ⟨Av, cv, rfl, -⟩ := BkInts.row_form hr
  have hr' : w1.ownsRow w.heap.size 3 1 (.slice Av zs.length cv) n (zs.map (Value.int .i64)) := by have h := hr; unfold BkInts.Row at h; rw [HN.out]; exact h
  rw [← HN.out] at hr' ⊢
  have ho := hr'.alloc (.cells #[.int .i64 (-77)] 3)
  have b2 := balloc b1 (.cells #[.int .i64 (-77)] 3)
  have hh := heap_new w1 (.cells #[.int .i64 (-77)] 3)
  have hsz := b2.size
  clear hr hr' b1
  go_wp2_with (first | (at_builtin; refine wpList_append_own _ rfl (.tmp 4) (.tmp 5) 22 rfl w.heap.size 3 i3 _ 1 8 Try.underlying22 hi3 hy0 hy1 hy2 rfl (by decide) _ n (zs.map (Value.int .i64)) rfl ho ⟨w1.heap.size, 0, none⟩ 1 1 [.int .i64 (-77)] rfl rfl ?e1 ?e2 ?e3 ?e4 hsz ?_))
  case e1 => intro j u hj; rw [Addr.add_lit, Nat.zero_add]; exact cell_of hh (by simpa using hj)
  case e2 => intro u hu; simp at hu; subst hu; rfl
  case e3 => unfold maxLen; omega
  case e4 => omega
  intro v3 w3 ho3 hg3 _
  have b3 : RowKit.Below w.heap.size w w3 := b2.grown hg3 hsz (own_ge ho)
  obtain ⟨A3, c3, rfl, f3⟩ := own_form ho3
  obtain ⟨g3, rfl, hg3', hc3⟩ := f3 (by omega)
  have hc : n + 1 ≤ c3 := by
    rcases ho3.2 with ⟨h, _⟩ | ⟨g, cap, cur, h, _, _, h4, _⟩
    · cases h
    · injection h with _ _ h; omega
  have hz1 : (n : Int) ≤ (c3 : Int) := by omega
  have hLA : Hid (BkInts.Row w.heap.size w3 (.slice (some ⟨g3, 0, none⟩) (n + 1) c3, zs ++ [-77])) := by
    show World.ownsRow _ _ _ _ _ _ _
    rw [List.length_append, List.length_singleton, ← HN.out, List.map_append]
    exact ho3
  clear ho b2 hh hsz ho3 hg3 hc3 f3
  go_wp2
  go_ret
  exact ⟨_, _, rfl, hLA.out, b3⟩
theorem row_mono {B B' : Nat} {w : World} {x : BkInts.L} (h : BkInts.Row B w x) (hb : B' ≤ B) : BkInts.Row B' w x := BkInts.own_mono h hb
theorem lent_of {B : Nat} {w : World} {A : Option Addr} {n c : Nat} {zs : List Int} (h : BkInts.Row B w (.slice A (n + 1) c, zs ++ [-77])) (hn : n = zs.length) : LentAt w A c zs := by
  obtain ⟨V, cp, e, f⟩ := own_form h
  injection e with e1 e2 e3
  subst e1 e3
  obtain ⟨g, rfl, hg, hc⟩ := f (by simp)
  refine ⟨?_, g, rfl, hg, fun j hj => ?_, ?_⟩
  · rcases h.2 with ⟨h, _⟩ | ⟨g, cap, cur, h, _, _, h4, _⟩
    · cases h
    · injection h with _ h1 h2; simp at h4; omega
  · refine hc j _ ?_
    rw [List.getElem?_map, List.getElem?_append_left hj, List.getD_eq_getElem?_getD, List.getElem?_eq_getElem hj]; rfl
  · refine hc zs.length _ ?_
    rw [List.getElem?_map, List.getElem?_append_right (Nat.le_refl _), Nat.sub_self]; rfl
set_option maxHeartbeats 1000000 in
set_option maxRecDepth 100000 in
theorem stays_call (A V : Option Addr) (n c1 c2 : Nat) (zs : List Int) (w : World) (hn : n = zs.length) (hA : LentAt w A c1 zs) (hV : IntsAt w V zs) (hle : n ≤ 1000) :
    Calls Try.prog 19 #[.slice A n c1, .slice V n c2] w fun e w' => e = .returned (.bool true) ∧ RowKit.Below w.heap.size w w' := by
  have hsm := same_call A V n n c1 c2 zs zs w hn hn hA.ints hV (by omega) (by omega)
  obtain ⟨h0, b, rfl, h1, h2, h3⟩ := hA
  rw [← hn] at h0 h3
  have zn : IntKind.i64.wrap ((n : Int) + 1) = (n : Int) + 1 := by rw [IntKind.wrap_i64]; omega
  have hz1 : (n : Int) + 1 ≤ (c1 : Int) := by omega
  have hz2 : (n : Int) < (n : Int) + 1 := by omega
  have hz3 : (0 : Int) ≤ (n : Int) + 1 := by omega
  clear hn h2 hV
  go_enter Try.func19, Try.ntmps19
  go_wp2_with fail
  refine hsm.mono ?_
  rintro e w1 ⟨rfl, b1⟩
  have k3 := pw_cell_below b1 h3
  have ht : decide (zs = zs) = true := by simp
  clear hsm h3
  go_wp2
  go_ret
  exact ⟨rfl, b1⟩
end Go.Proofs.Ythgidcfgelpkhaa
