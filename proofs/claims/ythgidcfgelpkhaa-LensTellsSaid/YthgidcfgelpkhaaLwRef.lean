/- LensRefuses: the walk. -/
import Derived.Test.YthgidcfgelpkhaaLwTwo
set_option linter.unusedVariables false
set_option linter.unusedSimpArgs false
namespace Go.Proofs.Ythgidcfgelpkhaa
open Go Go.Shelf Go.RowKit Go.Lib Go.Sort Go.Proofs Go.Proofs.Ythgidcfgelpkhaa.Base
/-- A list that is being filled. -/
def fillL (c : Int) (n k : Nat) : List Value := (List.replicate k c ++ List.replicate (n - k) 0).map (Value.int .i64)
theorem fill_start {w : World} {B g n : Nat} {c : Int} (h : w.ownsRow B 3 1 (.slice (some ⟨g, 0, none⟩) n n) n (madeCells #[.int .i64 0] n).toList) : w.ownsRow B 3 1 (.slice (some ⟨g, 0, none⟩) n n) n (fillL c n 0) := by
  have e : fillL c n 0 = (madeCells #[.int .i64 0] n).toList := by
    unfold fillL
    rw [toList_madeCells_one]
    simp
  rw [e]; exact h
theorem fill_at {c : Int} {n k : Nat} (h : k < n) : (fillL c n k)[k]? = some (.int .i64 0) := by
  unfold fillL
  rw [List.getElem?_map, List.getElem?_append_right (by simp), List.length_replicate, Nat.sub_self, List.getElem?_replicate, if_pos (by omega)]
  rfl
theorem fill_set {c : Int} {n k : Nat} (h : k < n) : (fillL c n k).set k (.int .i64 c) = fillL c n (k + 1) := by
  unfold fillL
  rw [← List.map_set, List.set_append_right _ _ (by simp), List.length_replicate, Nat.sub_self, show n - k = (n - (k + 1)) + 1 by omega, List.replicate_succ, List.set_cons_zero, List.replicate_succ', List.append_assoc]
  rfl
theorem ints_own {B : Nat} {w : World} {A : Option Addr} {n c : Nat} {xs : List Int} (h : w.ownsRow B 3 1 (.slice A n c) n (xs.map (Value.int .i64))) : n = xs.length ∧ IntsAt w A xs := by
  have hl : n = xs.length := by have := h.1; simp at this; omega
  refine ⟨hl, fun h0 => ?_⟩
  obtain ⟨V, cp, hv, hf⟩ := own_form h
  injection hv with h1 h2 h3
  subst h1 h3
  obtain ⟨g, hA, hlt, hc⟩ := hf (by omega)
  refine ⟨g, 0, hA, hlt, fun j hj => ?_⟩
  rw [Nat.zero_add]
  exact hc j _ (by simp [List.getD_eq_getElem?_getD, hj])
theorem ints_fill {B : Nat} {w : World} {A : Option Addr} {n cp : Nat} {c : Int} (h : w.ownsRow B 3 1 (.slice A n cp) n (fillL c n n)) : IntsAt w A (List.replicate n c) := by
  have e : fillL c n n = (List.replicate n c).map (Value.int .i64) := by simp [fillL]
  rw [e] at h
  exact (ints_own h).2
theorem raw_rep (c : Int) : ∀ (n s : Nat), (rawFrom s (List.replicate n c)).length = if 0 < c then n else 0
  | 0, s => by simp [rawFrom]
  | n + 1, s => by
    rw [List.replicate_succ, rawFrom, List.length_append, raw_rep c n]
    unfold rawAt
    split <;> simp; omega
theorem single_rep (c : Int) (n : Nat) : (singleP (List.replicate n c)).length = if 0 < c then n else 0 := by rw [single_length, raw_rep]
theorem bad_rep {c : Int} {n : Nat} (h0 : 0 < n) (h : c < 0 ∨ c > 1073741824) : badP (List.replicate n c) = true := by
  unfold badP
  rw [List.any_eq_true]
  exact ⟨c, List.mem_replicate.2 ⟨by omega, rfl⟩, by simpa using h⟩
theorem bad_none {c : Int} {n : Nat} (h : n = 0 ∨ (0 ≤ c ∧ c ≤ 1073741824)) : badP (List.replicate n c) = false := by
  unfold badP
  rw [List.any_eq_false]
  intro x hx
  obtain ⟨h1, rfl⟩ := List.mem_replicate.1 hx
  simp; omega
theorem err_most {mo : Int} {zs : List Int} (h : mo < 1 ∨ mo > 15) : errP mo zs = 1 := by
  unfold errP
  rw [if_pos]
  rw [Bool.or_eq_true, Bool.or_eq_true, decide_eq_true_eq, decide_eq_true_eq]
  exact .inl h
theorem err_bad {mo : Int} {zs : List Int} (h : badP zs = true) : errP mo zs = 1 := by
  unfold errP
  rw [if_pos]
  rw [h, Bool.or_true]
theorem err_size {mo : Int} {zs : List Int} (h1 : ¬ (mo < 1)) (h2 : ¬ (mo > 15)) (h3 : badP zs = false) (h : zs.length > 356 ∨ (singleP zs).length > 2 ^ mo.toNat) : errP mo zs = 10 := by
  unfold errP
  rw [if_neg, if_pos]
  · rw [Bool.or_eq_true, decide_eq_true_eq, decide_eq_true_eq]; exact h
  · rw [h3, decide_eq_false h1, decide_eq_false h2]; decide
theorem err_none {mo : Int} {zs : List Int} (h1 : ¬ (mo < 1)) (h2 : ¬ (mo > 15)) (h3 : badP zs = false) (h4 : ¬ zs.length > 356) (h : ¬ (singleP zs).length > 2 ^ mo.toNat) : errP mo zs = 0 := by
  unfold errP
  rw [if_neg, if_neg]
  · rw [Bool.or_eq_true, decide_eq_true_eq, decide_eq_true_eq]; exact fun q => q.elim h4 h
  · rw [h3, decide_eq_false h1, decide_eq_false h2]; decide

theorem of_goodI {mo : Int} (V : Option Addr) (n cap : Nat) (zs : List Int) (w : World) (hn : n = zs.length) (hat : IntsAt w V zs) (he : errP mo zs = 0) :
    Calls Try.prog 15 #[.int .i64 mo, .slice V n cap] w fun e w' => ∃ A c, e = .returned (.tuple #[.slice A n c, .int .i64 0]) ∧ w'.ownsRow w.heap.size 3 1 (.slice A n c) n ((lensP mo.toNat zs).map symV) ∧ RowKit.Below w.heap.size w w' := by
  obtain ⟨m, rfl, _⟩ := err_zero he
  rw [Int.toNat_natCast]
  exact of_good V n cap zs w hn hat he
theorem of_bad {mo : Int} {E : Nat} (V : Option Addr) (n cap : Nat) (zs : List Int) (w : World) (hn : n = zs.length) (hat : IntsAt w V zs) (hle : n ≤ 140737488351232) (he : errP mo zs = E) (h0 : E ≠ 0) :
    Calls Try.prog 15 #[.int .i64 mo, .slice V n cap] w fun e w' => e = .returned (.tuple #[.slice none 0 0, .int .i64 (E : Int)]) ∧ RowKit.Below w.heap.size w w' := by
  refine (of_call mo V n cap zs w hn hat hle).mono ?_
  rintro e w' ⟨hb, ⟨_, rfl⟩ | ⟨h, _⟩⟩
  · exact ⟨by rw [he], hb⟩
  · exact absurd (he.symm.trans h) h0

set_option maxHeartbeats 16000000 in
set_option maxRecDepth 100000 in
theorem refuses_in (most count : Int) (n : Nat) (w : World) (hn : n ≤ 400) :
    Calls Try.prog 8 #[.int .i64 most, .int .i64 n, .int .i64 count] w fun e w' => e = .returned (.bool true) ∧ RowKit.Below w.heap.size w w' := by
  obtain ⟨i3, hi3, hy0, hy1, hy2⟩ := info_parts info3
  have g1 : decide ((n : Int) < 0) = false := decide_eq_false (by omega)
  have g2 : decide ((n : Int) > 400) = false := decide_eq_false (by omega)
  have hpow : True := trivial
  rcases Nat.eq_zero_or_pos n with c3 | c3
  · have d3 : decide ((n : Int) > 0) = false := decide_eq_false (by omega)
    have d0 : ((0 : Int) == (n : Int)) = true := by rw [c3]; decide
    have HN0 : Hid (n = 0) := c3
    clear c3
    by_cases c1 : most < 1
    · have d1 : decide (most < 1) = true := decide_eq_true c1
      obtain ⟨E, hE⟩ : ∃ E, errP most (List.replicate n count) = E := ⟨_, rfl⟩
      have hval : E = 1 := by rw [← hE]; exact err_most (.inl c1)
      subst hval
      have hof := fun (A : Option Addr) (W : World) (hat : IntsAt W A (List.replicate n count)) => of_bad A n n (List.replicate n count) W (by simp) hat (by omega) hE (by decide)
      have HOF : Aside _ := hof
      clear hof hE hpow
      go_enter Try.func8, Try.ntmps8
      go_wp2_with fail
      refine (alive_call _).mono ?_
      rintro e w1 ⟨rfl, b1⟩
      go_wp2_with (first | (at_make; refine wpList_make_full _ rfl _ _ 22 rfl w1.heap.size 3 i3 (.int .i64 0) 1 Try.underlying22 hi3 hy0 hy1 .i64 .i64 _ _ n rfl rfl rfl rfl ?d1 ?d2 (Nat.le_refl _) ?_))
      case d1 => rw [hy2]; omega
      case d2 => unfold maxLen; omega
      intro w2 hout hg2
      have bel2 : RowKit.Below w1.heap.size w1 w2 := (Below.refl _ _).grown hg2 (Nat.le_refl _) (fun k hk => by cases hk)
      have hout0 := fill_start (c := count) hout
      clear hout hg2
      go_wp2_with fail
      go_loopg [8, 27] n (fun kx s8 s27 wr => ∃ k : Nat, k ≤ n ∧ n - k ≤ kx ∧ s27 = .int .i64 k ∧ RowKit.Below w1.heap.size w1 wr ∧ wr.ownsRow w1.heap.size 3 1 (.slice (some ⟨w1.heap.size, 0, none⟩) n n) n (fillL count n k))
      case atStart => exact ⟨0, Nat.zero_le _, Nat.le_refl _, rfl, bel2, hout0⟩
      case round =>
        clear hout0 bel2
        obtain ⟨k, hk, hkx, rfl, bel, hoW⟩ := hrel
        by_cases hlt : k < n
        · have hltz : (k : Int) < (n : Int) := by omega
          have x1 : wr.cell? ⟨w1.heap.size, k, none⟩ = some (.int .i64 0) := by rw [hoW.cellAt k (by omega)]; exact fill_at hlt
          have x2 := hoW.frozenAt k
          obtain ⟨st1, st2⟩ := hoW.stored k (.int .i64 count)
          rw [fill_set hlt] at st1
          have bel3 : RowKit.Below w1.heap.size w1 (wr.setCell ⟨w1.heap.size, k, none⟩ (.int .i64 count)) := bel.grown st2 bel.size (fun q hq => by have e := Option.some.inj hq; omega)
          have zk : IntKind.i64.wrap ((k : Int) + 1) = (k : Int) + 1 := by rw [IntKind.wrap_i64]; omega
          clear hoW st2 bel
          go_wp2
          go_roundg (n - (k + 1))
          case measure => omega
          case rel => exact ⟨k + 1, hlt, Nat.le_refl _, rfl, bel3, st1⟩
        · have hltz : ¬ (k : Int) < (n : Int) := by omega
          obtain rfl : k = n := by omega
          have hat := ints_fill hoW
          clear hoW
          have hofw := HOF.out _ wr hat
          clear HOF hat
          go_wp2_with fail
          refine hofw.mono ?_
          rintro e w3 ⟨rfl, b3⟩
          have bF := bstep b1 (bstep bel b3)
          clear hofw b1 bel b3
          go_wp2
          all_goals go_ret
          all_goals first | exact ⟨rfl, bF⟩ | (exfalso; have := HN0.out; omega) | (exfalso; omega)
    have d1 : decide (most < 1) = false := decide_eq_false c1
    by_cases c2 : most > 15
    · have d2 : decide (most > 15) = true := decide_eq_true c2
      obtain ⟨E, hE⟩ : ∃ E, errP most (List.replicate n count) = E := ⟨_, rfl⟩
      have hval : E = 1 := by rw [← hE]; exact err_most (.inr c2)
      subst hval
      have hof := fun (A : Option Addr) (W : World) (hat : IntsAt W A (List.replicate n count)) => of_bad A n n (List.replicate n count) W (by simp) hat (by omega) hE (by decide)
      have HOF : Aside _ := hof
      clear hof hE hpow
      go_enter Try.func8, Try.ntmps8
      go_wp2_with fail
      refine (alive_call _).mono ?_
      rintro e w1 ⟨rfl, b1⟩
      go_wp2_with (first | (at_make; refine wpList_make_full _ rfl _ _ 22 rfl w1.heap.size 3 i3 (.int .i64 0) 1 Try.underlying22 hi3 hy0 hy1 .i64 .i64 _ _ n rfl rfl rfl rfl ?d1 ?d2 (Nat.le_refl _) ?_))
      case d1 => rw [hy2]; omega
      case d2 => unfold maxLen; omega
      intro w2 hout hg2
      have bel2 : RowKit.Below w1.heap.size w1 w2 := (Below.refl _ _).grown hg2 (Nat.le_refl _) (fun k hk => by cases hk)
      have hout0 := fill_start (c := count) hout
      clear hout hg2
      go_wp2_with fail
      go_loopg [8, 27] n (fun kx s8 s27 wr => ∃ k : Nat, k ≤ n ∧ n - k ≤ kx ∧ s27 = .int .i64 k ∧ RowKit.Below w1.heap.size w1 wr ∧ wr.ownsRow w1.heap.size 3 1 (.slice (some ⟨w1.heap.size, 0, none⟩) n n) n (fillL count n k))
      case atStart => exact ⟨0, Nat.zero_le _, Nat.le_refl _, rfl, bel2, hout0⟩
      case round =>
        clear hout0 bel2
        obtain ⟨k, hk, hkx, rfl, bel, hoW⟩ := hrel
        by_cases hlt : k < n
        · have hltz : (k : Int) < (n : Int) := by omega
          have x1 : wr.cell? ⟨w1.heap.size, k, none⟩ = some (.int .i64 0) := by rw [hoW.cellAt k (by omega)]; exact fill_at hlt
          have x2 := hoW.frozenAt k
          obtain ⟨st1, st2⟩ := hoW.stored k (.int .i64 count)
          rw [fill_set hlt] at st1
          have bel3 : RowKit.Below w1.heap.size w1 (wr.setCell ⟨w1.heap.size, k, none⟩ (.int .i64 count)) := bel.grown st2 bel.size (fun q hq => by have e := Option.some.inj hq; omega)
          have zk : IntKind.i64.wrap ((k : Int) + 1) = (k : Int) + 1 := by rw [IntKind.wrap_i64]; omega
          clear hoW st2 bel
          go_wp2
          go_roundg (n - (k + 1))
          case measure => omega
          case rel => exact ⟨k + 1, hlt, Nat.le_refl _, rfl, bel3, st1⟩
        · have hltz : ¬ (k : Int) < (n : Int) := by omega
          obtain rfl : k = n := by omega
          have hat := ints_fill hoW
          clear hoW
          have hofw := HOF.out _ wr hat
          clear HOF hat
          go_wp2_with fail
          refine hofw.mono ?_
          rintro e w3 ⟨rfl, b3⟩
          have bF := bstep b1 (bstep bel b3)
          clear hofw b1 bel b3
          go_wp2
          all_goals go_ret
          all_goals first | exact ⟨rfl, bF⟩ | (exfalso; have := HN0.out; omega) | (exfalso; omega)
    have d2 : decide (most > 15) = false := decide_eq_false c2
    clear hpow
    obtain ⟨m, rfl⟩ : ∃ m : Nat, most = (m : Int) := ⟨most.toNat, by omega⟩
    obtain ⟨P2, hpow⟩ : ∃ P2 : Nat, 2 ^ m = P2 := ⟨_, rfl⟩
    have hP : P2 ≤ 32768 := by rw [← hpow]; exact Nat.le_trans (Nat.pow_le_pow_right (by omega) (show m ≤ 15 by omega)) (by decide)
    have hP1 : 1 ≤ P2 := by rw [← hpow]; exact Nat.pow_pos (by omega)
    have hpz : IntKind.i64.wrap ((2 : Int) ^ m) = (P2 : Int) := by
      have e : ((2 : Int) ^ m) = ((2 ^ m : Nat) : Int) := by simp
      rw [e, hpow, IntKind.wrap_i64]; omega
    have hpu : IntKind.u64.wrap (m : Int) = (m : Int) := by rw [IntKind.wrap_u64]; omega
    have hps : 2 ^ (m : Int).toNat = P2 := by rw [Int.toNat_natCast]; exact hpow
    have HPS : Hid (2 ^ (m : Int).toNat = P2) := hps
    clear hps
    have d4 : decide ((n : Int) > 356) = false := decide_eq_false (by have := HN0.out; omega)
    by_cases c5 : count > 0
    · have d5 : decide (count > 0) = true := decide_eq_true c5
      have d6 : decide ((n : Int) > (P2 : Int)) = false := decide_eq_false (by have := HN0.out; omega)
      obtain ⟨E, hE⟩ : ∃ E, errP (m : Int) (List.replicate n count) = E := ⟨_, rfl⟩
      have hval : E = 0 := by rw [← hE]; exact err_none c1 c2 (bad_none (.inl HN0.out)) (by have := HN0.out; simp; omega) (by rw [single_rep, HPS.out]; have := HN0.out; split <;> omega)
      subst hval
      have hof := fun (A : Option Addr) (W : World) (hat : IntsAt W A (List.replicate n count)) => of_goodI A n n (List.replicate n count) W (by simp) hat hE
      have HOF : Aside _ := hof
      clear hof hE hpow
      go_enter Try.func8, Try.ntmps8
      go_wp2_with fail
      refine (alive_call _).mono ?_
      rintro e w1 ⟨rfl, b1⟩
      go_wp2_with (first | (at_make; refine wpList_make_full _ rfl _ _ 22 rfl w1.heap.size 3 i3 (.int .i64 0) 1 Try.underlying22 hi3 hy0 hy1 .i64 .i64 _ _ n rfl rfl rfl rfl ?d1 ?d2 (Nat.le_refl _) ?_))
      case d1 => rw [hy2]; omega
      case d2 => unfold maxLen; omega
      intro w2 hout hg2
      have bel2 : RowKit.Below w1.heap.size w1 w2 := (Below.refl _ _).grown hg2 (Nat.le_refl _) (fun k hk => by cases hk)
      have hout0 := fill_start (c := count) hout
      clear hout hg2
      go_wp2_with fail
      go_loopg [8, 27] n (fun kx s8 s27 wr => ∃ k : Nat, k ≤ n ∧ n - k ≤ kx ∧ s27 = .int .i64 k ∧ RowKit.Below w1.heap.size w1 wr ∧ wr.ownsRow w1.heap.size 3 1 (.slice (some ⟨w1.heap.size, 0, none⟩) n n) n (fillL count n k))
      case atStart => exact ⟨0, Nat.zero_le _, Nat.le_refl _, rfl, bel2, hout0⟩
      case round =>
        clear hout0 bel2
        obtain ⟨k, hk, hkx, rfl, bel, hoW⟩ := hrel
        by_cases hlt : k < n
        · have hltz : (k : Int) < (n : Int) := by omega
          have x1 : wr.cell? ⟨w1.heap.size, k, none⟩ = some (.int .i64 0) := by rw [hoW.cellAt k (by omega)]; exact fill_at hlt
          have x2 := hoW.frozenAt k
          obtain ⟨st1, st2⟩ := hoW.stored k (.int .i64 count)
          rw [fill_set hlt] at st1
          have bel3 : RowKit.Below w1.heap.size w1 (wr.setCell ⟨w1.heap.size, k, none⟩ (.int .i64 count)) := bel.grown st2 bel.size (fun q hq => by have e := Option.some.inj hq; omega)
          have zk : IntKind.i64.wrap ((k : Int) + 1) = (k : Int) + 1 := by rw [IntKind.wrap_i64]; omega
          clear hoW st2 bel
          go_wp2
          go_roundg (n - (k + 1))
          case measure => omega
          case rel => exact ⟨k + 1, hlt, Nat.le_refl _, rfl, bel3, st1⟩
        · have hltz : ¬ (k : Int) < (n : Int) := by omega
          obtain rfl : k = n := by omega
          have hat := ints_fill hoW
          clear hoW
          have hofw := HOF.out _ wr hat
          clear HOF hat
          go_wp2_with fail
          refine hofw.mono ?_
          rintro e w3 ⟨A, c, rfl, ho, b3⟩
          have bF := bstep b1 (bstep bel b3)
          clear hofw b1 bel b3 ho
          go_wp2
          all_goals go_ret
          all_goals first | exact ⟨rfl, bF⟩ | (exfalso; have := HN0.out; omega) | (exfalso; omega)
    · have d5 : decide (count > 0) = false := decide_eq_false c5
      obtain ⟨E, hE⟩ : ∃ E, errP (m : Int) (List.replicate n count) = E := ⟨_, rfl⟩
      have hval : E = 0 := by rw [← hE]; exact err_none c1 c2 (bad_none (.inl HN0.out)) (by have := HN0.out; simp; omega) (by rw [single_rep, HPS.out]; have := HN0.out; split <;> omega)
      subst hval
      have hof := fun (A : Option Addr) (W : World) (hat : IntsAt W A (List.replicate n count)) => of_goodI A n n (List.replicate n count) W (by simp) hat hE
      have HOF : Aside _ := hof
      clear hof hE hpow
      go_enter Try.func8, Try.ntmps8
      go_wp2_with fail
      refine (alive_call _).mono ?_
      rintro e w1 ⟨rfl, b1⟩
      go_wp2_with (first | (at_make; refine wpList_make_full _ rfl _ _ 22 rfl w1.heap.size 3 i3 (.int .i64 0) 1 Try.underlying22 hi3 hy0 hy1 .i64 .i64 _ _ n rfl rfl rfl rfl ?d1 ?d2 (Nat.le_refl _) ?_))
      case d1 => rw [hy2]; omega
      case d2 => unfold maxLen; omega
      intro w2 hout hg2
      have bel2 : RowKit.Below w1.heap.size w1 w2 := (Below.refl _ _).grown hg2 (Nat.le_refl _) (fun k hk => by cases hk)
      have hout0 := fill_start (c := count) hout
      clear hout hg2
      go_wp2_with fail
      go_loopg [8, 27] n (fun kx s8 s27 wr => ∃ k : Nat, k ≤ n ∧ n - k ≤ kx ∧ s27 = .int .i64 k ∧ RowKit.Below w1.heap.size w1 wr ∧ wr.ownsRow w1.heap.size 3 1 (.slice (some ⟨w1.heap.size, 0, none⟩) n n) n (fillL count n k))
      case atStart => exact ⟨0, Nat.zero_le _, Nat.le_refl _, rfl, bel2, hout0⟩
      case round =>
        clear hout0 bel2
        obtain ⟨k, hk, hkx, rfl, bel, hoW⟩ := hrel
        by_cases hlt : k < n
        · have hltz : (k : Int) < (n : Int) := by omega
          have x1 : wr.cell? ⟨w1.heap.size, k, none⟩ = some (.int .i64 0) := by rw [hoW.cellAt k (by omega)]; exact fill_at hlt
          have x2 := hoW.frozenAt k
          obtain ⟨st1, st2⟩ := hoW.stored k (.int .i64 count)
          rw [fill_set hlt] at st1
          have bel3 : RowKit.Below w1.heap.size w1 (wr.setCell ⟨w1.heap.size, k, none⟩ (.int .i64 count)) := bel.grown st2 bel.size (fun q hq => by have e := Option.some.inj hq; omega)
          have zk : IntKind.i64.wrap ((k : Int) + 1) = (k : Int) + 1 := by rw [IntKind.wrap_i64]; omega
          clear hoW st2 bel
          go_wp2
          go_roundg (n - (k + 1))
          case measure => omega
          case rel => exact ⟨k + 1, hlt, Nat.le_refl _, rfl, bel3, st1⟩
        · have hltz : ¬ (k : Int) < (n : Int) := by omega
          obtain rfl : k = n := by omega
          have hat := ints_fill hoW
          clear hoW
          have hofw := HOF.out _ wr hat
          clear HOF hat
          go_wp2_with fail
          refine hofw.mono ?_
          rintro e w3 ⟨A, c, rfl, ho, b3⟩
          have bF := bstep b1 (bstep bel b3)
          clear hofw b1 bel b3 ho
          go_wp2
          all_goals go_ret
          all_goals first | exact ⟨rfl, bF⟩ | (exfalso; have := HN0.out; omega) | (exfalso; omega)
  · have d3 : decide ((n : Int) > 0) = true := decide_eq_true (by omega)
    have d0 : ((0 : Int) == (n : Int)) = false := by simp; omega
    by_cases c1 : most < 1
    · have d1 : decide (most < 1) = true := decide_eq_true c1
      obtain ⟨E, hE⟩ : ∃ E, errP most (List.replicate n count) = E := ⟨_, rfl⟩
      have hval : E = 1 := by rw [← hE]; exact err_most (.inl c1)
      subst hval
      have hof := fun (A : Option Addr) (W : World) (hat : IntsAt W A (List.replicate n count)) => of_bad A n n (List.replicate n count) W (by simp) hat (by omega) hE (by decide)
      have HOF : Aside _ := hof
      clear hof hE hpow
      go_enter Try.func8, Try.ntmps8
      go_wp2_with fail
      refine (alive_call _).mono ?_
      rintro e w1 ⟨rfl, b1⟩
      go_wp2_with (first | (at_make; refine wpList_make_full _ rfl _ _ 22 rfl w1.heap.size 3 i3 (.int .i64 0) 1 Try.underlying22 hi3 hy0 hy1 .i64 .i64 _ _ n rfl rfl rfl rfl ?d1 ?d2 (Nat.le_refl _) ?_))
      case d1 => rw [hy2]; omega
      case d2 => unfold maxLen; omega
      intro w2 hout hg2
      have bel2 : RowKit.Below w1.heap.size w1 w2 := (Below.refl _ _).grown hg2 (Nat.le_refl _) (fun k hk => by cases hk)
      have hout0 := fill_start (c := count) hout
      clear hout hg2
      go_wp2_with fail
      go_loopg [8, 27] n (fun kx s8 s27 wr => ∃ k : Nat, k ≤ n ∧ n - k ≤ kx ∧ s27 = .int .i64 k ∧ RowKit.Below w1.heap.size w1 wr ∧ wr.ownsRow w1.heap.size 3 1 (.slice (some ⟨w1.heap.size, 0, none⟩) n n) n (fillL count n k))
      case atStart => exact ⟨0, Nat.zero_le _, Nat.le_refl _, rfl, bel2, hout0⟩
      case round =>
        clear hout0 bel2
        obtain ⟨k, hk, hkx, rfl, bel, hoW⟩ := hrel
        by_cases hlt : k < n
        · have hltz : (k : Int) < (n : Int) := by omega
          have x1 : wr.cell? ⟨w1.heap.size, k, none⟩ = some (.int .i64 0) := by rw [hoW.cellAt k (by omega)]; exact fill_at hlt
          have x2 := hoW.frozenAt k
          obtain ⟨st1, st2⟩ := hoW.stored k (.int .i64 count)
          rw [fill_set hlt] at st1
          have bel3 : RowKit.Below w1.heap.size w1 (wr.setCell ⟨w1.heap.size, k, none⟩ (.int .i64 count)) := bel.grown st2 bel.size (fun q hq => by have e := Option.some.inj hq; omega)
          have zk : IntKind.i64.wrap ((k : Int) + 1) = (k : Int) + 1 := by rw [IntKind.wrap_i64]; omega
          clear hoW st2 bel
          go_wp2
          go_roundg (n - (k + 1))
          case measure => omega
          case rel => exact ⟨k + 1, hlt, Nat.le_refl _, rfl, bel3, st1⟩
        · have hltz : ¬ (k : Int) < (n : Int) := by omega
          obtain rfl : k = n := by omega
          have hat := ints_fill hoW
          clear hoW
          have hofw := HOF.out _ wr hat
          clear HOF hat
          go_wp2_with fail
          refine hofw.mono ?_
          rintro e w3 ⟨rfl, b3⟩
          have bF := bstep b1 (bstep bel b3)
          clear hofw b1 bel b3
          go_wp2
          all_goals go_ret
          all_goals first | exact ⟨rfl, bF⟩ | (exfalso; have := HN0.out; omega) | (exfalso; omega)
    have d1 : decide (most < 1) = false := decide_eq_false c1
    by_cases c2 : most > 15
    · have d2 : decide (most > 15) = true := decide_eq_true c2
      obtain ⟨E, hE⟩ : ∃ E, errP most (List.replicate n count) = E := ⟨_, rfl⟩
      have hval : E = 1 := by rw [← hE]; exact err_most (.inr c2)
      subst hval
      have hof := fun (A : Option Addr) (W : World) (hat : IntsAt W A (List.replicate n count)) => of_bad A n n (List.replicate n count) W (by simp) hat (by omega) hE (by decide)
      have HOF : Aside _ := hof
      clear hof hE hpow
      go_enter Try.func8, Try.ntmps8
      go_wp2_with fail
      refine (alive_call _).mono ?_
      rintro e w1 ⟨rfl, b1⟩
      go_wp2_with (first | (at_make; refine wpList_make_full _ rfl _ _ 22 rfl w1.heap.size 3 i3 (.int .i64 0) 1 Try.underlying22 hi3 hy0 hy1 .i64 .i64 _ _ n rfl rfl rfl rfl ?d1 ?d2 (Nat.le_refl _) ?_))
      case d1 => rw [hy2]; omega
      case d2 => unfold maxLen; omega
      intro w2 hout hg2
      have bel2 : RowKit.Below w1.heap.size w1 w2 := (Below.refl _ _).grown hg2 (Nat.le_refl _) (fun k hk => by cases hk)
      have hout0 := fill_start (c := count) hout
      clear hout hg2
      go_wp2_with fail
      go_loopg [8, 27] n (fun kx s8 s27 wr => ∃ k : Nat, k ≤ n ∧ n - k ≤ kx ∧ s27 = .int .i64 k ∧ RowKit.Below w1.heap.size w1 wr ∧ wr.ownsRow w1.heap.size 3 1 (.slice (some ⟨w1.heap.size, 0, none⟩) n n) n (fillL count n k))
      case atStart => exact ⟨0, Nat.zero_le _, Nat.le_refl _, rfl, bel2, hout0⟩
      case round =>
        clear hout0 bel2
        obtain ⟨k, hk, hkx, rfl, bel, hoW⟩ := hrel
        by_cases hlt : k < n
        · have hltz : (k : Int) < (n : Int) := by omega
          have x1 : wr.cell? ⟨w1.heap.size, k, none⟩ = some (.int .i64 0) := by rw [hoW.cellAt k (by omega)]; exact fill_at hlt
          have x2 := hoW.frozenAt k
          obtain ⟨st1, st2⟩ := hoW.stored k (.int .i64 count)
          rw [fill_set hlt] at st1
          have bel3 : RowKit.Below w1.heap.size w1 (wr.setCell ⟨w1.heap.size, k, none⟩ (.int .i64 count)) := bel.grown st2 bel.size (fun q hq => by have e := Option.some.inj hq; omega)
          have zk : IntKind.i64.wrap ((k : Int) + 1) = (k : Int) + 1 := by rw [IntKind.wrap_i64]; omega
          clear hoW st2 bel
          go_wp2
          go_roundg (n - (k + 1))
          case measure => omega
          case rel => exact ⟨k + 1, hlt, Nat.le_refl _, rfl, bel3, st1⟩
        · have hltz : ¬ (k : Int) < (n : Int) := by omega
          obtain rfl : k = n := by omega
          have hat := ints_fill hoW
          clear hoW
          have hofw := HOF.out _ wr hat
          clear HOF hat
          go_wp2_with fail
          refine hofw.mono ?_
          rintro e w3 ⟨rfl, b3⟩
          have bF := bstep b1 (bstep bel b3)
          clear hofw b1 bel b3
          go_wp2
          all_goals go_ret
          all_goals first | exact ⟨rfl, bF⟩ | (exfalso; have := HN0.out; omega) | (exfalso; omega)
    have d2 : decide (most > 15) = false := decide_eq_false c2
    clear hpow
    obtain ⟨m, rfl⟩ : ∃ m : Nat, most = (m : Int) := ⟨most.toNat, by omega⟩
    obtain ⟨P2, hpow⟩ : ∃ P2 : Nat, 2 ^ m = P2 := ⟨_, rfl⟩
    have hP : P2 ≤ 32768 := by rw [← hpow]; exact Nat.le_trans (Nat.pow_le_pow_right (by omega) (show m ≤ 15 by omega)) (by decide)
    have hP1 : 1 ≤ P2 := by rw [← hpow]; exact Nat.pow_pos (by omega)
    have hpz : IntKind.i64.wrap ((2 : Int) ^ m) = (P2 : Int) := by
      have e : ((2 : Int) ^ m) = ((2 ^ m : Nat) : Int) := by simp
      rw [e, hpow, IntKind.wrap_i64]; omega
    have hpu : IntKind.u64.wrap (m : Int) = (m : Int) := by rw [IntKind.wrap_u64]; omega
    have hps : 2 ^ (m : Int).toNat = P2 := by rw [Int.toNat_natCast]; exact hpow
    have HPS : Hid (2 ^ (m : Int).toNat = P2) := hps
    clear hps
    by_cases c4 : count < 0
    · have d4 : decide (count < 0) = true := decide_eq_true c4
      obtain ⟨E, hE⟩ : ∃ E, errP (m : Int) (List.replicate n count) = E := ⟨_, rfl⟩
      have hval : E = 1 := by rw [← hE]; exact err_bad (bad_rep c3 (.inl c4))
      subst hval
      have hof := fun (A : Option Addr) (W : World) (hat : IntsAt W A (List.replicate n count)) => of_bad A n n (List.replicate n count) W (by simp) hat (by omega) hE (by decide)
      have HOF : Aside _ := hof
      clear hof hE hpow
      go_enter Try.func8, Try.ntmps8
      go_wp2_with fail
      refine (alive_call _).mono ?_
      rintro e w1 ⟨rfl, b1⟩
      go_wp2_with (first | (at_make; refine wpList_make_full _ rfl _ _ 22 rfl w1.heap.size 3 i3 (.int .i64 0) 1 Try.underlying22 hi3 hy0 hy1 .i64 .i64 _ _ n rfl rfl rfl rfl ?d1 ?d2 (Nat.le_refl _) ?_))
      case d1 => rw [hy2]; omega
      case d2 => unfold maxLen; omega
      intro w2 hout hg2
      have bel2 : RowKit.Below w1.heap.size w1 w2 := (Below.refl _ _).grown hg2 (Nat.le_refl _) (fun k hk => by cases hk)
      have hout0 := fill_start (c := count) hout
      clear hout hg2
      go_wp2_with fail
      go_loopg [8, 27] n (fun kx s8 s27 wr => ∃ k : Nat, k ≤ n ∧ n - k ≤ kx ∧ s27 = .int .i64 k ∧ RowKit.Below w1.heap.size w1 wr ∧ wr.ownsRow w1.heap.size 3 1 (.slice (some ⟨w1.heap.size, 0, none⟩) n n) n (fillL count n k))
      case atStart => exact ⟨0, Nat.zero_le _, Nat.le_refl _, rfl, bel2, hout0⟩
      case round =>
        clear hout0 bel2
        obtain ⟨k, hk, hkx, rfl, bel, hoW⟩ := hrel
        by_cases hlt : k < n
        · have hltz : (k : Int) < (n : Int) := by omega
          have x1 : wr.cell? ⟨w1.heap.size, k, none⟩ = some (.int .i64 0) := by rw [hoW.cellAt k (by omega)]; exact fill_at hlt
          have x2 := hoW.frozenAt k
          obtain ⟨st1, st2⟩ := hoW.stored k (.int .i64 count)
          rw [fill_set hlt] at st1
          have bel3 : RowKit.Below w1.heap.size w1 (wr.setCell ⟨w1.heap.size, k, none⟩ (.int .i64 count)) := bel.grown st2 bel.size (fun q hq => by have e := Option.some.inj hq; omega)
          have zk : IntKind.i64.wrap ((k : Int) + 1) = (k : Int) + 1 := by rw [IntKind.wrap_i64]; omega
          clear hoW st2 bel
          go_wp2
          go_roundg (n - (k + 1))
          case measure => omega
          case rel => exact ⟨k + 1, hlt, Nat.le_refl _, rfl, bel3, st1⟩
        · have hltz : ¬ (k : Int) < (n : Int) := by omega
          obtain rfl : k = n := by omega
          have hat := ints_fill hoW
          clear hoW
          have hofw := HOF.out _ wr hat
          clear HOF hat
          go_wp2_with fail
          refine hofw.mono ?_
          rintro e w3 ⟨rfl, b3⟩
          have bF := bstep b1 (bstep bel b3)
          clear hofw b1 bel b3
          go_wp2
          all_goals go_ret
          all_goals first | exact ⟨rfl, bF⟩ | (exfalso; have := HN0.out; omega) | (exfalso; omega)
    have d4 : decide (count < 0) = false := decide_eq_false c4
    by_cases c5 : count > 1073741824
    · have d5 : decide (count > 1073741824) = true := decide_eq_true c5
      obtain ⟨E, hE⟩ : ∃ E, errP (m : Int) (List.replicate n count) = E := ⟨_, rfl⟩
      have hval : E = 1 := by rw [← hE]; exact err_bad (bad_rep c3 (.inr c5))
      subst hval
      have hof := fun (A : Option Addr) (W : World) (hat : IntsAt W A (List.replicate n count)) => of_bad A n n (List.replicate n count) W (by simp) hat (by omega) hE (by decide)
      have HOF : Aside _ := hof
      clear hof hE hpow
      go_enter Try.func8, Try.ntmps8
      go_wp2_with fail
      refine (alive_call _).mono ?_
      rintro e w1 ⟨rfl, b1⟩
      go_wp2_with (first | (at_make; refine wpList_make_full _ rfl _ _ 22 rfl w1.heap.size 3 i3 (.int .i64 0) 1 Try.underlying22 hi3 hy0 hy1 .i64 .i64 _ _ n rfl rfl rfl rfl ?d1 ?d2 (Nat.le_refl _) ?_))
      case d1 => rw [hy2]; omega
      case d2 => unfold maxLen; omega
      intro w2 hout hg2
      have bel2 : RowKit.Below w1.heap.size w1 w2 := (Below.refl _ _).grown hg2 (Nat.le_refl _) (fun k hk => by cases hk)
      have hout0 := fill_start (c := count) hout
      clear hout hg2
      go_wp2_with fail
      go_loopg [8, 27] n (fun kx s8 s27 wr => ∃ k : Nat, k ≤ n ∧ n - k ≤ kx ∧ s27 = .int .i64 k ∧ RowKit.Below w1.heap.size w1 wr ∧ wr.ownsRow w1.heap.size 3 1 (.slice (some ⟨w1.heap.size, 0, none⟩) n n) n (fillL count n k))
      case atStart => exact ⟨0, Nat.zero_le _, Nat.le_refl _, rfl, bel2, hout0⟩
      case round =>
        clear hout0 bel2
        obtain ⟨k, hk, hkx, rfl, bel, hoW⟩ := hrel
        by_cases hlt : k < n
        · have hltz : (k : Int) < (n : Int) := by omega
          have x1 : wr.cell? ⟨w1.heap.size, k, none⟩ = some (.int .i64 0) := by rw [hoW.cellAt k (by omega)]; exact fill_at hlt
          have x2 := hoW.frozenAt k
          obtain ⟨st1, st2⟩ := hoW.stored k (.int .i64 count)
          rw [fill_set hlt] at st1
          have bel3 : RowKit.Below w1.heap.size w1 (wr.setCell ⟨w1.heap.size, k, none⟩ (.int .i64 count)) := bel.grown st2 bel.size (fun q hq => by have e := Option.some.inj hq; omega)
          have zk : IntKind.i64.wrap ((k : Int) + 1) = (k : Int) + 1 := by rw [IntKind.wrap_i64]; omega
          clear hoW st2 bel
          go_wp2
          go_roundg (n - (k + 1))
          case measure => omega
          case rel => exact ⟨k + 1, hlt, Nat.le_refl _, rfl, bel3, st1⟩
        · have hltz : ¬ (k : Int) < (n : Int) := by omega
          obtain rfl : k = n := by omega
          have hat := ints_fill hoW
          clear hoW
          have hofw := HOF.out _ wr hat
          clear HOF hat
          go_wp2_with fail
          refine hofw.mono ?_
          rintro e w3 ⟨rfl, b3⟩
          have bF := bstep b1 (bstep bel b3)
          clear hofw b1 bel b3
          go_wp2
          all_goals go_ret
          all_goals first | exact ⟨rfl, bF⟩ | (exfalso; have := HN0.out; omega) | (exfalso; omega)
    have d5 : decide (count > 1073741824) = false := decide_eq_false c5
    by_cases c6 : n > 356
    · have d6 : decide ((n : Int) > 356) = true := decide_eq_true (by omega)
      obtain ⟨E, hE⟩ : ∃ E, errP (m : Int) (List.replicate n count) = E := ⟨_, rfl⟩
      have hval : E = 10 := by rw [← hE]; exact err_size c1 c2 (bad_none (.inr (by omega))) (.inl (by simp; omega))
      subst hval
      have hof := fun (A : Option Addr) (W : World) (hat : IntsAt W A (List.replicate n count)) => of_bad A n n (List.replicate n count) W (by simp) hat (by omega) hE (by decide)
      have HOF : Aside _ := hof
      clear hof hE hpow
      go_enter Try.func8, Try.ntmps8
      go_wp2_with fail
      refine (alive_call _).mono ?_
      rintro e w1 ⟨rfl, b1⟩
      go_wp2_with (first | (at_make; refine wpList_make_full _ rfl _ _ 22 rfl w1.heap.size 3 i3 (.int .i64 0) 1 Try.underlying22 hi3 hy0 hy1 .i64 .i64 _ _ n rfl rfl rfl rfl ?d1 ?d2 (Nat.le_refl _) ?_))
      case d1 => rw [hy2]; omega
      case d2 => unfold maxLen; omega
      intro w2 hout hg2
      have bel2 : RowKit.Below w1.heap.size w1 w2 := (Below.refl _ _).grown hg2 (Nat.le_refl _) (fun k hk => by cases hk)
      have hout0 := fill_start (c := count) hout
      clear hout hg2
      go_wp2_with fail
      go_loopg [8, 27] n (fun kx s8 s27 wr => ∃ k : Nat, k ≤ n ∧ n - k ≤ kx ∧ s27 = .int .i64 k ∧ RowKit.Below w1.heap.size w1 wr ∧ wr.ownsRow w1.heap.size 3 1 (.slice (some ⟨w1.heap.size, 0, none⟩) n n) n (fillL count n k))
      case atStart => exact ⟨0, Nat.zero_le _, Nat.le_refl _, rfl, bel2, hout0⟩
      case round =>
        clear hout0 bel2
        obtain ⟨k, hk, hkx, rfl, bel, hoW⟩ := hrel
        by_cases hlt : k < n
        · have hltz : (k : Int) < (n : Int) := by omega
          have x1 : wr.cell? ⟨w1.heap.size, k, none⟩ = some (.int .i64 0) := by rw [hoW.cellAt k (by omega)]; exact fill_at hlt
          have x2 := hoW.frozenAt k
          obtain ⟨st1, st2⟩ := hoW.stored k (.int .i64 count)
          rw [fill_set hlt] at st1
          have bel3 : RowKit.Below w1.heap.size w1 (wr.setCell ⟨w1.heap.size, k, none⟩ (.int .i64 count)) := bel.grown st2 bel.size (fun q hq => by have e := Option.some.inj hq; omega)
          have zk : IntKind.i64.wrap ((k : Int) + 1) = (k : Int) + 1 := by rw [IntKind.wrap_i64]; omega
          clear hoW st2 bel
          go_wp2
          go_roundg (n - (k + 1))
          case measure => omega
          case rel => exact ⟨k + 1, hlt, Nat.le_refl _, rfl, bel3, st1⟩
        · have hltz : ¬ (k : Int) < (n : Int) := by omega
          obtain rfl : k = n := by omega
          have hat := ints_fill hoW
          clear hoW
          have hofw := HOF.out _ wr hat
          clear HOF hat
          go_wp2_with fail
          refine hofw.mono ?_
          rintro e w3 ⟨rfl, b3⟩
          have bF := bstep b1 (bstep bel b3)
          clear hofw b1 bel b3
          go_wp2
          all_goals go_ret
          all_goals first | exact ⟨rfl, bF⟩ | (exfalso; have := HN0.out; omega) | (exfalso; omega)
    have d6 : decide ((n : Int) > 356) = false := decide_eq_false (by omega)
    by_cases c7 : count > 0
    · have d7 : decide (count > 0) = true := decide_eq_true c7
      by_cases c8 : n > P2
      · have d8 : decide ((n : Int) > (P2 : Int)) = true := decide_eq_true (by omega)
        obtain ⟨E, hE⟩ : ∃ E, errP (m : Int) (List.replicate n count) = E := ⟨_, rfl⟩
        have hval : E = 10 := by rw [← hE]; exact err_size c1 c2 (bad_none (.inr (by omega))) (.inr (by rw [single_rep, if_pos (by omega), HPS.out]; omega))
        subst hval
        have hof := fun (A : Option Addr) (W : World) (hat : IntsAt W A (List.replicate n count)) => of_bad A n n (List.replicate n count) W (by simp) hat (by omega) hE (by decide)
        have HOF : Aside _ := hof
        clear hof hE hpow
        go_enter Try.func8, Try.ntmps8
        go_wp2_with fail
        refine (alive_call _).mono ?_
        rintro e w1 ⟨rfl, b1⟩
        go_wp2_with (first | (at_make; refine wpList_make_full _ rfl _ _ 22 rfl w1.heap.size 3 i3 (.int .i64 0) 1 Try.underlying22 hi3 hy0 hy1 .i64 .i64 _ _ n rfl rfl rfl rfl ?d1 ?d2 (Nat.le_refl _) ?_))
        case d1 => rw [hy2]; omega
        case d2 => unfold maxLen; omega
        intro w2 hout hg2
        have bel2 : RowKit.Below w1.heap.size w1 w2 := (Below.refl _ _).grown hg2 (Nat.le_refl _) (fun k hk => by cases hk)
        have hout0 := fill_start (c := count) hout
        clear hout hg2
        go_wp2_with fail
        go_loopg [8, 27] n (fun kx s8 s27 wr => ∃ k : Nat, k ≤ n ∧ n - k ≤ kx ∧ s27 = .int .i64 k ∧ RowKit.Below w1.heap.size w1 wr ∧ wr.ownsRow w1.heap.size 3 1 (.slice (some ⟨w1.heap.size, 0, none⟩) n n) n (fillL count n k))
        case atStart => exact ⟨0, Nat.zero_le _, Nat.le_refl _, rfl, bel2, hout0⟩
        case round =>
          clear hout0 bel2
          obtain ⟨k, hk, hkx, rfl, bel, hoW⟩ := hrel
          by_cases hlt : k < n
          · have hltz : (k : Int) < (n : Int) := by omega
            have x1 : wr.cell? ⟨w1.heap.size, k, none⟩ = some (.int .i64 0) := by rw [hoW.cellAt k (by omega)]; exact fill_at hlt
            have x2 := hoW.frozenAt k
            obtain ⟨st1, st2⟩ := hoW.stored k (.int .i64 count)
            rw [fill_set hlt] at st1
            have bel3 : RowKit.Below w1.heap.size w1 (wr.setCell ⟨w1.heap.size, k, none⟩ (.int .i64 count)) := bel.grown st2 bel.size (fun q hq => by have e := Option.some.inj hq; omega)
            have zk : IntKind.i64.wrap ((k : Int) + 1) = (k : Int) + 1 := by rw [IntKind.wrap_i64]; omega
            clear hoW st2 bel
            go_wp2
            go_roundg (n - (k + 1))
            case measure => omega
            case rel => exact ⟨k + 1, hlt, Nat.le_refl _, rfl, bel3, st1⟩
          · have hltz : ¬ (k : Int) < (n : Int) := by omega
            obtain rfl : k = n := by omega
            have hat := ints_fill hoW
            clear hoW
            have hofw := HOF.out _ wr hat
            clear HOF hat
            go_wp2_with fail
            refine hofw.mono ?_
            rintro e w3 ⟨rfl, b3⟩
            have bF := bstep b1 (bstep bel b3)
            clear hofw b1 bel b3
            go_wp2
            all_goals go_ret
            all_goals first | exact ⟨rfl, bF⟩ | (exfalso; have := HN0.out; omega) | (exfalso; omega)
      · have d8 : decide ((n : Int) > (P2 : Int)) = false := decide_eq_false (by omega)
        obtain ⟨E, hE⟩ : ∃ E, errP (m : Int) (List.replicate n count) = E := ⟨_, rfl⟩
        have hval : E = 0 := by rw [← hE]; exact err_none c1 c2 (bad_none (.inr (by omega))) (by simp; omega) (by rw [single_rep, if_pos (by omega), HPS.out]; omega)
        subst hval
        have hof := fun (A : Option Addr) (W : World) (hat : IntsAt W A (List.replicate n count)) => of_goodI A n n (List.replicate n count) W (by simp) hat hE
        have HOF : Aside _ := hof
        clear hof hE hpow
        go_enter Try.func8, Try.ntmps8
        go_wp2_with fail
        refine (alive_call _).mono ?_
        rintro e w1 ⟨rfl, b1⟩
        go_wp2_with (first | (at_make; refine wpList_make_full _ rfl _ _ 22 rfl w1.heap.size 3 i3 (.int .i64 0) 1 Try.underlying22 hi3 hy0 hy1 .i64 .i64 _ _ n rfl rfl rfl rfl ?d1 ?d2 (Nat.le_refl _) ?_))
        case d1 => rw [hy2]; omega
        case d2 => unfold maxLen; omega
        intro w2 hout hg2
        have bel2 : RowKit.Below w1.heap.size w1 w2 := (Below.refl _ _).grown hg2 (Nat.le_refl _) (fun k hk => by cases hk)
        have hout0 := fill_start (c := count) hout
        clear hout hg2
        go_wp2_with fail
        go_loopg [8, 27] n (fun kx s8 s27 wr => ∃ k : Nat, k ≤ n ∧ n - k ≤ kx ∧ s27 = .int .i64 k ∧ RowKit.Below w1.heap.size w1 wr ∧ wr.ownsRow w1.heap.size 3 1 (.slice (some ⟨w1.heap.size, 0, none⟩) n n) n (fillL count n k))
        case atStart => exact ⟨0, Nat.zero_le _, Nat.le_refl _, rfl, bel2, hout0⟩
        case round =>
          clear hout0 bel2
          obtain ⟨k, hk, hkx, rfl, bel, hoW⟩ := hrel
          by_cases hlt : k < n
          · have hltz : (k : Int) < (n : Int) := by omega
            have x1 : wr.cell? ⟨w1.heap.size, k, none⟩ = some (.int .i64 0) := by rw [hoW.cellAt k (by omega)]; exact fill_at hlt
            have x2 := hoW.frozenAt k
            obtain ⟨st1, st2⟩ := hoW.stored k (.int .i64 count)
            rw [fill_set hlt] at st1
            have bel3 : RowKit.Below w1.heap.size w1 (wr.setCell ⟨w1.heap.size, k, none⟩ (.int .i64 count)) := bel.grown st2 bel.size (fun q hq => by have e := Option.some.inj hq; omega)
            have zk : IntKind.i64.wrap ((k : Int) + 1) = (k : Int) + 1 := by rw [IntKind.wrap_i64]; omega
            clear hoW st2 bel
            go_wp2
            go_roundg (n - (k + 1))
            case measure => omega
            case rel => exact ⟨k + 1, hlt, Nat.le_refl _, rfl, bel3, st1⟩
          · have hltz : ¬ (k : Int) < (n : Int) := by omega
            obtain rfl : k = n := by omega
            have hat := ints_fill hoW
            clear hoW
            have hofw := HOF.out _ wr hat
            clear HOF hat
            go_wp2_with fail
            refine hofw.mono ?_
            rintro e w3 ⟨A, c, rfl, ho, b3⟩
            have bF := bstep b1 (bstep bel b3)
            clear hofw b1 bel b3 ho
            go_wp2
            all_goals go_ret
            all_goals first | exact ⟨rfl, bF⟩ | (exfalso; have := HN0.out; omega) | (exfalso; omega)
    · have d7 : decide (count > 0) = false := decide_eq_false c7
      obtain ⟨E, hE⟩ : ∃ E, errP (m : Int) (List.replicate n count) = E := ⟨_, rfl⟩
      have hval : E = 0 := by rw [← hE]; exact err_none c1 c2 (bad_none (.inr (by omega))) (by simp; omega) (by rw [single_rep, if_neg (by omega), HPS.out]; omega)
      subst hval
      have hof := fun (A : Option Addr) (W : World) (hat : IntsAt W A (List.replicate n count)) => of_goodI A n n (List.replicate n count) W (by simp) hat hE
      have HOF : Aside _ := hof
      clear hof hE hpow
      go_enter Try.func8, Try.ntmps8
      go_wp2_with fail
      refine (alive_call _).mono ?_
      rintro e w1 ⟨rfl, b1⟩
      go_wp2_with (first | (at_make; refine wpList_make_full _ rfl _ _ 22 rfl w1.heap.size 3 i3 (.int .i64 0) 1 Try.underlying22 hi3 hy0 hy1 .i64 .i64 _ _ n rfl rfl rfl rfl ?d1 ?d2 (Nat.le_refl _) ?_))
      case d1 => rw [hy2]; omega
      case d2 => unfold maxLen; omega
      intro w2 hout hg2
      have bel2 : RowKit.Below w1.heap.size w1 w2 := (Below.refl _ _).grown hg2 (Nat.le_refl _) (fun k hk => by cases hk)
      have hout0 := fill_start (c := count) hout
      clear hout hg2
      go_wp2_with fail
      go_loopg [8, 27] n (fun kx s8 s27 wr => ∃ k : Nat, k ≤ n ∧ n - k ≤ kx ∧ s27 = .int .i64 k ∧ RowKit.Below w1.heap.size w1 wr ∧ wr.ownsRow w1.heap.size 3 1 (.slice (some ⟨w1.heap.size, 0, none⟩) n n) n (fillL count n k))
      case atStart => exact ⟨0, Nat.zero_le _, Nat.le_refl _, rfl, bel2, hout0⟩
      case round =>
        clear hout0 bel2
        obtain ⟨k, hk, hkx, rfl, bel, hoW⟩ := hrel
        by_cases hlt : k < n
        · have hltz : (k : Int) < (n : Int) := by omega
          have x1 : wr.cell? ⟨w1.heap.size, k, none⟩ = some (.int .i64 0) := by rw [hoW.cellAt k (by omega)]; exact fill_at hlt
          have x2 := hoW.frozenAt k
          obtain ⟨st1, st2⟩ := hoW.stored k (.int .i64 count)
          rw [fill_set hlt] at st1
          have bel3 : RowKit.Below w1.heap.size w1 (wr.setCell ⟨w1.heap.size, k, none⟩ (.int .i64 count)) := bel.grown st2 bel.size (fun q hq => by have e := Option.some.inj hq; omega)
          have zk : IntKind.i64.wrap ((k : Int) + 1) = (k : Int) + 1 := by rw [IntKind.wrap_i64]; omega
          clear hoW st2 bel
          go_wp2
          go_roundg (n - (k + 1))
          case measure => omega
          case rel => exact ⟨k + 1, hlt, Nat.le_refl _, rfl, bel3, st1⟩
        · have hltz : ¬ (k : Int) < (n : Int) := by omega
          obtain rfl : k = n := by omega
          have hat := ints_fill hoW
          clear hoW
          have hofw := HOF.out _ wr hat
          clear HOF hat
          go_wp2_with fail
          refine hofw.mono ?_
          rintro e w3 ⟨A, c, rfl, ho, b3⟩
          have bF := bstep b1 (bstep bel b3)
          clear hofw b1 bel b3 ho
          go_wp2
          all_goals go_ret
          all_goals first | exact ⟨rfl, bF⟩ | (exfalso; have := HN0.out; omega) | (exfalso; omega)

theorem refuses_walk (most n count : Int) (w : World) (_ha : (Lit.int .i64 most).wf = true) (_hb : (Lit.int .i64 n).wf = true) (_hm : (Lit.int .i64 count).wf = true) :
    Calls Try.prog 8 #[.int .i64 most, .int .i64 n, .int .i64 count] w fun e w' => e = .returned (.bool true) ∧ RowKit.Below w.heap.size w w' := by
  clear _ha _hb _hm
  by_cases h1 : n < 0
  · have d1 : decide (n < 0) = true := decide_eq_true h1
    go_enter Try.func8, Try.ntmps8
    go_wp2_with fail
    refine (alive_call _).mono ?_
    rintro e w1 ⟨rfl, b1⟩
    go_wp2
    go_ret
    exact ⟨rfl, b1⟩
  by_cases h2 : n > 400
  · have d1 : decide (n < 0) = false := decide_eq_false h1
    have d2 : decide (n > 400) = true := decide_eq_true h2
    go_enter Try.func8, Try.ntmps8
    go_wp2_with fail
    refine (alive_call _).mono ?_
    rintro e w1 ⟨rfl, b1⟩
    go_wp2
    go_ret
    exact ⟨rfl, b1⟩
  obtain ⟨m, rfl⟩ : ∃ m : Nat, n = (m : Int) := ⟨n.toNat, by omega⟩
  exact refuses_in most count m w (by omega)
end Go.Proofs.Ythgidcfgelpkhaa
