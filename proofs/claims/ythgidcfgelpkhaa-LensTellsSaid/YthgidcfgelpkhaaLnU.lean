/- LensTells: the walk. -/
import Derived.Test.YthgidcfgelpkhaaLnT
import Derived.Test.YthgidcfgelpkhaaLwBnd
import Derived.Test.YthgidcfgelpkhaaArgs
set_option linter.unusedVariables false
set_option linter.unusedSimpArgs false
namespace Go.Proofs.Ythgidcfgelpkhaa
open Go Go.Shelf Go.RowKit Go.Lib Go.Sort Go.Proofs Go.Proofs.Ythgidcfgelpkhaa.Base
theorem row_ints {B : Nat} {w : World} {A : Option Addr} {k c : Nat} {R : List Int} (h : BkInts.Row B w (.slice A k c, R)) : k = R.length ∧ IntsAt w A R := by
  obtain ⟨A', c', e, ha⟩ := BkInts.row_at h
  injection e with e1 e2 e3
  subst e1
  exact ⟨e2, ha⟩
set_option maxHeartbeats 2000000 in
set_option maxRecDepth 100000 in
theorem tells_in (mo : Int) (E k : Nat) (R : List Int) (V : Option Addr) (n cap : Nat) (zs : List Int) (w : World) (hn : n = zs.length) (hn400 : n ≤ 400) (hat : IntsAt w V zs) (hk : k = R.length) (hkn : k ≤ n) (hcase : (E = 0 ∧ k = n) ∨ (E ≠ 0 ∧ k = 0))
    (hR : ∀ x ∈ R, 0 ≤ x ∧ x ≤ 1000) (hZ : E = 0 → ∀ z ∈ zs, 0 ≤ z ∧ z ≤ 4294967296)
    (hof : ∀ (W : World) (A : Option Addr) (c : Nat), IntsAt W A zs → Calls Try.prog 15 #[.int .i64 mo, .slice A n c] W fun e w' => ∃ L cl, e = .returned (.tuple #[.slice L k cl, .int .i64 (E : Int)]) ∧ BkInts.Row W.heap.size w' (.slice L k cl, R) ∧ RowKit.Below W.heap.size W w')
    (hrf : ∀ (W : World) (A : Option Addr) (c : Nat), IntsAt W A zs → Calls Try.prog 16 #[.int .i64 mo, .slice A n c] W fun e w' => ∃ L cl, e = .returned (.tuple #[.slice L k cl, .int .i64 (E : Int)]) ∧ BkInts.Row W.heap.size w' (.slice L k cl, R) ∧ RowKit.Below W.heap.size W w') :
    Calls Try.prog 3 #[.int .i64 mo, .slice V n cap] w fun e w' => e = .returned (.bool true) ∧ RowKit.Below w.heap.size w w' := by
  have mixed : Try.prog.follows .mixedOrders = true := by kernel_rfl
  have d400 : decide ((n : Int) > 400) = false := decide_eq_false (by omega)
  have d400b : decide (400 < n) = false := decide_eq_false (by omega)
  have dEE : ((E : Int) != (E : Int)) = false := by simp
  have HN : Hid (n = zs.length) := hn
  have HK : Hid (k = R.length) := hk
  have HR : Hid _ := hR
  have HZ : Hid _ := hZ
  have HC : Hid _ := hcase
  have OF : Aside _ := hof
  have RF : Aside _ := hrf
  clear hn hk hR hZ hof hrf hcase
  go_enter Try.func3, Try.ntmps3
  go_wp2_with fail
  refine (alive_call _).mono ?_
  rintro e w1 ⟨rfl, b1⟩
  have hat1 := hat.below b1
  go_wp2_with fail
  refine (lent_call V n cap zs w1 HN.out hat1 (by omega)).mono ?_
  rintro e w2 ⟨M, cm, rfl, rM, b2⟩
  have c2 := bstep b1 b2
  have rM2 := row_mono rM b1.size
  clear hat1 b1 b2 rM
  have lM := lent_of rM2 HN.out
  have hofw := OF.out w2 M cm lM.ints
  go_wp2_with fail
  refine hofw.mono ?_
  rintro e w3 ⟨L1, cl1, rfl, r1, b3⟩
  have rM3 := BkInts.Row.below rM2 b3
  have r13 := row_mono r1 c2.size
  have c3 := bstep c2 b3
  clear hofw rM2 r1 b3 c2 lM
  have hrfw := RF.out w3 V cap (hat.below c3)
  go_wp2_with fail
  refine hrfw.mono ?_
  rintro e w4 ⟨LR, clR, rfl, rR, b4⟩
  have rM4 := BkInts.Row.below rM3 b4
  have r14 := BkInts.Row.below r13 b4
  have rR4 := row_mono rR c3.size
  have c4 := bstep c3 b4
  clear hrfw rM3 r13 rR b4 c3
  have hbk : BkInts.Book w.heap.size (w4.alloc (.cells #[.slice none 0 0, .slice none 0 0, .slice none 0 0, .slice none 0 0, .slice none 0 0, .slice none 0 0, .slice none 0 0, .slice none 0 0, .slice none 0 0, .slice none 0 0] 36)) w4.heap.size [] := BkInts.Book.new c4.size
  have b5 := BkInts.below_alloc w4 (.cells #[.slice none 0 0, .slice none 0 0, .slice none 0 0, .slice none 0 0, .slice none 0 0, .slice none 0 0, .slice none 0 0, .slice none 0 0, .slice none 0 0, .slice none 0 0] 36)
  go_upto_region 7 with fail
  obtain ⟨pb, hpb⟩ : ∃ pb, w4.heap.size = pb := ⟨_, rfl⟩
  rw [hpb] at hbk ⊢
  obtain ⟨w5, hw5⟩ : ∃ x, w4.alloc (.cells #[.slice none 0 0, .slice none 0 0, .slice none 0 0, .slice none 0 0, .slice none 0 0, .slice none 0 0, .slice none 0 0, .slice none 0 0, .slice none 0 0, .slice none 0 0] 36) = x := ⟨_, rfl⟩
  rw [hw5] at hbk b5 ⊢
  clear hw5 hpb
  have rM5 := rM4.below b5
  have r15 := r14.below b5
  have rR5 := rR4.below b5
  have c5 := bstep c4 b5
  clear rM4 r14 rR4 c4 b5
  obtain ⟨V0, W0, cs0, hbk⟩ := hbk
  have ha1 := BkInts.add_call w5 hbk (by simp) r15 (fun y hy => by cases hy) (by show R.length ≤ _; have := HK.out; omega) c5.size
  clear hbk
  go_wp2_with fail
  refine ha1.mono ?_
  clear ha1
  rintro e w6 ⟨rfl, hbk, S6, b6⟩
  have rM6 := S6.row rM5 (by decide) (by decide)
  have rM6' : BkInts.Row w.heap.size w6 (.slice M (n + 1) cm, zs ++ [-77]) := rM6
  have r16 : BkInts.Row w.heap.size w6 (.slice L1 k cl1, R) := S6.row r15 (by decide) (by decide)
  have rR6 : BkInts.Row w.heap.size w6 (.slice LR k clR, R) := S6.row rR5 (by decide) (by decide)
  have c6 : RowKit.Below w.heap.size w w6 := c5.trans b6
  have hofw := OF.out w6 M cm (lent_of rM6' HN.out).ints
  clear rM5 r15 rR5 c5 b6 S6 rM6 OF RF
  go_wp2_with fail
  refine hofw.mono ?_
  clear hofw
  rintro e w7 ⟨L2, cl2, rfl, r2, b7⟩
  have hap : BkInts.Apt (.slice L1 k cl1) (.slice L2 k cl2) := fun g h1 h2 => by
    have q1 := own_lt r16 g h1
    have q2 := own_ge r2 g h2
    omega
  have rM7 := rM6'.below b7
  have r17 := r16.below b7
  have rR7 := rR6.below b7
  have hbk7 := hbk.below b7
  have r27 := row_mono r2 c6.size
  have c7 := bstep c6 b7
  clear rM6' r16 rR6 c6 b7 r2 hbk
  obtain ⟨V0, W0, cs0, hbk⟩ := hbk7
  have ha1 := BkInts.add_call w7 hbk (by simp) r27 (fun y hy => by rw [List.nil_append] at hy; rw [List.mem_singleton.1 hy]; exact hap) (by show R.length ≤ _; have := HK.out; omega) c7.size
  clear hbk
  go_wp2_with fail
  refine ha1.mono ?_
  clear ha1
  rintro e w8 ⟨rfl, hbk, S8, b8⟩
  have rM8 : BkInts.Row w.heap.size w8 (.slice M (n + 1) cm, zs ++ [-77]) := S8.row rM7 (by decide) (by decide)
  have r18 : BkInts.Row w.heap.size w8 (.slice L1 k cl1, R) := S8.row r17 (by decide) (by decide)
  have rR8 : BkInts.Row w.heap.size w8 (.slice LR k clR, R) := S8.row rR7 (by decide) (by decide)
  have c8 : RowKit.Below w.heap.size w w8 := c7.trans b8
  clear rM7 r17 rR7 c7 b8 S8 hap r27
  have hbk8 : BkInts.Book w.heap.size w8 pb [(.slice L1 k cl1, R), (.slice L2 k cl2, R)] := hbk
  clear hbk
  have hs1 := same_call L1 LR k k cl1 clR R R w8 HK.out HK.out (row_ints r18).2 (row_ints rR8).2 (by omega) (by omega)
  go_wp2_with fail
  refine hs1.mono ?_
  clear hs1
  rintro e w9 ⟨rfl, b9⟩
  have rM9 := rM8.below b9
  have r19 := r18.below b9
  have rR9 := rR8.below b9
  have hbk9 := hbk8.below b9
  have c9 := bstep c8 b9
  clear rM8 r18 rR8 hbk8 c8 b9
  have hs1 := stays_call M V n cm cap zs w9 HN.out (lent_of rM9 HN.out) (hat.below c9) (by omega)
  have tRR : decide (R = R) = true := by simp
  go_wp2_with fail
  refine hs1.mono ?_
  clear hs1
  rintro e w10 ⟨rfl, b10⟩
  have r1A := r19.below b10
  have rRA := rR9.below b10
  have hbkA := hbk9.below b10
  have cA := bstep c9 b10
  clear rM9 r19 rR9 hbk9 c9 b10 tRR
  obtain ⟨w0, rfl⟩ : ∃ x, x = w10 := ⟨_, rfl⟩
  have hatA := hat.below cA
  have hatR := (row_ints rRA).2
  clear hat
  go_wp2_with fail
  go_loopg [13, 68] k (fun kx s13 s68 wr => ∃ (j : Nat) (x : Int), j ≤ k ∧ k - j ≤ kx ∧ s68 = .int .i64 j ∧ s13 = .int .i64 x ∧ Hid (x = weightP (R.take j) (zs.take j)) ∧ RowKit.Below w0.heap.size w0 wr)
  case atStart => exact ⟨0, 0, Nat.zero_le _, Nat.le_refl _, rfl, rfl, (by simp [weightP] : (0 : Int) = weightP (R.take 0) (zs.take 0)), Below.refl _ _⟩
  case round =>
    obtain ⟨j, x, hjk, hkx, rfl, rfl, HE, bel⟩ := hrel
    by_cases hlt : j < k
    · have hltz : (j : Int) < (k : Int) := by omega
      have q1 := HK.out
      have q2 := HN.out
      have hE0 : E = 0 := by have := HC.out; omega
      obtain ⟨ba, oa, rfl, _, ca⟩ := hatR (by omega)
      obtain ⟨bv, ov, rfl, _, cv⟩ := hatA (by omega)
      have l1 := pw_cell_below bel (ca j (by omega))
      have l2 := pw_cell_below bel (cv j (by omega))
      have hT := weightP_take R zs j (by omega) (by omega)
      have hb1 := HR.out _ (getD_mem (xs := R) (k := j) (by omega))
      have hb2 := HZ.out hE0 _ (getD_mem (xs := zs) (k := j) (by omega))
      have hb3 := weightP_bound (R.take j) (zs.take j) (fun x hx => HR.out x (List.mem_of_mem_take hx)) (fun x hx => HZ.out hE0 x (List.mem_of_mem_take hx))
      rw [List.length_take_of_le (by omega), ← HE.out] at hb3
      rw [← HE.out] at hT
      generalize R.getD j 0 = X at l1 hT hb1
      generalize zs.getD j 0 = Z at l2 hT hb2
      have m1 : 0 ≤ X * Z := Int.mul_nonneg hb1.1 hb2.1
      have m2 : X * Z ≤ 1000 * 4294967296 := Int.mul_le_mul hb1.2 hb2.2 hb2.1 (by omega)
      have w1' : IntKind.i64.wrap (X * Z) = X * Z := by rw [IntKind.wrap_i64]; omega
      have w2' : IntKind.i64.wrap (x + X * Z) = x + X * Z := by rw [IntKind.wrap_i64]; omega
      have HT : Hid _ := hT
      have lt1 : (j : Int) < (k : Int) := by omega
      have lt2 : (j : Int) < (n : Int) := by omega
      have zk : IntKind.i64.wrap ((j : Int) + 1) = (j : Int) + 1 := by rw [IntKind.wrap_i64]; omega
      clear ca cv hatR hatA hT hb1 hb2 hb3 m1 m2 q1 q2 hE0
      go_wp2_with fail
      go_quiet_o (fail)
      have bel2 : RowKit.Below w0.heap.size w0 _ := below_drewN' bel nq
      clear bel
      go_wp2
      go_roundg (k - (j + 1))
      case measure => omega
      case rel => exact ⟨j + 1, _, hlt, Nat.le_refl _, rfl, rfl, HT.out.symm, bel2⟩
    · have hltz : ¬ (j : Int) < (k : Int) := by omega
      obtain rfl : j = k := by omega
      obtain ⟨w11, rfl⟩ : ∃ x, x = wr := ⟨_, rfl⟩
      have r1B := r1A.below bel
      have rRB := rRA.below bel
      have hbkB := hbkA.below bel
      have hatB := hatA.below bel
      have cB := bstep cA bel
      clear r1A rRA hbkA hatA cA bel hatR hkx
      by_cases hE0 : E = 0
      · subst hE0
        have hjn : j = n := by have := HC.out; omega
        have hfin : Hid (x = weightP R zs) := by
          show _ = _
          rw [HE.out, HK.out, List.take_length, show R.length = zs.length by rw [← HK.out, ← HN.out]; exact hjn, List.take_length]
        have d0 : (((0 : Nat) : Int) != 0) = false := rfl
        have hw := weight_call L1 V j n cl1 cap R zs w11 HK.out HN.out (row_ints r1B).2 hatB (by omega) (by omega) HR.out (HZ.out rfl)
        rw [← hfin.out] at hw
        have hxx : (x == x) = true := by simp
        clear hatB HE hjn hfin
        go_wp2_with fail
        refine hw.mono ?_
        clear hw
        rintro e w12 ⟨rfl, b12⟩
        have r1C := r1B.below b12
        have rRC := rRB.below b12
        have hbkC := hbkB.below b12
        have cC := bstep cB b12
        clear r1B rRB hbkB cB b12
        have hw := kraft_call L1 j cl1 R w12 HK.out (row_ints r1C).2 (by omega)
        obtain ⟨KP, hKP⟩ : ∃ KP, kraftP R = KP := ⟨_, rfl⟩
        rw [hKP] at hw
        go_wp2_with fail
        refine hw.mono ?_
        clear hw
        rintro e w13 ⟨rfl, b13⟩
        have rRD := rRC.below b13
        have hbkD := hbkC.below b13
        have cD := bstep cC b13
        clear r1C rRC hbkC cC b13
        have hw := refKraft_call LR j clR R w13 HK.out (row_ints rRD).2 (by omega)
        rw [hKP] at hw
        have hkk : (KP == KP) = true := by simp
        clear hKP
        go_wp2_with fail
        refine hw.mono ?_
        clear hw
        rintro e w14 ⟨rfl, b14⟩
        have hbkE := hbkD.below b14
        have cE := bstep cD b14
        clear rRD hbkD cD b14
        have hw := BkInts.apart_call w14 hbkE (by simp) (fun y hy => by simp at hy; have := HK.out; rcases hy with rfl | rfl <;> (show R.length ≤ _; omega)) cE.size
        go_wp2_with fail
        refine hw.mono ?_
        clear hw
        rintro e w15 ⟨rfl, b15⟩
        have cF := cE.trans b15
        clear cE b15 hbkE
        go_wp2
        go_ret
        exact ⟨rfl, cF⟩
      · have d0 : ((E : Int) != 0) = true := by simp; omega
        have hw := BkInts.apart_call w11 hbkB (by simp) (fun y hy => by simp at hy; have := HK.out; rcases hy with rfl | rfl <;> (show R.length ≤ _; omega)) cB.size
        clear hbkB hatB r1B rRB HE
        go_wp2_with fail
        refine hw.mono ?_
        clear hw
        rintro e w15 ⟨rfl, b15⟩
        have cF := cB.trans b15
        clear cB b15
        go_wp2
        go_ret
        exact ⟨rfl, cF⟩
theorem tells_walk (mo : Int) (V : Option Addr) (n cap : Nat) (zs : List Int) (w : World) (_hm : (Lit.int .i64 mo).wf = true) (hin : Args.IntsIn .i64 w V n cap zs) :
    Calls Try.prog 3 #[.int .i64 mo, .slice V n cap] w fun e w' => e = .returned (.bool true) ∧ RowKit.Below w.heap.size w w' := by
  have hat := intsAt_of hin
  have hn : n = zs.length := hin.len.symm
  have hsz := hin.size
  clear _hm hin
  by_cases hbig : n > 400
  · have d1 : decide ((n : Int) > 400) = true := decide_eq_true (by omega)
    have d1b : decide (400 < n) = true := decide_eq_true hbig
    clear hat hn
    go_enter Try.func3, Try.ntmps3
    go_wp2_with fail
    refine (alive_call _).mono ?_
    rintro e w1 ⟨rfl, b1⟩
    go_wp2
    go_ret
    exact ⟨rfl, b1⟩
  · by_cases hE : errP mo zs = 0
    · obtain ⟨m, hmo, h1, h15, hbad, h5, _⟩ := err_zero hE
      subst hmo
      have hlen : (intsOf (lensP m zs)).length = n := by rw [intsOf_length, lensP_length, hn]
      have post : ∀ {e : Ending} {W w' : World}, OfPost W n (m : Int) zs e w' → ∃ L cl, e = .returned (.tuple #[.slice L n cl, .int .i64 ((0 : Nat) : Int)]) ∧ BkInts.Row W.heap.size w' (.slice L n cl, intsOf (lensP m zs)) ∧ RowKit.Below W.heap.size W w' := by
        rintro e W w' ⟨hb, ⟨h0, _⟩ | ⟨_, A, c, rfl, ho⟩⟩
        · exact absurd hE h0
        · refine ⟨A, c, rfl, ?_, hb⟩
          show World.ownsRow _ _ _ _ _ _ _
          rw [hlen]
          have e : (intsOf (lensP m zs)).map (Value.int .i64) = (lensP m zs).map symV := by unfold intsOf; rw [List.map_map]; rfl
          show w'.ownsRow W.heap.size 3 1 (.slice A n c) n ((intsOf (lensP m zs)).map (Value.int .i64))
          rw [e]; rw [Int.toNat_natCast] at ho; exact ho
      exact tells_in (m : Int) 0 n (intsOf (lensP m zs)) V n cap zs w hn (by omega) hat hlen.symm (Nat.le_refl _) (.inl ⟨rfl, rfl⟩) (fun x hx => by have := lens_small hE x hx; omega) (fun _ z hz => by have := bad_each hbad z hz; omega)
        (fun W A c h => (of_call m A n c zs W hn h (by omega)).mono fun e w' => post) (fun W A c h => (ref_call m A n c zs W hn h (by omega)).mono fun e w' => post)
    · have post : ∀ {e : Ending} {W w' : World}, OfPost W n mo zs e w' → ∃ L cl, e = .returned (.tuple #[.slice L 0 cl, .int .i64 ((errP mo zs : Nat) : Int)]) ∧ BkInts.Row W.heap.size w' (.slice L 0 cl, []) ∧ RowKit.Below W.heap.size W w' := by
        rintro e W w' ⟨hb, ⟨_, rfl⟩ | ⟨h0, _⟩⟩
        · exact ⟨none, 0, rfl, World.ownsRow_nil _ _ _ _, hb⟩
        · exact absurd h0 hE
      exact tells_in mo (errP mo zs) 0 [] V n cap zs w hn (by omega) hat rfl (Nat.zero_le _) (.inr ⟨hE, rfl⟩) (fun x hx => by cases hx) (fun h => absurd h hE)
        (fun W A c h => (of_call mo A n c zs W hn h (by omega)).mono fun e w' => post) (fun W A c h => (ref_call mo A n c zs W hn h (by omega)).mono fun e w' => post)
end Go.Proofs.Ythgidcfgelpkhaa
