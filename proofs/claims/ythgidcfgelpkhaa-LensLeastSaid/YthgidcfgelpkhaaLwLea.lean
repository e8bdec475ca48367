/- LensLeast: the walk. -/
import Derived.Test.YthgidcfgelpkhaaLwBnd
import Derived.Test.YthgidcfgelpkhaaLpL
set_option linter.unusedVariables false
set_option linter.unusedSimpArgs false
namespace Go.Proofs.Ythgidcfgelpkhaa
open Go Go.Shelf Go.RowKit Go.Lib Go.Sort Go.Proofs Go.Proofs.Ythgidcfgelpkhaa.Base

theorem lens_pos {mo : Nat} {zs : List Int} (h1 : 1 ≤ mo) (hfit : Fits mo zs) {s : Nat} (hs : s < zs.length) (h0 : 0 < zs.getD s 0) : 1 ≤ (lensP mo zs).getD s 0 ∧ (lensP mo zs).getD s 0 ≤ mo := by
  obtain ⟨r, hr, e⟩ := rank_of hs h0
  have a := lens_rank hfit hr
  rw [e] at a
  have p2 := lenAt_le (takesP mo zs) r
  rw [takes_length h1] at p2
  refine ⟨?_, by omega⟩
  by_cases hm : (singleP zs).length ≤ 2
  · rw [lens_few h1 hm hs h0]; exact Nat.le_refl _
  · have hh := head_takes (by omega) hfit
    have p1 := lenAt_pos (T := takesP mo zs) (r := r) (by rw [hh, ← syms_length]; exact hr)
    omega
theorem turned_small {mo : Nat} {zs : List Int} (he : errP (mo : Int) zs = 0) : ∀ x ∈ turnedP zs (lensP mo zs), 0 ≤ x ∧ x ≤ 1000 := by
  intro x hx
  rw [turned_eq] at hx
  obtain ⟨y, hy, rfl⟩ := List.mem_map.1 hx
  obtain ⟨s, hs, rfl⟩ := List.mem_map.1 hy
  obtain ⟨m, hm, h1, h15, _, _, hf⟩ := err_zero he
  obtain rfl : mo = m := by omega
  split
  · have hall := lens_le h1 (fits_of h1 hf)
    generalize (thereP zs).getD ((thereP zs).length - 1 - (thereP zs).idxOf s) 0 = i
    rw [List.getD_eq_getElem?_getD]
    by_cases h : i < (lensP mo zs).length
    · rw [List.getElem?_eq_getElem h, Option.getD_some]
      have := hall _ (List.getElem_mem h)
      omega
    · rw [List.getElem?_eq_none (by omega)]; simp
  · simp
theorem ints_sym {B : Nat} {w : World} {A : Option Addr} {n c : Nat} {xs : List Nat} (h : w.ownsRow B 3 1 (.slice A n c) n (xs.map symV)) : IntsAt w A (intsOf xs) := (ints_of_own h).2

set_option maxHeartbeats 1000000 in
set_option maxRecDepth 100000 in
theorem least_good (V O : Option Addr) (n cap no co mo : Nat) (zs os : List Int) (w : World) (hn : n = zs.length) (hno : no = os.length) (hn60 : n ≤ 60) (hno60 : no ≤ 60) (hat : IntsAt w V zs) (hot : IntsAt w O os) (he : errP (mo : Int) zs = 0) :
    Calls Try.prog 4 #[.int .i64 mo, .slice V n cap, .slice O no co] w fun e w' => e = .returned (.bool true) ∧ RowKit.Below w.heap.size w w' := by
  have mixed : Try.prog.follows .mixedOrders = true := by kernel_rfl
  obtain ⟨i3, hi3, hy0, hy1, hy2⟩ := info_parts info3
  have d1 : decide ((n : Int) > 60) = false := decide_eq_false (by omega)
  have d2 : decide ((no : Int) > 60) = false := decide_eq_false (by omega)
  obtain ⟨m', hm', hm1, hm15, hbad, _, hfit⟩ := err_zero he
  obtain rfl : mo = m' := by omega
  have hfits := fits_of hm1 hfit
  have hzb : ∀ z ∈ zs, 0 ≤ z ∧ z ≤ 4294967296 := fun z hz => by have := bad_each hbad z hz; omega
  have HL : Hid (∀ s, s < n → (0 < zs.getD s 0 → 1 ≤ (lensP mo zs).getD s 0 ∧ (lensP mo zs).getD s 0 ≤ mo) ∧ (¬ 0 < zs.getD s 0 → (lensP mo zs).getD s 0 = 0)) := by
    show ∀ s, _
    intro s hs
    exact ⟨fun h => lens_pos hm1 hfits (by omega) h, fun h => lens_none (by omega) h⟩
  have OF : Aside (∀ (zs : List Int) (A : Option Addr) (cap : Nat), zs.length = n → errP (mo : Int) zs = 0 → ∀ W, IntsAt W A zs → Calls Try.prog 15 #[.int .i64 mo, .slice A n cap] W fun e w' => ∃ A c, e = .returned (.tuple #[.slice A n c, .int .i64 0]) ∧ IntsAt w' A (intsOf (lensP mo zs)) ∧ RowKit.Below W.heap.size W w') := by
    intro zs A cap hz he W h
    refine (of_good A n cap zs W hz.symm h he).mono ?_
    rintro e w' ⟨A, c, rfl, ho, hb⟩
    exact ⟨A, c, rfl, ints_sym ho, hb⟩
  have WT : Aside (∀ (xs zs : List Int) (A V : Option Addr) (c1 c2 : Nat), xs.length = n → zs.length = n → (∀ x ∈ xs, 0 ≤ x ∧ x ≤ 1000) → (∀ z ∈ zs, 0 ≤ z ∧ z ≤ 4294967296) → ∀ W, IntsAt W A xs → IntsAt W V zs → Calls Try.prog 20 #[.slice A n c1, .slice V n c2] W fun e w' => e = .returned (.int .i64 (weightP xs zs)) ∧ RowKit.Below W.heap.size W w') :=
    fun xs zs A V c1 c2 h1 h2 h3 h4 W h5 h6 => weight_call A V n n c1 c2 xs zs W h1.symm h2.symm h5 h6 (by omega) (by omega) h3 h4
  have KR : Aside (∀ (xs : List Int) (A : Option Addr) (c : Nat), xs.length = n → ∀ W, IntsAt W A xs → Calls Try.prog 21 #[.slice A n c] W fun e w' => e = .returned (.int .i64 (kraftP xs)) ∧ RowKit.Below W.heap.size W w') :=
    fun xs A c h1 W h2 => kraft_call A n c xs W h1.symm h2 (by omega)
  have HLB : Hid (∀ x ∈ intsOf (lensP mo zs), 0 ≤ x ∧ x ≤ 1000) := by
    show ∀ x ∈ _, _
    intro x hx
    have := lens_small he x hx
    omega
  have HZB : Hid _ := hzb
  have HLN : Hid ((intsOf (lensP mo zs)).length = n) := by show _ = _; rw [intsOf_length, lensP_length, hn]
  have HN : Hid (n = zs.length) := hn
  have HNO : Hid (no = os.length) := hno
  have HE : Hid _ := he
  have HTN : Hid ((thereP zs).length = (singleP zs).length) := there_length zs
  have hofw := fun W (h : IntsAt W V zs) => OF.out zs V cap hn.symm he W h
  have HOFW : Aside _ := hofw
  clear hofw he hn hno hzb hfits hfit hbad hm'
  go_enter Try.func4, Try.ntmps4
  go_wp2_with fail
  refine (alive_call _).mono ?_
  rintro e w1 ⟨rfl, b1⟩
  have hat1 := hat.below b1
  have hot1 := hot.below b1
  have ha := HOFW.out w1 hat1
  clear HOFW hat hot
  go_wp2_with fail
  refine ha.mono ?_
  rintro e w2 ⟨A, cA, rfl, hA, b2⟩
  have hat2 := hat1.below b2
  have hot2 := hot1.below b2
  have b3 := bstep b1 b2
  clear ha hat1 hot1 b1 b2
  have dnn : ((n : Int) != (n : Int)) = false := by simp
  go_wp2
  go_loopg [9, 54] n (fun kx s9 s54 wr => ∃ k : Nat, k ≤ n ∧ n - k ≤ kx ∧ s54 = .int .i64 k ∧ s9 = .int .i64 ((thereP (zs.take k)).length : Int) ∧ w2 = wr)
  case atStart => exact ⟨0, Nat.zero_le _, Nat.le_refl _, rfl, by simp [thereP, rawFrom], rfl⟩
  case round =>
    obtain ⟨k, hk, hkx, rfl, rfl, rfl⟩ := hrel
    by_cases hlt : k < n
    · have hltz : (k : Int) < (n : Int) := by omega
      have q1 := HN.out
      have q2 := HLN.out
      obtain ⟨bv, ov, rfl, -, cv⟩ := hat2 (by omega)
      obtain ⟨ba, oa, rfl, -, ca⟩ := hA (by omega)
      have x1 := cv k (by omega)
      have y1 := ca k (by omega)
      rw [intsOf_getD] at y1
      have hl := HL.out k hlt
      have hst := there_take (zs := zs) (k := k) (by omega)
      have hle : (thereP (zs.take k)).length ≤ k := by
        rw [there_length]
        refine Nat.le_trans (singleP_le _) ?_
        rw [List.length_take]; omega
      obtain ⟨P, hP⟩ : ∃ P : Int, (((lensP mo zs).getD k 0 : Nat) : Int) = P := ⟨_, rfl⟩
      have hl2 : (0 < zs.getD k 0 → 1 ≤ P ∧ P ≤ mo) ∧ (¬ 0 < zs.getD k 0 → P = 0) := by
        refine ⟨fun h => ?_, fun h => ?_⟩
        · have := hl.1 h; omega
        · have := hl.2 (by omega); omega
      rw [hP] at y1
      generalize zs.getD k 0 = Z at x1 hl2 hst
      obtain ⟨t, ht⟩ : ∃ t, (thereP (zs.take k)).length = t := ⟨_, rfl⟩
      rw [ht] at hle ⊢
      have zk : IntKind.i64.wrap ((k : Int) + 1) = (k : Int) + 1 := by rw [IntKind.wrap_i64]; omega
      have zt : IntKind.i64.wrap ((t : Int) + 1) = (t : Int) + 1 := by rw [IntKind.wrap_i64]; omega
      by_cases hZ : Z > 0
      · have t1 : decide (Z > 0) = true := decide_eq_true hZ
        have t2 : decide (P < 0) = false := decide_eq_false (by have := hl2.1 hZ; omega)
        have t3 : decide (P > (mo : Int)) = false := decide_eq_false (by have := hl2.1 hZ; omega)
        have t4 : decide (P > 0) = true := decide_eq_true (by have := hl2.1 hZ; omega)
        have hT : Hid (((thereP (zs.take (k + 1))).length : Int) = (t : Int) + 1) := by
          show _ = _
          rw [hst, if_pos hZ, List.length_append, ht]; rfl
        clear hl hl2 hst hP ht cv ca q1 q2
        go_wp2
        go_roundg (n - (k + 1))
        case measure => omega
        case rel => exact ⟨k + 1, hlt, Nat.le_refl _, rfl, by rw [hT.out], rfl⟩
      · have t1 : decide (Z > 0) = false := decide_eq_false hZ
        have t2 : decide (P < 0) = false := decide_eq_false (by have := hl2.2 hZ; omega)
        have t3 : decide (P > (mo : Int)) = false := decide_eq_false (by have := hl2.2 hZ; omega)
        have t4 : decide (P > 0) = false := decide_eq_false (by have := hl2.2 hZ; omega)
        have hT : Hid (((thereP (zs.take (k + 1))).length : Int) = (t : Int)) := by
          show _ = _
          rw [hst, if_neg hZ, List.append_nil, ht]
        clear hl hl2 hst hP ht cv ca q1 q2
        go_wp2
        go_roundg (n - (k + 1))
        case measure => omega
        case rel => exact ⟨k + 1, hlt, Nat.le_refl _, rfl, by rw [hT.out], rfl⟩
    · have hltz : ¬ (k : Int) < (n : Int) := by omega
      obtain rfl : k = n := by omega
      have hT : (thereP (zs.take k)).length = (thereP zs).length := by rw [HN.out, List.take_length]
      obtain ⟨N, hNN⟩ : ∃ N, (thereP zs).length = N := ⟨_, rfl⟩
      rw [hT, hNN]
      have HNN : Hid ((thereP zs).length = N) := hNN
      have hN60 : N ≤ 60 := by
        rw [← hNN, HTN.out]
        have := singleP_le zs
        have q := HN.out
        omega
      clear hT hNN
      by_cases h2 : N < 2
      · have t1 : decide ((N : Int) < 2) = true := decide_eq_true (by omega)
        have hw := WT.out _ zs A V cA cap HLN.out HN.out.symm HLB.out HZB.out w2 hA hat2
        have hw0 := (weightP_bound _ zs HLB.out HZB.out).1
        generalize weightP (intsOf (lensP mo zs)) zs = Wt at hw hw0
        have t2 : decide (Wt ≥ 0) = true := decide_eq_true hw0
        clear hA hat2 hot2 hw0
        go_wp2_with fail
        refine hw.mono ?_
        rintro e w3 ⟨rfl, b4⟩
        have b5 := bstep b3 b4
        clear hw b3 b4
        go_wp2
        go_ret
        exact ⟨rfl, b5⟩
      · have t1 : decide ((N : Int) < 2) = false := decide_eq_false (by omega)
        obtain ⟨p1, p2, p3, p4, p5, p6⟩ := least_all (os := os) HE.out (by rw [← HTN.out, HNN.out]; omega)
        have hkr := KR.out _ A cA HLN.out w2 hA
        rw [p2] at hkr
        have HP : Hid _ := And.intro p1 (And.intro p3 (And.intro p4 (And.intro p5 p6)))
        clear p1 p2 p3 p4 p5 p6
        go_wp2_with fail
        refine hkr.mono ?_
        rintro e w3 ⟨rfl, b4⟩
        have hA3 := hA.below b4
        have hat3 := hat2.below b4
        have hot3 := hot2.below b4
        have b5 := bstep b3 b4
        clear hkr hA hat2 hot2 b3 b4
        go_wp2
        go_loopg [12, 13, 95] k (fun kx s12 s13 s95 wr => ∃ j : Nat, j ≤ k ∧ k - j ≤ kx ∧ s95 = .int .i64 j ∧ wr.ownsRow w3.heap.size 3 1 s12 (thereP (zs.take j)).length ((thereP (zs.take j)).map symV) ∧ RowKit.Below w3.heap.size w3 wr)
        case atStart => exact ⟨0, Nat.zero_le _, Nat.le_refl _, rfl, by simpa [thereP, rawFrom] using World.ownsRow_nil _ _ _ _, Below.refl _ _⟩
        case round =>
          obtain ⟨j, hj, hkx2, rfl, hoT, b6⟩ := hrel
          obtain ⟨AT, cT, rfl, -⟩ := own_form hoT
          by_cases hlt2 : j < k
          · have hltz2 : (j : Int) < (k : Int) := by omega
            have q1 := HN.out
            obtain ⟨bv, ov, rfl, -, cv⟩ := hat3 (by omega)
            have x1 := pw_cell_below b6 (cv j (by omega))
            have hst := there_take (zs := zs) (k := j) (by omega)
            generalize zs.getD j 0 = Z at x1 hst
            have zk : IntKind.i64.wrap ((j : Int) + 1) = (j : Int) + 1 := by rw [IntKind.wrap_i64]; omega
            have hle : (thereP (zs.take j)).length ≤ j := by
              rw [there_length]
              refine Nat.le_trans (singleP_le _) ?_
              rw [List.length_take]; omega
            clear cv q1
            by_cases hZ : Z > 0
            · have t1 : decide (Z > 0) = true := decide_eq_true hZ
              rw [if_pos hZ] at hst
              have HST : Hid _ := hst
              have hsz := b6.size
              have b7 : RowKit.Below w3.heap.size w3 (wr.alloc (.cells #[.int .i64 (j : Int)] 3)) := balloc b6 _
              have hoT2 := hoT.alloc (.cells #[.int .i64 (j : Int)] 3)
              have hsz2 : w3.heap.size ≤ (wr.alloc (.cells #[.int .i64 (j : Int)] 3)).heap.size := b7.size
              clear hst
              go_wp2_with (first | (at_builtin; refine wpList_append_own _ rfl (.tmp 103) (.tmp 105) 22 rfl w3.heap.size 3 i3 _ 1 8 Try.underlying22 hi3 hy0 hy1 hy2 rfl (by decide) _ (thereP (zs.take j)).length ((thereP (zs.take j)).map symV) rfl hoT2 ⟨wr.heap.size, 0, none⟩ 1 1 [symV j] rfl rfl ?e1 ?e2 ?e3 ?e4 hsz2 ?_))
              case e1 =>
                intro q u hq
                rw [Addr.add_lit, Nat.zero_add]
                exact cell_of (heap_new wr _) (by simpa [symV] using hq)
              case e2 => intro u hu; rw [List.mem_singleton.1 hu]; rfl
              case e3 => unfold maxLen; omega
              case e4 => omega
              intro v3 w4 ho4 hg4 _
              have b8 : RowKit.Below w3.heap.size w3 w4 := b7.grown hg4 hsz2 (own_ge hoT2)
              have ho5 : w4.ownsRow w3.heap.size 3 1 v3 (thereP (zs.take (j + 1))).length ((thereP (zs.take (j + 1))).map symV) := by
                rw [HST.out, List.length_append, List.map_append]
                exact ho4
              obtain ⟨A5, c5, rfl, -⟩ := own_form ho5
              clear hoT hoT2 b6 b7 hg4 ho4 HST hle
              go_wp2
              go_roundg (k - (j + 1))
              case measure => omega
              case rel => exact ⟨j + 1, hlt2, Nat.le_refl _, rfl, ho5, b8⟩
            · have t1 : decide (Z > 0) = false := decide_eq_false hZ
              rw [if_neg hZ, List.append_nil] at hst
              have HST : Hid _ := hst
              clear hst hle
              go_wp2
              go_roundg (k - (j + 1))
              case measure => omega
              case rel => exact ⟨j + 1, hlt2, Nat.le_refl _, rfl, by rw [HST.out]; exact hoT, b6⟩
          · have hltz2 : ¬ (j : Int) < (k : Int) := by omega
            obtain rfl : j = k := by omega
            rw [show zs.take j = zs by rw [HN.out, List.take_length], HNN.out] at hoT ⊢
            obtain ⟨W, rfl⟩ : ∃ x, x = wr := ⟨_, rfl⟩
            have hTT := ints_sym hoT
            have hA4 := hA3.below b6
            have hat4 := hat3.below b6
            have hot4 := hot3.below b6
            have b7 := bstep b5 b6
            clear hA3 hat3 hot3 b5 b6 hoT
            go_wp2_with (first | (at_make; refine wpList_make_full _ rfl _ _ 22 rfl W.heap.size 3 i3 (.int .i64 0) 1 Try.underlying22 hi3 hy0 hy1 .i64 .i64 _ _ j rfl rfl rfl rfl ?d1 ?d2 (Nat.le_refl _) ?_))
            case d1 => omega
            case d2 => unfold maxLen; omega
            intro w5 hout hg5
            have b8 : RowKit.Below W.heap.size W w5 := (Below.refl _ _).grown hg5 (Nat.le_refl _) (fun q hq => by cases hq)
            have hoC : w5.ownsRow W.heap.size 3 1 (.slice (some ⟨W.heap.size, 0, none⟩) j j) j ((laidL j (thereP zs) (fun i => 1 + addP os i) 0).map (Value.int .i64)) := by
              have e : (laidL j (thereP zs) (fun i => 1 + addP os i) 0).map (Value.int .i64) = (madeCells #[Value.int .i64 0] j).toList := by
                rw [laid_zero, toList_madeCells_one]
                simp
              rw [e]; exact hout
            clear hout hg5
            go_wp2
            go_loopg [15, 16, 113] N (fun kx s15 s16 s113 wr => ∃ q : Nat, q ≤ N ∧ N - q ≤ kx ∧ s113 = .int .i64 q ∧ wr.ownsRow W.heap.size 3 1 (.slice (some ⟨W.heap.size, 0, none⟩) j j) j ((laidL j (thereP zs) (fun i => 1 + addP os i) q).map (Value.int .i64)) ∧ RowKit.Below W.heap.size W wr)
            case atStart => exact ⟨0, Nat.zero_le _, Nat.le_refl _, rfl, hoC, b8⟩
            case round =>
              clear hoC b8
              obtain ⟨q, hq, hkx3, rfl, hoC, b8⟩ := hrel
              by_cases hlt3 : q < N
              · have hltz3 : (q : Int) < (N : Int) := by omega
                have q1 := HNN.out
                obtain ⟨bt, ot, rfl, -, ct⟩ := hTT (by rw [intsOf_length]; omega)
                have x1 := pw_cell_below b8 (ct q (by rw [intsOf_length]; omega))
                rw [intsOf_getD] at x1
                have hqT : q < (thereP zs).length := by omega
                have hgd : (thereP zs).getD q 0 = (thereP zs)[q] := by rw [List.getD_eq_getElem?_getD, List.getElem?_eq_getElem hqT]; rfl
                have hsn : (thereP zs)[q] < j := by
                  have := (mem_there.1 (List.getElem_mem hqT)).1
                  have := HN.out
                  omega
                have hset : (laidL j (thereP zs) (fun i => 1 + addP os i) q).set (thereP zs)[q] (1 + addP os q) = laidL j (thereP zs) (fun i => 1 + addP os i) (q + 1) := laid_set (there_nodup zs) hqT
                rw [hgd] at x1
                generalize (thereP zs)[q] = s at x1 hsn hset
                have hsz : (s : Int) < (j : Int) := by omega
                obtain ⟨u1, u2⟩ := hoC.stored s (.int .i64 1)
                have c0 : wr.cell? ⟨W.heap.size, s, none⟩ = some (.int .i64 ((laidL j (thereP zs) (fun i => 1 + addP os i) q).getD s 0)) := by
                  rw [hoC.cellAt s (by omega), List.getElem?_map, List.getD_eq_getElem?_getD, List.getElem?_eq_getElem (by rw [laid_length]; omega)]
                  rfl
                generalize (laidL j (thereP zs) (fun i => 1 + addP os i) q).getD s 0 = old at c0
                have c1 := hoC.frozenAt s
                have zk : IntKind.i64.wrap ((q : Int) + 1) = (q : Int) + 1 := by rw [IntKind.wrap_i64]; omega
                have b9 : RowKit.Below W.heap.size W (wr.setCell ⟨W.heap.size, s, none⟩ (.int .i64 1)) := b8.grown u2 b8.size (fun r hr => by have e := Option.some.inj hr; omega)
                clear q1 ct hgd hqT
                by_cases hqo : q < no
                · have hltz4 : (q : Int) < (no : Int) := by omega
                  have q3 := HNO.out
                  obtain ⟨bo, oo, rfl, -, co'⟩ := hot4 (by omega)
                  have x2 := pw_cell_below b9 (co' q (by omega))
                  have hadd : addP os q = min (max (os.getD q 0) 0) 1048576 := if_pos (by omega)
                  generalize os.getD q 0 = Y at x2 hadd
                  obtain ⟨a, ha⟩ : ∃ a, min (max Y 0) 1048576 = a := ⟨_, rfl⟩
                  rw [ha] at hadd
                  have HAA : Hid (min (max Y 0) 1048576 = a) := ha
                  have har : 0 ≤ a ∧ a ≤ 1048576 := by omega
                  have za : IntKind.i64.wrap (1 + a) = 1 + a := by rw [IntKind.wrap_i64]; omega
                  have c2 : (wr.setCell ⟨W.heap.size, s, none⟩ (.int .i64 1)).cell? ⟨W.heap.size, s, none⟩ = some (.int .i64 1) := cell_same c0
                  have c3 : (wr.setCell ⟨W.heap.size, s, none⟩ (.int .i64 1)).frozen? ⟨W.heap.size, s, none⟩ = false := u1.frozenAt s
                  have fin : ∀ X, X = (wr.setCell ⟨W.heap.size, s, none⟩ (.int .i64 1)).drew.setCell ⟨W.heap.size, s, none⟩ (.int .i64 (1 + a)) → X.ownsRow W.heap.size 3 1 (.slice (some ⟨W.heap.size, 0, none⟩) j j) j ((laidL j (thereP zs) (fun i => 1 + addP os i) (q + 1)).map (Value.int .i64)) ∧ RowKit.Below W.heap.size W X := by
                    rintro X rfl
                    obtain ⟨v1, v2⟩ := World.ownsRow.stored (w := (wr.setCell ⟨W.heap.size, s, none⟩ (.int .i64 1)).drew) u1 s (.int .i64 (1 + a))
                    refine ⟨?_, RowKit.Below.grown (drewN_below b9 1) v2 b9.size (fun r hr => by have e := Option.some.inj hr; omega)⟩
                    rw [← hset, hadd, List.map_set]
                    rw [List.set_set] at v1
                    exact v1
                  have FIN : Aside _ := fin
                  clear fin hset hadd ha u1 u2 co' q3 hoC b8
                  go_wp2_with fail
                  go_big_region_o
                  all_goals go_wp2
                  go_roundg (N - (q + 1))
                  case measure => omega
                  case rel => exact ⟨q + 1, hlt3, Nat.le_refl _, rfl, FIN.out _ (by rw [HAA.out]; rfl)⟩
                · have hltz4 : ¬ (q : Int) < (no : Int) := by omega
                  have hadd : addP os q = 0 := if_neg (by have := HNO.out; omega)
                  rw [hadd, Int.add_zero] at hset
                  have u3 : (wr.setCell ⟨W.heap.size, s, none⟩ (.int .i64 1)).ownsRow W.heap.size 3 1 (.slice (some ⟨W.heap.size, 0, none⟩) j j) j ((laidL j (thereP zs) (fun i => 1 + addP os i) (q + 1)).map (Value.int .i64)) := by
                    rw [← hset, List.map_set]; exact u1
                  clear hset hadd u1 u2 hoC b8
                  go_wp2
                  go_roundg (N - (q + 1))
                  case measure => omega
                  case rel => exact ⟨q + 1, hlt3, Nat.le_refl _, rfl, u3, b9⟩
              · have hltz3 : ¬ (q : Int) < (N : Int) := by omega
                obtain ⟨X, rfl⟩ : ∃ x, x = wr := ⟨_, rfl⟩
                have hfin : laidL j (thereP zs) (fun i => 1 + addP os i) q = otherP zs os := by
                  unfold otherP
                  rw [HNN.out, show N = q by omega, HN.out]
                rw [hfin] at hoC
                have hCC := (ints_own hoC).2
                have hA5 := hA4.below b8
                have hat5 := hat4.below b8
                have hTT5 := hTT.below b8
                have b9 := bstep b7 b8
                obtain ⟨p1, p3, p4, p5, p6⟩ := HP.out
                have hlo : (otherP zs os).length = j := by rw [other_length, HN.out]
                have hofc := OF.out (otherP zs os) (some ⟨W.heap.size, 0, none⟩) j hlo p1 X hCC
                have HP2 : Hid _ := And.intro p3 (And.intro p4 (And.intro p5 p6))
                have HLO : Hid _ := hlo
                have HP1 : Hid _ := p1
                clear hA4 hat4 hot4 hTT b7 b8 hoC hfin p1 p3 p4 p5 p6 hlo HP
                go_wp2_with fail
                refine hofc.mono ?_
                rintro e w6 ⟨B, cB, rfl, hB, b10⟩
                have hA6 := hA5.below b10
                have hat6 := hat5.below b10
                have hTT6 := hTT5.below b10
                have hCC6 := hCC.below b10
                have b11 := bstep b9 b10
                clear hofc hA5 hat5 hTT5 hCC b9 b10
                go_wp2_with (first | (at_make; refine wpList_make_full _ rfl _ _ 22 rfl w6.heap.size 3 i3 (.int .i64 0) 1 Try.underlying22 hi3 hy0 hy1 .i64 .i64 _ _ j rfl rfl rfl rfl ?d1 ?d2 (Nat.le_refl _) ?_))
                case d1 => first | omega | (rw [hy2]; omega)
                case d2 => unfold maxLen; omega
                intro w7 hout hg7
                have b12 : RowKit.Below w6.heap.size w6 w7 := (Below.refl _ _).grown hg7 (Nat.le_refl _) (fun q hq => by cases hq)
                obtain ⟨vt, hvt⟩ : ∃ vt : Nat → Int, vt = fun i => (((lensP mo zs).getD ((thereP zs).getD ((thereP zs).length - 1 - i) 0) 0 : Nat) : Int) := ⟨_, rfl⟩
                have hoU : w7.ownsRow w6.heap.size 3 1 (.slice (some ⟨w6.heap.size, 0, none⟩) j j) j ((laidL j (thereP zs) vt 0).map (Value.int .i64)) := by
                  have e : (laidL j (thereP zs) vt 0).map (Value.int .i64) = (madeCells #[Value.int .i64 0] j).toList := by
                    rw [laid_zero, toList_madeCells_one]
                    simp
                  rw [e]; exact hout
                have HVT : Hid (vt = fun i => (((lensP mo zs).getD ((thereP zs).getD ((thereP zs).length - 1 - i) 0) 0 : Nat) : Int)) := hvt
                clear hout hg7 hvt
                go_wp2
                go_loopg [20, 21, 149] N (fun kx s20 s21 s149 wr => ∃ q : Nat, q ≤ N ∧ N - q ≤ kx ∧ s149 = .int .i64 q ∧ wr.ownsRow w6.heap.size 3 1 (.slice (some ⟨w6.heap.size, 0, none⟩) j j) j ((laidL j (thereP zs) vt q).map (Value.int .i64)) ∧ RowKit.Below w6.heap.size w6 wr)
                case atStart => exact ⟨0, Nat.zero_le _, Nat.le_refl _, rfl, hoU, b12⟩
                case round =>
                  clear hoU b12
                  obtain ⟨r, hr, hkx4, rfl, hoU, b12⟩ := hrel
                  by_cases hlt4 : r < N
                  · have hltz4 : (r : Int) < (N : Int) := by omega
                    have q1 := HNN.out
                    have q2 := HN.out
                    obtain ⟨bt, ot, rfl, -, ct⟩ := hTT6 (by rw [intsOf_length]; omega)
                    obtain ⟨ba, oa, rfl, -, ca⟩ := hA6 (by have := HLN.out; have := q2; have := singleP_le zs; have := HTN.out; omega)
                    obtain ⟨z, hz⟩ : ∃ z, N - 1 - r = z := ⟨_, rfl⟩
                    have hzb : z < N := by omega
                    have x1 := pw_cell_below b12 (ct r (by rw [intsOf_length]; omega))
                    have x2 := pw_cell_below b12 (ct z (by rw [intsOf_length]; omega))
                    rw [intsOf_getD] at x1 x2
                    have hrT : r < (thereP zs).length := by omega
                    have hzT : z < (thereP zs).length := by omega
                    have hgd : (thereP zs).getD r 0 = (thereP zs)[r] := by rw [List.getD_eq_getElem?_getD, List.getElem?_eq_getElem hrT]; rfl
                    have hgz : (thereP zs).getD z 0 = (thereP zs)[z] := by rw [List.getD_eq_getElem?_getD, List.getElem?_eq_getElem hzT]; rfl
                    have hsn : (thereP zs)[r] < j := by
                      have := (mem_there.1 (List.getElem_mem hrT)).1
                      omega
                    have hzn : (thereP zs)[z] < j := by
                      have := (mem_there.1 (List.getElem_mem hzT)).1
                      omega
                    have x3 := pw_cell_below b12 (ca (thereP zs)[z] (by have := HLN.out; omega))
                    rw [intsOf_getD] at x3
                    have hvr : vt r = (((lensP mo zs).getD (thereP zs)[z] 0 : Nat) : Int) := by rw [HVT.out]; simp only; rw [HNN.out, hz, hgz]
                    have hset : (laidL j (thereP zs) vt r).set (thereP zs)[r] (vt r) = laidL j (thereP zs) vt (r + 1) := laid_set (there_nodup zs) hrT
                    rw [hvr] at hset
                    rw [hgd] at x1
                    rw [hgz] at x2
                    generalize (((lensP mo zs).getD (thereP zs)[z] 0 : Nat) : Int) = P at x3 hset
                    generalize (thereP zs)[r] = s at x1 hsn hset
                    generalize (thereP zs)[z] = t at x2 x3 hzn
                    have hsz : (s : Int) < (j : Int) := by omega
                    have htz : (t : Int) < (j : Int) := by omega
                    have zN : IntKind.i64.wrap ((N : Int) - 1) = (N : Int) - 1 := by rw [IntKind.wrap_i64]; omega
                    have zz : IntKind.i64.wrap ((N : Int) - 1 - (r : Int)) = (z : Int) := by rw [IntKind.wrap_i64]; omega
                    have hzN : (z : Int) < (N : Int) := by omega
                    obtain ⟨u1, u2⟩ := hoU.stored s (.int .i64 P)
                    have c0 : wr.cell? ⟨w6.heap.size, s, none⟩ = some (.int .i64 ((laidL j (thereP zs) vt r).getD s 0)) := by
                      rw [hoU.cellAt s (by omega), List.getElem?_map, List.getD_eq_getElem?_getD, List.getElem?_eq_getElem (by rw [laid_length]; omega)]
                      rfl
                    have c1 := hoU.frozenAt s
                    have b13 : RowKit.Below w6.heap.size w6 (wr.setCell ⟨w6.heap.size, s, none⟩ (.int .i64 P)) := b12.grown u2 b12.size (fun q hq => by have e := Option.some.inj hq; omega)
                    have u3 : (wr.setCell ⟨w6.heap.size, s, none⟩ (.int .i64 P)).ownsRow w6.heap.size 3 1 (.slice (some ⟨w6.heap.size, 0, none⟩) j j) j ((laidL j (thereP zs) vt (r + 1)).map (Value.int .i64)) := by
                      rw [← hset, List.map_set]; exact u1
                    have zk : IntKind.i64.wrap ((r : Int) + 1) = (r : Int) + 1 := by rw [IntKind.wrap_i64]; omega
                    generalize (laidL j (thereP zs) vt r).getD s 0 = old at c0
                    clear q1 q2 ct ca hgd hgz hrT hzT hvr hset hoU b12 u1 u2 hz
                    go_wp2
                    go_roundg (N - (r + 1))
                    case measure => omega
                    case rel => exact ⟨r + 1, hlt4, Nat.le_refl _, rfl, u3, b13⟩
                  · have hltz4 : ¬ (r : Int) < (N : Int) := by omega
                    obtain ⟨Y, rfl⟩ : ∃ x, x = wr := ⟨_, rfl⟩
                    have hfin : laidL j (thereP zs) vt r = turnedP zs (lensP mo zs) := by
                      unfold turnedP
                      rw [HNN.out, show N = r by omega, ← HN.out, HVT.out, HNN.out, show N = r by omega]
                    rw [hfin] at hoU
                    have hUU := (ints_own hoU).2
                    have hA7 := hA6.below b12
                    have hat7 := hat6.below b12
                    have hCC7 := hCC6.below b12
                    have hB7 := hB.below b12
                    have b14 := bstep b11 b12
                    have hlu : (turnedP zs (lensP mo zs)).length = j := by rw [turned_eq, intsOf_length, turned_length, HN.out]
                    have HLU : Hid _ := hlu
                    have HTS : Hid _ := turned_small HE.out
                    clear hA6 hat6 hTT6 hCC6 hB b11 b12 hoU hfin hlu
                    obtain ⟨p3, p4, p5, p6⟩ := HP2.out
                    have hlm : (intsOf (lensP mo (otherP zs os))).length = j := by rw [intsOf_length, lensP_length, HLO.out]
                    have hmb : ∀ x ∈ intsOf (lensP mo (otherP zs os)), 0 ≤ x ∧ x ≤ 1000 := fun x hx => by have := lens_small HP1.out x hx; omega
                    have hcb : ∀ z ∈ otherP zs os, 0 ≤ z ∧ z ≤ 4294967296 := fun z hz => by have := other_mem z hz; omega
                    have f1 := WT.out _ zs A V cA cap HLN.out HN.out.symm HLB.out HZB.out
                    have f2 := KR.out _ B cB hlm
                    have f3 := WT.out _ zs B V cB cap hlm HN.out.symm hmb HZB.out
                    have f4 := WT.out _ zs (some ⟨w6.heap.size, 0, none⟩) V j cap HLU.out HN.out.symm HTS.out HZB.out
                    have f5 := WT.out _ (otherP zs os) A (some ⟨W.heap.size, 0, none⟩) cA j HLN.out HLO.out HLB.out hcb
                    have f6 := WT.out _ (otherP zs os) B (some ⟨W.heap.size, 0, none⟩) cB j hlm HLO.out hmb hcb
                    rw [p3] at f2
                    generalize weightP (intsOf (lensP mo zs)) zs = W1 at f1 p4 p5
                    generalize weightP (intsOf (lensP mo (otherP zs os))) zs = W2 at f3 p4
                    generalize weightP (turnedP zs (lensP mo zs)) zs = W3 at f4 p5
                    generalize weightP (intsOf (lensP mo zs)) (otherP zs os) = W4 at f5 p6
                    generalize weightP (intsOf (lensP mo (otherP zs os))) (otherP zs os) = W5 at f6 p6
                    have g1 : decide (W2 ≥ W1) = true := decide_eq_true p4
                    have g2 : decide (W3 ≥ W1) = true := decide_eq_true p5
                    have g3 : decide (W4 ≥ W5) = true := decide_eq_true p6
                    have F1 : Aside _ := f1
                    have F2 : Aside _ := f2
                    have F3 : Aside _ := f3
                    have F4 : Aside _ := f4
                    have F5 : Aside _ := f5
                    have F6 : Aside _ := f6
                    clear f1 f2 f3 f4 f5 f6 hlm hmb hcb p3 p4 p5 p6
                    have k21 := F1.out Y hA7 hat7
                    go_wp2_with fail
                    refine k21.mono ?_
                    rintro e w21 ⟨rfl, e21⟩
                    have hA7 := hA7.below e21
                    have hat7 := hat7.below e21
                    have hCC7 := hCC7.below e21
                    have hB7 := hB7.below e21
                    have hUU := hUU.below e21
                    have b21 := bstep b14 e21
                    clear k21 e21
                    have k22 := F2.out w21 hB7
                    go_wp2_with fail
                    refine k22.mono ?_
                    rintro e w22 ⟨rfl, e22⟩
                    have hA7 := hA7.below e22
                    have hat7 := hat7.below e22
                    have hCC7 := hCC7.below e22
                    have hB7 := hB7.below e22
                    have hUU := hUU.below e22
                    have b22 := bstep b21 e22
                    clear k22 e22
                    have k23 := F3.out w22 hB7 hat7
                    go_wp2_with fail
                    refine k23.mono ?_
                    rintro e w23 ⟨rfl, e23⟩
                    have hA7 := hA7.below e23
                    have hat7 := hat7.below e23
                    have hCC7 := hCC7.below e23
                    have hB7 := hB7.below e23
                    have hUU := hUU.below e23
                    have b23 := bstep b22 e23
                    clear k23 e23
                    have k24 := F4.out w23 hUU hat7
                    go_wp2_with fail
                    refine k24.mono ?_
                    rintro e w24 ⟨rfl, e24⟩
                    have hA7 := hA7.below e24
                    have hat7 := hat7.below e24
                    have hCC7 := hCC7.below e24
                    have hB7 := hB7.below e24
                    have hUU := hUU.below e24
                    have b24 := bstep b23 e24
                    clear k24 e24
                    have k25 := F5.out w24 hA7 hCC7
                    go_wp2_with fail
                    refine k25.mono ?_
                    rintro e w25 ⟨rfl, e25⟩
                    have hA7 := hA7.below e25
                    have hat7 := hat7.below e25
                    have hCC7 := hCC7.below e25
                    have hB7 := hB7.below e25
                    have hUU := hUU.below e25
                    have b25 := bstep b24 e25
                    clear k25 e25
                    have k26 := F6.out w25 hB7 hCC7
                    go_wp2_with fail
                    refine k26.mono ?_
                    rintro e w26 ⟨rfl, e26⟩
                    have b26 := bstep b25 e26
                    clear k26 e26
                    clear hA7 hat7 hCC7 hB7 hUU
                    go_wp2
                    go_ret
                    exact ⟨rfl, b26⟩

set_option maxHeartbeats 1000000 in
set_option maxRecDepth 100000 in
theorem least_walk (most : Int) (V : Option Addr) (n cap : Nat) (zs : List Int) (O : Option Addr) (no co : Nat) (os : List Int) (w : World) (_ha : (Lit.int .i64 most).wf = true) (hin : Args.IntsIn .i64 w V n cap zs) (hio : Args.IntsIn .i64 w O no co os) :
    Calls Try.prog 4 #[.int .i64 most, .slice V n cap, .slice O no co] w fun e w' => e = .returned (.bool true) ∧ RowKit.Below w.heap.size w w' := by
  have hat := intsAt_of hin
  have hot := intsAt_of hio
  have hn : n = zs.length := hin.len.symm
  have hno : no = os.length := hio.len.symm
  have hsz := hin.size
  clear _ha hin hio
  by_cases hbig : n > 60
  · have d1 : decide ((n : Int) > 60) = true := decide_eq_true (by omega)
    clear hat hot hn hno
    go_enter Try.func4, Try.ntmps4
    go_wp2_with fail
    refine (alive_call _).mono ?_
    rintro e w1 ⟨rfl, b1⟩
    go_wp2
    go_ret
    exact ⟨rfl, b1⟩
  have d1 : decide ((n : Int) > 60) = false := decide_eq_false (by omega)
  by_cases hbig2 : no > 60
  · have d2 : decide ((no : Int) > 60) = true := decide_eq_true (by omega)
    clear hat hot hn hno
    go_enter Try.func4, Try.ntmps4
    go_wp2_with fail
    refine (alive_call _).mono ?_
    rintro e w1 ⟨rfl, b1⟩
    go_wp2
    go_ret
    exact ⟨rfl, b1⟩
  have d2 : decide ((no : Int) > 60) = false := decide_eq_false (by omega)
  obtain ⟨E, hE⟩ : ∃ E, errP most zs = E := ⟨_, rfl⟩
  by_cases h0 : E = 0
  · subst h0
    obtain ⟨m, rfl, _⟩ := err_zero hE
    exact least_good V O n cap no co m zs os w hn hno (by omega) (by omega) hat hot hE
  · have hof := fun (W : World) (h : IntsAt W V zs) => of_bad V n cap zs W hn h hsz hE h0
    have HOF : Aside _ := hof
    have dE : ((E : Int) != 0) = true := by simp; omega
    clear hof hE hn hno h0 hot
    go_enter Try.func4, Try.ntmps4
    go_wp2_with fail
    refine (alive_call _).mono ?_
    rintro e w1 ⟨rfl, b1⟩
    have hofw := HOF.out w1 (hat.below b1)
    clear HOF hat
    go_wp2_with fail
    refine hofw.mono ?_
    rintro e w2 ⟨rfl, b2⟩
    have b3 := bstep b1 b2
    clear hofw b1 b2
    go_wp2
    go_ret
    exact ⟨rfl, b3⟩
end Go.Proofs.Ythgidcfgelpkhaa
