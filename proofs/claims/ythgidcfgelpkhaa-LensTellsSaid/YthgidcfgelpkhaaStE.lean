/- The walk of a merge of two stretches, and of the whole. -/
import Derived.Test.YthgidcfgelpkhaaStD
set_option linter.unusedVariables false
set_option linter.unusedSimpArgs false
namespace Go.Proofs.Ythgidcfgelpkhaa
open Go Go.RowKit Go.Lib Go.Sort Go.Proofs
variable {P : Program} {α : Type} [Inhabited α]

theorem size_upR : ∀ (k a : Nat) (d : Array α), (upR a k d).size = d.size
  | 0, _, _ => rfl
  | k + 1, a, d => by rw [upR, size_upR k, size_swp]
theorem size_dnR : ∀ (k m : Nat) (d : Array α), (dnR m k d).size = d.size
  | 0, _, _ => rfl
  | k + 1, m, d => by rw [dnR, size_dnR k, size_swp]
theorem size_rotL (m : Nat) : ∀ (f i j : Nat) (d : Array α), (rotL m f i j d).size = d.size
  | 0, i, j, d => by rw [rotL, size_swapR]
  | f + 1, i, j, d => by
    rw [rotL]
    split
    · exact size_swapR _ _ _ _
    · split
      · rw [size_rotL m f, size_swapR]
      · rw [size_rotL m f, size_swapR]
theorem size_rot (d : Array α) (a m b : Nat) : (rot d a m b).size = d.size := size_rotL _ _ _ _ _
theorem size_symT (lt : α → α → Bool) (d : Array α) (a m b : Nat) : (symT lt d a m b).size = d.size := by
  unfold symT; split
  · exact size_rot _ _ _ _
  · rfl
theorem size_symM (lt : α → α → Bool) : ∀ (f a m b : Nat) (d : Array α), (symM lt f a m b d).size = d.size
  | 0, _, _, _, _ => rfl
  | f + 1, a, m, b, d => by
    rw [symM]
    split
    · exact size_upR _ _ _
    · split
      · exact size_dnR _ _ _
      · split
        · rw [size_symM lt f]
          split
          · rw [size_symM lt f, size_symT]
          · exact size_symT _ _ _ _ _
        · split
          · rw [size_symM lt f, size_symT]
          · exact size_symT _ _ _ _ _

theorem symM_main (lt : α → α → Bool) {f a m b M s e : Nat} {d d1 d2 d3 : Array α} (h1 : ¬ m - a = 1) (h2 : ¬ b - m = 1) (hM : (a + b) / 2 = M) (hs : symS lt d a m b = s) (he : M + m - s = e)
    (a1 : s < m ∧ m < e → d1 = rot d s m e) (b1 : ¬ (s < m ∧ m < e) → d1 = d) (a2 : a < s ∧ s < M → d2 = symM lt f a s M d1) (b2 : ¬ (a < s ∧ s < M) → d2 = d1) (a3 : M < e ∧ e < b → d3 = symM lt f M e b d2) (b3 : ¬ (M < e ∧ e < b) → d3 = d2) :
    symM lt (f + 1) a m b d = d3 := by
  have e1 : symT lt d a m b = d1 := by
    unfold symT
    rw [hM, hs, he]
    by_cases c : s < m ∧ m < e
    · rw [if_pos c, a1 c]
    · rw [if_neg c, b1 c]
  rw [symM, if_neg h1, if_neg h2, hM, hs, he, e1]
  have e2 : (if a < s ∧ s < M then symM lt f a s M d1 else d1) = d2 := by
    by_cases c : a < s ∧ s < M
    · rw [if_pos c, a2 c]
    · rw [if_neg c, b2 c]
  rw [e2]
  by_cases c : M < e ∧ e < b
  · rw [if_pos c, a3 c]
  · rw [if_neg c, b3 c]

set_option maxHeartbeats 8000000 in
set_option maxRecDepth 1000000 in
theorem symMain_call {k : Nat} (L : Sits P k) (enc : α → List Value) (cf : α → α → Int) (g : Nat) (cb : Array Value) (blk off cap a m b f n : Nat) (d0 d : Array α) (w0 w : World)
    (eg : ∀ args w, (callFunc g args).run P w = .ok (.enter g args) w) (hcmp : CmpLays P g cb enc k cf blk off n w0)
    (R : RowK enc k w0 blk off d0) (hs : d0.size = n) (hn : d.size = n) (S : SWK enc k w0 blk off d w) (ham : a + 1 < m) (hmb : m + 1 < b) (hb : b ≤ n) (hsz : n < 4611686018427387904)
    (ih : ∀ (a m b : Nat) (d : Array α) (w : World), d.size = n → SWK enc k w0 blk off d w → a < m → m < b → b ≤ n → b - a ≤ f →
      Calls P 68 #[.slice (some ⟨blk, off, none⟩) n cap, .int .i64 a, .int .i64 m, .int .i64 b, .func (.func g) #[] cb] w fun e w' => e = .returned (.tuple #[]) ∧ SWK enc k w0 blk off (symM (ltOf cf) f a m b d) w')
    (hf : b - a ≤ f + 1) :
    Calls P 68 #[.slice (some ⟨blk, off, none⟩) n cap, .int .i64 a, .int .i64 m, .int .i64 b, .func (.func g) #[] cb] w fun e w' => e = .returned (.tuple #[]) ∧ SWK enc k w0 blk off (symM (ltOf cf) (f + 1) a m b d) w' := by
  have mixed := L.mixed; have t0 := L.t0; have a0 := L.a0; have z0 := L.z0; have v0 := L.v0; have t3 := L.t3; have a3 := L.a3; have z3 := L.z3; have v3 := L.v3; have t4 := L.t4; have a4 := L.a4; have z4 := L.z4; have v4 := L.v4; have t50 := L.t50; have a50 := L.a50; have z50 := L.z50; have v50 := L.v50; have t56 := L.t56; have a56 := L.a56; have z56 := L.z56; have v56 := L.v56
  have t44 := L.t44; have a44 := L.a44; have z44 := L.z44; have v44 := L.v44
  have aE := L.aE; have zE := L.zE
  have u3 := run_underlying L.t3; have u44 := run_underlying L.t44
  have e70 : ∀ args w, (callFunc 70 args).run P w = .ok (.enter 70 args) w := enters_of L.f70 (by kernel_rfl) rfl
  have e68 : ∀ args w, (callFunc 68 args).run P w = .ok (.enter 68 args) w := enters_of L.f68 (by kernel_rfl) rfl
  have S0 : Aside (SWK enc k w0 blk off d w) := S
  have HC : Aside _ := hcmp
  have IH : Aside _ := ih
  have HN : Hid (d.size = n) := hn
  have HS : Hid (d0.size = n) := hs
  have ROT : Aside (∀ (x y z : Nat) (W : World), SWK enc k w0 blk off d W → x < y → y < z → z ≤ n →
      Calls P 70 #[.slice (some ⟨blk, off, none⟩) n cap, .int .i64 x, .int .i64 y, .int .i64 z, .func (.func g) #[] cb] W fun e w' => e = .returned (.tuple #[]) ∧ SWK enc k w0 blk off (rot d x y z) w') := by
    intro x y z W hS h1 h2 h3
    rw [← hn]
    exact rotate_call L enc g cb blk off cap x y z d0 d w0 W R (by rw [hs, hn]) hS h1 h2 (by rw [hn]; exact h3) (by rw [hn]; exact hsz)
  clear hn hs S hcmp ih
  obtain ⟨M, hM⟩ : ∃ M, (a + b) / 2 = M := ⟨_, rfl⟩
  obtain ⟨N, hN⟩ : ∃ N, M + m = N := ⟨_, rfl⟩
  obtain ⟨Q, hQ⟩ : ∃ Q, N - 1 = Q := ⟨_, rfl⟩
  have zM : ((a : Int) + (b : Int)) / 2 = (M : Int) := by omega
  have zN : IntKind.i64.wrap ((M : Int) + (m : Int)) = (N : Int) := by rw [IntKind.wrap_i64]; omega
  have zQ : IntKind.i64.wrap ((N : Int) - 1) = (Q : Int) := by rw [IntKind.wrap_i64]; omega
  have HM : Hid ((a + b) / 2 = M) := hM
  have HNN : Hid (M + m = N) := hN
  have HQ : Hid (N - 1 = Q) := hQ
  have w2 : IntKind.i64.wrap ((m : Int) - (a : Int)) = (m : Int) - (a : Int) := by rw [IntKind.wrap_i64]; omega
  have w3 : (((m : Int) - (a : Int)) == 1) = false := by simp; omega
  have w4 : IntKind.i64.wrap ((b : Int) - (m : Int)) = (b : Int) - (m : Int) := by rw [IntKind.wrap_i64]; omega
  have w5 : (((b : Int) - (m : Int)) == 1) = false := by simp; omega
  have bM : a < M ∧ M < b := by omega
  have bN : N ≤ M + m ∧ M + m ≤ N ∧ Q + 1 ≤ N ∧ N ≤ Q + 1 := by omega
  clear hM hN hQ
  have HX : Hid (∀ s, halve (fun c => !ltOf cf d[Q - c]! d[c]!) (b - a) (if M < m then N - b else a) (if M < m then M else m) = s → symS (ltOf cf) d a m b = s) := by
    intro s h
    unfold symS
    have e1 := HM.out; have e2 := HNN.out; have e3 := HQ.out
    rw [e1]
    rw [e2, e3]
    by_cases c : M < m
    · rw [if_pos c]; rw [if_pos c, if_pos c] at h; exact h
    · rw [if_neg c]; rw [if_neg c, if_neg c] at h; exact h
  go_enter L.f68, Try.ntmps68
  by_cases hc : M < m
  · have hcz : (M : Int) < (m : Int) := by omega
    obtain ⟨T, hT⟩ : ∃ T, N - b = T := ⟨_, rfl⟩
    have zT : IntKind.i64.wrap ((N : Int) - (b : Int)) = (T : Int) := by rw [IntKind.wrap_i64]; omega
    have bT : T + b ≤ N ∧ N ≤ T + b ∧ a ≤ T ∧ T ≤ M := by omega
    rw [hT] at HX
    clear hT
    go_wp2
    go_loopg [20, 21] (b - a) (fun kx s20 s21 wr => ∃ (lo hi e : Nat), s20 = .int .i64 lo ∧ s21 = .int .i64 hi ∧ T ≤ lo ∧ lo ≤ hi ∧ hi ≤ M ∧ hi - lo ≤ e ∧ e ≤ kx ∧ Aside (SWK enc k w0 blk off d wr) ∧
      Hid (halve (fun c => !ltOf cf d[Q - c]! d[c]!) e lo hi = halve (fun c => !ltOf cf d[Q - c]! d[c]!) (b - a) T M))
    case atStart => exact ⟨T, M, b - a, rfl, rfl, Nat.le_refl _, by omega, Nat.le_refl _, by omega, Nat.le_refl _, S0, rfl⟩
    case round =>
      clear S0
      obtain ⟨lo, hi, e, rfl, rfl, hml, hlh, hhb, hle, hek, S1, HE⟩ := hrel
      by_cases hlt : lo < hi
      · obtain ⟨e, rfl⟩ : ∃ q, e = q + 1 := ⟨e - 1, by omega⟩
        obtain ⟨c, hc'⟩ : ∃ c, (lo + hi) / 2 = c := ⟨_, rfl⟩
        obtain ⟨U, hU⟩ : ∃ U, Q - c = U := ⟨_, rfl⟩
        have hczz : ((lo : Int) + (hi : Int)) / 2 = (c : Int) := by omega
        have hin : lo ≤ c ∧ c < hi ∧ c ≤ Q ∧ U < n ∧ c < n := by omega
        have zU : IntKind.i64.wrap ((Q : Int) - (c : Int)) = (U : Int) := by rw [IntKind.wrap_i64]; omega
        have hcn : (c : Int) < (n : Int) := by omega
        have hUn : (U : Int) < (n : Int) := by omega
        obtain ⟨x1, hx1⟩ : ∃ x, x = d[U]! := ⟨_, rfl⟩
        obtain ⟨y1, hy1⟩ : ∃ x, x = d[c]! := ⟨_, rfl⟩
        have l1 := S1.out.ld R (by rw [HN.out, HS.out]) P U (by rw [HN.out]; omega)
        have l2 := S1.out.ld R (by rw [HN.out, HS.out]) P c (by rw [HN.out]; omega)
        rw [← hx1] at l1
        rw [← hy1] at l2
        have hcc := S1.out.cmp HC.out HN.out x1 y1
        have HXY : Hid (x1 = d[Q - c]! ∧ y1 = d[c]!) := ⟨by rw [hU]; exact hx1, hy1⟩
        have HCC : Hid ((lo + hi) / 2 = c) := hc'
        clear hx1 hy1 hc' hU
        by_cases hv : cf x1 y1 < 0
        · have hd : decide (cf x1 y1 < 0) = true := decide_eq_true hv
          go_wp2_with fail
          go_quiet_grown (first | (go_at_fn g; refine Calls.grown_of (hcc _ _)))
          have S2 : Aside (SWK enc k w0 blk off d (grow (wr.drewN nq) osq)) := S1.out.grown nq osq
          clear l1 l2 hcc S1
          generalize grow (wr.drewN nq) osq = w2 at S2 ⊢
          clear nq osq
          go_wp2
          go_roundg e
          case measure => omega
          case rel =>
            refine ⟨lo, c, e, rfl, int_at (by omega), by omega, by omega, by omega, by omega, Nat.le_refl _, S2, (show Hid _ from ?_)⟩
            show _ = _
            rw [← HE.out, halve_go hlt, HCC.out, if_neg]
            rw [← HXY.out.1, ← HXY.out.2]; show ¬ (!decide (cf x1 y1 < 0)) = true; rw [hd]; decide
        · have hd : decide (cf x1 y1 < 0) = false := decide_eq_false hv
          go_wp2_with fail
          go_quiet_grown (first | (go_at_fn g; refine Calls.grown_of (hcc _ _)))
          have S2 : Aside (SWK enc k w0 blk off d (grow (wr.drewN nq) osq)) := S1.out.grown nq osq
          clear l1 l2 hcc S1
          generalize grow (wr.drewN nq) osq = w2 at S2 ⊢
          clear nq osq
          go_wp2
          go_roundg e
          case measure => omega
          case rel =>
            refine ⟨c + 1, hi, e, int_at (by omega), rfl, by omega, by omega, hhb, by omega, Nat.le_refl _, S2, (show Hid _ from ?_)⟩
            show _ = _
            rw [← HE.out, halve_go hlt, HCC.out, if_pos]
            rw [← HXY.out.1, ← HXY.out.2]; show (!decide (cf x1 y1 < 0)) = true; rw [hd]; decide
      · obtain rfl : lo = hi := by omega
        obtain ⟨E, hE⟩ : ∃ E, N - lo = E := ⟨_, rfl⟩
        have zE' : IntKind.i64.wrap ((N : Int) - (lo : Int)) = (E : Int) := by rw [IntKind.wrap_i64]; omega
        have bE : E + lo ≤ N ∧ N ≤ E + lo ∧ E ≤ b ∧ M ≤ E + m ∧ lo ≤ m ∧ lo ≤ M ∧ m ≤ E ∧ a ≤ lo := by omega
        have HSS : Hid (symS (ltOf cf) d a m b = lo) := HX.out lo (by
          rw [if_pos hc, if_pos hc, ← HE.out, halve_stop])
        have HEE : Hid (M + m - lo = E) := by show _ = _; omega
        clear hE HE HX
        rcases Nat.lt_or_ge lo m with hA | hA
        · rcases Nat.lt_or_ge lo M with hB | hB
          · rcases Nat.lt_or_ge a lo with hC | hC
            · rcases Nat.lt_or_ge E b with hD | hD
              · have z0 : (lo : Int) < (m : Int) := by omega
                have z1 : (m : Int) < (E : Int) := by omega
                have z2 : (a : Int) < (lo : Int) := by omega
                have z3 : (lo : Int) < (M : Int) := by omega
                have z4 : (M : Int) < (E : Int) := by omega
                have z5 : (E : Int) < (b : Int) := by omega
                have hc0 := ROT.out lo m E wr S1.out (by omega) (by omega) (by omega)
                go_wp2_with fail
                refine hc0.mono ?_
                rintro e wr0 ⟨rfl, S2⟩
                clear hc0 S1
                have S1 : Aside _ := S2
                clear S2
                have hc1 := IH.out a lo M (rot d lo m E) wr0 (by first | exact HN.out | (simp only [size_symM, size_rot]; exact HN.out)) S1.out (by omega) (by omega) (by omega) (by omega)
                go_wp2_with fail
                refine hc1.mono ?_
                rintro e wr1 ⟨rfl, S2⟩
                clear hc1 S1
                have S1 : Aside _ := S2
                clear S2
                have hc2 := IH.out M E b (symM (ltOf cf) f a lo M (rot d lo m E)) wr1 (by first | exact HN.out | (simp only [size_symM, size_rot]; exact HN.out)) S1.out (by omega) (by omega) (by omega) (by omega)
                go_wp2_with fail
                refine hc2.mono ?_
                rintro e wr2 ⟨rfl, S2⟩
                clear hc2 S1
                have S1 : Aside _ := S2
                clear S2
                go_wp2
                all_goals go_end0
                all_goals have hfin := symM_main (ltOf cf) (f := f) (d := d) (d1 := (rot d lo m E)) (d2 := (symM (ltOf cf) f a lo M (rot d lo m E))) (d3 := (symM (ltOf cf) f M E b (symM (ltOf cf) f a lo M (rot d lo m E)))) (by omega) (by omega) HM.out HSS.out HEE.out (fun _ => rfl) (fun h => absurd ⟨by omega, by omega⟩ h) (fun _ => rfl) (fun h => absurd ⟨by omega, by omega⟩ h) (fun _ => rfl) (fun h => absurd ⟨by omega, by omega⟩ h)
                all_goals refine ⟨rfl, ?_⟩
                all_goals rw [hfin]
                all_goals exact S1.out
              · have z0 : (lo : Int) < (m : Int) := by omega
                have z1 : (m : Int) < (E : Int) := by omega
                have z2 : (a : Int) < (lo : Int) := by omega
                have z3 : (lo : Int) < (M : Int) := by omega
                have z4 : (M : Int) < (E : Int) := by omega
                have z5 : ¬ (E : Int) < (b : Int) := by omega
                have hc0 := ROT.out lo m E wr S1.out (by omega) (by omega) (by omega)
                go_wp2_with fail
                refine hc0.mono ?_
                rintro e wr0 ⟨rfl, S2⟩
                clear hc0 S1
                have S1 : Aside _ := S2
                clear S2
                have hc1 := IH.out a lo M (rot d lo m E) wr0 (by first | exact HN.out | (simp only [size_symM, size_rot]; exact HN.out)) S1.out (by omega) (by omega) (by omega) (by omega)
                go_wp2_with fail
                refine hc1.mono ?_
                rintro e wr1 ⟨rfl, S2⟩
                clear hc1 S1
                have S1 : Aside _ := S2
                clear S2
                go_wp2
                all_goals go_end0
                all_goals have hfin := symM_main (ltOf cf) (f := f) (d := d) (d1 := (rot d lo m E)) (d2 := (symM (ltOf cf) f a lo M (rot d lo m E))) (d3 := (symM (ltOf cf) f a lo M (rot d lo m E))) (by omega) (by omega) HM.out HSS.out HEE.out (fun _ => rfl) (fun h => absurd ⟨by omega, by omega⟩ h) (fun _ => rfl) (fun h => absurd ⟨by omega, by omega⟩ h) (fun h => by omega) (fun _ => rfl)
                all_goals refine ⟨rfl, ?_⟩
                all_goals rw [hfin]
                all_goals exact S1.out
            · rcases Nat.lt_or_ge E b with hD | hD
              · exfalso; omega
              · have z0 : (lo : Int) < (m : Int) := by omega
                have z1 : (m : Int) < (E : Int) := by omega
                have z2 : ¬ (a : Int) < (lo : Int) := by omega
                have z3 : (lo : Int) < (M : Int) := by omega
                have z4 : (M : Int) < (E : Int) := by omega
                have z5 : ¬ (E : Int) < (b : Int) := by omega
                have hc0 := ROT.out lo m E wr S1.out (by omega) (by omega) (by omega)
                go_wp2_with fail
                refine hc0.mono ?_
                rintro e wr0 ⟨rfl, S2⟩
                clear hc0 S1
                have S1 : Aside _ := S2
                clear S2
                go_wp2
                all_goals go_end0
                all_goals have hfin := symM_main (ltOf cf) (f := f) (d := d) (d1 := (rot d lo m E)) (d2 := (rot d lo m E)) (d3 := (rot d lo m E)) (by omega) (by omega) HM.out HSS.out HEE.out (fun _ => rfl) (fun h => absurd ⟨by omega, by omega⟩ h) (fun h => by omega) (fun _ => rfl) (fun h => by omega) (fun _ => rfl)
                all_goals refine ⟨rfl, ?_⟩
                all_goals rw [hfin]
                all_goals exact S1.out
          · have z0 : (lo : Int) < (m : Int) := by omega
            have z1 : ¬ (m : Int) < (E : Int) := by omega
            have z2 : (a : Int) < (lo : Int) := by omega
            have z3 : ¬ (lo : Int) < (M : Int) := by omega
            have z4 : (M : Int) < (E : Int) := by omega
            have z5 : (E : Int) < (b : Int) := by omega
            have hc0 := IH.out M E b d wr (by first | exact HN.out | (simp only [size_symM, size_rot]; exact HN.out)) S1.out (by omega) (by omega) (by omega) (by omega)
            go_wp2_with fail
            refine hc0.mono ?_
            rintro e wr0 ⟨rfl, S2⟩
            clear hc0 S1
            have S1 : Aside _ := S2
            clear S2
            go_wp2
            all_goals go_end0
            all_goals have hfin := symM_main (ltOf cf) (f := f) (d := d) (d1 := d) (d2 := d) (d3 := (symM (ltOf cf) f M E b d)) (by omega) (by omega) HM.out HSS.out HEE.out (fun h => by omega) (fun _ => rfl) (fun h => by omega) (fun _ => rfl) (fun _ => rfl) (fun h => absurd ⟨by omega, by omega⟩ h)
            all_goals refine ⟨rfl, ?_⟩
            all_goals rw [hfin]
            all_goals exact S1.out
        · rcases Nat.lt_or_ge lo M with hB | hB
          · have z0 : ¬ (lo : Int) < (m : Int) := by omega
            have z1 : (m : Int) < (E : Int) := by omega
            have z2 : (a : Int) < (lo : Int) := by omega
            have z3 : (lo : Int) < (M : Int) := by omega
            have z4 : ¬ (M : Int) < (E : Int) := by omega
            have z5 : (E : Int) < (b : Int) := by omega
            have hc0 := IH.out a lo M d wr (by first | exact HN.out | (simp only [size_symM, size_rot]; exact HN.out)) S1.out (by omega) (by omega) (by omega) (by omega)
            go_wp2_with fail
            refine hc0.mono ?_
            rintro e wr0 ⟨rfl, S2⟩
            clear hc0 S1
            have S1 : Aside _ := S2
            clear S2
            go_wp2
            all_goals go_end0
            all_goals have hfin := symM_main (ltOf cf) (f := f) (d := d) (d1 := d) (d2 := (symM (ltOf cf) f a lo M d)) (d3 := (symM (ltOf cf) f a lo M d)) (by omega) (by omega) HM.out HSS.out HEE.out (fun h => by omega) (fun _ => rfl) (fun _ => rfl) (fun h => absurd ⟨by omega, by omega⟩ h) (fun h => by omega) (fun _ => rfl)
            all_goals refine ⟨rfl, ?_⟩
            all_goals rw [hfin]
            all_goals exact S1.out
          · have z0 : ¬ (lo : Int) < (m : Int) := by omega
            have z1 : ¬ (m : Int) < (E : Int) := by omega
            have z2 : (a : Int) < (lo : Int) := by omega
            have z3 : ¬ (lo : Int) < (M : Int) := by omega
            have z4 : ¬ (M : Int) < (E : Int) := by omega
            have z5 : (E : Int) < (b : Int) := by omega
            go_wp2
            all_goals go_end0
            all_goals have hfin := symM_main (ltOf cf) (f := f) (d := d) (d1 := d) (d2 := d) (d3 := d) (by omega) (by omega) HM.out HSS.out HEE.out (fun h => by omega) (fun _ => rfl) (fun h => by omega) (fun _ => rfl) (fun h => by omega) (fun _ => rfl)
            all_goals refine ⟨rfl, ?_⟩
            all_goals rw [hfin]
            all_goals exact S1.out
  · have hcz : ¬ (M : Int) < (m : Int) := by omega
    go_wp2
    go_loopg [20, 21] (b - a) (fun kx s20 s21 wr => ∃ (lo hi e : Nat), s20 = .int .i64 lo ∧ s21 = .int .i64 hi ∧ a ≤ lo ∧ lo ≤ hi ∧ hi ≤ m ∧ hi - lo ≤ e ∧ e ≤ kx ∧ Aside (SWK enc k w0 blk off d wr) ∧
      Hid (halve (fun c => !ltOf cf d[Q - c]! d[c]!) e lo hi = halve (fun c => !ltOf cf d[Q - c]! d[c]!) (b - a) a m))
    case atStart => exact ⟨a, m, b - a, rfl, rfl, Nat.le_refl _, by omega, Nat.le_refl _, by omega, Nat.le_refl _, S0, rfl⟩
    case round =>
      clear S0
      obtain ⟨lo, hi, e, rfl, rfl, hml, hlh, hhb, hle, hek, S1, HE⟩ := hrel
      by_cases hlt : lo < hi
      · obtain ⟨e, rfl⟩ : ∃ q, e = q + 1 := ⟨e - 1, by omega⟩
        obtain ⟨c, hc'⟩ : ∃ c, (lo + hi) / 2 = c := ⟨_, rfl⟩
        obtain ⟨U, hU⟩ : ∃ U, Q - c = U := ⟨_, rfl⟩
        have hczz : ((lo : Int) + (hi : Int)) / 2 = (c : Int) := by omega
        have hin : lo ≤ c ∧ c < hi ∧ c ≤ Q ∧ U < n ∧ c < n := by omega
        have zU : IntKind.i64.wrap ((Q : Int) - (c : Int)) = (U : Int) := by rw [IntKind.wrap_i64]; omega
        have hcn : (c : Int) < (n : Int) := by omega
        have hUn : (U : Int) < (n : Int) := by omega
        obtain ⟨x1, hx1⟩ : ∃ x, x = d[U]! := ⟨_, rfl⟩
        obtain ⟨y1, hy1⟩ : ∃ x, x = d[c]! := ⟨_, rfl⟩
        have l1 := S1.out.ld R (by rw [HN.out, HS.out]) P U (by rw [HN.out]; omega)
        have l2 := S1.out.ld R (by rw [HN.out, HS.out]) P c (by rw [HN.out]; omega)
        rw [← hx1] at l1
        rw [← hy1] at l2
        have hcc := S1.out.cmp HC.out HN.out x1 y1
        have HXY : Hid (x1 = d[Q - c]! ∧ y1 = d[c]!) := ⟨by rw [hU]; exact hx1, hy1⟩
        have HCC : Hid ((lo + hi) / 2 = c) := hc'
        clear hx1 hy1 hc' hU
        by_cases hv : cf x1 y1 < 0
        · have hd : decide (cf x1 y1 < 0) = true := decide_eq_true hv
          go_wp2_with fail
          go_quiet_grown (first | (go_at_fn g; refine Calls.grown_of (hcc _ _)))
          have S2 : Aside (SWK enc k w0 blk off d (grow (wr.drewN nq) osq)) := S1.out.grown nq osq
          clear l1 l2 hcc S1
          generalize grow (wr.drewN nq) osq = w2 at S2 ⊢
          clear nq osq
          go_wp2
          go_roundg e
          case measure => omega
          case rel =>
            refine ⟨lo, c, e, rfl, int_at (by omega), by omega, by omega, by omega, by omega, Nat.le_refl _, S2, (show Hid _ from ?_)⟩
            show _ = _
            rw [← HE.out, halve_go hlt, HCC.out, if_neg]
            rw [← HXY.out.1, ← HXY.out.2]; show ¬ (!decide (cf x1 y1 < 0)) = true; rw [hd]; decide
        · have hd : decide (cf x1 y1 < 0) = false := decide_eq_false hv
          go_wp2_with fail
          go_quiet_grown (first | (go_at_fn g; refine Calls.grown_of (hcc _ _)))
          have S2 : Aside (SWK enc k w0 blk off d (grow (wr.drewN nq) osq)) := S1.out.grown nq osq
          clear l1 l2 hcc S1
          generalize grow (wr.drewN nq) osq = w2 at S2 ⊢
          clear nq osq
          go_wp2
          go_roundg e
          case measure => omega
          case rel =>
            refine ⟨c + 1, hi, e, int_at (by omega), rfl, by omega, by omega, hhb, by omega, Nat.le_refl _, S2, (show Hid _ from ?_)⟩
            show _ = _
            rw [← HE.out, halve_go hlt, HCC.out, if_pos]
            rw [← HXY.out.1, ← HXY.out.2]; show (!decide (cf x1 y1 < 0)) = true; rw [hd]; decide
      · obtain rfl : lo = hi := by omega
        obtain ⟨E, hE⟩ : ∃ E, N - lo = E := ⟨_, rfl⟩
        have zE' : IntKind.i64.wrap ((N : Int) - (lo : Int)) = (E : Int) := by rw [IntKind.wrap_i64]; omega
        have bE : E + lo ≤ N ∧ N ≤ E + lo ∧ E ≤ b ∧ M ≤ E + m ∧ lo ≤ m ∧ lo ≤ M ∧ m ≤ E ∧ a ≤ lo := by omega
        have HSS : Hid (symS (ltOf cf) d a m b = lo) := HX.out lo (by
          rw [if_neg hc, if_neg hc, ← HE.out, halve_stop])
        have HEE : Hid (M + m - lo = E) := by show _ = _; omega
        clear hE HE HX
        rcases Nat.lt_or_ge lo m with hA | hA
        · rcases Nat.lt_or_ge lo M with hB | hB
          · rcases Nat.lt_or_ge a lo with hC | hC
            · rcases Nat.lt_or_ge E b with hD | hD
              · have z0 : (lo : Int) < (m : Int) := by omega
                have z1 : (m : Int) < (E : Int) := by omega
                have z2 : (a : Int) < (lo : Int) := by omega
                have z3 : (lo : Int) < (M : Int) := by omega
                have z4 : (M : Int) < (E : Int) := by omega
                have z5 : (E : Int) < (b : Int) := by omega
                have hc0 := ROT.out lo m E wr S1.out (by omega) (by omega) (by omega)
                go_wp2_with fail
                refine hc0.mono ?_
                rintro e wr0 ⟨rfl, S2⟩
                clear hc0 S1
                have S1 : Aside _ := S2
                clear S2
                have hc1 := IH.out a lo M (rot d lo m E) wr0 (by first | exact HN.out | (simp only [size_symM, size_rot]; exact HN.out)) S1.out (by omega) (by omega) (by omega) (by omega)
                go_wp2_with fail
                refine hc1.mono ?_
                rintro e wr1 ⟨rfl, S2⟩
                clear hc1 S1
                have S1 : Aside _ := S2
                clear S2
                have hc2 := IH.out M E b (symM (ltOf cf) f a lo M (rot d lo m E)) wr1 (by first | exact HN.out | (simp only [size_symM, size_rot]; exact HN.out)) S1.out (by omega) (by omega) (by omega) (by omega)
                go_wp2_with fail
                refine hc2.mono ?_
                rintro e wr2 ⟨rfl, S2⟩
                clear hc2 S1
                have S1 : Aside _ := S2
                clear S2
                go_wp2
                all_goals go_end0
                all_goals have hfin := symM_main (ltOf cf) (f := f) (d := d) (d1 := (rot d lo m E)) (d2 := (symM (ltOf cf) f a lo M (rot d lo m E))) (d3 := (symM (ltOf cf) f M E b (symM (ltOf cf) f a lo M (rot d lo m E)))) (by omega) (by omega) HM.out HSS.out HEE.out (fun _ => rfl) (fun h => absurd ⟨by omega, by omega⟩ h) (fun _ => rfl) (fun h => absurd ⟨by omega, by omega⟩ h) (fun _ => rfl) (fun h => absurd ⟨by omega, by omega⟩ h)
                all_goals refine ⟨rfl, ?_⟩
                all_goals rw [hfin]
                all_goals exact S1.out
              · have z0 : (lo : Int) < (m : Int) := by omega
                have z1 : (m : Int) < (E : Int) := by omega
                have z2 : (a : Int) < (lo : Int) := by omega
                have z3 : (lo : Int) < (M : Int) := by omega
                have z4 : (M : Int) < (E : Int) := by omega
                have z5 : ¬ (E : Int) < (b : Int) := by omega
                have hc0 := ROT.out lo m E wr S1.out (by omega) (by omega) (by omega)
                go_wp2_with fail
                refine hc0.mono ?_
                rintro e wr0 ⟨rfl, S2⟩
                clear hc0 S1
                have S1 : Aside _ := S2
                clear S2
                have hc1 := IH.out a lo M (rot d lo m E) wr0 (by first | exact HN.out | (simp only [size_symM, size_rot]; exact HN.out)) S1.out (by omega) (by omega) (by omega) (by omega)
                go_wp2_with fail
                refine hc1.mono ?_
                rintro e wr1 ⟨rfl, S2⟩
                clear hc1 S1
                have S1 : Aside _ := S2
                clear S2
                go_wp2
                all_goals go_end0
                all_goals have hfin := symM_main (ltOf cf) (f := f) (d := d) (d1 := (rot d lo m E)) (d2 := (symM (ltOf cf) f a lo M (rot d lo m E))) (d3 := (symM (ltOf cf) f a lo M (rot d lo m E))) (by omega) (by omega) HM.out HSS.out HEE.out (fun _ => rfl) (fun h => absurd ⟨by omega, by omega⟩ h) (fun _ => rfl) (fun h => absurd ⟨by omega, by omega⟩ h) (fun h => by omega) (fun _ => rfl)
                all_goals refine ⟨rfl, ?_⟩
                all_goals rw [hfin]
                all_goals exact S1.out
            · rcases Nat.lt_or_ge E b with hD | hD
              · have z0 : (lo : Int) < (m : Int) := by omega
                have z1 : (m : Int) < (E : Int) := by omega
                have z2 : ¬ (a : Int) < (lo : Int) := by omega
                have z3 : (lo : Int) < (M : Int) := by omega
                have z4 : (M : Int) < (E : Int) := by omega
                have z5 : (E : Int) < (b : Int) := by omega
                have hc0 := ROT.out lo m E wr S1.out (by omega) (by omega) (by omega)
                go_wp2_with fail
                refine hc0.mono ?_
                rintro e wr0 ⟨rfl, S2⟩
                clear hc0 S1
                have S1 : Aside _ := S2
                clear S2
                have hc1 := IH.out M E b (rot d lo m E) wr0 (by first | exact HN.out | (simp only [size_symM, size_rot]; exact HN.out)) S1.out (by omega) (by omega) (by omega) (by omega)
                go_wp2_with fail
                refine hc1.mono ?_
                rintro e wr1 ⟨rfl, S2⟩
                clear hc1 S1
                have S1 : Aside _ := S2
                clear S2
                go_wp2
                all_goals go_end0
                all_goals have hfin := symM_main (ltOf cf) (f := f) (d := d) (d1 := (rot d lo m E)) (d2 := (rot d lo m E)) (d3 := (symM (ltOf cf) f M E b (rot d lo m E))) (by omega) (by omega) HM.out HSS.out HEE.out (fun _ => rfl) (fun h => absurd ⟨by omega, by omega⟩ h) (fun h => by omega) (fun _ => rfl) (fun _ => rfl) (fun h => absurd ⟨by omega, by omega⟩ h)
                all_goals refine ⟨rfl, ?_⟩
                all_goals rw [hfin]
                all_goals exact S1.out
              · have z0 : (lo : Int) < (m : Int) := by omega
                have z1 : (m : Int) < (E : Int) := by omega
                have z2 : ¬ (a : Int) < (lo : Int) := by omega
                have z3 : (lo : Int) < (M : Int) := by omega
                have z4 : (M : Int) < (E : Int) := by omega
                have z5 : ¬ (E : Int) < (b : Int) := by omega
                have hc0 := ROT.out lo m E wr S1.out (by omega) (by omega) (by omega)
                go_wp2_with fail
                refine hc0.mono ?_
                rintro e wr0 ⟨rfl, S2⟩
                clear hc0 S1
                have S1 : Aside _ := S2
                clear S2
                go_wp2
                all_goals go_end0
                all_goals have hfin := symM_main (ltOf cf) (f := f) (d := d) (d1 := (rot d lo m E)) (d2 := (rot d lo m E)) (d3 := (rot d lo m E)) (by omega) (by omega) HM.out HSS.out HEE.out (fun _ => rfl) (fun h => absurd ⟨by omega, by omega⟩ h) (fun h => by omega) (fun _ => rfl) (fun h => by omega) (fun _ => rfl)
                all_goals refine ⟨rfl, ?_⟩
                all_goals rw [hfin]
                all_goals exact S1.out
          · have z0 : (lo : Int) < (m : Int) := by omega
            have z1 : ¬ (m : Int) < (E : Int) := by omega
            have z2 : (a : Int) < (lo : Int) := by omega
            have z3 : ¬ (lo : Int) < (M : Int) := by omega
            have z4 : (M : Int) < (E : Int) := by omega
            have z5 : (E : Int) < (b : Int) := by omega
            have hc0 := IH.out M E b d wr (by first | exact HN.out | (simp only [size_symM, size_rot]; exact HN.out)) S1.out (by omega) (by omega) (by omega) (by omega)
            go_wp2_with fail
            refine hc0.mono ?_
            rintro e wr0 ⟨rfl, S2⟩
            clear hc0 S1
            have S1 : Aside _ := S2
            clear S2
            go_wp2
            all_goals go_end0
            all_goals have hfin := symM_main (ltOf cf) (f := f) (d := d) (d1 := d) (d2 := d) (d3 := (symM (ltOf cf) f M E b d)) (by omega) (by omega) HM.out HSS.out HEE.out (fun h => by omega) (fun _ => rfl) (fun h => by omega) (fun _ => rfl) (fun _ => rfl) (fun h => absurd ⟨by omega, by omega⟩ h)
            all_goals refine ⟨rfl, ?_⟩
            all_goals rw [hfin]
            all_goals exact S1.out
        · rcases Nat.lt_or_ge lo M with hB | hB
          · have z0 : ¬ (lo : Int) < (m : Int) := by omega
            have z1 : (m : Int) < (E : Int) := by omega
            have z2 : (a : Int) < (lo : Int) := by omega
            have z3 : (lo : Int) < (M : Int) := by omega
            have z4 : ¬ (M : Int) < (E : Int) := by omega
            have z5 : (E : Int) < (b : Int) := by omega
            have hc0 := IH.out a lo M d wr (by first | exact HN.out | (simp only [size_symM, size_rot]; exact HN.out)) S1.out (by omega) (by omega) (by omega) (by omega)
            go_wp2_with fail
            refine hc0.mono ?_
            rintro e wr0 ⟨rfl, S2⟩
            clear hc0 S1
            have S1 : Aside _ := S2
            clear S2
            go_wp2
            all_goals go_end0
            all_goals have hfin := symM_main (ltOf cf) (f := f) (d := d) (d1 := d) (d2 := (symM (ltOf cf) f a lo M d)) (d3 := (symM (ltOf cf) f a lo M d)) (by omega) (by omega) HM.out HSS.out HEE.out (fun h => by omega) (fun _ => rfl) (fun _ => rfl) (fun h => absurd ⟨by omega, by omega⟩ h) (fun h => by omega) (fun _ => rfl)
            all_goals refine ⟨rfl, ?_⟩
            all_goals rw [hfin]
            all_goals exact S1.out
          · have z0 : ¬ (lo : Int) < (m : Int) := by omega
            have z1 : ¬ (m : Int) < (E : Int) := by omega
            have z2 : (a : Int) < (lo : Int) := by omega
            have z3 : ¬ (lo : Int) < (M : Int) := by omega
            have z4 : ¬ (M : Int) < (E : Int) := by omega
            have z5 : (E : Int) < (b : Int) := by omega
            go_wp2
            all_goals go_end0
            all_goals have hfin := symM_main (ltOf cf) (f := f) (d := d) (d1 := d) (d2 := d) (d3 := d) (by omega) (by omega) HM.out HSS.out HEE.out (fun h => by omega) (fun _ => rfl) (fun h => by omega) (fun _ => rfl) (fun h => by omega) (fun _ => rfl)
            all_goals refine ⟨rfl, ?_⟩
            all_goals rw [hfin]
            all_goals exact S1.out

theorem symM_call {k : Nat} (L : Sits P k) (enc : α → List Value) (cf : α → α → Int) (g : Nat) (cb : Array Value) (blk off cap n : Nat) (d0 : Array α) (w0 : World)
    (eg : ∀ args w, (callFunc g args).run P w = .ok (.enter g args) w) (hcmp : CmpLays P g cb enc k cf blk off n w0) (R : RowK enc k w0 blk off d0) (hs : d0.size = n) (hsz : n < 4611686018427387904) :
    ∀ (f a m b : Nat) (d : Array α) (w : World), d.size = n → SWK enc k w0 blk off d w → a < m → m < b → b ≤ n → b - a ≤ f →
      Calls P 68 #[.slice (some ⟨blk, off, none⟩) n cap, .int .i64 a, .int .i64 m, .int .i64 b, .func (.func g) #[] cb] w fun e w' => e = .returned (.tuple #[]) ∧ SWK enc k w0 blk off (symM (ltOf cf) f a m b d) w'
  | 0, a, m, b, d, w, _, _, _, _, _, _ => by omega
  | f + 1, a, m, b, d, w, hn, S, ham, hmb, hb, hf => by
    by_cases h1 : m = a + 1
    · subst h1
      rw [← hn] at hcmp hs hb hsz ⊢
      exact symLeft_call L enc cf g cb blk off cap a b f d0 d w0 w eg hcmp R hs S hmb hb hsz
    · by_cases h2 : b = m + 1
      · subst h2
        rw [← hn] at hcmp hs hb hsz ⊢
        exact symRight_call L enc cf g cb blk off cap a m f d0 d w0 w eg hcmp R hs S (by omega) hb hsz
      · exact symMain_call L enc cf g cb blk off cap a m b f n d0 d w0 w eg hcmp R hs hn S (by omega) (by omega) hb hsz
          (fun a m b d w h1 h2 h3 h4 h5 h6 => symM_call L enc cf g cb blk off cap n d0 w0 eg hcmp R hs hsz f a m b d w h1 h2 h3 h4 h5 h6) hf
end Go.Proofs.Ythgidcfgelpkhaa
