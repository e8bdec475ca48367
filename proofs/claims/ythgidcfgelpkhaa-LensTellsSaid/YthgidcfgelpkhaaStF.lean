/- The walk of the stable sort as a whole: insertion in stretches of twenty, then merging. -/
import Derived.Test.YthgidcfgelpkhaaStE
set_option linter.unusedVariables false
set_option linter.unusedSimpArgs false
namespace Go.Proofs.Ythgidcfgelpkhaa
open Go Go.RowKit Go.Lib Go.Sort Go.Proofs
variable {P : Program} {α : Type} [Inhabited α]

theorem insB_go (lt : α → α → Bool) {n f a : Nat} {d : Array α} (h : a + 20 ≤ n) : insB lt n (f + 1) a d = insB lt n f (a + 20) (insertionSort lt d a (a + 20)) := by rw [insB, if_pos h]
theorem insB_stop (lt : α → α → Bool) {n f a : Nat} {d : Array α} (h : ¬ a + 20 ≤ n) : insB lt n (f + 1) a d = insertionSort lt d a n := by rw [insB, if_neg h]
theorem mergeP_go (lt : α → α → Bool) {n s f a : Nat} {d : Array α} (h : a + 2 * s ≤ n) : mergeP lt n s (f + 1) a d = mergeP lt n s f (a + 2 * s) (symM lt n a (a + s) (a + 2 * s) d) := by rw [mergeP, if_pos h]
theorem mergeP_last (lt : α → α → Bool) {n s f a : Nat} {d : Array α} (h : ¬ a + 2 * s ≤ n) (h' : a + s < n) : mergeP lt n s (f + 1) a d = symM lt n a (a + s) n d := by rw [mergeP, if_neg h, if_pos h']
theorem mergeP_stop (lt : α → α → Bool) {n s f a : Nat} {d : Array α} (h : ¬ a + 2 * s ≤ n) (h' : ¬ a + s < n) : mergeP lt n s (f + 1) a d = d := by rw [mergeP, if_neg h, if_neg h']
theorem merges_go (lt : α → α → Bool) {n f s : Nat} {d : Array α} (h : s < n) : merges lt n (f + 1) s d = merges lt n f (2 * s) (mergeP lt n s (n + 1) 0 d) := by rw [merges, if_pos h]
theorem merges_stop (lt : α → α → Bool) {n f s : Nat} {d : Array α} (h : ¬ s < n) : merges lt n (f + 1) s d = d := by rw [merges, if_neg h]

set_option maxHeartbeats 8000000 in
set_option maxRecDepth 1000000 in
theorem stable_call {k : Nat} (L : Sits P k) (enc : α → List Value) (cf : α → α → Int) (hO : SWO (ltOf cf)) (g : Nat) (cb : Array Value) (blk off cap n : Nat) (d0 d : Array α) (w0 w : World)
    (eg : ∀ args w, (callFunc g args).run P w = .ok (.enter g args) w) (hcmp : CmpLays P g cb enc k cf blk off n w0)
    (R : RowK enc k w0 blk off d0) (hs : d0.size = n) (hn : d.size = n) (S : SWK enc k w0 blk off d w) (hsz : n < 1152921504606846976)
    (ins : ∀ (a b : Nat) (d : Array α) (w : World), d.size = n → SWK enc k w0 blk off d w → a ≤ b → b ≤ n →
      Calls P 67 #[.slice (some ⟨blk, off, none⟩) n cap, .int .i64 a, .int .i64 b, .func (.func g) #[] cb] w fun e w' => e = .returned (.tuple #[]) ∧ SWK enc k w0 blk off (insertionSort (ltOf cf) d a b) w') :
    Calls P 55 #[.slice (some ⟨blk, off, none⟩) n cap, .int .i64 n, .func (.func g) #[] cb] w fun e w' => e = .returned (.tuple #[]) ∧ SWK enc k w0 blk off (stableS (ltOf cf) d) w' := by
  have mixed := L.mixed; have t0 := L.t0; have a0 := L.a0; have z0 := L.z0; have v0 := L.v0; have t3 := L.t3; have a3 := L.a3; have z3 := L.z3; have v3 := L.v3; have t4 := L.t4; have a4 := L.a4; have z4 := L.z4; have v4 := L.v4; have t50 := L.t50; have a50 := L.a50; have z50 := L.z50; have v50 := L.v50; have t56 := L.t56; have a56 := L.a56; have z56 := L.z56; have v56 := L.v56
  have u3 := run_underlying L.t3
  have e67 : ∀ args w, (callFunc 67 args).run P w = .ok (.enter 67 args) w := enters_of L.f67 (by kernel_rfl) rfl
  have e68 : ∀ args w, (callFunc 68 args).run P w = .ok (.enter 68 args) w := enters_of L.f68 (by kernel_rfl) rfl
  have S0 : Aside (SWK enc k w0 blk off d w) := S
  have INS : Aside _ := ins
  have SYM : Aside _ := symM_call L enc cf g cb blk off cap n d0 w0 eg hcmp R hs (by omega : n < 4611686018427387904)
  have SI : Aside (∀ (a b : Nat) (d : Array α), d.size = n → a ≤ b → b ≤ n → (insertionSort (ltOf cf) d a b).size = n) := fun a b d h1 h2 h3 => by rw [(insertionSort_holds hO d a b h2 (by omega)).1.1, h1]
  have SM : Aside (∀ (a m b : Nat) (d : Array α), d.size = n → (symM (ltOf cf) n a m b d).size = n) := fun a m b d h1 => by rw [size_symM, h1]
  have HN : Hid (d.size = n) := hn
  obtain ⟨X, hX⟩ : ∃ X, insB (ltOf cf) n (n + 1) 0 d = X := ⟨_, rfl⟩
  obtain ⟨Y, hY⟩ : ∃ Y, merges (ltOf cf) n (n + 1) 20 X = Y := ⟨_, rfl⟩
  have HY : Hid (stableS (ltOf cf) d = Y) := by show _ = _; unfold stableS; rw [hn, hX, hY]
  have HX : Hid (insB (ltOf cf) n (n + 1) 0 d = X) := hX
  have HZ : Hid (merges (ltOf cf) n (n + 1) 20 X = Y) := hY
  have hg : stableS (ltOf cf) d = Y := HY.out
  rw [hg]
  clear hg hX hY hcmp hs hn S ins HY
  go_enter L.f55, Try.ntmps55
  go_wp2
  go_loopg [7, 8] n (fun kx s7 s8 wr => ∃ (a f : Nat) (dk : Array α), s7 = .int .i64 a ∧ s8 = .int .i64 (a + 20 : Nat) ∧ a ≤ n ∧ n - a ≤ kx ∧ n < a + f ∧ dk.size = n ∧ Aside (SWK enc k w0 blk off dk wr) ∧ Hid (insB (ltOf cf) n f a dk = X))
  case atStart => exact ⟨0, n + 1, d, rfl, rfl, by omega, by omega, by omega, HN.out, S0, HX⟩
  case round =>
    clear S0 HX
    obtain ⟨a, f, dk, rfl, rfl, han, hkx, hf, hds, S1, HE⟩ := hrel
    obtain ⟨f, rfl⟩ : ∃ q, f = q + 1 := ⟨f - 1, by omega⟩
    obtain ⟨b, hb⟩ : ∃ b, a + 20 = b := ⟨_, rfl⟩
    rw [hb]
    have HB : Hid (a + 20 = b) := hb
    have bB : a + 20 ≤ b ∧ b ≤ a + 20 := by omega
    clear hb
    by_cases hlt : b ≤ n
    · have hltz : (b : Int) ≤ (n : Int) := by omega
      have wb : IntKind.i64.wrap ((b : Int) + 20) = ((b + 20 : Nat) : Int) := by rw [IntKind.wrap_i64]; omega
      have hc := INS.out a b dk wr hds S1.out (by omega) (by omega)
      go_wp2_with fail
      refine hc.mono ?_
      rintro e wr2 ⟨rfl, S2⟩
      have S3 : Aside _ := S2
      clear hc S1 S2
      go_wp2
      go_roundg (n - b)
      case measure => omega
      case rel =>
        refine ⟨b, f, _, rfl, int_at (by omega), hlt, Nat.le_refl _, by omega, SI.out a b dk hds (by omega) hlt, S3, (show Hid _ from ?_)⟩
        show _ = _
        rw [← HE.out, insB_go _ (by omega : a + 20 ≤ n), HB.out]
    · have hltz : ¬ (b : Int) ≤ (n : Int) := by omega
      have hc := INS.out a n dk wr hds S1.out (by omega) (by omega)
      have hE : insertionSort (ltOf cf) dk a n = X := by rw [← HE.out, insB_stop _ (by omega : ¬ a + 20 ≤ n)]
      have hXs : X.size = n := by rw [← hE]; exact SI.out a n dk hds (by omega) (Nat.le_refl _)
      rw [hE] at hc
      clear hE HE
      go_wp2_with fail
      refine hc.mono ?_
      rintro e wr2 ⟨rfl, S2⟩
      have S3 : Aside _ := S2
      have HXS : Hid (X.size = n) := hXs
      clear hc S1 S2 hds hXs
      go_wp2
      go_loopg [6, 7, 8, 9] n (fun kx s6 s7 s8 s9 wr => ∃ (s f : Nat) (dk : Array α), s6 = .int .i64 s ∧ 20 ≤ s ∧ s ≤ 2 * n + 20 ∧ n - s ≤ kx ∧ n < s + f ∧ dk.size = n ∧ Aside (SWK enc k w0 blk off dk wr) ∧ Hid (merges (ltOf cf) n f s dk = Y))
      case atStart => exact ⟨20, n + 1, X, rfl, by omega, by omega, by omega, by omega, HXS.out, S3, HZ⟩
      case round =>
        clear S3 HZ HXS
        obtain ⟨s, f, dk, rfl, h20, hsn, hkx, hf, hds, S1, HE⟩ := hrel
        by_cases hlt : s < n
        · have hltz : (s : Int) < (n : Int) := by omega
          obtain ⟨f, rfl⟩ : ∃ q, f = q + 1 := ⟨f - 1, by omega⟩
          obtain ⟨D, hD⟩ : ∃ D, 2 * s = D := ⟨_, rfl⟩
          obtain ⟨Z, hZ⟩ : ∃ Z, mergeP (ltOf cf) n s (n + 1) 0 dk = Z := ⟨_, rfl⟩
          have HF : Hid (merges (ltOf cf) n f D Z = Y) := by show _ = _; rw [← HE.out, merges_go _ hlt, hD, hZ]
          have HD : Hid (2 * s = D) := hD
          have HZ : Hid (mergeP (ltOf cf) n s (n + 1) 0 dk = Z) := hZ
          have bD : 2 * s ≤ D ∧ D ≤ 2 * s := by omega
          have wD : IntKind.i64.wrap (2 * (s : Int)) = (D : Int) := by rw [IntKind.wrap_i64]; omega
          have wD' : IntKind.i64.wrap ((s : Int) * 2) = (D : Int) := by rw [IntKind.wrap_i64]; omega
          clear hD hZ HE
          go_wp2
          go_loopg [7, 8] n (fun kx s7 s8 wr => ∃ (a b f : Nat) (dk : Array α), s7 = .int .i64 a ∧ s8 = .int .i64 b ∧ a + D ≤ b ∧ b ≤ a + D ∧ a ≤ n ∧ n - a ≤ kx ∧ n < a + f ∧ dk.size = n ∧ Aside (SWK enc k w0 blk off dk wr) ∧ Hid (mergeP (ltOf cf) n s f a dk = Z))
          case atStart => exact ⟨0, D, n + 1, dk, rfl, rfl, by omega, by omega, by omega, by omega, by omega, hds, S1, HZ⟩
          case round =>
            clear S1 HZ hds
            obtain ⟨a, b, f2, dk, rfl, rfl, hb1, hb2, han, hkx2, hf2, hds, S1, HE⟩ := hrel
            obtain ⟨f2, rfl⟩ : ∃ q, f2 = q + 1 := ⟨f2 - 1, by omega⟩
            obtain ⟨M, hM⟩ : ∃ M, a + s = M := ⟨_, rfl⟩
            have zM : IntKind.i64.wrap ((a : Int) + (s : Int)) = (M : Int) := by rw [IntKind.wrap_i64]; omega
            have HM : Hid (a + s = M) := hM
            have bM : a + s ≤ M ∧ M ≤ a + s := by omega
            clear hM
            by_cases hlt2 : b ≤ n
            · have hltz2 : (b : Int) ≤ (n : Int) := by omega
              have wb : IntKind.i64.wrap ((b : Int) + (D : Int)) = ((b + D : Nat) : Int) := by rw [IntKind.wrap_i64]; omega
              have hc := SYM.out n a M b dk wr hds S1.out (by omega) (by omega) (by omega) (by omega)
              go_wp2_with fail
              refine hc.mono ?_
              rintro e wr2 ⟨rfl, S2⟩
              have S3 : Aside _ := S2
              clear hc S1 S2
              go_wp2
              go_roundg (n - b)
              case measure => omega
              case rel =>
                refine ⟨b, b + D, f2, _, rfl, rfl, by omega, by omega, hlt2, Nat.le_refl _, by omega, SM.out a M b dk hds, S3, (show Hid _ from ?_)⟩
                show _ = _
                rw [← HE.out, mergeP_go _ (by omega : a + 2 * s ≤ n), HM.out, show a + 2 * s = b by omega]
            · have hltz2 : ¬ (b : Int) ≤ (n : Int) := by omega
              by_cases hlt3 : M < n
              · have hltz3 : (M : Int) < (n : Int) := by omega
                have hc := SYM.out n a M n dk wr hds S1.out (by omega) (by omega) (by omega) (by omega)
                have hE : symM (ltOf cf) n a M n dk = Z := by rw [← HE.out, mergeP_last _ (by omega : ¬ a + 2 * s ≤ n) (by omega), HM.out]
                have hZs : Z.size = n := by rw [← hE]; exact SM.out a M n dk hds
                rw [hE] at hc
                clear hE HE
                go_wp2_with fail
                refine hc.mono ?_
                rintro e wr2 ⟨rfl, S2⟩
                have S3 : Aside _ := S2
                clear hc S1 S2
                go_wp2
                go_roundg (n - D)
                case measure => omega
                case rel => exact ⟨D, f, Z, rfl, by omega, by omega, Nat.le_refl _, by omega, hZs, S3, HF⟩
              · have hltz3 : ¬ (M : Int) < (n : Int) := by omega
                have hE : dk = Z := by rw [← HE.out, mergeP_stop _ (by omega : ¬ a + 2 * s ≤ n) (by omega)]
                have S3 : Aside (SWK enc k w0 blk off Z wr) := by rw [← hE]; exact S1.out
                have hZs : Z.size = n := by rw [← hE]; exact hds
                clear hE HE S1
                go_wp2
                go_roundg (n - D)
                case measure => omega
                case rel => exact ⟨D, f, Z, rfl, by omega, by omega, Nat.le_refl _, by omega, hZs, S3, HF⟩
        · have hltz : ¬ (s : Int) < (n : Int) := by omega
          have hE : dk = Y := by
            rw [← HE.out]
            cases f with
            | zero => rfl
            | succ f => rw [merges_stop _ hlt]
          have S3 : Aside (SWK enc k w0 blk off Y wr) := by rw [← hE]; exact S1.out
          clear hE HE S1
          go_wp2
          go_end0
          exact ⟨rfl, S3.out⟩

theorem sort_call {k : Nat} (L : Sits P k) (enc : α → List Value) (cf : α → α → Int) (hO : SWO (ltOf cf)) (g : Nat) (cb : Array Value) (blk off cap n : Nat) (d0 d : Array α) (w0 w : World)
    (eg : ∀ args w, (callFunc g args).run P w = .ok (.enter g args) w) (hcmp : CmpLays P g cb enc k cf blk off n w0)
    (R : RowK enc k w0 blk off d0) (hs : d0.size = n) (hn : d.size = n) (S : SWK enc k w0 blk off d w) (hsz : n < 1152921504606846976)
    (ins : ∀ (a b : Nat) (d : Array α) (w : World), d.size = n → SWK enc k w0 blk off d w → a ≤ b → b ≤ n →
      Calls P 67 #[.slice (some ⟨blk, off, none⟩) n cap, .int .i64 a, .int .i64 b, .func (.func g) #[] cb] w fun e w' => e = .returned (.tuple #[]) ∧ SWK enc k w0 blk off (insertionSort (ltOf cf) d a b) w') :
    Calls P 29 #[.slice (some ⟨blk, off, none⟩) n cap, .func (.func g) #[] cb] w fun e w' => e = .returned (.tuple #[]) ∧ SWK enc k w0 blk off (stableS (ltOf cf) d) w' := by
  have mixed := L.mixed; have t0 := L.t0; have a0 := L.a0; have z0 := L.z0; have v0 := L.v0; have t3 := L.t3; have a3 := L.a3; have z3 := L.z3; have v3 := L.v3; have t50 := L.t50; have a50 := L.a50; have z50 := L.z50; have v50 := L.v50; have t56 := L.t56; have a56 := L.a56; have z56 := L.z56; have v56 := L.v56
  have e55 : ∀ args w, (callFunc 55 args).run P w = .ok (.enter 55 args) w := enters_of L.f55 (by kernel_rfl) rfl
  have hc := stable_call L enc cf hO g cb blk off cap n d0 d w0 w eg hcmp R hs hn S hsz ins
  generalize stableS (ltOf cf) d = Y at hc ⊢
  clear hcmp hs hn S ins R
  go_enter L.f29, Try.ntmps29
  go_wp2_with fail
  refine hc.mono ?_
  rintro e wr2 ⟨rfl, S2⟩
  have S3 : Aside _ := S2
  clear hc S2
  go_wp2
  go_end0
  exact ⟨rfl, S3.out⟩
end Go.Proofs.Ythgidcfgelpkhaa
