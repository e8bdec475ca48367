/- The walk of the stretches' turn. -/
import Derived.Test.YthgidcfgelpkhaaStA
set_option linter.unusedVariables false
namespace Go.Proofs.Ythgidcfgelpkhaa
open Go Go.RowKit Go.Lib Go.Sort Go.Proofs
variable {P : Program} {α : Type} [Inhabited α]

theorem size_swapR : ∀ (k a b : Nat) (d : Array α), (swapR a b k d).size = d.size
  | 0, _, _, _ => rfl
  | k + 1, a, b, d => by rw [swapR, size_swapR k, size_swp]

theorem int_at {x y : Int} (h : x = y) : Value.int .i64 x = .int .i64 y := by rw [h]

theorem rotL_end (m : Nat) (f i : Nat) (d : Array α) : rotL m f i i d = swapR (m - i) m i d := by
  cases f with
  | zero => rfl
  | succ f => rw [rotL, if_pos rfl]

set_option maxHeartbeats 4000000 in
set_option maxRecDepth 1000000 in
theorem rotate_call {k : Nat} (L : Sits P k) (enc : α → List Value) (g : Nat) (cb : Array Value) (blk off cap a m b : Nat) (d0 d : Array α) (w0 w : World)
    (R : RowK enc k w0 blk off d0) (hs : d0.size = d.size) (S : SWK enc k w0 blk off d w) (ham : a < m) (hmb : m < b) (hb : b ≤ d.size) (hsz : d.size < 4611686018427387904) :
    Calls P 70 #[.slice (some ⟨blk, off, none⟩) d.size cap, .int .i64 a, .int .i64 m, .int .i64 b, .func (.func g) #[] cb] w fun e w' => e = .returned (.tuple #[]) ∧ SWK enc k w0 blk off (rot d a m b) w' := by
  have mixed := L.mixed; have t0 := L.t0; have a0 := L.a0; have z0 := L.z0; have v0 := L.v0; have t3 := L.t3; have a3 := L.a3; have z3 := L.z3; have v3 := L.v3; have t4 := L.t4; have a4 := L.a4; have z4 := L.z4; have v4 := L.v4; have t50 := L.t50; have a50 := L.a50; have z50 := L.z50; have v50 := L.v50; have t56 := L.t56; have a56 := L.a56; have z56 := L.z56; have v56 := L.v56
  have e71 : ∀ args w, (callFunc 71 args).run P w = .ok (.enter 71 args) w := enters_of L.f71 (by kernel_rfl) rfl
  have S0 : Aside (SWK enc k w0 blk off d w) := S
  have hsw : ∀ (n : Nat), d.size = n → Aside (∀ (x y u : Nat) (X Y U : Int) (dk : Array α) (W : World), dk.size = n → SWK enc k w0 blk off dk W → x + u ≤ n → y + u ≤ n → X = x → Y = y → U = u →
      Calls P 71 #[.slice (some ⟨blk, off, none⟩) n cap, .int .i64 X, .int .i64 Y, .int .i64 U, .func (.func g) #[] cb] W fun e w' => e = .returned (.tuple #[]) ∧ SWK enc k w0 blk off (swapR x y u dk) w') := by
    rintro n rfl x y u X Y U dk W hz SW h1 h2 rfl rfl rfl
    rw [← hz]
    exact swapRange_call L enc g cb blk off cap x y u d0 dk w0 W R (by omega) SW (by omega) (by omega) (by omega)
  obtain ⟨n, hn⟩ : ∃ n, d.size = n := ⟨_, rfl⟩
  replace hsw := hsw n hn
  clear S
  rw [hn] at hb hsz ⊢
  have HN : Hid (d.size = n) := hn
  clear hn hs
  go_enter L.f70, Try.ntmps70
  have w1 : IntKind.i64.wrap ((m : Int) - (a : Int)) = (m : Int) - (a : Int) := by rw [IntKind.wrap_i64]; omega
  have w2 : IntKind.i64.wrap ((b : Int) - (m : Int)) = (b : Int) - (m : Int) := by rw [IntKind.wrap_i64]; omega
  go_wp2
  clear w1 w2
  go_loopg [10, 11] (b - a) (fun kx s10 s11 wr => ∃ (i j f : Nat) (dk : Array α), s10 = .int .i64 i ∧ s11 = .int .i64 j ∧ f ≤ kx ∧ i + j ≤ f ∧ 0 < i ∧ 0 < j ∧ i ≤ m ∧ m + j ≤ n ∧ dk.size = n ∧ Aside (SWK enc k w0 blk off dk wr) ∧ Hid (rotL m f i j dk = rotL m (b - a) (m - a) (b - m) d))
  case atStart => exact ⟨m - a, b - m, b - a, d, int_at (by omega), int_at (by omega), Nat.le_refl _, by omega, by omega, by omega, by omega, by omega, HN.out, S0, rfl⟩
  case round =>
    clear S0
    obtain ⟨i, j, f, dk, rfl, rfl, hkx, hf, h0i, h0j, him, hjm, hds, S1, HE⟩ := hrel
    obtain ⟨f, rfl⟩ : ∃ q, f = q + 1 := ⟨f - 1, by omega⟩
    have wI : IntKind.i64.wrap ((m : Int) - (i : Int)) = (m : Int) - (i : Int) := by rw [IntKind.wrap_i64]; omega
    by_cases heq : i = j
    · subst heq
      have hc := hsw.out (m - i) m i ((m : Int) - (i : Int)) m i dk wr hds S1.out (by omega) (by omega) (by omega) rfl rfl
      go_wp2_with (go_at_fn 71; refine hc.mono ?_; rintro e w1 ⟨rfl, S2⟩)
      go_end0
      refine ⟨rfl, ?_⟩
      have h := HE.out
      rw [rotL_end] at h
      rw [h] at S2
      exact S2
    · have heqz : ¬ (i : Int) = (j : Int) := by omega
      by_cases hgt : (j : Int) < (i : Int)
      · have wJ : IntKind.i64.wrap ((i : Int) - (j : Int)) = (i : Int) - (j : Int) := by rw [IntKind.wrap_i64]; omega
        have hc := hsw.out (m - i) m j ((m : Int) - (i : Int)) m j dk wr hds S1.out (by omega) (by omega) (by omega) rfl rfl
        go_wp2_with (go_at_fn 71; refine hc.mono ?_; rintro e w1 ⟨rfl, S2⟩)
        go_roundg f
        case measure => omega
        case rel =>
          refine ⟨i - j, j, f, swapR (m - i) m j dk, int_at (by omega), rfl, Nat.le_refl _, by omega, by omega, h0j, by omega, hjm, by rw [size_swapR]; exact hds, S2, (show Hid _ from ?_)⟩
          show _ = _
          rw [← HE.out, rotL, if_neg (by omega), if_pos (by omega)]
      · have wJ : IntKind.i64.wrap ((j : Int) - (i : Int)) = (j : Int) - (i : Int) := by rw [IntKind.wrap_i64]; omega
        have wK : IntKind.i64.wrap ((m : Int) + (j : Int)) = (m : Int) + (j : Int) := by rw [IntKind.wrap_i64]; omega
        have wL : IntKind.i64.wrap ((m : Int) + (j : Int) - (i : Int)) = (m : Int) + (j : Int) - (i : Int) := by rw [IntKind.wrap_i64]; omega
        have hc := hsw.out (m - i) (m + j - i) i ((m : Int) - (i : Int)) ((m : Int) + (j : Int) - (i : Int)) i dk wr hds S1.out (by omega) (by omega) (by omega) (by omega) rfl
        go_wp2_with (go_at_fn 71; refine hc.mono ?_; rintro e w1 ⟨rfl, S2⟩)
        go_roundg f
        case measure => omega
        case rel =>
          refine ⟨i, j - i, f, swapR (m - i) (m + j - i) i dk, rfl, int_at (by omega), Nat.le_refl _, by omega, h0i, by omega, him, by omega, by rw [size_swapR]; exact hds, S2, (show Hid _ from ?_)⟩
          show _ = _
          rw [← HE.out, rotL, if_neg (by omega), if_neg (by omega)]
end Go.Proofs.Ythgidcfgelpkhaa
