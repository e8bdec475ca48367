/- The walk of a merge where the right side is a single element. -/
import Derived.Test.YthgidcfgelpkhaaStC
set_option linter.unusedVariables false
namespace Go.Proofs.Ythgidcfgelpkhaa
open Go Go.RowKit Go.Lib Go.Sort Go.Proofs
variable {P : Program} {α : Type} [Inhabited α]

set_option maxHeartbeats 4000000 in
set_option maxRecDepth 1000000 in
theorem symRight_call {k : Nat} (L : Sits P k) (enc : α → List Value) (cf : α → α → Int) (g : Nat) (cb : Array Value) (blk off cap a m f : Nat) (d0 d : Array α) (w0 w : World)
    (eg : ∀ args w, (callFunc g args).run P w = .ok (.enter g args) w) (hcmp : CmpLays P g cb enc k cf blk off d.size w0)
    (R : RowK enc k w0 blk off d0) (hs : d0.size = d.size) (S : SWK enc k w0 blk off d w) (ham : a + 1 < m) (hb : m + 1 ≤ d.size) (hsz : d.size < 4611686018427387904) :
    Calls P 68 #[.slice (some ⟨blk, off, none⟩) d.size cap, .int .i64 a, .int .i64 m, .int .i64 (m + 1 : Nat), .func (.func g) #[] cb] w fun e w' => e = .returned (.tuple #[]) ∧ SWK enc k w0 blk off (symM (ltOf cf) (f + 1) a m (m + 1) d) w' := by
  have mixed := L.mixed; have t0 := L.t0; have a0 := L.a0; have z0 := L.z0; have v0 := L.v0; have t3 := L.t3; have a3 := L.a3; have z3 := L.z3; have v3 := L.v3; have t4 := L.t4; have a4 := L.a4; have z4 := L.z4; have v4 := L.v4; have t50 := L.t50; have a50 := L.a50; have z50 := L.z50; have v50 := L.v50; have t56 := L.t56; have a56 := L.a56; have z56 := L.z56; have v56 := L.v56
  have t44 := L.t44; have a44 := L.a44; have z44 := L.z44; have v44 := L.v44
  have aE := L.aE; have zE := L.zE
  have u3 := run_underlying L.t3; have u44 := run_underlying L.t44
  have S0 : Aside (SWK enc k w0 blk off d w) := S
  have HC : Aside _ := hcmp
  obtain ⟨n, hn⟩ : ∃ n, d.size = n := ⟨_, rfl⟩
  rw [hn] at hb hsz hs HC ⊢
  have HN : Hid (d.size = n) := hn
  have HS : Hid (d0.size = n) := hs
  clear hn hs S hcmp
  obtain ⟨X, hX⟩ : ∃ X, symM (ltOf cf) (f + 1) a m (m + 1) d = X := ⟨_, rfl⟩
  have HX : Hid (dnR m (m - halve (fun h => !ltOf cf d[m]! d[h]!) (m + 1 - a) a m) d = X) := by
    show _ = _
    rw [← hX, symM, if_neg (by omega), if_pos (by omega)]
  rw [hX]
  clear hX
  go_enter L.f68, Try.ntmps68
  have w1 : IntKind.i64.wrap (((m + 1 : Nat) : Int) - (m : Int)) = 1 := by rw [IntKind.wrap_i64]; omega
  have w2 : IntKind.i64.wrap ((m : Int) - (a : Int)) = (m : Int) - (a : Int) := by rw [IntKind.wrap_i64]; omega
  have w3 : (((m : Int) - (a : Int)) == 1) = false := by simp; omega
  obtain ⟨b, hm⟩ : ∃ b, m + 1 = b := ⟨_, rfl⟩
  have HM : Hid (m + 1 = b) := hm
  rw [hm] at hb w1 HX ⊢
  have hmn : m < n := by omega
  clear hm
  go_wp2
  clear w1 w2 w3
  go_loopg [14, 15] (b - a) (fun kx s10 s11 wr => ∃ (lo hi e : Nat), s10 = .int .i64 lo ∧ s11 = .int .i64 hi ∧ a ≤ lo ∧ lo ≤ hi ∧ hi ≤ m ∧ hi - lo ≤ e ∧ e ≤ kx ∧ Aside (SWK enc k w0 blk off d wr) ∧
    Hid (halve (fun h => !ltOf cf d[m]! d[h]!) e lo hi = halve (fun h => !ltOf cf d[m]! d[h]!) (b - a) a m))
  case atStart => exact ⟨a, m, b - a, rfl, rfl, Nat.le_refl _, by omega, Nat.le_refl _, by have := HM.out; omega, Nat.le_refl _, S0, rfl⟩
  case round =>
    clear S0
    obtain ⟨lo, hi, e, rfl, rfl, hml, hlh, hhb, hle, hek, S1, HE⟩ := hrel
    by_cases hlt : lo < hi
    · obtain ⟨e, rfl⟩ : ∃ q, e = q + 1 := ⟨e - 1, by omega⟩
      obtain ⟨c, hc⟩ : ∃ c, (lo + hi) / 2 = c := ⟨_, rfl⟩
      have hcz : ((lo : Int) + (hi : Int)) / 2 = (c : Int) := by omega
      have hcn : (c : Int) < (n : Int) := by omega
      have han : (m : Int) < (n : Int) := by omega
      obtain ⟨x1, hx1⟩ : ∃ x, x = d[m]! := ⟨_, rfl⟩
      obtain ⟨y1, hy1⟩ : ∃ x, x = d[c]! := ⟨_, rfl⟩
      have l1 := S1.out.ld R (by rw [HN.out, HS.out]) P m (by rw [HN.out]; omega)
      have l2 := S1.out.ld R (by rw [HN.out, HS.out]) P c (by rw [HN.out]; omega)
      rw [← hx1] at l1
      rw [← hy1] at l2
      have hcc := S1.out.cmp HC.out HN.out x1 y1
      have HXY : Hid (x1 = d[m]! ∧ y1 = d[c]!) := ⟨hx1, hy1⟩
      have HCC : Hid ((lo + hi) / 2 = c) := hc
      have hci : lo ≤ c ∧ c < hi := by omega
      clear hx1 hy1 hc
      by_cases hv : cf x1 y1 < 0
      · have hd : decide (cf x1 y1 < 0) = true := decide_eq_true hv
        go_wp2_with fail
        go_quiet_grown (first | (go_at_fn g; refine Calls.grown_of (hcc _ _)))
        have S2 : Aside (SWK enc k w0 blk off d (grow (wr.drewN nq) osq)) := S1.out.grown nq osq
        clear l1 l2 hcc S1
        generalize grow (wr.drewN nq) osq = w2 at S2 ⊢
        clear nq osq
        go_wp2
        go_roundg e
        case measure => omega
        case rel =>
          refine ⟨lo, c, e, rfl, int_at (by omega), by omega, by omega, by omega, by omega, Nat.le_refl _, S2, (show Hid _ from ?_)⟩
          show _ = _
          rw [← HE.out, halve_go hlt, HCC.out, if_neg]
          rw [← HXY.out.1, ← HXY.out.2]; show ¬ (!decide (cf x1 y1 < 0)) = true; rw [hd]; decide
      · have hd : decide (cf x1 y1 < 0) = false := decide_eq_false hv
        go_wp2_with fail
        go_quiet_grown (first | (go_at_fn g; refine Calls.grown_of (hcc _ _)))
        have S2 : Aside (SWK enc k w0 blk off d (grow (wr.drewN nq) osq)) := S1.out.grown nq osq
        clear l1 l2 hcc S1
        generalize grow (wr.drewN nq) osq = w2 at S2 ⊢
        clear nq osq
        go_wp2
        go_roundg e
        case measure => omega
        case rel =>
          refine ⟨c + 1, hi, e, int_at (by omega), rfl, by omega, by omega, hhb, by omega, Nat.le_refl _, S2, (show Hid _ from ?_)⟩
          show _ = _
          rw [← HE.out, halve_go hlt, HCC.out, if_pos]
          rw [← HXY.out.1, ← HXY.out.2]; show (!decide (cf x1 y1 < 0)) = true; rw [hd]; decide
    · obtain rfl : lo = hi := by omega
      have HU : Hid (dnR m (m - lo) d = X) := by
        show _ = _
        rw [← HX.out, ← HE.out, halve_stop]
      clear HE HX
      go_wp2
      go_loopg [17] (m - lo) (fun kx s13 wr => ∃ (i : Nat) (dk : Array α), s13 = .int .i64 i ∧ lo ≤ i ∧ i ≤ m ∧ i - lo ≤ kx ∧ dk.size = n ∧ Aside (SWK enc k w0 blk off dk wr) ∧ Hid (dnR i (i - lo) dk = X))
      case atStart => exact ⟨m, d, rfl, hhb, Nat.le_refl _, Nat.le_refl _, HN.out, S1, HU⟩
      case round =>
        clear S1
        obtain ⟨i, dk, rfl, hli, him, hkx, hds, S1, HE⟩ := hrel
        by_cases hlt : (lo : Int) < (i : Int)
        · obtain ⟨j, rfl⟩ : ∃ j, i = j + 1 := ⟨i - 1, by omega⟩
          have wj : IntKind.i64.wrap (j : Int) = (j : Int) := by rw [IntKind.wrap_i64]; omega
          have lj : (j : Int) < (n : Int) := by omega
          have lj1 : (j : Int) + 1 < (n : Int) := by omega
          have nj1 : ((j : Int) + 1).toNat = j + 1 := by omega
          have S2 : Aside (SWK enc k w0 blk off (swp dk (j + 1) j) ((wr.drew.setCells blk (off + (j + 1) * k) (enc dk[j]!)).setCells blk (off + j * k) (enc dk[j + 1]!))) := S1.out.swapped R (j + 1) j (by omega) (by omega)
          have l44a := S1.out.ld1 R (by rw [hds, HS.out]) P (j + 1) (by omega)
          have l44b := S1.out.ld1 R (by rw [hds, HS.out]) P j (by omega)
          have s44a := S1.out.st1 R (by rw [hds, HS.out]) P (j + 1) (by omega) dk[j]!
          have s44b := S1.out.st2 R (by rw [hds, HS.out]) P (j + 1) j (by omega) (by omega) dk[j]! dk[j + 1]!
          have n44a : (enc dk[j + 1]!).length = k := R.hk _
          have n44b : (enc dk[j]!).length = k := R.hk _
          generalize enc dk[j + 1]! = cI44 at S2 l44a s44b n44a
          generalize enc dk[j]! = cJ44 at S2 l44b s44a s44b n44b
          clear S1
          go_wp2_with fail
          go_big_region_o
          clear l44a l44b s44a s44b
          generalize (wr.drew.setCells blk (off + (j + 1) * k) cJ44).setCells blk (off + j * k) cI44 = w2 at S2 ⊢
          go_wp2
          go_roundg (j - lo)
          case measure => omega
          case rel =>
            refine ⟨j, swp dk (j + 1) j, rfl, by omega, by omega, Nat.le_refl _, by rw [size_swp]; exact hds, S2, (show Hid _ from ?_)⟩
            show _ = _
            rw [← HE.out, show j + 1 - lo = j - lo + 1 by omega, dnR]; rfl
        · go_wp2
          refine bodyPost_ret (results_none rfl _ _ _) rfl ?_
          refine ⟨rfl, ?_⟩
          have h := HE.out
          rw [show i - lo = 0 by omega, dnR] at h
          rw [← h]
          exact S1.out
end Go.Proofs.Ythgidcfgelpkhaa
