/- LensOrder: the walk. -/
import Derived.Test.YthgidcfgelpkhaaLwRef
import Derived.Test.YthgidcfgelpkhaaArgs
set_option linter.unusedVariables false
set_option linter.unusedSimpArgs false
namespace Go.Proofs.Ythgidcfgelpkhaa
open Go Go.Shelf Go.RowKit Go.Lib Go.Sort Go.Proofs Go.Proofs.Ythgidcfgelpkhaa.Base

theorem intsAt_of {w : World} {A : Option Addr} {n cap : Nat} {zs : List Int} (h : Args.IntsIn .i64 w A n cap zs) : IntsAt w A zs := by
  intro hn
  obtain ⟨ad, hA, hc⟩ := h.at_ (by rw [h.len] at hn; exact hn)
  have h0 := hc 0 (by rw [h.len] at hn; exact hn)
  have hs : ad.spot = none := by
    unfold World.cell? Addr.add at h0
    rw [if_pos rfl] at h0
    cases hsp : ad.spot with
    | none => rfl
    | some x => rw [hsp] at h0; split at h0 <;> simp at h0
  have hlt : ad.block < w.heap.size := by
    have := World.block_lt_of_cell? w _ h0
    simpa [Addr.add] using this
  refine ⟨ad.block, ad.off, ?_, hlt, fun j hj => ?_⟩
  · rw [hA]; obtain ⟨x, y, z⟩ := ad; simp at hs; subst hs; rfl
  · have := hc j (by rw [h.len] at hj; exact hj)
    rw [← this]
    unfold Addr.add
    by_cases h : j = 0
    · subst h; rw [if_pos rfl]; obtain ⟨x, y, z⟩ := ad; simp at hs; subst hs; rfl
    · rw [if_neg h]
theorem drewN_below {B : Nat} {w W : World} (h : RowKit.Below B w W) (q : Nat) : RowKit.Below B w (W.drewN q) := ⟨h.os, h.tape, h.output, h.size, h.block⟩

set_option maxHeartbeats 1000000 in
set_option maxRecDepth 100000 in
theorem order_walk (most : Int) (V : Option Addr) (n cap : Nat) (zs : List Int) (w : World) (_ha : (Lit.int .i64 most).wf = true) (hin : Args.IntsIn .i64 w V n cap zs) :
    Calls Try.prog 5 #[.int .i64 most, .slice V n cap] w fun e w' => e = .returned (.bool true) ∧ RowKit.Below w.heap.size w w' := by
  have mixed : Try.prog.follows .mixedOrders = true := by kernel_rfl
  have hat := intsAt_of hin
  have hn : n = zs.length := hin.len.symm
  have hsz := hin.size
  clear _ha hin
  by_cases hbig : n > 100
  · have d1 : decide ((n : Int) > 100) = true := decide_eq_true (by omega)
    clear hat hn
    go_enter Try.func5, Try.ntmps5
    go_wp2_with fail
    refine (alive_call _).mono ?_
    rintro e w1 ⟨rfl, b1⟩
    go_wp2
    go_ret
    exact ⟨rfl, b1⟩
  have d1 : decide ((n : Int) > 100) = false := decide_eq_false (by omega)
  obtain ⟨E, hE⟩ : ∃ E, errP most zs = E := ⟨_, rfl⟩
  by_cases h0 : E = 0
  · subst h0
    have hof := fun (W : World) (h : IntsAt W V zs) => of_goodI V n cap zs W hn h hE
    have HOF : Aside _ := hof
    have HN : Hid (n = zs.length) := hn
    have hord : Hid (∀ i k, i < n → k < n → 0 < zs.getD k 0 → zs.getD k 0 < zs.getD i 0 → (lensP most.toNat zs).getD i 0 ≤ (lensP most.toNat zs).getD k 0) := by
      show ∀ i k, _
      intro i k hi hk h1 h2
      obtain ⟨m, rfl, hm1, _, _, _, hm2⟩ := err_zero hE
      rw [Int.toNat_natCast]
      exact lens_order (fits_of hm1 hm2) (by omega) (by omega) h1 h2
    have hll : (lensP most.toNat zs).length = n := by rw [lensP_length, hn]
    clear hof hE hn
    go_enter Try.func5, Try.ntmps5
    go_wp2_with fail
    refine (alive_call _).mono ?_
    rintro e w1 ⟨rfl, b1⟩
    have hat1 := hat.below b1
    have hofw := HOF.out w1 hat1
    clear HOF hat
    go_wp2_with fail
    refine hofw.mono ?_
    rintro e w2 ⟨A, c, rfl, ho, b2⟩
    obtain ⟨-, hal⟩ := ints_of_own ho
    have hat2 := hat1.below b2
    have b3 := bstep b1 b2
    have HLL : Hid ((lensP most.toNat zs).length = n) := hll
    clear hofw hat1 ho b1 b2 hll
    have dnn : ((n : Int) != (n : Int)) = false := by simp
    go_wp2
    go_loopg [7, 32] n (fun kx s7 s32 wr => ∃ i : Nat, i ≤ n ∧ n - i ≤ kx ∧ s32 = .int .i64 i ∧ RowKit.Below w.heap.size w wr ∧ RowKit.Below w2.heap.size w2 wr)
    case atStart => exact ⟨0, Nat.zero_le _, Nat.le_refl _, rfl, b3, Below.refl _ _⟩
    case round =>
      clear b3
      obtain ⟨i, hi, hkx, rfl, b3, b4⟩ := hrel
      by_cases hlt : i < n
      · have hltz : (i : Int) < (n : Int) := by omega
        go_wp2
        go_loopg [8, 37] n (fun kx s8 s37 wr => ∃ k : Nat, k ≤ n ∧ n - k ≤ kx ∧ s37 = .int .i64 k ∧ RowKit.Below w.heap.size w wr ∧ RowKit.Below w2.heap.size w2 wr)
        case atStart => exact ⟨0, Nat.zero_le _, Nat.le_refl _, rfl, b3, b4⟩
        case round =>
          clear b3 b4
          obtain ⟨k, hk, hkx2, rfl, b3, b4⟩ := hrel
          by_cases hlt2 : k < n
          · have hltz2 : (k : Int) < (n : Int) := by omega
            have q1 := HN.out
            have q2 := HLL.out
            obtain ⟨bv, ov, rfl, -, cv⟩ := hat2 (by omega)
            obtain ⟨ba, oa, rfl, -, ca⟩ := hal (by rw [intsOf_length]; omega)
            have x1 := pw_cell_below b4 (cv i (by omega))
            have x2 := pw_cell_below b4 (cv k (by omega))
            have y1 := pw_cell_below b4 (ca i (by rw [intsOf_length]; omega))
            have y2 := pw_cell_below b4 (ca k (by rw [intsOf_length]; omega))
            rw [intsOf_getD] at y1 y2
            have hno := hord.out i k hlt hlt2
            generalize zs.getD i 0 = X at x1 hno
            generalize zs.getD k 0 = Y at x2 hno
            have hno2 : 0 < Y → Y < X → (((lensP most.toNat zs).getD i 0 : Nat) : Int) ≤ (((lensP most.toNat zs).getD k 0 : Nat) : Int) := fun h1 h2 => by have := hno h1 h2; omega
            clear hno
            have hno := hno2
            clear hno2
            generalize (((lensP most.toNat zs).getD i 0 : Nat) : Int) = P at y1 hno
            generalize (((lensP most.toNat zs).getD k 0 : Nat) : Int) = Q at y2 hno
            have zk : IntKind.i64.wrap ((k : Int) + 1) = (k : Int) + 1 := by rw [IntKind.wrap_i64]; omega
            clear cv ca q1 q2
            by_cases e1 : X > Y
            · have t1 : decide (X > Y) = true := decide_eq_true e1
              by_cases e2 : Y > 0
              · have t2 : decide (Y > 0) = true := decide_eq_true e2
                have t3 : decide (P > Q) = false := decide_eq_false (by have := hno e2 e1; omega)
                clear hno
                go_wp2_with fail
                go_quiet (fail)
                have b5 := drewN_below b3 nq
                have b6 := drewN_below b4 nq
                clear b3 b4
                go_wp2
                go_roundg (n - (k + 1))
                case measure => omega
                case rel => exact ⟨k + 1, hlt2, Nat.le_refl _, rfl, b5, b6⟩
              · have t2 : decide (Y > 0) = false := decide_eq_false e2
                clear hno
                go_wp2_with fail
                go_quiet (fail)
                have b5 := drewN_below b3 nq
                have b6 := drewN_below b4 nq
                clear b3 b4
                go_wp2
                go_roundg (n - (k + 1))
                case measure => omega
                case rel => exact ⟨k + 1, hlt2, Nat.le_refl _, rfl, b5, b6⟩
            · have t1 : decide (X > Y) = false := decide_eq_false e1
              clear hno
              go_wp2_with fail
              go_quiet (fail)
              have b5 := drewN_below b3 nq
              have b6 := drewN_below b4 nq
              clear b3 b4
              go_wp2
              go_roundg (n - (k + 1))
              case measure => omega
              case rel => exact ⟨k + 1, hlt2, Nat.le_refl _, rfl, b5, b6⟩
          · have hltz2 : ¬ (k : Int) < (n : Int) := by omega
            have zi : IntKind.i64.wrap ((i : Int) + 1) = (i : Int) + 1 := by rw [IntKind.wrap_i64]; omega
            go_wp2
            go_roundg (n - (i + 1))
            case measure => omega
            case rel => exact ⟨i + 1, hlt, Nat.le_refl _, rfl, b3, b4⟩
      · have hltz : ¬ (i : Int) < (n : Int) := by omega
        go_wp2
        go_ret
        exact ⟨rfl, b3⟩
  · have hof := fun (W : World) (h : IntsAt W V zs) => of_bad V n cap zs W hn h hsz hE h0
    have HOF : Aside _ := hof
    have dE : ((E : Int) != 0) = true := by simp; omega
    clear hof hE hn h0
    go_enter Try.func5, Try.ntmps5
    go_wp2_with fail
    refine (alive_call _).mono ?_
    rintro e w1 ⟨rfl, b1⟩
    have hofw := HOF.out w1 (hat.below b1)
    clear HOF hat
    go_wp2_with fail
    refine hofw.mono ?_
    rintro e w2 ⟨rfl, b2⟩
    have b3 := bstep b1 b2
    clear hofw b1 b2
    go_wp2
    go_ret
    exact ⟨rfl, b3⟩
end Go.Proofs.Ythgidcfgelpkhaa
