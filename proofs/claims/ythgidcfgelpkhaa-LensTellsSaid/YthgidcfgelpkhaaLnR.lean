/- The reference's lengths: the walk. -/
import Derived.Test.YthgidcfgelpkhaaLnJ
import Derived.Deep.DeepCutAuto
import Derived.Deep.CutBlock
set_option linter.unusedVariables false
set_option linter.unusedSimpArgs false
namespace Go.Proofs.Ythgidcfgelpkhaa
open Go Go.Shelf Go.RowKit Go.Lib Go.Sort Go.Proofs Go.Proofs.Ythgidcfgelpkhaa.Base
theorem src_of {w : World} {A : Option Addr} {l : List Coin} {B n c : Nat} (h : RowI B w (.slice A n c) l) (k : Nat) : SrcI w A ((l.take k).flatMap encC) := by
  rcases h.1.2 with ⟨e, h0⟩ | ⟨g, cp, cur, e, _⟩
  · injection e with e1 e2 e3
    subst e1
    have hl : l = [] := List.eq_nil_of_length_eq_zero h0
    subst hl
    exact .inl ⟨rfl, by simp⟩
  · injection e with e1 e2 e3
    subst e1 e2 e3
    refine .inr ⟨_, rfl, fun j u hj => ?_⟩
    rw [Addr.add_lit, Nat.zero_add]
    refine h.srcs j u ?_
    rw [flat_take, List.getElem?_take] at hj
    split at hj
    · exact hj
    · cases hj
theorem src_of_drop {w : World} {g : Nat} {l : List Coin} {B n c : Nat} (h : RowI B w (.slice (some ⟨g, 0, none⟩) n c) l) (k : Nat) : SrcI w (some ⟨g, k * 2, none⟩) ((l.drop k).flatMap encC) := by
  refine .inr ⟨_, rfl, fun j u hj => ?_⟩
  rw [Addr.add_lit]
  refine h.srcs _ u ?_
  rw [flat_drop, List.getElem?_drop] at hj
  exact hj
theorem row_form {B : Nat} {w : World} {A : Option Addr} {n c : Nat} {l : List Coin} (h : RowI B w (.slice A n c) l) : n = l.length ∧ n ≤ c ∧ ((A = none ∧ l = []) ∨ ∃ g, A = some ⟨g, 0, none⟩) := by
  rcases h.1.2 with ⟨e, h0⟩ | ⟨g, cp, cur, e, _, _, h3, _⟩
  · injection e with e1 e2 e3
    subst e1 e2 e3
    exact ⟨h0.symm, Nat.le_refl _, .inl ⟨rfl, List.eq_nil_of_length_eq_zero h0⟩⟩
  · injection e with e1 e2 e3
    subst e1 e2 e3
    exact ⟨rfl, h3, .inr ⟨g, rfl⟩⟩
theorem take_low {l : List Coin} {raw : List PC} (hpl : l.map Coin.plain = sortedBy ltP raw) {k z : Nat} (hk : k ≤ l.length) (h : k = 0 ∨ ∃ c, l[k - 1]? = some c ∧ c.n ≤ z) : ∀ b ∈ (l.map Coin.plain).take k, b.1 ≤ z := by
  rcases h with rfl | ⟨c, hc, hz⟩
  · intro b hb; simp at hb
  · intro b hb
    rcases Nat.eq_zero_or_pos k with h0 | h0
    · subst h0; simp at hb
    · have ho : InOrder ltP (l.map Coin.plain) := by rw [hpl]; exact sortedBy_order swoP _
      have := order_take (k := k - 1) (c := c.plain) ho (by rw [List.getElem?_map, hc]; rfl) b (by rw [show k - 1 + 1 = k by omega]; exact hb)
      exact Nat.le_trans this hz

theorem ins_row {B : Nat} {w0 W : World} {v : Value} {l : List Coin} {m k z s b : Nat} {A : Option Addr} {c : Nat} (hz : z ≤ 1073741824) (hrow : RowI B w0 v l) (hB : B ≤ w0.heap.size) (hG : RowKit.Below w0.heap.size w0 W) (hm : l.length = m) (hk : k ≤ m)
    (ho : W.ownsRow w0.heap.size 59 2 (.slice A (m + 1) c) (m + 1) ((l.take k).flatMap encC ++ [Value.int .i64 (z : Int), .slice (some ⟨b, 0, none⟩) 1 1] ++ (l.drop k).flatMap encC)) (hb : w0.heap.size ≤ b) (hh : W.heap[b]? = some (.cells #[.int .i64 (s : Int)] 3 (0, 0))) :
    RowI B W (.slice A (m + 1) c) (l.take k ++ [coin1 z s b hz] ++ l.drop k) ∧ (l.take k ++ [coin1 z s b hz] ++ l.drop k).length = m + 1 := by
  have hlen : (l.take k ++ [coin1 z s b hz] ++ l.drop k).length = m + 1 := by
    simp only [List.length_append, List.length_take, List.length_drop, List.length_singleton]; omega
  refine ⟨⟨?_, fun x hx => ?_⟩, hlen⟩
  · rw [hlen]
    refine own_mono ?_ hB
    simpa [encC, coin1, Coin.sl] using ho
  · rcases List.mem_append.1 hx with hx | hx
    · rcases List.mem_append.1 hx with hx | hx
      · exact (hrow.2 x (List.mem_of_mem_take hx)).below hG
      · rw [List.mem_singleton.1 hx]
        exact ⟨rfl, .inr ⟨b, 1, #[.int .i64 (s : Int)], rfl, Nat.le_trans hB hb, hh, Nat.le_refl _, by unfold maxLen; omega, rfl, rfl⟩⟩
    · exact (hrow.2 x (List.mem_of_mem_drop hx)).below hG

theorem step_low {N F : List Coin} {s : Nat} {c : Coin} {p : PC} {ps X : List PC} (hc : F[s]? = some c) (h : c.n ≤ p.1) (hq : N.map Coin.plain ++ mrg ltP ((F.drop s).map Coin.plain) (p :: ps) = X) : (N ++ [c]).map Coin.plain ++ mrg ltP ((F.drop (s + 1)).map Coin.plain) (p :: ps) = X := by
  obtain ⟨hs, rfl⟩ := List.getElem?_eq_some_iff.1 hc
  rw [List.drop_eq_getElem_cons hs, List.map_cons, mrg_low h] at hq
  rw [← hq, List.map_append, List.append_assoc]; rfl
theorem step_high {N F : List Coin} {s : Nat} {P : Coin} {ps X : List PC} (h : ∀ c, F[s]? = some c → P.n < c.n) (hq : N.map Coin.plain ++ mrg ltP ((F.drop s).map Coin.plain) (P.plain :: ps) = X) : (N ++ [P]).map Coin.plain ++ mrg ltP ((F.drop s).map Coin.plain) ps = X := by
  rw [mrg_high] at hq
  · rw [← hq, List.map_append, List.append_assoc]; rfl
  · intro x hx
    rw [List.head?_map, List.head?_drop] at hx
    cases hF : F[s]? with
    | none => rw [hF] at hx; cases hx
    | some c =>
      rw [hF] at hx
      obtain rfl : c.plain = x := by simpa using hx
      exact h c hF
theorem step_pair {L : List Coin} {t : Nat} {x y : Coin} (hx : L[t]? = some x) (hy : L[t + 1]? = some y) : packP ((L.drop t).map Coin.plain) = (x.n + y.n, x.syms ++ y.syms) :: packP ((L.drop (t + 2)).map Coin.plain) := by
  rw [List.map_drop, pack_two (x := x.plain) (y := y.plain) (by rw [List.getElem?_map, hx]; rfl) (by rw [List.getElem?_map, hy]; rfl), List.map_drop]; rfl
/-- A row that is being laid above B0; its items' symbols above B. -/
def RowN (B0 B : Nat) (w : World) (v : Value) (l : List Coin) : Prop := w.ownsRow B0 59 2 v l.length (l.flatMap encC) ∧ ∀ c ∈ l, Syms B w c
theorem RowN.below {B0 B : Nat} {w w' : World} {v : Value} {l : List Coin} (h : RowN B0 B w v l) (hb : RowKit.Below w.heap.size w w') : RowN B0 B w' v l := ⟨own_below h.1 hb, fun c hc => (h.2 c hc).below hb⟩
theorem RowN.nil (B0 B : Nat) (w : World) : RowN B0 B w (.slice none 0 0) [] := ⟨World.ownsRow_nil _ _ _ _, fun c hc => by cases hc⟩
theorem RowN.join {B0 B : Nat} {w w' : World} {v v' : Value} {l l2 : List Coin} (h : RowN B0 B w v l) (hc : ∀ c ∈ l2, Syms B w c) (ho : w'.ownsRow B0 59 2 v' (l.length + l2.length) (l.flatMap encC ++ l2.flatMap encC)) (hg : w.grownBy w' v.ownBlock) : RowN B0 B w' v' (l ++ l2) := by
  refine ⟨by rw [List.length_append, List.flatMap_append]; exact ho, fun x hx => ?_⟩
  rcases List.mem_append.1 hx with hx | hx
  · exact (h.2 x hx).keptI h.1 hg
  · exact (hc x hx).keptI h.1 hg
theorem RowN.row {B0 B : Nat} {w : World} {v : Value} {l : List Coin} (h : RowN B0 B w v l) (hb : B ≤ B0) : RowI B w v l := ⟨own_mono h.1 hb, h.2⟩

set_option maxHeartbeats 4000000 in
set_option maxRecDepth 1000000 in
theorem ref_fine (mo : Nat) (V : Option Addr) (n cap : Nat) (zs : List Int) (w : World) (hn : n = zs.length) (hat : IntsAt w V zs) (hle : n ≤ 400) (hmo : 1 ≤ mo ∧ mo ≤ 15) :
    Calls Try.prog 16 #[.int .i64 mo, .slice V n cap] w fun e w' => OfPost w n mo zs e w' := by
  have mixed : Try.prog.follows .mixedOrders = true := by kernel_rfl
  obtain ⟨i3, hi3, hy0, hy1, hy2⟩ := info_parts info3
  obtain ⟨i0, hi, hz0, hz1, hz2⟩ := info_parts info59
  have hnh : Hid (n = zs.length) := hn
  have t1 : decide ((mo : Int) < 1) = false := by simp; omega
  have t2 : decide ((mo : Int) > 15) = false := by simp; omega
  have herr1 : Hid (badP zs = true → errP (mo : Int) zs = 1) := (fun h => by unfold errP; rw [if_pos (by rw [h]; simp)] : _ → _)
  clear hn
  go_enter Try.func16, Try.ntmps16
  go_wp2_with fail
  go_loopg [6, 7] n (fun kx s6 s7 wr => ∃ (i : Nat) (l : List Coin), i ≤ n ∧ n - i ≤ kx ∧ s7 = .int .i64 i ∧ RowI w.heap.size wr s6 l ∧ RowKit.Below w.heap.size w wr ∧ l.length ≤ i ∧ Hid (l.map Coin.plain = sortedBy ltP (rawFrom 0 (zs.take i))) ∧ Hid (∀ c ∈ l, c.n < 2147483648 ∧ c.syms.length = 1) ∧ Hid (badP (zs.take i) = false))
  case atStart => exact ⟨0, [], Nat.zero_le _, Nat.le_refl _, rfl, RowI.nil _ _, Below.refl _ _, Nat.le_refl _, (by show _ = _; simp [sortedBy, rawFrom]), (fun c hc => by cases hc), rfl⟩
  case round =>
    obtain ⟨w1, rfl⟩ : ∃ x, x = wr := ⟨_, rfl⟩
    obtain ⟨i, l, hin, hkx, rfl, hrow, bel, hli, hpl, hsm, hbd⟩ := hrel
    obtain ⟨A0, c0, rfl, -⟩ := own_form hrow.1
    obtain ⟨-, hmc, hform⟩ := row_form hrow
    obtain ⟨m, hm⟩ : ∃ m, l.length = m := ⟨_, rfl⟩
    rw [hm] at hrow hmc hli ⊢
    have HM : Hid (l.length = m) := hm
    clear hm
    by_cases hlt : i < n
    · have hltz : (i : Int) < (n : Int) := by omega
      obtain ⟨bb, off, rfl, hblt, hcells⟩ := hat (by have := hnh.out; omega)
      have hcell0 := pw_cell_below bel (hcells i (by have := hnh.out; omega))
      obtain ⟨zz, hzz⟩ : ∃ zz, zs.getD i 0 = zz := ⟨_, rfl⟩
      rw [hzz] at hcell0
      have HZ : Hid (zs.getD i 0 = zz) := hzz
      clear hcells hzz hat
      by_cases hz0' : zz < 0
      · have u1 : decide (zz < 0) = true := decide_eq_true hz0'
        have HE : Hid (errP (mo : Int) zs = 1) := herr1.out (bad_at (i := i) (by have := hnh.out; omega) (.inl (by rw [HZ.out]; exact hz0')))
        clear hrow hform hpl hsm hbd hz0'
        go_wp2
        refine bodyPost_ret (v := .tuple #[.slice none 0 0, .int .i64 1]) ?_ rfl ⟨bel, .inl ⟨by rw [HE.out]; decide, by rw [HE.out]; rfl⟩⟩
        simp [results, Try.results16, go_sem]
      · by_cases hz1' : zz > 1073741824
        · have u1 : decide (zz < 0) = false := decide_eq_false hz0'
          have u2 : decide (zz > 1073741824) = true := decide_eq_true hz1'
          have HE : Hid (errP (mo : Int) zs = 1) := herr1.out (bad_at (i := i) (by have := hnh.out; omega) (.inr (by rw [HZ.out]; exact hz1')))
          clear hrow hform hpl hsm hbd hz0' hz1'
          go_wp2
          refine bodyPost_ret (v := .tuple #[.slice none 0 0, .int .i64 1]) ?_ rfl ⟨bel, .inl ⟨by rw [HE.out]; decide, by rw [HE.out]; rfl⟩⟩
          simp [results, Try.results16, go_sem]
        · obtain ⟨z, rfl⟩ : ∃ z : Nat, zz = (z : Int) := ⟨zz.toNat, by omega⟩
          have hzle : z ≤ 1073741824 := by omega
          have u1 : decide ((z : Int) < 0) = false := decide_eq_false hz0'
          have u2 : decide ((z : Int) > 1073741824) = false := decide_eq_false hz1'
          have zi : IntKind.i64.wrap ((i : Int) + 1) = (i : Int) + 1 := by rw [IntKind.wrap_i64]; omega
          have hbd2 : Hid (badP (zs.take (i + 1)) = false) := bad_take (by have := hnh.out; omega) hbd.out (by rw [HZ.out]; omega) (by rw [HZ.out]; omega)
          have HT : Hid (rawFrom 0 (zs.take (i + 1)) = rawFrom 0 (zs.take i) ++ rawAt i (z : Int)) := by
            show _ = _
            rw [← HZ.out]; exact rawFrom_take (by have := hnh.out; omega)
          clear hz0' hz1' hbd
          by_cases hz2' : z = 0
          · subst hz2'
            have hpl2 : Hid (l.map Coin.plain = sortedBy ltP (rawFrom 0 (zs.take (i + 1)))) := by
              show _ = _
              rw [HT.out, hpl.out]; simp [rawAt]
            have hf : ∃ A, A = A0 := ⟨_, rfl⟩
            clear HT hpl hform
            go_wp2
            go_roundg (n - (i + 1))
            case measure => omega
            case rel => exact ⟨i + 1, l, hlt, Nat.le_refl _, rfl, by rw [← HM.out] at hrow; rw [← HM.out]; exact hrow, bel, by rw [HM.out]; omega, hpl2, hsm, hbd2⟩
          · have u3 : ((z : Int) == 0) = false := by simp; omega
            go_upto_block 2 with fail
            go_cut [8] (fun s8 wx => ∃ k : Nat, s8 = .int .i64 k ∧ k ≤ m ∧ RowKit.Below w1.heap.size w1 wx ∧ Hid (∀ c ∈ l.drop k, z < c.n) ∧ Hid (k = 0 ∨ ∃ c, l[k - 1]? = some c ∧ c.n ≤ z))
            case first =>
              go_wp2_with fail
              go_loopg [8] m (fun kx s8 wr => ∃ k : Nat, s8 = .int .i64 k ∧ k ≤ m ∧ k ≤ kx ∧ RowKit.Below w1.heap.size w1 wr ∧ Hid (∀ c ∈ l.drop k, z < c.n))
              case atStart => exact ⟨m, rfl, Nat.le_refl _, Nat.le_refl _, Below.refl _ _, (fun c hc => by rw [List.drop_eq_nil_of_le (by rw [HM.out]; omega)] at hc; cases hc)⟩
              case round =>
                obtain ⟨W, rfl⟩ : ∃ x, x = wr := ⟨_, rfl⟩
                obtain ⟨k, rfl, hkm, hkx2, belW, hbig⟩ := hrel
                have hc1 := pw_cell_below belW hcell0
                by_cases hk0 : k = 0
                · subst hk0
                  have v1 : decide (((0 : Nat) : Int) > 0) = false := rfl
                  clear hc1
                  go_wp2_with fail
                  go_quiet (fail)
                  go_wp2_with fail
                  go_meet
                  case rel => exact ⟨0, rfl, Nat.zero_le _, drewN_below belW _, hbig, .inl rfl⟩
                · obtain ⟨j, hj⟩ : ∃ j, k = j + 1 := ⟨k - 1, by omega⟩
                  have v1 : decide ((k : Int) > 0) = true := decide_eq_true (by omega)
                  have v1b : decide (0 < k) = true := decide_eq_true (by omega)
                  have v2 : IntKind.i64.wrap ((k : Int) - 1) = (j : Int) := by rw [IntKind.wrap_i64]; omega
                  have hjm : (j : Int) < (m : Int) := by omega
                  obtain ⟨c, hc⟩ : ∃ c, l[j]? = some c := ⟨_, List.getElem?_eq_getElem (by have := HM.out; omega)⟩
                  obtain ⟨-, g0, rfl, -, hcs⟩ := RowI.cell hrow (by have := HM.out; omega)
                  have hc2 := pw_cell_below belW (hcs j c hc).1
                  obtain ⟨N, hN⟩ : ∃ N, c.n = N := ⟨_, rfl⟩
                  rw [hN] at hc2
                  replace hj : Hid (k = j + 1) := hj
                  replace hk0 : Hid (¬ k = 0) := hk0
                  clear hcs
                  by_cases hgt : z < N
                  · have v3 : decide ((N : Int) > (z : Int)) = true := decide_eq_true (by omega)
                    have v3b : decide (z < N) = true := decide_eq_true hgt
                    have hbig2 : Hid (∀ c ∈ l.drop j, z < c.n) := by
                      show ∀ c ∈ _, _
                      intro d hd
                      obtain ⟨hjl, rfl⟩ := List.getElem?_eq_some_iff.1 hc
                      rw [List.drop_eq_getElem_cons hjl] at hd
                      rcases List.mem_cons.1 hd with rfl | hd
                      · rw [hN]; exact hgt
                      · exact hbig.out d (by rw [hj.out]; exact hd)
                    have hjk : j < k ∧ j < m := by have := hj.out; omega
                    clear hc hN hbig hgt
                    go_wp2_with fail
                    go_quiet (fail)
                    go_wp2_with fail
                    go_roundg j
                    case measure => omega
                    case rel => exact ⟨j, rfl, by omega, Nat.le_refl _, drewN_below belW _, hbig2⟩
                  · have v3 : decide ((N : Int) > (z : Int)) = false := decide_eq_false (by omega)
                    have v3b : decide (z < N) = false := decide_eq_false hgt
                    have hstop : Hid (k = 0 ∨ ∃ c, l[k - 1]? = some c ∧ c.n ≤ z) := .inr ⟨c, by rw [hj.out]; exact hc, by rw [hN]; omega⟩
                    clear hc hN hgt
                    go_wp2_with fail
                    go_quiet (fail)
                    go_wp2_with fail
                    go_meet
                    case rel => exact ⟨k, rfl, hkm, drewN_below belW _, hbig, hstop⟩
            case rest =>
            obtain ⟨w0, rfl⟩ : ∃ x, x = wc := ⟨_, rfl⟩
            obtain ⟨k, rfl, hkm, belW, hbig, hstop⟩ := hcut
            obtain ⟨m1, hm1⟩ : ∃ m1, m - k = m1 := ⟨_, rfl⟩
            have hm1q : k + m1 ≤ m ∧ m ≤ k + m1 := by omega
            have hcell := pw_cell_below belW hcell0
            have hrow0 := hrow.below belW
            have HK : Hid (k ≤ l.length) := (by rw [HM.out]; exact hkm : _ ≤ _)
            have hqN : (k : Int) ≤ (m : Int) := by omega
            have hqC : (k : Int) ≤ (c0 : Int) := by omega
            have hz2p : 0 < z := by omega
            clear hm1 hcell0 hz2'
            have src2 := src_of hrow0 k
            rcases hform with ⟨rfl, hl0⟩ | ⟨g0, rfl⟩
            · have src15 : SrcI w0 none ((l.drop k).flatMap encC) := .inl ⟨rfl, by rw [hl0]; simp⟩
              clear hl0
              go_wp2_with fail
              refine RegL.wp_region_end (RowKit.Below w0.heap.size w0) (fun _ _ => True) (inR w0.heap.size k z ((l.take k).flatMap encC)) (fun i => i) (inV w0.heap.size w0 (.slice none m c0) (.slice (some ⟨bb, off, none⟩) n cap) k i m m1 bb off z l)
                [some 67, some 68, some 69, some 70, some 71, some 72, some 73, some 74, some 75, some 76, some 77, some 78, some 79, some 80, some 81, some 82, some 83]
                [[], [], [0, 1], [2], [], [], [4, 5], [6], [], [8], [7, 9], [10], [3, 11, 3], [], [], [13, 14], [12, 15, 12]]
                (by kernel_rfl) (by kernel_rfl) (by kernel_rfl) (by kernel_rfl) (by kernel_rfl) (fun i => .inl rfl) ?_ ?_ ?_ ?_ ?_ ?_ ?_
              · exact ⟨rfl, rfl, rfl, Nat.le_refl _, fun _ _ => rfl⟩
              · intro i; trivial
              · intro i W W' h k2; exact inG_stay h.size h k2
              · intros; trivial
              · intro j i p v W W' h1 h2 h3 h4; refine inV_stay HK.out ?_ h3 h4
                rintro (⟨rfl, rfl⟩ | ⟨rfl, rfl⟩ | ⟨rfl, rfl⟩)
                · exact h1 rfl
                · exact h1 rfl
                · exact h2 (by decide)
              · refine ⟨?_, ?_, ?_, ?_, ?_, ?_, ?_, ?_, ?_, ?_, ?_, ?_, ?_, ?_, ?_, ?_, ?_, trivial⟩
                · intro vals W K hG hU hV hK
                  simp only [if_true] at hK
                  simp only [Reg.putS, List.foldl, List.headD, List.tail, List.getD_cons_zero, List.getD_cons_succ, Act.put, List.setIfInBounds_toArray, List.set_cons_zero, List.set_cons_succ] at hK ⊢
                  go_simp
                  first
                    | exact hK _ _ (Below.refl _ _) rfl
                    | (rw [if_pos (by omega)]; exact hK _ _ (Below.refl _ _) rfl)
                    | (rw [dif_pos (by omega)]; exact hK _ _ (Below.refl _ _) rfl)
                    | (rw [if_neg (by omega)]; exact hK _ _ (Below.refl _ _) rfl)
                · intro vals W K hG hU hV hK
                  simp only [if_true] at hK
                  simp only [Reg.putS, List.foldl, List.headD, List.tail, List.getD_cons_zero, List.getD_cons_succ, Act.put, List.setIfInBounds_toArray, List.set_cons_zero, List.set_cons_succ] at hK ⊢
                  go_simp
                  first
                    | exact hK _ _ (Below.refl _ _) rfl
                    | (rw [if_pos (by omega)]; exact hK _ _ (Below.refl _ _) rfl)
                    | (rw [dif_pos (by omega)]; exact hK _ _ (Below.refl _ _) rfl)
                    | (rw [if_neg (by omega)]; exact hK _ _ (Below.refl _ _) rfl)
                · intro vals W K hG hU hV hK
                  simp only [if_true] at hK
                  have d0 := hV 0 (by simp)
                  simp only [inV] at d0
                  have d1 := hV 1 (by simp)
                  simp only [inV] at d1
                  simp only [Reg.putS, List.foldl, List.headD, List.tail, List.getD_cons_zero, List.getD_cons_succ, Act.put, List.setIfInBounds_toArray, List.set_cons_zero, List.set_cons_succ, d0, d1] at hK ⊢
                  go_simp
                  exact hK _ _ (Below.refl _ _) ⟨_, _, rfl, src2⟩
                · refine Step.step_of ?g ?_
                  case g => rfl
                  intro A vals W K hA hG hU hV hK
                  simp only [if_true] at hK
                  have d2 := hV 2 (by simp)
                  simp only [inV] at d2
                  obtain ⟨A2, c2, d2, src2⟩ := d2
                  rcases src2 with ⟨rfl, hx⟩ | ⟨ad, rfl, hc⟩
                  · have hm0 : k = 0 := by have h := flat_len (l.take k); rw [hx, List.length_take_of_le HK.out] at h; simp at h; omega
                    refine Keep.wp_append_nothing _ (.const (.slice none 0 0)) (.tmp 69) 57 rfl w0.heap.size 59 i0 2 Try.underlying57 hi (.slice none 0 0) 0 [] rfl (World.ownsRow_nil _ _ _ _) c2 ?x1 ?x2
                    case x1 => rw [(Step.putE hA rfl (Nat.lt_of_sub_eq_succ rfl)).trans d2, hm0]
                    case x2 => exact hK _ _ (Below.refl _ _) ⟨⟨none, 0, by rw [hm0], by rw [hx, hm0]; exact World.ownsRow_nil _ _ _ _⟩, fun _ => rfl⟩
                  · refine wp_append_own _ (.const (.slice none 0 0)) (.tmp 69) 57 rfl w0.heap.size 59 i0 _ 2 32 Try.underlying57 hi hz0 hz1 hz2 rfl (by decide) _ 0 [] rfl (World.ownsRow_nil _ _ _ _) ad k c2 ((l.take k).flatMap encC) ((Step.putE hA rfl (Nat.lt_of_sub_eq_succ rfl)).trans d2) (by rw [flat_len, List.length_take_of_le HK.out]) (fun j u h => src_below hG (hc j u h)) flat_one ?c1 ?c2 hG.size ?c3
                    case c1 => unfold maxLen; omega
                    case c2 => omega
                    case c3 =>
                      intro v' w' ho hgr hnil
                      rw [Nat.zero_add, List.nil_append] at ho
                      obtain ⟨A, c, rfl, -⟩ := own_form ho
                      exact hK _ _ ((Below.refl _ _).grown hgr (Nat.le_refl _) (fun k hk => by cases hk)) ⟨⟨A, c, rfl, ho⟩, fun h0 => hnil.2 ⟨rfl, h0⟩⟩
                · intro vals W K hG hU hV hK
                  simp only [if_true] at hK
                  simp only [Reg.putS, List.foldl, List.headD, List.tail, List.getD_cons_zero, List.getD_cons_succ, Act.put, List.setIfInBounds_toArray, List.set_cons_zero, List.set_cons_succ] at hK ⊢
                  go_simp
                  first
                    | exact hK _ _ (Below.refl _ _) rfl
                    | (rw [if_pos (by omega)]; exact hK _ _ (Below.refl _ _) rfl)
                    | (rw [dif_pos (by omega)]; exact hK _ _ (Below.refl _ _) rfl)
                    | (rw [if_neg (by omega)]; exact hK _ _ (Below.refl _ _) rfl)
                · intro vals W K hG hU hV hK
                  simp only [if_true] at hK
                  simp only [Reg.putS, List.foldl, List.headD, List.tail, List.getD_cons_zero, List.getD_cons_succ, Act.put, List.setIfInBounds_toArray, List.set_cons_zero, List.set_cons_succ] at hK ⊢
                  go_simp
                  first
                    | exact hK _ _ (Below.refl _ _) rfl
                    | (rw [if_pos (by omega)]; exact hK _ _ (Below.refl _ _) rfl)
                    | (rw [dif_pos (by omega)]; exact hK _ _ (Below.refl _ _) rfl)
                    | (rw [if_neg (by omega)]; exact hK _ _ (Below.refl _ _) rfl)
                · intro vals W K hG hU hV hK
                  simp only [if_true] at hK
                  have d4 := hV 4 (by simp)
                  simp only [inV] at d4
                  have d5 := hV 5 (by simp)
                  simp only [inV] at d5
                  simp only [Reg.putS, List.foldl, List.headD, List.tail, List.getD_cons_zero, List.getD_cons_succ, Act.put, List.setIfInBounds_toArray, List.set_cons_zero, List.set_cons_succ, d4, d5] at hK ⊢
                  go_simp
                  first
                    | exact hK _ _ (Below.refl _ _) rfl
                    | (rw [if_pos (by omega)]; exact hK _ _ (Below.refl _ _) rfl)
                    | (rw [dif_pos (by omega)]; exact hK _ _ (Below.refl _ _) rfl)
                    | (rw [if_neg (by omega)]; exact hK _ _ (Below.refl _ _) rfl)
                · intro vals W K hG hU hV hK
                  simp only [if_true] at hK
                  have d6 := hV 6 (by simp)
                  simp only [inV] at d6
                  simp only [Reg.putS, List.foldl, List.headD, List.tail, List.getD_cons_zero, List.getD_cons_succ, Act.put, List.setIfInBounds_toArray, List.set_cons_zero, List.set_cons_succ, d6] at hK ⊢
                  have hcl := pw_cell_below hG hcell
                  go_simp
                  first
                    | exact hK _ _ (Below.refl _ _) rfl
                    | (rw [if_pos (by omega)]; exact hK _ _ (Below.refl _ _) rfl)
                    | (rw [dif_pos (by omega)]; exact hK _ _ (Below.refl _ _) rfl)
                    | (rw [if_neg (by omega)]; exact hK _ _ (Below.refl _ _) rfl)
                · intro vals W K hG hU hV hK
                  simp only [if_true] at hK
                  simp only [Reg.putS, List.foldl, List.headD, List.tail, List.getD_cons_zero, List.getD_cons_succ, Act.put, List.setIfInBounds_toArray, List.set_cons_zero, List.set_cons_succ] at hK ⊢
                  go_simp
                  first
                    | exact hK _ _ (Below.refl _ _) rfl
                    | (rw [if_pos (by omega)]; exact hK _ _ (Below.refl _ _) rfl)
                    | (rw [dif_pos (by omega)]; exact hK _ _ (Below.refl _ _) rfl)
                    | (rw [if_neg (by omega)]; exact hK _ _ (Below.refl _ _) rfl)
                · intro vals W K hG hU hV hK
                  simp only [if_true] at hK
                  have d8 := hV 8 (by simp)
                  simp only [inV] at d8
                  simp only [Reg.putS, List.foldl, List.headD, List.tail, List.getD_cons_zero, List.getD_cons_succ, Act.put, List.setIfInBounds_toArray, List.set_cons_zero, List.set_cons_succ, d8] at hK ⊢
                  go_simp
                  exact hK _ _ (balloc (Below.refl _ _) _) ⟨_, rfl, hG.size, heap_new W _⟩
                · intro vals W K hG hU hV hK
                  simp only [if_true] at hK
                  have d7 := hV 7 (by simp)
                  simp only [inV] at d7
                  have d9 := hV 9 (by simp)
                  simp only [inV] at d9
                  obtain ⟨b9, d9, hge9, hh9⟩ := d9
                  simp only [Reg.putS, List.foldl, List.headD, List.tail, List.getD_cons_zero, List.getD_cons_succ, Act.put, List.setIfInBounds_toArray, List.set_cons_zero, List.set_cons_succ, d7, d9] at hK ⊢
                  go_simp
                  exact hK _ _ (Below.refl _ _) ⟨b9, rfl, hge9, hh9⟩
                · intro vals W K hG hU hV hK
                  simp only [if_true] at hK
                  have d10 := hV 10 (by simp)
                  simp only [inV] at d10
                  obtain ⟨b10, d10, hge10, hh10⟩ := d10
                  simp only [Reg.putS, List.foldl, List.headD, List.tail, List.getD_cons_zero, List.getD_cons_succ, Act.put, List.setIfInBounds_toArray, List.set_cons_zero, List.set_cons_succ, d10] at hK ⊢
                  go_simp
                  exact hK _ _ (balloc (Below.refl _ _) _) ⟨_, b10, rfl, heap_new W _, hge10, heap_below (balloc (Below.refl _ _) _) hh10⟩
                · refine Step.step_of ?g ?_
                  case g => rfl
                  intro A vals W K hA hG hU hV hK
                  simp only [if_true] at hK
                  have d3 := hV 3 (by simp)
                  simp only [inV] at d3
                  obtain ⟨⟨A3, c3, d3, ho3⟩, hz3⟩ := d3
                  have d11 := hV 11 (by simp)
                  simp only [inV] at d11
                  obtain ⟨g11, b11, d11, hg11, hge11, hh11⟩ := d11
                  refine Keep.wp_append_keep _ (.tmp 70) (.tmp 78) 57 rfl w0.heap.size 59 i0 _ 2 32 Try.underlying57 hi hz0 hz1 hz2 rfl (by decide) _ k (((l.take k).flatMap encC)) ((Step.putE hA rfl (Nat.lt_of_sub_eq_succ rfl)).trans d3) ho3 ⟨g11, 0, none⟩ 1 1 [Value.int .i64 (z : Int), .slice (some ⟨b11, 0, none⟩) 1 1] ((Step.putE hA rfl (Nat.lt_of_sub_eq_succ rfl)).trans d11) rfl ?c0 ?cc ?c1 ?c2 hG.size ?c3
                  case c0 => intro j u hj; rw [Addr.add_lit, Nat.zero_add]; exact cell_of hg11 (by simpa using hj)
                  case cc => intro u hu; simp at hu; rcases hu with rfl | rfl <;> rfl
                  case c1 => unfold maxLen; omega
                  case c2 => omega
                  case c3 =>
                    intro v' w' ho hgr hk
                    obtain ⟨A, c, rfl, -⟩ := own_form ho
                    exact hK _ _ ⟨_, ho3, hgr, hk, own_ge ho3, by rcases Nat.eq_zero_or_pos k with h | h; exact .inr (d3.symm.trans (hz3 h)); exact .inl h⟩ ⟨A, c, b11, rfl, ho, hge11, block_other hh11 ho3 hgr (by decide)⟩
                · intro vals W K hG hU hV hK
                  simp only [if_true] at hK
                  simp only [Reg.putS, List.foldl, List.headD, List.tail, List.getD_cons_zero, List.getD_cons_succ, Act.put, List.setIfInBounds_toArray, List.set_cons_zero, List.set_cons_succ] at hK ⊢
                  go_simp
                  first
                    | exact hK _ _ (Below.refl _ _) rfl
                    | (rw [if_pos (by omega)]; exact hK _ _ (Below.refl _ _) rfl)
                    | (rw [dif_pos (by omega)]; exact hK _ _ (Below.refl _ _) rfl)
                    | (rw [if_neg (by omega)]; exact hK _ _ (Below.refl _ _) rfl)
                · intro vals W K hG hU hV hK
                  simp only [if_true] at hK
                  simp only [Reg.putS, List.foldl, List.headD, List.tail, List.getD_cons_zero, List.getD_cons_succ, Act.put, List.setIfInBounds_toArray, List.set_cons_zero, List.set_cons_succ] at hK ⊢
                  go_simp
                  first
                    | exact hK _ _ (Below.refl _ _) rfl
                    | (rw [if_pos (by omega)]; exact hK _ _ (Below.refl _ _) rfl)
                    | (rw [dif_pos (by omega)]; exact hK _ _ (Below.refl _ _) rfl)
                    | (rw [if_neg (by omega)]; exact hK _ _ (Below.refl _ _) rfl)
                · intro vals W K hG hU hV hK
                  simp only [if_true] at hK
                  have d13 := hV 13 (by simp)
                  simp only [inV] at d13
                  have d14 := hV 14 (by simp)
                  simp only [inV] at d14
                  simp only [Reg.putS, List.foldl, List.headD, List.tail, List.getD_cons_zero, List.getD_cons_succ, Act.put, List.setIfInBounds_toArray, List.set_cons_zero, List.set_cons_succ, d13, d14] at hK ⊢
                  go_simp
                  exact hK _ _ (Below.refl _ _) ⟨none, _, by rw [show m - k = m1 by omega], src15⟩
                · refine Step.step_of ?g ?_
                  case g => rfl
                  intro A vals W K hA hG hU hV hK
                  simp only [if_true] at hK
                  have d12 := hV 12 (by simp)
                  simp only [inV] at d12
                  obtain ⟨A12, c12, b12, d12, ho12, hge12, hh12⟩ := d12
                  have d15 := hV 15 (by simp)
                  simp only [inV] at d15
                  obtain ⟨A15, c15, d15, src15⟩ := d15
                  rcases src15 with ⟨rfl, hx⟩ | ⟨ad, rfl, hc⟩
                  · have hm0 : m1 = 0 := by have h := flat_len (l.drop k); rw [hx, List.length_drop] at h; have := HM.out; simp at h; omega
                    refine Keep.wp_append_nothing _ (.tmp 79) (.tmp 82) 57 rfl w0.heap.size 59 i0 2 Try.underlying57 hi _ (k + 1) _ ((Step.putE hA rfl (Nat.lt_of_sub_eq_succ rfl)).trans d12) ho12 c15 ?x1 ?x2
                    case x1 => rw [(Step.putE hA rfl (Nat.lt_of_sub_eq_succ rfl)).trans d15, hm0]
                    case x2 =>
                      have e2 : m + 1 = k + 1 := by omega
                      refine hK _ _ ⟨b12, _, ho12, ⟨rfl, rfl, rfl, Nat.le_refl _, fun _ _ _ => rfl⟩, ho12, own_ge ho12, .inl (by omega)⟩ ⟨A12, c12, b12, by rw [e2], ?_, hge12, hh12⟩
                      rw [hx, List.append_nil, e2]; exact ho12
                  · refine Keep.wp_append_keep _ (.tmp 79) (.tmp 82) 57 rfl w0.heap.size 59 i0 _ 2 32 Try.underlying57 hi hz0 hz1 hz2 rfl (by decide) _ (k + 1) _ ((Step.putE hA rfl (Nat.lt_of_sub_eq_succ rfl)).trans d12) ho12 ad m1 c15 ((l.drop k).flatMap encC) ((Step.putE hA rfl (Nat.lt_of_sub_eq_succ rfl)).trans d15) (by rw [flat_len, List.length_drop]; have := HM.out; omega) (fun j u h => src_below hG (hc j u h)) flat_one ?c1 ?c2 hG.size ?c3
                    case c1 => unfold maxLen; omega
                    case c2 => omega
                    case c3 =>
                      intro v' w' ho hgr hk
                      rw [show k + 1 + m1 = m + 1 by omega] at ho
                      obtain ⟨A, c, rfl, -⟩ := own_form ho
                      exact hK _ _ ⟨b12, _, ho12, hgr, hk, own_ge ho12, .inl (by omega)⟩ ⟨A, c, b12, rfl, ho, hge12, block_other hh12 ho12 hgr (by decide)⟩
              · intro vals W hG hV
                simp only [RegL.LastOp]
                rw [show List.range (List.length [some 67, some 68, some 69, some 70, some 71, some 72, some 73, some 74, some 75, some 76, some 77, some 78, some 79, some 80, some 81, some 82, some 83]) = [0, 1, 2, 3, 4, 5, 6, 7, 8, 9, 10, 11, 12, 13, 14, 15, 16] from rfl]
                have d0 := hV 0 (by decide)
                simp only [inV] at d0
                have d1 := hV 1 (by decide)
                simp only [inV] at d1
                have d2 := hV 2 (by decide)
                simp only [inV] at d2
                obtain ⟨A2, c2, d2, src2⟩ := d2
                have d3 := hV 3 (by decide)
                simp only [inV] at d3
                obtain ⟨⟨A3, c3, d3, ho3⟩, hz3⟩ := d3
                have d4 := hV 4 (by decide)
                simp only [inV] at d4
                have d5 := hV 5 (by decide)
                simp only [inV] at d5
                have d6 := hV 6 (by decide)
                simp only [inV] at d6
                have d7 := hV 7 (by decide)
                simp only [inV] at d7
                have d8 := hV 8 (by decide)
                simp only [inV] at d8
                have d9 := hV 9 (by decide)
                simp only [inV] at d9
                obtain ⟨b9, d9, hge9, hh9⟩ := d9
                have d10 := hV 10 (by decide)
                simp only [inV] at d10
                obtain ⟨b10, d10, hge10, hh10⟩ := d10
                have d11 := hV 11 (by decide)
                simp only [inV] at d11
                obtain ⟨g11, b11, d11, hg11, hge11, hh11⟩ := d11
                have d12 := hV 12 (by decide)
                simp only [inV] at d12
                obtain ⟨A12, c12, b12, d12, ho12, hge12, hh12⟩ := d12
                have d13 := hV 13 (by decide)
                simp only [inV] at d13
                have d14 := hV 14 (by decide)
                simp only [inV] at d14
                have d15 := hV 15 (by decide)
                simp only [inV] at d15
                obtain ⟨A15, c15, d15, src15⟩ := d15
                have d16 := hV 16 (by decide)
                simp only [inV] at d16
                obtain ⟨A16, c16, b16, d16, ho16, hge16, hh16⟩ := d16
                clear hV
                simp only [Reg.putS, List.foldl, List.getD_cons_zero, List.getD_cons_succ, Act.put, List.setIfInBounds_toArray, List.set_cons_zero, List.set_cons_succ, d0, d1, d2, d3, d4, d5, d6, d7, d8, d9, d10, d11, d12, d13, d14, d15, d16]
                clear d0 d1 d2 d3 d4 d5 d6 d7 d8 d9 d10 d11 d12 d13 d14 d15 d16
                go_simp
                obtain ⟨hrow2, hlen2⟩ := ins_row hzle hrow0 (Nat.le_trans bel.size belW.size) hG HM.out hkm ho16 hge16 hh16
                have hpl2 : Hid ((l.take k ++ [coin1 z i b16 hzle] ++ l.drop k).map Coin.plain = sortedBy ltP (rawFrom 0 (zs.take (i + 1)))) := by
                  show _ = _
                  rw [HT.out, rawAt_pos (by omega), single_snoc (S := l.map Coin.plain) (k := k) hpl.out]
                  · rw [List.map_append, List.map_append, List.map_take, List.map_drop]; rfl
                  · intro b hb
                    rw [← List.map_drop] at hb
                    obtain ⟨c, hc, rfl⟩ := List.mem_map.1 hb
                    exact hbig.out c hc
                  · exact take_low hpl.out HK.out hstop.out
                have hsm2 : Hid (∀ c ∈ l.take k ++ [coin1 z i b16 hzle] ++ l.drop k, c.n < 2147483648 ∧ c.syms.length = 1) := by
                  show ∀ c ∈ _, _
                  intro c hc
                  rcases List.mem_append.1 hc with hc | hc
                  · rcases List.mem_append.1 hc with hc | hc
                    · exact hsm.out c (List.mem_of_mem_take hc)
                    · rw [List.mem_singleton.1 hc]; exact ⟨by show z < _; omega, rfl⟩
                  · exact hsm.out c (List.mem_of_mem_drop hc)
                have bel2 := bstep (bstep bel belW) hG
                generalize l.take k ++ [coin1 z i b16 hzle] ++ l.drop k = l2 at hrow2 hlen2 hpl2 hsm2
                have HL2 : Hid (l2.length = m + 1) := hlen2
                clear hrow hrow0 belW hbig hstop hG hlen2 HT hpl hsm ho3 hz3 hh9 hh10 hg11 hh11 ho12 hh12 ho16 hh16 src2 src15
                go_wp2
                go_roundg (n - (i + 1))
                case measure => omega
                case rel => exact ⟨i + 1, l2, hlt, Nat.le_refl _, rfl, hrow2, bel2, by have := HL2.out; omega, hpl2, hsm2, hbd2⟩
            · have src15 : SrcI w0 (if c0 = k then some ⟨g0, 0, none⟩ else some ⟨g0, k * 2, none⟩) ((l.drop k).flatMap encC) := by
                by_cases h : c0 = k
                · rw [if_pos h]
                  have e : l.drop k = [] := List.drop_eq_nil_of_le (by rw [HM.out]; omega)
                  exact .inr ⟨_, rfl, fun j u hj => by rw [e] at hj; simp at hj⟩
                · rw [if_neg h]; exact src_of_drop hrow0 k
              go_wp2_with fail
              refine RegL.wp_region_end (RowKit.Below w0.heap.size w0) (fun _ _ => True) (inR w0.heap.size k z ((l.take k).flatMap encC)) (fun i => i) (inV w0.heap.size w0 (.slice (some ⟨g0, 0, none⟩) m c0) (.slice (some ⟨bb, off, none⟩) n cap) k i m m1 bb off z l)
                [some 67, some 68, some 69, some 70, some 71, some 72, some 73, some 74, some 75, some 76, some 77, some 78, some 79, some 80, some 81, some 82, some 83]
                [[], [], [0, 1], [2], [], [], [4, 5], [6], [], [8], [7, 9], [10], [3, 11, 3], [], [], [13, 14], [12, 15, 12]]
                (by kernel_rfl) (by kernel_rfl) (by kernel_rfl) (by kernel_rfl) (by kernel_rfl) (fun i => .inl rfl) ?_ ?_ ?_ ?_ ?_ ?_ ?_
              · exact ⟨rfl, rfl, rfl, Nat.le_refl _, fun _ _ => rfl⟩
              · intro i; trivial
              · intro i W W' h k2; exact inG_stay h.size h k2
              · intros; trivial
              · intro j i p v W W' h1 h2 h3 h4; refine inV_stay HK.out ?_ h3 h4
                rintro (⟨rfl, rfl⟩ | ⟨rfl, rfl⟩ | ⟨rfl, rfl⟩)
                · exact h1 rfl
                · exact h1 rfl
                · exact h2 (by decide)
              · refine ⟨?_, ?_, ?_, ?_, ?_, ?_, ?_, ?_, ?_, ?_, ?_, ?_, ?_, ?_, ?_, ?_, ?_, trivial⟩
                · intro vals W K hG hU hV hK
                  simp only [if_true] at hK
                  simp only [Reg.putS, List.foldl, List.headD, List.tail, List.getD_cons_zero, List.getD_cons_succ, Act.put, List.setIfInBounds_toArray, List.set_cons_zero, List.set_cons_succ] at hK ⊢
                  go_simp
                  first
                    | exact hK _ _ (Below.refl _ _) rfl
                    | (rw [if_pos (by omega)]; exact hK _ _ (Below.refl _ _) rfl)
                    | (rw [dif_pos (by omega)]; exact hK _ _ (Below.refl _ _) rfl)
                    | (rw [if_neg (by omega)]; exact hK _ _ (Below.refl _ _) rfl)
                · intro vals W K hG hU hV hK
                  simp only [if_true] at hK
                  simp only [Reg.putS, List.foldl, List.headD, List.tail, List.getD_cons_zero, List.getD_cons_succ, Act.put, List.setIfInBounds_toArray, List.set_cons_zero, List.set_cons_succ] at hK ⊢
                  go_simp
                  first
                    | exact hK _ _ (Below.refl _ _) rfl
                    | (rw [if_pos (by omega)]; exact hK _ _ (Below.refl _ _) rfl)
                    | (rw [dif_pos (by omega)]; exact hK _ _ (Below.refl _ _) rfl)
                    | (rw [if_neg (by omega)]; exact hK _ _ (Below.refl _ _) rfl)
                · intro vals W K hG hU hV hK
                  simp only [if_true] at hK
                  have d0 := hV 0 (by simp)
                  simp only [inV] at d0
                  have d1 := hV 1 (by simp)
                  simp only [inV] at d1
                  simp only [Reg.putS, List.foldl, List.headD, List.tail, List.getD_cons_zero, List.getD_cons_succ, Act.put, List.setIfInBounds_toArray, List.set_cons_zero, List.set_cons_succ, d0, d1] at hK ⊢
                  go_simp
                  exact hK _ _ (Below.refl _ _) ⟨_, _, rfl, src2⟩
                · refine Step.step_of ?g ?_
                  case g => rfl
                  intro A vals W K hA hG hU hV hK
                  simp only [if_true] at hK
                  have d2 := hV 2 (by simp)
                  simp only [inV] at d2
                  obtain ⟨A2, c2, d2, src2⟩ := d2
                  rcases src2 with ⟨rfl, hx⟩ | ⟨ad, rfl, hc⟩
                  · have hm0 : k = 0 := by have h := flat_len (l.take k); rw [hx, List.length_take_of_le HK.out] at h; simp at h; omega
                    refine Keep.wp_append_nothing _ (.const (.slice none 0 0)) (.tmp 69) 57 rfl w0.heap.size 59 i0 2 Try.underlying57 hi (.slice none 0 0) 0 [] rfl (World.ownsRow_nil _ _ _ _) c2 ?x1 ?x2
                    case x1 => rw [(Step.putE hA rfl (Nat.lt_of_sub_eq_succ rfl)).trans d2, hm0]
                    case x2 => exact hK _ _ (Below.refl _ _) ⟨⟨none, 0, by rw [hm0], by rw [hx, hm0]; exact World.ownsRow_nil _ _ _ _⟩, fun _ => rfl⟩
                  · refine wp_append_own _ (.const (.slice none 0 0)) (.tmp 69) 57 rfl w0.heap.size 59 i0 _ 2 32 Try.underlying57 hi hz0 hz1 hz2 rfl (by decide) _ 0 [] rfl (World.ownsRow_nil _ _ _ _) ad k c2 ((l.take k).flatMap encC) ((Step.putE hA rfl (Nat.lt_of_sub_eq_succ rfl)).trans d2) (by rw [flat_len, List.length_take_of_le HK.out]) (fun j u h => src_below hG (hc j u h)) flat_one ?c1 ?c2 hG.size ?c3
                    case c1 => unfold maxLen; omega
                    case c2 => omega
                    case c3 =>
                      intro v' w' ho hgr hnil
                      rw [Nat.zero_add, List.nil_append] at ho
                      obtain ⟨A, c, rfl, -⟩ := own_form ho
                      exact hK _ _ ((Below.refl _ _).grown hgr (Nat.le_refl _) (fun k hk => by cases hk)) ⟨⟨A, c, rfl, ho⟩, fun h0 => hnil.2 ⟨rfl, h0⟩⟩
                · intro vals W K hG hU hV hK
                  simp only [if_true] at hK
                  simp only [Reg.putS, List.foldl, List.headD, List.tail, List.getD_cons_zero, List.getD_cons_succ, Act.put, List.setIfInBounds_toArray, List.set_cons_zero, List.set_cons_succ] at hK ⊢
                  go_simp
                  first
                    | exact hK _ _ (Below.refl _ _) rfl
                    | (rw [if_pos (by omega)]; exact hK _ _ (Below.refl _ _) rfl)
                    | (rw [dif_pos (by omega)]; exact hK _ _ (Below.refl _ _) rfl)
                    | (rw [if_neg (by omega)]; exact hK _ _ (Below.refl _ _) rfl)
                · intro vals W K hG hU hV hK
                  simp only [if_true] at hK
                  simp only [Reg.putS, List.foldl, List.headD, List.tail, List.getD_cons_zero, List.getD_cons_succ, Act.put, List.setIfInBounds_toArray, List.set_cons_zero, List.set_cons_succ] at hK ⊢
                  go_simp
                  first
                    | exact hK _ _ (Below.refl _ _) rfl
                    | (rw [if_pos (by omega)]; exact hK _ _ (Below.refl _ _) rfl)
                    | (rw [dif_pos (by omega)]; exact hK _ _ (Below.refl _ _) rfl)
                    | (rw [if_neg (by omega)]; exact hK _ _ (Below.refl _ _) rfl)
                · intro vals W K hG hU hV hK
                  simp only [if_true] at hK
                  have d4 := hV 4 (by simp)
                  simp only [inV] at d4
                  have d5 := hV 5 (by simp)
                  simp only [inV] at d5
                  simp only [Reg.putS, List.foldl, List.headD, List.tail, List.getD_cons_zero, List.getD_cons_succ, Act.put, List.setIfInBounds_toArray, List.set_cons_zero, List.set_cons_succ, d4, d5] at hK ⊢
                  go_simp
                  first
                    | exact hK _ _ (Below.refl _ _) rfl
                    | (rw [if_pos (by omega)]; exact hK _ _ (Below.refl _ _) rfl)
                    | (rw [dif_pos (by omega)]; exact hK _ _ (Below.refl _ _) rfl)
                    | (rw [if_neg (by omega)]; exact hK _ _ (Below.refl _ _) rfl)
                · intro vals W K hG hU hV hK
                  simp only [if_true] at hK
                  have d6 := hV 6 (by simp)
                  simp only [inV] at d6
                  simp only [Reg.putS, List.foldl, List.headD, List.tail, List.getD_cons_zero, List.getD_cons_succ, Act.put, List.setIfInBounds_toArray, List.set_cons_zero, List.set_cons_succ, d6] at hK ⊢
                  have hcl := pw_cell_below hG hcell
                  go_simp
                  first
                    | exact hK _ _ (Below.refl _ _) rfl
                    | (rw [if_pos (by omega)]; exact hK _ _ (Below.refl _ _) rfl)
                    | (rw [dif_pos (by omega)]; exact hK _ _ (Below.refl _ _) rfl)
                    | (rw [if_neg (by omega)]; exact hK _ _ (Below.refl _ _) rfl)
                · intro vals W K hG hU hV hK
                  simp only [if_true] at hK
                  simp only [Reg.putS, List.foldl, List.headD, List.tail, List.getD_cons_zero, List.getD_cons_succ, Act.put, List.setIfInBounds_toArray, List.set_cons_zero, List.set_cons_succ] at hK ⊢
                  go_simp
                  first
                    | exact hK _ _ (Below.refl _ _) rfl
                    | (rw [if_pos (by omega)]; exact hK _ _ (Below.refl _ _) rfl)
                    | (rw [dif_pos (by omega)]; exact hK _ _ (Below.refl _ _) rfl)
                    | (rw [if_neg (by omega)]; exact hK _ _ (Below.refl _ _) rfl)
                · intro vals W K hG hU hV hK
                  simp only [if_true] at hK
                  have d8 := hV 8 (by simp)
                  simp only [inV] at d8
                  simp only [Reg.putS, List.foldl, List.headD, List.tail, List.getD_cons_zero, List.getD_cons_succ, Act.put, List.setIfInBounds_toArray, List.set_cons_zero, List.set_cons_succ, d8] at hK ⊢
                  go_simp
                  exact hK _ _ (balloc (Below.refl _ _) _) ⟨_, rfl, hG.size, heap_new W _⟩
                · intro vals W K hG hU hV hK
                  simp only [if_true] at hK
                  have d7 := hV 7 (by simp)
                  simp only [inV] at d7
                  have d9 := hV 9 (by simp)
                  simp only [inV] at d9
                  obtain ⟨b9, d9, hge9, hh9⟩ := d9
                  simp only [Reg.putS, List.foldl, List.headD, List.tail, List.getD_cons_zero, List.getD_cons_succ, Act.put, List.setIfInBounds_toArray, List.set_cons_zero, List.set_cons_succ, d7, d9] at hK ⊢
                  go_simp
                  exact hK _ _ (Below.refl _ _) ⟨b9, rfl, hge9, hh9⟩
                · intro vals W K hG hU hV hK
                  simp only [if_true] at hK
                  have d10 := hV 10 (by simp)
                  simp only [inV] at d10
                  obtain ⟨b10, d10, hge10, hh10⟩ := d10
                  simp only [Reg.putS, List.foldl, List.headD, List.tail, List.getD_cons_zero, List.getD_cons_succ, Act.put, List.setIfInBounds_toArray, List.set_cons_zero, List.set_cons_succ, d10] at hK ⊢
                  go_simp
                  exact hK _ _ (balloc (Below.refl _ _) _) ⟨_, b10, rfl, heap_new W _, hge10, heap_below (balloc (Below.refl _ _) _) hh10⟩
                · refine Step.step_of ?g ?_
                  case g => rfl
                  intro A vals W K hA hG hU hV hK
                  simp only [if_true] at hK
                  have d3 := hV 3 (by simp)
                  simp only [inV] at d3
                  obtain ⟨⟨A3, c3, d3, ho3⟩, hz3⟩ := d3
                  have d11 := hV 11 (by simp)
                  simp only [inV] at d11
                  obtain ⟨g11, b11, d11, hg11, hge11, hh11⟩ := d11
                  refine Keep.wp_append_keep _ (.tmp 70) (.tmp 78) 57 rfl w0.heap.size 59 i0 _ 2 32 Try.underlying57 hi hz0 hz1 hz2 rfl (by decide) _ k (((l.take k).flatMap encC)) ((Step.putE hA rfl (Nat.lt_of_sub_eq_succ rfl)).trans d3) ho3 ⟨g11, 0, none⟩ 1 1 [Value.int .i64 (z : Int), .slice (some ⟨b11, 0, none⟩) 1 1] ((Step.putE hA rfl (Nat.lt_of_sub_eq_succ rfl)).trans d11) rfl ?c0 ?cc ?c1 ?c2 hG.size ?c3
                  case c0 => intro j u hj; rw [Addr.add_lit, Nat.zero_add]; exact cell_of hg11 (by simpa using hj)
                  case cc => intro u hu; simp at hu; rcases hu with rfl | rfl <;> rfl
                  case c1 => unfold maxLen; omega
                  case c2 => omega
                  case c3 =>
                    intro v' w' ho hgr hk
                    obtain ⟨A, c, rfl, -⟩ := own_form ho
                    exact hK _ _ ⟨_, ho3, hgr, hk, own_ge ho3, by rcases Nat.eq_zero_or_pos k with h | h; exact .inr (d3.symm.trans (hz3 h)); exact .inl h⟩ ⟨A, c, b11, rfl, ho, hge11, block_other hh11 ho3 hgr (by decide)⟩
                · intro vals W K hG hU hV hK
                  simp only [if_true] at hK
                  simp only [Reg.putS, List.foldl, List.headD, List.tail, List.getD_cons_zero, List.getD_cons_succ, Act.put, List.setIfInBounds_toArray, List.set_cons_zero, List.set_cons_succ] at hK ⊢
                  go_simp
                  first
                    | exact hK _ _ (Below.refl _ _) rfl
                    | (rw [if_pos (by omega)]; exact hK _ _ (Below.refl _ _) rfl)
                    | (rw [dif_pos (by omega)]; exact hK _ _ (Below.refl _ _) rfl)
                    | (rw [if_neg (by omega)]; exact hK _ _ (Below.refl _ _) rfl)
                · intro vals W K hG hU hV hK
                  simp only [if_true] at hK
                  simp only [Reg.putS, List.foldl, List.headD, List.tail, List.getD_cons_zero, List.getD_cons_succ, Act.put, List.setIfInBounds_toArray, List.set_cons_zero, List.set_cons_succ] at hK ⊢
                  go_simp
                  first
                    | exact hK _ _ (Below.refl _ _) rfl
                    | (rw [if_pos (by omega)]; exact hK _ _ (Below.refl _ _) rfl)
                    | (rw [dif_pos (by omega)]; exact hK _ _ (Below.refl _ _) rfl)
                    | (rw [if_neg (by omega)]; exact hK _ _ (Below.refl _ _) rfl)
                · intro vals W K hG hU hV hK
                  simp only [if_true] at hK
                  have d13 := hV 13 (by simp)
                  simp only [inV] at d13
                  have d14 := hV 14 (by simp)
                  simp only [inV] at d14
                  simp only [Reg.putS, List.foldl, List.headD, List.tail, List.getD_cons_zero, List.getD_cons_succ, Act.put, List.setIfInBounds_toArray, List.set_cons_zero, List.set_cons_succ, d13, d14] at hK ⊢
                  go_simp
                  exact hK _ _ (Below.refl _ _) ⟨if c0 = k then some ⟨g0, 0, none⟩ else some ⟨g0, k * 2, none⟩, _, by rw [show m - k = m1 by omega], src15⟩
                · refine Step.step_of ?g ?_
                  case g => rfl
                  intro A vals W K hA hG hU hV hK
                  simp only [if_true] at hK
                  have d12 := hV 12 (by simp)
                  simp only [inV] at d12
                  obtain ⟨A12, c12, b12, d12, ho12, hge12, hh12⟩ := d12
                  have d15 := hV 15 (by simp)
                  simp only [inV] at d15
                  obtain ⟨A15, c15, d15, src15⟩ := d15
                  rcases src15 with ⟨rfl, hx⟩ | ⟨ad, rfl, hc⟩
                  · have hm0 : m1 = 0 := by have h := flat_len (l.drop k); rw [hx, List.length_drop] at h; have := HM.out; simp at h; omega
                    refine Keep.wp_append_nothing _ (.tmp 79) (.tmp 82) 57 rfl w0.heap.size 59 i0 2 Try.underlying57 hi _ (k + 1) _ ((Step.putE hA rfl (Nat.lt_of_sub_eq_succ rfl)).trans d12) ho12 c15 ?x1 ?x2
                    case x1 => rw [(Step.putE hA rfl (Nat.lt_of_sub_eq_succ rfl)).trans d15, hm0]
                    case x2 =>
                      have e2 : m + 1 = k + 1 := by omega
                      refine hK _ _ ⟨b12, _, ho12, ⟨rfl, rfl, rfl, Nat.le_refl _, fun _ _ _ => rfl⟩, ho12, own_ge ho12, .inl (by omega)⟩ ⟨A12, c12, b12, by rw [e2], ?_, hge12, hh12⟩
                      rw [hx, List.append_nil, e2]; exact ho12
                  · refine Keep.wp_append_keep _ (.tmp 79) (.tmp 82) 57 rfl w0.heap.size 59 i0 _ 2 32 Try.underlying57 hi hz0 hz1 hz2 rfl (by decide) _ (k + 1) _ ((Step.putE hA rfl (Nat.lt_of_sub_eq_succ rfl)).trans d12) ho12 ad m1 c15 ((l.drop k).flatMap encC) ((Step.putE hA rfl (Nat.lt_of_sub_eq_succ rfl)).trans d15) (by rw [flat_len, List.length_drop]; have := HM.out; omega) (fun j u h => src_below hG (hc j u h)) flat_one ?c1 ?c2 hG.size ?c3
                    case c1 => unfold maxLen; omega
                    case c2 => omega
                    case c3 =>
                      intro v' w' ho hgr hk
                      rw [show k + 1 + m1 = m + 1 by omega] at ho
                      obtain ⟨A, c, rfl, -⟩ := own_form ho
                      exact hK _ _ ⟨b12, _, ho12, hgr, hk, own_ge ho12, .inl (by omega)⟩ ⟨A, c, b12, rfl, ho, hge12, block_other hh12 ho12 hgr (by decide)⟩
              · intro vals W hG hV
                simp only [RegL.LastOp]
                rw [show List.range (List.length [some 67, some 68, some 69, some 70, some 71, some 72, some 73, some 74, some 75, some 76, some 77, some 78, some 79, some 80, some 81, some 82, some 83]) = [0, 1, 2, 3, 4, 5, 6, 7, 8, 9, 10, 11, 12, 13, 14, 15, 16] from rfl]
                have d0 := hV 0 (by decide)
                simp only [inV] at d0
                have d1 := hV 1 (by decide)
                simp only [inV] at d1
                have d2 := hV 2 (by decide)
                simp only [inV] at d2
                obtain ⟨A2, c2, d2, src2⟩ := d2
                have d3 := hV 3 (by decide)
                simp only [inV] at d3
                obtain ⟨⟨A3, c3, d3, ho3⟩, hz3⟩ := d3
                have d4 := hV 4 (by decide)
                simp only [inV] at d4
                have d5 := hV 5 (by decide)
                simp only [inV] at d5
                have d6 := hV 6 (by decide)
                simp only [inV] at d6
                have d7 := hV 7 (by decide)
                simp only [inV] at d7
                have d8 := hV 8 (by decide)
                simp only [inV] at d8
                have d9 := hV 9 (by decide)
                simp only [inV] at d9
                obtain ⟨b9, d9, hge9, hh9⟩ := d9
                have d10 := hV 10 (by decide)
                simp only [inV] at d10
                obtain ⟨b10, d10, hge10, hh10⟩ := d10
                have d11 := hV 11 (by decide)
                simp only [inV] at d11
                obtain ⟨g11, b11, d11, hg11, hge11, hh11⟩ := d11
                have d12 := hV 12 (by decide)
                simp only [inV] at d12
                obtain ⟨A12, c12, b12, d12, ho12, hge12, hh12⟩ := d12
                have d13 := hV 13 (by decide)
                simp only [inV] at d13
                have d14 := hV 14 (by decide)
                simp only [inV] at d14
                have d15 := hV 15 (by decide)
                simp only [inV] at d15
                obtain ⟨A15, c15, d15, src15⟩ := d15
                have d16 := hV 16 (by decide)
                simp only [inV] at d16
                obtain ⟨A16, c16, b16, d16, ho16, hge16, hh16⟩ := d16
                clear hV
                simp only [Reg.putS, List.foldl, List.getD_cons_zero, List.getD_cons_succ, Act.put, List.setIfInBounds_toArray, List.set_cons_zero, List.set_cons_succ, d0, d1, d2, d3, d4, d5, d6, d7, d8, d9, d10, d11, d12, d13, d14, d15, d16]
                clear d0 d1 d2 d3 d4 d5 d6 d7 d8 d9 d10 d11 d12 d13 d14 d15 d16
                go_simp
                obtain ⟨hrow2, hlen2⟩ := ins_row hzle hrow0 (Nat.le_trans bel.size belW.size) hG HM.out hkm ho16 hge16 hh16
                have hpl2 : Hid ((l.take k ++ [coin1 z i b16 hzle] ++ l.drop k).map Coin.plain = sortedBy ltP (rawFrom 0 (zs.take (i + 1)))) := by
                  show _ = _
                  rw [HT.out, rawAt_pos (by omega), single_snoc (S := l.map Coin.plain) (k := k) hpl.out]
                  · rw [List.map_append, List.map_append, List.map_take, List.map_drop]; rfl
                  · intro b hb
                    rw [← List.map_drop] at hb
                    obtain ⟨c, hc, rfl⟩ := List.mem_map.1 hb
                    exact hbig.out c hc
                  · exact take_low hpl.out HK.out hstop.out
                have hsm2 : Hid (∀ c ∈ l.take k ++ [coin1 z i b16 hzle] ++ l.drop k, c.n < 2147483648 ∧ c.syms.length = 1) := by
                  show ∀ c ∈ _, _
                  intro c hc
                  rcases List.mem_append.1 hc with hc | hc
                  · rcases List.mem_append.1 hc with hc | hc
                    · exact hsm.out c (List.mem_of_mem_take hc)
                    · rw [List.mem_singleton.1 hc]; exact ⟨by show z < _; omega, rfl⟩
                  · exact hsm.out c (List.mem_of_mem_drop hc)
                have bel2 := bstep (bstep bel belW) hG
                generalize l.take k ++ [coin1 z i b16 hzle] ++ l.drop k = l2 at hrow2 hlen2 hpl2 hsm2
                have HL2 : Hid (l2.length = m + 1) := hlen2
                clear hrow hrow0 belW hbig hstop hG hlen2 HT hpl hsm ho3 hz3 hh9 hh10 hg11 hh11 ho12 hh12 ho16 hh16 src2 src15
                go_wp2
                go_roundg (n - (i + 1))
                case measure => omega
                case rel => exact ⟨i + 1, l2, hlt, Nat.le_refl _, rfl, hrow2, bel2, by have := HL2.out; omega, hpl2, hsm2, hbd2⟩
    · have hltz : ¬ (i : Int) < (n : Int) := by omega
      have hin2 : i = n := by omega
      have hS : Hid (l.map Coin.plain = singleP zs) := by
        show _ = _
        rw [hpl.out, hin2, hnh.out, List.take_length]; rfl
      have hB : Hid (badP zs = false) := by
        have := hbd.out
        rw [hin2, hnh.out, List.take_length] at this
        exact this
      have hmS : Hid ((singleP zs).length = m) := by show _ = _; rw [← hS.out, List.length_map, HM.out]
      have hmn : m ≤ n := by omega
      obtain ⟨P2, hP2⟩ : ∃ P2 : Nat, 2 ^ mo = P2 := ⟨_, rfl⟩
      have hw : IntKind.i64.wrap ((2 : Int) ^ mo) = (P2 : Int) := by
        have h15 : (2 : Nat) ^ mo ≤ 2 ^ 15 := Nat.pow_le_pow_right (by omega) hmo.2
        have e : ((2 : Int) ^ mo) = ((2 ^ mo : Nat) : Int) := by simp
        rw [e, hP2, IntKind.wrap_i64]
        rw [hP2] at h15
        omega
      have hshape : Hid (errP (mo : Int) zs = if decide (n > 356) || decide (m > P2) then 10 else 0) := by
        show _ = _
        unfold errP
        rw [if_neg (by rw [t1, t2, hB.out]; decide), ← hnh.out, hmS.out, Int.toNat_natCast, hP2]
      have HP2 : Hid (2 ^ mo = P2) := hP2
      clear hpl hbd hP2 hin hkx hin2 hli herr1
      by_cases hbig : P2 < m
      · have y1 : decide ((m : Int) > (P2 : Int)) = true := decide_eq_true (by omega)
        have y1b : decide (P2 < m) = true := decide_eq_true hbig
        have HE : Hid (errP (mo : Int) zs = 10) := by show _ = _; rw [hshape.out, show decide (m > P2) = true from y1b]; simp
        clear hrow hform hbig
        go_wp2
        refine bodyPost_ret (v := .tuple #[.slice none 0 0, .int .i64 10]) ?_ rfl ⟨bel, .inl ⟨by rw [HE.out]; decide, by rw [HE.out]; rfl⟩⟩
        simp [results, Try.results16, go_sem]
      · have y1 : decide ((m : Int) > (P2 : Int)) = false := decide_eq_false (by omega)
        have y1b : decide (P2 < m) = false := decide_eq_false hbig
        by_cases h356 : 356 < n
        · have y2 : decide ((n : Int) > 356) = true := decide_eq_true (by omega)
          have y2b : decide (356 < n) = true := decide_eq_true h356
          have HE : Hid (errP (mo : Int) zs = 10) := by show _ = _; rw [hshape.out, show decide (n > 356) = true from y2b]; simp
          clear hrow hform hbig h356
          go_wp2
          refine bodyPost_ret (v := .tuple #[.slice none 0 0, .int .i64 10]) ?_ rfl ⟨bel, .inl ⟨by rw [HE.out]; decide, by rw [HE.out]; rfl⟩⟩
          simp [results, Try.results16, go_sem]
        · have y2 : decide ((n : Int) > 356) = false := decide_eq_false (by omega)
          have y2b : decide (356 < n) = false := decide_eq_false h356
          have HE : Hid (errP (mo : Int) zs = 0) := by show _ = _; rw [hshape.out, show decide (n > 356) = false from y2b, show decide (m > P2) = false from y1b]; simp
          have HFIT : Hid ((singleP zs).length ≤ 2 ^ mo) := by show _ ≤ _; rw [hmS.out, HP2.out]; omega
          have h356' : n ≤ 356 := by omega
          clear hbig h356 hshape HP2 hat
          go_wp2_with (first | (at_make; refine wpList_make_full _ rfl _ _ 22 rfl w1.heap.size 3 i3 (.int .i64 0) 1 Try.underlying22 hi3 hy0 hy1 .i64 .i64 _ _ n rfl rfl rfl rfl ?d1 ?d2 (Nat.le_refl _) ?_))
          case d1 => first | (rw [hy2]; omega) | omega
          case d2 => unfold maxLen; omega
          intro w2 hout' hg2
          have hout : w2.ownsRow w1.heap.size 3 1 (.slice (some ⟨w1.heap.size, 0, none⟩) n n) n (outL n []) := by
            have e : outL n [] = (madeCells #[Value.int .i64 0] n).toList := by
              unfold outL
              rw [counts_nil, List.map_replicate]
              exact (toList_madeCells_one _ n).symm
            rw [e]; exact hout'
          have bel12 : RowKit.Below w1.heap.size w1 w2 := (Below.refl _ _).grown hg2 (Nat.le_refl _) (fun k hk => by cases hk)
          have bel2 := bstep bel bel12
          have hrow2 := hrow.below bel12
          have hw01 : Hid (w.heap.size ≤ w1.heap.size) := bel.size
          have hH0 : w1.heap.size < w2.heap.size := by
            rcases hout.2 with ⟨h, _⟩ | ⟨g, cap, cur, h, _, hg, _⟩
            · cases h
            · have := heap_lt hg
              injection h with h
              injection h with h
              injection h with h
              omega
          have hoc : ∀ c ∈ l, c.blk ≠ w1.heap.size := by
            intro c hc e
            obtain ⟨cs, h⟩ := (hrow.2 c hc).tag
            have := heap_lt h
            omega
          have HOC : Hid _ := hoc
          clear hg2 hout' hoc
          by_cases hm0 : m = 0
          · have y3 : ((m : Int) == 0) = true := by simp [hm0]
            have hfin : Hid (outL n [] = (lensP mo zs).map symV) := by
              show _ = _
              rw [lensP_eq, chosen_zero (List.eq_nil_of_length_eq_zero (by rw [hmS.out, hm0])), ← hnh.out]; rfl
            have hoF := own_mono hout hw01.out
            rw [hfin.out] at hoF
            clear hm0 hrow hrow2 hform hout hfin
            go_wp2
            refine bodyPost_ret (v := .tuple #[.slice (some ⟨w1.heap.size, 0, none⟩) n n, .int .i64 0]) ?_ rfl ⟨bel2, .inr ⟨HE.out, _, _, rfl, by rw [Int.toNat_natCast]; exact hoF⟩⟩
            simp [results, Try.results16, go_sem]
          · have y3 : ((m : Int) == 0) = false := by simp; omega
            obtain ⟨-, g0, rfl, -, hcs⟩ := RowI.cell hrow2 (by have := HM.out; omega)
            clear hform
            by_cases hm1 : m = 1
            · have y4 : ((m : Int) == 1) = true := by simp [hm1]
              have hmp : 0 < m := by omega
              have hmpz : (0 : Int) < (m : Int) := by omega
              obtain ⟨c, hc⟩ : ∃ c, l = [c] := List.length_eq_one_iff.1 (by rw [HM.out, hm1])
              obtain ⟨sx, hsx⟩ : ∃ sx, c.syms = [sx] := List.length_eq_one_iff.1 (hsm.out c (by rw [hc]; exact List.mem_cons_self ..)).2
              have hch : chosenP mo zs = [sx] := by rw [chosen_one (p := c.plain) (by rw [← hS.out, hc]; rfl)]; exact hsx
              have hsn : sx < n := by
                rw [hnh.out]
                exact level_syms zs 0 c.plain (by show c.plain ∈ singleP zs; rw [← hS.out, hc]; exact List.mem_cons_self ..) sx (by show sx ∈ c.syms; rw [hsx]; exact List.mem_cons_self ..)
              have x0 : w2.cell? ⟨g0, 0, none⟩ = some (.int .i64 (c.n : Int)) := by have := (hcs 0 c (by rw [hc]; rfl)).1; simpa using this
              have x1 : w2.cell? ⟨g0, 1, none⟩ = some (.slice (some ⟨c.blk, 0, none⟩) 1 c.cap) := by
                have := (hcs 0 c (by rw [hc]; rfl)).2
                unfold Coin.sl at this
                rw [hsx] at this
                simpa using this
              have hsyc := hrow2.2 c (by rw [hc]; exact List.mem_cons_self ..)
              have x2 : w2.cell? ⟨c.blk, 0, none⟩ = some (.int .i64 (sx : Int)) := by
                have := World.ownsRow.cells hsyc rfl 0 (symV sx) (by simp [hsx])
                rw [Addr.add_lit, Nat.zero_add] at this
                exact this
              have x3 : w2.cell? ⟨w1.heap.size, sx, none⟩ = some (.int .i64 0) := by
                rw [hout.cellAt sx (by omega)]
                unfold outL
                rw [List.getElem?_map, counts_at [] hsn]
                rfl
              have x4 : w2.frozen? ⟨w1.heap.size, sx, none⟩ = false := hout.frozenAt sx
              obtain ⟨st1, st2⟩ := hout.stored sx (.int .i64 1)
              have hset : (outL n []).set sx (.int .i64 1) = (lensP mo zs).map symV := by
                rw [lensP_eq, hch, ← hnh.out]
                unfold outL
                have := counts_push (n := n) [] (s := sx)
                rw [List.nil_append] at this
                rw [← this, List.map_set]
                rfl
              rw [hset] at st1
              have hsz : (sx : Int) < (n : Int) := by omega
              have belF : RowKit.Below w.heap.size w (w2.setCell ⟨w1.heap.size, sx, none⟩ (.int .i64 1)) := bel2.grown st2 bel2.size (fun k hk => by have e : w1.heap.size = k := Option.some.inj hk; rw [← e]; exact hw01.out)
              have hoF := own_mono st1 hw01.out
              clear hc hsx hch hset st1 st2 hcs hrow hrow2 hout hsyc hm1 hm0
              go_wp2
              refine bodyPost_ret (v := .tuple #[.slice (some ⟨w1.heap.size, 0, none⟩) n n, .int .i64 0]) ?_ rfl ⟨belF, .inr ⟨HE.out, _, _, rfl, by rw [Int.toNat_natCast]; exact hoF⟩⟩
              simp [results, Try.results16, go_sem]
            · have y4 : ((m : Int) == 1) = false := by simp; omega
              have hm2 : 2 ≤ m := by omega
              clear hm0 hm1
              have hsm' : Hid (∀ c ∈ l, c.n < 2147483648 * 2 ^ 0 ∧ 0 < c.syms.length ∧ c.syms.length ≤ 2 ^ 0 ∧ c.blk ≠ w1.heap.size) := by
                show ∀ c ∈ l, _
                intro c hc
                obtain ⟨h1, h2⟩ := hsm.out c hc
                exact ⟨by omega, by omega, by omega, HOC.out c hc⟩
              clear hrow
              go_wp2_with fail
              go_loopg [11, 12] (mo - 1) (fun kx s11 s12 wr => ∃ (q q2 : Nat) (L : List Coin), (q + 2 ≤ q2 ∧ q2 ≤ q + 2) ∧ q ≤ mo - 1 ∧ mo - 1 - q ≤ kx ∧ s12 = .int .i64 q2 ∧ RowI w.heap.size wr s11 L ∧ RowKit.Below w2.heap.size w2 wr ∧ L.length ≤ 2 * m ∧ m ≤ L.length ∧ Hid (L.map Coin.plain = levelP (singleP zs) q) ∧ Hid (∀ c ∈ L, c.n < 2147483648 * 2 ^ q ∧ 0 < c.syms.length ∧ c.syms.length ≤ 2 ^ q ∧ c.blk ≠ w1.heap.size))
              case atStart => exact ⟨0, 2, l, by omega, by omega, by omega, rfl, hrow2, Below.refl _ _, by rw [HM.out]; omega, by rw [HM.out]; omega, hS, hsm'⟩
              case round =>
                obtain ⟨w3, rfl⟩ : ∃ x, x = wr := ⟨_, rfl⟩
                obtain ⟨q, q2, L, hq2, hqmo, hkx, rfl, hrowL, belL, hL1, hL2, hplL, hbdL⟩ := hrel
                obtain ⟨A1, c1, rfl, -⟩ := own_form hrowL.1
                obtain ⟨-, hLc, -⟩ := row_form hrowL
                obtain ⟨nL, hnL⟩ : ∃ nL, L.length = nL := ⟨_, rfl⟩
                rw [hnL] at hrowL hLc hL1 hL2 ⊢
                obtain ⟨-, g1, rfl, -, hLcs⟩ := RowI.cell hrowL (by rw [hnL]; omega)
                have HNL : Hid (L.length = nL) := hnL
                clear hnL
                have hrowF : RowI w.heap.size w3 (.slice (some ⟨g0, 0, none⟩) m c0) l := hrow2.below belL
                have hFcs : ∀ (j : Nat) (c : Coin), l[j]? = some c → w3.cell? ⟨g0, j * 2, none⟩ = some (.int .i64 (c.n : Int)) ∧ w3.cell? ⟨g0, j * 2 + 1, none⟩ = some c.sl := fun j c h => ⟨pw_cell_below belL (hcs j c h).1, pw_cell_below belL (hcs j c h).2⟩
                have HFCS : Hid _ := hFcs
                clear hFcs
                have hB3 : w.heap.size ≤ w3.heap.size := Nat.le_trans bel2.size belL.size
                by_cases hqm : q2 ≤ mo
                · have hqz : (q2 : Int) ≤ (mo : Int) := by omega
                  obtain ⟨F, hF⟩ : ∃ F, 2 ^ q = F := ⟨_, rfl⟩
                  have hF1 : F ≤ 16384 := by
                    rw [← hF]
                    exact Nat.le_trans (Nat.pow_le_pow_right (by omega) (show q ≤ 14 by omega)) (by decide)
                  have hF0 : 1 ≤ F := by rw [← hF]; exact Nat.pow_pos (by omega)
                  have HF2 : Hid (2 ^ (q + 1) = 2 * F) := by show _ = _; rw [Nat.pow_succ, hF, Nat.mul_comm]
                  have hbdL2 := hbdL.out
                  rw [hF] at hbdL2
                  have HBL : Hid _ := hbdL2
                  clear hF hbdL2
                  go_wp2_with fail
                  go_loopg [13, 14, 15] nL (fun kx s13 s14 s15 wr => ∃ (t s : Nat) (Nx : List Coin), t ≤ nL ∧ nL - t ≤ kx ∧ s ≤ m ∧ s15 = .int .i64 t ∧ s14 = .int .i64 s ∧ RowN w3.heap.size w.heap.size wr s13 Nx ∧ RowKit.Below w3.heap.size w3 wr ∧ Nx.length ≤ s + t ∧ Hid (Nx.map Coin.plain ++ mrg ltP ((l.drop s).map Coin.plain) (packP ((L.drop t).map Coin.plain)) = mrg ltP (l.map Coin.plain) (packP (L.map Coin.plain))) ∧ Hid (∀ c ∈ Nx, c.n < 2147483648 * (2 * F) ∧ 0 < c.syms.length ∧ c.syms.length ≤ 2 * F ∧ c.blk ≠ w1.heap.size))
                  case atStart => exact ⟨0, 0, [], Nat.zero_le _, Nat.le_refl _, Nat.zero_le _, rfl, rfl, RowN.nil _ _ _, Below.refl _ _, Nat.le_refl _, rfl, (fun c hc => by cases hc)⟩
                  case round =>
                    obtain ⟨w4, rfl⟩ : ∃ x, x = wr := ⟨_, rfl⟩
                    obtain ⟨t, s, Nx, htn, hkx4, hsm4, rfl, rfl, hrowN, bel4, hNl, hqN, hbN⟩ := hrel
                    obtain ⟨t1, ht1⟩ : ∃ t1, t + 1 = t1 := ⟨_, rfl⟩
                    have ht1q : t + 1 ≤ t1 ∧ t1 ≤ t + 1 := by omega
                    have HT1 : Hid (t + 1 = t1) := ht1
                    clear ht1
                    have zt1 : IntKind.i64.wrap ((t : Int) + 1) = (t1 : Int) := by rw [IntKind.wrap_i64]; omega
                    obtain ⟨AN, cN, rfl, -⟩ := own_form hrowN.1
                    by_cases htl : t1 < nL
                    · have htz : (t1 : Int) < (nL : Int) := by omega
                      have htz0 : (t : Int) < (nL : Int) := by omega
                      obtain ⟨x, hx⟩ : ∃ x, L[t]? = some x := ⟨_, List.getElem?_eq_getElem (by have := HNL.out; omega)⟩
                      obtain ⟨y, hy⟩ : ∃ y, L[t + 1]? = some y := ⟨_, List.getElem?_eq_getElem (by have := HNL.out; omega)⟩
                      have cx0 := pw_cell_below bel4 (hLcs t x hx).1
                      have cx1 := pw_cell_below bel4 (hLcs t x hx).2
                      have cy0 := pw_cell_below bel4 (hLcs (t + 1) y hy).1
                      have cy1 := pw_cell_below bel4 (hLcs (t + 1) y hy).2
                      rw [HT1.out] at cy0 cy1
                      have hxL : x ∈ L := List.mem_of_getElem? hx
                      have hyL : y ∈ L := List.mem_of_getElem? hy
                      obtain ⟨qx, hx0, hxl, -⟩ := HBL.out x hxL
                      obtain ⟨qy, hy0', hyl, -⟩ := HBL.out y hyL
                      have hxl' : x.syms.length ≤ 100000 := by omega
                      have hyl' : y.syms.length ≤ 100000 := by omega
                      have hsum : x.n + y.n < 1125899906842624 := by omega
                      have hsum2 : Hid (x.n + y.n < 2147483648 * (2 * F)) := (by omega : _ < _)
                      have hlen2 : Hid (0 < (x.syms ++ y.syms).length ∧ (x.syms ++ y.syms).length ≤ 2 * F) := (by rw [List.length_append]; omega : _ ∧ _)
                      have hwsum : IntKind.i64.wrap ((x.n : Int) + (y.n : Int)) = (x.n : Int) + (y.n : Int) := by rw [IntKind.wrap_i64]; omega
                      have hsx : Syms w.heap.size w4 x := (hrowL.2 x hxL).below bel4
                      have hsy : Syms w.heap.size w4 y := (hrowL.2 y hyL).below bel4
                      have hpair : Hid (packP ((L.drop t).map Coin.plain) = (x.n + y.n, x.syms ++ y.syms) :: packP ((L.drop (t + 2)).map Coin.plain)) := step_pair hx hy
                      clear hx hy qx qy hxl hyl hxL hyL
                      go_upto_region 32 with fail
                      go_cut [16] (fun s16 wx => ∃ pb blk cp : Nat, s16 = .pointer (some ⟨pb, 0, none⟩) ∧ w4.heap.size ≤ pb ∧ wx.heap[pb]? = some (.cells (encC (coin2 x y blk cp hsum)).toArray 59 (0, 0)) ∧ w4.heap.size ≤ blk ∧ Syms w.heap.size wx (coin2 x y blk cp hsum) ∧ RowKit.Below w4.heap.size w4 wx)
                      case first =>
                        go_wp2_with fail
                        refine region_box (RowKit.Below w4.heap.size w4) (fun _ _ => True) (prR w4.heap.size x.syms.length (x.syms.map symV)) (fun i => i) (prV w4.heap.size w4 g1 nL c1 t t1 x y)
                          [some 126, some 127, some 128, some 129, some 130, some 131, some 132, some 133, some 134, some 135, some 136, some 137, some 138, some 139, some 140, some 141, some 142, some 143, some 144, some 145, some 146, some 147, some 148, some 149, some 150, some 151, some 16]
                          [[], [], [0, 1], [2], [3], [], [], [6], [5, 7], [8], [9], [4, 10], [], [], [12, 13], [14], [15], [16], [], [], [19], [18, 20], [21], [22], [17, 23, 17], [11, 24], []]
                          (by kernel_rfl) (by kernel_rfl) (by kernel_rfl) (by kernel_rfl) (by kernel_rfl) (fun i => .inl rfl) ?_ ?_ ?_ ?_ ?_ ?_ ?_
                        · exact ⟨rfl, rfl, rfl, Nat.le_refl _, fun _ _ => rfl⟩
                        · intro i; trivial
                        · intro i W W' h k2; exact prG_stay h.size h k2
                        · intros; trivial
                        · intro j i p v W W' h1 h2 h3 h4; refine prV_stay ?_ h3 h4
                          rintro (⟨rfl, rfl⟩ | ⟨rfl, rfl⟩)
                          · exact h1 rfl
                          · exact h2 (by decide)
                        · refine ⟨?_, ?_, ?_, ?_, ?_, ?_, ?_, ?_, ?_, ?_, ?_, ?_, ?_, ?_, ?_, ?_, ?_, ?_, ?_, ?_, ?_, ?_, ?_, ?_, ?_, ?_, ?_, trivial⟩
                          · intro vals W K hG hU hV hK
                            simp only [if_true] at hK
                            simp only [Reg.putS, List.foldl, List.headD, List.tail, List.getD_cons_zero, List.getD_cons_succ, Act.put, List.setIfInBounds_toArray, List.set_cons_zero, List.set_cons_succ] at hK ⊢
                            go_simp
                            first
                              | exact hK _ _ (Below.refl _ _) rfl
                              | (rw [if_pos (by omega)]; exact hK _ _ (Below.refl _ _) rfl)
                              | (rw [dif_pos (by omega)]; exact hK _ _ (Below.refl _ _) rfl)
                              | (rw [if_neg (by omega)]; exact hK _ _ (Below.refl _ _) rfl)
                          · intro vals W K hG hU hV hK
                            simp only [if_true] at hK
                            simp only [Reg.putS, List.foldl, List.headD, List.tail, List.getD_cons_zero, List.getD_cons_succ, Act.put, List.setIfInBounds_toArray, List.set_cons_zero, List.set_cons_succ] at hK ⊢
                            go_simp
                            first
                              | exact hK _ _ (Below.refl _ _) rfl
                              | (rw [if_pos (by omega)]; exact hK _ _ (Below.refl _ _) rfl)
                              | (rw [dif_pos (by omega)]; exact hK _ _ (Below.refl _ _) rfl)
                              | (rw [if_neg (by omega)]; exact hK _ _ (Below.refl _ _) rfl)
                          · intro vals W K hG hU hV hK
                            simp only [if_true] at hK
                            have d0 := hV 0 (by simp)
                            simp only [prV] at d0
                            have d1 := hV 1 (by simp)
                            simp only [prV] at d1
                            simp only [Reg.putS, List.foldl, List.headD, List.tail, List.getD_cons_zero, List.getD_cons_succ, Act.put, List.setIfInBounds_toArray, List.set_cons_zero, List.set_cons_succ, d0, d1] at hK ⊢
                            go_simp
                            first
                              | exact hK _ _ (Below.refl _ _) rfl
                              | (rw [if_pos (by omega)]; exact hK _ _ (Below.refl _ _) rfl)
                              | (rw [dif_pos (by omega)]; exact hK _ _ (Below.refl _ _) rfl)
                              | (rw [if_neg (by omega)]; exact hK _ _ (Below.refl _ _) rfl)
                          · intro vals W K hG hU hV hK
                            simp only [if_true] at hK
                            have d2 := hV 2 (by simp)
                            simp only [prV] at d2
                            simp only [Reg.putS, List.foldl, List.headD, List.tail, List.getD_cons_zero, List.getD_cons_succ, Act.put, List.setIfInBounds_toArray, List.set_cons_zero, List.set_cons_succ, d2] at hK ⊢
                            go_simp
                            first
                              | exact hK _ _ (Below.refl _ _) rfl
                              | (rw [if_pos (by omega)]; exact hK _ _ (Below.refl _ _) rfl)
                              | (rw [dif_pos (by omega)]; exact hK _ _ (Below.refl _ _) rfl)
                              | (rw [if_neg (by omega)]; exact hK _ _ (Below.refl _ _) rfl)
                          · intro vals W K hG hU hV hK
                            simp only [if_true] at hK
                            have d3 := hV 3 (by simp)
                            simp only [prV] at d3
                            simp only [Reg.putS, List.foldl, List.headD, List.tail, List.getD_cons_zero, List.getD_cons_succ, Act.put, List.setIfInBounds_toArray, List.set_cons_zero, List.set_cons_succ, d3] at hK ⊢
                            have hcl := pw_cell_below hG cx0
                            go_simp
                            first
                              | exact hK _ _ (Below.refl _ _) rfl
                              | (rw [if_pos (by omega)]; exact hK _ _ (Below.refl _ _) rfl)
                              | (rw [dif_pos (by omega)]; exact hK _ _ (Below.refl _ _) rfl)
                              | (rw [if_neg (by omega)]; exact hK _ _ (Below.refl _ _) rfl)
                          · intro vals W K hG hU hV hK
                            simp only [if_true] at hK
                            simp only [Reg.putS, List.foldl, List.headD, List.tail, List.getD_cons_zero, List.getD_cons_succ, Act.put, List.setIfInBounds_toArray, List.set_cons_zero, List.set_cons_succ] at hK ⊢
                            go_simp
                            first
                              | exact hK _ _ (Below.refl _ _) rfl
                              | (rw [if_pos (by omega)]; exact hK _ _ (Below.refl _ _) rfl)
                              | (rw [dif_pos (by omega)]; exact hK _ _ (Below.refl _ _) rfl)
                              | (rw [if_neg (by omega)]; exact hK _ _ (Below.refl _ _) rfl)
                          · intro vals W K hG hU hV hK
                            simp only [if_true] at hK
                            simp only [Reg.putS, List.foldl, List.headD, List.tail, List.getD_cons_zero, List.getD_cons_succ, Act.put, List.setIfInBounds_toArray, List.set_cons_zero, List.set_cons_succ] at hK ⊢
                            go_simp
                            first
                              | exact hK _ _ (Below.refl _ _) rfl
                              | (rw [if_pos (by omega)]; exact hK _ _ (Below.refl _ _) rfl)
                              | (rw [dif_pos (by omega)]; exact hK _ _ (Below.refl _ _) rfl)
                              | (rw [if_neg (by omega)]; exact hK _ _ (Below.refl _ _) rfl)
                          · intro vals W K hG hU hV hK
                            simp only [if_true] at hK
                            have d6 := hV 6 (by simp)
                            simp only [prV] at d6
                            simp only [Reg.putS, List.foldl, List.headD, List.tail, List.getD_cons_zero, List.getD_cons_succ, Act.put, List.setIfInBounds_toArray, List.set_cons_zero, List.set_cons_succ, d6] at hK ⊢
                            go_simp
                            first
                              | exact hK _ _ (Below.refl _ _) rfl
                              | (rw [if_pos (by omega)]; exact hK _ _ (Below.refl _ _) rfl)
                              | (rw [dif_pos (by omega)]; exact hK _ _ (Below.refl _ _) rfl)
                              | (rw [if_neg (by omega)]; exact hK _ _ (Below.refl _ _) rfl)
                          · intro vals W K hG hU hV hK
                            simp only [if_true] at hK
                            have d5 := hV 5 (by simp)
                            simp only [prV] at d5
                            have d7 := hV 7 (by simp)
                            simp only [prV] at d7
                            simp only [Reg.putS, List.foldl, List.headD, List.tail, List.getD_cons_zero, List.getD_cons_succ, Act.put, List.setIfInBounds_toArray, List.set_cons_zero, List.set_cons_succ, d5, d7] at hK ⊢
                            go_simp
                            first
                              | exact hK _ _ (Below.refl _ _) rfl
                              | (rw [if_pos (by omega)]; exact hK _ _ (Below.refl _ _) rfl)
                              | (rw [dif_pos (by omega)]; exact hK _ _ (Below.refl _ _) rfl)
                              | (rw [if_neg (by omega)]; exact hK _ _ (Below.refl _ _) rfl)
                          · intro vals W K hG hU hV hK
                            simp only [if_true] at hK
                            have d8 := hV 8 (by simp)
                            simp only [prV] at d8
                            simp only [Reg.putS, List.foldl, List.headD, List.tail, List.getD_cons_zero, List.getD_cons_succ, Act.put, List.setIfInBounds_toArray, List.set_cons_zero, List.set_cons_succ, d8] at hK ⊢
                            go_simp
                            first
                              | exact hK _ _ (Below.refl _ _) rfl
                              | (rw [if_pos (by omega)]; exact hK _ _ (Below.refl _ _) rfl)
                              | (rw [dif_pos (by omega)]; exact hK _ _ (Below.refl _ _) rfl)
                              | (rw [if_neg (by omega)]; exact hK _ _ (Below.refl _ _) rfl)
                          · intro vals W K hG hU hV hK
                            simp only [if_true] at hK
                            have d9 := hV 9 (by simp)
                            simp only [prV] at d9
                            simp only [Reg.putS, List.foldl, List.headD, List.tail, List.getD_cons_zero, List.getD_cons_succ, Act.put, List.setIfInBounds_toArray, List.set_cons_zero, List.set_cons_succ, d9] at hK ⊢
                            have hcl := pw_cell_below hG cy0
                            go_simp
                            first
                              | exact hK _ _ (Below.refl _ _) rfl
                              | (rw [if_pos (by omega)]; exact hK _ _ (Below.refl _ _) rfl)
                              | (rw [dif_pos (by omega)]; exact hK _ _ (Below.refl _ _) rfl)
                              | (rw [if_neg (by omega)]; exact hK _ _ (Below.refl _ _) rfl)
                          · intro vals W K hG hU hV hK
                            simp only [if_true] at hK
                            have d4 := hV 4 (by simp)
                            simp only [prV] at d4
                            have d10 := hV 10 (by simp)
                            simp only [prV] at d10
                            simp only [Reg.putS, List.foldl, List.headD, List.tail, List.getD_cons_zero, List.getD_cons_succ, Act.put, List.setIfInBounds_toArray, List.set_cons_zero, List.set_cons_succ, d4, d10] at hK ⊢
                            go_simp
                            first
                              | exact hK _ _ (Below.refl _ _) rfl
                              | (rw [if_pos (by omega)]; exact hK _ _ (Below.refl _ _) rfl)
                              | (rw [dif_pos (by omega)]; exact hK _ _ (Below.refl _ _) rfl)
                              | (rw [if_neg (by omega)]; exact hK _ _ (Below.refl _ _) rfl)
                          · intro vals W K hG hU hV hK
                            simp only [if_true] at hK
                            simp only [Reg.putS, List.foldl, List.headD, List.tail, List.getD_cons_zero, List.getD_cons_succ, Act.put, List.setIfInBounds_toArray, List.set_cons_zero, List.set_cons_succ] at hK ⊢
                            go_simp
                            first
                              | exact hK _ _ (Below.refl _ _) rfl
                              | (rw [if_pos (by omega)]; exact hK _ _ (Below.refl _ _) rfl)
                              | (rw [dif_pos (by omega)]; exact hK _ _ (Below.refl _ _) rfl)
                              | (rw [if_neg (by omega)]; exact hK _ _ (Below.refl _ _) rfl)
                          · intro vals W K hG hU hV hK
                            simp only [if_true] at hK
                            simp only [Reg.putS, List.foldl, List.headD, List.tail, List.getD_cons_zero, List.getD_cons_succ, Act.put, List.setIfInBounds_toArray, List.set_cons_zero, List.set_cons_succ] at hK ⊢
                            go_simp
                            first
                              | exact hK _ _ (Below.refl _ _) rfl
                              | (rw [if_pos (by omega)]; exact hK _ _ (Below.refl _ _) rfl)
                              | (rw [dif_pos (by omega)]; exact hK _ _ (Below.refl _ _) rfl)
                              | (rw [if_neg (by omega)]; exact hK _ _ (Below.refl _ _) rfl)
                          · intro vals W K hG hU hV hK
                            simp only [if_true] at hK
                            have d12 := hV 12 (by simp)
                            simp only [prV] at d12
                            have d13 := hV 13 (by simp)
                            simp only [prV] at d13
                            simp only [Reg.putS, List.foldl, List.headD, List.tail, List.getD_cons_zero, List.getD_cons_succ, Act.put, List.setIfInBounds_toArray, List.set_cons_zero, List.set_cons_succ, d12, d13] at hK ⊢
                            go_simp
                            first
                              | exact hK _ _ (Below.refl _ _) rfl
                              | (rw [if_pos (by omega)]; exact hK _ _ (Below.refl _ _) rfl)
                              | (rw [dif_pos (by omega)]; exact hK _ _ (Below.refl _ _) rfl)
                              | (rw [if_neg (by omega)]; exact hK _ _ (Below.refl _ _) rfl)
                          · intro vals W K hG hU hV hK
                            simp only [if_true] at hK
                            have d14 := hV 14 (by simp)
                            simp only [prV] at d14
                            simp only [Reg.putS, List.foldl, List.headD, List.tail, List.getD_cons_zero, List.getD_cons_succ, Act.put, List.setIfInBounds_toArray, List.set_cons_zero, List.set_cons_succ, d14] at hK ⊢
                            go_simp
                            first
                              | exact hK _ _ (Below.refl _ _) rfl
                              | (rw [if_pos (by omega)]; exact hK _ _ (Below.refl _ _) rfl)
                              | (rw [dif_pos (by omega)]; exact hK _ _ (Below.refl _ _) rfl)
                              | (rw [if_neg (by omega)]; exact hK _ _ (Below.refl _ _) rfl)
                          · intro vals W K hG hU hV hK
                            simp only [if_true] at hK
                            have d15 := hV 15 (by simp)
                            simp only [prV] at d15
                            simp only [Reg.putS, List.foldl, List.headD, List.tail, List.getD_cons_zero, List.getD_cons_succ, Act.put, List.setIfInBounds_toArray, List.set_cons_zero, List.set_cons_succ, d15] at hK ⊢
                            have hcl := pw_cell_below hG cx1
                            go_simp
                            first
                              | exact hK _ _ (Below.refl _ _) rfl
                              | (rw [if_pos (by omega)]; exact hK _ _ (Below.refl _ _) rfl)
                              | (rw [dif_pos (by omega)]; exact hK _ _ (Below.refl _ _) rfl)
                              | (rw [if_neg (by omega)]; exact hK _ _ (Below.refl _ _) rfl)
                          · refine Step.step_of ?g ?_
                            case g => rfl
                            intro A vals W K hA hG hU hV hK
                            simp only [if_true] at hK
                            have d16 := hV 16 (by simp)
                            simp only [prV] at d16
                            refine wp_append_own _ (.const (.slice none 0 0)) (.tmp 142) 22 rfl w4.heap.size 3 i3 (.int .i64 0) 1 8 Try.underlying22 hi3 hy0 hy1 hy2 rfl (by decide) _ 0 [] rfl (World.ownsRow_nil _ _ _ _) ⟨x.blk, 0, none⟩ x.syms.length x.cap (x.syms.map symV) ((Step.putE hA rfl (Nat.lt_of_sub_eq_succ rfl)).trans d16) (by rw [List.length_map, Nat.mul_one]) (fun j u h => src_below hG (World.ownsRow.cells hsx rfl j u h)) sym_one ?c1 ?c2 hG.size ?c3
                            case c1 => unfold maxLen; omega
                            case c2 => omega
                            case c3 =>
                              intro v' w' ho hgr hnil
                              rw [Nat.zero_add, List.nil_append] at ho
                              obtain ⟨A, c, rfl, hf⟩ := own_form ho
                              obtain ⟨b, rfl, -, -⟩ := hf hx0
                              exact hK _ _ ((Below.refl _ _).grown hgr (Nat.le_refl _) (fun k hk => by cases hk)) ⟨b, c, rfl, ho⟩
                          · intro vals W K hG hU hV hK
                            simp only [if_true] at hK
                            simp only [Reg.putS, List.foldl, List.headD, List.tail, List.getD_cons_zero, List.getD_cons_succ, Act.put, List.setIfInBounds_toArray, List.set_cons_zero, List.set_cons_succ] at hK ⊢
                            go_simp
                            first
                              | exact hK _ _ (Below.refl _ _) rfl
                              | (rw [if_pos (by omega)]; exact hK _ _ (Below.refl _ _) rfl)
                              | (rw [dif_pos (by omega)]; exact hK _ _ (Below.refl _ _) rfl)
                              | (rw [if_neg (by omega)]; exact hK _ _ (Below.refl _ _) rfl)
                          · intro vals W K hG hU hV hK
                            simp only [if_true] at hK
                            simp only [Reg.putS, List.foldl, List.headD, List.tail, List.getD_cons_zero, List.getD_cons_succ, Act.put, List.setIfInBounds_toArray, List.set_cons_zero, List.set_cons_succ] at hK ⊢
                            go_simp
                            first
                              | exact hK _ _ (Below.refl _ _) rfl
                              | (rw [if_pos (by omega)]; exact hK _ _ (Below.refl _ _) rfl)
                              | (rw [dif_pos (by omega)]; exact hK _ _ (Below.refl _ _) rfl)
                              | (rw [if_neg (by omega)]; exact hK _ _ (Below.refl _ _) rfl)
                          · intro vals W K hG hU hV hK
                            simp only [if_true] at hK
                            have d19 := hV 19 (by simp)
                            simp only [prV] at d19
                            simp only [Reg.putS, List.foldl, List.headD, List.tail, List.getD_cons_zero, List.getD_cons_succ, Act.put, List.setIfInBounds_toArray, List.set_cons_zero, List.set_cons_succ, d19] at hK ⊢
                            go_simp
                            first
                              | exact hK _ _ (Below.refl _ _) rfl
                              | (rw [if_pos (by omega)]; exact hK _ _ (Below.refl _ _) rfl)
                              | (rw [dif_pos (by omega)]; exact hK _ _ (Below.refl _ _) rfl)
                              | (rw [if_neg (by omega)]; exact hK _ _ (Below.refl _ _) rfl)
                          · intro vals W K hG hU hV hK
                            simp only [if_true] at hK
                            have d18 := hV 18 (by simp)
                            simp only [prV] at d18
                            have d20 := hV 20 (by simp)
                            simp only [prV] at d20
                            simp only [Reg.putS, List.foldl, List.headD, List.tail, List.getD_cons_zero, List.getD_cons_succ, Act.put, List.setIfInBounds_toArray, List.set_cons_zero, List.set_cons_succ, d18, d20] at hK ⊢
                            go_simp
                            first
                              | exact hK _ _ (Below.refl _ _) rfl
                              | (rw [if_pos (by omega)]; exact hK _ _ (Below.refl _ _) rfl)
                              | (rw [dif_pos (by omega)]; exact hK _ _ (Below.refl _ _) rfl)
                              | (rw [if_neg (by omega)]; exact hK _ _ (Below.refl _ _) rfl)
                          · intro vals W K hG hU hV hK
                            simp only [if_true] at hK
                            have d21 := hV 21 (by simp)
                            simp only [prV] at d21
                            simp only [Reg.putS, List.foldl, List.headD, List.tail, List.getD_cons_zero, List.getD_cons_succ, Act.put, List.setIfInBounds_toArray, List.set_cons_zero, List.set_cons_succ, d21] at hK ⊢
                            go_simp
                            first
                              | exact hK _ _ (Below.refl _ _) rfl
                              | (rw [if_pos (by omega)]; exact hK _ _ (Below.refl _ _) rfl)
                              | (rw [dif_pos (by omega)]; exact hK _ _ (Below.refl _ _) rfl)
                              | (rw [if_neg (by omega)]; exact hK _ _ (Below.refl _ _) rfl)
                          · intro vals W K hG hU hV hK
                            simp only [if_true] at hK
                            have d22 := hV 22 (by simp)
                            simp only [prV] at d22
                            simp only [Reg.putS, List.foldl, List.headD, List.tail, List.getD_cons_zero, List.getD_cons_succ, Act.put, List.setIfInBounds_toArray, List.set_cons_zero, List.set_cons_succ, d22] at hK ⊢
                            have hcl := pw_cell_below hG cy1
                            go_simp
                            first
                              | exact hK _ _ (Below.refl _ _) rfl
                              | (rw [if_pos (by omega)]; exact hK _ _ (Below.refl _ _) rfl)
                              | (rw [dif_pos (by omega)]; exact hK _ _ (Below.refl _ _) rfl)
                              | (rw [if_neg (by omega)]; exact hK _ _ (Below.refl _ _) rfl)
                          · refine Step.step_of ?g ?_
                            case g => rfl
                            intro A vals W K hA hG hU hV hK
                            simp only [if_true] at hK
                            have d17 := hV 17 (by simp)
                            simp only [prV] at d17
                            obtain ⟨b17, c17, d17, ho17⟩ := d17
                            have d23 := hV 23 (by simp)
                            simp only [prV] at d23
                            refine Keep.wp_append_keep _ (.tmp 143) (.tmp 149) 22 rfl w4.heap.size 3 i3 (.int .i64 0) 1 8 Try.underlying22 hi3 hy0 hy1 hy2 rfl (by decide) _ x.syms.length (x.syms.map symV) ((Step.putE hA rfl (Nat.lt_of_sub_eq_succ rfl)).trans d17) ho17 ⟨y.blk, 0, none⟩ y.syms.length y.cap (y.syms.map symV) ((Step.putE hA rfl (Nat.lt_of_sub_eq_succ rfl)).trans d23) (by rw [List.length_map, Nat.mul_one]) (fun j u h => src_below hG (World.ownsRow.cells hsy rfl j u h)) sym_one ?c1 ?c2 hG.size ?c3
                            case c1 => unfold maxLen; omega
                            case c2 => omega
                            case c3 =>
                              intro v' w' ho hgr hk
                              obtain ⟨A, c, rfl, hf⟩ := own_form ho
                              obtain ⟨b, rfl, -, -⟩ := hf (by omega)
                              exact hK _ _ ⟨_, ho17, hgr, hk, own_ge ho17, .inl hx0⟩ ⟨b, c, rfl, ho⟩
                          · intro vals W K hG hU hV hK
                            simp only [if_true] at hK
                            have d11 := hV 11 (by simp)
                            simp only [prV] at d11
                            have d24 := hV 24 (by simp)
                            simp only [prV] at d24
                            obtain ⟨b24, c24, d24, ho24⟩ := d24
                            simp only [Reg.putS, List.foldl, List.headD, List.tail, List.getD_cons_zero, List.getD_cons_succ, Act.put, List.setIfInBounds_toArray, List.set_cons_zero, List.set_cons_succ, d11, d24] at hK ⊢
                            go_simp
                            exact hK _ _ (Below.refl _ _) ⟨b24, c24, rfl, ho24⟩
                          · intro vals W K hG hU hV hK
                            simp only [if_true] at hK
                            simp only [Reg.putS, List.foldl, List.headD, List.tail, List.getD_cons_zero, List.getD_cons_succ, Act.put, List.setIfInBounds_toArray, List.set_cons_zero, List.set_cons_succ] at hK ⊢
                            go_simp
                            exact hK _ _ (balloc (Below.refl _ _) _) ⟨_, rfl, hG.size, heap_new W _⟩
                        · intro vals W hG hV
                          rw [show List.range (List.length [some 126, some 127, some 128, some 129, some 130, some 131, some 132, some 133, some 134, some 135, some 136, some 137, some 138, some 139, some 140, some 141, some 142, some 143, some 144, some 145, some 146, some 147, some 148, some 149, some 150, some 151, some 16]) = [0, 1, 2, 3, 4, 5, 6, 7, 8, 9, 10, 11, 12, 13, 14, 15, 16, 17, 18, 19, 20, 21, 22, 23, 24, 25, 26] from rfl]
                          have d0 := hV 0 (by decide)
                          simp only [prV] at d0
                          have d1 := hV 1 (by decide)
                          simp only [prV] at d1
                          have d2 := hV 2 (by decide)
                          simp only [prV] at d2
                          have d3 := hV 3 (by decide)
                          simp only [prV] at d3
                          have d4 := hV 4 (by decide)
                          simp only [prV] at d4
                          have d5 := hV 5 (by decide)
                          simp only [prV] at d5
                          have d6 := hV 6 (by decide)
                          simp only [prV] at d6
                          have d7 := hV 7 (by decide)
                          simp only [prV] at d7
                          have d8 := hV 8 (by decide)
                          simp only [prV] at d8
                          have d9 := hV 9 (by decide)
                          simp only [prV] at d9
                          have d10 := hV 10 (by decide)
                          simp only [prV] at d10
                          have d11 := hV 11 (by decide)
                          simp only [prV] at d11
                          have d12 := hV 12 (by decide)
                          simp only [prV] at d12
                          have d13 := hV 13 (by decide)
                          simp only [prV] at d13
                          have d14 := hV 14 (by decide)
                          simp only [prV] at d14
                          have d15 := hV 15 (by decide)
                          simp only [prV] at d15
                          have d16 := hV 16 (by decide)
                          simp only [prV] at d16
                          have d17 := hV 17 (by decide)
                          simp only [prV] at d17
                          obtain ⟨b17, c17, d17, ho17⟩ := d17
                          have d18 := hV 18 (by decide)
                          simp only [prV] at d18
                          have d19 := hV 19 (by decide)
                          simp only [prV] at d19
                          have d20 := hV 20 (by decide)
                          simp only [prV] at d20
                          have d21 := hV 21 (by decide)
                          simp only [prV] at d21
                          have d22 := hV 22 (by decide)
                          simp only [prV] at d22
                          have d23 := hV 23 (by decide)
                          simp only [prV] at d23
                          have d24 := hV 24 (by decide)
                          simp only [prV] at d24
                          obtain ⟨b24, c24, d24, ho24⟩ := d24
                          have d25 := hV 25 (by decide)
                          simp only [prV] at d25
                          obtain ⟨b25, c25, d25, ho25⟩ := d25
                          have d26 := hV 26 (by decide)
                          simp only [prV] at d26
                          obtain ⟨b26, d26, hge26, hh26⟩ := d26
                          clear hV
                          refine Box.mk ?_
                          simp only [RegL.LastOp]
                          simp only [Reg.putS, List.foldl, List.getD_cons_zero, List.getD_cons_succ, Act.put, List.setIfInBounds_toArray, List.set_cons_zero, List.set_cons_succ, d0, d1, d2, d3, d4, d5, d6, d7, d8, d9, d10, d11, d12, d13, d14, d15, d16, d17, d18, d19, d20, d21, d22, d23, d24, d25, d26]
                          clear d0 d1 d2 d3 d4 d5 d6 d7 d8 d9 d10 d11 d12 d13 d14 d15 d16 d17 d18 d19 d20 d21 d22 d23 d24 d25 d26
                          obtain ⟨e1, e2, e3⟩ := set_two (x := .int .i64 ((x.n : Int) + (y.n : Int))) (y := .slice (some ⟨b25, 0, none⟩) (x.syms.length + y.syms.length) c25) hh26 hge26 hG
                          have k0 := cell_of (i := 0) hh26 rfl
                          have f0 := frozen_of (i := 0) hh26
                          have ht1 := set_heap hh26 0 (.int .i64 ((x.n : Int) + (y.n : Int)))
                          have k1 := cell_of (i := 1) ht1 rfl
                          have f1 := frozen_of (i := 1) ht1
                          have hge25 := own_ge ho25 b25 rfl
                          have hne : b26 ≠ b25 := fun e => by
                            have := own_ne ho25 hh26 (by decide)
                            exact this (by rw [e]; rfl)
                          have hsy2 := own_mono (ho25.kept e3 (.inr (fun e => hne (Option.some.inj (show some b25 = some b26 from e)).symm))) (Nat.le_trans hB3 bel4.size)
                          clear ht1 hh26 ho25 ho24 ho17 e3 hne
                          go_simp
                          go_wp2_with fail
                          go_meet
                          case rel => exact ⟨b26, b25, c25, rfl, hge26, by rw [e1]; simp [encC, coin2, Coin.sl], hge25, by show World.ownsRow _ _ 3 1 (.slice (some ⟨b25, 0, none⟩) (x.syms ++ y.syms).length c25) (x.syms ++ y.syms).length ((x.syms ++ y.syms).map symV); rw [List.length_append, List.map_append]; exact hsy2, e2⟩
                      case rest =>
                      obtain ⟨w5, rfl⟩ : ∃ x, x = wc := ⟨_, rfl⟩
                      obtain ⟨pb, blk, cp, rfl, hpb, hpB, hblk, hsP, bel5⟩ := hcut
                      have hpbI : (w4.heap.size : Int) ≤ pb := by omega
                      have hrowN5 := hrowN.below bel5
                      have hNb : ∀ g, (Value.slice AN Nx.length cN).ownBlock = some g → g ≠ pb := by
                        intro g hg e
                        have := own_lt hrowN.1 g hg
                        omega
                      have bel35 : RowKit.Below w3.heap.size w3 w5 := bstep bel4 bel5
                      have hPb : Hid ((coin2 x y blk cp hsum).plain = (x.n + y.n, x.syms ++ y.syms) ∧ (coin2 x y blk cp hsum).n < 2147483648 * (2 * F) ∧ 0 < (coin2 x y blk cp hsum).syms.length ∧ (coin2 x y blk cp hsum).syms.length ≤ 2 * F ∧ (coin2 x y blk cp hsum).blk ≠ w1.heap.size) := by
                        refine ⟨rfl, hsum2.out, hlen2.out.1, hlen2.out.2, ?_⟩
                        show blk ≠ _
                        have := bel4.size; have := belL.size
                        omega
                      generalize coin2 x y blk cp hsum = PP at hpB hsP hPb
                      have hq0 : Hid (Nx.map Coin.plain ++ mrg ltP ((l.drop s).map Coin.plain) (PP.plain :: packP ((L.drop (t + 2)).map Coin.plain)) = mrg ltP (l.map Coin.plain) (packP (L.map Coin.plain))) := by
                        show _ = _
                        rw [hPb.out.1, ← hpair.out]; exact hqN.out
                      clear cx0 cx1 cy0 cy1 hsx hsy hpair hqN hsum hsum2 hlen2 hrowN hblk hwsum hx0 hy0'
                      go_upto_block 8 with fail
                      go_cut [13, 14] (fun s13 s14 wr => ∃ (s' : Nat) (N : List Coin), s' ≤ m ∧ s14 = .int .i64 s' ∧ RowN w3.heap.size w.heap.size wr s13 N ∧ Hid (∀ g, s13.ownBlock = some g → g ≠ pb) ∧ wr.heap[pb]? = some (.cells (encC PP).toArray 59 (0, 0)) ∧ Syms w.heap.size wr PP ∧ RowKit.Below w3.heap.size w3 wr ∧ N.length ≤ s' + t ∧ Hid (N.map Coin.plain ++ mrg ltP ((l.drop s').map Coin.plain) (PP.plain :: packP ((L.drop (t + 2)).map Coin.plain)) = mrg ltP (l.map Coin.plain) (packP (L.map Coin.plain))) ∧ Hid (∀ c ∈ N, c.n < 2147483648 * (2 * F) ∧ 0 < c.syms.length ∧ c.syms.length ≤ 2 * F ∧ c.blk ≠ w1.heap.size) ∧ Hid (∀ c, l[s']? = some c → PP.n < c.n))
                      case first =>
                        go_wp2_with fail
                        go_loopg [13, 14] m (fun kx s13 s14 wr => ∃ (s' : Nat) (N : List Coin), s' ≤ m ∧ m - s' ≤ kx ∧ s14 = .int .i64 s' ∧ RowN w3.heap.size w.heap.size wr s13 N ∧ Hid (∀ g, s13.ownBlock = some g → g ≠ pb) ∧ wr.heap[pb]? = some (.cells (encC PP).toArray 59 (0, 0)) ∧ Syms w.heap.size wr PP ∧ RowKit.Below w3.heap.size w3 wr ∧ N.length ≤ s' + t ∧ Hid (N.map Coin.plain ++ mrg ltP ((l.drop s').map Coin.plain) (PP.plain :: packP ((L.drop (t + 2)).map Coin.plain)) = mrg ltP (l.map Coin.plain) (packP (L.map Coin.plain))) ∧ Hid (∀ c ∈ N, c.n < 2147483648 * (2 * F) ∧ 0 < c.syms.length ∧ c.syms.length ≤ 2 * F ∧ c.blk ≠ w1.heap.size))
                        case atStart => exact ⟨s, Nx, hsm4, by omega, rfl, hrowN5, hNb, hpB, hsP, bel35, hNl, hq0, hbN⟩
                        case round =>
                          obtain ⟨w6, rfl⟩ : ∃ x, x = wr := ⟨_, rfl⟩
                          obtain ⟨s', N, hs'm, hkx6, rfl, hrowN6, hNb6, hpB6, hsP6, bel6, hNl6, hq6, hb6⟩ := hrel
                          obtain ⟨AN6, cN6, rfl, -⟩ := own_form hrowN6.1
                          have p0 : w6.cell? ⟨pb, 0, none⟩ = some (.int .i64 (PP.n : Int)) := cell_of (i := 0) hpB6 rfl
                          obtain ⟨PN, hPN⟩ : ∃ PN, PP.n = PN := ⟨_, rfl⟩
                          rw [hPN] at p0
                          have HPN : Hid (PP.n = PN) := hPN
                          have hpB6' : Hid _ := hpB6
                          clear hpB6
                          by_cases hsm6 : s' < m
                          · have hsmz : (s' : Int) < (m : Int) := by omega
                            obtain ⟨c, hc⟩ : ∃ c, l[s']? = some c := ⟨_, List.getElem?_eq_getElem (by have := HM.out; omega)⟩
                            have cc0 := pw_cell_below bel6 (HFCS.out s' c hc).1
                            have cc1 := pw_cell_below bel6 (HFCS.out s' c hc).2
                            unfold Coin.sl at cc1
                            have v1 : decide ((s' : Int) < (m : Int)) = true := decide_eq_true hsmz
                            have v1b : decide (s' < m) = true := decide_eq_true hsm6
                            obtain ⟨cn, hcn⟩ : ∃ cn, c.n = cn := ⟨_, rfl⟩
                            rw [hcn] at cc0
                            have HCN : Hid (c.n = cn) := hcn
                            by_cases hle6 : cn ≤ PN
                            · have v3 : decide ((cn : Int) ≤ (PN : Int)) = true := decide_eq_true (by omega)
                              have v3b : decide (cn ≤ PN) = true := decide_eq_true hle6
                              have HC : Hid (l[s']? = some c ∧ c.n ≤ PP.n) := (⟨hc, by omega⟩ : _ ∧ _)
                              clear hc hcn hPN hle6
                              go_wp2_with fail
                              go_quiet (fail)
                              have belQ : RowKit.Below w6.heap.size w6 ((w6.drewN nq).alloc (.cells #[.int .i64 (cn : Int), .slice (some ⟨c.blk, 0, none⟩) c.syms.length c.cap] 59)) := balloc (drewN_below (Below.refl _ _) nq) _
                              have hrA := hrowN6.below belQ
                              have hsA := hsP6.below belQ
                              have hbA := heap_below belQ hpB6'.out
                              have hcA := ((hrowF.2 c (List.mem_of_getElem? HC.out.1)).below bel6).below belQ
                              have belA := bstep bel6 belQ
                              have hcells := heap_new (w6.drewN nq) (.cells #[.int .i64 (cn : Int), .slice (some ⟨c.blk, 0, none⟩) c.syms.length c.cap] 59)
                              have hsz6 : w3.heap.size ≤ ((w6.drewN nq).alloc (.cells #[.int .i64 (cn : Int), .slice (some ⟨c.blk, 0, none⟩) c.syms.length c.cap] 59)).heap.size := belA.size
                              go_wp2_with (first | (at_builtin; refine wpList_append_place _ rfl (.tmp 166) (.tmp 171) 57 rfl w3.heap.size 59 i0 _ 2 32 Try.underlying57 hi hz0 hz1 hz2 rfl (by decide) _ N.length (N.flatMap encC) rfl hrA.1 ⟨w6.heap.size, 0, none⟩ 1 1 [.int .i64 (cn : Int), .slice (some ⟨c.blk, 0, none⟩) c.syms.length c.cap] rfl rfl ?e1 ?e2 ?e3 ?e4 hsz6 ?_))
                              case e1 => intro j u hj; rw [Addr.add_lit, Nat.zero_add]; exact cell_of hcells (by simpa using hj)
                              case e2 => intro u hu; simp at hu; rcases hu with rfl | rfl <;> rfl
                              case e3 => unfold maxLen; omega
                              case e4 => omega
                              intro v7 w7 ho7 hg7 hpl7
                              have hrow7 : RowN w3.heap.size w.heap.size w7 v7 (N ++ [c]) := hrA.join (l2 := [c]) (fun d hd => by rw [List.mem_singleton.1 hd]; exact hcA) (by rw [← HCN.out] at ho7; simpa [encC, Coin.sl] using ho7) hg7
                              have hpB7 : w7.heap[pb]? = some (.cells (encC PP).toArray 59 (0, 0)) := by rw [hg7.block pb (heap_lt hbA) (fun e => hNb6.out pb e.symm rfl)]; exact hbA
                              have hsP7 := hsA.keptI hrA.1 hg7
                              have hNb7 : Hid (∀ g, v7.ownBlock = some g → g ≠ pb) := by
                                show ∀ g, _
                                intro g hg
                                rcases hpl7 with h | h
                                · exact hNb6.out g (by rw [← h]; exact hg)
                                · have h1 := h g hg
                                  have h2 := heap_lt hpB6'.out
                                  have h3 := belQ.size
                                  omega
                              have bel7 : RowKit.Below w3.heap.size w3 w7 := belA.grown hg7 hsz6 (own_ge hrA.1)
                              have hq7 := step_low (p := PP.plain) HC.out.1 HC.out.2 hq6.out
                              have HQ7 : Hid _ := hq7
                              have hb7 : Hid (∀ d ∈ N ++ [c], d.n < 2147483648 * (2 * F) ∧ 0 < d.syms.length ∧ d.syms.length ≤ 2 * F ∧ d.blk ≠ w1.heap.size) := by
                                show ∀ d ∈ _, _
                                intro d hd
                                rcases List.mem_append.1 hd with hd | hd
                                · exact hb6.out d hd
                                · rw [List.mem_singleton.1 hd]
                                  have hcl := List.mem_of_getElem? HC.out.1
                                  obtain ⟨k1, k2⟩ := hsm.out c hcl
                                  exact ⟨by omega, by omega, by omega, HOC.out c hcl⟩
                              obtain ⟨A7, c7, rfl, -⟩ := own_form ho7
                              have zs1 : IntKind.i64.wrap ((s' : Int) + 1) = (s' : Int) + 1 := by rw [IntKind.wrap_i64]; omega
                              have hlen7 : N.length + 1 ≤ s' + 1 + t := by omega
                              clear hrA hsA hbA hcA belA hcells hsz6 ho7 hg7 hpl7 hq7 belQ hsP6 bel6 hrowN6 hpB6' hNb6 hq6 hb6 cc0 cc1 p0
                              go_wp2
                              go_roundg (m - (s' + 1))
                              case measure => omega
                              case rel => exact ⟨s' + 1, N ++ [c], hsm6, Nat.le_refl _, rfl, hrow7, hNb7, hpB7, hsP7, bel7, by rw [List.length_append, List.length_singleton]; exact hlen7, HQ7, hb7⟩
                            · have v3 : decide ((cn : Int) ≤ (PN : Int)) = false := decide_eq_false (by omega)
                              have v3b : decide (cn ≤ PN) = false := decide_eq_false hle6
                              have hstop6 : Hid (∀ c, l[s']? = some c → PP.n < c.n) := by
                                show ∀ d, _
                                intro d hd
                                rw [hc] at hd
                                injection hd with hd
                                rw [← hd]; omega
                              clear hc hcn hPN hle6 HCN
                              go_wp2_with fail
                              go_quiet (fail)
                              go_wp2_with fail
                              go_meet
                              case rel => exact ⟨s', N, hs'm, rfl, ⟨own_below hrowN6.1 (drewN_below (Below.refl _ _) _), fun c hc => (hrowN6.2 c hc).below (drewN_below (Below.refl _ _) _)⟩, hNb6, hpB6'.out, own_below hsP6 (drewN_below (Below.refl _ _) _), drewN_below bel6 _, hNl6, hq6, hb6, hstop6⟩
                          · have v1 : decide ((s' : Int) < (m : Int)) = false := decide_eq_false (by omega)
                            have v1b : decide (s' < m) = false := decide_eq_false hsm6
                            have hstop6 : Hid (∀ c, l[s']? = some c → PP.n < c.n) := by
                              show ∀ c, _
                              intro c hc
                              rw [List.getElem?_eq_none (by have := HM.out; omega)] at hc
                              cases hc
                            clear p0 hPN hsm6
                            go_wp2_with fail
                            go_quiet (fail)
                            go_wp2_with fail
                            go_meet
                            case rel => exact ⟨s', N, hs'm, rfl, ⟨own_below hrowN6.1 (drewN_below (Below.refl _ _) _), fun c hc => (hrowN6.2 c hc).below (drewN_below (Below.refl _ _) _)⟩, hNb6, hpB6'.out, own_below hsP6 (drewN_below (Below.refl _ _) _), drewN_below bel6 _, hNl6, hq6, hb6, hstop6⟩
                      case rest =>
                      obtain ⟨w6, rfl⟩ : ∃ x, x = wc := ⟨_, rfl⟩
                      obtain ⟨s', N, hs'm, rfl, hrowN6, hNb6, hpB6, hsP6, bel6, hNl6, hq6, hb6, hst6⟩ := hcut
                      obtain ⟨AN6, cN6, rfl, -⟩ := own_form hrowN6.1
                      have p0 : w6.cell? ⟨pb, 0, none⟩ = some (.int .i64 (PP.n : Int)) := cell_of (i := 0) hpB6 rfl
                      have p1 : w6.cell? ⟨pb, 1, none⟩ = some (.slice (some ⟨PP.blk, 0, none⟩) PP.syms.length PP.cap) := cell_of (i := 1) hpB6 rfl
                      have belQ : RowKit.Below w6.heap.size w6 (w6.alloc (.cells #[.int .i64 (PP.n : Int), .slice (some ⟨PP.blk, 0, none⟩) PP.syms.length PP.cap] 59)) := balloc (Below.refl _ _) _
                      have hrA := hrowN6.below belQ
                      have hsA := hsP6.below belQ
                      have belA := bstep bel6 belQ
                      have hcells := heap_new w6 (.cells #[.int .i64 (PP.n : Int), .slice (some ⟨PP.blk, 0, none⟩) PP.syms.length PP.cap] 59)
                      have hsz6 : w3.heap.size ≤ (w6.alloc (.cells #[.int .i64 (PP.n : Int), .slice (some ⟨PP.blk, 0, none⟩) PP.syms.length PP.cap] 59)).heap.size := belA.size
                      clear hpB6 hNb6
                      go_wp2_with (first | (at_builtin; refine wpList_append_own _ rfl (.tmp 175) (.tmp 177) 57 rfl w3.heap.size 59 i0 _ 2 32 Try.underlying57 hi hz0 hz1 hz2 rfl (by decide) _ N.length (N.flatMap encC) rfl hrA.1 ⟨w6.heap.size, 0, none⟩ 1 1 [.int .i64 (PP.n : Int), .slice (some ⟨PP.blk, 0, none⟩) PP.syms.length PP.cap] rfl rfl ?e1 ?e2 ?e3 ?e4 hsz6 ?_))
                      case e1 => intro j u hj; rw [Addr.add_lit, Nat.zero_add]; exact cell_of hcells (by simpa using hj)
                      case e2 => intro u hu; simp at hu; rcases hu with rfl | rfl <;> rfl
                      case e3 => unfold maxLen; omega
                      case e4 => omega
                      intro v7 w7 ho7 hg7 _
                      have hrow7 : RowN w3.heap.size w.heap.size w7 v7 (N ++ [PP]) := hrA.join (l2 := [PP]) (fun d hd => by rw [List.mem_singleton.1 hd]; exact hsA) (by simpa [encC, Coin.sl] using ho7) hg7
                      have bel7 : RowKit.Below w3.heap.size w3 w7 := belA.grown hg7 hsz6 (own_ge hrA.1)
                      have hq7 := step_high hst6.out hq6.out
                      have HQ7 : Hid _ := hq7
                      have hb7 : Hid (∀ d ∈ N ++ [PP], d.n < 2147483648 * (2 * F) ∧ 0 < d.syms.length ∧ d.syms.length ≤ 2 * F ∧ d.blk ≠ w1.heap.size) := by
                        show ∀ d ∈ _, _
                        intro d hd
                        rcases List.mem_append.1 hd with hd | hd
                        · exact hb6.out d hd
                        · rw [List.mem_singleton.1 hd]
                          exact hPb.out.2
                      obtain ⟨A7, c7, rfl, -⟩ := own_form ho7
                      have zt2 : IntKind.i64.wrap ((t : Int) + 2) = (t : Int) + 2 := by rw [IntKind.wrap_i64]; omega
                      have hlen7 : N.length + 1 ≤ s' + (t + 2) := by omega
                      clear hrA hsA belA hcells hsz6 ho7 hg7 hq7 belQ hsP6 bel6 hrowN6 hq6 hb6 hst6 p0 p1
                      go_wp2
                      go_roundg (nL - (t + 2))
                      case measure => omega
                      case rel => exact ⟨t + 2, s', N ++ [PP], by omega, Nat.le_refl _, hs'm, rfl, rfl, hrow7, bel7, by rw [List.length_append, List.length_singleton]; exact hlen7, HQ7, hb7⟩
                    · have htz : ¬ (t1 : Int) < (nL : Int) := by omega
                      have hpk : packP ((L.drop t).map Coin.plain) = [] := by
                        rw [List.map_drop]
                        exact pack_none (by rw [List.length_map, HNL.out]; omega)
                      have hplN : Hid ((Nx ++ l.drop s).map Coin.plain = levelP (singleP zs) (q + 1)) := by
                        show _ = _
                        have h1 := hqN.out
                        rw [hpk, mrg_nil] at h1
                        rw [List.map_append, h1, hS.out, hplL.out, ← level_mrg (single_order zs)]
                      have hlenN : Hid ((Nx ++ l.drop s).length ≤ 2 * m ∧ m ≤ (Nx ++ l.drop s).length) := by
                        show _ ∧ _
                        have h1 := congrArg List.length hplN.out
                        rw [List.length_map] at h1
                        have h2 := level_le (singleP zs) (q + 1)
                        have h3 := level_ge (singleP zs) (q + 1)
                        rw [hmS.out] at h2 h3
                        omega
                      have hbN2 : Hid (∀ d ∈ Nx ++ l.drop s, d.n < 2147483648 * 2 ^ (q + 1) ∧ 0 < d.syms.length ∧ d.syms.length ≤ 2 ^ (q + 1) ∧ d.blk ≠ w1.heap.size) := by
                        show ∀ d ∈ _, _
                        intro d hd
                        rw [HF2.out]
                        rcases List.mem_append.1 hd with hd | hd
                        · exact hbN.out d hd
                        · have hcl := List.mem_of_mem_drop hd
                          obtain ⟨k1, k2⟩ := hsm.out d hcl
                          exact ⟨by omega, by omega, by omega, HOC.out d hcl⟩
                      have hsrc := src_of_drop (hrowF.below bel4) s
                      have hdl : (l.drop s).length = m - s := by rw [List.length_drop, HM.out]
                      have HDL : Hid _ := hdl
                      have hqN0 : (s : Int) ≤ (m : Int) := by omega
                      have hqC0 : (s : Int) ≤ (c0 : Int) := by omega
                      have hmsz : m - s ≤ 400 := by omega
                      have hNlen : Nx.length ≤ 1200 := by omega
                      have zk : IntKind.i64.wrap ((q2 : Int) + 1) = (q2 : Int) + 1 := by rw [IntKind.wrap_i64]; omega
                      have hsy4 : ∀ d ∈ l.drop s, Syms w.heap.size w4 d := fun d hd => (hrowF.2 d (List.mem_of_mem_drop hd)).below bel4
                      have HSY4 : Hid _ := hsy4
                      clear hpk hqN hbN hdl hsy4
                      by_cases hcs0 : c0 = s
                      · subst hcs0
                        have hnil : l.drop c0 = [] := List.eq_nil_of_length_eq_zero (by rw [HDL.out]; omega)
                        have hm0 : m - c0 = 0 := by omega
                        have hfl : ((l.drop c0).flatMap encC).length = 0 * 2 := by rw [flat_len, HDL.out, hm0]
                        have HM0 : Hid _ := hm0
                        clear hm0
                        have hcs1 : ∀ (ad : Addr) j u, ((l.drop c0).flatMap encC)[j]? = some u → w4.cell? (ad.add j) = some u := fun ad j u hj => by rw [hnil] at hj; simp at hj
                        have HNIL : Hid _ := hnil
                        clear hnil hsrc
                        go_wp2_with (first | (at_builtin; refine wpList_append_own _ rfl (.tmp 179) (.tmp 182) 57 rfl w3.heap.size 59 i0 _ 2 32 Try.underlying57 hi hz0 hz1 hz2 rfl (by decide) _ Nx.length (Nx.flatMap encC) rfl hrowN.1 _ _ _ ((l.drop c0).flatMap encC) rfl hfl (hcs1 _) flat_one ?e3 ?e4 bel4.size ?_))
                        case e3 => unfold maxLen; omega
                        case e4 => omega
                        clear hfl hcs1
                        intro v8 w8 ho8 hg8 _
                        have hrow8 := (hrowN.join (l2 := l.drop c0) HSY4.out (by rw [HDL.out, HM0.out]; exact ho8) hg8).row hB3
                        have bel8 : RowKit.Below w2.heap.size w2 w8 := bstep belL (bel4.grown hg8 bel4.size (own_ge hrowN.1))
                        obtain ⟨A8, c8, rfl, -⟩ := own_form ho8
                        have hrow8' : RowI w.heap.size w8 (.slice A8 (Nx.length + 0) c8) (Nx ++ l.drop c0) := hrow8
                        have HLN : Hid ((Nx ++ l.drop c0).length = Nx.length + (m - c0)) := by show _ = _; rw [List.length_append, HDL.out]
                        generalize Nx ++ l.drop c0 = L8 at hrow8' hplN hlenN hbN2 HLN
                        clear ho8 hg8 hrowN hrow8 hrowL hrowF HSY4 bel4 hLcs
                        go_wp2
                        go_roundg (mo - 1 - (q + 1))
                        case measure => omega
                        case rel => exact ⟨q + 1, q2 + 1, L8, by omega, by omega, Nat.le_refl _, rfl, hrow8', bel8, hlenN.out.1, hlenN.out.2, hplN, hbN2⟩
                      · have hfl : ((l.drop s).flatMap encC).length = (m - s) * 2 := by rw [flat_len, HDL.out]
                        have hcs1 : ∀ j u, ((l.drop s).flatMap encC)[j]? = some u → w4.cell? ((⟨g0, s * 2, none⟩ : Addr).add j) = some u := by
                          rcases hsrc with ⟨h, _⟩ | ⟨ad, h, hc⟩
                          · cases h
                          · injection h with h; rw [h]; exact hc
                        clear hsrc
                        go_wp2_with (first | (at_builtin; refine wpList_append_own _ rfl (.tmp 179) (.tmp 182) 57 rfl w3.heap.size 59 i0 _ 2 32 Try.underlying57 hi hz0 hz1 hz2 rfl (by decide) _ Nx.length (Nx.flatMap encC) rfl hrowN.1 ⟨g0, s * 2, none⟩ _ _ ((l.drop s).flatMap encC) rfl hfl hcs1 flat_one ?e3 ?e4 bel4.size ?_))
                        case e3 => unfold maxLen; omega
                        case e4 => omega
                        clear hfl hcs1
                        intro v8 w8 ho8 hg8 _
                        have hrow8 := (hrowN.join (l2 := l.drop s) HSY4.out (by rw [HDL.out]; exact ho8) hg8).row hB3
                        have bel8 : RowKit.Below w2.heap.size w2 w8 := bstep belL (bel4.grown hg8 bel4.size (own_ge hrowN.1))
                        obtain ⟨A8, c8, rfl, -⟩ := own_form ho8
                        have hrow8' : RowI w.heap.size w8 (.slice A8 (Nx.length + (m - s)) c8) (Nx ++ l.drop s) := hrow8
                        have HLN : Hid ((Nx ++ l.drop s).length = Nx.length + (m - s)) := by show _ = _; rw [List.length_append, HDL.out]
                        generalize Nx ++ l.drop s = L8 at hrow8' hplN hlenN hbN2 HLN
                        clear ho8 hg8 hrowN hrow8 hrowL hrowF HSY4 bel4 hLcs
                        go_wp2
                        go_roundg (mo - 1 - (q + 1))
                        case measure => omega
                        case rel => exact ⟨q + 1, q2 + 1, L8, by omega, by omega, Nat.le_refl _, rfl, hrow8', bel8, hlenN.out.1, hlenN.out.2, hplN, hbN2⟩
                · have hqz : ¬ (q2 : Int) ≤ (mo : Int) := by omega
                  obtain ⟨qq, hqq⟩ : ∃ qq, mo - 1 = qq := ⟨_, rfl⟩
                  obtain rfl : q = qq := by omega
                  have hqmo' : Hid (mo - 1 = q) := hqq
                  obtain ⟨NT, hNT⟩ : ∃ NT, takeN m = NT := ⟨_, rfl⟩
                  have hNTm : (NT : Int) = 2 * (m : Int) - 2 := by
                    rw [← hNT]; unfold takeN; rw [if_neg (by omega)]; omega
                  have hNTL : NT ≤ nL := by
                    have := take_fits (singleP zs) mo hmo.1 HFIT.out
                    rw [hmS.out, hNT, hqq, ← hplL.out, List.length_map, HNL.out] at this
                    exact this
                  have HNT : Hid (takeN m = NT) := hNT
                  have zm2 : IntKind.i64.wrap (2 * (m : Int)) = 2 * (m : Int) := by rw [IntKind.wrap_i64]; omega
                  have zm3 : IntKind.i64.wrap (2 * (m : Int) - 2) = (NT : Int) := by rw [IntKind.wrap_i64]; omega
                  have hoR : w3.ownsRow w1.heap.size 3 1 (.slice (some ⟨w1.heap.size, 0, none⟩) n n) n (outL n []) := own_below hout belL
                  have hsy : ∀ c ∈ L, ∀ s ∈ c.syms, s < n := by
                    intro c hc s hs
                    rw [hnh.out]
                    exact level_syms zs q c.plain (by rw [← hplL.out]; exact List.mem_map_of_mem hc) s hs
                  have HSY : Hid _ := hsy
                  have hbd2 : ∀ c ∈ L, c.syms.length ≤ 16384 ∧ c.blk ≠ w1.heap.size := by
                    intro c hc
                    have h1 := hbdL.out c hc
                    exact ⟨Nat.le_trans h1.2.2.1 (Nat.le_trans (Nat.pow_le_pow_right (by omega) (show q ≤ 14 by omega)) (by decide)), h1.2.2.2⟩
                  have HBD : Hid _ := hbd2
                  have hgne : g1 ≠ w1.heap.size := by
                    intro e
                    rcases hoR.2 with ⟨h, _⟩ | ⟨g, cap, cur, h, _, hg, _⟩
                    · cases h
                    · injection h with h
                      injection h with h
                      injection h with h
                      subst h
                      exact own_ne hrowL.1 hg (by decide) (by rw [e]; rfl)
                  have bel4 := bstep bel2 belL
                  clear hNT hsy hbd2 hbdL hqq hrow2 hrowF HFCS hLcs hcs hout bel2 belL HOC hsm' hsm
                  go_wp2_with fail
                  go_loopg [17, 18] NT (fun kx s17 s18 W => ∃ (i' : Nat) (occ : List Nat), i' ≤ NT ∧ NT - i' ≤ kx ∧ s17 = .int .i64 i' ∧ w3.grownBy W (some w1.heap.size) ∧ W.ownsRow w1.heap.size 3 1 (.slice (some ⟨w1.heap.size, 0, none⟩) n n) n (outL n occ) ∧ occ.length ≤ i' * 16384 ∧ Hid (occ = (L.take i').flatMap Coin.syms))
                  case atStart => exact ⟨0, [], Nat.zero_le _, Nat.le_refl _, rfl, ⟨rfl, rfl, rfl, Nat.le_refl _, fun _ _ _ => rfl⟩, hoR, Nat.le_refl _, rfl⟩
                  case round =>
                    clear hoR
                    obtain ⟨W, rfl⟩ : ∃ x, x = wr := ⟨_, rfl⟩
                    obtain ⟨i', occ, hi', hkx2, rfl, hg, hoW, hol, hocc⟩ := hrel
                    by_cases hlt2 : i' < NT
                    · have hltz2 : (i' : Int) < (NT : Int) := by omega
                      have hiL : (i' : Int) < (nL : Int) := by omega
                      obtain ⟨c, hc⟩ : ∃ c, L[i']? = some c := ⟨_, List.getElem?_eq_getElem (by have := HNL.out; omega)⟩
                      have hcL : c ∈ L := List.mem_of_getElem? hc
                      have hcells3 := (RowI.cell hrowL (by rw [HNL.out]; omega))
                      obtain ⟨-, g1', hg1', -, hLc3⟩ := hcells3
                      have b1w := (hLc3 i' c hc).2
                      obtain rfl : g1 = g1' := by injection hg1' with h; injection h
                      have b1 : ∀ X : World, w3.grownBy X (some w1.heap.size) → X.cell? ⟨g1, i' * 2 + 1, none⟩ = some (.slice (some ⟨c.blk, 0, none⟩) c.syms.length c.cap) := fun X h => by
                        exact h.cell b1w (fun e => hgne (Option.some.inj e))
                      have HB1 : Hid _ := b1
                      have hsyc := hrowL.2 c hcL
                      obtain ⟨hcl, hcb⟩ := HBD.out c hcL
                      have hsl : ∀ s ∈ c.syms, s < n := HSY.out c hcL
                      have HSL : Hid _ := hsl
                      have hocc2 : Hid (occ ++ c.syms = (L.take (i' + 1)).flatMap Coin.syms) := by
                        show _ = _
                        rw [hocc.out, List.take_add_one, hc, List.flatMap_append]
                        simp
                      have x1 := b1 W hg
                      clear hc hcL hocc b1w hg1' hLc3 b1 hsl
                      go_wp2_with fail
                      go_loopg [18] c.syms.length (fun kx s18 X => ∃ (j : Nat) (occ2 : List Nat), j ≤ c.syms.length ∧ c.syms.length - j ≤ kx ∧ s18 = .int .i64 j ∧ w3.grownBy X (some w1.heap.size) ∧ X.ownsRow w1.heap.size 3 1 (.slice (some ⟨w1.heap.size, 0, none⟩) n n) n (outL n occ2) ∧ occ2.length ≤ i' * 16384 + j ∧ Hid (occ2 = occ ++ c.syms.take j))
                      case atStart => exact ⟨0, occ, Nat.zero_le _, Nat.le_refl _, rfl, hg, hoW, by omega, by show _ = _; simp⟩
                      case round =>
                        clear hoW hg x1
                        obtain ⟨X, rfl⟩ : ∃ x, x = wr := ⟨_, rfl⟩
                        obtain ⟨j, occ2, hj, hkx3, rfl, hg, hoX, hol2, hocc3⟩ := hrel
                        have x1 := HB1.out X hg
                        by_cases hlt3 : j < c.syms.length
                        · have hltz3 : (j : Int) < (c.syms.length : Int) := by omega
                          obtain ⟨s, hs⟩ : ∃ s, c.syms[j]? = some s := ⟨_, List.getElem?_eq_getElem hlt3⟩
                          have hsn : s < n := HSL.out s (List.mem_of_getElem? hs)
                          have hsyX : Syms w.heap.size X c := World.ownsRow.kept hsyc hg (.inr (fun e => hcb (Option.some.inj e)))
                          have x0 : X.cell? ⟨c.blk, j, none⟩ = some (.int .i64 (s : Int)) := by
                            have := World.ownsRow.cells hsyX rfl j (symV s) (by simp [hs])
                            rw [Addr.add_lit, Nat.zero_add] at this
                            exact this
                          have x3 : X.cell? ⟨w1.heap.size, s, none⟩ = some (.int .i64 (occ2.count s : Int)) := by
                            rw [hoX.cellAt s (by omega)]
                            unfold outL
                            rw [List.getElem?_map, counts_at occ2 hsn]
                            rfl
                          have x2 : X.frozen? ⟨w1.heap.size, s, none⟩ = false := hoX.frozenAt s
                          have hcnt : occ2.count s ≤ occ2.length := List.count_le_length
                          obtain ⟨st1, st2⟩ := hoX.stored s (.int .i64 ((occ2.count s : Int) + 1))
                          have hset : (outL n occ2).set s (.int .i64 ((occ2.count s : Int) + 1)) = outL n (occ2 ++ [s]) := by
                            unfold outL
                            rw [← counts_push, List.map_set]
                            rfl
                          rw [hset] at st1
                          have hocc4 : Hid (occ2 ++ [s] = occ ++ c.syms.take (j + 1)) := by
                            show _ = _
                            rw [hocc3.out, List.take_add_one, hs, List.append_assoc]
                            rfl
                          have hsz : (s : Int) < (n : Int) := by omega
                          obtain ⟨ct, hct⟩ : ∃ ct, occ2.count s = ct := ⟨_, rfl⟩
                          rw [hct] at x3 st1 st2 hcnt
                          have zc : IntKind.i64.wrap ((ct : Int) + 1) = (ct : Int) + 1 := by rw [IntKind.wrap_i64]; omega
                          have hg3 : w3.grownBy (X.setCell ⟨w1.heap.size, s, none⟩ (.int .i64 ((ct : Int) + 1))) (some w1.heap.size) := ⟨st2.os.trans hg.os, st2.tape.trans hg.tape, st2.output.trans hg.output, Nat.le_trans hg.size st2.size, fun k hk hkr => (st2.block k (Nat.lt_of_lt_of_le hk hg.size) hkr).trans (hg.block k hk hkr)⟩
                          have zj : IntKind.i64.wrap ((j : Int) + 1) = (j : Int) + 1 := by rw [IntKind.wrap_i64]; omega
                          clear hset hct hs hsyX hocc3 st2 hg hoX
                          go_wp2
                          go_roundg (c.syms.length - (j + 1))
                          case measure => omega
                          case rel => exact ⟨j + 1, occ2 ++ [s], hlt3, Nat.le_refl _, rfl, hg3, st1, by rw [List.length_append]; simp; omega, hocc4⟩
                        · have hltz3 : ¬ (j : Int) < (c.syms.length : Int) := by omega
                          have hocc4 : Hid (occ2 = (L.take (i' + 1)).flatMap Coin.syms) := by
                            show _ = _
                            rw [← hocc2.out, hocc3.out, List.take_of_length_le (by omega)]
                          clear hocc3 hocc2
                          have zq : IntKind.i64.wrap ((i' : Int) + 1) = (i' : Int) + 1 := by rw [IntKind.wrap_i64]; omega
                          go_wp2
                          go_roundg (NT - (i' + 1))
                          case measure => omega
                          case rel => exact ⟨i' + 1, occ2, hlt2, Nat.le_refl _, rfl, hg, hoX, by omega, hocc4⟩
                    · have hltz2 : ¬ (i' : Int) < (NT : Int) := by omega
                      have hfin : Hid (outL n occ = (lensP mo zs).map symV) := by
                        show _ = _
                        have hch : chosenP mo zs = occ := by
                          unfold chosenP
                          rw [hmS.out, HNT.out, hqmo'.out, ← hplL.out, hocc.out, show NT = i' by omega, ← List.map_take, List.flatMap_map]
                          rfl
                        rw [lensP_eq, hch, ← hnh.out]
                        rfl
                      have belF : RowKit.Below w.heap.size w W := bel4.grown hg bel4.size (fun k hk => by have e : w1.heap.size = k := Option.some.inj hk; rw [← e]; exact hw01.out)
                      rw [hfin.out] at hoW
                      have hoF := own_mono hoW hw01.out
                      clear hocc hplL hoW hg hrowL hfin
                      go_wp2
                      refine bodyPost_ret (v := .tuple #[.slice (some ⟨w1.heap.size, 0, none⟩) n n, .int .i64 0]) ?_ rfl ⟨belF, .inr ⟨HE.out, _, _, rfl, by rw [Int.toNat_natCast]; exact hoF⟩⟩
                      simp [results, Try.results16, go_sem]
end Go.Proofs.Ythgidcfgelpkhaa
