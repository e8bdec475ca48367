/- The lengths of codes: the walk. -/
import Derived.Test.YthgidcfgelpkhaaLnB
import Derived.Test.YthgidcfgelpkhaaLnD
import Derived.Test.YthgidcfgelpkhaaLpB
import Derived.Deep.DeepCutAuto
import Derived.Laws.AppendOwnNone
set_option linter.unusedVariables false
set_option linter.unusedSimpArgs false
namespace Go.Proofs.Ythgidcfgelpkhaa
open Go Go.Shelf Go.RowKit Go.Lib Go.Sort Go.Proofs Go.Proofs.Ythgidcfgelpkhaa.Base

theorem RowC.mono {B B' : Nat} {w : World} {v : Value} {l : List Coin} (h : RowC B w v l) (hb : B' ≤ B) : RowC B' w v l := ⟨own_mono h.1 hb, fun c hc => own_mono (h.2 c hc) hb⟩
theorem RowC.src {B : Nat} {w : World} {A : Option Addr} {n c : Nat} {l : List Coin} (h : RowC B w (.slice A n c) l) : SrcC w A l ∧ n = l.length ∧ n ≤ c := by
  obtain ⟨V, cp, hv, hf⟩ := own_form h.1
  injection hv with h1 h2 h3
  subst h1 h2 h3
  refine ⟨⟨fun hn => ?_, fun c hc => own_mono (h.2 c hc) (Nat.zero_le _)⟩, rfl, ?_⟩
  · obtain ⟨g, hA, hlt, hc⟩ := hf hn
    exact ⟨g, 0, hA, fun j u hj => by rw [Nat.zero_add]; exact hc j u hj⟩
  · rcases h.1.2 with ⟨e, h0⟩ | ⟨g, cap, cur, e, _, _, hle, _⟩
    · omega
    · injection e with _ _ e3
      omega

/-- A copy of a row of coins. -/
theorem clone_call {B : Nat} {w : World} {v : Value} {l : List Coin} (h : RowC B w v l) (hl : l.length ≤ 100000) :
    Calls Try.prog 27 #[v] w fun e w' => ∃ v', e = .returned v' ∧ w'.ownsRow w.heap.size 54 2 v' l.length (l.flatMap encC) ∧ RowKit.Below w.heap.size w w' := by
  obtain ⟨i0, hi, hz0, hz1, hz2⟩ := info_parts info54
  rcases h.1.2 with ⟨rfl, h0⟩ | ⟨b, cap, cur, rfl, h2, h3, h4⟩
  · refine (AnyE.slices_Clone_nil Try.laysClone 0 0 w).mono ?_
    rintro e w' ⟨rfl, rfl⟩
    have hl0 : l = [] := List.eq_nil_of_length_eq_zero h0
    subst hl0
    exact ⟨_, rfl, World.ownsRow_nil _ _ _ _, Below.refl _ _⟩
  · have := AnyE.slices_Clone Try.laysClone i0 _ 2 32 hi hz0 hz1 hz2 rfl (by decide) Try.sizeOf54 b 0 l.length cap (l.flatMap encC) w (flat_len l) (by unfold maxLen; omega) (by omega)
      (fun j u hj => by rw [Nat.zero_add]; have := World.ownsRow.cells h.1 rfl j u hj; rw [Addr.add_lit, Nat.zero_add] at this; exact this) flat_one
    refine this.mono ?_
    rintro e w' ⟨v', rfl, ho, _, hb⟩
    exact ⟨v', rfl, ho, hb⟩

def outL (n : Nat) (occ : List Nat) : List Value := (counts n occ).map symV

set_option maxHeartbeats 16000000 in
set_option maxRecDepth 1000000 in
theorem of_fine (mo : Nat) (V : Option Addr) (n cap : Nat) (zs : List Int) (w : World) (hn : n = zs.length) (hat : IntsAt w V zs) (hle : n ≤ 356) (hmo : 1 ≤ mo ∧ mo ≤ 15) (hbad : badP zs = false) (hfit : (singleP zs).length ≤ 2 ^ mo) (herr : errP (mo : Int) zs = 0) :
    Calls Try.prog 15 #[.int .i64 mo, .slice V n cap] w fun e w' => ∃ A c, e = .returned (.tuple #[.slice A n c, .int .i64 0]) ∧ w'.ownsRow w.heap.size 3 1 (.slice A n c) n ((lensP mo zs).map symV) ∧ RowKit.Below w.heap.size w w' := by
  obtain ⟨i3, hi3, hy0, hy1, hy2⟩ := info_parts info3
  obtain ⟨i0, hi, hz0, hz1, hz2⟩ := info_parts info54
  have hnh : Hid (n = zs.length) := hn
  have hr : Hid (∀ z ∈ zs, z ≤ 1073741824) := badP_le hbad
  have hmay := may_call (mo : Int) V n cap zs w hn hat (by omega)
  rw [herr] at hmay
  have e29 : ∀ args w, (callFunc 29 args).run Try.prog w = .ok (.enter 29 args) w := enters_of Try.func29 (by kernel_rfl) rfl
  have e30 : ∀ args w, (callFunc 30 args).run Try.prog w = .ok (.enter 30 args) w := enters_of Try.func30 (by kernel_rfl) rfl
  clear hn herr hbad
  go_enter Try.func15, Try.ntmps15
  go_wp2_with fail
  refine hmay.mono ?_
  rintro e w1 ⟨rfl, bel1⟩
  have hat1 := hat.below bel1
  have hw01 : Hid (w.heap.size ≤ w1.heap.size) := bel1.size
  clear hmay hat
  go_wp2_with (first | (at_make; refine wpList_make_full _ rfl _ _ 22 rfl w1.heap.size 3 i3 (.int .i64 0) 1 Try.underlying22 hi3 hy0 hy1 .i64 .i64 _ _ n rfl rfl rfl rfl ?d1 ?d2 (Nat.le_refl _) ?_))
  case d1 => rw [hy2]; omega
  case d2 => unfold maxLen; omega
  intro w2 hout hg2
  have bel2' : RowKit.Below w1.heap.size w1 w2 := (Below.refl _ _).grown hg2 (Nat.le_refl _) (fun k hk => by cases hk)
  have hat2 := hat1.below bel2'
  have bel2 := bstep bel1 bel2'
  have hsing := single_call V n cap zs w2 hnh.out hat2 (by omega) hr.out
  clear hat1 hat2 hg2 bel2'
  go_wp2_with fail
  refine hsing.mono ?_
  rintro e w3 ⟨v8, l0, rfl, hrow0, hpl0, hsm0, bel3'⟩
  have hout3 := own_below hout bel3'
  have hw23 : Hid (w2.heap.size ≤ w3.heap.size) := bel3'.size
  have bel3 := bstep bel2 bel3'
  have hH0 : w1.heap.size < w2.heap.size := by
    rcases hout.2 with ⟨h, _⟩ | ⟨g, cap, cur, h, _, hg, _⟩
    · cases h
    · have := heap_lt hg
      injection h with h
      injection h with h
      injection h with h
      omega
  obtain ⟨m, hm⟩ : ∃ m, l0.length = m := ⟨_, rfl⟩
  have hmS : Hid ((singleP zs).length = m) := by show _ = _; rw [← hpl0, List.length_map, hm]
  obtain ⟨A8, c8, rfl, -⟩ := own_form hrow0.1
  rw [hm]
  have HM : Hid (l0.length = m) := hm
  have hm356 : m ≤ 356 := by have := singleP_le zs; rw [hmS.out, ← hnh.out] at this; omega
  rw [hm] at hrow0
  have z1 : IntKind.i64.wrap (2 * (m : Int)) = 2 * (m : Int) := by rw [IntKind.wrap_i64]; omega
  have z2 : IntKind.i64.wrap (2 * (m : Int) - 2) = 2 * (m : Int) - 2 := by rw [IntKind.wrap_i64]; omega
  obtain ⟨Nz, hNz⟩ : ∃ z : Int, z = if m = 1 then 1 else 2 * (m : Int) - 2 := ⟨_, rfl⟩
  have HNZ : Hid _ := hNz
  have hP0 : Hid (l0.map Coin.plain = singleP zs) := hpl0
  have hS0 : Hid (∀ c ∈ l0, c.n < 2147483648 ∧ c.syms.length = 1) := hsm0
  clear hsing bel3' hm hpl0 hsm0 hNz hout bel1 bel2
  go_upto_if 32 with fail
  go_cut [9] (fun s9 wx => s9 = .int .i64 Nz ∧ w3 = wx)
  case first =>
    by_cases hm1 : m = 1
    · have hd : ((m : Int) == 1) = true := by simp [hm1]
      have hfin : Hid (Value.int .i64 1 = .int .i64 Nz) := by show _ = _; rw [HNZ.out, if_pos hm1]
      clear hm1
      go_wp2_with fail
      go_meet
      case rel => exact ⟨hfin.out, rfl⟩
    · have hd : ((m : Int) == 1) = false := by simp; omega
      have hfin : Hid (Value.int .i64 (2 * (m : Int) - 2) = .int .i64 Nz) := by show _ = _; rw [HNZ.out, if_neg hm1]
      go_wp2_with fail
      go_meet
      case rel => exact ⟨hfin.out, rfl⟩
  case rest =>
  obtain ⟨rfl, rfl⟩ := hcut
  clear z1 z2
  have zmo : IntKind.i64.wrap ((mo : Int) - 1) = (mo : Int) - 1 := by rw [IntKind.wrap_i64]; omega
  go_wp2_with fail
  go_loopg [10, 36] (mo - 1) (fun kx s10 s36 wr => ∃ (k : Nat) (L : List Coin), k ≤ mo - 1 ∧ mo - 1 - k ≤ kx ∧ s36 = .int .i64 k ∧ RowC w2.heap.size wr s10 L ∧ RowKit.Below w3.heap.size w3 wr ∧ L.length ≤ 2 * m ∧ Hid (L.map Coin.plain = levelP (singleP zs) k) ∧ Hid (∀ c ∈ L, c.n < 2147483648 * 2 ^ k ∧ 0 < c.syms.length ∧ c.syms.length ≤ 2 ^ k))
  case atStart =>
    refine ⟨0, l0, Nat.zero_le _, by omega, rfl, by rw [← HM.out] at hrow0; rw [← HM.out]; exact hrow0, Below.refl _ _, by rw [HM.out]; omega, hP0, ?_⟩
    show ∀ c ∈ l0, _
    intro c hc
    obtain ⟨h1, h2⟩ := hS0.out c hc
    exact ⟨by omega, by omega, by omega⟩
  case round =>
    obtain ⟨k, L, hk, hkx, rfl, hrow, bel, hLm, hpl, hbd⟩ := hrel
    by_cases hlt : k < mo - 1
    · have hltz : (k : Int) < (mo : Int) - 1 := by omega
      have hfrow : RowC w2.heap.size wr (.slice A8 m c8) l0 := hrow0.below bel
      have hcl := clone_call hfrow (by rw [HM.out]; omega)
      rw [HM.out] at hcl
      clear hrow0 hout3 bel3
      go_wp2_with fail
      refine hcl.mono ?_
      rintro e wA ⟨vA, rfl, hoA, belA⟩
      clear hcl
      have hrowA := hrow.below belA
      have hfrowA := hfrow.below belA
      obtain ⟨A10, c10, rfl, -⟩ := own_form hrow.1
      obtain ⟨hsrc, hn1, hc1⟩ := hrowA.src
      obtain ⟨F, hF⟩ : ∃ F, 2 ^ k = F := ⟨_, rfl⟩
      have hF1 : F ≤ 16384 := by
        rw [← hF]
        exact Nat.le_trans (Nat.pow_le_pow_right (by omega) (show k ≤ 14 by omega)) (by decide)
      have hbd2 := hbd.out
      rw [hF] at hbd2
      have hpk := packages_call A10 L.length c10 (2147483648 * F) F L wA rfl hc1 hsrc (by omega) (by omega) (by omega) hbd2
      clear hsrc hbd hbd2 hfrow hrow
      go_wp2_with fail
      refine hpk.mono ?_
      rintro e wB ⟨vP, P, rfl, hrowP, hplP, hbdP, belB⟩
      clear hpk
      have hoB := own_below hoA belB
      have hfrowB := hfrowA.below belB
      have belAB := bstep belA belB
      have hsB := belAB.size
      have hP0' : Hid (P.map Coin.plain = packP (levelP (singleP zs) k)) := by show _ = _; rw [hplP, hpl.out]
      have hPl : P.length ≤ m := by
        have h1 : P.length = (packP (L.map Coin.plain)).length := by rw [← hplP, List.length_map]
        rw [packP_length, List.length_map] at h1
        omega
      have hbdP' : Hid (∀ c ∈ P, c.n < 2 * (2147483648 * F) ∧ 0 < c.syms.length ∧ c.syms.length ≤ 2 * F) := hbdP
      have HFF : Hid (2 ^ k = F) := hF
      clear hF hbdP hplP hfrowA hrowA hpl hLm hn1 hc1
      -- behind the append and the sort: what the next round wants
      have fin : ∀ (vC : Value) (wC : World), wC.ownsRow wr.heap.size 54 2 vC (m + P.length) (l0.flatMap encC ++ P.flatMap encC) → (∀ c ∈ l0 ++ P, Syms w2.heap.size wC c) → RowKit.Below wr.heap.size wr wC →
          Calls Try.prog 29 #[vC, .func (.func 30) #[] #[]] wC fun e w' => e = .returned (.tuple #[]) ∧ RowC w2.heap.size w' vC (sortedBy (ltOf cfC) (l0 ++ P)) ∧ RowKit.Below wr.heap.size wr w' := by
        intro vC wC ho hs hb
        have hle2 : w2.heap.size ≤ wr.heap.size := Nat.le_trans (by
          exact hw23.out) bel.size
        have hr' : RowC w2.heap.size wC vC (l0 ++ P) := ⟨own_mono (by rw [List.length_append, HM.out, List.flatMap_append]; exact ho) hle2, hs⟩
        refine (sort_row 30 closure30 e30 hr' (by rw [List.length_append, HM.out]; omega)).mono ?_
        rintro e w' ⟨rfl, h1, h2⟩
        exact ⟨rfl, h1, hb.grown h2 hb.size (own_ge ho)⟩
      have FIN : Aside _ := fin
      clear fin
      rcases hrowP.1.2 with ⟨rfl, hP00⟩ | ⟨gp, capP, curP, rfl, hgp1, hgp2, hgp3⟩
      · have hPnil : P = [] := List.eq_nil_of_length_eq_zero hP00
        subst hPnil
        have hoC : wB.ownsRow wr.heap.size 54 2 vA (m + ([] : List Coin).length) (l0.flatMap encC ++ ([] : List Coin).flatMap encC) := by simpa using hoB
        have hsC : ∀ c ∈ l0 ++ [], Syms w2.heap.size wB c := by rw [List.append_nil]; exact hfrowB.2
        have belC : RowKit.Below wr.heap.size wr wB := belAB
        clear hP00
        obtain ⟨VA, cA, rfl, -⟩ := own_form hoA
        go_wp2_with (first | (at_builtin; refine wpList_append_own_none rfl (.tmp 39) (.tmp 41) 50 rfl wr.heap.size 54 i0 2 Try.underlying50 hi _ m (l0.flatMap encC) rfl hoB rfl ?_))
        have hsort := FIN.out _ _ hoC hsC belC
        have hpl3 : Hid ((sortedBy (ltOf cfC) (l0 ++ [])).map Coin.plain = levelP (singleP zs) (k + 1)) := by
          show _ = _
          rw [sorted_plain, List.map_append, hP0.out, hP0'.out]
          rfl
        have hbd3 : Hid (∀ c ∈ sortedBy (ltOf cfC) (l0 ++ []), c.n < 2147483648 * 2 ^ (k + 1) ∧ 0 < c.syms.length ∧ c.syms.length ≤ 2 ^ (k + 1)) := by
          show ∀ c ∈ _, _
          intro c hc
          rw [mem_sortedBy, List.mem_append] at hc
          have hp2 : 2 ^ (k + 1) = 2 * F := by rw [Nat.pow_succ, HFF.out, Nat.mul_comm]
          have hF0 : 0 < F := by rw [← HFF.out]; exact Nat.pow_pos (by omega)
          rw [hp2]
          rcases hc with hc | hc
          · obtain ⟨h1, h2⟩ := hS0.out c hc
            exact ⟨by omega, by omega, by omega⟩
          · obtain ⟨h1, h2, h3⟩ := hbdP'.out c hc
            exact ⟨by omega, h2, h3⟩
        have hlen3 : (sortedBy (ltOf cfC) (l0 ++ [])).length ≤ 2 * m := by rw [sortedBy_length, List.length_append, HM.out]; omega
        generalize sortedBy (ltOf cfC) (l0 ++ []) = L3 at hsort hpl3 hbd3 hlen3
        clear hoC hsC belC hoB hfrowB hrowP belAB hsB belA belB hoA FIN hP0' hbdP'
        go_wp2_with fail
        refine hsort.mono ?_
        rintro e wD ⟨rfl, hrowD, belD⟩
        clear hsort
        have bel4 := bstep bel belD
        clear bel belD
        have zk : IntKind.i64.wrap ((k : Int) + 1) = (k : Int) + 1 := by rw [IntKind.wrap_i64]; omega
        go_wp2
        go_roundg (mo - 1 - (k + 1))
        case measure => omega
        case rel => exact ⟨k + 1, L3, by omega, by omega, rfl, hrowD, bel4, hlen3, hpl3, hbd3⟩
      · have hcP : ∀ j u, (P.flatMap encC)[j]? = some u → wB.cell? ((⟨gp, 0, none⟩ : Addr).add j) = some u := fun j u h => World.ownsRow.cells hrowP.1 rfl j u h
        have hfl := flat_len P
        have hf1 := flat_one (l := P)
        clear hgp1 hgp2 hgp3
        obtain ⟨VA, cA, rfl, -⟩ := own_form hoA
        go_wp2_with (first | (at_builtin; refine wpList_append_own _ rfl (.tmp 39) (.tmp 41) 50 rfl wr.heap.size 54 i0 _ 2 32 Try.underlying50 hi hz0 hz1 hz2 rfl (by decide) _ m (l0.flatMap encC) rfl hoB ⟨gp, 0, none⟩ P.length capP (P.flatMap encC) rfl hfl hcP hf1 ?d1 ?d2 hsB ?_))
        case d1 => unfold maxLen; omega
        case d2 => omega
        intro vC wC hoC hgC _
        have belC : RowKit.Below wr.heap.size wr wC := belAB.grown hgC hsB (own_ge hoA)
        have hsC : ∀ c ∈ l0 ++ P, Syms w2.heap.size wC c := by
          intro c hc
          rcases List.mem_append.1 hc with hc | hc
          · exact (hfrowB.2 c hc).kept hoB hgC
          · exact Syms.kept (own_mono (hrowP.2 c hc) (Nat.le_trans hw23.out (Nat.le_trans bel.size belA.size))) hoB hgC
        clear hcP hfl hf1 hgC
        have hsort := FIN.out _ _ hoC hsC belC
        have hpl3 : Hid ((sortedBy (ltOf cfC) (l0 ++ P)).map Coin.plain = levelP (singleP zs) (k + 1)) := by
          show _ = _
          rw [sorted_plain, List.map_append, hP0.out, hP0'.out]
          rfl
        have hbd3 : Hid (∀ c ∈ sortedBy (ltOf cfC) (l0 ++ P), c.n < 2147483648 * 2 ^ (k + 1) ∧ 0 < c.syms.length ∧ c.syms.length ≤ 2 ^ (k + 1)) := by
          show ∀ c ∈ _, _
          intro c hc
          rw [mem_sortedBy, List.mem_append] at hc
          have hp2 : 2 ^ (k + 1) = 2 * F := by rw [Nat.pow_succ, HFF.out, Nat.mul_comm]
          have hF0 : 0 < F := by rw [← HFF.out]; exact Nat.pow_pos (by omega)
          rw [hp2]
          rcases hc with hc | hc
          · obtain ⟨h1, h2⟩ := hS0.out c hc
            exact ⟨by omega, by omega, by omega⟩
          · obtain ⟨h1, h2, h3⟩ := hbdP'.out c hc
            exact ⟨by omega, h2, h3⟩
        have hlen3 : (sortedBy (ltOf cfC) (l0 ++ P)).length ≤ 2 * m := by rw [sortedBy_length, List.length_append, HM.out]; omega
        obtain ⟨VC, cC, rfl, -⟩ := own_form hoC
        generalize sortedBy (ltOf cfC) (l0 ++ P) = L3 at hsort hpl3 hbd3 hlen3
        clear hoC hsC belC hoB hfrowB hrowP belAB hsB belA belB hoA FIN hP0' hbdP'
        go_wp2_with fail
        refine hsort.mono ?_
        rintro e wD ⟨rfl, hrowD, belD⟩
        clear hsort
        have bel4 := bstep bel belD
        clear bel belD
        have zk : IntKind.i64.wrap ((k : Int) + 1) = (k : Int) + 1 := by rw [IntKind.wrap_i64]; omega
        go_wp2
        go_roundg (mo - 1 - (k + 1))
        case measure => omega
        case rel => exact ⟨k + 1, L3, by omega, by omega, rfl, hrowD, bel4, hlen3, hpl3, hbd3⟩
    · have hltz : ¬ (k : Int) < (mo : Int) - 1 := by omega
      obtain rfl : k = mo - 1 := by omega
      obtain ⟨N, hN⟩ : ∃ N, takeN m = N := ⟨_, rfl⟩
      have hNL : N ≤ L.length := by
        have := take_fits (singleP zs) mo hmo.1 hfit
        rw [hmS.out, hN, ← hpl.out, List.length_map] at this
        exact this
      have hmax : max Nz 0 = (N : Int) := by
        rw [HNZ.out, ← hN]
        unfold takeN
        split <;> omega
      have hNm : N ≤ 1000 := by omega
      have HN : Hid (takeN m = N) := hN
      obtain ⟨A10, c10, rfl, -⟩ := own_form hrow.1
      obtain ⟨-, -, hc10⟩ := hrow.src
      have hoR : wr.ownsRow w1.heap.size 3 1 (.slice (some ⟨w1.heap.size, 0, none⟩) n n) n (outL n []) := by
        have h := own_below hout3 bel
        have e : outL n [] = (madeCells #[Value.int .i64 0] n).toList := by
          unfold outL
          rw [counts_nil, List.map_replicate]
          exact (toList_madeCells_one _ n).symm
        rw [e]; exact h
      have bel4 := bstep bel3 bel
      have hsy : ∀ c ∈ L, ∀ s ∈ c.syms, s < n := by
        intro c hc s hs
        rw [hnh.out]
        exact level_syms zs (mo - 1) c.plain (by rw [← hpl.out]; exact List.mem_map_of_mem hc) s hs
      have HSY : Hid _ := hsy
      have hge : ∀ k, (Value.slice A10 L.length c10).ownBlock = some k → w1.heap.size < k := fun k hk => by have := own_ge hrow.1 k hk; omega
      have hbd2 : ∀ c ∈ L, c.syms.length ≤ 16384 := by
        intro c hc
        refine Nat.le_trans (hbd.out c hc).2.2 (Nat.le_trans (Nat.pow_le_pow_right (by omega) (show mo - 1 ≤ 14 by omega)) (by decide))
      have HBD : Hid _ := hbd2
      clear hrow0 hout3 bel3 hN hsy hbd2 hbd bel hP0 hS0
      obtain ⟨wf, rfl⟩ : ∃ x, x = wr := ⟨_, rfl⟩
      go_wp2_with fail
      go_loopg [51] N (fun kx s51 W => ∃ (q : Nat) (occ : List Nat), q ≤ N ∧ N - q ≤ kx ∧ s51 = .int .i64 q ∧ wf.grownBy W (some w1.heap.size) ∧ W.ownsRow w1.heap.size 3 1 (.slice (some ⟨w1.heap.size, 0, none⟩) n n) n (outL n occ) ∧ occ.length ≤ q * 16384 ∧ Hid (occ = (L.take q).flatMap Coin.syms))
      case atStart => exact ⟨0, [], Nat.zero_le _, Nat.le_refl _, rfl, ⟨rfl, rfl, rfl, Nat.le_refl _, fun _ _ _ => rfl⟩, hoR, Nat.le_refl _, rfl⟩
      case round =>
        clear hoR
        obtain ⟨W, rfl⟩ : ∃ x, x = wr := ⟨_, rfl⟩
        obtain ⟨q, occ, hq, hkx2, rfl, hg, hoW, hol, hocc⟩ := hrel
        by_cases hlt2 : q < N
        · have hltz2 : (q : Int) < (N : Int) := by omega
          obtain ⟨c, hc⟩ : ∃ c, L[q]? = some c := ⟨_, List.getElem?_eq_getElem (by omega)⟩
          have hcL : c ∈ L := List.mem_of_getElem? hc
          have hrowW : W.ownsRow w2.heap.size 54 2 (.slice A10 L.length c10) L.length (L.flatMap encC) := hrow.1.kept hg (.inr (fun e => by have := hge _ e; omega))
          obtain ⟨VV, cc, hV, hcells⟩ := own_form hrowW
          injection hV with hV1 hV2 hV3
          subst hV1 hV3
          obtain ⟨g10, rfl, hg10, hcell⟩ := hcells (by omega)
          have hbang : L[q]! = c := by rw [List.getElem!_eq_getElem?_getD, hc]; rfl
          have b0 : W.cell? ⟨g10, q * 2, none⟩ = some (.int .i64 (c.n : Int)) := hcell _ _ (by rw [flat_at L (q * 2) (by omega), show q * 2 / 2 = q by omega, show q * 2 % 2 = 0 by omega, hbang]; rfl)
          have b1 : W.cell? ⟨g10, q * 2 + 1, none⟩ = some c.sl := hcell _ _ (by rw [flat_at L (q * 2 + 1) (by omega), show (q * 2 + 1) / 2 = q by omega, show (q * 2 + 1) % 2 = 1 by omega, hbang]; rfl)
          unfold Coin.sl at b1
          have hsyc := hrow.2 c hcL
          have hcb : w1.heap.size < c.blk := by have := own_ge hsyc c.blk rfl; omega
          have hsl : ∀ s ∈ c.syms, s < n := HSY.out c hcL
          have hcl : c.syms.length ≤ 16384 := HBD.out c hcL
          have hocc2 : Hid (occ ++ c.syms = (L.take (q + 1)).flatMap Coin.syms) := by
            show _ = _
            rw [hocc.out, List.take_add_one, hc, List.flatMap_append]
            simp
          clear hcell hcells hbang hc hcL hrowW hocc
          have hg2 : ∀ o, wf.grownBy (W.alloc o) (some w1.heap.size) := fun o => ⟨hg.os, hg.tape, hg.output, Nat.le_trans hg.size (by simp), fun k hk hkr => by
            have h := hg.block k hk hkr
            rw [← h]
            show (W.heap.push o)[k]? = _
            rw [Array.getElem?_push, if_neg (by have := hg.size; omega)]⟩
          go_wp2_with fail
          go_loopg [58] c.syms.length (fun kx s58 X => ∃ (j : Nat) (occ2 : List Nat), j ≤ c.syms.length ∧ c.syms.length - j ≤ kx ∧ s58 = .int .i64 j ∧ wf.grownBy X (some w1.heap.size) ∧ X.ownsRow w1.heap.size 3 1 (.slice (some ⟨w1.heap.size, 0, none⟩) n n) n (outL n occ2) ∧ occ2.length ≤ q * 16384 + j ∧ Hid (occ2 = occ ++ c.syms.take j))
          case atStart => exact ⟨0, occ, Nat.zero_le _, Nat.le_refl _, rfl, hg2 _, hoW.alloc _, by omega, by show _ = _; simp⟩
          case round =>
            clear hoW hg hg2 b0 b1
            obtain ⟨X, rfl⟩ : ∃ x, x = wr := ⟨_, rfl⟩
            obtain ⟨j, occ2, hj, hkx3, rfl, hg, hoX, hol2, hocc3⟩ := hrel
            by_cases hlt3 : j < c.syms.length
            · have hltz3 : (j : Int) < (c.syms.length : Int) := by omega
              obtain ⟨s, hs⟩ : ∃ s, c.syms[j]? = some s := ⟨_, List.getElem?_eq_getElem hlt3⟩
              have hsn : s < n := hsl s (List.mem_of_getElem? hs)
              have hsyX : Syms w2.heap.size X c := World.ownsRow.kept hsyc hg (.inr (fun e => by have e : c.blk = w1.heap.size := Option.some.inj e; omega))
              have x0 : X.cell? ⟨c.blk, j, none⟩ = some (.int .i64 (s : Int)) := by
                have := World.ownsRow.cells hsyX rfl j (symV s) (by simp [hs])
                rw [Addr.add_lit, Nat.zero_add] at this
                exact this
              have x1 : X.cell? ⟨w1.heap.size, s, none⟩ = some (.int .i64 (occ2.count s : Int)) := by
                rw [hoX.cellAt s (by omega)]
                unfold outL
                rw [List.getElem?_map, counts_at occ2 hsn]
                rfl
              have x2 : X.frozen? ⟨w1.heap.size, s, none⟩ = false := hoX.frozenAt s
              have hcnt : occ2.count s ≤ occ2.length := List.count_le_length
              obtain ⟨st1, st2⟩ := hoX.stored s (.int .i64 ((occ2.count s : Int) + 1))
              have hset : (outL n occ2).set s (.int .i64 ((occ2.count s : Int) + 1)) = outL n (occ2 ++ [s]) := by
                unfold outL
                rw [← counts_push, List.map_set]
                rfl
              rw [hset] at st1
              have hocc4 : Hid (occ2 ++ [s] = occ ++ c.syms.take (j + 1)) := by
                show _ = _
                rw [hocc3.out, List.take_add_one, hs, List.append_assoc]
                rfl
              have hsz : (s : Int) < (n : Int) := by omega
              obtain ⟨ct, hct⟩ : ∃ ct, occ2.count s = ct := ⟨_, rfl⟩
              rw [hct] at x1 st1 st2 hcnt
              have zc : IntKind.i64.wrap ((ct : Int) + 1) = (ct : Int) + 1 := by rw [IntKind.wrap_i64]; omega
              have hg3 : wf.grownBy (X.setCell ⟨w1.heap.size, s, none⟩ (.int .i64 ((ct : Int) + 1))) (some w1.heap.size) := ⟨st2.os.trans hg.os, st2.tape.trans hg.tape, st2.output.trans hg.output, Nat.le_trans hg.size st2.size, fun k hk hkr => (st2.block k (Nat.lt_of_lt_of_le hk hg.size) hkr).trans (hg.block k hk hkr)⟩
              clear hset hct hs hsyX hocc3 st2 hg hoX
              go_wp2
              go_roundg (c.syms.length - (j + 1))
              case measure => omega
              case rel => exact ⟨j + 1, occ2 ++ [s], hlt3, Nat.le_refl _, rfl, hg3, st1, by rw [List.length_append]; simp; omega, hocc4⟩
            · have hltz3 : ¬ (j : Int) < (c.syms.length : Int) := by omega
              have hocc4 : Hid (occ2 = (L.take (q + 1)).flatMap Coin.syms) := by
                show _ = _
                rw [← hocc2.out, hocc3.out, List.take_of_length_le (by omega)]
              clear hocc3 hocc2
              have zq : IntKind.i64.wrap ((q : Int) + 1) = (q : Int) + 1 := by rw [IntKind.wrap_i64]; omega
              go_wp2
              go_roundg (N - (q + 1))
              case measure => omega
              case rel => exact ⟨q + 1, occ2, hlt2, Nat.le_refl _, rfl, hg, hoX, by omega, hocc4⟩
        · have hltz2 : ¬ (q : Int) < (N : Int) := by omega
          have hfin : Hid (outL n occ = (lensP mo zs).map symV) := by
            show _ = _
            have hch : chosenP mo zs = occ := by
              unfold chosenP
              rw [hmS.out, HN.out, ← hpl.out, hocc.out, show N = q by omega, ← List.map_take, List.flatMap_map]
              rfl
            rw [lensP_eq, hch, ← hnh.out]
            rfl
          have belF : RowKit.Below w.heap.size w W := bel4.grown hg bel4.size (fun k hk => by have e : w1.heap.size = k := Option.some.inj hk; rw [← e]; exact hw01.out)
          rw [hfin.out] at hoW
          have hoF := own_mono hoW hw01.out
          clear hocc hpl hoW hg
          go_wp2
          refine bodyPost_ret (v := .tuple #[.slice (some ⟨w1.heap.size, 0, none⟩) n n, .int .i64 0]) ?_ rfl ⟨_, _, rfl, hoF, belF⟩
          simp [results, Try.results15, go_sem]

/-- Behind Of. -/
def OfPost (w : World) (n : Nat) (mo : Int) (zs : List Int) (e : Ending) (w' : World) : Prop := RowKit.Below w.heap.size w w' ∧
  ((errP mo zs ≠ 0 ∧ e = .returned (.tuple #[.slice none 0 0, .int .i64 (errP mo zs : Int)])) ∨
   (errP mo zs = 0 ∧ ∃ A c, e = .returned (.tuple #[.slice A n c, .int .i64 0]) ∧ w'.ownsRow w.heap.size 3 1 (.slice A n c) n ((lensP mo.toNat zs).map symV)))
set_option maxHeartbeats 1000000 in
theorem of_call (mo : Int) (V : Option Addr) (n cap : Nat) (zs : List Int) (w : World) (hn : n = zs.length) (hat : IntsAt w V zs) (hle : n ≤ 140737488351232) :
    Calls Try.prog 15 #[.int .i64 mo, .slice V n cap] w fun e w' => OfPost w n mo zs e w' := by
  by_cases he : errP mo zs = 0
  · have hsh := he
    unfold errP at hsh
    by_cases h1 : ((decide (mo < 1) || decide (mo > 15)) || badP zs) = true
    · rw [if_pos h1] at hsh; cases hsh
    · rw [if_neg h1] at hsh
      by_cases h2 : (decide (zs.length > 356) || decide ((singleP zs).length > 2 ^ mo.toNat)) = true
      · rw [if_pos h2] at hsh; cases hsh
      · simp only [Bool.or_eq_true, decide_eq_true_eq, not_or] at h1 h2
        obtain ⟨m, rfl⟩ : ∃ m : Nat, mo = (m : Int) := ⟨mo.toNat, by omega⟩
        refine (of_fine m V n cap zs w hn hat (by omega) (by omega) (by simpa using h1.2) (by have := h2.2; rw [show ((m : Int)).toNat = m by omega] at this; omega) he).mono ?_
        rintro e w' ⟨A, c, rfl, ho, hb⟩
        exact ⟨hb, .inr ⟨he, A, c, rfl, ho⟩⟩
  · have hmay := may_call mo V n cap zs w hn hat hle
    have hd : ((errP mo zs : Int) != 0) = true := by simp; omega
    obtain ⟨E, hE⟩ : ∃ E, errP mo zs = E := ⟨_, rfl⟩
    rw [hE] at hmay hd
    have HE : Hid (errP mo zs = E) := hE
    have HN0 : Hid (errP mo zs ≠ 0) := he
    clear hE he hn
    go_enter Try.func15, Try.ntmps15
    go_wp2_with fail
    refine hmay.mono ?_
    rintro e w1 ⟨rfl, bel⟩
    clear hmay hat
    go_wp2
    refine bodyPost_ret (v := .tuple #[.slice none 0 0, .int .i64 (E : Int)]) ?_ rfl ⟨bel, .inl ⟨HN0.out, by rw [HE.out]⟩⟩
    simp [results, Try.results15, go_sem]
end Go.Proofs.Ythgidcfgelpkhaa
