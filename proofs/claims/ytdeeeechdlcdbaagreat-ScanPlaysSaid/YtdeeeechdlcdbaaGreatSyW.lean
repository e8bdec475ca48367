/- The walk of ScanPlays. -/
import Derived.Test.YtdeeeechdlcdbaaGreatSyA
import Derived.Test.YtdeeeechdlcdbaaGreatLkX
import Derived.Test.YtdeeeechdlcdbaaGreatPhW
import Derived.Test.YtdeeeechdlcdbaaGreatTtN
import Derived.Test.YtdeeeechdlcdbaaGreatScS
import Derived.IntWalk
import Derived.Deep.QuietTactic
import Derived.BigQuiet
set_option linter.unusedVariables false
set_option linter.unusedSimpArgs false
namespace Go.Proofs.YtdeeeechdlcdbaaGreat.SyW
open Go Go.RowKit Go.Sort Go.Lib Go.Proofs Go.Proofs.YtdeeeechdlcdbaaGreat Go.Proofs.YtdeeeechdlcdbaaGreat.Base Go.Proofs.YtdeeeechdlcdbaaGreat.DiA Go.Proofs.YtdeeeechdlcdbaaGreat.DiB Go.Proofs.YtdeeeechdlcdbaaGreat.DiD Go.Proofs.YtdeeeechdlcdbaaGreat.TcP Go.Proofs.YtdeeeechdlcdbaaGreat.TrP Go.Proofs.YtdeeeechdlcdbaaGreat.TtN Go.Proofs.YtdeeeechdlcdbaaGreat.TtP Go.Proofs.YtdeeeechdlcdbaaGreat.LkM Go.Proofs.YtdeeeechdlcdbaaGreat.LkN Go.Proofs.YtdeeeechdlcdbaaGreat.LkP Go.Proofs.YtdeeeechdlcdbaaGreat.LkS Go.Proofs.YtdeeeechdlcdbaaGreat.LkX Go.Proofs.YtdeeeechdlcdbaaGreat.PhP Go.Proofs.YtdeeeechdlcdbaaGreat.PhW Go.Proofs.YtdeeeechdlcdbaaGreat.ScP Go.Proofs.YtdeeeechdlcdbaaGreat.ScS Go.Proofs.YtdeeeechdlcdbaaGreat.ScF Go.Proofs.YtdeeeechdlcdbaaGreat.ScE Go.Proofs.YtdeeeechdlcdbaaGreat.ScH Go.Proofs.YtdeeeechdlcdbaaGreat.ScX Go.Proofs.YtdeeeechdlcdbaaGreat.ScA Go.Proofs.YtdeeeechdlcdbaaGreat.RhA Go.Proofs.YtdeeeechdlcdbaaGreat.SyA
theorem strs_own {w : World} {B ln : Nat} {V : Option Addr} {c : Nat} {L : List ByteArray} (h : w.ownsRow B 9 1 (.slice V ln c) ln (L.map Value.string)) (hl : L.length = ln) : StrsAt w V L := by
  obtain ⟨V', c', e, hs⟩ := own_cells h hl
  injection e with e _ _
  rw [e]; exact hs
set_option maxRecDepth 20000 in
theorem law_few (A : Option Addr) (n cap : Nat) (P : Option Addr) (pn pc : Nat) (R : Option Addr) (rn rc : Nat) (w : World) (hf : Calls Tryz.prog 7 #[.slice A n cap] w fun e w' => e = .returned (.bool false) ∧ w' = w) :
    Calls Tryz.prog 4 #[.slice A n cap, .slice P pn pc, .slice R rn rc] w fun e w' => e = .returned (.bool true) ∧ Below w.heap.size w w' := by
  go_enter Tryz.func4, Tryz.ntmps4
  go_wp2_with fail
  refine hf.mono ?_
  rintro e w1 ⟨rfl, hw⟩
  rw [hw]
  clear hf hw
  go_wp2_with fail
  refine (ScX.alive_call _).mono ?_
  rintro e w2 ⟨rfl, b2⟩
  go_wp2_with fail
  go_ret
  exact ⟨rfl, b2⟩
set_option maxRecDepth 20000 in
theorem law_out (A : Option Addr) (n cap : Nat) (P : Option Addr) (pn pc : Nat) (R : Option Addr) (rn rc : Nat) (w : World) (hf : Calls Tryz.prog 7 #[.slice A n cap] w fun e w' => e = .returned (.bool true) ∧ w' = w) (hd0 : decide ((pn : Int) > 20) = true) :
    Calls Tryz.prog 4 #[.slice A n cap, .slice P pn pc, .slice R rn rc] w fun e w' => e = .returned (.bool true) ∧ Below w.heap.size w w' := by
  go_enter Tryz.func4, Tryz.ntmps4
  go_wp2_with fail
  refine hf.mono ?_
  rintro e w1 ⟨rfl, hw⟩
  rw [hw]
  clear hf hw
  go_wp2_with fail
  refine (ScX.alive_call _).mono ?_
  rintro e w2 ⟨rfl, b2⟩
  go_wp2_with fail
  go_ret
  exact ⟨rfl, b2⟩
set_option maxRecDepth 100000 in
set_option maxHeartbeats 8000000 in
theorem law_in (A : Option Addr) (n cap : Nat) (P : Option Addr) (pn pc : Nat) (R : Option Addr) (rn rc : Nat) (zs ps : List ByteArray) (Bo : Nat → Bool) (w : World) (hf : Calls Tryz.prog 7 #[.slice A n cap] w fun e w' => e = .returned (.bool true) ∧ w' = w)
    (hn : n = zs.length) (hat : StrsAt w A zs) (hn1 : n ≤ 110) (htot : total zs ≤ 1300) (hd0 : decide ((pn : Int) > 20) = false) (hpn : ps.length = pn) (hpat : StrsAt w P ps) (hrb : 0 < rn → ∃ b off, R = some ⟨b, off, none⟩ ∧ ∀ j, j < rn → w.cell? ⟨b, off + j, none⟩ = some (.bool (Bo j))) :
    Calls Tryz.prog 4 #[.slice A n cap, .slice P pn pc, .slice R rn rc] w fun e w' => e = .returned (.bool true) ∧ Below w.heap.size w w' := by
  have hnh : Hid (n = zs.length) := hn
  have hpnh : Hid (ps.length = pn) := hpn
  have hpath : Hid (StrsAt w P ps) := hpat
  have hrbh : Hid (0 < rn → ∃ b off, R = some ⟨b, off, none⟩ ∧ ∀ j, j < rn → w.cell? ⟨b, off + j, none⟩ = some (.bool (Bo j))) := hrb
  have hp20 : pn ≤ 20 := by have := of_decide_eq_false hd0; omega
  clear hn hpn hpat hrb
  go_enter Tryz.func4, Tryz.ntmps4
  go_wp2_with fail
  refine hf.mono ?_
  rintro e w1 ⟨rfl, hw⟩
  rw [hw]
  clear hf hw w1
  go_wp2_with fail
  refine (ScX.alive_call _).mono ?_
  rintro e w1 ⟨rfl, bel⟩
  have hat1 := hat.below bel
  go_wp2_with fail
  refine (phrases_any A n cap zs w1 hnh.out hat1 (by omega)).mono ?_
  rintro e w2 ⟨hph, hw⟩
  rw [hw]
  clear hw w2
  rcases hph with ⟨hok, rfl⟩ | ⟨hok, c0, c1, hc0, rfl⟩
  rotate_left
  · have hcd : (c0 != 0) = true := by simp [hc0]
    clear hat hat1 hok hd0
    go_wp2_with fail
    go_ret
    exact ⟨rfl, bel⟩
  have hokh : Hid (okD zs = true) := hok
  clear hok hat hd0
  go_wp2_with fail
  refine (LkX.lmake_any A n cap zs w1 hnh.out hat1 (by omega)).mono ?_
  rintro e w2 ⟨b2, ⟨hno, _⟩ | ⟨_, p, B, px, m, N, F, O, L, rfl, hl⟩⟩
  · rw [hokh.out] at hno; cases hno
  replace bel := bstep bel b2
  have hat2 : Hid (StrsAt w2 A zs) := hat1.below b2
  obtain ⟨X, hX⟩ : ∃ X, TrP.build zs zs.length = X := ⟨_, rfl⟩
  have hXh : Hid (TrP.build zs zs.length = X) := hX
  have hlx : Hid (Lx w2 p zs X) := by
    rw [← hX]
    refine ⟨⟨B, px, m, N, F, O, L, hl.at_, hl.eq, hl.ok, ?_⟩, tr_build hokh.out⟩
    have := hl.len; omega
  have belh : Hid (Below w.heap.size w w2) := bel
  have hXn : X.length ≤ 1301 := by rw [← hX, ← hl.eq, List.length_map]; have := hl.len; omega
  have cN := new_any hlx.out (Below.refl _ w2)
  clear hat1 b2 hl hX bel
  go_wp2_with fail
  refine cN.mono ?_
  rintro e w3 ⟨q, rfl, hq, S3, b3⟩
  have cD := nodes_any A n cap zs w3 hnh.out (hat2.out.below b3) hn1 htot
  rw [hXh.out] at cD
  have hqlt : Hid (q < w3.heap.size) := S3.lt
  clear cN
  go_wp2_with fail
  refine cD.mono ?_
  rintro e w4 ⟨v4, rfl, hr4, b4⟩
  have S4 := S3.below b4
  have hge4 := own_ge hr4
  obtain ⟨ln, hln⟩ : ∃ ln, (texts X).length = ln := ⟨_, rfl⟩
  have hlnh : Hid ((texts X).length = ln) := hln
  rw [hln] at hr4
  obtain ⟨V4, c4, rfl, _⟩ := own_form hr4
  have hVq : Hid ((Value.slice V4 ln c4).ownBlock ≠ some q) := fun e => by have := hge4 q e; have := hqlt.out; omega
  have hln1 : Hid (ln ≤ 1301) := by show _ ≤ _; rw [← hln, texts_length]; exact hXn
  have hqB : Hid (q < w4.heap.size) := Nat.lt_of_lt_of_le hqlt.out b4.size
  have h24 : Hid (w2.heap.size ≤ w4.heap.size) := Nat.le_trans b3.size b4.size
  clear cD b3 S3 hq hge4 hln hqlt
  have hbk := BkHits.Book.new (B0 := w4.heap.size) (B := w4.heap.size) (w := w4) (Nat.le_refl _)
  have b5 := balloc (Below.refl w4.heap.size w4) (.cells (BkHits.bookCells (.slice none 0 0) (.slice none 0 0)) 42)
  have S5 := S4.below b5
  have hr5 := own_below hr4 b5
  simp only [BkHits.bookCells] at hbk b5 S5 hr5
  clear S4 hr4 b4
  go_wp2_with fail
  go_loopw [12, 13, 51] (fun s12 s13 s51 wr => ∃ (i at_ : Nat) (wq : ByteArray) (ls : List BkHits.L), i ≤ pn ∧ s51 = .int .i64 (i : Int) ∧ s12 = .string wq ∧ s13 = .int .i64 (at_ : Int) ∧ wq.size ≤ 60 * i ∧ at_ ≤ 60 * i ∧ Hid (Sc w2 p q X wq.data.toList at_ wr) ∧ Hid (BkHits.Book w4.heap.size w4.heap.size wr w4.heap.size ls) ∧ ls.length ≤ i ∧ Hid (∀ x ∈ ls, x.2.length ≤ 1000000) ∧ Hid (wr.ownsRow w3.heap.size 9 1 (.slice V4 ln c4) ln ((texts X).map Value.string)) ∧ w4.heap.size ≤ wr.heap.size) (fun _ _ s51 _ => pn - (intOf s51).toNat)
  case atStart => exact ⟨0, 0, ⟨#[]⟩, [], Nat.zero_le _, rfl, rfl, rfl, Nat.zero_le _, Nat.zero_le _, S5, hbk, Nat.le_refl _, Lib.hid (fun x hx => by cases hx), hr5, b5.size⟩
  case round =>
    obtain ⟨i, at_, wq, ls, hi, rfl, rfl, rfl, hwq, ha, hS, hB, hls, hlen, hrow, hsz⟩ := hrel
    clear hbk b5 S5 hr5
    by_cases hlt : i < pn
    · have hid : decide ((i : Int) < (pn : Int)) = true := decide_eq_true (by omega)
      have hii : (i : Int) < (pn : Int) := by omega
      have zi : IntKind.i64.wrap ((i : Int) + 1) = (i : Int) + 1 := by rw [IntKind.wrap_i64]; omega
      have hxp : ∃ bP oP, P = some ⟨bP, oP, none⟩ ∧ w.cell? ⟨bP, oP + i, none⟩ = some (.string (ps.getD i ByteArray.empty)) := by
        obtain ⟨bP, oP, e, _, hc⟩ := hpath.out (by have := hpnh.out; omega)
        exact ⟨bP, oP, e, hc i (by have := hpnh.out; omega)⟩
      obtain ⟨bP, oP, rfl, hci0⟩ := hxp
      have belW : Below w.heap.size w wr := belh.out.trans (hS.out.bel.mono belh.out.size)
      have hci := pw_cell_below belW hci0
      obtain ⟨b, hb⟩ : ∃ b, ps.getD i ByteArray.empty = b := ⟨_, rfl⟩
      rw [hb] at hci
      have hrc : Hid (i < rn → ∃ b off, R = some ⟨b, off, none⟩ ∧ wr.cell? ⟨b, off + i, none⟩ = some (.bool (Bo i))) := fun h => by
        obtain ⟨b, off, e, hc⟩ := hrbh.out (by omega)
        exact ⟨b, off, e, pw_cell_below belW (hc i h)⟩
      have belWh : Hid (Below w.heap.size w wr) := belW
      clear hci0 hb belW
      by_cases h60 : b.size ≤ 60
      · have hg : decide ((b.size : Int) > 60) = false := decide_eq_false (by omega)
        have hg2 : decide (60 < b.size) = false := decide_eq_false (by omega)
        by_cases hir : i < rn
        · have hird : decide ((i : Int) < (rn : Int)) = true := decide_eq_true (by omega)
          have hirz : (i : Int) < (rn : Int) := by omega
          obtain ⟨bR, oR, rfl, hcr⟩ := hrc.out hir
          cases hbo : Bo i with
          | true =>
            rw [hbo] at hcr
            go_wp2_with fail
            refine (reset_any hlx.out hS.out).mono ?_
            rintro e w5 ⟨rfl, S5, T5⟩
            have hB5 : Hid (BkHits.Book w4.heap.size w4.heap.size w5 w4.heap.size ls) := book_twin hB.out T5 hqB.out
            have hrow5 : Hid (w5.ownsRow w3.heap.size 9 1 (.slice V4 ln c4) ln ((texts X).map Value.string)) := own_twin hrow.out T5 hVq.out
            have hsz5 := Nat.le_trans hsz T5.size
            clear hcr hird hirz T5
            obtain ⟨wq', hwq'⟩ : ∃ wq' : ByteArray, (⟨#[]⟩ : ByteArray) = wq' := ⟨_, rfl⟩
            have S5' : Sc w2 p q X wq'.data.toList 0 w5 := by rw [← hwq']; exact S5
            have hw0 : wq'.size ≤ 60 * i := by rw [← hwq']; exact Nat.zero_le _
            have hfc := feed_call hlx.out S5' b (by omega) (by omega)
            have hha : Hid (0 ≤ 60 * i) := by show _ ≤ _; omega
            have hhw : Hid (wq'.size ≤ 60 * i) := hw0
            obtain ⟨Fd, hFd⟩ : ∃ Fd, feedU zs wq'.data.toList 0 b.data.toList b.size = Fd := ⟨_, rfl⟩
            have hFdh : Hid (feedU zs wq'.data.toList 0 b.data.toList b.size = Fd) := hFd
            have hFl : Hid (Fd.length ≤ 2400) := by show _ ≤ _; rw [← hFd]; have := feedU_len (tr_build hokh.out) wq'.data.toList 0 b.data.toList b.size; omega
            rw [hFd] at hfc
            obtain ⟨fl, hfl⟩ : ∃ fl, Fd.length = fl := ⟨_, rfl⟩
            have hflh : Hid (Fd.length = fl) := hfl
            rw [hfl] at hfc
            clear hFd hfl
            go_wp2_with fail
            refine hfc.mono ?_
            rintro e w6 ⟨v6, rfl, hr6, S6, T6⟩
            have hr6' : BkHits.Row w5.heap.size w6 (v6, asI Fd) := row_of (by rw [hflh.out]; exact hr6)
            have hB6 : BkHits.Book w4.heap.size w4.heap.size w6 w4.heap.size ls := book_twin hB5.out T6 hqB.out
            have hrow6 : w6.ownsRow w3.heap.size 9 1 (.slice V4 ln c4) ln ((texts X).map Value.string) := own_twin hrow5.out T6 hVq.out
            have hsz6 : w4.heap.size ≤ w6.heap.size := Nat.le_trans hsz5 T6.size
            have hrB : BkHits.Row w4.heap.size w6 (v6, asI Fd) := BkHits.own_mono hr6' hsz5
            have hap : ∀ y ∈ ls, BkHits.Apt y.1 v6 := by
              obtain ⟨V0, W0, cs0, hb0⟩ := hB5.out
              intro y hy
              exact (BkHits.apt_new (x := (v6, asI Fd)) hr6' (own_lt (hb0.rows.own y hy))).symm
            obtain ⟨V6, c6, rfl, _⟩ := own_form hr6
            obtain ⟨V0, W0, cs0, hb0⟩ := hB6
            have cA := BkHits.add_call (x := (.slice V6 fl c6, asI Fd)) w6 hb0 (by omega) hrB hap (by show (asI Fd).length ≤ _; rw [asI_len]; have := hFl.out; omega) hsz6
            clear hfc hr6' hap hb0 T6
            go_wp2_with fail
            refine cA.mono ?_
            rintro e w7 ⟨rfl, hB7, hst7, b7⟩
            have S7 := sc_stays S6 hst7 (b7.mono h24.out)
            have hrow7 := hst7.row hrow6 (by decide) (by decide)
            have hr7 := hst7.row hr6 (by decide) (by decide)
            have hsz7 := Nat.le_trans hsz6 b7.size
            have cR := hits_call A n cap zs wq' b 0 w7 hnh.out (hat2.out.below S7.bel) (by omega) hlx.out.tr (by omega) (by omega) (by omega)
            rw [hFdh.out, hflh.out] at cR
            clear cA hst7 b7 hsz6 S6 hrow6 hr6 hrB
            go_wp2_with fail
            refine cR.mono ?_
            rintro e w8 ⟨v8, rfl, hr8, b8⟩
            have S8 := S7.below b8
            have hrow8 := own_below hrow7 b8
            have hB8 := hB7.below b8
            have hsz8 := Nat.le_trans hsz7 b8.size
            obtain ⟨V8, c8, ev, ht8⟩ := row_hits hr8 hflh.out.symm
            subst ev
            obtain ⟨V6', c6', ev, ht6⟩ := row_hits (own_below hr7 b8) hflh.out.symm
            injection ev with ev1 ev2 ev3
            rw [← ev1] at ht6
            clear ev1 ev2 ev3
            have hfl2 := hFl.out
            rw [hflh.out] at hfl2
            have cQ := same_hits V6 V8 fl fl c6 c8 Fd Fd w8 hflh.out.symm hflh.out.symm ht6 ht8 (by omega) (by omega)
            rw [decide_eq_true (show Fd = Fd from rfl)] at cQ
            clear cR b8 S7 hrow7 hB7 hsz7 hr7 hr8 ht6 ht8
            go_wp2_with fail
            refine cQ.mono ?_
            rintro e w9 ⟨rfl, b9⟩
            have S9 := S8.below b9
            have hrow9 := own_below hrow8 b9
            have hB9 := hB8.below b9
            have hsz9 := Nat.le_trans hsz8 b9.size
            have hlim : ¬ (9223372036854775807 < wq'.size + b.size) := by omega
            obtain ⟨wn, hwn⟩ : ∃ wn, wq' ++ b = wn := ⟨_, rfl⟩
            have hwl : wn.data.toList = wq'.data.toList ++ b.data.toList := by rw [← hwn, app_list]
            have hws : wn.size ≤ 60 * (i + 1) := by rw [← hwn, ByteArray.size_append]; omega
            have han2 : b.size ≤ 60 * (i + 1) := by omega
            rw [← hwl, Nat.zero_add] at S9
            have hanh : Hid (b.size ≤ 60 * (i + 1)) := han2
            have hwsh : Hid (wn.size ≤ 60 * (i + 1)) := hws
            have hS9 : Hid (Sc w2 p q X wn.data.toList b.size w9) := S9
            have cT := at_any S9
            have cK := node_any S9
            have e1 : ((b.size : Int) != (b.size : Int)) = false := by simp
            clear cQ b9 S8 hrow8 hB8 hsz8 hwl han2 hws
            go_wp2_with fail
            refine cT.mono ?_
            rintro e u ⟨rfl, hu⟩
            rw [hu]
            clear cT hu u
            go_wp2_with fail
            refine cK.mono ?_
            rintro e u ⟨⟨r, rfl, hr⟩, hu⟩
            rw [hu]
            have cL := longest_any V4 ln c4 hlx.out.tr.good wn wn.size w9 hlnh.out.symm (strs_own hrow9 hlnh.out) (by have := hln1.out; omega) (by have := hwsh.out; omega) (by have := hwsh.out; omega)
            clear cK hu u
            go_wp2_with fail
            refine cL.mono ?_
            rintro e u ⟨⟨r', rfl, hr'⟩, hu⟩
            rw [hu]
            have hrr : r' = r := by rw [size_list] at hr'; exact Lg.one hlx.out.tr.fine hr' hr
            subst hrr
            have e2 : ((r' : Int) != (r' : Int)) = false := by simp
            have cB := all_any hlx.out hS9.out.bel b (by omega)
            obtain ⟨Ge, hGe⟩ : ∃ Ge, feedU zs [] 0 b.data.toList b.size = Ge := ⟨_, rfl⟩
            have hGeh : Hid (feedU zs [] 0 b.data.toList b.size = Ge) := hGe
            have hGl : Hid (Ge.length ≤ 2400) := by show _ ≤ _; rw [← hGe]; have := feedU_len (tr_build hokh.out) [] 0 b.data.toList b.size; omega
            rw [hGe] at cB
            obtain ⟨gl, hgl⟩ : ∃ gl, Ge.length = gl := ⟨_, rfl⟩
            have hglh : Hid (Ge.length = gl) := hgl
            rw [hgl] at cB
            clear cL hu u hr hr' hGe hgl
            go_wp2_with fail
            refine cB.mono ?_
            rintro e x1 ⟨v1, rfl, hv1, d1⟩
            have cC := hits_call A n cap zs wq' b 0 x1 hnh.out (hat2.out.below (hS9.out.below d1).bel) (by omega) hlx.out.tr (by rw [← hwq']; show (0 : Nat) ≤ _; omega) (by omega) (by omega)
            rw [show (wq' : ByteArray).data.toList = [] from by rw [← hwq'], hGeh.out, hglh.out, show ((0 : Nat) : Int) = 0 from rfl] at cC
            obtain ⟨U1, k1, rfl, _⟩ := own_form hv1
            clear cB
            go_wp2_with fail
            refine cC.mono ?_
            rintro e x2 ⟨v2, rfl, hv2, d2⟩
            obtain ⟨U2, k2, ev, ht2⟩ := row_hits hv2 hglh.out.symm
            subst ev
            obtain ⟨U1', k1', ev, ht1⟩ := row_hits (own_below hv1 d2) hglh.out.symm
            injection ev with ev1 ev2 ev3
            rw [← ev1] at ht1
            clear ev1 ev2 ev3
            have hgl2 := hGl.out
            rw [hglh.out] at hgl2
            have cQ := same_hits U1 U2 gl gl k1 k2 Ge Ge x2 hglh.out.symm hglh.out.symm ht1 ht2 (by omega) (by omega)
            rw [decide_eq_true (show Ge = Ge from rfl)] at cQ
            have d12 := d1.trans (d2.mono d1.size)
            clear cC hv1 hv2 ht1 ht2 d1 d2
            go_wp2_with fail
            refine cQ.mono ?_
            rintro e x3 ⟨rfl, d3⟩
            have d13 := d12.trans (d3.mono d12.size)
            have SF : Hid (Sc w2 p q X wn.data.toList b.size x3) := hS9.out.below d13
            have BF : Hid (BkHits.Book w4.heap.size w4.heap.size x3 w4.heap.size (ls ++ [(.slice V6 fl c6, asI Fd)])) := hB9.below d13
            have RF : Hid (x3.ownsRow w3.heap.size 9 1 (.slice V4 ln c4) ln ((texts X).map Value.string)) := own_below hrow9 d13
            have ZF := Nat.le_trans hsz9 d13.size
            have LF : Hid (∀ x ∈ ls ++ [(Value.slice V6 fl c6, asI Fd)], x.2.length ≤ 1000000) := fun x hx => by
              rcases List.mem_append.1 hx with h | h
              · exact hlen.out x h
              · rw [List.mem_singleton.1 h]; show (asI Fd).length ≤ _; rw [asI_len]; have := hFl.out; omega
            clear cQ d12 d3 d13 hB9 hrow9 hsz9
            go_wp2_with fail
            go_roundw
            case rel => exact ⟨i + 1, b.size, wn, ls ++ [(.slice V6 fl c6, asI Fd)], hlt, by go_num, rfl, rfl, hwsh.out, hanh.out, SF, BF, by rw [List.length_append]; simp; omega, LF, RF, ZF⟩
            case measure => simp [intOf]; omega
          | false =>
            rw [hbo] at hcr
            go_wp2_with fail
            have hfc := feed_call hlx.out hS.out b (by omega) (by omega)
            have hha : Hid (at_ ≤ 60 * i) := by show _ ≤ _; omega
            have hhw : Hid (wq.size ≤ 60 * i) := hwq
            obtain ⟨Fd, hFd⟩ : ∃ Fd, feedU zs wq.data.toList at_ b.data.toList b.size = Fd := ⟨_, rfl⟩
            have hFdh : Hid (feedU zs wq.data.toList at_ b.data.toList b.size = Fd) := hFd
            have hFl : Hid (Fd.length ≤ 2400) := by show _ ≤ _; rw [← hFd]; have := feedU_len (tr_build hokh.out) wq.data.toList at_ b.data.toList b.size; omega
            rw [hFd] at hfc
            obtain ⟨fl, hfl⟩ : ∃ fl, Fd.length = fl := ⟨_, rfl⟩
            have hflh : Hid (Fd.length = fl) := hfl
            rw [hfl] at hfc
            clear hFd hfl
            go_wp2_with fail
            refine hfc.mono ?_
            rintro e w6 ⟨v6, rfl, hr6, S6, T6⟩
            have hr6' : BkHits.Row wr.heap.size w6 (v6, asI Fd) := row_of (by rw [hflh.out]; exact hr6)
            have hB6 : BkHits.Book w4.heap.size w4.heap.size w6 w4.heap.size ls := book_twin hB.out T6 hqB.out
            have hrow6 : w6.ownsRow w3.heap.size 9 1 (.slice V4 ln c4) ln ((texts X).map Value.string) := own_twin hrow.out T6 hVq.out
            have hsz6 : w4.heap.size ≤ w6.heap.size := Nat.le_trans hsz T6.size
            have hrB : BkHits.Row w4.heap.size w6 (v6, asI Fd) := BkHits.own_mono hr6' hsz
            have hap : ∀ y ∈ ls, BkHits.Apt y.1 v6 := by
              obtain ⟨V0, W0, cs0, hb0⟩ := hB.out
              intro y hy
              exact (BkHits.apt_new (x := (v6, asI Fd)) hr6' (own_lt (hb0.rows.own y hy))).symm
            obtain ⟨V6, c6, rfl, _⟩ := own_form hr6
            obtain ⟨V0, W0, cs0, hb0⟩ := hB6
            have cA := BkHits.add_call (x := (.slice V6 fl c6, asI Fd)) w6 hb0 (by omega) hrB hap (by show (asI Fd).length ≤ _; rw [asI_len]; have := hFl.out; omega) hsz6
            clear hfc hr6' hap hb0 T6
            go_wp2_with fail
            refine cA.mono ?_
            rintro e w7 ⟨rfl, hB7, hst7, b7⟩
            have S7 := sc_stays S6 hst7 (b7.mono h24.out)
            have hrow7 := hst7.row hrow6 (by decide) (by decide)
            have hr7 := hst7.row hr6 (by decide) (by decide)
            have hsz7 := Nat.le_trans hsz6 b7.size
            have cR := hits_call A n cap zs wq b at_ w7 hnh.out (hat2.out.below S7.bel) (by omega) hlx.out.tr (by omega) (by omega) (by omega)
            rw [hFdh.out, hflh.out] at cR
            clear cA hst7 b7 hsz6 S6 hrow6 hr6 hrB
            go_wp2_with fail
            refine cR.mono ?_
            rintro e w8 ⟨v8, rfl, hr8, b8⟩
            have S8 := S7.below b8
            have hrow8 := own_below hrow7 b8
            have hB8 := hB7.below b8
            have hsz8 := Nat.le_trans hsz7 b8.size
            obtain ⟨V8, c8, ev, ht8⟩ := row_hits hr8 hflh.out.symm
            subst ev
            obtain ⟨V6', c6', ev, ht6⟩ := row_hits (own_below hr7 b8) hflh.out.symm
            injection ev with ev1 ev2 ev3
            rw [← ev1] at ht6
            clear ev1 ev2 ev3
            have hfl2 := hFl.out
            rw [hflh.out] at hfl2
            have cQ := same_hits V6 V8 fl fl c6 c8 Fd Fd w8 hflh.out.symm hflh.out.symm ht6 ht8 (by omega) (by omega)
            rw [decide_eq_true (show Fd = Fd from rfl)] at cQ
            clear cR b8 S7 hrow7 hB7 hsz7 hr7 hr8 ht6 ht8
            go_wp2_with fail
            refine cQ.mono ?_
            rintro e w9 ⟨rfl, b9⟩
            have S9 := S8.below b9
            have hrow9 := own_below hrow8 b9
            have hB9 := hB8.below b9
            have hsz9 := Nat.le_trans hsz8 b9.size
            obtain ⟨an, han⟩ : ∃ an, at_ + b.size = an := ⟨_, rfl⟩
            have zan : IntKind.i64.wrap ((at_ : Int) + (b.size : Int)) = (an : Int) := by rw [IntKind.wrap_i64]; omega
            have hlim : ¬ (9223372036854775807 < wq.size + b.size) := by omega
            obtain ⟨wn, hwn⟩ : ∃ wn, wq ++ b = wn := ⟨_, rfl⟩
            have hwl : wn.data.toList = wq.data.toList ++ b.data.toList := by rw [← hwn, app_list]
            have hws : wn.size ≤ 60 * (i + 1) := by rw [← hwn, ByteArray.size_append]; omega
            have han2 : an ≤ 60 * (i + 1) := by omega
            rw [← hwl, han] at S9
            have hanh : Hid (an ≤ 60 * (i + 1)) := han2
            have hwsh : Hid (wn.size ≤ 60 * (i + 1)) := hws
            have hS9 : Hid (Sc w2 p q X wn.data.toList an w9) := S9
            have cT := at_any S9
            have cK := node_any S9
            have e1 : ((an : Int) != (an : Int)) = false := by simp
            clear cQ b9 S8 hrow8 hB8 hsz8 han hwl han2 hws
            go_wp2_with fail
            refine cT.mono ?_
            rintro e u ⟨rfl, hu⟩
            rw [hu]
            clear cT hu u
            go_wp2_with fail
            refine cK.mono ?_
            rintro e u ⟨⟨r, rfl, hr⟩, hu⟩
            rw [hu]
            have cL := longest_any V4 ln c4 hlx.out.tr.good wn wn.size w9 hlnh.out.symm (strs_own hrow9 hlnh.out) (by have := hln1.out; omega) (by have := hwsh.out; omega) (by have := hwsh.out; omega)
            clear cK hu u
            go_wp2_with fail
            refine cL.mono ?_
            rintro e u ⟨⟨r', rfl, hr'⟩, hu⟩
            rw [hu]
            have hrr : r' = r := by rw [size_list] at hr'; exact Lg.one hlx.out.tr.fine hr' hr
            subst hrr
            have e2 : ((r' : Int) != (r' : Int)) = false := by simp
            have cB := all_any hlx.out hS9.out.bel b (by omega)
            obtain ⟨Ge, hGe⟩ : ∃ Ge, feedU zs [] 0 b.data.toList b.size = Ge := ⟨_, rfl⟩
            have hGeh : Hid (feedU zs [] 0 b.data.toList b.size = Ge) := hGe
            have hGl : Hid (Ge.length ≤ 2400) := by show _ ≤ _; rw [← hGe]; have := feedU_len (tr_build hokh.out) [] 0 b.data.toList b.size; omega
            rw [hGe] at cB
            obtain ⟨gl, hgl⟩ : ∃ gl, Ge.length = gl := ⟨_, rfl⟩
            have hglh : Hid (Ge.length = gl) := hgl
            rw [hgl] at cB
            clear cL hu u hr hr' hGe hgl
            go_wp2_with fail
            refine cB.mono ?_
            rintro e x1 ⟨v1, rfl, hv1, d1⟩
            have cC := hits_call A n cap zs ⟨#[]⟩ b 0 x1 hnh.out (hat2.out.below (hS9.out.below d1).bel) (by omega) hlx.out.tr (by show (0 : Nat) ≤ _; omega) (by omega) (by omega)
            rw [show (⟨#[]⟩ : ByteArray).data.toList = [] from rfl, hGeh.out, hglh.out, show ((0 : Nat) : Int) = 0 from rfl] at cC
            obtain ⟨U1, k1, rfl, _⟩ := own_form hv1
            clear cB
            go_wp2_with fail
            refine cC.mono ?_
            rintro e x2 ⟨v2, rfl, hv2, d2⟩
            obtain ⟨U2, k2, ev, ht2⟩ := row_hits hv2 hglh.out.symm
            subst ev
            obtain ⟨U1', k1', ev, ht1⟩ := row_hits (own_below hv1 d2) hglh.out.symm
            injection ev with ev1 ev2 ev3
            rw [← ev1] at ht1
            clear ev1 ev2 ev3
            have hgl2 := hGl.out
            rw [hglh.out] at hgl2
            have cQ := same_hits U1 U2 gl gl k1 k2 Ge Ge x2 hglh.out.symm hglh.out.symm ht1 ht2 (by omega) (by omega)
            rw [decide_eq_true (show Ge = Ge from rfl)] at cQ
            have d12 := d1.trans (d2.mono d1.size)
            clear cC hv1 hv2 ht1 ht2 d1 d2
            go_wp2_with fail
            refine cQ.mono ?_
            rintro e x3 ⟨rfl, d3⟩
            have d13 := d12.trans (d3.mono d12.size)
            have SF : Hid (Sc w2 p q X wn.data.toList an x3) := hS9.out.below d13
            have BF : Hid (BkHits.Book w4.heap.size w4.heap.size x3 w4.heap.size (ls ++ [(.slice V6 fl c6, asI Fd)])) := hB9.below d13
            have RF : Hid (x3.ownsRow w3.heap.size 9 1 (.slice V4 ln c4) ln ((texts X).map Value.string)) := own_below hrow9 d13
            have ZF := Nat.le_trans hsz9 d13.size
            have LF : Hid (∀ x ∈ ls ++ [(Value.slice V6 fl c6, asI Fd)], x.2.length ≤ 1000000) := fun x hx => by
              rcases List.mem_append.1 hx with h | h
              · exact hlen.out x h
              · rw [List.mem_singleton.1 h]; show (asI Fd).length ≤ _; rw [asI_len]; have := hFl.out; omega
            clear cQ d12 d3 d13 hB9 hrow9 hsz9
            go_wp2_with fail
            go_roundw
            case rel => exact ⟨i + 1, an, wn, ls ++ [(.slice V6 fl c6, asI Fd)], hlt, by go_num, rfl, rfl, hwsh.out, hanh.out, SF, BF, by rw [List.length_append]; simp; omega, LF, RF, ZF⟩
            case measure => simp [intOf]; omega
        · have hird : decide ((i : Int) < (rn : Int)) = false := decide_eq_false (by omega)
          go_wp2_with fail
          have hfc := feed_call hlx.out hS.out b (by omega) (by omega)
          have hha : Hid (at_ ≤ 60 * i) := by show _ ≤ _; omega
          have hhw : Hid (wq.size ≤ 60 * i) := hwq
          obtain ⟨Fd, hFd⟩ : ∃ Fd, feedU zs wq.data.toList at_ b.data.toList b.size = Fd := ⟨_, rfl⟩
          have hFdh : Hid (feedU zs wq.data.toList at_ b.data.toList b.size = Fd) := hFd
          have hFl : Hid (Fd.length ≤ 2400) := by show _ ≤ _; rw [← hFd]; have := feedU_len (tr_build hokh.out) wq.data.toList at_ b.data.toList b.size; omega
          rw [hFd] at hfc
          obtain ⟨fl, hfl⟩ : ∃ fl, Fd.length = fl := ⟨_, rfl⟩
          have hflh : Hid (Fd.length = fl) := hfl
          rw [hfl] at hfc
          clear hFd hfl
          go_wp2_with fail
          refine hfc.mono ?_
          rintro e w6 ⟨v6, rfl, hr6, S6, T6⟩
          have hr6' : BkHits.Row wr.heap.size w6 (v6, asI Fd) := row_of (by rw [hflh.out]; exact hr6)
          have hB6 : BkHits.Book w4.heap.size w4.heap.size w6 w4.heap.size ls := book_twin hB.out T6 hqB.out
          have hrow6 : w6.ownsRow w3.heap.size 9 1 (.slice V4 ln c4) ln ((texts X).map Value.string) := own_twin hrow.out T6 hVq.out
          have hsz6 : w4.heap.size ≤ w6.heap.size := Nat.le_trans hsz T6.size
          have hrB : BkHits.Row w4.heap.size w6 (v6, asI Fd) := BkHits.own_mono hr6' hsz
          have hap : ∀ y ∈ ls, BkHits.Apt y.1 v6 := by
            obtain ⟨V0, W0, cs0, hb0⟩ := hB.out
            intro y hy
            exact (BkHits.apt_new (x := (v6, asI Fd)) hr6' (own_lt (hb0.rows.own y hy))).symm
          obtain ⟨V6, c6, rfl, _⟩ := own_form hr6
          obtain ⟨V0, W0, cs0, hb0⟩ := hB6
          have cA := BkHits.add_call (x := (.slice V6 fl c6, asI Fd)) w6 hb0 (by omega) hrB hap (by show (asI Fd).length ≤ _; rw [asI_len]; have := hFl.out; omega) hsz6
          clear hfc hr6' hap hb0 T6
          go_wp2_with fail
          refine cA.mono ?_
          rintro e w7 ⟨rfl, hB7, hst7, b7⟩
          have S7 := sc_stays S6 hst7 (b7.mono h24.out)
          have hrow7 := hst7.row hrow6 (by decide) (by decide)
          have hr7 := hst7.row hr6 (by decide) (by decide)
          have hsz7 := Nat.le_trans hsz6 b7.size
          have cR := hits_call A n cap zs wq b at_ w7 hnh.out (hat2.out.below S7.bel) (by omega) hlx.out.tr (by omega) (by omega) (by omega)
          rw [hFdh.out, hflh.out] at cR
          clear cA hst7 b7 hsz6 S6 hrow6 hr6 hrB
          go_wp2_with fail
          refine cR.mono ?_
          rintro e w8 ⟨v8, rfl, hr8, b8⟩
          have S8 := S7.below b8
          have hrow8 := own_below hrow7 b8
          have hB8 := hB7.below b8
          have hsz8 := Nat.le_trans hsz7 b8.size
          obtain ⟨V8, c8, ev, ht8⟩ := row_hits hr8 hflh.out.symm
          subst ev
          obtain ⟨V6', c6', ev, ht6⟩ := row_hits (own_below hr7 b8) hflh.out.symm
          injection ev with ev1 ev2 ev3
          rw [← ev1] at ht6
          clear ev1 ev2 ev3
          have hfl2 := hFl.out
          rw [hflh.out] at hfl2
          have cQ := same_hits V6 V8 fl fl c6 c8 Fd Fd w8 hflh.out.symm hflh.out.symm ht6 ht8 (by omega) (by omega)
          rw [decide_eq_true (show Fd = Fd from rfl)] at cQ
          clear cR b8 S7 hrow7 hB7 hsz7 hr7 hr8 ht6 ht8
          go_wp2_with fail
          refine cQ.mono ?_
          rintro e w9 ⟨rfl, b9⟩
          have S9 := S8.below b9
          have hrow9 := own_below hrow8 b9
          have hB9 := hB8.below b9
          have hsz9 := Nat.le_trans hsz8 b9.size
          obtain ⟨an, han⟩ : ∃ an, at_ + b.size = an := ⟨_, rfl⟩
          have zan : IntKind.i64.wrap ((at_ : Int) + (b.size : Int)) = (an : Int) := by rw [IntKind.wrap_i64]; omega
          have hlim : ¬ (9223372036854775807 < wq.size + b.size) := by omega
          obtain ⟨wn, hwn⟩ : ∃ wn, wq ++ b = wn := ⟨_, rfl⟩
          have hwl : wn.data.toList = wq.data.toList ++ b.data.toList := by rw [← hwn, app_list]
          have hws : wn.size ≤ 60 * (i + 1) := by rw [← hwn, ByteArray.size_append]; omega
          have han2 : an ≤ 60 * (i + 1) := by omega
          rw [← hwl, han] at S9
          have hanh : Hid (an ≤ 60 * (i + 1)) := han2
          have hwsh : Hid (wn.size ≤ 60 * (i + 1)) := hws
          have hS9 : Hid (Sc w2 p q X wn.data.toList an w9) := S9
          have cT := at_any S9
          have cK := node_any S9
          have e1 : ((an : Int) != (an : Int)) = false := by simp
          clear cQ b9 S8 hrow8 hB8 hsz8 han hwl han2 hws
          go_wp2_with fail
          refine cT.mono ?_
          rintro e u ⟨rfl, hu⟩
          rw [hu]
          clear cT hu u
          go_wp2_with fail
          refine cK.mono ?_
          rintro e u ⟨⟨r, rfl, hr⟩, hu⟩
          rw [hu]
          have cL := longest_any V4 ln c4 hlx.out.tr.good wn wn.size w9 hlnh.out.symm (strs_own hrow9 hlnh.out) (by have := hln1.out; omega) (by have := hwsh.out; omega) (by have := hwsh.out; omega)
          clear cK hu u
          go_wp2_with fail
          refine cL.mono ?_
          rintro e u ⟨⟨r', rfl, hr'⟩, hu⟩
          rw [hu]
          have hrr : r' = r := by rw [size_list] at hr'; exact Lg.one hlx.out.tr.fine hr' hr
          subst hrr
          have e2 : ((r' : Int) != (r' : Int)) = false := by simp
          have cB := all_any hlx.out hS9.out.bel b (by omega)
          obtain ⟨Ge, hGe⟩ : ∃ Ge, feedU zs [] 0 b.data.toList b.size = Ge := ⟨_, rfl⟩
          have hGeh : Hid (feedU zs [] 0 b.data.toList b.size = Ge) := hGe
          have hGl : Hid (Ge.length ≤ 2400) := by show _ ≤ _; rw [← hGe]; have := feedU_len (tr_build hokh.out) [] 0 b.data.toList b.size; omega
          rw [hGe] at cB
          obtain ⟨gl, hgl⟩ : ∃ gl, Ge.length = gl := ⟨_, rfl⟩
          have hglh : Hid (Ge.length = gl) := hgl
          rw [hgl] at cB
          clear cL hu u hr hr' hGe hgl
          go_wp2_with fail
          refine cB.mono ?_
          rintro e x1 ⟨v1, rfl, hv1, d1⟩
          have cC := hits_call A n cap zs ⟨#[]⟩ b 0 x1 hnh.out (hat2.out.below (hS9.out.below d1).bel) (by omega) hlx.out.tr (by show (0 : Nat) ≤ _; omega) (by omega) (by omega)
          rw [show (⟨#[]⟩ : ByteArray).data.toList = [] from rfl, hGeh.out, hglh.out, show ((0 : Nat) : Int) = 0 from rfl] at cC
          obtain ⟨U1, k1, rfl, _⟩ := own_form hv1
          clear cB
          go_wp2_with fail
          refine cC.mono ?_
          rintro e x2 ⟨v2, rfl, hv2, d2⟩
          obtain ⟨U2, k2, ev, ht2⟩ := row_hits hv2 hglh.out.symm
          subst ev
          obtain ⟨U1', k1', ev, ht1⟩ := row_hits (own_below hv1 d2) hglh.out.symm
          injection ev with ev1 ev2 ev3
          rw [← ev1] at ht1
          clear ev1 ev2 ev3
          have hgl2 := hGl.out
          rw [hglh.out] at hgl2
          have cQ := same_hits U1 U2 gl gl k1 k2 Ge Ge x2 hglh.out.symm hglh.out.symm ht1 ht2 (by omega) (by omega)
          rw [decide_eq_true (show Ge = Ge from rfl)] at cQ
          have d12 := d1.trans (d2.mono d1.size)
          clear cC hv1 hv2 ht1 ht2 d1 d2
          go_wp2_with fail
          refine cQ.mono ?_
          rintro e x3 ⟨rfl, d3⟩
          have d13 := d12.trans (d3.mono d12.size)
          have SF : Hid (Sc w2 p q X wn.data.toList an x3) := hS9.out.below d13
          have BF : Hid (BkHits.Book w4.heap.size w4.heap.size x3 w4.heap.size (ls ++ [(.slice V6 fl c6, asI Fd)])) := hB9.below d13
          have RF : Hid (x3.ownsRow w3.heap.size 9 1 (.slice V4 ln c4) ln ((texts X).map Value.string)) := own_below hrow9 d13
          have ZF := Nat.le_trans hsz9 d13.size
          have LF : Hid (∀ x ∈ ls ++ [(Value.slice V6 fl c6, asI Fd)], x.2.length ≤ 1000000) := fun x hx => by
            rcases List.mem_append.1 hx with h | h
            · exact hlen.out x h
            · rw [List.mem_singleton.1 h]; show (asI Fd).length ≤ _; rw [asI_len]; have := hFl.out; omega
          clear cQ d12 d3 d13 hB9 hrow9 hsz9
          go_wp2_with fail
          go_roundw
          case rel => exact ⟨i + 1, an, wn, ls ++ [(.slice V6 fl c6, asI Fd)], hlt, by go_num, rfl, rfl, hwsh.out, hanh.out, SF, BF, by rw [List.length_append]; simp; omega, LF, RF, ZF⟩
          case measure => simp [intOf]; omega
      · have hg : decide ((b.size : Int) > 60) = true := decide_eq_true (by omega)
        have hg2 : decide (60 < b.size) = true := decide_eq_true (by omega)
        go_wp2_with fail
        go_ret
        exact ⟨rfl, belWh.out⟩
    · have hid : decide ((i : Int) < (pn : Int)) = false := decide_eq_false (by omega)
      have hii : ¬ (i : Int) < (pn : Int) := by omega
      have belW : Below w.heap.size w wr := belh.out.trans (hS.out.bel.mono belh.out.size)
      have h24w : w.heap.size ≤ w4.heap.size := Nat.le_trans belh.out.size h24.out
      go_wp2_with fail
      refine (reset_nil wr).mono ?_
      rintro e u ⟨rfl, hu⟩
      rw [hu]
      clear hu u
      go_wp2_with fail
      refine (feed_nil ⟨#[97, 98]⟩ wr).mono ?_
      rintro e u ⟨rfl, hu⟩
      rw [hu]
      clear hu u
      go_wp2_with fail
      refine (at_nil wr).mono ?_
      rintro e u ⟨rfl, hu⟩
      rw [hu]
      clear hu u
      go_wp2_with fail
      refine (node_nil wr).mono ?_
      rintro e u ⟨rfl, hu⟩
      rw [hu]
      clear hu u
      go_wp2_with fail
      refine (all_nil ⟨#[97, 98]⟩ wr).mono ?_
      rintro e u ⟨rfl, hu⟩
      rw [hu]
      clear hu u
      go_wp2_with fail
      refine (BkHits.apart_call wr hB.out (by omega) hlen.out hsz).mono ?_
      rintro e w11 ⟨rfl, d11⟩
      have kE := belW.trans (d11.mono h24w)
      go_wp2_with fail
      go_ret
      exact ⟨rfl, kE⟩
end Go.Proofs.YtdeeeechdlcdbaaGreat.SyW
