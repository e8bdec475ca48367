/- The walk of HitsTells. -/
import Derived.Test.YtdeeeechdlcdbaaGreatHtA
import Derived.Test.YtdeeeechdlcdbaaGreatHiM
import Derived.Test.YtdeeeechdlcdbaaGreatHiL
import Derived.Test.YtdeeeechdlcdbaaGreatLkX
import Derived.Test.YtdeeeechdlcdbaaGreatPhW
import Derived.IntWalk
import Derived.Deep.QuietTactic
import Derived.BigQuiet
set_option linter.unusedVariables false
set_option linter.unusedSimpArgs false
namespace Go.Proofs.YtdeeeechdlcdbaaGreat.HtW
open Go Go.RowKit Go.Sort Go.Lib Go.Proofs Go.Proofs.YtdeeeechdlcdbaaGreat Go.Proofs.YtdeeeechdlcdbaaGreat.Base Go.Proofs.YtdeeeechdlcdbaaGreat.DiA Go.Proofs.YtdeeeechdlcdbaaGreat.DiB Go.Proofs.YtdeeeechdlcdbaaGreat.DiD Go.Proofs.YtdeeeechdlcdbaaGreat.TcP Go.Proofs.YtdeeeechdlcdbaaGreat.LkM Go.Proofs.YtdeeeechdlcdbaaGreat.LkN Go.Proofs.YtdeeeechdlcdbaaGreat.LkS Go.Proofs.YtdeeeechdlcdbaaGreat.PhP Go.Proofs.YtdeeeechdlcdbaaGreat.PhW Go.Proofs.YtdeeeechdlcdbaaGreat.ScP Go.Proofs.YtdeeeechdlcdbaaGreat.ScF Go.Proofs.YtdeeeechdlcdbaaGreat.ScE Go.Proofs.YtdeeeechdlcdbaaGreat.ScH Go.Proofs.YtdeeeechdlcdbaaGreat.ScX Go.Proofs.YtdeeeechdlcdbaaGreat.ScA Go.Proofs.YtdeeeechdlcdbaaGreat.ScN Go.Proofs.YtdeeeechdlcdbaaGreat.RwA Go.Proofs.YtdeeeechdlcdbaaGreat.HiP Go.Proofs.YtdeeeechdlcdbaaGreat.HiQ Go.Proofs.YtdeeeechdlcdbaaGreat.HiA Go.Proofs.YtdeeeechdlcdbaaGreat.HiB Go.Proofs.YtdeeeechdlcdbaaGreat.HiW Go.Proofs.YtdeeeechdlcdbaaGreat.HiL Go.Proofs.YtdeeeechdlcdbaaGreat.HiM Go.Proofs.YtdeeeechdlcdbaaGreat.HiV Go.Proofs.YtdeeeechdlcdbaaGreat.HtA Go.Proofs.YtdeeeechdlcdbaaGreat.StaA
theorem szk_le {zs : List ByteArray} (h : okD zs = true) (k : Nat) : szk zs k ≤ 1000 := by
  rcases Nat.lt_or_ge k zs.length with hk | hk
  · have := (okD_at h hk).2.1
    unfold szk; omega
  · rw [szk_none hk]; omega
theorem eH (b : ByteArray) (zs : List ByteArray) : feedU zs [] 0 b.data.toList b.size = hitsL zs b.data.toList := by unfold hitsL; rw [← size_list]
theorem longest_nil (b : ByteArray) (j : Nat) (w : World) (hj : j < b.size) (hb : b.size ≤ 100000) : Calls Tryz.prog 48 #[.pointer none, .string b, .int .i64 (j : Int)] w fun e w' => e = .returned (.tuple #[.int .i64 (-1), .int .i64 0]) ∧ Below w.heap.size w w' := by
  refine (longest_in (Bd := 0) (zs := []) b (.inl ⟨rfl, rfl⟩) (fun k hk => absurd hk (Nat.not_lt_zero _)) (fun k => by rw [szk_none (Nat.zero_le _)]; decide) (Nat.zero_le _) hb hj).mono ?_
  rintro e w' ⟨h1, id, long, rfl, hL⟩
  rcases hL with ⟨rfl, rfl, _⟩ | ⟨k, hk, _⟩
  · exact ⟨rfl, h1⟩
  · exact absurd hk (Nat.not_lt_zero _)
theorem hin_of {w : World} {A : Option Addr} {H : List (Nat × Nat)} (h : HAt w A H) : HIn w A (HiQ.asInt H) := by
  intro hn
  have hl : (HiQ.asInt H).length = H.length := by unfold HiQ.asInt; exact List.length_map _
  obtain ⟨b, off, h1, h2, h3⟩ := h (by omega)
  refine ⟨b, off, h1, h2, fun j hj => ?_⟩
  have h4 := h3 j (by omega)
  have e : (HiQ.asInt H).getD j (0, 0) = (((H.getD j (0, 0)).1 : Int), ((H.getD j (0, 0)).2 : Int)) := by
    unfold HiQ.asInt
    rw [List.getD_eq_getElem?_getD, List.getElem?_map, List.getD_eq_getElem?_getD, List.getElem?_eq_getElem (by omega)]; rfl
  rw [e]; exact h4
set_option maxRecDepth 20000 in
theorem law_few (A : Option Addr) (n cap : Nat) (b : ByteArray) (k0 : Int) (w : World) (hf : Calls Tryz.prog 7 #[.slice A n cap] w fun e w' => e = .returned (.bool false) ∧ w' = w) :
    Calls Tryz.prog 6 #[.slice A n cap, .string b, .int .i64 k0] w fun e w' => e = .returned (.bool true) ∧ Below w.heap.size w w' := by
  go_enter Tryz.func6, Tryz.ntmps6
  go_wp2_with fail
  refine hf.mono ?_
  rintro e w1 ⟨rfl, hw⟩
  rw [hw]
  clear hf hw
  go_wp2_with fail
  refine (HiV.alive_call _).mono ?_
  rintro e w2 ⟨rfl, b2⟩
  go_wp2_with fail
  go_ret
  exact ⟨rfl, b2⟩
set_option maxRecDepth 20000 in
theorem law_out (A : Option Addr) (n cap : Nat) (b : ByteArray) (k0 : Int) (w : World) (hf : Calls Tryz.prog 7 #[.slice A n cap] w fun e w' => e = .returned (.bool true) ∧ w' = w) (hd0 : decide ((b.size : Int) > 150) = true) :
    Calls Tryz.prog 6 #[.slice A n cap, .string b, .int .i64 k0] w fun e w' => e = .returned (.bool true) ∧ Below w.heap.size w w' := by
  go_enter Tryz.func6, Tryz.ntmps6
  go_wp2_with fail
  refine hf.mono ?_
  rintro e w1 ⟨rfl, hw⟩
  rw [hw]
  clear hf hw
  go_wp2_with fail
  refine (HiV.alive_call _).mono ?_
  rintro e w2 ⟨rfl, b2⟩
  go_wp2_with fail
  go_ret
  exact ⟨rfl, b2⟩
set_option maxRecDepth 100000 in
set_option maxHeartbeats 8000000 in
theorem law_in (A : Option Addr) (n cap : Nat) (zs : List ByteArray) (b : ByteArray) (k0 : Int) (w : World) (hf : Calls Tryz.prog 7 #[.slice A n cap] w fun e w' => e = .returned (.bool true) ∧ w' = w)
    (hn : n = zs.length) (hat : StrsAt w A zs) (hn1 : n ≤ 110) (htot : total zs ≤ 1300) (hd0 : decide ((b.size : Int) > 150) = false) :
    Calls Tryz.prog 6 #[.slice A n cap, .string b, .int .i64 k0] w fun e w' => e = .returned (.bool true) ∧ Below w.heap.size w w' := by
  have hnh : Hid (n = zs.length) := hn
  clear hn
  go_enter Tryz.func6, Tryz.ntmps6
  go_wp2_with fail
  refine hf.mono ?_
  rintro e w1 ⟨rfl, hw⟩
  rw [hw]
  clear hf hw w1
  go_wp2_with fail
  refine (HiV.alive_call _).mono ?_
  rintro e w1 ⟨rfl, bel⟩
  have hat1 := hat.below bel
  go_wp2_with fail
  refine (phrases_any A n cap zs w1 hnh.out hat1 (by omega)).mono ?_
  rintro e w2 ⟨hph, hw⟩
  rw [hw]
  clear hw w2
  rcases hph with ⟨hok, rfl⟩ | ⟨hok, c0, c1, hc0, rfl⟩
  rotate_left
  · have hcd : (c0 != 0) = true := by simp [hc0]
    clear hat hat1 hok
    go_wp2_with fail
    go_ret
    exact ⟨rfl, bel⟩
  go_wp2_with fail
  refine (make_any A n cap zs w1 hnh.out hat1 (by omega)).mono ?_
  rintro e w2 ⟨b2, ⟨hno, rfl⟩ | ⟨_, p, rfl, _, hdict⟩⟩
  · rw [hok] at hno; cases hno
  replace bel := bstep bel b2
  have hat2 := hat1.below b2
  have hD : Hid (DV w1.heap.size w2 (.pointer (some ⟨p, 0, none⟩)) zs) := Lib.hid (.inr ⟨p, rfl, hdict⟩)
  have hokh : Hid (okD zs = true) := hok
  have hp : Hid (∀ k, k < zs.length → 1 ≤ szk zs k) := szk_pos hok
  have hs : Hid (∀ k, szk zs k ≤ 1000) := szk_le hok
  have hz : Hid (zs.length ≤ 1000) := Nat.le_trans (okD_len hok) (by decide)
  clear hat hat1 hok b2 hdict
  obtain ⟨bn, hbn⟩ : ∃ bn, b.size = bn := ⟨_, rfl⟩
  have hbnh : Hid (b.size = bn) := hbn
  have hb2 : b.size ≤ 150 := by have := of_decide_eq_false hd0; omega
  have hbl : Hid (bn = b.data.toList.length) := by show _ = _; rw [← hbn]; exact size_list b
  clear hd0
  go_wp2_with fail
  refine (LkX.lmake_any A n cap zs w2 hnh.out hat2 (by omega)).mono ?_
  rintro e w3 ⟨b3, ⟨hno, _⟩ | ⟨_, lp, B, px, m, N, F, O, L, rfl, hl⟩⟩
  · rw [hokh.out] at hno; cases hno
  have hlx : Hid (Lx w3 lp zs (TrP.build zs zs.length)) := by
    refine ⟨⟨B, px, m, N, F, O, L, hl.at_, hl.eq, hl.ok, ?_⟩, tr_build hokh.out⟩
    have := hl.len; omega
  have cA := all_any hlx.out (Below.refl _ w3) b (by omega)
  rw [eH b zs] at cA
  replace bel := bstep bel b3
  have hD3 : Hid (DV w1.heap.size w3 (.pointer (some ⟨p, 0, none⟩)) zs) := hD.out.below b3
  have hat3 : Hid (StrsAt w3 A zs) := hat2.below b3
  have hlen : (hitsL zs b.data.toList).length ≤ 6000 := by
    have := feedU_len (tr_build hokh.out) [] 0 b.data.toList b.size
    rw [eH] at this; omega
  obtain ⟨H, hH⟩ : ∃ H, hitsL zs b.data.toList = H := ⟨_, rfl⟩
  have hHh : Hid (hitsL zs b.data.toList = H) := hH
  rw [hH] at cA hlen
  obtain ⟨nH, hnH⟩ : ∃ nH, H.length = nH := ⟨_, rfl⟩
  rw [hnH] at cA hlen
  have hnHh : Hid (nH = H.length) := hnH.symm
  clear hH hnH hl b3 hD hat2
  go_wp2_with fail
  refine cA.mono ?_
  rintro e w4 ⟨v4, rfl, hr4, b4⟩
  have cL := LhA.lent_call w4 hr4 hnHh.out (by omega)
  obtain ⟨V4, c4, rfl, _⟩ := own_form hr4
  replace bel := bstep bel b4
  clear cA hr4
  go_wp2_with fail
  refine cL.mono ?_
  rintro e w5 ⟨v5, rfl, hL5, b5⟩
  replace bel := bstep bel b5
  have hD5 : Hid (DV w1.heap.size w5 (.pointer (some ⟨p, 0, none⟩)) zs) := (hD3.out.below b4).below b5
  have hat5 : Hid (StrsAt w5 A zs) := (hat3.out.below b4).below b5
  obtain ⟨g, cp, rfl, hat, hcl, hend, hcp⟩ := LhA.lent_parts hL5 hnHh.out
  have hLh : Hid (LhA.Lent w4.heap.size w5 (.slice (some ⟨g, 0, none⟩) nH cp) nH H) := hL5
  have hath : Hid (HAt w5 (some ⟨g, 0, none⟩) H) := hat
  obtain ⟨i0, hi, hz0, hz1, hz2⟩ := info_parts info35
  clear cL hL5 hat hend hcp b4 b5 hD3 hat3
  have hl2 : (hitC H).length = nH * 2 := by rw [hitC_len, hnHh.out]
  have hc2 : ∀ j u, (hitC H)[j]? = some u → w5.cell? ((⟨g, 0, none⟩ : Addr).add j) = some u := fun j u hj => by rw [Addr.add_lit, Nat.zero_add]; exact hcl j u hj
  clear hcl
  have hl2h : Hid ((hitC H).length = nH * 2) := hl2
  clear hl2
  go_wp2_with (first | (at_builtin; refine wpList_append_own _ rfl (.const (.slice none 0 0)) (.tmp 55) 52 rfl w5.heap.size 93 i0 _ 2 16 Tryz.underlying52 hi hz0 hz1 hz2 rfl (by decide) _ 0 [] rfl (World.ownsRow_nil _ _ _ _) ⟨g, 0, none⟩ nH cp (hitC H) rfl hl2h.out hc2 (fun u hu => hitC_cell hu) ?d1 ?d2 (Nat.le_refl _) ?_))
  case d1 => unfold maxLen; omega
  case d2 => omega
  intro v6 w6 ho hg _
  have b6 : RowKit.Below w5.heap.size w5 w6 := (Below.refl _ _).grown hg (Nat.le_refl _) (fun k hk => by cases hk)
  have hrow6 : Hid (w6.ownsRow w5.heap.size 93 2 v6 nH (hitC H)) := by show w6.ownsRow _ _ _ _ _ _; simpa using ho
  obtain ⟨V6, c6, rfl, _⟩ := own_form hrow6.out
  replace bel := bstep bel b6
  have h06 : Hid (w.heap.size ≤ w6.heap.size) := bel.size
  have hD6 := hD5.out.below b6
  have hat6 : Hid (StrsAt w6 A zs) := hat5.out.below b6
  have hL6 : Hid (LhA.Lent w4.heap.size w6 (.slice (some ⟨g, 0, none⟩) nH cp) nH H) := hLh.out.below b6
  have hlA : Hid (nH = (HiQ.asInt H).length) := by unfold HiQ.asInt; rw [List.length_map]; exact hnHh.out
  have c1 := starts_any (n := bn) (m := nH) (cp := cp) hD6 hp.out hs.out hz.out (by omega) hlA.out (by omega) (hin_of (hath.out.below b6))
  have hHm : Hid (∀ x, x ∈ HiQ.asInt H ↔ x ∈ HiQ.asInt (hitsL zs b.data.toList)) := fun x => by rw [hHh.out]
  have hD6h : Hid (DV w1.heap.size w6 (.pointer (some ⟨p, 0, none⟩)) zs) := hD6
  obtain ⟨HI, hHI⟩ : ∃ HI, HiQ.asInt H = HI := ⟨_, rfl⟩
  rw [hHI] at c1 hHm
  clear ho hg b6 hD5 hat5 hath hLh hi hz0 hz1 hz2 hc2 hl2h hD6 hHI hlA hHh
  have hSt : Hid (∀ i, _) := fun i => starts_at hokh.out hHm.out i
  have hSlen : Hid ((startsL (szk zs) zs.length bn HI).length = bn) := len_startsL hp.out _
  go_wp2_with fail
  refine c1.mono ?_
  rintro e w7 ⟨b7, g1, B1, rfl, hg1, hB1, hR1⟩
  have c2 := lengths_any b (hD6h.out.below b7) hs.out hz.out (by omega)
  have hD7 := hD6h.out.below b7
  replace bel := bstep bel b7
  clear c1
  go_wp2_with fail
  refine c2.mono ?_
  rintro e w8 ⟨b8, g2, B2, he, hg2, hB2, hR2⟩
  rw [hbn] at he hR2
  subst he
  replace bel := bstep bel b8
  --@
  obtain ⟨vs1, hV1'⟩ := hR1
  obtain ⟨vs2, hV2⟩ := hR2
  have hV1 := hV1'.below b8
  have hFL : (FL zs b.data.toList bn bn).length = bn := FL_len _ _ _ _
  have hapx : Hid (∀ i j, i < bn → j < bn → BkInts.Apt (vs1.getD i undef) (vs2.getD j undef)) := fun i j hi hj k h1 h2 => by
    have q1 := own_at (hV1'.own i (by rw [hSlen.out]; exact hi)) h1
    have q2 := own_at (hV2.own j (by rw [hFL]; exact hj)) h2
    omega
  have hap1 : Hid (∀ i j, i < bn → j < bn → i ≠ j → BkInts.Apt (vs1.getD i undef) (vs1.getD j undef)) := fun i j hi hj hne k h1 => hV1.apart i j k (by rw [hSlen.out]; exact hi) (by rw [hSlen.out]; exact hj) hne h1
  have hap2 : Hid (∀ i j, i < bn → j < bn → i ≠ j → BkInts.Apt (vs2.getD i undef) (vs2.getD j undef)) := fun i j hi hj hne k h1 => hV2.apart i j k (by rw [hFL]; exact hi) (by rw [hFL]; exact hj) hne h1
  have hB1h : Hid (w6.heap.size ≤ B1) := hB1
  have hB2h : Hid (w6.heap.size ≤ B2) := Nat.le_trans b7.size hB2
  have hcell1 : Hid (∀ i, i < bn → w8.cell? ⟨g1, i, none⟩ = some (vs1.getD i undef)) := fun i hi => hV1.cell (by rw [hSlen.out]; exact hi)
  have hcell2 : Hid (∀ i, i < bn → w8.cell? ⟨g2, i, none⟩ = some (vs2.getD i undef)) := fun i hi => hV2.cell (by rw [hFL]; exact hi)
  have hown1 : Hid (∀ i, i < bn → w8.ownsRow w6.heap.size 3 1 (vs1.getD i undef) ((startsL (szk zs) zs.length bn HI).getD i []).length (((startsL (szk zs) zs.length bn HI).getD i []).map encN)) := fun i hi => BkInts.own_mono (hV1.own i (by rw [hSlen.out]; exact hi)) hB1
  have hown2 : Hid (∀ i, i < bn → w8.ownsRow w6.heap.size 3 1 (vs2.getD i undef) (lensL zs b.data.toList i).length ((lensL zs b.data.toList i).map encN)) := fun i hi => by
    have h := BkInts.own_mono (hV2.own i (by rw [hFL]; exact hi)) hB2h.out
    rw [FL_at hi, if_pos hi] at h
    exact h
  have hL8 := (hL6.out.below b7).below b8
  have hrow8 := own_below (own_below hrow6.out b7) b8
  have hat8 : Hid (StrsAt w8 A zs) := (hat6.out.below b7).below b8
  have hD8 : Hid (DV w1.heap.size w8 (.pointer (some ⟨p, 0, none⟩)) zs) := (hD6h.out.below b7).below b8
  have belh : Hid (Below w.heap.size w w8) := bel
  have h68 : Hid (w6.heap.size ≤ w8.heap.size) := Nat.le_trans b7.size b8.size
  clear c2 hV1' hV1 hV2 hFL hB1 hB2 hg1 hg2 hL6 hrow6 hat6 hD6h b7 b8 bel hD7
  have hbk := BkInts.Book.new (B0 := w6.heap.size) (B := w8.heap.size) (w := w8) (Nat.le_refl _)
  have b9 := balloc (Below.refl w8.heap.size w8) (.cells (BkInts.bookCells (.slice none 0 0) (.slice none 0 0)) 42)
  have cS := LhA.stays_call (w8.alloc (.cells (BkInts.bookCells (.slice none 0 0) (.slice none 0 0)) 42)) (hL8.below b9) (own_below hrow8 b9) hnHh.out (by omega)
  simp only [BkInts.bookCells] at hbk b9 cS
  have e1 : ((bn : Int) != (bn : Int)) = false := by simp
  clear hL8 hrow8
  go_wp2_with fail
  refine cS.mono ?_
  rintro e w10 ⟨rfl, b10⟩
  have br0 : Below w8.heap.size w8 w10 := b9.trans (b10.mono b9.size)
  have hbk10 := hbk.below b10
  clear cS hbk b9 b10
  go_wp2_with fail
  go_loopw [87] (fun s wr => ∃ (i : Nat) (ls : List BkInts.L), i ≤ bn ∧ s = .int .i64 (i : Int) ∧ BkInts.Book w6.heap.size w8.heap.size wr w8.heap.size ls ∧ ls.length ≤ 250 ∧ (∀ y ∈ ls, y.2.length ≤ 1000000 ∧ ∃ j, j < i ∧ (y.1 = vs1.getD j undef ∨ y.1 = vs2.getD j undef)) ∧ Below w8.heap.size w8 wr) (fun s _ => bn - (intOf s).toNat)
  case atStart => exact ⟨0, [], Nat.zero_le _, rfl, hbk10, by decide, fun y hy => (by cases hy), br0⟩
  case round =>
    obtain ⟨i, ls, hi, rfl, hbkr, h250, hys, br⟩ := hrel
    clear hbk10 br0
    by_cases hlt : i < bn
    · have hid : decide ((i : Int) < (bn : Int)) = true := decide_eq_true (by omega)
      have hii : (i : Int) < (bn : Int) := by omega
      have zi : IntKind.i64.wrap ((i : Int) + 1) = (i : Int) + 1 := by rw [IntKind.wrap_i64]; omega
      have x1 := hcell1.out i hlt
      have x2 := hcell2.out i hlt
      have o1 := hown1.out i hlt
      have o2 := hown2.out i hlt
      have hst := hSt.out i
      rw [← hbl.out] at hst
      have hln : (lensL zs b.data.toList i).length ≤ 110 := by have := lens_len b.data.toList i hokh.out; have := hnh.out; omega
      have hax1 : Hid (∀ y ∈ ls, BkInts.Apt y.1 (vs1.getD i undef)) := fun y hy => by
        obtain ⟨_, j, hj, hy1 | hy1⟩ := hys y hy
        · rw [hy1]; exact hap1.out j i (by omega) hlt (by omega)
        · rw [hy1]; exact (hapx.out i j hlt (by omega)).symm
      have hax2 : Hid (∀ y, y ∈ ls ∨ y.1 = vs1.getD i undef → BkInts.Apt y.1 (vs2.getD i undef)) := fun y hy => by
        rcases hy with hy | hy
        · obtain ⟨_, j, hj, hy1 | hy1⟩ := hys y hy
          · rw [hy1]; exact hapx.out j i (by omega) hlt
          · rw [hy1]; exact hap2.out j i (by omega) hlt (by omega)
        · rw [hy]; exact hapx.out i i hlt hlt
      have hysh : Hid (∀ y ∈ ls, y.2.length ≤ 1000000 ∧ ∃ j, j < i ∧ (y.1 = vs1.getD j undef ∨ y.1 = vs2.getD j undef)) := hys
      obtain ⟨y1, hy1⟩ : ∃ y1, vs1.getD i undef = y1 := ⟨_, rfl⟩
      obtain ⟨y2, hy2⟩ : ∃ y2, vs2.getD i undef = y2 := ⟨_, rfl⟩
      have hy1h : Hid (vs1.getD i undef = y1) := hy1
      have hy2h : Hid (vs2.getD i undef = y2) := hy2
      rw [hy1] at x1 o1 hax1 hax2
      rw [hy2] at x2 o2 hax2
      generalize (startsL (szk zs) zs.length bn HI).getD i [] = S at hst o1
      obtain ⟨Ln, hLn⟩ : ∃ Ln, lensL zs b.data.toList i = Ln := ⟨_, rfl⟩
      have hLnh : Hid (lensL zs b.data.toList i = Ln) := hLn
      rw [hLn] at hst o2 hln
      obtain ⟨hSl, hSf⟩ := hst
      obtain ⟨m, hm⟩ : ∃ m, Ln.length = m := ⟨_, rfl⟩
      rw [hm] at hSl hSf o2 hln
      rw [hSl] at o1
      have hmh : Hid (Ln.length = m) := hm
      have hSlh : Hid (S.length = m) := hSl
      have hSfh : Hid (∀ j, j < m → i + Ln.getD j 0 ≤ bn ∧ findI zs ((b.data.toList.drop i).take (Ln.getD j 0)) = (S.getD j 0 : Nat)) := hSf
      obtain ⟨A1, c1, rfl, _⟩ := own_form o1
      obtain ⟨A2, c2, rfl, _⟩ := own_form o2
      have o1h : Hid (w8.ownsRow w6.heap.size 3 1 (.slice A1 m c1) m (S.map encN)) := o1
      have o2h : Hid (w8.ownsRow w6.heap.size 3 1 (.slice A2 m c2) m (Ln.map encN)) := o2
      have k1 := add_any (S := S) wr hbkr (rowM (own_below o1 br) hSl) (fun y hy => hax1.out y hy) (by omega) br.size h250
      have x1r := pw_cell_below br x1
      have x1h : Hid (w8.cell? ⟨g1, i, none⟩ = some (.slice A1 m c1)) := x1
      have x2h : Hid (w8.cell? ⟨g2, i, none⟩ = some (.slice A2 m c2)) := x2
      clear x1 x2 o1 o2 hSl hSf hm hLn hy1 hy2 hys hbkr
      go_wp2_with fail
      refine k1.mono ?_
      rintro e u1 ⟨rfl, ⟨ls1, hbk1, hin1, h251⟩, d1⟩
      have br1 := br.trans d1
      have k2 := add_any (S := Ln) u1 hbk1 (rowM (own_below o2h.out br1) hmh.out) (fun y hy => hax2.out y (by rcases hin1 y hy with h | h; exact .inl h; exact .inr (by rw [h]))) (by have := hmh.out; omega) br1.size h251
      have x2r := pw_cell_below br1 x2h.out
      have hin1h : Hid (∀ y ∈ ls1, y ∈ ls ∨ y = (.slice A1 m c1, toI S)) := hin1
      clear k1 d1 hbk1 hin1 x1r br
      go_wp2_with fail
      refine k2.mono ?_
      rintro e u2 ⟨rfl, ⟨ls2, hbk2, hin2, h252⟩, d2⟩
      have br2 := br1.trans d2
      have hys2 : Hid (∀ y ∈ ls2, y.2.length ≤ 1000000 ∧ ∃ j, j < i + 1 ∧ (y.1 = vs1.getD j undef ∨ y.1 = vs2.getD j undef)) := fun y hy => by
        rcases hin2 y hy with h | h
        · rcases hin1h.out y h with h | h
          · obtain ⟨q1, j, q2, q3⟩ := hysh.out y h
            exact ⟨q1, j, by omega, q3⟩
          · rw [h]; refine ⟨?_, i, by omega, .inl hy1h.out.symm⟩
            show (toI S).length ≤ _
            rw [toI_len]; have := hSlh.out; omega
        · rw [h]; refine ⟨?_, i, by omega, .inr hy2h.out.symm⟩
          show (toI Ln).length ≤ _
          rw [toI_len]; have := hmh.out; omega
      have cT := stands_any A n cap zs b i u2 hnh.out (hat8.out.below br2) (by omega) hokh.out (by omega) (by omega)
      rw [hLnh.out, hmh.out] at cT
      clear k2 d2 hin2 x2r br1 hin1h hysh
      go_wp2_with fail
      refine cT.mono ?_
      rintro e u3 ⟨v3, rfl, hr3, d3⟩
      have br3 := br2.trans (d3.mono br2.size)
      have hbk3 := hbk2.below d3
      obtain ⟨A3, c3, rfl, _⟩ := own_form hr3
      obtain ⟨A2', c2', ea, at2⟩ := BkInts.row_at (rowM (own_below o2h.out br3) hmh.out)
      obtain ⟨A3', c3', eb, at3⟩ := BkInts.row_at (rowM hr3 hmh.out)
      injection ea with ea1 ea2 ea3
      injection eb with eb1 eb2 eb3
      subst ea1 ea3 eb1 eb3
      have cQ := BkInts.same_call A2 A3 m m c2 c3 (toI Ln) (toI Ln) u3 ea2 eb2 at2 at3 (by omega) (by omega)
      rw [decide_eq_true (show toI Ln = toI Ln from rfl)] at cQ
      have x2r := pw_cell_below br3 x2h.out
      clear cT hbk2 ea2 eb2 at2 at3 br2
      go_wp2_with fail
      refine cQ.mono ?_
      rintro e u4 ⟨rfl, d4⟩
      have br4 := br3.trans (d4.mono br3.size)
      have hbk4 : Hid (BkInts.Book w6.heap.size w8.heap.size u4 w8.heap.size ls2) := hbk3.below d4
      have hr4 : Hid (u4.ownsRow u2.heap.size 3 1 (.slice A3 m c3) m (Ln.map encN)) := own_below hr3 d4
      have x1r := pw_cell_below br4 x1h.out
      have e2 : ((m : Int) != (m : Int)) = false := by simp
      clear cQ d4 hbk3 hr3 d3 x2r br3
      go_wp2_with fail
      go_loopw [125] (fun s wr2 => ∃ k : Nat, k ≤ m ∧ s = .int .i64 (k : Int) ∧ Below u4.heap.size u4 wr2) (fun s _ => m - (intOf s).toNat)
      case atStart => exact ⟨0, Nat.zero_le _, rfl, Below.refl _ _⟩
      case round =>
        obtain ⟨k, hk, rfl, b2⟩ := hrel
        by_cases hkm : k < m
        · have hkd : decide ((k : Int) < (m : Int)) = true := decide_eq_true (by omega)
          have hkz : (k : Int) < (m : Int) := by omega
          have zk : IntKind.i64.wrap ((k : Int) + 1) = (k : Int) + 1 := by rw [IntKind.wrap_i64]; omega
          obtain ⟨hq1, hq2⟩ := hSfh.out k hkm
          obtain ⟨_, _, ea, hA3⟩ := own_form (own_below hr4.out b2)
          obtain ⟨g3, eg3, _, hc3⟩ := hA3 (by omega)
          injection ea with ea ea2 ea3
          clear ea2 ea3
          rw [← ea] at eg3
          obtain ⟨_, _, eb, hA1⟩ := own_form (own_below (own_below o1h.out br4) b2)
          obtain ⟨g4, eg4, _, hc4⟩ := hA1 (by omega)
          injection eb with eb eb2 eb3
          clear eb2 eb3
          rw [← eb] at eg4
          subst eg3 eg4
          have y3 := hc3 k (encN (Ln.getD k 0)) (by rw [List.getElem?_map, List.getD_eq_getElem?_getD, List.getElem?_eq_getElem (by rw [hmh.out]; exact hkm)]; rfl)
          have y4 := hc4 k (encN (S.getD k 0)) (by rw [List.getElem?_map, List.getD_eq_getElem?_getD, List.getElem?_eq_getElem (by rw [hSlh.out]; exact hkm)]; rfl)
          generalize Ln.getD k 0 = q at hq1 hq2 y3
          generalize S.getD k 0 = kk at hq2 y4
          unfold encN at y3 y4
          obtain ⟨iq, hiq⟩ : ∃ iq, i + q = iq := ⟨_, rfl⟩
          have x1r2 := pw_cell_below b2 x1r
          have cF : ∀ qn, Calls Tryz.prog 13 #[.slice A n cap, .string (b.extract i iq)] (wr.drewN qn) fun e w' => e = .returned (.int .i64 (kk : Int)) ∧ w' = wr.drewN qn := fun qn => by
            have h := find_ex A n cap zs (b.extract i iq) (wr.drewN qn) hnh.out (((hat8.out.below br4).below b2).below (drewN_below (Below.refl _ _))) (by omega)
            rw [ext_list, show iq - i = q by omega, hq2] at h
            exact h
          have za : IntKind.i64.wrap ((i : Int) + (q : Int)) = (iq : Int) := by rw [IntKind.wrap_i64]; omega
          have q1 : (i : Int) ≤ (iq : Int) := by omega
          have q2 : (iq : Int) ≤ (bn : Int) := by omega
          have q3 : iq ≤ bn := by omega
          have q4 : i ≤ iq := by omega
          have e3 : ((kk : Int) != (kk : Int)) = false := by simp
          clear hq1 hq2 hc3 hc4 ea eb hiq hA1 hA3
          go_wp2_with fail
          go_quiet ((with_reducible exact Calls.quiet_of_same (cF _)))
          have b9 := drewN_below (n := nq) b2
          clear cF b2 y3 y4 x1r2
          go_wp2_with fail
          go_roundw
          case rel => exact ⟨k + 1, hkm, by go_num, b9⟩
          case measure => simp [intOf]; omega
        · have hkd : decide ((k : Int) < (m : Int)) = false := decide_eq_false (by omega)
          have hkz : ¬ (k : Int) < (m : Int) := by omega
          have b5 := br4.trans (b2.mono br4.size)
          have bk5 := hbk4.out.below b2
          go_wp2_with fail
          go_roundw
          case rel => exact ⟨i + 1, ls2, hlt, by go_num, bk5, h252, hys2.out, b5⟩
          case measure => simp [intOf]; omega
    · have hid : decide ((i : Int) < (bn : Int)) = false := decide_eq_false (by omega)
      have hii : ¬ (i : Int) < (bn : Int) := by omega
      have hysh : Hid (∀ y ∈ ls, y.2.length ≤ 1000000) := fun y hy => (hys y hy).1
      clear hys
      by_cases hin : 0 ≤ k0 ∧ k0 < (bn : Int)
      · obtain ⟨j, rfl⟩ : ∃ j : Nat, k0 = (j : Int) := ⟨k0.toNat, by omega⟩
        have hjb : j < bn := by omega
        have f1 : decide ((j : Int) ≥ 0) = true := decide_eq_true (by omega)
        have f2 : decide ((j : Int) < (bn : Int)) = true := decide_eq_true (by omega)
        have cL := longest_in b (hD8.out.below br) hp.out hs.out hz.out (by omega) (i := j) (by omega)
        clear hin
        go_wp2_with fail
        refine cL.mono ?_
        rintro e u1 ⟨d1, id, long, rfl, hLon⟩
        have hF := lon_first hokh.out hLon
        have cT := stands_any A n cap zs b j u1 hnh.out ((hat8.out.below br).below d1) (by omega) hokh.out (by omega) (by omega)
        obtain ⟨Ln, hLn⟩ : ∃ Ln, lensL zs b.data.toList j = Ln := ⟨_, rfl⟩
        rw [hLn] at hF cT
        obtain ⟨m, hm⟩ : ∃ m, Ln.length = m := ⟨_, rfl⟩
        rw [hm] at hF cT
        have hmh : Hid (Ln.length = m) := hm
        clear cL hLon hLn hm
        go_wp2_with fail
        refine cT.mono ?_
        rintro e u2 ⟨v3, rfl, hr3, d2⟩
        have du2 := d1.trans (d2.mono d1.size)
        obtain ⟨A3, c3, rfl, hA3⟩ := own_form hr3
        clear cT d1 d2 hr3
        rcases hF with ⟨h1, rfl, rfl⟩ | ⟨k, hk, rfl, h2, h3, h4, h5⟩
        · obtain rfl : m = 0 := by rw [← hmh.out, h1]; rfl
          obtain ⟨u9, hu9⟩ : ∃ u9, u9 = u2 := ⟨_, rfl⟩
          subst hu9
          have du9 := du2
          clear hA3 du2 h1 hmh
          go_wp2_with fail
          have cN := longest_nil b j u9 (by omega) (by omega)
          refine cN.mono ?_
          rintro e w9 ⟨rfl, b9⟩
          have d9 := du9.trans (b9.mono du9.size)
          clear cN b9 du9
          have k9 := br.trans (d9.mono br.size)
          have hbk9 := (hbkr.below d9).mono (Nat.le_refl _) h68.out
          clear hbkr d9 br
          go_wp2_with fail
          refine (BkInts.apart_call w9 hbk9 h250 hysh.out (Nat.le_trans h68.out k9.size)).mono ?_
          rintro e w11 ⟨rfl, d11⟩
          have kE := belh.out.trans ((k9.mono belh.out.size).trans (d11.mono h06.out))
          go_wp2_with fail
          go_ret
          exact ⟨rfl, kE⟩
        · have hm0 : decide ((m : Int) > 0) = true := decide_eq_true (by omega)
          have hm1 : decide (0 < m) = true := decide_eq_true h4
          have hm2 : (0 : Int) < (m : Int) := by omega
          obtain ⟨g3, rfl, _, hc3⟩ := hA3 h4
          have y3 := hc3 0 (encN long) (by rw [List.getElem?_map, ← h5, List.getD_eq_getElem?_getD, List.getElem?_eq_getElem (by rw [hmh.out]; exact h4)]; rfl)
          unfold encN at y3
          obtain ⟨s1, s2⟩ := stands_iff.1 h3
          rw [← h2, ← hbl.out] at s1
          rw [← h2] at s2
          obtain ⟨iq, hiq⟩ : ∃ iq, j + long = iq := ⟨_, rfl⟩
          have cF : ∀ qn, Calls Tryz.prog 13 #[.slice A n cap, .string (b.extract j iq)] (u2.drewN qn) fun e w' => e = .returned (.int .i64 (k : Int)) ∧ w' = u2.drewN qn := fun qn => by
            have h := find_ex A n cap zs (b.extract j iq) (u2.drewN qn) hnh.out (((hat8.out.below br).below du2).below (drewN_below (Below.refl _ _))) (by omega)
            rw [ext_list, show iq - j = long by omega, s2, find_at hokh.out hk] at h
            exact h
          have za : IntKind.i64.wrap ((j : Int) + (long : Int)) = (iq : Int) := by rw [IntKind.wrap_i64]; omega
          have q1 : (j : Int) ≤ (iq : Int) := by omega
          have q2 : (iq : Int) ≤ (bn : Int) := by omega
          have q3 : iq ≤ bn := by omega
          have q4 : j ≤ iq := by omega
          clear hA3 hc3 s1 s2 h2 h3 h5 hiq hk hmh
          go_wp2_with fail
          go_quiet ((with_reducible exact Calls.quiet_of_same (cF _)))
          have du9 := drewN_below (n := nq) du2
          clear cF y3 du2
          generalize u2.drewN nq = u9 at du9 ⊢
          have e5 : ((k : Int) == (k : Int)) = true := by simp
          have e6 : ((long : Int) == (long : Int)) = true := by simp
          go_wp2_with fail
          have cN := longest_nil b j u9 (by omega) (by omega)
          refine cN.mono ?_
          rintro e w9 ⟨rfl, b9⟩
          have d9 := du9.trans (b9.mono du9.size)
          clear cN b9 du9
          have k9 := br.trans (d9.mono br.size)
          have hbk9 := (hbkr.below d9).mono (Nat.le_refl _) h68.out
          clear hbkr d9 br
          go_wp2_with fail
          refine (BkInts.apart_call w9 hbk9 h250 hysh.out (Nat.le_trans h68.out k9.size)).mono ?_
          rintro e w11 ⟨rfl, d11⟩
          have kE := belh.out.trans ((k9.mono belh.out.size).trans (d11.mono h06.out))
          go_wp2_with fail
          go_ret
          exact ⟨rfl, kE⟩
      · by_cases hk : 0 ≤ k0
        · have f1 : decide (k0 ≥ 0) = true := decide_eq_true hk
          have f2 : decide (k0 < (bn : Int)) = false := decide_eq_false (by omega)
          have hk0 : k0 < 0 ∨ (b.size : Int) ≤ k0 := by omega
          have cL := longest_out (some ⟨p, 0, none⟩) b k0 wr hk0
          have cN := longest_out none b k0 wr hk0
          clear hk0 hin hk
          go_wp2_with fail
          refine cL.mono ?_
          rintro e w9 ⟨rfl, hw⟩
          rw [hw]
          clear cL hw w9
          go_wp2_with fail
          refine cN.mono ?_
          rintro e w9 ⟨rfl, hw⟩
          rw [hw]
          clear cN hw w9
          have d9 : Below wr.heap.size wr wr := Below.refl _ _
          have k9 := br.trans (d9.mono br.size)
          have hbk9 := (hbkr.below d9).mono (Nat.le_refl _) h68.out
          clear hbkr d9 br
          go_wp2_with fail
          refine (BkInts.apart_call wr hbk9 h250 hysh.out (Nat.le_trans h68.out k9.size)).mono ?_
          rintro e w11 ⟨rfl, d11⟩
          have kE := belh.out.trans ((k9.mono belh.out.size).trans (d11.mono h06.out))
          go_wp2_with fail
          go_ret
          exact ⟨rfl, kE⟩
        · have f1 : decide (k0 ≥ 0) = false := decide_eq_false hk
          have hk0 : k0 < 0 ∨ (b.size : Int) ≤ k0 := by omega
          have cL := longest_out (some ⟨p, 0, none⟩) b k0 wr hk0
          have cN := longest_out none b k0 wr hk0
          clear hk0 hin hk
          go_wp2_with fail
          refine cL.mono ?_
          rintro e w9 ⟨rfl, hw⟩
          rw [hw]
          clear cL hw w9
          go_wp2_with fail
          refine cN.mono ?_
          rintro e w9 ⟨rfl, hw⟩
          rw [hw]
          clear cN hw w9
          have d9 : Below wr.heap.size wr wr := Below.refl _ _
          have k9 := br.trans (d9.mono br.size)
          have hbk9 := (hbkr.below d9).mono (Nat.le_refl _) h68.out
          clear hbkr d9 br
          go_wp2_with fail
          refine (BkInts.apart_call wr hbk9 h250 hysh.out (Nat.le_trans h68.out k9.size)).mono ?_
          rintro e w11 ⟨rfl, d11⟩
          have kE := belh.out.trans ((k9.mono belh.out.size).trans (d11.mono h06.out))
          go_wp2_with fail
          go_ret
          exact ⟨rfl, kE⟩
end Go.Proofs.YtdeeeechdlcdbaaGreat.HtW
