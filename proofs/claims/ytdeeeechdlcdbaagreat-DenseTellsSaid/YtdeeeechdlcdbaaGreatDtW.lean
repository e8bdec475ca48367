/- The walk of DenseTells. -/
import Derived.Test.YtdeeeechdlcdbaaGreatDtA
import Derived.Test.YtdeeeechdlcdbaaGreatLkX
import Derived.Test.YtdeeeechdlcdbaaGreatScS
import Derived.IntWalk
import Derived.WalkLawsBesides
import Derived.Deep.QuietTactic
import Derived.BigQuiet
set_option linter.unusedVariables false
set_option linter.unusedSimpArgs false
namespace Go.Proofs.YtdeeeechdlcdbaaGreat.DtW
open Go Go.RowKit Go.Sort Go.Lib Go.Proofs Go.Proofs.YtdeeeechdlcdbaaGreat Go.Proofs.YtdeeeechdlcdbaaGreat.Base Go.Proofs.YtdeeeechdlcdbaaGreat.DiA Go.Proofs.YtdeeeechdlcdbaaGreat.DiB Go.Proofs.YtdeeeechdlcdbaaGreat.DiD Go.Proofs.YtdeeeechdlcdbaaGreat.TcP Go.Proofs.YtdeeeechdlcdbaaGreat.TrP Go.Proofs.YtdeeeechdlcdbaaGreat.TnP Go.Proofs.YtdeeeechdlcdbaaGreat.TtN Go.Proofs.YtdeeeechdlcdbaaGreat.TtP Go.Proofs.YtdeeeechdlcdbaaGreat.TwA Go.Proofs.YtdeeeechdlcdbaaGreat.LkA Go.Proofs.YtdeeeechdlcdbaaGreat.LkM Go.Proofs.YtdeeeechdlcdbaaGreat.LkP Go.Proofs.YtdeeeechdlcdbaaGreat.LkS Go.Proofs.YtdeeeechdlcdbaaGreat.LkX Go.Proofs.YtdeeeechdlcdbaaGreat.PhP Go.Proofs.YtdeeeechdlcdbaaGreat.PhW Go.Proofs.YtdeeeechdlcdbaaGreat.ScP Go.Proofs.YtdeeeechdlcdbaaGreat.ScS Go.Proofs.YtdeeeechdlcdbaaGreat.ScF Go.Proofs.YtdeeeechdlcdbaaGreat.ScE Go.Proofs.YtdeeeechdlcdbaaGreat.ScH Go.Proofs.YtdeeeechdlcdbaaGreat.ScX Go.Proofs.YtdeeeechdlcdbaaGreat.ScA Go.Proofs.YtdeeeechdlcdbaaGreat.DnP Go.Proofs.YtdeeeechdlcdbaaGreat.DnM Go.Proofs.YtdeeeechdlcdbaaGreat.DnS Go.Proofs.YtdeeeechdlcdbaaGreat.MxA Go.Proofs.YtdeeeechdlcdbaaGreat.DtA
def dtU (bN oN ln cN kk x : Nat) (tk z T : ByteArray) (i : Nat) (v : Value) (W : World) : Prop := match i with
 | 0 => v = .slice (some ⟨bN, oN, none⟩) ln cN
 | 1 => v = .int .i64 (kk : Int)
 | 2 => v = .pointer (some ⟨bN, oN + kk, none⟩)
 | 3 => v = .string tk
 | 4 => v = .int .i64 (x : Int)
 | 5 => v = .int .u8 (x : Int)
 | 6 => ∃ b, v = .slice (some ⟨b, 0, none⟩) 1 1 ∧ W.cell? ⟨b, 0, none⟩ = some (.int .u8 (x : Int))
 | 7 => v = .string z
 | 8 => v = .string T
 | 9 => v = .string T
 | _ => True
def dtV (bN oN ln cN kk x want r0 rb cr rz cz t : Nat) (z : ByteArray) (fr : Int) (i : Nat) (v : Value) (W : World) : Prop := match i with
 | 0 => v = .pointer (some ⟨t, 0, none⟩)
 | 1 => v = .int .i64 (kk : Int)
 | 2 => v = .int .i64 (x : Int)
 | 3 => v = .int .u8 (x : Int)
 | 4 => v = .int .i64 (want : Int)
 | 5 => v = .int .i64 (want : Int)
 | 6 => v = .bool false
 | 7 => v = .bool false
 | 8 => v = .slice (some ⟨rb, 0, none⟩) 256 cr
 | 9 => v = .int .i64 (x : Int)
 | 10 => v = .pointer (some ⟨rb, x, none⟩)
 | 11 => v = .int .i64 (want : Int)
 | 12 => v = .int .i64 (want : Int)
 | 13 => v = .bool false
 | 14 => v = .bool false
 | 15 => v = .bool false
 | 16 => v = .slice (some ⟨rz, 0, none⟩) 256 cz
 | 17 => v = .int .i64 (x : Int)
 | 18 => v = .pointer (some ⟨rz, x, none⟩)
 | 19 => v = .int .i64 (r0 : Int)
 | 20 => v = .slice (some ⟨bN, oN, none⟩) ln cN
 | 21 => v = .int .i64 (x : Int)
 | 22 => v = .int .u8 (x : Int)
 | 23 => ∃ b, v = .slice (some ⟨b, 0, none⟩) 1 1 ∧ W.cell? ⟨b, 0, none⟩ = some (.int .u8 (x : Int))
 | 24 => v = .string z
 | 25 => v = .int .i64 fr
 | 26 => v = .int .i64 (r0 : Int)
 | 27 => v = .bool false
 | 28 => v = .bool false
 | _ => True
set_option maxRecDepth 20000 in
theorem law_few (A : Option Addr) (n cap : Nat) (b : ByteArray) (k0 : Int) (w : World) (hf : Calls Tryz.prog 7 #[.slice A n cap] w fun e w' => e = .returned (.bool false) ∧ w' = w) :
  Calls Tryz.prog 5 #[.slice A n cap, .string b, .int .i64 k0] w fun e w' => e = .returned (.bool true) ∧ Below w.heap.size w w' := by
 go_enter Tryz.func5, Tryz.ntmps5
 go_wp2_with fail
 refine hf.mono ?_
 rintro e w1 ⟨rfl, hw⟩
 rw [hw]
 clear hf hw
 go_wp2_with fail
 refine (DnV.alive_call _).mono ?_
 rintro e w2 ⟨rfl, b2⟩
 go_wp2_with fail
 go_ret
 exact ⟨rfl, b2⟩
set_option maxRecDepth 20000 in
theorem law_out0 (A : Option Addr) (n cap : Nat) (b : ByteArray) (k0 : Int) (w : World) (hf : Calls Tryz.prog 7 #[.slice A n cap] w fun e w' => e = .returned (.bool true) ∧ w' = w) (hd0 : decide ((n : Int) > 30) = true) :
  Calls Tryz.prog 5 #[.slice A n cap, .string b, .int .i64 k0] w fun e w' => e = .returned (.bool true) ∧ Below w.heap.size w w' := by
 go_enter Tryz.func5, Tryz.ntmps5
 go_wp2_with fail
 refine hf.mono ?_
 rintro e w1 ⟨rfl, hw⟩
 rw [hw]
 clear hf hw
 go_wp2_with fail
 refine (DnV.alive_call _).mono ?_
 rintro e w2 ⟨rfl, b2⟩
 go_wp2_with fail
 go_ret
 exact ⟨rfl, b2⟩
set_option maxRecDepth 20000 in
theorem law_out1 (A : Option Addr) (n cap : Nat) (b : ByteArray) (k0 : Int) (w : World) (hf : Calls Tryz.prog 7 #[.slice A n cap] w fun e w' => e = .returned (.bool true) ∧ w' = w) (hd0 : decide ((n : Int) > 30) = false) (hd1 : decide ((b.size : Int) > 100) = true) :
  Calls Tryz.prog 5 #[.slice A n cap, .string b, .int .i64 k0] w fun e w' => e = .returned (.bool true) ∧ Below w.heap.size w w' := by
 go_enter Tryz.func5, Tryz.ntmps5
 go_wp2_with fail
 refine hf.mono ?_
 rintro e w1 ⟨rfl, hw⟩
 rw [hw]
 clear hf hw
 go_wp2_with fail
 refine (DnV.alive_call _).mono ?_
 rintro e w2 ⟨rfl, b2⟩
 go_wp2_with fail
 go_ret
 exact ⟨rfl, b2⟩
set_option maxRecDepth 100000 in
set_option maxHeartbeats 16000000 in
theorem law_in (A : Option Addr) (n cap : Nat) (b : ByteArray) (k0 : Int) (zs : List ByteArray) (w : World) (hf : Calls Tryz.prog 7 #[.slice A n cap] w fun e w' => e = .returned (.bool true) ∧ w' = w)
  (hn : n = zs.length) (hat : StrsAt w A zs) (hn1 : n ≤ 110) (htot : total zs ≤ 1300) (hd0 : decide ((n : Int) > 30) = false) (hd1 : decide ((b.size : Int) > 100) = false) :
  Calls Tryz.prog 5 #[.slice A n cap, .string b, .int .i64 k0] w fun e w' => e = .returned (.bool true) ∧ Below w.heap.size w w' := by
 have hnh : Hid (n = zs.length) := hn
 have hb100 : b.size ≤ 100 := by have := of_decide_eq_false hd1; omega
 clear hn
 go_enter Tryz.func5, Tryz.ntmps5
 go_wp2_with fail
 refine hf.mono ?_
 rintro e w1 ⟨rfl, hw⟩
 rw [hw]
 clear hf hw w1
 go_wp2_with fail
 refine (DnV.alive_call _).mono ?_
 rintro e w1 ⟨rfl, bel⟩
 have hat1 := hat.below bel
 go_wp2_with fail
 refine (phrases_any A n cap zs w1 hnh.out hat1 (by omega)).mono ?_
 rintro e w2 ⟨hph, hw⟩
 rw [hw]
 clear hw w2
 rcases hph with ⟨hok, rfl⟩ | ⟨hok, c0, c1, hc0, rfl⟩
 rotate_left
 ·have hcd : (c0 != 0) = true := by simp [hc0]
  clear hat hat1 hok hd0 hd1
  go_wp2_with fail
  go_ret
  exact ⟨rfl, bel⟩
 have hokh : Hid (okD zs = true) := hok
 clear hok hat hd0 hd1
 go_wp2_with fail
 refine (LkX.lmake_any A n cap zs w1 hnh.out hat1 (by omega)).mono ?_
 rintro e w2 ⟨b2, ⟨hno, _⟩ | ⟨_, p, B, px, m, N, F, O, L, rfl, hl⟩⟩
 ·rw [hokh.out] at hno; cases hno
 replace bel := bstep bel b2
 have hat2 : Hid (StrsAt w2 A zs) := hat1.below b2
 obtain ⟨X, hX⟩ : ∃ X, TrP.build zs zs.length = X := ⟨_, rfl⟩
 have hXh : Hid (TrP.build zs zs.length = X) := hX
 have hlx : Hid (Lx w2 p zs X) := by
  rw [← hX]
  refine ⟨⟨B, px, m, N, F, O, L, hl.at_, hl.eq, hl.ok, ?_⟩, tr_build hokh.out⟩
  have := hl.len; omega
 have hXn : X.length ≤ 1301 := by rw [← hX, ← hl.eq, List.length_map]; have := hl.len; omega
 have cN := DnW.new_any hlx.out (Below.refl _ w2)
 clear hat1 b2 hl hX
 go_wp2_with fail
 refine cN.mono ?_
 rintro e w3 ⟨b3, t, g, B3, R, rfl, _, hDn, hTab⟩
 replace bel := bstep bel b3
 have cD := nodes_any A n cap zs w3 hnh.out (hat2.out.below b3) hn1 htot
 rw [hXh.out] at cD
 clear cN
 go_wp2_with fail
 refine cD.mono ?_
 rintro e w4 ⟨v4, rfl, hr4, b4⟩
 have bel4 : Hid (Below w.heap.size w w4) := bstep bel b4
 have b24 : Hid (Below w2.heap.size w2 w4) := b3.trans (b4.mono b3.size)
 obtain ⟨ln, hln⟩ : ∃ ln, (texts X).length = ln := ⟨_, rfl⟩
 have hlnh : Hid ((texts X).length = ln) := hln
 have hXl : Hid (X.length = ln) := by show _ = _; rw [← hln, texts_length]
 have hln1 : ln ≤ 1301 := by rw [← hXl.out]; exact hXn
 have hln0 : 0 < ln := by rw [← hXl.out]; exact hlx.out.tr.good.pos
 rw [hln] at hr4
 obtain ⟨V4, cN, rfl, hV4⟩ := own_cells hr4 hln
 obtain ⟨bN, oN, rfl, _, hcN⟩ := hV4 (by omega)
 rw [hln] at hcN
 have hVh : Hid (StrsAt w4 (some ⟨bN, oN, none⟩) (texts X)) := hV4
 have hcNh : Hid (∀ j, j < ln → w4.cell? ⟨bN, oN + j, none⟩ = some (.string ((texts X).getD j ByteArray.empty))) := hcN
 have hRl : R.length = ln := hTab.1.trans hXl.out
 have hRlh : Hid (R.length = ln) := hRl
 have hTabh : Hid (TabOk X R) := hTab
 have hDn4 : Hid (DnAt B3 w4 t p g R) := hDn.below b4
 have hat4 : Hid (StrsAt w4 A zs) := hat2.out.below b24.out
 clear cD b3 b4 bel hln hr4 hV4 hcN hTab hDn hXn hRl hat2
 have hbk := Bk.new (B := w4.heap.size) (w := w4) (Nat.le_refl _)
 have b5 := balloc (Below.refl w4.heap.size w4) (.cells #[.slice none 0 0, .slice none 0 0, .slice none 0 0, .slice none 0 0, .slice none 0 0, .slice none 0 0, .slice none 0 0, .slice none 0 0, .slice none 0 0, .slice none 0 0] 42)
 have hln63 : (ln : Int) ≤ 1301 := by omega
 by_cases hk1 : 0 ≤ k0
 ·have f1 : decide (k0 ≥ 0) = true := decide_eq_true hk1
  by_cases hin : k0 < (ln : Int)
  ·have f2 : decide (k0 < (ln : Int)) = true := decide_eq_true hin
   obtain ⟨k, rfl⟩ : ∃ k : Nat, k0 = (k : Int) := ⟨k0.toNat, by omega⟩
   have hkl : k < ln := by omega
   clear hk1
   have c1 := row_in (hDn4.out.below b5) (k := k) (by rw [hRlh.out]; exact hkl)
   have hlk : (R.getD k []).length = 256 := (hTabh.out.2 k (by rw [hXl.out]; exact hkl)).len
   have hl0 : (R.getD 0 []).length = 256 := (hTabh.out.2 0 (by rw [hXl.out]; exact hln0)).len
   go_wp2_with fail
   refine c1.mono ?_
   rintro e w6 ⟨v, rfl, hr5, b6⟩
   have b46 := b5.trans (b6.mono b5.size)
   have c2 := row_in (hDn4.out.below b46) (k := 0) (by rw [hRlh.out]; exact hln0)
   obtain ⟨V5, cr, rfl, hf5⟩ := own_form hr5
   obtain ⟨rb, rfl, _, _⟩ := hf5 (by decide)
   clear c1 hf5
   go_wp2_with fail
   refine c2.mono ?_
   rintro e w7 ⟨v, rfl, hr6, b7⟩
   have b47 := b46.trans (b7.mono b46.size)
   obtain ⟨V6, cz, rfl, hf6⟩ := own_form hr6
   obtain ⟨rz, rfl, _, _⟩ := hf6 (by decide)
   have hr57 := own_below hr5 b7
   have hb7 := (hbk.below b6).below b7
   have hap : MInts.Apt (.slice (some ⟨rb, 0, none⟩) 256 cr) (.slice (some ⟨rz, 0, none⟩) 256 cz) := fun q h1 h2 => by
    have k1 := own_lt hr5 q h1
    have k2 := own_ge hr6 q h2
    omega
   have hapz : Hid (MInts.Apt (.slice (some ⟨rb, 0, none⟩) 256 cr) (.slice (some ⟨rz, 0, none⟩) 256 cz)) := hap
   have cA := addI (x := (.slice (some ⟨rb, 0, none⟩) 256 cr, toI (R.getD k []))) w7 hb7 (by decide) (MInts.own_mono (rowI hr57 hlk) b5.size) (fun y hy => (by cases hy)) (by show (toI _).length ≤ _; unfold toI; rw [List.length_map, hlk]; decide) b47.size
   clear c2 hf6 b6 b7 hbk hb7 hr5 hap
   go_wp2_with fail
   refine cA.mono ?_
   rintro e w8 ⟨rfl, hb8, hs8, d8⟩
   have b48 := b47.trans d8
   have hr58 := hs8.row hr57 (by decide) (by decide)
   have hr68 := hs8.row hr6 (by decide) (by decide)
   have cA := addI (x := (.slice (some ⟨rz, 0, none⟩) 256 cz, toI (R.getD 0 []))) w8 hb8 (by show 1 < 250; decide) (MInts.own_mono (rowI hr68 hl0) b46.size) (fun y hy => by rw [List.nil_append, List.mem_singleton] at hy; rw [hy]; exact hapz.out) (by show (toI _).length ≤ _; unfold toI; rw [List.length_map, hl0]; decide) b48.size
   clear hs8 d8 hr57 hr6 hb8 b47
   go_wp2_with fail
   refine cA.mono ?_
   rintro e w9 ⟨rfl, hb9, hs9, d9⟩
   have b49 : Hid (Below w4.heap.size w4 w9) := b48.trans d9
   have hr59 := hs9.row hr58 (by decide) (by decide)
   have hr69 := hs9.row hr68 (by decide) (by decide)
   have hb9h : Hid (Bk w4.heap.size w9 w4.heap.size ([] ++ [(.slice (some ⟨rb, 0, none⟩) 256 cr, toI (R.getD k []))] ++ [(.slice (some ⟨rz, 0, none⟩) 256 cz, toI (R.getD 0 []))]) [] []) := hb9
   have hcR : Hid (∀ j, j < 256 → w9.cell? ⟨rb, j, none⟩ = some (.int .i64 ((R.getD k []).getD j 0 : Nat))) := fun j hj => by
    have := World.ownsRow.cells hr59 rfl j (encN ((R.getD k []).getD j 0)) (by rw [List.getElem?_map, get_some (by rw [hlk]; exact hj)]; rfl)
    rw [Addr.add_lit, Nat.zero_add] at this
    exact this
   have hcZ : Hid (∀ j, j < 256 → w9.cell? ⟨rz, j, none⟩ = some (.int .i64 ((R.getD 0 []).getD j 0 : Nat))) := fun j hj => by
    have := World.ownsRow.cells hr69 rfl j (encN ((R.getD 0 []).getD j 0)) (by rw [List.getElem?_map, get_some (by rw [hl0]; exact hj)]; rfl)
    rw [Addr.add_lit, Nat.zero_add] at this
    exact this
   have hlkh : Hid ((R.getD k []).length = 256) := hlk
   have hl0h : Hid ((R.getD 0 []).length = 256) := hl0
   have hnil : w9.ownsRow w9.heap.size 5 1 (.slice none 0 0) (sparU R k 0).length ((sparU R k 0).map encB) := World.ownsRow_nil _ _ _ _
   clear cA hs9 d9 hr58 hr68 hr59 hr69 hb9 b48 b46 b5 hlk hl0
   go_wp2_with fail
   go_loopw [14, 15] (fun s14 s15 wr => ∃ x m14 : Nat, x ≤ 256 ∧ s15 = .int .i64 (x : Int) ∧ Hid ((sparU R k x).length = m14) ∧ wr.ownsRow w9.heap.size 5 1 s14 m14 ((sparU R k x).map encB) ∧ Below w9.heap.size w9 wr) (fun _ s15 _ => 256 - (intOf s15).toNat)
   case atStart => exact ⟨0, _, by omega, rfl, Lib.hid rfl, hnil, Below.refl _ _⟩
   case round =>
    obtain ⟨x, m14, hx, rfl, hm, hrow, br⟩ := hrel
    clear hnil
    obtain ⟨V14, c14, rfl, _⟩ := own_form hrow
    by_cases hx256 : x < 256
    ·have hxd : decide ((x : Int) < 256) = true := decide_eq_true (by omega)
     have zx : IntKind.i64.wrap ((x : Int) + 1) = (x : Int) + 1 := by rw [IntKind.wrap_i64]; omega
     have zb : IntKind.u8.wrap (x : Int) = (x : Int) := by rw [IntKind.wrap_u8]; omega
     have hck0 := hcNh.out k hkl
     obtain ⟨tk, htk⟩ : ∃ tk, (texts X).getD k ByteArray.empty = tk := ⟨_, rfl⟩
     rw [htk] at hck0
     have hck := pw_cell_below (b49.out.trans (br.mono b49.out.size)) hck0
     have htk2 : tk.data.toList = tx X k := by rw [← htk, texts_getD (by rw [hXl.out]; exact hkl)]; rfl
     have htk40 : tk.size ≤ 40 := by have := hlx.out.tr.short k (by rw [hXl.out]; exact hkl); rw [size_list, htk2]; exact this
     obtain ⟨z, hz⟩ : ∃ z, strOfNums [(x : Int)] = z := ⟨_, rfl⟩
     have hcg : Hid (∀ (W : World) (b : Nat), W.cell? ⟨b, 0, none⟩ = some (.int .u8 (x : Int)) → (convert 63 9 (.slice (some ⟨b, 0, none⟩) 1 1)).run Tryz.prog W = .ok (.string z) W) := fun W b h => by rw [← hz]; exact conv1 W b (x : Int) h
     have hzl : Hid (z.data.toList = [byte (x : Int)]) := by show _ = _; rw [← hz]; rfl
     have hzs : z.size = 1 := by rw [size_list, hzl.out]; rfl
     have hlb : ¬ (9223372036854775807 < tk.size + z.size) := by omega
     obtain ⟨T, hTe⟩ : ∃ T, tk ++ z = T := ⟨_, rfl⟩
     have hTl : Hid (T.data.toList = tx X k ++ [byte (x : Int)]) := by show _ = _; rw [← hTe, app_list, htk2, hzl.out]
     have hT4 : Hid (T.size ≤ 41) := by show _ ≤ _; rw [← hTe, ByteArray.size_append]; omega
     obtain ⟨want, hwant⟩ : ∃ want, (R.getD k []).getD x 0 = want := ⟨_, rfl⟩
     have hwanth : Hid ((R.getD k []).getD x 0 = want) := hwant
     obtain ⟨r0, hr0⟩ : ∃ r0, (R.getD 0 []).getD x 0 = r0 := ⟨_, rfl⟩
     have hr0h : Hid ((R.getD 0 []).getD x 0 = r0) := hr0
     obtain ⟨fr, hfr⟩ : ∃ fr, findI (texts X) [byte (x : Int)] = fr := ⟨_, rfl⟩
     have hfrh : Hid (findI (texts X) [byte (x : Int)] = fr) := hfr
     have hem : Hid (max fr 0 = (r0 : Int)) := by
      show _ = _
      have h1 := (hTabh.out.2 0 (by rw [hXl.out]; exact hln0)).goes x (by omega)
      rw [hr0] at h1
      rw [← hfr]; exact root_find hlx.out.tr.good hlx.out.tr.fine h1
     have hxz : (x : Int) < 256 := by omega
     clear hck0 htk htk2 hz hwant hr0 hfr
     go_wp2_with fail
     refine Reg.wp_region_lists (fun W W' => Below W.heap.size W W') (dtU bN oN ln cN k x tk z T)
      [some 86, some 87, some 88, some 89, some 90, some 91, some 92, some 93, some 94, some 16]
      [[], [], [0, 1], [2], [], [4], [5], [6], [3, 7], [8, 0, 1, 2, 3, 4, 5, 6, 7, 8]]
      (by kernel_rfl) (by kernel_rfl) (by kernel_rfl) (fun _ => Below.refl _ _) (fun _ _ _ h k => bstep h k) ?_ ?_ ?_
     ·intro i v W W' h k
      unfold dtU at h ⊢
      split at h <;> first | exact h | (obtain ⟨b, e, hc⟩ := h; exact ⟨b, e, pw_cell_below k hc⟩)
     ·refine ⟨?_, ?_, ?_, ?_, ?_, ?_, ?_, ?_, ?_, ?_, trivial⟩
      ·intro vals W K hR hV hK
       simp only [Reg.putS, List.foldl, List.headD, List.tail, List.getD_cons_zero, List.getD_cons_succ, Act.put, List.setIfInBounds_toArray, List.set_cons_zero, List.set_cons_succ] at hK ⊢
       go_simp
       exact hK _ _ (Below.refl _ _) rfl
      ·intro vals W K hR hV hK
       simp only [Reg.putS, List.foldl, List.headD, List.tail, List.getD_cons_zero, List.getD_cons_succ, Act.put, List.setIfInBounds_toArray, List.set_cons_zero, List.set_cons_succ] at hK ⊢
       go_simp
       exact hK _ _ (Below.refl _ _) rfl
      ·intro vals W K hR hV hK
       have d0 := hV 0 (by simp)
       simp only [dtU] at d0
       have d1 := hV 1 (by simp)
       simp only [dtU] at d1
       simp only [Reg.putS, List.foldl, List.headD, List.tail, List.getD_cons_zero, List.getD_cons_succ, Act.put, List.setIfInBounds_toArray, List.set_cons_zero, List.set_cons_succ, d0, d1] at hK ⊢
       go_simp
       exact hK _ _ (Below.refl _ _) rfl
      ·intro vals W K hR hV hK
       have d2 := hV 2 (by simp)
       simp only [dtU] at d2
       simp only [Reg.putS, List.foldl, List.headD, List.tail, List.getD_cons_zero, List.getD_cons_succ, Act.put, List.setIfInBounds_toArray, List.set_cons_zero, List.set_cons_succ, d2] at hK ⊢
       have hcl := pw_cell_below (below_undrew hR) hck
       go_simp
       exact hK _ _ (Below.refl _ _) rfl
      ·intro vals W K hR hV hK
       simp only [Reg.putS, List.foldl, List.headD, List.tail, List.getD_cons_zero, List.getD_cons_succ, Act.put, List.setIfInBounds_toArray, List.set_cons_zero, List.set_cons_succ] at hK ⊢
       go_simp
       exact hK _ _ (Below.refl _ _) rfl
      ·intro vals W K hR hV hK
       have d4 := hV 4 (by simp)
       simp only [dtU] at d4
       simp only [Reg.putS, List.foldl, List.headD, List.tail, List.getD_cons_zero, List.getD_cons_succ, Act.put, List.setIfInBounds_toArray, List.set_cons_zero, List.set_cons_succ, d4] at hK ⊢
       go_simp
       exact hK _ _ (Below.refl _ _) rfl
      ·intro vals W K hR hV hK
       have d5 := hV 5 (by simp)
       simp only [dtU] at d5
       simp only [Reg.putS, List.foldl, List.headD, List.tail, List.getD_cons_zero, List.getD_cons_succ, Act.put, List.setIfInBounds_toArray, List.set_cons_zero, List.set_cons_succ, d5] at hK ⊢
       go_simp
       exact hK _ _ (balloc (Below.refl _ _) _) ⟨_, rfl, by simp⟩
      ·intro vals W K hR hV hK
       have d6 := hV 6 (by simp)
       simp only [dtU] at d6
       obtain ⟨bq, d6, hcell⟩ := d6
       simp only [Reg.putS, List.foldl, List.headD, List.tail, List.getD_cons_zero, List.getD_cons_succ, Act.put, List.setIfInBounds_toArray, List.set_cons_zero, List.set_cons_succ, d6] at hK ⊢
       have hcv := hcg.out W bq hcell
       go_simp
       exact hK _ _ (Below.refl _ _) rfl
      ·intro vals W K hR hV hK
       have d3 := hV 3 (by simp)
       simp only [dtU] at d3
       have d7 := hV 7 (by simp)
       simp only [dtU] at d7
       simp only [Reg.putS, List.foldl, List.headD, List.tail, List.getD_cons_zero, List.getD_cons_succ, Act.put, List.setIfInBounds_toArray, List.set_cons_zero, List.set_cons_succ, d3, d7] at hK ⊢
       go_simp
       rw [if_neg (by omega)]; exact hK _ _ (Below.refl _ _) rfl
      ·intro vals W K hR hV hK
       have d0 := hV 0 (by simp)
       simp only [dtU] at d0
       have d1 := hV 1 (by simp)
       simp only [dtU] at d1
       have d2 := hV 2 (by simp)
       simp only [dtU] at d2
       have d3 := hV 3 (by simp)
       simp only [dtU] at d3
       have d4 := hV 4 (by simp)
       simp only [dtU] at d4
       have d5 := hV 5 (by simp)
       simp only [dtU] at d5
       have d6 := hV 6 (by simp)
       simp only [dtU] at d6
       obtain ⟨bq, d6, hcell⟩ := d6
       have d7 := hV 7 (by simp)
       simp only [dtU] at d7
       have d8 := hV 8 (by simp)
       simp only [dtU] at d8
       simp only [Reg.putS, List.foldl, List.headD, List.tail, List.getD_cons_zero, List.getD_cons_succ, Act.put, List.setIfInBounds_toArray, List.set_cons_zero, List.set_cons_succ, d0, d1, d2, d3, d4, d5, d6, d7, d8] at hK ⊢
       go_simp
       exact hK _ _ (Below.refl _ _) rfl
     ·intro vals W hR hV
      rw [show List.range (List.length [some 86, some 87, some 88, some 89, some 90, some 91, some 92, some 93, some 94, some 16]) = [0, 1, 2, 3, 4, 5, 6, 7, 8, 9] from rfl]
      have d0 := hV 0 (by decide)
      simp only [dtU] at d0
      have d1 := hV 1 (by decide)
      simp only [dtU] at d1
      have d2 := hV 2 (by decide)
      simp only [dtU] at d2
      have d3 := hV 3 (by decide)
      simp only [dtU] at d3
      have d4 := hV 4 (by decide)
      simp only [dtU] at d4
      have d5 := hV 5 (by decide)
      simp only [dtU] at d5
      have d6 := hV 6 (by decide)
      simp only [dtU] at d6
      obtain ⟨bq, d6, hcell⟩ := d6
      have d7 := hV 7 (by decide)
      simp only [dtU] at d7
      have d8 := hV 8 (by decide)
      simp only [dtU] at d8
      have d9 := hV 9 (by decide)
      simp only [dtU] at d9
      clear hV
      simp only [Reg.putS, List.foldl, List.getD_cons_zero, List.getD_cons_succ, Act.put, List.setIfInBounds_toArray, List.set_cons_zero, List.set_cons_succ, d0, d1, d2, d3, d4, d5, d6, d7, d8, d9]
      clear d0 d1 d2 d3 d4 d5 d6 d7 d8 d9
      have bW : Below wr.heap.size wr W := below_undrew hR
      have brW := br.trans (bW.mono br.size)
      have hrowW := own_below hrow bW
      have cLg := longest_any (some ⟨bN, oN, none⟩) ln cN hlx.out.tr.good T T.size W hlnh.out.symm (hVh.out.below (b49.out.trans (brW.mono b49.out.size))) (by omega) (by have := hT4.out; omega) (by have := hT4.out; omega)
      clear hR hrow br bW hck
      generalize W = wq at brW hrowW cLg ⊢
      go_wp2_with fail
      refine cLg.mono ?_
      rintro e u ⟨⟨r, rfl, hr⟩, hu⟩
      rw [hu]
      have hrw : r = want := by
       have h1 := (hTabh.out.2 k (by rw [hXl.out]; exact hkl)).goes x (by omega)
       rw [hwanth.out] at h1
       unfold Goes at h1
       have h2 : (tx X k ++ [byte (x : Int)]).length = T.size := by rw [← hTl.out, ← size_list]
       rw [hTl.out] at hr
       have h3 : (tx X k).length + 1 = T.size := by rw [← h2, List.length_append]; rfl
       rw [h3] at h1
       exact Lg.one hlx.out.tr.fine hr h1
      subst hrw
      clear cLg hu u hr hTe
      have hcr : wq.cell? ⟨rb, x, none⟩ = some (.int .i64 (r : Int)) := by have := pw_cell_below brW (hcR.out x hx256); rw [hwanth.out] at this; exact this
      have hcz : wq.cell? ⟨rz, x, none⟩ = some (.int .i64 (r0 : Int)) := by have := pw_cell_below brW (hcZ.out x hx256); rw [hr0h.out] at this; exact this
      have hgo : Hid (∀ W, Below wq.heap.size wq W → Calls Tryz.prog 34 #[.pointer (some ⟨t, 0, none⟩), .int .i64 (k : Int), .int .u8 (x : Int)] W fun e w' => e = .returned (.int .i64 (r : Int)) ∧ w' = W) := fun W hW => by
       have h := go_in (hDn4.out.below (b49.out.trans ((brW.trans (hW.mono brW.size)).mono b49.out.size))) (k := k) (c := x) (by rw [hRlh.out]; exact hkl) (by omega)
       rw [hwanth.out] at h; exact h
      have hfi : Hid (∀ W, Below wq.heap.size wq W → Calls Tryz.prog 13 #[.slice (some ⟨bN, oN, none⟩) ln cN, .string z] W fun e w' => e = .returned (.int .i64 fr) ∧ w' = W) := fun W hW => by
       have h := find_ex (some ⟨bN, oN, none⟩) ln cN (texts X) z W hlnh.out.symm (hVh.out.below (b49.out.trans ((brW.trans (hW.mono brW.size)).mono b49.out.size))) (by omega)
       rw [hzl.out, hfrh.out] at h; exact h
      have e6 : ((r : Int) != (r : Int)) = false := by simp
      have e27 : ((r0 : Int) != (r0 : Int)) = false := by simp
      have em : max fr 0 = (r0 : Int) := hem.out
      go_wp2_with fail
      refine Reg.wp_region_lists (fun W W' => Below W.heap.size W W') (dtV bN oN ln cN k x r r0 rb cr rz cz t z fr)
       [some 100, some 101, some 102, some 103, some 104, some 105, some 106, some 107, some 108, some 109, some 110, some 111, some 112, some 113, some 114, some 115, some 116, some 117, some 118, some 119, some 120, some 121, some 122, some 123, some 124, some 125, some 126, some 127, some 128]
       [[], [], [], [2], [0, 1, 3], [], [4, 5], [6, 4], [7], [7], [8, 9, 7], [10, 7], [7], [11, 12, 7], [7, 13], [14, 7], [15], [15], [16, 17, 15], [18, 15], [15], [15], [21, 15], [22, 15], [23, 15], [20, 24, 15, 15], [25, 15], [19, 26, 15], [15, 27]]
       (by kernel_rfl) (by kernel_rfl) (by kernel_rfl) (fun _ => Below.refl _ _) (fun _ _ _ h k => bstep h k) ?_ ?_ ?_
      ·intro i v W W' h k
       unfold dtV at h ⊢
       split at h <;> first | exact h | (obtain ⟨b, e, hc⟩ := h; exact ⟨b, e, pw_cell_below k hc⟩)
      ·refine ⟨?_, ?_, ?_, ?_, ?_, ?_, ?_, ?_, ?_, ?_, ?_, ?_, ?_, ?_, ?_, ?_, ?_, ?_, ?_, ?_, ?_, ?_, ?_, ?_, ?_, ?_, ?_, ?_, ?_, trivial⟩
       ·intro vals W K hR hV hK
        simp only [Reg.putS, List.foldl, List.headD, List.tail, List.getD_cons_zero, List.getD_cons_succ, Act.put, List.setIfInBounds_toArray, List.set_cons_zero, List.set_cons_succ] at hK ⊢
        go_simp
        exact hK _ _ (Below.refl _ _) rfl
       ·intro vals W K hR hV hK
        simp only [Reg.putS, List.foldl, List.headD, List.tail, List.getD_cons_zero, List.getD_cons_succ, Act.put, List.setIfInBounds_toArray, List.set_cons_zero, List.set_cons_succ] at hK ⊢
        go_simp
        exact hK _ _ (Below.refl _ _) rfl
       ·intro vals W K hR hV hK
        simp only [Reg.putS, List.foldl, List.headD, List.tail, List.getD_cons_zero, List.getD_cons_succ, Act.put, List.setIfInBounds_toArray, List.set_cons_zero, List.set_cons_succ] at hK ⊢
        go_simp
        exact hK _ _ (Below.refl _ _) rfl
       ·intro vals W K hR hV hK
        have d2 := hV 2 (by simp)
        simp only [dtV] at d2
        simp only [Reg.putS, List.foldl, List.headD, List.tail, List.getD_cons_zero, List.getD_cons_succ, Act.put, List.setIfInBounds_toArray, List.set_cons_zero, List.set_cons_succ, d2] at hK ⊢
        go_simp
        exact hK _ _ (Below.refl _ _) rfl
       ·intro vals W K hR hV hK
        have d0 := hV 0 (by simp)
        simp only [dtV] at d0
        have d1 := hV 1 (by simp)
        simp only [dtV] at d1
        have d3 := hV 3 (by simp)
        simp only [dtV] at d3
        simp only [Reg.putS, List.foldl, List.headD, List.tail, List.getD_cons_zero, List.getD_cons_succ, Act.put, List.setIfInBounds_toArray, List.set_cons_zero, List.set_cons_succ, d0, d1, d3] at hK ⊢
        go_simp
        refine (hgo.out W (below_undrew hR)).mono ?_
        rintro e w2 ⟨rfl, hw⟩
        rw [hw]
        exact hK _ _ (Below.refl _ _) rfl
       ·intro vals W K hR hV hK
        simp only [Reg.putS, List.foldl, List.headD, List.tail, List.getD_cons_zero, List.getD_cons_succ, Act.put, List.setIfInBounds_toArray, List.set_cons_zero, List.set_cons_succ] at hK ⊢
        go_simp
        exact hK _ _ (Below.refl _ _) rfl
       ·intro vals W K hR hV hK
        have d4 := hV 4 (by simp)
        simp only [dtV] at d4
        have d5 := hV 5 (by simp)
        simp only [dtV] at d5
        simp only [Reg.putS, List.foldl, List.headD, List.tail, List.getD_cons_zero, List.getD_cons_succ, Act.put, List.setIfInBounds_toArray, List.set_cons_zero, List.set_cons_succ, d4, d5] at hK ⊢
        go_simp
        exact hK _ _ (Below.refl _ _) rfl
       ·intro vals W K hR hV hK
        have d4 := hV 4 (by simp)
        simp only [dtV] at d4
        have d6 := hV 6 (by simp)
        simp only [dtV] at d6
        simp only [Reg.putS, List.foldl, List.headD, List.tail, List.getD_cons_zero, List.getD_cons_succ, Act.put, List.setIfInBounds_toArray, List.set_cons_zero, List.set_cons_succ, d4, d6] at hK ⊢
        go_simp
        exact hK _ _ (Below.refl _ _) rfl
       ·intro vals W K hR hV hK
        have d7 := hV 7 (by simp)
        simp only [dtV] at d7
        simp only [Reg.putS, List.foldl, List.headD, List.tail, List.getD_cons_zero, List.getD_cons_succ, Act.put, List.setIfInBounds_toArray, List.set_cons_zero, List.set_cons_succ, d7] at hK ⊢
        go_simp
        exact hK _ _ (Below.refl _ _) rfl
       ·intro vals W K hR hV hK
        have d7 := hV 7 (by simp)
        simp only [dtV] at d7
        simp only [Reg.putS, List.foldl, List.headD, List.tail, List.getD_cons_zero, List.getD_cons_succ, Act.put, List.setIfInBounds_toArray, List.set_cons_zero, List.set_cons_succ, d7] at hK ⊢
        go_simp
        exact hK _ _ (Below.refl _ _) rfl
       ·intro vals W K hR hV hK
        have d7 := hV 7 (by simp)
        simp only [dtV] at d7
        have d8 := hV 8 (by simp)
        simp only [dtV] at d8
        have d9 := hV 9 (by simp)
        simp only [dtV] at d9
        simp only [Reg.putS, List.foldl, List.headD, List.tail, List.getD_cons_zero, List.getD_cons_succ, Act.put, List.setIfInBounds_toArray, List.set_cons_zero, List.set_cons_succ, d7, d8, d9] at hK ⊢
        go_simp
        exact hK _ _ (Below.refl _ _) rfl
       ·intro vals W K hR hV hK
        have d7 := hV 7 (by simp)
        simp only [dtV] at d7
        have d10 := hV 10 (by simp)
        simp only [dtV] at d10
        simp only [Reg.putS, List.foldl, List.headD, List.tail, List.getD_cons_zero, List.getD_cons_succ, Act.put, List.setIfInBounds_toArray, List.set_cons_zero, List.set_cons_succ, d7, d10] at hK ⊢
        have hcl := pw_cell_below (below_undrew hR) hcr
        go_simp
        exact hK _ _ (Below.refl _ _) rfl
       ·intro vals W K hR hV hK
        have d7 := hV 7 (by simp)
        simp only [dtV] at d7
        simp only [Reg.putS, List.foldl, List.headD, List.tail, List.getD_cons_zero, List.getD_cons_succ, Act.put, List.setIfInBounds_toArray, List.set_cons_zero, List.set_cons_succ, d7] at hK ⊢
        go_simp
        exact hK _ _ (Below.refl _ _) rfl
       ·intro vals W K hR hV hK
        have d7 := hV 7 (by simp)
        simp only [dtV] at d7
        have d11 := hV 11 (by simp)
        simp only [dtV] at d11
        have d12 := hV 12 (by simp)
        simp only [dtV] at d12
        simp only [Reg.putS, List.foldl, List.headD, List.tail, List.getD_cons_zero, List.getD_cons_succ, Act.put, List.setIfInBounds_toArray, List.set_cons_zero, List.set_cons_succ, d7, d11, d12] at hK ⊢
        go_simp
        exact hK _ _ (Below.refl _ _) rfl
       ·intro vals W K hR hV hK
        have d7 := hV 7 (by simp)
        simp only [dtV] at d7
        have d13 := hV 13 (by simp)
        simp only [dtV] at d13
        simp only [Reg.putS, List.foldl, List.headD, List.tail, List.getD_cons_zero, List.getD_cons_succ, Act.put, List.setIfInBounds_toArray, List.set_cons_zero, List.set_cons_succ, d7, d13] at hK ⊢
        go_simp
        exact hK _ _ (Below.refl _ _) rfl
       ·intro vals W K hR hV hK
        have d7 := hV 7 (by simp)
        simp only [dtV] at d7
        have d14 := hV 14 (by simp)
        simp only [dtV] at d14
        simp only [Reg.putS, List.foldl, List.headD, List.tail, List.getD_cons_zero, List.getD_cons_succ, Act.put, List.setIfInBounds_toArray, List.set_cons_zero, List.set_cons_succ, d7, d14] at hK ⊢
        go_simp
        exact hK _ _ (Below.refl _ _) rfl
       ·intro vals W K hR hV hK
        have d15 := hV 15 (by simp)
        simp only [dtV] at d15
        simp only [Reg.putS, List.foldl, List.headD, List.tail, List.getD_cons_zero, List.getD_cons_succ, Act.put, List.setIfInBounds_toArray, List.set_cons_zero, List.set_cons_succ, d15] at hK ⊢
        go_simp
        exact hK _ _ (Below.refl _ _) rfl
       ·intro vals W K hR hV hK
        have d15 := hV 15 (by simp)
        simp only [dtV] at d15
        simp only [Reg.putS, List.foldl, List.headD, List.tail, List.getD_cons_zero, List.getD_cons_succ, Act.put, List.setIfInBounds_toArray, List.set_cons_zero, List.set_cons_succ, d15] at hK ⊢
        go_simp
        exact hK _ _ (Below.refl _ _) rfl
       ·intro vals W K hR hV hK
        have d15 := hV 15 (by simp)
        simp only [dtV] at d15
        have d16 := hV 16 (by simp)
        simp only [dtV] at d16
        have d17 := hV 17 (by simp)
        simp only [dtV] at d17
        simp only [Reg.putS, List.foldl, List.headD, List.tail, List.getD_cons_zero, List.getD_cons_succ, Act.put, List.setIfInBounds_toArray, List.set_cons_zero, List.set_cons_succ, d15, d16, d17] at hK ⊢
        go_simp
        exact hK _ _ (Below.refl _ _) rfl
       ·intro vals W K hR hV hK
        have d15 := hV 15 (by simp)
        simp only [dtV] at d15
        have d18 := hV 18 (by simp)
        simp only [dtV] at d18
        simp only [Reg.putS, List.foldl, List.headD, List.tail, List.getD_cons_zero, List.getD_cons_succ, Act.put, List.setIfInBounds_toArray, List.set_cons_zero, List.set_cons_succ, d15, d18] at hK ⊢
        have hcl := pw_cell_below (below_undrew hR) hcz
        go_simp
        exact hK _ _ (Below.refl _ _) rfl
       ·intro vals W K hR hV hK
        have d15 := hV 15 (by simp)
        simp only [dtV] at d15
        simp only [Reg.putS, List.foldl, List.headD, List.tail, List.getD_cons_zero, List.getD_cons_succ, Act.put, List.setIfInBounds_toArray, List.set_cons_zero, List.set_cons_succ, d15] at hK ⊢
        go_simp
        exact hK _ _ (Below.refl _ _) rfl
       ·intro vals W K hR hV hK
        have d15 := hV 15 (by simp)
        simp only [dtV] at d15
        simp only [Reg.putS, List.foldl, List.headD, List.tail, List.getD_cons_zero, List.getD_cons_succ, Act.put, List.setIfInBounds_toArray, List.set_cons_zero, List.set_cons_succ, d15] at hK ⊢
        go_simp
        exact hK _ _ (Below.refl _ _) rfl
       ·intro vals W K hR hV hK
        have d15 := hV 15 (by simp)
        simp only [dtV] at d15
        have d21 := hV 21 (by simp)
        simp only [dtV] at d21
        simp only [Reg.putS, List.foldl, List.headD, List.tail, List.getD_cons_zero, List.getD_cons_succ, Act.put, List.setIfInBounds_toArray, List.set_cons_zero, List.set_cons_succ, d15, d21] at hK ⊢
        go_simp
        exact hK _ _ (Below.refl _ _) rfl
       ·intro vals W K hR hV hK
        have d15 := hV 15 (by simp)
        simp only [dtV] at d15
        have d22 := hV 22 (by simp)
        simp only [dtV] at d22
        simp only [Reg.putS, List.foldl, List.headD, List.tail, List.getD_cons_zero, List.getD_cons_succ, Act.put, List.setIfInBounds_toArray, List.set_cons_zero, List.set_cons_succ, d15, d22] at hK ⊢
        go_simp
        exact hK _ _ (balloc (Below.refl _ _) _) ⟨_, rfl, by simp⟩
       ·intro vals W K hR hV hK
        have d15 := hV 15 (by simp)
        simp only [dtV] at d15
        have d23 := hV 23 (by simp)
        simp only [dtV] at d23
        obtain ⟨bq, d23, hcell⟩ := d23
        simp only [Reg.putS, List.foldl, List.headD, List.tail, List.getD_cons_zero, List.getD_cons_succ, Act.put, List.setIfInBounds_toArray, List.set_cons_zero, List.set_cons_succ, d15, d23] at hK ⊢
        have hcv := hcg.out W bq hcell
        go_simp
        exact hK _ _ (Below.refl _ _) rfl
       ·intro vals W K hR hV hK
        have d15 := hV 15 (by simp)
        simp only [dtV] at d15
        have d20 := hV 20 (by simp)
        simp only [dtV] at d20
        have d24 := hV 24 (by simp)
        simp only [dtV] at d24
        simp only [Reg.putS, List.foldl, List.headD, List.tail, List.getD_cons_zero, List.getD_cons_succ, Act.put, List.setIfInBounds_toArray, List.set_cons_zero, List.set_cons_succ, d15, d20, d24] at hK ⊢
        go_simp
        refine (hfi.out W (below_undrew hR)).mono ?_
        rintro e w2 ⟨rfl, hw⟩
        rw [hw]
        exact hK _ _ (Below.refl _ _) rfl
       ·intro vals W K hR hV hK
        have d15 := hV 15 (by simp)
        simp only [dtV] at d15
        have d25 := hV 25 (by simp)
        simp only [dtV] at d25
        simp only [Reg.putS, List.foldl, List.headD, List.tail, List.getD_cons_zero, List.getD_cons_succ, Act.put, List.setIfInBounds_toArray, List.set_cons_zero, List.set_cons_succ, d15, d25] at hK ⊢
        go_simp
        exact hK _ _ (Below.refl _ _) rfl
       ·intro vals W K hR hV hK
        have d15 := hV 15 (by simp)
        simp only [dtV] at d15
        have d19 := hV 19 (by simp)
        simp only [dtV] at d19
        have d26 := hV 26 (by simp)
        simp only [dtV] at d26
        simp only [Reg.putS, List.foldl, List.headD, List.tail, List.getD_cons_zero, List.getD_cons_succ, Act.put, List.setIfInBounds_toArray, List.set_cons_zero, List.set_cons_succ, d15, d19, d26] at hK ⊢
        go_simp
        exact hK _ _ (Below.refl _ _) rfl
       ·intro vals W K hR hV hK
        have d15 := hV 15 (by simp)
        simp only [dtV] at d15
        have d27 := hV 27 (by simp)
        simp only [dtV] at d27
        simp only [Reg.putS, List.foldl, List.headD, List.tail, List.getD_cons_zero, List.getD_cons_succ, Act.put, List.setIfInBounds_toArray, List.set_cons_zero, List.set_cons_succ, d15, d27] at hK ⊢
        go_simp
        exact hK _ _ (Below.refl _ _) rfl
      ·intro vals W hR hV
       rw [show List.range (List.length [some 100, some 101, some 102, some 103, some 104, some 105, some 106, some 107, some 108, some 109, some 110, some 111, some 112, some 113, some 114, some 115, some 116, some 117, some 118, some 119, some 120, some 121, some 122, some 123, some 124, some 125, some 126, some 127, some 128]) = [0, 1, 2, 3, 4, 5, 6, 7, 8, 9, 10, 11, 12, 13, 14, 15, 16, 17, 18, 19, 20, 21, 22, 23, 24, 25, 26, 27, 28] from rfl]
       have d0 := hV 0 (by decide)
       simp only [dtV] at d0
       have d1 := hV 1 (by decide)
       simp only [dtV] at d1
       have d2 := hV 2 (by decide)
       simp only [dtV] at d2
       have d3 := hV 3 (by decide)
       simp only [dtV] at d3
       have d4 := hV 4 (by decide)
       simp only [dtV] at d4
       have d5 := hV 5 (by decide)
       simp only [dtV] at d5
       have d6 := hV 6 (by decide)
       simp only [dtV] at d6
       have d7 := hV 7 (by decide)
       simp only [dtV] at d7
       have d8 := hV 8 (by decide)
       simp only [dtV] at d8
       have d9 := hV 9 (by decide)
       simp only [dtV] at d9
       have d10 := hV 10 (by decide)
       simp only [dtV] at d10
       have d11 := hV 11 (by decide)
       simp only [dtV] at d11
       have d12 := hV 12 (by decide)
       simp only [dtV] at d12
       have d13 := hV 13 (by decide)
       simp only [dtV] at d13
       have d14 := hV 14 (by decide)
       simp only [dtV] at d14
       have d15 := hV 15 (by decide)
       simp only [dtV] at d15
       have d16 := hV 16 (by decide)
       simp only [dtV] at d16
       have d17 := hV 17 (by decide)
       simp only [dtV] at d17
       have d18 := hV 18 (by decide)
       simp only [dtV] at d18
       have d19 := hV 19 (by decide)
       simp only [dtV] at d19
       have d20 := hV 20 (by decide)
       simp only [dtV] at d20
       have d21 := hV 21 (by decide)
       simp only [dtV] at d21
       have d22 := hV 22 (by decide)
       simp only [dtV] at d22
       have d23 := hV 23 (by decide)
       simp only [dtV] at d23
       obtain ⟨bq, d23, hcell⟩ := d23
       have d24 := hV 24 (by decide)
       simp only [dtV] at d24
       have d25 := hV 25 (by decide)
       simp only [dtV] at d25
       have d26 := hV 26 (by decide)
       simp only [dtV] at d26
       have d27 := hV 27 (by decide)
       simp only [dtV] at d27
       have d28 := hV 28 (by decide)
       simp only [dtV] at d28
       clear hV
       simp only [Reg.putS, List.foldl, List.getD_cons_zero, List.getD_cons_succ, Act.put, List.setIfInBounds_toArray, List.set_cons_zero, List.set_cons_succ, d0, d1, d2, d3, d4, d5, d6, d7, d8, d9, d10, d11, d12, d13, d14, d15, d16, d17, d18, d19, d20, d21, d22, d23, d24, d25, d26, d27, d28]
       clear d0 d1 d2 d3 d4 d5 d6 d7 d8 d9 d10 d11 d12 d13 d14 d15 d16 d17 d18 d19 d20 d21 d22 d23 d24 d25 d26 d27 d28
       have bW : Below wq.heap.size wq W := below_undrew hR
       have brW2 := brW.trans (bW.mono brW.size)
       have hrowW2 := own_below hrowW bW
       have hczW := pw_cell_below bW hcz
       clear hR hcr hcz hgo hfi hrowW brW bW e6 e27 em hcg
       generalize W = wp at brW2 hrowW2 hczW ⊢
       have hss := sparU_succ R k x
       rw [hwanth.out, hr0h.out] at hss
       have hslen := sparU_len R k x
       by_cases hne : r = r0
       ·subst hne
        have e1 : ((r : Int) != (r : Int)) = false := by simp
        have e1n : (r != r) = false := by simp
        rw [e1n] at hss
        have hss2 : sparU R k (x + 1) = sparU R k x := by rw [hss]; simp
        rw [← hss2] at hrowW2 hm
        clear hss hss2
        go_wp2_with fail
        go_roundw
        case rel => exact ⟨x + 1, m14, by omega, by go_num, hm, hrowW2, brW2⟩
        case measure => simp [intOf]; omega
       ·have e1 : ((r : Int) != (r0 : Int)) = true := by simp; omega
        have e1n : (r != r0) = true := by simp; omega
        rw [e1n] at hss
        have hss2 : Hid (sparU R k (x + 1) = sparU R k x ++ [x]) := by show _ = _; rw [hss]; simp
        have hm14 : m14 ≤ 256 := by have := hm.out; omega
        have own7 := hrowW2.alloc (.cells #[.int .u8 (x : Int)] 5)
        have b7 : Below w9.heap.size w9 (wp.alloc (.cells #[.int .u8 (x : Int)] 5)) := brW2.trans ((balloc (Below.refl _ _) _).mono brW2.size)
        have hh3 := heap_new wp (.cells #[.int .u8 (x : Int)] 5)
        have hs7 := b7.size
        obtain ⟨i5, hi5, hy0, hy1, hy2⟩ := info_parts DnS.info5
        clear hss hrowW2 hne
        go_wp2_with (first | (at_builtin; refine wpList_append_own _ rfl (.tmp 135) (.tmp 138) 63 rfl w9.heap.size 5 i5 _ 1 1 Tryz.underlying63 hi5 hy0 hy1 hy2 rfl (by decide) _ m14 ((sparU R k x).map encB) rfl own7 ⟨wp.heap.size, 0, none⟩ 1 1 [.int .u8 (x : Int)] rfl rfl ?k1 ?k2 ?k3 ?k4 ?k5 ?_))
        case k1 => intro j u hj; rw [Addr.add_lit, Nat.zero_add]; exact cell_of hh3 (by simpa using hj)
        case k2 => intro u hu; simp at hu; subst hu; rfl
        case k3 => unfold maxLen; omega
        case k4 => omega
        case k5 => omega
        intro v8 w8 own8 hg8 _
        have b8 := b7.grown hg8 b7.size (fun q hq => own_ge own7 q hq)
        have own9 : w8.ownsRow w9.heap.size 5 1 v8 (m14 + 1) ((sparU R k (x + 1)).map encB) := by rw [hss2.out, List.map_append]; exact own8
        have hm9 : Hid ((sparU R k (x + 1)).length = m14 + 1) := by show _ = _; rw [hss2.out, List.length_append, hm.out]; rfl
        obtain ⟨V8, c8, rfl, _⟩ := own_form own8
        clear own8 own7 hg8 b7 hh3 hs7 hss2 hm
        go_wp2_with fail
        go_roundw
        case rel => exact ⟨x + 1, m14 + 1, by omega, by go_num, hm9, own9, b8⟩
        case measure => simp [intOf]; omega
    ·have hxd : decide ((x : Int) < 256) = false := decide_eq_false (by omega)
     obtain rfl : x = 256 := by omega
     have hkA := b49.out.trans (br.mono b49.out.size)
     have cP := sparse_in (hDn4.out.below hkA) (k := k) (by rw [hRlh.out]; exact hkl)
     obtain ⟨SL, hSL⟩ : ∃ SL, sparL R k = SL := ⟨_, rfl⟩
     have hSU : sparU R k 256 = SL := hSL
     have hSl : SL.length ≤ 256 := by rw [← hSL]; exact sparU_len R k 256
     have hSlh : Hid (SL.length ≤ 256) := hSl
     rw [hSU] at hrow hm
     rw [hSL] at cP
     have hbr := hb9h.out.below br
     have hm256 : m14 ≤ 256 := by rw [← hm.out]; exact hSl
     clear hSL hSU hSl
     go_wp2_with fail
     refine cP.mono ?_
     rintro e x1 ⟨v, rfl, hp1, d1⟩
     rw [hm.out] at hp1
     have k1 := hkA.trans (d1.mono hkA.size)
     have hrowB : MBytes.Row w4.heap.size x1 (v, toB SL) := MBytes.own_mono (rowB hp1 hm.out) hkA.size
     obtain ⟨Vp, cp, rfl, _⟩ := own_form hp1
     have cA := addB (x := (.slice Vp m14 cp, toB SL)) x1 (hbr.below d1) (by decide) hrowB (fun y hy => (by cases hy)) (by show (toB SL).length ≤ _; rw [toB_len]; have := hSlh.out; omega) k1.size
     have hrow1 := own_below hrow d1
     clear cP hrow hbr
     go_wp2_with fail
     refine cA.mono ?_
     rintro e x2 ⟨rfl, hb2, hs2, d2⟩
     have k2 := k1.trans d2
     have hp2 := hs2.row hp1 (by decide) (by decide)
     have hrow2 := hs2.row hrow1 (by decide) (by decide)
     obtain ⟨Vp', cp', ea, ap⟩ := MBytes.row_at (rowB hp2 hm.out)
     obtain ⟨Vr', cr', eb, ar⟩ := MBytes.row_at (rowB hrow2 hm.out)
     injection ea with ea1 ea2 ea3
     injection eb with eb1 eb2 eb3
     subst ea1 ea3 eb1 eb3
     have cQ := MBytes.same_call Vp V14 m14 m14 cp c14 (toB SL) (toB SL) x2 ea2 eb2 ap ar (by omega) (by omega)
     rw [decide_eq_true (show toB SL = toB SL from rfl)] at cQ
     clear cA hs2 d2 hp1 hp2 hrow1 hrow2 hrowB ea2 eb2 ap ar k1 d1
     go_wp2_with fail
     refine cQ.mono ?_
     rintro e x3 ⟨rfl, d3⟩
     have k3 := k2.trans (d3.mono k2.size)
     have hb3 := hb2.below d3
     clear cQ hb2 d3 k2 hkA br
     have cH := DnM.hits_call (hDn4.out.below k3) hlx.out (b24.out.trans (k3.mono b24.out.size)) b (by omega)
     obtain ⟨Fd, hFd⟩ : ∃ Fd, feedU zs [] 0 b.data.toList b.size = Fd := ⟨_, rfl⟩
     have hFdh : Hid (feedU zs [] 0 b.data.toList b.size = Fd) := hFd
     have hFl : Hid (Fd.length ≤ 4000) := by show _ ≤ _; rw [← hFd]; have := feedU_len (tr_build hokh.out) [] 0 b.data.toList b.size; omega
     rw [hFd] at cH
     obtain ⟨fl, hfl⟩ : ∃ fl, Fd.length = fl := ⟨_, rfl⟩
     have hflh : Hid (Fd.length = fl) := hfl
     have hfl2 : fl ≤ 4000 := by rw [← hfl]; exact hFl.out
     rw [hfl] at cH
     clear hFd hfl
     go_wp2_with fail
     refine cH.mono ?_
     rintro e y1 ⟨v6, rfl, hr6, b6⟩
     have by1 := k3.trans (b6.mono k3.size)
     have hrow : MHits.Row w4.heap.size y1 (v6, asI Fd) := MHits.own_mono (rowH hr6 hflh.out) k3.size
     obtain ⟨V6, c6, rfl, _⟩ := own_form hr6
     have cA := addH (x := (.slice V6 fl c6, asI Fd)) y1 (hb3.below b6) (by decide) hrow (fun y hy => (by cases hy)) (by show (asI Fd).length ≤ _; rw [asI_len]; have := hFl.out; omega) by1.size
     clear cH b6
     go_wp2_with fail
     refine cA.mono ?_
     rintro e y2 ⟨rfl, hb2, hst2, d2⟩
     have by2 := by1.trans d2
     have hr2 := hst2.row hr6 (by decide) (by decide)
     have cL := len_call (hDn4.out.below by2)
     rw [hRlh.out] at cL
     have cZ := DnM.size_call (hDn4.out.below by2) (by rw [hRlh.out]; omega)
     rw [hRlh.out] at cZ
     have eL : ((ln : Int) == (ln : Int)) = true := by simp
     obtain ⟨l256, hl256⟩ : ∃ l256 : Nat, 256 * ln = l256 := ⟨_, rfl⟩
     rw [hl256] at cZ
     have zL : IntKind.i64.wrap (256 * (ln : Int)) = (l256 : Int) := by rw [IntKind.wrap_i64]; omega
     have eZ : ((l256 : Int) == (l256 : Int)) = true := by simp
     have cR := RhA.hits_call A n cap zs ⟨#[]⟩ b 0 y2 hnh.out (hat4.out.below by2) (by omega) hlx.out.tr (by show (0 : Nat) ≤ _; omega) (by omega) (by omega)
     rw [show (⟨#[]⟩ : ByteArray).data.toList = [] from rfl, hFdh.out, hflh.out, show ((0 : Nat) : Int) = 0 from rfl] at cR
     clear cA hst2 d2 hr6 hrow by1 hl256
     go_wp2_with fail
     refine cL.mono ?_
     rintro e u ⟨rfl, hu⟩
     rw [hu]
     clear cL hu u
     go_wp2_with fail
     refine cZ.mono ?_
     rintro e u ⟨rfl, hu⟩
     rw [hu]
     clear cZ hu u
     go_wp2_with fail
     refine cR.mono ?_
     rintro e y3 ⟨v8, rfl, hr8, d3⟩
     have by3 := by2.trans (d3.mono by2.size)
     have hb3 := hb2.below d3
     obtain ⟨V8, c8, ev, ht8⟩ := row_hits hr8 hflh.out.symm
     subst ev
     obtain ⟨V6', c6', ev, ht6⟩ := row_hits (own_below hr2 d3) hflh.out.symm
     injection ev with ev1 ev2 ev3
     rw [← ev1] at ht6
     clear ev1 ev2 ev3
     have cQ := same_hits V6 V8 fl fl c6 c8 Fd Fd y3 hflh.out.symm hflh.out.symm ht6 ht8 (by omega) (by omega)
     rw [decide_eq_true (show Fd = Fd from rfl)] at cQ
     clear cR hr8 d3 ht8 ht6 hr2 hb2 by2
     go_wp2_with fail
     refine cQ.mono ?_
     rintro e y4 ⟨rfl, d4⟩
     have by4 := by3.trans (d4.mono by3.size)
     have hb4 := hb3.below d4
     clear cQ hb3 d4 by3
     go_wp2_with fail
     refine (go_nil 0 97 y4).mono ?_
     rintro e u ⟨rfl, hu⟩
     rw [hu]
     clear hu u
     go_wp2_with fail
     refine (DnM.len_nil y4).mono ?_
     rintro e u ⟨rfl, hu⟩
     rw [hu]
     clear hu u
     go_wp2_with fail
     refine (size_nil y4).mono ?_
     rintro e u ⟨rfl, hu⟩
     rw [hu]
     clear hu u
     go_wp2_with fail
     refine (row_nil 0 y4).mono ?_
     rintro e u ⟨rfl, hu⟩
     rw [hu]
     clear hu u
     go_wp2_with fail
     refine (sparse_nil 0 y4).mono ?_
     rintro e u ⟨rfl, hu⟩
     rw [hu]
     clear hu u
     go_wp2_with fail
     refine (hits_nil ⟨#[97]⟩ y4).mono ?_
     rintro e u ⟨rfl, hu⟩
     rw [hu]
     clear hu u
     go_wp2_with fail
     refine (MxA.apart_call y4 hb4 (by show 2 ≤ 250; decide) (by show 1 ≤ 250; decide) (by show 1 ≤ 250; decide) (fun x hx => by
      simp only [List.nil_append, List.cons_append, List.mem_cons, List.not_mem_nil, or_false] at hx
      rcases hx with rfl | rfl
      ·show (toI _).length ≤ _; unfold toI; rw [List.length_map, hlkh.out]; decide
      ·show (toI _).length ≤ _; unfold toI; rw [List.length_map, hl0h.out]; decide) (fun x hx => by
      have : x = (.slice V6 fl c6, asI Fd) := by simpa using hx
      rw [this]; show (asI Fd).length ≤ _; rw [asI_len]; have := hFl.out; omega) (fun x hx => by
      have : x = (.slice Vp m14 cp, toB SL) := by simpa using hx
      rw [this]; show (toB SL).length ≤ _; rw [toB_len]; have := hSlh.out; omega) by4.size).mono ?_
     rintro e y5 ⟨rfl, d5⟩
     have kE := bel4.out.trans ((by4.trans d5).mono bel4.out.size)
     go_wp2_with fail
     go_ret
     exact ⟨rfl, kE⟩
  ·have f2 : decide (k0 < (ln : Int)) = false := decide_eq_false hin
   have hk : k0 < 0 ∨ (R.length : Int) ≤ k0 := by rw [hRlh.out]; omega
   have c1 := go_out (hDn4.out.below b5) hk 97
   have c2 := row_out (hDn4.out.below b5) hk
   have c3 := sparse_out (hDn4.out.below b5) hk
   clear hk hin hk1
   go_wp2_with fail
   refine c1.mono ?_
   rintro e u ⟨rfl, hu⟩
   rw [hu]
   clear c1 hu u
   go_wp2_with fail
   refine c2.mono ?_
   rintro e u ⟨rfl, hu⟩
   rw [hu]
   clear c2 hu u
   go_wp2_with fail
   refine c3.mono ?_
   rintro e u ⟨rfl, hu⟩
   rw [hu]
   clear c3 hu u
   have cH := DnM.hits_call (hDn4.out.below b5) hlx.out (b24.out.trans (b5.mono b24.out.size)) b (by omega)
   obtain ⟨Fd, hFd⟩ : ∃ Fd, feedU zs [] 0 b.data.toList b.size = Fd := ⟨_, rfl⟩
   have hFdh : Hid (feedU zs [] 0 b.data.toList b.size = Fd) := hFd
   have hFl : Hid (Fd.length ≤ 4000) := by show _ ≤ _; rw [← hFd]; have := feedU_len (tr_build hokh.out) [] 0 b.data.toList b.size; omega
   rw [hFd] at cH
   obtain ⟨fl, hfl⟩ : ∃ fl, Fd.length = fl := ⟨_, rfl⟩
   have hflh : Hid (Fd.length = fl) := hfl
   have hfl2 : fl ≤ 4000 := by rw [← hfl]; exact hFl.out
   rw [hfl] at cH
   clear hFd hfl
   go_wp2_with fail
   refine cH.mono ?_
   rintro e y1 ⟨v6, rfl, hr6, b6⟩
   have by1 := b5.trans (b6.mono b5.size)
   have hrow : MHits.Row w4.heap.size y1 (v6, asI Fd) := MHits.own_mono (rowH hr6 hflh.out) b5.size
   obtain ⟨V6, c6, rfl, _⟩ := own_form hr6
   have cA := addH (x := (.slice V6 fl c6, asI Fd)) y1 (hbk.below b6) (by decide) hrow (fun y hy => (by cases hy)) (by show (asI Fd).length ≤ _; rw [asI_len]; have := hFl.out; omega) by1.size
   clear cH b6
   go_wp2_with fail
   refine cA.mono ?_
   rintro e y2 ⟨rfl, hb2, hst2, d2⟩
   have by2 := by1.trans d2
   have hr2 := hst2.row hr6 (by decide) (by decide)
   have cL := len_call (hDn4.out.below by2)
   rw [hRlh.out] at cL
   have cZ := DnM.size_call (hDn4.out.below by2) (by rw [hRlh.out]; omega)
   rw [hRlh.out] at cZ
   have eL : ((ln : Int) == (ln : Int)) = true := by simp
   obtain ⟨l256, hl256⟩ : ∃ l256 : Nat, 256 * ln = l256 := ⟨_, rfl⟩
   rw [hl256] at cZ
   have zL : IntKind.i64.wrap (256 * (ln : Int)) = (l256 : Int) := by rw [IntKind.wrap_i64]; omega
   have eZ : ((l256 : Int) == (l256 : Int)) = true := by simp
   have cR := RhA.hits_call A n cap zs ⟨#[]⟩ b 0 y2 hnh.out (hat4.out.below by2) (by omega) hlx.out.tr (by show (0 : Nat) ≤ _; omega) (by omega) (by omega)
   rw [show (⟨#[]⟩ : ByteArray).data.toList = [] from rfl, hFdh.out, hflh.out, show ((0 : Nat) : Int) = 0 from rfl] at cR
   clear cA hst2 d2 hr6 hrow by1 hl256
   go_wp2_with fail
   refine cL.mono ?_
   rintro e u ⟨rfl, hu⟩
   rw [hu]
   clear cL hu u
   go_wp2_with fail
   refine cZ.mono ?_
   rintro e u ⟨rfl, hu⟩
   rw [hu]
   clear cZ hu u
   go_wp2_with fail
   refine cR.mono ?_
   rintro e y3 ⟨v8, rfl, hr8, d3⟩
   have by3 := by2.trans (d3.mono by2.size)
   have hb3 := hb2.below d3
   obtain ⟨V8, c8, ev, ht8⟩ := row_hits hr8 hflh.out.symm
   subst ev
   obtain ⟨V6', c6', ev, ht6⟩ := row_hits (own_below hr2 d3) hflh.out.symm
   injection ev with ev1 ev2 ev3
   rw [← ev1] at ht6
   clear ev1 ev2 ev3
   have cQ := same_hits V6 V8 fl fl c6 c8 Fd Fd y3 hflh.out.symm hflh.out.symm ht6 ht8 (by omega) (by omega)
   rw [decide_eq_true (show Fd = Fd from rfl)] at cQ
   clear cR hr8 d3 ht8 ht6 hr2 hb2 by2
   go_wp2_with fail
   refine cQ.mono ?_
   rintro e y4 ⟨rfl, d4⟩
   have by4 := by3.trans (d4.mono by3.size)
   have hb4 := hb3.below d4
   clear cQ hb3 d4 by3
   go_wp2_with fail
   refine (go_nil 0 97 y4).mono ?_
   rintro e u ⟨rfl, hu⟩
   rw [hu]
   clear hu u
   go_wp2_with fail
   refine (DnM.len_nil y4).mono ?_
   rintro e u ⟨rfl, hu⟩
   rw [hu]
   clear hu u
   go_wp2_with fail
   refine (size_nil y4).mono ?_
   rintro e u ⟨rfl, hu⟩
   rw [hu]
   clear hu u
   go_wp2_with fail
   refine (row_nil 0 y4).mono ?_
   rintro e u ⟨rfl, hu⟩
   rw [hu]
   clear hu u
   go_wp2_with fail
   refine (sparse_nil 0 y4).mono ?_
   rintro e u ⟨rfl, hu⟩
   rw [hu]
   clear hu u
   go_wp2_with fail
   refine (hits_nil ⟨#[97]⟩ y4).mono ?_
   rintro e u ⟨rfl, hu⟩
   rw [hu]
   clear hu u
   go_wp2_with fail
   refine (MxA.apart_call y4 hb4 (by decide) (by show 1 ≤ 250; decide) (by decide) (fun x hx => by cases hx) (fun x hx => by
    have : x = (.slice V6 fl c6, asI Fd) := by simpa using hx
    rw [this]; show (asI Fd).length ≤ _; rw [asI_len]; have := hFl.out; omega) (fun x hx => by cases hx) by4.size).mono ?_
   rintro e y5 ⟨rfl, d5⟩
   have kE := bel4.out.trans ((by4.trans d5).mono bel4.out.size)
   go_wp2_with fail
   go_ret
   exact ⟨rfl, kE⟩
 ·have f1 : decide (k0 ≥ 0) = false := decide_eq_false hk1
  have hin : True := trivial
  have hk : k0 < 0 ∨ (R.length : Int) ≤ k0 := by rw [hRlh.out]; omega
  have c1 := go_out (hDn4.out.below b5) hk 97
  have c2 := row_out (hDn4.out.below b5) hk
  have c3 := sparse_out (hDn4.out.below b5) hk
  clear hk hin hk1
  go_wp2_with fail
  refine c1.mono ?_
  rintro e u ⟨rfl, hu⟩
  rw [hu]
  clear c1 hu u
  go_wp2_with fail
  refine c2.mono ?_
  rintro e u ⟨rfl, hu⟩
  rw [hu]
  clear c2 hu u
  go_wp2_with fail
  refine c3.mono ?_
  rintro e u ⟨rfl, hu⟩
  rw [hu]
  clear c3 hu u
  have cH := DnM.hits_call (hDn4.out.below b5) hlx.out (b24.out.trans (b5.mono b24.out.size)) b (by omega)
  obtain ⟨Fd, hFd⟩ : ∃ Fd, feedU zs [] 0 b.data.toList b.size = Fd := ⟨_, rfl⟩
  have hFdh : Hid (feedU zs [] 0 b.data.toList b.size = Fd) := hFd
  have hFl : Hid (Fd.length ≤ 4000) := by show _ ≤ _; rw [← hFd]; have := feedU_len (tr_build hokh.out) [] 0 b.data.toList b.size; omega
  rw [hFd] at cH
  obtain ⟨fl, hfl⟩ : ∃ fl, Fd.length = fl := ⟨_, rfl⟩
  have hflh : Hid (Fd.length = fl) := hfl
  have hfl2 : fl ≤ 4000 := by rw [← hfl]; exact hFl.out
  rw [hfl] at cH
  clear hFd hfl
  go_wp2_with fail
  refine cH.mono ?_
  rintro e y1 ⟨v6, rfl, hr6, b6⟩
  have by1 := b5.trans (b6.mono b5.size)
  have hrow : MHits.Row w4.heap.size y1 (v6, asI Fd) := MHits.own_mono (rowH hr6 hflh.out) b5.size
  obtain ⟨V6, c6, rfl, _⟩ := own_form hr6
  have cA := addH (x := (.slice V6 fl c6, asI Fd)) y1 (hbk.below b6) (by decide) hrow (fun y hy => (by cases hy)) (by show (asI Fd).length ≤ _; rw [asI_len]; have := hFl.out; omega) by1.size
  clear cH b6
  go_wp2_with fail
  refine cA.mono ?_
  rintro e y2 ⟨rfl, hb2, hst2, d2⟩
  have by2 := by1.trans d2
  have hr2 := hst2.row hr6 (by decide) (by decide)
  have cL := len_call (hDn4.out.below by2)
  rw [hRlh.out] at cL
  have cZ := DnM.size_call (hDn4.out.below by2) (by rw [hRlh.out]; omega)
  rw [hRlh.out] at cZ
  have eL : ((ln : Int) == (ln : Int)) = true := by simp
  obtain ⟨l256, hl256⟩ : ∃ l256 : Nat, 256 * ln = l256 := ⟨_, rfl⟩
  rw [hl256] at cZ
  have zL : IntKind.i64.wrap (256 * (ln : Int)) = (l256 : Int) := by rw [IntKind.wrap_i64]; omega
  have eZ : ((l256 : Int) == (l256 : Int)) = true := by simp
  have cR := RhA.hits_call A n cap zs ⟨#[]⟩ b 0 y2 hnh.out (hat4.out.below by2) (by omega) hlx.out.tr (by show (0 : Nat) ≤ _; omega) (by omega) (by omega)
  rw [show (⟨#[]⟩ : ByteArray).data.toList = [] from rfl, hFdh.out, hflh.out, show ((0 : Nat) : Int) = 0 from rfl] at cR
  clear cA hst2 d2 hr6 hrow by1 hl256
  go_wp2_with fail
  refine cL.mono ?_
  rintro e u ⟨rfl, hu⟩
  rw [hu]
  clear cL hu u
  go_wp2_with fail
  refine cZ.mono ?_
  rintro e u ⟨rfl, hu⟩
  rw [hu]
  clear cZ hu u
  go_wp2_with fail
  refine cR.mono ?_
  rintro e y3 ⟨v8, rfl, hr8, d3⟩
  have by3 := by2.trans (d3.mono by2.size)
  have hb3 := hb2.below d3
  obtain ⟨V8, c8, ev, ht8⟩ := row_hits hr8 hflh.out.symm
  subst ev
  obtain ⟨V6', c6', ev, ht6⟩ := row_hits (own_below hr2 d3) hflh.out.symm
  injection ev with ev1 ev2 ev3
  rw [← ev1] at ht6
  clear ev1 ev2 ev3
  have cQ := same_hits V6 V8 fl fl c6 c8 Fd Fd y3 hflh.out.symm hflh.out.symm ht6 ht8 (by omega) (by omega)
  rw [decide_eq_true (show Fd = Fd from rfl)] at cQ
  clear cR hr8 d3 ht8 ht6 hr2 hb2 by2
  go_wp2_with fail
  refine cQ.mono ?_
  rintro e y4 ⟨rfl, d4⟩
  have by4 := by3.trans (d4.mono by3.size)
  have hb4 := hb3.below d4
  clear cQ hb3 d4 by3
  go_wp2_with fail
  refine (go_nil 0 97 y4).mono ?_
  rintro e u ⟨rfl, hu⟩
  rw [hu]
  clear hu u
  go_wp2_with fail
  refine (DnM.len_nil y4).mono ?_
  rintro e u ⟨rfl, hu⟩
  rw [hu]
  clear hu u
  go_wp2_with fail
  refine (size_nil y4).mono ?_
  rintro e u ⟨rfl, hu⟩
  rw [hu]
  clear hu u
  go_wp2_with fail
  refine (row_nil 0 y4).mono ?_
  rintro e u ⟨rfl, hu⟩
  rw [hu]
  clear hu u
  go_wp2_with fail
  refine (sparse_nil 0 y4).mono ?_
  rintro e u ⟨rfl, hu⟩
  rw [hu]
  clear hu u
  go_wp2_with fail
  refine (hits_nil ⟨#[97]⟩ y4).mono ?_
  rintro e u ⟨rfl, hu⟩
  rw [hu]
  clear hu u
  go_wp2_with fail
  refine (MxA.apart_call y4 hb4 (by decide) (by show 1 ≤ 250; decide) (by decide) (fun x hx => by cases hx) (fun x hx => by
   have : x = (.slice V6 fl c6, asI Fd) := by simpa using hx
   rw [this]; show (asI Fd).length ≤ _; rw [asI_len]; have := hFl.out; omega) (fun x hx => by cases hx) by4.size).mono ?_
  rintro e y5 ⟨rfl, d5⟩
  have kE := bel4.out.trans ((by4.trans d5).mono bel4.out.size)
  go_wp2_with fail
  go_ret
  exact ⟨rfl, kE⟩
end Go.Proofs.YtdeeeechdlcdbaaGreat.DtW
