/- The walk of ScanTwo. -/
import Derived.Test.YtdeeeechdlcdbaaScA
import Derived.Test.YtdeeeechdlcdbaaTtN
import Derived.Test.YtdeeeechdlcdbaaPhW
import Derived.IntWalk
import Derived.Deep.QuietTactic
import Derived.BigQuiet
set_option linter.unusedVariables false
set_option linter.unusedSimpArgs false
namespace Go.Proofs.Ytdeeeechdlcdbaa.SwW
open Go Go.RowKit Go.Proofs Go.Proofs.Ytdeeeechdlcdbaa Go.Proofs.Ytdeeeechdlcdbaa.Base Go.Proofs.Ytdeeeechdlcdbaa.DiA Go.Proofs.Ytdeeeechdlcdbaa.DiB Go.Proofs.Ytdeeeechdlcdbaa.DiC Go.Proofs.Ytdeeeechdlcdbaa.TrP Go.Proofs.Ytdeeeechdlcdbaa.TrM Go.Proofs.Ytdeeeechdlcdbaa.TrA Go.Proofs.Ytdeeeechdlcdbaa.TrD Go.Proofs.Ytdeeeechdlcdbaa.TrE Go.Proofs.Ytdeeeechdlcdbaa.TtP Go.Proofs.Ytdeeeechdlcdbaa.TcP Go.Proofs.Ytdeeeechdlcdbaa.TwA Go.Proofs.Ytdeeeechdlcdbaa.LkA Go.Proofs.Ytdeeeechdlcdbaa.LkP Go.Proofs.Ytdeeeechdlcdbaa.LkM Go.Proofs.Ytdeeeechdlcdbaa.LkO Go.Proofs.Ytdeeeechdlcdbaa.LkQ Go.Proofs.Ytdeeeechdlcdbaa.LkN Go.Proofs.Ytdeeeechdlcdbaa.LkS Go.Proofs.Ytdeeeechdlcdbaa.LkX Go.Proofs.Ytdeeeechdlcdbaa.PhP Go.Proofs.Ytdeeeechdlcdbaa.PhW Go.Proofs.Ytdeeeechdlcdbaa.ScP Go.Proofs.Ytdeeeechdlcdbaa.ScS Go.Proofs.Ytdeeeechdlcdbaa.ScH Go.Proofs.Ytdeeeechdlcdbaa.ScF Go.Proofs.Ytdeeeechdlcdbaa.ScE Go.Proofs.Ytdeeeechdlcdbaa.ScX Go.Proofs.Ytdeeeechdlcdbaa.TtN Go.Proofs.Ytdeeeechdlcdbaa.ScA
theorem own_lt {w : World} {base : Nat} {e : TypeId} {size n : Nat} {v : Value} {xs : List Value} (h : w.ownsRow base e size v n xs) : ∀ k, v.ownBlock = some k → k < w.heap.size := by
  intro k hk
  rcases h.2 with ⟨h1, _⟩ | ⟨g, cap, cur, h1, h2, h3, _⟩
  · rw [h1] at hk; cases hk
  · rw [h1] at hk
    obtain rfl : g = k := by injection hk
    exact heap_lt h3
theorem own_apart {w w' : World} {base : Nat} {e : TypeId} {size n : Nat} {v : Value} {row : Option Nat} {xs : List Value} (h : w.ownsRow base e size v n xs) (hg : w.grownBy w' row) (hne : ∀ k, v.ownBlock = some k → row ≠ some k) : w'.ownsRow base e size v n xs := by
  refine ⟨h.1, ?_⟩
  rcases h.2 with h1 | ⟨g, cap, cur, h1, h2, h3, h4⟩
  · exact .inl h1
  · exact .inr ⟨g, cap, cur, h1, h2, (hg.block g (heap_lt h3) (fun e => hne g (by rw [h1]; rfl) e.symm)).trans h3, h4⟩
/-- The two rows' blocks differ. -/
def Dj (v1 v2 : Value) : Prop := ∀ k, v1.ownBlock = some k → v2.ownBlock ≠ some k
theorem dj_fwd {v1 v2 : Value} (h : Dj v1 v2) : ∀ k, v2.ownBlock = some k → v1.ownBlock ≠ some k := fun k h2 h1 => h k h1 h2
theorem dj_bwd {v1 v2 : Value} (h : Dj v1 v2) : ∀ k, v1.ownBlock = some k → v2.ownBlock ≠ some k := h
theorem dj_new1 {v1 v2 v : Value} {n : Nat} (h : Dj v1 v2) (hv : v.ownBlock = v1.ownBlock ∨ v.ownBlock = some n) (hl : ∀ k, v2.ownBlock = some k → k < n) : Dj v v2 := by
  intro k h1 h2
  rcases hv with e | e
  · exact h k (e ▸ h1) h2
  · rw [e] at h1
    have := hl k h2
    injection h1 with h1
    omega
theorem dj_new2 {v1 v2 v : Value} {n : Nat} (h : Dj v1 v2) (hv : v.ownBlock = v2.ownBlock ∨ v.ownBlock = some n) (hl : ∀ k, v1.ownBlock = some k → k < n) : Dj v1 v := by
  intro k h1 h2
  rcases hv with e | e
  · exact h k h1 (e ▸ h2)
  · rw [e] at h2
    have := hl k h1
    injection h2 with h2
    omega
theorem max_lt (i x y : Nat) : (i : Int) < max (x : Int) (y : Int) ↔ i < x ∨ i < y := by
  rw [Int.max_def]
  split <;> omega
set_option maxHeartbeats 400000 in
theorem law_few (A : Option Addr) (n cap : Nat) (a : ByteArray) (b : ByteArray) (w : World) (hf : Calls Try.prog 23 #[.slice A n cap] w fun e w' => e = .returned (.bool false) ∧ w' = w) :
    Calls Try.prog 19 #[.slice A n cap, .string a, .string b] w fun e w' => e = .returned (.bool true) ∧ Below w.heap.size w w' := by
  go_enter Try.func19, Try.ntmps19
  go_wp2_with fail
  refine hf.mono ?_
  rintro e w1 ⟨rfl, hw⟩
  rw [hw]
  clear hf hw
  go_wp2_with fail
  refine (ScX.alive_call _).mono ?_
  rintro e w2 ⟨rfl, b2⟩
  go_wp2_with fail
  go_ret
  exact ⟨rfl, b2⟩
set_option maxHeartbeats 400000 in
theorem law_out0 (A : Option Addr) (n cap : Nat) (a : ByteArray) (b : ByteArray) (w : World) (hf : Calls Try.prog 23 #[.slice A n cap] w fun e w' => e = .returned (.bool true) ∧ w' = w) (z0 : IntKind.i64.wrap ((a.size : Int) + (b.size : Int)) = (a.size : Int) + (b.size : Int)) (hd0 : decide ((a.size : Int) + (b.size : Int) > 200) = true) :
    Calls Try.prog 19 #[.slice A n cap, .string a, .string b] w fun e w' => e = .returned (.bool true) ∧ Below w.heap.size w w' := by
  go_enter Try.func19, Try.ntmps19
  go_wp2_with fail
  refine hf.mono ?_
  rintro e w1 ⟨rfl, hw⟩
  rw [hw]
  clear hf hw
  go_wp2_with fail
  refine (ScX.alive_call _).mono ?_
  rintro e w2 ⟨rfl, b2⟩
  go_wp2_with fail
  go_ret
  exact ⟨rfl, b2⟩
set_option maxRecDepth 20000 in
set_option maxHeartbeats 8000000 in
theorem law_in (A : Option Addr) (n cap : Nat) (zs : List ByteArray) (a : ByteArray) (b : ByteArray) (w : World) (hf : Calls Try.prog 23 #[.slice A n cap] w fun e w' => e = .returned (.bool true) ∧ w' = w)
    (hn : n = zs.length) (hat : StrsAt w A zs) (hn1 : n ≤ 110) (htot : total zs ≤ 1300) (z0 : IntKind.i64.wrap ((a.size : Int) + (b.size : Int)) = (a.size : Int) + (b.size : Int)) (hd0 : decide ((a.size : Int) + (b.size : Int) > 200) = false) :
    Calls Try.prog 19 #[.slice A n cap, .string a, .string b] w fun e w' => e = .returned (.bool true) ∧ Below w.heap.size w w' := by
  have hnh : Hid (n = zs.length) := hn
  clear hn
  go_enter Try.func19, Try.ntmps19
  go_wp2_with fail
  refine hf.mono ?_
  rintro e w1 ⟨rfl, hw⟩
  rw [hw]
  clear hf hw w1
  go_wp2_with fail
  refine (ScX.alive_call _).mono ?_
  rintro e w1 ⟨rfl, bel⟩
  have hat1 := hat.below bel
  go_wp2_with fail
  refine (phrases_any A n cap zs w1 hnh.out hat1 (by omega)).mono ?_
  rintro e w2 ⟨hph, hw⟩
  rw [hw]
  clear hw w2
  rcases hph with ⟨hok, rfl⟩ | ⟨hok, c0, k0, hc0, rfl⟩
  rotate_left
  · have hcd : (c0 != 0) = true := by simp [hc0]
    clear hat hat1 hok
    go_wp2_with fail
    go_ret
    exact ⟨rfl, bel⟩
  go_wp2_with fail
  refine (lmake_any A n cap zs w1 hnh.out hat1 (by omega)).mono ?_
  rintro e w2 ⟨b2, ⟨hno, _⟩ | ⟨_, p, B, px, m, N, F, O, L, rfl, hl⟩⟩
  · rw [hok] at hno; cases hno
  replace bel := bstep bel b2
  have hat2 := hat1.below b2
  clear hat1 b2 hat
  have hT := tr_build hok
  have hok2 := hl.ok
  have heq := hl.eq
  have hlen := hl.len
  have hla := hl.at_
  clear hl
  obtain ⟨X, hX⟩ : ∃ X, build zs zs.length = X := ⟨_, rfl⟩
  rw [hX] at hT hok2 heq
  have hXb : Hid (build zs zs.length = X) := hX
  have hTh : Hid (Tr zs X) := hT
  have hOk : Hid (LkOk X F O L) := hok2
  have hNX : Hid (N.map (·.p) = X) := heq
  obtain ⟨ln, hln⟩ : ∃ ln, N.length = ln := ⟨_, rfl⟩
  have hln1 : ln ≤ 1301 := by omega
  have hlnh : Hid (N.length = ln) := hln
  have hXl : Hid (X.length = ln) := by show _ = _; rw [← hNX.out, List.length_map, hln]
  have hokh : Hid (okD zs = true) := hok
  clear hX hT hok2 heq hln hlen hok
  have hlx : Hid (Lx w2 p zs X) := Lib.hid ⟨⟨B, px, m, N, F, O, L, hla, hNX.out, hOk.out, by have := hlnh.out; omega⟩, hTh.out⟩
  clear hla
  have cN := new_any hlx.out (Below.refl _ w2)
  have hwsz := bel.size
  clear hat2
  go_wp2_with fail
  refine cN.mono ?_
  rintro e w3 ⟨q1, rfl, hq1, S1, b3⟩
  replace bel := bstep bel b3
  have cN2 := new_any hlx.out b3
  have hl1 := S1.lt
  clear cN
  go_wp2_with fail
  refine cN2.mono ?_
  rintro e w4 ⟨q2, rfl, hq2', S2, b4⟩
  replace bel := bstep bel b4
  replace S1 := S1.below b4
  have hq21 : q2 ≠ q1 := by omega
  have hq12 : q1 ≠ q2 := by omega
  have hq2 : w2.heap.size ≤ q2 := S2.ge
  have hw1 : w.heap.size ≤ q1 := by omega
  have hw2 : w.heap.size ≤ q2 := by omega
  have hlt1 := S1.lt
  have hlt2 := S2.lt
  have hw4 : w.heap.size ≤ w4.heap.size := bel.size
  have hw24 : w2.heap.size ≤ w4.heap.size := S1.bel.size
  have g0 := of_decide_eq_false hd0
  have ha9 : a.size ≤ 200 := by omega
  have hb9 : b.size ≤ 200 := by omega
  have hFa : Hid (∀ i, (feedU zs [] 0 a.data.toList i).length ≤ 40 * i) := feedU_len hTh.out [] 0 a.data.toList
  have hFb : Hid (∀ i, (feedU zs [] 0 b.data.toList i).length ≤ 40 * i) := feedU_len hTh.out [] 0 b.data.toList
  have hla : Hid (a.data.toList.length = a.size) := (size_list a).symm
  have hlb : Hid (b.data.toList.length = b.size) := (size_list b).symm
  have nil1 : w4.ownsRow w4.heap.size 35 2 (.slice none 0 0) 0 (hitC (feedU zs [] 0 a.data.toList 0)) := World.ownsRow_nil _ _ _ _
  have nil2 : w4.ownsRow w4.heap.size 35 2 (.slice none 0 0) 0 (hitC (feedU zs [] 0 b.data.toList 0)) := World.ownsRow_nil _ _ _ _
  have hn10 : Hid (0 = (feedU zs [] 0 a.data.toList 0).length) := rfl
  have hn20 : Hid (0 = (feedU zs [] 0 b.data.toList 0).length) := rfl
  have dj0 : Dj (.slice none 0 0) (.slice none 0 0) := fun k h => by cases h
  have S10 : Sc w2 p q1 X (a.data.toList.take 0) 0 w4 := S1
  have S20 : Sc w2 p q2 X (b.data.toList.take 0) 0 w4 := S2
  rw [show (0 : Nat) = min 0 a.size from (Nat.zero_min _).symm] at S10
  rw [show (0 : Nat) = min 0 b.size from (Nat.zero_min _).symm] at S20
  clear S1 S2 cN2 b3 b4 g0 hd0 hq2' hl1 hq1
  have hq1 : w2.heap.size ≤ q1 := S10.ge
  go_wp2_with fail
  go_loopw [12, 13, 14] (fun s12 s13 s14 wr => ∃ (i n1 n2 : Nat), i ≤ a.size + b.size ∧ s14 = .int .i64 (i : Int) ∧ Hid (n1 = (feedU zs [] 0 a.data.toList (min i a.size)).length) ∧ Hid (n2 = (feedU zs [] 0 b.data.toList (min i b.size)).length) ∧ wr.ownsRow w4.heap.size 35 2 s12 n1 (hitC (feedU zs [] 0 a.data.toList (min i a.size))) ∧ wr.ownsRow w4.heap.size 35 2 s13 n2 (hitC (feedU zs [] 0 b.data.toList (min i b.size))) ∧ Dj s12 s13 ∧ Sc w2 p q1 X (a.data.toList.take (min i a.size)) (min i a.size) wr ∧ Sc w2 p q2 X (b.data.toList.take (min i b.size)) (min i b.size) wr ∧ Below w.heap.size w wr ∧ w4.heap.size ≤ wr.heap.size) (fun _ _ s14 _ => a.size + b.size - (intOf s14).toNat)
  case atStart => exact ⟨0, 0, 0, Nat.zero_le _, rfl, by rw [Nat.zero_min]; exact hn10, by rw [Nat.zero_min]; exact hn20, by rw [Nat.zero_min]; exact nil1, by rw [Nat.zero_min]; exact nil2, dj0, S10, S20, bel, Nat.le_refl _⟩
  case round =>
    clear nil1 nil2 S10 S20 bel hn10 hn20 dj0
    obtain ⟨i, n1, n2, hi, rfl, hn1r, hn2r, rw1, rw2, dj, S1, S2, bel, hsz⟩ := hrel
    obtain ⟨U1, c1, rfl, _⟩ := own_form rw1
    obtain ⟨U2, c2, rfl, _⟩ := own_form rw2
    by_cases hia : i < a.size
    · have hcase : i < a.size ∨ i < b.size := .inl hia
      have hmxh : Hid ((i : Int) < max (a.size : Int) (b.size : Int)) := (max_lt i _ _).2 hcase
      by_cases hib : i < b.size
      · have cF1 := fun (W : World) (hS : Sc w2 p q1 X (a.data.toList.take i) i W) => feed_call hlx.out hS (a.extract i (i + 1)) (by rw [ByteArray.size_extract, Nat.min_eq_left (by omega), Nat.add_sub_cancel_left]; decide) (by omega)
        have e1 : (a.extract i (i + 1)).data.toList = (a.data.toList.drop i).take 1 := by rw [ext_list, Nat.add_sub_cancel_left]
        have s1 : (a.extract i (i + 1)).size = 1 := by rw [ByteArray.size_extract, Nat.min_eq_left (by omega), Nat.add_sub_cancel_left]
        have ad1 : a.data.toList.take i ++ (a.data.toList.drop i).take 1 = a.data.toList.take (i + 1) := (List.take_add).symm
        rw [e1, s1, ad1] at cF1
        have ap1 := feedU_app zs a.data.toList i 1 (by rw [hla.out]; omega)
        have ln1 := hFa.out (i + 1)
        obtain ⟨m1, hm1⟩ : ∃ m, (feedU zs [] 0 a.data.toList (i + 1)).length = m := ⟨_, rfl⟩
        have hm1h : Hid (m1 = (feedU zs [] 0 a.data.toList (i + 1)).length) := hm1.symm
        rw [hm1] at ln1
        generalize feedU zs (a.data.toList.take i) i ((a.data.toList.drop i).take 1) 1 = Y1 at cF1 ap1
        have ap1h : Hid (feedU zs [] 0 a.data.toList (i + 1) = feedU zs [] 0 a.data.toList i ++ Y1) := ap1
        obtain ⟨nY1, hnY1⟩ : ∃ nY, Y1.length = nY := ⟨_, rfl⟩
        have hnY1h : Hid (nY1 = Y1.length) := hnY1.symm
        rw [hnY1] at cF1
        have hi1 : i + 1 ≤ a.size := by omega
        have hid1 : decide ((i : Int) < (a.size : Int)) = true := decide_eq_true (by omega)
        have hii1 : (i : Int) < (a.size : Int) := by omega
        obtain ⟨t1, ht1⟩ : ∃ t, a.extract i (i + 1) = t := ⟨_, rfl⟩
        rw [ht1] at cF1
        clear hm1 hnY1 ap1 e1 s1 ad1
        have cF2 := fun (W : World) (hS : Sc w2 p q2 X (b.data.toList.take i) i W) => feed_call hlx.out hS (b.extract i (i + 1)) (by rw [ByteArray.size_extract, Nat.min_eq_left (by omega), Nat.add_sub_cancel_left]; decide) (by omega)
        have e2 : (b.extract i (i + 1)).data.toList = (b.data.toList.drop i).take 1 := by rw [ext_list, Nat.add_sub_cancel_left]
        have s2 : (b.extract i (i + 1)).size = 1 := by rw [ByteArray.size_extract, Nat.min_eq_left (by omega), Nat.add_sub_cancel_left]
        have ad2 : b.data.toList.take i ++ (b.data.toList.drop i).take 1 = b.data.toList.take (i + 1) := (List.take_add).symm
        rw [e2, s2, ad2] at cF2
        have ap2 := feedU_app zs b.data.toList i 1 (by rw [hlb.out]; omega)
        have ln2 := hFb.out (i + 1)
        obtain ⟨m2, hm2⟩ : ∃ m, (feedU zs [] 0 b.data.toList (i + 1)).length = m := ⟨_, rfl⟩
        have hm2h : Hid (m2 = (feedU zs [] 0 b.data.toList (i + 1)).length) := hm2.symm
        rw [hm2] at ln2
        generalize feedU zs (b.data.toList.take i) i ((b.data.toList.drop i).take 1) 1 = Y2 at cF2 ap2
        have ap2h : Hid (feedU zs [] 0 b.data.toList (i + 1) = feedU zs [] 0 b.data.toList i ++ Y2) := ap2
        obtain ⟨nY2, hnY2⟩ : ∃ nY, Y2.length = nY := ⟨_, rfl⟩
        have hnY2h : Hid (nY2 = Y2.length) := hnY2.symm
        rw [hnY2] at cF2
        have hi2 : i + 1 ≤ b.size := by omega
        have hid2 : decide ((i : Int) < (b.size : Int)) = true := decide_eq_true (by omega)
        have hii2 : (i : Int) < (b.size : Int) := by omega
        obtain ⟨t2, ht2⟩ : ∃ t, b.extract i (i + 1) = t := ⟨_, rfl⟩
        rw [ht2] at cF2
        clear hm2 hnY2 ap2 e2 s2 ad2
        clear hcase
        have z1 : IntKind.i64.wrap ((i : Int) + 1) = (i : Int) + 1 := by rw [IntKind.wrap_i64]; omega
        have mia : min i a.size = i := Nat.min_eq_left (by omega)
        have mja : min (i + 1) a.size = i + 1 := Nat.min_eq_left (by omega)
        have mib : min i b.size = i := Nat.min_eq_left (by omega)
        have mjb : min (i + 1) b.size = i + 1 := Nat.min_eq_left (by omega)
        rw [mia] at S1 hn1r rw1
        rw [mib] at S2 hn2r rw2
        clear mia mib
        have mjah : Hid (min (i + 1) a.size = _) := mja
        have mjbh : Hid (min (i + 1) b.size = _) := mjb
        clear mja mjb
        have hn1 : Hid (n1 = _) := hn1r
        have hn2 : Hid (n2 = _) := hn2r
        clear hn1r hn2r
        have hmi := hmxh.out
        have hmx : decide ((i : Int) < max (a.size : Int) (b.size : Int)) = true := decide_eq_true hmi
        clear hmxh
        go_wp2_with fail
        refine (cF1 wr S1).mono ?_
        clear hmi hmx
        rintro e wrf ⟨vf, rfl, hrf, Sf, tf⟩
        replace S2 := S2.twin tf hq1 hq21
        replace rw1 := own_twin rw1 tf (fun e => by have := own_ge rw1 q1 e; omega)
        replace rw2 := own_twin rw2 tf (fun e => by have := own_ge rw2 q1 e; omega)
        replace bel := bel.trans (tf.below bel.size hw1 hw1)
        replace hsz : w4.heap.size ≤ wrf.heap.size := Nat.le_trans hsz tf.size
        obtain ⟨Vf, cpf, rfl, _⟩ := own_form hrf
        clear cF1 S1 tf
        go_wp2_with (first | (at_builtin; refine wp_app rfl (.tmp 63) (.tmp 70) rfl w4.heap.size n1 m1 _ _ rfl rw1 hn1.out _ nY1 _ _ _ rfl hrf hnY1h.out ap1h.out hm1h.out (by omega) hsz ?_))
        intro V1 cp1 wrg rwn hg9 hfr
        have S1 := Sc.grown Sf hg9 (fun k hk => by have := own_ge rw1 k hk; omega)
        replace S2 := Sc.grown S2 hg9 (fun k hk => by have := own_ge rw1 k hk; omega)
        replace bel := bel.grown hg9 bel.size (fun k hk => by have := own_ge rw1 k hk; omega)
        have hlo := own_lt rw2
        replace rw2 := own_apart rw2 hg9 (dj_fwd dj)
        replace dj := dj_new1 dj hfr hlo
        clear rw1
        have rw1 := rwn
        replace hsz : w4.heap.size ≤ wrg.heap.size := Nat.le_trans hsz hg9.size
        clear hg9 Sf hrf rwn hfr hlo
        go_wp2_with fail
        refine (cF2 wrg S2).mono ?_
        rintro e wrgf ⟨vf, rfl, hrf, Sf, tf⟩
        replace S1 := S1.twin tf hq2 hq12
        replace rw1 := own_twin rw1 tf (fun e => by have := own_ge rw1 q2 e; omega)
        replace rw2 := own_twin rw2 tf (fun e => by have := own_ge rw2 q2 e; omega)
        replace bel := bel.trans (tf.below bel.size hw2 hw2)
        replace hsz : w4.heap.size ≤ wrgf.heap.size := Nat.le_trans hsz tf.size
        obtain ⟨Vf, cpf, rfl, _⟩ := own_form hrf
        clear cF2 S2 tf
        go_wp2_with (first | (at_builtin; refine wp_app rfl (.tmp 76) (.tmp 83) rfl w4.heap.size n2 m2 _ _ rfl rw2 hn2.out _ nY2 _ _ _ rfl hrf hnY2h.out ap2h.out hm2h.out (by omega) hsz ?_))
        intro V2 cp2 wrgg rwn hg9 hfr
        have S2 := Sc.grown Sf hg9 (fun k hk => by have := own_ge rw2 k hk; omega)
        replace S1 := Sc.grown S1 hg9 (fun k hk => by have := own_ge rw2 k hk; omega)
        replace bel := bel.grown hg9 bel.size (fun k hk => by have := own_ge rw2 k hk; omega)
        have hlo := own_lt rw1
        replace rw1 := own_apart rw1 hg9 (dj_bwd dj)
        replace dj := dj_new2 dj hfr hlo
        clear rw2
        have rw2 := rwn
        replace hsz : w4.heap.size ≤ wrgg.heap.size := Nat.le_trans hsz hg9.size
        clear hg9 Sf hrf rwn hfr hlo
        go_wp2_with fail
        go_roundw
        case rel => exact ⟨i + 1, m1, m2, by omega, by go_num, by rw [mjah.out]; exact Lib.hid hm1h.out, by rw [mjbh.out]; exact Lib.hid hm2h.out, by rw [mjah.out]; exact rw1, by rw [mjbh.out]; exact rw2, dj, by rw [mjah.out]; exact S1, by rw [mjbh.out]; exact S2, bel, hsz⟩
        case measure => simp [intOf]; omega
      · have cF1 := fun (W : World) (hS : Sc w2 p q1 X (a.data.toList.take i) i W) => feed_call hlx.out hS (a.extract i (i + 1)) (by rw [ByteArray.size_extract, Nat.min_eq_left (by omega), Nat.add_sub_cancel_left]; decide) (by omega)
        have e1 : (a.extract i (i + 1)).data.toList = (a.data.toList.drop i).take 1 := by rw [ext_list, Nat.add_sub_cancel_left]
        have s1 : (a.extract i (i + 1)).size = 1 := by rw [ByteArray.size_extract, Nat.min_eq_left (by omega), Nat.add_sub_cancel_left]
        have ad1 : a.data.toList.take i ++ (a.data.toList.drop i).take 1 = a.data.toList.take (i + 1) := (List.take_add).symm
        rw [e1, s1, ad1] at cF1
        have ap1 := feedU_app zs a.data.toList i 1 (by rw [hla.out]; omega)
        have ln1 := hFa.out (i + 1)
        obtain ⟨m1, hm1⟩ : ∃ m, (feedU zs [] 0 a.data.toList (i + 1)).length = m := ⟨_, rfl⟩
        have hm1h : Hid (m1 = (feedU zs [] 0 a.data.toList (i + 1)).length) := hm1.symm
        rw [hm1] at ln1
        generalize feedU zs (a.data.toList.take i) i ((a.data.toList.drop i).take 1) 1 = Y1 at cF1 ap1
        have ap1h : Hid (feedU zs [] 0 a.data.toList (i + 1) = feedU zs [] 0 a.data.toList i ++ Y1) := ap1
        obtain ⟨nY1, hnY1⟩ : ∃ nY, Y1.length = nY := ⟨_, rfl⟩
        have hnY1h : Hid (nY1 = Y1.length) := hnY1.symm
        rw [hnY1] at cF1
        have hi1 : i + 1 ≤ a.size := by omega
        have hid1 : decide ((i : Int) < (a.size : Int)) = true := decide_eq_true (by omega)
        have hii1 : (i : Int) < (a.size : Int) := by omega
        obtain ⟨t1, ht1⟩ : ∃ t, a.extract i (i + 1) = t := ⟨_, rfl⟩
        rw [ht1] at cF1
        clear hm1 hnY1 ap1 e1 s1 ad1
        have hid2 : decide ((i : Int) < (b.size : Int)) = false := decide_eq_false (by omega)
        have hii2 : ¬ (i : Int) < (b.size : Int) := by omega
        clear hcase
        have z1 : IntKind.i64.wrap ((i : Int) + 1) = (i : Int) + 1 := by rw [IntKind.wrap_i64]; omega
        have mia : min i a.size = i := Nat.min_eq_left (by omega)
        have mja : min (i + 1) a.size = i + 1 := Nat.min_eq_left (by omega)
        have mib : min i b.size = b.size := Nat.min_eq_right (by omega)
        have mjb : min (i + 1) b.size = b.size := Nat.min_eq_right (by omega)
        rw [mia] at S1 hn1r rw1
        rw [mib] at S2 hn2r rw2
        clear mia mib
        have mjah : Hid (min (i + 1) a.size = _) := mja
        have mjbh : Hid (min (i + 1) b.size = _) := mjb
        clear mja mjb
        have hn1 : Hid (n1 = _) := hn1r
        have hn2 : Hid (n2 = _) := hn2r
        clear hn1r hn2r
        have hmi := hmxh.out
        have hmx : decide ((i : Int) < max (a.size : Int) (b.size : Int)) = true := decide_eq_true hmi
        clear hmxh
        go_wp2_with fail
        refine (cF1 wr S1).mono ?_
        clear hmi hmx
        rintro e wrf ⟨vf, rfl, hrf, Sf, tf⟩
        replace S2 := S2.twin tf hq1 hq21
        replace rw1 := own_twin rw1 tf (fun e => by have := own_ge rw1 q1 e; omega)
        replace rw2 := own_twin rw2 tf (fun e => by have := own_ge rw2 q1 e; omega)
        replace bel := bel.trans (tf.below bel.size hw1 hw1)
        replace hsz : w4.heap.size ≤ wrf.heap.size := Nat.le_trans hsz tf.size
        obtain ⟨Vf, cpf, rfl, _⟩ := own_form hrf
        clear cF1 S1 tf
        go_wp2_with (first | (at_builtin; refine wp_app rfl (.tmp 63) (.tmp 70) rfl w4.heap.size n1 m1 _ _ rfl rw1 hn1.out _ nY1 _ _ _ rfl hrf hnY1h.out ap1h.out hm1h.out (by omega) hsz ?_))
        intro V1 cp1 wrg rwn hg9 hfr
        have S1 := Sc.grown Sf hg9 (fun k hk => by have := own_ge rw1 k hk; omega)
        replace S2 := Sc.grown S2 hg9 (fun k hk => by have := own_ge rw1 k hk; omega)
        replace bel := bel.grown hg9 bel.size (fun k hk => by have := own_ge rw1 k hk; omega)
        have hlo := own_lt rw2
        replace rw2 := own_apart rw2 hg9 (dj_fwd dj)
        replace dj := dj_new1 dj hfr hlo
        clear rw1
        have rw1 := rwn
        replace hsz : w4.heap.size ≤ wrg.heap.size := Nat.le_trans hsz hg9.size
        clear hg9 Sf hrf rwn hfr hlo
        go_wp2_with fail
        go_roundw
        case rel => exact ⟨i + 1, m1, n2, by omega, by go_num, by rw [mjah.out]; exact Lib.hid hm1h.out, by rw [mjbh.out]; exact Lib.hid hn2.out, by rw [mjah.out]; exact rw1, by rw [mjbh.out]; exact rw2, dj, by rw [mjah.out]; exact S1, by rw [mjbh.out]; exact S2, bel, hsz⟩
        case measure => simp [intOf]; omega
    · by_cases hib : i < b.size
      · have hcase : i < a.size ∨ i < b.size := .inr hib
        have hmxh : Hid ((i : Int) < max (a.size : Int) (b.size : Int)) := (max_lt i _ _).2 hcase
        have hid1 : decide ((i : Int) < (a.size : Int)) = false := decide_eq_false (by omega)
        have hii1 : ¬ (i : Int) < (a.size : Int) := by omega
        have cF2 := fun (W : World) (hS : Sc w2 p q2 X (b.data.toList.take i) i W) => feed_call hlx.out hS (b.extract i (i + 1)) (by rw [ByteArray.size_extract, Nat.min_eq_left (by omega), Nat.add_sub_cancel_left]; decide) (by omega)
        have e2 : (b.extract i (i + 1)).data.toList = (b.data.toList.drop i).take 1 := by rw [ext_list, Nat.add_sub_cancel_left]
        have s2 : (b.extract i (i + 1)).size = 1 := by rw [ByteArray.size_extract, Nat.min_eq_left (by omega), Nat.add_sub_cancel_left]
        have ad2 : b.data.toList.take i ++ (b.data.toList.drop i).take 1 = b.data.toList.take (i + 1) := (List.take_add).symm
        rw [e2, s2, ad2] at cF2
        have ap2 := feedU_app zs b.data.toList i 1 (by rw [hlb.out]; omega)
        have ln2 := hFb.out (i + 1)
        obtain ⟨m2, hm2⟩ : ∃ m, (feedU zs [] 0 b.data.toList (i + 1)).length = m := ⟨_, rfl⟩
        have hm2h : Hid (m2 = (feedU zs [] 0 b.data.toList (i + 1)).length) := hm2.symm
        rw [hm2] at ln2
        generalize feedU zs (b.data.toList.take i) i ((b.data.toList.drop i).take 1) 1 = Y2 at cF2 ap2
        have ap2h : Hid (feedU zs [] 0 b.data.toList (i + 1) = feedU zs [] 0 b.data.toList i ++ Y2) := ap2
        obtain ⟨nY2, hnY2⟩ : ∃ nY, Y2.length = nY := ⟨_, rfl⟩
        have hnY2h : Hid (nY2 = Y2.length) := hnY2.symm
        rw [hnY2] at cF2
        have hi2 : i + 1 ≤ b.size := by omega
        have hid2 : decide ((i : Int) < (b.size : Int)) = true := decide_eq_true (by omega)
        have hii2 : (i : Int) < (b.size : Int) := by omega
        obtain ⟨t2, ht2⟩ : ∃ t, b.extract i (i + 1) = t := ⟨_, rfl⟩
        rw [ht2] at cF2
        clear hm2 hnY2 ap2 e2 s2 ad2
        clear hcase
        have z1 : IntKind.i64.wrap ((i : Int) + 1) = (i : Int) + 1 := by rw [IntKind.wrap_i64]; omega
        have mia : min i a.size = a.size := Nat.min_eq_right (by omega)
        have mja : min (i + 1) a.size = a.size := Nat.min_eq_right (by omega)
        have mib : min i b.size = i := Nat.min_eq_left (by omega)
        have mjb : min (i + 1) b.size = i + 1 := Nat.min_eq_left (by omega)
        rw [mia] at S1 hn1r rw1
        rw [mib] at S2 hn2r rw2
        clear mia mib
        have mjah : Hid (min (i + 1) a.size = _) := mja
        have mjbh : Hid (min (i + 1) b.size = _) := mjb
        clear mja mjb
        have hn1 : Hid (n1 = _) := hn1r
        have hn2 : Hid (n2 = _) := hn2r
        clear hn1r hn2r
        have hmi := hmxh.out
        have hmx : decide ((i : Int) < max (a.size : Int) (b.size : Int)) = true := decide_eq_true hmi
        clear hmxh
        go_wp2_with fail
        refine (cF2 wr S2).mono ?_
        clear hmi hmx
        rintro e wrf ⟨vf, rfl, hrf, Sf, tf⟩
        replace S1 := S1.twin tf hq2 hq12
        replace rw1 := own_twin rw1 tf (fun e => by have := own_ge rw1 q2 e; omega)
        replace rw2 := own_twin rw2 tf (fun e => by have := own_ge rw2 q2 e; omega)
        replace bel := bel.trans (tf.below bel.size hw2 hw2)
        replace hsz : w4.heap.size ≤ wrf.heap.size := Nat.le_trans hsz tf.size
        obtain ⟨Vf, cpf, rfl, _⟩ := own_form hrf
        clear cF2 S2 tf
        go_wp2_with (first | (at_builtin; refine wp_app rfl (.tmp 76) (.tmp 83) rfl w4.heap.size n2 m2 _ _ rfl rw2 hn2.out _ nY2 _ _ _ rfl hrf hnY2h.out ap2h.out hm2h.out (by omega) hsz ?_))
        intro V2 cp2 wrg rwn hg9 hfr
        have S2 := Sc.grown Sf hg9 (fun k hk => by have := own_ge rw2 k hk; omega)
        replace S1 := Sc.grown S1 hg9 (fun k hk => by have := own_ge rw2 k hk; omega)
        replace bel := bel.grown hg9 bel.size (fun k hk => by have := own_ge rw2 k hk; omega)
        have hlo := own_lt rw1
        replace rw1 := own_apart rw1 hg9 (dj_bwd dj)
        replace dj := dj_new2 dj hfr hlo
        clear rw2
        have rw2 := rwn
        replace hsz : w4.heap.size ≤ wrg.heap.size := Nat.le_trans hsz hg9.size
        clear hg9 Sf hrf rwn hfr hlo
        go_wp2_with fail
        go_roundw
        case rel => exact ⟨i + 1, n1, m2, by omega, by go_num, by rw [mjah.out]; exact Lib.hid hn1.out, by rw [mjbh.out]; exact Lib.hid hm2h.out, by rw [mjah.out]; exact rw1, by rw [mjbh.out]; exact rw2, dj, by rw [mjah.out]; exact S1, by rw [mjbh.out]; exact S2, bel, hsz⟩
        case measure => simp [intOf]; omega
      · have hmx : decide ((i : Int) < max (a.size : Int) (b.size : Int)) = false := decide_eq_false (fun h => by rcases (max_lt i _ _).1 h with h | h <;> omega)
        have hmi : ¬ (i : Int) < max (a.size : Int) (b.size : Int) := of_decide_eq_false hmx
        have mia : min i a.size = a.size := Nat.min_eq_right (Nat.le_of_not_lt hia)
        have mib : min i b.size = b.size := Nat.min_eq_right (Nat.le_of_not_lt hib)
        rw [mia] at S1 hn1r rw1
        rw [mib] at S2 hn2r rw2
        have hn1 : Hid (n1 = _) := hn1r
        have hn2 : Hid (n2 = _) := hn2r
        obtain ⟨V1, cq1, e1, hV1⟩ := row_hits rw1 hn1.out
        injection e1 with e11 e12 e13
        rw [← e11] at hV1
        obtain ⟨V2, cq2, e2, hV2⟩ := row_hits rw2 hn2.out
        injection e2 with e21 e22 e23
        rw [← e21] at hV2
        clear mia mib e11 e12 e13 e21 e22 e23 V1 V2 cq1 cq2 hn1r hn2r rw1 rw2 dj
        have haa : ((a.size : Int) == (a.size : Int)) = true := by simp
        have hbb : ((b.size : Int) == (b.size : Int)) = true := by simp
        go_wp2_with fail
        clear hmx hmi
        refine (all_any hlx.out S1.bel a (by omega)).mono ?_
        rintro e wx ⟨v7, rfl, hr7, b7⟩
        replace bel := bstep bel b7
        replace S1 := S1.below b7
        replace S2 := S2.below b7
        replace hV1 := hV1.below b7
        replace hV2 := hV2.below b7
        obtain ⟨V7, cp7, rfl, hV7⟩ := row_hits hr7 rfl
        have cs := same_hits U1 V7 n1 (feedU zs [] 0 a.data.toList a.size).length c1 cp7 (feedU zs [] 0 a.data.toList a.size) (feedU zs [] 0 a.data.toList a.size) wx hn1.out rfl hV1 hV7 (by have := hFa.out a.size; have := hn1.out; omega) (by have := hFa.out a.size; omega)
        rw [decide_eq_true (rfl : feedU zs [] 0 a.data.toList a.size = feedU zs [] 0 a.data.toList a.size)] at cs
        clear hr7 b7 hV7
        go_wp2_with fail
        refine cs.mono ?_
        rintro e wxs ⟨rfl, b8⟩
        replace bel := bstep bel b8
        replace S1 := S1.below b8
        replace S2 := S2.below b8
        replace hV1 := hV1.below b8
        replace hV2 := hV2.below b8
        clear cs b8
        go_wp2_with fail
        refine (all_any hlx.out S1.bel b (by omega)).mono ?_
        rintro e wy ⟨v7, rfl, hr7, b7⟩
        replace bel := bstep bel b7
        replace S1 := S1.below b7
        replace S2 := S2.below b7
        replace hV1 := hV1.below b7
        replace hV2 := hV2.below b7
        obtain ⟨V7, cp7, rfl, hV7⟩ := row_hits hr7 rfl
        have cs := same_hits U2 V7 n2 (feedU zs [] 0 b.data.toList b.size).length c2 cp7 (feedU zs [] 0 b.data.toList b.size) (feedU zs [] 0 b.data.toList b.size) wy hn2.out rfl hV2 hV7 (by have := hFb.out b.size; have := hn2.out; omega) (by have := hFb.out b.size; omega)
        rw [decide_eq_true (rfl : feedU zs [] 0 b.data.toList b.size = feedU zs [] 0 b.data.toList b.size)] at cs
        clear hr7 b7 hV7
        go_wp2_with fail
        refine cs.mono ?_
        rintro e wys ⟨rfl, b8⟩
        replace bel := bstep bel b8
        replace S1 := S1.below b8
        replace S2 := S2.below b8
        replace hV1 := hV1.below b8
        replace hV2 := hV2.below b8
        clear cs b8
        have cA := at_any S1
        go_wp2_with fail
        refine cA.mono ?_
        rintro e wz ⟨rfl, hw⟩
        rw [hw]
        clear cA hw wz
        have cA := at_any S2
        go_wp2_with fail
        refine cA.mono ?_
        rintro e wz ⟨rfl, hw⟩
        rw [hw]
        clear cA hw wz
        go_wp2_with fail
        go_ret
        exact ⟨rfl, bel⟩
end Go.Proofs.Ytdeeeechdlcdbaa.SwW
