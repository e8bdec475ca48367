/- The walk of TrieGrows. -/
import Derived.Test.YtdmmalkppfmkpaaTrE
import Derived.Laws.AppendOwnNone
set_option linter.unusedSimpArgs false
set_option linter.unusedVariables false
namespace Go.Proofs.Ytdmmalkppfmkpaa.TgW
open Go Go.RowKit Go.Proofs.Ytdmmalkppfmkpaa.Base Go.Proofs.Ytdmmalkppfmkpaa.DiA Go.Proofs.Ytdmmalkppfmkpaa.DiB Go.Proofs.Ytdmmalkppfmkpaa.DiC Go.Proofs.Ytdmmalkppfmkpaa.DiD Go.Proofs.Ytdmmalkppfmkpaa.TrP Go.Proofs.Ytdmmalkppfmkpaa.TrM Go.Proofs.Ytdmmalkppfmkpaa.TrA Go.Proofs.Ytdmmalkppfmkpaa.TrB Go.Proofs.Ytdmmalkppfmkpaa.TrD Go.Proofs.Ytdmmalkppfmkpaa.TrE
theorem okD_size {zs : List ByteArray} (h : okD zs = true) : ∀ x ∈ zs, 1 ≤ x.size := by
  intro x hx
  obtain ⟨k, hk, rfl⟩ := List.mem_iff_getElem.1 hx
  unfold okD at h
  rw [Bool.and_eq_true] at h
  have := okUpto_le (k := k + 1) (by omega) h.2
  rw [okUpto_succ, Bool.and_eq_true] at this
  have h2 := this.2
  unfold goodAt at h2
  have e : zs.getD k ByteArray.empty = zs[k] := by simp [List.getD_eq_getElem?_getD, hk]
  rw [e] at h2
  simp at h2
  exact h2.1
theorem okD_last {zs : List ByteArray} {s : ByteArray} (h : okD (zs ++ [s]) = true) : s ∉ zs := by
  unfold okD at h
  rw [Bool.and_eq_true] at h
  have := okUpto_le (k := zs.length + 1) (by simp) h.2
  rw [okUpto_succ, Bool.and_eq_true] at this
  have h2 := this.2
  unfold goodAt at h2
  have e : (zs ++ [s]).getD zs.length ByteArray.empty = s := by rw [List.getD_eq_getElem?_getD]; simp
  have e2 : (zs ++ [s]).take zs.length = zs := by simp
  rw [e, e2] at h2
  simp only [Bool.and_eq_true, Bool.not_eq_true', decide_eq_true_eq] at h2
  intro hm
  have := (Lib.containsS_iff zs s).2 hm
  rw [h2.2.2.2] at this
  cases this
theorem total_app (zs : List ByteArray) (s : ByteArray) : total (zs ++ [s]) = total zs + s.size := by
  unfold total; simp
set_option maxHeartbeats 400000 in
theorem grows_few (A : Option Addr) (n cap : Nat) (zs : List ByteArray) (s : ByteArray) (w : World) (hf : Calls Try.prog 9 #[.slice A n cap] w fun e w' => e = .returned (.bool false) ∧ w' = w) :
    Calls Try.prog 3 #[.slice A n cap, .string s] w fun e w' => e = .returned (.bool true) ∧ Below w.heap.size w w' := by
  go_enter Try.func3, Try.ntmps3
  go_wp2_with fail
  refine hf.mono ?_
  rintro e w1 ⟨rfl, hw⟩
  rw [hw]
  clear hf hw
  go_wp2_with fail
  refine (alive_call _).mono ?_
  rintro e w2 ⟨rfl, b2⟩
  go_wp2_with fail
  go_ret
  exact ⟨rfl, b2⟩
set_option maxHeartbeats 400000 in
theorem grows_long (A : Option Addr) (n cap : Nat) (zs : List ByteArray) (s : ByteArray) (w : World) (hf : Calls Try.prog 9 #[.slice A n cap] w fun e w' => e = .returned (.bool true) ∧ w' = w) (hs : 40 < s.size) :
    Calls Try.prog 3 #[.slice A n cap, .string s] w fun e w' => e = .returned (.bool true) ∧ Below w.heap.size w w' := by
  have hd : decide ((s.size : Int) > 40) = true := decide_eq_true (by omega)
  clear hs
  go_enter Try.func3, Try.ntmps3
  go_wp2_with fail
  refine hf.mono ?_
  rintro e w1 ⟨rfl, hw⟩
  rw [hw]
  clear hf hw
  go_wp2_with fail
  refine (alive_call _).mono ?_
  rintro e w2 ⟨rfl, b2⟩
  go_wp2_with fail
  go_ret
  exact ⟨rfl, b2⟩
/-- The list with one more, appended onto a copy. -/
theorem own_strs {w : World} {A : Option Addr} {zs : List ByteArray} (h : StrsAt w A zs) (hz : 0 < zs.length) : ∃ ad, A = some ad ∧ ∀ j u, (zs.map Value.string)[j]? = some u → w.cell? (ad.add j) = some u := by
  obtain ⟨b, off, rfl, _, hc⟩ := h hz
  refine ⟨_, rfl, fun j u hu => ?_⟩
  rw [List.getElem?_map] at hu
  cases hj : zs[j]? with
  | none => rw [hj] at hu; cases hu
  | some x =>
    rw [hj] at hu
    have hjl := (List.getElem?_eq_some_iff.1 hj).1
    have := hc j hjl
    rw [List.getD_eq_getElem?_getD, hj, Option.getD_some] at this
    simp at hu
    subst hu
    rw [← this]
    unfold Addr.add
    by_cases h0 : j = 0
    · subst h0; rfl
    · rw [if_neg h0]
set_option maxRecDepth 20000 in
set_option maxHeartbeats 2000000 in
theorem grows_in (A : Option Addr) (n cap : Nat) (zs : List ByteArray) (s : ByteArray) (w : World) (hf : Calls Try.prog 9 #[.slice A n cap] w fun e w' => e = .returned (.bool true) ∧ w' = w) (hs : s.size ≤ 40)
    (hn : n = zs.length) (hat : StrsAt w A zs) (hnil : A = none → n = 0 ∧ cap = 0) (hn1 : n ≤ 110) (htot : total zs ≤ 1300) :
    Calls Try.prog 3 #[.slice A n cap, .string s] w fun e w' => e = .returned (.bool true) ∧ Below w.heap.size w w' := by
  obtain ⟨i0, hi, hz0, hz1, hz2⟩ := info_parts info9
  have hd : decide ((s.size : Int) > 40) = false := decide_eq_false (by omega)
  have hnh : Hid (n = zs.length) := hn
  clear hn
  go_enter Try.func3, Try.ntmps3
  go_wp2_with fail
  refine hf.mono ?_
  rintro e w1 ⟨rfl, hw⟩
  rw [hw]
  clear hf hw w1
  go_wp2_with fail
  refine (alive_call _).mono ?_
  rintro e w1 ⟨rfl, b1⟩
  replace hat := hat.below b1
  have bel := b1
  clear b1
  go_wp2_with fail
  refine (make_any A n cap zs w1 hnh.out hat (by omega)).mono ?_
  rintro e w2 ⟨b2, hma⟩
  obtain ⟨va, rfl, hva⟩ : ∃ va, e = .returned va ∧ ((okD zs = false ∧ va = .pointer none) ∨ (okD zs = true ∧ ∃ p, va = .pointer (some ⟨p, 0, none⟩) ∧ DictAt w1.heap.size w2 p zs)) := by
    rcases hma with ⟨h1, h2⟩ | ⟨h1, p, h2, _, h4⟩
    · exact ⟨_, h2, .inl ⟨h1, rfl⟩⟩
    · exact ⟨_, h2, .inr ⟨h1, p, rfl, h4⟩⟩
  replace hat := hat.below b2
  replace bel := bstep bel b2
  clear hma b2
  have hvh : Hid ((okD zs = false ∧ va = .pointer none) ∨ (okD zs = true ∧ ∃ p, va = .pointer (some ⟨p, 0, none⟩) ∧ DictAt w1.heap.size w2 p zs)) := hva
  clear hva
  rcases A with _ | ad
  · obtain ⟨rfl, rfl⟩ := hnil rfl
    have hz : zs = [] := List.eq_nil_of_length_eq_zero hnh.out.symm
    have hown0 : w2.ownsRow w2.heap.size 9 1 (.slice none 0 0) 0 [] := World.ownsRow_nil _ _ _ _
    clear hat
    go_wp2_with (first | (at_builtin; refine wpList_append_own_none rfl (.const (.slice none 0 0)) (.tmp 25) 22 rfl w2.heap.size 9 i0 1 Try.underlying22 hi _ 0 [] rfl hown0 rfl ?_) | (at_builtin; refine wpList_append_own _ rfl (.tmp 26) (.tmp 28) 22 rfl w2.heap.size 9 i0 _ 1 16 Try.underlying22 hi hz0 hz1 hz2 rfl (by decide) _ 0 [] rfl (hown0.alloc _) ⟨w2.heap.size, 0, none⟩ 1 1 [.string s] rfl rfl ?c1 ?c2 ?c3 ?c4 ?c5 ?_))
    case c1 => intro j u hj; match j, hj with | 0, hj => simp at hj; subst hj; simp [Addr.add] | j + 1, hj => simp at hj
    case c2 => intro u hu; simp at hu; subst hu; rfl
    case c3 => unfold maxLen; omega
    case c4 => omega
    case c5 => first | (simp; done) | (simp; omega)
    intro v5 w5 own2 hg5 _
    have b5 : Below w2.heap.size w2 w5 := (balloc (Below.refl _ _) _).grown hg5 (by simp) (own_ge hown0)
    have hzz : (zs ++ [s]).map Value.string = [Value.string s] := by rw [hz]; rfl
    have own2 : w5.ownsRow w2.heap.size 9 1 v5 (0 + 1) ((zs ++ [s]).map Value.string) := by rw [hzz]; exact own2
    have hat : True := trivial
    clear hg5 hown0 hz hzz
    obtain ⟨V2, c2, rfl, hs2⟩ := own_cells own2 (by simp [← hnh.out])
    have bel5 := bel.trans (b5.mono bel.size)
    have hmb := make_any V2 (0 + 1) c2 (zs ++ [s]) w5 (by rw [List.length_append, hnh.out]; rfl) hs2 (by rw [total_app]; omega)
    clear own2 hs2 bel
    clear hat
    go_wp2_with fail
    refine hmb.mono ?_
    rintro e w6 ⟨b6, hmb2⟩
    have bel6 := bstep bel5 b6
    have h26 := b5.trans (b6.mono b5.size)
    clear hmb bel5 b5
    rcases hvh.out with ⟨_, rfl⟩ | ⟨oka, pa, rfl, hda⟩
    · rcases hmb2 with ⟨_, rfl⟩ | ⟨_, pb, rfl, _, _⟩
      · clear b6 h26 hvh hnh
        go_wp2_with fail
        go_ret
        exact ⟨rfl, bel6⟩
      · clear b6 h26 hvh hnh
        go_wp2_with fail
        go_ret
        exact ⟨rfl, bel6⟩
    rcases hmb2 with ⟨_, rfl⟩ | ⟨okb, pb, rfl, _, hdb⟩
    · clear b6 h26 hvh hnh hda oka
      go_wp2_with fail
      go_ret
      exact ⟨rfl, bel6⟩
    have hda6 := hda.below h26
    have G := grows zs s (okD_size okb) (okD_last okb)
    have hxl : zs.length ≤ 1000 := by rw [← hnh.out]; omega
    have hyl : (zs ++ [s]).length ≤ 1000 := by rw [List.length_append, ← hnh.out]; show _ + 1 ≤ 1000; omega
    have hyt : total (zs ++ [s]) ≤ 2000 := by rw [total_app]; omega
    have hyL : Hid ((zs ++ [s]).length = zs.length + 1) := by show _ = _; simp
    clear hda h26 b6 hvh oka okb hnh
    go_wp2_with fail
    refine (TrD.new_any _ pa zs w6 hda6 hxl (by omega)).mono ?_
    rintro e w7 ⟨b7, px, NX, mx, rfl, hX, hNX, hlX⟩
    have bel7 := bstep bel6 b7
    have hdb7 := hdb.below b7
    clear hda6 hdb bel6 b7
    go_wp2_with fail
    refine (TrD.new_any _ pb (zs ++ [s]) w7 hdb7 hyl hyt).mono ?_
    rintro e w8 ⟨b8, py, NY, my, rfl, hY, hNY, hlY⟩
    have bel8 := bstep bel7 b8
    have hX8 := hX.below b8
    rw [hyL.out] at hNY
    have hXl : NX.length ≤ 2001 := by omega
    have hYl : NY.length ≤ 2001 := by omega
    clear hdb7 bel7 b8 hX hlX hlY hyl hyt hyL
    have eX : NX.length = (build zs zs.length).length := by rw [← hNX, List.length_map]
    have eY : NY.length = (build (zs ++ [s]) (zs.length + 1)).length := by rw [← hNY, List.length_map]
    rw [← eX, ← eY] at G
    obtain ⟨G1, G2, G3, G4⟩ := G
    have hNXh : Hid (NX.map (·.p) = build zs zs.length) := hNX
    have hNYh : Hid (NY.map (·.p) = build (zs ++ [s]) (zs.length + 1)) := hNY
    have eXh : Hid (NX.length = (build zs zs.length).length) := eX
    have eYh : Hid (NY.length = (build (zs ++ [s]) (zs.length + 1)).length) := eY
    have G4h : Hid (((build (zs ++ [s]) (zs.length + 1)).getD 0 noPn).word = -1) := G4
    have G3h : Hid (∀ i, i < NX.length → ((build (zs ++ [s]) (zs.length + 1)).getD i noPn).text = ((build zs zs.length).getD i noPn).text ∧ (((build (zs ++ [s]) (zs.length + 1)).getD i noPn).word = ((build zs zs.length).getD i noPn).word ∨ ((build zs zs.length).getD i noPn).word < 0)) := G3
    clear hNX hNY eX eY G3 G4
    have t1 : decide (NY.length < NX.length) = false := decide_eq_false (by omega)
    have hwr : IntKind.i64.wrap ((NX.length : Int) + (s.size : Int)) = (NX.length : Int) + (s.size : Int) := by rw [IntKind.wrap_i64]; omega
    have t2 : decide ((NY.length : Int) > (NX.length : Int) + (s.size : Int)) = false := decide_eq_false (by omega)
    go_wp2_with fail
    refine (len_any hY).mono ?_
    rintro e wq ⟨rfl, hwq⟩
    rw [hwq]
    clear hwq wq
    go_wp2_with fail
    refine (len_any hX8).mono ?_
    rintro e wq ⟨rfl, hwq⟩
    rw [hwq]
    clear hwq wq
    go_wp2_with fail
    refine (len_any hY).mono ?_
    rintro e wq ⟨rfl, hwq⟩
    rw [hwq]
    clear hwq wq
    go_wp2_with fail
    refine (len_any hX8).mono ?_
    rintro e wq ⟨rfl, hwq⟩
    rw [hwq]
    clear hwq wq
    go_wp2_with fail
    clear t1 hwr t2
    go_loopw [9] (fun i wx => ∃ k : Nat, k ≤ NX.length ∧ i = .int .i64 k ∧ Below w.heap.size w wx ∧ TrieAt w6.heap.size wx px NX mx ∧ TrieAt w7.heap.size wx py NY my) (fun i _ => NX.length - (intOf i).toNat)
    case atStart => exact ⟨0, Nat.zero_le _, rfl, bel8, hX8, hY⟩
    case round =>
      obtain ⟨k, hk, rfl, belr, tX, tY⟩ := hrel
      clear hX8 hY bel8
      have hlenX := len_any tX
      by_cases hlt : k < NX.length
      · have hkd : decide ((k : Int) < (NX.length : Int)) = true := decide_eq_true (by omega)
        obtain ⟨e1, e2⟩ := G3h.out k hlt
        have cX := text_in tX (by omega) hNXh.out k (by rw [← eXh.out]; exact hlt)
        go_wp2_with fail
        refine hlenX.mono ?_
        rintro e wq ⟨rfl, hwq⟩
        rw [hwq]
        clear hwq wq hlenX
        go_wp2_with fail
        refine cX.mono ?_
        rintro e v1 ⟨rfl, c1⟩
        have bel1 := bstep belr c1
        have tX1 := tX.below c1
        have tY1 := tY.below c1
        clear c1 tX tY belr cX
        have cY := text_in tY1 (by omega) hNYh.out k (by rw [← eYh.out]; omega)
        rw [e1] at cY
        go_wp2_with fail
        refine cY.mono ?_
        rintro e v2 ⟨rfl, c2⟩
        have bel2 := bstep bel1 c2
        have tX2 := tX1.below c2
        have tY2 := tY1.below c2
        clear c2 tX1 tY1 bel1 cY
        have cX := word_in tX2 (by omega) hNXh.out k (by rw [← eXh.out]; exact hlt)
        go_wp2_with fail
        refine cX.mono ?_
        rintro e v3 ⟨rfl, c3⟩
        have bel3 := bstep bel2 c3
        have tX3 := tX2.below c3
        have tY3 := tY2.below c3
        clear c3 tX2 tY2 bel2 cX
        have cY := word_in tY3 (by omega) hNYh.out k (by rw [← eYh.out]; omega)
        generalize hwy : ((build (zs ++ [s]) (zs.length + 1)).getD k noPn).word = wy at cY e2
        generalize hwx : ((build zs zs.length).getD k noPn).word = wx at e2
        go_wp2_with fail
        refine cY.mono ?_
        rintro e v4 ⟨rfl, c4⟩
        have bel4 := bstep bel3 c4
        have tX4 := tX3.below c4
        have tY4 := tY3.below c4
        clear c4 tX3 tY3 bel3 cY hwy
        by_cases hww : wx = wy
        · have hb : (wx != wy) = false := by simp [hww]
          clear hww e2 hwx
          go_wp2_with fail
          go_roundw
          case rel => exact ⟨k + 1, by omega, by go_num, bel4, tX4, tY4⟩
          case measure => simp [intOf]; omega
        · have hb : (wx != wy) = true := by simpa using hww
          have hneg : decide (wx ≥ 0) = false := decide_eq_false (by rcases e2 with h | h; exact absurd h.symm hww; omega)
          have cX := word_in tX4 (by omega) hNXh.out k (by rw [← eXh.out]; exact hlt)
          rw [hwx] at cX
          clear hww e2 hwx
          go_wp2_with fail
          refine cX.mono ?_
          rintro e v5 ⟨rfl, c5⟩
          have bel5 := bstep bel4 c5
          have tX5 := tX4.below c5
          have tY5 := tY4.below c5
          clear c5 tX4 tY4 bel4 cX
          go_wp2_with fail
          go_roundw
          case rel => exact ⟨k + 1, by omega, by go_num, bel5, tX5, tY5⟩
          case measure => simp [intOf]; omega
      · have hkd : decide ((k : Int) < (NX.length : Int)) = false := decide_eq_false (by omega)
        have hpos : 0 < (build (zs ++ [s]) (zs.length + 1)).length := (build_good (zs ++ [s]) (zs.length + 1)).pos
        have cY := word_in tY (by omega) hNYh.out 0 hpos
        rw [G4h.out] at cY
        go_wp2_with fail
        refine hlenX.mono ?_
        rintro e wq ⟨rfl, hwq⟩
        rw [hwq]
        clear hwq wq hlenX
        go_wp2_with fail
        refine cY.mono ?_
        rintro e v1 ⟨rfl, c1⟩
        have bel1 := bstep belr c1
        clear c1 tX tY belr cY
        go_wp2_with fail
        go_ret
        exact ⟨rfl, bel1⟩

  · have h1 : ∀ j u, (zs.map Value.string)[j]? = some u → w2.cell? (ad.add j) = some u := by
      intro j u hu
      have hz : 0 < zs.length := by
        have := (List.getElem?_eq_some_iff.1 hu).1
        simp at this; omega
      obtain ⟨ad', he, hc⟩ := own_strs hat hz
      obtain rfl := Option.some.inj he
      exact hc j u hu
    have hone : ∀ u ∈ zs.map Value.string, u.oneCell' = true := by
      intro u hu
      obtain ⟨x, _, rfl⟩ := List.mem_map.1 hu
      rfl
    have hml : (zs.map Value.string).length = n * 1 := by rw [List.length_map, ← hnh.out]; omega
    go_wp2_with (first | (at_builtin; refine wpList_append_own _ rfl (.const (.slice none 0 0)) (.tmp 25) 22 rfl w2.heap.size 9 i0 _ 1 16 Try.underlying22 hi hz0 hz1 hz2 rfl (by decide) _ 0 [] rfl (World.ownsRow_nil _ _ _ _) ad n cap (zs.map Value.string) rfl hml h1 hone ?d1 ?d2 (Nat.le_refl _) ?_))
    case d1 => unfold maxLen; omega
    case d2 => omega
    intro v3 w3 ho3 hg3 _
    try simp only [Nat.zero_add, List.nil_append] at ho3
    have b3 : Below w2.heap.size w2 w3 := (Below.refl _ _).grown hg3 (Nat.le_refl _) (fun k hk => by cases hk)
    clear hg3 h1 hone hml
    obtain ⟨V3, c3', rfl, _⟩ := own_form ho3
    have hs3 := b3.size
    go_wp2_with (first | (at_builtin; refine wpList_append_own _ rfl (.tmp 26) (.tmp 28) 22 rfl w2.heap.size 9 i0 _ 1 16 Try.underlying22 hi hz0 hz1 hz2 rfl (by decide) _ n (zs.map Value.string) rfl (ho3.alloc _) ⟨w3.heap.size, 0, none⟩ 1 1 [.string s] rfl rfl ?c1 ?c2 ?c3 ?c4 ?c5 ?_))
    case c1 => intro j u hj; match j, hj with | 0, hj => simp at hj; subst hj; simp [Addr.add] | j + 1, hj => simp at hj
    case c2 => intro u hu; simp at hu; subst hu; rfl
    case c3 => unfold maxLen; omega
    case c4 => omega
    case c5 => first | (simp; done) | (simp; omega)
    intro v5 w5 own2 hg5 _
    have b5 : Below w2.heap.size w2 w5 := (b3.alloc hs3 _).grown hg5 (by simp; omega) (own_ge ho3)
    rw [show zs.map Value.string ++ [Value.string s] = (zs ++ [s]).map Value.string by simp] at own2
    clear hg5 ho3 b3 hs3
    obtain ⟨V2, c2, rfl, hs2⟩ := own_cells own2 (by simp [← hnh.out])
    have bel5 := bel.trans (b5.mono bel.size)
    have hmb := make_any V2 (n + 1) c2 (zs ++ [s]) w5 (by rw [List.length_append, hnh.out]; rfl) hs2 (by rw [total_app]; omega)
    clear own2 hs2 bel
    clear hat
    go_wp2_with fail
    refine hmb.mono ?_
    rintro e w6 ⟨b6, hmb2⟩
    have bel6 := bstep bel5 b6
    have h26 := b5.trans (b6.mono b5.size)
    clear hmb bel5 b5
    rcases hvh.out with ⟨_, rfl⟩ | ⟨oka, pa, rfl, hda⟩
    · rcases hmb2 with ⟨_, rfl⟩ | ⟨_, pb, rfl, _, _⟩
      · clear b6 h26 hvh hnh
        go_wp2_with fail
        go_ret
        exact ⟨rfl, bel6⟩
      · clear b6 h26 hvh hnh
        go_wp2_with fail
        go_ret
        exact ⟨rfl, bel6⟩
    rcases hmb2 with ⟨_, rfl⟩ | ⟨okb, pb, rfl, _, hdb⟩
    · clear b6 h26 hvh hnh hda oka
      go_wp2_with fail
      go_ret
      exact ⟨rfl, bel6⟩
    have hda6 := hda.below h26
    have G := grows zs s (okD_size okb) (okD_last okb)
    have hxl : zs.length ≤ 1000 := by rw [← hnh.out]; omega
    have hyl : (zs ++ [s]).length ≤ 1000 := by rw [List.length_append, ← hnh.out]; show _ + 1 ≤ 1000; omega
    have hyt : total (zs ++ [s]) ≤ 2000 := by rw [total_app]; omega
    have hyL : Hid ((zs ++ [s]).length = zs.length + 1) := by show _ = _; simp
    clear hda h26 b6 hvh oka okb hnh
    go_wp2_with fail
    refine (TrD.new_any _ pa zs w6 hda6 hxl (by omega)).mono ?_
    rintro e w7 ⟨b7, px, NX, mx, rfl, hX, hNX, hlX⟩
    have bel7 := bstep bel6 b7
    have hdb7 := hdb.below b7
    clear hda6 hdb bel6 b7
    go_wp2_with fail
    refine (TrD.new_any _ pb (zs ++ [s]) w7 hdb7 hyl hyt).mono ?_
    rintro e w8 ⟨b8, py, NY, my, rfl, hY, hNY, hlY⟩
    have bel8 := bstep bel7 b8
    have hX8 := hX.below b8
    rw [hyL.out] at hNY
    have hXl : NX.length ≤ 2001 := by omega
    have hYl : NY.length ≤ 2001 := by omega
    clear hdb7 bel7 b8 hX hlX hlY hyl hyt hyL
    have eX : NX.length = (build zs zs.length).length := by rw [← hNX, List.length_map]
    have eY : NY.length = (build (zs ++ [s]) (zs.length + 1)).length := by rw [← hNY, List.length_map]
    rw [← eX, ← eY] at G
    obtain ⟨G1, G2, G3, G4⟩ := G
    have hNXh : Hid (NX.map (·.p) = build zs zs.length) := hNX
    have hNYh : Hid (NY.map (·.p) = build (zs ++ [s]) (zs.length + 1)) := hNY
    have eXh : Hid (NX.length = (build zs zs.length).length) := eX
    have eYh : Hid (NY.length = (build (zs ++ [s]) (zs.length + 1)).length) := eY
    have G4h : Hid (((build (zs ++ [s]) (zs.length + 1)).getD 0 noPn).word = -1) := G4
    have G3h : Hid (∀ i, i < NX.length → ((build (zs ++ [s]) (zs.length + 1)).getD i noPn).text = ((build zs zs.length).getD i noPn).text ∧ (((build (zs ++ [s]) (zs.length + 1)).getD i noPn).word = ((build zs zs.length).getD i noPn).word ∨ ((build zs zs.length).getD i noPn).word < 0)) := G3
    clear hNX hNY eX eY G3 G4
    have t1 : decide (NY.length < NX.length) = false := decide_eq_false (by omega)
    have hwr : IntKind.i64.wrap ((NX.length : Int) + (s.size : Int)) = (NX.length : Int) + (s.size : Int) := by rw [IntKind.wrap_i64]; omega
    have t2 : decide ((NY.length : Int) > (NX.length : Int) + (s.size : Int)) = false := decide_eq_false (by omega)
    go_wp2_with fail
    refine (len_any hY).mono ?_
    rintro e wq ⟨rfl, hwq⟩
    rw [hwq]
    clear hwq wq
    go_wp2_with fail
    refine (len_any hX8).mono ?_
    rintro e wq ⟨rfl, hwq⟩
    rw [hwq]
    clear hwq wq
    go_wp2_with fail
    refine (len_any hY).mono ?_
    rintro e wq ⟨rfl, hwq⟩
    rw [hwq]
    clear hwq wq
    go_wp2_with fail
    refine (len_any hX8).mono ?_
    rintro e wq ⟨rfl, hwq⟩
    rw [hwq]
    clear hwq wq
    go_wp2_with fail
    clear t1 hwr t2
    go_loopw [9] (fun i wx => ∃ k : Nat, k ≤ NX.length ∧ i = .int .i64 k ∧ Below w.heap.size w wx ∧ TrieAt w6.heap.size wx px NX mx ∧ TrieAt w7.heap.size wx py NY my) (fun i _ => NX.length - (intOf i).toNat)
    case atStart => exact ⟨0, Nat.zero_le _, rfl, bel8, hX8, hY⟩
    case round =>
      obtain ⟨k, hk, rfl, belr, tX, tY⟩ := hrel
      clear hX8 hY bel8
      have hlenX := len_any tX
      by_cases hlt : k < NX.length
      · have hkd : decide ((k : Int) < (NX.length : Int)) = true := decide_eq_true (by omega)
        obtain ⟨e1, e2⟩ := G3h.out k hlt
        have cX := text_in tX (by omega) hNXh.out k (by rw [← eXh.out]; exact hlt)
        go_wp2_with fail
        refine hlenX.mono ?_
        rintro e wq ⟨rfl, hwq⟩
        rw [hwq]
        clear hwq wq hlenX
        go_wp2_with fail
        refine cX.mono ?_
        rintro e v1 ⟨rfl, c1⟩
        have bel1 := bstep belr c1
        have tX1 := tX.below c1
        have tY1 := tY.below c1
        clear c1 tX tY belr cX
        have cY := text_in tY1 (by omega) hNYh.out k (by rw [← eYh.out]; omega)
        rw [e1] at cY
        go_wp2_with fail
        refine cY.mono ?_
        rintro e v2 ⟨rfl, c2⟩
        have bel2 := bstep bel1 c2
        have tX2 := tX1.below c2
        have tY2 := tY1.below c2
        clear c2 tX1 tY1 bel1 cY
        have cX := word_in tX2 (by omega) hNXh.out k (by rw [← eXh.out]; exact hlt)
        go_wp2_with fail
        refine cX.mono ?_
        rintro e v3 ⟨rfl, c3⟩
        have bel3 := bstep bel2 c3
        have tX3 := tX2.below c3
        have tY3 := tY2.below c3
        clear c3 tX2 tY2 bel2 cX
        have cY := word_in tY3 (by omega) hNYh.out k (by rw [← eYh.out]; omega)
        generalize hwy : ((build (zs ++ [s]) (zs.length + 1)).getD k noPn).word = wy at cY e2
        generalize hwx : ((build zs zs.length).getD k noPn).word = wx at e2
        go_wp2_with fail
        refine cY.mono ?_
        rintro e v4 ⟨rfl, c4⟩
        have bel4 := bstep bel3 c4
        have tX4 := tX3.below c4
        have tY4 := tY3.below c4
        clear c4 tX3 tY3 bel3 cY hwy
        by_cases hww : wx = wy
        · have hb : (wx != wy) = false := by simp [hww]
          clear hww e2 hwx
          go_wp2_with fail
          go_roundw
          case rel => exact ⟨k + 1, by omega, by go_num, bel4, tX4, tY4⟩
          case measure => simp [intOf]; omega
        · have hb : (wx != wy) = true := by simpa using hww
          have hneg : decide (wx ≥ 0) = false := decide_eq_false (by rcases e2 with h | h; exact absurd h.symm hww; omega)
          have cX := word_in tX4 (by omega) hNXh.out k (by rw [← eXh.out]; exact hlt)
          rw [hwx] at cX
          clear hww e2 hwx
          go_wp2_with fail
          refine cX.mono ?_
          rintro e v5 ⟨rfl, c5⟩
          have bel5 := bstep bel4 c5
          have tX5 := tX4.below c5
          have tY5 := tY4.below c5
          clear c5 tX4 tY4 bel4 cX
          go_wp2_with fail
          go_roundw
          case rel => exact ⟨k + 1, by omega, by go_num, bel5, tX5, tY5⟩
          case measure => simp [intOf]; omega
      · have hkd : decide ((k : Int) < (NX.length : Int)) = false := decide_eq_false (by omega)
        have hpos : 0 < (build (zs ++ [s]) (zs.length + 1)).length := (build_good (zs ++ [s]) (zs.length + 1)).pos
        have cY := word_in tY (by omega) hNYh.out 0 hpos
        rw [G4h.out] at cY
        go_wp2_with fail
        refine hlenX.mono ?_
        rintro e wq ⟨rfl, hwq⟩
        rw [hwq]
        clear hwq wq hlenX
        go_wp2_with fail
        refine cY.mono ?_
        rintro e v1 ⟨rfl, c1⟩
        have bel1 := bstep belr c1
        clear c1 tX tY belr cY
        go_wp2_with fail
        go_ret
        exact ⟨rfl, bel1⟩

end Go.Proofs.Ytdmmalkppfmkpaa.TgW
