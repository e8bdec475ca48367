/- Ways through a trie, with no program in sight. -/
import Derived.Test.YtdeeeechdlcdbaaGreatTrP
import Derived.Test.YtdeeeechdlcdbaaGreatTgU
set_option linter.unusedVariables false
namespace Go.Proofs.YtdeeeechdlcdbaaGreat.TrP
open Go.Proofs.YtdeeeechdlcdbaaGreat.Base
/-- Where one stands after k bytes. -/
def way (S : List Pn) (s : ByteArray) : Nat → Option Nat
  | 0 => some 0
  | k + 1 => match way S s k with | some a => (S.getD a noPn).sons (byteOf s k) | none => none
theorem way_text {zs : List ByteArray} {id : Nat} {S : List Pn} (hS : Good zs id S) (s : ByteArray) : ∀ k a, k ≤ s.size → way S s k = some a → a < S.length ∧ (S.getD a noPn).text = s.extract 0 k
  | 0, a, _, h => by
    obtain rfl := Option.some.inj h
    refine ⟨hS.pos, ?_⟩
    rw [hS.root]
    apply data_inj
    rw [ext_list]; simp
  | k + 1, a, hk, h => by
    unfold way at h
    cases hw : way S s k with
    | none => rw [hw] at h; cases h
    | some b =>
      rw [hw] at h
      obtain ⟨h1, h2⟩ := way_text hS s k b (by omega) hw
      obtain ⟨h3, h4⟩ := hS.sons b h1 _ a h
      refine ⟨h3, ?_⟩
      apply data_inj
      rw [h4, h2, ext_succ s k (by omega)]
/-- What is there stays. -/
def Ext (S S' : List Pn) : Prop := S.length ≤ S'.length ∧ ∀ i, i < S.length → ∀ c x, (S.getD i noPn).sons c = some x → (S'.getD i noPn).sons c = some x
theorem Ext.refl (S : List Pn) : Ext S S := ⟨Nat.le_refl _, fun _ _ _ _ h => h⟩
theorem Ext.trans {A B C : List Pn} (h : Ext A B) (k : Ext B C) : Ext A C := ⟨Nat.le_trans h.1 k.1, fun i hi c x hc => k.2 i (Nat.lt_of_lt_of_le hi h.1) c x (h.2 i hi c x hc)⟩
theorem way_ext {zs : List ByteArray} {id : Nat} {S S' : List Pn} (hS : Good zs id S) (he : Ext S S') (s : ByteArray) : ∀ k a, k ≤ s.size → way S s k = some a → way S' s k = some a
  | 0, a, _, h => h
  | k + 1, a, hk, h => by
    unfold way at h ⊢
    cases hw : way S s k with
    | none => rw [hw] at h; cases h
    | some b =>
      rw [hw] at h
      rw [way_ext hS he s k b (by omega) hw]
      exact he.2 b (way_text hS s k b (by omega) hw).1 _ a h
theorem walk_ext {zs : List ByteArray} {id : Nat} {S : List Pn} (hS : Good zs id S) (s : ByteArray) : ∀ k, k ≤ s.size → Ext S (walkS S s k).1 ∧ way (walkS S s k).1 s k = some (walkS S s k).2 := by
  intro k
  induction k with
  | zero => intro _; exact ⟨Ext.refl _, rfl⟩
  | succ k ih =>
    intro hk
    obtain ⟨e1, e2⟩ := ih (by omega)
    obtain ⟨g1, g2, g3, g4, g5⟩ := walk_good hS s k (by omega)
    show Ext S (step (walkS S s k) s k).1 ∧ way (step (walkS S s k) s k).1 s (k + 1) = some (step (walkS S s k) s k).2
    generalize walkS S s k = st at e1 e2 g1 g2 g3 g4 g5
    obtain ⟨T, a⟩ := st
    simp only at e1 e2 g1 g2 g3 g4 g5
    unfold step
    simp only
    split
    · rename_i x hx
      refine ⟨e1, ?_⟩
      unfold way
      rw [e2]
      exact hx
    · rename_i hx
      have get : ∀ i, i < T.length → ((T ++ [newPn s k]).modify a (setSon (byteOf s k) T.length)).getD i noPn = if a = i then setSon (byteOf s k) T.length (T.getD i noPn) else T.getD i noPn := by
        intro i hi
        rw [getD_mod _ _ _ _ (by simp; omega), getD_app _ _ _ hi]
      have hext : Ext T ((T ++ [newPn s k]).modify a (setSon (byteOf s k) T.length)) := by
        refine ⟨by simp, fun i hi c x hc => ?_⟩
        rw [get i hi]
        by_cases ha : a = i
        · subst ha
          rw [if_pos rfl]
          simp only [setSon]
          by_cases hcc : c = byteOf s k
          · subst hcc; rw [hx] at hc; cases hc
          · rw [if_neg hcc]; exact hc
        · rw [if_neg ha]; exact hc
      refine ⟨e1.trans hext, ?_⟩
      unfold way
      rw [way_ext g1 hext s k a (by omega) e2]
      show (((T ++ [newPn s k]).modify a (setSon (byteOf s k) T.length)).getD a noPn).sons (byteOf s k) = some T.length
      rw [get a g2, if_pos rfl]
      simp [setSon]
theorem add_ext {zs : List ByteArray} {id : Nat} {S : List Pn} (hS : Good zs id S) (s : ByteArray) (k : Nat) : Ext S (addS S s k) ∧ ∃ a, way (addS S s k) s s.size = some a ∧ ((addS S s k).getD a noPn).word = (k : Int) := by
  obtain ⟨e1, e2⟩ := walk_ext hS s s.size (Nat.le_refl _)
  obtain ⟨g1, g2, g3, g4, g5⟩ := walk_good hS s s.size (Nat.le_refl _)
  unfold addS
  generalize walkS S s s.size = st at e1 e2 g1 g2 g3 g4 g5
  obtain ⟨T, a⟩ := st
  simp only at e1 e2 g1 g2 g3 g4 g5 ⊢
  have get : ∀ i, i < T.length → (T.modify a (setWord k)).getD i noPn = if a = i then setWord k (T.getD i noPn) else T.getD i noPn := fun i hi => getD_mod _ _ _ _ hi
  have hext : Ext T (T.modify a (setWord k)) := by
    refine ⟨by simp, fun i hi c x hc => ?_⟩
    rw [get i hi]
    split
    · exact hc
    · exact hc
  refine ⟨e1.trans hext, a, way_ext g1 hext s _ a (Nat.le_refl _) e2, ?_⟩
  rw [get a g2, if_pos rfl]; rfl
/-- Every phrase has its way, and a word at its end. -/
theorem build_way (zs : List ByteArray) : ∀ k j, j < k → ∃ a, way (build zs k) (zs.getD j ByteArray.empty) (zs.getD j ByteArray.empty).size = some a ∧ 0 ≤ ((build zs k).getD a noPn).word
  | 0, j, h => by omega
  | k + 1, j, h => by
    have hg := build_good zs k
    obtain ⟨e1, a, e2, e3⟩ := add_ext hg (zs.getD k ByteArray.empty) k
    by_cases hj : j = k
    · subst hj
      exact ⟨a, e2, by show 0 ≤ ((addS (build zs j) (zs.getD j ByteArray.empty) j).getD a noPn).word; rw [e3]; omega⟩
    · obtain ⟨b, h1, h2⟩ := build_way zs k j (by omega)
      refine ⟨b, way_ext hg e1 _ _ b (Nat.le_refl _) h1, ?_⟩
      have hb := (way_text hg _ _ b (Nat.le_refl _) h1).1
      have hx := (add_good hg (zs.getD k ByteArray.empty) rfl).1.word b (Nat.lt_of_lt_of_le hb e1.1)
      show 0 ≤ ((addS (build zs k) (zs.getD k ByteArray.empty) k).getD b noPn).word
      -- the word is as it was, or the new one
      unfold addS
      obtain ⟨g1, g2, g3, g4, g5⟩ := walk_good hg (zs.getD k ByteArray.empty) (zs.getD k ByteArray.empty).size (Nat.le_refl _)
      generalize walkS (build zs k) (zs.getD k ByteArray.empty) (zs.getD k ByteArray.empty).size = st at g1 g2 g3 g4 g5
      have hbl : b < st.1.length := Nat.lt_of_lt_of_le hb g4.len
      rw [getD_mod _ _ _ _ hbl]
      split
      · show (0 : Int) ≤ (k : Int); omega
      · rw [(g4.keep b hb).2]; exact h2
/-- Is r where x stands among the phrases? -/
def FindIs (zs : List ByteArray) (x : ByteArray) (r : Int) : Prop := (r = -1 ∧ x ∉ zs) ∨ ∃ j, j < zs.length ∧ r = (j : Int) ∧ zs.getD j ByteArray.empty = x
theorem find_one {zs : List ByteArray} (hd : ∀ j k, j < k → k < zs.length → zs.getD j ByteArray.empty ≠ zs.getD k ByteArray.empty) {x : ByteArray} {r r' : Int} (h : FindIs zs x r) (h' : FindIs zs x r') : r = r' := by
  have mem : ∀ j, j < zs.length → zs.getD j ByteArray.empty ∈ zs := fun j hj => by
    rw [List.getD_eq_getElem?_getD, List.getElem?_eq_getElem hj]; exact List.getElem_mem _
  rcases h with ⟨h1, h2⟩ | ⟨j, h1, h2, h3⟩
  · rcases h' with ⟨h4, _⟩ | ⟨k, h4, h5, h6⟩
    · rw [h1, h4]
    · exact absurd (by rw [← h6]; exact mem k h4) h2
  · rcases h' with ⟨_, h4⟩ | ⟨k, h4, h5, h6⟩
    · exact absurd (by rw [← h3]; exact mem j h1) h4
    · rw [h2, h5]
      rcases Nat.lt_trichotomy j k with hlt | heq | hgt
      · exact absurd (h3.trans h6.symm) (hd j k hlt h4)
      · rw [heq]
      · exact absurd (h6.trans h3.symm) (hd k j hgt h1)
theorem full (s : ByteArray) : s.extract 0 s.size = s := by
  apply data_inj
  rw [ext_list, List.drop_zero, Nat.sub_zero, List.take_of_length_le (by rw [← size_list]; exact Nat.le_refl _)]
/-- The word at the end of a way is where the text stands among the phrases. -/
theorem way_find (zs : List ByteArray) (s : ByteArray) (a : Nat) (h : way (build zs zs.length) s s.size = some a) : FindIs zs s ((build zs zs.length).getD a noPn).word := by
  have hg := build_good zs zs.length
  obtain ⟨h1, h2⟩ := way_text hg s s.size a (Nat.le_refl _) h
  rw [full] at h2
  rcases hg.word a h1 with h3 | ⟨j, h3, h4, h5⟩
  · left
    refine ⟨h3, fun hm => ?_⟩
    obtain ⟨j, hj, he⟩ := List.mem_iff_getElem.1 hm
    have hgd : zs.getD j ByteArray.empty = s := by rw [List.getD_eq_getElem?_getD, List.getElem?_eq_getElem hj]; exact he
    obtain ⟨b, h6, h7⟩ := build_way zs zs.length j hj
    rw [hgd, h] at h6
    obtain rfl := Option.some.inj h6
    rw [h3] at h7
    omega
  · exact .inr ⟨j, h3, h4, by rw [← h5, h2]⟩
/-- A way that comes to its end has not been lost before. -/
theorem way_before {S : List Pn} {s : ByteArray} : ∀ n k, k ≤ n → (∃ a, way S s n = some a) → ∃ a, way S s k = some a
  | 0, k, hk, h => by obtain rfl : k = 0 := by omega
                      exact h
  | n + 1, k, hk, h => by
    by_cases hkn : k = n + 1
    · subst hkn; exact h
    · refine way_before n k (by omega) ?_
      obtain ⟨a, ha⟩ := h
      unfold way at ha
      cases hw : way S s n with
      | none => rw [hw] at ha; cases ha
      | some b => exact ⟨b, rfl⟩
end Go.Proofs.YtdeeeechdlcdbaaGreat.TrP
/- Next, Depth, Find. -/
set_option linter.unusedSimpArgs false
set_option linter.unusedVariables false
namespace Go.Proofs.YtdeeeechdlcdbaaGreat.TwA
open Go Go.RowKit Go.Proofs.YtdeeeechdlcdbaaGreat.Base Go.Proofs.YtdeeeechdlcdbaaGreat.DiA Go.Proofs.YtdeeeechdlcdbaaGreat.DiB Go.Proofs.YtdeeeechdlcdbaaGreat.DiC Go.Proofs.YtdeeeechdlcdbaaGreat.DiD Go.Proofs.YtdeeeechdlcdbaaGreat.TrP Go.Proofs.YtdeeeechdlcdbaaGreat.TrM Go.Proofs.YtdeeeechdlcdbaaGreat.TrA Go.Proofs.YtdeeeechdlcdbaaGreat.TrB Go.Proofs.YtdeeeechdlcdbaaGreat.TrD Go.Proofs.YtdeeeechdlcdbaaGreat.TrE
set_option maxHeartbeats 400000 in
theorem depth_in {B p m : Nat} {N : List Nd} {w : World} (h : TrieAt B w p N m) (hbig : N.length ≤ 1000000) {S : List Pn} (hS : N.map (·.p) = S) (k : Nat) (hk : k < S.length) {d : Nat} (hd : (S.getD k noPn).text.size = d) :
    Calls Tryz.prog 91 #[.pointer (some ⟨p, 0, none⟩), .int .i64 (k : Int)] w fun e w' => e = .returned (.int .i64 (d : Int)) ∧ Below w.heap.size w w' := by
  have hT := text_in h hbig hS k hk
  generalize (S.getD k noPn).text = t at hT hd
  clear h hS
  go_enter Tryz.func91, Tryz.ntmps91
  go_wp2_with fail
  refine hT.mono ?_
  rintro e w1 ⟨rfl, hb⟩
  clear hT
  go_wp2_with fail
  go_ret
  exact ⟨rfl, hb⟩
set_option maxHeartbeats 1000000 in
theorem next_nd {B p m : Nat} {N : List Nd} {w : World} (h : TrieAt B w p N m) (hbig : N.length ≤ 1000000) {k : Nat} {nd : Nd} (hk : N[k]? = some nd) {c : Int} (hc : 0 ≤ c ∧ c ≤ 255) {x : Int} {b : Bool} (hx : (((nd.p.sons c).getD 0 : Nat) : Int) = x) (hb : (nd.p.sons c).isSome = b) :
    Calls Tryz.prog 78 #[.pointer (some ⟨p, 0, none⟩), .int .i64 (k : Int), .int .u8 c] w fun e w' => e = .returned (.tuple #[.int .i64 x, .bool b]) ∧ Below w.heap.size w w' := by
  have hA := at_in h hk hbig
  have hm := (h.maps nd (List.mem_of_getElem? hk)).2
  have hlook : ∀ W : World, Below w.heap.size w W → (Instr.lookup 120 (.map (some nd.mp)) (.int .u8 c) true).run Tryz.prog W = .ok (.tuple #[.int .i64 x, .bool b]) W := by
    intro W hW
    have := (hm.below hW).look hc
    rw [hx, hb] at this
    exact this
  generalize nd.mp = mp at hA hlook
  generalize nd.p.text = tx at hA
  generalize nd.p.word = wd at hA
  clear h hk hm hx hb
  have hfd := field63_2 tx wd (some mp)
  go_enter Tryz.func78, Tryz.ntmps78
  go_wp2_with fail
  refine hA.mono ?_
  rintro e w1 ⟨rfl, hb1⟩
  have hlk := hlook w1 hb1
  clear hA hlook
  simp only [atV]
  go_wp2_with fail
  go_ret2
  exact ⟨rfl, hb1⟩
/-- A son, or none, by the plain nodes. -/
theorem next_some {B p m : Nat} {N : List Nd} {w : World} (h : TrieAt B w p N m) (hbig : N.length ≤ 1000000) {S : List Pn} (hS : N.map (·.p) = S) {k : Nat} (hk : k < S.length) {c : Int} (hc : 0 ≤ c ∧ c ≤ 255) {x : Nat} (hx : (S.getD k noPn).sons c = some x) :
    Calls Tryz.prog 78 #[.pointer (some ⟨p, 0, none⟩), .int .i64 (k : Int), .int .u8 c] w fun e w' => e = .returned (.tuple #[.int .i64 (x : Int), .bool true]) ∧ Below w.heap.size w w' := by
  have hl : k < N.length := by rw [← hS, List.length_map] at hk; exact hk
  have hn : N[k]? = some N[k] := List.getElem?_eq_getElem hl
  rw [getD_of hS hn] at hx
  exact next_nd h hbig hn hc (by rw [hx]; rfl) (by rw [hx]; rfl)
theorem next_none {B p m : Nat} {N : List Nd} {w : World} (h : TrieAt B w p N m) (hbig : N.length ≤ 1000000) {S : List Pn} (hS : N.map (·.p) = S) {k : Nat} (hk : k < S.length) {c : Int} (hc : 0 ≤ c ∧ c ≤ 255) (hx : (S.getD k noPn).sons c = none) :
    Calls Tryz.prog 78 #[.pointer (some ⟨p, 0, none⟩), .int .i64 (k : Int), .int .u8 c] w fun e w' => e = .returned (.tuple #[.int .i64 0, .bool false]) ∧ Below w.heap.size w w' := by
  have hl : k < N.length := by rw [← hS, List.length_map] at hk; exact hk
  have hn : N[k]? = some N[k] := List.getElem?_eq_getElem hl
  rw [getD_of hS hn] at hx
  exact next_nd h hbig hn hc (by rw [hx]; rfl) (by rw [hx]; rfl)
theorem list_eq {a b : ByteArray} (h : (a.toList == b.toList) = true) : a = b := by
  rw [beq_iff_eq, ByteArray.toList_eq, ByteArray.toList_eq] at h
  exact data_inj h
set_option maxHeartbeats 1000000 in
theorem find_any (A : Option Addr) (n cap : Nat) (zs : List ByteArray) (x : ByteArray) (w : World) (hn : n = zs.length) (hat : StrsAt w A zs) (hbig : n ≤ 1000) :
    Calls Tryz.prog 13 #[.slice A n cap, .string x] w fun e w' => (∃ r, e = .returned (.int .i64 r) ∧ FindIs zs x r) ∧ w' = w := by
  have hnh : Hid (n = zs.length) := hn
  clear hn
  go_enter Tryz.func13, Tryz.ntmps13
  go_wp2_with fail
  go_loop [5] (fun i => ∃ k : Nat, k ≤ n ∧ i = .int .i64 k ∧ Hid (x ∉ zs.take k)) (fun i => n - (intOf i).toNat)
  case atStart => exact ⟨0, Nat.zero_le _, rfl, by simp [Hid]⟩
  case round =>
    obtain ⟨k, hk, rfl, hx⟩ := hrel
    have hn := hnh.out
    by_cases hlt : k < n
    · obtain ⟨b, off, rfl, _, hc⟩ := hat (by omega)
      have hcell := hc k (by omega)
      have hkd : decide ((k : Int) < (n : Int)) = true := decide_eq_true (by omega)
      have hsucc : zs.take (k + 1) = zs.take k ++ [zs.getD k ByteArray.empty] := by
        have e : zs.getD k ByteArray.empty = zs[k]'(by omega) := by simp [List.getD_eq_getElem?_getD, show k < zs.length by omega]
        rw [List.take_succ_eq_append_getElem (by omega), e]
      have hsucch : Hid (zs.take (k + 1) = zs.take k ++ [zs.getD k ByteArray.empty]) := hsucc
      have hyes : Hid (zs.getD k ByteArray.empty = x → FindIs zs x (k : Int)) := fun e => .inr ⟨k, by omega, rfl, e⟩
      generalize zs.getD k ByteArray.empty = y at hcell hsucch hyes
      clear hsucc hc hn hat
      cases hxy : (y.toList == x.toList) with
      | true =>
        have e := list_eq hxy
        have hf := hyes.out e
        have hfh : Hid (FindIs zs x (k : Int)) := hf
        clear hf hyes hsucch e hx hnh
        go_wp2_with fail
        refine bodyPost_ret (v := .int .i64 (k : Int)) ?_ rfl ⟨⟨_, rfl, hfh.out⟩, rfl⟩
        simp [results, Tryz.results13, go_sem]
      | false =>
        have hne : y ≠ x := by
          rintro rfl
          simp at hxy
        have hx2 : Hid (x ∉ zs.take (k + 1)) := by
          show x ∉ zs.take (k + 1)
          rw [hsucch.out]
          intro hm
          rcases List.mem_append.1 hm with h | h
          · exact hx.out h
          · exact hne (List.mem_singleton.1 h).symm
        clear hne hyes hsucch hx
        go_wp2_with fail
        go_round
        case rel => exact ⟨k + 1, by omega, by go_num, hx2⟩
        case measure => simp [intOf]; omega
    · have hkn : k = n := by omega
      subst hkn
      have hkd : decide ((k : Int) < (k : Int)) = false := decide_eq_false (by omega)
      have hf : Hid (FindIs zs x (-1)) := by
        refine .inl ⟨rfl, ?_⟩
        have := hx.out
        rw [List.take_of_length_le (by omega)] at this
        exact this
      clear hx hn hnh hat
      go_wp2_with fail
      refine bodyPost_ret (v := .int .i64 (-1)) ?_ rfl ⟨⟨_, rfl, hf.out⟩, rfl⟩
      simp [results, Tryz.results13, go_sem]
end Go.Proofs.YtdeeeechdlcdbaaGreat.TwA
