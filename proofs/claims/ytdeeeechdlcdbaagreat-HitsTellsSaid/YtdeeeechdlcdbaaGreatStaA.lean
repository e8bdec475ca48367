/- Which phrases stand at a place, by the reference: the walk of Stands. -/
import Derived.Test.YtdeeeechdlcdbaaGreatHiQ
import Derived.Test.YtdeeeechdlcdbaaGreatPhW
import Derived.Test.YtdeeeechdlcdbaaGreatTtN
import Derived.IntWalk
import Derived.WalkLawsBesides
set_option linter.unusedVariables false
set_option linter.unusedSimpArgs false
namespace Go.Proofs.YtdeeeechdlcdbaaGreat.StaA
open Go Go.RowKit Go.Lib Go.Sort Go.Proofs Go.Proofs.YtdeeeechdlcdbaaGreat Go.Proofs.YtdeeeechdlcdbaaGreat.Base Go.Proofs.YtdeeeechdlcdbaaGreat.DiA Go.Proofs.YtdeeeechdlcdbaaGreat.DiB Go.Proofs.YtdeeeechdlcdbaaGreat.DiC Go.Proofs.YtdeeeechdlcdbaaGreat.TcP Go.Proofs.YtdeeeechdlcdbaaGreat.PhP Go.Proofs.YtdeeeechdlcdbaaGreat.PhW Go.Proofs.YtdeeeechdlcdbaaGreat.ScP Go.Proofs.YtdeeeechdlcdbaaGreat.ScF Go.Proofs.YtdeeeechdlcdbaaGreat.ScN Go.Proofs.YtdeeeechdlcdbaaGreat.HiP Go.Proofs.YtdeeeechdlcdbaaGreat.HiQ Go.Proofs.YtdeeeechdlcdbaaGreat.LkN Go.Proofs.YtdeeeechdlcdbaaGreat.LkM
/-- Is there a phrase of so many bytes at a place? -/
def here (zs : List ByteArray) (B : List UInt8) (i m : Nat) : Bool := (findL zs ((B.drop i).take m)).isSome
/-- The first so many looks, from N down. -/
def stF (p : Nat → Bool) (N : Nat) : Nat → List Nat
  | 0 => []
  | j + 1 => stF p N j ++ (if p (N - j) = true then [N - j] else [])
theorem stF_step {p : Nat → Bool} {N c : Nat} (h : c + 1 ≤ N) : stF p N (N - c) = stF p N (N - (c + 1)) ++ (if p (c + 1) = true then [c + 1] else []) := by
  have e : N - c = (N - (c + 1)) + 1 := by omega
  have e2 : N - (N - (c + 1)) = c + 1 := by omega
  rw [e]
  show stF p N (N - (c + 1)) ++ (if p (N - (N - (c + 1))) = true then [N - (N - (c + 1))] else []) = _
  rw [e2]
theorem stF_len (p : Nat → Bool) (N : Nat) : ∀ j, (stF p N j).length ≤ j
  | 0 => Nat.le_refl _
  | j + 1 => by
    have := stF_len p N j
    show (stF p N j ++ _).length ≤ _
    rw [List.length_append]
    split <;> simp <;> omega
theorem mem_stF {p : Nat → Bool} {N x : Nat} : ∀ {j : Nat}, x ∈ stF p N j ↔ ∃ t, t < j ∧ N - t = x ∧ p x = true
  | 0 => by constructor; intro h; cases h; rintro ⟨t, h, _⟩; omega
  | j + 1 => by
    show x ∈ stF p N j ++ _ ↔ _
    rw [List.mem_append, mem_stF (j := j)]
    constructor
    · rintro (⟨t, h1, h2, h3⟩ | h)
      · exact ⟨t, by omega, h2, h3⟩
      · by_cases hp : p (N - j) = true
        · rw [if_pos hp, List.mem_singleton] at h
          subst h; exact ⟨j, by omega, rfl, hp⟩
        · rw [if_neg hp] at h; cases h
    · rintro ⟨t, h1, h2, h3⟩
      by_cases ht : t < j
      · exact .inl ⟨t, ht, h2, h3⟩
      · obtain rfl : t = j := by omega
        subst h2
        right; rw [if_pos h3]; exact List.mem_singleton.2 rfl
theorem stF_pw (p : Nat → Bool) (N : Nat) : ∀ j, j ≤ N → (stF p N j).Pairwise fun x y => y < x
  | 0, _ => List.Pairwise.nil
  | j + 1, h => by
    show (stF p N j ++ _).Pairwise _
    rw [List.pairwise_append]
    refine ⟨stF_pw p N j (by omega), ?_, ?_⟩
    · split
      · exact List.pairwise_singleton _ _
      · exact List.Pairwise.nil
    · intro a ha b hb
      obtain ⟨t, h1, h2, _⟩ := mem_stF.1 ha
      by_cases hp : p (N - j) = true
      · rw [if_pos hp, List.mem_singleton] at hb
        omega
      · rw [if_neg hp] at hb; cases hb
theorem desc_eq {a b : List Nat} (ha : a.Pairwise fun x y => y < x) (hb : b.Pairwise fun x y => y < x) (hm : ∀ k, k ∈ a ↔ k ∈ b) : a = b :=
  row_one (sz := fun x => x) (ha.imp fun h e => by omega) (hb.imp fun h e => by omega) (ha.imp fun h => Nat.le_of_lt h) (hb.imp fun h => Nat.le_of_lt h) hm (fun x _ y _ e => e)
theorem stF_lens {zs : List ByteArray} (hok : okD zs = true) {B : List UInt8} {i N : Nat} (hi : i ≤ B.length) (hN : min 40 (B.length - i) = N) : stF (here zs B i) N N = lensL zs B i := by
  refine desc_eq (stF_pw _ _ _ (Nat.le_refl _)) (lensL_strict hok B i) fun x => ?_
  rw [mem_stF, mem_lensL]
  constructor
  · rintro ⟨t, h1, h2, h3⟩
    unfold here at h3
    obtain ⟨k, hk⟩ := Option.isSome_iff_exists.1 h3
    obtain ⟨k1, k2⟩ := findL_some hk
    have hx : x ≤ B.length - i := by omega
    have hl : szk zs k = x := by
      unfold szk
      rw [size_list, k2, List.length_take, List.length_drop]
      omega
    refine ⟨k, k1, stands_iff.2 ⟨by omega, ?_⟩, hl⟩
    rw [hl]; exact k2.symm
  · rintro ⟨k, k1, k2, rfl⟩
    obtain ⟨s1, s2⟩ := stands_iff.1 k2
    have h4 := okD_at hok k1
    have h5 : 1 ≤ szk zs k := h4.1
    have h6 : szk zs k ≤ 40 := h4.2.1
    refine ⟨N - szk zs k, by omega, by omega, ?_⟩
    unfold here
    cases hf : findL zs ((B.drop i).take (szk zs k)) with
    | some _ => rfl
    | none => exact absurd s2.symm (findL_none hf k k1)
set_option maxRecDepth 20000 in
set_option maxHeartbeats 4000000 in
theorem stands_any (A : Option Addr) (n cap : Nat) (zs : List ByteArray) (b : ByteArray) (i : Nat) (w : World) (hn : n = zs.length) (hat : StrsAt w A zs) (hbig : n ≤ 100000) (hok : okD zs = true) (hi : i ≤ b.size) (hb : b.size ≤ 100000) :
    Calls Tryz.prog 47 #[.slice A n cap, .string b, .int .i64 (i : Int)] w fun e w' => ∃ v, e = .returned v ∧ w'.ownsRow w.heap.size 3 1 v (lensL zs b.data.toList i).length ((lensL zs b.data.toList i).map encN) ∧ Below w.heap.size w w' := by
  obtain ⟨i3, hi3, hy0, hy1, hy2⟩ := info_parts info3
  have mixed : Tryz.prog.follows .mixedOrders = true := by kernel_rfl
  have hbl : b.data.toList.length = b.size := (size_list b).symm
  obtain ⟨N, hN⟩ : ∃ N, min 40 (b.size - i) = N := ⟨_, rfl⟩
  have hst := stF_lens hok (B := b.data.toList) (i := i) (N := N) (by omega) (by rw [hbl]; exact hN)
  rw [← hst]
  obtain ⟨p, hp⟩ : ∃ p, here zs b.data.toList i = p := ⟨_, rfl⟩
  rw [hp]
  have hph : Hid (here zs b.data.toList i = p) := hp
  have hnh : Hid (n = zs.length) := hn
  have hath : Hid (StrsAt w A zs) := hat
  obtain ⟨d, hd⟩ : ∃ d : Nat, b.size - i = d := ⟨_, rfl⟩
  have zd : IntKind.i64.wrap ((b.size : Int) - (i : Int)) = (d : Int) := by rw [IntKind.wrap_i64]; omega
  have zm : min (40 : Int) (d : Int) = (N : Int) := by omega
  have hNd : N ≤ d := by omega
  have hdb : i + d = b.size := by omega
  have hdh : Hid (b.size - i = d) := hd
  have hN40 : N ≤ 40 := by omega
  have hnil : w.ownsRow w.heap.size 3 1 (.slice none 0 0) (stF p N (N - N)).length ((stF p N (N - N)).map encN) := by rw [Nat.sub_self]; exact World.ownsRow_nil _ _ _ _
  clear hst hp hn hat hd hN hok hbl
  go_enter Tryz.func47, Tryz.ntmps47
  go_wp2_with fail
  go_loopw [7, 8] (fun s7 s8 wr => ∃ c m : Nat, c ≤ N ∧ s8 = .int .i64 (c : Int) ∧ Hid ((stF p N (N - c)).length = m) ∧ wr.ownsRow w.heap.size 3 1 s7 m ((stF p N (N - c)).map encN) ∧ Below w.heap.size w wr) (fun _ s8 _ => (intOf s8).toNat)
  case atStart => exact ⟨N, _, Nat.le_refl _, rfl, Lib.hid rfl, hnil, Below.refl _ _⟩
  case round =>
    obtain ⟨c, m, hc, rfl, hm, hrow, br⟩ := hrel
    clear hnil
    by_cases hc1 : 1 ≤ c
    · obtain ⟨c', rfl⟩ : ∃ c', c = c' + 1 := ⟨c - 1, by omega⟩
      have hstep := stF_step (p := p) hc
      obtain ⟨cc, hcc⟩ : ∃ cc, c' + 1 = cc := ⟨_, rfl⟩
      obtain ⟨hi_, hhi⟩ : ∃ hi_, i + cc = hi_ := ⟨_, rfl⟩
      have hx : (b.extract i hi_).data.toList = (b.data.toList.drop i).take (c' + 1) := by
        rw [ext_list, show hi_ - i = c' + 1 by omega]
      have cF := find_ex A n cap zs (b.extract i hi_) wr hnh.out (hath.out.below br) (by omega)
      rw [hx] at cF
      have hpe : p (c' + 1) = (findL zs ((b.data.toList.drop i).take (c' + 1))).isSome := by rw [← hph.out]; rfl
      have hlen := stF_len p N (N - (c' + 1))
      have hccz : Hid (c' + 1 = cc) := hcc
      rw [hcc] at hrow hm hc hc1 ⊢
      have e1 : decide ((cc : Int) ≥ 1) = true := decide_eq_true (by omega)
      have e2 : decide (cc ≥ 1) = true := decide_eq_true (by omega)
      have e3 : decide (1 ≤ cc) = true := decide_eq_true (by omega)
      have zc : IntKind.i64.wrap ((cc : Int) - 1) = (c' : Int) := by rw [IntKind.wrap_i64]; omega
      have za : IntKind.i64.wrap ((i : Int) + (cc : Int)) = (hi_ : Int) := by rw [IntKind.wrap_i64]; omega
      have q1 : (i : Int) ≤ (hi_ : Int) := by omega
      have q2 : (hi_ : Int) ≤ (b.size : Int) := by omega
      have q3 : hi_ ≤ b.size := by omega
      have q4 : i ≤ hi_ := by omega
      have hm40 : m ≤ 40 := by have := hm.out; have := stF_len p N (N - cc); omega
      clear hx hhi hcc hlen
      cases hf : findL zs ((b.data.toList.drop i).take (c' + 1)) with
      | some k =>
        have hpt : p (c' + 1) = true := by rw [hpe, hf]; rfl
        rw [if_pos hpt, hccz.out] at hstep
        have hfi : findI zs ((b.data.toList.drop i).take (c' + 1)) = (k : Int) := by unfold findI; rw [hf]
        rw [hfi] at cF
        have e4 : decide ((k : Int) ≥ 0) = true := decide_eq_true (by omega)
        have hsh : Hid (stF p N (N - c') = stF p N (N - cc) ++ [cc]) := hstep
        clear hf hpt hpe hfi hstep
        obtain ⟨W0, hW0⟩ : ∃ W0 : World, W0 = wr := ⟨_, rfl⟩
        go_wp2_with fail
        refine cF.mono ?_
        rintro e w4 ⟨rfl, hw⟩
        rw [hw]
        clear cF hw w4
        have own7 := hrow.alloc (.cells #[.int .i64 (cc : Int)] 3)
        have b7 : Below w.heap.size w (wr.alloc (.cells #[.int .i64 (cc : Int)] 3)) := br.trans ((balloc (Below.refl _ _) _).mono br.size)
        have hh3 := heap_new wr (.cells #[.int .i64 (cc : Int)] 3)
        have hs7 := b7.size
        clear hrow
        go_wp2_with (first | (at_builtin; refine wpList_append_own _ rfl (.tmp 27) (.tmp 29) 31 rfl w.heap.size 3 i3 _ 1 8 Tryz.underlying31 hi3 hy0 hy1 hy2 rfl (by decide) _ m ((stF p N (N - cc)).map encN) rfl own7 ⟨wr.heap.size, 0, none⟩ 1 1 [.int .i64 (cc : Int)] rfl rfl ?k1 ?k2 ?k3 ?k4 ?k5 ?_))
        case k1 => intro j u hj; rw [Addr.add_lit, Nat.zero_add]; exact cell_of hh3 (by simpa using hj)
        case k2 => intro u hu; simp at hu; subst hu; rfl
        case k3 => unfold maxLen; omega
        case k4 => omega
        case k5 => omega
        intro v8 w8 own8 hg8 _
        have b8 := b7.grown hg8 b7.size (fun q hq => own_ge own7 q hq)
        have own9 : w8.ownsRow w.heap.size 3 1 v8 (m + 1) ((stF p N (N - c')).map encN) := by
          rw [hsh.out, List.map_append]; exact own8
        have hm9 : Hid ((stF p N (N - c')).length = m + 1) := by
          show _ = _
          rw [hsh.out, List.length_append, hm.out]; rfl
        obtain ⟨V8, c8, rfl, _⟩ := own_form own8
        clear own8 own7 hg8 b7 hh3 hs7 hsh hm
        go_wp2_with fail
        go_roundw
        case rel => exact ⟨c', m + 1, by have := hccz.out; omega, by go_num, hm9, own9, b8⟩
        case measure => have := hccz.out; simp [intOf]; omega
      | none =>
        have hpt : ¬ p (c' + 1) = true := by rw [hpe, hf]; decide
        rw [if_neg hpt, hccz.out, List.append_nil] at hstep
        have hfi : findI zs ((b.data.toList.drop i).take (c' + 1)) = -1 := by unfold findI; rw [hf]
        rw [hfi] at cF
        rw [← hstep] at hrow hm
        clear hf hpt hpe hfi hstep
        go_wp2_with fail
        refine cF.mono ?_
        rintro e w4 ⟨rfl, hw⟩
        rw [hw]
        clear cF hw w4
        go_wp2_with fail
        go_roundw
        case rel => exact ⟨c', m, by have := hccz.out; omega, by go_num, hm, hrow, br⟩
        case measure => have := hccz.out; simp [intOf]; omega
    · have hc0 : c = 0 := by omega
      subst hc0
      have e1 : decide (((0 : Nat) : Int) ≥ 1) = false := rfl
      obtain ⟨V8, c8, rfl, _⟩ := own_form hrow
      rw [Nat.sub_zero] at hrow hm
      rw [← hm.out] at hrow ⊢
      go_wp2_with fail
      go_ret
      exact ⟨_, rfl, hrow, br⟩
end Go.Proofs.YtdeeeechdlcdbaaGreat.StaA
