/- All hits, by the reference: the walk of Hits. -/
import Derived.Test.YtdeeeechdlcdbaaGreatPhW
import Derived.Test.YtdeeeechdlcdbaaGreatScA
import Derived.Test.YtdeeeechdlcdbaaGreatTtN
import Derived.IntWalk
import Derived.WalkLawsBesides
set_option linter.unusedVariables false
set_option linter.unusedSimpArgs false
namespace Go.Proofs.YtdeeeechdlcdbaaGreat.RhA
open Go Go.RowKit Go.Lib Go.Sort Go.Proofs Go.Proofs.YtdeeeechdlcdbaaGreat Go.Proofs.YtdeeeechdlcdbaaGreat.Base Go.Proofs.YtdeeeechdlcdbaaGreat.DiA Go.Proofs.YtdeeeechdlcdbaaGreat.DiB Go.Proofs.YtdeeeechdlcdbaaGreat.TcP Go.Proofs.YtdeeeechdlcdbaaGreat.TrP Go.Proofs.YtdeeeechdlcdbaaGreat.TrD Go.Proofs.YtdeeeechdlcdbaaGreat.PhP Go.Proofs.YtdeeeechdlcdbaaGreat.PhW Go.Proofs.YtdeeeechdlcdbaaGreat.ScP Go.Proofs.YtdeeeechdlcdbaaGreat.ScH Go.Proofs.YtdeeeechdlcdbaaGreat.ScF Go.Proofs.YtdeeeechdlcdbaaGreat.ScE Go.Proofs.YtdeeeechdlcdbaaGreat.ScA
def asHits (e : Nat) (l : List Nat) : List (Nat × Nat) := l.map fun k => (e, k)
theorem asHits_app (e : Nat) (a b : List Nat) : asHits e (a ++ b) = asHits e a ++ asHits e b := List.map_append
set_option maxRecDepth 20000 in
set_option maxHeartbeats 4000000 in
theorem hits_call (A : Option Addr) (n cap : Nat) (zs : List ByteArray) {X : List Pn} (s b : ByteArray) (at_ : Nat) (w : World) (hn : n = zs.length) (hat : StrsAt w A zs) (hbig : n ≤ 100000) (hT : Tr zs X) (hs : s.size ≤ 100000) (hb : b.size ≤ 10000) (hat2 : at_ ≤ 1000000000) :
    Calls Tryz.prog 27 #[.slice A n cap, .string s, .string b, .int .i64 (at_ : Int)] w fun e w' => ∃ v, e = .returned v ∧ w'.ownsRow w.heap.size 93 2 v (feedU zs s.data.toList at_ b.data.toList b.size).length (hitC (feedU zs s.data.toList at_ b.data.toList b.size)) ∧ Below w.heap.size w w' := by
  obtain ⟨i0, hi0, hz0, hz1, hz2⟩ := info_parts info35
  have mixed : Tryz.prog.follows .mixedOrders = true := by kernel_rfl
  have hnh : Hid (n = zs.length) := hn
  have hath : Hid (StrsAt w A zs) := hat
  have hTh : Hid (Tr zs X) := hT
  obtain ⟨sn, hsn⟩ : ∃ sn, s.size = sn := ⟨_, rfl⟩
  obtain ⟨bn, hbn⟩ : ∃ bn, b.size = bn := ⟨_, rfl⟩
  obtain ⟨t, ht⟩ : ∃ t, s ++ b = t := ⟨_, rfl⟩
  obtain ⟨tn, htn⟩ : ∃ tn, t.size = tn := ⟨_, rfl⟩
  have hsum : sn + bn = tn := by rw [← htn, ← ht, ByteArray.size_append, hsn, hbn]
  have htl : Hid (t.data.toList = s.data.toList ++ b.data.toList) := by show _ = _; rw [← ht, app_list]
  have hsl : Hid (s.data.toList.length = sn) := by show _ = _; rw [← hsn, size_list]
  have hbl : Hid (b.data.toList.length = bn) := by show _ = _; rw [← hbn, size_list]
  have hlim : ¬ (9223372036854775807 < sn + bn) := by omega
  have hfl : Hid (∀ j, (feedU zs s.data.toList at_ b.data.toList j).length ≤ 40 * j) := feedU_len hT _ _ _
  have zs1 : IntKind.i64.wrap ((sn : Int) + 1) = ((sn + 1 : Nat) : Int) := by rw [IntKind.wrap_i64]; omega
  have hnil : w.ownsRow w.heap.size 93 2 (.slice none 0 0) (feedU zs s.data.toList at_ b.data.toList 0).length (hitC (feedU zs s.data.toList at_ b.data.toList 0)) := World.ownsRow_nil _ _ _ _
  rw [hsn] at hs
  rw [hbn] at hb ⊢
  clear hn hat hT
  go_enter Tryz.func27, Tryz.ntmps27
  go_wp2_with fail
  go_loopw [10, 11] (fun s10 s11 wr => ∃ j q m : Nat, j ≤ bn ∧ s11 = .int .i64 (q : Int) ∧ Hid (sn + 1 + j = q) ∧ Hid ((feedU zs s.data.toList at_ b.data.toList j).length = m) ∧ wr.ownsRow w.heap.size 93 2 s10 m (hitC (feedU zs s.data.toList at_ b.data.toList j)) ∧ Below w.heap.size w wr) (fun _ s11 _ => tn + 1 - (intOf s11).toNat)
  case atStart => exact ⟨0, sn + 1, _, Nat.zero_le _, rfl, Lib.hid rfl, Lib.hid rfl, hnil, Below.refl _ _⟩
  case round =>
    obtain ⟨j, q, m, hj, rfl, hq, hm, hrow, br⟩ := hrel
    clear hnil
    obtain ⟨V0, c0, rfl, _⟩ := own_form hrow
    by_cases hlt : j < bn
    · have hqt : q ≤ tn := by have := hq.out; omega
      have e1 : decide ((q : Int) ≤ (tn : Int)) = true := decide_eq_true (by omega)
      have e1' : decide (q ≤ tn) = true := decide_eq_true hqt
      obtain ⟨T, hT⟩ : ∃ T, s.data.toList ++ b.data.toList.take (j + 1) = T := ⟨_, rfl⟩
      have hTt : Hid (T = t.data.toList.take q) := by
        show _ = _
        have h1 := hsl.out
        have h2 := hq.out
        rw [htl.out, ← hT, List.take_append, h1, List.take_of_length_le (show s.data.toList.length ≤ q by omega), show q - sn = j + 1 by omega]
      have hTl : Hid (T.length = q) := by
        show _ = _
        have h1 := hsl.out
        have h2 := hq.out
        have h3 := hbl.out
        rw [← hT, List.length_append, List.length_take]; omega
      obtain ⟨E, hE⟩ : ∃ E, ends zs T T.length = E := ⟨_, rfl⟩
      obtain ⟨N, hN⟩ : ∃ N, min q 40 = N := ⟨_, rfl⟩
      have hEN : ends zs T N = E := by rw [← hE, ends_40 hTh.out, hTl.out, hN]
      have hsucc : Hid (feedU zs s.data.toList at_ b.data.toList (j + 1) = feedU zs s.data.toList at_ b.data.toList j ++ asHits (at_ + (j + 1)) E) := by
        show _ = _
        rw [feedU_succ, hT, hE]; rfl
      have hE40 : Hid (E.length ≤ 40) := by show _ ≤ _; rw [← hEN]; have := ends_length zs T N; omega
      have zm : min (q : Int) 40 = (N : Int) := by omega
      have hNq : Hid (N ≤ q) := by show _ ≤ _; omega
      obtain ⟨F, hF⟩ : ∃ F, feedU zs s.data.toList at_ b.data.toList j = F := ⟨_, rfl⟩
      have hFh : Hid (feedU zs s.data.toList at_ b.data.toList j = F) := hF
      have hF40 : Hid (F.length ≤ 400000) := by show _ ≤ _; have := hfl.out j; rw [hF] at this; omega
      have hstart : Hid ([] ++ ends zs T N = E) := by show _ = _; rw [List.nil_append]; exact hEN
      have hm0 : Hid ((F ++ asHits (at_ + (j + 1)) []).length = m) := by show _ = _; rw [← hF]; show (_ ++ []).length = m; rw [List.append_nil]; exact hm.out
      have hrow0 : wr.ownsRow w.heap.size 93 2 (.slice V0 m c0) m (hitC (F ++ asHits (at_ + (j + 1)) [])) := by rw [← hF]; show wr.ownsRow _ _ _ _ _ (hitC (_ ++ [])); rw [List.append_nil]; exact hrow
      have zq1 : IntKind.i64.wrap ((q : Int) + 1) = (q : Int) + 1 := by rw [IntKind.wrap_i64]; omega
      clear hE hEN hN hT hF hm hrow
      go_wp2_with fail
      go_loopw [10, 12] (fun s10 s12 wr2 => ∃ (c m2 : Nat) (done : List Nat), c ≤ N ∧ s12 = .int .i64 (c : Int) ∧ Hid (done ++ ends zs T c = E) ∧ Hid ((F ++ asHits (at_ + (j + 1)) done).length = m2) ∧ wr2.ownsRow w.heap.size 93 2 s10 m2 (hitC (F ++ asHits (at_ + (j + 1)) done)) ∧ Below w.heap.size w wr2) (fun _ s12 _ => (intOf s12).toNat)
      case atStart => exact ⟨N, m, [], Nat.le_refl _, rfl, hstart, hm0, hrow0, br⟩
      case round =>
        obtain ⟨c, m2, done, hc, rfl, hd, hm2, hrow2, br2⟩ := hrel
        clear hstart hm0 hrow0
        obtain ⟨V2, c2, rfl, _⟩ := own_form hrow2
        by_cases hc1 : 1 ≤ c
        · obtain ⟨c', rfl⟩ : ∃ c', c = c' + 1 := ⟨c - 1, by omega⟩
          obtain ⟨cc, hcc⟩ : ∃ cc, c' + 1 = cc := ⟨_, rfl⟩
          have hccz : Hid (c' + 1 = cc) := hcc
          obtain ⟨lo, hlo⟩ : ∃ lo, q - cc = lo := ⟨_, rfl⟩
          have hNq' := hNq.out
          have hx : (t.extract lo q).data.toList = lastN T (c' + 1) := by
            rw [ext_list]
            unfold lastN
            rw [hTl.out, hTt.out, List.drop_take, hcc, hlo]
          have cF := find_ex A n cap zs (t.extract lo q) wr hnh.out (hath.out.below br2) (by omega)
          rw [hx] at cF
          have hd' : done ++ ends zs T (c' + 1) = E := hd.out
          have hdl : done.length ≤ 40 := by have := congrArg List.length hd'; rw [List.length_append] at this; have := hE40.out; omega
          have hm2b : m2 ≤ 500000 := by have h1 := hm2.out; rw [List.length_append] at h1; unfold asHits at h1; rw [List.length_map] at h1; have := hF40.out; omega
          rw [hcc] at hc hc1 ⊢
          have e2 : decide ((cc : Int) ≥ 1) = true := decide_eq_true (by omega)
          have e3 : decide (1 ≤ cc) = true := decide_eq_true (by omega)
          have zc : IntKind.i64.wrap ((cc : Int) - 1) = (c' : Int) := by rw [IntKind.wrap_i64]; omega
          have za : IntKind.i64.wrap ((q : Int) - (cc : Int)) = (lo : Int) := by rw [IntKind.wrap_i64]; omega
          have q1 : (lo : Int) ≤ (q : Int) := by omega
          have q2 : (q : Int) ≤ (tn : Int) := by omega
          have q3 : lo ≤ q := by omega
          clear hx hcc hlo hdl hNq'
          cases hf : findL zs (lastN T (c' + 1)) with
          | some k =>
            have hnx : Hid ((done ++ [k]) ++ ends zs T c' = E) := by show _ = _; rw [ends_yes hf] at hd'; rw [List.append_assoc]; exact hd'
            have hfi : findI zs (lastN T (c' + 1)) = (k : Int) := by unfold findI; rw [hf]
            rw [hfi] at cF
            have e4 : decide ((k : Int) ≥ 0) = true := decide_eq_true (by omega)
            obtain ⟨en, hen⟩ : ∃ en, at_ + (j + 1) = en := ⟨_, rfl⟩
            have henz : Hid (at_ + (j + 1) = en) := hen
            have zw1 : IntKind.i64.wrap ((at_ : Int) + (q : Int)) = (at_ : Int) + (q : Int) := by rw [IntKind.wrap_i64]; omega
            have zw2 : IntKind.i64.wrap ((at_ : Int) + (q : Int) - (sn : Int)) = (en : Int) := by have := hq.out; rw [IntKind.wrap_i64]; omega
            have hnew : Hid (hitC (F ++ asHits (at_ + (j + 1)) (done ++ [k])) = hitC (F ++ asHits (at_ + (j + 1)) done) ++ [.int .i64 (en : Int), .int .i64 (k : Int)]) := by
              show _ = _
              rw [asHits_app, ← List.append_assoc, hitC_app, ← hen]; rfl
            have hnl : Hid ((F ++ asHits (at_ + (j + 1)) (done ++ [k])).length = m2 + 1) := by
              show _ = _
              have h1 := hm2.out
              rw [asHits_app, ← List.append_assoc, List.length_append, h1]; rfl
            clear hf hfi hen hd hd'
            go_wp2_with fail
            refine cF.mono ?_
            rintro e w4 ⟨rfl, hw⟩
            rw [hw]
            clear cF hw w4
            have own7 := hrow2.alloc (.cells #[.int .i64 (en : Int), .int .i64 (k : Int)] 93)
            have b7 : Below w.heap.size w (wr.alloc (.cells #[.int .i64 (en : Int), .int .i64 (k : Int)] 93)) := br2.trans ((balloc (Below.refl _ _) _).mono br2.size)
            have hh3 := heap_new wr (.cells #[.int .i64 (en : Int), .int .i64 (k : Int)] 93)
            have hs7 := b7.size
            clear hrow2 hm2
            go_wp2_with (first | (at_builtin; refine wpList_append_own _ rfl (.tmp 42) (.tmp 51) 52 rfl w.heap.size 93 i0 _ 2 16 Tryz.underlying52 hi0 hz0 hz1 hz2 rfl (by decide) _ m2 (hitC (F ++ asHits (at_ + (j + 1)) done)) rfl own7 ⟨wr.heap.size, 0, none⟩ 1 1 [.int .i64 (en : Int), .int .i64 (k : Int)] rfl rfl ?k1 ?k2 ?k3 ?k4 ?k5 ?_))
            case k1 => intro j u hj; rw [Addr.add_lit, Nat.zero_add]; exact cell_of hh3 (by simpa using hj)
            case k2 => intro u hu; simp at hu; rcases hu with rfl | rfl <;> rfl
            case k3 => unfold maxLen; omega
            case k4 => omega
            case k5 => omega
            intro v8 w8 own8 hg8 _
            have b8 := b7.grown hg8 b7.size (fun q hq => own_ge own7 q hq)
            have own9 : w8.ownsRow w.heap.size 93 2 v8 (m2 + 1) (hitC (F ++ asHits (at_ + (j + 1)) (done ++ [k]))) := by rw [hnew.out]; exact own8
            obtain ⟨V8, c8, rfl, _⟩ := own_form own8
            clear own8 own7 hg8 b7 hh3 hs7 hnew
            go_wp2_with fail
            go_roundw
            case rel => exact ⟨c', m2 + 1, done ++ [k], by have := hccz.out; omega, by go_num, hnx, hnl, own9, b8⟩
            case measure => have := hccz.out; simp [intOf]; omega
          | none =>
            have hnx : Hid (done ++ ends zs T c' = E) := by show _ = _; rw [ends_no hf] at hd'; exact hd'
            have hfi : findI zs (lastN T (c' + 1)) = -1 := by unfold findI; rw [hf]
            rw [hfi] at cF
            clear hf hfi hd hd'
            go_wp2_with fail
            refine cF.mono ?_
            rintro e w4 ⟨rfl, hw⟩
            rw [hw]
            clear cF hw w4
            go_wp2_with fail
            go_roundw
            case rel => exact ⟨c', m2, done, by have := hccz.out; omega, by go_num, hnx, hm2, hrow2, br2⟩
            case measure => have := hccz.out; simp [intOf]; omega
        · have hc0 : c = 0 := by omega
          subst hc0
          have hde : done = E := by have := hd.out; rw [show ends zs T 0 = [] from rfl, List.append_nil] at this; exact this
          have hq2 : Hid (sn + 1 + (j + 1) = q + 1) := by show _ = _; have := hq.out; omega
          rw [hde] at hm2 hrow2
          have hrow3 : wr.ownsRow w.heap.size 93 2 (.slice V2 m2 c2) m2 (hitC (feedU zs s.data.toList at_ b.data.toList (j + 1))) := by rw [hsucc.out, hFh.out]; exact hrow2
          have hm3 : Hid ((feedU zs s.data.toList at_ b.data.toList (j + 1)).length = m2) := by show _ = _; rw [hsucc.out, hFh.out]; exact hm2.out
          clear hd hde hrow2 hm2
          go_wp2_with fail
          go_roundw
          case rel => exact ⟨j + 1, q + 1, m2, hlt, by go_num, hq2, hm3, hrow3, br2⟩
          case measure => simp [intOf]; omega
    · have hqt : ¬ q ≤ tn := by have := hq.out; omega
      have e1 : decide ((q : Int) ≤ (tn : Int)) = false := decide_eq_false (by omega)
      have e1' : decide (q ≤ tn) = false := decide_eq_false hqt
      obtain rfl : j = bn := by omega
      rw [← hm.out] at hrow ⊢
      go_wp2_with fail
      go_ret
      exact ⟨_, rfl, hrow, br⟩
end Go.Proofs.YtdeeeechdlcdbaaGreat.RhA
