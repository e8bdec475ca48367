/- The sons of a trie's node, sorted. -/
import Derived.Test.YtdeeeechdlcdbaaSnC
import Derived.Test.YtdeeeechdlcdbaaTwA
import Derived.Test.YtdeeeechdlcdbaaTrQ
set_option linter.unusedVariables false
set_option linter.unusedSimpArgs false
namespace Go.Proofs.Ytdeeeechdlcdbaa.Sn
open Go Go.RowKit Go.Maps Go.Sort Go.Proofs Go.Proofs.Ytdeeeechdlcdbaa.Base Go.Proofs.Ytdeeeechdlcdbaa.Sr Go.Proofs.Ytdeeeechdlcdbaa.TrP Go.Proofs.Ytdeeeechdlcdbaa.TrM Go.Proofs.Ytdeeeechdlcdbaa.TrA Go.Proofs.Ytdeeeechdlcdbaa.TrQ Go.Proofs.Ytdeeeechdlcdbaa.TrE
theorem sonsL_lt (f : Int → Option Nat) : (sonsL f).Pairwise (· < ·) := by
  unfold sonsL
  refine List.Pairwise.filter _ (List.Pairwise.map _ (fun a b h => ?_) (List.pairwise_lt_range (n := 256)))
  omega
theorem sort_sons {f : Int → Option Nat} {ss : List Int} (hp : ss.Perm (sonsL f)) : ss.mergeSort (fun x y => decide (x ≤ y)) = sonsL f := by
  have h1 : (ss.mergeSort (fun x y => decide (x ≤ y))).Pairwise (fun x y => x ≤ y) := by
    have := List.pairwise_mergeSort (le := fun x y : Int => decide (x ≤ y)) (fun a b c h1 h2 => by simp at *; omega) (fun a b => by simp; omega) ss
    exact this.imp (fun h => by simpa using h)
  have h2 : (sonsL f).Pairwise (fun x y => x ≤ y) := (sonsL_lt f).imp (fun h => by omega)
  exact List.Perm.eq_of_pairwise (fun a b _ _ h1 h2 => by omega) h1 h2 ((List.mergeSort_perm ss _).trans hp)
theorem sons_keys {w : World} {b n : Nat} {D0 : DataW Unit} {R : Value → Option (DataW Unit × List MemPlace)} (hown : w.ownsMap Try.prog 5 R b n D0) {f : Int → Option Nat} (r : ∀ c : Int, 0 ≤ c ∧ c ≤ 255 → Maps.has D0 (key c) = (f c).isSome) : (sonsL f).Perm (byteKeys D0) := by
  obtain ⟨es, hD, hpw, _⟩ := hown.entries law5
  obtain ⟨es', hD', hko⟩ := hown.keysOf
  obtain rfl : es = es' := by rw [hD] at hD'; simpa using hD'
  subst hD
  refine perm_byteKeys hpw (fun p hp => by obtain ⟨v, hv⟩ := hko p hp; obtain ⟨x, _, hx, _⟩ := keyOf_u8 Try.underlying5 hv; exact ⟨x, hx⟩) (bytes_nodup.filter _) (fun x => ?_)
  rw [mem_sonsL]
  constructor
  · rintro ⟨h1, h2⟩
    exact (r x h1).trans h2
  · intro hh
    have hx : 0 ≤ x ∧ x ≤ 255 := by
      rw [has_eq, List.any_eq_true] at hh
      obtain ⟨p, hp, hs⟩ := hh
      obtain ⟨v, hv⟩ := hko p hp
      obtain ⟨y, _, hy, hl⟩ := keyOf_u8 Try.underlying5 hv
      rw [hy] at hs
      have e : y = x := by simpa [Lit.sameKey] using hs
      subst e
      simp [Lit.wf, IntKind.min, IntKind.max, IntKind.signed, IntKind.bits] at hl
      omega
    exact ⟨hx, (r x hx).symm.trans hh⟩
theorem keys_size {w : World} {b n : Nat} {D0 : DataW Unit} {R : Value → Option (DataW Unit × List MemPlace)} (hown : w.ownsMap Try.prog 5 R b n D0) {f : Int → Option Nat} (r : ∀ c : Int, 0 ≤ c ∧ c ≤ 255 → Maps.has D0 (key c) = (f c).isSome) : Maps.size D0 ≤ 256 := by
  have h := (sons_keys hown r).length_eq
  obtain ⟨es, hD, hpw, _⟩ := hown.entries law5
  subst hD
  have h2 := sonsL_len f
  have h3 : (byteKeys (.map es)).length = es.length := by simp [byteKeys]
  show es.length ≤ 256
  omega
theorem field_2 (t : ByteArray) (x : Int) (mp : Option Nat) (W : World) : (Instr.field 106 (.agg #[.string t, .int .i64 x, .map mp]) 2).run Try.prog W = .ok (.map mp) W := field63_2 t x mp W
set_option maxRecDepth 100000 in
set_option maxHeartbeats 2000000 in
theorem sons_in {B p m : Nat} {N : List Nd} {w : World} (h : TrieAt B w p N m) (hbig : N.length ≤ 1000000) {k : Nat} {nd : Nd} (hk : N[k]? = some nd) :
    Calls Try.prog 31 #[.pointer (some ⟨p, 0, none⟩), .int .i64 (k : Int)] w fun e w' => ∃ v : Value, e = .returned v ∧ w'.ownsRow w.heap.size 5 1 v (sonsL nd.p.sons).length ((sonsL nd.p.sons).map encB) ∧ Below w.heap.size w w' := by
  have hA := at_in h hk hbig
  have hm := (h.maps nd (List.mem_of_getElem? hk)).2
  have cA : CallsIn Fence.wide 5 Try.prog 78 _ _ _ := callsIn_wide.2 hA
  have cK : ∀ mb W, CallsIn Fence.wide 5 Try.prog 77 #[.map mb] W fun e w' => e = .returned (.func (.func 114) #[] #[.pointer (some ⟨W.heap.size, 0, none⟩)]) ∧ w' = W.alloc (.cells #[.map mb] 104) := fun mb W => keys_in Fence.wide 5 trivial rfl mb W
  have cS : ∀ W : World, Below w.heap.size w W → CallsIn Fence.wide 5 Try.prog 76 #[.func (.func 114) #[] #[.pointer (some ⟨W.heap.size, 0, none⟩)]] (W.alloc (.cells #[.map (some nd.mp)] 104)) fun e w' => ∃ v : Value, e = .returned v ∧ w'.ownsRow w.heap.size 5 1 v (sonsL nd.p.sons).length ((sonsL nd.p.sons).map encB) ∧ Below w.heap.size w w' := by
    intro W hW
    obtain ⟨D, hown, r⟩ := hm.below hW
    have r1 : ∀ c : Int, 0 ≤ c ∧ c ≤ 255 → Maps.has D (key c) = (nd.p.sons c).isSome := fun c hc => (r c hc).1
    have hbl := hown.lt
    have hsz := keys_size hown r1
    have hpk := sons_keys hown r1
    have h256 : (256 : Nat) ≤ maxLen := by decide
    have hseq : SeqGives Fence.wide 2 Try.prog 114 #[.pointer (some ⟨W.heap.size, 0, none⟩)] encB (fun ss => ss.Perm (byteKeys D)) (Maps.size D) (W.alloc (.cells #[.map (some nd.mp)] 104)) :=
      keys_gives Fence.wide _ trivial rfl (by omega) W.heap.size nd.mp m D _ (by simp) (by simp) (by
        obtain ⟨es, clock, hb, Ft, hs, hD⟩ := hown
        exact ⟨es, clock, (Below.heap_alloc _ _ nd.mp hbl).trans hb, Ft, hs, hD⟩)
    refine (sorted_in Fence.wide 5 trivial trivial trivial trivial rfl (by omega) (sorts_wide _) 114 #[.pointer (some ⟨W.heap.size, 0, none⟩)] trivial (enters_of Try.func114 (by kernel_rfl) rfl) _ _ (Nat.le_trans hsz h256) (by omega) _ hseq).mono ?_
    rintro e w' ⟨v, ss, rfl, hS, hrow, _, hb⟩
    have hp2 : ss.Perm (sonsL nd.p.sons) := hS.trans hpk.symm
    rw [sort_sons hp2, hp2.length_eq] at hrow
    have hWs := hW.size
    exact ⟨v, rfl, ownsRow_base_a hrow (by simp; omega), (hW.trans ((Below.refl _ W).alloc (Nat.le_refl _) _ |>.mono hWs)).trans (hb.mono (by simp; omega))⟩
  clear hm hA h hk
  obtain ⟨⟨tx, wd, sn⟩, mp⟩ := nd
  simp only at cA cS
  generalize sonsL sn = L at cS
  have hfd := field_2 tx wd (some mp)
  refine (callsIn_wide (n := 6)).1 ?_
  have hf1 : Fence.wide.fn 78 := trivial
  have hf2 : Fence.wide.fn 77 := trivial
  have hf3 : Fence.wide.fn 76 := trivial
  refine callsIn_of_wp Try.func31 rfl trivial ?_ rfl
  simp only [Try.ntmps31, List.size_toArray, List.length_cons, List.length_nil, Nat.reduceAdd, Nat.reduceSub, Array.replicate_succ, Array.replicate_zero, List.push_toArray, List.append_toArray, List.nil_append, List.cons_append]
  gi_wp2_with (gi_at_call 78; refine cA.mono ?_; rintro e w1 ⟨rfl, hb1⟩)
  have cS1 := cS w1 hb1
  simp only [atV]
  rw [hfd w1]
  gi_wp2_with (first
    | (gi_at_call 77; refine (cK _ _).mono ?_; rintro e w' ⟨rfl, rfl⟩)
    | (gi_at_call 76; refine cS1.mono ?_; rintro e w' ⟨v, rfl, hrow, hb⟩))
  go_ret
  exact ⟨v, rfl, hrow, hb⟩
end Go.Proofs.Ytdeeeechdlcdbaa.Sn
