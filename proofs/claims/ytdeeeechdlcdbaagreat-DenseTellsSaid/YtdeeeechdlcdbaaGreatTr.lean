/- The walks of a trie's small functions. -/
import Derived.Test.YtdeeeechdlcdbaaGreatTrM
set_option linter.unusedSimpArgs false
set_option linter.unusedVariables false
namespace Go.Proofs.YtdeeeechdlcdbaaGreat.TrA
open Go Go.RowKit Go.Proofs.YtdeeeechdlcdbaaGreat.Base Go.Proofs.YtdeeeechdlcdbaaGreat.TrP Go.Proofs.YtdeeeechdlcdbaaGreat.TrM
section
variable {B p m : Nat} {N : List Nd} {w : World}
set_option maxHeartbeats 400000 in
theorem len_any (h : TrieAt B w p N m) : Calls Tryz.prog 76 #[.pointer (some ⟨p, 0, none⟩)] w fun e w' => e = .returned (.int .i64 (N.length : Int)) ∧ w' = w := by
  obtain ⟨V, cp, hc⟩ := h.head
  clear h
  go_enter Tryz.func76, Tryz.ntmps76
  go_wp2_with fail
  go_ret
  exact ⟨rfl, rfl⟩
def atV (t : ByteArray) (x : Int) (mp : Option Nat) : Value := .agg #[.string t, .int .i64 x, .map mp]
theorem field63_0 (t : ByteArray) (x : Int) (mp : Option Nat) (W : World) : (Instr.field 122 (.agg #[.string t, .int .i64 x, .map mp]) 0).run Tryz.prog W = .ok (.string t) W := by kernel_rfl
theorem field63_1 (t : ByteArray) (x : Int) (mp : Option Nat) (W : World) : (Instr.field 122 (.agg #[.string t, .int .i64 x, .map mp]) 1).run Tryz.prog W = .ok (.int .i64 x) W := by kernel_rfl
theorem field63_2 (t : ByteArray) (x : Int) (mp : Option Nat) (W : World) : (Instr.field 122 (.agg #[.string t, .int .i64 x, .map mp]) 2).run Tryz.prog W = .ok (.map mp) W := by kernel_rfl
set_option maxHeartbeats 1000000 in
theorem at_in (h : TrieAt B w p N m) {k : Nat} {nd : Nd} (hk : N[k]? = some nd) (hbig : N.length ≤ 1000000) : Calls Tryz.prog 104 #[.pointer (some ⟨p, 0, none⟩), .int .i64 (k : Int)] w fun e w' => e = .returned (atV nd.p.text nd.p.word (some nd.mp)) ∧ Below w.heap.size w w' := by
  have hlt : k < N.length := (List.getElem?_eq_some_iff.1 hk).1
  have ha : TrieAt B (w.alloc (.cells #[.string ⟨#[]⟩, .int .i64 0, .map none] 122)) p N m := h.below (balloc (Below.refl _ _) _)
  have hlen := len_any ha
  obtain ⟨g, cp, c0, c1, c2, c3⟩ := ha.node hk
  have hd : decide ((k : Int) < 0) = false := decide_eq_false (by omega)
  have hd2 : decide ((k : Int) ≥ (N.length : Int)) = false := decide_eq_false (by omega)
  have hki : (k : Int) < (N.length : Int) := by omega
  clear ha h hk
  obtain ⟨nd0, mp⟩ := nd
  obtain ⟨tx, wd, sn⟩ := nd0
  simp only at c1 c2 c3
  go_enter Tryz.func104, Tryz.ntmps104
  go_wp2_with fail
  refine hlen.mono ?_
  rintro e w1 ⟨rfl, hw⟩
  rw [hw]
  clear hlen hw
  go_wp2_with fail
  refine bodyPost_ret (v := atV tx wd (some mp)) ?_ rfl ⟨rfl, balloc (Below.refl _ _) _⟩
  simp [results, Tryz.results104, go_sem, atV]
set_option maxHeartbeats 1000000 in
theorem at_out (h : TrieAt B w p N m) {k : Int} (hk : k < 0 ∨ (N.length : Int) ≤ k) : Calls Tryz.prog 104 #[.pointer (some ⟨p, 0, none⟩), .int .i64 k] w fun e w' => e = .returned (atV ⟨#[]⟩ (-1) none) ∧ Below w.heap.size w w' := by
  have ha : TrieAt B (w.alloc (.cells #[.string ⟨#[]⟩, .int .i64 0, .map none] 122)) p N m := h.below (balloc (Below.refl _ _) _)
  have hlen := len_any ha
  clear ha h
  by_cases h0 : k < 0
  · have hd : decide (k < 0) = true := decide_eq_true h0
    clear hk hlen
    go_enter Tryz.func104, Tryz.ntmps104
    go_wp2_with fail
    refine bodyPost_ret (v := atV ⟨#[]⟩ (-1) none) ?_ rfl ⟨rfl, balloc (Below.refl _ _) _⟩
    simp [results, Tryz.results104, go_sem, atV]
  · have hd : decide (k < 0) = false := decide_eq_false h0
    have hd2 : decide (k ≥ (N.length : Int)) = true := decide_eq_true (by omega)
    clear hk h0
    go_enter Tryz.func104, Tryz.ntmps104
    go_wp2_with fail
    refine hlen.mono ?_
    rintro e w1 ⟨rfl, hw⟩
    rw [hw]
    clear hlen hw
    go_wp2_with fail
    refine bodyPost_ret (v := atV ⟨#[]⟩ (-1) none) ?_ rfl ⟨rfl, balloc (Below.refl _ _) _⟩
    simp [results, Tryz.results104, go_sem, atV]
theorem at_any (h : TrieAt B w p N m) (hbig : N.length ≤ 1000000) (k : Int) : ∃ t x mp, (∀ j nd, k = (j : Nat) → N[j]? = some nd → t = nd.p.text ∧ x = nd.p.word ∧ mp = some nd.mp) ∧ ((k < 0 ∨ (N.length : Int) ≤ k) → t = ⟨#[]⟩ ∧ x = -1 ∧ mp = none) ∧
    Calls Tryz.prog 104 #[.pointer (some ⟨p, 0, none⟩), .int .i64 k] w fun e w' => e = .returned (atV t x mp) ∧ Below w.heap.size w w' := by
  by_cases hk : k < 0 ∨ (N.length : Int) ≤ k
  · refine ⟨_, _, _, fun j nd hj hn => ?_, fun _ => ⟨rfl, rfl, rfl⟩, at_out h hk⟩
    have := (List.getElem?_eq_some_iff.1 hn).1
    omega
  · obtain ⟨j, rfl⟩ := Int.eq_ofNat_of_zero_le (show 0 ≤ k by omega)
    have hj : j < N.length := by omega
    refine ⟨_, _, _, fun j' nd hj' hn => ?_, fun h => absurd h hk, at_in h (List.getElem?_eq_getElem hj) hbig⟩
    have : j' = j := by omega
    subst this
    rw [List.getElem?_eq_getElem hj] at hn
    obtain rfl := Option.some.inj hn
    exact ⟨rfl, rfl, rfl⟩
set_option maxHeartbeats 400000 in
theorem text_of {t : ByteArray} {x : Int} {mp : Option Nat} {k : Int} (h : Calls Tryz.prog 104 #[.pointer (some ⟨p, 0, none⟩), .int .i64 k] w fun e w' => e = .returned (atV t x mp) ∧ Below w.heap.size w w') :
    Calls Tryz.prog 114 #[.pointer (some ⟨p, 0, none⟩), .int .i64 k] w fun e w' => e = .returned (.string t) ∧ Below w.heap.size w w' := by
  go_enter Tryz.func114, Tryz.ntmps114
  go_wp2_with fail
  refine h.mono ?_
  rintro e w1 ⟨rfl, hb⟩
  clear h
  simp only [atV]
  have hfd := field63_0 t x mp
  go_wp2_with fail
  go_ret
  exact ⟨rfl, hb⟩
set_option maxHeartbeats 400000 in
theorem word_of {t : ByteArray} {x : Int} {mp : Option Nat} {k : Int} (h : Calls Tryz.prog 104 #[.pointer (some ⟨p, 0, none⟩), .int .i64 k] w fun e w' => e = .returned (atV t x mp) ∧ Below w.heap.size w w') :
    Calls Tryz.prog 101 #[.pointer (some ⟨p, 0, none⟩), .int .i64 k] w fun e w' => e = .returned (.int .i64 x) ∧ Below w.heap.size w w' := by
  go_enter Tryz.func101, Tryz.ntmps101
  go_wp2_with fail
  refine h.mono ?_
  rintro e w1 ⟨rfl, hb⟩
  clear h
  simp only [atV]
  have hfd := field63_1 t x mp
  go_wp2_with fail
  go_ret
  exact ⟨rfl, hb⟩
end
end Go.Proofs.YtdeeeechdlcdbaaGreat.TrA
/- The walk of a trie's add. -/
set_option linter.unusedSimpArgs false
set_option linter.unusedVariables false
namespace Go.Proofs.YtdeeeechdlcdbaaGreat.TrB
open Go Go.RowKit Go.Proofs.YtdeeeechdlcdbaaGreat.Base Go.Proofs.YtdeeeechdlcdbaaGreat.TrP Go.Proofs.YtdeeeechdlcdbaaGreat.TrM Go.Proofs.YtdeeeechdlcdbaaGreat.TrA Go.Proofs.YtdeeeechdlcdbaaGreat.DiC
/-- A new node. -/
def newNd (s : ByteArray) (mp : Nat) : Nd := ⟨⟨s, -1, fun _ => none⟩, mp⟩
/-- Cells that are no trie's stay as they are. -/
def Keeps (w w' : World) : Prop := ∀ (g : Nat) (cs : Array Value) (t : TypeId), t ≠ 118 → t ≠ 122 → w.heap[g]? = some (.cells cs t (0, 0)) → w'.heap[g]? = some (.cells cs t (0, 0))
theorem Keeps.trans {a b c : World} (h : Keeps a b) (k : Keeps b c) : Keeps a c := fun g cs t h1 h2 h3 => k g cs t h1 h2 (h g cs t h1 h2 h3)
theorem Keeps.of_below {w w' : World} (h : Below w.heap.size w w') : Keeps w w' := fun g cs t _ _ h3 => heap_below h h3
theorem Keeps.of_grown {w w' : World} {b : Nat} (h : w.grownBy w' (some b)) (hb : ∀ cs t, w.heap[b]? = some (.cells cs t (0, 0)) → t = 118 ∨ t = 122) : Keeps w w' := by
  intro g cs t h1 h2 h3
  refine (h.block g (heap_lt h3) ?_).trans h3
  intro e
  obtain rfl := Option.some.inj e
  rcases hb cs t h3 with h | h
  · exact h1 h
  · exact h2 h
theorem Keeps.of_row {w w' : World} {B n : Nat} {v : Value} {xs : List Value} (hr : w.ownsRow B 122 3 v n xs) (h : w.grownBy w' v.ownBlock) : Keeps w w' := by
  intro g cs t h1 h2 h3
  refine (h.block g (heap_lt h3) ?_).trans h3
  intro e
  exact own_ne hr h3 (fun e => h2 e.symm) e.symm
theorem Keeps.of_set {w : World} {b i : Nat} {cs : Array Value} {t : TypeId} (u : Value) (hb : w.heap[b]? = some (.cells cs t (0, 0))) (ht : t = 118 ∨ t = 122) : Keeps w (w.setCell ⟨b, i, none⟩ u) := by
  intro g cs' t' h1 h2 h3
  rw [Below.heap_setCell _ _ _ _ ?_]
  · exact h3
  · intro e
    have e : g = b := e
    subst e
    rw [hb] at h3
    injection h3 with h3
    injection h3 with _ e
    subst e
    rcases ht with h | h
    · exact h1 h
    · exact h2 h
theorem own_keeps {W W' : World} {base : Nat} {e : TypeId} {size n : Nat} {v : Value} {xs : List Value} (h : W.ownsRow base e size v n xs) (hk : Keeps W W') (h1 : e ≠ 118) (h2 : e ≠ 122) : W'.ownsRow base e size v n xs := by
  refine ⟨h.1, ?_⟩
  rcases h.2 with q1 | ⟨g, cap, cur, q1, q2, q3, q4⟩
  · exact .inl q1
  · exact .inr ⟨g, cap, cur, q1, q2, hk g cur e h1 h2 q3, q4⟩
/-- Behind add. -/
def AddPost (B : Nat) (w : World) (p : Nat) (N : List Nd) (m : Nat) (s : ByteArray) (e : Ending) (w' : World) : Prop :=
  e = .returned (.int .i64 (N.length : Int)) ∧ Below B w w' ∧ Keeps w w' ∧ ∃ mp, TrieAt B w' p (N ++ [newNd s mp]) m
section
variable {B p m : Nat} {N : List Nd} {w : World}
/-- What add has made. -/
theorem added (h : TrieAt B w p N m) (hB : B ≤ w.heap.size) (s : ByteArray) {v v' : Value} {w3 : World} (hv : w.heap[p]? = some (.cells #[v] 118 (0, 0))) (hr : w.ownsRow B 122 3 v N.length (N.flatMap cells3))
    (hown : w3.ownsRow B 122 3 v' (N.length + 1) (N.flatMap cells3 ++ [.string s, .int .i64 (-1), .map (some w.heap.size)]))
    (hg : ((w.alloc (.map #[] 0)).alloc (.cells #[.string s, .int .i64 (-1), .map (some w.heap.size)] 122)).grownBy w3 v.ownBlock) :
    Below B w (w3.setCell ⟨p, 0, none⟩ v') ∧ TrieAt B (w3.setCell ⟨p, 0, none⟩ v') p (N ++ [newNd s w.heap.size]) m ∧ w3.heap[p]? = some (.cells #[v] 118 (0, 0)) ∧ Keeps w (w3.setCell ⟨p, 0, none⟩ v') := by
  have b1 : Below w.heap.size w ((w.alloc (.map #[] 0)).alloc (.cells #[.string s, .int .i64 (-1), .map (some w.heap.size)] 122)) := balloc (balloc (Below.refl _ _) _) _
  have bw : Below B w w3 := (b1.mono hB).grown hg (by have := b1.size; omega) (own_ge hr)
  have hp3 : w3.heap[p]? = some (.cells #[v] 118 (0, 0)) := by
    have h2 := heap_below b1 hv
    exact (hg.block p (heap_lt h2) (fun e => own_ne hr hv (by decide) e.symm)).trans h2
  have blt : ∀ b, v.ownBlock = some b → b < w.heap.size := own_lt hr
  refine ⟨bw.setCell h.ge _, ⟨h.ge, ⟨v', heap_set hp3 _, ?_⟩, fun nd hn => ?_, ?_⟩, hp3, ((Keeps.of_below b1).trans (Keeps.of_row (own_below hr b1) hg)).trans (Keeps.of_set _ hp3 (.inl rfl))⟩
  · have e1 : (N ++ [newNd s w.heap.size]).length = N.length + 1 := by simp
    have e2 : (N ++ [newNd s w.heap.size]).flatMap cells3 = N.flatMap cells3 ++ [.string s, .int .i64 (-1), .map (some w.heap.size)] := by simp [newNd, cells3]
    rw [e1, e2]
    exact own_set hown hp3 (by decide) _
  · rcases List.mem_append.1 hn with hn | hn
    · obtain ⟨h1, h2⟩ := h.maps nd hn
      refine ⟨h1, ?_⟩
      have h3 : MapAt w3 m nd.mp nd.p.sons := by
        refine (h2.below b1).kept hg ?_
        intro e
        rcases hr.2 with ⟨rfl, _⟩ | ⟨g, cap, cur, rfl, _, hh, _⟩
        · cases e
        · simp [Value.ownBlock] at e
          exact h2.ne hh e
      exact h3.setCell (h3.ne hp3) _
    · rw [List.mem_singleton] at hn
      subst hn
      refine ⟨hB, ?_⟩
      have h2 : MapAt (w.alloc (.map #[] 0)) 0 w.heap.size (fun _ => none) := MapAt.made w
      have h3 : MapAt w3 m w.heap.size (fun _ => none) := by
        refine ((h2.below (balloc (Below.refl _ _) _)).kept hg ?_).mono (Nat.zero_le _)
        intro e
        have := blt _ e.symm
        omega
      exact h3.setCell (h3.ne hp3) _
  · rw [List.map_append, List.nodup_append]
    refine ⟨h.apart, by simp, ?_⟩
    intro a ha b hb
    simp [newNd] at hb
    obtain ⟨nd, hnd, rfl⟩ := List.mem_map.1 ha
    have := (h.maps nd hnd).2.lt
    omega
set_option maxHeartbeats 1000000 in
theorem add_any (h : TrieAt B w p N m) (hB : B ≤ w.heap.size) (hbig : N.length ≤ 100000) (s : ByteArray) :
    Calls Tryz.prog 93 #[.pointer (some ⟨p, 0, none⟩), .string s] w fun e w' => AddPost B w p N m s e w' := by
  obtain ⟨i0, hi, hz0, hz1, hz2⟩ := info_parts info63
  obtain ⟨v, hv, hr⟩ := h.row
  obtain ⟨V, cp, rfl, _⟩ := own_form hr
  have hcw : w.cell? ⟨p, 0, none⟩ = some (.slice V N.length cp) := cell_of hv rfl
  have hlast := fun v' w3 => added (v' := v') (w3 := w3) h hB s hv hr
  have hb1 : Below w.heap.size w ((w.alloc (.map #[] 0)).alloc (.cells #[.string s, .int .i64 (-1), .map (some w.heap.size)] 122)) := balloc (balloc (Below.refl _ _) _) _
  have hr1 := own_below hr hb1
  have hmm := @run_makeMap Tryz.prog
  clear h
  go_enter Tryz.func93, Tryz.ntmps93
  go_wp2_with (first | (at_builtin; refine wpList_append_own _ rfl (.tmp 9) (.tmp 13) 116 rfl B 122 i0 _ 3 32 Tryz.underlying116 hi hz0 hz1 hz2 rfl (by decide) _ _ _ rfl hr1 ⟨w.heap.size + 1, 0, none⟩ 1 1 [.string s, .int .i64 (-1), .map (some w.heap.size)] rfl rfl ?c1 ?c2 ?c3 ?c4 ?c5 ?_))
  case c1 =>
    intro j u hj
    match j, hj with
    | 0, hj => simp at hj; subst hj; simp [Addr.add]
    | 1, hj => simp at hj; subst hj; simp [Addr.add]
    | 2, hj => simp at hj; subst hj; simp [Addr.add]
    | j + 3, hj => simp at hj
  case c2 =>
    intro u hu
    simp at hu
    rcases hu with rfl | rfl | rfl <;> rfl
  case c3 => unfold maxLen; omega
  case c4 => omega
  case c5 => simp; omega
  · intro v' w3 hown' hgrow _
    obtain ⟨q1, q2, q3, q4⟩ := hlast v' w3 hown' hgrow
    obtain ⟨V', cp', rfl, _⟩ := own_form hown'
    have c3 : w3.cell? ⟨p, 0, none⟩ = some (.slice V N.length cp) := cell_of q3 rfl
    have f3 : w3.frozen? ⟨p, 0, none⟩ = false := frozen_of q3
    have hw1 : IntKind.i64.wrap ((N.length : Int) + 1 - 1) = (N.length : Int) := by rw [IntKind.wrap_i64]; omega
    clear hlast hown' hgrow hr1 hr hv hcw hb1 q3 hmm hi
    go_wp2_with fail
    refine bodyPost_ret (v := .int .i64 (N.length : Int)) ?_ rfl ⟨rfl, q1, q4, _, q2⟩
    simp [results, Tryz.results93, go_sem]
end
end Go.Proofs.YtdeeeechdlcdbaaGreat.TrB
/- What a store into a trie does to it. -/
set_option linter.unusedSimpArgs false
set_option linter.unusedVariables false
namespace Go.Proofs.YtdeeeechdlcdbaaGreat.TrC
open Go Go.RowKit Go.Proofs.YtdeeeechdlcdbaaGreat.Base Go.Proofs.YtdeeeechdlcdbaaGreat.TrP Go.Proofs.YtdeeeechdlcdbaaGreat.TrM Go.Proofs.YtdeeeechdlcdbaaGreat.TrA Go.Proofs.YtdeeeechdlcdbaaGreat.TrB
def setNd (f : Pn → Pn) (n : Nd) : Nd := ⟨f n.p, n.mp⟩
theorem map_modify (N : List Nd) (k : Nat) (f : Pn → Pn) : (N.modify k (setNd f)).map (·.p) = (N.map (·.p)).modify k f := by
  apply List.ext_getElem?
  intro i
  rw [List.getElem?_map, List.getElem?_modify, List.getElem?_modify, List.getElem?_map]
  cases N[i]? with
  | none => rfl
  | some x => by_cases h : k = i <;> simp [h, setNd]
theorem mps_modify (N : List Nd) (k : Nat) (f : Pn → Pn) : (N.modify k (setNd f)).map (·.mp) = N.map (·.mp) := by
  apply List.ext_getElem?
  intro i
  rw [List.getElem?_map, List.getElem?_modify, List.getElem?_map]
  cases N[i]? with
  | none => rfl
  | some x => by_cases h : k = i <;> simp [h, setNd]
theorem flat_set : ∀ (N : List Nd) (k : Nat) (x : Int), k < N.length → (N.flatMap cells3).set (k * 3 + 1) (.int .i64 x) = (N.modify k (setNd (setWord x))).flatMap cells3
  | [], k, x, h => by simp at h
  | n :: N, 0, x, _ => by
    have e : (n :: N).modify 0 (setNd (setWord x)) = setNd (setWord x) n :: N := rfl
    rw [e, List.flatMap_cons, List.flatMap_cons]
    rfl
  | n :: N, k + 1, x, h => by
    have e : (n :: N).modify (k + 1) (setNd (setWord x)) = n :: N.modify k (setNd (setWord x)) := rfl
    rw [e, List.flatMap_cons, List.flatMap_cons, List.set_append_right _ _ (by simp [cells3]; omega), ← flat_set N k x (by simpa using h)]
    congr 2
    simp [cells3]; omega
theorem flat_same : ∀ (N : List Nd) (k : Nat) (f : Pn → Pn), (∀ q mp, cells3 ⟨f q, mp⟩ = cells3 ⟨q, mp⟩) → (N.modify k (setNd f)).flatMap cells3 = N.flatMap cells3
  | [], k, f, _ => by cases k <;> rfl
  | n :: N, 0, f, hf => by
    have e : (n :: N).modify 0 (setNd f) = setNd f n :: N := rfl
    rw [e, List.flatMap_cons, List.flatMap_cons]
    congr 1
    exact hf n.p n.mp
  | n :: N, k + 1, f, hf => by
    have e : (n :: N).modify (k + 1) (setNd f) = n :: N.modify k (setNd f) := rfl
    rw [e, List.flatMap_cons, List.flatMap_cons, flat_same N k f hf]
section
variable {B p m : Nat} {N : List Nd} {w : World}
/-- The phrase's number, stored into its node. -/
theorem word_set (h : TrieAt B w p N m) {k : Nat} {g cp : Nat} (hk : k < N.length) (hc : w.cell? ⟨p, 0, none⟩ = some (.slice (some ⟨g, 0, none⟩) N.length cp)) (x : Int) :
    TrieAt B (w.setCell ⟨g, k * 3 + 1, none⟩ (.int .i64 x)) p (N.modify k (setNd (setWord x))) m ∧ Keeps w (w.setCell ⟨g, k * 3 + 1, none⟩ (.int .i64 x)) ∧ Below B w (w.setCell ⟨g, k * 3 + 1, none⟩ (.int .i64 x)) := by
  obtain ⟨v, hv, hr⟩ := h.row
  have hvv : v = .slice (some ⟨g, 0, none⟩) N.length cp := by
    have := cell_of (i := 0) hv rfl
    rw [hc] at this
    exact (Option.some.inj this).symm
  subst hvv
  have hge := own_ge hr g rfl
  have hne : g ≠ p := fun e => own_ne hr hv (by decide) (by rw [e]; rfl)
  have hgh : ∃ cur, w.heap[g]? = some (.cells cur 122 (0, 0)) := by
    rcases hr.2 with ⟨h1, _⟩ | ⟨g', cap, cur, h1, _, h3, _⟩
    · cases h1
    · injection h1 with h1 _ _
      obtain rfl : g = g' := by injection h1 with h1; injection h1
      exact ⟨cur, h3⟩
  obtain ⟨cur, hgh⟩ := hgh
  have hst := (World.ownsRow.stored hr (k * 3 + 1) (.int .i64 x)).1
  rw [flat_set N k x hk] at hst
  refine ⟨⟨h.ge, ⟨.slice (some ⟨g, 0, none⟩) N.length cp, ?_, ?_⟩, fun nd hn => ?_, ?_⟩, Keeps.of_set _ hgh (.inr rfl), (Below.refl _ _).setCell hge _⟩
  · rw [Below.heap_setCell _ _ _ _ (fun e => hne e.symm)]; exact hv
  · rw [List.length_modify]; exact hst
  · have hmp : nd.mp ∈ N.map (·.mp) := by rw [← mps_modify N k (setWord x)]; exact List.mem_map.2 ⟨nd, hn, rfl⟩
    obtain ⟨j, hj⟩ := List.mem_iff_getElem?.1 hn
    rw [List.getElem?_modify] at hj
    cases hNj : N[j]? with
    | none => rw [hNj] at hj; cases hj
    | some n0 =>
      rw [hNj] at hj
      obtain ⟨h1, h2⟩ := h.maps n0 (List.mem_of_getElem? hNj)
      have h3 : MapAt (w.setCell ⟨g, k * 3 + 1, none⟩ (.int .i64 x)) m n0.mp n0.p.sons := h2.setCell (h2.ne hgh) _
      by_cases hkj : k = j
      · simp [hkj] at hj; subst hj; exact ⟨h1, h3⟩
      · simp [hkj] at hj; subst hj; exact ⟨h1, h3⟩
  · rw [mps_modify]; exact h.apart
/-- A son, stored into a node's map. -/
theorem put_set (h : TrieAt B w p N m) {k : Nat} {nd : Nd} (hk : N[k]? = some nd) {w' : World} {c : Int} {x : Nat} (hm : MapAt w' (m + 1) nd.mp (fun d => if d = c then some x else nd.p.sons d)) (hg : w.grownBy w' (some nd.mp)) :
    TrieAt B w' p (N.modify k (setNd (setSon c x))) (m + 1) ∧ Keeps w w' ∧ Below B w w' := by
  obtain ⟨v, hv, hr⟩ := h.row
  obtain ⟨hB, hmk⟩ := h.maps nd (List.mem_of_getElem? hk)
  have kp : Keeps w w' := Keeps.of_grown hg (fun cs t hcs => absurd rfl (hmk.ne hcs))
  have bl : Below B w w' := ⟨hg.os, hg.tape, hg.output, hg.size, fun i hi => hg.block i (Nat.lt_of_lt_of_le hi (Nat.le_of_lt (Nat.lt_of_le_of_lt hB hmk.lt))) (fun e => by have := Option.some.inj e; omega)⟩
  have hrow : w'.ownsRow B 122 3 v N.length (N.flatMap cells3) := by
    refine ⟨hr.1, ?_⟩
    rcases hr.2 with h1 | ⟨g, cap, cur, h1, h2, h3, h4⟩
    · exact .inl h1
    · refine .inr ⟨g, cap, cur, h1, h2, (hg.block g (heap_lt h3) ?_).trans h3, h4⟩
      intro e
      exact hmk.ne h3 (Option.some.inj e).symm
  refine ⟨⟨h.ge, ⟨v, (hg.block p (heap_lt hv) (fun e => hmk.ne hv (Option.some.inj e).symm)).trans hv, ?_⟩, fun n1 hn => ?_, ?_⟩, kp, bl⟩
  · rw [List.length_modify, flat_same N k (setSon c x) (fun q mp => rfl)]; exact hrow
  · obtain ⟨j, hj⟩ := List.mem_iff_getElem?.1 hn
    rw [List.getElem?_modify] at hj
    cases hNj : N[j]? with
    | none => rw [hNj] at hj; cases hj
    | some n0 =>
      rw [hNj] at hj
      obtain ⟨h1, h2⟩ := h.maps n0 (List.mem_of_getElem? hNj)
      by_cases hkj : k = j
      · subst hkj
        rw [hk] at hNj
        obtain rfl := Option.some.inj hNj
        simp at hj; subst hj
        exact ⟨h1, hm⟩
      · simp [hkj] at hj; subst hj
        refine ⟨h1, (h2.kept hg ?_).mono (by omega)⟩
        intro e
        have e := Option.some.inj e
        have hjl : j < (N.map (·.mp)).length := by have := (List.getElem?_eq_some_iff.1 hNj).1; simpa using this
        have hkl : k < (N.map (·.mp)).length := by have := (List.getElem?_eq_some_iff.1 hk).1; simpa using this
        have a1 : (N.map (·.mp))[j] = n0.mp := by
          have q : (N.map (·.mp))[j]? = some n0.mp := by rw [List.getElem?_map, hNj]; rfl
          rw [List.getElem?_eq_getElem hjl] at q
          exact Option.some.inj q
        have a2 : (N.map (·.mp))[k] = nd.mp := by
          have q : (N.map (·.mp))[k]? = some nd.mp := by rw [List.getElem?_map, hk]; rfl
          rw [List.getElem?_eq_getElem hkl] at q
          exact Option.some.inj q
        have hap := List.pairwise_iff_getElem.1 h.apart
        rcases Nat.lt_or_ge j k with hlt | hge
        · exact hap j k hjl hkl hlt (by rw [a1, a2, e])
        · exact hap k j hkl hjl (by omega) (by rw [a1, a2, e])
  · rw [mps_modify]; exact h.apart
end
end Go.Proofs.YtdeeeechdlcdbaaGreat.TrC
/- The walk of trie.New. -/
set_option linter.unusedSimpArgs false
set_option linter.unusedVariables false
namespace Go.Proofs.YtdeeeechdlcdbaaGreat.TrD
open Go Go.RowKit Go.Proofs.YtdeeeechdlcdbaaGreat.Base Go.Proofs.YtdeeeechdlcdbaaGreat.DiA Go.Proofs.YtdeeeechdlcdbaaGreat.DiB Go.Proofs.YtdeeeechdlcdbaaGreat.DiC Go.Proofs.YtdeeeechdlcdbaaGreat.DiD Go.Proofs.YtdeeeechdlcdbaaGreat.TrP Go.Proofs.YtdeeeechdlcdbaaGreat.TrM Go.Proofs.YtdeeeechdlcdbaaGreat.TrA Go.Proofs.YtdeeeechdlcdbaaGreat.TrB Go.Proofs.YtdeeeechdlcdbaaGreat.TrC
def lookY (p : Nat) (s : ByteArray) (c : Int) (a j L g cp mp : Nat) (x : Nat) (i : Nat) (v : Value) (W : World) : Prop := match i with
  | 0 => v = .pointer (some ⟨p, 0, none⟩)
  | 1 => v = .pointer (some ⟨p, 0, none⟩)
  | 2 => v = .pointer (some ⟨p, 0, none⟩)
  | 3 => v = .slice (some ⟨g, 0, none⟩) L cp
  | 4 => v = .int .i64 (a : Int)
  | 5 => v = .pointer (some ⟨g, a * 3, none⟩)
  | 6 => v = .pointer (some ⟨g, a * 3 + 2, none⟩)
  | 7 => v = .map (some mp)
  | 8 => v = .string s
  | 9 => v = .int .i64 (j : Int)
  | 10 => v = .int .u8 c
  | 11 => v = .tuple #[.int .i64 (x : Int), .bool true]
  | 12 => v = .tuple #[.int .i64 (x : Int), .bool true]
  | 13 => v = .int .i64 (x : Int)
  | 14 => v = .bool true
  | 15 => v = .int .i64 (x : Int)
  | 16 => v = .bool true
  | _ => True
def lookN (p : Nat) (s : ByteArray) (c : Int) (a j L g cp mp : Nat) (i : Nat) (v : Value) (W : World) : Prop := match i with
  | 0 => v = .pointer (some ⟨p, 0, none⟩)
  | 1 => v = .pointer (some ⟨p, 0, none⟩)
  | 2 => v = .pointer (some ⟨p, 0, none⟩)
  | 3 => v = .slice (some ⟨g, 0, none⟩) L cp
  | 4 => v = .int .i64 (a : Int)
  | 5 => v = .pointer (some ⟨g, a * 3, none⟩)
  | 6 => v = .pointer (some ⟨g, a * 3 + 2, none⟩)
  | 7 => v = .map (some mp)
  | 8 => v = .string s
  | 9 => v = .int .i64 (j : Int)
  | 10 => v = .int .u8 c
  | 11 => v = .tuple #[.int .i64 0, .bool false]
  | 12 => v = .tuple #[.int .i64 0, .bool false]
  | 13 => v = .int .i64 0
  | 14 => v = .bool false
  | 15 => v = .int .i64 0
  | 16 => v = .bool false
  | _ => True
def putV (p : Nat) (s : ByteArray) (c : Int) (a j L g cp mp : Nat) (x : Nat) (i : Nat) (v : Value) (W : World) : Prop := match i with
  | 0 => v = .pointer (some ⟨p, 0, none⟩)
  | 1 => v = .pointer (some ⟨p, 0, none⟩)
  | 2 => v = .pointer (some ⟨p, 0, none⟩)
  | 3 => v = .slice (some ⟨g, 0, none⟩) L cp
  | 4 => v = .int .i64 (a : Int)
  | 5 => v = .pointer (some ⟨g, a * 3, none⟩)
  | 6 => v = .pointer (some ⟨g, a * 3 + 2, none⟩)
  | 7 => v = .map (some mp)
  | 8 => v = .string s
  | 9 => v = .int .i64 (j : Int)
  | 10 => v = .int .u8 c
  | 11 => v = .int .i64 (x : Int)
  | _ => True

/-- Behind trie.New. -/
def TriePost (w : World) (zs : List ByteArray) (e : Ending) (w' : World) : Prop := Below w.heap.size w w' ∧
  ∃ p N m, e = .returned (.pointer (some ⟨p, 0, none⟩)) ∧ TrieAt w.heap.size w' p N m ∧ N.map (·.p) = build zs zs.length ∧ N.length ≤ 1 + total zs
theorem byte_get (s : ByteArray) (j : Nat) (h : j < s.size) : ((s[j]).toNat : Int) = TrP.byteOf s j := by
  have hl : j < s.data.toList.length := by rw [← size_list]; exact h
  unfold TrP.byteOf
  rw [List.getD_eq_getElem?_getD, List.getElem?_eq_getElem hl, Array.getElem_toList]
  rfl
theorem getD_of {N : List Nd} {S : List Pn} {a : Nat} {nd : Nd} (hN : N.map (·.p) = S) (h : N[a]? = some nd) : S.getD a noPn = nd.p := by
  rw [List.getD_eq_getElem?_getD, ← hN, List.getElem?_map, h]; rfl
theorem walk_some {S : List Pn} {s : ByteArray} {j : Nat} {x : Nat} (h : ((walkS S s j).1.getD (walkS S s j).2 noPn).sons (TrP.byteOf s j) = some x) : walkS S s (j + 1) = ((walkS S s j).1, x) := by
  show TrP.step (walkS S s j) s j = _
  unfold TrP.step
  rw [h]
theorem walk_none {S : List Pn} {s : ByteArray} {j : Nat} (h : ((walkS S s j).1.getD (walkS S s j).2 noPn).sons (TrP.byteOf s j) = none) : walkS S s (j + 1) = (((walkS S s j).1 ++ [newPn s j]).modify (walkS S s j).2 (setSon (TrP.byteOf s j) (walkS S s j).1.length), (walkS S s j).1.length) := by
  show TrP.step (walkS S s j) s j = _
  unfold TrP.step
  rw [h]
theorem drew_below {w W : World} (h : W = { w with drawn := w.drawn + 1 }) : Below w.heap.size w W := by
  subst h
  exact ⟨rfl, rfl, rfl, Nat.le_refl _, fun _ _ => rfl⟩
theorem row_frozen {B p m : Nat} {N : List Nd} {w : World} (h : TrieAt B w p N m) {g cp i : Nat} (hc : w.cell? ⟨p, 0, none⟩ = some (.slice (some ⟨g, 0, none⟩) N.length cp)) : w.frozen? ⟨g, i, none⟩ = false := by
  obtain ⟨v, hv, hr⟩ := h.row
  have hvv : v = .slice (some ⟨g, 0, none⟩) N.length cp := by
    have := cell_of (i := 0) hv rfl
    rw [hc] at this
    exact (Option.some.inj this).symm
  subst hvv
  exact World.ownsRow.frozenAt hr i
theorem total_le {zs : List ByteArray} {k : Nat} : total (zs.take k) ≤ total zs := total_take_le zs k
set_option maxRecDepth 20000 in
set_option maxHeartbeats 4000000 in
theorem new_any (Bd q : Nat) (zs : List ByteArray) (w : World) (hd : DictAt Bd w q zs) (hlen : zs.length ≤ 1000) (htot : total zs ≤ 2000) :
    Calls Tryz.prog 50 #[.pointer (some ⟨q, 0, none⟩)] w fun e w' => TriePost w zs e w' := by
  have t0 : TrieAt w.heap.size (w.alloc (.cells #[.slice none 0 0] 118)) w.heap.size [] 0 := ⟨Nat.le_refl _, ⟨_, heap_new w _, World.ownsRow_nil _ _ _ _⟩, (fun nd h => by cases h), List.nodup_nil⟩
  have ha0 := add_any t0 (by simp) (by simp) ⟨#[]⟩
  have hda := hd.below (balloc (Below.refl w.heap.size w) (.cells #[.slice none 0 0] 118))
  go_enter Tryz.func50, Tryz.ntmps50
  go_wp2_with fail
  refine ha0.mono ?_
  rintro e w1 ⟨rfl, bel1, kp1, mp1, t1⟩
  have hd1 : DictAt Bd w1 q zs := by
    obtain ⟨v, h1, h2⟩ := hd
    have b1 : Below w.heap.size w w1 := Below.trans (balloc (Below.refl _ _) _) bel1
    exact ⟨v, heap_below b1 h1, own_below h2 b1⟩
  clear ha0 t0 hda hd kp1
  have b1 : Below w.heap.size w w1 := Below.trans (balloc (Below.refl _ _) _) bel1
  clear bel1
  go_wp2_with fail
  refine (all_any Bd q zs w1 hd1 hlen).mono ?_
  rintro e w2 ⟨bel2, V, cp0, rfl, hown2⟩
  have b2 := b1.trans (bel2.mono b1.size)
  have t2 := t1.below bel2
  clear t1 hd1 b1 bel2
  obtain ⟨n, hn⟩ : ∃ n, n = zs.length := ⟨_, rfl⟩
  rw [← hn] at hown2 hlen ⊢
  have hnh : Hid (n = zs.length) := hn
  clear hn
  go_wp2_with fail
  go_loopw [19] (fun i wx => ∃ k : Nat, k ≤ n ∧ i = .int .i64 k ∧ Below w.heap.size w wx ∧ wx.ownsRow w1.heap.size 9 1 (.slice V n cp0) n (zs.map Value.string) ∧ ∃ N m, TrieAt w.heap.size wx w.heap.size N m ∧ Hid (N.map (·.p) = build zs k) ∧ m + 1 ≤ N.length ∧ N.length ≤ 1 + total (zs.take k)) (fun i _ => n - (intOf i).toNat)
  case atStart => exact ⟨0, Nat.zero_le _, rfl, b2, hown2, _, 0, t2, rfl, by simp, by simp [total]⟩
  case round =>
    obtain ⟨k, hk, rfl, belr, hown, N, m, ht, hN, hm, hNl⟩ := hrel
    have hn := hnh.out
    by_cases hlt : k < n
    · obtain ⟨V', cp', hve, hs⟩ := own_cells hown (by omega)
      injection hve with hve _ hve2
      subst hve hve2
      obtain ⟨b, off, rfl, _, hc⟩ := hs (by omega)
      have hcell := hc k (by omega)
      have htk := total_succ (zs := zs) (k := k) (by omega)
      have htl := total_take_le zs (k + 1)
      have hbk : Hid (build zs (k + 1) = addS (build zs k) (zs.getD k ByteArray.empty) k) := rfl
      have hgood := build_good zs k
      generalize zs.getD k ByteArray.empty = s at *
      clear hc hs
      have hT : Hid (total (zs.take (k + 1)) = total (zs.take k) + s.size) := htk
      have hTb : total (zs.take k) + s.size ≤ 2000 := by omega
      clear htk htl hn
      go_wp2_with fail
      go_loopw [6, 26] (fun av i wx => ∃ (j a : Nat), j ≤ s.size ∧ i = .int .i64 j ∧ av = .int .i64 a ∧ Hid (a = (walkS (build zs k) s j).2) ∧ Below w.heap.size w wx ∧ wx.ownsRow w1.heap.size 9 1 (.slice (some ⟨b, off, none⟩) n cp0) n (zs.map Value.string) ∧ ∃ N m, TrieAt w.heap.size wx w.heap.size N m ∧ Hid (N.map (·.p) = (walkS (build zs k) s j).1) ∧ m + 1 ≤ N.length ∧ N.length ≤ 1 + total (zs.take k) + j) (fun _ i _ => s.size - (intOf i).toNat)
      case atStart => exact ⟨0, 0, Nat.zero_le _, rfl, rfl, rfl, belr, hown, N, m, ht, hN, hm, by omega⟩
      case round =>
        obtain ⟨j, a, hj, rfl, rfl, ha, belx, hownx, N', m', htx, hNx, hmx, hlx⟩ := hrel
        obtain ⟨_, wg2, _, _, _⟩ := walk_good hgood s j hj
        have hal : a < N'.length := by
          rw [ha.out]
          have e := congrArg List.length hNx.out
          rw [List.length_map] at e
          rw [e]; exact wg2
        have hnd : N'[a]? = some N'[a] := List.getElem?_eq_getElem hal
        generalize N'[a] = nd at hnd
        have hgd := getD_of hNx.out hnd
        rw [ha.out] at hgd
        clear wg2 hcell hgood ht hN hm hNl belr hown
        by_cases hj2 : j < s.size
        · have hcr := byteOf_range s j
          have hbj := byte_get s j hj2
          have hY := @walk_some (build zs k) s j
          have hNo := @walk_none (build zs k) s j
          rw [hgd] at hY hNo
          generalize TrP.byteOf s j = c at hcr hbj hY hNo
          have hmp := (htx.maps nd (List.mem_of_getElem? hnd)).2
          obtain ⟨g, cp, c0, _, _, c3⟩ := htx.node hnd
          clear hgd
          have hai : (a : Int) < (N'.length : Int) := by omega
          cases hfx : nd.p.sons c with
          | some x =>
          have hw := hY hfx
          have hax : Hid (x = (walkS (build zs k) s (j + 1)).2) := by show x = _; rw [hw]
          have hNn : Hid (N'.map (·.p) = (walkS (build zs k) s (j + 1)).1) := by show N'.map (·.p) = _; rw [hw]; exact hNx.out
          have hlook : ∀ W : World, W = { wr with drawn := wr.drawn + 1 } → (Instr.lookup 120 (.map (some nd.mp)) (.int .u8 c) true).run Tryz.prog W = .ok (.tuple #[.int .i64 (x : Int), .bool true]) W := by
            intro W hW
            have h := MapAt.look (show MapAt W m' nd.mp nd.p.sons from hmp.below (drew_below hW)) hcr
            rw [hfx] at h
            exact h
          clear hw hY hNo hfx hmp hcr ha hNx hnd
          go_wp2_with fail
          refine Reg.wp_region_lists (fun W W' => Hid (W' = W)) (lookY w.heap.size s c a j N'.length g cp nd.mp x)
            [some 30, some 31, some 32, some 33, some 34, some 35, some 36, some 37, some 38, some 39, some 40, some 41, some 29, some 42, some 43, some 8, some 9]
            [[], [0], [1], [2], [], [3, 4], [5], [6], [], [], [8, 9], [7, 10], [11], [12], [12], [13, 0, 1, 2, 3, 4, 5, 6, 7, 8, 9, 10, 11, 12, 13], [14, 15, 0, 1, 2, 3, 4, 5, 6, 7, 8, 9, 10, 11, 12, 13, 14, 15]]
            (by kernel_rfl) (by kernel_rfl) (by kernel_rfl) (fun _ => Lib.hid rfl) (fun _ _ _ h k => Lib.hid (k.out.trans h.out)) ?_ ?_ ?_
          · intro i v W W' h k
            unfold lookY at h ⊢
            split at h <;> first | exact h
          · refine ⟨?_, ?_, ?_, ?_, ?_, ?_, ?_, ?_, ?_, ?_, ?_, ?_, ?_, ?_, ?_, ?_, ?_, trivial⟩
            · intro vals W K hR hV hK
              simp only [Reg.putS, List.foldl, List.headD, List.tail, List.getD_cons_zero, List.getD_cons_succ, Act.put, List.setIfInBounds_toArray, List.set_cons_zero, List.set_cons_succ] at hK ⊢
              go_simp
              first
                | exact hK _ _ (Lib.hid rfl) rfl
                | (rw [if_pos (by omega)]; exact hK _ _ (Lib.hid rfl) rfl)
                | (rw [dif_pos (by omega)]; exact hK _ _ (Lib.hid rfl) rfl)
                | (rw [if_neg (by omega)]; exact hK _ _ (Lib.hid rfl) rfl)
            · intro vals W K hR hV hK
              have d0 := hV 0 (by simp)
              simp only [lookY] at d0
              simp only [Reg.putS, List.foldl, List.headD, List.tail, List.getD_cons_zero, List.getD_cons_succ, Act.put, List.setIfInBounds_toArray, List.set_cons_zero, List.set_cons_succ, d0] at hK ⊢
              go_simp
              first
                | exact hK _ _ (Lib.hid rfl) rfl
                | (rw [if_pos (by omega)]; exact hK _ _ (Lib.hid rfl) rfl)
                | (rw [dif_pos (by omega)]; exact hK _ _ (Lib.hid rfl) rfl)
                | (rw [if_neg (by omega)]; exact hK _ _ (Lib.hid rfl) rfl)
            · intro vals W K hR hV hK
              have d1 := hV 1 (by simp)
              simp only [lookY] at d1
              simp only [Reg.putS, List.foldl, List.headD, List.tail, List.getD_cons_zero, List.getD_cons_succ, Act.put, List.setIfInBounds_toArray, List.set_cons_zero, List.set_cons_succ, d1] at hK ⊢
              go_simp
              first
                | exact hK _ _ (Lib.hid rfl) rfl
                | (rw [if_pos (by omega)]; exact hK _ _ (Lib.hid rfl) rfl)
                | (rw [dif_pos (by omega)]; exact hK _ _ (Lib.hid rfl) rfl)
                | (rw [if_neg (by omega)]; exact hK _ _ (Lib.hid rfl) rfl)
            · intro vals W K hR hV hK
              have d2 := hV 2 (by simp)
              simp only [lookY] at d2
              simp only [Reg.putS, List.foldl, List.headD, List.tail, List.getD_cons_zero, List.getD_cons_succ, Act.put, List.setIfInBounds_toArray, List.set_cons_zero, List.set_cons_succ, d2] at hK ⊢
              have hcl : W.cell? ⟨w.heap.size, 0, none⟩ = some (.slice (some ⟨g, 0, none⟩) N'.length cp) := by rw [hR.out]; exact c0
              go_simp
              first
                | exact hK _ _ (Lib.hid rfl) rfl
                | (rw [if_pos (by omega)]; exact hK _ _ (Lib.hid rfl) rfl)
                | (rw [dif_pos (by omega)]; exact hK _ _ (Lib.hid rfl) rfl)
                | (rw [if_neg (by omega)]; exact hK _ _ (Lib.hid rfl) rfl)
            · intro vals W K hR hV hK
              simp only [Reg.putS, List.foldl, List.headD, List.tail, List.getD_cons_zero, List.getD_cons_succ, Act.put, List.setIfInBounds_toArray, List.set_cons_zero, List.set_cons_succ] at hK ⊢
              go_simp
              first
                | exact hK _ _ (Lib.hid rfl) rfl
                | (rw [if_pos (by omega)]; exact hK _ _ (Lib.hid rfl) rfl)
                | (rw [dif_pos (by omega)]; exact hK _ _ (Lib.hid rfl) rfl)
                | (rw [if_neg (by omega)]; exact hK _ _ (Lib.hid rfl) rfl)
            · intro vals W K hR hV hK
              have d3 := hV 3 (by simp)
              simp only [lookY] at d3
              have d4 := hV 4 (by simp)
              simp only [lookY] at d4
              simp only [Reg.putS, List.foldl, List.headD, List.tail, List.getD_cons_zero, List.getD_cons_succ, Act.put, List.setIfInBounds_toArray, List.set_cons_zero, List.set_cons_succ, d3, d4] at hK ⊢
              go_simp
              first
                | exact hK _ _ (Lib.hid rfl) rfl
                | (rw [if_pos (by omega)]; exact hK _ _ (Lib.hid rfl) rfl)
                | (rw [dif_pos (by omega)]; exact hK _ _ (Lib.hid rfl) rfl)
                | (rw [if_neg (by omega)]; exact hK _ _ (Lib.hid rfl) rfl)
            · intro vals W K hR hV hK
              have d5 := hV 5 (by simp)
              simp only [lookY] at d5
              simp only [Reg.putS, List.foldl, List.headD, List.tail, List.getD_cons_zero, List.getD_cons_succ, Act.put, List.setIfInBounds_toArray, List.set_cons_zero, List.set_cons_succ, d5] at hK ⊢
              go_simp
              first
                | exact hK _ _ (Lib.hid rfl) rfl
                | (rw [if_pos (by omega)]; exact hK _ _ (Lib.hid rfl) rfl)
                | (rw [dif_pos (by omega)]; exact hK _ _ (Lib.hid rfl) rfl)
                | (rw [if_neg (by omega)]; exact hK _ _ (Lib.hid rfl) rfl)
            · intro vals W K hR hV hK
              have d6 := hV 6 (by simp)
              simp only [lookY] at d6
              simp only [Reg.putS, List.foldl, List.headD, List.tail, List.getD_cons_zero, List.getD_cons_succ, Act.put, List.setIfInBounds_toArray, List.set_cons_zero, List.set_cons_succ, d6] at hK ⊢
              have hcl : W.cell? ⟨g, a * 3 + 2, none⟩ = some (.map (some nd.mp)) := by rw [hR.out]; exact c3
              go_simp
              first
                | exact hK _ _ (Lib.hid rfl) rfl
                | (rw [if_pos (by omega)]; exact hK _ _ (Lib.hid rfl) rfl)
                | (rw [dif_pos (by omega)]; exact hK _ _ (Lib.hid rfl) rfl)
                | (rw [if_neg (by omega)]; exact hK _ _ (Lib.hid rfl) rfl)
            · intro vals W K hR hV hK
              simp only [Reg.putS, List.foldl, List.headD, List.tail, List.getD_cons_zero, List.getD_cons_succ, Act.put, List.setIfInBounds_toArray, List.set_cons_zero, List.set_cons_succ] at hK ⊢
              go_simp
              first
                | exact hK _ _ (Lib.hid rfl) rfl
                | (rw [if_pos (by omega)]; exact hK _ _ (Lib.hid rfl) rfl)
                | (rw [dif_pos (by omega)]; exact hK _ _ (Lib.hid rfl) rfl)
                | (rw [if_neg (by omega)]; exact hK _ _ (Lib.hid rfl) rfl)
            · intro vals W K hR hV hK
              simp only [Reg.putS, List.foldl, List.headD, List.tail, List.getD_cons_zero, List.getD_cons_succ, Act.put, List.setIfInBounds_toArray, List.set_cons_zero, List.set_cons_succ] at hK ⊢
              go_simp
              first
                | exact hK _ _ (Lib.hid rfl) rfl
                | (rw [if_pos (by omega)]; exact hK _ _ (Lib.hid rfl) rfl)
                | (rw [dif_pos (by omega)]; exact hK _ _ (Lib.hid rfl) rfl)
                | (rw [if_neg (by omega)]; exact hK _ _ (Lib.hid rfl) rfl)
            · intro vals W K hR hV hK
              have d8 := hV 8 (by simp)
              simp only [lookY] at d8
              have d9 := hV 9 (by simp)
              simp only [lookY] at d9
              simp only [Reg.putS, List.foldl, List.headD, List.tail, List.getD_cons_zero, List.getD_cons_succ, Act.put, List.setIfInBounds_toArray, List.set_cons_zero, List.set_cons_succ, d8, d9] at hK ⊢
              go_simp
              first
                | exact hK _ _ (Lib.hid rfl) rfl
                | (rw [if_pos (by omega)]; exact hK _ _ (Lib.hid rfl) rfl)
                | (rw [dif_pos (by omega)]; exact hK _ _ (Lib.hid rfl) rfl)
                | (rw [if_neg (by omega)]; exact hK _ _ (Lib.hid rfl) rfl)
            · intro vals W K hR hV hK
              have d7 := hV 7 (by simp)
              simp only [lookY] at d7
              have d10 := hV 10 (by simp)
              simp only [lookY] at d10
              simp only [Reg.putS, List.foldl, List.headD, List.tail, List.getD_cons_zero, List.getD_cons_succ, Act.put, List.setIfInBounds_toArray, List.set_cons_zero, List.set_cons_succ, d7, d10] at hK ⊢
              have hlk := hlook W hR.out
              go_simp
              first
                | exact hK _ _ (Lib.hid rfl) rfl
                | (rw [if_pos (by omega)]; exact hK _ _ (Lib.hid rfl) rfl)
                | (rw [dif_pos (by omega)]; exact hK _ _ (Lib.hid rfl) rfl)
                | (rw [if_neg (by omega)]; exact hK _ _ (Lib.hid rfl) rfl)
            · intro vals W K hR hV hK
              have d11 := hV 11 (by simp)
              simp only [lookY] at d11
              simp only [Reg.putS, List.foldl, List.headD, List.tail, List.getD_cons_zero, List.getD_cons_succ, Act.put, List.setIfInBounds_toArray, List.set_cons_zero, List.set_cons_succ, d11] at hK ⊢
              go_simp
              first
                | exact hK _ _ (Lib.hid rfl) rfl
                | (rw [if_pos (by omega)]; exact hK _ _ (Lib.hid rfl) rfl)
                | (rw [dif_pos (by omega)]; exact hK _ _ (Lib.hid rfl) rfl)
                | (rw [if_neg (by omega)]; exact hK _ _ (Lib.hid rfl) rfl)
            · intro vals W K hR hV hK
              have d12 := hV 12 (by simp)
              simp only [lookY] at d12
              simp only [Reg.putS, List.foldl, List.headD, List.tail, List.getD_cons_zero, List.getD_cons_succ, Act.put, List.setIfInBounds_toArray, List.set_cons_zero, List.set_cons_succ, d12] at hK ⊢
              go_simp
              first
                | exact hK _ _ (Lib.hid rfl) rfl
                | (rw [if_pos (by omega)]; exact hK _ _ (Lib.hid rfl) rfl)
                | (rw [dif_pos (by omega)]; exact hK _ _ (Lib.hid rfl) rfl)
                | (rw [if_neg (by omega)]; exact hK _ _ (Lib.hid rfl) rfl)
            · intro vals W K hR hV hK
              have d12 := hV 12 (by simp)
              simp only [lookY] at d12
              simp only [Reg.putS, List.foldl, List.headD, List.tail, List.getD_cons_zero, List.getD_cons_succ, Act.put, List.setIfInBounds_toArray, List.set_cons_zero, List.set_cons_succ, d12] at hK ⊢
              go_simp
              first
                | exact hK _ _ (Lib.hid rfl) rfl
                | (rw [if_pos (by omega)]; exact hK _ _ (Lib.hid rfl) rfl)
                | (rw [dif_pos (by omega)]; exact hK _ _ (Lib.hid rfl) rfl)
                | (rw [if_neg (by omega)]; exact hK _ _ (Lib.hid rfl) rfl)
            · intro vals W K hR hV hK
              have d0 := hV 0 (by simp)
              simp only [lookY] at d0
              have d1 := hV 1 (by simp)
              simp only [lookY] at d1
              have d2 := hV 2 (by simp)
              simp only [lookY] at d2
              have d3 := hV 3 (by simp)
              simp only [lookY] at d3
              have d4 := hV 4 (by simp)
              simp only [lookY] at d4
              have d5 := hV 5 (by simp)
              simp only [lookY] at d5
              have d6 := hV 6 (by simp)
              simp only [lookY] at d6
              have d7 := hV 7 (by simp)
              simp only [lookY] at d7
              have d8 := hV 8 (by simp)
              simp only [lookY] at d8
              have d9 := hV 9 (by simp)
              simp only [lookY] at d9
              have d10 := hV 10 (by simp)
              simp only [lookY] at d10
              have d11 := hV 11 (by simp)
              simp only [lookY] at d11
              have d12 := hV 12 (by simp)
              simp only [lookY] at d12
              have d13 := hV 13 (by simp)
              simp only [lookY] at d13
              simp only [Reg.putS, List.foldl, List.headD, List.tail, List.getD_cons_zero, List.getD_cons_succ, Act.put, List.setIfInBounds_toArray, List.set_cons_zero, List.set_cons_succ, d0, d1, d2, d3, d4, d5, d6, d7, d8, d9, d10, d11, d12, d13] at hK ⊢
              go_simp
              first
                | exact hK _ _ (Lib.hid rfl) rfl
                | (rw [if_pos (by omega)]; exact hK _ _ (Lib.hid rfl) rfl)
                | (rw [dif_pos (by omega)]; exact hK _ _ (Lib.hid rfl) rfl)
                | (rw [if_neg (by omega)]; exact hK _ _ (Lib.hid rfl) rfl)
            · intro vals W K hR hV hK
              have d0 := hV 0 (by simp)
              simp only [lookY] at d0
              have d1 := hV 1 (by simp)
              simp only [lookY] at d1
              have d2 := hV 2 (by simp)
              simp only [lookY] at d2
              have d3 := hV 3 (by simp)
              simp only [lookY] at d3
              have d4 := hV 4 (by simp)
              simp only [lookY] at d4
              have d5 := hV 5 (by simp)
              simp only [lookY] at d5
              have d6 := hV 6 (by simp)
              simp only [lookY] at d6
              have d7 := hV 7 (by simp)
              simp only [lookY] at d7
              have d8 := hV 8 (by simp)
              simp only [lookY] at d8
              have d9 := hV 9 (by simp)
              simp only [lookY] at d9
              have d10 := hV 10 (by simp)
              simp only [lookY] at d10
              have d11 := hV 11 (by simp)
              simp only [lookY] at d11
              have d12 := hV 12 (by simp)
              simp only [lookY] at d12
              have d13 := hV 13 (by simp)
              simp only [lookY] at d13
              have d14 := hV 14 (by simp)
              simp only [lookY] at d14
              have d15 := hV 15 (by simp)
              simp only [lookY] at d15
              simp only [Reg.putS, List.foldl, List.headD, List.tail, List.getD_cons_zero, List.getD_cons_succ, Act.put, List.setIfInBounds_toArray, List.set_cons_zero, List.set_cons_succ, d0, d1, d2, d3, d4, d5, d6, d7, d8, d9, d10, d11, d12, d13, d14, d15] at hK ⊢
              go_simp
              first
                | exact hK _ _ (Lib.hid rfl) rfl
                | (rw [if_pos (by omega)]; exact hK _ _ (Lib.hid rfl) rfl)
                | (rw [dif_pos (by omega)]; exact hK _ _ (Lib.hid rfl) rfl)
                | (rw [if_neg (by omega)]; exact hK _ _ (Lib.hid rfl) rfl)
          · intro vals W hR hV
            rw [show List.range (List.length [some 30, some 31, some 32, some 33, some 34, some 35, some 36, some 37, some 38, some 39, some 40, some 41, some 29, some 42, some 43, some 8, some 9]) = [0, 1, 2, 3, 4, 5, 6, 7, 8, 9, 10, 11, 12, 13, 14, 15, 16] from rfl]
            have d0 := hV 0 (by decide)
            simp only [lookY] at d0
            have d1 := hV 1 (by decide)
            simp only [lookY] at d1
            have d2 := hV 2 (by decide)
            simp only [lookY] at d2
            have d3 := hV 3 (by decide)
            simp only [lookY] at d3
            have d4 := hV 4 (by decide)
            simp only [lookY] at d4
            have d5 := hV 5 (by decide)
            simp only [lookY] at d5
            have d6 := hV 6 (by decide)
            simp only [lookY] at d6
            have d7 := hV 7 (by decide)
            simp only [lookY] at d7
            have d8 := hV 8 (by decide)
            simp only [lookY] at d8
            have d9 := hV 9 (by decide)
            simp only [lookY] at d9
            have d10 := hV 10 (by decide)
            simp only [lookY] at d10
            have d11 := hV 11 (by decide)
            simp only [lookY] at d11
            have d12 := hV 12 (by decide)
            simp only [lookY] at d12
            have d13 := hV 13 (by decide)
            simp only [lookY] at d13
            have d14 := hV 14 (by decide)
            simp only [lookY] at d14
            have d15 := hV 15 (by decide)
            simp only [lookY] at d15
            have d16 := hV 16 (by decide)
            simp only [lookY] at d16
            clear hV
            simp only [Reg.putS, List.foldl, List.getD_cons_zero, List.getD_cons_succ, Act.put, List.setIfInBounds_toArray, List.set_cons_zero, List.set_cons_succ, d0, d1, d2, d3, d4, d5, d6, d7, d8, d9, d10, d11, d12, d13, d14, d15, d16]
            clear d0 d1 d2 d3 d4 d5 d6 d7 d8 d9 d10 d11 d12 d13 d14 d15 d16
            have hWb := drew_below hR.out
            have htW := htx.below hWb
            have hoW := own_below hownx hWb
            have bW := belx.trans (hWb.mono belx.size)
            clear hR hlook c0 c3 htx hownx belx hWb
            go_wp2_with fail
            go_roundw
            case rel => exact ⟨j + 1, x, by omega, by go_num, rfl, hax, bW, hoW, N', m', htW, hNn, hmx, by omega⟩
            case measure => simp [intOf]; omega

          | none =>
          have hw := hNo hfx
          have hL : N'.length = (walkS (build zs k) s j).1.length := by
            have e := congrArg List.length hNx.out
            rw [List.length_map] at e
            exact e
          have hax : Hid (N'.length = (walkS (build zs k) s (j + 1)).2) := by show N'.length = _; rw [hw, hL]
          have hNn : Hid ((N'.map (·.p) ++ [newPn s j]).modify a (setSon c N'.length) = (walkS (build zs k) s (j + 1)).1) := by
            show (N'.map (·.p) ++ [newPn s j]).modify a (setSon c N'.length) = _
            rw [hw, hL, hNx.out, ha.out]
          have hlook : ∀ W : World, W = { wr with drawn := wr.drawn + 1 } → (Instr.lookup 120 (.map (some nd.mp)) (.int .u8 c) true).run Tryz.prog W = .ok (.tuple #[.int .i64 0, .bool false]) W := by
            intro W hW
            have h := MapAt.look (show MapAt W m' nd.mp nd.p.sons from hmp.below (drew_below hW)) hcr
            rw [hfx] at h
            exact h
          clear hw hY hNo hfx hmp hL ha hNx
          go_wp2_with fail
          refine Reg.wp_region_lists (fun W W' => Hid (W' = W)) (lookN w.heap.size s c a j N'.length g cp nd.mp)
            [some 30, some 31, some 32, some 33, some 34, some 35, some 36, some 37, some 38, some 39, some 40, some 41, some 29, some 42, some 43, some 8, some 9]
            [[], [0], [1], [2], [], [3, 4], [5], [6], [], [], [8, 9], [7, 10], [11], [12], [12], [13, 0, 1, 2, 3, 4, 5, 6, 7, 8, 9, 10, 11, 12, 13], [14, 15, 0, 1, 2, 3, 4, 5, 6, 7, 8, 9, 10, 11, 12, 13, 14, 15]]
            (by kernel_rfl) (by kernel_rfl) (by kernel_rfl) (fun _ => Lib.hid rfl) (fun _ _ _ h k => Lib.hid (k.out.trans h.out)) ?_ ?_ ?_
          · intro i v W W' h k
            unfold lookN at h ⊢
            split at h <;> first | exact h
          · refine ⟨?_, ?_, ?_, ?_, ?_, ?_, ?_, ?_, ?_, ?_, ?_, ?_, ?_, ?_, ?_, ?_, ?_, trivial⟩
            · intro vals W K hR hV hK
              simp only [Reg.putS, List.foldl, List.headD, List.tail, List.getD_cons_zero, List.getD_cons_succ, Act.put, List.setIfInBounds_toArray, List.set_cons_zero, List.set_cons_succ] at hK ⊢
              go_simp
              first
                | exact hK _ _ (Lib.hid rfl) rfl
                | (rw [if_pos (by omega)]; exact hK _ _ (Lib.hid rfl) rfl)
                | (rw [dif_pos (by omega)]; exact hK _ _ (Lib.hid rfl) rfl)
                | (rw [if_neg (by omega)]; exact hK _ _ (Lib.hid rfl) rfl)
            · intro vals W K hR hV hK
              have d0 := hV 0 (by simp)
              simp only [lookN] at d0
              simp only [Reg.putS, List.foldl, List.headD, List.tail, List.getD_cons_zero, List.getD_cons_succ, Act.put, List.setIfInBounds_toArray, List.set_cons_zero, List.set_cons_succ, d0] at hK ⊢
              go_simp
              first
                | exact hK _ _ (Lib.hid rfl) rfl
                | (rw [if_pos (by omega)]; exact hK _ _ (Lib.hid rfl) rfl)
                | (rw [dif_pos (by omega)]; exact hK _ _ (Lib.hid rfl) rfl)
                | (rw [if_neg (by omega)]; exact hK _ _ (Lib.hid rfl) rfl)
            · intro vals W K hR hV hK
              have d1 := hV 1 (by simp)
              simp only [lookN] at d1
              simp only [Reg.putS, List.foldl, List.headD, List.tail, List.getD_cons_zero, List.getD_cons_succ, Act.put, List.setIfInBounds_toArray, List.set_cons_zero, List.set_cons_succ, d1] at hK ⊢
              go_simp
              first
                | exact hK _ _ (Lib.hid rfl) rfl
                | (rw [if_pos (by omega)]; exact hK _ _ (Lib.hid rfl) rfl)
                | (rw [dif_pos (by omega)]; exact hK _ _ (Lib.hid rfl) rfl)
                | (rw [if_neg (by omega)]; exact hK _ _ (Lib.hid rfl) rfl)
            · intro vals W K hR hV hK
              have d2 := hV 2 (by simp)
              simp only [lookN] at d2
              simp only [Reg.putS, List.foldl, List.headD, List.tail, List.getD_cons_zero, List.getD_cons_succ, Act.put, List.setIfInBounds_toArray, List.set_cons_zero, List.set_cons_succ, d2] at hK ⊢
              have hcl : W.cell? ⟨w.heap.size, 0, none⟩ = some (.slice (some ⟨g, 0, none⟩) N'.length cp) := by rw [hR.out]; exact c0
              go_simp
              first
                | exact hK _ _ (Lib.hid rfl) rfl
                | (rw [if_pos (by omega)]; exact hK _ _ (Lib.hid rfl) rfl)
                | (rw [dif_pos (by omega)]; exact hK _ _ (Lib.hid rfl) rfl)
                | (rw [if_neg (by omega)]; exact hK _ _ (Lib.hid rfl) rfl)
            · intro vals W K hR hV hK
              simp only [Reg.putS, List.foldl, List.headD, List.tail, List.getD_cons_zero, List.getD_cons_succ, Act.put, List.setIfInBounds_toArray, List.set_cons_zero, List.set_cons_succ] at hK ⊢
              go_simp
              first
                | exact hK _ _ (Lib.hid rfl) rfl
                | (rw [if_pos (by omega)]; exact hK _ _ (Lib.hid rfl) rfl)
                | (rw [dif_pos (by omega)]; exact hK _ _ (Lib.hid rfl) rfl)
                | (rw [if_neg (by omega)]; exact hK _ _ (Lib.hid rfl) rfl)
            · intro vals W K hR hV hK
              have d3 := hV 3 (by simp)
              simp only [lookN] at d3
              have d4 := hV 4 (by simp)
              simp only [lookN] at d4
              simp only [Reg.putS, List.foldl, List.headD, List.tail, List.getD_cons_zero, List.getD_cons_succ, Act.put, List.setIfInBounds_toArray, List.set_cons_zero, List.set_cons_succ, d3, d4] at hK ⊢
              go_simp
              first
                | exact hK _ _ (Lib.hid rfl) rfl
                | (rw [if_pos (by omega)]; exact hK _ _ (Lib.hid rfl) rfl)
                | (rw [dif_pos (by omega)]; exact hK _ _ (Lib.hid rfl) rfl)
                | (rw [if_neg (by omega)]; exact hK _ _ (Lib.hid rfl) rfl)
            · intro vals W K hR hV hK
              have d5 := hV 5 (by simp)
              simp only [lookN] at d5
              simp only [Reg.putS, List.foldl, List.headD, List.tail, List.getD_cons_zero, List.getD_cons_succ, Act.put, List.setIfInBounds_toArray, List.set_cons_zero, List.set_cons_succ, d5] at hK ⊢
              go_simp
              first
                | exact hK _ _ (Lib.hid rfl) rfl
                | (rw [if_pos (by omega)]; exact hK _ _ (Lib.hid rfl) rfl)
                | (rw [dif_pos (by omega)]; exact hK _ _ (Lib.hid rfl) rfl)
                | (rw [if_neg (by omega)]; exact hK _ _ (Lib.hid rfl) rfl)
            · intro vals W K hR hV hK
              have d6 := hV 6 (by simp)
              simp only [lookN] at d6
              simp only [Reg.putS, List.foldl, List.headD, List.tail, List.getD_cons_zero, List.getD_cons_succ, Act.put, List.setIfInBounds_toArray, List.set_cons_zero, List.set_cons_succ, d6] at hK ⊢
              have hcl : W.cell? ⟨g, a * 3 + 2, none⟩ = some (.map (some nd.mp)) := by rw [hR.out]; exact c3
              go_simp
              first
                | exact hK _ _ (Lib.hid rfl) rfl
                | (rw [if_pos (by omega)]; exact hK _ _ (Lib.hid rfl) rfl)
                | (rw [dif_pos (by omega)]; exact hK _ _ (Lib.hid rfl) rfl)
                | (rw [if_neg (by omega)]; exact hK _ _ (Lib.hid rfl) rfl)
            · intro vals W K hR hV hK
              simp only [Reg.putS, List.foldl, List.headD, List.tail, List.getD_cons_zero, List.getD_cons_succ, Act.put, List.setIfInBounds_toArray, List.set_cons_zero, List.set_cons_succ] at hK ⊢
              go_simp
              first
                | exact hK _ _ (Lib.hid rfl) rfl
                | (rw [if_pos (by omega)]; exact hK _ _ (Lib.hid rfl) rfl)
                | (rw [dif_pos (by omega)]; exact hK _ _ (Lib.hid rfl) rfl)
                | (rw [if_neg (by omega)]; exact hK _ _ (Lib.hid rfl) rfl)
            · intro vals W K hR hV hK
              simp only [Reg.putS, List.foldl, List.headD, List.tail, List.getD_cons_zero, List.getD_cons_succ, Act.put, List.setIfInBounds_toArray, List.set_cons_zero, List.set_cons_succ] at hK ⊢
              go_simp
              first
                | exact hK _ _ (Lib.hid rfl) rfl
                | (rw [if_pos (by omega)]; exact hK _ _ (Lib.hid rfl) rfl)
                | (rw [dif_pos (by omega)]; exact hK _ _ (Lib.hid rfl) rfl)
                | (rw [if_neg (by omega)]; exact hK _ _ (Lib.hid rfl) rfl)
            · intro vals W K hR hV hK
              have d8 := hV 8 (by simp)
              simp only [lookN] at d8
              have d9 := hV 9 (by simp)
              simp only [lookN] at d9
              simp only [Reg.putS, List.foldl, List.headD, List.tail, List.getD_cons_zero, List.getD_cons_succ, Act.put, List.setIfInBounds_toArray, List.set_cons_zero, List.set_cons_succ, d8, d9] at hK ⊢
              go_simp
              first
                | exact hK _ _ (Lib.hid rfl) rfl
                | (rw [if_pos (by omega)]; exact hK _ _ (Lib.hid rfl) rfl)
                | (rw [dif_pos (by omega)]; exact hK _ _ (Lib.hid rfl) rfl)
                | (rw [if_neg (by omega)]; exact hK _ _ (Lib.hid rfl) rfl)
            · intro vals W K hR hV hK
              have d7 := hV 7 (by simp)
              simp only [lookN] at d7
              have d10 := hV 10 (by simp)
              simp only [lookN] at d10
              simp only [Reg.putS, List.foldl, List.headD, List.tail, List.getD_cons_zero, List.getD_cons_succ, Act.put, List.setIfInBounds_toArray, List.set_cons_zero, List.set_cons_succ, d7, d10] at hK ⊢
              have hlk := hlook W hR.out
              go_simp
              first
                | exact hK _ _ (Lib.hid rfl) rfl
                | (rw [if_pos (by omega)]; exact hK _ _ (Lib.hid rfl) rfl)
                | (rw [dif_pos (by omega)]; exact hK _ _ (Lib.hid rfl) rfl)
                | (rw [if_neg (by omega)]; exact hK _ _ (Lib.hid rfl) rfl)
            · intro vals W K hR hV hK
              have d11 := hV 11 (by simp)
              simp only [lookN] at d11
              simp only [Reg.putS, List.foldl, List.headD, List.tail, List.getD_cons_zero, List.getD_cons_succ, Act.put, List.setIfInBounds_toArray, List.set_cons_zero, List.set_cons_succ, d11] at hK ⊢
              go_simp
              first
                | exact hK _ _ (Lib.hid rfl) rfl
                | (rw [if_pos (by omega)]; exact hK _ _ (Lib.hid rfl) rfl)
                | (rw [dif_pos (by omega)]; exact hK _ _ (Lib.hid rfl) rfl)
                | (rw [if_neg (by omega)]; exact hK _ _ (Lib.hid rfl) rfl)
            · intro vals W K hR hV hK
              have d12 := hV 12 (by simp)
              simp only [lookN] at d12
              simp only [Reg.putS, List.foldl, List.headD, List.tail, List.getD_cons_zero, List.getD_cons_succ, Act.put, List.setIfInBounds_toArray, List.set_cons_zero, List.set_cons_succ, d12] at hK ⊢
              go_simp
              first
                | exact hK _ _ (Lib.hid rfl) rfl
                | (rw [if_pos (by omega)]; exact hK _ _ (Lib.hid rfl) rfl)
                | (rw [dif_pos (by omega)]; exact hK _ _ (Lib.hid rfl) rfl)
                | (rw [if_neg (by omega)]; exact hK _ _ (Lib.hid rfl) rfl)
            · intro vals W K hR hV hK
              have d12 := hV 12 (by simp)
              simp only [lookN] at d12
              simp only [Reg.putS, List.foldl, List.headD, List.tail, List.getD_cons_zero, List.getD_cons_succ, Act.put, List.setIfInBounds_toArray, List.set_cons_zero, List.set_cons_succ, d12] at hK ⊢
              go_simp
              first
                | exact hK _ _ (Lib.hid rfl) rfl
                | (rw [if_pos (by omega)]; exact hK _ _ (Lib.hid rfl) rfl)
                | (rw [dif_pos (by omega)]; exact hK _ _ (Lib.hid rfl) rfl)
                | (rw [if_neg (by omega)]; exact hK _ _ (Lib.hid rfl) rfl)
            · intro vals W K hR hV hK
              have d0 := hV 0 (by simp)
              simp only [lookN] at d0
              have d1 := hV 1 (by simp)
              simp only [lookN] at d1
              have d2 := hV 2 (by simp)
              simp only [lookN] at d2
              have d3 := hV 3 (by simp)
              simp only [lookN] at d3
              have d4 := hV 4 (by simp)
              simp only [lookN] at d4
              have d5 := hV 5 (by simp)
              simp only [lookN] at d5
              have d6 := hV 6 (by simp)
              simp only [lookN] at d6
              have d7 := hV 7 (by simp)
              simp only [lookN] at d7
              have d8 := hV 8 (by simp)
              simp only [lookN] at d8
              have d9 := hV 9 (by simp)
              simp only [lookN] at d9
              have d10 := hV 10 (by simp)
              simp only [lookN] at d10
              have d11 := hV 11 (by simp)
              simp only [lookN] at d11
              have d12 := hV 12 (by simp)
              simp only [lookN] at d12
              have d13 := hV 13 (by simp)
              simp only [lookN] at d13
              simp only [Reg.putS, List.foldl, List.headD, List.tail, List.getD_cons_zero, List.getD_cons_succ, Act.put, List.setIfInBounds_toArray, List.set_cons_zero, List.set_cons_succ, d0, d1, d2, d3, d4, d5, d6, d7, d8, d9, d10, d11, d12, d13] at hK ⊢
              go_simp
              first
                | exact hK _ _ (Lib.hid rfl) rfl
                | (rw [if_pos (by omega)]; exact hK _ _ (Lib.hid rfl) rfl)
                | (rw [dif_pos (by omega)]; exact hK _ _ (Lib.hid rfl) rfl)
                | (rw [if_neg (by omega)]; exact hK _ _ (Lib.hid rfl) rfl)
            · intro vals W K hR hV hK
              have d0 := hV 0 (by simp)
              simp only [lookN] at d0
              have d1 := hV 1 (by simp)
              simp only [lookN] at d1
              have d2 := hV 2 (by simp)
              simp only [lookN] at d2
              have d3 := hV 3 (by simp)
              simp only [lookN] at d3
              have d4 := hV 4 (by simp)
              simp only [lookN] at d4
              have d5 := hV 5 (by simp)
              simp only [lookN] at d5
              have d6 := hV 6 (by simp)
              simp only [lookN] at d6
              have d7 := hV 7 (by simp)
              simp only [lookN] at d7
              have d8 := hV 8 (by simp)
              simp only [lookN] at d8
              have d9 := hV 9 (by simp)
              simp only [lookN] at d9
              have d10 := hV 10 (by simp)
              simp only [lookN] at d10
              have d11 := hV 11 (by simp)
              simp only [lookN] at d11
              have d12 := hV 12 (by simp)
              simp only [lookN] at d12
              have d13 := hV 13 (by simp)
              simp only [lookN] at d13
              have d14 := hV 14 (by simp)
              simp only [lookN] at d14
              have d15 := hV 15 (by simp)
              simp only [lookN] at d15
              simp only [Reg.putS, List.foldl, List.headD, List.tail, List.getD_cons_zero, List.getD_cons_succ, Act.put, List.setIfInBounds_toArray, List.set_cons_zero, List.set_cons_succ, d0, d1, d2, d3, d4, d5, d6, d7, d8, d9, d10, d11, d12, d13, d14, d15] at hK ⊢
              go_simp
              first
                | exact hK _ _ (Lib.hid rfl) rfl
                | (rw [if_pos (by omega)]; exact hK _ _ (Lib.hid rfl) rfl)
                | (rw [dif_pos (by omega)]; exact hK _ _ (Lib.hid rfl) rfl)
                | (rw [if_neg (by omega)]; exact hK _ _ (Lib.hid rfl) rfl)
          · intro vals W hR hV
            rw [show List.range (List.length [some 30, some 31, some 32, some 33, some 34, some 35, some 36, some 37, some 38, some 39, some 40, some 41, some 29, some 42, some 43, some 8, some 9]) = [0, 1, 2, 3, 4, 5, 6, 7, 8, 9, 10, 11, 12, 13, 14, 15, 16] from rfl]
            have d0 := hV 0 (by decide)
            simp only [lookN] at d0
            have d1 := hV 1 (by decide)
            simp only [lookN] at d1
            have d2 := hV 2 (by decide)
            simp only [lookN] at d2
            have d3 := hV 3 (by decide)
            simp only [lookN] at d3
            have d4 := hV 4 (by decide)
            simp only [lookN] at d4
            have d5 := hV 5 (by decide)
            simp only [lookN] at d5
            have d6 := hV 6 (by decide)
            simp only [lookN] at d6
            have d7 := hV 7 (by decide)
            simp only [lookN] at d7
            have d8 := hV 8 (by decide)
            simp only [lookN] at d8
            have d9 := hV 9 (by decide)
            simp only [lookN] at d9
            have d10 := hV 10 (by decide)
            simp only [lookN] at d10
            have d11 := hV 11 (by decide)
            simp only [lookN] at d11
            have d12 := hV 12 (by decide)
            simp only [lookN] at d12
            have d13 := hV 13 (by decide)
            simp only [lookN] at d13
            have d14 := hV 14 (by decide)
            simp only [lookN] at d14
            have d15 := hV 15 (by decide)
            simp only [lookN] at d15
            have d16 := hV 16 (by decide)
            simp only [lookN] at d16
            clear hV
            simp only [Reg.putS, List.foldl, List.getD_cons_zero, List.getD_cons_succ, Act.put, List.setIfInBounds_toArray, List.set_cons_zero, List.set_cons_succ, d0, d1, d2, d3, d4, d5, d6, d7, d8, d9, d10, d11, d12, d13, d14, d15, d16]
            clear d0 d1 d2 d3 d4 d5 d6 d7 d8 d9 d10 d11 d12 d13 d14 d15 d16
            have hWb := drew_below hR.out
            have htW := htx.below hWb
            have hoW := own_below hownx hWb
            have bW := belx.trans (hWb.mono belx.size)
            have hwj : IntKind.i64.wrap ((j : Int) + 1) = (j : Int) + 1 := by rw [IntKind.wrap_i64]; omega
            have hj1 : (j : Int) + 1 ≤ (s.size : Int) := by omega
            have hadd := add_any htW bW.size (by omega) (s.extract 0 (j + 1))
            clear hR hlook c0 c3 htx hownx belx hWb
            go_wp2_with fail
            refine hadd.mono ?_
            rintro e w4 ⟨rfl, b40, k4, mp4, t4⟩
            have b4 := bW.trans b40
            have own4 := own_keeps hoW k4 (by decide) (by decide)
            have nd4 : (N' ++ [newNd (s.extract 0 (j + 1)) mp4])[a]? = some nd := by rw [List.getElem?_append_left hal]; exact hnd
            clear hadd b40 k4 htW hoW bW
            obtain ⟨g, cp, c0, _, _, c3⟩ := t4.node nd4
            simp only [List.length_append, List.length_singleton] at c0
            have hla : (a : Int) < (N'.length : Int) + 1 := by omega
            go_wp2_with fail

            refine Reg.wp_region_last 12 (fun W W' => Hid (W' = W)) (putV w.heap.size s c a j (N'.length + 1) g cp nd.mp N'.length)
              [some 52, some 53, some 54, some 55, some 56, some 57, some 58, some 59, some 60, some 61, some 62, some 63, none]
              [[], [0], [1], [2], [], [3, 4], [5], [6], [], [], [8, 9], [], [7, 10, 11, 0, 1, 2, 3, 4, 5, 6, 7, 8, 9, 10, 11]]
              (by kernel_rfl) (by kernel_rfl) (by kernel_rfl) (by kernel_rfl) (by kernel_rfl) (fun _ => Lib.hid rfl) (fun _ _ _ h k => Lib.hid (k.out.trans h.out)) ?_ ?_ ?_
            · intro i v W W' h k
              unfold putV at h ⊢
              split at h <;> first | exact h
            · refine ⟨?_, ?_, ?_, ?_, ?_, ?_, ?_, ?_, ?_, ?_, ?_, ?_, trivial⟩
              · intro vals W K hR hV hK
                simp only [Reg.putS, List.foldl, List.headD, List.tail, List.getD_cons_zero, List.getD_cons_succ, Act.put, List.setIfInBounds_toArray, List.set_cons_zero, List.set_cons_succ] at hK ⊢
                go_simp
                first
                  | exact hK _ _ (Lib.hid rfl) rfl
                  | (rw [if_pos (by omega)]; exact hK _ _ (Lib.hid rfl) rfl)
                  | (rw [dif_pos (by omega)]; exact hK _ _ (Lib.hid rfl) rfl)
                  | (rw [if_neg (by omega)]; exact hK _ _ (Lib.hid rfl) rfl)
              · intro vals W K hR hV hK
                have d0 := hV 0 (by simp)
                simp only [putV] at d0
                simp only [Reg.putS, List.foldl, List.headD, List.tail, List.getD_cons_zero, List.getD_cons_succ, Act.put, List.setIfInBounds_toArray, List.set_cons_zero, List.set_cons_succ, d0] at hK ⊢
                go_simp
                first
                  | exact hK _ _ (Lib.hid rfl) rfl
                  | (rw [if_pos (by omega)]; exact hK _ _ (Lib.hid rfl) rfl)
                  | (rw [dif_pos (by omega)]; exact hK _ _ (Lib.hid rfl) rfl)
                  | (rw [if_neg (by omega)]; exact hK _ _ (Lib.hid rfl) rfl)
              · intro vals W K hR hV hK
                have d1 := hV 1 (by simp)
                simp only [putV] at d1
                simp only [Reg.putS, List.foldl, List.headD, List.tail, List.getD_cons_zero, List.getD_cons_succ, Act.put, List.setIfInBounds_toArray, List.set_cons_zero, List.set_cons_succ, d1] at hK ⊢
                go_simp
                first
                  | exact hK _ _ (Lib.hid rfl) rfl
                  | (rw [if_pos (by omega)]; exact hK _ _ (Lib.hid rfl) rfl)
                  | (rw [dif_pos (by omega)]; exact hK _ _ (Lib.hid rfl) rfl)
                  | (rw [if_neg (by omega)]; exact hK _ _ (Lib.hid rfl) rfl)
              · intro vals W K hR hV hK
                have d2 := hV 2 (by simp)
                simp only [putV] at d2
                simp only [Reg.putS, List.foldl, List.headD, List.tail, List.getD_cons_zero, List.getD_cons_succ, Act.put, List.setIfInBounds_toArray, List.set_cons_zero, List.set_cons_succ, d2] at hK ⊢
                have hcl : W.cell? ⟨w.heap.size, 0, none⟩ = some (.slice (some ⟨g, 0, none⟩) (N'.length + 1) cp) := by rw [hR.out]; exact c0
                go_simp
                first
                  | exact hK _ _ (Lib.hid rfl) rfl
                  | (rw [if_pos (by omega)]; exact hK _ _ (Lib.hid rfl) rfl)
                  | (rw [dif_pos (by omega)]; exact hK _ _ (Lib.hid rfl) rfl)
                  | (rw [if_neg (by omega)]; exact hK _ _ (Lib.hid rfl) rfl)
              · intro vals W K hR hV hK
                simp only [Reg.putS, List.foldl, List.headD, List.tail, List.getD_cons_zero, List.getD_cons_succ, Act.put, List.setIfInBounds_toArray, List.set_cons_zero, List.set_cons_succ] at hK ⊢
                go_simp
                first
                  | exact hK _ _ (Lib.hid rfl) rfl
                  | (rw [if_pos (by omega)]; exact hK _ _ (Lib.hid rfl) rfl)
                  | (rw [dif_pos (by omega)]; exact hK _ _ (Lib.hid rfl) rfl)
                  | (rw [if_neg (by omega)]; exact hK _ _ (Lib.hid rfl) rfl)
              · intro vals W K hR hV hK
                have d3 := hV 3 (by simp)
                simp only [putV] at d3
                have d4 := hV 4 (by simp)
                simp only [putV] at d4
                simp only [Reg.putS, List.foldl, List.headD, List.tail, List.getD_cons_zero, List.getD_cons_succ, Act.put, List.setIfInBounds_toArray, List.set_cons_zero, List.set_cons_succ, d3, d4] at hK ⊢
                go_simp
                first
                  | exact hK _ _ (Lib.hid rfl) rfl
                  | (rw [if_pos (by omega)]; exact hK _ _ (Lib.hid rfl) rfl)
                  | (rw [dif_pos (by omega)]; exact hK _ _ (Lib.hid rfl) rfl)
                  | (rw [if_neg (by omega)]; exact hK _ _ (Lib.hid rfl) rfl)
              · intro vals W K hR hV hK
                have d5 := hV 5 (by simp)
                simp only [putV] at d5
                simp only [Reg.putS, List.foldl, List.headD, List.tail, List.getD_cons_zero, List.getD_cons_succ, Act.put, List.setIfInBounds_toArray, List.set_cons_zero, List.set_cons_succ, d5] at hK ⊢
                go_simp
                first
                  | exact hK _ _ (Lib.hid rfl) rfl
                  | (rw [if_pos (by omega)]; exact hK _ _ (Lib.hid rfl) rfl)
                  | (rw [dif_pos (by omega)]; exact hK _ _ (Lib.hid rfl) rfl)
                  | (rw [if_neg (by omega)]; exact hK _ _ (Lib.hid rfl) rfl)
              · intro vals W K hR hV hK
                have d6 := hV 6 (by simp)
                simp only [putV] at d6
                simp only [Reg.putS, List.foldl, List.headD, List.tail, List.getD_cons_zero, List.getD_cons_succ, Act.put, List.setIfInBounds_toArray, List.set_cons_zero, List.set_cons_succ, d6] at hK ⊢
                have hcl : W.cell? ⟨g, a * 3 + 2, none⟩ = some (.map (some nd.mp)) := by rw [hR.out]; exact c3
                go_simp
                first
                  | exact hK _ _ (Lib.hid rfl) rfl
                  | (rw [if_pos (by omega)]; exact hK _ _ (Lib.hid rfl) rfl)
                  | (rw [dif_pos (by omega)]; exact hK _ _ (Lib.hid rfl) rfl)
                  | (rw [if_neg (by omega)]; exact hK _ _ (Lib.hid rfl) rfl)
              · intro vals W K hR hV hK
                simp only [Reg.putS, List.foldl, List.headD, List.tail, List.getD_cons_zero, List.getD_cons_succ, Act.put, List.setIfInBounds_toArray, List.set_cons_zero, List.set_cons_succ] at hK ⊢
                go_simp
                first
                  | exact hK _ _ (Lib.hid rfl) rfl
                  | (rw [if_pos (by omega)]; exact hK _ _ (Lib.hid rfl) rfl)
                  | (rw [dif_pos (by omega)]; exact hK _ _ (Lib.hid rfl) rfl)
                  | (rw [if_neg (by omega)]; exact hK _ _ (Lib.hid rfl) rfl)
              · intro vals W K hR hV hK
                simp only [Reg.putS, List.foldl, List.headD, List.tail, List.getD_cons_zero, List.getD_cons_succ, Act.put, List.setIfInBounds_toArray, List.set_cons_zero, List.set_cons_succ] at hK ⊢
                go_simp
                first
                  | exact hK _ _ (Lib.hid rfl) rfl
                  | (rw [if_pos (by omega)]; exact hK _ _ (Lib.hid rfl) rfl)
                  | (rw [dif_pos (by omega)]; exact hK _ _ (Lib.hid rfl) rfl)
                  | (rw [if_neg (by omega)]; exact hK _ _ (Lib.hid rfl) rfl)
              · intro vals W K hR hV hK
                have d8 := hV 8 (by simp)
                simp only [putV] at d8
                have d9 := hV 9 (by simp)
                simp only [putV] at d9
                simp only [Reg.putS, List.foldl, List.headD, List.tail, List.getD_cons_zero, List.getD_cons_succ, Act.put, List.setIfInBounds_toArray, List.set_cons_zero, List.set_cons_succ, d8, d9] at hK ⊢
                go_simp
                first
                  | exact hK _ _ (Lib.hid rfl) rfl
                  | (rw [if_pos (by omega)]; exact hK _ _ (Lib.hid rfl) rfl)
                  | (rw [dif_pos (by omega)]; exact hK _ _ (Lib.hid rfl) rfl)
                  | (rw [if_neg (by omega)]; exact hK _ _ (Lib.hid rfl) rfl)
              · intro vals W K hR hV hK
                simp only [Reg.putS, List.foldl, List.headD, List.tail, List.getD_cons_zero, List.getD_cons_succ, Act.put, List.setIfInBounds_toArray, List.set_cons_zero, List.set_cons_succ] at hK ⊢
                go_simp
                first
                  | exact hK _ _ (Lib.hid rfl) rfl
                  | (rw [if_pos (by omega)]; exact hK _ _ (Lib.hid rfl) rfl)
                  | (rw [dif_pos (by omega)]; exact hK _ _ (Lib.hid rfl) rfl)
                  | (rw [if_neg (by omega)]; exact hK _ _ (Lib.hid rfl) rfl)
            · intro vals W o ho hR hV
              simp only [List.getElem?_toArray, List.getElem?_cons_succ, List.getElem?_cons_zero, Option.some.injEq] at ho
              subst ho
              have d0 := hV 0 (by decide)
              simp only [putV] at d0
              have d1 := hV 1 (by decide)
              simp only [putV] at d1
              have d2 := hV 2 (by decide)
              simp only [putV] at d2
              have d3 := hV 3 (by decide)
              simp only [putV] at d3
              have d4 := hV 4 (by decide)
              simp only [putV] at d4
              have d5 := hV 5 (by decide)
              simp only [putV] at d5
              have d6 := hV 6 (by decide)
              simp only [putV] at d6
              have d7 := hV 7 (by decide)
              simp only [putV] at d7
              have d8 := hV 8 (by decide)
              simp only [putV] at d8
              have d9 := hV 9 (by decide)
              simp only [putV] at d9
              have d10 := hV 10 (by decide)
              simp only [putV] at d10
              have d11 := hV 11 (by decide)
              simp only [putV] at d11
              unfold Reg.LastStep
              rw [show List.range 12 = [0, 1, 2, 3, 4, 5, 6, 7, 8, 9, 10, 11] from rfl]
              clear hV
              simp only [Reg.putS, List.foldl, List.getD_cons_zero, List.getD_cons_succ, Act.put, List.setIfInBounds_toArray, List.set_cons_zero, List.set_cons_succ, d0, d1, d2, d3, d4, d5, d6, d7, d8, d9, d10, d11]
              clear d0 d1 d2 d3 d4 d5 d6 d7 d8 d9 d10 d11
              have hWb := drew_below hR.out
              have htW := t4.below hWb
              have hoW := own_below own4 hWb
              have bW := b4.trans (hWb.mono b4.size)
              obtain ⟨w5, hrun, hm5, hg5⟩ := ((htW.maps nd (List.mem_of_getElem? nd4)).2).put (by unfold maxLen; omega) hcr (x := N'.length) (by omega)
              obtain ⟨t5, k5, b5⟩ := put_set htW nd4 hm5 hg5
              have own5 := own_keeps hoW k5 (by decide) (by decide)
              have bel5 := bW.trans b5
              clear hR c0 c3 t4 own4 b4 hWb htW hoW bW hm5 hg5 k5 b5
              go_simp
              clear hrun
              go_wp2_with fail
              go_roundw
              case rel => exact ⟨j + 1, N'.length, by omega, by go_num, rfl, hax, bel5, own5, _, m' + 1, t5, by rw [map_modify, List.map_append]; exact hNn, by simp; omega, by simp; omega⟩
              case measure => simp [intOf]; omega

        · have hjs : j = s.size := by omega
          have hNb : Hid ((N'.modify a (setNd (setWord (k : Int)))).map (·.p) = build zs (k + 1)) := by
            show _ = _
            rw [map_modify, hbk.out, hNx.out, ha.out, hjs]; rfl
          obtain ⟨g, cp, c0, _, c2, _⟩ := htx.node hnd
          obtain ⟨q1, q2, q3⟩ := word_set htx hal c0 (k : Int)
          have own5 := own_keeps hownx q2 (by decide) (by decide)
          have bel5 := belx.trans q3
          have hfz : wr.frozen? ⟨g, a * 3 + 1, none⟩ = false := row_frozen htx c0
          have hai : (a : Int) < (N'.length : Int) := by omega
          have hTl : N'.length ≤ 1 + total (zs.take (k + 1)) := by rw [hT.out]; omega
          clear hgd hNx ha htx hownx belx q2 q3 hnd hjs hbk hT
          go_wp2_with fail
          go_roundw
          case rel => exact ⟨k + 1, by omega, by go_num, bel5, own5, _, m', q1, hNb, by rw [List.length_modify]; exact hmx, by rw [List.length_modify]; exact hTl⟩
          case measure => simp [intOf]; omega
    · have hkn : k = n := by omega
      subst hkn
      have hNf : N.map (·.p) = build zs zs.length := by rw [← hn]; exact hN.out
      have hNf2 : Hid (N.map (·.p) = build zs zs.length) := hNf
      have hlf : N.length ≤ 1 + total zs := Nat.le_trans hNl (by have := total_take_le zs k; omega)
      clear hn hnh hNf hN hown hown2 hNl
      go_wp2_with fail
      refine bodyPost_ret (v := .pointer (some ⟨w.heap.size, 0, none⟩)) ?_ rfl ⟨belr, _, N, m, rfl, ht, hNf2.out, hlf⟩
      simp [results, Tryz.results50, go_sem]
end Go.Proofs.YtdeeeechdlcdbaaGreat.TrD
/- alive; the trie of nothing. -/
set_option linter.unusedSimpArgs false
set_option linter.unusedVariables false
namespace Go.Proofs.YtdeeeechdlcdbaaGreat.TrE
open Go Go.RowKit Go.Proofs.YtdeeeechdlcdbaaGreat.Base Go.Proofs.YtdeeeechdlcdbaaGreat.DiA Go.Proofs.YtdeeeechdlcdbaaGreat.DiB Go.Proofs.YtdeeeechdlcdbaaGreat.DiC Go.Proofs.YtdeeeechdlcdbaaGreat.DiD Go.Proofs.YtdeeeechdlcdbaaGreat.TrP Go.Proofs.YtdeeeechdlcdbaaGreat.TrM Go.Proofs.YtdeeeechdlcdbaaGreat.TrA Go.Proofs.YtdeeeechdlcdbaaGreat.TrB Go.Proofs.YtdeeeechdlcdbaaGreat.TrD
set_option maxHeartbeats 400000 in
theorem new_nil (w : World) : Calls Tryz.prog 50 #[.pointer none] w fun e w' => e = .returned (.pointer none) ∧ w' = w := by
  go_enter Tryz.func50, Tryz.ntmps50
  go_wp2_with fail
  go_ret
  exact ⟨rfl, rfl⟩
/-- Text and Word of a node that there is. -/
theorem text_in {B p m : Nat} {N : List Nd} {w : World} (h : TrieAt B w p N m) (hbig : N.length ≤ 1000000) {S : List Pn} (hS : N.map (·.p) = S) (k : Nat) (hk : k < S.length) :
    Calls Tryz.prog 114 #[.pointer (some ⟨p, 0, none⟩), .int .i64 (k : Int)] w fun e w' => e = .returned (.string (S.getD k noPn).text) ∧ Below w.heap.size w w' := by
  have hl : k < N.length := by rw [← hS, List.length_map] at hk; exact hk
  have hn : N[k]? = some N[k] := List.getElem?_eq_getElem hl
  rw [getD_of hS hn]
  exact text_of (at_in h hn hbig)
theorem word_in {B p m : Nat} {N : List Nd} {w : World} (h : TrieAt B w p N m) (hbig : N.length ≤ 1000000) {S : List Pn} (hS : N.map (·.p) = S) (k : Nat) (hk : k < S.length) :
    Calls Tryz.prog 101 #[.pointer (some ⟨p, 0, none⟩), .int .i64 (k : Int)] w fun e w' => e = .returned (.int .i64 (S.getD k noPn).word) ∧ Below w.heap.size w w' := by
  have hl : k < N.length := by rw [← hS, List.length_map] at hk; exact hk
  have hn : N[k]? = some N[k] := List.getElem?_eq_getElem hl
  rw [getD_of hS hn]
  exact word_of (at_in h hn hbig)
def two : List ByteArray := [⟨#[97, 98]⟩, ⟨#[97]⟩]
theorem two_ok : okD two = true := by kernel_rfl
theorem two_len : (build two 2).length = 3 := by kernel_rfl
theorem two_text : ((build two 2).getD 2 noPn).text = ⟨#[97, 98]⟩ := by kernel_rfl
theorem two_word1 : ((build two 2).getD 1 noPn).word = 1 := by kernel_rfl
theorem two_word2 : ((build two 2).getD 2 noPn).word = 0 := by kernel_rfl
theorem two_word0 : ((build two 2).getD 0 noPn).word = -1 := by kernel_rfl
end Go.Proofs.YtdeeeechdlcdbaaGreat.TrE
