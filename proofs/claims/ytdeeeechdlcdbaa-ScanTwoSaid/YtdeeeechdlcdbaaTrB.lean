/- The walk of a trie's add. -/
import Derived.Test.YtdeeeechdlcdbaaTrA
set_option linter.unusedSimpArgs false
set_option linter.unusedVariables false
namespace Go.Proofs.Ytdeeeechdlcdbaa.TrB
open Go Go.RowKit Go.Proofs.Ytdeeeechdlcdbaa.Base Go.Proofs.Ytdeeeechdlcdbaa.TrP Go.Proofs.Ytdeeeechdlcdbaa.TrM Go.Proofs.Ytdeeeechdlcdbaa.TrA Go.Proofs.Ytdeeeechdlcdbaa.DiC
/-- A new node. -/
def newNd (s : ByteArray) (mp : Nat) : Nd := ⟨⟨s, -1, fun _ => none⟩, mp⟩
/-- Cells that are no trie's stay as they are. -/
def Keeps (w w' : World) : Prop := ∀ (g : Nat) (cs : Array Value) (t : TypeId), t ≠ 101 → t ≠ 106 → w.heap[g]? = some (.cells cs t (0, 0)) → w'.heap[g]? = some (.cells cs t (0, 0))
theorem Keeps.trans {a b c : World} (h : Keeps a b) (k : Keeps b c) : Keeps a c := fun g cs t h1 h2 h3 => k g cs t h1 h2 (h g cs t h1 h2 h3)
theorem Keeps.of_below {w w' : World} (h : Below w.heap.size w w') : Keeps w w' := fun g cs t _ _ h3 => heap_below h h3
theorem Keeps.of_grown {w w' : World} {b : Nat} (h : w.grownBy w' (some b)) (hb : ∀ cs t, w.heap[b]? = some (.cells cs t (0, 0)) → t = 101 ∨ t = 106) : Keeps w w' := by
  intro g cs t h1 h2 h3
  refine (h.block g (heap_lt h3) ?_).trans h3
  intro e
  obtain rfl := Option.some.inj e
  rcases hb cs t h3 with h | h
  · exact h1 h
  · exact h2 h
theorem Keeps.of_row {w w' : World} {B n : Nat} {v : Value} {xs : List Value} (hr : w.ownsRow B 106 3 v n xs) (h : w.grownBy w' v.ownBlock) : Keeps w w' := by
  intro g cs t h1 h2 h3
  refine (h.block g (heap_lt h3) ?_).trans h3
  intro e
  exact own_ne hr h3 (fun e => h2 e.symm) e.symm
theorem Keeps.of_set {w : World} {b i : Nat} {cs : Array Value} {t : TypeId} (u : Value) (hb : w.heap[b]? = some (.cells cs t (0, 0))) (ht : t = 101 ∨ t = 106) : Keeps w (w.setCell ⟨b, i, none⟩ u) := by
  intro g cs' t' h1 h2 h3
  rw [Below.heap_setCell _ _ _ _ ?_]
  · exact h3
  · intro e
    have e : g = b := e
    subst e
    rw [hb] at h3
    injection h3 with h3
    injection h3 with _ e
    subst e
    rcases ht with h | h
    · exact h1 h
    · exact h2 h
theorem own_keeps {W W' : World} {base : Nat} {e : TypeId} {size n : Nat} {v : Value} {xs : List Value} (h : W.ownsRow base e size v n xs) (hk : Keeps W W') (h1 : e ≠ 101) (h2 : e ≠ 106) : W'.ownsRow base e size v n xs := by
  refine ⟨h.1, ?_⟩
  rcases h.2 with q1 | ⟨g, cap, cur, q1, q2, q3, q4⟩
  · exact .inl q1
  · exact .inr ⟨g, cap, cur, q1, q2, hk g cur e h1 h2 q3, q4⟩
/-- Behind add. -/
def AddPost (B : Nat) (w : World) (p : Nat) (N : List Nd) (m : Nat) (s : ByteArray) (e : Ending) (w' : World) : Prop :=
  e = .returned (.int .i64 (N.length : Int)) ∧ Below B w w' ∧ Keeps w w' ∧ ∃ mp, TrieAt B w' p (N ++ [newNd s mp]) m
section
variable {B p m : Nat} {N : List Nd} {w : World}
/-- What add has made. -/
theorem added (h : TrieAt B w p N m) (hB : B ≤ w.heap.size) (s : ByteArray) {v v' : Value} {w3 : World} (hv : w.heap[p]? = some (.cells #[v] 101 (0, 0))) (hr : w.ownsRow B 106 3 v N.length (N.flatMap cells3))
    (hown : w3.ownsRow B 106 3 v' (N.length + 1) (N.flatMap cells3 ++ [.string s, .int .i64 (-1), .map (some w.heap.size)]))
    (hg : ((w.alloc (.map #[] 0)).alloc (.cells #[.string s, .int .i64 (-1), .map (some w.heap.size)] 106)).grownBy w3 v.ownBlock) :
    Below B w (w3.setCell ⟨p, 0, none⟩ v') ∧ TrieAt B (w3.setCell ⟨p, 0, none⟩ v') p (N ++ [newNd s w.heap.size]) m ∧ w3.heap[p]? = some (.cells #[v] 101 (0, 0)) ∧ Keeps w (w3.setCell ⟨p, 0, none⟩ v') := by
  have b1 : Below w.heap.size w ((w.alloc (.map #[] 0)).alloc (.cells #[.string s, .int .i64 (-1), .map (some w.heap.size)] 106)) := balloc (balloc (Below.refl _ _) _) _
  have bw : Below B w w3 := (b1.mono hB).grown hg (by have := b1.size; omega) (own_ge hr)
  have hp3 : w3.heap[p]? = some (.cells #[v] 101 (0, 0)) := by
    have h2 := heap_below b1 hv
    exact (hg.block p (heap_lt h2) (fun e => own_ne hr hv (by decide) e.symm)).trans h2
  have blt : ∀ b, v.ownBlock = some b → b < w.heap.size := own_lt hr
  refine ⟨bw.setCell h.ge _, ⟨h.ge, ⟨v', heap_set hp3 _, ?_⟩, fun nd hn => ?_, ?_⟩, hp3, ((Keeps.of_below b1).trans (Keeps.of_row (own_below hr b1) hg)).trans (Keeps.of_set _ hp3 (.inl rfl))⟩
  · have e1 : (N ++ [newNd s w.heap.size]).length = N.length + 1 := by simp
    have e2 : (N ++ [newNd s w.heap.size]).flatMap cells3 = N.flatMap cells3 ++ [.string s, .int .i64 (-1), .map (some w.heap.size)] := by simp [newNd, cells3]
    rw [e1, e2]
    exact own_set hown hp3 (by decide) _
  · rcases List.mem_append.1 hn with hn | hn
    · obtain ⟨h1, h2⟩ := h.maps nd hn
      refine ⟨h1, ?_⟩
      have h3 : MapAt w3 m nd.mp nd.p.sons := by
        refine (h2.below b1).kept hg ?_
        intro e
        rcases hr.2 with ⟨rfl, _⟩ | ⟨g, cap, cur, rfl, _, hh, _⟩
        · cases e
        · simp [Value.ownBlock] at e
          exact h2.ne hh e
      exact h3.setCell (h3.ne hp3) _
    · rw [List.mem_singleton] at hn
      subst hn
      refine ⟨hB, ?_⟩
      have h2 : MapAt (w.alloc (.map #[] 0)) 0 w.heap.size (fun _ => none) := MapAt.made w
      have h3 : MapAt w3 m w.heap.size (fun _ => none) := by
        refine ((h2.below (balloc (Below.refl _ _) _)).kept hg ?_).mono (Nat.zero_le _)
        intro e
        have := blt _ e.symm
        omega
      exact h3.setCell (h3.ne hp3) _
  · rw [List.map_append, List.nodup_append]
    refine ⟨h.apart, by simp, ?_⟩
    intro a ha b hb
    simp [newNd] at hb
    obtain ⟨nd, hnd, rfl⟩ := List.mem_map.1 ha
    have := (h.maps nd hnd).2.lt
    omega
set_option maxHeartbeats 1000000 in
theorem add_any (h : TrieAt B w p N m) (hB : B ≤ w.heap.size) (hbig : N.length ≤ 100000) (s : ByteArray) :
    Calls Try.prog 74 #[.pointer (some ⟨p, 0, none⟩), .string s] w fun e w' => AddPost B w p N m s e w' := by
  obtain ⟨i0, hi, hz0, hz1, hz2⟩ := info_parts info63
  obtain ⟨v, hv, hr⟩ := h.row
  obtain ⟨V, cp, rfl, _⟩ := own_form hr
  have hcw : w.cell? ⟨p, 0, none⟩ = some (.slice V N.length cp) := cell_of hv rfl
  have hlast := fun v' w3 => added (v' := v') (w3 := w3) h hB s hv hr
  have hb1 : Below w.heap.size w ((w.alloc (.map #[] 0)).alloc (.cells #[.string s, .int .i64 (-1), .map (some w.heap.size)] 106)) := balloc (balloc (Below.refl _ _) _) _
  have hr1 := own_below hr hb1
  have hmm := @run_makeMap Try.prog
  clear h
  go_enter Try.func74, Try.ntmps74
  go_wp2_with (first | (at_builtin; refine wpList_append_own _ rfl (.tmp 9) (.tmp 13) 99 rfl B 106 i0 _ 3 32 Try.underlying99 hi hz0 hz1 hz2 rfl (by decide) _ _ _ rfl hr1 ⟨w.heap.size + 1, 0, none⟩ 1 1 [.string s, .int .i64 (-1), .map (some w.heap.size)] rfl rfl ?c1 ?c2 ?c3 ?c4 ?c5 ?_))
  case c1 =>
    intro j u hj
    match j, hj with
    | 0, hj => simp at hj; subst hj; simp [Addr.add]
    | 1, hj => simp at hj; subst hj; simp [Addr.add]
    | 2, hj => simp at hj; subst hj; simp [Addr.add]
    | j + 3, hj => simp at hj
  case c2 =>
    intro u hu
    simp at hu
    rcases hu with rfl | rfl | rfl <;> rfl
  case c3 => unfold maxLen; omega
  case c4 => omega
  case c5 => simp; omega
  · intro v' w3 hown' hgrow _
    obtain ⟨q1, q2, q3, q4⟩ := hlast v' w3 hown' hgrow
    obtain ⟨V', cp', rfl, _⟩ := own_form hown'
    have c3 : w3.cell? ⟨p, 0, none⟩ = some (.slice V N.length cp) := cell_of q3 rfl
    have f3 : w3.frozen? ⟨p, 0, none⟩ = false := frozen_of q3
    have hw1 : IntKind.i64.wrap ((N.length : Int) + 1 - 1) = (N.length : Int) := by rw [IntKind.wrap_i64]; omega
    clear hlast hown' hgrow hr1 hr hv hcw hb1 q3 hmm hi
    go_wp2_with fail
    refine bodyPost_ret (v := .int .i64 (N.length : Int)) ?_ rfl ⟨rfl, q1, q4, _, q2⟩
    simp [results, Try.results74, go_sem]
end
end Go.Proofs.Ytdeeeechdlcdbaa.TrB
