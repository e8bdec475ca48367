/- A law for a region that draws its order and only reads, guards and all: the values are told ahead, each operation is proved by itself, over a frame that is a variable. -/
import Derived.Test.YtdeeeechdlcdbaaStep
import Derived.Deep.QuietTactic
import Derived.IntWalk
namespace Go.Proofs.Ytdeeeechdlcdbaa.RegQ
open Go Go.RowKit Go.Proofs.Ytdeeeechdlcdbaa.Reg Go.Proofs.Ytdeeeechdlcdbaa.Step
/-- No slot is written twice. -/
def once : List (Option Nat) → Bool
  | [] => true
  | none :: l => once l
  | some s :: l => !l.contains (some s) && once l
theorem once_ne : ∀ {S : List (Option Nat)}, once S = true → ∀ {i j s : Nat}, i < j → S.getD i none = some s → S.getD j none ≠ some s
  | [], _, i, j, s, _, h => by simp at h
  | none :: l, ho, i, j, s, hij, h => by
    cases i with
    | zero => simp at h
    | succ i =>
      cases j with
      | zero => omega
      | succ j => simpa using once_ne (S := l) ho (i := i) (j := j) (by omega) (by simpa using h)
  | some t :: l, ho, i, j, s, hij, h => by
    unfold once at ho
    rw [Bool.and_eq_true] at ho
    cases j with
    | zero => omega
    | succ j =>
      cases i with
      | zero =>
        have hts : t = s := by simpa using h
        subst hts
        intro h2
        have hm : some t ∈ l := by
          rw [List.getD_cons_succ, List.getD_eq_getElem?_getD] at h2
          cases hl : l[j]? with
          | none => rw [hl] at h2; cases h2
          | some x =>
            rw [hl] at h2
            have hx : x = some t := h2
            subst hx
            exact List.mem_of_getElem? hl
        have := ho.1
        simp [hm] at this
      | succ i => simpa using once_ne (S := l) ho.2 (i := i) (j := j) (by omega) (by simpa using h)
theorem getD_mem {S : List (Option Nat)} {j s : Nat} (h : S.getD j none = some s) : some s ∈ S := by
  rw [List.getD_eq_getElem?_getD] at h
  cases hl : S[j]? with
  | none => rw [hl] at h; cases h
  | some x =>
    rw [hl] at h
    have hx : x = some s := h
    subst hx
    exact List.mem_of_getElem? hl
theorem put_size (a : Act) (x : Option Nat) (v : Value) : (a.put x v).tmps.size = a.tmps.size := by cases x <;> simp [Act.put]
theorem putS_size {S : List (Option Nat)} {vals : Nat → Value} : ∀ (l : List Nat) (a : Act), (putS S a l vals).tmps.size = a.tmps.size
  | [], _ => rfl
  | i :: l, a => by
    show (putS S (a.put (S.getD i none) (vals i)) l vals).tmps.size = _
    rw [putS_size l, put_size]
theorem putS_out {S : List (Option Nat)} {vals : Nat → Value} {s : Nat} (h : some s ∉ S) : ∀ (l : List Nat) (a : Act), (putS S a l vals).tmps[s]? = a.tmps[s]?
  | [], _ => rfl
  | i :: l, a => by
    show (putS S (a.put (S.getD i none) (vals i)) l vals).tmps[s]? = _
    rw [putS_out h l, Reg.put_get, if_neg (fun e => h (getD_mem e))]
theorem once_one {S : List (Option Nat)} (ho : once S = true) {i j s : Nat} (hi : S.getD i none = some s) (hj : S.getD j none = some s) : i = j := by
  rcases Nat.lt_trichotomy i j with h | h | h
  · exact absurd hj (once_ne ho h hi)
  · exact h
  · exact absurd hi (once_ne ho h hj)
theorem putS_stays {S : List (Option Nat)} {vals : Nat → Value} {s j : Nat} (ho : once S = true) (hj : S.getD j none = some s) : ∀ (l : List Nat) (a : Act), a.tmps[s]? = some (vals j) → (putS S a l vals).tmps[s]? = some (vals j)
  | [], _, h => h
  | i :: l, a, h => by
    show (putS S (a.put (S.getD i none) (vals i)) l vals).tmps[s]? = _
    refine putS_stays ho hj l _ ?_
    rw [Reg.put_get]
    by_cases e : S.getD i none = some s
    · rw [if_pos e, h, once_one ho e hj]; rfl
    · rw [if_neg e]; exact h
theorem putS_in {S : List (Option Nat)} {vals : Nat → Value} {s j : Nat} (ho : once S = true) (hj : S.getD j none = some s) : ∀ (l : List Nat) (a : Act), j ∈ l → s < a.tmps.size → (putS S a l vals).tmps[s]? = some (vals j)
  | i :: l, a, hm, hs => by
    show (putS S (a.put (S.getD i none) (vals i)) l vals).tmps[s]? = _
    by_cases e : i = j
    · subst e
      refine putS_stays ho hj l _ ?_
      rw [Reg.put_get, if_pos hj, Array.getElem?_eq_getElem hs]; rfl
    · rcases List.mem_cons.1 hm with h | h
      · exact absurd h.symm e
      · exact putS_in ho hj l _ h (by rw [put_size]; exact hs)
/-- Is an operation wanted, by the values? -/
def wantV (vals : Nat → Value) (o : Oper) : Bool := match o.guard with
  | none => true
  | some (g, b) => match vals g with
    | .bool c => c == b
    | _ => false
/-- The class of worlds: some draws on. -/
def Dr (w0 w : World) : Prop := ∃ n, w = w0.drewN n
/-- A frame in which the operations D have yielded. -/
structure Fr (S : List (Option Nat)) (a0 : Act) (vl : Nat → Value) (D : List Nat) (A : Act) : Prop where
  inn : ∀ j s, j ∈ D → S.getD j none = some s → s < a0.tmps.size → A.tmps[s]? = some (vl j)
  out : ∀ s, some s ∉ S → A.tmps[s]? = a0.tmps[s]?
/-- One operation: wanted, and of this value; or passed over. -/
def StepV (S : List (Option Nat)) (a0 : Act) (P : Program) (w0 : World) (vl : Nat → Value) (i : Nat) (D : List Nat) (o : Oper) : Prop :=
  (wantV vl o = true ∧ ∀ A, Fr S a0 vl D A → ∀ w, Dr w0 w → o.quietAt P A (Dr w0) w (vl i)) ∨ (wantV vl o = false ∧ vl i = undef)
def AllV (S : List (Option Nat)) (a0 : Act) (P : Program) (w0 : World) (vl : Nat → Value) : Nat → List Oper → List (List Nat) → Prop
  | _, [], _ => True
  | i, o :: os, D => StepV S a0 P w0 vl i (D.headD []) o ∧ AllV S a0 P w0 vl (i + 1) os D.tail
/-- Each guard is an operation that is waited for, whose slot lies in the frame of this size. -/
def guardsD (S : List (Option Nat)) (m : Nat) : List Oper → List (List Nat) → Bool
  | [], _ => true
  | o :: os, D => (match o.guard with
    | none => true
    | some (g, _) => match S.getD g none with
      | some s => decide (s < m) && (D.headD []).contains g
      | none => false) && guardsD S m os D.tail
theorem wp_of_quiet {P : Program} {o : Oper} {a : Act} {w0 w : World} {v : Value} {K : Act → World → Prop} {Q : Exit → Act → World → Prop} (h : o.quietAt P a (Dr w0) w v) (hw : Dr w0 w) (hk : ∀ w', Dr w0 w' → K (a.put o.dst v) w') : Oper.wp P o a w K Q := by
  unfold Oper.quietAt at h
  unfold Oper.wp
  cases hr : (execOp a.eval o).run P w with
  | ok x w1 =>
    rw [hr] at h
    cases x with
    | value u =>
      obtain ⟨rfl, rfl⟩ := h
      exact hk _ hw
    | skip =>
      obtain ⟨rfl, rfl⟩ := h
      exact hk _ hw
    | enter f args =>
      obtain ⟨rfl, hc⟩ := h
      exact hc.mono fun e w' ⟨he, hw'⟩ => by subst he; exact hk _ hw'
    | _ => exact False.elim h
  | _ => rw [hr] at h; exact False.elim h
theorem steps {S : List (Option Nat)} {a0 : Act} {P : Program} {w0 : World} {vl : Nat → Value} {m : Nat} (hz : a0.tmps.size = m) (ho : once S = true) : ∀ (os : List Oper) (i : Nat) (D : List (List Nat)), guardsD S m os D = true → AllV S a0 P w0 vl i os D →
    RegU.AllS S a0 P (Dr w0) (fun _ _ => True) (fun _ W W' => Dr w0 W → Dr w0 W') (fun i => i) (fun i _ v _ => v = vl i) i os D
  | [], _, _, _, _ => trivial
  | o :: os, i, D, hg, h => by
    unfold guardsD at hg
    rw [Bool.and_eq_true] at hg
    refine ⟨?_, steps hz ho os (i + 1) D.tail hg.2 h.2⟩
    intro vals w K hG _ hV hK
    simp only at hK
    have hF : Fr S a0 vl (D.headD []) (putS S a0 (D.headD []) vals) := by
      refine ⟨fun j s hj hs hl => ?_, fun s hs => putS_out hs _ _⟩
      rw [putS_in ho hs _ _ hj hl]
      exact congrArg some (hV j hj)
    have hw : Region.wanted o (yieldS S (putS S a0 (D.headD []) vals).tmps) = wantV vl o := by
      have hg1 := hg.1
      unfold Region.wanted wantV
      cases hgd : o.guard with
      | none => rfl
      | some gb =>
        obtain ⟨g, b⟩ := gb
        simp only [hgd] at hg1
        cases hs : S.getD g none with
        | none => rw [hs] at hg1; cases hg1
        | some s =>
          rw [hs] at hg1
          simp only [Bool.and_eq_true, decide_eq_true_eq, List.contains_iff_mem] at hg1
          have h4 := hF.inn g s hg1.2 hs (by rw [hz]; exact hg1.1)
          simp only [yieldS, hs, Option.bind_some, h4]
          cases vl g <;> simp
    rw [hw]
    rcases h.1 with ⟨h1, h2⟩ | ⟨h1, h2⟩
    · rw [if_pos h1]
      exact wp_of_quiet (h2 _ hF w hG) hG fun w' hw' => hK _ w' (fun _ => hw') rfl
    · rw [if_neg (by rw [h1]; exact Bool.false_ne_true)]
      exact hK _ w (fun hd => hd) h2.symm
theorem putS_congr {S : List (Option Nat)} {v u : Nat → Value} : ∀ (l : List Nat) (a : Act), (∀ i ∈ l, v i = u i) → putS S a l v = putS S a l u
  | [], _, _ => rfl
  | i :: l, a, h => by
    show putS S (a.put (S.getD i none) (v i)) l v = putS S (a.put (S.getD i none) (u i)) l u
    rw [h i (List.mem_cons_self ..)]
    exact putS_congr l _ fun j hj => h j (List.mem_cons_of_mem _ hj)
/-- The law. -/
theorem wp_region_vals {id : Nat} {P : Program} {Q : Exit → Act → World → Prop} {a0 : Act} {w : World} {ops : List Oper} (S : List (Option Nat)) (D : List (List Nat)) (vl : Nat → Value) (l : List Nat) (m : Nat) (hlen : List.range S.length = l) (hz : a0.tmps.size = m) (hm : P.follows .mixedOrders = true) (hl : lists ops.toArray S D = true) (hf : fits ops.toArray a0 = true) (ho : once S = true) (hg : guardsD S m ops D = true)
    (hs : a0.tmps.size = m → once S = true → AllV S a0 P w vl 0 ops D) (hend : ∀ n, Q .normal (putS S a0 l vl) (w.drewN n)) : (Code.region id ops.toArray true).wp P Q a0 w := by
  refine RegU.wp_region_lists (Dr w) (fun _ _ => True) (fun _ W W' => Dr w W → Dr w W') (fun i => i) (fun i _ v _ => v = vl i) S D hm hl hf (fun i => .inl rfl) ⟨1, rfl⟩ (fun _ => trivial) (fun _ _ _ h k => k h) (fun _ _ _ _ _ _ _ _ => trivial) (fun _ _ _ _ _ _ _ _ h _ => h) ?_ ?_
  · simpa using steps hz ho ops 0 D hg (hs hz ho)
  · intro vals w' hG hV
    obtain ⟨n, rfl⟩ := hG
    rw [hlen, putS_congr l a0 fun i hi => hV i (by rw [← hlen] at hi; exact List.mem_range.1 hi)]
    exact hend n
theorem of_same {P : Program} {f : FuncId} {args : Array Value} {w0 : World} {n : Nat} {v : Value} (h : Calls P f args (w0.drewN n) fun e w' => e = .returned v ∧ w' = w0.drewN n) : Calls P f args (w0.drewN n) fun e w'' => e = .returned v ∧ Dr w0 w'' :=
  h.mono fun _ _ ⟨he, hw⟩ => ⟨he, n, hw⟩
section
variable {S : List (Option Nat)} {a0 : Act} {P : Program} {w0 : World} {vl : Nat → Value} {i : Nat} {D : List Nat} {o : Oper}
theorem step_in (hw : wantV vl o = true) (h : ∀ A, Fr S a0 vl D A → ∀ w, Dr w0 w → o.quietAt P A (Dr w0) w (vl i)) : StepV S a0 P w0 vl i D o := .inl ⟨hw, h⟩
theorem step_no (hw : wantV vl o = false) (h : vl i = undef) : StepV S a0 P w0 vl i D o := .inr ⟨hw, h⟩
/-- A slot that the region does not write. -/
theorem outG {A : Act} {s : Nat} {v : Value} (hA : Fr S a0 vl D A) (h : S.contains (some s) = false) (hv : a0.tmps[s]?.getD undef = v) : A.tmps[s]?.getD undef = v := by
  rw [hA.out s (by simpa using h)]
  exact hv
theorem inG {A : Act} {s j m : Nat} {v : Value} (hA : Fr S a0 vl D A) (hz : a0.tmps.size = m) (hj : S.getD j none = some s) (hji : D.contains j = true) (hs : s < m) (hv : vl j = v) : A.tmps[s]?.getD undef = v := by
  rw [hA.inn j s (List.contains_iff_mem.1 hji) hj (by rw [hz]; exact hs)]
  exact hv
end
end Go.Proofs.Ytdeeeechdlcdbaa.RegQ
