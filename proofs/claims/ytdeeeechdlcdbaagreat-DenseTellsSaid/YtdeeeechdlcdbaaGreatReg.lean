/- A law for a region that draws its order: if each operation, in whatever world the others may have left, yields a value of which V tells, and leaves a world that R reaches, then behind the region all values are told of, whichever order was drawn. One step an operation, not one way an order. -/
import Derived.WalkKit
import Derived.Below
namespace Go.Proofs.YtdeeeechdlcdbaaGreat.Reg
open Go Go.RowKit

section
variable (ops : Array Oper) (a0 : Act)

/-- The operation that writes a slot. -/
def slotOf (s : Nat) : Option Nat := (List.range ops.size).find? fun i => (ops[i]?).bind (·.dst) == some s
/-- The frame: the slots of the operations that are done hold their values. -/
def fill (listed : Array Bool) (vals : Nat → Value) : Act :=
  { a0 with tmps := a0.tmps.mapIdx fun s old => match slotOf ops s with | some i => if listed.getD i false = true then vals i else old | none => old }
/-- What an operation waits for. -/
def deps (i : Nat) : List Nat := match ops[i]? with | some o => (o.after.toList.filter (Region.binds .any)).map (·.on) | none => []
/-- The frame with some operations' values alone. -/
def putAll (l : List Nat) (vals : Nat → Value) : Act := l.foldl (fun a j => a.put ((ops[j]?).bind (·.dst)) (vals j)) a0
/-- Is the region of the form that the law takes? -/
def fits : Bool := (List.range ops.size).all fun i => match ops[i]? with
  | some o => (match o.dst with | some d => slotOf ops d == some i && decide (d < a0.tmps.size) | none => true) &&
      (match o.op with | .select _ _ => false | _ => true) &&
      ((o.looksAt ops).all fun s => match slotOf ops s with | some j => (deps ops i).contains j | none => true) && (deps ops i).all (fun j => decide (j < i))
  | none => true

/-- One operation's step: in whatever world it yields a value, and goes on. -/
def Step (P : Program) (R : World → World → Prop) (V : Nat → Value → World → Prop) (w0 : World) (i : Nat) (o : Oper) : Prop :=
  ∀ (vals : Nat → Value) (w : World) (K : Act → World → Prop), R w0 w → (∀ j ∈ deps ops i, V j (vals j) w) →
    (∀ v w', R w w' → V i v w' → K ((putAll ops a0 (deps ops i) vals).put o.dst v) w') →
    if Region.wanted o (yielded ops (putAll ops a0 (deps ops i) vals).tmps) = true then Oper.wp P o (putAll ops a0 (deps ops i) vals) w K (fun _ _ _ => False) else K ((putAll ops a0 (deps ops i) vals).put o.dst undef) w

variable {ops a0}
theorem slotOf_dst {s j : Nat} (h : slotOf ops s = some j) : (ops[j]?).bind (·.dst) = some s := by
  have := List.find?_some h
  simpa using this
theorem slotOf_lt {s j : Nat} (h : slotOf ops s = some j) : j < ops.size := by
  have := List.mem_of_find?_eq_some h
  simpa using this
theorem fits_at (hf : fits ops a0 = true) {i : Nat} {o : Oper} (ho : ops[i]? = some o) :
    (∀ d, o.dst = some d → slotOf ops d = some i ∧ d < a0.tmps.size) ∧ (∀ cs b, o.op ≠ .select cs b) ∧ (∀ s ∈ o.looksAt ops, ∀ j, slotOf ops s = some j → j ∈ deps ops i) ∧ (∀ j ∈ deps ops i, j < i) := by
  have hlt : i < ops.size := (Array.getElem?_eq_some_iff.1 ho).1
  have h := List.all_eq_true.1 hf i (by simpa using hlt)
  simp only [ho, Bool.and_eq_true, List.all_eq_true] at h
  obtain ⟨⟨⟨h1, h2⟩, h3⟩, h4⟩ := h
  refine ⟨fun d hd => ?_, fun cs b hb => ?_, fun s hs j hj => ?_, fun j hj => by simpa using h4 j hj⟩
  · simp only [hd, Bool.and_eq_true, beq_iff_eq, decide_eq_true_eq] at h1
    exact h1
  · rw [hb] at h2; cases h2
  · have := h3 s hs
    simp only [hj, List.contains_iff_mem] at this
    exact this
theorem dst_slot (hf : fits ops a0 = true) {j s : Nat} (h : (ops[j]?).bind (·.dst) = some s) : slotOf ops s = some j := by
  cases ho : ops[j]? with
  | none => rw [ho] at h; cases h
  | some o => rw [ho] at h; exact ((fits_at hf ho).1 s h).1

theorem put_get (a : Act) (x : Option Nat) (v : Value) (s : Nat) : (a.put x v).tmps[s]? = if x = some s then (a.tmps[s]?).map (fun _ => v) else a.tmps[s]? := by
  cases x with
  | none => simp [Act.put]
  | some d =>
    simp only [Act.put, Option.some.injEq]
    by_cases h : d = s
    · subst h
      rw [if_pos rfl, Array.getElem?_setIfInBounds]
      by_cases hlt : d < a.tmps.size
      · simp [hlt]
      · simp [hlt]
    · rw [if_neg h, Array.getElem?_setIfInBounds_ne h]

theorem putAll_get (hf : fits ops a0 = true) (vals : Nat → Value) (s : Nat) : ∀ (l : List Nat) (a : Act),
    (l.foldl (fun a j => a.put ((ops[j]?).bind (·.dst)) (vals j)) a).tmps[s]? =
      match slotOf ops s with | some i => if i ∈ l then (a.tmps[s]?).map (fun _ => vals i) else a.tmps[s]? | none => a.tmps[s]? := by
  intro l
  induction l with
  | nil => intro a; cases slotOf ops s <;> simp
  | cons j l ih =>
    intro a
    rw [List.foldl_cons, ih]
    cases hs : slotOf ops s with
    | none =>
      simp only []
      rw [put_get, if_neg]
      intro e
      rw [dst_slot hf e] at hs
      cases hs
    | some i =>
      simp only []
      rw [put_get]
      by_cases hji : (ops[j]?).bind (·.dst) = some s
      · have hij : i = j := by
          have := dst_slot hf hji
          rw [hs] at this
          exact Option.some.inj this
        subst hij
        rw [if_pos hji, if_pos (List.mem_cons_self ..)]
        split <;> cases a.tmps[s]? <;> simp
      · have hij : i ≠ j := by
          intro e
          subst e
          exact hji (slotOf_dst hs)
        rw [if_neg hji]
        by_cases hm : i ∈ l
        · rw [if_pos hm, if_pos (List.mem_cons_of_mem _ hm)]
        · rw [if_neg hm, if_neg]
          intro e
          rcases List.mem_cons.1 e with e | e
          · exact hij e
          · exact hm e
theorem putAll_defers (vals : Nat → Value) : ∀ (l : List Nat) (a : Act), (l.foldl (fun a j => a.put ((ops[j]?).bind (·.dst)) (vals j)) a).defers = a.defers := by
  intro l
  induction l with
  | nil => intro a; rfl
  | cons j l ih =>
    intro a
    rw [List.foldl_cons, ih]
    cases (ops[j]?).bind (·.dst) <;> rfl
theorem fill_get (listed : Array Bool) (vals : Nat → Value) (s : Nat) :
    (fill ops a0 listed vals).tmps[s]? = match slotOf ops s with | some i => if listed.getD i false = true then (a0.tmps[s]?).map (fun _ => vals i) else a0.tmps[s]? | none => a0.tmps[s]? := by
  unfold fill
  simp only [Array.getElem?_mapIdx]
  cases h : a0.tmps[s]? with
  | none => cases slotOf ops s <;> simp
  | some v =>
    cases slotOf ops s with
    | none => simp
    | some i => simp only [Option.map_some]; split <;> rfl

theorem act_ext {a b : Act} (h : ∀ s : Nat, a.tmps[s]? = b.tmps[s]?) (hd : a.defers = b.defers) : a = b := by
  obtain ⟨t, d⟩ := a
  obtain ⟨t', d'⟩ := b
  simp only at h hd
  subst hd
  congr 1
  exact Array.ext_getElem? h

theorem fill_all (hf : fits ops a0 = true) (listed : Array Bool) (vals : Nat → Value) (h : ∀ i, i < ops.size → listed.getD i false = true) :
    fill ops a0 listed vals = putAll ops a0 (List.range ops.size) vals := by
  refine act_ext (fun s => ?_) ?_
  · rw [fill_get]
    unfold putAll
    rw [putAll_get hf]
    cases hs : slotOf ops s with
    | none => rfl
    | some i => simp only [h i (slotOf_lt hs), if_true, List.mem_range, slotOf_lt hs]
  · unfold putAll; rw [putAll_defers]; rfl

theorem fill_put (hf : fits ops a0 = true) {listed : Array Bool} {vals : Nat → Value} {i : Nat} {o : Oper} (ho : ops[i]? = some o) (hl : i < listed.size) (v : Value) :
    (fill ops a0 listed vals).put o.dst v = fill ops a0 (listed.setIfInBounds i true) (fun j => if j = i then v else vals j) := by
  refine act_ext (fun s => ?_) ?_
  · rw [put_get, fill_get, fill_get]
    by_cases hd : o.dst = some s
    · have hsl := ((fits_at hf ho).1 s hd).1
      simp only [if_pos hd, hsl, if_true]
      have hg : (listed.setIfInBounds i true).getD i false = true := by simp [hl]
      rw [if_pos hg]
      by_cases hq : listed.getD i false = true
      · rw [if_pos hq]; cases a0.tmps[s]? <;> rfl
      · rw [if_neg hq]
    · rw [if_neg hd]
      cases hs : slotOf ops s with
      | none => rfl
      | some j =>
        have hji : j ≠ i := by
          intro e
          subst e
          have := slotOf_dst hs
          rw [ho] at this
          exact hd this
        simp only [if_neg hji]
        rw [getD_set_ne false (Ne.symm hji)]
  · cases o.dst <;> rfl

theorem eval_same (hf : fits ops a0 = true) {listed : Array Bool} {vals : Nat → Value} {i : Nat} {o : Oper} (ho : ops[i]? = some o) (hall : ∀ j ∈ deps ops i, listed.getD j false = true) :
    ∀ s ∈ o.looksAt ops, (fill ops a0 listed vals).tmps[s]? = (putAll ops a0 (deps ops i) vals).tmps[s]? := by
  intro s hs
  rw [fill_get]
  unfold putAll
  rw [putAll_get hf]
  cases hsl : slotOf ops s with
  | none => rfl
  | some j =>
    have hj := (fits_at hf ho).2.2.1 s hs j hsl
    simp only [hall j hj, if_true, hj]

theorem exec_same (hf : fits ops a0 = true) {listed : Array Bool} {vals : Nat → Value} {i : Nat} {o : Oper} (ho : ops[i]? = some o) (hall : ∀ j ∈ deps ops i, listed.getD j false = true) :
    execOp (fill ops a0 listed vals).eval o = execOp (putAll ops a0 (deps ops i) vals).eval o ∧
    Region.wanted o (yielded ops (fill ops a0 listed vals).tmps) = Region.wanted o (yielded ops (putAll ops a0 (deps ops i) vals).tmps) := by
  have he := eval_same hf ho hall (vals := vals)
  refine ⟨execOp_congr o (fits_at hf ho).2.1 fun x hx => ?_, ?_⟩
  · cases x with
    | tmp t =>
      have ht : t ∈ o.looksAt ops := List.mem_append_left _ (List.mem_filterMap.2 ⟨.tmp t, by simpa using hx, rfl⟩)
      have := he t ht
      simp only [Act.eval, Array.getD_eq_getD_getElem?, this]
    | const v => rfl
    | global g => rfl
    | func f => rfl
  · unfold Region.wanted
    cases hg : o.guard with
    | none => rfl
    | some gw =>
      obtain ⟨g, want⟩ := gw
      have hy : yielded ops (fill ops a0 listed vals).tmps g = yielded ops (putAll ops a0 (deps ops i) vals).tmps g := by
        unfold yielded
        cases ht : (ops[g]?).bind (·.dst) with
        | none => rfl
        | some t =>
          have hm : t ∈ o.looksAt ops := by simp [Oper.looksAt, hg, ht]
          simp only [Option.bind_some, he t hm]
      simp only [hy]

/-- What holds when some operations are done. -/
def Inv (ops : Array Oper) (a0 : Act) (R : World → World → Prop) (V : Nat → Value → World → Prop) (w0 : World) (listed : Array Bool) (a : Act) (w : World) : Prop :=
  listed.size = ops.size ∧ R w0 w ∧ ∃ vals, a = fill ops a0 listed vals ∧ ∀ i, listed.getD i false = true → V i (vals i) w

variable {P : Program} {R : World → World → Prop} {V : Nat → Value → World → Prop} {w0 : World} {Q : Exit → Act → World → Prop}

theorem wp_transfer {o : Oper} {a a1 : Act} {w : World} (hsz : ∀ t, o.dst = some t → t < a1.tmps.size) (he : execOp a.eval o = execOp a1.eval o) {Post : Value → World → Prop} {K : Act → World → Prop}
    (h : ∀ K1 : Act → World → Prop, (∀ v w', Post v w' → K1 (a1.put o.dst v) w') → Oper.wp P o a1 w K1 (fun _ _ _ => False))
    (hK : ∀ v w', Post v w' → K (a.put o.dst v) w') : Oper.wp P o a w K Q := by
  have key : ∀ (next1 : Act → World → Prop), (∀ v w', next1 (a1.put o.dst v) w' → ∃ v', a.put o.dst v = a.put o.dst v' ∧ Post v' w') → (∀ v w', Post v w' → next1 (a1.put o.dst v) w') → (∀ d v w', next1 (({ a1 with defers := d :: a1.defers } : Act).put o.dst v) w' → False) → Oper.wp P o a w K Q := by
    intro next1 hn hp hdf
    have hK' : ∀ v w', next1 (a1.put o.dst v) w' → K (a.put o.dst v) w' := by
      intro v w' hx
      obtain ⟨v', e, hp'⟩ := hn v w' hx
      rw [e]
      exact hK _ _ hp'
    have h1 := h next1 hp
    unfold Oper.wp at h1 ⊢
    rw [he]
    generalize (execOp a1.eval o).run P w = r at h1 ⊢
    cases r with
    | ok n w' =>
      cases n <;> simp only [Oper.upon] at h1 ⊢
      case value u => exact hK' _ _ h1
      case skip => exact hK' _ _ h1
      case defer d => exact (hdf _ _ _ h1).elim
      case enter f args =>
        refine Calls.mono h1 fun e w'' he => ?_
        cases e with
        | returned u => exact hK' _ _ he
        | panicked c => exact he.elim
        | outgrown => obtain ⟨_, _, hx⟩ := he; exact hx.elim
      case row row args => exact Rows.mono h1 fun u w'' he => hK' _ _ he
    | halt x w' =>
      cases x <;> simp only [Oper.upon] at h1
  have hlen : ∀ (d : Deferred) (l : List Deferred), d :: l ≠ l := fun d l e => by
    have := congrArg List.length e
    simp at this
  cases hd : o.dst with
  | none =>
    rw [hd] at key
    refine key (fun a' w' => a'.defers = a1.defers ∧ ∃ u, Post u w') ?_ ?_ ?_
    · rintro v w' ⟨_, u, hu⟩; exact ⟨u, rfl, hu⟩
    · intro v w' hv; exact ⟨rfl, v, hv⟩
    · rintro d v w' ⟨e, _⟩; exact hlen _ _ e
  | some t =>
    rw [hd] at key
    have ht := hsz t hd
    refine key (fun a' w' => a'.defers = a1.defers ∧ Post (a'.tmps.getD t undef) w') ?_ ?_ ?_
    · rintro v w' ⟨_, hu⟩
      refine ⟨v, rfl, ?_⟩
      simpa [Act.put, ht] using hu
    · intro v w' hv
      refine ⟨rfl, ?_⟩
      simpa [Act.put, ht] using hv
    · rintro d v w' ⟨e, _⟩; exact hlen _ _ e

theorem putAll_size (vals : Nat → Value) : ∀ (l : List Nat) (a : Act), (l.foldl (fun a j => a.put ((ops[j]?).bind (·.dst)) (vals j)) a).tmps.size = a.tmps.size := by
  intro l
  induction l with
  | nil => intro a; rfl
  | cons j l ih =>
    intro a
    rw [List.foldl_cons, ih]
    cases (ops[j]?).bind (·.dst) <;> simp [Act.put]

theorem inv_step (hf : fits ops a0 = true) (htr : ∀ a b c, R a b → R b c → R a c) (hst : ∀ i v w w', V i v w → R w w' → V i v w')
    {i : Nat} {o : Oper} (ho : ops[i]? = some o) (hs : Step ops a0 P R V w0 i o) {listed : Array Bool} {a : Act} {w : World} (hi : Inv ops a0 R V w0 listed a w)
    (hr : i ∈ Region.ready .any ops listed) : wpOp P ops Q i (Inv ops a0 R V w0 (listed.setIfInBounds i true)) a w := by
  obtain ⟨hsz, hR, vals, rfl, hV⟩ := hi
  obtain ⟨hun, o', ho', hall'⟩ := mem_ready.1 hr
  rw [ho] at ho'
  obtain rfl := Option.some.inj ho'
  have hlt : i < listed.size := by rw [hsz]; exact (Array.getElem?_eq_some_iff.1 ho).1
  have hall : ∀ j ∈ deps ops i, listed.getD j false = true := by
    intro j hj
    unfold deps at hj
    simp only [ho, List.mem_map, List.mem_filter] at hj
    obtain ⟨e, ⟨he, hb⟩, rfl⟩ := hj
    exact hall' e (by simpa using he) hb
  obtain ⟨he, hw⟩ := exec_same (vals := vals) hf ho hall
  have hs' := hs vals w
  have next : ∀ v w', R w w' → V i v w' → Inv ops a0 R V w0 (listed.setIfInBounds i true) ((fill ops a0 listed vals).put o.dst v) w' := by
    intro v w' hRw hVi
    refine ⟨by simpa using hsz, htr _ _ _ hR hRw, _, fill_put hf ho hlt v, fun j hj => ?_⟩
    by_cases hji : j = i
    · subst hji; simp only [if_true]; exact hVi
    · simp only [if_neg hji]
      rw [getD_set_ne false (Ne.symm hji)] at hj
      exact hst _ _ _ _ (hV j hj) hRw
  unfold wpOp
  simp only [ho]
  rw [hw]
  by_cases hwt : Region.wanted o (yielded ops (putAll ops a0 (deps ops i) vals).tmps) = true
  · rw [if_pos hwt]
    refine .inl (wp_transfer (a1 := putAll ops a0 (deps ops i) vals) (fun t ht => ?_) he (Post := fun v w' => R w w' ∧ V i v w') ?_ (fun v w' h => next v w' h.1 h.2))
    · unfold putAll; rw [putAll_size]; exact ((fits_at hf ho).1 t ht).2
    · intro K1 hK1
      have := hs' K1 hR (fun j hj => hV j (hall j hj)) (fun v w' h1 h2 => hK1 v w' ⟨h1, h2⟩)
      rw [if_pos hwt] at this
      exact this
  · rw [if_neg hwt]
    have h2 := hs' (fun a' w' => a'.defers = (putAll ops a0 (deps ops i) vals).defers ∧ (match o.dst with | some t => R w w' ∧ V i (a'.tmps.getD t undef) w' | none => ∃ u, R w w' ∧ V i u w')) hR (fun j hj => hV j (hall j hj)) (by
      intro v w' h1 h2
      cases hd : o.dst with
      | none => exact ⟨rfl, v, h1, h2⟩
      | some t =>
        refine ⟨rfl, h1, ?_⟩
        have ht : t < (putAll ops a0 (deps ops i) vals).tmps.size := by unfold putAll; rw [putAll_size]; exact ((fits_at hf ho).1 t hd).2
        simpa [Act.put, ht] using h2)
    rw [if_neg hwt] at h2
    cases hd : o.dst with
    | none =>
      rw [hd] at h2 next
      obtain ⟨_, u, h3, h4⟩ := h2
      exact next u _ h3 h4
    | some t =>
      rw [hd] at h2 next
      have ht : t < (putAll ops a0 (deps ops i) vals).tmps.size := by unfold putAll; rw [putAll_size]; exact ((fits_at hf ho).1 t hd).2
      obtain ⟨_, h3, h4⟩ := h2
      refine next undef _ h3 ?_
      simpa [Act.put, ht] using h4

theorem count_set : ∀ (l : List Bool) (i : Nat) (h : i < l.length), l[i] = false → (l.set i true).countP (· == false) + 1 = l.countP (· == false)
  | [], i, h, _ => by simp at h
  | b :: l, 0, _, hb => by
    simp only [List.getElem_cons_zero] at hb
    subst hb
    simp
  | b :: l, i + 1, h, hb => by
    simp only [List.getElem_cons_succ] at hb
    have := count_set l i (by simpa using h) hb
    simp only [List.set_cons_succ, List.countP_cons]
    omega

theorem inv_any (hf : fits ops a0 = true) (htr : ∀ a b c, R a b → R b c → R a c) (hst : ∀ i v w w', V i v w → R w w' → V i v w')
    (hs : ∀ i o, ops[i]? = some o → Step ops a0 P R V w0 i o)
    (hend : ∀ listed a w, Inv ops a0 R V w0 listed a w → Region.ready .any ops listed = [] → Q .normal a w) :
    ∀ (fuel : Nat) (listed : Array Bool) (a : Act) (w : World), Inv ops a0 R V w0 listed a w → (listed.toList.countP (· == false)) ≤ fuel → wpAny P .any ops Q fuel listed a w := by
  intro fuel
  induction fuel with
  | zero =>
    intro listed a w hi hc
    have hnil : Region.ready .any ops listed = [] := by
      cases hr : Region.ready .any ops listed with
      | nil => rfl
      | cons i rs =>
        have hm : i ∈ Region.ready .any ops listed := by rw [hr]; exact List.mem_cons_self ..
        obtain ⟨hun, o, ho, _⟩ := mem_ready.1 hm
        have hlt : i < listed.size := by rw [hi.1]; exact (Array.getElem?_eq_some_iff.1 ho).1
        have hb : listed[i] = false := by simpa [hlt] using hun
        have : 0 < listed.toList.countP (· == false) := List.countP_pos_iff.2 ⟨listed[i], by simp, by simp [hb]⟩
        omega
    exact ⟨hnil, hend _ _ _ hi hnil⟩
  | succ fuel ih =>
    intro listed a w hi hc
    refine ⟨fun h => hend _ _ _ hi h, fun i hm => ?_⟩
    obtain ⟨hun, o, ho, _⟩ := mem_ready.1 hm
    have hlt : i < listed.size := by rw [hi.1]; exact (Array.getElem?_eq_some_iff.1 ho).1
    have hb : listed[i] = false := by simpa [hlt] using hun
    refine wpOp_mono (fun a' w' h' => ih _ a' w' h' ?_) (inv_step hf htr hst ho (hs i o ho) hi hm)
    have hlt' : i < listed.toList.length := by simpa using hlt
    have hcnt : (listed.toList.set i true).countP (· == false) + 1 = listed.toList.countP (· == false) := by
      exact count_set listed.toList i hlt' (by simpa using hb)
    have e : (listed.setIfInBounds i true).toList = listed.toList.set i true := by simp
    rw [e]
    omega

/-- The slots, as a list; the frame with some values, by that list. -/
def putS (S : List (Option Nat)) (a0 : Act) (l : List Nat) (vals : Nat → Value) : Act := l.foldl (fun a j => a.put (S.getD j none) (vals j)) a0
def yieldS (S : List (Option Nat)) (tmps : Array Value) (j : Nat) : Option Bool := match (S.getD j none).bind (tmps[·]?) with | some (.bool b) => some b | _ => none
/-- One step, by the lists: 'D' what the operation waits for. -/
def StepS (S : List (Option Nat)) (a0 : Act) (P : Program) (R : World → World → Prop) (V : Nat → Value → World → Prop) (w0 : World) (i : Nat) (D : List Nat) (o : Oper) : Prop :=
  ∀ (vals : Nat → Value) (w : World) (K : Act → World → Prop), R w0 w → (∀ j ∈ D, V j (vals j) w) →
    (∀ v w', R w w' → V i v w' → K ((putS S a0 D vals).put o.dst v) w') →
    if Region.wanted o (yieldS S (putS S a0 D vals).tmps) = true then Oper.wp P o (putS S a0 D vals) w K (fun _ _ _ => False) else K ((putS S a0 D vals).put o.dst undef) w
def AllS (S : List (Option Nat)) (a0 : Act) (P : Program) (R : World → World → Prop) (V : Nat → Value → World → Prop) (w0 : World) : Nat → List Oper → List (List Nat) → Prop
  | _, [], _ => True
  | i, o :: os, D => StepS S a0 P R V w0 i (D.headD []) o ∧ AllS S a0 P R V w0 (i + 1) os D.tail
/-- Do the lists say what the region says? -/
def lists (ops : Array Oper) (S : List (Option Nat)) (D : List (List Nat)) : Bool :=
  S == ops.toList.map (·.dst) && D == (List.range ops.size).map (deps ops)

theorem noneListed (n i : Nat) : (Array.replicate n false)[i]?.getD false = false := by
  rw [Array.getElem?_replicate]
  split <;> rfl

/-- The law: a region whose order is drawn, an operation at a time. -/
theorem wp_region_steps {id : Nat} {a : Act} {w : World} (R : World → World → Prop) (V : Nat → Value → World → Prop) (hm : P.follows .mixedOrders = true) (hf : fits ops a = true)
    (hrf : ∀ w, R w w) (htr : ∀ a b c, R a b → R b c → R a c) (hst : ∀ i v w w', V i v w → R w w' → V i v w')
    (hs : ∀ i o, ops[i]? = some o → Step ops a P R V { w with drawn := w.drawn + 1 } i o)
    (hend : ∀ (vals : Nat → Value) (w' : World), R { w with drawn := w.drawn + 1 } w' → (∀ i, i < ops.size → V i (vals i) w') → Q .normal (putAll ops a (List.range ops.size) vals) w') :
    (Code.region id ops true).wp P Q a w := by
  refine wp_region_any hm ?_
  refine inv_any hf htr hst hs ?_ _ _ _ _ ?_ ?_ (w0 := { w with drawn := w.drawn + 1 }) (a0 := a)
  · intro listed a' w' hI hnil
    obtain ⟨hsz, hR, vals, rfl, hV⟩ := hI
    have all : ∀ n i, i < n → i < ops.size → listed.getD i false = true := by
      intro n
      induction n with
      | zero => intro i h; omega
      | succ n ih =>
        intro i h hlt
        cases hb : listed.getD i false with
        | true => rfl
        | false =>
          exfalso
          obtain ⟨o, ho⟩ : ∃ o, ops[i]? = some o := ⟨_, Array.getElem?_eq_getElem hlt⟩
          have hm : i ∈ Region.ready .any ops listed := by
            refine mem_ready.2 ⟨?_, o, ho, fun e he hbd => ?_⟩
            · have : i < listed.size := by rw [hsz]; exact hlt
              simp [this] at hb ⊢
              exact hb
            · have hj : e.on ∈ deps ops i := by
                unfold deps
                simp only [ho, List.mem_map, List.mem_filter]
                exact ⟨e, ⟨by simpa using he, hbd⟩, rfl⟩
              have hlt2 := (fits_at hf ho).2.2.2 _ hj
              exact ih e.on (by omega) (by omega)
          rw [hnil] at hm
          cases hm
    rw [fill_all hf listed vals fun i hi => all (i + 1) i (by omega) hi]
    exact hend vals w' hR fun i hi => hV i (all (i + 1) i (by omega) hi)
  · refine ⟨by simp, hrf _, fun _ => undef, ?_, fun i hi => ?_⟩
    · refine act_ext (fun s => ?_) rfl
      rw [fill_get]
      cases slotOf ops s with
      | none => rfl
      | some i => simp only []; rw [if_neg]; simp [noneListed]
    · simp [noneListed] at hi
  · simp [List.countP_replicate]

theorem lists_dst {S : List (Option Nat)} {D : List (List Nat)} (h : lists ops S D = true) (j : Nat) : (ops[j]?).bind (·.dst) = S.getD j none := by
  unfold lists at h
  simp only [Bool.and_eq_true, beq_iff_eq] at h
  rw [h.1]
  simp only [List.getD_eq_getElem?_getD, List.getElem?_map, Array.getElem?_toList]
  cases ops[j]? <;> rfl
theorem lists_deps {S : List (Option Nat)} {D : List (List Nat)} (h : lists ops S D = true) {i : Nat} (hi : i < ops.size) : D[i]? = some (deps ops i) := by
  unfold lists at h
  simp only [Bool.and_eq_true, beq_iff_eq] at h
  rw [h.2]
  simp [hi]
theorem putS_eq {S : List (Option Nat)} {D : List (List Nat)} (h : lists ops S D = true) (vals : Nat → Value) : ∀ (l : List Nat) (a : Act), putS S a l vals = putAll ops a l vals := by
  intro l
  unfold putS putAll
  induction l with
  | nil => intro a; rfl
  | cons j l ih => intro a; rw [List.foldl_cons, List.foldl_cons, lists_dst h]; exact ih _
theorem yieldS_eq {S : List (Option Nat)} {D : List (List Nat)} (h : lists ops S D = true) (t : Array Value) : yieldS S t = yielded ops t := by
  funext j
  unfold yieldS yielded
  rw [lists_dst h]
  cases (S.getD j none).bind fun x => t[x]? with
  | none => rfl
  | some v => cases v <;> rfl
theorem all_steps {S : List (Option Nat)} : ∀ (os : List Oper) (k : Nat) (D : List (List Nat)), AllS S a0 P R V w0 k os D → ∀ i o d, os[i]? = some o → D[i]? = some d → StepS S a0 P R V w0 (k + i) d o
  | [], k, D, _, i, o, d, ho, _ => by simp at ho
  | o1 :: os, k, D, h, 0, o, d, ho, hd => by
    simp at ho
    subst ho
    cases D with
    | nil => simp at hd
    | cons d1 D => simp at hd; subst hd; exact h.1
  | o1 :: os, k, D, h, i + 1, o, d, ho, hd => by
    cases D with
    | nil => simp at hd
    | cons d1 D =>
      have := all_steps os (k + 1) D h.2 i o d (by simpa using ho) (by simpa using hd)
      rw [show k + (i + 1) = k + 1 + i by omega]
      exact this

/-- The law, by the lists. -/
theorem wp_region_lists {id : Nat} {a : Act} {w : World} (R : World → World → Prop) (V : Nat → Value → World → Prop) (S : List (Option Nat)) (D : List (List Nat)) (hm : P.follows .mixedOrders = true) (hl : lists ops S D = true) (hf : fits ops a = true)
    (hrf : ∀ w, R w w) (htr : ∀ a b c, R a b → R b c → R a c) (hst : ∀ i v w w', V i v w → R w w' → V i v w')
    (hs : AllS S a P R V { w with drawn := w.drawn + 1 } 0 ops.toList D)
    (hend : ∀ (vals : Nat → Value) (w' : World), R { w with drawn := w.drawn + 1 } w' → (∀ i, i < S.length → V i (vals i) w') → Q .normal (putS S a (List.range S.length) vals) w') :
    (Code.region id ops true).wp P Q a w := by
  have hlen : S.length = ops.size := by
    have h := hl
    unfold lists at h
    simp only [Bool.and_eq_true, beq_iff_eq] at h
    rw [h.1]
    simp
  refine wp_region_steps R V hm hf hrf htr hst (fun i o ho => ?_) (fun vals w' h1 h2 => ?_)
  · have hi : i < ops.size := (Array.getElem?_eq_some_iff.1 ho).1
    have h := all_steps ops.toList 0 D hs i o (deps ops i) (by simpa using ho) (lists_deps hl hi)
    rw [Nat.zero_add] at h
    intro vals w1 K h1 h2 h3
    have := h vals w1 K h1 h2 (by rw [putS_eq hl]; exact h3)
    rw [putS_eq hl, yieldS_eq hl] at this
    exact this
  · have := hend vals w' h1 (by rw [hlen]; exact h2)
    rw [putS_eq hl, hlen] at this
    exact this

/-- One more operation stands behind all others (a store): it is run where they have left off. -/
theorem inv_any_last {m : Nat} (hm : ops.size = m + 1) (hf : fits ops a0 = true) (htr : ∀ a b c, R a b → R b c → R a c) (hst : ∀ i v w w', V i v w → R w w' → V i v w')
    (hs : ∀ i o, i < m → ops[i]? = some o → Step ops a0 P R V w0 i o)
    (hall : ∀ j, j < m → j ∈ deps ops m)
    (hend : ∀ (vals : Nat → Value) (w' : World), R w0 w' → (∀ i, i < m → V i (vals i) w') → wpOp P ops Q m (fun a' w'' => Q .normal a' w'') (putAll ops a0 (List.range m) vals) w') :
    ∀ (fuel : Nat) (listed : Array Bool) (a : Act) (w : World), Inv ops a0 R V w0 listed a w → listed.getD m false = false → (listed.toList.countP (· == false)) ≤ fuel → wpAny P .any ops Q fuel listed a w := by
  intro fuel
  have open_m : ∀ listed : Array Bool, listed.size = ops.size → listed.getD m false = false → Region.ready .any ops listed ≠ [] := by
    intro listed hsz hlm hnil
    have all : ∀ n i, i < n → i < ops.size → listed.getD i false = true := by
      intro n
      induction n with
      | zero => intro i h; omega
      | succ n ih =>
        intro i h hlt
        cases hb : listed.getD i false with
        | true => rfl
        | false =>
          exfalso
          obtain ⟨o, ho⟩ : ∃ o, ops[i]? = some o := ⟨_, Array.getElem?_eq_getElem hlt⟩
          have hmem : i ∈ Region.ready .any ops listed := by
            refine mem_ready.2 ⟨?_, o, ho, fun e he hbd => ?_⟩
            · have : i < listed.size := by rw [hsz]; exact hlt
              simp [this] at hb ⊢
              exact hb
            · have hj : e.on ∈ deps ops i := by
                unfold deps
                simp only [ho, List.mem_map, List.mem_filter]
                exact ⟨e, ⟨by simpa using he, hbd⟩, rfl⟩
              have hlt2 := (fits_at hf ho).2.2.2 _ hj
              exact ih e.on (by omega) (by omega)
          rw [hnil] at hmem
          cases hmem
    have := all (m + 1) m (by omega) (by omega)
    rw [hlm] at this
    cases this
  induction fuel with
  | zero =>
    intro listed a w hi hlm hc
    exfalso
    cases hr : Region.ready .any ops listed with
    | nil => exact open_m listed hi.1 hlm hr
    | cons i rs =>
      have hmm : i ∈ Region.ready .any ops listed := by rw [hr]; exact List.mem_cons_self ..
      obtain ⟨hun, o, ho, _⟩ := mem_ready.1 hmm
      have hlt : i < listed.size := by rw [hi.1]; exact (Array.getElem?_eq_some_iff.1 ho).1
      have hb : listed[i] = false := by simpa [hlt] using hun
      have : 0 < listed.toList.countP (· == false) := List.countP_pos_iff.2 ⟨listed[i], by simp, by simp [hb]⟩
      omega
  | succ fuel ih =>
    intro listed a w hi hlm hc
    refine ⟨fun h => absurd h (open_m listed hi.1 hlm), fun i hmem => ?_⟩
    obtain ⟨hun, o, ho, hdep⟩ := mem_ready.1 hmem
    have hilt : i < ops.size := (Array.getElem?_eq_some_iff.1 ho).1
    have hlt : i < listed.size := by rw [hi.1]; exact hilt
    have hb : listed[i] = false := by simpa [hlt] using hun
    by_cases him : i = m
    · subst him
      obtain ⟨hsz, hR, vals, rfl, hV⟩ := hi
      have hl : ∀ j, j < i → listed.getD j false = true := by
        intro j hj
        have := hall j hj
        unfold deps at this
        simp only [ho, List.mem_map, List.mem_filter] at this
        obtain ⟨e, ⟨he, hbd⟩, rfl⟩ := this
        exact hdep e (by simpa using he) hbd
      have hfill : fill ops a0 listed vals = putAll ops a0 (List.range i) vals := by
        refine act_ext (fun s => ?_) ?_
        · rw [fill_get]
          unfold putAll
          rw [putAll_get hf]
          cases hs2 : slotOf ops s with
          | none => rfl
          | some k =>
            have hk := slotOf_lt hs2
            by_cases hki : k = i
            · subst hki; simp only [hlm, List.mem_range]; simp
            · simp only [hl k (by omega), if_true, List.mem_range, show k < i by omega]
        · unfold putAll; rw [putAll_defers]; rfl
      rw [hfill]
      refine wpOp_mono (fun a' w' h' => ?_) (hend vals w hR fun j hj => hV j (hl j hj))
      have hnil : Region.ready .any ops (listed.setIfInBounds i true) = [] := by
        cases hr : Region.ready .any ops (listed.setIfInBounds i true) with
        | nil => rfl
        | cons j rs =>
          exfalso
          have hmm : j ∈ Region.ready .any ops (listed.setIfInBounds i true) := by rw [hr]; exact List.mem_cons_self ..
          obtain ⟨hun2, o2, ho2, _⟩ := mem_ready.1 hmm
          have hj : j < ops.size := (Array.getElem?_eq_some_iff.1 ho2).1
          by_cases hji : j = i
          · subst hji; simp [hlt] at hun2
          · rw [getD_set_ne true (Ne.symm hji)] at hun2
            have h1 := hl j (by omega)
            have hjl : j < listed.size := by rw [hsz]; exact hj
            simp [hjl] at hun2 h1
            rw [hun2] at h1; cases h1
      cases fuel with
      | zero => exact ⟨hnil, h'⟩
      | succ fuel => exact ⟨fun _ => h', fun j hj => by rw [hnil] at hj; cases hj⟩
    · have hi2 : i < m := by omega
      refine wpOp_mono (fun a' w' h' => ih _ a' w' h' ?_ ?_) (inv_step hf htr hst ho (hs i o hi2 ho) hi hmem)
      · rw [getD_set_ne false him]; exact hlm
      · have hlt' : i < listed.toList.length := by simpa using hlt
        have hcnt : (listed.toList.set i true).countP (· == false) + 1 = listed.toList.countP (· == false) := count_set listed.toList i hlt' (by simpa using hb)
        have e : (listed.setIfInBounds i true).toList = listed.toList.set i true := by simp
        rw [e]
        omega

/-- What is left to show: the last operation's step. (Shut, so that no tactic runs it unasked.) -/
@[irreducible] def LastStep (P : Program) (S : List (Option Nat)) (a : Act) (m : Nat) (Q : Exit → Act → World → Prop) (vals : Nat → Value) (o : Oper) (w' : World) : Prop :=
  if Region.wanted o (yieldS S (putS S a (List.range m) vals).tmps) = true then Oper.wp P o (putS S a (List.range m) vals) w' (fun a' w'' => Q .normal a' w'') Q else Q .normal ((putS S a (List.range m) vals).put o.dst undef) w'
/-- The law, by the lists, for a region whose last operation stands behind all others. -/
theorem wp_region_last {id : Nat} {a : Act} {w : World} (m : Nat) (R : World → World → Prop) (V : Nat → Value → World → Prop) (S : List (Option Nat)) (D : List (List Nat)) (hm : P.follows .mixedOrders = true) (hsz : ops.size = m + 1) (hl : lists ops S D = true) (hf : fits ops a = true)
    (hall : ((List.range m).all fun j => (D.getD m []).contains j) = true)
    (hrf : ∀ w, R w w) (htr : ∀ a b c, R a b → R b c → R a c) (hst : ∀ i v w w', V i v w → R w w' → V i v w')
    (hs : AllS S a P R V { w with drawn := w.drawn + 1 } 0 (ops.toList.take m) D)
    (hend : ∀ (vals : Nat → Value) (w' : World) (o : Oper), ops[m]? = some o → R { w with drawn := w.drawn + 1 } w' → (∀ i, i < m → V i (vals i) w') →
      LastStep P S a m Q vals o w') :
    (Code.region id ops true).wp P Q a w := by
  refine wp_region_any hm ?_
  refine inv_any_last (m := m) (V := V) (R := R) (w0 := { w with drawn := w.drawn + 1 }) (a0 := a) hsz hf htr hst (fun i o him ho => ?_) (fun j hj => ?_) (fun vals w' h1 h2 => ?_) _ _ _ _ ?_ ?_ ?_
  · have hi : i < ops.size := (Array.getElem?_eq_some_iff.1 ho).1
    have ho' : (ops.toList.take m)[i]? = some o := by rw [List.getElem?_take, if_pos him]; simpa using ho
    have h := all_steps (ops.toList.take m) 0 D hs i o (deps ops i) ho' (lists_deps hl hi)
    rw [Nat.zero_add] at h
    intro vals w1 K h1 h2 h3
    have := h vals w1 K h1 h2 (by rw [putS_eq hl]; exact h3)
    rw [putS_eq hl, yieldS_eq hl] at this
    exact this
  · have h := List.all_eq_true.1 hall j (by simpa using hj)
    have hd := lists_deps hl (show m < ops.size by omega)
    rw [List.getD_eq_getElem?_getD, hd] at h
    simpa using h
  · obtain ⟨o, ho⟩ : ∃ o, ops[m]? = some o := ⟨_, Array.getElem?_eq_getElem (by omega)⟩
    have := hend vals w' o ho h1 h2
    unfold LastStep at this
    rw [putS_eq hl, yieldS_eq hl] at this
    unfold wpOp
    simp only [ho]
    by_cases hw : Region.wanted o (yielded ops (putAll ops a (List.range m) vals).tmps) = true
    · rw [if_pos hw] at this ⊢
      exact .inl this
    · rw [if_neg hw] at this ⊢
      exact this
  · refine ⟨by simp, hrf _, fun _ => undef, ?_, fun i hi => ?_⟩
    · refine act_ext (fun s => ?_) rfl
      rw [fill_get]
      cases slotOf ops s with
      | none => rfl
      | some i => simp only []; rw [if_neg]; simp [noneListed]
    · simp [noneListed] at hi
  · simp [noneListed]
  · simp [List.countP_replicate]

end
end Go.Proofs.YtdeeeechdlcdbaaGreat.Reg
