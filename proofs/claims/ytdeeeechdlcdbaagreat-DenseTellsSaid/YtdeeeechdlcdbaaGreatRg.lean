/- A law for a region that draws its order, where each operation turns the world in a way of its own (R i): what is told of a value (V) holds on under all that may still come; what an operation wants of the world (U) holds until it has run; G holds throughout. -/
import Derived.Test.YtdeeeechdlcdbaaGreatReg
namespace Go.Proofs.YtdeeeechdlcdbaaGreat.RegU
open Go Go.RowKit Go.Proofs.YtdeeeechdlcdbaaGreat.Reg

section
variable {ops : Array Oper} {a0 : Act} {P : Program} {G : World → Prop} {U : Nat → World → Prop} {R : Nat → World → World → Prop} {par : Nat → Nat} {V : Nat → Value → Value → World → Prop} {Q : Exit → Act → World → Prop}

/-- One operation's step. -/
def Step (ops : Array Oper) (a0 : Act) (P : Program) (G : World → Prop) (U : Nat → World → Prop) (R : Nat → World → World → Prop) (par : Nat → Nat) (V : Nat → Value → Value → World → Prop) (i : Nat) (o : Oper) : Prop :=
  ∀ (vals : Nat → Value) (w : World) (K : Act → World → Prop), G w → U i w → (∀ j ∈ deps ops i, V j (vals (par j)) (vals j) w) →
    (∀ v w', R i w w' → V i (if par i = i then v else vals (par i)) v w' → K ((putAll ops a0 (deps ops i) vals).put o.dst v) w') →
    if Region.wanted o (yielded ops (putAll ops a0 (deps ops i) vals).tmps) = true then Oper.wp P o (putAll ops a0 (deps ops i) vals) w K (fun _ _ _ => False) else K ((putAll ops a0 (deps ops i) vals).put o.dst undef) w

/-- What holds when some operations are done. -/
def Inv (ops : Array Oper) (a0 : Act) (G : World → Prop) (U : Nat → World → Prop) (par : Nat → Nat) (V : Nat → Value → Value → World → Prop) (listed : Array Bool) (a : Act) (w : World) : Prop :=
  listed.size = ops.size ∧ G w ∧ (∀ j, listed.getD j false = false → U j w) ∧ (∀ j, listed.getD j false = true → ∀ k ∈ deps ops j, listed.getD k false = true) ∧ ∃ vals, a = fill ops a0 listed vals ∧ ∀ i, listed.getD i false = true → V i (vals (par i)) (vals i) w

theorem inv_step (hf : fits ops a0 = true) (hpar : ∀ i, par i = i ∨ par i ∈ deps ops i) (hG : ∀ i w w', G w → R i w w' → G w') (hU : ∀ j i w w', j ≠ i → j ∉ deps ops i → U j w → R i w w' → U j w') (hst : ∀ j i p v w w', i ≠ j → i ∉ deps ops j → V j p v w → R i w w' → V j p v w')
    {i : Nat} {o : Oper} (ho : ops[i]? = some o) (hs : Step ops a0 P G U R par V i o) {listed : Array Bool} {a : Act} {w : World} (hi : Inv ops a0 G U par V listed a w)
    (hr : i ∈ Region.ready .any ops listed) : wpOp P ops Q i (Inv ops a0 G U par V (listed.setIfInBounds i true)) a w := by
  obtain ⟨hsz, hR, hun0, hcl, vals, rfl, hV⟩ := hi
  obtain ⟨hun, o', ho', hall'⟩ := mem_ready.1 hr
  rw [ho] at ho'
  obtain rfl := Option.some.inj ho'
  have hlt : i < listed.size := by rw [hsz]; exact (Array.getElem?_eq_some_iff.1 ho).1
  have hall : ∀ j ∈ deps ops i, listed.getD j false = true := by
    intro j hj
    unfold deps at hj
    simp only [ho, List.mem_map, List.mem_filter] at hj
    obtain ⟨e, ⟨he, hb⟩, rfl⟩ := hj
    exact hall' e (by simpa using he) hb
  obtain ⟨he, hw⟩ := exec_same (vals := vals) hf ho hall
  have hs' := hs vals w
  have hunl : listed.getD i false = false := by
    cases h : listed.getD i false with
    | false => rfl
    | true => simp [hlt] at hun h; rw [hun] at h; cases h
  have next : ∀ v w', R i w w' → V i (if par i = i then v else vals (par i)) v w' → Inv ops a0 G U par V (listed.setIfInBounds i true) ((fill ops a0 listed vals).put o.dst v) w' := by
    intro v w' hRw hVi
    refine ⟨by simpa using hsz, hG _ _ _ hR hRw, fun j hj => ?_, fun j hj k hk => ?_, _, fill_put hf ho hlt v, fun j hj => ?_⟩
    · have hji : j ≠ i := by rintro rfl; simp [hlt] at hj
      rw [getD_set_ne false (Ne.symm hji)] at hj
      exact hU j i _ _ hji (fun hd => by rw [hall j hd] at hj; cases hj) (hun0 j hj) hRw
    · by_cases hki : k = i
      · subst hki; simp [hlt]
      · rw [getD_set_ne false (Ne.symm hki)]
        by_cases hji : j = i
        · subst hji; exact hall k hk
        · rw [getD_set_ne false (Ne.symm hji)] at hj
          exact hcl j hj k hk
    by_cases hji : j = i
    · subst hji; simp only [if_true]; exact hVi
    · simp only [if_neg hji]
      rw [getD_set_ne false (Ne.symm hji)] at hj
      have hpi : par j ≠ i := by
        rcases hpar j with e | e
        · rw [e]; exact hji
        · intro e2
          rw [e2] at e
          have := hcl j hj i e
          rw [hunl] at this; cases this
      rw [if_neg hpi]
      exact hst j i _ _ _ _ (Ne.symm hji) (fun hd => by have := hcl j hj i hd; rw [hunl] at this; cases this) (hV j hj) hRw
  unfold wpOp
  simp only [ho]
  rw [hw]
  by_cases hwt : Region.wanted o (yielded ops (putAll ops a0 (deps ops i) vals).tmps) = true
  · rw [if_pos hwt]
    refine .inl (wp_transfer (a1 := putAll ops a0 (deps ops i) vals) (fun t ht => ?_) he (Post := fun v w' => R i w w' ∧ V i (if par i = i then v else vals (par i)) v w') ?_ (fun v w' h => next v w' h.1 h.2))
    · unfold putAll; rw [putAll_size]; exact ((fits_at hf ho).1 t ht).2
    · intro K1 hK1
      have := hs' K1 hR (hun0 i hunl) (fun j hj => hV j (hall j hj)) (fun v w' h1 h2 => hK1 v w' ⟨h1, h2⟩)
      rw [if_pos hwt] at this
      exact this
  · rw [if_neg hwt]
    have h2 := hs' (fun a' w' => a'.defers = (putAll ops a0 (deps ops i) vals).defers ∧ (match o.dst with | some t => R i w w' ∧ V i (if par i = i then a'.tmps.getD t undef else vals (par i)) (a'.tmps.getD t undef) w' | none => ∃ u, R i w w' ∧ V i (if par i = i then u else vals (par i)) u w')) hR (hun0 i hunl) (fun j hj => hV j (hall j hj)) (by
      intro v w' h1 h2
      cases hd : o.dst with
      | none => exact ⟨rfl, v, h1, h2⟩
      | some t =>
        refine ⟨rfl, h1, ?_⟩
        have ht : t < (putAll ops a0 (deps ops i) vals).tmps.size := by unfold putAll; rw [putAll_size]; exact ((fits_at hf ho).1 t hd).2
        simpa [Act.put, ht] using h2)
    rw [if_neg hwt] at h2
    cases hd : o.dst with
    | none =>
      rw [hd] at h2 next
      obtain ⟨_, u, h3, h4⟩ := h2
      exact next u _ h3 h4
    | some t =>
      rw [hd] at h2 next
      have ht : t < (putAll ops a0 (deps ops i) vals).tmps.size := by unfold putAll; rw [putAll_size]; exact ((fits_at hf ho).1 t hd).2
      obtain ⟨_, h3, h4⟩ := h2
      refine next undef _ h3 ?_
      simpa [Act.put, ht] using h4

theorem inv_any (hf : fits ops a0 = true) (hpar : ∀ i, par i = i ∨ par i ∈ deps ops i) (hG : ∀ i w w', G w → R i w w' → G w') (hU : ∀ j i w w', j ≠ i → j ∉ deps ops i → U j w → R i w w' → U j w') (hst : ∀ j i p v w w', i ≠ j → i ∉ deps ops j → V j p v w → R i w w' → V j p v w')
    (hs : ∀ i o, ops[i]? = some o → Step ops a0 P G U R par V i o)
    (hend : ∀ listed a w, Inv ops a0 G U par V listed a w → Region.ready .any ops listed = [] → Q .normal a w) :
    ∀ (fuel : Nat) (listed : Array Bool) (a : Act) (w : World), Inv ops a0 G U par V listed a w → (listed.toList.countP (· == false)) ≤ fuel → wpAny P .any ops Q fuel listed a w := by
  intro fuel
  induction fuel with
  | zero =>
    intro listed a w hi hc
    have hnil : Region.ready .any ops listed = [] := by
      cases hr : Region.ready .any ops listed with
      | nil => rfl
      | cons i rs =>
        have hm : i ∈ Region.ready .any ops listed := by rw [hr]; exact List.mem_cons_self ..
        obtain ⟨hun, o, ho, _⟩ := mem_ready.1 hm
        have hlt : i < listed.size := by rw [hi.1]; exact (Array.getElem?_eq_some_iff.1 ho).1
        have hb : listed[i] = false := by simpa [hlt] using hun
        have : 0 < listed.toList.countP (· == false) := List.countP_pos_iff.2 ⟨listed[i], by simp, by simp [hb]⟩
        omega
    exact ⟨hnil, hend _ _ _ hi hnil⟩
  | succ fuel ih =>
    intro listed a w hi hc
    refine ⟨fun h => hend _ _ _ hi h, fun i hm => ?_⟩
    obtain ⟨hun, o, ho, _⟩ := mem_ready.1 hm
    have hlt : i < listed.size := by rw [hi.1]; exact (Array.getElem?_eq_some_iff.1 ho).1
    have hb : listed[i] = false := by simpa [hlt] using hun
    refine wpOp_mono (fun a' w' h' => ih _ a' w' h' ?_) (inv_step hf hpar hG hU hst ho (hs i o ho) hi hm)
    have hlt' : i < listed.toList.length := by simpa using hlt
    have hcnt : (listed.toList.set i true).countP (· == false) + 1 = listed.toList.countP (· == false) := by
      exact count_set listed.toList i hlt' (by simpa using hb)
    have e : (listed.setIfInBounds i true).toList = listed.toList.set i true := by simp
    rw [e]
    omega

/-- One step, by the lists: 'D' what the operation waits for. -/
def StepS (S : List (Option Nat)) (a0 : Act) (P : Program) (G : World → Prop) (U : Nat → World → Prop) (R : Nat → World → World → Prop) (par : Nat → Nat) (V : Nat → Value → Value → World → Prop) (i : Nat) (D : List Nat) (o : Oper) : Prop :=
  ∀ (vals : Nat → Value) (w : World) (K : Act → World → Prop), G w → U i w → (∀ j ∈ D, V j (vals (par j)) (vals j) w) →
    (∀ v w', R i w w' → V i (if par i = i then v else vals (par i)) v w' → K ((putS S a0 D vals).put o.dst v) w') →
    if Region.wanted o (yieldS S (putS S a0 D vals).tmps) = true then Oper.wp P o (putS S a0 D vals) w K (fun _ _ _ => False) else K ((putS S a0 D vals).put o.dst undef) w
def AllS (S : List (Option Nat)) (a0 : Act) (P : Program) (G : World → Prop) (U : Nat → World → Prop) (R : Nat → World → World → Prop) (par : Nat → Nat) (V : Nat → Value → Value → World → Prop) : Nat → List Oper → List (List Nat) → Prop
  | _, [], _ => True
  | i, o :: os, D => StepS S a0 P G U R par V i (D.headD []) o ∧ AllS S a0 P G U R par V (i + 1) os D.tail

/-- The law: a region whose order is drawn, an operation at a time. -/
theorem wp_region_steps {id : Nat} {a : Act} {w : World} (G : World → Prop) (U : Nat → World → Prop) (R : Nat → World → World → Prop) (par : Nat → Nat) (V : Nat → Value → Value → World → Prop) (hm : P.follows .mixedOrders = true) (hf : fits ops a = true) (hpar : ∀ i, par i = i ∨ par i ∈ deps ops i)
    (hG0 : G { w with drawn := w.drawn + 1 }) (hU0 : ∀ i, U i { w with drawn := w.drawn + 1 }) (hG : ∀ i w w', G w → R i w w' → G w') (hU : ∀ j i w w', j ≠ i → j ∉ deps ops i → U j w → R i w w' → U j w') (hst : ∀ j i p v w w', i ≠ j → i ∉ deps ops j → V j p v w → R i w w' → V j p v w')
    (hs : ∀ i o, ops[i]? = some o → Step ops a P G U R par V i o)
    (hend : ∀ (vals : Nat → Value) (w' : World), G w' → (∀ i, i < ops.size → V i (vals (par i)) (vals i) w') → Q .normal (putAll ops a (List.range ops.size) vals) w') :
    (Code.region id ops true).wp P Q a w := by
  refine wp_region_any hm ?_
  refine inv_any hf hpar hG hU hst hs ?_ _ _ _ _ ?_ ?_ (a0 := a)
  · intro listed a' w' hI hnil
    obtain ⟨hsz, hR, _, _, vals, rfl, hV⟩ := hI
    have all : ∀ n i, i < n → i < ops.size → listed.getD i false = true := by
      intro n
      induction n with
      | zero => intro i h; omega
      | succ n ih =>
        intro i h hlt
        cases hb : listed.getD i false with
        | true => rfl
        | false =>
          exfalso
          obtain ⟨o, ho⟩ : ∃ o, ops[i]? = some o := ⟨_, Array.getElem?_eq_getElem hlt⟩
          have hm : i ∈ Region.ready .any ops listed := by
            refine mem_ready.2 ⟨?_, o, ho, fun e he hbd => ?_⟩
            · have : i < listed.size := by rw [hsz]; exact hlt
              simp [this] at hb ⊢
              exact hb
            · have hj : e.on ∈ deps ops i := by
                unfold deps
                simp only [ho, List.mem_map, List.mem_filter]
                exact ⟨e, ⟨by simpa using he, hbd⟩, rfl⟩
              have hlt2 := (fits_at hf ho).2.2.2 _ hj
              exact ih e.on (by omega) (by omega)
          rw [hnil] at hm
          cases hm
    rw [fill_all hf listed vals fun i hi => all (i + 1) i (by omega) hi]
    exact hend vals w' hR fun i hi => hV i (all (i + 1) i (by omega) hi)
  · refine ⟨by simp, hG0, fun j _ => hU0 j, fun j hj => ?_, fun _ => undef, ?_, fun i hi => ?_⟩
    · simp [noneListed] at hj
    · refine act_ext (fun s => ?_) rfl
      rw [fill_get]
      cases slotOf ops s with
      | none => rfl
      | some i => simp only []; rw [if_neg]; simp [noneListed]
    · simp [noneListed] at hi
  · simp [List.countP_replicate]

theorem all_steps {S : List (Option Nat)} : ∀ (os : List Oper) (k : Nat) (D : List (List Nat)), AllS S a0 P G U R par V k os D → ∀ i o d, os[i]? = some o → D[i]? = some d → StepS S a0 P G U R par V (k + i) d o
  | [], k, D, _, i, o, d, ho, _ => by simp at ho
  | o1 :: os, k, D, h, 0, o, d, ho, hd => by
    simp at ho
    subst ho
    cases D with
    | nil => simp at hd
    | cons d1 D => simp at hd; subst hd; exact h.1
  | o1 :: os, k, D, h, i + 1, o, d, ho, hd => by
    cases D with
    | nil => simp at hd
    | cons d1 D =>
      have := all_steps os (k + 1) D h.2 i o d (by simpa using ho) (by simpa using hd)
      rw [show k + (i + 1) = k + 1 + i by omega]
      exact this

theorem lists_getD {S : List (Option Nat)} {D : List (List Nat)} (hl : lists ops S D = true) (i : Nat) : D.getD i [] = deps ops i := by
  by_cases hi : i < ops.size
  · rw [List.getD_eq_getElem?_getD, lists_deps hl hi]; rfl
  · have h := hl
    unfold lists at h
    simp only [Bool.and_eq_true, beq_iff_eq] at h
    rw [h.2, List.getD_eq_getElem?_getD, List.getElem?_eq_none (by simp; omega)]
    unfold deps
    rw [Array.getElem?_eq_none (by omega)]
    rfl
/-- The law, by the lists. -/
theorem wp_region_lists {id : Nat} {a : Act} {w : World} (G : World → Prop) (U : Nat → World → Prop) (R : Nat → World → World → Prop) (par : Nat → Nat) (V : Nat → Value → Value → World → Prop) (S : List (Option Nat)) (D : List (List Nat)) (hm : P.follows .mixedOrders = true) (hl : lists ops S D = true) (hf : fits ops a = true) (hpar : ∀ i, par i = i ∨ par i ∈ D.getD i [])
    (hG0 : G { w with drawn := w.drawn + 1 }) (hU0 : ∀ i, U i { w with drawn := w.drawn + 1 }) (hG : ∀ i w w', G w → R i w w' → G w') (hU : ∀ j i w w', j ≠ i → j ∉ D.getD i [] → U j w → R i w w' → U j w') (hst : ∀ j i p v w w', i ≠ j → i ∉ D.getD j [] → V j p v w → R i w w' → V j p v w')
    (hs : AllS S a P G U R par V 0 ops.toList D)
    (hend : ∀ (vals : Nat → Value) (w' : World), G w' → (∀ i, i < S.length → V i (vals (par i)) (vals i) w') → Q .normal (putS S a (List.range S.length) vals) w') :
    (Code.region id ops true).wp P Q a w := by
  have hlen : S.length = ops.size := by
    have h := hl
    unfold lists at h
    simp only [Bool.and_eq_true, beq_iff_eq] at h
    rw [h.1]
    simp
  have hD := lists_getD hl
  refine wp_region_steps G U R par V hm hf (fun i => ?_) hG0 hU0 hG (fun j i w w' h1 h2 => hU j i w w' h1 (fun hd => h2 (by rw [← hD i]; exact hd))) (fun j i p v w w' h1 h2 => hst j i p v w w' h1 (fun hd => h2 (by rw [← hD j]; exact hd))) (fun i o ho => ?_) (fun vals w' h1 h2 => ?_)
  · rcases hpar i with e | e
    · exact .inl e
    · by_cases hi : i < ops.size
      · have := lists_deps hl hi
        rw [List.getD_eq_getElem?_getD, this] at e
        exact .inr e
      · exfalso
        have h := hl
        unfold lists at h
        simp only [Bool.and_eq_true, beq_iff_eq] at h
        rw [h.2, List.getD_eq_getElem?_getD, List.getElem?_eq_none (by simp; omega)] at e
        cases e
  · have hi : i < ops.size := (Array.getElem?_eq_some_iff.1 ho).1
    have h := all_steps ops.toList 0 D hs i o (deps ops i) (by simpa using ho) (lists_deps hl hi)
    rw [Nat.zero_add] at h
    intro vals w1 K h1 hu h2 h3
    have := h vals w1 K h1 hu h2 (by rw [putS_eq hl]; exact h3)
    rw [putS_eq hl, yieldS_eq hl] at this
    exact this
  · have := hend vals w' h1 (by rw [hlen]; exact h2)
    rw [putS_eq hl, hlen] at this
    exact this


end
end Go.Proofs.YtdeeeechdlcdbaaGreat.RegU
/- The law for a region that draws its order (RegU), where the last operation waits for all the others: that one may write a slot which the others read. -/
namespace Go.Proofs.YtdeeeechdlcdbaaGreat.RegL
open Go Go.RowKit Go.Proofs.YtdeeeechdlcdbaaGreat.Reg

section
variable {I : Array Oper} {ol : Oper} {a0 : Act} {P : Program} {G : World → Prop} {U : Nat → World → Prop} {R : Nat → World → World → Prop} {par : Nat → Nat} {V : Nat → Value → Value → World → Prop} {Q : Exit → Act → World → Prop}

theorem pop_getD {l : Array Bool} {n : Nat} (hs : l.size = n + 1) (hl : l.getD n false = false) (j : Nat) : l.pop.getD j false = l.getD j false := by
  rcases Nat.lt_trichotomy j n with h | h | h
  · rw [Array.getD_eq_getD_getElem?, Array.getD_eq_getD_getElem?, Array.getElem?_pop]
    rw [if_pos (by omega)]
  · subst h
    rw [hl, Array.getD_eq_getD_getElem?, Array.getElem?_eq_none (by simp; omega)]; rfl
  · rw [Array.getD_eq_getD_getElem?, Array.getD_eq_getD_getElem?, Array.getElem?_eq_none (by simp; omega), Array.getElem?_eq_none (by omega)]

theorem getD_flip {l : Array Bool} {j : Nat} (h : j < l.size) : l.getD j true = l.getD j false := by
  rw [Array.getD_eq_getD_getElem?, Array.getD_eq_getD_getElem?, Array.getElem?_eq_getElem h]; rfl

theorem pop_set {l : Array Bool} {i n : Nat} (hs : l.size = n + 1) (hi : i < n) : (l.setIfInBounds i true).pop = l.pop.setIfInBounds i true := by
  apply Array.ext_getElem?
  intro k
  simp only [Array.getElem?_pop, Array.getElem?_setIfInBounds, Array.size_setIfInBounds, Array.size_pop]
  by_cases hk : i = k
  · subst hk
    simp only [if_true]
    rw [if_pos (by omega), if_pos (by omega), if_pos (by omega)]
  · simp only [if_neg hk]

theorem push_get {i : Nat} (hi : i < I.size) : (I.push ol)[i]? = I[i]? := by
  rw [Array.getElem?_push, if_neg (by omega)]

theorem done_any {fuel : Nat} {listed : Array Bool} {a : Act} {w : World} (hsz : listed.size = I.size + 1) (hall : ∀ j, j < I.size + 1 → listed.getD j false = true) (h : Q .normal a w) : wpAny P .any (I.push ol) Q fuel listed a w := by
  have hnil : Region.ready .any (I.push ol) listed = [] := by
    cases hr : Region.ready .any (I.push ol) listed with
    | nil => rfl
    | cons i rs =>
      have hm : i ∈ Region.ready .any (I.push ol) listed := by rw [hr]; exact List.mem_cons_self ..
      obtain ⟨hun, o, ho, _⟩ := mem_ready.1 hm
      have hlt : i < I.size + 1 := by have := (Array.getElem?_eq_some_iff.1 ho).1; simpa using this
      rw [getD_flip (by omega), hall i hlt] at hun
      cases hun
  cases fuel with
  | zero => exact ⟨hnil, h⟩
  | succ f => exact ⟨fun _ => h, fun i hi => by rw [hnil] at hi; cases hi⟩

theorem inv_last (hf : fits I a0 = true) (hng : ∀ o ∈ I, o.guard = none) (hlg : ol.guard = none) (hld : ∀ j, j < I.size → ∃ e ∈ ol.after, e.on = j ∧ Region.binds .any e = true) (hli : ∀ e ∈ ol.after, Region.binds .any e = true → e.on < I.size)
    (hpar : ∀ i, par i = i ∨ par i ∈ deps I i) (hG : ∀ i w w', G w → R i w w' → G w') (hU : ∀ j i w w', j ≠ i → j ∉ deps I i → U j w → R i w w' → U j w') (hst : ∀ j i p v w w', i ≠ j → i ∉ deps I j → V j p v w → R i w w' → V j p v w')
    (hs : ∀ i o, I[i]? = some o → RegU.Step I a0 P G U R par V i o)
    (hend : ∀ (vals : Nat → Value) (w : World), G w → (∀ i, i < I.size → V i (vals (par i)) (vals i) w) → Oper.wp P ol (putAll I a0 (List.range I.size) vals) w (fun a w => Q .normal a w) Q) :
    ∀ (fuel : Nat) (listed : Array Bool) (a : Act) (w : World), listed.size = I.size + 1 → listed.getD I.size false = false → RegU.Inv I a0 G U par V listed.pop a w → (listed.toList.countP (· == false)) ≤ fuel → wpAny P .any (I.push ol) Q fuel listed a w := by
  intro fuel
  induction fuel with
  | zero =>
    intro listed a w hsz hl hi hc
    have hlt : I.size < listed.size := by omega
    have hb : listed[I.size] = false := by simpa [hlt] using hl
    have : 0 < listed.toList.countP (· == false) := List.countP_pos_iff.2 ⟨listed[I.size], by simp, by simp [hb]⟩
    omega
  | succ fuel ih =>
    intro listed a w hsz hl hi hc
    have hpop := pop_getD hsz hl
    have low : ∀ i, i < I.size → (i ∈ Region.ready .any (I.push ol) listed ↔ i ∈ Region.ready .any I listed.pop) := by
      intro i hlt
      rw [mem_ready, mem_ready, push_get hlt, getD_flip (by omega), getD_flip (by simp; omega), hpop i]
      simp only [hpop]
    have count : ∀ i, i < listed.size → listed.getD i false = false → ((listed.setIfInBounds i true).toList.countP (· == false)) + 1 = listed.toList.countP (· == false) := by
      intro i hlt hun
      have hlt' : i < listed.toList.length := by simpa using hlt
      have e : (listed.setIfInBounds i true).toList = listed.toList.set i true := by simp
      rw [e]
      exact count_set listed.toList i hlt' (by simpa [hlt] using hun)
    refine ⟨fun hnil => ?_, fun i hm => ?_⟩
    · exfalso
      have all : ∀ n i, i < n → i < I.size → listed.getD i false = true := by
        intro n
        induction n with
        | zero => intro i h; omega
        | succ n ih2 =>
          intro i h hlt
          cases hb : listed.getD i false with
          | true => rfl
          | false =>
            exfalso
            obtain ⟨o, ho⟩ : ∃ o, I[i]? = some o := ⟨_, Array.getElem?_eq_getElem hlt⟩
            have hm : i ∈ Region.ready .any I listed.pop := by
              refine mem_ready.2 ⟨by rw [getD_flip (by simp; omega), hpop]; exact hb, o, ho, fun e he hbd => ?_⟩
              have hj : e.on ∈ deps I i := by
                unfold deps
                simp only [ho, List.mem_map, List.mem_filter]
                exact ⟨e, ⟨by simpa using he, hbd⟩, rfl⟩
              have hlt2 := (fits_at hf ho).2.2.2 _ hj
              rw [hpop]
              exact ih2 e.on (by omega) (by omega)
            rw [← low i hlt, hnil] at hm
            cases hm
      have hm : I.size ∈ Region.ready .any (I.push ol) listed := by
        refine mem_ready.2 ⟨by rw [getD_flip (by omega)]; exact hl, ol, by simp, fun e he hb => ?_⟩
        have := hli e he hb
        exact all (e.on + 1) e.on (by omega) this
      rw [hnil] at hm
      cases hm
    · obtain ⟨hun, o, ho, hdep⟩ := mem_ready.1 hm
      have hlt : i < I.size + 1 := by have := (Array.getElem?_eq_some_iff.1 ho).1; simpa using this
      rw [getD_flip (by omega)] at hun
      by_cases hil : i < I.size
      · rw [push_get hil] at ho
        have hgn : o.guard = none := hng o (Array.mem_of_getElem? ho)
        have h1 := RegU.inv_step (Q := Q) hf hpar hG hU hst ho (hs i o ho) hi ((low i hil).1 hm)
        unfold wpOp at h1 ⊢
        rw [push_get hil]
        simp only [ho] at h1 ⊢
        have hw : ∀ y, Region.wanted o y = true := fun y => by unfold Region.wanted; rw [hgn]
        rw [if_pos (hw _)] at h1 ⊢
        have next : ∀ a' w', RegU.Inv I a0 G U par V (listed.pop.setIfInBounds i true) a' w' → wpAny P .any (I.push ol) Q fuel (listed.setIfInBounds i true) a' w' := by
          intro a' w' h'
          refine ih _ a' w' (by simpa using hsz) ?_ (by rw [pop_set hsz hil]; exact h') ?_
          · rw [getD_set_ne false (by omega)]; exact hl
          · have := count i (by omega) hun; omega
        rcases h1 with h1 | h1
        · exact .inl (Oper.wp_mono next h1)
        · exact .inr h1
      · obtain rfl : i = I.size := by omega
        have ho' : o = ol := by simpa using ho.symm
        subst ho'
        obtain ⟨hsz2, hGw, _, _, vals, rfl, hV⟩ := hi
        have hall : ∀ j, j < I.size → listed.getD j false = true := by
          intro j hj
          obtain ⟨e, he, rfl, hb⟩ := hld j hj
          exact hdep e he hb
        have hfa := fill_all hf listed.pop vals (fun j hj => by rw [hpop]; exact hall j hj)
        have hw : ∀ y, Region.wanted o y = true := fun y => by unfold Region.wanted; rw [hlg]
        unfold wpOp
        simp only [ho]
        rw [if_pos (hw _), hfa]
        refine .inl (Oper.wp_mono (fun a' w' h' => done_any (by simpa using hsz) (fun j hj => ?_) h') (hend vals w hGw (fun j hj => hV j (by rw [hpop]; exact hall j hj))))
        by_cases hji : j = I.size
        · subst hji; simp [hsz]
        · rw [getD_set_ne false (Ne.symm hji)]; exact hall j (by omega)

theorem wp_region_last {id : Nat} {w : World} (G : World → Prop) (U : Nat → World → Prop) (R : Nat → World → World → Prop) (par : Nat → Nat) (V : Nat → Value → Value → World → Prop) (S : List (Option Nat)) (D : List (List Nat)) (hm : P.follows .mixedOrders = true) (hl : lists I S D = true) (hf : fits I a0 = true)
    (hng : I.all (fun o => o.guard.isNone) = true) (hlg : ol.guard = none) (hld : (List.range I.size).all (fun j => ol.after.any fun e => e.on == j && Region.binds .any e) = true) (hli : ol.after.all (fun e => decide (e.on < I.size)) = true) (hpar : ∀ i, par i = i ∨ par i ∈ D.getD i [])
    (hG0 : G { w with drawn := w.drawn + 1 }) (hU0 : ∀ i, U i { w with drawn := w.drawn + 1 }) (hG : ∀ i w w', G w → R i w w' → G w') (hU : ∀ j i w w', j ≠ i → j ∉ D.getD i [] → U j w → R i w w' → U j w') (hst : ∀ j i p v w w', i ≠ j → i ∉ D.getD j [] → V j p v w → R i w w' → V j p v w')
    (hs : RegU.AllS S a0 P G U R par V 0 I.toList D)
    (hend : ∀ (vals : Nat → Value) (w' : World), G w' → (∀ i, i < S.length → V i (vals (par i)) (vals i) w') → Oper.wp P ol (putS S a0 (List.range S.length) vals) w' (fun a w => Q .normal a w) Q) :
    (Code.region id (I.push ol) true).wp P Q a0 w := by
  have hlen : S.length = I.size := by
    have h := hl
    unfold lists at h
    simp only [Bool.and_eq_true, beq_iff_eq] at h
    rw [h.1]
    simp
  have hD := RegU.lists_getD hl
  refine wp_region_any hm ?_
  refine inv_last hf (fun o ho => ?_) hlg (fun j hj => ?_) (fun e he _ => ?_) (fun i => ?_) hG (fun j i w w' h1 h2 => hU j i w w' h1 (fun hd => h2 (by rw [← hD i]; exact hd))) (fun j i p v w w' h1 h2 => hst j i p v w w' h1 (fun hd => h2 (by rw [← hD j]; exact hd))) (fun i o ho => ?_) (fun vals w' h1 h2 => ?_) _ _ _ _ ?_ ?_ ?_ ?_ (a0 := a0) (U := U) (V := V) (par := par) (R := R) (G := G)
  · obtain ⟨i, hi, rfl⟩ := Array.getElem_of_mem ho
    have := (Array.all_eq_true.1 hng) i hi
    simpa using this
  · have := (List.all_eq_true.1 hld) j (by simpa using hj)
    obtain ⟨i, hi, h⟩ := Array.any_eq_true.1 this
    simp only [Bool.and_eq_true, beq_iff_eq] at h
    exact ⟨_, Array.getElem_mem hi, h.1, h.2⟩
  · obtain ⟨i, hi, rfl⟩ := Array.getElem_of_mem he
    have := (Array.all_eq_true.1 hli) i hi
    simpa using this
  · rcases hpar i with e | e
    · exact .inl e
    · rw [hD] at e; exact .inr e
  · have hi : i < I.size := (Array.getElem?_eq_some_iff.1 ho).1
    have h := RegU.all_steps I.toList 0 D hs i o (deps I i) (by simpa using ho) (lists_deps hl hi)
    rw [Nat.zero_add] at h
    intro vals w1 K h1 hu h2 h3
    have := h vals w1 K h1 hu h2 (by rw [putS_eq hl]; exact h3)
    rw [putS_eq hl, yieldS_eq hl] at this
    exact this
  · have := hend vals w' h1 (by rw [hlen]; exact h2)
    rw [putS_eq hl, hlen] at this
    exact this
  · simp
  · simp
  · have hn : ∀ j, (Array.replicate (I.push ol).size false).pop.getD j false = false := fun j => by
      rw [pop_getD (n := I.size) (by simp) (by simp)]
      simp [noneListed]
    refine ⟨by simp, hG0, fun j _ => hU0 j, fun j hj => ?_, fun _ => undef, ?_, fun i hi => ?_⟩
    · rw [hn] at hj; cases hj
    · refine act_ext (fun s => ?_) rfl
      rw [fill_get]
      cases slotOf I s with
      | none => rfl
      | some i => simp only []; rw [if_neg]; rw [hn]; decide
    · rw [hn] at hi; cases hi
  · simp [List.countP_replicate]

/-- The steps of all operations but the last. -/
def AllL (S : List (Option Nat)) (a0 : Act) (P : Program) (G : World → Prop) (U : Nat → World → Prop) (R : Nat → World → World → Prop) (par : Nat → Nat) (V : Nat → Value → Value → World → Prop) : Nat → List Oper → List (List Nat) → Prop
  | _, [], _ => True
  | _, [_], _ => True
  | i, o :: o2 :: os, D => RegU.StepS S a0 P G U R par V i (D.headD []) o ∧ AllL S a0 P G U R par V (i + 1) (o2 :: os) D.tail
def LastOp : List Oper → (Oper → Prop) → Prop
  | [], _ => True
  | [o], p => p o
  | _ :: o2 :: os, p => LastOp (o2 :: os) p
theorem lastOp_snoc {o : Oper} {p : Oper → Prop} : ∀ l : List Oper, LastOp (l ++ [o]) p → p o
  | [], h => h
  | [_], h => h
  | _ :: o2 :: l, h => lastOp_snoc (o2 :: l) h
theorem allL_snoc {S : List (Option Nat)} {o : Oper} : ∀ (l : List Oper) (i : Nat) (D : List (List Nat)), AllL S a0 P G U R par V i (l ++ [o]) D → RegU.AllS S a0 P G U R par V i l D
  | [], _, _, _ => trivial
  | [_], _, _, h => ⟨h.1, trivial⟩
  | _ :: o2 :: l, i, D, h => ⟨h.1, allL_snoc (o2 :: l) (i + 1) D.tail h.2⟩

/-- Does the last operation wait for all the others? -/
def lastWaits (ops : Array Oper) : Bool := match ops.back? with
  | some o => o.guard.isNone && ((List.range ops.pop.size).all fun j => o.after.any fun e => e.on == j && Region.binds .any e) && o.after.all fun e => decide (e.on < ops.pop.size)
  | none => false

theorem wp_region_end {ops : Array Oper} {id : Nat} {w : World} (G : World → Prop) (U : Nat → World → Prop) (R : Nat → World → World → Prop) (par : Nat → Nat) (V : Nat → Value → Value → World → Prop) (S : List (Option Nat)) (D : List (List Nat)) (hm : P.follows .mixedOrders = true) (hl : lists ops.pop S D = true) (hf : fits ops.pop a0 = true)
    (hng : ops.pop.all (fun o => o.guard.isNone) = true) (hlw : lastWaits ops = true) (hpar : ∀ i, par i = i ∨ par i ∈ D.getD i [])
    (hG0 : G { w with drawn := w.drawn + 1 }) (hU0 : ∀ i, U i { w with drawn := w.drawn + 1 }) (hG : ∀ i w w', G w → R i w w' → G w') (hU : ∀ j i w w', j ≠ i → j ∉ D.getD i [] → U j w → R i w w' → U j w') (hst : ∀ j i p v w w', i ≠ j → i ∉ D.getD j [] → V j p v w → R i w w' → V j p v w')
    (hs : AllL S a0 P G U R par V 0 ops.toList D)
    (hend : ∀ (vals : Nat → Value) (w' : World), G w' → (∀ i, i < S.length → V i (vals (par i)) (vals i) w') → LastOp ops.toList fun ol => Oper.wp P ol (putS S a0 (List.range S.length) vals) w' (fun a w => Q .normal a w) Q) :
    (Code.region id ops true).wp P Q a0 w := by
  unfold lastWaits at hlw
  cases hb : ops.back? with
  | none => rw [hb] at hlw; cases hlw
  | some o =>
    rw [hb] at hlw
    simp only [Bool.and_eq_true, Option.isNone_iff_eq_none] at hlw
    have hp : ops.pop.push o = ops := by
      apply Array.ext_getElem?
      intro k
      rw [Array.back?_eq_getElem?] at hb
      rw [Array.getElem?_push, Array.getElem?_pop, Array.size_pop]
      have h0 : 0 < ops.size := by
        have := (Array.getElem?_eq_some_iff.1 hb).1; omega
      by_cases hk : k = ops.size - 1
      · rw [if_pos hk, hk, hb]
      · rw [if_neg hk]
        by_cases h2 : k < ops.size - 1
        · rw [if_pos h2]
        · rw [if_neg h2, Array.getElem?_eq_none (by omega)]
    have ht : ops.toList = ops.pop.toList ++ [o] := by
      conv => lhs; rw [← hp]
      simp
    rw [ht] at hs hend
    have := wp_region_last (I := ops.pop) (ol := o) (id := id) (Q := Q) G U R par V S D hm hl hf hng hlw.1.1 hlw.1.2 hlw.2 hpar hG0 hU0 hG hU hst (allL_snoc _ _ _ hs) (fun vals w' h1 h2 => lastOp_snoc _ (hend vals w' h1 h2))
    rw [hp] at this
    exact this
end
end Go.Proofs.YtdeeeechdlcdbaaGreat.RegL
/- A law for a region that draws its order, as RegU's; and of each two values something is told (X) that the later one's birth (R i w v w') gives. -/
namespace Go.Proofs.YtdeeeechdlcdbaaGreat.RegX
open Go Go.RowKit Go.Proofs.YtdeeeechdlcdbaaGreat.Reg

section
variable {ops : Array Oper} {a0 : Act} {P : Program} {G : World → Prop} {U : Nat → World → Prop} {R : Nat → World → Value → World → Prop} {par : Nat → Nat} {V : Nat → Value → Value → World → Prop} {X : Nat → Value → Nat → Value → Prop} {Q : Exit → Act → World → Prop}

/-- One operation's step. -/
def Step (ops : Array Oper) (a0 : Act) (P : Program) (G : World → Prop) (U : Nat → World → Prop) (R : Nat → World → Value → World → Prop) (par : Nat → Nat) (V : Nat → Value → Value → World → Prop) (X : Nat → Value → Nat → Value → Prop) (i : Nat) (o : Oper) : Prop :=
  ∀ (vals : Nat → Value) (w : World) (K : Act → World → Prop), G w → U i w → (∀ j ∈ deps ops i, V j (vals (par j)) (vals j) w) → (∀ j ∈ deps ops i, ∀ k ∈ deps ops i, j ≠ k → X j (vals j) k (vals k)) →
    (∀ v w', R i w v w' → V i (if par i = i then v else vals (par i)) v w' → K ((putAll ops a0 (deps ops i) vals).put o.dst v) w') →
    if Region.wanted o (yielded ops (putAll ops a0 (deps ops i) vals).tmps) = true then Oper.wp P o (putAll ops a0 (deps ops i) vals) w K (fun _ _ _ => False) else K ((putAll ops a0 (deps ops i) vals).put o.dst undef) w

/-- What holds when some operations are done. -/
def Inv (ops : Array Oper) (a0 : Act) (G : World → Prop) (U : Nat → World → Prop) (par : Nat → Nat) (V : Nat → Value → Value → World → Prop) (X : Nat → Value → Nat → Value → Prop) (listed : Array Bool) (a : Act) (w : World) : Prop :=
  listed.size = ops.size ∧ G w ∧ (∀ j, listed.getD j false = false → U j w) ∧ (∀ j, listed.getD j false = true → ∀ k ∈ deps ops j, listed.getD k false = true) ∧ ∃ vals, a = fill ops a0 listed vals ∧ (∀ i, listed.getD i false = true → V i (vals (par i)) (vals i) w) ∧ ∀ i j, i ≠ j → listed.getD i false = true → listed.getD j false = true → X i (vals i) j (vals j)

theorem inv_step (hf : fits ops a0 = true) (hpar : ∀ i, par i = i ∨ par i ∈ deps ops i) (hG : ∀ i w x w', G w → R i w x w' → G w') (hU : ∀ j i w x w', j ≠ i → j ∉ deps ops i → U j w → R i w x w' → U j w') (hst : ∀ j i p v w x w', i ≠ j → i ∉ deps ops j → V j p v w → R i w x w' → V j p v w')
    (hX : ∀ i j p u w v w', i ≠ j → V j p u w → R i w v w' → X i v j u) (hsy : ∀ i v j u, X i v j u → X j u i v) {i : Nat} {o : Oper} (ho : ops[i]? = some o) (hs : Step ops a0 P G U R par V X i o) {listed : Array Bool} {a : Act} {w : World} (hi : Inv ops a0 G U par V X listed a w)
    (hr : i ∈ Region.ready .any ops listed) : wpOp P ops Q i (Inv ops a0 G U par V X (listed.setIfInBounds i true)) a w := by
  obtain ⟨hsz, hR, hun0, hcl, vals, rfl, hV, hXX⟩ := hi
  obtain ⟨hun, o', ho', hall'⟩ := mem_ready.1 hr
  rw [ho] at ho'
  obtain rfl := Option.some.inj ho'
  have hlt : i < listed.size := by rw [hsz]; exact (Array.getElem?_eq_some_iff.1 ho).1
  have hall : ∀ j ∈ deps ops i, listed.getD j false = true := by
    intro j hj
    unfold deps at hj
    simp only [ho, List.mem_map, List.mem_filter] at hj
    obtain ⟨e, ⟨he, hb⟩, rfl⟩ := hj
    exact hall' e (by simpa using he) hb
  obtain ⟨he, hw⟩ := exec_same (vals := vals) hf ho hall
  have hs' := hs vals w
  have hunl : listed.getD i false = false := by
    cases h : listed.getD i false with
    | false => rfl
    | true => simp [hlt] at hun h; rw [hun] at h; cases h
  have next : ∀ v w', R i w v w' → V i (if par i = i then v else vals (par i)) v w' → Inv ops a0 G U par V X (listed.setIfInBounds i true) ((fill ops a0 listed vals).put o.dst v) w' := by
    intro v w' hRw hVi
    refine ⟨by simpa using hsz, hG _ _ _ _ hR hRw, fun j hj => ?_, fun j hj k hk => ?_, _, fill_put hf ho hlt v, fun j hj => ?_, fun j k hjk hj hk => ?_⟩
    · have hji : j ≠ i := by rintro rfl; simp [hlt] at hj
      rw [getD_set_ne false (Ne.symm hji)] at hj
      exact hU j i _ _ _ hji (fun hd => by rw [hall j hd] at hj; cases hj) (hun0 j hj) hRw
    · by_cases hki : k = i
      · subst hki; simp [hlt]
      · rw [getD_set_ne false (Ne.symm hki)]
        by_cases hji : j = i
        · subst hji; exact hall k hk
        · rw [getD_set_ne false (Ne.symm hji)] at hj
          exact hcl j hj k hk
    · by_cases hji : j = i
      · subst hji; simp only [if_true]; exact hVi
      · simp only [if_neg hji]
        rw [getD_set_ne false (Ne.symm hji)] at hj
        have hpi : par j ≠ i := by
          rcases hpar j with e | e
          · rw [e]; exact hji
          · intro e2
            rw [e2] at e
            have := hcl j hj i e
            rw [hunl] at this; cases this
        rw [if_neg hpi]
        exact hst j i _ _ _ _ _ (Ne.symm hji) (fun hd => by have := hcl j hj i hd; rw [hunl] at this; cases this) (hV j hj) hRw
    · by_cases hji : j = i
      · subst hji
        have hkj : k ≠ j := Ne.symm hjk
        rw [getD_set_ne false (Ne.symm hkj)] at hk
        simp only [if_true, if_neg hkj]
        exact hX _ _ _ _ _ _ _ hjk (hV k hk) hRw
      · rw [getD_set_ne false (Ne.symm hji)] at hj
        by_cases hki : k = i
        · subst hki
          simp only [if_true, if_neg hji]
          exact hsy _ _ _ _ (hX _ _ _ _ _ _ _ hjk.symm (hV j hj) hRw)
        · rw [getD_set_ne false (Ne.symm hki)] at hk
          simp only [if_neg hji, if_neg hki]
          exact hXX j k hjk hj hk
  unfold wpOp
  simp only [ho]
  rw [hw]
  by_cases hwt : Region.wanted o (yielded ops (putAll ops a0 (deps ops i) vals).tmps) = true
  · rw [if_pos hwt]
    refine .inl (wp_transfer (a1 := putAll ops a0 (deps ops i) vals) (fun t ht => ?_) he (Post := fun v w' => R i w v w' ∧ V i (if par i = i then v else vals (par i)) v w') ?_ (fun v w' h => next v w' h.1 h.2))
    · unfold putAll; rw [putAll_size]; exact ((fits_at hf ho).1 t ht).2
    · intro K1 hK1
      have := hs' K1 hR (hun0 i hunl) (fun j hj => hV j (hall j hj)) (fun j hj k hk hjk => hXX j k hjk (hall j hj) (hall k hk)) (fun v w' h1 h2 => hK1 v w' ⟨h1, h2⟩)
      rw [if_pos hwt] at this
      exact this
  · rw [if_neg hwt]
    have h2 := hs' (fun a' w' => a'.defers = (putAll ops a0 (deps ops i) vals).defers ∧ (match o.dst with | some t => R i w (a'.tmps.getD t undef) w' ∧ V i (if par i = i then a'.tmps.getD t undef else vals (par i)) (a'.tmps.getD t undef) w' | none => ∃ u, R i w u w' ∧ V i (if par i = i then u else vals (par i)) u w')) hR (hun0 i hunl) (fun j hj => hV j (hall j hj)) (fun j hj k hk hjk => hXX j k hjk (hall j hj) (hall k hk)) (by
      intro v w' h1 h2
      cases hd : o.dst with
      | none => exact ⟨rfl, v, h1, h2⟩
      | some t =>
        have ht : t < (putAll ops a0 (deps ops i) vals).tmps.size := by unfold putAll; rw [putAll_size]; exact ((fits_at hf ho).1 t hd).2
        exact ⟨rfl, by simpa [Act.put, ht] using h1, by simpa [Act.put, ht] using h2⟩)
    rw [if_neg hwt] at h2
    cases hd : o.dst with
    | none =>
      rw [hd] at h2 next
      obtain ⟨_, u, h3, h4⟩ := h2
      exact next u _ h3 h4
    | some t =>
      rw [hd] at h2 next
      have ht : t < (putAll ops a0 (deps ops i) vals).tmps.size := by unfold putAll; rw [putAll_size]; exact ((fits_at hf ho).1 t hd).2
      obtain ⟨_, h3, h4⟩ := h2
      refine next undef _ (by simpa [Act.put, ht] using h3) ?_
      simpa [Act.put, ht] using h4

theorem inv_any (hf : fits ops a0 = true) (hpar : ∀ i, par i = i ∨ par i ∈ deps ops i) (hG : ∀ i w x w', G w → R i w x w' → G w') (hU : ∀ j i w x w', j ≠ i → j ∉ deps ops i → U j w → R i w x w' → U j w') (hst : ∀ j i p v w x w', i ≠ j → i ∉ deps ops j → V j p v w → R i w x w' → V j p v w')
    (hX : ∀ i j p u w v w', i ≠ j → V j p u w → R i w v w' → X i v j u) (hsy : ∀ i v j u, X i v j u → X j u i v) (hs : ∀ i o, ops[i]? = some o → Step ops a0 P G U R par V X i o)
    (hend : ∀ listed a w, Inv ops a0 G U par V X listed a w → Region.ready .any ops listed = [] → Q .normal a w) :
    ∀ (fuel : Nat) (listed : Array Bool) (a : Act) (w : World), Inv ops a0 G U par V X listed a w → (listed.toList.countP (· == false)) ≤ fuel → wpAny P .any ops Q fuel listed a w := by
  intro fuel
  induction fuel with
  | zero =>
    intro listed a w hi hc
    have hnil : Region.ready .any ops listed = [] := by
      cases hr : Region.ready .any ops listed with
      | nil => rfl
      | cons i rs =>
        have hm : i ∈ Region.ready .any ops listed := by rw [hr]; exact List.mem_cons_self ..
        obtain ⟨hun, o, ho, _⟩ := mem_ready.1 hm
        have hlt : i < listed.size := by rw [hi.1]; exact (Array.getElem?_eq_some_iff.1 ho).1
        have hb : listed[i] = false := by simpa [hlt] using hun
        have : 0 < listed.toList.countP (· == false) := List.countP_pos_iff.2 ⟨listed[i], by simp, by simp [hb]⟩
        omega
    exact ⟨hnil, hend _ _ _ hi hnil⟩
  | succ fuel ih =>
    intro listed a w hi hc
    refine ⟨fun h => hend _ _ _ hi h, fun i hm => ?_⟩
    obtain ⟨hun, o, ho, _⟩ := mem_ready.1 hm
    have hlt : i < listed.size := by rw [hi.1]; exact (Array.getElem?_eq_some_iff.1 ho).1
    have hb : listed[i] = false := by simpa [hlt] using hun
    refine wpOp_mono (fun a' w' h' => ih _ a' w' h' ?_) (inv_step hf hpar hG hU hst hX hsy ho (hs i o ho) hi hm)
    have hlt' : i < listed.toList.length := by simpa using hlt
    have hcnt : (listed.toList.set i true).countP (· == false) + 1 = listed.toList.countP (· == false) := by
      exact count_set listed.toList i hlt' (by simpa using hb)
    have e : (listed.setIfInBounds i true).toList = listed.toList.set i true := by simp
    rw [e]
    omega

/-- One step, by the lists: 'D' what the operation waits for. -/
def StepS (S : List (Option Nat)) (a0 : Act) (P : Program) (G : World → Prop) (U : Nat → World → Prop) (R : Nat → World → Value → World → Prop) (par : Nat → Nat) (V : Nat → Value → Value → World → Prop) (X : Nat → Value → Nat → Value → Prop) (i : Nat) (D : List Nat) (o : Oper) : Prop :=
  ∀ (vals : Nat → Value) (w : World) (K : Act → World → Prop), G w → U i w → (∀ j ∈ D, V j (vals (par j)) (vals j) w) → (∀ j ∈ D, ∀ k ∈ D, j ≠ k → X j (vals j) k (vals k)) →
    (∀ v w', R i w v w' → V i (if par i = i then v else vals (par i)) v w' → K ((putS S a0 D vals).put o.dst v) w') →
    if Region.wanted o (yieldS S (putS S a0 D vals).tmps) = true then Oper.wp P o (putS S a0 D vals) w K (fun _ _ _ => False) else K ((putS S a0 D vals).put o.dst undef) w
def AllS (S : List (Option Nat)) (a0 : Act) (P : Program) (G : World → Prop) (U : Nat → World → Prop) (R : Nat → World → Value → World → Prop) (par : Nat → Nat) (V : Nat → Value → Value → World → Prop) (X : Nat → Value → Nat → Value → Prop) : Nat → List Oper → List (List Nat) → Prop
  | _, [], _ => True
  | i, o :: os, D => StepS S a0 P G U R par V X i (D.headD []) o ∧ AllS S a0 P G U R par V X (i + 1) os D.tail

/-- The law: a region whose order is drawn, an operation at a time. -/
theorem wp_region_steps {id : Nat} {a : Act} {w : World} (G : World → Prop) (U : Nat → World → Prop) (R : Nat → World → Value → World → Prop) (par : Nat → Nat) (V : Nat → Value → Value → World → Prop) (X : Nat → Value → Nat → Value → Prop) (hm : P.follows .mixedOrders = true) (hf : fits ops a = true) (hpar : ∀ i, par i = i ∨ par i ∈ deps ops i)
    (hG0 : G { w with drawn := w.drawn + 1 }) (hU0 : ∀ i, U i { w with drawn := w.drawn + 1 }) (hG : ∀ i w x w', G w → R i w x w' → G w') (hU : ∀ j i w x w', j ≠ i → j ∉ deps ops i → U j w → R i w x w' → U j w') (hst : ∀ j i p v w x w', i ≠ j → i ∉ deps ops j → V j p v w → R i w x w' → V j p v w')
    (hX : ∀ i j p u w v w', i ≠ j → V j p u w → R i w v w' → X i v j u) (hsy : ∀ i v j u, X i v j u → X j u i v) (hs : ∀ i o, ops[i]? = some o → Step ops a P G U R par V X i o)
    (hend : ∀ (vals : Nat → Value) (w' : World), G w' → (∀ i, i < ops.size → V i (vals (par i)) (vals i) w') → (∀ i j, i ≠ j → i < ops.size → j < ops.size → X i (vals i) j (vals j)) → Q .normal (putAll ops a (List.range ops.size) vals) w') :
    (Code.region id ops true).wp P Q a w := by
  refine wp_region_any hm ?_
  refine inv_any hf hpar hG hU hst hX hsy hs ?_ _ _ _ _ ?_ ?_ (a0 := a)
  · intro listed a' w' hI hnil
    obtain ⟨hsz, hR, _, _, vals, rfl, hV, hXX⟩ := hI
    have all : ∀ n i, i < n → i < ops.size → listed.getD i false = true := by
      intro n
      induction n with
      | zero => intro i h; omega
      | succ n ih =>
        intro i h hlt
        cases hb : listed.getD i false with
        | true => rfl
        | false =>
          exfalso
          obtain ⟨o, ho⟩ : ∃ o, ops[i]? = some o := ⟨_, Array.getElem?_eq_getElem hlt⟩
          have hm : i ∈ Region.ready .any ops listed := by
            refine mem_ready.2 ⟨?_, o, ho, fun e he hbd => ?_⟩
            · have : i < listed.size := by rw [hsz]; exact hlt
              simp [this] at hb ⊢
              exact hb
            · have hj : e.on ∈ deps ops i := by
                unfold deps
                simp only [ho, List.mem_map, List.mem_filter]
                exact ⟨e, ⟨by simpa using he, hbd⟩, rfl⟩
              have hlt2 := (fits_at hf ho).2.2.2 _ hj
              exact ih e.on (by omega) (by omega)
          rw [hnil] at hm
          cases hm
    rw [fill_all hf listed vals fun i hi => all (i + 1) i (by omega) hi]
    exact hend vals w' hR (fun i hi => hV i (all (i + 1) i (by omega) hi)) fun i j hij hi hj => hXX i j hij (all (i + 1) i (by omega) hi) (all (j + 1) j (by omega) hj)
  · refine ⟨by simp, hG0, fun j _ => hU0 j, fun j hj => ?_, fun _ => undef, ?_, fun i hi => ?_, fun i j _ hi _ => ?_⟩
    · simp [noneListed] at hj
    · refine act_ext (fun s => ?_) rfl
      rw [fill_get]
      cases slotOf ops s with
      | none => rfl
      | some i => simp only []; rw [if_neg]; simp [noneListed]
    · simp [noneListed] at hi
    · simp [noneListed] at hi
  · simp [List.countP_replicate]

theorem all_steps {S : List (Option Nat)} : ∀ (os : List Oper) (k : Nat) (D : List (List Nat)), AllS S a0 P G U R par V X k os D → ∀ i o d, os[i]? = some o → D[i]? = some d → StepS S a0 P G U R par V X (k + i) d o
  | [], k, D, _, i, o, d, ho, _ => by simp at ho
  | o1 :: os, k, D, h, 0, o, d, ho, hd => by
    simp at ho
    subst ho
    cases D with
    | nil => simp at hd
    | cons d1 D => simp at hd; subst hd; exact h.1
  | o1 :: os, k, D, h, i + 1, o, d, ho, hd => by
    cases D with
    | nil => simp at hd
    | cons d1 D =>
      have := all_steps os (k + 1) D h.2 i o d (by simpa using ho) (by simpa using hd)
      rw [show k + (i + 1) = k + 1 + i by omega]
      exact this

theorem lists_getD {S : List (Option Nat)} {D : List (List Nat)} (hl : lists ops S D = true) (i : Nat) : D.getD i [] = deps ops i := by
  by_cases hi : i < ops.size
  · rw [List.getD_eq_getElem?_getD, lists_deps hl hi]; rfl
  · have h := hl
    unfold lists at h
    simp only [Bool.and_eq_true, beq_iff_eq] at h
    rw [h.2, List.getD_eq_getElem?_getD, List.getElem?_eq_none (by simp; omega)]
    unfold deps
    rw [Array.getElem?_eq_none (by omega)]
    rfl
/-- The law, by the lists. -/
theorem wp_region_lists {id : Nat} {a : Act} {w : World} (G : World → Prop) (U : Nat → World → Prop) (R : Nat → World → Value → World → Prop) (par : Nat → Nat) (V : Nat → Value → Value → World → Prop) (X : Nat → Value → Nat → Value → Prop) (S : List (Option Nat)) (D : List (List Nat)) (hm : P.follows .mixedOrders = true) (hl : lists ops S D = true) (hf : fits ops a = true) (hpar : ∀ i, par i = i ∨ par i ∈ D.getD i [])
    (hG0 : G { w with drawn := w.drawn + 1 }) (hU0 : ∀ i, U i { w with drawn := w.drawn + 1 }) (hG : ∀ i w x w', G w → R i w x w' → G w') (hU : ∀ j i w x w', j ≠ i → j ∉ D.getD i [] → U j w → R i w x w' → U j w') (hst : ∀ j i p v w x w', i ≠ j → i ∉ D.getD j [] → V j p v w → R i w x w' → V j p v w')
    (hX : ∀ i j p u w v w', i ≠ j → V j p u w → R i w v w' → X i v j u) (hsy : ∀ i v j u, X i v j u → X j u i v) (hs : AllS S a P G U R par V X 0 ops.toList D)
    (hend : ∀ (vals : Nat → Value) (w' : World), G w' → (∀ i, i < S.length → V i (vals (par i)) (vals i) w') → (∀ i j, i ≠ j → i < S.length → j < S.length → X i (vals i) j (vals j)) → Q .normal (putS S a (List.range S.length) vals) w') :
    (Code.region id ops true).wp P Q a w := by
  have hlen : S.length = ops.size := by
    have h := hl
    unfold lists at h
    simp only [Bool.and_eq_true, beq_iff_eq] at h
    rw [h.1]
    simp
  have hD := lists_getD hl
  refine wp_region_steps G U R par V X hm hf (fun i => ?_) hG0 hU0 hG (fun j i w x w' h1 h2 => hU j i w x w' h1 (fun hd => h2 (by rw [← hD i]; exact hd))) (fun j i p v w x w' h1 h2 => hst j i p v w x w' h1 (fun hd => h2 (by rw [← hD j]; exact hd))) hX hsy (fun i o ho => ?_) (fun vals w' h1 h2 h3 => ?_)
  · rcases hpar i with e | e
    · exact .inl e
    · by_cases hi : i < ops.size
      · have := lists_deps hl hi
        rw [List.getD_eq_getElem?_getD, this] at e
        exact .inr e
      · exfalso
        have h := hl
        unfold lists at h
        simp only [Bool.and_eq_true, beq_iff_eq] at h
        rw [h.2, List.getD_eq_getElem?_getD, List.getElem?_eq_none (by simp; omega)] at e
        cases e
  · have hi : i < ops.size := (Array.getElem?_eq_some_iff.1 ho).1
    have h := all_steps ops.toList 0 D hs i o (deps ops i) (by simpa using ho) (lists_deps hl hi)
    rw [Nat.zero_add] at h
    intro vals w1 K h1 hu h2 hx h3
    have := h vals w1 K h1 hu h2 hx (by rw [putS_eq hl]; exact h3)
    rw [putS_eq hl, yieldS_eq hl] at this
    exact this
  · have := hend vals w' h1 (by rw [hlen]; exact h2) (by rw [hlen]; exact h3)
    rw [putS_eq hl, hlen] at this
    exact this


end
end Go.Proofs.YtdeeeechdlcdbaaGreat.RegX
/- The law of RegL with its last obligation in a structure: what stands there is not reckoned until it is opened. -/
namespace Go.Proofs.YtdeeeechdlcdbaaGreat.RegB
open Go Go.RowKit Go.Proofs.YtdeeeechdlcdbaaGreat.Reg Go.Proofs.YtdeeeechdlcdbaaGreat.RegL
structure Box (p : Prop) : Prop where
  out : p
section
variable {a0 : Act} {P : Program} {G : World → Prop} {U : Nat → World → Prop} {R : Nat → World → World → Prop} {par : Nat → Nat} {V : Nat → Value → Value → World → Prop} {Q : Exit → Act → World → Prop}
theorem wp_region_box {ops : Array Oper} {id : Nat} {w : World} (G : World → Prop) (U : Nat → World → Prop) (R : Nat → World → World → Prop) (par : Nat → Nat) (V : Nat → Value → Value → World → Prop) (S : List (Option Nat)) (D : List (List Nat)) (hm : P.follows .mixedOrders = true) (hl : lists ops.pop S D = true) (hf : fits ops.pop a0 = true)
    (hng : ops.pop.all (fun o => o.guard.isNone) = true) (hlw : lastWaits ops = true) (hpar : ∀ i, par i = i ∨ par i ∈ D.getD i [])
    (hG0 : G { w with drawn := w.drawn + 1 }) (hU0 : ∀ i, U i { w with drawn := w.drawn + 1 }) (hG : ∀ i w w', G w → R i w w' → G w') (hU : ∀ j i w w', j ≠ i → j ∉ D.getD i [] → U j w → R i w w' → U j w') (hst : ∀ j i p v w w', i ≠ j → i ∉ D.getD j [] → V j p v w → R i w w' → V j p v w')
    (hs : AllL S a0 P G U R par V 0 ops.toList D)
    (hend : ∀ (vals : Nat → Value) (w' : World), G w' → (∀ i, i < S.length → V i (vals (par i)) (vals i) w') → Box (LastOp ops.toList fun ol => Oper.wp P ol (putS S a0 (List.range S.length) vals) w' (fun a w => Q .normal a w) Q)) :
    (Code.region id ops true).wp P Q a0 w :=
  wp_region_end G U R par V S D hm hl hf hng hlw hpar hG0 hU0 hG hU hst hs (fun vals w' h1 h2 => (hend vals w' h1 h2).out)
end
end Go.Proofs.YtdeeeechdlcdbaaGreat.RegB
