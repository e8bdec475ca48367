/- The law for a region that draws its order (RegU), where the last operation waits for all the others: that one may write a slot which the others read. -/
import Derived.Test.YtdeeeechdlcdbaaRegU
namespace Go.Proofs.Ytdeeeechdlcdbaa.RegL
open Go Go.RowKit Go.Proofs.Ytdeeeechdlcdbaa.Reg

section
variable {I : Array Oper} {ol : Oper} {a0 : Act} {P : Program} {G : World → Prop} {U : Nat → World → Prop} {R : Nat → World → World → Prop} {par : Nat → Nat} {V : Nat → Value → Value → World → Prop} {Q : Exit → Act → World → Prop}

theorem pop_getD {l : Array Bool} {n : Nat} (hs : l.size = n + 1) (hl : l.getD n false = false) (j : Nat) : l.pop.getD j false = l.getD j false := by
  rcases Nat.lt_trichotomy j n with h | h | h
  · rw [Array.getD_eq_getD_getElem?, Array.getD_eq_getD_getElem?, Array.getElem?_pop]
    rw [if_pos (by omega)]
  · subst h
    rw [hl, Array.getD_eq_getD_getElem?, Array.getElem?_eq_none (by simp; omega)]; rfl
  · rw [Array.getD_eq_getD_getElem?, Array.getD_eq_getD_getElem?, Array.getElem?_eq_none (by simp; omega), Array.getElem?_eq_none (by omega)]

theorem getD_flip {l : Array Bool} {j : Nat} (h : j < l.size) : l.getD j true = l.getD j false := by
  rw [Array.getD_eq_getD_getElem?, Array.getD_eq_getD_getElem?, Array.getElem?_eq_getElem h]; rfl

theorem pop_set {l : Array Bool} {i n : Nat} (hs : l.size = n + 1) (hi : i < n) : (l.setIfInBounds i true).pop = l.pop.setIfInBounds i true := by
  apply Array.ext_getElem?
  intro k
  simp only [Array.getElem?_pop, Array.getElem?_setIfInBounds, Array.size_setIfInBounds, Array.size_pop]
  by_cases hk : i = k
  · subst hk
    simp only [if_true]
    rw [if_pos (by omega), if_pos (by omega), if_pos (by omega)]
  · simp only [if_neg hk]

theorem push_get {i : Nat} (hi : i < I.size) : (I.push ol)[i]? = I[i]? := by
  rw [Array.getElem?_push, if_neg (by omega)]

theorem done_any {fuel : Nat} {listed : Array Bool} {a : Act} {w : World} (hsz : listed.size = I.size + 1) (hall : ∀ j, j < I.size + 1 → listed.getD j false = true) (h : Q .normal a w) : wpAny P .any (I.push ol) Q fuel listed a w := by
  have hnil : Region.ready .any (I.push ol) listed = [] := by
    cases hr : Region.ready .any (I.push ol) listed with
    | nil => rfl
    | cons i rs =>
      have hm : i ∈ Region.ready .any (I.push ol) listed := by rw [hr]; exact List.mem_cons_self ..
      obtain ⟨hun, o, ho, _⟩ := mem_ready.1 hm
      have hlt : i < I.size + 1 := by have := (Array.getElem?_eq_some_iff.1 ho).1; simpa using this
      rw [getD_flip (by omega), hall i hlt] at hun
      cases hun
  cases fuel with
  | zero => exact ⟨hnil, h⟩
  | succ f => exact ⟨fun _ => h, fun i hi => by rw [hnil] at hi; cases hi⟩

theorem inv_last (hf : fits I a0 = true) (hng : ∀ o ∈ I, o.guard = none) (hlg : ol.guard = none) (hld : ∀ j, j < I.size → ∃ e ∈ ol.after, e.on = j ∧ Region.binds .any e = true) (hli : ∀ e ∈ ol.after, Region.binds .any e = true → e.on < I.size)
    (hpar : ∀ i, par i = i ∨ par i ∈ deps I i) (hG : ∀ i w w', G w → R i w w' → G w') (hU : ∀ j i w w', j ≠ i → j ∉ deps I i → U j w → R i w w' → U j w') (hst : ∀ j i p v w w', i ≠ j → i ∉ deps I j → V j p v w → R i w w' → V j p v w')
    (hs : ∀ i o, I[i]? = some o → RegU.Step I a0 P G U R par V i o)
    (hend : ∀ (vals : Nat → Value) (w : World), G w → (∀ i, i < I.size → V i (vals (par i)) (vals i) w) → Oper.wp P ol (putAll I a0 (List.range I.size) vals) w (fun a w => Q .normal a w) Q) :
    ∀ (fuel : Nat) (listed : Array Bool) (a : Act) (w : World), listed.size = I.size + 1 → listed.getD I.size false = false → RegU.Inv I a0 G U par V listed.pop a w → (listed.toList.countP (· == false)) ≤ fuel → wpAny P .any (I.push ol) Q fuel listed a w := by
  intro fuel
  induction fuel with
  | zero =>
    intro listed a w hsz hl hi hc
    have hlt : I.size < listed.size := by omega
    have hb : listed[I.size] = false := by simpa [hlt] using hl
    have : 0 < listed.toList.countP (· == false) := List.countP_pos_iff.2 ⟨listed[I.size], by simp, by simp [hb]⟩
    omega
  | succ fuel ih =>
    intro listed a w hsz hl hi hc
    have hpop := pop_getD hsz hl
    have low : ∀ i, i < I.size → (i ∈ Region.ready .any (I.push ol) listed ↔ i ∈ Region.ready .any I listed.pop) := by
      intro i hlt
      rw [mem_ready, mem_ready, push_get hlt, getD_flip (by omega), getD_flip (by simp; omega), hpop i]
      simp only [hpop]
    have count : ∀ i, i < listed.size → listed.getD i false = false → ((listed.setIfInBounds i true).toList.countP (· == false)) + 1 = listed.toList.countP (· == false) := by
      intro i hlt hun
      have hlt' : i < listed.toList.length := by simpa using hlt
      have e : (listed.setIfInBounds i true).toList = listed.toList.set i true := by simp
      rw [e]
      exact count_set listed.toList i hlt' (by simpa [hlt] using hun)
    refine ⟨fun hnil => ?_, fun i hm => ?_⟩
    · exfalso
      have all : ∀ n i, i < n → i < I.size → listed.getD i false = true := by
        intro n
        induction n with
        | zero => intro i h; omega
        | succ n ih2 =>
          intro i h hlt
          cases hb : listed.getD i false with
          | true => rfl
          | false =>
            exfalso
            obtain ⟨o, ho⟩ : ∃ o, I[i]? = some o := ⟨_, Array.getElem?_eq_getElem hlt⟩
            have hm : i ∈ Region.ready .any I listed.pop := by
              refine mem_ready.2 ⟨by rw [getD_flip (by simp; omega), hpop]; exact hb, o, ho, fun e he hbd => ?_⟩
              have hj : e.on ∈ deps I i := by
                unfold deps
                simp only [ho, List.mem_map, List.mem_filter]
                exact ⟨e, ⟨by simpa using he, hbd⟩, rfl⟩
              have hlt2 := (fits_at hf ho).2.2.2 _ hj
              rw [hpop]
              exact ih2 e.on (by omega) (by omega)
            rw [← low i hlt, hnil] at hm
            cases hm
      have hm : I.size ∈ Region.ready .any (I.push ol) listed := by
        refine mem_ready.2 ⟨by rw [getD_flip (by omega)]; exact hl, ol, by simp, fun e he hb => ?_⟩
        have := hli e he hb
        exact all (e.on + 1) e.on (by omega) this
      rw [hnil] at hm
      cases hm
    · obtain ⟨hun, o, ho, hdep⟩ := mem_ready.1 hm
      have hlt : i < I.size + 1 := by have := (Array.getElem?_eq_some_iff.1 ho).1; simpa using this
      rw [getD_flip (by omega)] at hun
      by_cases hil : i < I.size
      · rw [push_get hil] at ho
        have hgn : o.guard = none := hng o (Array.mem_of_getElem? ho)
        have h1 := RegU.inv_step (Q := Q) hf hpar hG hU hst ho (hs i o ho) hi ((low i hil).1 hm)
        unfold wpOp at h1 ⊢
        rw [push_get hil]
        simp only [ho] at h1 ⊢
        have hw : ∀ y, Region.wanted o y = true := fun y => by unfold Region.wanted; rw [hgn]
        rw [if_pos (hw _)] at h1 ⊢
        have next : ∀ a' w', RegU.Inv I a0 G U par V (listed.pop.setIfInBounds i true) a' w' → wpAny P .any (I.push ol) Q fuel (listed.setIfInBounds i true) a' w' := by
          intro a' w' h'
          refine ih _ a' w' (by simpa using hsz) ?_ (by rw [pop_set hsz hil]; exact h') ?_
          · rw [getD_set_ne false (by omega)]; exact hl
          · have := count i (by omega) hun; omega
        rcases h1 with h1 | h1
        · exact .inl (Oper.wp_mono next h1)
        · exact .inr h1
      · obtain rfl : i = I.size := by omega
        have ho' : o = ol := by simpa using ho.symm
        subst ho'
        obtain ⟨hsz2, hGw, _, _, vals, rfl, hV⟩ := hi
        have hall : ∀ j, j < I.size → listed.getD j false = true := by
          intro j hj
          obtain ⟨e, he, rfl, hb⟩ := hld j hj
          exact hdep e he hb
        have hfa := fill_all hf listed.pop vals (fun j hj => by rw [hpop]; exact hall j hj)
        have hw : ∀ y, Region.wanted o y = true := fun y => by unfold Region.wanted; rw [hlg]
        unfold wpOp
        simp only [ho]
        rw [if_pos (hw _), hfa]
        refine .inl (Oper.wp_mono (fun a' w' h' => done_any (by simpa using hsz) (fun j hj => ?_) h') (hend vals w hGw (fun j hj => hV j (by rw [hpop]; exact hall j hj))))
        by_cases hji : j = I.size
        · subst hji; simp [hsz]
        · rw [getD_set_ne false (Ne.symm hji)]; exact hall j (by omega)

theorem wp_region_last {id : Nat} {w : World} (G : World → Prop) (U : Nat → World → Prop) (R : Nat → World → World → Prop) (par : Nat → Nat) (V : Nat → Value → Value → World → Prop) (S : List (Option Nat)) (D : List (List Nat)) (hm : P.follows .mixedOrders = true) (hl : lists I S D = true) (hf : fits I a0 = true)
    (hng : I.all (fun o => o.guard.isNone) = true) (hlg : ol.guard = none) (hld : (List.range I.size).all (fun j => ol.after.any fun e => e.on == j && Region.binds .any e) = true) (hli : ol.after.all (fun e => decide (e.on < I.size)) = true) (hpar : ∀ i, par i = i ∨ par i ∈ D.getD i [])
    (hG0 : G { w with drawn := w.drawn + 1 }) (hU0 : ∀ i, U i { w with drawn := w.drawn + 1 }) (hG : ∀ i w w', G w → R i w w' → G w') (hU : ∀ j i w w', j ≠ i → j ∉ D.getD i [] → U j w → R i w w' → U j w') (hst : ∀ j i p v w w', i ≠ j → i ∉ D.getD j [] → V j p v w → R i w w' → V j p v w')
    (hs : RegU.AllS S a0 P G U R par V 0 I.toList D)
    (hend : ∀ (vals : Nat → Value) (w' : World), G w' → (∀ i, i < S.length → V i (vals (par i)) (vals i) w') → Oper.wp P ol (putS S a0 (List.range S.length) vals) w' (fun a w => Q .normal a w) Q) :
    (Code.region id (I.push ol) true).wp P Q a0 w := by
  have hlen : S.length = I.size := by
    have h := hl
    unfold lists at h
    simp only [Bool.and_eq_true, beq_iff_eq] at h
    rw [h.1]
    simp
  have hD := RegU.lists_getD hl
  refine wp_region_any hm ?_
  refine inv_last hf (fun o ho => ?_) hlg (fun j hj => ?_) (fun e he _ => ?_) (fun i => ?_) hG (fun j i w w' h1 h2 => hU j i w w' h1 (fun hd => h2 (by rw [← hD i]; exact hd))) (fun j i p v w w' h1 h2 => hst j i p v w w' h1 (fun hd => h2 (by rw [← hD j]; exact hd))) (fun i o ho => ?_) (fun vals w' h1 h2 => ?_) _ _ _ _ ?_ ?_ ?_ ?_ (a0 := a0) (U := U) (V := V) (par := par) (R := R) (G := G)
  · obtain ⟨i, hi, rfl⟩ := Array.getElem_of_mem ho
    have := (Array.all_eq_true.1 hng) i hi
    simpa using this
  · have := (List.all_eq_true.1 hld) j (by simpa using hj)
    obtain ⟨i, hi, h⟩ := Array.any_eq_true.1 this
    simp only [Bool.and_eq_true, beq_iff_eq] at h
    exact ⟨_, Array.getElem_mem hi, h.1, h.2⟩
  · obtain ⟨i, hi, rfl⟩ := Array.getElem_of_mem he
    have := (Array.all_eq_true.1 hli) i hi
    simpa using this
  · rcases hpar i with e | e
    · exact .inl e
    · rw [hD] at e; exact .inr e
  · have hi : i < I.size := (Array.getElem?_eq_some_iff.1 ho).1
    have h := RegU.all_steps I.toList 0 D hs i o (deps I i) (by simpa using ho) (lists_deps hl hi)
    rw [Nat.zero_add] at h
    intro vals w1 K h1 hu h2 h3
    have := h vals w1 K h1 hu h2 (by rw [putS_eq hl]; exact h3)
    rw [putS_eq hl, yieldS_eq hl] at this
    exact this
  · have := hend vals w' h1 (by rw [hlen]; exact h2)
    rw [putS_eq hl, hlen] at this
    exact this
  · simp
  · simp
  · have hn : ∀ j, (Array.replicate (I.push ol).size false).pop.getD j false = false := fun j => by
      rw [pop_getD (n := I.size) (by simp) (by simp)]
      simp [noneListed]
    refine ⟨by simp, hG0, fun j _ => hU0 j, fun j hj => ?_, fun _ => undef, ?_, fun i hi => ?_⟩
    · rw [hn] at hj; cases hj
    · refine act_ext (fun s => ?_) rfl
      rw [fill_get]
      cases slotOf I s with
      | none => rfl
      | some i => simp only []; rw [if_neg]; rw [hn]; decide
    · rw [hn] at hi; cases hi
  · simp [List.countP_replicate]

/-- The steps of all operations but the last. -/
def AllL (S : List (Option Nat)) (a0 : Act) (P : Program) (G : World → Prop) (U : Nat → World → Prop) (R : Nat → World → World → Prop) (par : Nat → Nat) (V : Nat → Value → Value → World → Prop) : Nat → List Oper → List (List Nat) → Prop
  | _, [], _ => True
  | _, [_], _ => True
  | i, o :: o2 :: os, D => RegU.StepS S a0 P G U R par V i (D.headD []) o ∧ AllL S a0 P G U R par V (i + 1) (o2 :: os) D.tail
def LastOp : List Oper → (Oper → Prop) → Prop
  | [], _ => True
  | [o], p => p o
  | _ :: o2 :: os, p => LastOp (o2 :: os) p
theorem lastOp_snoc {o : Oper} {p : Oper → Prop} : ∀ l : List Oper, LastOp (l ++ [o]) p → p o
  | [], h => h
  | [_], h => h
  | _ :: o2 :: l, h => lastOp_snoc (o2 :: l) h
theorem allL_snoc {S : List (Option Nat)} {o : Oper} : ∀ (l : List Oper) (i : Nat) (D : List (List Nat)), AllL S a0 P G U R par V i (l ++ [o]) D → RegU.AllS S a0 P G U R par V i l D
  | [], _, _, _ => trivial
  | [_], _, _, h => ⟨h.1, trivial⟩
  | _ :: o2 :: l, i, D, h => ⟨h.1, allL_snoc (o2 :: l) (i + 1) D.tail h.2⟩

/-- Does the last operation wait for all the others? -/
def lastWaits (ops : Array Oper) : Bool := match ops.back? with
  | some o => o.guard.isNone && ((List.range ops.pop.size).all fun j => o.after.any fun e => e.on == j && Region.binds .any e) && o.after.all fun e => decide (e.on < ops.pop.size)
  | none => false

theorem wp_region_end {ops : Array Oper} {id : Nat} {w : World} (G : World → Prop) (U : Nat → World → Prop) (R : Nat → World → World → Prop) (par : Nat → Nat) (V : Nat → Value → Value → World → Prop) (S : List (Option Nat)) (D : List (List Nat)) (hm : P.follows .mixedOrders = true) (hl : lists ops.pop S D = true) (hf : fits ops.pop a0 = true)
    (hng : ops.pop.all (fun o => o.guard.isNone) = true) (hlw : lastWaits ops = true) (hpar : ∀ i, par i = i ∨ par i ∈ D.getD i [])
    (hG0 : G { w with drawn := w.drawn + 1 }) (hU0 : ∀ i, U i { w with drawn := w.drawn + 1 }) (hG : ∀ i w w', G w → R i w w' → G w') (hU : ∀ j i w w', j ≠ i → j ∉ D.getD i [] → U j w → R i w w' → U j w') (hst : ∀ j i p v w w', i ≠ j → i ∉ D.getD j [] → V j p v w → R i w w' → V j p v w')
    (hs : AllL S a0 P G U R par V 0 ops.toList D)
    (hend : ∀ (vals : Nat → Value) (w' : World), G w' → (∀ i, i < S.length → V i (vals (par i)) (vals i) w') → LastOp ops.toList fun ol => Oper.wp P ol (putS S a0 (List.range S.length) vals) w' (fun a w => Q .normal a w) Q) :
    (Code.region id ops true).wp P Q a0 w := by
  unfold lastWaits at hlw
  cases hb : ops.back? with
  | none => rw [hb] at hlw; cases hlw
  | some o =>
    rw [hb] at hlw
    simp only [Bool.and_eq_true, Option.isNone_iff_eq_none] at hlw
    have hp : ops.pop.push o = ops := by
      apply Array.ext_getElem?
      intro k
      rw [Array.back?_eq_getElem?] at hb
      rw [Array.getElem?_push, Array.getElem?_pop, Array.size_pop]
      have h0 : 0 < ops.size := by
        have := (Array.getElem?_eq_some_iff.1 hb).1; omega
      by_cases hk : k = ops.size - 1
      · rw [if_pos hk, hk, hb]
      · rw [if_neg hk]
        by_cases h2 : k < ops.size - 1
        · rw [if_pos h2]
        · rw [if_neg h2, Array.getElem?_eq_none (by omega)]
    have ht : ops.toList = ops.pop.toList ++ [o] := by
      conv => lhs; rw [← hp]
      simp
    rw [ht] at hs hend
    have := wp_region_last (I := ops.pop) (ol := o) (id := id) (Q := Q) G U R par V S D hm hl hf hng hlw.1.1 hlw.1.2 hlw.2 hpar hG0 hU0 hG hU hst (allL_snoc _ _ _ hs) (fun vals w' h1 h2 => lastOp_snoc _ (hend vals w' h1 h2))
    rw [hp] at this
    exact this
end
end Go.Proofs.Ytdeeeechdlcdbaa.RegL
