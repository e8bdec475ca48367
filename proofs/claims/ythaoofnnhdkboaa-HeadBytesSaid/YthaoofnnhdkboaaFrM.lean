/- What stays and what turns while a head is made in a region that draws. -/
import Derived.Test.YthaoofnnhdkboaaFrF
import Derived.Test.YthaoofnnhdkboaaRegP
import Derived.Test.YthaoofnnhdkboaaCrcT
import Derived.WalkSpells
set_option linter.unusedSimpArgs false
set_option linter.unusedVariables false
namespace Go.Proofs.Ythaoofnnhdkboaa.FrM
open Go.RowKit Go.Proofs.Ythaoofnnhdkboaa.CrcL Go.Proofs.Ythaoofnnhdkboaa.FrW Go.Proofs.Ythaoofnnhdkboaa.FrH Go.Proofs.Ythaoofnnhdkboaa.FrG Go.Proofs.Ythaoofnnhdkboaa.FrU Go.Proofs.Ythaoofnnhdkboaa.FrL Go.Proofs.Ythaoofnnhdkboaa.FrP Go.Proofs.Ythaoofnnhdkboaa.FrE Go.Proofs.Ythaoofnnhdkboaa.FrA Go.Proofs.Ythaoofnnhdkboaa.FrN Go.Proofs.Ythaoofnnhdkboaa.FrF
open Go.Proofs.Ythaoofnnhdkboaa.CrcT (conv1 xor8 u8_of u8_range wrap_k1)
attribute [local go_sem high] eqA49

/-- Below n0 nothing turns; from n0 on a block stays, but that one of a head's form may become X. -/
def RR (n0 : Nat) (X : Array Value) (W W' : World) : Prop := Below n0 W W' ∧ ∀ (j : Nat) (o : Obj), W.heap[j]? = some o → W'.heap[j]? = some o ∨ ((∃ vs : Array Value, o = Obj.cells vs 49 (0, 0) ∧ vs.size = 3) ∧ W'.heap[j]? = some (Obj.cells X 49))
/-- A block of a head's form. -/
def One (X : Array Value) (W : World) (b : Nat) : Prop := ∃ vs : Array Value, W.heap[b]? = some (Obj.cells vs 49) ∧ vs.size = 3
theorem rr_refl (n0 : Nat) (X : Array Value) (W : World) : RR n0 X W W := ⟨Below.refl _ _, fun j o h => .inl h⟩
theorem rr_trans (n0 : Nat) (X : Array Value) (hX : X.size = 3) (a b c : World) (h : RR n0 X a b) (k : RR n0 X b c) : RR n0 X a c := by
  refine ⟨Below.trans h.1 k.1, fun j o hj => ?_⟩
  rcases h.2 j o hj with h1 | ⟨h1, h2⟩
  · exact k.2 j o h1
  · rcases k.2 j _ h2 with h3 | ⟨_, h3⟩
    · exact .inr ⟨h1, h3⟩
    · exact .inr ⟨h1, h3⟩
theorem rr_size {X : Array Value} {w W : World} (h : RR w.heap.size X { w with drawn := w.drawn + 1 } W) : w.heap.size ≤ W.heap.size := h.1.size
theorem rr_alloc {X : Array Value} {w W : World} (h : RR w.heap.size X { w with drawn := w.drawn + 1 } W) (o : Obj) : RR w.heap.size X W (W.alloc o) := by
  refine ⟨Below.alloc (Below.refl _ _) (rr_size h) o, fun j o' hj => .inl ?_⟩
  rw [Below.heap_alloc _ _ _ (Array.getElem?_eq_some_iff.1 hj).1]; exact hj
theorem rr_below {X : Array Value} {w W W' : World} (h : RR w.heap.size X { w with drawn := w.drawn + 1 } W) (hb : Below W.heap.size W W') : RR w.heap.size X W W' := by
  refine ⟨hb.mono (rr_size h), fun j o' hj => .inl ?_⟩
  rw [hb.block j (Array.getElem?_eq_some_iff.1 hj).1]; exact hj
theorem cell_of {W : World} {b : Nat} {v : Value} (h : W.heap[b]? = some (Obj.cells #[v] 5)) : W.cell? ⟨b, 0, none⟩ = some v := by
  unfold World.cell?; simp [h]
theorem one_new (X : Array Value) (W : World) : One X (W.alloc (.cells #[.int .i64 0, .int .i64 0, .int .u64 0] 49)) W.heap.size :=
  ⟨#[.int .i64 0, .int .i64 0, .int .u64 0], by show (W.heap.push _)[W.heap.size]? = _; simp, rfl⟩
/-- Three cells of a head's form, written one by one. -/
theorem three_cells {m b : Nat} {W : World} (u1 u2 u3 : Value) (hone : One #[u1, u2, u3] W b) (hm : m ≤ b) :
    RR m #[u1, u2, u3] W (((W.setCell ⟨b, 0, none⟩ u1).setCell ⟨b, 1, none⟩ u2).setCell ⟨b, 2, none⟩ u3) ∧ (((W.setCell ⟨b, 0, none⟩ u1).setCell ⟨b, 1, none⟩ u2).setCell ⟨b, 2, none⟩ u3).heap[b]? = some (.cells #[u1, u2, u3] 49) := by
  obtain ⟨vs, hb, hs⟩ := hone
  obtain ⟨y1, y2, y3, rfl⟩ : ∃ y1 y2 y3, vs = #[y1, y2, y3] := by
    match vs, hs with
    | ⟨[y1, y2, y3]⟩, _ => exact ⟨_, _, _, rfl⟩
  have hfin : (((W.setCell ⟨b, 0, none⟩ u1).setCell ⟨b, 1, none⟩ u2).setCell ⟨b, 2, none⟩ u3).heap[b]? = some (.cells #[u1, u2, u3] 49) := by
    simp only [World.setCell, Array.getElem?_modify, if_true, hb]
    rfl
  refine ⟨⟨Below.setCell (Below.setCell (Below.setCell (Below.refl _ _) hm _) hm _) hm _, fun j o hj => ?_⟩, hfin⟩
  by_cases h : j = b
  · subst h
    rw [hb] at hj
    obtain rfl := Option.some.inj hj
    exact .inr ⟨⟨_, rfl, rfl⟩, hfin⟩
  · refine .inl ?_
    rw [Below.heap_setCell _ _ _ _ h, Below.heap_setCell _ _ _ _ h, Below.heap_setCell _ _ _ _ h]
    exact hj
theorem step_store {A : Act} {aft : Array Edge} {pos : String} {ty b m : Nat} {x1 x2 x3 : Int} {W : World} {K : Act → World → Prop} (h1 : A.tmps[10]?.getD undef = .pointer (some ⟨b, 0, none⟩)) (h2 : A.tmps[59]?.getD undef = .agg #[.int .i64 x1, .int .i64 x2, .int .u64 x3])
    (hone : One #[.int .i64 x1, .int .i64 x2, .int .u64 x3] W b) (hm : m ≤ b) (hK : ∀ W', RR m #[.int .i64 x1, .int .i64 x2, .int .u64 x3] W W' → W'.heap[b]? = some (.cells #[.int .i64 x1, .int .i64 x2, .int .u64 x3] 49) → K A W') :
    Oper.wp Try.prog { dst := none, op := .store 49 (.tmp 10) (.tmp 59), type := ty, pos := pos, after := aft, guard := none } A W K (fun _ _ _ => False) := by
  have hs := three_cells (m := m) _ _ _ hone hm
  obtain ⟨vs, hb, hz⟩ := hone
  obtain ⟨y1, y2, y3, rfl⟩ : ∃ y1 y2 y3, vs = #[y1, y2, y3] := by
    match vs, hz with
    | ⟨[y1, y2, y3]⟩, _ => exact ⟨_, _, _, rfl⟩
  have hc0 : W.cell? ⟨b, 0, none⟩ = some y1 := by unfold World.cell?; simp [hb]
  have hc1 : W.cell? ⟨b, 1, none⟩ = some y2 := by unfold World.cell?; simp [hb]
  have hc2 : W.cell? ⟨b, 2, none⟩ = some y3 := by unfold World.cell?; simp [hb]
  have hf0 : ∀ i, W.frozen? ⟨b, i, none⟩ = false := by intro i; unfold World.frozen?; simp [hb]
  clear hb hz
  unfold Oper.wp
  obtain ⟨hr, hl⟩ := hs
  have hk := hK _ hr hl
  clear hK hr hl
  go_simp
  exact hk
theorem step_of {S : List (Option Nat)} {a0 : Act} {P : Program} {R : World → World → Prop} {par : Nat → Nat} {V : Nat → Value → Value → World → Prop} {w0 : World} {i : Nat} {D : List Nat} {o : Oper} (hg : o.guard = none)
    (h : ∀ (A : Act) (vals : Nat → Value) (w : World) (K : Act → World → Prop), A = Reg.putS S a0 D vals → R w0 w → (∀ j ∈ D, V j (vals (par j)) (vals j) w) → (∀ v w', R w w' → V i (if par i = i then v else vals (par i)) v w' → K (A.put o.dst v) w') → Oper.wp P o A w K (fun _ _ _ => False)) : RegP.StepS S a0 P R par V w0 i D o := by
  intro vals w K h1 h2 h3
  rw [if_pos (show Region.wanted o _ = true by unfold Region.wanted; rw [hg])]
  exact h _ vals w K rfl h1 h2 h3
theorem wanted_none {o : Oper} {f : Nat → Option Bool} (h : o.guard = none) : Region.wanted o f = true := by unfold Region.wanted; rw [h]
theorem ite_wp {c : Prop} [Decidable c] {A B : Prop} (hc : c) (h : A) : if c then A else B := by rw [if_pos hc]; exact h
/-- The operation of a list that writes a slot last. -/
def lastOf (S : List (Option Nat)) : List Nat → Nat → Option Nat
  | [], _ => none
  | i :: l, s => match lastOf S l s with | some j => some j | none => if S.getD i none = some s then some i else none
theorem putS_none {S : List (Option Nat)} {vals : Nat → Value} {s : Nat} : ∀ (l : List Nat) (a : Act), lastOf S l s = none → (Reg.putS S a l vals).tmps[s]? = a.tmps[s]?
  | [], _, _ => rfl
  | i :: l, a, h => by
    unfold lastOf at h
    cases hl : lastOf S l s with
    | some j => rw [hl] at h; cases h
    | none =>
      rw [hl] at h
      have hi : S.getD i none ≠ some s := by intro e; simp only [e, if_true] at h; cases h
      show (Reg.putS S (a.put (S.getD i none) (vals i)) l vals).tmps[s]? = _
      rw [putS_none l _ hl, Reg.put_get, if_neg hi]
theorem putS_get {S : List (Option Nat)} {vals : Nat → Value} {s j : Nat} : ∀ (l : List Nat) (a : Act), lastOf S l s = some j → s < a.tmps.size → (Reg.putS S a l vals).tmps[s]?.getD undef = vals j
  | [], _, h, _ => by cases h
  | i :: l, a, h, hs => by
    show (Reg.putS S (a.put (S.getD i none) (vals i)) l vals).tmps[s]?.getD undef = _
    unfold lastOf at h
    cases hl : lastOf S l s with
    | some j' =>
      rw [hl] at h
      obtain rfl := Option.some.inj h
      refine putS_get l _ hl ?_
      cases S.getD i none <;> simpa [Act.put] using hs
    | none =>
      rw [hl] at h
      by_cases hi : S.getD i none = some s
      · simp only [hi, if_true, Option.some.injEq] at h
        subst h
        rw [putS_none l _ hl, Reg.put_get, if_pos hi, Array.getElem?_eq_getElem hs]
        rfl
      · simp only [hi, if_false] at h
        cases h
theorem putA {S : List (Option Nat)} {A : Act} {a0 : Act} {l : List Nat} {vals : Nat → Value} {s j : Nat} (hA : A = Reg.putS S a0 l vals) (h : lastOf S l s = some j) (hs : s < a0.tmps.size) : A.tmps[s]?.getD undef = vals j := by
  subst hA
  exact putS_get _ _ h hs
theorem step_assign {A : Act} {aft : Array Edge} {pos : String} {ty : Nat} {u : Value} {W : World} {K : Act → World → Prop} (h1 : A.tmps[60]?.getD undef = u) (hK : K (A.put (some 11) u) W) :
    Oper.wp Try.prog { dst := some 11, op := .assign (.tmp 60), type := ty, pos := pos, after := aft, guard := none } A W K (fun _ _ _ => False) := by
  unfold Oper.wp
  go_simp
  exact hK
def par (i : Nat) : Nat := if i = 21 then 20 else i
theorem par_ok (D : List (List Nat)) (h : 20 ∈ D.getD 21 []) (i : Nat) : par i = i ∨ par i ∈ D.getD i [] := by
  by_cases e : i = 21
  · subst e; exact .inr h
  · exact .inl (if_neg e)
/-- What the region's operations yield. -/
def bytesV (q : ByteArray) (c y : Int) (k : Nat) (e x1 x2 x3 : Int) (n0 : Nat) (Z : ByteArray) (i : Nat) (p v : Value) (W : World) : Prop := match i with
  | 0 => v = .string q
  | 1 => v = .int .i64 (k : Int)
  | 2 => v = .string (q.extract 0 k)
  | 3 => v = .string q
  | 4 => v = .int .i64 (k : Int)
  | 5 => v = .int .u8 c
  | 6 => v = .int .u8 y
  | 7 => v = .int .u8 (Go.bits .xor .u8 c y)
  | 8 => ∃ b, v = .slice (some ⟨b, 0, none⟩) 1 1 ∧ n0 ≤ b ∧ W.heap[b]? = some (Obj.cells #[.int .u8 (Go.bits .xor .u8 c y)] 5)
  | 9 => v = .string Z
  | 10 => v = .string (q.extract 0 k ++ Z)
  | 11 => v = .string q
  | 12 => v = .int .i64 (k : Int)
  | 13 => v = .int .i64 ((k : Int) + 1)
  | 14 => v = .string (q.extract (k + 1) 17)
  | 15 => v = .string (q.extract 0 k ++ Z ++ q.extract (k + 1) 17)
  | 16 => v = .tuple #[.agg #[.int .i64 x1, .int .i64 x2, .int .u64 x3], .int .i64 e]
  | 17 => v = .tuple #[.agg #[.int .i64 x1, .int .i64 x2, .int .u64 x3], .int .i64 e]
  | 18 => v = .agg #[.int .i64 x1, .int .i64 x2, .int .u64 x3]
  | 19 => v = .int .i64 e
  | 20 => ∃ b, n0 ≤ b ∧ v = .pointer (some ⟨b, 0, none⟩) ∧ One #[.int .i64 x1, .int .i64 x2, .int .u64 x3] W b
  | 21 => ∃ b, p = .pointer (some ⟨b, 0, none⟩) ∧ W.heap[b]? = some (Obj.cells #[.int .i64 x1, .int .i64 x2, .int .u64 x3] 49)
  | 22 => v = .int .i64 e
  | _ => True

theorem bytesV_stay {q : ByteArray} {c y : Int} {k : Nat} {e x1 x2 x3 : Int} {n0 m : Nat} {Z : ByteArray} {i : Nat} {p v : Value} {W W' : World} (h : bytesV q c y k e x1 x2 x3 n0 Z i p v W) (hr : RR m #[.int .i64 x1, .int .i64 x2, .int .u64 x3] W W') : bytesV q c y k e x1 x2 x3 n0 Z i p v W' := by
  unfold bytesV at h ⊢
  split at h
  case h_9 =>
    obtain ⟨b, e, hb, hc⟩ := h
    rcases hr.2 _ _ hc with h1 | ⟨⟨vs, h1, _⟩, _⟩
    · exact ⟨b, e, hb, h1⟩
    · injection h1 with _ h1; cases h1
  case h_21 =>
    obtain ⟨b, hb, e, vs, hc, hz⟩ := h
    rcases hr.2 _ _ hc with h1 | ⟨_, h1⟩
    · exact ⟨b, hb, e, vs, h1, hz⟩
    · exact ⟨b, hb, e, _, h1, rfl⟩
  case h_22 =>
    obtain ⟨b, e, hc⟩ := h
    rcases hr.2 _ _ hc with h1 | ⟨_, h1⟩
    · exact ⟨b, e, h1⟩
    · exact ⟨b, e, h1⟩
  all_goals exact h
end Go.Proofs.Ythaoofnnhdkboaa.FrM
