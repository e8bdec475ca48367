/- Tries in memory. -/
import Derived.Test.YtdeeeechdlcdbaaGreatDi
import Derived.Test.YtdeeeechdlcdbaaGreatTrP
import Derived.Maps.OwnSet
set_option linter.unusedSimpArgs false
set_option linter.unusedVariables false
namespace Go.Proofs.YtdeeeechdlcdbaaGreat.TrM
open Go Go.RowKit Go.Maps Go.Proofs.YtdeeeechdlcdbaaGreat.Base Go.Proofs.YtdeeeechdlcdbaaGreat.TrP
theorem law5 : Keyed Tryz.prog 5 := int_keyed Tryz.underlying5
theorem zero3 (w : World) : (zeroValue 3).run Tryz.prog w = .ok (.int .i64 0) w := by kernel_rfl
theorem info63 : (Tryz.prog.info? 122).map (fun i => (i.zero, i.size, i.bytes)) = some (some (.agg #[.string ⟨#[]⟩, .int .i64 0, .map none]), 3, 32) := by kernel_rfl
def key (c : Int) : Lit := .int .u8 c
theorem wf_u8 {c : Int} (h : 0 ≤ c ∧ c ≤ 255) : (Lit.int .u8 c).wf = true := by
  simp [Lit.wf, IntKind.min, IntKind.max, IntKind.signed, IntKind.bits]; omega
theorem wf_nat {x : Nat} (h : x ≤ 1000000) : (Lit.int .i64 (x : Int)).wf = true := by
  simp [Lit.wf, IntKind.min, IntKind.max, IntKind.signed, IntKind.bits]; omega
theorem isKey (c : Int) : WideAt.IsKeyLit (key c) := by
  simp [key, WideAt.IsKeyLit]
/-- Block b is a map of at most m entries that holds f. -/
def MapAt (w : World) (m b : Nat) (f : Int → Option Nat) : Prop :=
  ∃ D : DataW Unit, w.ownsMap Tryz.prog 5 (plainElem Tryz.prog 3) b m D ∧ ∀ c : Int, 0 ≤ c ∧ c ≤ 255 → Maps.has D (key c) = (f c).isSome ∧ D.atKey (key c) (.lit (.int .i64 0)) = .lit (.int .i64 (((f c).getD 0 : Nat) : Int))
section
variable {w w' : World} {m b : Nat} {f : Int → Option Nat}
theorem MapAt.lt (h : MapAt w m b f) : b < w.heap.size := by obtain ⟨D, h, _⟩ := h; exact h.lt
theorem MapAt.mono (h : MapAt w m b f) {m' : Nat} (hm : m ≤ m') : MapAt w m' b f := by
  obtain ⟨D, h, r⟩ := h
  exact ⟨D, h.mono hm, r⟩
theorem MapAt.kept (h : MapAt w m b f) {row : Option Nat} (hg : w.grownBy w' row) (hne : some b ≠ row) : MapAt w' m b f := by
  obtain ⟨D, h, r⟩ := h
  exact ⟨D, h.kept hg hne, r⟩
theorem MapAt.below (h : MapAt w m b f) (hb : Below w.heap.size w w') : MapAt w' m b f := by
  have hlt := h.lt
  obtain ⟨D, ⟨es, clock, hbk, r⟩, s⟩ := h
  exact ⟨D, ⟨es, clock, (hb.block b hlt).trans hbk, r⟩, s⟩
theorem MapAt.setCell (h : MapAt w m b f) {a : Addr} (ha : b ≠ a.block) (u : Value) : MapAt (w.setCell a u) m b f := by
  obtain ⟨D, h, r⟩ := h
  exact ⟨D, h.setCell ha u, r⟩
theorem MapAt.made (w : World) : MapAt (w.alloc (.map #[] 0)) 0 w.heap.size (fun _ => none) :=
  ⟨.map [], World.ownsMap_made _ _ _ _, fun c _ => ⟨rfl, rfl⟩⟩
/-- A map is no block of cells. -/
theorem MapAt.ne (h : MapAt w m b f) {g : Nat} {cs : Array Value} {t : TypeId} {r : Nat × Nat} (hg : w.heap[g]? = some (.cells cs t r)) : b ≠ g := by
  obtain ⟨D, ⟨es, clock, hbk, _⟩, _⟩ := h
  rintro rfl
  rw [hbk] at hg
  injection hg with hg
  cases hg
theorem MapAt.look (h : MapAt w m b f) {c : Int} (hc : 0 ≤ c ∧ c ≤ 255) : (Instr.lookup 120 (.map (some b)) (.int .u8 c) true).run Tryz.prog w = .ok (.tuple #[.int .i64 (((f c).getD 0 : Nat) : Int), .bool (f c).isSome]) w := by
  obtain ⟨D, h, r⟩ := h
  obtain ⟨v, ps, hrun, hv⟩ := h.look_ok law5 Tryz.underlying120 (zero3 w) (plainElem_int Tryz.underlying3 (by decide)) (keyOf_int_mk Tryz.underlying5 (wf_u8 hc))
  obtain ⟨a, rfl, ha, _⟩ := plainElem_int_inv Tryz.underlying3 hv
  obtain ⟨r1, r2⟩ := r c hc
  have e1 : Maps.has D (Lit.int .u8 c) = (f c).isSome := r1
  have e2 : D.atKey (Lit.int .u8 c) (.lit (.int .i64 0)) = .lit (.int .i64 (((f c).getD 0 : Nat) : Int)) := r2
  have e3 : D.atKey (Lit.int .u8 c) (.lit (.int .i64 0)) = .lit (.int .i64 a) := congrArg Prod.fst ha
  have e4 : a = (((f c).getD 0 : Nat) : Int) := by
    exact (Lit.int.inj (DataW.lit.inj (e3.symm.trans e2))).2
  rw [← e4, ← e1]
  exact hrun
theorem MapAt.put (h : MapAt w m b f) (hm : m < maxLen) {c : Int} (hc : 0 ≤ c ∧ c ≤ 255) {x : Nat} (hx : x ≤ 1000000) :
    ∃ w', (Instr.mapUpdate 120 (.map (some b)) (.int .u8 c) (.int .i64 (x : Int))).run Tryz.prog w = .ok () w' ∧ MapAt w' (m + 1) b (fun d => if d = c then some x else f d) ∧ w.grownBy w' (some b) := by
  obtain ⟨D, h, r⟩ := h
  obtain ⟨w', hrun, ho, hg⟩ := h.update law5 Tryz.underlying120 hm (keyOf_int_mk Tryz.underlying5 (wf_u8 hc)) (plainElem_int Tryz.underlying3 (wf_nat hx))
  refine ⟨w', hrun, ⟨_, ho, fun d hd => ?_⟩, hg⟩
  have hI : IsMap D := h.isMap
  by_cases hdc : d = c
  · subst hdc
    have e : (fun d' : Int => if d' = d then some x else f d') d = some x := if_pos rfl
    rw [e]
    exact ⟨has_put_same hI (isKey d) _, atKey_put_same hI (isKey d) _ _⟩
  · have e : (fun d' : Int => if d' = c then some x else f d') d = f d := if_neg hdc
    rw [e]
    have hne : key d ≠ Lit.int .u8 c := by
      intro e
      unfold key at e
      injection e with _ e
      exact hdc e
    obtain ⟨r1, r2⟩ := r d hd
    exact ⟨(has_put_other hne _).trans r1, (atKey_put_other hne _ _).trans r2⟩
end
/-- A node in memory: a plain node, and its map's block. -/
structure Nd where
  p : Pn
  mp : Nat
def cells3 (n : Nd) : List Value := [.string n.p.text, .int .i64 n.p.word, .map (some n.mp)]
/-- Block p is a trie of these nodes; its blocks lie from B on. -/
structure TrieAt (B : Nat) (w : World) (p : Nat) (N : List Nd) (m : Nat) : Prop where
  ge : B ≤ p
  row : ∃ v, w.heap[p]? = some (.cells #[v] 118 (0, 0)) ∧ w.ownsRow B 122 3 v N.length (N.flatMap cells3)
  maps : ∀ nd ∈ N, B ≤ nd.mp ∧ MapAt w m nd.mp nd.p.sons
  apart : (N.map (·.mp)).Nodup
theorem TrieAt.below {B p m : Nat} {w w' : World} {N : List Nd} (h : TrieAt B w p N m) (hb : Below w.heap.size w w') : TrieAt B w' p N m := by
  obtain ⟨h1, ⟨v, h2, h3⟩, h4, h5⟩ := h
  exact ⟨h1, ⟨v, heap_below hb h2, own_below h3 hb⟩, fun nd hn => ⟨(h4 nd hn).1, (h4 nd hn).2.below hb⟩, h5⟩
theorem flat3 : ∀ (l : List Nd) (k i : Nat) (nd : Nd) (u : Value), l[k]? = some nd → (cells3 nd)[i]? = some u → (l.flatMap cells3)[k * 3 + i]? = some u
  | [], k, i, nd, u, h, _ => by simp at h
  | f :: l, 0, i, nd, u, h, hu => by
    simp at h; subst h
    have h4 : i < (cells3 f).length := (List.getElem?_eq_some_iff.1 hu).1
    rw [List.flatMap_cons, Nat.zero_mul, Nat.zero_add, List.getElem?_append_left h4]
    exact hu
  | f :: l, k + 1, i, nd, u, h, hu => by
    have e : (cells3 f).length = 3 := rfl
    rw [List.flatMap_cons, List.getElem?_append_right (by rw [e]; omega), e, show (k + 1) * 3 + i - 3 = k * 3 + i by omega]
    exact flat3 l k i nd u (by simpa using h) hu
/-- The header and a node's cells, for a walk. -/
theorem TrieAt.node {B p m : Nat} {w : World} {N : List Nd} (h : TrieAt B w p N m) {k : Nat} {nd : Nd} (hk : N[k]? = some nd) :
    ∃ g cp, w.cell? ⟨p, 0, none⟩ = some (.slice (some ⟨g, 0, none⟩) N.length cp) ∧ w.cell? ⟨g, k * 3, none⟩ = some (.string nd.p.text) ∧ w.cell? ⟨g, k * 3 + 1, none⟩ = some (.int .i64 nd.p.word) ∧ w.cell? ⟨g, k * 3 + 2, none⟩ = some (.map (some nd.mp)) := by
  obtain ⟨h1, ⟨v, h2, h3⟩, h4, h5⟩ := h
  obtain ⟨V, cp, rfl, hc⟩ := own_form h3
  have hlt : k < N.length := (List.getElem?_eq_some_iff.1 hk).1
  obtain ⟨g, rfl, _, hcell⟩ := hc (by omega)
  exact ⟨g, cp, cell_of h2 rfl, hcell _ _ (flat3 N k 0 nd _ hk rfl), hcell _ _ (flat3 N k 1 nd _ hk rfl), hcell _ _ (flat3 N k 2 nd _ hk rfl)⟩
theorem TrieAt.head {B p m : Nat} {w : World} {N : List Nd} (h : TrieAt B w p N m) : ∃ V cp, w.cell? ⟨p, 0, none⟩ = some (.slice V N.length cp) := by
  obtain ⟨h1, ⟨v, h2, h3⟩, h4, h5⟩ := h
  obtain ⟨V, cp, rfl, hc⟩ := own_form h3
  exact ⟨V, cp, cell_of h2 rfl⟩
end Go.Proofs.YtdeeeechdlcdbaaGreat.TrM
