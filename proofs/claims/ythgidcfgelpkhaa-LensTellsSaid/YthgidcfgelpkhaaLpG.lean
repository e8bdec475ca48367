/- Weights and room by what was chosen. Plain Lean. -/
import Derived.Test.YthgidcfgelpkhaaLpF
import Derived.Test.YthgidcfgelpkhaaLnG
namespace Go.Proofs.Ythgidcfgelpkhaa
open Go.Sort

theorem sum_filter (h : Nat → Int) (p : Nat → Bool) : ∀ l : List Nat, (∀ x ∈ l, p x = false → h x = 0) → (l.map h).sum = ((l.filter p).map h).sum
  | [], _ => rfl
  | x :: l, hz => by
    have ih := sum_filter h p l (fun y hy => hz y (List.mem_cons_of_mem _ hy))
    rw [List.filter_cons]
    cases hp : p x with
    | true => simp only [if_true, List.map_cons, List.sum_cons, ih]
    | false =>
      simp only [Bool.false_eq_true, if_false, List.map_cons, List.sum_cons, ih, hz x (List.mem_cons_self ..) hp]
      omega
/-- A sum over all places, of which only some count. -/
theorem sum_sub {n : Nat} {ss : List Nat} (hd : ss.Nodup) (hs : ∀ x ∈ ss, x < n) (h : Nat → Int) (h0 : ∀ x, x < n → x ∉ ss → h x = 0) : ((List.range n).map h).sum = (ss.map h).sum := by
  rw [sum_filter h (fun x => decide (x ∈ ss)) _ (fun x hx hp => h0 x (by simpa using hx) (by simpa using hp))]
  refine perm_sum (List.Perm.map h ?_)
  rw [List.perm_ext_iff_of_nodup (List.nodup_range.filter _) hd]
  intro x
  rw [List.mem_filter]
  simp only [List.mem_range, decide_eq_true_eq]
  exact ⟨fun h => h.2, fun h => ⟨hs x h, h⟩⟩
theorem weightP_range : ∀ (xs cs : List Int), xs.length = cs.length → weightP xs cs = ((List.range cs.length).map fun s => xs.getD s 0 * cs.getD s 0).sum
  | [], [], _ => by simp [weightP]
  | [], _ :: _, h => by simp at h
  | _ :: _, [], h => by simp at h
  | x :: xs, c :: cs, h => by
    have ih := weightP_range xs cs (by simpa using h)
    rw [weightP, List.length_cons, List.range_succ_eq_map, List.map_cons, List.sum_cons, List.map_map, ih]
    rfl
theorem sum_add (f g : Nat → Int) : ∀ l : List Nat, (l.map fun x => f x + g x).sum = (l.map f).sum + (l.map g).sum
  | [] => rfl
  | x :: l => by simp only [List.map_cons, List.sum_cons, sum_add f g l]; omega
theorem sum_count {n : Nat} (c : Nat → Int) : ∀ occ : List Nat, (∀ x ∈ occ, x < n) → ((List.range n).map fun s => (occ.count s : Int) * c s).sum = (occ.map c).sum
  | [], _ => by
    simp only [List.count_nil, List.map_nil, List.sum_nil]
    generalize List.range n = l
    induction l with
    | nil => rfl
    | cons a l ih => simp only [List.map_cons, List.sum_cons, ih]; simp
  | x :: occ, h => by
    have ih := sum_count c occ (fun y hy => h y (List.mem_cons_of_mem _ hy))
    have hx := sum_sub (n := n) (ss := [x]) (by simp) (by simpa using h x (List.mem_cons_self ..)) (fun s => if x = s then c s else 0) (fun y _ hy => if_neg (fun e => hy (by rw [e]; exact List.mem_singleton_self _)))
    have e : (fun s => ((x :: occ).count s : Int) * c s) = fun s => (occ.count s : Int) * c s + (if x = s then c s else 0) := by
      funext s
      rw [List.count_cons]
      by_cases hxs : x = s
      · rw [if_pos (by simp [hxs]), if_pos hxs, Int.natCast_add, Int.add_mul]; simp
      · rw [if_neg (by simp [hxs]), if_neg hxs]; simp
    rw [e, sum_add, ih, hx]
    simp [Int.add_comm]
theorem chosen_lt {most : Nat} {zs : List Int} : ∀ x ∈ chosenP most zs, x < zs.length := by
  intro x hx
  unfold chosenP at hx
  obtain ⟨p, hp, hxp⟩ := List.mem_flatMap.1 hx
  exact level_syms zs (most - 1) p (List.mem_of_mem_take hp) x hxp
theorem intsOf_getD (xs : List Nat) (s : Nat) : (intsOf xs).getD s 0 = (xs.getD s 0 : Int) := by
  unfold intsOf
  rw [List.getD_eq_getElem?_getD, List.getD_eq_getElem?_getD, List.getElem?_map]
  cases xs[s]? <;> rfl
theorem lens_getD {most : Nat} {zs : List Int} {s : Nat} (hs : s < zs.length) : (lensP most zs).getD s 0 = (chosenP most zs).count s := by
  rw [lensP_eq, List.getD_eq_getElem?_getD, counts_at _ hs]; rfl
/-- The weight by whichever counts: those of what was chosen. -/
theorem weight_chosen {most : Nat} {zs cs : List Int} (hl : cs.length = zs.length) : weightP (intsOf (lensP most zs)) cs = ((chosenP most zs).map fun x => cs.getD x 0).sum := by
  rw [weightP_range _ _ (by rw [intsOf_length, lensP_length, hl])]
  rw [← sum_count (n := cs.length) (fun s => cs.getD s 0) (chosenP most zs) (fun x hx => by rw [hl]; exact chosen_lt x hx)]
  congr 1
  refine List.map_congr_left fun s hs => ?_
  rw [intsOf_getD, lens_getD (by rw [← hl]; simpa using hs)]
theorem sum_flatMap (c : Nat → Int) (g : Nat → List Nat) : ∀ T : List Nat, ((T.flatMap g).map c).sum = (T.map fun t => ((g t).map c).sum).sum
  | [] => rfl
  | t :: T => by rw [List.flatMap_cons, List.map_append, List.sum_append, List.map_cons, List.sum_cons, sum_flatMap c g T]
theorem weight_takes {most : Nat} {zs cs : List Int} (hl : cs.length = zs.length) (hfit : takeN (singleP zs).length ≤ (levelP (singleP zs) (most - 1)).length) :
    weightP (intsOf (lensP most zs)) cs = ((takesP most zs).map fun t => (((symsP zs).take t).map fun x => cs.getD x 0).sum).sum := by
  rw [weight_chosen hl, perm_sum ((chosen_takes hfit).map _), sum_flatMap]
theorem syms_freq (zs : List Int) (t : Nat) : (((symsP zs).take t).map fun x => zs.getD x 0).sum = (((freqP zs).take t).sum : Nat) := by
  have e : (symsP zs).map (fun x => zs.getD x 0) = (freqP zs).map fun (x : Nat) => (x : Int) := by
    refine List.ext_getElem (by rw [List.length_map, List.length_map, syms_length, freq_length]) fun r h1 h2 => ?_
    rw [List.getElem_map, List.getElem_map]
    exact (freq_at zs (by simpa using h1) (by simpa using h2)).symm
  rw [List.map_take, e, ← List.map_take]
  generalize (freqP zs).take t = l
  induction l with
  | nil => rfl
  | cons a l ih => simp only [List.map_cons, List.sum_cons, ih]; omega
theorem perm_sumN {l1 l2 : List Nat} (h : l1.Perm l2) : l1.sum = l2.sum := by
  induction h with
  | nil => rfl
  | cons a _ ih => rw [List.sum_cons, List.sum_cons, ih]
  | swap a b l => simp only [List.sum_cons]; omega
  | trans _ _ i1 i2 => rw [i1, i2]
theorem pack_sum : ∀ (l : List Nat) (p : Nat), 2 * p ≤ l.length → ((packN l).take p).sum = (l.take (2 * p)).sum
  | _, 0, _ => by simp
  | [], p + 1, h => by simp at h
  | [_], p + 1, h => by simp at h; omega
  | a :: b :: l, p + 1, h => by
    have := pack_sum l p (by simp at h; omega)
    rw [packN, List.take_succ_cons, List.sum_cons, this, show 2 * (p + 1) = 2 * p + 1 + 1 by omega, List.take_succ_cons, List.take_succ_cons, List.sum_cons, List.sum_cons]
    omega
theorem level_sum (f : List Nat) : ∀ (k n : Nat), n ≤ (levelN f k).length → ((levelN f k).take n).sum = ((profN f k n).map fun t => (f.take t).sum).sum
  | 0, n, _ => by simp [levelN, profN]
  | k + 1, n, hn => by
    have hr := tkN_rest n f (packN (levelN f k)) (by rw [packN_length]; rw [levelN_length] at hn; exact hn)
    rw [packN_length] at hr
    have h2 : 2 * (n - tkN n f (packN (levelN f k))) ≤ (levelN f k).length := by omega
    rw [levelN, perm_sumN (takeN_mrg n f (packN (levelN f k))), List.sum_append, pack_sum _ _ h2, level_sum f k _ h2, profN]
    rfl
/-- The weight by the own counts: that of the first of the last level. -/
theorem weight_own {most : Nat} {zs : List Int} (hfit : takeN (singleP zs).length ≤ (levelP (singleP zs) (most - 1)).length) :
    weightP (intsOf (lensP most zs)) zs = (((levelN (freqP zs) (most - 1)).take (takeN (freqP zs).length)).sum : Nat) := by
  rw [weight_takes rfl hfit, freq_length, level_sum _ _ _ (by rw [level_freq]; exact hfit)]
  unfold takesP
  generalize profN (freqP zs) (most - 1) (takeN (singleP zs).length) = T
  induction T with
  | nil => rfl
  | cons t T ih => simp only [List.map_cons, List.sum_cons, syms_freq] at ih ⊢; rw [ih]; omega
/-- A sum over the symbols' lengths. -/
theorem lens_sum {most : Nat} {zs : List Int} (hfit : takeN (singleP zs).length ≤ (levelP (singleP zs) (most - 1)).length) (g : Int → Int) (h0 : g 0 = 0) :
    ((intsOf (lensP most zs)).map g).sum = ((List.range (freqP zs).length).map fun r => g (lenAt (takesP most zs) r)).sum := by
  have e1 : (intsOf (lensP most zs)).map g = (List.range zs.length).map fun s => g ((lensP most zs).getD s 0) := by
    refine List.ext_getElem (by simp [intsOf_length, lensP_length]) fun s h1 h2 => ?_
    simp only [List.length_map, intsOf_length] at h1
    simp [intsOf, h1]
  rw [e1, sum_sub (syms_nodup zs) (fun x hx => (mem_syms.1 hx).1) (fun s => g ((lensP most zs).getD s 0)) (fun x hx hn => by
    rw [lens_none hx (fun h => hn (mem_syms.2 ⟨hx, h⟩))]; exact h0)]
  congr 1
  refine List.ext_getElem (by rw [List.length_map, List.length_map, List.length_range, freq_length, syms_length]) fun r h1 h2 => ?_
  rw [List.getElem_map, List.getElem_map, List.getElem_range, lens_rank hfit (by simpa using h1)]
end Go.Proofs.Ythgidcfgelpkhaa
