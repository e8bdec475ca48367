/- How many symbols are taken at each level: fewer and fewer; all of them at the last one; so that the lengths leave no room. Plain Lean. -/
import Derived.Test.YthgidcfgelpkhaaLpD
namespace Go.Proofs.Ythgidcfgelpkhaa
open Go.Sort

theorem map_tag (l : List Nat) : (l.map fun x => ((x, []) : PC)).map (·.1) = l := by rw [List.map_map]; exact List.map_id'' (fun _ => rfl) l
theorem takeN_mrg (n : Nat) (xs ys : List Nat) : ((mrg ltN xs ys).take n).Perm (xs.take (tkN n xs ys) ++ ys.take (n - tkN n xs ys)) := by
  have h := (take_mrg n (xs.map fun x => ((x, []) : PC)) (ys.map fun x => ((x, []) : PC))).map (·.1)
  rw [map_tag, map_tag, List.map_take, mrg_map, map_tag, map_tag, List.map_append, List.map_take, List.map_take, map_tag, map_tag] at h
  exact h
/-- What is taken of the second list is less than what is left of the first. -/
theorem tk_lt : ∀ (n : Nat) (xs ys : List Nat), xs.Pairwise (· ≤ ·) → ∀ (h : tkN n xs ys < xs.length), ∀ y ∈ ys.take (n - tkN n xs ys), y < xs[tkN n xs ys]
  | 0, _, _, _, _ => by intro y hy; simp at hy
  | n + 1, [], _, _, h => by simp at h
  | n + 1, x :: xs, [], _, _ => by intro y hy; simp at hy
  | n + 1, x :: xs, y :: ys, hs, h => by
    cases hy : ltN y x with
    | true =>
      have e : tkN (n + 1) (x :: xs) (y :: ys) = tkN n (x :: xs) ys := by rw [tkN, hy, if_pos rfl]
      have h' : tkN n (x :: xs) ys < (x :: xs).length := by rw [← e]; exact h
      have ih := tk_lt n (x :: xs) ys hs h'
      have hle := (tkN_le n (x :: xs) ys).1
      intro z hz
      simp only [e] at hz ⊢
      rw [show n + 1 - tkN n (x :: xs) ys = (n - tkN n (x :: xs) ys) + 1 by omega, List.take_succ_cons] at hz
      rcases List.mem_cons.1 hz with hz | hz
      · have h0 : x ≤ (x :: xs)[tkN n (x :: xs) ys] := by
          rcases List.mem_cons.1 (List.getElem_mem h') with q | q
          · rw [q]; exact Nat.le_refl _
          · exact List.rel_of_pairwise_cons hs q
        have : y < x := by simpa [ltN] using hy
        rw [hz]; omega
      · exact ih z hz
    | false =>
      have e : tkN (n + 1) (x :: xs) (y :: ys) = 1 + tkN n xs (y :: ys) := by rw [tkN, hy, if_neg (by decide)]
      have h' : tkN n xs (y :: ys) < xs.length := by rw [e, List.length_cons] at h; omega
      have ih := tk_lt n xs (y :: ys) hs.of_cons h'
      intro z hz
      simp only [e] at hz ⊢
      rw [show n + 1 - (1 + tkN n xs (y :: ys)) = n - tkN n xs (y :: ys) by omega] at hz
      have := ih z hz
      simp only [Nat.add_comm 1, List.getElem_cons_succ]
      exact this
theorem pack_mem {v : Nat} : ∀ (l : List Nat) (p : Nat), 2 * p ≤ l.length → v ∈ l.take (2 * p) → ∃ y ∈ (packN l).take p, v ≤ y
  | _, 0, _, h => by simp at h
  | [], p + 1, h, _ => by simp at h
  | [_], p + 1, h, _ => by simp at h; omega
  | a :: b :: l, p + 1, h, hv => by
    rw [show 2 * (p + 1) = 2 * p + 1 + 1 by omega, List.take_succ_cons, List.take_succ_cons] at hv
    rw [packN, List.take_succ_cons]
    rcases List.mem_cons.1 hv with hv | hv
    · exact ⟨a + b, List.mem_cons_self .., by omega⟩
    · rcases List.mem_cons.1 hv with hv | hv
      · exact ⟨a + b, List.mem_cons_self .., by omega⟩
      · obtain ⟨y, hy, hle⟩ := pack_mem l p (by simp at h; omega) hv
        exact ⟨y, List.mem_cons_of_mem _ hy, hle⟩

def headN (l : List Nat) : Nat := l.headD 0
theorem prof_top {f : List Nat} {k n i : Nat} (hi : i < headN (profN f k n)) (hf : i < f.length) : f[i] ∈ (levelN f k).take n := by
  cases k with
  | zero =>
    simp only [profN, headN, List.headD_cons] at hi
    rw [levelN]
    exact List.mem_take_iff_getElem.2 ⟨i, by omega, rfl⟩
  | succ k =>
    simp only [profN, headN, List.headD_cons] at hi
    rw [levelN]
    refine (takeN_mrg n f (packN (levelN f k))).mem_iff.2 (List.mem_append_left _ ?_)
    exact List.mem_take_iff_getElem.2 ⟨i, by omega, rfl⟩
theorem prof_le {f : List Nat} (hs : f.Pairwise (· ≤ ·)) : ∀ (k n : Nat), n ≤ (levelN f k).length → (∀ t ∈ profN f k n, t ≤ headN (profN f k n)) ∧ headN (profN f k n) ≤ f.length
  | 0, n, hn => by
    simp only [profN, headN, List.headD_cons, List.mem_singleton]
    rw [levelN] at hn
    exact ⟨fun t ht => by omega, hn⟩
  | k + 1, n, hn => by
    have hle := tkN_le n f (packN (levelN f k))
    have hr := tkN_rest n f (packN (levelN f k)) (by rw [packN_length]; rw [levelN_length] at hn; exact hn)
    rw [packN_length] at hr
    have h2 : 2 * (n - tkN n f (packN (levelN f k))) ≤ (levelN f k).length := by omega
    obtain ⟨i1, i2⟩ := prof_le hs k _ h2
    have step : headN (profN f k (2 * (n - tkN n f (packN (levelN f k))))) ≤ tkN n f (packN (levelN f k)) := by
      refine Nat.le_of_not_lt fun hlt => ?_
      have hfl : tkN n f (packN (levelN f k)) < f.length := by omega
      obtain ⟨y, hy, hle'⟩ := pack_mem (levelN f k) _ h2 (prof_top hlt hfl)
      have := tk_lt n f (packN (levelN f k)) hs hfl y hy
      omega
    simp only [profN, headN, List.headD_cons, List.mem_cons]
    refine ⟨fun t ht => ?_, hle.2⟩
    rcases ht with ht | ht
    · rw [ht]; exact Nat.le_refl _
    · exact Nat.le_trans (i1 t ht) step
theorem prof_few {f : List Nat} (hs : f.Pairwise (· ≤ ·)) : ∀ (k n c : Nat), n ≤ (levelN f k).length → 1 ≤ c → 2 * c ≤ n → ¬ headN (profN f k n) ≤ c
  | 0, n, c, _, h1, h2, h => by simp only [profN, headN, List.headD_cons] at h; omega
  | k + 1, n, c, hn, h1, h2, h => by
    have hle := tkN_le n f (packN (levelN f k))
    have hr := tkN_rest n f (packN (levelN f k)) (by rw [packN_length]; rw [levelN_length] at hn; exact hn)
    rw [packN_length] at hr
    have h3 : 2 * (n - tkN n f (packN (levelN f k))) ≤ (levelN f k).length := by omega
    have hm := (prof_le hs (k + 1) n hn).1
    simp only [profN, headN, List.headD_cons] at h hm
    refine prof_few hs k _ c h3 h1 (by omega) ?_
    have : headN (profN f k (2 * (n - tkN n f (packN (levelN f k))))) ∈ profN f k (2 * (n - tkN n f (packN (levelN f k)))) := by
      have hl := profN_length f k (2 * (n - tkN n f (packN (levelN f k))))
      cases hp : profN f k (2 * (n - tkN n f (packN (levelN f k)))) with
      | nil => rw [hp] at hl; simp at hl
      | cons a l => simp [headN]
    exact Nat.le_trans (hm _ (List.mem_cons_of_mem _ this)) h
/-- At the last level all symbols are taken. -/
theorem prof_all {f : List Nat} (hs : f.Pairwise (· ≤ ·)) (k : Nat) (h2 : 2 ≤ f.length) (hn : 2 * f.length - 2 ≤ (levelN f k).length) : headN (profN f k (2 * f.length - 2)) = f.length := by
  have h1 := (prof_le hs k _ hn).2
  have := prof_few hs k (2 * f.length - 2) (f.length - 1) hn (by omega) (by omega)
  omega

/-- The length of the symbol of rank r. -/
def lenAt (T : List Nat) (r : Nat) : Nat := T.countP fun t => decide (r < t)
theorem lenAt_le (T : List Nat) (r : Nat) : lenAt T r ≤ T.length := List.countP_le_length
theorem lenAt_mono (T : List Nat) {r s : Nat} (h : r ≤ s) : lenAt T s ≤ lenAt T r := by
  unfold lenAt
  refine List.countP_mono_left fun t _ ht => ?_
  simp only [decide_eq_true_eq] at ht ⊢
  omega
theorem lenAt_zero {T : List Nat} {r : Nat} (h : ∀ t ∈ T, t ≤ r) : lenAt T r = 0 := by
  unfold lenAt
  rw [List.countP_eq_zero]
  intro t ht
  have := h t ht
  simp only [decide_eq_true_eq]; omega
/-- How much room the lengths take, of the ranks below c. -/
def roomN (M : Nat) (T : List Nat) : Nat → Nat
  | 0 => 0
  | c + 1 => roomN M T c + 2 ^ (M - lenAt T c)
theorem room_step (M t : Nat) (T : List Nat) (hT : ∀ x ∈ T, x ≤ t) (hM : T.length ≤ M) : ∀ c, c ≤ t → roomN (M + 1) (t :: T) c = roomN M T c
  | 0, _ => rfl
  | c + 1, h => by
    rw [roomN, roomN, room_step M t T hT hM c (by omega)]
    have : lenAt (t :: T) c = lenAt T c + 1 := by
      unfold lenAt
      rw [List.countP_cons, if_pos (by simp; omega)]
    have h2 := lenAt_le T c
    rw [this, show M + 1 - (lenAt T c + 1) = M - lenAt T c by omega]
theorem room_zero (M : Nat) (T : List Nat) {c : Nat} (hT : ∀ x ∈ T, x ≤ c) : ∀ d, roomN M T (c + d) = roomN M T c + d * 2 ^ M
  | 0 => by simp
  | d + 1 => by
    rw [← Nat.add_assoc, roomN, room_zero M T hT d, lenAt_zero (fun t ht => by have := hT t ht; omega), Nat.sub_zero, Nat.add_mul, Nat.one_mul]
    omega
theorem room_prof {f : List Nat} (hs : f.Pairwise (· ≤ ·)) : ∀ (k n : Nat), n ≤ (levelN f k).length →
    roomN (k + 1) (profN f k n) (headN (profN f k n)) + n * 2 ^ k = 2 * headN (profN f k n) * 2 ^ k
  | 0, n, _ => by
    simp only [profN, headN, List.headD_cons]
    have h : ∀ c, c ≤ n → roomN 1 [n] c = c := by
      intro c
      induction c with
      | zero => intro _; rfl
      | succ c ih =>
        intro h
        have : lenAt [n] c = 1 := by unfold lenAt; simp; omega
        rw [roomN, ih (by omega), this]
    rw [h n (Nat.le_refl _)]
    omega
  | k + 1, n, hn => by
    have hle := tkN_le n f (packN (levelN f k))
    have hr := tkN_rest n f (packN (levelN f k)) (by rw [packN_length]; rw [levelN_length] at hn; exact hn)
    rw [packN_length] at hr
    have h2 : 2 * (n - tkN n f (packN (levelN f k))) ≤ (levelN f k).length := by omega
    have hm := (prof_le hs (k + 1) n hn).1
    have hi := (prof_le hs k _ h2).1
    have ih := room_prof hs k _ h2
    simp only [profN, headN, List.headD_cons] at hm ⊢
    have hin : headN (profN f k (2 * (n - tkN n f (packN (levelN f k))))) ≤ tkN n f (packN (levelN f k)) := by
      refine hm _ (List.mem_cons_of_mem _ ?_)
      have hl := profN_length f k (2 * (n - tkN n f (packN (levelN f k))))
      cases hp : profN f k (2 * (n - tkN n f (packN (levelN f k)))) with
      | nil => rw [hp] at hl; simp at hl
      | cons a l => simp [headN]
    have hlen := profN_length f k (2 * (n - tkN n f (packN (levelN f k))))
    generalize tkN n f (packN (levelN f k)) = t at *
    generalize profN f k (2 * (n - t)) = T at *
    rw [room_step (k + 1) t T (fun x hx => hm x (List.mem_cons_of_mem _ hx)) (by omega) t (Nat.le_refl _)]
    obtain ⟨d, hd⟩ : ∃ d, t = headN T + d := ⟨t - headN T, by omega⟩
    have hz := room_zero (k + 1) T hi d
    rw [← hd] at hz
    rw [hz]
    generalize roomN (k + 1) T (headN T) = R at ih ⊢
    generalize headN T = h at ih hd hin ⊢
    have hp : 2 ^ (k + 1) = 2 * 2 ^ k := by rw [Nat.pow_succ, Nat.mul_comm]
    rw [hp]
    generalize 2 ^ k = e at ih ⊢
    obtain ⟨q, hq⟩ : ∃ q, n = t + q := ⟨n - t, by omega⟩
    subst hd hq
    rw [show h + d + q - (h + d) = q by omega] at ih
    simp only [Nat.add_mul, Nat.mul_add, Nat.mul_assoc] at ih ⊢
    rw [show q * (2 * e) = 2 * (q * e) by rw [Nat.mul_left_comm], show d * (2 * e) = 2 * (d * e) by rw [Nat.mul_left_comm], show h * (2 * e) = 2 * (h * e) by rw [Nat.mul_left_comm]]
    omega
end Go.Proofs.Ythgidcfgelpkhaa
