/- Plain facts on a head of which one byte is another one, with no program in sight. -/
import Derived.Test.YthaoofnnhdkboaaFrN
set_option linter.unusedSimpArgs false
set_option linter.unusedVariables false
namespace Go.Proofs.Ythaoofnnhdkboaa.FrF
open Go.RowKit Go.Proofs.Ythaoofnnhdkboaa.CrcL Go.Proofs.Ythaoofnnhdkboaa.FrW Go.Proofs.Ythaoofnnhdkboaa.FrH Go.Proofs.Ythaoofnnhdkboaa.FrG Go.Proofs.Ythaoofnnhdkboaa.FrL Go.Proofs.Ythaoofnnhdkboaa.FrN

theorem numN_inj : ∀ (n : Nat) (l m : List UInt8), l.length = n → m.length = n → numN l = numN m → l = m := by
  intro n
  induction n with
  | zero =>
    intro l m hl hm _
    rw [List.length_eq_zero_iff.1 hl, List.length_eq_zero_iff.1 hm]
  | succ n ih =>
    intro l m hl hm h
    rcases List.eq_nil_or_concat l with rfl | ⟨l', x, rfl⟩
    · simp at hl
    rcases List.eq_nil_or_concat m with rfl | ⟨m', y, rfl⟩
    · simp at hm
    rw [List.concat_eq_append] at hl ⊢
    rw [List.concat_eq_append] at hm ⊢
    rw [List.concat_eq_append, List.concat_eq_append] at h
    simp at hl hm
    rw [numN_snoc, numN_snoc] at h
    have hx := x.toNat_lt
    have hy := y.toNat_lt
    have h1 : numN l' = numN m' := by omega
    have h2 : x.toNat = y.toNat := by omega
    rw [ih l' m' hl hm h1, UInt8.toNat_inj.1 h2]
theorem set_ne (l : List UInt8) (i : Nat) (z : UInt8) (hi : i < l.length) (hz : z ≠ l[i]) : l.set i z ≠ l := by
  intro e
  have h : (l.set i z)[i]? = l[i]? := by rw [e]
  rw [List.getElem?_set_self hi, List.getElem?_eq_getElem hi] at h
  exact hz (Option.some.inj h)
theorem xor_ne (x y : UInt8) (h : y ≠ 0) : x ^^^ y ≠ x := by
  intro e
  apply h
  have e3 : x ^^^ (x ^^^ y) = x ^^^ x := by rw [e]
  rw [← UInt8.xor_assoc, UInt8.xor_self, UInt8.zero_xor] at e3
  exact e3
theorem num_b (b : Int) (hb : 1 ≤ b ∧ b ≤ 1024) : (numN (bL b.toNat 3 3) : Int) = b := by
  rw [numN_bL _ _ _ (Nat.le_refl _) (by have : (2 : Nat) ^ (8 * 3) = 16777216 := by decide
                                        omega)]
  simp; omega
theorem num_id (id : Int) (hid : 0 ≤ id ∧ id < 18446744073709551616) : (numN (bL id.toNat 8 8) : Int) = id := by
  rw [numN_bL _ _ _ (Nat.le_refl _) (by have : (2 : Nat) ^ (8 * 8) = 18446744073709551616 := by decide
                                        omega)]
  simp; omega
theorem xor64 (c : Int) (y : UInt8) (hc : 0 ≤ c ∧ c ≤ 1) : Go.bits .xor .i64 c (y.toNat : Int) = ((UInt8.ofNat (c.toNat % 256) ^^^ y).toNat : Int) := by
  have h : Go.bits .xor .i64 c (y.toNat : Int) = IntKind.i64.wrap (((BitVec.ofInt 64 c) ^^^ (BitVec.ofInt 64 (y.toNat : Int))).toNat : Int) := rfl
  have hy := y.toNat_lt
  have e : (BitVec.ofInt 64 c ^^^ BitVec.ofInt 64 (y.toNat : Int)).toNat = (UInt8.ofNat (c.toNat % 256) ^^^ y).toNat := by
    obtain ⟨n, rfl⟩ := Int.eq_ofNat_of_zero_le hc.1
    rw [BitVec.ofInt_natCast, BitVec.ofInt_natCast, BitVec.toNat_xor, UInt8.toNat_xor, BitVec.toNat_ofNat, BitVec.toNat_ofNat, UInt8.toNat_ofNat', Int.toNat_natCast, Nat.mod_eq_of_lt (show n < 2 ^ 64 by omega), Nat.mod_eq_of_lt (show y.toNat < 2 ^ 64 by omega), Nat.mod_mod, Nat.mod_eq_of_lt (show n < 256 by omega)]
  rw [h, e, IntKind.wrap_i64]
  have := (UInt8.ofNat (c.toNat % 256) ^^^ y).toNat_lt
  omega
/-- What becomes of a head. -/
def told (c b id : Int) (k : Nat) (y : Int) (r : (Int × Int × Int) × Int) : Prop :=
  (k < 5 ∧ r = ((0, 0, 0), 3)) ∨
  (k = 5 ∧ (r = ((0, 0, 0), 8) ∧ 1 < Go.bits .xor .i64 c y ∨ ∃ x, x ≠ c ∧ r = ((x, b, id), 0))) ∨
  ((5 < k ∧ k < 9) ∧ (r = ((0, 0, 0), 4) ∨ ∃ x, x ≠ b ∧ r = ((c, x, id), 0))) ∨
  (9 ≤ k ∧ ∃ x, x ≠ id ∧ r = ((c, b, x), 0))
theorem turned_told (c b id : Int) (k : Nat) (y : UInt8) (p : ByteArray) (ok : okH c b) (hid : 0 ≤ id ∧ id < 18446744073709551616) (hk : k < 17) (hy : y ≠ 0)
    (hp : p.data.toList = (headS c b id).data.toList.set k ((headS c b id).data.toList.getD k 0 ^^^ y)) : told c b id k (y.toNat : Int) (getH p) := by
  obtain ⟨hc, hb⟩ := ok
  have hX : (bL b.toNat 3 3).length = 3 := bL_length ..
  have hY : (bL id.toNat 8 8).length = 8 := bL_length ..
  have nb := num_b b hb
  have ni := num_id id hid
  have nc : ((UInt8.ofNat (c.toNat % 256)).toNat : Int) = c := by
    have : (UInt8.ofNat (c.toNat % 256)).toNat = c.toNat % 256 := by simp
    rw [this]; omega
  have hx64 := xor64 c y hc
  have h1 : ((1 : UInt8).toNat : Int) = 1 := rfl
  have hl := headS_list c b id
  rw [hl] at hp
  generalize hcc : UInt8.ofNat (c.toNat % 256) = cc at *
  generalize bL b.toNat 3 3 = X at *
  generalize bL id.toNat 8 8 = Y at *
  have split : ∀ (m : List UInt8) (v d : UInt8) (x z : List UInt8), p.data.toList = m ++ (v :: d :: (x ++ z)) → m.length = 4 → x.length = 3 → z.length = 8 → getH p = if m ≠ [76, 88, 80, 72] ∨ (v.toNat : Int) ≠ 1 then ((0, 0, 0), 3) else
      if ¬ ((d.toNat : Int) = 0 ∨ (d.toNat : Int) = 1) then ((0, 0, 0), 8) else
      if ¬ (1 ≤ (numN x : Int) ∧ (numN x : Int) ≤ 1024) then ((0, 0, 0), 4) else (((d.toNat : Int), (numN x : Int), (numN z : Int)), 0) := by
    intro m v d x z h a1 a2 a3
    exact getH_list (b := p) (m := m) (v := v) (c := d) (x := x) (y := z) (r := []) (by rw [h]; simp) a1 a2 a3
  unfold told
  rcases Nat.lt_or_ge k 4 with k4 | k4
  · refine .inl ⟨by omega, ?_⟩
    rw [List.set_append_left _ _ (by simp; omega)] at hp
    have e : ([76, 88, 80, 72, 1, cc] : List UInt8).set k (([76, 88, 80, 72, 1, cc] ++ (X ++ Y)).getD k 0 ^^^ y) = ([76, 88, 80, 72] : List UInt8).set k (([76, 88, 80, 72] : List UInt8)[k]'(by simpa using k4) ^^^ y) ++ [1, cc] := by
      rcases (show k = 0 ∨ k = 1 ∨ k = 2 ∨ k = 3 by omega) with rfl | rfl | rfl | rfl <;> rfl
    rw [e] at hp
    have hne := set_ne ([76, 88, 80, 72] : List UInt8) k (([76, 88, 80, 72] : List UInt8)[k]'(by simpa using k4) ^^^ y) (by simpa using k4) (xor_ne _ _ hy)
    rw [split (([76, 88, 80, 72] : List UInt8).set k (([76, 88, 80, 72] : List UInt8)[k]'(by simpa using k4) ^^^ y)) 1 cc X Y (by rw [hp]; simp) (by simp) hX hY, if_pos (.inl hne)]
  rcases Nat.lt_or_ge k 6 with k6 | k6
  · rcases (show k = 4 ∨ k = 5 by omega) with rfl | rfl
    · refine .inl ⟨by omega, ?_⟩
      have e : p.data.toList = [76, 88, 80, 72] ++ ((1 ^^^ y) :: cc :: (X ++ Y)) := hp
      have hne : ((1 ^^^ y).toNat : Int) ≠ 1 := by
        intro e1
        apply xor_ne 1 y hy
        apply UInt8.toNat_inj.1
        exact Int.ofNat_inj.1 (e1.trans h1.symm)
      rw [split _ _ _ _ _ e rfl hX hY, if_pos (.inr hne)]
    · refine .inr (.inl ⟨rfl, ?_⟩)
      have e : p.data.toList = [76, 88, 80, 72] ++ (1 :: (cc ^^^ y) :: (X ++ Y)) := hp
      rw [split _ _ _ _ _ e rfl hX hY, h1, if_neg (by simp), nb, ni, hx64]
      have hne : ((cc ^^^ y).toNat : Int) ≠ c := by
        intro e1
        apply xor_ne cc y hy
        apply UInt8.toNat_inj.1
        exact Int.ofNat_inj.1 (e1.trans nc.symm)
      generalize ((cc ^^^ y).toNat) = q at *
      by_cases hq : (q : Int) = 0 ∨ (q : Int) = 1
      · rw [if_neg (fun h => h hq), if_neg (by omega)]
        exact .inr ⟨_, hne, rfl⟩
      · rw [if_pos hq]
        exact .inl ⟨rfl, by omega⟩
  rcases Nat.lt_or_ge k 9 with k9 | k9
  · refine .inr (.inr (.inl ⟨by omega, ?_⟩))
    rw [List.set_append_right _ _ (by simp; omega), List.set_append_left _ _ (by simp; omega)] at hp
    simp only [List.length_cons, List.length_nil] at hp
    have hi : k - 6 < X.length := by omega
    have hg : ([76, 88, 80, 72, 1, cc] ++ (X ++ Y)).getD k 0 = X[k - 6] := by
      rw [List.getD_eq_getElem?_getD, List.getElem?_append_right (by simp; omega), List.getElem?_append_left (by simp; omega)]
      simp [hi]
    rw [hg] at hp
    rw [split [76, 88, 80, 72] 1 cc _ Y (by rw [hp]; rfl) rfl (by rw [List.length_set]; exact hX) hY, h1, if_neg (by simp), nc, if_neg (by omega), ni]
    have hne : (numN (X.set (k - 6) (X[k - 6] ^^^ y)) : Int) ≠ b := by
      intro e1
      refine set_ne X (k - 6) _ hi (xor_ne _ _ hy) (numN_inj 3 _ _ (by rw [List.length_set]; exact hX) hX ?_)
      exact Int.ofNat_inj.1 (e1.trans nb.symm)
    generalize numN (X.set (k - 6) (X[k - 6] ^^^ y)) = q at *
    by_cases hq : 1 ≤ (q : Int) ∧ (q : Int) ≤ 1024
    · rw [if_neg (fun h => h hq)]
      exact .inr ⟨_, hne, rfl⟩
    · rw [if_pos hq]
      exact .inl rfl
  · refine .inr (.inr (.inr ⟨k9, ?_⟩))
    rw [List.set_append_right _ _ (by simp; omega), List.set_append_right _ _ (by simp; omega)] at hp
    simp only [List.length_cons, List.length_nil, hX] at hp
    have hi : k - 6 - 3 < Y.length := by omega
    have hg : ([76, 88, 80, 72, 1, cc] ++ (X ++ Y)).getD k 0 = Y[k - 6 - 3] := by
      rw [List.getD_eq_getElem?_getD, List.getElem?_append_right (by simp; omega), List.getElem?_append_right (by simp; omega)]
      simp [hi, hX]
    rw [hg] at hp
    rw [split [76, 88, 80, 72] 1 cc X _ (by rw [hp]; rfl) rfl hX (by rw [List.length_set]; exact hY), h1, if_neg (by simp), nc, if_neg (by omega), nb, if_neg (by omega)]
    have hne : (numN (Y.set (k - 6 - 3) (Y[k - 6 - 3] ^^^ y)) : Int) ≠ id := by
      intro e1
      refine set_ne Y (k - 6 - 3) _ hi (xor_ne _ _ hy) (numN_inj 8 _ _ (by rw [List.length_set]; exact hY) hY ?_)
      exact Int.ofNat_inj.1 (e1.trans ni.symm)
    exact ⟨_, hne, rfl⟩
end Go.Proofs.Ythaoofnnhdkboaa.FrF
