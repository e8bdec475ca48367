/- The law's own 'alive'. -/
import Derived.Test.YthaoofnnhdkboaaFrE
set_option linter.unusedSimpArgs false
set_option linter.unusedVariables false
namespace Go.Proofs.Ythaoofnnhdkboaa.FrA
open Go.RowKit Go.Proofs.Ythaoofnnhdkboaa.CrcL Go.Proofs.Ythaoofnnhdkboaa.FrW Go.Proofs.Ythaoofnnhdkboaa.FrH Go.Proofs.Ythaoofnnhdkboaa.FrG Go.Proofs.Ythaoofnnhdkboaa.FrU Go.Proofs.Ythaoofnnhdkboaa.FrL Go.Proofs.Ythaoofnnhdkboaa.FrP Go.Proofs.Ythaoofnnhdkboaa.FrE
attribute [local go_sem high] eqA49
theorem zeros5 : bigS 0 1 ++ bigS (0 : Int).toNat 4 = ⟨#[0, 0, 0, 0, 0]⟩ := by apply data_inj; rw [app_list, bigS_list, bigS_list]; rfl
theorem getH_plain (c b id : Int) (hc : 0 ≤ c ∧ c ≤ 1) (hb : 1 ≤ b ∧ b ≤ 1024) (hid : 0 ≤ id ∧ id < 18446744073709551616) :
    getH (headS c b id) = ((c, b, id), 0) := by
  have e : headS c b id = headS c b id ++ ⟨#[]⟩ := by apply data_inj; rw [app_list]; simp
  rw [e]; exact getH_head c b id _ hc hb hid
set_option maxHeartbeats 1000000 in
theorem alive_call (w : World) : Calls Try.prog 35 #[] w fun e w' => e = .returned (.bool true) ∧ Below w.heap.size w w' := by
  have hz : ((headS 1 100 7).size : Int) = 17 := by rw [headS_size]; rfl
  have hg := getH_plain 1 100 7 (by omega) (by omega) (by omega)
  generalize hq : headS 1 100 7 = q at hz hg
  go_enter Try.func35, Try.ntmps35
  go_wp2_with fail
  refine (put_end 0 _ (by omega)).mono ?_
  rintro e w1 ⟨rfl, hb1⟩
  rw [zeros5]
  go_wp2_with fail
  refine (put_yes 1 100 7 _ (by omega) (by omega) (by omega)).mono ?_
  rintro e w2 ⟨rfl, hb2⟩
  rw [hq]
  go_wp2_with fail
  refine (get_any q _ (by omega)).mono ?_
  rintro e w3 ⟨rfl, hb3⟩
  rw [hg]
  simp only [headAgg]
  go_wp2_with fail
  go_returns
  exact ⟨rfl, bstep (bstep (bstep hb1 hb2) hb3) (balloc (Below.refl _ _) _)⟩
end Go.Proofs.Ythaoofnnhdkboaa.FrA
