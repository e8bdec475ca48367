/- The stable sort of this program's own slices: the row then holds what a stable merge sort of its elements gives. -/
import Derived.Test.YthgidcfgelpkhaaStF
import Derived.Test.YthgidcfgelpkhaaShelf
set_option linter.unusedVariables false
namespace Go.Proofs.Ythgidcfgelpkhaa
open Go Go.Shelf Go.RowKit Go.Lib Go.Sort Go.Proofs
variable {β : Type} [Inhabited β]

def firsts (D : Array (β × Nat)) : Array β := D.map (·.1)
omit [Inhabited β] in
theorem size_firsts (D : Array (β × Nat)) : (firsts D).size = D.size := by simp [firsts]
theorem at_firsts (D : Array (β × Nat)) (i : Nat) (h : i < D.size) : (firsts D)[i]! = (D[i]!).1 := by simp [firsts, h]

theorem flatK_firsts (enc : β → List Value) (k : Nat) (D : Array (β × Nat)) : flatK (fun x : β × Nat => enc x.1) k D = flatK enc k (firsts D) := by
  unfold flatK
  rw [size_firsts]
  rcases Nat.eq_zero_or_pos k with hk | hk
  · subst hk; simp
  · refine Array.ext (by simp) fun i h1 h2 => ?_
    have hi : i < D.size * k := by simpa using h1
    simp only [Array.getElem_map, Array.getElem_range]
    rw [at_firsts D _ (Nat.div_lt_of_lt_mul (by rw [Nat.mul_comm]; exact hi))]

theorem sortWorldK_firsts (enc : β → List Value) (k : Nat) (w : World) (blk off m : Nat) (D : Array (β × Nat)) (os : Array Obj) :
    sortWorldK (fun x : β × Nat => enc x.1) k w blk off m D os = sortWorldK enc k w blk off m (firsts D) os := by
  unfold sortWorldK putRowK
  rw [flatK_firsts]

theorem SWK_firsts {enc : β → List Value} {k : Nat} {w0 W : World} {blk off : Nat} {D : Array (β × Nat)} (h : SWK (fun x : β × Nat => enc x.1) k w0 blk off D W) : SWK enc k w0 blk off (firsts D) W := by
  obtain ⟨n, os, rfl⟩ := h
  exact ⟨n, os, sortWorldK_firsts enc k w0 blk off n D os⟩

theorem firsts_placed (d : Array β) : firsts (placed d) = d := by
  refine Array.ext (by rw [size_firsts, size_placed]) fun i h1 h2 => ?_
  have h := at_firsts (placed d) i (by rw [size_placed]; exact h2)
  rw [placed_at d i h2] at h
  rw [getElem!_pos (firsts (placed d)) i h1, getElem!_pos d i h2] at h
  exact h

omit [Inhabited β] in
theorem swo_firsts {cf : β → β → Int} (h : SWO (ltOf cf)) : SWO (ltOf (fun x y : β × Nat => cf x.1 y.1)) where
  irrefl := fun x => h.irrefl x.1
  trans := fun x y z => h.trans x.1 y.1 z.1
  ntrans := fun x y z => h.ntrans x.1 y.1 z.1

theorem sorted_call (enc : β → List Value) (hk : ∀ x, (enc x).length = 2) (h1 : ∀ x, ∀ v ∈ enc x, v.oneCell' = true) (cf : β → β → Int) (hO : SWO (ltOf cf)) (g : Nat) (cb : Array Value) (blk off cap : Nat) (d : Array β) (w : World)
    (eg : ∀ args w, (callFunc g args).run Try.prog w = .ok (.enter g args) w) (hcmp : CmpLays Try.prog g cb enc 2 cf blk off d.size w) (hH : HoldsK enc 2 w blk off d) (hblk : blk < w.heap.size) (hsz : d.size < 1152921504606846976) :
    Calls Try.prog 29 #[.slice (some ⟨blk, off, none⟩) d.size cap, .func (.func g) #[] cb] w fun e w' => e = .returned (.tuple #[]) ∧ ∃ d' : Array β, d'.toList = sortedBy (ltOf cf) d.toList ∧ SWK enc 2 w blk off d' w' := by
  have hO' := swo_firsts hO
  have R : RowK (fun x : β × Nat => enc x.1) 2 w blk off (placed d) := ⟨fun x => hk x.1, fun x => h1 x.1, by show Holds id w blk off (flatK _ 2 (placed d)); rw [flatK_firsts, firsts_placed]; exact hH, hblk⟩
  have hC : CmpLays Try.prog g cb (fun x : β × Nat => enc x.1) 2 (fun x y : β × Nat => cf x.1 y.1) blk off d.size w := fun m os D hD x y => by
    rw [sortWorldK_firsts]
    exact hcmp m os (firsts D) (by rw [size_firsts, hD]) x.1 y.1
  refine (sort_call sits (fun x : β × Nat => enc x.1) (fun x y : β × Nat => cf x.1 y.1) hO' g cb blk off cap d.size (placed d) (placed d) w w eg hC R (size_placed d) (size_placed d) (SWK.start R.hH) hsz ?_).mono ?_
  · intro a b D W hD S hab hb
    have hs' := (insertionSort_holds hO' D a b hab (by omega)).1.1
    have hC' : CmpLays Try.prog g cb (fun x : β × Nat => enc x.1) 2 (fun x y : β × Nat => cf x.1 y.1) blk off D.size W := fun m os dk hdk x y => by
      obtain ⟨n0, os0, rfl⟩ := S
      rw [sortWorldK_on _ 2 w blk off n0 m D dk os0 os hblk hdk]
      exact hC _ _ dk (by omega) x y
    rw [← hD]
    refine (AnyQ.insertionSortCmpFunc Try.laysIns 2 Try.isAgg54 Try.sizeOf54 _ R.hk R.h1 _ g cb blk off cap a b D W eg hC' (S.holds hblk R.hH (by rw [hD, size_placed])) (S.lt hblk) hab (by omega) (by omega)).mono ?_
    rintro e w' ⟨rfl, n, os, rfl⟩
    exact ⟨rfl, S.on hblk n _ os hs'⟩
  · rintro e w' ⟨rfl, S⟩
    refine ⟨rfl, firsts (stableS (ltOf fun x y : β × Nat => cf x.1 y.1) (placed d)), ?_, SWK_firsts S⟩
    rw [← stable_list hO d]
    simp [firsts]
    rfl
end Go.Proofs.Ythgidcfgelpkhaa
