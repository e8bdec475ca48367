/- The sorts of hits: a stable one by how long phrases are, the longest first; one of lengths, the greatest first. -/
import Derived.Test.YtdeeeechdlcdbaaHiA
import Derived.Test.YtdeeeechdlcdbaaT1
import Derived.Shelf.SlSortCmp.NoneTotal
set_option linter.unusedVariables false
set_option linter.unusedSimpArgs false
namespace Go.Proofs.Ytdeeeechdlcdbaa.HiB
open Go Go.Shelf Go.RowKit Go.Sort Go.Lib Go.Proofs Go.Proofs.Ytdeeeechdlcdbaa Go.Proofs.Ytdeeeechdlcdbaa.Base Go.Proofs.Ytdeeeechdlcdbaa.DiA Go.Proofs.Ytdeeeechdlcdbaa.LkM Go.Proofs.Ytdeeeechdlcdbaa.LkA Go.Proofs.Ytdeeeechdlcdbaa.LkL Go.Proofs.Ytdeeeechdlcdbaa.LkN Go.Proofs.Ytdeeeechdlcdbaa.HiP Go.Proofs.Ytdeeeechdlcdbaa.HiQ Go.Proofs.Ytdeeeechdlcdbaa.HiA
def laysSF_ren : Go.Shelf.Ren := ⟨fun | 6 => 101 | 14 => 123 | 15 => 124 | 20 => 129 | 21 => 134 | 22 => 135 | 23 => 136 | 24 => 137 | 25 => 138 | 26 => 139 | 27 => 140 | 28 => 141 | 29 => 142 | 46 => 153 | 47 => 154 | 48 => 155 | 49 => 156 | 50 => 157 | 57 => 163 | n => n, fun | 0 => 0 | 3 => 3 | 4 => 4 | 5 => 5 | 9 => 9 | 22 => 36 | 24 => 3 | 25 => 98 | 39 => 151 | 45 => 160 | 46 => 161 | 50 => 46 | 53 => 167 | 55 => 169 | 66 => 177 | 70 => 181 | 76 => 185 | 77 => 62 | n => n, fun | n => n⟩
theorem laysSF : Go.Proofs.SlLaysF.n6 Try.prog laysSF_ren := {
  mixed := by kernel_rfl
  f6 := ⟨Try.f101.name, by decide, Try.func101.trans (congrArg some (by kernel_rfl))⟩
  f14 := ⟨Try.f123.name, by decide, Try.func123.trans (congrArg some (by kernel_rfl))⟩
  f15 := Try.func124.trans (congrArg some (by kernel_rfl))
  f20 := ⟨Try.f129.name, by decide, Try.func129.trans (congrArg some (by kernel_rfl))⟩
  f21 := ⟨Try.f134.name, by decide, Try.func134.trans (congrArg some (by kernel_rfl))⟩
  f22 := ⟨Try.f135.name, by decide, Try.func135.trans (congrArg some (by kernel_rfl))⟩
  f23 := ⟨Try.f136.name, by decide, Try.func136.trans (congrArg some (by kernel_rfl))⟩
  f24 := ⟨Try.f137.name, by decide, Try.func137.trans (congrArg some (by kernel_rfl))⟩
  f25 := ⟨Try.f138.name, by decide, Try.func138.trans (congrArg some (by kernel_rfl))⟩
  f26 := ⟨Try.f139.name, by decide, Try.func139.trans (congrArg some (by kernel_rfl))⟩
  f27 := ⟨Try.f140.name, by decide, Try.func140.trans (congrArg some (by kernel_rfl))⟩
  f28 := Try.func141.trans (congrArg some (by kernel_rfl))
  f29 := Try.func142.trans (congrArg some (by kernel_rfl))
  f46 := ⟨Try.f153.name, by decide, Try.func153.trans (congrArg some (by kernel_rfl))⟩
  f47 := Try.func154.trans (congrArg some (by kernel_rfl))
  f48 := Try.func155.trans (congrArg some (by kernel_rfl))
  f49 := ⟨Try.f156.name, by decide, Try.func156.trans (congrArg some (by kernel_rfl))⟩
  f50 := ⟨Try.f157.name, by decide, Try.func157.trans (congrArg some (by kernel_rfl))⟩
  f57 := ⟨Try.f163.name, by decide, Try.func163.trans (congrArg some (by kernel_rfl))⟩
  t0 := Try.underlying0
  a0 := Try.isAgg0
  z0 := Try.sizeOf0
  v0 := Try.zeroValue0
  t3 := Try.underlying3
  a3 := Try.isAgg3
  z3 := Try.sizeOf3
  v3 := Try.zeroValue3
  t4 := Try.underlying4
  a4 := Try.isAgg4
  z4 := Try.sizeOf4
  v4 := Try.zeroValue4
  t5 := Try.underlying5
  a5 := Try.isAgg5
  z5 := Try.sizeOf5
  v5 := Try.zeroValue5
  t9 := Try.underlying9
  a9 := Try.isAgg9
  z9 := Try.sizeOf9
  v9 := Try.zeroValue9
  t22 := Try.underlying36
  a22 := Try.isAgg36
  z22 := Try.sizeOf36
  v22 := Try.zeroValue36
  a24 := Try.isAgg3
  z24 := Try.sizeOf3
  t25 := Try.underlying98
  a25 := Try.isAgg98
  z25 := Try.sizeOf98
  v25 := Try.zeroValue98
  t39 := Try.underlying151
  a39 := Try.isAgg151
  z39 := Try.sizeOf151
  v39 := Try.zeroValue151
  t45 := Try.underlying160
  a45 := Try.isAgg160
  z45 := Try.sizeOf160
  v45 := Try.zeroValue160
  t46 := Try.underlying161
  a46 := Try.isAgg161
  z46 := Try.sizeOf161
  v46 := Try.zeroValue161
  t50 := Try.underlying46
  a50 := Try.isAgg46
  z50 := Try.sizeOf46
  v50 := Try.zeroValue46
  t53 := Try.underlying167
  a53 := Try.isAgg167
  z53 := Try.sizeOf167
  v53 := Try.zeroValue167
  t55 := Try.underlying169
  a55 := Try.isAgg169
  z55 := Try.sizeOf169
  v55 := Try.zeroValue169
  t66 := Try.underlying177
  a66 := Try.isAgg177
  z66 := Try.sizeOf177
  v66 := Try.zeroValue177
  t70 := Try.underlying181
  a70 := Try.isAgg181
  z70 := Try.sizeOf181
  v70 := Try.zeroValue181
  t76 := Try.underlying185
  a76 := Try.isAgg185
  z76 := Try.sizeOf185
  v76 := Try.zeroValue185
  t77 := Try.underlying62
  a77 := Try.isAgg62
  z77 := Try.sizeOf62
  v77 := Try.zeroValue62 }
theorem Gr.self (w : World) : ∃ q os', w = grow (w.drewN q) os' := Gr.refl w
set_option maxRecDepth 100000 in
set_option maxHeartbeats 1000000 in
/-- The comparison of two phrases, the longer one first. -/
theorem clo72 {B b : Nat} {w : World} {v : Value} {zs : List ByteArray} (h : DV B w v zs) (hb : w.cell? ⟨b, 0, none⟩ = some v) (hs : ∀ k, szk zs k ≤ 1000000) (x y : Nat) :
    Calls Try.prog 72 #[.int .i64 (x : Int), .int .i64 (y : Int), .pointer (some ⟨b, 0, none⟩)] w fun e w' => e = .returned (.int .i64 ((szk zs y : Int) - (szk zs x : Int))) ∧ Gr w w' := by
  have hm : Try.prog.follows .mixedOrders = true := by kernel_rfl
  have hv : ∃ a, v = .pointer a := by rcases h with ⟨h, _⟩ | ⟨p, h, _⟩ <;> exact ⟨_, h⟩
  obtain ⟨a, rfl⟩ := hv
  have hl := World.block_lt_of_cell? w _ hb
  have hcl := fun n os => cell_grown (w := w) (a := ⟨b, 0, none⟩) hl hb n os
  have hk : ∀ n os, Below w.heap.size w (grow (w.drewN n) os) := fun n os => Gr.below ⟨n, os, rfl⟩
  have d1 : ∀ n os, Calls Try.prog 73 #[.pointer a, .int .i64 (x : Int)] (grow (w.drewN n) os) fun e w' => e = .returned (.int .i64 (szk zs x : Int)) ∧ ∃ q os', w' = grow ((grow (w.drewN n) os).drewN q) os' := fun n os =>
    (size_call (h.below (hk n os)) x).mono fun e w' ⟨h1, h2⟩ => ⟨h1, by rw [h2]; exact Gr.self _⟩
  have d2 : ∀ n os, Calls Try.prog 73 #[.pointer a, .int .i64 (y : Int)] (grow (w.drewN n) os) fun e w' => e = .returned (.int .i64 (szk zs y : Int)) ∧ ∃ q os', w' = grow ((grow (w.drewN n) os).drewN q) os' := fun n os =>
    (size_call (h.below (hk n os)) y).mono fun e w' ⟨h1, h2⟩ => ⟨h1, by rw [h2]; exact Gr.self _⟩
  have b1 := hs x
  have b2 := hs y
  generalize szk zs x = D1 at d1 b1 ⊢
  generalize szk zs y = D2 at d2 b2 ⊢
  have z1 : IntKind.i64.wrap ((D2 : Int) - (D1 : Int)) = (D2 : Int) - (D1 : Int) := by rw [IntKind.wrap_i64]; omega
  clear h hs hb hk
  go_enter Try.func72, Try.ntmps72
  go_wp2_with fail
  go_quiet_grown (first | (with_reducible exact Calls.grown_of (d2 _ _)) | (with_reducible exact Calls.grown_of (d1 _ _)))
  go_wp2_with fail
  go_ret
  exact ⟨rfl, nq, osq, rfl⟩
set_option maxHeartbeats 400000 in
theorem clo102 (x y : Nat) (w : World) (hx : x ≤ 1000000) (hy : y ≤ 1000000) : Calls Try.prog 102 #[.int .i64 (x : Int), .int .i64 (y : Int)] w fun e w' => e = .returned (.int .i64 ((y : Int) - (x : Int))) ∧ w' = w := by
  have z1 : IntKind.i64.wrap ((y : Int) - (x : Int)) = (y : Int) - (x : Int) := by rw [IntKind.wrap_i64]; omega
  go_enter Try.func102, Try.ntmps102
  go_wp2_with fail
  go_ret
  exact ⟨rfl, rfl⟩
theorem laysIns0 : Go.Proofs.SlLaysF0.n20 Try.prog laysIns_ren := { laysIns with }
set_option maxHeartbeats 1000000 in
theorem stable_none (cap : Nat) (fv : Value) (w : World) : Calls Try.prog 110 #[.slice none 0 cap, .int .i64 0, fv] w fun e w' => e = .returned (.tuple #[]) ∧ w' = w := by
  have hi := fun W => AnyF.insertionSortCmpFunc_none laysIns0 none cap fv W
  go_enter Try.func110, Try.ntmps110
  go_wp2_with fail
  refine wp_loop_rounds 1 ?_
  rw [rounds_succ]
  go_wp2_with fail
  refine (hi _).mono ?_
  rintro e w1 ⟨rfl, rfl⟩
  go_wp2_with fail
  refine wp_loop_rounds 1 ?_
  rw [rounds_succ]
  go_wp2_with fail
  go_end0
  exact ⟨rfl, rfl⟩
set_option maxHeartbeats 1000000 in
theorem sort_none (cap : Nat) (fv : Value) (w : World) : Calls Try.prog 71 #[.slice none 0 cap, fv] w fun e w' => e = .returned (.tuple #[]) ∧ w' = w := by
  have hs := fun W => stable_none cap fv W
  go_enter Try.func71, Try.ntmps71
  go_wp2_with fail
  refine (hs _).mono ?_
  rintro e w1 ⟨rfl, rfl⟩
  go_wp2_with fail
  go_end0
  exact ⟨rfl, rfl⟩
theorem own_nil_or {w : World} {base : Nat} {e : TypeId} {size n : Nat} {v : Value} {xs : List Value} (h : w.ownsRow base e size v n xs) : (v = .slice none 0 0 ∧ n = 0) ∨ ∃ g cap, v = .slice (some ⟨g, 0, none⟩) n cap ∧ base ≤ g ∧ g < w.heap.size := by
  rcases h.2 with h1 | ⟨g, cap, cur, h1, h2, h3, _⟩
  · exact .inl h1
  · exact .inr ⟨g, cap, h1, h2, heap_lt h3⟩
theorem twin_grown {w w' : World} {g : Nat} (h : LkL.Twin g g w w') : w.grownBy w' (some g) := ⟨h.os, h.tape, h.output, h.size, fun k hk hne => h.block k hk (fun e => hne (by rw [e])) (fun e => hne (by rw [e]))⟩
theorem grown_self (w : World) (r : Option Nat) : w.grownBy w r := ⟨rfl, rfl, rfl, Nat.le_refl _, fun _ _ _ => rfl⟩
theorem ltOf_szk (zs : List ByteArray) : ltOf (fun x y : Nat => (szk zs y : Int) - (szk zs x : Int)) = fun x y => decide (szk zs y < szk zs x) := by
  funext x y
  show decide ((szk zs y : Int) - (szk zs x : Int) < 0) = decide (szk zs y < szk zs x)
  exact decide_eq_decide.2 (by omega)
theorem swo_szk (zs : List ByteArray) : SWO (ltOf (fun x y : Nat => (szk zs y : Int) - (szk zs x : Int))) := by
  rw [ltOf_szk]
  exact ⟨fun x => by simp, fun x y z h1 h2 => by simp at *; omega, fun x y z h1 h2 => by simp at *; omega⟩
theorem sorted_rowS (zs : List ByteArray) (l : List Nat) : sortedBy (ltOf (fun x y : Nat => (szk zs y : Int) - (szk zs x : Int))) l = rowS (szk zs) l := by
  unfold sortedBy rowS
  rw [ltOf_szk]
  congr 1
  funext x y
  by_cases h : szk zs y ≤ szk zs x
  · simp [h]; try omega
  · simp [h]; try omega
/-- A row of phrases sorted, where it lies: the longest first. -/
theorem sort_row {B Bd b : Nat} {w : World} {v dv : Value} {zs : List ByteArray} {L : List Nat} (hr : w.ownsRow B 3 1 v L.length (L.map encN)) (hbig : L.length ≤ 1000000) (hs : ∀ k, szk zs k ≤ 1000000)
    (hD : ∀ W, w.grownBy W v.ownBlock → DV Bd W dv zs ∧ W.cell? ⟨b, 0, none⟩ = some dv) :
    Calls Try.prog 71 #[v, .func (.func 72) #[] #[.pointer (some ⟨b, 0, none⟩)]] w fun e w' => e = .returned (.tuple #[]) ∧ w'.ownsRow B 3 1 v L.length ((rowS (szk zs) L).map encN) ∧ w.grownBy w' v.ownBlock := by
  rcases own_nil_or hr with ⟨rfl, h0⟩ | ⟨g, cap, rfl, hB, hg⟩
  · obtain rfl := List.eq_nil_of_length_eq_zero h0
    refine (sort_none 0 _ w).mono ?_
    rintro e w' ⟨rfl, rfl⟩
    refine ⟨rfl, ?_, grown_self _ _⟩
    have : rowS (szk zs) [] = [] := by unfold rowS; rw [List.mergeSort_nil]
    rw [this]
    exact hr
  · obtain ⟨d, hd⟩ : ∃ d : Array Nat, d = L.toArray := ⟨_, rfl⟩
    have hdl : d.toList = L := by rw [hd]
    have hds : d.size = L.length := by rw [hd]; simp
    rw [← hdl] at hr
    have hcmp : CmpLays1 Try.prog 72 #[.pointer (some ⟨b, 0, none⟩)] encN (fun x y : Nat => (szk zs y : Int) - (szk zs x : Int)) g 0 d.size w := by
      intro mm os dk hsz x y
      have tw := twin_grown (SW_twin (⟨mm, os, rfl⟩ : SW encN w g 0 dk (sortWorld encN w g 0 mm dk os)))
      obtain ⟨k1, k2⟩ := hD _ tw
      exact clo72 k1 k2 hs x y
    have cS := sorted_call encN (fun _ => rfl) (fun x y : Nat => (szk zs y : Int) - (szk zs x : Int)) (swo_szk zs) 72 #[.pointer (some ⟨b, 0, none⟩)] g 0 cap d w (enters_of Try.func72 (by kernel_rfl) rfl) hcmp (holds_of (by rw [hdl] at hr ⊢; exact hds ▸ hr)) hg (by rw [hds]; omega)
    rw [hds] at cS
    rw [hdl] at hr
    refine cS.mono ?_
    rintro e w' ⟨rfl, d', hd', hSW⟩
    rw [hdl, sorted_rowS] at hd'
    have hds' : d'.size = L.length := by
      have := congrArg List.length hd'
      rw [(rowS_perm L).length_eq] at this
      simpa using this
    have r5 := SW_row hr hSW hds'
    rw [hd'] at r5
    exact ⟨rfl, r5, twin_grown (SW_twin hSW)⟩
theorem ltOf_num : ltOf (fun x y : Nat => (y : Int) - (x : Int)) = fun x y => decide (y < x) := by
  funext x y
  show decide ((y : Int) - (x : Int) < 0) = decide (y < x)
  exact decide_eq_decide.2 (by omega)
theorem swo_num : SWO (ltOf (fun x y : Nat => (y : Int) - (x : Int))) := by
  rw [ltOf_num]
  exact ⟨fun x => by simp, fun x y z h1 h2 => by simp at *; omega, fun x y z h1 h2 => by simp at *; omega⟩
theorem merge_lensS (l : List Nat) : (l.mergeSort fun x y => !(ltOf (fun x y : Nat => (y : Int) - (x : Int))) y x) = lensS l := by
  unfold lensS
  rw [ltOf_num]
  congr 1
  funext x y
  by_cases h : y ≤ x
  · simp [h]
  · simp [h]; omega
abbrev Sm := Fin 1000001
def encS (x : Sm) : Value := encN x.val
def vals (D : Array Sm) : Array Nat := D.map (·.val)
theorem size_vals (D : Array Sm) : (vals D).size = D.size := by simp [vals]
theorem putRow_vals (w : World) (blk off : Nat) (D : Array Sm) : putRow encS w blk off D = putRow encN w blk off (vals D) := by
  unfold putRow
  congr 1
  funext cs
  unfold putCells
  refine Array.ext (by simp) fun i h1 h2 => ?_
  simp only [Array.getElem_mapIdx, size_vals]
  by_cases h : off ≤ i ∧ i < off + D.size
  · rw [if_pos h, if_pos h]
    have hi : i - off < D.size := by omega
    rw [getElem!_pos D _ hi, getElem!_pos (vals D) _ (by rw [size_vals]; exact hi)]
    simp [vals, encS]
  · rw [if_neg h, if_neg h]
theorem sortWorld_vals (w : World) (blk off m : Nat) (D : Array Sm) (os : Array Obj) : sortWorld encS w blk off m D os = sortWorld encN w blk off m (vals D) os := by
  unfold sortWorld
  rw [putRow_vals]
theorem swo_sm : SWO (ltOf (fun x y : Sm => (y.val : Int) - (x.val : Int))) := by
  have h := swo_num
  exact ⟨fun x => h.irrefl x.val, fun x y z => h.trans x.val y.val z.val, fun x y z => h.ntrans x.val y.val z.val⟩
theorem laysSF0 : Go.Proofs.SlLaysF0.n6 Try.prog laysSF_ren := { laysSF with }
/-- A row of numbers sorted, where it lies: the greatest first. -/
theorem sort_lens {B : Nat} {w : World} {v : Value} {L : List Nat} (hr : w.ownsRow B 3 1 v L.length (L.map encN)) (hbig : L.length ≤ 1000000) (hs : ∀ x ∈ L, x ≤ 1000000) :
    Calls Try.prog 101 #[v, .func (.func 102) #[] #[]] w fun e w' => e = .returned (.tuple #[]) ∧ w'.ownsRow B 3 1 v L.length ((lensS L).map encN) ∧ w.grownBy w' v.ownBlock := by
  rcases own_nil_or hr with ⟨rfl, h0⟩ | ⟨g, cap, rfl, hB, hg⟩
  · obtain rfl := List.eq_nil_of_length_eq_zero h0
    refine (AnyF.slices_SortFunc_none laysSF0 none 0 (.func (.func 102) #[] #[]) w).mono ?_
    rintro e w' ⟨rfl, rfl⟩
    refine ⟨rfl, ?_, grown_self _ _⟩
    have : lensS [] = [] := by unfold lensS; rw [List.mergeSort_nil]
    rw [this]
    exact hr
  · obtain ⟨d, hd⟩ : ∃ d : Array Sm, d = (L.map (Fin.ofNat 1000001)).toArray := ⟨_, rfl⟩
    have hdl : d.toList.map (·.val) = L := by
      rw [hd]
      show (L.map (Fin.ofNat 1000001)).map (·.val) = L
      rw [List.map_map]
      refine (List.map_congr_left (g := id) fun x hx => ?_).trans (List.map_id L)
      have := hs x hx
      show x % 1000001 = x
      exact Nat.mod_eq_of_lt (by omega)
    have hvl : (vals d).toList = L := by rw [← hdl]; simp [vals]
    have hds : d.size = L.length := by rw [hd]; simp
    have hH : Holds encS w g 0 d := by
      have h1 := holds_of (d := vals d) (by rw [hvl]; have e : (vals d).size = L.length := by rw [size_vals, hds]
                                            exact hr)
      intro j hj
      have h2 := h1 j (by rw [size_vals]; exact hj)
      have e : encN ((vals d)[j]!) = encS (d[j]!) := by
        rw [getElem!_pos d _ hj, getElem!_pos (vals d) _ (by rw [size_vals]; exact hj)]
        simp [vals, encS]
      rw [← e]
      exact h2
    have hcmp : CmpLays1 Try.prog 102 #[] encS (fun x y : Sm => (y.val : Int) - (x.val : Int)) g 0 d.size w := by
      intro mm os dk hsz x y
      refine (clo102 x.val y.val _ (by have := x.isLt; omega) (by have := y.isLt; omega)).mono ?_
      rintro e w' ⟨h1, h2⟩
      exact ⟨h1, by rw [h2]; exact Gr.self _⟩
    have cS := Any.slices_SortFunc_total laysSF encS (fun _ => rfl) (fun x y : Sm => (y.val : Int) - (x.val : Int)) swo_sm 102 #[] g 0 cap d w (enters_of Try.func102 (by kernel_rfl) rfl) hcmp hH hg (by rw [hds]; omega) (fun x y h1 h2 => by
      have h3 : ¬ ((y.val : Int) - (x.val : Int) < 0) := of_decide_eq_false h1
      have h4 : ¬ ((x.val : Int) - (y.val : Int) < 0) := of_decide_eq_false h2
      exact Fin.ext (by omega))
    rw [hds] at cS
    refine cS.mono ?_
    rintro e w' ⟨rfl, n, os, rfl⟩
    obtain ⟨d', hd'⟩ : ∃ d', d' = (d.toList.mergeSort fun x y => !(ltOf (fun x y : Sm => (y.val : Int) - (x.val : Int))) y x).toArray := ⟨_, rfl⟩
    rw [← hd', sortWorld_vals]
    have hl2 : (vals d').toList = lensS L := by
      rw [← merge_lensS, ← hdl, hd']
      simp only [vals, Array.toList_map]
      rw [List.map_mergeSort (s := fun x y : Nat => !(ltOf (fun x y : Nat => (y : Int) - (x : Int))) y x)]
      intro a _ b _
      rfl
    have hSW : SW encN w g 0 (vals d') (sortWorld encN w g 0 n (vals d') os) := ⟨n, os, rfl⟩
    have hsz : (vals d').size = L.length := by
      have := congrArg List.length hl2
      unfold lensS at this
      rw [List.length_mergeSort] at this
      simpa using this
    have r5 := SW_row hr hSW hsz
    rw [hl2] at r5
    exact ⟨rfl, r5, twin_grown (SW_twin hSW)⟩
end Go.Proofs.Ytdeeeechdlcdbaa.HiB
