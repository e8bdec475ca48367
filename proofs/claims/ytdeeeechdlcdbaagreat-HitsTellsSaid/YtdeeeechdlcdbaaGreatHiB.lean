/- The sorts of hits: a stable one by how long phrases are, the longest first; one of lengths, the greatest first. -/
import Derived.Test.YtdeeeechdlcdbaaGreatHiA
import Derived.Test.YtdeeeechdlcdbaaGreatT1
import Derived.Shelf.SlSortCmp.NoneTotal
set_option linter.unusedVariables false
set_option linter.unusedSimpArgs false
namespace Go.Proofs.YtdeeeechdlcdbaaGreat.HiB
open Go Go.Shelf Go.RowKit Go.Sort Go.Lib Go.Proofs Go.Proofs.YtdeeeechdlcdbaaGreat Go.Proofs.YtdeeeechdlcdbaaGreat.Base Go.Proofs.YtdeeeechdlcdbaaGreat.DiA Go.Proofs.YtdeeeechdlcdbaaGreat.LkM Go.Proofs.YtdeeeechdlcdbaaGreat.LkA Go.Proofs.YtdeeeechdlcdbaaGreat.LkL Go.Proofs.YtdeeeechdlcdbaaGreat.LkN Go.Proofs.YtdeeeechdlcdbaaGreat.HiP Go.Proofs.YtdeeeechdlcdbaaGreat.HiQ Go.Proofs.YtdeeeechdlcdbaaGreat.HiA
def laysSF_ren : Go.Shelf.Ren := ⟨fun | 6 => 88 | 14 => 112 | 15 => 113 | 20 => 121 | 21 => 123 | 22 => 124 | 23 => 125 | 24 => 126 | 25 => 127 | 26 => 128 | 27 => 129 | 28 => 130 | 29 => 131 | 46 => 135 | 47 => 136 | 48 => 137 | 49 => 138 | 50 => 139 | 57 => 150 | n => n, fun | 0 => 0 | 3 => 3 | 4 => 4 | 5 => 5 | 9 => 9 | 22 => 31 | 24 => 3 | 25 => 112 | 39 => 146 | 45 => 154 | 46 => 155 | 50 => 100 | 53 => 161 | 55 => 163 | 66 => 167 | 70 => 171 | 76 => 179 | 77 => 75 | n => n, fun | n => n⟩
theorem laysSF : Go.Proofs.SlLaysF.n6 Tryz.prog laysSF_ren := {
  mixed := by kernel_rfl
  f6 := ⟨Tryz.f88.name, by decide, Tryz.func88.trans (congrArg some (by kernel_rfl))⟩
  f14 := ⟨Tryz.f112.name, by decide, Tryz.func112.trans (congrArg some (by kernel_rfl))⟩
  f15 := Tryz.func113.trans (congrArg some (by kernel_rfl))
  f20 := ⟨Tryz.f121.name, by decide, Tryz.func121.trans (congrArg some (by kernel_rfl))⟩
  f21 := ⟨Tryz.f123.name, by decide, Tryz.func123.trans (congrArg some (by kernel_rfl))⟩
  f22 := ⟨Tryz.f124.name, by decide, Tryz.func124.trans (congrArg some (by kernel_rfl))⟩
  f23 := ⟨Tryz.f125.name, by decide, Tryz.func125.trans (congrArg some (by kernel_rfl))⟩
  f24 := ⟨Tryz.f126.name, by decide, Tryz.func126.trans (congrArg some (by kernel_rfl))⟩
  f25 := ⟨Tryz.f127.name, by decide, Tryz.func127.trans (congrArg some (by kernel_rfl))⟩
  f26 := ⟨Tryz.f128.name, by decide, Tryz.func128.trans (congrArg some (by kernel_rfl))⟩
  f27 := ⟨Tryz.f129.name, by decide, Tryz.func129.trans (congrArg some (by kernel_rfl))⟩
  f28 := Tryz.func130.trans (congrArg some (by kernel_rfl))
  f29 := Tryz.func131.trans (congrArg some (by kernel_rfl))
  f46 := ⟨Tryz.f135.name, by decide, Tryz.func135.trans (congrArg some (by kernel_rfl))⟩
  f47 := Tryz.func136.trans (congrArg some (by kernel_rfl))
  f48 := Tryz.func137.trans (congrArg some (by kernel_rfl))
  f49 := ⟨Tryz.f138.name, by decide, Tryz.func138.trans (congrArg some (by kernel_rfl))⟩
  f50 := ⟨Tryz.f139.name, by decide, Tryz.func139.trans (congrArg some (by kernel_rfl))⟩
  f57 := ⟨Tryz.f150.name, by decide, Tryz.func150.trans (congrArg some (by kernel_rfl))⟩
  t0 := Tryz.underlying0
  a0 := Tryz.isAgg0
  z0 := Tryz.sizeOf0
  v0 := Tryz.zeroValue0
  t3 := Tryz.underlying3
  a3 := Tryz.isAgg3
  z3 := Tryz.sizeOf3
  v3 := Tryz.zeroValue3
  t4 := Tryz.underlying4
  a4 := Tryz.isAgg4
  z4 := Tryz.sizeOf4
  v4 := Tryz.zeroValue4
  t5 := Tryz.underlying5
  a5 := Tryz.isAgg5
  z5 := Tryz.sizeOf5
  v5 := Tryz.zeroValue5
  t9 := Tryz.underlying9
  a9 := Tryz.isAgg9
  z9 := Tryz.sizeOf9
  v9 := Tryz.zeroValue9
  t22 := Tryz.underlying31
  a22 := Tryz.isAgg31
  z22 := Tryz.sizeOf31
  v22 := Tryz.zeroValue31
  a24 := Tryz.isAgg3
  z24 := Tryz.sizeOf3
  t25 := Tryz.underlying112
  a25 := Tryz.isAgg112
  z25 := Tryz.sizeOf112
  v25 := Tryz.zeroValue112
  t39 := Tryz.underlying146
  a39 := Tryz.isAgg146
  z39 := Tryz.sizeOf146
  v39 := Tryz.zeroValue146
  t45 := Tryz.underlying154
  a45 := Tryz.isAgg154
  z45 := Tryz.sizeOf154
  v45 := Tryz.zeroValue154
  t46 := Tryz.underlying155
  a46 := Tryz.isAgg155
  z46 := Tryz.sizeOf155
  v46 := Tryz.zeroValue155
  t50 := Tryz.underlying100
  a50 := Tryz.isAgg100
  z50 := Tryz.sizeOf100
  v50 := Tryz.zeroValue100
  t53 := Tryz.underlying161
  a53 := Tryz.isAgg161
  z53 := Tryz.sizeOf161
  v53 := Tryz.zeroValue161
  t55 := Tryz.underlying163
  a55 := Tryz.isAgg163
  z55 := Tryz.sizeOf163
  v55 := Tryz.zeroValue163
  t66 := Tryz.underlying167
  a66 := Tryz.isAgg167
  z66 := Tryz.sizeOf167
  v66 := Tryz.zeroValue167
  t70 := Tryz.underlying171
  a70 := Tryz.isAgg171
  z70 := Tryz.sizeOf171
  v70 := Tryz.zeroValue171
  t76 := Tryz.underlying179
  a76 := Tryz.isAgg179
  z76 := Tryz.sizeOf179
  v76 := Tryz.zeroValue179
  t77 := Tryz.underlying75
  a77 := Tryz.isAgg75
  z77 := Tryz.sizeOf75
  v77 := Tryz.zeroValue75 }
theorem Gr.self (w : World) : ∃ q os', w = grow (w.drewN q) os' := Gr.refl w
set_option maxRecDepth 100000 in
set_option maxHeartbeats 1000000 in
/-- The comparison of two phrases, the longer one first. -/
theorem clo72 {B b : Nat} {w : World} {v : Value} {zs : List ByteArray} (h : DV B w v zs) (hb : w.cell? ⟨b, 0, none⟩ = some v) (hs : ∀ k, szk zs k ≤ 1000000) (x y : Nat) :
    Calls Tryz.prog 84 #[.int .i64 (x : Int), .int .i64 (y : Int), .pointer (some ⟨b, 0, none⟩)] w fun e w' => e = .returned (.int .i64 ((szk zs y : Int) - (szk zs x : Int))) ∧ Gr w w' := by
  have hm : Tryz.prog.follows .mixedOrders = true := by kernel_rfl
  have hv : ∃ a, v = .pointer a := by rcases h with ⟨h, _⟩ | ⟨p, h, _⟩ <;> exact ⟨_, h⟩
  obtain ⟨a, rfl⟩ := hv
  have hl := World.block_lt_of_cell? w _ hb
  have hcl := fun n os => cell_grown (w := w) (a := ⟨b, 0, none⟩) hl hb n os
  have hk : ∀ n os, Below w.heap.size w (grow (w.drewN n) os) := fun n os => Gr.below ⟨n, os, rfl⟩
  have d1 : ∀ n os, Calls Tryz.prog 85 #[.pointer a, .int .i64 (x : Int)] (grow (w.drewN n) os) fun e w' => e = .returned (.int .i64 (szk zs x : Int)) ∧ ∃ q os', w' = grow ((grow (w.drewN n) os).drewN q) os' := fun n os =>
    (size_call (h.below (hk n os)) x).mono fun e w' ⟨h1, h2⟩ => ⟨h1, by rw [h2]; exact Gr.self _⟩
  have d2 : ∀ n os, Calls Tryz.prog 85 #[.pointer a, .int .i64 (y : Int)] (grow (w.drewN n) os) fun e w' => e = .returned (.int .i64 (szk zs y : Int)) ∧ ∃ q os', w' = grow ((grow (w.drewN n) os).drewN q) os' := fun n os =>
    (size_call (h.below (hk n os)) y).mono fun e w' ⟨h1, h2⟩ => ⟨h1, by rw [h2]; exact Gr.self _⟩
  have b1 := hs x
  have b2 := hs y
  generalize szk zs x = D1 at d1 b1 ⊢
  generalize szk zs y = D2 at d2 b2 ⊢
  have z1 : IntKind.i64.wrap ((D2 : Int) - (D1 : Int)) = (D2 : Int) - (D1 : Int) := by rw [IntKind.wrap_i64]; omega
  clear h hs hb hk
  go_enter Tryz.func84, Tryz.ntmps84
  go_wp2_with fail
  go_quiet_grown (first | (with_reducible exact Calls.grown_of (d2 _ _)) | (with_reducible exact Calls.grown_of (d1 _ _)))
  go_wp2_with fail
  go_ret
  exact ⟨rfl, nq, osq, rfl⟩
set_option maxHeartbeats 400000 in
theorem clo102 (x y : Nat) (w : World) (hx : x ≤ 1000000) (hy : y ≤ 1000000) : Calls Tryz.prog 89 #[.int .i64 (x : Int), .int .i64 (y : Int)] w fun e w' => e = .returned (.int .i64 ((y : Int) - (x : Int))) ∧ w' = w := by
  have z1 : IntKind.i64.wrap ((y : Int) - (x : Int)) = (y : Int) - (x : Int) := by rw [IntKind.wrap_i64]; omega
  go_enter Tryz.func89, Tryz.ntmps89
  go_wp2_with fail
  go_ret
  exact ⟨rfl, rfl⟩
theorem laysIns0 : Go.Proofs.SlLaysF0.n20 Tryz.prog laysIns_ren := { laysIns with }
set_option maxHeartbeats 1000000 in
theorem stable_none (cap : Nat) (fv : Value) (w : World) : Calls Tryz.prog 109 #[.slice none 0 cap, .int .i64 0, fv] w fun e w' => e = .returned (.tuple #[]) ∧ w' = w := by
  have hi := fun W => AnyF.insertionSortCmpFunc_none laysIns0 none cap fv W
  go_enter Tryz.func109, Tryz.ntmps109
  go_wp2_with fail
  refine wp_loop_rounds 1 ?_
  rw [rounds_succ]
  go_wp2_with fail
  refine (hi _).mono ?_
  rintro e w1 ⟨rfl, rfl⟩
  go_wp2_with fail
  refine wp_loop_rounds 1 ?_
  rw [rounds_succ]
  go_wp2_with fail
  go_end0
  exact ⟨rfl, rfl⟩
set_option maxHeartbeats 1000000 in
theorem sort_none (cap : Nat) (fv : Value) (w : World) : Calls Tryz.prog 83 #[.slice none 0 cap, fv] w fun e w' => e = .returned (.tuple #[]) ∧ w' = w := by
  have hs := fun W => stable_none cap fv W
  go_enter Tryz.func83, Tryz.ntmps83
  go_wp2_with fail
  refine (hs _).mono ?_
  rintro e w1 ⟨rfl, rfl⟩
  go_wp2_with fail
  go_end0
  exact ⟨rfl, rfl⟩
theorem own_nil_or {w : World} {base : Nat} {e : TypeId} {size n : Nat} {v : Value} {xs : List Value} (h : w.ownsRow base e size v n xs) : (v = .slice none 0 0 ∧ n = 0) ∨ ∃ g cap, v = .slice (some ⟨g, 0, none⟩) n cap ∧ base ≤ g ∧ g < w.heap.size := by
  rcases h.2 with h1 | ⟨g, cap, cur, h1, h2, h3, _⟩
  · exact .inl h1
  · exact .inr ⟨g, cap, h1, h2, heap_lt h3⟩
theorem twin_grown {w w' : World} {g : Nat} (h : LkL.Twin g g w w') : w.grownBy w' (some g) := ⟨h.os, h.tape, h.output, h.size, fun k hk hne => h.block k hk (fun e => hne (by rw [e])) (fun e => hne (by rw [e]))⟩
theorem grown_self (w : World) (r : Option Nat) : w.grownBy w r := ⟨rfl, rfl, rfl, Nat.le_refl _, fun _ _ _ => rfl⟩
theorem ltOf_szk (zs : List ByteArray) : ltOf (fun x y : Nat => (szk zs y : Int) - (szk zs x : Int)) = fun x y => decide (szk zs y < szk zs x) := by
  funext x y
  show decide ((szk zs y : Int) - (szk zs x : Int) < 0) = decide (szk zs y < szk zs x)
  exact decide_eq_decide.2 (by omega)
theorem swo_szk (zs : List ByteArray) : SWO (ltOf (fun x y : Nat => (szk zs y : Int) - (szk zs x : Int))) := by
  rw [ltOf_szk]
  exact ⟨fun x => by simp, fun x y z h1 h2 => by simp at *; omega, fun x y z h1 h2 => by simp at *; omega⟩
theorem sorted_rowS (zs : List ByteArray) (l : List Nat) : sortedBy (ltOf (fun x y : Nat => (szk zs y : Int) - (szk zs x : Int))) l = rowS (szk zs) l := by
  unfold sortedBy rowS
  rw [ltOf_szk]
  congr 1
  funext x y
  by_cases h : szk zs y ≤ szk zs x
  · simp [h]; try omega
  · simp [h]; try omega
/-- A row of phrases sorted, where it lies: the longest first. -/
theorem sort_row {B Bd b : Nat} {w : World} {v dv : Value} {zs : List ByteArray} {L : List Nat} (hr : w.ownsRow B 3 1 v L.length (L.map encN)) (hbig : L.length ≤ 1000000) (hs : ∀ k, szk zs k ≤ 1000000)
    (hD : ∀ W, w.grownBy W v.ownBlock → DV Bd W dv zs ∧ W.cell? ⟨b, 0, none⟩ = some dv) :
    Calls Tryz.prog 83 #[v, .func (.func 84) #[] #[.pointer (some ⟨b, 0, none⟩)]] w fun e w' => e = .returned (.tuple #[]) ∧ w'.ownsRow B 3 1 v L.length ((rowS (szk zs) L).map encN) ∧ w.grownBy w' v.ownBlock := by
  rcases own_nil_or hr with ⟨rfl, h0⟩ | ⟨g, cap, rfl, hB, hg⟩
  · obtain rfl := List.eq_nil_of_length_eq_zero h0
    refine (sort_none 0 _ w).mono ?_
    rintro e w' ⟨rfl, rfl⟩
    refine ⟨rfl, ?_, grown_self _ _⟩
    have : rowS (szk zs) [] = [] := by unfold rowS; rw [List.mergeSort_nil]
    rw [this]
    exact hr
  · obtain ⟨d, hd⟩ : ∃ d : Array Nat, d = L.toArray := ⟨_, rfl⟩
    have hdl : d.toList = L := by rw [hd]
    have hds : d.size = L.length := by rw [hd]; simp
    rw [← hdl] at hr
    have hcmp : CmpLays1 Tryz.prog 84 #[.pointer (some ⟨b, 0, none⟩)] encN (fun x y : Nat => (szk zs y : Int) - (szk zs x : Int)) g 0 d.size w := by
      intro mm os dk hsz x y
      have tw := twin_grown (SW_twin (⟨mm, os, rfl⟩ : SW encN w g 0 dk (sortWorld encN w g 0 mm dk os)))
      obtain ⟨k1, k2⟩ := hD _ tw
      exact clo72 k1 k2 hs x y
    have cS := sorted_call encN (fun _ => rfl) (fun x y : Nat => (szk zs y : Int) - (szk zs x : Int)) (swo_szk zs) 84 #[.pointer (some ⟨b, 0, none⟩)] g 0 cap d w (enters_of Tryz.func84 (by kernel_rfl) rfl) hcmp (holds_of (by rw [hdl] at hr ⊢; exact hds ▸ hr)) hg (by rw [hds]; omega)
    rw [hds] at cS
    rw [hdl] at hr
    refine cS.mono ?_
    rintro e w' ⟨rfl, d', hd', hSW⟩
    rw [hdl, sorted_rowS] at hd'
    have hds' : d'.size = L.length := by
      have := congrArg List.length hd'
      rw [(rowS_perm L).length_eq] at this
      simpa using this
    have r5 := SW_row hr hSW hds'
    rw [hd'] at r5
    exact ⟨rfl, r5, twin_grown (SW_twin hSW)⟩
theorem ltOf_num : ltOf (fun x y : Nat => (y : Int) - (x : Int)) = fun x y => decide (y < x) := by
  funext x y
  show decide ((y : Int) - (x : Int) < 0) = decide (y < x)
  exact decide_eq_decide.2 (by omega)
theorem swo_num : SWO (ltOf (fun x y : Nat => (y : Int) - (x : Int))) := by
  rw [ltOf_num]
  exact ⟨fun x => by simp, fun x y z h1 h2 => by simp at *; omega, fun x y z h1 h2 => by simp at *; omega⟩
theorem merge_lensS (l : List Nat) : (l.mergeSort fun x y => !(ltOf (fun x y : Nat => (y : Int) - (x : Int))) y x) = lensS l := by
  unfold lensS
  rw [ltOf_num]
  congr 1
  funext x y
  by_cases h : y ≤ x
  · simp [h]
  · simp [h]; omega
abbrev Sm := Fin 1000001
def encS (x : Sm) : Value := encN x.val
def vals (D : Array Sm) : Array Nat := D.map (·.val)
theorem size_vals (D : Array Sm) : (vals D).size = D.size := by simp [vals]
theorem putRow_vals (w : World) (blk off : Nat) (D : Array Sm) : putRow encS w blk off D = putRow encN w blk off (vals D) := by
  unfold putRow
  congr 1
  funext cs
  unfold putCells
  refine Array.ext (by simp) fun i h1 h2 => ?_
  simp only [Array.getElem_mapIdx, size_vals]
  by_cases h : off ≤ i ∧ i < off + D.size
  · rw [if_pos h, if_pos h]
    have hi : i - off < D.size := by omega
    rw [getElem!_pos D _ hi, getElem!_pos (vals D) _ (by rw [size_vals]; exact hi)]
    simp [vals, encS]
  · rw [if_neg h, if_neg h]
theorem sortWorld_vals (w : World) (blk off m : Nat) (D : Array Sm) (os : Array Obj) : sortWorld encS w blk off m D os = sortWorld encN w blk off m (vals D) os := by
  unfold sortWorld
  rw [putRow_vals]
theorem swo_sm : SWO (ltOf (fun x y : Sm => (y.val : Int) - (x.val : Int))) := by
  have h := swo_num
  exact ⟨fun x => h.irrefl x.val, fun x y z => h.trans x.val y.val z.val, fun x y z => h.ntrans x.val y.val z.val⟩
theorem laysSF0 : Go.Proofs.SlLaysF0.n6 Tryz.prog laysSF_ren := { laysSF with }
/-- A row of numbers sorted, where it lies: the greatest first. -/
theorem sort_lens {B : Nat} {w : World} {v : Value} {L : List Nat} (hr : w.ownsRow B 3 1 v L.length (L.map encN)) (hbig : L.length ≤ 1000000) (hs : ∀ x ∈ L, x ≤ 1000000) :
    Calls Tryz.prog 88 #[v, .func (.func 89) #[] #[]] w fun e w' => e = .returned (.tuple #[]) ∧ w'.ownsRow B 3 1 v L.length ((lensS L).map encN) ∧ w.grownBy w' v.ownBlock := by
  rcases own_nil_or hr with ⟨rfl, h0⟩ | ⟨g, cap, rfl, hB, hg⟩
  · obtain rfl := List.eq_nil_of_length_eq_zero h0
    refine (AnyF.slices_SortFunc_none laysSF0 none 0 (.func (.func 89) #[] #[]) w).mono ?_
    rintro e w' ⟨rfl, rfl⟩
    refine ⟨rfl, ?_, grown_self _ _⟩
    have : lensS [] = [] := by unfold lensS; rw [List.mergeSort_nil]
    rw [this]
    exact hr
  · obtain ⟨d, hd⟩ : ∃ d : Array Sm, d = (L.map (Fin.ofNat 1000001)).toArray := ⟨_, rfl⟩
    have hdl : d.toList.map (·.val) = L := by
      rw [hd]
      show (L.map (Fin.ofNat 1000001)).map (·.val) = L
      rw [List.map_map]
      refine (List.map_congr_left (g := id) fun x hx => ?_).trans (List.map_id L)
      have := hs x hx
      show x % 1000001 = x
      exact Nat.mod_eq_of_lt (by omega)
    have hvl : (vals d).toList = L := by rw [← hdl]; simp [vals]
    have hds : d.size = L.length := by rw [hd]; simp
    have hH : Holds encS w g 0 d := by
      have h1 := holds_of (d := vals d) (by rw [hvl]; have e : (vals d).size = L.length := by rw [size_vals, hds]
                                            exact hr)
      intro j hj
      have h2 := h1 j (by rw [size_vals]; exact hj)
      have e : encN ((vals d)[j]!) = encS (d[j]!) := by
        rw [getElem!_pos d _ hj, getElem!_pos (vals d) _ (by rw [size_vals]; exact hj)]
        simp [vals, encS]
      rw [← e]
      exact h2
    have hcmp : CmpLays1 Tryz.prog 89 #[] encS (fun x y : Sm => (y.val : Int) - (x.val : Int)) g 0 d.size w := by
      intro mm os dk hsz x y
      refine (clo102 x.val y.val _ (by have := x.isLt; omega) (by have := y.isLt; omega)).mono ?_
      rintro e w' ⟨h1, h2⟩
      exact ⟨h1, by rw [h2]; exact Gr.self _⟩
    have cS := Any.slices_SortFunc_total laysSF encS (fun _ => rfl) (fun x y : Sm => (y.val : Int) - (x.val : Int)) swo_sm 89 #[] g 0 cap d w (enters_of Tryz.func89 (by kernel_rfl) rfl) hcmp hH hg (by rw [hds]; omega) (fun x y h1 h2 => by
      have h3 : ¬ ((y.val : Int) - (x.val : Int) < 0) := of_decide_eq_false h1
      have h4 : ¬ ((x.val : Int) - (y.val : Int) < 0) := of_decide_eq_false h2
      exact Fin.ext (by omega))
    rw [hds] at cS
    refine cS.mono ?_
    rintro e w' ⟨rfl, n, os, rfl⟩
    obtain ⟨d', hd'⟩ : ∃ d', d' = (d.toList.mergeSort fun x y => !(ltOf (fun x y : Sm => (y.val : Int) - (x.val : Int))) y x).toArray := ⟨_, rfl⟩
    rw [← hd', sortWorld_vals]
    have hl2 : (vals d').toList = lensS L := by
      rw [← merge_lensS, ← hdl, hd']
      simp only [vals, Array.toList_map]
      rw [List.map_mergeSort (s := fun x y : Nat => !(ltOf (fun x y : Nat => (y : Int) - (x : Int))) y x)]
      intro a _ b _
      rfl
    have hSW : SW encN w g 0 (vals d') (sortWorld encN w g 0 n (vals d') os) := ⟨n, os, rfl⟩
    have hsz : (vals d').size = L.length := by
      have := congrArg List.length hl2
      unfold lensS at this
      rw [List.length_mergeSort] at this
      simpa using this
    have r5 := SW_row hr hSW hsz
    rw [hl2] at r5
    exact ⟨rfl, r5, twin_grown (SW_twin hSW)⟩
end Go.Proofs.YtdeeeechdlcdbaaGreat.HiB
