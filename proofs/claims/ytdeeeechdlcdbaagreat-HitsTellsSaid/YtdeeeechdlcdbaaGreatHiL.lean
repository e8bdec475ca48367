/- The walks of hits.Lengths and hits.Longest. -/
import Derived.Test.YtdeeeechdlcdbaaGreatHiW
set_option linter.unusedVariables false
set_option linter.unusedSimpArgs false
namespace Go.Proofs.YtdeeeechdlcdbaaGreat.HiL
open Go Go.RowKit Go.Sort Go.Lib Go.Proofs Go.Proofs.YtdeeeechdlcdbaaGreat Go.Proofs.YtdeeeechdlcdbaaGreat.Base Go.Proofs.YtdeeeechdlcdbaaGreat.DiA Go.Proofs.YtdeeeechdlcdbaaGreat.DiB Go.Proofs.YtdeeeechdlcdbaaGreat.DiD Go.Proofs.YtdeeeechdlcdbaaGreat.TcP Go.Proofs.YtdeeeechdlcdbaaGreat.LkM Go.Proofs.YtdeeeechdlcdbaaGreat.LkA Go.Proofs.YtdeeeechdlcdbaaGreat.LkL Go.Proofs.YtdeeeechdlcdbaaGreat.LkN Go.Proofs.YtdeeeechdlcdbaaGreat.ScN Go.Proofs.YtdeeeechdlcdbaaGreat.HiP Go.Proofs.YtdeeeechdlcdbaaGreat.HiQ Go.Proofs.YtdeeeechdlcdbaaGreat.HiA Go.Proofs.YtdeeeechdlcdbaaGreat.HiB Go.Proofs.YtdeeeechdlcdbaaGreat.RwA Go.Proofs.YtdeeeechdlcdbaaGreat.HiW
/-- Behind All. -/
def AllP (w : World) (zs : List ByteArray) (e : Ending) (w' : World) : Prop := ∃ V cp, e = .returned (.slice V zs.length cp) ∧ StrsAt w' V zs ∧ Below w.heap.size w w' ∧ ∀ bv ov, V = some ⟨bv, ov, none⟩ → w.heap.size ≤ bv
set_option maxHeartbeats 400000 in
theorem all_none (w : World) : Calls Tryz.prog 86 #[.pointer none] w fun e w' => e = .returned (.slice none 0 0) ∧ w' = w := by
  go_enter Tryz.func86, Tryz.ntmps86
  go_wp2_with fail
  go_ret
  exact ⟨rfl, rfl⟩
theorem all_dv {B : Nat} {w : World} {v : Value} {zs : List ByteArray} (h : DV B w v zs) (hbig : zs.length ≤ 1000) : Calls Tryz.prog 86 #[v] w fun e w' => AllP w zs e w' := by
  rcases h with ⟨rfl, rfl⟩ | ⟨p, rfl, h⟩
  · refine (all_none w).mono ?_
    rintro e w' ⟨rfl, rfl⟩
    exact ⟨none, 0, rfl, fun hn => absurd hn (Nat.lt_irrefl 0), Below.refl _ _, fun _ _ h => by cases h⟩
  · refine (all_any B p zs w h hbig).mono ?_
    rintro e w' ⟨hb, V, cp, rfl, ho⟩
    obtain ⟨V2, cp2, e2, hs⟩ := own_cells ho rfl
    injection e2 with e3 _ e4
    subst e3
    exact ⟨V, cp, rfl, hs, hb, fun bv ov hV => own_ge ho bv (by rw [hV]; rfl)⟩
theorem strs_twin {w w' : World} {g : Nat} {V : Option Addr} {zs : List ByteArray} (h : StrsAt w V zs) (ht : LkL.Twin g g w w') (hne : ∀ bv ov, V = some ⟨bv, ov, none⟩ → bv ≠ g) : StrsAt w' V zs := by
  intro hn
  obtain ⟨b, off, h1, h2, h3⟩ := h hn
  refine ⟨b, off, h1, Nat.lt_of_lt_of_le h2 ht.size, fun j hj => ?_⟩
  have hc := h3 j hj
  unfold World.cell? at hc ⊢
  rw [ht.block b h2 (hne b off h1) (hne b off h1)]; exact hc
theorem rows_rebase {B B' g n : Nat} {w : World} (h : RowsV B g w (List.replicate n []) (List.replicate n (.slice none 0 0))) : RowsV B' g w (List.replicate n []) (List.replicate n (.slice none 0 0)) := by
  refine ⟨h.len, h.head, fun i hi => ?_, h.apart⟩
  rw [List.length_replicate] at hi
  have e1 : (List.replicate n (Value.slice none 0 0)).getD i undef = .slice none 0 0 := by
    rw [List.getD_eq_getElem?_getD, List.getElem?_replicate, if_pos hi]; rfl
  have e2 : (List.replicate n ([] : List Nat)).getD i [] = [] := by
    rw [List.getD_eq_getElem?_getD, List.getElem?_replicate, if_pos hi]; rfl
  rw [e1, e2]
  exact World.ownsRow_nil _ _ _ _
/-- The rows of the first i places. -/
def FL (zs : List ByteArray) (B : List UInt8) (n i : Nat) : List (List Nat) := (List.range n).map fun j => if j < i then lensL zs B j else []
theorem FL_len (zs : List ByteArray) (B : List UInt8) (n i : Nat) : (FL zs B n i).length = n := by unfold FL; simp
theorem FL_at {zs : List ByteArray} {B : List UInt8} {n i j : Nat} (hj : j < n) : (FL zs B n i).getD j [] = if j < i then lensL zs B j else [] := by
  unfold FL
  rw [List.getD_eq_getElem?_getD, List.getElem?_map, List.getElem?_range hj]; rfl
theorem FL_zero (zs : List ByteArray) (B : List UInt8) (n : Nat) : FL zs B n 0 = List.replicate n [] := by
  apply List.ext_getElem?
  intro j
  unfold FL
  rw [List.getElem?_map, List.getElem?_replicate]
  by_cases h : j < n
  · rw [List.getElem?_range h, if_pos h]; rfl
  · rw [List.getElem?_eq_none (by simp; omega), if_neg h]; rfl
theorem ext_getD {L M : List (List Nat)} (hl : L.length = M.length) (h : ∀ j, j < L.length → L.getD j [] = M.getD j []) : L = M := by
  apply List.ext_getElem? 
  intro j
  by_cases hj : j < L.length
  · have := h j hj
    rw [List.getD_eq_getElem?_getD, List.getD_eq_getElem?_getD, List.getElem?_eq_getElem hj, List.getElem?_eq_getElem (by omega)] at this
    rw [List.getElem?_eq_getElem hj, List.getElem?_eq_getElem (by omega)]
    exact congrArg some this
  · rw [List.getElem?_eq_none (by omega), List.getElem?_eq_none (by omega)]
theorem FL_start {zs : List ByteArray} {B : List UInt8} {n i : Nat} (hi : i < n) : (FL zs B n i).set i (lenU zs B i 0) = FL zs B n i := by
  refine ext_getD (by simp) fun j hj => ?_
  rw [List.length_set, FL_len] at hj
  rw [getD_setL (by rw [FL_len]; exact hi)]
  by_cases e : i = j
  · subst e
    rw [if_pos rfl, FL_at hj, if_neg (Nat.lt_irrefl _)]
    rfl
  · rw [if_neg e]
theorem FL_next {zs : List ByteArray} {B : List UInt8} {n i : Nat} {l : List Nat} (hi : i < n) : ((FL zs B n i).set i l).set i (lensL zs B i) = FL zs B n (i + 1) := by
  refine ext_getD (by simp [FL_len]) fun j hj => ?_
  rw [List.length_set, List.length_set, FL_len] at hj
  rw [List.set_set, getD_setL (by rw [FL_len]; exact hi), FL_at hj, FL_at hj]
  by_cases e : i = j
  · subst e
    rw [if_pos rfl, if_pos (Nat.lt_succ_self _)]
  · rw [if_neg e]
    by_cases h : j < i
    · rw [if_pos h, if_pos (by omega)]
    · rw [if_neg h, if_neg (by omega)]
/-- Behind Lengths. -/
def LePost (w : World) (zs : List ByteArray) (b : ByteArray) (e : Ending) (w' : World) : Prop := Below w.heap.size w w' ∧ ∃ g B, e = .returned (.slice (some ⟨g, 0, none⟩) b.size b.size) ∧ w.heap.size ≤ g ∧ w.heap.size ≤ B ∧ Rws B g w' (FL zs b.data.toList b.size b.size)
set_option maxRecDepth 100000 in
set_option maxHeartbeats 4000000 in
theorem lengths_any {Bd : Nat} {w : World} {dv : Value} {zs : List ByteArray} (b : ByteArray) (hD0 : DV Bd w dv zs) (hs0 : ∀ k, szk zs k ≤ 1000) (hz0 : zs.length ≤ 1000) (hn : b.size ≤ 1024) :
    Calls Tryz.prog 45 #[dv, .string b] w fun e w' => LePost w zs b e w' := by
  obtain ⟨i3, hi3, hy0, hy1, hy2⟩ := info_parts info3
  have hv : ∃ a, dv = .pointer a := by rcases hD0 with ⟨h, _⟩ | ⟨p, h, _⟩ <;> exact ⟨_, h⟩
  obtain ⟨pd, rfl⟩ := hv
  obtain ⟨n, hnb⟩ : ∃ n, b.size = n := ⟨_, rfl⟩
  have hnh : Hid (b.size = n) := hnb
  have hmk := make_rows (n := n) (by omega)
  have R0 := rows_made (B := w.heap.size) (n := n) (w := w) (Nat.le_refl _)
  obtain ⟨w1, hw1⟩ : ∃ w1, w1 = w.alloc (.cells (nilRows n) 31) := ⟨_, rfl⟩
  obtain ⟨g, hg⟩ : ∃ g, g = w.heap.size := ⟨_, rfl⟩
  have bw1 : Below w.heap.size w w1 := by rw [hw1]; exact balloc (Below.refl _ _) _
  rw [← hw1, ← hg] at R0
  have R0h : Hid (RowsV g g w1 (List.replicate n []) (List.replicate n (.slice none 0 0))) := R0
  have hgw1 : g < w1.heap.size := R0.lt
  have hgh : Hid (g = w.heap.size) := hg
  have cA := all_dv (hD0.below bw1) hz0
  have hs : Hid (∀ k, szk zs k ≤ 1000) := hs0
  have hz : Hid (zs.length ≤ 1000) := hz0
  obtain ⟨zl, hzl⟩ : ∃ zl, zs.length = zl := ⟨_, rfl⟩
  have hzlh : Hid (zs.length = zl) := hzl
  have hnd : ¬ (b.size : Int) > 1024 := by omega
  have hnd2 : decide (1024 < b.size) = false := decide_eq_false (by omega)
  have hbs : b.size ≤ 1024 := hn
  rw [hnb] at hnd hnd2
  clear R0 hs0 hz0 hD0
  go_enter Tryz.func45, Tryz.ntmps45
  go_wp2_with fail
  rw [← hw1, ← hg]
  clear hmk hw1 hg
  refine cA.mono ?_
  rintro e w2 ⟨V, cp, rfl, hV, b2, hVg⟩
  obtain ⟨B2, hB2⟩ : ∃ B2, B2 = w2.heap.size := ⟨_, rfl⟩
  have hB2h : Hid (B2 = w2.heap.size) := hB2
  have R2 : Hid (Rws B2 g w2 (FL zs b.data.toList n 0)) := by show Rws _ _ _ _; rw [FL_zero]; exact ⟨_, rows_rebase (R0h.out.below b2)⟩
  have hVne : Hid (∀ bv ov, V = some ⟨bv, ov, none⟩ → bv ≠ g) := fun bv ov h => by have := hVg bv ov h; omega
  have hgw2 : g < w2.heap.size := by have := b2.size; omega
  have bel2 : Hid (Below w.heap.size w w2) := bstep bw1 b2
  have hVh : Hid (StrsAt w2 V zs) := hV
  rw [hzl]
  clear cA R0h bw1 b2 hV hzl hVg hB2
  go_wp2_with fail
  go_loopw [20] (fun s wr => ∃ i : Nat, i ≤ n ∧ s = .int .i64 (i : Int) ∧ Rws B2 g wr (FL zs b.data.toList n i) ∧ LkL.Twin g g w2 wr) (fun s _ => n - (intOf s).toNat)
  case atStart => exact ⟨0, Nat.zero_le _, rfl, R2.out, LkL.Twin.refl _ _ _⟩
  case round =>
    clear R2
    obtain ⟨i, hi, rfl, hR, br⟩ := hrel
    by_cases hin : i < n
    · have hid : (i : Int) < (n : Int) := by omega
      have hid2 : decide ((i : Int) < (n : Int)) = true := decide_eq_true hid
      have R3 : Hid (Rws B2 g wr ((FL zs b.data.toList n i).set i (lenU zs b.data.toList i 0))) := by show Rws _ _ _ _; rw [FL_start hin]; exact hR
      clear hR
      go_wp2_with fail
      go_loopw [25] (fun s wr => ∃ m : Nat, m ≤ zl ∧ s = .int .i64 (m : Int) ∧ Rws B2 g wr ((FL zs b.data.toList n i).set i (lenU zs b.data.toList i m)) ∧ LkL.Twin g g w2 wr) (fun s _ => zl - (intOf s).toNat)
      case atStart => exact ⟨0, Nat.zero_le _, rfl, R3.out, br⟩
      case round =>
        clear R3 br
        obtain ⟨m, hm, rfl, hR, br⟩ := hrel
        by_cases hmz : m < zl
        · have hmd : (m : Int) < (zl : Int) := by omega
          have hmd2 : decide ((m : Int) < (zl : Int)) = true := decide_eq_true hmd
          have hmh : Hid (m < zs.length) := by show _ < _; rw [hzlh.out]; exact hmz
          obtain ⟨bV, oV, rfl, _, hc⟩ := (strs_twin hVh.out br hVne.out) (by have := hmh.out; omega)
          have l1 := hc m hmh.out
          have cP := prefix_call (b.extract i b.size) (zs.getD m ByteArray.empty) wr (by rw [ByteArray.size_extract]; omega) (by have := hs.out m; unfold szk at this; omega)
          rw [pref_stands (show i ≤ b.size by rw [hnh.out]; omega)] at cP
          have hsm := hs.out m
          have hsz : szk zs m = (zs.getD m ByteArray.empty).size := rfl
          have hsuc : Hid (lenU zs b.data.toList i (m + 1) = lenU zs b.data.toList i m ++ (if stands zs b.data.toList i m = true then [szk zs m] else [])) := lenU_succ _ _ _ _
          rw [hsz] at hsm
          have hszh : Hid (szk zs m = (zs.getD m ByteArray.empty).size) := hsz
          have hzl1 : zl ≤ 1000 := by have := hz.out; have := hzlh.out; omega
          have z1 : IntKind.i64.wrap ((m : Int) + 1) = (m : Int) + 1 := by rw [IntKind.wrap_i64]; omega
          have hib : (i : Int) ≤ (n : Int) := by omega
          have hib2 : i ≤ n := by omega
          rw [hnb] at cP
          generalize zs.getD m ByteArray.empty = z at l1 cP hsm hszh
          cases hst : stands zs b.data.toList i m with
          | false =>
            have hR2 : Hid (Rws B2 g wr ((FL zs b.data.toList n i).set i (lenU zs b.data.toList i (m + 1)))) := by
              show Rws _ _ _ _
              rw [hsuc.out, hst, if_neg (by simp), List.append_nil]; exact hR
            rw [hst] at cP
            clear hc hsuc hst hR hsz hszh
            go_wp2_with fail
            refine cP.mono ?_
            rintro e w5 ⟨rfl, hw⟩
            rw [hw]
            clear cP hw w5
            go_wp2_with fail
            go_roundw
            case rel => exact ⟨m + 1, hmz, by go_num, hR2.out, br⟩
            case measure => simp [intOf]; omega
          | true =>
            have haL : i < ((FL zs b.data.toList n i).set i (lenU zs b.data.toList i m)).length := by rw [List.length_set, FL_len]; exact hin
            have hLi : ((FL zs b.data.toList n i).set i (lenU zs b.data.toList i m)).getD i [] = lenU zs b.data.toList i m := by
              rw [getD_setL (by rw [FL_len]; exact hin), if_pos rfl]
            have hll := lenU_len zs b.data.toList i m
            obtain ⟨vs, hRv⟩ := hR
            have hown0 := hRv.own i haL
            have hg0 := hRv.cell haL
            rw [hLi] at hown0
            have hge0 := own_ge hown0
            have hlt0 := own_lt hown0
            have hgne : some g ≠ (vs.getD i undef).ownBlock := fun e => hRv.ne haL e.symm
            have hgl := hRv.lt
            have hB2w : B2 ≤ wr.heap.size := by rw [hB2h.out]; exact br.size
            have hw2g : w2.heap.size ≤ wr.heap.size := br.size
            have hfin : Hid (∀ (W' : World) (v' : Value), (wr.alloc (.cells #[.int .i64 (z.size : Int)] 3)).grownBy W' (vs.getD i undef).ownBlock → W'.ownsRow B2 3 1 v' ((lenU zs b.data.toList i m).length + 1) ((lenU zs b.data.toList i m).map encN ++ [.int .i64 (z.size : Int)]) → (v'.ownBlock = (vs.getD i undef).ownBlock ∨ v'.ownBlock = some (wr.alloc (.cells #[.int .i64 (z.size : Int)] 3)).heap.size) → W'.cell? ⟨g, i, none⟩ = some (vs.getD i undef) ∧ W'.frozen? ⟨g, i, none⟩ = false ∧ Rws B2 g (W'.setCell ⟨g, i, none⟩ v') ((FL zs b.data.toList n i).set i (lenU zs b.data.toList i (m + 1))) ∧ LkL.Twin g g w2 (W'.setCell ⟨g, i, none⟩ v')) := by
              intro W' v' h1 h2 h3
              have ba : Below wr.heap.size wr (wr.alloc (.cells #[.int .i64 (z.size : Int)] 3)) := balloc (Below.refl _ _) _
              have hk : ∀ k, k < wr.heap.size → some k ≠ (vs.getD i undef).ownBlock → W'.heap[k]? = wr.heap[k]? := fun k hk hne => (h1.block k (Nat.lt_of_lt_of_le hk ba.size) hne).trans (ba.block k hk)
              have hh := (hk g hgl hgne).trans hRv.head
              refine ⟨?_, frozen_of hh, ?_, ?_⟩
              · have hc0 := hg0
                unfold World.cell? at hc0 ⊢
                rw [hk g hgl hgne]; exact hc0
              · have hp := hRv.put haL (v := v') (r := lenU zs b.data.toList i (m + 1)) (w1 := W') hk (by rw [hsuc.out, hst, if_pos rfl, List.length_append, List.map_append, hszh.out]; exact h2) (fun k hk2 => by
                  rcases h3 with e | e
                  · exact .inl (by rw [← e]; exact hk2.symm)
                  · rw [e] at hk2
                    have := Option.some.inj hk2
                    have := ba.size
                    exact .inr (by omega))
                rw [List.set_set] at hp
                exact ⟨_, hp⟩
              · have tw : LkL.Twin g g w2 W' := ⟨(h1.os.trans ba.os).trans br.os, (h1.tape.trans ba.tape).trans br.tape, (h1.output.trans ba.output).trans br.output, Nat.le_trans br.size (Nat.le_trans ba.size h1.size), fun k hk2 hne _ => (hk k (Nat.lt_of_lt_of_le hk2 br.size) (fun e => by have := hge0 k e.symm; have := hB2h.out; omega)).trans (br.block k hk2 hne hne)⟩
                exact tw.trans (LkL.Twin.of_set _ _ (.inl rfl))
            have belh : Hid (LkL.Twin g g w2 wr) := br
            generalize vs.getD i undef = v0 at hown0 hg0 hge0 hlt0 hgne hfin
            obtain ⟨V0, c0, rfl, _⟩ := own_form hown0
            obtain ⟨mr, hmr⟩ : ∃ mr, (lenU zs b.data.toList i m).length = mr := ⟨_, rfl⟩
            rw [hmr] at hown0 hg0 hge0 hlt0 hgne hfin hll
            obtain ⟨xs0, hxs0⟩ : ∃ xs0, (lenU zs b.data.toList i m).map encN = xs0 := ⟨_, rfl⟩
            rw [hxs0] at hown0 hfin
            have own7 := own_below hown0 (balloc (Below.refl _ _) (.cells #[.int .i64 (z.size : Int)] 3))
            have hh3 := heap_new wr (.cells #[.int .i64 (z.size : Int)] 3)
            rw [hst] at cP
            clear hc hsuc hst hsz hszh hRv hLi haL hmr hxs0 hown0 br
            go_wp2_with fail
            refine cP.mono ?_
            rintro e w5 ⟨rfl, hw⟩
            rw [hw]
            clear cP hw w5
            go_wp2_with (first | (at_builtin; refine wpList_append_own_at _ rfl (.tmp 39) (.tmp 42) 31 rfl B2 3 i3 _ 1 8 Tryz.underlying31 hi3 hy0 hy1 hy2 rfl (by decide) _ mr xs0 rfl own7 ⟨wr.heap.size, 0, none⟩ 1 1 [.int .i64 (z.size : Int)] rfl rfl ?k1 ?k2 ?k3 ?k4 ?k5 ?_))
            case k1 => intro j u hj; rw [Addr.add_lit, Nat.zero_add]; exact cell_of hh3 (by simpa using hj)
            case k2 => intro u hu; simp at hu; subst hu; rfl
            case k3 => unfold maxLen; omega
            case k4 => omega
            case k5 => simp; omega
            intro v8 w8 own8 hg8 _ hl8
            obtain ⟨k1, k2, k3, k4⟩ := hfin.out w8 v8 hg8 own8 (hl8.imp id fun e => e.trans (by simp))
            obtain ⟨V8, c8, rfl, _⟩ := own_form own8
            have k3h : Hid (Rws B2 g (w8.setCell ⟨g, i, none⟩ (.slice V8 (mr + 1) c8)) _) := k3
            have k4h : Hid (LkL.Twin g g w2 (w8.setCell ⟨g, i, none⟩ (.slice V8 (mr + 1) c8))) := k4
            clear own8 hg8 hl8 hfin own7 hh3 k3 k4 hg0 hge0 hlt0 hgne hgl hll l1
            go_wp2_with fail
            go_roundw
            case rel => exact ⟨m + 1, hmz, by go_num, k3h.out, k4h.out⟩
            case measure => simp [intOf]; omega
        · have hmd : ¬ (m : Int) < (zl : Int) := by omega
          have hmd2 : decide ((m : Int) < (zl : Int)) = false := decide_eq_false hmd
          have hme : m = zs.length := by have := hzlh.out; omega
          rw [hme] at hR
          have haL : i < ((FL zs b.data.toList n i).set i (lenU zs b.data.toList i zs.length)).length := by rw [List.length_set, FL_len]; exact hin
          have hLi : ((FL zs b.data.toList n i).set i (lenU zs b.data.toList i zs.length)).getD i [] = lenU zs b.data.toList i zs.length := by
            rw [getD_setL (by rw [FL_len]; exact hin), if_pos rfl]
          obtain ⟨vs, hRv⟩ := hR
          have hown0 := hRv.own i haL
          have hg0 := hRv.cell haL
          rw [hLi] at hown0
          have hge0 := own_ge hown0
          have hll := lenU_len zs b.data.toList i zs.length
          have cS := sort_lens hown0 (by have := hz.out; omega) (fun x hx => by
            unfold lenU at hx
            obtain ⟨k, _, rfl⟩ := List.mem_map.1 hx
            exact Nat.le_trans (hs.out k) (by decide))
          have hfin : Hid (∀ w5 : World, w5.ownsRow B2 3 1 (vs.getD i undef) (lenU zs b.data.toList i zs.length).length ((lensS (lenU zs b.data.toList i zs.length)).map encN) → wr.grownBy w5 (vs.getD i undef).ownBlock → Rws B2 g w5 (FL zs b.data.toList n (i + 1)) ∧ LkL.Twin g g w2 w5) := by
            intro w5 h1 h2
            refine ⟨⟨vs, ?_⟩, ⟨h2.os.trans br.os, h2.tape.trans br.tape, h2.output.trans br.output, Nat.le_trans br.size h2.size, fun k hk hne _ => (h2.block k (Nat.lt_of_lt_of_le hk br.size) (fun e => by have := hge0 k e.symm; have := hB2h.out; omega)).trans (br.block k hk hne hne)⟩⟩
            rw [← FL_next (l := lenU zs b.data.toList i zs.length) hin]
            refine hRv.turned haL (fun k hk hne => h2.block k hk hne) ?_
            have e : (lensL zs b.data.toList i).length = (lenU zs b.data.toList i zs.length).length := by unfold lensL lensS; rw [List.length_mergeSort]
            rw [e]
            exact h1
          have z1 : IntKind.i64.wrap ((i : Int) + 1) = (i : Int) + 1 := by rw [IntKind.wrap_i64]; omega
          generalize vs.getD i undef = v0 at hown0 hg0 hge0 cS hfin
          obtain ⟨V0, c0, rfl, _⟩ := own_form hown0
          clear hRv hown0 haL hLi hge0 hme br
          go_wp2_with fail
          refine cS.mono ?_
          rintro e w5 ⟨rfl, h5, g5⟩
          obtain ⟨k1, k2⟩ := hfin.out w5 h5 g5
          clear cS h5 g5 hfin hg0
          go_wp2_with fail
          go_roundw
          case rel => exact ⟨i + 1, hin, by go_num, k1, k2⟩
          case measure => simp [intOf]; omega
    · have hid : ¬ (i : Int) < (n : Int) := by omega
      have hid2 : decide ((i : Int) < (n : Int)) = false := decide_eq_false hid
      obtain rfl : i = n := by omega
      have hfin : Hid (LePost w zs b (.returned (.slice (some ⟨g, 0, none⟩) i i)) wr) := by
        refine ⟨bel2.out.trans (br.below bel2.out.size (by rw [hgh.out]; exact Nat.le_refl _) (by rw [hgh.out]; exact Nat.le_refl _)), g, B2, by rw [hnh.out], by rw [hgh.out]; exact Nat.le_refl _, by rw [hB2h.out]; exact bel2.out.size, ?_⟩
        rw [hnh.out]; exact hR
      clear hR
      go_wp2_with fail
      go_ret
      exact hfin.out
end Go.Proofs.YtdeeeechdlcdbaaGreat.HiL
