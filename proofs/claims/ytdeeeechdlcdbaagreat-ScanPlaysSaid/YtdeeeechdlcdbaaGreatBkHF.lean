/- Lists that are kept (lexiphanebook): lists grown. -/
import Derived.Test.YtdeeeechdlcdbaaGreatBkHD
set_option linter.unusedVariables false
set_option linter.unusedSimpArgs false
namespace Go.Proofs.YtdeeeechdlcdbaaGreat.BkHits
open Go Go.RowKit Go.Lib Go.Sort Go.Proofs Go.Proofs.YtdeeeechdlcdbaaGreat.Base
theorem marks_take (i m k : Nat) (h : m ≤ k) : (marks i 0 k).take m = marks i 0 m := by
  unfold marks
  rw [← List.map_take, List.take_range, Nat.min_eq_left h]
theorem BookL.grow {B : Nat} {w w' : World} {pb : Nat} {V W lcur : Value} {ls : List L} {i : Nat} {x : L} {zs : List E} (h : BookL B w pb V W ls) (hi : ls[i]? = some x) (hl : Row B w (lcur, zs)) (hpre : x.2 = zs.take x.2.length) (hle : x.2.length ≤ zs.length)
    (hap : ∀ j y, ls[j]? = some y → j ≠ i → Apt lcur y.1) (hg : w.grownBy w' lcur.ownBlock) (hl' : Row B w' (lcur, zs)) : BookL B w' pb V W ls := by
  refine ⟨h.ge, ?_, ?_, ⟨fun y hy => ?_, h.rows.apart⟩, h.each⟩
  · rw [hg.block pb (heap_lt h.book) (fun e => own_ne hl h.book (by decide) e.symm)]; exact h.book
  · refine World.ownsRow.kept h.lists hg ?_
    cases hx' : V.ownBlock with
    | none => exact .inl rfl
    | some g => exact .inr (fun e => own_apt h.lists hl (by decide) g hx' e.symm)
  · obtain ⟨j, hj⟩ := List.mem_iff_getElem?.1 hy
    by_cases hji : j = i
    · subst hji
      rw [hi] at hj
      injection hj with hj
      subst hj
      refine Keep.own_front (h.rows.own x hy) hl hg (by decide) hl' hle ?_
      show hc x.2 = (hc zs).take (x.2.length * 2)
      rw [← hc_take, ← hpre]
    · exact (h.rows.own y hy).other hg (hap j y hj hji).symm
/-- While list i grows. -/
structure In (B : Nat) (w0 w : World) (pb : Nat) (V W : Value) (ls outs : List L) (i m t : Nat) (vo lcur : Value) : Prop where
  cur : Row B w (lcur, marks i 0 (m + t))
  book : BookL B w pb V W ls
  apt : ∀ j y, ls[j]? = some y → j ≠ i → Apt lcur y.1
  prev : ∀ y ∈ outs, Row B w y ∧ Apt lcur y.1
  out : w.ownsRow w0.heap.size 52 1 vo i (outs.map Prod.fst)
  bel : RowKit.Below B w0 w
theorem In.below {B : Nat} {w0 w w' : World} {pb : Nat} {V W : Value} {ls outs : List L} {i m t : Nat} {vo lcur : Value} (h : In B w0 w pb V W ls outs i m t vo lcur) (hb : RowKit.Below w.heap.size w w') (hB : B ≤ w0.heap.size) : In B w0 w' pb V W ls outs i m t vo lcur :=
  ⟨h.cur.below hb, h.book.below hb, h.apt, fun y hy => ⟨(h.prev y hy).1.below hb, (h.prev y hy).2⟩, own_below h.out hb, h.bel.trans (hb.mono (Nat.le_trans hB h.bel.size))⟩
theorem In.step {B : Nat} {w0 w w' : World} {pb : Nat} {V W : Value} {ls outs : List L} {i m t d : Nat} {vo lcur v' xv : Value} (h : In B w0 w pb V W ls outs i m t vo lcur) (hB : B ≤ w0.heap.size) (hi : ls[i]? = some (xv, marks i 0 m))
    (ho : w'.ownsRow B 93 2 v' (m + t + d) (hc (marks i 0 (m + t)) ++ hc (marks i (m + t) d))) (hg : w.grownBy w' lcur.ownBlock) (hk : w'.ownsRow B 93 2 lcur (m + t) (hc (marks i 0 (m + t))))
    (hp : v'.ownBlock = lcur.ownBlock ∨ ∀ g, v'.ownBlock = some g → w.heap.size ≤ g) : In B w0 w' pb V W ls outs i m (t + d) vo v' := by
  have hk' : Row B w' (lcur, marks i 0 (m + t)) := by unfold Row; simp only [marks_length]; exact hk
  have hap : ∀ {y : Value}, (∀ g, y.ownBlock = some g → g < w.heap.size) → Apt lcur y → Apt v' y := by
    intro y hy ha g hg1 hg2
    rcases hp with e | e
    · exact ha g (by rw [← e]; exact hg1) hg2
    · have := e g hg1
      have := hy g hg2
      omega
  refine ⟨?_, h.book.grow hi h.cur ?_ ?_ h.apt hg hk', fun j y hj hji => hap (own_lt (h.book.rows.own y (List.mem_of_getElem? hj))) (h.apt j y hj hji), fun y hy => ⟨(h.prev y hy).1.other hg (h.prev y hy).2.symm, hap (own_lt (h.prev y hy).1) (h.prev y hy).2⟩, ?_, ?_⟩
  · unfold Row
    simp only [marks_length]
    rw [← Nat.add_assoc, ← marks_append i 0 (m + t) d, Nat.zero_add, hc_app]
    exact ho
  · show marks i 0 m = _
    simp only [marks_length]
    rw [marks_take i m (m + t) (by omega)]
  · simp only [marks_length]; omega
  · refine World.ownsRow.kept h.out hg ?_
    cases hx' : vo.ownBlock with
    | none => exact .inl rfl
    | some g => exact .inr (fun e => own_apt h.out h.cur (by decide) g hx' e.symm)
  · exact h.bel.trans (below_of_grown hg (fun k e => own_ge h.cur k e) (Nat.le_trans hB h.bel.size))
/-- Between two lists. -/
structure Out (B : Nat) (w0 w : World) (pb : Nat) (V W : Value) (ls outs : List L) (i : Nat) (vo : Value) : Prop where
  len : outs.length = i
  out : w.ownsRow w0.heap.size 52 1 vo i (outs.map Prod.fst)
  each : ∀ j y, outs[j]? = some y → y.2 = marks j 0 y.2.length ∧ y.2.length ≤ 1000100 ∧ Row B w y
  apt : ∀ y ∈ outs, ∀ j x, i ≤ j → ls[j]? = some x → Apt y.1 x.1
  book : BookL B w pb V W ls
  bel : RowKit.Below B w0 w
set_option maxHeartbeats 2000000 in
set_option maxRecDepth 1000000 in
theorem grow_call {B pb : Nat} {V W : Value} {ls : List L} (w : World) (h : BookL B w pb V W ls) (hm : Marked ls.length ls) (hn : ls.length ≤ 250) (hB : B ≤ w.heap.size) :
    Calls Tryz.prog 65 #[.pointer (some ⟨pb, 0, none⟩)] w fun e w' => ∃ vo gs, e = .returned vo ∧ w'.ownsRow w.heap.size 52 1 vo ls.length gs ∧ MarkedVs w' gs ∧ BookL B w' pb V W ls ∧ RowKit.Below B w w' := by
  have mixed : Tryz.prog.follows .mixedOrders = true := by kernel_rfl
  obtain ⟨i0, hi0, hz0, hz1, hz2⟩ := info_parts infoL
  obtain ⟨i3, hi3, hy0, hy1, hy2⟩ := info_parts infoE
  obtain ⟨n, hnl⟩ : ∃ n, ls.length = n := ⟨_, rfl⟩
  have hLL := h.lists
  obtain ⟨AV, cV, rfl, -⟩ := own_form hLL
  rw [hnl] at h hn hm ⊢
  have HN : Hid (ls.length = n) := hnl
  have HMK : Hid (Marked n ls) := hm
  have hVo : Hid (∀ g, (Value.slice AV n cV).ownBlock = some g → g < w.heap.size) := own_lt h.lists
  have hstart : Hid (Out B w w pb (.slice AV n cV) W ls [] 0 (.slice none 0 0)) := (⟨rfl, World.ownsRow_nil _ _ _ _, (fun j y hj => by simp at hj), (fun y hy => by cases hy), h, Below.refl _ _⟩ : Out B w w pb (.slice AV n cV) W ls [] 0 (.slice none 0 0))
  clear hLL hnl h hm
  go_enter Tryz.func65, Tryz.ntmps65
  go_wp2_with fail
  go_loopg [3, 4] n (fun kx s3 s4 wr => ∃ (i : Nat) (outs : List L), i ≤ n ∧ n - i ≤ kx ∧ s4 = .int .i64 (i : Int) ∧ Hid (Out B w wr pb (.slice AV n cV) W ls outs i s3))
  case atStart => exact ⟨0, [], Nat.zero_le _, Nat.le_refl _, rfl, hstart⟩
  case round =>
    clear hstart
    obtain ⟨i, outs, hin, hkx, rfl, HO⟩ := hrel
    obtain ⟨w1, rfl⟩ : ∃ x, x = wr := ⟨_, rfl⟩
    have b0 : w1.cell? ⟨pb, 4, none⟩ = some (.slice AV n cV) := cell_of HO.out.book.book rfl
    obtain ⟨Ao, co, rfl, -⟩ := own_form HO.out.out
    by_cases hlt : i < n
    · have hltz : (i : Int) < (n : Int) := by omega
      obtain ⟨x, hx⟩ : ∃ x, ls[i]? = some x := ⟨_, List.getElem?_eq_getElem (by have := HN.out; omega)⟩
      obtain ⟨AV', cV', e, fV⟩ := own_form HO.out.book.lists
      obtain ⟨gV, rfl, -, kV⟩ := fV (by rw [HN.out]; omega)
      injection e with e1 e2 e3
      subst e1 e3
      have hxm := HMK.out i x hx hlt
      have hlx := HO.out.book.each x (List.mem_of_getElem? hx)
      have hrx := HO.out.book.rows.own x (List.mem_of_getElem? hx)
      obtain ⟨xv, zs⟩ := x
      obtain ⟨m, hmz⟩ : ∃ m, zs.length = m := ⟨_, rfl⟩
      simp only [hmz] at hxm hlx
      subst hxm
      obtain ⟨Ax, cx, rfl, -⟩ := row_form hrx
      simp only [marks_length] at hx hrx
      have g1 : w1.cell? ⟨gV, i, none⟩ = some (.slice Ax m cx) := kV i _ (by rw [List.getElem?_map, hx]; rfl)
      have HX : Hid (ls[i]? = some (.slice Ax m cx, marks i 0 m)) := hx
      have hi3' : i ≤ 300 := by omega
      have hstart : Hid (In B w w1 pb (.slice (some ⟨gV, 0, none⟩) n cV) W ls outs i m 0 (.slice Ao i co) (.slice Ax m cx)) := by
        have ho := HO.out
        exact (⟨by rw [Nat.add_zero]; exact hrx, ho.book, fun j y hj hji => ho.book.rows.apt hx hj (Ne.symm hji), fun y hy => ⟨by obtain ⟨j, hj⟩ := List.mem_iff_getElem?.1 hy; exact (ho.each j y hj).2.2, (ho.apt y hy i _ (Nat.le_refl _) hx).symm⟩, ho.out, ho.bel⟩ : In B w w1 pb (.slice (some ⟨gV, 0, none⟩) n cV) W ls outs i m 0 (.slice Ao i co) (.slice Ax m cx))
      clear hx hrx kV fV e2 hmz
      go_wp2_with fail
      go_loopg [5, 6] 12 (fun kx s5 s6 wr => ∃ (t q : Nat), t ≤ 12 ∧ 12 - t ≤ kx ∧ (m + t ≤ q ∧ q ≤ m + t) ∧ s6 = .int .i64 (t : Int) ∧ ∃ A c, s5 = .slice A q c ∧ Hid (In B w wr pb (.slice (some ⟨gV, 0, none⟩) n cV) W ls outs i m t (.slice Ao i co) (.slice A q c)))
      case atStart => exact ⟨0, m, Nat.zero_le _, Nat.le_refl _, by omega, rfl, Ax, cx, rfl, hstart⟩
      case round =>
        clear hstart
        obtain ⟨t, q, ht, hkx2, hq, rfl, Ac, cc, rfl, HI⟩ := hrel
        obtain ⟨w2, rfl⟩ : ∃ x, x = wr := ⟨_, rfl⟩
        have HQ : Hid (q = m + t) := (by omega : _ = _)
        by_cases hlt2 : t < 12
        · have hltz2 : (t : Int) < 12 := by omega
          go_wp2_with fail
          refine (mark_call i q 1 w2 hi3' (by omega)).mono ?_
          rintro e w3 ⟨vm, rfl, hrm, bel3⟩
          obtain ⟨Am, cm, rfl, fm⟩ := row_form hrm
          simp only [marks_length] at hrm fm ⊢
          obtain ⟨bm, rfl, -⟩ := fm (by omega)
          have hI3 := HI.out.below bel3 hB
          have HI3 : Hid (In B w w3 pb (.slice (some ⟨gV, 0, none⟩) n cV) W ls outs i m t (.slice Ao i co) (.slice Ac q cc)) := hI3
          have hcur : w3.ownsRow B 93 2 (.slice Ac q cc) q (hc (marks i 0 q)) := by
            have h := hI3.cur
            unfold Row at h
            simp only [marks_length] at h
            rw [HQ.out] at h ⊢
            exact h
          have hnews : ∀ j u, (hc (marks i q 1))[j]? = some u → w3.cell? ((⟨bm, 0, none⟩ : Addr).add j) = some u := World.ownsRow.cells hrm rfl
          have hln : (hc (marks i q 1)).length = 1 * 2 := by rw [hc_len, marks_length]
          have hB3 : B ≤ w3.heap.size := Nat.le_trans hB hI3.bel.size
          clear HI hrm fm hI3 bel3
          go_wp2_with (first | (at_builtin; refine wpList_append_both _ rfl (.tmp 27) (.tmp 31) 52 rfl B 93 i3 _ 2 16 Tryz.underlying52 hi3 hy0 hy1 hy2 rfl (by decide) _ q (hc (marks i 0 q)) rfl hcur ⟨bm, 0, none⟩ 1 cm (hc (marks i q 1)) rfl hln hnews one_kind ?d1 ?d2 hB3 ?_))
          case d1 => unfold maxLen; omega
          case d2 => omega
          intro v4 w4 ho4 hg4 hk4 hp4
          have hI4 : Hid (In B w w4 pb (.slice (some ⟨gV, 0, none⟩) n cV) W ls outs i m (t + 1) (.slice Ao i co) v4) := by
            refine HI3.out.step hB HX.out ?_ hg4 ?_ hp4
            · rw [← HQ.out]; exact ho4
            · rw [← HQ.out]; exact hk4
          obtain ⟨A4, c4, rfl, -⟩ := own_form ho4
          have zt : IntKind.i64.wrap ((t : Int) + 1) = (t : Int) + 1 := by rw [IntKind.wrap_i64]; omega
          clear HI3 hcur hnews hln hB3 ho4 hg4 hk4 hp4
          go_wp2
          go_roundg (12 - (t + 1))
          case measure => omega
          case rel => exact ⟨t + 1, q + 1, hlt2, Nat.le_refl _, by omega, rfl, A4, c4, rfl, hI4⟩
        · have hltz2 : ¬ (t : Int) < 12 := by omega
          go_wp2_with fail
          refine (mark_call i q 60 w2 hi3' (by omega)).mono ?_
          rintro e w3 ⟨vm, rfl, hrm, bel3⟩
          obtain ⟨Am, cm, rfl, fm⟩ := row_form hrm
          simp only [marks_length] at hrm fm ⊢
          obtain ⟨bm, rfl, -⟩ := fm (by omega)
          have hI3 := HI.out.below bel3 hB
          have HI3 : Hid (In B w w3 pb (.slice (some ⟨gV, 0, none⟩) n cV) W ls outs i m t (.slice Ao i co) (.slice Ac q cc)) := hI3
          have hcur : w3.ownsRow B 93 2 (.slice Ac q cc) q (hc (marks i 0 q)) := by
            have h := hI3.cur
            unfold Row at h
            simp only [marks_length] at h
            rw [HQ.out] at h ⊢
            exact h
          have hnews : ∀ j u, (hc (marks i q 60))[j]? = some u → w3.cell? ((⟨bm, 0, none⟩ : Addr).add j) = some u := World.ownsRow.cells hrm rfl
          have hln : (hc (marks i q 60)).length = 60 * 2 := by rw [hc_len, marks_length]
          have hB3 : B ≤ w3.heap.size := Nat.le_trans hB hI3.bel.size
          clear HI hrm fm hI3 bel3
          go_wp2_with (first | (at_builtin; refine wpList_append_both _ rfl (.tmp 34) (.tmp 38) 52 rfl B 93 i3 _ 2 16 Tryz.underlying52 hi3 hy0 hy1 hy2 rfl (by decide) _ q (hc (marks i 0 q)) rfl hcur ⟨bm, 0, none⟩ 60 cm (hc (marks i q 60)) rfl hln hnews one_kind ?d1 ?d2 hB3 ?_))
          case d1 => unfold maxLen; omega
          case d2 => omega
          intro v4 w4 ho4 hg4 hk4 hp4
          have hI4 : In B w w4 pb (.slice (some ⟨gV, 0, none⟩) n cV) W ls outs i m (t + 60) (.slice Ao i co) v4 := by
            refine HI3.out.step hB HX.out ?_ hg4 ?_ hp4
            · rw [← HQ.out]; exact ho4
            · rw [← HQ.out]; exact hk4
          obtain ⟨A4, c4, rfl, -⟩ := own_form ho4
          have HI4 : Hid _ := hI4
          have hI5 := hI4.below (below_alloc w4 (.cells #[.slice A4 (q + 60) c4] 52)) hB
          have HI5 : Hid (In B w (w4.alloc (.cells #[.slice A4 (q + 60) c4] 52)) pb (.slice (some ⟨gV, 0, none⟩) n cV) W ls outs i m (t + 60) (.slice Ao i co) (.slice A4 (q + 60) c4)) := hI5
          have hout := hI5.out
          have hout6 : Hid _ := hout
          have hh5 := heap_new w4 (.cells #[.slice A4 (q + 60) c4] 52)
          have hsz5 : w.heap.size ≤ (w4.alloc (.cells #[.slice A4 (q + 60) c4] 52)).heap.size := hI5.bel.size
          clear HI3 hcur hnews hln hB3 ho4 hg4 hk4 hp4 HI4 hI4 hI5
          go_wp2_with (first | (at_builtin; refine wpList_append_both _ rfl (.tmp 33) (.tmp 40) 38 rfl w.heap.size 52 i0 _ 1 24 Tryz.underlying38 hi0 hz0 hz1 hz2 rfl (by decide) _ i (outs.map Prod.fst) rfl hout ⟨w4.heap.size, 0, none⟩ 1 1 [.slice A4 (q + 60) c4] rfl rfl ?e1 ?e2 ?e3 ?e4 hsz5 ?_))
          case e1 => intro j u hj; rw [Addr.add_lit, Nat.zero_add]; exact cell_of hh5 (by simpa using hj)
          case e2 => intro u hu; simp at hu; subst hu; rfl
          case e3 => unfold maxLen; omega
          case e4 => omega
          intro v6 w6 ho6 hg6 hk6 hp6
          obtain ⟨A6, c6, rfl, -⟩ := own_form ho6
          have hS6 : Stays (w4.alloc (.cells #[.slice A4 (q + 60) c4] 52)) w6 := Stays.of_grown hout hg6
          have hO6 : Hid (Out B w w6 pb (.slice (some ⟨gV, 0, none⟩) n cV) W ls (outs ++ [(.slice A4 (q + 60) c4, marks i 0 (m + (t + 60)))]) (i + 1) (.slice A6 (i + 1) c6)) := by
            have k := HI5.out
            have ko := HO.out
            have hneV : (Value.slice (some ⟨gV, 0, none⟩) n cV).ownBlock = none ∨ (Value.slice (some ⟨gV, 0, none⟩) n cV).ownBlock ≠ (Value.slice Ao i co).ownBlock := .inr (fun e => by
              have h2 := own_ge ko.out gV e.symm
              have h3 := hVo.out gV rfl
              omega)
            have hpb6 : some pb ≠ (Value.slice Ao i co).ownBlock := fun e => own_ne hout6.out k.book.book (by decide) e.symm
            have hbk : BookL B w6 pb (.slice (some ⟨gV, 0, none⟩) n cV) W ls := ⟨k.book.ge, by rw [hg6.block pb (heap_lt k.book.book) hpb6]; exact k.book.book, World.ownsRow.kept k.book.lists hg6 hneV, k.book.rows.stays hS6, k.book.each⟩
            refine (⟨?_, ?_, ?_, ?_, hbk, ?_⟩ : Out _ _ _ _ _ _ _ _ _ _)
            · rw [List.length_append, ko.len]; rfl
            · rw [List.map_append]; exact ho6
            · intro j y hj
              rcases Nat.lt_or_ge j i with hji | hji
              · rw [List.getElem?_append_left (by rw [ko.len]; exact hji)] at hj
                obtain ⟨q1, q2, _⟩ := ko.each j y hj
                exact ⟨q1, q2, hS6.row (k.prev y (List.mem_of_getElem? hj)).1 (by decide) (by decide)⟩
              · rw [List.getElem?_append_right (by rw [ko.len]; exact hji), ko.len] at hj
                have hjj : j - i = 0 := by
                  have := (List.getElem?_eq_some_iff.1 hj).1
                  simp at this; omega
                obtain rfl : j = i := by omega
                rw [hjj] at hj
                obtain rfl : (Value.slice A4 (q + 60) c4, marks j 0 (m + (t + 60))) = y := by simpa using hj
                exact ⟨by simp only [marks_length], by simp only [marks_length]; omega, hS6.row k.cur (by decide) (by decide)⟩
            · intro y hy j x hij hj
              rcases List.mem_append.1 hy with hy | hy
              · exact ko.apt y hy j x (by omega) hj
              · rw [List.mem_singleton.1 hy]; exact k.apt j x hj (by omega)
            · exact k.bel.trans (below_of_grown hg6 (fun g e => Nat.le_trans hB (own_ge ko.out g e)) (Nat.le_trans hB k.bel.size))
          have zi : IntKind.i64.wrap ((i : Int) + 1) = (i : Int) + 1 := by rw [IntKind.wrap_i64]; omega
          clear HI5 hout hh5 hsz5 ho6 hg6 hk6 hp6 hS6 hout6
          go_wp2
          go_roundg (n - (i + 1))
          case measure => omega
          case rel => exact ⟨i + 1, _, hlt, Nat.le_refl _, rfl, hO6⟩
    · have hltz : ¬ (i : Int) < (n : Int) := by omega
      obtain rfl : i = n := by omega
      have hfin : Hid (MarkedVs w1 (outs.map Prod.fst)) := by
        show ∀ j v, _
        intro j v hj
        rw [List.getElem?_map] at hj
        obtain ⟨y, hy, rfl⟩ := Option.map_eq_some_iff.1 hj
        obtain ⟨q1, q2, q3⟩ := HO.out.each j y hy
        obtain ⟨A, c, e, ha⟩ := q3.at
        refine ⟨A, _, c, e, by omega, ?_⟩
        rw [← q1]; exact ha
      have ho := HO.out.out
      have hb := HO.out.book
      have hbl := HO.out.bel
      have HOO : Hid (w1.ownsRow w.heap.size 52 1 (.slice Ao i co) i (outs.map Prod.fst)) := ho
      clear HO ho
      go_wp2
      go_ret
      exact ⟨_, rfl, _, HOO.out, hfin.out, hb, hbl⟩

set_option maxRecDepth 100000 in
theorem stillTexts_call {pb : Nat} {V W : Value} (w : World) (h : w.heap[pb]? = some (.cells (bookCells V W) 42 (0, 0))) : Calls Tryz.prog 54 #[.pointer (some ⟨pb, 0, none⟩)] w fun e w' => e = .returned (.bool true) ∧ RowKit.Below w.heap.size w w' := by
  have b0 : w.cell? ⟨pb, 2, none⟩ = some (.slice none 0 0) := cell_of h rfl
  clear h
  go_enter Tryz.func54, Tryz.ntmps54
  go_wp2_with fail
  go_loopg [3] 0 (fun kx s3 wr => s3 = .int .i64 0 ∧ RowKit.Below w.heap.size w wr)
  case atStart => exact ⟨rfl, Below.refl _ _⟩
  case round =>
    obtain ⟨rfl, bel⟩ := hrel
    have b1 := pw_cell_below bel b0
    go_wp2
    go_ret
    exact ⟨rfl, bel⟩
set_option maxRecDepth 100000 in
theorem putTexts_call {pb : Nat} {V W : Value} (w : World) (h : w.heap[pb]? = some (.cells (bookCells V W) 42 (0, 0))) : Calls Tryz.prog 59 #[.pointer (some ⟨pb, 0, none⟩)] w fun e w' => e = .returned (.tuple #[]) ∧ RowKit.Below w.heap.size w w' := by
  have b0 : w.cell? ⟨pb, 2, none⟩ = some (.slice none 0 0) := cell_of h rfl
  clear h
  go_enter Tryz.func59, Tryz.ntmps59
  go_wp2_with fail
  go_loopg [2] 0 (fun kx s2 wr => s2 = .int .i64 0 ∧ RowKit.Below w.heap.size w wr)
  case atStart => exact ⟨rfl, Below.refl _ _⟩
  case round =>
    obtain ⟨rfl, bel⟩ := hrel
    have b1 := pw_cell_below bel b0
    go_wp2
    go_end0
    exact ⟨rfl, bel⟩
set_option maxRecDepth 100000 in
theorem growTexts_call {pb : Nat} {V W : Value} (w : World) (h : w.heap[pb]? = some (.cells (bookCells V W) 42 (0, 0))) : Calls Tryz.prog 64 #[.pointer (some ⟨pb, 0, none⟩)] w fun e w' => e = .returned (.slice none 0 0) ∧ RowKit.Below w.heap.size w w' := by
  have b0 : w.cell? ⟨pb, 2, none⟩ = some (.slice none 0 0) := cell_of h rfl
  clear h
  go_enter Tryz.func64, Tryz.ntmps64
  go_wp2_with fail
  go_loopg [3, 4] 0 (fun kx s3 s4 wr => s3 = .slice none 0 0 ∧ s4 = .int .i64 0 ∧ RowKit.Below w.heap.size w wr)
  case atStart => exact ⟨rfl, rfl, Below.refl _ _⟩
  case round =>
    obtain ⟨rfl, rfl, bel⟩ := hrel
    have b1 := pw_cell_below bel b0
    go_wp2
    go_ret
    exact ⟨rfl, bel⟩
set_option maxRecDepth 100000 in
theorem markedTexts_call (w : World) : Calls Tryz.prog 69 #[.slice none 0 0] w fun e w' => e = .returned (.bool true) ∧ RowKit.Below w.heap.size w w' := by
  go_enter Tryz.func69, Tryz.ntmps69
  go_wp2_with fail
  go_loopg [3] 0 (fun kx s3 wr => s3 = .int .i64 0 ∧ RowKit.Below w.heap.size w wr)
  case atStart => exact ⟨rfl, Below.refl _ _⟩
  case round =>
    obtain ⟨rfl, bel⟩ := hrel
    go_wp2
    go_ret
    exact ⟨rfl, bel⟩
set_option maxRecDepth 100000 in
theorem stillInts_call {pb : Nat} {V W : Value} (w : World) (h : w.heap[pb]? = some (.cells (bookCells V W) 42 (0, 0))) : Calls Tryz.prog 53 #[.pointer (some ⟨pb, 0, none⟩)] w fun e w' => e = .returned (.bool true) ∧ RowKit.Below w.heap.size w w' := by
  have b0 : w.cell? ⟨pb, 0, none⟩ = some (.slice none 0 0) := cell_of h rfl
  clear h
  go_enter Tryz.func53, Tryz.ntmps53
  go_wp2_with fail
  go_loopg [3] 0 (fun kx s3 wr => s3 = .int .i64 0 ∧ RowKit.Below w.heap.size w wr)
  case atStart => exact ⟨rfl, Below.refl _ _⟩
  case round =>
    obtain ⟨rfl, bel⟩ := hrel
    have b1 := pw_cell_below bel b0
    go_wp2
    go_ret
    exact ⟨rfl, bel⟩
set_option maxRecDepth 100000 in
theorem putInts_call {pb : Nat} {V W : Value} (w : World) (h : w.heap[pb]? = some (.cells (bookCells V W) 42 (0, 0))) : Calls Tryz.prog 58 #[.pointer (some ⟨pb, 0, none⟩)] w fun e w' => e = .returned (.tuple #[]) ∧ RowKit.Below w.heap.size w w' := by
  have b0 : w.cell? ⟨pb, 0, none⟩ = some (.slice none 0 0) := cell_of h rfl
  clear h
  go_enter Tryz.func58, Tryz.ntmps58
  go_wp2_with fail
  go_loopg [2] 0 (fun kx s2 wr => s2 = .int .i64 0 ∧ RowKit.Below w.heap.size w wr)
  case atStart => exact ⟨rfl, Below.refl _ _⟩
  case round =>
    obtain ⟨rfl, bel⟩ := hrel
    have b1 := pw_cell_below bel b0
    go_wp2
    go_end0
    exact ⟨rfl, bel⟩
set_option maxRecDepth 100000 in
theorem growInts_call {pb : Nat} {V W : Value} (w : World) (h : w.heap[pb]? = some (.cells (bookCells V W) 42 (0, 0))) : Calls Tryz.prog 63 #[.pointer (some ⟨pb, 0, none⟩)] w fun e w' => e = .returned (.slice none 0 0) ∧ RowKit.Below w.heap.size w w' := by
  have b0 : w.cell? ⟨pb, 0, none⟩ = some (.slice none 0 0) := cell_of h rfl
  clear h
  go_enter Tryz.func63, Tryz.ntmps63
  go_wp2_with fail
  go_loopg [3, 4] 0 (fun kx s3 s4 wr => s3 = .slice none 0 0 ∧ s4 = .int .i64 0 ∧ RowKit.Below w.heap.size w wr)
  case atStart => exact ⟨rfl, rfl, Below.refl _ _⟩
  case round =>
    obtain ⟨rfl, rfl, bel⟩ := hrel
    have b1 := pw_cell_below bel b0
    go_wp2
    go_ret
    exact ⟨rfl, bel⟩
set_option maxRecDepth 100000 in
theorem markedInts_call (w : World) : Calls Tryz.prog 68 #[.slice none 0 0] w fun e w' => e = .returned (.bool true) ∧ RowKit.Below w.heap.size w w' := by
  go_enter Tryz.func68, Tryz.ntmps68
  go_wp2_with fail
  go_loopg [3] 0 (fun kx s3 wr => s3 = .int .i64 0 ∧ RowKit.Below w.heap.size w wr)
  case atStart => exact ⟨rfl, Below.refl _ _⟩
  case round =>
    obtain ⟨rfl, bel⟩ := hrel
    go_wp2
    go_ret
    exact ⟨rfl, bel⟩
set_option maxRecDepth 100000 in
theorem stillCosts_call {pb : Nat} {V W : Value} (w : World) (h : w.heap[pb]? = some (.cells (bookCells V W) 42 (0, 0))) : Calls Tryz.prog 56 #[.pointer (some ⟨pb, 0, none⟩)] w fun e w' => e = .returned (.bool true) ∧ RowKit.Below w.heap.size w w' := by
  have b0 : w.cell? ⟨pb, 6, none⟩ = some (.slice none 0 0) := cell_of h rfl
  clear h
  go_enter Tryz.func56, Tryz.ntmps56
  go_wp2_with fail
  go_loopg [3] 0 (fun kx s3 wr => s3 = .int .i64 0 ∧ RowKit.Below w.heap.size w wr)
  case atStart => exact ⟨rfl, Below.refl _ _⟩
  case round =>
    obtain ⟨rfl, bel⟩ := hrel
    have b1 := pw_cell_below bel b0
    go_wp2
    go_ret
    exact ⟨rfl, bel⟩
set_option maxRecDepth 100000 in
theorem putCosts_call {pb : Nat} {V W : Value} (w : World) (h : w.heap[pb]? = some (.cells (bookCells V W) 42 (0, 0))) : Calls Tryz.prog 61 #[.pointer (some ⟨pb, 0, none⟩)] w fun e w' => e = .returned (.tuple #[]) ∧ RowKit.Below w.heap.size w w' := by
  have b0 : w.cell? ⟨pb, 6, none⟩ = some (.slice none 0 0) := cell_of h rfl
  clear h
  go_enter Tryz.func61, Tryz.ntmps61
  go_wp2_with fail
  go_loopg [2] 0 (fun kx s2 wr => s2 = .int .i64 0 ∧ RowKit.Below w.heap.size w wr)
  case atStart => exact ⟨rfl, Below.refl _ _⟩
  case round =>
    obtain ⟨rfl, bel⟩ := hrel
    have b1 := pw_cell_below bel b0
    go_wp2
    go_end0
    exact ⟨rfl, bel⟩
set_option maxRecDepth 100000 in
theorem growCosts_call {pb : Nat} {V W : Value} (w : World) (h : w.heap[pb]? = some (.cells (bookCells V W) 42 (0, 0))) : Calls Tryz.prog 66 #[.pointer (some ⟨pb, 0, none⟩)] w fun e w' => e = .returned (.slice none 0 0) ∧ RowKit.Below w.heap.size w w' := by
  have b0 : w.cell? ⟨pb, 6, none⟩ = some (.slice none 0 0) := cell_of h rfl
  clear h
  go_enter Tryz.func66, Tryz.ntmps66
  go_wp2_with fail
  go_loopg [3, 4] 0 (fun kx s3 s4 wr => s3 = .slice none 0 0 ∧ s4 = .int .i64 0 ∧ RowKit.Below w.heap.size w wr)
  case atStart => exact ⟨rfl, rfl, Below.refl _ _⟩
  case round =>
    obtain ⟨rfl, rfl, bel⟩ := hrel
    have b1 := pw_cell_below bel b0
    go_wp2
    go_ret
    exact ⟨rfl, bel⟩
set_option maxRecDepth 100000 in
theorem markedCosts_call (w : World) : Calls Tryz.prog 71 #[.slice none 0 0] w fun e w' => e = .returned (.bool true) ∧ RowKit.Below w.heap.size w w' := by
  go_enter Tryz.func71, Tryz.ntmps71
  go_wp2_with fail
  go_loopg [3] 0 (fun kx s3 wr => s3 = .int .i64 0 ∧ RowKit.Below w.heap.size w wr)
  case atStart => exact ⟨rfl, Below.refl _ _⟩
  case round =>
    obtain ⟨rfl, bel⟩ := hrel
    go_wp2
    go_ret
    exact ⟨rfl, bel⟩
set_option maxRecDepth 100000 in
theorem stillBytes_call {pb : Nat} {V W : Value} (w : World) (h : w.heap[pb]? = some (.cells (bookCells V W) 42 (0, 0))) : Calls Tryz.prog 57 #[.pointer (some ⟨pb, 0, none⟩)] w fun e w' => e = .returned (.bool true) ∧ RowKit.Below w.heap.size w w' := by
  have b0 : w.cell? ⟨pb, 8, none⟩ = some (.slice none 0 0) := cell_of h rfl
  clear h
  go_enter Tryz.func57, Tryz.ntmps57
  go_wp2_with fail
  go_loopg [3] 0 (fun kx s3 wr => s3 = .int .i64 0 ∧ RowKit.Below w.heap.size w wr)
  case atStart => exact ⟨rfl, Below.refl _ _⟩
  case round =>
    obtain ⟨rfl, bel⟩ := hrel
    have b1 := pw_cell_below bel b0
    go_wp2
    go_ret
    exact ⟨rfl, bel⟩
set_option maxRecDepth 100000 in
theorem putBytes_call {pb : Nat} {V W : Value} (w : World) (h : w.heap[pb]? = some (.cells (bookCells V W) 42 (0, 0))) : Calls Tryz.prog 62 #[.pointer (some ⟨pb, 0, none⟩)] w fun e w' => e = .returned (.tuple #[]) ∧ RowKit.Below w.heap.size w w' := by
  have b0 : w.cell? ⟨pb, 8, none⟩ = some (.slice none 0 0) := cell_of h rfl
  clear h
  go_enter Tryz.func62, Tryz.ntmps62
  go_wp2_with fail
  go_loopg [2] 0 (fun kx s2 wr => s2 = .int .i64 0 ∧ RowKit.Below w.heap.size w wr)
  case atStart => exact ⟨rfl, Below.refl _ _⟩
  case round =>
    obtain ⟨rfl, bel⟩ := hrel
    have b1 := pw_cell_below bel b0
    go_wp2
    go_end0
    exact ⟨rfl, bel⟩
set_option maxRecDepth 100000 in
theorem growBytes_call {pb : Nat} {V W : Value} (w : World) (h : w.heap[pb]? = some (.cells (bookCells V W) 42 (0, 0))) : Calls Tryz.prog 67 #[.pointer (some ⟨pb, 0, none⟩)] w fun e w' => e = .returned (.slice none 0 0) ∧ RowKit.Below w.heap.size w w' := by
  have b0 : w.cell? ⟨pb, 8, none⟩ = some (.slice none 0 0) := cell_of h rfl
  clear h
  go_enter Tryz.func67, Tryz.ntmps67
  go_wp2_with fail
  go_loopg [3, 4] 0 (fun kx s3 s4 wr => s3 = .slice none 0 0 ∧ s4 = .int .i64 0 ∧ RowKit.Below w.heap.size w wr)
  case atStart => exact ⟨rfl, rfl, Below.refl _ _⟩
  case round =>
    obtain ⟨rfl, rfl, bel⟩ := hrel
    have b1 := pw_cell_below bel b0
    go_wp2
    go_ret
    exact ⟨rfl, bel⟩
set_option maxRecDepth 100000 in
theorem markedBytes_call (w : World) : Calls Tryz.prog 72 #[.slice none 0 0] w fun e w' => e = .returned (.bool true) ∧ RowKit.Below w.heap.size w w' := by
  go_enter Tryz.func72, Tryz.ntmps72
  go_wp2_with fail
  go_loopg [3] 0 (fun kx s3 wr => s3 = .int .i64 0 ∧ RowKit.Below w.heap.size w wr)
  case atStart => exact ⟨rfl, Below.refl _ _⟩
  case round =>
    obtain ⟨rfl, bel⟩ := hrel
    go_wp2
    go_ret
    exact ⟨rfl, bel⟩
theorem heads_marked {B : Nat} {w : World} {pb : Nat} {V W : Value} {ls : List L} (h : BookL B w pb V W ls) (hm : Marked ls.length ls) : MarkedVs w (ls.map Prod.fst) := by
  intro j v hj
  rw [List.getElem?_map] at hj
  obtain ⟨y, hy, rfl⟩ := Option.map_eq_some_iff.1 hj
  have hmem := List.mem_of_getElem? hy
  obtain ⟨A, c, e, ha⟩ := (h.rows.own y hmem).at
  refine ⟨A, _, c, e, by have := h.each y hmem; omega, ?_⟩
  rw [← hm j y hy (List.getElem?_eq_some_iff.1 hy).1]; exact ha
theorem book_field {w : World} {pb : Nat} {V W : Value} (h : w.heap[pb]? = some (.cells (bookCells V W) 42 (0, 0))) (i : Nat) (v : Value) (hi : (bookCells V W)[i]? = some v) : w.cell? ⟨pb, i, none⟩ = some v := cell_of h hi
set_option maxHeartbeats 2000000 in
set_option maxRecDepth 1000000 in
theorem apart_call {B pb : Nat} {ls : List L} (w : World) (h : Book B B w pb ls) (hn : ls.length ≤ 250) (hl : ∀ x ∈ ls, x.2.length ≤ 1000000) (hB : B ≤ w.heap.size) :
    Calls Tryz.prog 20 #[.pointer (some ⟨pb, 0, none⟩)] w fun e w' => e = .returned (.bool true) ∧ RowKit.Below B w w' := by
  have mixed : Tryz.prog.follows .mixedOrders = true := by kernel_rfl
  obtain ⟨V, W, cs, h⟩ := h
  have HB : Hid _ := h
  have HL : Hid _ := hl
  clear h hl
  go_enter Tryz.func20, Tryz.ntmps20
  have a0 : RowKit.Below B w w := Below.refl _ _
  have h0 := HB.out
  go_wp2_with fail
  refine (stillInts_call w h0.book).mono ?_
  rintro e w1 ⟨rfl, b1⟩
  have h1 := h0.below b1
  have a1 := a0.trans (b1.mono (Nat.le_trans hB a0.size))
  clear h0 b1 a0
  go_wp2_with fail
  refine (stillTexts_call w1 h1.book).mono ?_
  rintro e w2 ⟨rfl, b2⟩
  have h2 := h1.below b2
  have a2 := a1.trans (b2.mono (Nat.le_trans hB a1.size))
  clear h1 b2 a1
  go_wp2_with fail
  refine (still_call w2 h2 hn HL.out).mono ?_
  rintro e w3 ⟨rfl, b3⟩
  have h3 := h2.below b3
  have a3 := a2.trans (b3.mono (Nat.le_trans hB a2.size))
  clear h2 b3 a2
  go_wp2_with fail
  refine (stillCosts_call w3 h3.book).mono ?_
  rintro e w4 ⟨rfl, b4⟩
  have h4 := h3.below b4
  have a4 := a3.trans (b4.mono (Nat.le_trans hB a3.size))
  clear h3 b4 a3
  go_wp2_with fail
  refine (stillBytes_call w4 h4.book).mono ?_
  rintro e w5 ⟨rfl, b5⟩
  have h5 := h4.below b5
  have a5 := a4.trans (b5.mono (Nat.le_trans hB a4.size))
  clear h4 b5 a4
  have k5 : BookL B w5 pb V W ls := ⟨h5.ge, h5.book, h5.lists, h5.rows, HL.out⟩
  clear h5
  go_wp2_with fail
  refine (putInts_call w5 k5.book).mono ?_
  rintro e w6 ⟨rfl, b6⟩
  have k6 := k5.below b6
  have a6 := a5.trans (b6.mono (Nat.le_trans hB a5.size))
  clear k5 b6 a5
  go_wp2_with fail
  refine (putTexts_call w6 k6.book).mono ?_
  rintro e w7 ⟨rfl, b7⟩
  have k7 := k6.below b7
  have a7 := a6.trans (b7.mono (Nat.le_trans hB a6.size))
  clear k6 b7 a6
  go_wp2_with fail
  refine (put_call w7 k7 hn (Nat.le_trans hB a7.size)).mono ?_
  rintro e w8 ⟨rfl, ls', hlen, k8, hmk, b8⟩
  have a8 := a7.trans b8
  have hn2 : ls'.length ≤ 250 := by omega
  clear hlen
  clear k7 b8 a7
  go_wp2_with fail
  refine (putCosts_call w8 k8.book).mono ?_
  rintro e w9 ⟨rfl, b9⟩
  have k9 := k8.below b9
  have a9 := a8.trans (b9.mono (Nat.le_trans hB a8.size))
  clear k8 b9 a8
  go_wp2_with fail
  refine (putBytes_call w9 k9.book).mono ?_
  rintro e w10 ⟨rfl, b10⟩
  have k10 := k9.below b10
  have a10 := a9.trans (b10.mono (Nat.le_trans hB a9.size))
  clear k9 b10 a9
  go_wp2_with fail
  refine (growInts_call w10 k10.book).mono ?_
  rintro e w11 ⟨rfl, b11⟩
  have k11 := k10.below b11
  have a11 := a10.trans (b11.mono (Nat.le_trans hB a10.size))
  clear k10 b11 a10
  go_wp2_with fail
  refine (growTexts_call w11 k11.book).mono ?_
  rintro e w12 ⟨rfl, b12⟩
  have k12 := k11.below b12
  have a12 := a11.trans (b12.mono (Nat.le_trans hB a11.size))
  clear k11 b12 a11
  go_wp2_with fail
  refine (grow_call w12 k12 hmk hn2 (Nat.le_trans hB a12.size)).mono ?_
  rintro e w13 ⟨vo, gs, rfl, hout, hgs, k13, b13⟩
  have a13 := a12.trans b13
  obtain ⟨Ao, co, rfl, -⟩ := own_form hout
  clear k12 b13 a12
  go_wp2_with fail
  refine (growCosts_call w13 k13.book).mono ?_
  rintro e w14 ⟨rfl, b14⟩
  have k14 := k13.below b14
  have a14 := a13.trans (b14.mono (Nat.le_trans hB a13.size))
  have hout := own_below hout b14
  have hgs : MarkedVs w14 gs := fun j v hj => by obtain ⟨A, m, c, e, hm, ha⟩ := hgs j v hj; exact ⟨A, m, c, e, hm, ha.below b14⟩
  clear k13 b14 a13
  go_wp2_with fail
  refine (growBytes_call w14 k14.book).mono ?_
  rintro e w15 ⟨rfl, b15⟩
  have k15 := k14.below b15
  have a15 := a14.trans (b15.mono (Nat.le_trans hB a14.size))
  have hout := own_below hout b15
  have hgs : MarkedVs w15 gs := fun j v hj => by obtain ⟨A, m, c, e, hm, ha⟩ := hgs j v hj; exact ⟨A, m, c, e, hm, ha.below b15⟩
  clear k14 b15 a14
  go_wp2_with fail
  refine (markedInts_call w15).mono ?_
  rintro e w16 ⟨rfl, b16⟩
  have k16 := k15.below b16
  have a16 := a15.trans (b16.mono (Nat.le_trans hB a15.size))
  have hout := own_below hout b16
  have hgs : MarkedVs w16 gs := fun j v hj => by obtain ⟨A, m, c, e, hm, ha⟩ := hgs j v hj; exact ⟨A, m, c, e, hm, ha.below b16⟩
  clear k15 b16 a15
  have f16 := book_field k16.book 0 _ rfl
  go_wp2_with fail
  refine (markedInts_call w16).mono ?_
  rintro e w17 ⟨rfl, b17⟩
  have k17 := k16.below b17
  have a17 := a16.trans (b17.mono (Nat.le_trans hB a16.size))
  have hout := own_below hout b17
  have hgs : MarkedVs w17 gs := fun j v hj => by obtain ⟨A, m, c, e, hm, ha⟩ := hgs j v hj; exact ⟨A, m, c, e, hm, ha.below b17⟩
  clear k16 b17 a16 f16
  go_wp2_with fail
  refine (markedTexts_call w17).mono ?_
  rintro e w18 ⟨rfl, b18⟩
  have k18 := k17.below b18
  have a18 := a17.trans (b18.mono (Nat.le_trans hB a17.size))
  have hout := own_below hout b18
  have hgs : MarkedVs w18 gs := fun j v hj => by obtain ⟨A, m, c, e, hm, ha⟩ := hgs j v hj; exact ⟨A, m, c, e, hm, ha.below b18⟩
  clear k17 b18 a17
  have f18 := book_field k18.book 2 _ rfl
  go_wp2_with fail
  refine (markedTexts_call w18).mono ?_
  rintro e w19 ⟨rfl, b19⟩
  have k19 := k18.below b19
  have a19 := a18.trans (b19.mono (Nat.le_trans hB a18.size))
  have hout := own_below hout b19
  have hgs : MarkedVs w19 gs := fun j v hj => by obtain ⟨A, m, c, e, hm, ha⟩ := hgs j v hj; exact ⟨A, m, c, e, hm, ha.below b19⟩
  clear k18 b19 a18 f18
  go_wp2_with fail
  refine (marked_call w19 hout (by omega) hgs).mono ?_
  rintro e w20 ⟨rfl, b20⟩
  have k20 := k19.below b20
  have a20 := a19.trans (b20.mono (Nat.le_trans hB a19.size))
  clear k19 b20 a19
  have f20 := book_field k20.book 4 _ rfl
  go_wp2_with fail
  refine (marked_call w20 k20.lists hn2 (heads_marked k20 hmk)).mono ?_
  rintro e w21 ⟨rfl, b21⟩
  have k21 := k20.below b21
  have a21 := a20.trans (b21.mono (Nat.le_trans hB a20.size))
  clear k20 b21 a20 f20
  go_wp2_with fail
  refine (markedCosts_call w21).mono ?_
  rintro e w22 ⟨rfl, b22⟩
  have k22 := k21.below b22
  have a22 := a21.trans (b22.mono (Nat.le_trans hB a21.size))
  clear k21 b22 a21
  have f22 := book_field k22.book 6 _ rfl
  go_wp2_with fail
  refine (markedCosts_call w22).mono ?_
  rintro e w23 ⟨rfl, b23⟩
  have k23 := k22.below b23
  have a23 := a22.trans (b23.mono (Nat.le_trans hB a22.size))
  clear k22 b23 a22 f22
  go_wp2_with fail
  refine (markedBytes_call w23).mono ?_
  rintro e w24 ⟨rfl, b24⟩
  have k24 := k23.below b24
  have a24 := a23.trans (b24.mono (Nat.le_trans hB a23.size))
  clear k23 b24 a23
  have f24 := book_field k24.book 8 _ rfl
  go_wp2_with fail
  refine (markedBytes_call w24).mono ?_
  rintro e w25 ⟨rfl, b25⟩
  have k25 := k24.below b25
  have a25 := a24.trans (b25.mono (Nat.le_trans hB a24.size))
  clear k24 b25 a24 f24
  go_wp2
  go_ret
  exact ⟨rfl, a25⟩
end Go.Proofs.YtdeeeechdlcdbaaGreat.BkHits
