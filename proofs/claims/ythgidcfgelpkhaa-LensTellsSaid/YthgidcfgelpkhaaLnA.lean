/- The symbols that are there, by count: the walk. -/
import Derived.Test.YthgidcfgelpkhaaLnM
import Derived.Test.YthgidcfgelpkhaaLpA
set_option linter.unusedVariables false
set_option linter.unusedSimpArgs false
namespace Go.Proofs.Ythgidcfgelpkhaa
open Go Go.Shelf Go.RowKit Go.Lib Go.Sort Go.Proofs Go.Proofs.Ythgidcfgelpkhaa.Base

/-- A slice of whole numbers, as a list. -/
def IntsAt (w : World) (A : Option Addr) (zs : List Int) : Prop := 0 < zs.length → ∃ b off, A = some ⟨b, off, none⟩ ∧ b < w.heap.size ∧ ∀ j, j < zs.length → w.cell? ⟨b, off + j, none⟩ = some (.int .i64 (zs.getD j 0))
theorem IntsAt.below {w w' : World} {A : Option Addr} {zs : List Int} (h : IntsAt w A zs) (hb : RowKit.Below w.heap.size w w') : IntsAt w' A zs := by
  intro hn
  obtain ⟨b, off, hA, hlt, hc⟩ := h hn
  exact ⟨b, off, hA, Nat.lt_of_lt_of_le hlt hb.size, fun j hj => pw_cell_below hb (hc j hj)⟩

theorem Syms.below {B : Nat} {w w' : World} {c : Coin} (h : Syms B w c) (hb : RowKit.Below w.heap.size w w') : Syms B w' c := own_below h hb
theorem RowC.below {B : Nat} {w w' : World} {v : Value} {l : List Coin} (h : RowC B w v l) (hb : RowKit.Below w.heap.size w w') : RowC B w' v l := ⟨own_below h.1 hb, fun c hc => (h.2 c hc).below hb⟩
theorem Syms.tag {B : Nat} {w : World} {c : Coin} (h : Syms B w c) : ∃ cs, w.heap[c.blk]? = some (.cells cs 3 (0, 0)) := by
  rcases h.2 with ⟨h1, _⟩ | ⟨g, cap, cur, h1, _, h3, _⟩
  · cases h1
  · cases h1; exact ⟨cur, h3⟩
theorem Syms.kept {B B' : Nat} {w w' : World} {c : Coin} {v : Value} {n : Nat} {xs : List Value} (h : Syms B w c) (hr : w.ownsRow B' 54 2 v n xs) (hg : w.grownBy w' v.ownBlock) : Syms B w' c := by
  obtain ⟨cs, hcs⟩ := h.tag
  exact World.ownsRow.kept h hg (.inr (Ne.symm (own_ne hr hcs (by decide))))
theorem RowC.push {B : Nat} {w w' : World} {v v' : Value} {l : List Coin} {c : Coin} (h : RowC B w v l) (hc : Syms B w c) (ho : w'.ownsRow B 54 2 v' (l.length + 1) (l.flatMap encC ++ encC c)) (hg : w.grownBy w' v.ownBlock) : RowC B w' v' (l ++ [c]) := by
  refine ⟨by simpa using ho, fun x hx => ?_⟩
  rcases List.mem_append.1 hx with hx | hx
  · exact (h.2 x hx).kept h.1 hg
  · rw [List.mem_singleton.1 hx]; exact hc.kept h.1 hg
theorem RowC.nil (B : Nat) (w : World) : RowC B w (.slice none 0 0) [] := ⟨World.ownsRow_nil _ _ _ _, fun c hc => by cases hc⟩
theorem below_alloc (w : World) (o : Obj) : RowKit.Below w.heap.size w (w.alloc o) := (Below.refl _ w).alloc (Nat.le_refl _) o

/-- A new coin of one symbol. -/
def coin1 (z s blk : Nat) (h : z ≤ 1073741824) : Coin := ⟨z, by omega, [s], blk, 1⟩
theorem syms1 (B : Nat) (w : World) (z s : Nat) (h : z ≤ 1073741824) (hB : B ≤ w.heap.size) : Syms B (w.alloc (.cells #[.int .i64 (s : Int)] 3)) (coin1 z s w.heap.size h) :=
  ⟨rfl, .inr ⟨w.heap.size, 1, #[.int .i64 (s : Int)], rfl, hB, heap_new w _, Nat.le_refl _, by unfold maxLen; omega, rfl, rfl⟩⟩

theorem sorted_plain (l : List Coin) : (sortedBy (ltOf cfC) l).map Coin.plain = sortedBy ltP (l.map Coin.plain) := by
  unfold sortedBy
  refine List.map_mergeSort fun a _ b _ => ?_
  rw [ltC]; rfl

set_option maxHeartbeats 4000000 in
set_option maxRecDepth 1000000 in
theorem single_call (V : Option Addr) (n cap : Nat) (zs : List Int) (w : World) (hn : n = zs.length) (hat : IntsAt w V zs) (hle : n ≤ 1000) (hr : ∀ z ∈ zs, z ≤ 1073741824) :
    Calls Try.prog 26 #[.slice V n cap] w fun e w' => ∃ v l, e = .returned v ∧ RowC w.heap.size w' v l ∧ l.map Coin.plain = singleP zs ∧ (∀ c ∈ l, c.n < 2147483648 ∧ c.syms.length = 1) ∧ RowKit.Below w.heap.size w w' := by
  obtain ⟨i0, hi, hz0, hz1, hz2⟩ := info_parts info54
  have hnh : Hid (n = zs.length) := hn
  have hrh : Hid (∀ z ∈ zs, z ≤ 1073741824) := hr
  clear hn hr
  have e29 : ∀ args w, (callFunc 29 args).run Try.prog w = .ok (.enter 29 args) w := enters_of Try.func29 (by kernel_rfl) rfl
  have e53 : ∀ args w, (callFunc 53 args).run Try.prog w = .ok (.enter 53 args) w := enters_of Try.func53 (by kernel_rfl) rfl
  go_enter Try.func26, Try.ntmps26
  go_wp2
  go_loopg [3, 4, 5, 8] n (fun kx s3 s4 s5 s8 wr => ∃ (k : Nat) (l : List Coin), k ≤ n ∧ n - k ≤ kx ∧ s8 = .int .i64 k ∧ RowC w.heap.size wr s3 l ∧ RowKit.Below w.heap.size w wr ∧ l.length ≤ k ∧ Hid (l.map Coin.plain = rawFrom 0 (zs.take k)) ∧ Hid (∀ c ∈ l, c.n < 2147483648 ∧ c.syms.length = 1))
  case atStart => exact ⟨0, [], Nat.zero_le _, Nat.le_refl _, rfl, RowC.nil _ _, Below.refl _ _, Nat.le_refl _, rfl, fun c hc => by cases hc⟩
  case round =>
    obtain ⟨k, l, hk, hkx, rfl, hrow, bel, hlk, hpl, hsm⟩ := hrel
    obtain ⟨A0, c0, rfl, _⟩ := own_form hrow.1
    by_cases hlt : k < n
    · have hltz : (k : Int) < (n : Int) := by omega
      have hn := hnh.out
      obtain ⟨b, off, rfl, hblt, hcells⟩ := hat (by omega)
      have hcell := pw_cell_below bel (hcells k (by omega))
      obtain ⟨z, hz⟩ : ∃ z, zs.getD k 0 = z := ⟨_, rfl⟩
      rw [hz] at hcell
      have hzm : z ≤ 1073741824 := by
        rw [← hz, List.getD_eq_getElem?_getD, List.getElem?_eq_getElem (by omega), Option.getD_some]
        exact hrh.out _ (List.getElem_mem _)
      have htk : rawFrom 0 (zs.take (k + 1)) = rawFrom 0 (zs.take k) ++ rawAt k z := by rw [← hz]; exact rawFrom_take (by omega)
      have HT : Hid _ := htk
      clear hcells hz htk hn hat
      by_cases hpos : 0 < z
      · obtain ⟨m, rfl⟩ : ∃ m : Nat, z = (m : Int) := ⟨z.toNat, by omega⟩
        have hm : m ≤ 1073741824 := by omega
        have hrow2 : RowC w.heap.size ((wr.alloc (.cells #[.int .i64 (k : Int)] 3)).alloc (.cells (encC (coin1 m k wr.heap.size hm)).toArray 54)) (.slice A0 l.length c0) l := (hrow.below (below_alloc _ _)).below (below_alloc _ _)
        have hsy : Syms w.heap.size ((wr.alloc (.cells #[.int .i64 (k : Int)] 3)).alloc (.cells (encC (coin1 m k wr.heap.size hm)).toArray 54)) (coin1 m k wr.heap.size hm) := (syms1 _ _ m k hm bel.size).below (below_alloc _ _)
        have bel2 : RowKit.Below w.heap.size w ((wr.alloc (.cells #[.int .i64 (k : Int)] 3)).alloc (.cells (encC (coin1 m k wr.heap.size hm)).toArray 54)) := balloc (balloc bel _) _
        have hsz := bel2.size
        have hcs : ∀ j u, (encC (coin1 m k wr.heap.size hm))[j]? = some u → ((wr.alloc (.cells #[.int .i64 (k : Int)] 3)).alloc (.cells (encC (coin1 m k wr.heap.size hm)).toArray 54)).cell? ((⟨wr.heap.size + 1, 0, none⟩ : Addr).add j) = some u := by
          intro j u hu
          have hh : ((wr.alloc (.cells #[.int .i64 (k : Int)] 3)).alloc (.cells (encC (coin1 m k wr.heap.size hm)).toArray 54)).heap[wr.heap.size + 1]? = some (.cells (encC (coin1 m k wr.heap.size hm)).toArray 54 (0, 0)) := by
            have := heap_new (wr.alloc (.cells #[.int .i64 (k : Int)] 3)) (.cells (encC (coin1 m k wr.heap.size hm)).toArray 54)
            have e : (wr.alloc (.cells #[.int .i64 (k : Int)] 3)).heap.size = wr.heap.size + 1 := by show (wr.heap.push _).size = _; rw [Array.size_push]
            rw [e] at this
            exact this
          rw [Addr.add_lit, Nat.zero_add]
          exact cell_of hh (by simpa using hu)
        go_wp2_with (first | (at_builtin; refine wpList_append_own _ rfl (.tmp 15) (.tmp 20) 50 rfl w.heap.size 54 i0 _ 2 32 Try.underlying50 hi hz0 hz1 hz2 rfl (by decide) _ l.length (l.flatMap encC) rfl hrow2.1 ⟨wr.heap.size + 1, 0, none⟩ 1 1 (encC (coin1 m k wr.heap.size hm)) rfl rfl hcs (encC_one _) ?d1 ?d2 hsz ?_))
        case d1 => unfold maxLen; omega
        case d2 => omega
        intro v3 w3 ho3 hg3 _
        have hrow3 := hrow2.push hsy ho3 hg3
        have bel3 : RowKit.Below w.heap.size w w3 := bel2.grown hg3 hsz (own_ge hrow2.1)
        have hsm3 : Hid (∀ c ∈ l ++ [coin1 m k wr.heap.size hm], c.n < 2147483648 ∧ c.syms.length = 1) := by
          show ∀ c ∈ _, _
          intro c hc
          rcases List.mem_append.1 hc with hc | hc
          · exact hsm.out c hc
          · rw [List.mem_singleton.1 hc]; exact ⟨by show m < _; omega, rfl⟩
        have hpl3 : Hid ((l ++ [coin1 m k wr.heap.size hm]).map Coin.plain = rawFrom 0 (zs.take (k + 1))) := by
          show _ = _
          rw [HT.out, List.map_append, hpl.out]
          congr 1
          unfold rawAt
          rw [if_pos hpos]
          rfl
        obtain ⟨l3, hl3⟩ : ∃ l3, l ++ [coin1 m k wr.heap.size hm] = l3 := ⟨_, rfl⟩
        have hlen3 : l3.length = l.length + 1 := by rw [← hl3]; simp
        rw [hl3] at hrow3 hsm3 hpl3
        clear hrow hrow2 hsy bel bel2 hcs hg3 ho3 hl3 hsm hpl hsz hcell HT
        obtain ⟨A3, c3, rfl, _⟩ := own_form hrow3.1
        go_wp2
        go_roundg (n - (k + 1))
        case measure => omega
        case rel => exact ⟨k + 1, l3, hlt, Nat.le_refl _, rfl, hrow3, bel3, by omega, hpl3, hsm3⟩
      · have hposz : ¬ (z > 0) := hpos
        have hpl3 : Hid (l.map Coin.plain = rawFrom 0 (zs.take (k + 1))) := by
          show _ = _
          rw [HT.out, hpl.out]
          unfold rawAt
          rw [if_neg hpos, List.append_nil]
        clear HT hpl
        go_wp2
        go_roundg (n - (k + 1))
        case measure => omega
        case rel => exact ⟨k + 1, l, hlt, Nat.le_refl _, rfl, hrow, bel, by omega, hpl3, hsm⟩
    · have hltz : ¬ (k : Int) < (n : Int) := by omega
      have hkn : k = n := by omega
      subst hkn
      have hsort := sort_row 53 closure53 e53 hrow (by omega)
      have hfin : Hid ((sortedBy (ltOf cfC) l).map Coin.plain = singleP zs) := by
        show _ = _
        rw [sorted_plain, hpl.out, hnh.out, List.take_length]
        rfl
      have hsm3 : Hid (∀ c ∈ sortedBy (ltOf cfC) l, c.n < 2147483648 ∧ c.syms.length = 1) := by
        show ∀ c ∈ _, _
        intro c hc
        unfold sortedBy at hc
        exact hsm.out c (List.mem_mergeSort.1 hc)
      have hge := own_ge hrow.1
      have hsz := bel.size
      have hlen := sortedBy_length (ltOf cfC) l
      generalize sortedBy (ltOf cfC) l = l3 at hsort hfin hsm3 hlen
      clear hpl hsm hrow hat
      go_wp2_with fail
      refine hsort.mono ?_
      rintro e w3 ⟨rfl, hrow3, hg3⟩
      have bel3 : RowKit.Below w.heap.size w w3 := bel.grown hg3 hsz hge
      clear hsort hg3 hge bel hsz
      go_wp2
      go_ret
      exact ⟨_, l3, rfl, hrow3, hfin.out, hsm3.out, bel3⟩
end Go.Proofs.Ythgidcfgelpkhaa
