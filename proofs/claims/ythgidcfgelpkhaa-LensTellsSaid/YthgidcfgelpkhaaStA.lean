/- What the stable sort's functions need of the program they stand in, and the first two of them: stretches exchanged, stretches turned. -/
import Derived.Test.YthgidcfgelpkhaaProg
import Derived.Test.YthgidcfgelpkhaaStR
import Derived.Shelf.SlSortCmp.KitK
import Derived.Sort.WalkB2
import Derived.Sort.WalkB12
import Derived.Deep.LoopGhost
set_option linter.unusedVariables false
namespace Go.Proofs.Ythgidcfgelpkhaa
open Go Go.RowKit Go.Lib Go.Sort Go.Proofs

/-- The program's side of the sort: its functions, and what it says of the types that they name. -/
structure Sits (P : Program) (k : Nat) : Prop where
  mixed : P.follows .mixedOrders = true
  f29 : P.funcs[29]? = some Try.f29
  f55 : P.funcs[55]? = some Try.f55
  f67 : P.funcs[67]? = some Try.f67
  f68 : P.funcs[68]? = some Try.f68
  f70 : P.funcs[70]? = some Try.f70
  f71 : P.funcs[71]? = some Try.f71
  t0 : P.underlying 0 = some (.tuple #[])
  a0 : ∀ w, (isAgg 0).run P w = .ok false w
  z0 : ∀ w, (Go.sizeOf 0).run P w = .ok 1 w
  v0 : ∀ w, (zeroValue 0).run P w = .ok (.tuple #[]) w
  t3 : P.underlying 3 = some (.int .i64)
  a3 : ∀ w, (isAgg 3).run P w = .ok false w
  z3 : ∀ w, (Go.sizeOf 3).run P w = .ok 1 w
  v3 : ∀ w, (zeroValue 3).run P w = .ok (.int .i64 0) w
  t4 : P.underlying 4 = some .bool
  a4 : ∀ w, (isAgg 4).run P w = .ok false w
  z4 : ∀ w, (Go.sizeOf 4).run P w = .ok 1 w
  v4 : ∀ w, (zeroValue 4).run P w = .ok (.bool false) w
  t44 : P.underlying 44 = some (.int .u64)
  a44 : ∀ w, (isAgg 44).run P w = .ok false w
  z44 : ∀ w, (Go.sizeOf 44).run P w = .ok 1 w
  v44 : ∀ w, (zeroValue 44).run P w = .ok (.int .u64 0) w
  t50 : P.underlying 50 = some (.slice 54)
  a50 : ∀ w, (isAgg 50).run P w = .ok false w
  z50 : ∀ w, (Go.sizeOf 50).run P w = .ok 1 w
  v50 : ∀ w, (zeroValue 50).run P w = .ok (.slice none 0 0) w
  t56 : P.underlying 56 = some (.func #[54, 54] #[3] false)
  a56 : ∀ w, (isAgg 56).run P w = .ok false w
  z56 : ∀ w, (Go.sizeOf 56).run P w = .ok 1 w
  v56 : ∀ w, (zeroValue 56).run P w = .ok .nilFunc w
  aE : ∀ w, (isAgg 54).run P w = .ok true w
  zE : ∀ w, (Go.sizeOf 54).run P w = .ok k w

theorem sits : Sits Try.prog 2 where
  mixed := by kernel_rfl
  f29 := Try.func29
  f55 := Try.func55
  f67 := Try.func67
  f68 := Try.func68
  f70 := Try.func70
  f71 := Try.func71
  t0 := Try.underlying0
  a0 := Try.isAgg0
  z0 := Try.sizeOf0
  v0 := Try.zeroValue0
  t3 := Try.underlying3
  a3 := Try.isAgg3
  z3 := Try.sizeOf3
  v3 := Try.zeroValue3
  t4 := Try.underlying4
  a4 := Try.isAgg4
  z4 := Try.sizeOf4
  v4 := Try.zeroValue4
  t44 := Try.underlying44
  a44 := Try.isAgg44
  z44 := Try.sizeOf44
  v44 := Try.zeroValue44
  t50 := Try.underlying50
  a50 := Try.isAgg50
  z50 := Try.sizeOf50
  v50 := Try.zeroValue50
  t56 := Try.underlying56
  a56 := Try.isAgg56
  z56 := Try.sizeOf56
  v56 := Try.zeroValue56
  aE := Try.isAgg54
  zE := Try.sizeOf54

variable {P : Program} {α : Type} [Inhabited α]

set_option maxHeartbeats 4000000 in
set_option maxRecDepth 1000000 in
theorem swapRange_call {k : Nat} (L : Sits P k) (enc : α → List Value) (g : Nat) (cb : Array Value) (blk off cap a b n : Nat) (d0 d : Array α) (w0 w : World)
    (R : RowK enc k w0 blk off d0) (hs : d0.size = d.size) (S : SWK enc k w0 blk off d w) (ha : a + n ≤ d.size) (hb : b + n ≤ d.size) (hsz : d.size < 4611686018427387904) :
    Calls P 71 #[.slice (some ⟨blk, off, none⟩) d.size cap, .int .i64 a, .int .i64 b, .int .i64 n, .func (.func g) #[] cb] w fun e w' => e = .returned (.tuple #[]) ∧ SWK enc k w0 blk off (swapR a b n d) w' := by
  have mixed := L.mixed; have t0 := L.t0; have a0 := L.a0; have z0 := L.z0; have v0 := L.v0; have t3 := L.t3; have a3 := L.a3; have z3 := L.z3; have v3 := L.v3; have t4 := L.t4; have a4 := L.a4; have z4 := L.z4; have v4 := L.v4; have t50 := L.t50; have a50 := L.a50; have z50 := L.z50; have v50 := L.v50; have t56 := L.t56; have a56 := L.a56; have z56 := L.z56; have v56 := L.v56
  have aE := L.aE; have zE := L.zE
  have S0 : Aside (SWK enc k w0 blk off d w) := S
  clear S
  go_enter L.f71, Try.ntmps71
  go_wp2
  go_loopg [10] n (fun kx s10 wr => ∃ (i : Nat) (dk : Array α), s10 = .int .i64 i ∧ i ≤ n ∧ n - i ≤ kx ∧ dk.size = d.size ∧ Aside (SWK enc k w0 blk off dk wr) ∧ swapR (a + i) (b + i) (n - i) dk = swapR a b n d)
  case atStart => exact ⟨0, d, rfl, Nat.zero_le _, by omega, rfl, S0, rfl⟩
  case round =>
    clear S0
    obtain ⟨i, dk, rfl, hin, hkx, hds, S1, heq⟩ := hrel
    by_cases hlt : (i : Int) < (n : Int)
    · have hij : i < n := by omega
      go_wp2_with fail
      have wa : IntKind.i64.wrap ((a : Int) + (i : Int)) = ((a + i : Nat) : Int) := by rw [IntKind.wrap_i64]; omega
      have wb : IntKind.i64.wrap ((b : Int) + (i : Int)) = ((b + i : Nat) : Int) := by rw [IntKind.wrap_i64]; omega
      have la : ((a + i : Nat) : Int) < (d.size : Int) := by omega
      have lb : ((b + i : Nat) : Int) < (d.size : Int) := by omega
      have na : ((a + i : Nat) : Int).toNat = a + i := by omega
      have nb : ((b + i : Nat) : Int).toNat = b + i := by omega
      have pa : (0 : Int) ≤ ((a + i : Nat) : Int) := by omega
      have pb : (0 : Int) ≤ ((b + i : Nat) : Int) := by omega
      have S2 : Aside (SWK enc k w0 blk off (swp dk (a + i) (b + i)) ((wr.drew.setCells blk (off + (a + i) * k) (enc dk[b + i]!)).setCells blk (off + (b + i) * k) (enc dk[a + i]!))) := S1.out.swapped R (a + i) (b + i) (by omega) (by omega)
      have l44a := S1.out.ld1 R (by omega) P (a + i) (by omega)
      have l44b := S1.out.ld1 R (by omega) P (b + i) (by omega)
      have s44a := S1.out.st1 R (by omega) P (a + i) (by omega) dk[b + i]!
      have s44b := S1.out.st2 R (by omega) P (a + i) (b + i) (by omega) (by omega) dk[b + i]! dk[a + i]!
      have n44a : (enc dk[a + i]!).length = k := R.hk _
      have n44b : (enc dk[b + i]!).length = k := R.hk _
      generalize enc dk[a + i]! = cI44 at S2 l44a s44b n44a
      generalize enc dk[b + i]! = cJ44 at S2 l44b s44a s44b n44b
      have HE : Hid (swapR (a + i) (b + i) (n - (i + 1) + 1) dk = swapR a b n d) := by rw [show n - (i + 1) + 1 = n - i by omega]; exact heq
      clear S1 heq
      generalize hA : a + i = A at *
      generalize hB : b + i = B at *
      go_wp2_with fail
      go_big_region_o
      clear l44a l44b s44a s44b
      generalize (wr.drew.setCells blk (off + A * k) cJ44).setCells blk (off + B * k) cI44 = w2 at S2 ⊢
      go_wp2
      go_roundg (n - (i + 1))
      case measure => omega
      case rel =>
        have h := HE.out
        rw [swapR] at h
        subst hA hB
        exact ⟨i + 1, swp dk (a + i) (b + i), by simp, hij, Nat.le_refl _, by rw [size_swp]; exact hds, S2, h⟩
    · obtain rfl : i = n := by omega
      go_wp2
      go_end0
      refine ⟨rfl, ?_⟩
      rw [Nat.sub_self, swapR] at heq
      rw [← heq]
      exact S1.out
end Go.Proofs.Ythgidcfgelpkhaa
