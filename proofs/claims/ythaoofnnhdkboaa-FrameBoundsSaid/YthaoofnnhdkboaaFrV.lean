/- The walk of FrameBounds. -/
import Derived.Test.YthaoofnnhdkboaaFrI
namespace Go.Proofs.Ythaoofnnhdkboaa.FrV
open Go.RowKit Go.Proofs.Ythaoofnnhdkboaa.FrK Go.Proofs.Ythaoofnnhdkboaa.FrO Go.Proofs.Ythaoofnnhdkboaa.FrI

theorem bounds_walk (kind raw n bs sum : Int) (w : World) (_wk : (Lit.int .i64 kind).wf = true) (_wr : (Lit.int .i64 raw).wf = true) (_wn : (Lit.int .i64 n).wf = true) (_wb : (Lit.int .i64 bs).wf = true) (ws : (Lit.int .u32 sum).wf = true) :
    Calls Try.prog 18 #[.int .i64 kind, .int .i64 raw, .int .i64 n, .int .i64 bs, .int .u32 sum] w fun e w' => e = .returned (.bool true) ∧ Below w.heap.size w w' := by
  have hs := u32_range ws
  by_cases h0 : raw < 0
  · exact bounds_o0 kind raw n bs sum w h0
  by_cases h1 : 65535 < raw
  · exact bounds_o1 kind raw n bs sum w h0 h1
  by_cases h2 : n < 0
  · exact bounds_o2 kind raw n bs sum w h0 h1 h2
  by_cases h3 : 2000 < n
  · exact bounds_o3 kind raw n bs sum w h0 h1 h2 h3
  by_cases h4 : bs < 1
  · exact bounds_o4 kind raw n bs sum w h0 h1 h2 h3 h4
  by_cases h5 : 2000 < bs
  · exact bounds_o5 kind raw n bs sum w h0 h1 h2 h3 h4 h5
  by_cases h6 : kind ≠ 1 ∧ kind ≠ 2
  · exact bounds_o6 kind raw n bs sum w h0 h1 h2 h3 h4 h5 h6
  obtain ⟨m, rfl⟩ := Int.eq_ofNat_of_zero_le (show 0 ≤ n by omega)
  have h3' : m ≤ 2000 := by omega
  have hk : kind = 1 ∨ kind = 2 := by omega
  rcases hk with rfl | rfl
  · by_cases h7 : raw < 1
    · exact bounds_n1_1 raw bs sum m w (.inl rfl) h0 h1 h3' h4 h5 hs h7
    by_cases h8 : 1024 < raw
    · exact bounds_n2_1 raw bs sum m w (.inl rfl) h0 h1 h3' h4 h5 hs h8
    have hr : 1 ≤ raw ∧ raw ≤ 1024 := by omega
    by_cases h9 : m < 1
    · exact bounds_n3_1 raw bs sum m w (.inl rfl) h0 h1 h3' h4 h5 hs hr h9
    have h9' : 1 ≤ m := by omega
    by_cases h10 : (m : Int) = raw
    · by_cases h11 : bs < raw
      · exact bounds_y1f_1 raw bs sum m w (.inl rfl) h0 h1 h3' h4 h5 hs hr h9' h10 h11
      · exact bounds_y1n_1 raw bs sum m w (.inl rfl) h0 h1 h3' h4 h5 hs hr h9' h10 h11
    · exact bounds_n4_1 raw bs sum m w (.inl rfl) h0 h1 h3' h4 h5 hs hr h9' h10
  · by_cases h7 : raw < 1
    · exact bounds_n1_2 raw bs sum m w (.inr rfl) h0 h1 h3' h4 h5 hs h7
    by_cases h8 : 1024 < raw
    · exact bounds_n2_2 raw bs sum m w (.inr rfl) h0 h1 h3' h4 h5 hs h8
    have hr : 1 ≤ raw ∧ raw ≤ 1024 := by omega
    by_cases h9 : m < 1
    · exact bounds_n3_2 raw bs sum m w (.inr rfl) h0 h1 h3' h4 h5 hs hr h9
    have h9' : 1 ≤ m := by omega
    by_cases h10 : (m : Int) < raw
    · by_cases h11 : bs < raw
      · exact bounds_y2f_2 raw bs sum m w (.inr rfl) h0 h1 h3' h4 h5 hs hr h9' h10 h11
      · exact bounds_y2n_2 raw bs sum m w (.inr rfl) h0 h1 h3' h4 h5 hs hr h9' h10 h11
    · exact bounds_n5_2 raw bs sum m w (.inr rfl) h0 h1 h3' h4 h5 hs hr h9' h10
end Go.Proofs.Ythaoofnnhdkboaa.FrV
