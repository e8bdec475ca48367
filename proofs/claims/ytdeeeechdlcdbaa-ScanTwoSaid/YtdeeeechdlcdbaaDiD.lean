/- Make and All. -/
import Derived.Test.YtdeeeechdlcdbaaDiC
set_option linter.unusedSimpArgs false
set_option linter.unusedVariables false
namespace Go.Proofs.Ytdeeeechdlcdbaa.DiD
open Go Go.RowKit Go.Proofs.Ytdeeeechdlcdbaa.Base Go.Proofs.Ytdeeeechdlcdbaa.DiA Go.Proofs.Ytdeeeechdlcdbaa.DiB Go.Proofs.Ytdeeeechdlcdbaa.DiC
theorem new_any (A : Option Addr) (n cap : Nat) (zs : List ByteArray) (w : World) (hn : n = zs.length) (hat : StrsAt w A zs) (htot : total zs ≤ 2000) :
    Calls Try.prog 68 #[.slice A n cap] w fun e w' => NewPost w zs e w' := by
  rcases Nat.lt_or_ge 100 n with h | h
  · exact new_many A n cap zs w hn h
  · exact new_in A n cap zs w hn h hat htot
/-- Behind Make. -/
def MakePost (w : World) (zs : List ByteArray) (e : Ending) (w' : World) : Prop := Below w.heap.size w w' ∧
  ((okD zs = false ∧ e = .returned (.pointer none)) ∨ (okD zs = true ∧ ∃ p, e = .returned (.pointer (some ⟨p, 0, none⟩)) ∧ w.heap.size ≤ p ∧ DictAt w.heap.size w' p zs))
set_option maxHeartbeats 400000 in
theorem make_any (A : Option Addr) (n cap : Nat) (zs : List ByteArray) (w : World) (hn : n = zs.length) (hat : StrsAt w A zs) (htot : total zs ≤ 2000) :
    Calls Try.prog 26 #[.slice A n cap] w fun e w' => MakePost w zs e w' := by
  have hnew := new_any A n cap zs w hn hat htot
  clear hn
  go_enter Try.func26, Try.ntmps26
  go_wp2_with fail
  refine hnew.mono ?_
  rintro e w1 ⟨hb, ⟨hok, t, v, rfl⟩ | ⟨hok, p, rfl, hp, hd⟩⟩
  · have hok2 : Hid (okD zs = false) := hok
    clear hok hnew hat
    go_wp2_with fail
    refine bodyPost_ret (v := .pointer none) ?_ rfl ⟨hb, .inl ⟨hok2.out, rfl⟩⟩
    simp [results, Try.results26, go_sem]
  · have hok2 : Hid (okD zs = true) := hok
    clear hok hnew hat
    go_wp2_with fail
    refine bodyPost_ret (v := .pointer (some ⟨p, 0, none⟩)) ?_ rfl ⟨hb, .inr ⟨hok2.out, p, rfl, hp, hd⟩⟩
    simp [results, Try.results26, go_sem]
/-- Behind All. -/
def AllPost (w : World) (zs : List ByteArray) (e : Ending) (w' : World) : Prop := Below w.heap.size w w' ∧ ∃ V cp, e = .returned (.slice V zs.length cp) ∧ w'.ownsRow w.heap.size 9 1 (.slice V zs.length cp) zs.length (zs.map Value.string)
set_option maxHeartbeats 400000 in
theorem all_any (B p : Nat) (zs : List ByteArray) (w : World) (hd : DictAt B w p zs) (hbig : zs.length ≤ 1000) :
    Calls Try.prog 75 #[.pointer (some ⟨p, 0, none⟩)] w fun e w' => AllPost w zs e w' := by
  obtain ⟨v, hp, hown⟩ := hd
  obtain ⟨V, cp, rfl, hs⟩ := own_cells hown rfl
  obtain ⟨n, hn⟩ : ∃ n, n = zs.length := ⟨_, rfl⟩
  have hcl : w.cell? ⟨p, 0, none⟩ = some (.slice V n cp) := by rw [hn]; exact cell_of hp rfl
  have hclone : Calls Try.prog 111 #[.slice V n cp] w fun e w' => AllPost w zs e w' := by
    rcases V with _ | ad
    · refine (Try.slices_Clone_string_nil n cp w).mono ?_
      rintro e w' ⟨rfl, rfl⟩
      have h0 : zs.length = 0 := by
        rcases Nat.eq_zero_or_pos zs.length with h | h
        · exact h
        · obtain ⟨b, off, h, _⟩ := hs h; cases h
      have hz : zs = [] := List.eq_nil_of_length_eq_zero h0
      subst hz
      exact ⟨Below.refl _ _, none, 0, rfl, World.ownsRow_nil _ _ _ _⟩
    · rcases Nat.eq_zero_or_pos zs.length with h | h
      · have hn0 : n = 0 := by omega
        subst hn0
        refine (Try.slices_Clone_string_zero ad cp w).mono ?_
        rintro e w' ⟨v', rfl, ho, _, hb⟩
        obtain ⟨V', cp', rfl, _⟩ := own_form ho
        have hz : zs = [] := List.eq_nil_of_length_eq_zero h
        subst hz
        exact ⟨hb, V', cp', rfl, ho⟩
      · obtain ⟨b, off, hA, _, hc⟩ := hs h
        obtain rfl := Option.some.inj hA
        refine (Try.slices_Clone_string b off n cp zs w (by omega) (by omega) hc).mono ?_
        rintro e w' ⟨v', rfl, ho, _, hb⟩
        rw [List.take_of_length_le (by omega)] at ho
        obtain ⟨V', cp', rfl, hs'⟩ := own_cells ho (by omega)
        rw [hn] at ho
        exact ⟨hb, V', cp', by rw [hn], ho⟩
  clear hp hown hs
  have hnh : Hid (n = zs.length) := hn
  clear hn
  go_enter Try.func75, Try.ntmps75
  go_wp2_with fail
  refine hclone.mono ?_
  rintro e w1 ⟨hb, V', cp', rfl, hs'⟩
  clear hclone
  go_wp2_with fail
  refine bodyPost_ret (v := .slice V' zs.length cp') ?_ rfl ⟨hb, V', cp', rfl, hs'⟩
  simp [results, Try.results75, go_sem]
end Go.Proofs.Ytdeeeechdlcdbaa.DiD
