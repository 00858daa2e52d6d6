/-
  The contract of the reference's function that reads a word of eight bytes.
-/
import Derived.Test.YtilhceihelcdgaaH3
namespace Go.Proofs.Ytilhceihelcdgaa
open Go.RowKit

set_option maxHeartbeats 400000 in
theorem rword_ge (l : List Int) (v : Value) (w : World) (h : Bs w v l) (hn : 8 ≤ l.length) :
    Calls Try.prog 175 #[v] w fun e w' => e = .returned (.int .u64 (wordOf l)) ∧ Below w.heap.size w w' := by
  have HB := h.2
  obtain ⟨a, cap, rfl, hnc, hcm, _, hl, _, hc⟩ := id h.1
  obtain ⟨b, o, rfl, _⟩ := hc (by omega)
  have c0 := Bs.at h.1 0 (by omega); have c1 := Bs.at h.1 1 (by omega); have c2 := Bs.at h.1 2 (by omega); have c3 := Bs.at h.1 3 (by omega)
  have c4 := Bs.at h.1 4 (by omega); have c5 := Bs.at h.1 5 (by omega); have c6 := Bs.at h.1 6 (by omega); have c7 := Bs.at h.1 7 (by omega)
  have b0 := HB.getD 0; have b1 := HB.getD 1; have b2 := HB.getD 2; have b3 := HB.getD 3; have b4 := HB.getD 4; have b5 := HB.getD 5; have b6 := HB.getD 6; have b7 := HB.getD 7
  have hfin : wordOf l = _ := (or_word _ _ _ _ _ _ _ _ b0 b1 b2 b3 b4 b5 b6 b7).symm
  have HF := Lib.hid hfin
  clear hfin hc h
  generalize l.getD 0 0 = d0 at *; generalize l.getD 1 0 = d1 at *; generalize l.getD 2 0 = d2 at *; generalize l.getD 3 0 = d3 at *
  generalize l.getD 4 0 = d4 at *; generalize l.getD 5 0 = d5 at *; generalize l.getD 6 0 = d6 at *; generalize l.getD 7 0 = d7 at *
  obtain ⟨_, _⟩ := b0; obtain ⟨_, _⟩ := b1; obtain ⟨_, _⟩ := b2; obtain ⟨_, _⟩ := b3; obtain ⟨_, _⟩ := b4; obtain ⟨_, _⟩ := b5; obtain ⟨_, _⟩ := b6; obtain ⟨_, _⟩ := b7
  unfold maxLen at hcm
  generalize l.length = n at *
  simp only [Nat.add_zero] at c0
  go_enter Try.func175, Try.ntmps175
  go_wp2
  go_quiet (fail)
  go_wp2
  go_ret
  exact ⟨by rw [HF.out]; rfl, below_drewN (Below.refl _ _) _⟩

theorem wrapU {x : Int} (h0 : 0 ≤ x) (h1 : x < 18446744073709551616) : IntKind.u64.wrap x = x := by
  have : IntKind.u64.wrap x = x % 18446744073709551616 := by simp [IntKind.wrap, IntKind.bits, IntKind.signed]
  rw [this]; omega
theorem wordOf_take (l : List Int) (k : Nat) (hk : k < l.length) (h7 : k < 7) (hb : Byt l) :
    wordOf (l.take (k + 1)) = bits .or .u64 (wordOf (l.take k)) (IntKind.u64.wrap (l.getD k 0 * 2 ^ (56 - 8 * k))) := by
  have g : ∀ j, (l.take (k + 1)).getD j 0 = if j < k + 1 then l.getD j 0 else 0 := fun j => by
    simp only [List.getD_eq_getElem?_getD, List.getElem?_take]; split <;> simp
  have g' : ∀ j, (l.take k).getD j 0 = if j < k then l.getD j 0 else 0 := fun j => by
    simp only [List.getD_eq_getElem?_getD, List.getElem?_take]; split <;> simp
  have b0 := hb.getD 0; have b1 := hb.getD 1; have b2 := hb.getD 2; have b3 := hb.getD 3; have b4 := hb.getD 4; have b5 := hb.getD 5; have b6 := hb.getD 6
  unfold wordOf
  simp only [g, g']
  rcases (show k = 0 ∨ k = 1 ∨ k = 2 ∨ k = 3 ∨ k = 4 ∨ k = 5 ∨ k = 6 by omega) with rfl | rfl | rfl | rfl | rfl | rfl | rfl
  all_goals clear g g'
  all_goals generalize l.getD 0 0 = d0 at *
  all_goals generalize l.getD 1 0 = d1 at *
  all_goals generalize l.getD 2 0 = d2 at *
  all_goals generalize l.getD 3 0 = d3 at *
  all_goals generalize l.getD 4 0 = d4 at *
  all_goals generalize l.getD 5 0 = d5 at *
  all_goals generalize l.getD 6 0 = d6 at *
  · simp; rw [wrapU (by omega) (by omega), or_add _ _ 64 (by omega) (by omega) (by omega) (by omega) (by omega) (by decide)]; omega
  · simp; rw [wrapU (by omega) (by omega), or_add _ _ 56 (by omega) (by omega) (by omega) (by omega) (by omega) (by decide)]
  · simp; rw [wrapU (by omega) (by omega), or_add _ _ 48 (by omega) (by omega) (by omega) (by omega) (by omega) (by decide)]
  · simp; rw [wrapU (by omega) (by omega), or_add _ _ 40 (by omega) (by omega) (by omega) (by omega) (by omega) (by decide)]
  · simp; rw [wrapU (by omega) (by omega), or_add _ _ 32 (by omega) (by omega) (by omega) (by omega) (by omega) (by decide)]
  · simp; rw [wrapU (by omega) (by omega), or_add _ _ 24 (by omega) (by omega) (by omega) (by omega) (by omega) (by decide)]
  · simp; rw [wrapU (by omega) (by omega), or_add _ _ 16 (by omega) (by omega) (by omega) (by omega) (by omega) (by decide)]

set_option maxHeartbeats 1000000 in
theorem rword_lt (l : List Int) (v : Value) (w : World) (h : Bs w v l) (hn : l.length < 8) :
    Calls Try.prog 175 #[v] w fun e w' => e = .returned (.int .u64 (wordOf l)) ∧ Below w.heap.size w w' := by
  have HB := h.2
  have hsl := h.1
  obtain ⟨a, cap, rfl, hnc, hcm, _, hl, _, hc⟩ := id h.1
  have hn' : (l.length : Int) < 8 := by omega
  have HS := Lib.hid hsl
  have HC := Lib.hid hc
  clear hc h hsl
  unfold maxLen at hcm
  go_enter Try.func175, Try.ntmps175
  go_wp2
  go_loop [3, 4] (fun t i => ∃ k : Nat, k ≤ l.length ∧ i = .int .i64 k ∧ t = .int .u64 (wordOf (l.take k))) (fun _ i => l.length - (intOf i).toNat)
  case atStart => exact ⟨0, Nat.zero_le _, rfl, rfl⟩
  case round =>
    obtain ⟨k, hk, rfl, rfl⟩ := hrel
    by_cases hlt : k < l.length
    · obtain ⟨b, o, rfl, _⟩ := HC.out (by omega)
      have c0 := Bs.at HS.out k hlt
      have b0 := HB.getD k
      have hs := wordOf_take l k hlt (by omega) HB
      have hu := wordOf_u64 (HB.take k)
      have HS2 := Lib.hid hs
      clear hs
      generalize l.getD k 0 = d at *
      generalize wordOf (l.take k) = A at *
      obtain ⟨_, _⟩ := b0
      obtain ⟨_, _⟩ := hu
      generalize l.length = n at *
      go_wp2
      go_round
      case rel => exact ⟨k + 1, by omega, by go_num, by rw [HS2.out]⟩
      case measure => simp [intOf]; omega
    · go_wp2
      go_ret
      obtain rfl : k = l.length := by omega
      exact ⟨by rw [List.take_of_length_le (Nat.le_refl _)]; rfl, Below.refl _ _⟩
end Go.Proofs.Ytilhceihelcdgaa
