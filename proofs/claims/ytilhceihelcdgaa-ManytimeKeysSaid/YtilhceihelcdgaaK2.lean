/-
  The walk of the statement ManytimeSizes.
-/
import Derived.Test.YtilhceihelcdgaaK1
namespace Go.Proofs.Ytilhceihelcdgaa
open Go.RowKit

theorem or_add63 (x y : Int) (i : Nat) (hx : 0 ≤ x) (hx1 : x < 9223372036854775808) (hm : x % 2 ^ i = 0) (hy : 0 ≤ y) (hy1 : y < 2 ^ i) (hi : i ≤ 63) : bits .or .i64 x y = x + y := by
  have hk : ∀ n : Int, 0 ≤ n → n < 2 ^ 63 → IntKind.i64.wrap n = n := fun n h0 h1 => by
    rw [IntKind.wrap_i64]; omega
  exact bits_join .i64 63 (by decide) hk i x y hx hm (by omega) hy hy1 (Int.lt_of_lt_of_le hy1 (by
    have := Nat.pow_le_pow_right (show 0 < 2 by omega) hi
    exact_mod_cast this))
theorem or_byte63 {x c : Int} (h0 : 0 ≤ x) (h1 : x < 256) (c0 : 0 ≤ c) (c1 : c < 256) : bits .or .i64 (x * 256) c = x * 256 + c :=
  or_add63 _ _ 8 (by omega) (by omega) (by simp) c0 (by simpa using c1) (by decide)

set_option maxHeartbeats 1000000 in
theorem sizes_walk (n : Int) (l : List Int) (v : Value) (w : World) (hn : -9223372036854775808 ≤ n ∧ n ≤ 9223372036854775807) (h : Bs w v l) :
    Calls Try.prog 3 #[.int .i64 n, v] w fun e w' => e = .returned (.bool true) ∧ Below w.heap.size w w' := by
  obtain ⟨h0, h1⟩ := hn
  have HB := h.2
  have HS := Lib.hid h
  obtain ⟨a, cap, rfl, hnc, hcm, _, hl, _, hc⟩ := id h.1
  have HC := Lib.hid hc
  clear h hc
  unfold maxLen at hcm
  have hcap : 0 ≤ capOf n ∧ capOf n ≤ 1024 := by unfold capOf; split <;> (try split) <;> omega
  have hsz : 0 ≤ sizeOf n ∧ sizeOf n ≤ 370 := by unfold sizeOf; split <;> (try split) <;> omega
  by_cases h2 : 2 ≤ l.length
  · obtain ⟨b, o, rfl, _⟩ := HC.out (by omega)
    have h2' : (2 : Int) ≤ (l.length : Int) := by omega
    have c0 := Bs.at HS.out.1 0 (by omega)
    have c1 := Bs.at HS.out.1 1 (by omega)
    have b0 := HB.getD 0
    have b1 := HB.getD 1
    have hor := or_byte63 b0.1 b0.2 b1.1 b1.2
    have hlf : leafOf l = l.getD 0 0 * 256 + l.getD 1 0 := rfl
    have hle := leaf_yes l _ w HS.out h2
    rw [hlf] at hle
    generalize l.getD 0 0 = d0 at *
    generalize l.getD 1 0 = d1 at *
    obtain ⟨_, _⟩ := b0
    obtain ⟨_, _⟩ := b1
    have HLE := Lib.hid hle
    clear hle hlf
    simp only [Nat.add_zero] at c0
    go_enter Try.func3, Try.ntmps3
    go_wp2_with (go_at_call 20; refine HLE.out.mono ?_; rintro e w1 ⟨rfl, rfl⟩)
    go_quiet (fail)
    go_wp2_with (first
      | (go_at_call 21; refine (capacity_any n _ h0 h1).mono ?_; rintro e w1 ⟨rfl, rfl⟩)
      | (go_at_call 22; refine (rcapacity_any n _ h0 h1).mono ?_; rintro e w1 ⟨rfl, rfl⟩)
      | (go_at_call 23; refine (size_any n _ h0 h1).mono ?_; rintro e w1 ⟨rfl, rfl⟩)
      | (go_at_call 24; refine (rsize_any n _ h0 h1).mono ?_; rintro e w1 ⟨rfl, rfl⟩)
      | (go_at_call 25; refine (awake5 _).mono ?_; rintro e w1 ⟨rfl, rfl⟩))
    go_ret
    exact ⟨rfl, below_drewN (Below.refl _ _) _⟩
  · have h2' : (l.length : Int) < 2 := by omega
    have hd : decide ((2 : Int) ≤ (l.length : Int)) = false := by simp; omega
    have hle := leaf_no l _ w HS.out h2
    have HLE := Lib.hid hle
    clear hle
    go_enter Try.func3, Try.ntmps3
    go_wp2_with (first
      | (go_at_call 20; refine HLE.out.mono ?_; rintro e w1 ⟨rfl, rfl⟩)
      | (go_at_call 21; refine (capacity_any n _ h0 h1).mono ?_; rintro e w1 ⟨rfl, rfl⟩)
      | (go_at_call 22; refine (rcapacity_any n _ h0 h1).mono ?_; rintro e w1 ⟨rfl, rfl⟩)
      | (go_at_call 23; refine (size_any n _ h0 h1).mono ?_; rintro e w1 ⟨rfl, rfl⟩)
      | (go_at_call 24; refine (rsize_any n _ h0 h1).mono ?_; rintro e w1 ⟨rfl, rfl⟩)
      | (go_at_call 25; refine (awake5 _).mono ?_; rintro e w1 ⟨rfl, rfl⟩))
    go_ret
    exact ⟨rfl, Below.refl _ _⟩
end Go.Proofs.Ytilhceihelcdgaa
