/-
  Contracts of the small functions of many-time signatures: capacity, size, leaf, and the sanity check.
-/
import Derived.Test.YtilhceihelcdgaaC
namespace Go.Proofs.Ytilhceihelcdgaa
open Go.RowKit

def capOf (n : Int) : Int := if n = 1 then 32 else if n = 2 then 1024 else 0
def sizeOf (n : Int) : Int := if n = 1 then 186 else if n = 2 then 370 else 0

theorem capacity_any (n : Int) (w : World) (h0 : -9223372036854775808 ≤ n) (h1 : n ≤ 9223372036854775807) :
    Calls Try.prog 21 #[.int .i64 n] w fun e w' => e = .returned (.int .i64 (capOf n)) ∧ w = w' := by
  by_cases h : n = 1
  · subst h
    go_enter Try.func21, Try.ntmps21
    go_wp2
    go_ret
    exact ⟨rfl, rfl⟩
  by_cases k : n = 2
  · subst k
    go_enter Try.func21, Try.ntmps21
    go_wp2
    go_ret
    exact ⟨rfl, rfl⟩
  have hc : capOf n = 0 := by rw [capOf, if_neg h, if_neg k]
  rw [hc]
  have e1 : (n == 1) = false := by simpa using h
  have e2 : (n == 2) = false := by simpa using k
  go_enter Try.func21, Try.ntmps21
  go_wp2
  go_ret
  exact ⟨rfl, rfl⟩
theorem rcapacity_any (n : Int) (w : World) (h0 : -9223372036854775808 ≤ n) (h1 : n ≤ 9223372036854775807) :
    Calls Try.prog 22 #[.int .i64 n] w fun e w' => e = .returned (.int .i64 (capOf n)) ∧ w = w' := by
  by_cases h : n = 1
  · subst h
    go_enter Try.func22, Try.ntmps22
    go_wp2
    go_ret
    exact ⟨rfl, rfl⟩
  by_cases k : n = 2
  · subst k
    go_enter Try.func22, Try.ntmps22
    go_wp2
    go_ret
    exact ⟨rfl, rfl⟩
  have hc : capOf n = 0 := by rw [capOf, if_neg h, if_neg k]
  rw [hc]
  have e1 : (n == 1) = false := by simpa using h
  have e2 : (n == 2) = false := by simpa using k
  go_enter Try.func22, Try.ntmps22
  go_wp2
  go_ret
  exact ⟨rfl, rfl⟩
theorem size_any (n : Int) (w : World) (h0 : -9223372036854775808 ≤ n) (h1 : n ≤ 9223372036854775807) :
    Calls Try.prog 23 #[.int .i64 n] w fun e w' => e = .returned (.int .i64 (sizeOf n)) ∧ w = w' := by
  by_cases h : n = 1
  · subst h
    go_enter Try.func23, Try.ntmps23
    go_wp2
    go_ret
    exact ⟨rfl, rfl⟩
  by_cases k : n = 2
  · subst k
    go_enter Try.func23, Try.ntmps23
    go_wp2
    go_ret
    exact ⟨rfl, rfl⟩
  have hc : sizeOf n = 0 := by rw [sizeOf, if_neg h, if_neg k]
  rw [hc]
  have e1 : (n == 1) = false := by simpa using h
  have e2 : (n == 2) = false := by simpa using k
  go_enter Try.func23, Try.ntmps23
  go_wp2
  go_ret
  exact ⟨rfl, rfl⟩
theorem rsize_any (n : Int) (w : World) (h0 : -9223372036854775808 ≤ n) (h1 : n ≤ 9223372036854775807) :
    Calls Try.prog 24 #[.int .i64 n] w fun e w' => e = .returned (.int .i64 (sizeOf n)) ∧ w = w' := by
  by_cases h : n = 1
  · subst h
    go_enter Try.func24, Try.ntmps24
    go_wp2
    go_ret
    exact ⟨rfl, rfl⟩
  by_cases k : n = 2
  · subst k
    go_enter Try.func24, Try.ntmps24
    go_wp2
    go_ret
    exact ⟨rfl, rfl⟩
  have hc : sizeOf n = 0 := by rw [sizeOf, if_neg h, if_neg k]
  rw [hc]
  by_cases l : n < 1
  · go_enter Try.func24, Try.ntmps24
    go_wp2
    go_ret
    exact ⟨rfl, rfl⟩
  · have l2 : 2 < n := by omega
    go_enter Try.func24, Try.ntmps24
    go_wp2
    go_ret
    exact ⟨rfl, rfl⟩
/-- The number in the first two bytes. -/
def leafOf (l : List Int) : Int := l.getD 0 0 * 256 + l.getD 1 0
theorem numOf_two (l : List Int) (h : 2 ≤ l.length) : numOf (cut l 0 2) = leafOf l := by
  match l, h with
  | a :: b :: r, _ => simp [cut, numOf, leafOf]
theorem leaf_yes (l : List Int) (v : Value) (w : World) (h : Bs w v l) (h2 : 2 ≤ l.length) :
    Calls Try.prog 20 #[v] w fun e w' => e = .returned (.tuple #[.int .i64 (leafOf l), .bool true]) ∧ w = w' := by
  have b0 := h.2.getD 0
  have b1 := h.2.getD 1
  have hb : 0 ≤ leafOf l ∧ leafOf l < 65536 := by unfold leafOf; omega
  have hu := uint_yes l v 0 2 w h (by omega) (by omega) (by omega) (by omega)
  rw [show ((2 : Int)).toNat = 2 from rfl, show ((0 : Int)).toNat = 0 from rfl, numOf_two l h2] at hu
  generalize leafOf l = x at *
  obtain ⟨_, _⟩ := hb
  have HU := Lib.hid hu
  clear hu b0 b1
  go_enter Try.func20, Try.ntmps20
  go_wp2_with (go_at_call 78; refine HU.out.mono ?_; rintro e w1 ⟨rfl, rfl⟩)
  go_ret2
  exact ⟨rfl, rfl⟩
theorem leaf_no (l : List Int) (v : Value) (w : World) (h : Bs w v l) (h2 : ¬ 2 ≤ l.length) :
    Calls Try.prog 20 #[v] w fun e w' => e = .returned (.tuple #[.int .i64 0, .bool false]) ∧ w = w' := by
  have hu := uint_no l v 0 2 w h (by omega) (by omega) (by omega) (by omega) (by omega)
  have HU := Lib.hid hu
  clear hu
  go_enter Try.func20, Try.ntmps20
  go_wp2_with (go_at_call 78; refine HU.out.mono ?_; rintro e w1 ⟨rfl, rfl⟩)
  go_ret2
  exact ⟨rfl, rfl⟩
theorem awake5 (w : World) : Calls Try.prog 25 #[] w fun e w' => e = .returned (.bool true) ∧ w = w' := by
  have c1 := capacity_any 1 w (by decide) (by decide)
  have c2 := capacity_any 2 w (by decide) (by decide)
  have c3 := size_any 2 w (by decide) (by decide)
  have c4 := size_any 3 w (by decide) (by decide)
  have C1 := Lib.hid c1
  have C2 := Lib.hid c2
  have C3 := Lib.hid c3
  have C4 := Lib.hid c4
  clear c1 c2 c3 c4
  go_enter Try.func25, Try.ntmps25
  go_wp2_with fail
  refine C1.out.mono ?_
  rintro e w1 ⟨rfl, rfl⟩
  rw [show capOf 1 = 32 from rfl]
  go_wp2_with fail
  refine C2.out.mono ?_
  rintro e w1 ⟨rfl, rfl⟩
  rw [show capOf 2 = 1024 from rfl]
  go_wp2_with fail
  refine C3.out.mono ?_
  rintro e w1 ⟨rfl, rfl⟩
  rw [show sizeOf 2 = 370 from rfl]
  go_wp2_with fail
  refine C4.out.mono ?_
  rintro e w1 ⟨rfl, rfl⟩
  rw [show sizeOf 3 = 0 from rfl]
  go_wp2_with fail
  go_ret
  exact ⟨rfl, rfl⟩
end Go.Proofs.Ytilhceihelcdgaa
