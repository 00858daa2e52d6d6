/-
  Contracts of the functions that read numbers: codec.follow, codec.Uint and the reference's Uint.
-/
import Derived.Test.YtilhceihelcdgaaH8
namespace Go.Proofs.Ytilhceihelcdgaa
open Go.RowKit

theorem follow_yes (l : List Int) (v : Value) (p n : Int) (w : World) (h : Bs w v l) (h0 : 0 ≤ p) (h1 : p ≤ l.length) (h2 : n ≤ l.length - p) :
    Calls Try.prog 149 #[v, .int .i64 p, .int .i64 n] w fun e w' => e = .returned (.bool true) ∧ w = w' := by
  obtain ⟨a, cap, rfl, hnc, hcm, _, hl, _, _⟩ := h.1
  clear h
  go_enter Try.func149, Try.ntmps149
  go_wp2
  go_ret
  exact ⟨rfl, rfl⟩
theorem follow_no (l : List Int) (v : Value) (p n : Int) (w : World) (h : Bs w v l) (h0 : 0 ≤ p) (_h1 : p ≤ 140737488355328) (h2 : ¬ (p ≤ l.length ∧ n ≤ l.length - p)) (_h3 : -1000 ≤ n) (_h4 : n ≤ 140737488355328) :
    Calls Try.prog 149 #[v, .int .i64 p, .int .i64 n] w fun e w' => e = .returned (.bool false) ∧ w = w' := by
  obtain ⟨a, cap, rfl, hnc, hcm, _, hl, _, _⟩ := h.1
  clear h
  by_cases hp : p ≤ l.length
  · have hn : ¬ n ≤ l.length - p := fun e => h2 ⟨hp, e⟩
    clear h2
    go_enter Try.func149, Try.ntmps149
    go_wp2
    go_ret
    exact ⟨rfl, rfl⟩
  · clear h2
    go_enter Try.func149, Try.ntmps149
    go_wp2
    go_ret
    exact ⟨rfl, rfl⟩

/-- The bytes from place p on, so many. -/
def cut (l : List Int) (p n : Nat) : List Int := (l.drop p).take n
theorem cut_len (l : List Int) (p n : Nat) (h : p + n ≤ l.length) : (cut l p n).length = n := by simp [cut]; omega
theorem cut_succ (l : List Int) (p n : Nat) (h : p + n < l.length) : cut l p (n + 1) = cut l p n ++ [l.getD (p + n) 0] := by
  unfold cut
  rw [take_one (by simp; omega)]
  congr 2
  rw [List.getD_eq_getElem?_getD, List.getElem?_drop, ← List.getD_eq_getElem?_getD]
theorem cut_byt {l : List Int} (h : Byt l) (p n : Nat) : Byt (cut l p n) := (h.drop p).take n

set_option maxHeartbeats 1000000 in
theorem uint_yes (l : List Int) (v : Value) (p n : Int) (w : World) (h : Bs w v l) (h0 : 0 ≤ p) (h1 : 1 ≤ n) (h2 : n ≤ 8) (h3 : p + n ≤ l.length) :
    Calls Try.prog 78 #[v, .int .i64 p, .int .i64 n] w fun e w' => e = .returned (.tuple #[.int .u64 (numOf (cut l p.toNat n.toNat)), .bool true]) ∧ w = w' := by
  obtain ⟨p, rfl⟩ := Int.eq_ofNat_of_zero_le h0
  obtain ⟨n, rfl⟩ := Int.eq_ofNat_of_zero_le (show 0 ≤ n by omega)
  simp only [Int.toNat_natCast]
  have HB := h.2
  have HS := Lib.hid h
  obtain ⟨a, cap, rfl, hnc, hcm, _, hl, _, hc⟩ := id h.1
  obtain ⟨b, o, rfl, _⟩ := hc (by omega)
  clear hc h
  unfold maxLen at hcm
  have hd1 : decide ((n : Int) < 1) = false := by simp; omega
  have hd2 : decide (8 < (n : Int)) = false := by simp; omega
  have h3' : p + n ≤ l.length := by omega
  go_enter Try.func78, Try.ntmps78
  go_wp2_with (go_at_call 149; refine (follow_yes l _ _ _ _ HS.out (by omega) (by omega) (by omega)).mono ?_; rintro e w' ⟨rfl, rfl⟩)
  go_loop [8, 10, 31] (fun a _ i => ∃ k : Nat, k ≤ n ∧ i = .int .i64 k ∧ a = .int .u64 (numOf (cut l p k))) (fun _ _ i => n - (intOf i).toNat)
  case atStart => exact ⟨0, by omega, rfl, by simp [cut, numOf]⟩
  case round =>
    obtain ⟨k, hk, rfl, rfl⟩ := hrel
    by_cases hlt : k < n
    · have hlt' : (k : Int) < (n : Int) := by omega
      have c0 := Bs.at HS.out.1 (p + k) (by omega)
      rw [← Nat.add_assoc] at c0
      have hb := numOf_bd (cut l p k) (cut_byt HB p k)
      have h8 : numOf (cut l p k) < 72057594037927936 := Int.lt_of_lt_of_le hb.2 (pow256_le _ (by rw [cut_len _ _ _ (by omega)]; omega))
      have g2 := HB.getD (p + k)
      have hs := numOf_snoc (cut l p k) (l.getD (p + k) 0)
      rw [← cut_succ l p k (by omega)] at hs
      have h9 := or_byte hb.1 h8 g2.1 g2.2
      obtain ⟨_, _⟩ := hb
      generalize numOf (cut l p k) = A at *
      generalize l.getD (p + k) 0 = c at *
      obtain ⟨_, _⟩ := g2
      have HSS := Lib.hid hs
      clear hs
      go_wp2
      go_round
      case rel => exact ⟨k + 1, by omega, by go_num, by rw [HSS.out]⟩
      case measure => simp [intOf]; omega
    · obtain rfl : k = n := by omega
      go_wp2
      go_ret2
      exact ⟨rfl, rfl⟩

theorem uint_no (l : List Int) (v : Value) (p n : Int) (w : World) (h : Bs w v l) (h0 : 0 ≤ p) (h00 : p ≤ 140737488355328) (h1 : 1 ≤ n) (h2 : n ≤ 8) (h3 : ¬ p + n ≤ l.length) :
    Calls Try.prog 78 #[v, .int .i64 p, .int .i64 n] w fun e w' => e = .returned (.tuple #[.int .u64 0, .bool false]) ∧ w = w' := by
  have HS := Lib.hid h
  obtain ⟨a, cap, rfl, hnc, hcm, _, hl, _, hc⟩ := id h.1
  clear hc h
  have HN := Lib.hid h3
  clear h3
  go_enter Try.func78, Try.ntmps78
  go_wp2_with (go_at_call 149; refine (follow_no l _ _ _ _ HS.out (by omega) (by omega) (by have := HN.out; omega) (by omega) (by omega)).mono ?_; rintro e w' ⟨rfl, rfl⟩)
  go_ret2
  exact ⟨rfl, rfl⟩

set_option maxHeartbeats 1000000 in
theorem ruint_yes (l : List Int) (v : Value) (p n : Int) (w : World) (h : Bs w v l) (h0 : 0 ≤ p) (h1 : 1 ≤ n) (h2 : n ≤ 8) (h3 : p + n ≤ l.length) :
    Calls Try.prog 160 #[v, .int .i64 p, .int .i64 n] w fun e w' => e = .returned (.tuple #[.int .u64 (numOf (cut l p.toNat n.toNat)), .bool true]) ∧ w = w' := by
  obtain ⟨p, rfl⟩ := Int.eq_ofNat_of_zero_le h0
  obtain ⟨n, rfl⟩ := Int.eq_ofNat_of_zero_le (show 0 ≤ n by omega)
  simp only [Int.toNat_natCast]
  have HB := h.2
  have HS := Lib.hid h
  obtain ⟨a, cap, rfl, hnc, hcm, _, hl, _, hc⟩ := id h.1
  obtain ⟨b, o, rfl, _⟩ := hc (by omega)
  clear hc h
  unfold maxLen at hcm
  have hd1 : decide ((n : Int) < 1) = false := by simp; omega
  have hd2 : decide (8 < (n : Int)) = false := by simp; omega
  have hd3 : decide ((p : Int) < 0) = false := by simp
  have hd4 : decide ((l.length : Int) - (n : Int) < (p : Int)) = false := by simp; omega
  have h3' : p + n ≤ l.length := by omega
  go_enter Try.func160, Try.ntmps160
  go_wp2
  go_loop [8, 9] (fun a i => ∃ k : Nat, k ≤ n ∧ i = .int .i64 k ∧ a = .int .u64 (numOf (cut l p k))) (fun _ i => n - (intOf i).toNat)
  case atStart => exact ⟨0, by omega, rfl, by simp [cut, numOf]⟩
  case round =>
    obtain ⟨k, hk, rfl, rfl⟩ := hrel
    by_cases hlt : k < n
    · have hlt' : (k : Int) < (n : Int) := by omega
      have c0 := Bs.at HS.out.1 (p + k) (by omega)
      have hb := numOf_bd (cut l p k) (cut_byt HB p k)
      have h8 : numOf (cut l p k) < 72057594037927936 := Int.lt_of_lt_of_le hb.2 (pow256_le _ (by rw [cut_len _ _ _ (by omega)]; omega))
      have g2 := HB.getD (p + k)
      have hs := numOf_snoc (cut l p k) (l.getD (p + k) 0)
      rw [← cut_succ l p k (by omega)] at hs
      have h9 := or_byte hb.1 h8 g2.1 g2.2
      obtain ⟨_, _⟩ := hb
      generalize numOf (cut l p k) = A at *
      generalize l.getD (p + k) 0 = c at *
      obtain ⟨_, _⟩ := g2
      have HSS := Lib.hid hs
      clear hs
      go_wp2
      go_round
      case rel => exact ⟨k + 1, by omega, by go_num, by rw [HSS.out]⟩
      case measure => simp [intOf]; omega
    · obtain rfl : k = n := by omega
      go_wp2
      go_ret2
      exact ⟨rfl, rfl⟩
theorem ruint_no (l : List Int) (v : Value) (p n : Int) (w : World) (h : Bs w v l) (h0 : 0 ≤ p) (h00 : p ≤ 140737488355328) (h1 : 1 ≤ n) (h2 : n ≤ 8) (h3 : ¬ p + n ≤ l.length) :
    Calls Try.prog 160 #[v, .int .i64 p, .int .i64 n] w fun e w' => e = .returned (.tuple #[.int .u64 0, .bool false]) ∧ w = w' := by
  obtain ⟨a, cap, rfl, hnc, hcm, _, hl, _, hc⟩ := id h.1
  clear hc h
  have h4 : (l.length : Int) - n < p := by omega
  clear h3
  go_enter Try.func160, Try.ntmps160
  go_wp2
  go_ret2
  exact ⟨rfl, rfl⟩
end Go.Proofs.Ytilhceihelcdgaa
