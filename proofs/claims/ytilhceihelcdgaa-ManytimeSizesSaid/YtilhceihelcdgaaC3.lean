/-
  Contracts of the functions that append a number: codec.AppendUint and the reference's.
-/
import Derived.Test.YtilhceihelcdgaaC2
namespace Go.Proofs.Ytilhceihelcdgaa
open Go.RowKit

/-- The n lowest bytes of a number, the highest first. -/
def beB (v : Int) : Nat → List Int
  | 0 => []
  | n + 1 => (v / 2 ^ (8 * n) % 256) :: beB v n
theorem beB_len (v : Int) (n : Nat) : (beB v n).length = n := by induction n with
  | zero => rfl
  | succ n ih => simp [beB, ih]
theorem beB_byt (v : Int) (n : Nat) : Byt (beB v n) := by induction n with
  | zero => exact Byt.nil
  | succ n ih => exact Byt.cons (by omega) (by omega) ih

set_option maxHeartbeats 1000000 in
theorem appendUint_any (l : List Int) (v : Value) (x n : Int) (w : World) (h : Bs w v l) (hx : U64 x) (h0 : 0 ≤ n) (h1 : n ≤ 8) (hl : l.length ≤ 140737488355320) :
    Calls Try.prog 94 #[v, .int .u64 x, .int .i64 n] w fun e w' => ∃ v', e = .returned v' ∧ OwB w' w.heap.size v' (l ++ beB x n.toNat) ∧ Below w.heap.size w w' := by
  obtain ⟨n, rfl⟩ := Int.eq_ofNat_of_zero_le h0
  obtain ⟨_, _⟩ := hx
  simp only [Int.toNat_natCast]
  have HS := Lib.hid h
  clear h
  go_enter Try.func94, Try.ntmps94
  go_wp2_with (go_at_call 169; refine (extended_any l _ n _ HS.out (by omega) (by omega) hl).mono ?_; rintro e w1 ⟨v1, rfl, hO1, hB1⟩)
  go_loopw [7, 8] (fun b i wr => ∃ k : Nat, k ≤ n ∧ i = .int .i64 ((k : Int) - 1) ∧ ∃ pre, Hid (pre ++ beB x k = beB x n) ∧ OwB wr w.heap.size b (l ++ pre) ∧ Below w.heap.size w wr) (fun _ i _ => ((intOf i) + 1).toNat)
  case atStart => exact ⟨n, Nat.le_refl _, rfl, [], rfl, by simpa using hO1, hB1⟩
  case round =>
    obtain ⟨k, hk, rfl, pre, hpre, hO, hB⟩ := hrel
    have hlp : pre.length + k = n := by have := congrArg List.length hpre.out; simpa [beB_len] using this
    have hz := hB.size
    have HLP := Lib.hid hlp
    clear hlp
    rcases k with _ | k
    · go_wp2
      go_ret
      refine ⟨_, rfl, ?_, hB⟩
      have := hpre.out
      simp only [beB, List.append_nil] at this
      rw [← this]; exact hO
    · have hs : (k : Int) + 1 - 1 = (k : Int) := by omega
      have hs2 : (((k + 1 : Nat) : Int) - 1) = (k : Int) := by omega
      rw [hs2]
      clear hs hs2
      go_wp2_with (at_builtin; refine wpList_app_bs _ rfl (.tmp 21) (.tmp 27) rfl w.heap.size _ _ rfl (hO.alloc _) _ [x / 2 ^ (8 * k) % 256] rfl (Sl.one _ _ _) (by have := HLP.out; simp; omega) (by simp; omega) ?_; intro v2 w2 hO2 hg2; have hB2 := (hO.alloc (.cells #[.int .u8 (x / 2 ^ (8 * k) % 256)] 5)).below_grown (hB.alloc hz _) (by simp; omega) hg2)
      go_roundw
      case rel =>
        refine ⟨k, by omega, rfl, pre ++ [x / 2 ^ (8 * k) % 256], ?_, by rw [← List.append_assoc]; exact hO2, hB2⟩
        show _ = _
        rw [← hpre.out, List.append_assoc]; rfl
      case measure => simp [intOf]

set_option maxHeartbeats 1000000 in
theorem rappendUint_any (l : List Int) (v : Value) (x n : Int) (w : World) (h : Bs w v l) (hx : U64 x) (h0 : 1 ≤ n) (h1 : n ≤ 8) (hl : l.length ≤ 140737488355320) :
    Calls Try.prog 179 #[v, .int .u64 x, .int .i64 n] w fun e w' => ∃ v', e = .returned v' ∧ OwB w' w.heap.size v' (l ++ beB x n.toNat) ∧ Below w.heap.size w w' := by
  obtain ⟨n, rfl⟩ := Int.eq_ofNat_of_zero_le (show 0 ≤ n by omega)
  have hnp : 0 < n := by omega
  obtain ⟨_, _⟩ := hx
  simp only [Int.toNat_natCast]
  have HS := Lib.hid h
  clear h
  go_enter Try.func179, Try.ntmps179
  go_wp2_with (at_builtin; refine wpList_app_bs _ rfl (.tmp 9) (.tmp 10) rfl w.heap.size _ [] rfl (OwB.empty _ _ (Nat.le_refl _)) _ l rfl (HS.out.1.below (below1 _ _)) (by simp; omega) (by simp) ?_; intro v1 w1 hO1 hg1; have hB1 := (OwB.empty w w.heap.size (Nat.le_refl _)).below_grown (below1 w _) (by simp) hg1)
  go_loopw [7, 8] (fun b i wr => ∃ k : Nat, k ≤ n ∧ i = .int .i64 ((k : Int) - 1) ∧ ∃ pre, Hid (pre ++ beB x k = beB x n) ∧ OwB wr w.heap.size b (l ++ pre) ∧ Below w.heap.size w wr) (fun _ i _ => ((intOf i) + 1).toNat)
  case atStart => exact ⟨n, Nat.le_refl _, rfl, [], rfl, by simpa using hO1, hB1⟩
  case round =>
    obtain ⟨k, hk, rfl, pre, hpre, hO, hB⟩ := hrel
    have hlp : pre.length + k = n := by have := congrArg List.length hpre.out; simpa [beB_len] using this
    have hz := hB.size
    have HLP := Lib.hid hlp
    clear hlp
    rcases k with _ | k
    · go_wp2
      go_ret
      refine ⟨_, rfl, ?_, hB⟩
      have := hpre.out
      simp only [beB, List.append_nil] at this
      rw [← this]; exact hO
    · have hs : (k : Int) + 1 - 1 = (k : Int) := by omega
      have hs2 : (((k + 1 : Nat) : Int) - 1) = (k : Int) := by omega
      rw [hs2]
      clear hs hs2
      go_wp2_with (at_builtin; refine wpList_app_bs _ rfl (.tmp 20) (.tmp 27) rfl w.heap.size _ _ rfl (hO.alloc _) _ [x / 2 ^ (8 * k) % 256] rfl (Sl.one _ _ _) (by have := HLP.out; simp; omega) (by simp; omega) ?_; intro v2 w2 hO2 hg2; have hB2 := (hO.alloc (.cells #[.int .u8 (x / 2 ^ (8 * k) % 256)] 5)).below_grown (hB.alloc hz _) (by simp; omega) hg2)
      go_roundw
      case rel =>
        refine ⟨k, by omega, rfl, pre ++ [x / 2 ^ (8 * k) % 256], ?_, by rw [← List.append_assoc]; exact hO2, hB2⟩
        show _ = _
        rw [← hpre.out, List.append_assoc]; rfl
      case measure => simp [intOf]
end Go.Proofs.Ytilhceihelcdgaa
