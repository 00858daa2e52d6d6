/-
  Contracts of hash.Number and of the two functions that read a word of eight bytes.
-/
import Derived.Test.YtilhceihelcdgaaL
import Derived.Test.YtilhceihelcdgaaH
namespace Go.Proofs.Ytilhceihelcdgaa
open Go.RowKit

def numOf (l : List Int) : Int := l.foldl (fun a c => a * 256 + c) 0
theorem numOf_snoc (l : List Int) (c : Int) : numOf (l ++ [c]) = numOf l * 256 + c := by simp [numOf]
theorem numOf_bd (l : List Int) (h : Byt l) : 0 ≤ numOf l ∧ numOf l < 256 ^ l.length := by
  suffices ∀ n (l : List Int), l.length = n → Byt l → 0 ≤ numOf l ∧ numOf l < 256 ^ n from this _ l rfl h
  intro n
  induction n with
  | zero => intro l hl _; obtain rfl := List.eq_nil_of_length_eq_zero hl; simp [numOf]
  | succ n ih =>
    intro l hl hb
    obtain ⟨l', c, rfl⟩ : ∃ l' c, l = l' ++ [c] := ⟨l.dropLast, l.getLast (by intro e; simp [e] at hl), (List.dropLast_concat_getLast _).symm⟩
    have := ih l' (by simpa using hl) hb.left
    have hc := hb c (by simp)
    rw [numOf_snoc, Int.pow_succ]
    omega
theorem pow256_le (n : Nat) (h : n ≤ 7) : (256 : Int) ^ n ≤ 72057594037927936 := by
  rcases (show n = 0 ∨ n = 1 ∨ n = 2 ∨ n = 3 ∨ n = 4 ∨ n = 5 ∨ n = 6 ∨ n = 7 by omega) with rfl | rfl | rfl | rfl | rfl | rfl | rfl | rfl <;> decide
theorem or_byte {x c : Int} (h0 : 0 ≤ x) (h1 : x < 72057594037927936) (c0 : 0 ≤ c) (c1 : c < 256) : bits .or .u64 (x * 256) c = x * 256 + c :=
  or_add _ _ 8 (by omega) (by omega) (by simp) c0 (by simpa using c1) (by decide)
theorem take_one {l : List Int} {k : Nat} (h : k < l.length) : l.take (k + 1) = l.take k ++ [l.getD k 0] := by
  rw [List.take_succ_eq_append_getElem h, List.getD_eq_getElem?_getD, List.getElem?_eq_getElem h]; rfl
theorem run_index_nv (c0 c1 c2 c3 c4 c5 c6 c7 : Int) (k : Nat) (hk : k < 8) (w : World) :
    (Instr.index 30 (.agg #[.int .u8 c0, .int .u8 c1, .int .u8 c2, .int .u8 c3, .int .u8 c4, .int .u8 c5, .int .u8 c6, .int .u8 c7]) (.int .i64 k)).run Try.prog w = .ok (.int .u8 ([c0, c1, c2, c3, c4, c5, c6, c7].getD k 0)) w := by
  rcases (show k = 0 ∨ k = 1 ∨ k = 2 ∨ k = 3 ∨ k = 4 ∨ k = 5 ∨ k = 6 ∨ k = 7 by omega) with rfl | rfl | rfl | rfl | rfl | rfl | rfl | rfl <;> kernel_rfl

set_option maxHeartbeats 400000 in
theorem number_any (l : List Int) (w : World) (h : IsN l) :
    Calls Try.prog 216 #[nv l] w fun e w' => e = .returned (.int .u64 (numOf l)) ∧ Below w.heap.size w w' := by
  have HL := h.1
  have HB := h.2
  obtain ⟨c0, c1, c2, c3, c4, c5, c6, c7, hl, _, _⟩ := h.cases
  have hnv : nv l = .agg #[.int .u8 c0, .int .u8 c1, .int .u8 c2, .int .u8 c3, .int .u8 c4, .int .u8 c5, .int .u8 c6, .int .u8 c7] := by rw [hl]; rfl
  have hix : ∀ k, k < 8 → ∀ w, (Instr.index 30 (.agg #[.int .u8 c0, .int .u8 c1, .int .u8 c2, .int .u8 c3, .int .u8 c4, .int .u8 c5, .int .u8 c6, .int .u8 c7]) (.int .i64 (k : Nat))).run Try.prog w = .ok (.int .u8 (l.getD k 0)) w := fun k hk w => by
    rw [hl]; exact run_index_nv c0 c1 c2 c3 c4 c5 c6 c7 k hk w
  rw [hnv]
  have HIX := Lib.hid hix
  have HL' := Lib.hid HL
  clear hix hl hnv HL h
  go_enter Try.func216, Try.ntmps216
  go_wp2
  go_loop [3, 5, 7] (fun a _ i => ∃ k : Nat, k ≤ 8 ∧ i = .int .i64 k ∧ a = .int .u64 (numOf (l.take k))) (fun _ _ i => 8 - (intOf i).toNat)
  case atStart => exact ⟨0, by omega, rfl, rfl⟩
  case round =>
    obtain ⟨k, hk, rfl, rfl⟩ := hrel
    by_cases hlt : k < 8
    · have hb := numOf_bd (l.take k) (HB.take k)
      have h2 := HB.getD k
      have hix := HIX.out k hlt
      have hs := numOf_snoc (l.take k) (l.getD k 0)
      rw [← take_one (by rw [HL'.out]; exact hlt)] at hs
      have h8 : numOf (l.take k) < 72057594037927936 := Int.lt_of_lt_of_le hb.2 (pow256_le _ (by rw [List.length_take]; omega))
      have h9 := or_byte hb.1 h8 h2.1 h2.2
      obtain ⟨hb0, _⟩ := hb
      generalize numOf (l.take k) = A at *
      generalize l.getD k 0 = c at *
      obtain ⟨_, _⟩ := h2
      have HS := Lib.hid hs
      clear hs
      go_wp2
      go_round
      case rel => exact ⟨k + 1, by omega, by go_num, by rw [HS.out]⟩
      case measure => simp [intOf]; omega
    · go_wp2
      go_ret
      obtain rfl : k = 8 := by omega
      exact ⟨by rw [List.take_of_length_le (by rw [HL'.out]; exact Nat.le_refl _)]; rfl, (Below.refl _ _).alloc (Nat.le_refl _) _⟩
end Go.Proofs.Ytilhceihelcdgaa
