/-
  Contracts of the hash functions: hash.Of, the rotation, the mixing of the state, in the program and in the reference.
-/
import Derived.Test.YtilhceihelcdgaaP
import Derived.Deep.QuietTactic
import Derived.BigQuiet
import Derived.Deep.RegionHeld3
import Derived.StillTailTactics
namespace Go.Proofs.Ytilhceihelcdgaa
open Go.RowKit

theorem of_any (x : Int) (w : World) (h : U64 x) :
    Calls Try.prog 174 #[.int .u64 x] w fun e w' => e = .returned (nv (ofU x)) ∧ Below w.heap.size w w' := by
  obtain ⟨h0, h1⟩ := h
  go_enter Try.func174, Try.ntmps174
  go_wp2
  exact ret_name rfl w.heap.size _ (ofU x) rfl rfl (Blk.new _ _ _) rfl ⟨rfl, (Below.refl _ _).alloc (Nat.le_refl _) _⟩
theorem rof_any (x : Int) (w : World) (h : U64 x) :
    Calls Try.prog 161 #[.int .u64 x] w fun e w' => e = .returned (nv (ofU x)) ∧ Below w.heap.size w w' := by
  obtain ⟨h0, h1⟩ := h
  go_enter Try.func161, Try.ntmps161
  go_wp2
  exact ret_name rfl w.heap.size _ (ofU x) rfl rfl (Blk.new _ _ _) rfl ⟨rfl, (Below.refl _ _).alloc (Nat.le_refl _) _⟩
theorem rot13_any (x : Int) (w : World) (_h0 : 0 ≤ x) (_h1 : x < 18446744073709551616) :
    Calls Try.prog 217 #[.int .u64 x, .int .i64 13] w fun e w' => e = .returned (.int .u64 (rot13 x)) ∧ w = w' := by
  have hb : bits BinOp.and IntKind.u64 13 63 = 13 := by decide
  go_enter Try.func217, Try.ntmps217
  go_wp2
  go_ret
  exact ⟨rfl, rfl⟩
theorem rot32_any (x : Int) (w : World) (_h0 : 0 ≤ x) (_h1 : x < 18446744073709551616) :
    Calls Try.prog 217 #[.int .u64 x, .int .i64 32] w fun e w' => e = .returned (.int .u64 (rot32 x)) ∧ w = w' := by
  have hb : bits BinOp.and IntKind.u64 32 63 = 32 := by decide
  go_enter Try.func217, Try.ntmps217
  go_wp2
  go_ret
  exact ⟨rfl, rfl⟩
theorem rmix_any (x y : Int) (w : World) (_h0 : 0 ≤ x) (_h1 : x < 18446744073709551616) (_h2 : 0 ≤ y) (_h3 : y < 18446744073709551616) :
    Calls Try.prog 176 #[.int .u64 x, .int .u64 y] w fun e w' => e = .returned (.tuple #[.int .u64 (mixX x y), .int .u64 (mixY x y)]) ∧ w = w' := by
  go_enter Try.func176, Try.ntmps176
  go_wp2
  go_ret2
  exact ⟨rfl, rfl⟩

set_option maxHeartbeats 400000 in
/-- One round of the mixing. -/
theorem mix_any (B n : Nat) (x y : Int) (w : World) (hn : n ≤ 4) (hx : U64 x) (hy : U64 y) (hb : Blk w B 205 #[.int .u64 x, .int .u64 y]) :
    Calls Try.prog 173 #[.pointer (some ⟨B, 0, none⟩), .int .i64 n] w fun e w' => e = .returned (.tuple #[]) ∧ Blk w' B 205 #[.int .u64 (mixN n x y).1, .int .u64 (mixN n x y).2] ∧ w.grownBy w' (some B) := by
  go_enter Try.func173, Try.ntmps173
  go_wp2
  go_loopw [5] (fun i wr => ∃ k : Nat, k ≤ n ∧ i = .int .i64 k ∧ Blk wr B 205 #[.int .u64 (mixN k x y).1, .int .u64 (mixN k x y).2] ∧ w.grownBy wr (some B))
    (fun i _ => n - (intOf i).toNat)
  case atStart => exact ⟨0, Nat.zero_le _, rfl, hb, grown_refl _ _⟩
  case round =>
    obtain ⟨k, hk, rfl, hB, hg⟩ := hrel
    obtain ⟨hX, hY⟩ := mixN_u64 k x y hx hy
    have hs := mixN_succ k x y
    generalize hX' : (mixN k x y).1 = X at *
    generalize hY' : (mixN k x y).2 = Y at *
    have HX' := Lib.hid hX'
    have HY' := Lib.hid hY'
    clear hX' hY'
    obtain ⟨_, _⟩ := hX
    obtain ⟨_, _⟩ := hY
    have c0 := hB.cell 0
    have c1 := hB.cell 1
    have f0 := hB.free 0
    have f1 := hB.free 1
    simp at c0 c1
    have HS := Lib.hid hs
    clear hs
    go_wp2
    · go_region
      have hB2 := (hB.set 0 (.int .u64 (IntKind.u64.wrap (X + Y)))).drew
      have hg2 := grown_drew (grown_set hg 0 (.int .u64 (IntKind.u64.wrap (X + Y))))
      generalize (wr.setCell ⟨B, 0, none⟩ (.int .u64 (IntKind.u64.wrap (X + Y)))).drew = w2 at *
      obtain ⟨_, _⟩ := wrap_u64 (X + Y)
      generalize hX1 : IntKind.u64.wrap (X + Y) = X1 at *
      have HX := Lib.hid hX1
      clear hX1
      clear c0 c1 f0 f1
      have c0 := hB2.cell 0
      have c1 := hB2.cell 1
      have f0 := hB2.free 0
      have f1 := hB2.free 1
      simp at c0 c1
      go_wp2
      go_region_with (go_at_call 217; refine (rot13_any _ _ (by omega) (by omega)).mono ?_; rintro e w' ⟨rfl, rfl⟩)
      all_goals
        have hB3 := (hB2.set 1 (.int .u64 (bits .xor .u64 (rot13 Y) X1))).drew
        have hg3 := grown_drew (grown_set hg2 1 (.int .u64 (bits .xor .u64 (rot13 Y) X1)))
        generalize (w2.setCell ⟨B, 1, none⟩ (.int .u64 (bits .xor .u64 (rot13 Y) X1))).drew = w3 at *
        clear c0 c1 f0 f1
        have c0 := hB3.cell 0
        have f0 := hB3.free 0
        simp at c0
        go_wp2_with (go_at_call 217; refine (rot32_any _ _ (by omega) (by omega)).mono ?_; rintro e w' ⟨rfl, rfl⟩)
        go_roundw
        case rel =>
          refine ⟨k + 1, by omega, by go_num, ?_, grown_set hg3 _ _⟩
          rw [HS.out]
          have := hB3.set 0 (.int .u64 (IntKind.u64.wrap (rot32 X1 * 11400714819323198485)))
          rw [← HX.out] at this ⊢
          exact this
        case measure => simp [intOf]; omega
    · go_end0
      obtain rfl : k = n := by omega
      rw [HX'.out, HY'.out]
      exact ⟨rfl, hB, hg⟩
end Go.Proofs.Ytilhceihelcdgaa
