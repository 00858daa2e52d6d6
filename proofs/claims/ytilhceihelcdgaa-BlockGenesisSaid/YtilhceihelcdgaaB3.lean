/-
  The reference's three small writers: a number, a name, a byte string behind what is there.
-/
import Derived.Test.YtilhceihelcdgaaU
import Derived.Test.YtilhceihelcdgaaB0
namespace Go.Proofs.Ytilhceihelcdgaa
open Go.RowKit

theorem wrap_u64_id {x : Int} (h0 : 0 ≤ x) (h1 : x ≤ 9223372036854775807) : IntKind.u64.wrap x = x := by
  have : IntKind.u64.wrap x = x % 18446744073709551616 := by simp [IntKind.wrap, IntKind.bits, IntKind.signed]
  rw [this]; omega
set_option maxHeartbeats 1000000 in
theorem rnum_any (l : List Int) (v : Value) (x n : Int) (w : World) (h : Bs w v l) (h0 : 0 ≤ x) (hx : x ≤ 9223372036854775807) (hn : 1 ≤ n) (hn8 : n ≤ 8) (hl : l.length ≤ 140737488355320) :
    Calls Try.prog 101 #[v, .int .i64 x, .int .i64 n] w fun e w' => ∃ v', e = .returned v' ∧ OwB w' w.heap.size v' (l ++ beB x n.toNat) ∧ Below w.heap.size w w' := by
  have HA := Lib.hid (rappendUint_any l v x n w h ⟨h0, by omega⟩ hn hn8 hl)
  have hw := wrap_u64_id h0 hx
  obtain ⟨a, cap, rfl, hnc, hcm, _, _, _, hc⟩ := id h.1
  clear hc h
  go_enter Try.func101, Try.ntmps101
  go_wp2_with (go_at_call 179; refine (HA.out).mono ?_; rintro e w1 ⟨v1, rfl, hO1, hB1⟩)
  go_ret
  exact ⟨_, rfl, hO1, hB1⟩
set_option maxHeartbeats 1000000 in
theorem rstr_any (l p : List Int) (v u : Value) (w : World) (h : Bs w v l) (k : Bs w u p) (hp : p.length ≤ 65535) (hl : l.length ≤ 1000000000) :
    Calls Try.prog 102 #[v, u] w fun e w' => ∃ v', e = .returned v' ∧ OwB w' w.heap.size v' (l ++ strB p) ∧ Below w.heap.size w w' := by
  have HA := Lib.hid (rappendBytes_any l p v u w h k hp hl)
  obtain ⟨a, cap, rfl, hnc, hcm, _, _, _, hc⟩ := id h.1
  obtain ⟨a', cap', rfl, hnc', hcm', _, _, _, hc'⟩ := id k.1
  clear hc h hc' k
  go_enter Try.func102, Try.ntmps102
  go_wp2_with (go_at_call 180; refine (HA.out).mono ?_; rintro e w1 ⟨v1, rfl, hO1, hB1⟩)
  go_ret
  exact ⟨_, rfl, hO1, hB1⟩
set_option maxHeartbeats 1000000 in
theorem rname_any (l x : List Int) (v : Value) (w : World) (h : Bs w v l) (hx : IsN x) (hl : l.length ≤ 140737488355300) :
    Calls Try.prog 110 #[v, nv x] w fun e w' => ∃ v', e = .returned v' ∧ OwB w' w.heap.size v' (l ++ x) ∧ Below w.heap.size w w' := by
  have HX := Lib.hid hx
  have HS := Lib.hid h
  obtain ⟨a, cap, rfl, hnc, hcm, _, _, _, hc⟩ := id h.1
  clear hc h hx
  go_enter Try.func110, Try.ntmps110
  go_wp2_with (refine wpList_box_any rfl _ (.tmp 1) rfl (bsv x).toArray rfl ?_; intro w1 hX1 hB1 hs1)
  have hS1 := Lib.hid (HS.out.below hB1)
  clear hs1
  go_region_law (first
    | (refine step_app_bs rfl (.tmp 5) (.tmp 6) rfl w1.heap.size _ [] rfl (OwB.empty w1 _ (by omega)).drew _ l rfl (hS1.out.1.below (below1 w1 (.cells #[] 5))).drew (by simp only [List.length_nil]; omega) (by simp) ?_; intro v4 w4 hO4 hg4; have hW4 := (OwB.empty w1 w1.heap.size (by omega)).drew.below_grown (((Below.refl w1.heap.size w1).alloc (by omega) (.cells #[] 5)).drew) (by simp) hg4; have hz4 := hW4.size; have hX4 := hX1.below hW4 hX1.lt)
    | (refine step_app_bs rfl (.tmp 7) (.tmp 8) rfl w1.heap.size _ _ rfl hO4 _ x rfl (by have := Sl.whole hX4 (by rw [HX.out.1]; omega); rw [HX.out.1] at this ⊢; exact this) (by have h8 := HX.out.1; simp only [List.nil_append]; omega) (by omega) ?_; intro v5 w5 hO5 hg5; have hW5 := hO4.below_grown hW4 (by omega) hg5))
  go_wp2
  go_ret
  exact ⟨_, rfl, hO5.base hB1.size, hB1.trans (hW5.mono hB1.size)⟩
end Go.Proofs.Ytilhceihelcdgaa
