/-
  An empty record is encoded.
-/
import Derived.Test.YtilhceihelcdgaaB11
namespace Go.Proofs.Ytilhceihelcdgaa
open Go.RowKit

def zrec : List Value := [.int .u8 0, .int .u8 0, .int .u8 0, .int .u8 0, .int .u8 0, .int .u8 0, .int .u8 0, .int .u8 0, .slice none 0 0, .slice none 0 0, .int .i64 0]
set_option maxHeartbeats 1000000 in
theorem validRecord_zero (w : World) : Calls Try.prog 177 #[.agg zrec.toArray] w fun e w' => e = .returned (.bool true) ∧ Below w.heap.size w w' := by
  have hmf : ∀ (fn : Fn) (first cap : Array Value) (w : World), (Instr.makeFunc fn first cap).run Try.prog w = .ok (.func fn first cap) w := fun _ _ _ _ => rfl
  go_enter Try.func177, Try.ntmps177
  go_wp2_with (first
    | (refine wpList_box_any rfl _ (.tmp 0) rfl zrec.toArray rfl ?_; intro w1 hX1 hB1 hs1; have c8 := hX1.cell 8; have c9 := hX1.cell 9; have c10 := hX1.cell 10; simp [zrec] at c8 c9 c10)
    | (go_at_call 182; refine (validators_zero _ ⟨_, _, _, rfl⟩ _).mono ?_; rintro e w2 ⟨rfl, rfl⟩))
  go_loop [3] (fun i => i = .int .i64 1) (fun _ => 0)
  case atStart => exact rfl
  case round =>
    obtain rfl := hrel
    go_wp2
    go_ret
    exact ⟨rfl, hB1⟩
set_option maxHeartbeats 1000000 in
theorem appendNames_nil (l : List Int) (v : Value) (w : World) (h : Bs w v l) (hl : l.length ≤ 1000000) : Calls Try.prog 178 #[v, .slice none 0 0] w fun e w' => ∃ v', e = .returned (.tuple #[v', .bool true]) ∧ OwB w' w.heap.size v' (l ++ [0]) ∧ Below w.heap.size w w' := by
  have HA := Lib.hid (appendUint_any l v 0 1 w h ⟨by omega, by omega⟩ (by omega) (by omega) (by omega))
  obtain ⟨a, cap, rfl, hnc, hcm, _, _, _, hc⟩ := id h.1
  clear hc h
  go_enter Try.func178, Try.ntmps178
  go_wp2_with (go_at_call 94; refine HA.out.mono ?_; rintro e w1 ⟨v1, rfl, hO1, hB1⟩)
  go_loopw [6, 19] (fun v i wr => v = v1 ∧ i = .int .i64 0 ∧ wr = w1) (fun _ _ _ => 0)
  case atStart => exact ⟨rfl, rfl, rfl⟩
  case round =>
    obtain ⟨rfl, rfl, rfl⟩ := hrel
    go_wp2
    go_ret2
    exact ⟨_, rfl, by simpa [beB] using hO1, hB1⟩
set_option maxRecDepth 100000 in
set_option maxHeartbeats 2000000 in
theorem encodeRecord_zero (w : World) : Calls Try.prog 99 #[.agg zrec.toArray] w fun e w' => ∃ v', e = .returned (.tuple #[v', .int .i64 0]) ∧ OwB w' w.heap.size v' [4, 0, 0, 0, 0, 0, 0, 0, 0, 0, 0, 0, 0] ∧ Below w.heap.size w w' := by
  go_enter Try.func99, Try.ntmps99
  go_wp2_with (first
    | (refine wpList_box_any rfl _ (.tmp 0) rfl zrec.toArray rfl ?_; intro w1 hX1 hB1 hs1)
    | (refine wpList_load_all rfl _ (.tmp 1) rfl w.heap.size rfl _ zrec.toArray hX1 (by kernel_rfl) (by kernel_rfl) ?_)
    | (go_at_call 177; refine (validRecord_zero _).mono ?_; rintro e w2 ⟨rfl, hB2⟩; have hX2 := hX1.below hB2 hX1.lt; have hV2 := hB1.trans (hB2.mono hB1.size); have hz2 := hX2.lt)
    | (at_builtin; refine hold ?_))
  refine Lib.hid ?_
  have hO2 := OwB.lit w2 (w.heap.size + 1) [4] (by omega) (by simp)
  refine wpList_app_bs _ rfl (.tmp 10) (.tmp 12) rfl (w.heap.size + 1) _ [4] rfl hO2 _ zeroN rfl (Sl.part (hX2.old (.cells (bsv [4]).toArray 5)) 0 8 8 zeroN rfl (by omega) (by omega) (fun j hj => by
    have : j = 0 ∨ j = 1 ∨ j = 2 ∨ j = 3 ∨ j = 4 ∨ j = 5 ∨ j = 6 ∨ j = 7 := by omega
    rcases this with rfl | rfl | rfl | rfl | rfl | rfl | rfl | rfl <;> rfl)) (by simp [zeroN]) (by simp; omega) ?_
  intro v3 w3 hO3 hg3
  have hV3 := (hO2.base (Nat.le_succ _)).below_grown (hV2.alloc hV2.size _) (by simp; omega) hg3
  have hX3 := (hX2.old (.cells #[.int .u8 4] 5)).grown hg3 (hO2.ne (by omega))
  have hz3 := hX3.lt
  have HX3 := Lib.hid hX3
  have HO3 := Lib.hid hO3
  have HV3 := Lib.hid hV3
  clear hX1 hB1 hs1 hX2 hV2 hz2 hB2 hO2 hg3 hX3 hO3 hV3
  go_wp2_with fail
  have HB3 := Lib.hid (HO3.out.bs (by simp [zeroN]) (by intro x hx; simp [zeroN] at hx; omega))
  have SO : Hid (∀ w', Blk w' w.heap.size 143 zrec.toArray → w'.cell? ⟨w.heap.size, 8, none⟩ = some (.slice none 0 0) ∧ w'.cell? ⟨w.heap.size, 10, none⟩ = some (.int .i64 0)) := Lib.hid (fun w' h => ⟨h.cell 8, h.cell 10⟩)
  go_region_held3 (fun w' => w'.cell? ⟨w.heap.size, 8, none⟩ = some (.slice none 0 0) ∧ w'.cell? ⟨w.heap.size, 10, none⟩ = some (.int .i64 0))
    ((refine SO.out _ ?_; first | assumption | exact HX3.out.drew | exact (HX3.out.old _).drew | exact HX3.out.old _ | exact hX5.old _))
    (first
      | ((go_at_call 94; refine (appendUint_any ([4] ++ zeroN) _ 0 2 _ (by first | exact HB3.out.drew | exact (HB3.out.below (below1 _ _)).drew | exact HB3.out.below (below1 _ _)) ⟨by omega, by omega⟩ (by omega) (by omega) (by simp [zeroN])).mono ?_; rintro e w5 ⟨v5, rfl, hO5, hB5⟩; have hT5 : Below w3.heap.size w3 w5 := (by first | exact (Below.refl _ _).drew.trans hB5 | exact (below1 w3 _).drew.trans (hB5.mono (by simp))); have hX5 := HX3.out.below hT5 hz3; have hO6 := hO5.base (base' := w.heap.size + 1) (by first | (simp; omega) | omega); have hV5 := HV3.out.trans (hT5.mono HV3.out.size); have hz5 := hT5.size; (try have hS5 : Sl w5 (.slice (some ⟨w3.heap.size, 0, none⟩) 1 1) 1 1 (bsv [0]) := (Sl.one w3 0 5).drew.below hB5); clear hO5 hB5))
      | ((refine step_app_bs rfl (.tmp 18) (.tmp 23) rfl (w.heap.size + 1) _ _ rfl hO6 _ [0] rfl hS5 (by simp [zeroN, beB]) (by omega) ?_; intro v7 w7 hO7 hg7; have hV7 := (hO6.base (Nat.le_succ _)).below_grown hV5 (by omega) hg7; have hX7 := hX5.grown hg7 (hO6.ne (by omega)))
        )
      | ((refine step_app_bs rfl (.tmp 18) (.tmp 23) rfl (w.heap.size + 1) _ _ rfl (hO6.alloc _) _ [0] rfl (Sl.one _ _ _) (by simp [zeroN, beB]) (by simp; omega) ?_; intro v7 w7 hO7 hg7; have hV7 := ((hO6.base (Nat.le_succ _)).alloc (.cells #[.int .u8 0] 5)).below_grown (hV5.alloc (by omega) _) (by simp; omega) hg7; have hX7 := (hX5.old (.cells #[.int .u8 0] 5)).grown hg7 (hO6.ne (by omega)))))
  all_goals
    have hO8 : OwB w7 (w.heap.size + 1) v7 [4, 0, 0, 0, 0, 0, 0, 0, 0, 0, 0, 0] := by simpa [zeroN, beB] using hO7
    have HO8 := Lib.hid hO8
    have HX8 := Lib.hid hX7
    have HV8 := Lib.hid hV7
    have HB8 := Lib.hid (hO8.bs (by simp) (by intro x hx; simp at hx; omega))
    have HA := Lib.hid (appendNames_nil [4, 0, 0, 0, 0, 0, 0, 0, 0, 0, 0, 0] v7 w7 HB8.out (by simp))
    have c8 := hX7.cell 8
    have c9 := hX7.cell 9
    simp [zrec] at c8 c9
    clear hO7 hO8 hX7 hV7 hX5 hV5 hT5 hO6 HO3 HV3 HB3 HX3 SO
    go_wp2
    go_loopw [4, 28] (fun v i wr => v = v7 ∧ i = .int .i64 0 ∧ wr = w7) (fun _ _ _ => 0)
    case atStart => exact ⟨rfl, rfl, rfl⟩
    case round =>
      obtain ⟨rfl, rfl, rfl⟩ := hrel
      go_wp2_with (go_at_call 178; refine HA.out.mono ?_; rintro e w8 ⟨v8, rfl, hO9, hB9⟩)
      go_ret2
      exact ⟨_, rfl, hO9.base HV8.out.size, HV8.out.trans (hB9.mono HV8.out.size)⟩
end Go.Proofs.Ytilhceihelcdgaa
