/-
  The small calls of the sanity check: the texts of an empty payload, an empty record, an empty genesis; names of texts.
-/
import Derived.Test.YtilhceihelcdgaaB10
namespace Go.Proofs.Ytilhceihelcdgaa
open Go.RowKit

set_option maxHeartbeats 1000000 in
theorem textName_any (l : List Int) (v : Value) (w : World) (h : Bs w v l) : Calls Try.prog 37 #[v] w fun e w' => e = .returned (nv (hname l)) ∧ Below w.heap.size w w' := by
  have HS := Lib.hid (fun w h => sum_any l v w h)
  have H := Lib.hid h
  have HF := Lib.hid (hname_len l)
  obtain ⟨a, cap, rfl, _⟩ := h.1
  generalize hname l = f at *
  have hN0 := Blk.new w 30 (bsv zeroN).toArray
  clear h
  go_enter Try.func37, Try.ntmps37
  go_wp2_with (first
    | (go_at_call 97; refine (HS.out _ (by exact H.out.below (below1 w (.cells (bsv zeroN).toArray 30)))).mono ?_; rintro e w1 ⟨rfl, hB1⟩)
    | (refine wpList_store_name _ rfl (.tmp 2) (.tmp 4) rfl w.heap.size rfl _ rfl _ _ (hN0.below hB1 (by simp)) rfl HF.out ?_; intro w2 hN2 hg2))
  have hV1 := (below1 w (.cells (bsv zeroN).toArray 30)).trans (hB1.mono (by simp))
  exact ret_name rfl w.heap.size _ _ rfl rfl hN2 HF.out ⟨rfl, hV1.grown hg2 hV1.size (fun k hk => by injection hk; omega)⟩
set_option maxHeartbeats 1000000 in
theorem rtextName_any (l : List Int) (v : Value) (w : World) (h : Bs w v l) : Calls Try.prog 38 #[v] w fun e w' => e = .returned (nv (hname l)) ∧ Below w.heap.size w w' := by
  have HS := Lib.hid (fun w h => rsum_any l v w h)
  have H := Lib.hid h
  have HF := Lib.hid (hname_len l)
  obtain ⟨a, cap, rfl, _⟩ := h.1
  generalize hname l = f at *
  have hN0 := Blk.new w 30 (bsv zeroN).toArray
  clear h
  go_enter Try.func38, Try.ntmps38
  go_wp2_with (first
    | (go_at_call 98; refine (HS.out _ (by exact H.out.below (below1 w (.cells (bsv zeroN).toArray 30)))).mono ?_; rintro e w1 ⟨rfl, hB1⟩)
    | (refine wpList_store_name _ rfl (.tmp 2) (.tmp 4) rfl w.heap.size rfl _ rfl _ _ (hN0.below hB1 (by simp)) rfl HF.out ?_; intro w2 hN2 hg2))
  have hV1 := (below1 w (.cells (bsv zeroN).toArray 30)).trans (hB1.mono (by simp))
  exact ret_name rfl w.heap.size _ _ rfl rfl hN2 HF.out ⟨rfl, hV1.grown hg2 hV1.size (fun k hk => by injection hk; omega)⟩
set_option maxHeartbeats 1000000 in
theorem encodePayload_zero (w : World) : Calls Try.prog 41 #[.agg #[.slice none 0 0]] w fun e w' => ∃ v', e = .returned (.tuple #[v', .int .i64 0]) ∧ OwB w' w.heap.size v' [2, 0] ∧ Below w.heap.size w w' := by
  go_enter Try.func41, Try.ntmps41
  go_wp2
  go_loopw [4, 21] (fun v i wr => v = .slice (some ⟨w.heap.size + 1, 0, none⟩) 2 2 ∧ i = .int .i64 0 ∧ wr = (w.alloc (.cells #[.slice none 0 0] 49)).alloc (.cells #[.int .u8 2, .int .u8 0] 5)) (fun _ _ _ => 0)
  case atStart => exact ⟨rfl, rfl, rfl⟩
  case round =>
    obtain ⟨rfl, rfl, rfl⟩ := hrel
    go_wp2
    go_ret2
    exact ⟨_, rfl, (by have := OwB.lit (w.alloc (.cells #[.slice none 0 0] 49)) w.heap.size [2, 0] (by simp) (by simp); simp only [World.size_alloc] at this; exact this), (below1 _ _).alloc (by simp) _⟩
set_option maxHeartbeats 1000000 in
theorem validateGenesis_zero (w : World) : Calls Try.prog 112 #[.agg #[.int .i64 0, .int .i64 0, .slice none 0 0, .slice none 0 0, .slice none 0 0]] w fun e w' => e = .returned (.int .i64 1) ∧ Below w.heap.size w w' := by
  go_enter Try.func112, Try.ntmps112
  go_wp2
  go_quiet (fail)
  go_wp2
  go_ret
  exact ⟨rfl, below_drewN (below1 _ _) _⟩
set_option maxHeartbeats 1000000 in
theorem encodeGenesis_zero (w : World) : Calls Try.prog 49 #[.agg #[.int .i64 0, .int .i64 0, .slice none 0 0, .slice none 0 0, .slice none 0 0]] w fun e w' => e = .returned (.tuple #[.slice none 0 0, .int .i64 1]) ∧ Below w.heap.size w w' := by
  go_enter Try.func49, Try.ntmps49
  go_wp2_with (go_at_call 112; refine (validateGenesis_zero _).mono ?_; rintro e w1 ⟨rfl, hB1⟩)
  go_ret2
  exact ⟨rfl, (below1 w (.cells #[.int .i64 0, .int .i64 0, .slice none 0 0, .slice none 0 0, .slice none 0 0] 67)).trans (hB1.mono (by simp))⟩
set_option maxHeartbeats 1000000 in
theorem validators_zero (F : Value) (hF : ∃ f a b, F = .func f a b) (w : World) : Calls Try.prog 182 #[.int .i64 0, F] w fun e w' => e = .returned (.bool true) ∧ w = w' := by
  obtain ⟨f, a, b, rfl⟩ := hF
  go_enter Try.func182, Try.ntmps182
  go_wp2
  go_loop [7] (fun i => i = .int .i64 0) (fun _ => 0)
  case atStart => exact rfl
  case round =>
    obtain rfl := hrel
    go_wp2
    go_ret
    exact ⟨rfl, rfl⟩
set_option maxHeartbeats 1000000 in
theorem decodePayload_bad (l : List Int) (v : Value) (w : World) (h : Bs w v l) (hk : kindOf l ≠ 2) :
    Calls Try.prog 43 #[v] w fun e w' => e = .returned (.tuple #[.agg #[.slice none 0 0], .int .i64 4]) ∧ Below w.heap.size w w' := by
  have HO := Lib.hid (fun w h => open_bad l v 2 w h hk)
  have H := Lib.hid h
  obtain ⟨a, cap, rfl, hnc, hcm, _, _, _, hc⟩ := id h.1
  clear hc h hk
  have hZ0 := Blk.new w 49 #[.slice none 0 0]
  go_enter Try.func43, Try.ntmps43
  go_wp2_with (first
    | (go_at_call 103; refine (HO.out _ (by exact H.out.below (below1 w (.cells #[.slice none 0 0] 49)))).mono ?_; rintro e w1 ⟨P, rfl, hP, hC1, hB1⟩; have hZ1 := hZ0.below hB1 (by simp); have hV1 := (below1 w (.cells #[.slice none 0 0] 49)).trans (hB1.mono (by simp)); have hzp : w.heap.size < P := by simp at hP; omega)
    | (go_at_call 104; refine (cuint_bad P 1 _ hC1 (by omega) (by omega)).mono ?_; rintro e w2 ⟨rfl, hC2, hg2⟩; have hZ2 := hZ1.grown hg2 (fun e => by injection e; omega); have hV2 := hV1.grown hg2 hV1.size (fun k hk => by injection hk; omega)))
  have HC2 := Lib.hid hC2
  have HZ2 := Lib.hid hZ2
  have HV2 := Lib.hid hV2
  clear hC1 hC2 hZ0 hZ1 hZ2 hV1 hV2 hg2 hB1
  go_loopw [17] (fun i wr => i = .int .i64 0 ∧ wr = w2.alloc (.cells #[.slice none 0 0] 49)) (fun _ _ => 0)
  case atStart => exact ⟨rfl, rfl⟩
  case round =>
    obtain ⟨rfl, rfl⟩ := hrel
    have HC3 := Lib.hid (HC2.out.old (.cells #[.slice none 0 0] 49))
    have HZ3 := Lib.hid (HZ2.out.old (.cells #[.slice none 0 0] 49))
    have HV3 := Lib.hid (HV2.out.alloc HV2.out.size (.cells #[.slice none 0 0] 49))
    generalize w2.alloc (.cells #[.slice none 0 0] 49) = W at *
    have c0 := HZ3.out.cell 0
    have f0 := HZ3.out.free 0
    go_wp2_with (go_at_call 106; refine (cdone_bad P _ HC3.out).mono ?_; rintro e w4 ⟨rfl, q, rfl⟩)
    have hZ5 : Blk ((W.drewN q).setCell ⟨w.heap.size, 0, none⟩ (.slice none 0 0)) w.heap.size 49 [Value.slice none 0 0].toArray := Blk.set (w := W.drewN q) HZ3.out 0 (.slice none 0 0)
    refine ret_row2 rfl w.heap.size _ [.slice none 0 0] (.int .i64 4) 1 rfl rfl rfl rfl hZ5 (by kernel_rfl) (by kernel_rfl) ⟨rfl, ?_⟩
    exact (below_drewN HV3.out q).setCell (Nat.le_refl _) _
end Go.Proofs.Ytilhceihelcdgaa
