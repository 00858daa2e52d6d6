/-
  The walk of the statement on blocks.
-/
import Derived.Test.YtilhceihelcdgaaB13
import Derived.Test.YtilhceihelcdgaaB5
namespace Go.Proofs.Ytilhceihelcdgaa
open Go.RowKit

theorem encB_byt {p : List Int} {L : List (Int × List Int)} (hp : IsN p) (hL : ∀ s ∈ L, ChOk s) (hok : BlkOk L) : Byt (encB p L) := by
  have h7 : L.length ≤ 7 := hok.2.1
  refine Byt.cons (by omega) (by omega) (hp.2.append (Byt.cons (by omega) (by omega) ?_))
  have := slots_byt (fun k hk => by have := hok.slot k hk; omega) hL L.length
  rwa [List.take_length] at this
theorem encB_kind (p : List Int) (L : List (Int × List Int)) : kindOf (encB p L) = 3 := by simp [kindOf, encB]
set_option maxRecDepth 100000 in
set_option maxHeartbeats 8000000 in
theorem blockBlock_yes (p : List Int) (L : List (Int × List Int)) (v : Value) (w : World) (hp : IsN p) (h : Cs w v L) (hok : BlkOk L) : Calls Try.prog 11 #[.agg (blv p v).toArray] w fun e w' => e = .returned (.bool true) ∧ Below w.heap.size w w' := by
  have H := Lib.hid h
  have E1 := Lib.hid (fun w h => encodeBlock_yes p L v w hp h hok)
  have E2 := Lib.hid (fun w h => rencodeBlock_yes p L v w hp h hok)
  have D1 := Lib.hid (fun t w h => decodeBlock_ok p L t w hp H.out.2 hok h)
  have S1 := Lib.hid (fun v1 w h1 h2 => rsameBlock_true p L v1 v w hp.1 h1 h2 (by have := hok.2.1; omega))
  have HBY := Lib.hid (encB_byt hp h.2 hok)
  have hlen := encB_len hp.1 h.2
  have HLE := Lib.hid (show (encB p L).length ≤ 1000 by have := hok.2.1; omega)
  have HKD := Lib.hid (encB_kind p L)
  have hl7 : L.length ≤ 7 := hok.2.1
  have HXS := Lib.hid (fun u => blv_size (p := p) (v := u) hp.1)
  obtain ⟨a, cap, rfl, hnc, hcm, _, hln, _, _⟩ := id h.1
  unfold maxLen at hcm
  have HX8 := Lib.hid (blv_at (p := p) (v := .slice a L.length cap) hp.1)
  generalize encB p L = T at *
  generalize hX : (blv p (.slice a L.length cap)).toArray = X at *
  have HXs := Lib.hid (show X.size = 9 by rw [← hX]; exact HXS.out _)
  clear h hp hok hlen hX
  go_enter Try.func11, Try.ntmps11
  go_wp2_with (first
    | (refine wpList_box_any rfl _ (.tmp 0) rfl X rfl ?_; intro w1 hX1 hB1 hs1; have c8 := hX1.cell 8; rw [HX8.out] at c8)
    | (refine wpList_load_all rfl _ (.tmp 1) rfl w.heap.size rfl _ X (by first | exact hX2 | exact hX1) un_block (by rw [HXs.out]; exact size_block) ?_)
    | (go_at_call 45; refine (E1.out _ (by exact H.out.below hB1)).mono ?_; rintro e w2 ⟨v1, rfl, hO1, hB2⟩; have hX2 := hX1.below hB2 hX1.lt; have hV2 := hB1.trans (hB2.mono hB1.size))
    | (go_at_call 46; refine (E2.out _ (by exact H.out.below hV2)).mono ?_; rintro e w3 ⟨v2, rfl, hO2, hB3⟩; have hX3 := hX2.below hB3 hX2.lt; have hV3 := hV2.trans (hB3.mono hV2.size))
    | (go_at_call 47; refine (D1.out _ _ ((hO1.bs (by have := HLE.out; omega) HBY.out).below hB3)).mono ?_; rintro e w4 ⟨v', rfl, hC4, hB4⟩; have hX4 := hX3.below hB4 hX3.lt; have hV4 := hV3.trans (hB4.mono hV3.size))
    | (refine wpList_store_new rfl _ (.tmp 7) (.tmp 27) rfl w4.heap.size rfl (blv p v') rfl 9 (by have := HXS.out v'; simpa using this) _ _ (Blk.new _ _ _) rfl size_block (blv_one p v' (by obtain ⟨_, _, rfl, _⟩ := hC4.1; rfl)) ?_; intro w5 hR5 hg5; refine hold ?_))
  refine Lib.hid ?_
  have hB5 := below_new hg5
  have hX5 := hX4.below hB5 hX4.lt
  have hV5 := hV4.trans (hB5.mono hV4.size)
  have b1 := (((hO1.bs (by have := HLE.out; omega) HBY.out).below hB3).below hB4).below hB5
  have b2 := ((hO2.bs (by have := HLE.out; omega) HBY.out).below hB4).below hB5
  have hC5 := hC4.below hB5
  have e1 := b1.str
  have e2 := b2.str
  have SB := Lib.hid (S1.out v' w5 hC5 (H.out.below hV5))
  have KD := Lib.hid (fun w' (hb : Below w5.heap.size w5 w') => kind_any T v1 w' (b1.below hb))
  rw [HKD.out] at KD
  obtain ⟨a1, k1, rfl, _⟩ := id b1.1
  obtain ⟨a2, k2, rfl, _⟩ := id b2.1
  have HV5 := Lib.hid hV5
  have HX5 := Lib.hid hX5
  have HR5 := Lib.hid hR5
  clear hX1 hB1 hs1 c8 hO1 hB2 hX2 hV2 hO2 hB3 hX3 hV3 hC4 hB4 hX4 hV4 hg5 hB5 hX5 hV5 b1 b2 hC5 hR5
  generalize strOfNums T = st at *
  go_wp2_with (first
    | (refine wpList_load_all rfl _ (.tmp 7) rfl w4.heap.size rfl _ (blv p v').toArray HR5.out un_block (by rw [HXS.out]; exact size_block) ?_)
    | (refine wpList_load_all rfl _ (.tmp 1) rfl w.heap.size rfl _ X HX5.out un_block (by rw [HXs.out]; exact size_block) ?_)
    | (go_at_call 48; refine SB.out.mono ?_; rintro e w6 ⟨rfl, hB6⟩)
    | (go_at_call 35; refine (KD.out _ hB6).mono ?_; rintro e w7 ⟨rfl, rfl⟩)
    | (go_at_call 39; refine (awake24 _).mono ?_; rintro e w8 ⟨rfl, hB8⟩))
  go_ret
  exact ⟨rfl, HV5.out.trans ((hB6.trans (hB8.mono hB6.size)).mono HV5.out.size)⟩
set_option maxRecDepth 100000 in
set_option maxHeartbeats 8000000 in
theorem blockBlock_no (p : List Int) (L : List (Int × List Int)) (v : Value) (w : World) (hp : IsN p) (h : Cs w v L) (hok : ¬ BlkOk L) : Calls Try.prog 11 #[.agg (blv p v).toArray] w fun e w' => e = .returned (.bool true) ∧ Below w.heap.size w w' := by
  have H := Lib.hid h
  have E1 := Lib.hid (fun w h => encodeBlock_no p L v w hp.1 h hok)
  have E2 := Lib.hid (fun w h => rencodeBlock_no p L v w hp.1 h hok)
  have hN : Hid (∀ w, Bs w (.slice none 0 0) []) := fun w => ⟨⟨none, 0, rfl, by simp, by unfold maxLen; omega, fun _ => rfl, by simp, by simp [bsv], fun h => absurd h (by simp)⟩, fun x hx => by simp at hx⟩
  have D1 := Lib.hid (fun w => decodeBlock_bad [] (.slice none 0 0) w (hN.out w) (by simp [kindOf]))
  have hXS := blv_size (p := p) (v := v) hp.1
  obtain ⟨a, cap, rfl, hnc, hcm, _, hln, _, _⟩ := id h.1
  unfold maxLen at hcm
  have HX8 := Lib.hid (blv_at (p := p) (v := .slice a L.length cap) hp.1)
  generalize hX : (blv p (.slice a L.length cap)).toArray = X at *
  have HXs := Lib.hid hXS
  have s0 := str_nil
  clear h hp hok hX hXS
  by_cases h300 : (L.length : Int) ≤ 300
  · have hd : decide ((300 : Int) < L.length) = false := decide_eq_false (by omega)
    go_enter Try.func11, Try.ntmps11
    go_wp2_with (first
      | (refine wpList_box_any rfl _ (.tmp 0) rfl X rfl ?_; intro w1 hX1 hB1 hs1; have c8 := hX1.cell 8; rw [HX8.out] at c8)
      | (refine wpList_load_all rfl _ (.tmp 1) rfl w.heap.size rfl _ X (by first | exact hX2 | exact hX1) un_block (by rw [HXs.out]; exact size_block) ?_)
      | (go_at_call 45; refine (E1.out _ (by exact H.out.below hB1)).mono ?_; rintro e w2 ⟨rfl, hB2⟩; have hX2 := hX1.below hB2 hX1.lt; have hV2 := hB1.trans (hB2.mono hB1.size))
      | (go_at_call 46; refine (E2.out _ (by exact H.out.below hV2)).mono ?_; rintro e w3 ⟨rfl, hB3⟩; have hV3 := hV2.trans (hB3.mono hV2.size))
      | (go_at_call 47; refine (D1.out _).mono ?_; rintro e w4 ⟨rfl, hB4⟩; have hV4 := hV3.trans (hB4.mono hV3.size))
      | (refine wpList_store_new rfl _ (.tmp 7) (.tmp 27) rfl w4.heap.size rfl zeroBlock rfl 9 rfl _ _ (Blk.new _ _ _) rfl size_block (blv_one _ _ rfl) ?_; intro w5 hR5 hg5; have hB5 := below_new hg5; have hV5 := hV4.trans (hB5.mono hV4.size))
      | (go_at_call 39; refine (awake24 _).mono ?_; rintro e w8 ⟨rfl, hB8⟩))
    go_ret
    exact ⟨rfl, hV5.trans (hB8.mono hV5.size)⟩
  · have hd : decide ((300 : Int) < L.length) = true := decide_eq_true (by omega)
    go_enter Try.func11, Try.ntmps11
    go_wp2_with (first
      | (refine wpList_box_any rfl _ (.tmp 0) rfl X rfl ?_; intro w1 hX1 hB1 hs1; have c8 := hX1.cell 8; rw [HX8.out] at c8)
      | (go_at_call 39; refine (awake24 _).mono ?_; rintro e w8 ⟨rfl, hB8⟩))
    go_ret
    exact ⟨rfl, hB1.trans (hB8.mono hB1.size)⟩
theorem blockBlock_walk (p : List Int) (L : List (Int × List Int)) (v : Value) (w : World) (hp : IsN p) (h : Cs w v L) : Calls Try.prog 11 #[.agg (blv p v).toArray] w fun e w' => e = .returned (.bool true) ∧ Below w.heap.size w w' := by
  by_cases hok : BlkOk L
  · exact blockBlock_yes p L v w hp h hok
  · exact blockBlock_no p L v w hp h hok
end Go.Proofs.Ytilhceihelcdgaa
