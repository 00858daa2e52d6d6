/-
  A block is encoded by the reference; both answers where the block is not valid.
-/
import Derived.Test.YtilhceihelcdgaaB4
import Derived.Deep.RegionHeld3
namespace Go.Proofs.Ytilhceihelcdgaa
open Go.RowKit

set_option maxHeartbeats 2000000 in
theorem encodeBlock_no (p : List Int) (L : List (Int × List Int)) (v : Value) (w : World) (hp : p.length = 8) (h : Cs w v L) (hok : ¬ BlkOk L) :
    Calls Try.prog 45 #[.agg (blv p v).toArray] w fun e w' => e = .returned (.tuple #[.slice none 0 0, .int .i64 1]) ∧ Below w.heap.size w w' := by
  have HV := Lib.hid (fun w h => validBlock_any p L v w hp h)
  rw [decide_eq_false hok] at HV
  have HXS := Lib.hid (blv_size (p := p) (v := v) hp)
  have H := Lib.hid h
  generalize (blv p v).toArray = X at *
  clear h hok hp
  go_enter Try.func45, Try.ntmps45
  go_wp2_with (first
    | (refine wpList_box_any rfl _ (.tmp 0) rfl X rfl ?_; intro w1 hX1 hB1 hs1)
    | (refine wpList_load_all rfl _ (.tmp 1) rfl w.heap.size rfl _ X hX1 un_block (by rw [HXS.out]; exact size_block) ?_)
    | (go_at_call 108; refine (HV.out _ (by exact H.out.below hB1)).mono ?_; rintro e w2 ⟨rfl, hB2⟩; have hV2 := hB1.trans (hB2.mono hB1.size)))
  go_ret2
  exact ⟨rfl, hV2⟩
set_option maxHeartbeats 2000000 in
theorem rencodeBlock_no (p : List Int) (L : List (Int × List Int)) (v : Value) (w : World) (hp : p.length = 8) (h : Cs w v L) (hok : ¬ BlkOk L) :
    Calls Try.prog 46 #[.agg (blv p v).toArray] w fun e w' => e = .returned (.tuple #[.slice none 0 0, .int .i64 1]) ∧ Below w.heap.size w w' := by
  have HV := Lib.hid (fun w h => rvalidBlock_any p L v w hp h)
  rw [decide_eq_false hok] at HV
  have HXS := Lib.hid (blv_size (p := p) (v := v) hp)
  have H := Lib.hid h
  generalize (blv p v).toArray = X at *
  clear h hok hp
  go_enter Try.func46, Try.ntmps46
  go_wp2_with (first
    | (refine wpList_box_any rfl _ (.tmp 0) rfl X rfl ?_; intro w1 hX1 hB1 hs1)
    | (refine wpList_load_all rfl _ (.tmp 1) rfl w.heap.size rfl _ X hX1 un_block (by rw [HXS.out]; exact size_block) ?_)
    | (go_at_call 109; refine (HV.out _ (by exact H.out.below hB1)).mono ?_; rintro e w2 ⟨rfl, hB2⟩; have hV2 := hB1.trans (hB2.mono hB1.size)))
  go_ret2
  exact ⟨rfl, hV2⟩
theorem beB_one {x : Int} (h0 : 0 ≤ x) (h1 : x < 256) : beB x 1 = [x] := by
  simp [beB]; omega
theorem slots_byt {L : List (Int × List Int)} (h : ∀ k (hk : k < L.length), 0 ≤ L[k].1 ∧ L[k].1 < 256) (ho : ∀ s ∈ L, ChOk s) (k : Nat) : Byt ((L.take k).flatMap slotB) := by
  intro y hy
  obtain ⟨s, hs, hy⟩ := List.mem_flatMap.1 hy
  have hs' := List.mem_of_mem_take hs
  obtain ⟨i, hi, rfl⟩ := List.mem_iff_getElem.1 hs'
  simp only [slotB, List.mem_cons] at hy
  rcases hy with rfl | hy
  · exact h i hi
  · exact (ho _ hs').1.2 y hy
set_option maxRecDepth 100000 in
set_option maxHeartbeats 4000000 in
theorem rencodeBlock_yes (p : List Int) (L : List (Int × List Int)) (v : Value) (w : World) (hp : IsN p) (h : Cs w v L) (hok : BlkOk L) :
    Calls Try.prog 46 #[.agg (blv p v).toArray] w fun e w' => ∃ v', e = .returned (.tuple #[v', .int .i64 0]) ∧ OwB w' w.heap.size v' (encB p L) ∧ Below w.heap.size w w' := by
  obtain ⟨a, cap, rfl, hnc, hcm, _, hln, _, hc⟩ := id h.1
  unfold maxLen at hcm
  obtain ⟨b, o, rfl, hcc⟩ := hc (by have := hok.1; omega)
  have HV := Lib.hid (fun w h => rvalidBlock_any p L (.slice (some ⟨b, o, none⟩) L.length cap) w hp.1 h)
  rw [decide_eq_true hok] at HV
  have hX8 := blv_at (p := p) (v := .slice (some ⟨b, o, none⟩) L.length cap) hp.1
  have HXB := Lib.hid (blv_byte (p := p) (v := .slice (some ⟨b, o, none⟩) L.length cap) hp.1)
  have HXS := Lib.hid (blv_size (p := p) (v := .slice (some ⟨b, o, none⟩) L.length cap) hp.1)
  have H := Lib.hid h
  have HO := Lib.hid hok
  have HP := Lib.hid hp
  have hl7 : L.length ≤ 7 := hok.2.1
  have hl1 : 1 ≤ L.length := hok.1
  generalize hX : (blv p (.slice (some ⟨b, o, none⟩) L.length cap)).toArray = X at *
  obtain ⟨p0, p1, p2, p3, p4, p5, p6, p7, rfl, _⟩ := hp.cases
  clear hc hcc h hok hp hX
  have HX8 := Lib.hid hX8
  clear hX8
  have SO : Hid (∀ w', Blk w' w.heap.size 59 X → (w'.cell? ⟨w.heap.size, 0, none⟩ = some (.int .u8 p0) ∧ w'.cell? ⟨w.heap.size, 1, none⟩ = some (.int .u8 p1) ∧ w'.cell? ⟨w.heap.size, 2, none⟩ = some (.int .u8 p2) ∧ w'.cell? ⟨w.heap.size, 3, none⟩ = some (.int .u8 p3) ∧ w'.cell? ⟨w.heap.size, 4, none⟩ = some (.int .u8 p4) ∧ w'.cell? ⟨w.heap.size, 5, none⟩ = some (.int .u8 p5) ∧ w'.cell? ⟨w.heap.size, 6, none⟩ = some (.int .u8 p6) ∧ w'.cell? ⟨w.heap.size, 7, none⟩ = some (.int .u8 p7)) ∧ w'.cell? ⟨w.heap.size, 8, none⟩ = some (.slice (some ⟨b, o, none⟩) L.length cap)) := fun w' h => ⟨⟨(h.cell 0).trans (HXB.out 0 (by omega)), (h.cell 1).trans (HXB.out 1 (by omega)), (h.cell 2).trans (HXB.out 2 (by omega)), (h.cell 3).trans (HXB.out 3 (by omega)), (h.cell 4).trans (HXB.out 4 (by omega)), (h.cell 5).trans (HXB.out 5 (by omega)), (h.cell 6).trans (HXB.out 6 (by omega)), (h.cell 7).trans (HXB.out 7 (by omega))⟩, (h.cell 8).trans HX8.out⟩
  go_enter Try.func46, Try.ntmps46
  go_wp2_with (first
    | (refine wpList_box_any rfl _ (.tmp 0) rfl X rfl ?_; intro w1 hX1 hB1 hs1)
    | (refine wpList_load_all rfl _ (.tmp 1) rfl w.heap.size rfl _ X hX1 un_block (by rw [HXS.out]; exact size_block) ?_)
    | (go_at_call 109; refine (HV.out _ (by exact H.out.below hB1)).mono ?_; rintro e w2 ⟨rfl, hB2⟩; have hX2 := Lib.hid (hX1.below hB2 hX1.lt); have hV2 := Lib.hid (hB1.trans (hB2.mono hB1.size)); have hz2 := hX2.out.lt))
  clear hX1 hB1 hB2 hs1
  have HI2 : Hid (∀ w', Below w2.heap.size w2 w' → Blk w' w.heap.size 59 X) := fun w' h => hX2.out.below h hX2.out.lt
  have hL2 := Lib.hid ((OwB.lit w2 (w.heap.size + 1) [3] (by omega) (by simp)).bs (by simp) (by intro x hx; simp at hx; omega))
  have HBY : Hid (Byt ([3] ++ [p0, p1, p2, p3, p4, p5, p6, p7])) := Lib.hid (Byt.append (by intro x hx; simp at hx; omega) HP.out.2)
  go_region_held3 (fun w' => (w'.cell? ⟨w.heap.size, 0, none⟩ = some (.int .u8 p0) ∧ w'.cell? ⟨w.heap.size, 1, none⟩ = some (.int .u8 p1) ∧ w'.cell? ⟨w.heap.size, 2, none⟩ = some (.int .u8 p2) ∧ w'.cell? ⟨w.heap.size, 3, none⟩ = some (.int .u8 p3) ∧ w'.cell? ⟨w.heap.size, 4, none⟩ = some (.int .u8 p4) ∧ w'.cell? ⟨w.heap.size, 5, none⟩ = some (.int .u8 p5) ∧ w'.cell? ⟨w.heap.size, 6, none⟩ = some (.int .u8 p6) ∧ w'.cell? ⟨w.heap.size, 7, none⟩ = some (.int .u8 p7)) ∧ w'.cell? ⟨w.heap.size, 8, none⟩ = some (.slice (some ⟨b, o, none⟩) L.length cap))
    ((refine SO.out _ (HI2.out _ ?_); first | assumption | exact (Below.refl _ _).drew | exact (below1 _ _) | exact (below1 _ _).drew))
    (first
      | ((go_at_call 110; refine (rname_any [3] [p0, p1, p2, p3, p4, p5, p6, p7] _ _ (by exact hL2.out.drew) HP.out (by simp)).mono ?_; rintro e w3 ⟨v3, rfl, hO3, hB3⟩; have hT3 : Below w2.heap.size w2 w3 := (below1 w2 _).drew.trans (hB3.mono (by simp)); have HO3 := Lib.hid hO3; clear hO3 hB3))
      | ((go_at_call 101; refine (rnum_any _ _ (L.length : Int) 1 _ (HO3.out.bs (by simp) (by exact HBY.out)) (by omega) (by omega) (by omega) (by omega) (by simp)).mono ?_; rintro e w4 ⟨v4, rfl, hO4, hB4⟩; have hT4 : Below w2.heap.size w2 w4 := hT3.trans (hB4.mono hT3.size); have HO4 := Lib.hid hO4; clear hO4 hB4)))
  have hX4 := hX2.out.below hT4 hX2.out.lt
  have hV4 := hV2.out.trans (hT4.mono hV2.out.size)
  have hO4 : OwB w4 (w.heap.size + 1) v4 ([3] ++ [p0, p1, p2, p3, p4, p5, p6, p7] ++ [(L.length : Int)]) := by
    have := HO4.out.base (base' := w.heap.size + 1) (by have := hT3.size; omega)
    rwa [show Int.toNat 1 = 1 from rfl, beB_one (by omega) (by omega)] at this
  have HO4' := Lib.hid hO4
  have HX4 := Lib.hid hX4
  have HV4 := Lib.hid hV4
  clear SO HI2 hX2 hV2 hT3 hT4 HO4 hO4 hX4 hV4 HV hL2 hz2
  go_wp2
  go_loopw [4, 5] (fun v i wr => ∃ k : Nat, k ≤ L.length ∧ i = .int .i64 k ∧ OwB wr (w.heap.size + 1) v ([3] ++ [p0, p1, p2, p3, p4, p5, p6, p7] ++ [(L.length : Int)] ++ (L.take k).flatMap slotB) ∧ Blk wr w.heap.size 59 X ∧ Below w.heap.size w wr) (fun _ i _ => L.length - (intOf i).toNat)
  case atStart => exact ⟨0, Nat.zero_le _, rfl, by simpa using HO4'.out, HX4.out, HV4.out⟩
  case round =>
    obtain ⟨k, hk, rfl, hO, hX, hV⟩ := hrel
    have HVr := Lib.hid hV
    have HOr := Lib.hid hO
    have HXr := Lib.hid hX
    have c8 := hX.cell 8
    rw [HX8.out] at c8
    clear hV hO hX
    by_cases hlt : k < L.length
    · have hkl : (k : Int) < (L.length : Int) := by omega
      have hs := HO.out.slot k hlt
      have hsn := (H.out.2 _ (List.getElem_mem hlt)).1
      have htk : Hid ((L.take (k + 1)).flatMap slotB = (L.take k).flatMap slotB ++ ([L[k].1] ++ L[k].2)) := Lib.hid (by rw [List.take_succ_eq_append_getElem hlt, List.flatMap_append]; simp [slotB])
      have HCL := Lib.hid (fun (w' : World) (hw : Below w.heap.size w w') j (hj : j < 9) => ((H.out.below hw).cell k j hlt hj))
      have hlk : ((L.take k).flatMap slotB).length ≤ 63 := by rw [slots_len (fun s hs => H.out.2 s (List.mem_of_mem_take hs)), List.length_take]; omega
      have HBY2 : Hid (Byt ([3] ++ [p0, p1, p2, p3, p4, p5, p6, p7] ++ [(L.length : Int)] ++ (L.take k).flatMap slotB)) := Lib.hid (((Byt.append (by intro x hx; simp at hx; omega) HP.out.2).append (by intro x hx; simp at hx; omega)).append (slots_byt (fun k hk => by have := HO.out.slot k hk; omega) (fun s hs => H.out.2 s hs) k))
      generalize L[k] = sk at *
      obtain ⟨x, n⟩ := sk
      simp only at hs hsn htk
      obtain ⟨n0, n1, n2, n3, n4, n5, n6, n7, rfl, _⟩ := hsn.cases
      have HN := Lib.hid hsn
      clear hsn
      have SO : Hid (∀ w', Below w.heap.size w w' → Blk w' w.heap.size 59 X → (w'.cell? ⟨b, o + k * 9 + 1, none⟩ = some (.int .u8 n0) ∧ w'.cell? ⟨b, o + k * 9 + 1 + 1, none⟩ = some (.int .u8 n1) ∧ w'.cell? ⟨b, o + k * 9 + 1 + 2, none⟩ = some (.int .u8 n2) ∧ w'.cell? ⟨b, o + k * 9 + 1 + 3, none⟩ = some (.int .u8 n3) ∧ w'.cell? ⟨b, o + k * 9 + 1 + 4, none⟩ = some (.int .u8 n4) ∧ w'.cell? ⟨b, o + k * 9 + 1 + 5, none⟩ = some (.int .u8 n5) ∧ w'.cell? ⟨b, o + k * 9 + 1 + 6, none⟩ = some (.int .u8 n6) ∧ w'.cell? ⟨b, o + k * 9 + 1 + 7, none⟩ = some (.int .u8 n7)) ∧ w'.cell? ⟨b, o + k * 9, none⟩ = some (.int .i64 x) ∧ w'.cell? ⟨w.heap.size, 8, none⟩ = some (.slice (some ⟨b, o, none⟩) L.length cap)) := fun w' h hX => ⟨⟨HCL.out w' h 1 (by omega), HCL.out w' h 2 (by omega), HCL.out w' h 3 (by omega), HCL.out w' h 4 (by omega), HCL.out w' h 5 (by omega), HCL.out w' h 6 (by omega), HCL.out w' h 7 (by omega), HCL.out w' h 8 (by omega)⟩, HCL.out w' h 0 (by omega), (hX.cell 8).trans HX8.out⟩
      have SO2 : Hid (∀ w', Below wr.heap.size wr w' → (w'.cell? ⟨b, o + k * 9 + 1, none⟩ = some (.int .u8 n0) ∧ w'.cell? ⟨b, o + k * 9 + 1 + 1, none⟩ = some (.int .u8 n1) ∧ w'.cell? ⟨b, o + k * 9 + 1 + 2, none⟩ = some (.int .u8 n2) ∧ w'.cell? ⟨b, o + k * 9 + 1 + 3, none⟩ = some (.int .u8 n3) ∧ w'.cell? ⟨b, o + k * 9 + 1 + 4, none⟩ = some (.int .u8 n4) ∧ w'.cell? ⟨b, o + k * 9 + 1 + 5, none⟩ = some (.int .u8 n5) ∧ w'.cell? ⟨b, o + k * 9 + 1 + 6, none⟩ = some (.int .u8 n6) ∧ w'.cell? ⟨b, o + k * 9 + 1 + 7, none⟩ = some (.int .u8 n7)) ∧ w'.cell? ⟨b, o + k * 9, none⟩ = some (.int .i64 x) ∧ w'.cell? ⟨w.heap.size, 8, none⟩ = some (.slice (some ⟨b, o, none⟩) L.length cap)) := fun w' h => SO.out w' (HVr.out.trans (h.mono HVr.out.size)) (HXr.out.below h HXr.out.lt)
      have hzr := HXr.out.lt
      clear SO
      go_wp2_with fail
      go_region_held3 (fun w' => (w'.cell? ⟨b, o + k * 9 + 1, none⟩ = some (.int .u8 n0) ∧ w'.cell? ⟨b, o + k * 9 + 1 + 1, none⟩ = some (.int .u8 n1) ∧ w'.cell? ⟨b, o + k * 9 + 1 + 2, none⟩ = some (.int .u8 n2) ∧ w'.cell? ⟨b, o + k * 9 + 1 + 3, none⟩ = some (.int .u8 n3) ∧ w'.cell? ⟨b, o + k * 9 + 1 + 4, none⟩ = some (.int .u8 n4) ∧ w'.cell? ⟨b, o + k * 9 + 1 + 5, none⟩ = some (.int .u8 n5) ∧ w'.cell? ⟨b, o + k * 9 + 1 + 6, none⟩ = some (.int .u8 n6) ∧ w'.cell? ⟨b, o + k * 9 + 1 + 7, none⟩ = some (.int .u8 n7)) ∧ w'.cell? ⟨b, o + k * 9, none⟩ = some (.int .i64 x) ∧ w'.cell? ⟨w.heap.size, 8, none⟩ = some (.slice (some ⟨b, o, none⟩) L.length cap))
        ((refine SO2.out _ ?_; first | assumption | exact (Below.refl _ _).drew))
        (first
          | ((go_at_call 101; refine (rnum_any _ _ x 1 _ (HOr.out.bs (by simp only [List.length_append, List.length_cons, List.length_nil]; omega) (by exact HBY2.out)).drew (by omega) (by omega) (by omega) (by omega) (by simp only [List.length_append, List.length_cons, List.length_nil]; omega)).mono ?_; rintro e w5 ⟨v5, rfl, hO5, hB5⟩; have hT5 : Below wr.heap.size wr w5 := (Below.refl _ _).drew.trans hB5; have HO5 := Lib.hid hO5; clear hO5 hB5))
          | ((go_at_call 110; refine (rname_any _ [n0, n1, n2, n3, n4, n5, n6, n7] _ _ (HO5.out.bs (by simp only [List.length_append, List.length_cons, List.length_nil, beB_len]; omega) (Byt.append HBY2.out (beB_byt _ _))) HN.out (by simp only [List.length_append, List.length_cons, List.length_nil, beB_len]; omega)).mono ?_; rintro e w6 ⟨v6, rfl, hO6, hB6⟩; have hT6 : Below wr.heap.size wr w6 := hT5.trans (hB6.mono hT5.size); have HO6 := Lib.hid hO6; clear hO6 hB6)))
      have HO7 : Hid (OwB w6 (w.heap.size + 1) v6 ([3] ++ [p0, p1, p2, p3, p4, p5, p6, p7] ++ [(L.length : Int)] ++ (L.take (k + 1)).flatMap slotB)) := Lib.hid (by
        have := HO6.out.base (base' := w.heap.size + 1) (by have := hT5.size; omega)
        rw [show Int.toNat 1 = 1 from rfl, beB_one (by omega) (by omega)] at this
        rw [htk.out]
        simpa only [List.append_assoc] using this)
      have HX7 := Lib.hid (HXr.out.below hT6 HXr.out.lt)
      have HV7 := Lib.hid (HVr.out.trans (hT6.mono HVr.out.size))
      clear HO6 HO5 hT5 hT6 SO2
      go_wp2
      go_roundw
      case rel => exact ⟨k + 1, by omega, by go_num, HO7.out, HX7.out, HV7.out⟩
      case measure => simp [intOf]; omega
    · obtain rfl : k = L.length := by omega
      have hd : decide ((L.length : Int) < (L.length : Int)) = false := by simp
      go_wp2
      go_ret2
      refine ⟨_, rfl, ?_, HVr.out⟩
      have := HOr.out.base (Nat.le_succ _)
      rw [List.take_length] at this
      simpa [encB, List.append_assoc] using this
end Go.Proofs.Ytilhceihelcdgaa
