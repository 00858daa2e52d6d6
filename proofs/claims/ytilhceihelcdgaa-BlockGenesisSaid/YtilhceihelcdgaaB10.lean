/-
  The reference says of two blocks with one content that they are the same.
-/
import Derived.Test.YtilhceihelcdgaaB9
namespace Go.Proofs.Ytilhceihelcdgaa
open Go.RowKit

theorem Cs.cells {w : World} {b o cap : Nat} {L : List (Int × List Int)} (h : Cs w (.slice (some ⟨b, o, none⟩) L.length cap) L) (k : Nat) (hk : k < L.length) (x n0 n1 n2 n3 n4 n5 n6 n7 : Int) (he : L[k] = (x, [n0, n1, n2, n3, n4, n5, n6, n7])) :
    (w.cell? ⟨b, o + k * 9, none⟩ = some (.int .i64 x) ∧ w.cell? ⟨b, o + k * 9 + 1, none⟩ = some (.int .u8 n0) ∧ w.cell? ⟨b, o + k * 9 + 2, none⟩ = some (.int .u8 n1) ∧ w.cell? ⟨b, o + k * 9 + 3, none⟩ = some (.int .u8 n2) ∧ w.cell? ⟨b, o + k * 9 + 4, none⟩ = some (.int .u8 n3)) ∧
    (w.cell? ⟨b, o + k * 9 + 5, none⟩ = some (.int .u8 n4) ∧ w.cell? ⟨b, o + k * 9 + 6, none⟩ = some (.int .u8 n5) ∧ w.cell? ⟨b, o + k * 9 + 7, none⟩ = some (.int .u8 n6) ∧ w.cell? ⟨b, o + k * 9 + 8, none⟩ = some (.int .u8 n7)) := by
  have H := fun j hj => h.cell k j hk hj
  rw [he] at H
  exact ⟨⟨H 0 (by omega), H 1 (by omega), H 2 (by omega), H 3 (by omega), H 4 (by omega)⟩, H 5 (by omega), H 6 (by omega), H 7 (by omega), H 8 (by omega)⟩
set_option maxRecDepth 100000 in
set_option maxHeartbeats 4000000 in
theorem rsameBlock_true (p : List Int) (L : List (Int × List Int)) (v1 v2 : Value) (w : World) (hp : p.length = 8) (h1 : Cs w v1 L) (h2 : Cs w v2 L) (hl : L.length ≤ 1000) :
    Calls Try.prog 48 #[.agg (blv p v1).toArray, .agg (blv p v2).toArray] w fun e w' => e = .returned (.bool true) ∧ Below w.heap.size w w' := by
  have H1 := Lib.hid h1
  have H2 := Lib.hid h2
  have HP := Lib.hid hp
  obtain ⟨a, cap, rfl, hnc, hcm, _, _, _, hc⟩ := id h1.1
  obtain ⟨a', cap', rfl, hnc', hcm', _, _, _, hc'⟩ := id h2.1
  unfold maxLen at hcm hcm'
  have hX8 := blv_at (p := p) (v := .slice a L.length cap) hp
  have hY8 := blv_at (p := p) (v := .slice a' L.length cap') hp
  have HXB := Lib.hid (blv_byte (p := p) (v := .slice a L.length cap) hp)
  have HYB := Lib.hid (blv_byte (p := p) (v := .slice a' L.length cap') hp)
  generalize hX : (blv p (.slice a L.length cap)).toArray = X at *
  generalize hY : (blv p (.slice a' L.length cap')).toArray = Y at *
  have HX8 := Lib.hid hX8
  have HY8 := Lib.hid hY8
  have HC := Lib.hid hc
  have HC' := Lib.hid hc'
  clear hc hc' h1 h2 hp hX hY hX8 hY8
  go_enter Try.func48, Try.ntmps48
  go_wp2_with (first
    | (refine wpList_box_any rfl _ (.tmp 0) rfl X rfl ?_; intro w1 hX1 hB1 hs1)
    | (refine wpList_box_any rfl _ (.tmp 1) rfl Y rfl ?_; intro w2 hY2 hB2 hs2; have hX2 := hX1.below hB2 hX1.lt; have hV2 := hB1.trans (hB2.mono hB1.size); rw [hs1] at hY2; have c8 := hX2.cell 8; have d8 := hY2.cell 8; rw [HX8.out] at c8; rw [HY8.out] at d8)
    | (refine wpList_load_nm rfl (.tmp 6) rfl w.heap.size 0 rfl p HP.out (fun j hj => (hX2.cell (0 + j)).trans (HXB.out j hj)) ?_)
    | (refine wpList_load_nm rfl (.tmp 8) rfl (w.heap.size + 1) 0 rfl p HP.out (fun j hj => (hY2.cell (0 + j)).trans (HYB.out j hj)) ?_)
    | (refine wpList_neq_name rfl (.tmp 7) (.tmp 9) rfl p p rfl rfl HP.out HP.out ?_))
  have HX2 := Lib.hid hX2
  have HY2 := Lib.hid hY2
  have HV2 := Lib.hid hV2
  clear hX1 hB1 hs1 hB2 hs2 hX2 hY2 hV2 c8 d8
  go_loopw [5] (fun i wr => ∃ k n : Nat, k ≤ L.length ∧ i = .int .i64 k ∧ wr = w2.drewN n) (fun i _ => L.length - (intOf i).toNat)
  case atStart => exact ⟨0, 0, Nat.zero_le _, rfl, rfl⟩
  case round =>
    obtain ⟨k, q, hk, rfl, rfl⟩ := hrel
    have c8 := HX2.out.cell 8
    have d8 := HY2.out.cell 8
    rw [HX8.out] at c8
    rw [HY8.out] at d8
    by_cases hlt : k < L.length
    · have hkl : (k : Int) < (L.length : Int) := by omega
      obtain ⟨b, o, rfl, _⟩ := HC.out (by omega)
      obtain ⟨b', o', rfl, _⟩ := HC'.out (by omega)
      have hsk := H1.out.2 _ (List.getElem_mem hlt)
      obtain ⟨⟨x, n⟩, hs⟩ : ∃ s, L[k] = s := ⟨_, rfl⟩
      rw [hs] at hsk
      obtain ⟨n0, n1, n2, n3, n4, n5, n6, n7, rfl, _⟩ := hsk.1.cases
      obtain ⟨⟨a0, a1, a2, a3, a4⟩, a5, a6, a7, a8⟩ := (H1.out.below HV2.out).cells k hlt x n0 n1 n2 n3 n4 n5 n6 n7 hs
      obtain ⟨⟨b0, b1, b2, b3, b4⟩, b5, b6, b7, b8⟩ := (H2.out.below HV2.out).cells k hlt x n0 n1 n2 n3 n4 n5 n6 n7 hs
      have qC : ∀ w, (Op.equalIn 10000 139 (.agg #[.int .i64 x, .int .u8 n0, .int .u8 n1, .int .u8 n2, .int .u8 n3, .int .u8 n4, .int .u8 n5, .int .u8 n6, .int .u8 n7]) (.agg #[.int .i64 x, .int .u8 n0, .int .u8 n1, .int .u8 n2, .int .u8 n3, .int .u8 n4, .int .u8 n5, .int .u8 n6, .int .u8 n7])).run Try.prog w = .ok true w := fun w => by
        have := run_eq_choice w (x, [n0, n1, n2, n3, n4, n5, n6, n7]) (x, [n0, n1, n2, n3, n4, n5, n6, n7]) rfl rfl
        rw [decide_eq_true rfl] at this
        exact this
      clear hs hsk
      go_wp2_with fail
      go_quiet (fail)
      go_wp2
      go_roundw
      case rel => exact ⟨k + 1, _, by omega, by go_num, rfl⟩
      case measure => simp [intOf]; omega
    · have hd : decide ((k : Int) < (L.length : Int)) = false := by simp; omega
      go_wp2
      go_ret
      exact ⟨rfl, below_drewN HV2.out _⟩
end Go.Proofs.Ytilhceihelcdgaa
