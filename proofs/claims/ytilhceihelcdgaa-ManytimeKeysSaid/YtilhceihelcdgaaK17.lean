/-
  A tree of a key, made once.
-/
import Derived.Test.YtilhceihelcdgaaK16
namespace Go.Proofs.Ytilhceihelcdgaa
open Go.RowKit

/-- The cells of a key. -/
def mkCells (x : List Int) (lv : Int) (b : Nat) : List Value := bsv x ++ [.int .i64 lv, .map (some b)]
theorem mkCells_seed {x : List Int} (hx : IsN x) {lv : Int} {b : Nat} {w : World} {B : Nat} {t : TypeId} (h : Blk w B t (mkCells x lv b).toArray) (j : Nat) (hj : j < 8) : w.cell? ⟨B, 0 + j, none⟩ = some (.int .u8 (x.getD j 0)) := by
  rw [Nat.zero_add, h.cell j, List.getElem?_toArray]
  unfold mkCells
  rw [List.getElem?_append_left (by rw [bsv_length, hx.1]; exact hj), bsv_get (by rw [hx.1]; exact hj)]
theorem mkCells_lv {x : List Int} (hx : IsN x) {lv : Int} {b : Nat} {w : World} {B : Nat} {t : TypeId} (h : Blk w B t (mkCells x lv b).toArray) : w.cell? ⟨B, 8, none⟩ = some (.int .i64 lv) := by
  rw [h.cell 8, List.getElem?_toArray]
  unfold mkCells
  rw [List.getElem?_append_right (by rw [bsv_length, hx.1]; omega), bsv_length, hx.1]; rfl
theorem mkCells_map {x : List Int} (hx : IsN x) {lv : Int} {b : Nat} {w : World} {B : Nat} {t : TypeId} (h : Blk w B t (mkCells x lv b).toArray) : w.cell? ⟨B, 9, none⟩ = some (.map (some b)) := by
  rw [h.cell 9, List.getElem?_toArray]
  unfold mkCells
  rw [List.getElem?_append_right (by rw [bsv_length, hx.1]; omega), bsv_length, hx.1]; rfl

set_option maxRecDepth 100000 in
set_option maxHeartbeats 4000000 in
theorem mtree_any (x : List Int) (B b N : Nat) (P : Nat → Prop) (lv l t : Int) (w : World) (hx : IsN x) (hK : Blk w B 133 (mkCells x lv b).toArray) (hT : Trees w x b P N) (hN : N ≤ 1000) (hP : ∀ g, w.heap.size ≤ g → P g) (hl : 0 ≤ l ∧ l < 256) (ht : 0 ≤ t ∧ t < 256) :
    Calls Try.prog 93 #[.pointer (some ⟨B, 0, none⟩), .int .i64 l, .int .i64 t] w fun e w' => ∃ g, e = .returned (tslice g) ∧ Blk w' g 30 (bsv (otree x l t).flatten).toArray ∧ P g ∧ g ≠ b ∧ Trees w' x b P (N + 1) ∧ w.grownBy w' (some b) := by
  have HX := Lib.hid hx
  have HK := Lib.hid hK
  have HT := Lib.hid hT
  have HL := Lib.hid hl
  have HTT := Lib.hid ht
  have hil : I64 l := ⟨by omega, by omega⟩
  have hit : I64 t := ⟨by omega, by omega⟩
  have c9 := mkCells_map hx hK
  obtain ⟨v, hrun, hv⟩ := hT.lookup hil hit
  unfold tkey at hrun
  have HIL := Lib.hid hil
  have HIT := Lib.hid hit
  have HP := Lib.hid hP
  have hbw := hT.lt
  clear hx hK hT hl ht hil hit hP
  rcases hv with rfl | ⟨g, rfl, hg1, hg2, hgB⟩
  · unfold nslice at hrun
    have hz : (madeCells (nv zeroN).cells (32 * 8)).toList = bsv (zeros 32) := by kernel_rfl
    go_enter Try.func93, Try.ntmps93
    go_wp2_with (refine wpList_make_ns _ rfl (.const (.int .i64 32)) (.const (.int .i64 32)) rfl 32 rfl rfl (by omega) hz ?_; refine hold ?_)
    refine Lib.hid ?_
    intro w1 hR1 hg1
    have hB1 := Below.of_grown hg1 (Nat.le_refl _)
    clear hrun
    go_wp2
    go_loopw [24] (fun i wr => ∃ k : Nat, k ≤ 32 ∧ i = .int .i64 (k : Int) ∧ Blk wr w.heap.size 30 (bsv ((row (oleaf x l t) k).flatten ++ zeros (32 - k))).toArray ∧ Below w.heap.size w wr) (fun i _ => 32 - (intOf i).toNat)
    case atStart => exact ⟨0, by omega, rfl, hR1, hB1⟩
    case round =>
      obtain ⟨k, hk, rfl, hR, hB⟩ := hrel
      have hz := hR.lt
      have hzb := hB.size
      by_cases hlt : k < 32
      · have hlt' : (k : Int) < 32 := by omega
        have hA8 := Lib.hid (show (row (oleaf x l t) k).flatten.length = k * 8 by rw [flatten_len (row_isN (oleaf_isN x l t) k), row_len])
        have hs : Hid ((row (oleaf x l t) (k + 1)).flatten ++ zeros (32 - (k + 1)) = (row (oleaf x l t) k).flatten ++ opub (okey x l t k) ++ zeros (32 - (k + 1))) := by
          show _ = _
          rw [row_succ, List.flatten_append, List.flatten_singleton]; rfl
        rw [show 32 - k = (32 - (k + 1)) + 1 by omega, zeros_succ, ← List.append_assoc] at hR
        have SD := Lib.hid (seedOf_any B x l t k wr (fun j hj => mkCells_seed HX.out (HK.out.below hB HK.out.lt) j hj) HX.out HL.out HTT.out ⟨by omega, by omega⟩)
        have OP := Lib.hid (fun w => onepublic_any (okey x l t k) w (okey_isN _ _ _ _))
        have hE := Lib.hid (opub_isN (okey x l t k))
        generalize opub (okey x l t k) = e at *
        generalize okey x l t k = sd at *
        generalize (row (oleaf x l t) k).flatten = A at *
        generalize hBz : zeros (32 - (k + 1)) = Z at *
        have HBZ := Lib.hid hBz
        clear hBz
        go_wp2_with (first
          | (go_at_call 168; refine SD.out.mono ?_; rintro e1 w4 ⟨rfl, hB4⟩; have hR4 := hR.below hB4 hz; have hB14 := hB.trans (hB4.mono hzb))
          | (go_at_call 167; refine (OP.out _).mono ?_; rintro e1 w5 ⟨rfl, hB5⟩; have hR5 := hR4.below hB5 hR4.lt; have hB15 := hB14.trans (hB5.mono hB14.size))
          | (refine wpList_store_next _ rfl (.tmp 35) (.tmp 34) rfl w.heap.size (k * 8) rfl _ rfl hE.out.1 A Z zeroN hA8.out rfl _ hR5 ?_; refine hold ?_))
        refine Lib.hid ?_
        intro w7 hR7 hg7
        have hV7 := hB15.grown hg7 hB15.size (by intro j hj; cases hj; omega)
        go_wp2
        go_roundw
        case rel =>
          refine ⟨k + 1, by omega, by go_num, ?_, hV7⟩
          rw [HBZ.out, hs.out, List.append_assoc]
          exact hR7
        case measure => simp [intOf]; omega
      · obtain rfl : k = 32 := by omega
        have hz0 : zeros (32 - 32) = [] := rfl
        rw [hz0, List.append_nil] at hR
        have hR' : Blk wr w.heap.size 30 (bsv (otree x l t).flatten).toArray := hR
        have c9' := mkCells_map HX.out (HK.out.below hB HK.out.lt)
        have hT' := HT.out.below hB
        clear hR hz0
        go_wp2_with (at_mapUpdate; refine wpList_trees_put _ rfl (.tmp 40) (.tmp 43) (.tmp 44) rfl x l t b N w.heap.size P rfl rfl rfl hT' (by omega) HIL.out HIT.out (HP.out _ (Nat.le_refl _)) (by omega) hR' ?_; intro w8 hT8 hg8)
        go_ret
        exact ⟨w.heap.size, rfl, hR'.grown hg8 (fun e => by injection e; omega), HP.out _ (Nat.le_refl _), by omega, hT8, grown_trans (grown_of_below hB) hg8⟩
  · unfold tslice at hrun
    go_enter Try.func93, Try.ntmps93
    go_wp2
    go_ret
    exact ⟨g, rfl, hgB, hg1, hg2, HT.out.mono (by omega), grown_refl _ _⟩
end Go.Proofs.Ytilhceihelcdgaa
