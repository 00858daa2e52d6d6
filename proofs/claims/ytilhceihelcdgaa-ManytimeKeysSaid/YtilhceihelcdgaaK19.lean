/-
  Keys of many-time signatures: made, their public names.
-/
import Derived.Test.YtilhceihelcdgaaK18
import Derived.Carry
namespace Go.Proofs.Ytilhceihelcdgaa
open Go.RowKit

set_option maxRecDepth 100000 in
theorem mready_yes (B b : Nat) (w : World) (h : w.cell? ⟨B, 9, none⟩ = some (.map (some b))) :
    Calls Try.prog 91 #[.pointer (some ⟨B, 0, none⟩)] w fun e w' => e = .returned (.bool true) ∧ w = w' := by
  have qT : ∀ (w : World) (r : Option Nat), (binOp .neq 131 (.map r) (.map none)).run Try.prog w = .ok (.bool (!r.isNone)) w := fun w r => Go.run_neq_map_nil w _ _ _ r un_map
  go_enter Try.func91, Try.ntmps91
  go_wp2
  go_ret
  exact ⟨rfl, rfl⟩
set_option maxRecDepth 100000 in
theorem mready_no (w : World) :
    Calls Try.prog 91 #[.pointer none] w fun e w' => e = .returned (.bool false) ∧ w = w' := by
  go_enter Try.func91, Try.ntmps91
  go_wp2
  go_ret
  exact ⟨rfl, rfl⟩
set_option maxRecDepth 100000 in
theorem mnewkey_yes (x : List Int) (lv : Int) (P : Nat → Prop) (w : World) (hx : IsN x) (hlv : lv = 1 ∨ lv = 2) :
    Calls Try.prog 32 #[nv x, .int .i64 lv] w fun e w' => ∃ B b, e = .returned (.pointer (some ⟨B, 0, none⟩)) ∧ Blk w' B 133 (mkCells x lv b).toArray ∧ Trees w' x b P 0 ∧ w.heap.size ≤ B ∧ w.heap.size ≤ b ∧ B ≠ b ∧ Below w.heap.size w w' := by
  have CP := Lib.hid (fun w => capacity_any lv w (by omega) (by omega))
  have hc : (capOf lv == 0) = false := by rcases hlv with rfl | rfl <;> simp [capOf]
  generalize capOf lv = cp at *
  obtain ⟨x0, x1, x2, x3, x4, x5, x6, x7, rfl, _⟩ := hx.cases
  have hmm := @run_makeMap Try.prog
  have hnx : nv [x0, x1, x2, x3, x4, x5, x6, x7] = .agg #[.int .u8 x0, .int .u8 x1, .int .u8 x2, .int .u8 x3, .int .u8 x4, .int .u8 x5, .int .u8 x6, .int .u8 x7] := rfl
  rw [hnx]
  clear hx hlv hnx
  go_enter Try.func32, Try.ntmps32
  go_wp2_with (go_at_call 21; refine (CP.out _).mono ?_; rintro e w3 ⟨rfl, rfl⟩)
  go_ret
  refine ⟨w.heap.size + 1 + 1, w.heap.size + 1, rfl, Blk.new' _ _ _ (by simp), ?_, by omega, by omega, by omega, below3 w _ _ _⟩
  have h := Trees.new (w.alloc (.cells #[.int .u8 x0, .int .u8 x1, .int .u8 x2, .int .u8 x3, .int .u8 x4, .int .u8 x5, .int .u8 x6, .int .u8 x7] 30)) [x0, x1, x2, x3, x4, x5, x6, x7] P
  rw [World.size_alloc] at h
  exact h.below (below1 _ _)
theorem mnewkey_no (x : List Int) (lv : Int) (w : World) (h1 : -9223372036854775808 ≤ lv ∧ lv ≤ 9223372036854775807) (hlv : ¬ (lv = 1 ∨ lv = 2)) :
    Calls Try.prog 32 #[nv x, .int .i64 lv] w fun e w' => e = .returned (.pointer none) ∧ Below w.heap.size w w' := by
  have CP := Lib.hid (fun w => capacity_any lv w h1.1 h1.2)
  have hc : capOf lv = 0 := by unfold capOf; rw [if_neg (fun e => hlv (.inl e)), if_neg (fun e => hlv (.inr e))]
  rw [hc] at CP
  clear hc hlv
  go_enter Try.func32, Try.ntmps32
  go_wp2_with (first
    | (refine wpList_box_name rfl (.tmp 0) rfl x rfl ?_; intro w1 hA1 hB1 hs1)
    | (go_at_call 21; refine (CP.out _).mono ?_; rintro e w3 ⟨rfl, rfl⟩))
  go_ret
  exact ⟨rfl, hB1⟩

set_option maxRecDepth 100000 in
set_option maxHeartbeats 4000000 in
theorem mkpublic_any (x : List Int) (B b N : Nat) (P : Nat → Prop) (lv : Int) (w : World) (hx : IsN x) (hlv : lv = 1 ∨ lv = 2) (hK : Blk w B 133 (mkCells x lv b).toArray) (hBb : B ≠ b) (hT : Trees w x b P N) (hN : N ≤ 900) (hP : ∀ g, w.heap.size ≤ g → P g) :
    Calls Try.prog 33 #[.pointer (some ⟨B, 0, none⟩)] w fun e w' => e = .returned (nv (mpub x lv)) ∧ Trees w' x b P (N + 1) ∧ w.grownBy w' (some b) := by
  have HM : Hid (mpub x lv = mroot 5 (otree x lv 0)) := if_pos (by omega)
  rw [HM.out]
  have HX := Lib.hid hx
  have HK := Lib.hid hK
  have HT := Lib.hid hT
  have hb := hT.lt
  have hlK := hK.lt
  have hTl := otree_len x lv 0
  have hTi := otree_isN x lv 0
  have TR := Lib.hid (fun w' (hK' : Blk w' B 133 (mkCells x lv b).toArray) (hT' : Trees w' x b (fun q => P q ∧ q ≠ w.heap.size) N) (hz : w.heap.size < w'.heap.size) => mtree_any x B b N (fun q => P q ∧ q ≠ w.heap.size) lv lv 0 w' hx hK' hT' (by omega) (fun g hg => ⟨hP g (by omega), by omega⟩) ⟨by omega, by omega⟩ ⟨by omega, by omega⟩)
  have RT := Lib.hid (fun w g (hb : Blk w g 30 (bsv (otree x lv 0).flatten).toArray) => root_any 5 (by omega) (otree x lv 0) _ w (Ns.whole hb hTi (n := 32) hTl.symm (by omega)) hTl)
  have RN := Lib.hid (mroot_isN 5 (otree x lv 0))
  generalize mroot 5 (otree x lv 0) = R at *
  generalize otree x lv 0 = T at *
  clear hx hK hT hP hTl hTi
  go_enter Try.func33, Try.ntmps33
  go_upto_region 1 with (fail)
  generalize hW : World.alloc _ _ = W
  have hN1 : Blk W w.heap.size 30 (bsv zeroN).toArray := by rw [← hW]; exact Blk.new _ _ _
  have hV1 : Below w.heap.size w W := by rw [← hW]; exact below1 w _
  clear hW
  have hK1 := HK.out.below hV1 hlK
  have hT1 : Trees W x b (fun q => P q ∧ q ≠ w.heap.size) N := Trees.below (Trees.imp HT.out (fun q hq hp => ⟨hp, by omega⟩)) hV1
  have c8 := mkCells_lv HX.out hK1
  have c9 := mkCells_map HX.out hK1
  have hK1' := Lib.hid hK1
  have hT1' := Lib.hid hT1
  clear hK1 hT1
  have hz1 := hV1.size
  have hl1 := hN1.lt
  go_wp2_with (first
    | (go_at_call 91; refine (mready_yes B b _ c9).mono ?_; rintro e w2 ⟨rfl, rfl⟩)
    | (go_at_call 93; refine (TR.out _ hK1'.out hT1'.out hl1).mono ?_; rintro e w3 ⟨g, rfl, hgB, hg1, hg2, hT3, hG3⟩; have hN3 := hN1.grown hG3 (fun e => by injection e; omega); have hz3 := hG3.size)
    | (go_at_call 92; refine (RT.out _ _ hgB).mono ?_; rintro e w4 ⟨rfl, hB4⟩; have hN4 := hN3.below hB4 hN3.lt; have hT4 := hT3.below hB4; have hG4 := grown_below (grown_trans (grown_of_below hV1) hG3) hB4)
    | (refine wpList_store_name _ rfl (.tmp 2) (.tmp 13) rfl w.heap.size rfl _ rfl _ _ hN4 rfl RN.out.1 ?_; intro w5 hN5 hg5))
  have hT5 : Trees w5 x b P (N + 1) := Trees.imp (Trees.grown (P := fun q => P q ∧ q ≠ w.heap.size) hT4 hg5 (fun e => by injection e; omega) (fun q _ hq e => hq.2 (by injection e))) (fun q _ hq => hq.1)
  exact ret_name rfl w.heap.size _ _ rfl rfl hN5 RN.out.1 ⟨rfl, hT5, grown_own hG4 hg5 (Nat.le_refl _)⟩
end Go.Proofs.Ytilhceihelcdgaa
