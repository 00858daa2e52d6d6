/-
  Sign and Public.
-/
import Derived.Test.YtilhceihelcdgaaK20
namespace Go.Proofs.Ytilhceihelcdgaa
open Go.RowKit

set_option maxRecDepth 100000 in
set_option maxHeartbeats 4000000 in
theorem mksign_no (x m : List Int) (B b : Nat) (lv j : Int) (w : World) (hx : IsN x) (hlv : lv = 1 ∨ lv = 2) (hK : Blk w B 133 (mkCells x lv b).toArray) (hj : ¬ (0 ≤ j ∧ j < capOf lv)) :
    Calls Try.prog 34 #[.pointer (some ⟨B, 0, none⟩), .int .i64 j, nv m] w fun e w' => e = .returned (.tuple #[.slice none 0 0, .bool false]) ∧ Below w.heap.size w w' := by
  have CP := Lib.hid (fun w => capacity_any lv w (by omega) (by omega))
  have c8 := mkCells_lv hx hK
  have c9 := mkCells_map hx hK
  have hlK := hK.lt
  have hc : decide (j < 0) = true ∨ decide (j < 0) = false ∧ decide (capOf lv ≤ j) = true := by
    by_cases h : j < 0
    · exact .inl (by simpa using h)
    · exact .inr ⟨by rw [decide_eq_false_iff_not]; exact h, by rw [decide_eq_true_eq]; omega⟩
  generalize capOf lv = cp at *
  clear hK hj hx hlv
  rcases hc with h1 | ⟨h1, h2⟩
  all_goals
    go_enter Try.func34, Try.ntmps34
    go_wp2_with (first
      | (refine wpList_box_name rfl (.tmp 2) rfl m rfl ?_; intro w1 hM1 hB1 hs1; have d8 := Keeps.of_below hB1 _ _ c8; have d9 := Keeps.of_below hB1 _ _ c9)
      | (go_at_call 91; refine (mready_yes B b _ d9).mono ?_; rintro e w2 ⟨rfl, rfl⟩)
      | (go_at_call 21; refine (CP.out _).mono ?_; rintro e w2 ⟨rfl, rfl⟩))
    go_ret2
    exact ⟨rfl, hB1⟩
set_option maxRecDepth 100000 in
theorem mksign_nil (m : List Int) (j : Int) (w : World) :
    Calls Try.prog 34 #[.pointer none, .int .i64 j, nv m] w fun e w' => e = .returned (.tuple #[.slice none 0 0, .bool false]) ∧ Below w.heap.size w w' := by
  go_enter Try.func34, Try.ntmps34
  go_wp2_with (first
    | (refine wpList_box_name rfl (.tmp 2) rfl m rfl ?_; intro w1 hM1 hB1 hs1)
    | (go_at_call 91; refine (mready_no _).mono ?_; rintro e w2 ⟨rfl, rfl⟩))
  go_ret2
  exact ⟨rfl, hB1⟩
set_option maxRecDepth 100000 in
theorem mkpublic_nil (w : World) :
    Calls Try.prog 33 #[.pointer none] w fun e w' => e = .returned (nv zeroN) ∧ Below w.heap.size w w' := by
  go_enter Try.func33, Try.ntmps33
  go_wp2_with (go_at_call 91; refine (mready_no _).mono ?_; rintro e w2 ⟨rfl, rfl⟩)
  exact ret_name rfl w.heap.size _ zeroN rfl rfl (Blk.new w 30 (bsv zeroN).toArray) rfl ⟨rfl, below1 w _⟩
theorem mksign_yes (x m : List Int) (B b N : Nat) (lv j : Int) (w : World) (hx : IsN x) (hm : IsN m) (hlv : lv = 1 ∨ lv = 2) (hK : Blk w B 133 (mkCells x lv b).toArray) (hBb : B ≠ b) (hT : Trees w x b (fun _ => True) N) (hN : N ≤ 800) (hj : 0 ≤ j ∧ j < capOf lv) :
    Calls Try.prog 34 #[.pointer (some ⟨B, 0, none⟩), .int .i64 j, nv m] w fun e w' => ∃ v', e = .returned (.tuple #[v', .bool true]) ∧ OwB w' w.heap.size v' (msig x lv j.toNat m) ∧ Trees w' x b (fun _ => True) (N + 3) ∧ w.grownBy w' (some b) := by
  obtain ⟨q, rfl⟩ := Int.eq_ofNat_of_zero_le hj.1
  rw [Int.toNat_natCast]
  rcases hlv with rfl | rfl
  · exact mksign1_yes x m B b N q w hx hm hK hBb hT hN hj.2
  · exact mksign2_yes x m B b N q w hx hm hK hBb hT hN hj.2

set_option maxRecDepth 100000 in
set_option maxHeartbeats 8000000 in
theorem msign_yes (x m : List Int) (lv j : Int) (w : World) (hx : IsN x) (hm : IsN m) (hlv : lv = 1 ∨ lv = 2) (hj : 0 ≤ j ∧ j < capOf lv) :
    Calls Try.prog 30 #[nv x, .int .i64 lv, .int .i64 j, nv m] w fun e w' => ∃ v', e = .returned (.tuple #[v', .bool true]) ∧ OwB w' w.heap.size v' (msig x lv j.toNat m) ∧ Below w.heap.size w w' := by
  have HX := Lib.hid hx
  have HMN := Lib.hid hm
  generalize hS : msig x lv j.toNat m = S at *
  have HS := Lib.hid hS
  clear hS
  obtain ⟨x0, x1, x2, x3, x4, x5, x6, x7, rfl, _⟩ := hx.cases
  obtain ⟨m0, m1, m2, m3, m4, m5, m6, m7, rfl, _⟩ := hm.cases
  clear hx hm
  go_enter Try.func30, Try.ntmps30
  go_upto_region 1 with (fail)
  generalize hW : World.alloc _ _ = W
  have hA2 : Blk W w.heap.size 30 (bsv [x0, x1, x2, x3, x4, x5, x6, x7]).toArray := by rw [← hW]; exact (Blk.new _ _ _).old _
  have hM2 : Blk W (w.heap.size + 1) 30 (bsv [m0, m1, m2, m3, m4, m5, m6, m7]).toArray := by rw [← hW]; exact Blk.new' _ _ _ (by simp)
  have hV2 : Below w.heap.size w W := by rw [← hW]; exact below2 w _ _
  clear hW
  have SO : Hid (∀ w' : World, Below W.heap.size W w' → (w'.cell? ⟨w.heap.size, 0, none⟩ = some (.int .u8 x0) ∧ w'.cell? ⟨w.heap.size, 1, none⟩ = some (.int .u8 x1) ∧ w'.cell? ⟨w.heap.size, 2, none⟩ = some (.int .u8 x2) ∧ w'.cell? ⟨w.heap.size, 3, none⟩ = some (.int .u8 x3) ∧ w'.cell? ⟨w.heap.size, 4, none⟩ = some (.int .u8 x4) ∧ w'.cell? ⟨w.heap.size, 5, none⟩ = some (.int .u8 x5) ∧ w'.cell? ⟨w.heap.size, 6, none⟩ = some (.int .u8 x6) ∧ w'.cell? ⟨w.heap.size, 7, none⟩ = some (.int .u8 x7)) ∧ (w'.cell? ⟨w.heap.size + 1, 0, none⟩ = some (.int .u8 m0) ∧ w'.cell? ⟨w.heap.size + 1, 1, none⟩ = some (.int .u8 m1) ∧ w'.cell? ⟨w.heap.size + 1, 2, none⟩ = some (.int .u8 m2) ∧ w'.cell? ⟨w.heap.size + 1, 3, none⟩ = some (.int .u8 m3) ∧ w'.cell? ⟨w.heap.size + 1, 4, none⟩ = some (.int .u8 m4) ∧ w'.cell? ⟨w.heap.size + 1, 5, none⟩ = some (.int .u8 m5) ∧ w'.cell? ⟨w.heap.size + 1, 6, none⟩ = some (.int .u8 m6) ∧ w'.cell? ⟨w.heap.size + 1, 7, none⟩ = some (.int .u8 m7))) := fun w' h =>
    ⟨⟨(hA2.below h hA2.lt).cell 0, (hA2.below h hA2.lt).cell 1, (hA2.below h hA2.lt).cell 2, (hA2.below h hA2.lt).cell 3, (hA2.below h hA2.lt).cell 4, (hA2.below h hA2.lt).cell 5, (hA2.below h hA2.lt).cell 6, (hA2.below h hA2.lt).cell 7⟩, (hM2.below h hM2.lt).cell 0, (hM2.below h hM2.lt).cell 1, (hM2.below h hM2.lt).cell 2, (hM2.below h hM2.lt).cell 3, (hM2.below h hM2.lt).cell 4, (hM2.below h hM2.lt).cell 5, (hM2.below h hM2.lt).cell 6, (hM2.below h hM2.lt).cell 7⟩
  clear hA2 hM2
  go_region_held3 (fun w' => (w'.cell? ⟨w.heap.size, 0, none⟩ = some (.int .u8 x0) ∧ w'.cell? ⟨w.heap.size, 1, none⟩ = some (.int .u8 x1) ∧ w'.cell? ⟨w.heap.size, 2, none⟩ = some (.int .u8 x2) ∧ w'.cell? ⟨w.heap.size, 3, none⟩ = some (.int .u8 x3) ∧ w'.cell? ⟨w.heap.size, 4, none⟩ = some (.int .u8 x4) ∧ w'.cell? ⟨w.heap.size, 5, none⟩ = some (.int .u8 x5) ∧ w'.cell? ⟨w.heap.size, 6, none⟩ = some (.int .u8 x6) ∧ w'.cell? ⟨w.heap.size, 7, none⟩ = some (.int .u8 x7)) ∧ (w'.cell? ⟨w.heap.size + 1, 0, none⟩ = some (.int .u8 m0) ∧ w'.cell? ⟨w.heap.size + 1, 1, none⟩ = some (.int .u8 m1) ∧ w'.cell? ⟨w.heap.size + 1, 2, none⟩ = some (.int .u8 m2) ∧ w'.cell? ⟨w.heap.size + 1, 3, none⟩ = some (.int .u8 m3) ∧ w'.cell? ⟨w.heap.size + 1, 4, none⟩ = some (.int .u8 m4) ∧ w'.cell? ⟨w.heap.size + 1, 5, none⟩ = some (.int .u8 m5) ∧ w'.cell? ⟨w.heap.size + 1, 6, none⟩ = some (.int .u8 m6) ∧ w'.cell? ⟨w.heap.size + 1, 7, none⟩ = some (.int .u8 m7)))
    ((refine SO.out _ ?_; first | exact hV4 | exact hV3 | exact (Below.refl _ _).drew))
    (first
      | (go_at_call 32; refine (mnewkey_yes [x0, x1, x2, x3, x4, x5, x6, x7] lv (fun _ => True) _ HX.out hlv).mono ?_; rintro e w3 ⟨B, b, rfl, hK3, hT3, hB3, hb3, hne, hV⟩; simp only [World.size_drew] at hB3 hb3; have hV3 : Below W.heap.size W w3 := (Below.refl _ _).drew.trans (hV.mono (by first | omega | (simp; omega) | (simp; done))))
      | (go_at_call 34; refine (mksign_yes [x0, x1, x2, x3, x4, x5, x6, x7] [m0, m1, m2, m3, m4, m5, m6, m7] B b 0 lv j _ HX.out HMN.out hlv hK3 hne hT3 (by omega) hj).mono ?_; rintro e w4 ⟨v4, rfl, hO4, hT4, hG4⟩; have hV4 : Below W.heap.size W w4 := hV3.grown hG4 hV3.size (by intro k hk; cases hk; exact hb3)))
  all_goals
    go_wp2
    go_ret2
    rw [HS.out] at hO4
    exact ⟨_, rfl, OwB.base hO4 (by have := hV2.size; have := hV3.size; omega), hV2.trans (hV4.mono hV2.size)⟩


set_option maxRecDepth 100000 in
set_option maxHeartbeats 8000000 in
theorem msign_no1 (x m : List Int) (lv j : Int) (w : World) (hx : IsN x) (hm : IsN m) (hlv : lv = 1 ∨ lv = 2) (hj : ¬ (0 ≤ j ∧ j < capOf lv)) :
    Calls Try.prog 30 #[nv x, .int .i64 lv, .int .i64 j, nv m] w fun e w' => e = .returned (.tuple #[.slice none 0 0, .bool false]) ∧ Below w.heap.size w w' := by
  have HX := Lib.hid hx
  have HMN := Lib.hid hm
  generalize hS : msig x lv j.toNat m = S at *
  have HS := Lib.hid hS
  clear hS
  obtain ⟨x0, x1, x2, x3, x4, x5, x6, x7, rfl, _⟩ := hx.cases
  obtain ⟨m0, m1, m2, m3, m4, m5, m6, m7, rfl, _⟩ := hm.cases
  clear hx hm
  go_enter Try.func30, Try.ntmps30
  go_upto_region 1 with (fail)
  generalize hW : World.alloc _ _ = W
  have hA2 : Blk W w.heap.size 30 (bsv [x0, x1, x2, x3, x4, x5, x6, x7]).toArray := by rw [← hW]; exact (Blk.new _ _ _).old _
  have hM2 : Blk W (w.heap.size + 1) 30 (bsv [m0, m1, m2, m3, m4, m5, m6, m7]).toArray := by rw [← hW]; exact Blk.new' _ _ _ (by simp)
  have hV2 : Below w.heap.size w W := by rw [← hW]; exact below2 w _ _
  clear hW
  have SO : Hid (∀ w' : World, Below W.heap.size W w' → (w'.cell? ⟨w.heap.size, 0, none⟩ = some (.int .u8 x0) ∧ w'.cell? ⟨w.heap.size, 1, none⟩ = some (.int .u8 x1) ∧ w'.cell? ⟨w.heap.size, 2, none⟩ = some (.int .u8 x2) ∧ w'.cell? ⟨w.heap.size, 3, none⟩ = some (.int .u8 x3) ∧ w'.cell? ⟨w.heap.size, 4, none⟩ = some (.int .u8 x4) ∧ w'.cell? ⟨w.heap.size, 5, none⟩ = some (.int .u8 x5) ∧ w'.cell? ⟨w.heap.size, 6, none⟩ = some (.int .u8 x6) ∧ w'.cell? ⟨w.heap.size, 7, none⟩ = some (.int .u8 x7)) ∧ (w'.cell? ⟨w.heap.size + 1, 0, none⟩ = some (.int .u8 m0) ∧ w'.cell? ⟨w.heap.size + 1, 1, none⟩ = some (.int .u8 m1) ∧ w'.cell? ⟨w.heap.size + 1, 2, none⟩ = some (.int .u8 m2) ∧ w'.cell? ⟨w.heap.size + 1, 3, none⟩ = some (.int .u8 m3) ∧ w'.cell? ⟨w.heap.size + 1, 4, none⟩ = some (.int .u8 m4) ∧ w'.cell? ⟨w.heap.size + 1, 5, none⟩ = some (.int .u8 m5) ∧ w'.cell? ⟨w.heap.size + 1, 6, none⟩ = some (.int .u8 m6) ∧ w'.cell? ⟨w.heap.size + 1, 7, none⟩ = some (.int .u8 m7))) := fun w' h =>
    ⟨⟨(hA2.below h hA2.lt).cell 0, (hA2.below h hA2.lt).cell 1, (hA2.below h hA2.lt).cell 2, (hA2.below h hA2.lt).cell 3, (hA2.below h hA2.lt).cell 4, (hA2.below h hA2.lt).cell 5, (hA2.below h hA2.lt).cell 6, (hA2.below h hA2.lt).cell 7⟩, (hM2.below h hM2.lt).cell 0, (hM2.below h hM2.lt).cell 1, (hM2.below h hM2.lt).cell 2, (hM2.below h hM2.lt).cell 3, (hM2.below h hM2.lt).cell 4, (hM2.below h hM2.lt).cell 5, (hM2.below h hM2.lt).cell 6, (hM2.below h hM2.lt).cell 7⟩
  clear hA2 hM2
  go_region_held3 (fun w' => (w'.cell? ⟨w.heap.size, 0, none⟩ = some (.int .u8 x0) ∧ w'.cell? ⟨w.heap.size, 1, none⟩ = some (.int .u8 x1) ∧ w'.cell? ⟨w.heap.size, 2, none⟩ = some (.int .u8 x2) ∧ w'.cell? ⟨w.heap.size, 3, none⟩ = some (.int .u8 x3) ∧ w'.cell? ⟨w.heap.size, 4, none⟩ = some (.int .u8 x4) ∧ w'.cell? ⟨w.heap.size, 5, none⟩ = some (.int .u8 x5) ∧ w'.cell? ⟨w.heap.size, 6, none⟩ = some (.int .u8 x6) ∧ w'.cell? ⟨w.heap.size, 7, none⟩ = some (.int .u8 x7)) ∧ (w'.cell? ⟨w.heap.size + 1, 0, none⟩ = some (.int .u8 m0) ∧ w'.cell? ⟨w.heap.size + 1, 1, none⟩ = some (.int .u8 m1) ∧ w'.cell? ⟨w.heap.size + 1, 2, none⟩ = some (.int .u8 m2) ∧ w'.cell? ⟨w.heap.size + 1, 3, none⟩ = some (.int .u8 m3) ∧ w'.cell? ⟨w.heap.size + 1, 4, none⟩ = some (.int .u8 m4) ∧ w'.cell? ⟨w.heap.size + 1, 5, none⟩ = some (.int .u8 m5) ∧ w'.cell? ⟨w.heap.size + 1, 6, none⟩ = some (.int .u8 m6) ∧ w'.cell? ⟨w.heap.size + 1, 7, none⟩ = some (.int .u8 m7)))
    ((refine SO.out _ ?_; first | exact hV4 | exact hV3 | exact (Below.refl _ _).drew))
    (first
      | (go_at_call 32; refine (mnewkey_yes [x0, x1, x2, x3, x4, x5, x6, x7] lv (fun _ => True) _ HX.out hlv).mono ?_; rintro e w3 ⟨B, b, rfl, hK3, hT3, hB3, hb3, hne, hV⟩; have hV3 : Below W.heap.size W w3 := (Below.refl _ _).drew.trans (hV.mono (by first | omega | (simp; omega) | (simp; done))))
      | (go_at_call 34; refine (mksign_no [x0, x1, x2, x3, x4, x5, x6, x7] [m0, m1, m2, m3, m4, m5, m6, m7] B b lv j _ HX.out hlv hK3 hj).mono ?_; rintro e w4 ⟨rfl, hB4⟩; have hV4 : Below W.heap.size W w4 := hV3.trans (hB4.mono hV3.size)))
  all_goals
    go_wp2
    go_ret2
    exact ⟨rfl, hV2.trans (hV4.mono hV2.size)⟩


set_option maxRecDepth 100000 in
set_option maxHeartbeats 8000000 in
theorem msign_no2 (x m : List Int) (lv j : Int) (w : World) (hx : IsN x) (hm : IsN m) (hr : -9223372036854775808 ≤ lv ∧ lv ≤ 9223372036854775807) (hlv : ¬ (lv = 1 ∨ lv = 2)) :
    Calls Try.prog 30 #[nv x, .int .i64 lv, .int .i64 j, nv m] w fun e w' => e = .returned (.tuple #[.slice none 0 0, .bool false]) ∧ Below w.heap.size w w' := by
  have HX := Lib.hid hx
  have HMN := Lib.hid hm
  generalize hS : msig x lv j.toNat m = S at *
  have HS := Lib.hid hS
  clear hS
  obtain ⟨x0, x1, x2, x3, x4, x5, x6, x7, rfl, _⟩ := hx.cases
  obtain ⟨m0, m1, m2, m3, m4, m5, m6, m7, rfl, _⟩ := hm.cases
  clear hx hm
  go_enter Try.func30, Try.ntmps30
  go_upto_region 1 with (fail)
  generalize hW : World.alloc _ _ = W
  have hA2 : Blk W w.heap.size 30 (bsv [x0, x1, x2, x3, x4, x5, x6, x7]).toArray := by rw [← hW]; exact (Blk.new _ _ _).old _
  have hM2 : Blk W (w.heap.size + 1) 30 (bsv [m0, m1, m2, m3, m4, m5, m6, m7]).toArray := by rw [← hW]; exact Blk.new' _ _ _ (by simp)
  have hV2 : Below w.heap.size w W := by rw [← hW]; exact below2 w _ _
  clear hW
  have SO : Hid (∀ w' : World, Below W.heap.size W w' → (w'.cell? ⟨w.heap.size, 0, none⟩ = some (.int .u8 x0) ∧ w'.cell? ⟨w.heap.size, 1, none⟩ = some (.int .u8 x1) ∧ w'.cell? ⟨w.heap.size, 2, none⟩ = some (.int .u8 x2) ∧ w'.cell? ⟨w.heap.size, 3, none⟩ = some (.int .u8 x3) ∧ w'.cell? ⟨w.heap.size, 4, none⟩ = some (.int .u8 x4) ∧ w'.cell? ⟨w.heap.size, 5, none⟩ = some (.int .u8 x5) ∧ w'.cell? ⟨w.heap.size, 6, none⟩ = some (.int .u8 x6) ∧ w'.cell? ⟨w.heap.size, 7, none⟩ = some (.int .u8 x7)) ∧ (w'.cell? ⟨w.heap.size + 1, 0, none⟩ = some (.int .u8 m0) ∧ w'.cell? ⟨w.heap.size + 1, 1, none⟩ = some (.int .u8 m1) ∧ w'.cell? ⟨w.heap.size + 1, 2, none⟩ = some (.int .u8 m2) ∧ w'.cell? ⟨w.heap.size + 1, 3, none⟩ = some (.int .u8 m3) ∧ w'.cell? ⟨w.heap.size + 1, 4, none⟩ = some (.int .u8 m4) ∧ w'.cell? ⟨w.heap.size + 1, 5, none⟩ = some (.int .u8 m5) ∧ w'.cell? ⟨w.heap.size + 1, 6, none⟩ = some (.int .u8 m6) ∧ w'.cell? ⟨w.heap.size + 1, 7, none⟩ = some (.int .u8 m7))) := fun w' h =>
    ⟨⟨(hA2.below h hA2.lt).cell 0, (hA2.below h hA2.lt).cell 1, (hA2.below h hA2.lt).cell 2, (hA2.below h hA2.lt).cell 3, (hA2.below h hA2.lt).cell 4, (hA2.below h hA2.lt).cell 5, (hA2.below h hA2.lt).cell 6, (hA2.below h hA2.lt).cell 7⟩, (hM2.below h hM2.lt).cell 0, (hM2.below h hM2.lt).cell 1, (hM2.below h hM2.lt).cell 2, (hM2.below h hM2.lt).cell 3, (hM2.below h hM2.lt).cell 4, (hM2.below h hM2.lt).cell 5, (hM2.below h hM2.lt).cell 6, (hM2.below h hM2.lt).cell 7⟩
  clear hA2 hM2
  go_region_held3 (fun w' => (w'.cell? ⟨w.heap.size, 0, none⟩ = some (.int .u8 x0) ∧ w'.cell? ⟨w.heap.size, 1, none⟩ = some (.int .u8 x1) ∧ w'.cell? ⟨w.heap.size, 2, none⟩ = some (.int .u8 x2) ∧ w'.cell? ⟨w.heap.size, 3, none⟩ = some (.int .u8 x3) ∧ w'.cell? ⟨w.heap.size, 4, none⟩ = some (.int .u8 x4) ∧ w'.cell? ⟨w.heap.size, 5, none⟩ = some (.int .u8 x5) ∧ w'.cell? ⟨w.heap.size, 6, none⟩ = some (.int .u8 x6) ∧ w'.cell? ⟨w.heap.size, 7, none⟩ = some (.int .u8 x7)) ∧ (w'.cell? ⟨w.heap.size + 1, 0, none⟩ = some (.int .u8 m0) ∧ w'.cell? ⟨w.heap.size + 1, 1, none⟩ = some (.int .u8 m1) ∧ w'.cell? ⟨w.heap.size + 1, 2, none⟩ = some (.int .u8 m2) ∧ w'.cell? ⟨w.heap.size + 1, 3, none⟩ = some (.int .u8 m3) ∧ w'.cell? ⟨w.heap.size + 1, 4, none⟩ = some (.int .u8 m4) ∧ w'.cell? ⟨w.heap.size + 1, 5, none⟩ = some (.int .u8 m5) ∧ w'.cell? ⟨w.heap.size + 1, 6, none⟩ = some (.int .u8 m6) ∧ w'.cell? ⟨w.heap.size + 1, 7, none⟩ = some (.int .u8 m7)))
    ((refine SO.out _ ?_; first | exact hV4 | exact hV3 | exact (Below.refl _ _).drew))
    (first
      | (go_at_call 32; refine (mnewkey_no [x0, x1, x2, x3, x4, x5, x6, x7] lv _ hr hlv).mono ?_; rintro e w3 ⟨rfl, hV⟩; have hV3 : Below W.heap.size W w3 := (Below.refl _ _).drew.trans (hV.mono (by first | omega | (simp; omega) | (simp; done))))
      | (go_at_call 34; refine (mksign_nil [m0, m1, m2, m3, m4, m5, m6, m7] j _).mono ?_; rintro e w4 ⟨rfl, hB4⟩; have hV4 : Below W.heap.size W w4 := hV3.trans (hB4.mono hV3.size)))
  all_goals
    go_wp2
    go_ret2
    exact ⟨rfl, hV2.trans (hV4.mono hV2.size)⟩

theorem msign_no (x m : List Int) (lv j : Int) (w : World) (hx : IsN x) (hm : IsN m) (hr : -9223372036854775808 ≤ lv ∧ lv ≤ 9223372036854775807) (hj : ¬ (0 ≤ j ∧ j < capOf lv)) :
    Calls Try.prog 30 #[nv x, .int .i64 lv, .int .i64 j, nv m] w fun e w' => e = .returned (.tuple #[.slice none 0 0, .bool false]) ∧ Below w.heap.size w w' := by
  by_cases h : lv = 1 ∨ lv = 2
  · exact msign_no1 x m lv j w hx hm h hj
  · exact msign_no2 x m lv j w hx hm hr h
set_option maxRecDepth 100000 in
set_option maxHeartbeats 4000000 in
theorem mpublic_any (x : List Int) (lv : Int) (w : World) (hx : IsN x) (hr : -9223372036854775808 ≤ lv ∧ lv ≤ 9223372036854775807) :
    Calls Try.prog 31 #[nv x, .int .i64 lv] w fun e w' => e = .returned (nv (mpub x lv)) ∧ Below w.heap.size w w' := by
  have HX := Lib.hid hx
  have HN := Lib.hid (show IsN (mpub x lv) by unfold mpub; split; exact mroot_isN _ _; exact zeroN_isN)
  by_cases hlv : lv = 1 ∨ lv = 2
  · clear hx
    go_enter Try.func31, Try.ntmps31
    go_wp2_with (first
      | (refine wpList_box_name rfl (.tmp 0) rfl x rfl ?_; intro w1 hA1 hB1 hs1)
      | (refine wpList_load_name _ rfl (.tmp 2) rfl w.heap.size rfl _ _ (hA1.old _) HX.out.1 ?_; refine hold ?_))
    refine Lib.hid ?_
    have hN2 : Blk (w1.alloc (.cells (bsv zeroN).toArray 30)) (w.heap.size + 1) 30 (bsv zeroN).toArray := by rw [← hs1]; exact Blk.new _ _ _
    have hB2 : Below w.heap.size w (w1.alloc (.cells (bsv zeroN).toArray 30)) := hB1.trans ((below1 w1 _).mono (by omega))
    have hlN := hN2.lt
    go_wp2_with (first
      | (go_at_call 32; refine (mnewkey_yes x lv (fun _ => True) _ HX.out hlv).mono ?_; rintro e w3 ⟨B, b, rfl, hK3, hT3, hB3, hb3, hne, hV⟩; simp only [World.size_alloc] at hB3 hb3; have hV3 := hB2.trans (hV.mono hB2.size); have hN3 := hN2.below hV hlN)
      | (go_at_call 33; refine (mkpublic_any x B b 0 (fun _ => True) lv _ HX.out hlv hK3 hne hT3 (by omega) (fun _ _ => trivial)).mono ?_; rintro e w4 ⟨rfl, hT4, hG4⟩; have hN4 := hN3.grown hG4 (fun e => by injection e; omega); have hV4 := hV3.grown hG4 hV3.size (by intro k hk; cases hk; omega))
      | (refine wpList_store_name _ rfl (.tmp 4) (.tmp 8) rfl (w.heap.size + 1) rfl _ rfl _ _ hN4 rfl HN.out.1 ?_; intro w5 hN5 hg5))
    exact ret_name rfl (w.heap.size + 1) _ _ rfl rfl hN5 HN.out.1 ⟨rfl, hV4.grown hg5 hV4.size (by intro j hj; cases hj; omega)⟩
  · have HM : Hid (mpub x lv = zeroN) := if_neg (by omega)
    clear hx
    go_enter Try.func31, Try.ntmps31
    go_wp2_with (first
      | (refine wpList_box_name rfl (.tmp 0) rfl x rfl ?_; intro w1 hA1 hB1 hs1)
      | (refine wpList_load_name _ rfl (.tmp 2) rfl w.heap.size rfl _ _ (hA1.old _) HX.out.1 ?_; refine hold ?_))
    refine Lib.hid ?_
    have hN2 : Blk (w1.alloc (.cells (bsv zeroN).toArray 30)) (w.heap.size + 1) 30 (bsv zeroN).toArray := by rw [← hs1]; exact Blk.new _ _ _
    have hB2 : Below w.heap.size w (w1.alloc (.cells (bsv zeroN).toArray 30)) := hB1.trans ((below1 w1 _).mono (by omega))
    have hlN := hN2.lt
    go_wp2_with (first
      | (go_at_call 32; refine (mnewkey_no x lv _ hr hlv).mono ?_; rintro e w3 ⟨rfl, hV⟩; have hV3 := hB2.trans (hV.mono hB2.size); have hN3 := hN2.below hV hlN)
      | (go_at_call 33; refine (mkpublic_nil _).mono ?_; rintro e w4 ⟨rfl, hB4⟩; have hN4 := hN3.below hB4 hN3.lt; have hV4 := hV3.trans (hB4.mono hV3.size))
      | (refine wpList_store_name _ rfl (.tmp 4) (.tmp 8) rfl (w.heap.size + 1) rfl _ rfl _ _ hN4 rfl rfl ?_; intro w5 hN5 hg5))
    exact ret_name rfl (w.heap.size + 1) _ _ rfl rfl hN5 rfl ⟨by rw [HM.out], hV4.grown hg5 hV4.size (by intro j hj; cases hj; omega)⟩
end Go.Proofs.Ytilhceihelcdgaa
