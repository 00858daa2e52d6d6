/-
  Contracts of the small functions of hash trees: split and depth, in both texts.
  The root of a hash tree of 1, 2, 4, .., 32 names, in both texts.
  The root of a hash tree in the reference's text.
-/
import Derived.Test.YtilhceihelcdgaaH
import Derived.Test.YtilhceihelcdgaaF
namespace Go.Proofs.Ytilhceihelcdgaa
section
open Go.RowKit

theorem split_lit (n : Int) (w : World) (h : n = 2 ∨ n = 4 ∨ n = 8 ∨ n = 16 ∨ n = 32) :
    Calls Try.prog 165 #[.int .i64 n] w fun e w' => e = .returned (.int .i64 (n / 2)) ∧ w = w' := by
  rcases h with rfl | rfl | rfl | rfl | rfl
  all_goals
    go_enter Try.func165, Try.ntmps165
    go_wp2
    refine wp_loop_rounds 6 ?_
    repeat (rw [rounds_succ]; go_wp2)
    go_ret
    exact ⟨rfl, rfl⟩
theorem rsplit_lit (n : Int) (w : World) (h : n = 2 ∨ n = 4 ∨ n = 8 ∨ n = 16 ∨ n = 32) :
    Calls Try.prog 150 #[.int .i64 n] w fun e w' => e = .returned (.int .i64 (n / 2)) ∧ w = w' := by
  rcases h with rfl | rfl | rfl | rfl | rfl
  all_goals
    go_enter Try.func150, Try.ntmps150
    go_wp2
    refine wp_loop_rounds 6 ?_
    repeat (rw [rounds_succ]; go_wp2)
    go_ret
    exact ⟨rfl, rfl⟩

/-- How far the search for a leaf among 32 has come. -/
def DepthAt (n d i : Int) : Prop := 0 ≤ i ∧ i < n ∧ ((n = 32 ∧ d = 0) ∨ (n = 16 ∧ d = 1) ∨ (n = 8 ∧ d = 2) ∨ (n = 4 ∧ d = 3) ∨ (n = 2 ∧ d = 4) ∨ (n = 1 ∧ d = 5))
theorem DepthAt.low {n d i : Int} (h : DepthAt n d i) (hn : 1 < n) (hi : i < n / 2) : DepthAt (n / 2) (d + 1) i := by
  unfold DepthAt at *; omega
theorem DepthAt.high {n d i : Int} (h : DepthAt n d i) (hn : 1 < n) (hi : ¬ i < n / 2) : DepthAt (n - n / 2) (d + 1) (i - n / 2) := by
  unfold DepthAt at *; omega
theorem DepthAt.lit {n d i : Int} (h : DepthAt n d i) (hn : 1 < n) : n = 2 ∨ n = 4 ∨ n = 8 ∨ n = 16 ∨ n = 32 := by
  unfold DepthAt at *; omega
theorem DepthAt.bd {n d i : Int} (h : DepthAt n d i) : 0 ≤ i ∧ i < n ∧ 1 ≤ n ∧ n ≤ 32 ∧ 0 ≤ d ∧ d ≤ 5 := by
  unfold DepthAt at *; omega
theorem DepthAt.last {n d i : Int} (h : DepthAt n d i) (hn : ¬ 1 < n) : d = 5 := by
  unfold DepthAt at *; omega

set_option maxHeartbeats 1000000 in
theorem depth32 (i : Int) (w : World) (h0 : 0 ≤ i) (h1 : i < 32) :
    Calls Try.prog 212 #[.int .i64 i, .int .i64 32] w fun e w' => e = .returned (.int .i64 5) ∧ w = w' := by
  have hd1 : decide (i < 0) = false := by simp; omega
  have hd2 : decide (32 ≤ i) = false := by simp; omega
  have H0 : DepthAt 32 0 i := ⟨h0, h1, by omega⟩
  go_enter Try.func212, Try.ntmps212
  go_wp2
  go_loop [0, 1, 5, 6] (fun a b c _ => ∃ n d j : Int, a = .int .i64 j ∧ b = .int .i64 n ∧ c = .int .i64 d ∧ DepthAt n d j) (fun _ b _ _ => (intOf b).toNat)
  case atStart => exact ⟨32, 0, i, rfl, rfl, rfl, H0⟩
  case round =>
    obtain ⟨n, d, j, rfl, rfl, rfl, hD⟩ := hrel
    obtain ⟨_, _, _, _, _, _⟩ := hD.bd
    by_cases hn : 1 < n
    · have h2 : 0 ≤ n / 2 ∧ n / 2 ≤ 16 := by omega
      have hlt : n / 2 < n := by omega
      have hlt2 : n - n / 2 < n := by have := hD.lit hn; omega
      by_cases hj : j < n / 2
      · go_wp2_with (go_at_call 165; refine (split_lit n _ (hD.lit hn)).mono ?_; rintro e w1 ⟨rfl, rfl⟩)
        go_round
        case rel => exact ⟨n / 2, d + 1, j, rfl, rfl, rfl, hD.low hn hj⟩
        case measure => simp [intOf]; omega
      · go_wp2_with (go_at_call 165; refine (split_lit n _ (hD.lit hn)).mono ?_; rintro e w1 ⟨rfl, rfl⟩)
        go_round
        case rel => exact ⟨n - n / 2, d + 1, j - n / 2, rfl, rfl, rfl, hD.high hn (Int.not_lt.2 hj)⟩
        case measure => simp [intOf]; omega
    · have := hD.last hn
      subst this
      go_wp2_with fail
      go_ret
      exact ⟨rfl, rfl⟩
set_option maxHeartbeats 1000000 in
theorem rdepth32 (i : Int) (w : World) (h0 : 0 ≤ i) (h1 : i < 32) :
    Calls Try.prog 162 #[.int .i64 i, .int .i64 32] w fun e w' => e = .returned (.int .i64 5) ∧ w = w' := by
  have hd1 : decide (i < 0) = false := by simp; omega
  have hd2 : decide (32 ≤ i) = false := by simp; omega
  have H0 : DepthAt 32 0 i := ⟨h0, h1, by omega⟩
  go_enter Try.func162, Try.ntmps162
  go_wp2
  go_loop [0, 1, 5, 6] (fun a b c _ => ∃ n d j : Int, a = .int .i64 j ∧ b = .int .i64 n ∧ c = .int .i64 d ∧ DepthAt n d j) (fun _ b _ _ => (intOf b).toNat)
  case atStart => exact ⟨32, 0, i, rfl, rfl, rfl, H0⟩
  case round =>
    obtain ⟨n, d, j, rfl, rfl, rfl, hD⟩ := hrel
    obtain ⟨_, _, _, _, _, _⟩ := hD.bd
    by_cases hn : 1 < n
    · have h2 : 0 ≤ n / 2 ∧ n / 2 ≤ 16 := by omega
      have hlt : n / 2 < n := by omega
      have hlt2 : n - n / 2 < n := by have := hD.lit hn; omega
      by_cases hj : j < n / 2
      · go_wp2_with (go_at_call 150; refine (rsplit_lit n _ (hD.lit hn)).mono ?_; rintro e w1 ⟨rfl, rfl⟩)
        go_round
        case rel => exact ⟨n / 2, d + 1, j, rfl, rfl, rfl, hD.low hn hj⟩
        case measure => simp [intOf]; omega
      · go_wp2_with (go_at_call 150; refine (rsplit_lit n _ (hD.lit hn)).mono ?_; rintro e w1 ⟨rfl, rfl⟩)
        go_round
        case rel => exact ⟨n - n / 2, d + 1, j - n / 2, rfl, rfl, rfl, hD.high hn (Int.not_lt.2 hj)⟩
        case measure => simp [intOf]; omega
    · have := hD.last hn
      subst this
      go_wp2_with fail
      go_ret
      exact ⟨rfl, rfl⟩
end
section
open Go.RowKit

/-- The root of the tree of 2^d names. -/
def mroot : Nat → List (List Int) → List Int
  | 0, L => hname (17 :: L.getD 0 [])
  | d + 1, L => hname (18 :: (mroot d (L.take (2 ^ d)) ++ mroot d (L.drop (2 ^ d))))
theorem mroot_isN (d : Nat) (L : List (List Int)) : IsN (mroot d L) := by cases d <;> exact hname_isN _

theorem flatten_take {L : List (List Int)} (hL : ∀ x ∈ L, IsN x) (k : Nat) : (L.take k).flatten = L.flatten.take (k * 8) := by
  induction L generalizing k with
  | nil => simp
  | cons x r ih =>
    have hx := hL x (List.mem_cons_self ..)
    cases k with
    | zero => simp
    | succ k =>
      simp only [List.take_succ_cons, List.flatten_cons]
      rw [ih (fun y hy => hL y (List.mem_cons_of_mem _ hy)), List.take_append, hx.1, show (k + 1) * 8 - 8 = k * 8 by omega, List.take_of_length_le (l := x) (by rw [hx.1]; omega)]
theorem flatten_drop {L : List (List Int)} (hL : ∀ x ∈ L, IsN x) (k : Nat) : (L.drop k).flatten = L.flatten.drop (k * 8) := by
  induction L generalizing k with
  | nil => simp
  | cons x r ih =>
    have hx := hL x (List.mem_cons_self ..)
    cases k with
    | zero => simp
    | succ k =>
      simp only [List.drop_succ_cons, List.flatten_cons]
      rw [ih (fun y hy => hL y (List.mem_cons_of_mem _ hy)), List.drop_append, hx.1, show (k + 1) * 8 - 8 = k * 8 by omega, show x.drop ((k + 1) * 8) = [] from List.drop_eq_nil_of_le (by rw [hx.1]; omega), List.nil_append]
theorem bsv_take (l : List Int) (k : Nat) : bsv (l.take k) = (bsv l).take k := by simp [bsv, List.map_take]
theorem bsv_drop (l : List Int) (k : Nat) : bsv (l.drop k) = (bsv l).drop k := by simp [bsv, List.map_drop]

/-- The first k names of a slice; the names behind them. -/
theorem Ns.take {w : World} {b o n cap : Nat} {L : List (List Int)} (h : Ns w (.slice (some ⟨b, o, none⟩) n cap) L) (k c : Nat) (hk : k ≤ n) (hc : k ≤ c) (hcc : c ≤ cap) : Ns w (.slice (some ⟨b, o, none⟩) k c) (L.take k) := by
  obtain ⟨hs, hL⟩ := h
  obtain ⟨a, cap', h1, h2, h3, h0, h4, h5, h6⟩ := id hs
  cases h1
  have hl : (L.take k).length = k := by rw [List.length_take]; omega
  refine ⟨⟨_, _, by rw [hl], by omega, by omega, (fun e => by cases e), by omega, by rw [bsv_length, flatten_len (fun x hx => hL x (List.mem_of_mem_take hx))], fun hn => ⟨b, o, rfl, fun j hj => ?_⟩⟩, fun x hx => hL x (List.mem_of_mem_take hx)⟩
  rw [hl] at hn hj
  rw [hs.cell (by omega) j (by omega), flatten_take hL, bsv_take, List.getElem?_take, if_pos hj]
theorem Ns.drop {w : World} {b o n cap : Nat} {L : List (List Int)} (h : Ns w (.slice (some ⟨b, o, none⟩) n cap) L) (k : Nat) (hk : k < n) : Ns w (.slice (some ⟨b, o + k * 8, none⟩) (n - k) (cap - k)) (L.drop k) := by
  obtain ⟨hs, hL⟩ := h
  obtain ⟨a, cap', h1, h2, h3, h0, h4, h5, h6⟩ := id hs
  cases h1
  have hl : (L.drop k).length = L.length - k := by rw [List.length_drop]
  refine ⟨⟨_, _, by rw [hl], by omega, by omega, (fun e => by cases e), by omega, by rw [bsv_length, flatten_len (fun x hx => hL x (List.mem_of_mem_drop hx))], fun hn => ⟨b, o + k * 8, rfl, fun j hj => ?_⟩⟩, fun x hx => hL x (List.mem_of_mem_drop hx)⟩
  rw [hl] at hj
  have := hs.cell (by omega) (k * 8 + j) (by omega)
  rw [← Nat.add_assoc] at this
  rw [this, flatten_drop hL, bsv_drop, List.getElem?_drop]
/-- The cells of the i-th name. -/
theorem Ns.at {w : World} {b o n cap : Nat} {L : List (List Int)} (h : Ns w (.slice (some ⟨b, o, none⟩) n cap) L) (hn : n = L.length) (i : Nat) (hi : i < n) : (∀ j, j < 8 → w.cell? ⟨b, o + i * 8 + j, none⟩ = some (.int .u8 ((L.getD i []).getD j 0))) ∧ IsN (L.getD i []) := by
  subst hn
  have hx : IsN (L.getD i []) := by
    rw [List.getD_eq_getElem?_getD, List.getElem?_eq_getElem hi]; exact h.2 _ (List.getElem_mem hi)
  refine ⟨fun j hj => ?_, hx⟩
  have := h.1.cell (by omega) (i * 8 + j) (by omega)
  rw [← Nat.add_assoc] at this
  rw [this, bsv_flatten_get h.2 i j hi hj, bsv_get (by rw [hx.1]; exact hj)]

set_option maxHeartbeats 1000000 in
theorem single_any (x : List Int) (w : World) (hx : IsN x) :
    Calls Try.prog 164 #[nv x] w fun e w' => e = .returned (nv (hname (17 :: x))) ∧ Below w.heap.size w w' := by
  have HX := Lib.hid hx
  obtain ⟨a0, a1, a2, a3, a4, a5, a6, a7, hxe, _⟩ := hx.cases
  have hnx : nv x = .agg #[.int .u8 a0, .int .u8 a1, .int .u8 a2, .int .u8 a3, .int .u8 a4, .int .u8 a5, .int .u8 a6, .int .u8 a7] := by rw [hxe]; rfl
  rw [hnx]
  clear hx
  go_enter Try.func164, Try.ntmps164
  go_wp2_with fail
  generalize hW : World.alloc _ _ = W2
  have hA2 : Blk W2 w.heap.size 30 (bsv x).toArray := by rw [← hW, hxe]; exact (Blk.new _ _ _).old _
  have hN2 : Blk W2 (w.heap.size + 1) 30 (bsv zeroN).toArray := by rw [← hW]; exact Blk.new' _ _ _ (by simp)
  have hV2 : Below w.heap.size w W2 := by rw [← hW]; exact below2 w _ _
  have hz2 := hN2.lt
  have hBs : Bs W2 (.slice (some ⟨w.heap.size, 0, none⟩) 8 8) x := by
    have := Sl.whole hA2 (by rw [HX.out.1]; omega)
    rw [HX.out.1] at this
    exact ⟨by rw [HX.out.1]; exact this, HX.out.2⟩
  have HBS := Lib.hid hBs
  clear hW hnx hxe hBs
  refine (tagged_any 17 x _ _ HBS.out ⟨by omega, by omega⟩ (by have := HX.out.1; omega)).mono ?_
  rintro e w3 ⟨rfl, hB3⟩
  go_wp2_with (refine wpList_store_name _ rfl (.tmp 2) (.tmp 4) rfl (w.heap.size + 1) rfl _ rfl _ _ (hN2.below hB3 hN2.lt) rfl rfl ?_; intro w4 hN4 hg4)
  have hV3 := hV2.trans (hB3.mono hV2.size)
  exact ret_name rfl (w.heap.size + 1) _ _ rfl rfl hN4 rfl ⟨rfl, hV3.grown hg4 hV3.size (by intro j hj; cases hj; omega)⟩

set_option maxHeartbeats 1000000 in
theorem root_zero (L : List (List Int)) (v : Value) (w : World) (h : Ns w v L) (hL : L.length = 1) :
    Calls Try.prog 92 #[v] w fun e w' => e = .returned (nv (mroot 0 L)) ∧ Below w.heap.size w w' := by
  have HS := Lib.hid h
  obtain ⟨a, cap, rfl, hnc, hcm, _, _, _, hc⟩ := id h.1
  rw [hL] at HS
  obtain ⟨b, o, rfl, _⟩ := hc (by omega)
  obtain ⟨h0, h1⟩ := HS.out.at hL.symm 0 (by omega)
  simp only [Nat.zero_mul, Nat.add_zero] at h0
  have H0 := Lib.hid h0
  have hm : mroot 0 L = hname (17 :: L.getD 0 []) := rfl
  rw [hm, hL]
  generalize L.getD 0 [] = x at *
  have H1 := Lib.hid h1
  clear h hc h0 h1 hm
  rw [hL] at hnc
  unfold maxLen at hcm
  have hN0 := Blk.new w 30 (bsv zeroN).toArray
  go_enter Try.func92, Try.ntmps92
  go_wp2_with (first
    | (refine wpList_load_mid_name _ rfl (.tmp 12) rfl b o rfl x H1.out.1 (fun j hj => ?_) ?_; exact (below1 w _).cell (World.block_lt_of_cell? _ _ (H0.out j hj)) ▸ H0.out j hj)
    | (go_at_call 164; refine (single_any x _ H1.out).mono ?_; rintro e w3 ⟨rfl, hB3⟩)
    | (refine wpList_store_name _ rfl (.tmp 2) (.tmp 14) rfl w.heap.size rfl _ rfl _ _ (hN0.below hB3 (by simp)) rfl rfl ?_; intro w4 hN4 hg4))
  exact ret_name rfl w.heap.size _ _ rfl rfl hN4 rfl ⟨rfl, ((below1 w _).trans (hB3.mono (by simp))).grown hg4 ((below1 w _).trans (hB3.mono (by simp))).size (by intro j hj; cases hj; omega)⟩

/-- What a slice of n names costs the walk: its bounds. -/
theorem Ns.bds {w : World} {v : Value} {L : List (List Int)} (h : Ns w v L) (hL : 0 < L.length) : ∃ b o cap, v = .slice (some ⟨b, o, none⟩) L.length cap ∧ L.length ≤ cap ∧ cap ≤ 9223372036854775807 := by
  obtain ⟨a, cap, rfl, hnc, hcm, _, _, _, hc⟩ := h.1
  obtain ⟨b, o, rfl, _⟩ := hc hL
  exact ⟨b, o, cap, rfl, hnc, by unfold maxLen at hcm; omega⟩

set_option maxHeartbeats 2000000 in
theorem root_succ (d : Nat) (hd : d < 5) (ih : Hid (∀ (L : List (List Int)) (v : Value) (w : World), Ns w v L → L.length = 2 ^ d → Calls Try.prog 92 #[v] w fun e w' => e = .returned (nv (mroot d L)) ∧ Below w.heap.size w w'))
    (L : List (List Int)) (v : Value) (w : World) (h : Ns w v L) (hL : L.length = 2 ^ (d + 1)) :
    Calls Try.prog 92 #[v] w fun e w' => e = .returned (nv (mroot (d + 1) L)) ∧ Below w.heap.size w w' := by
  have h2 : (L.length : Int) = 2 ∨ (L.length : Int) = 4 ∨ (L.length : Int) = 8 ∨ (L.length : Int) = 16 ∨ (L.length : Int) = 32 := by
    rw [hL]; rcases (show d = 0 ∨ d = 1 ∨ d = 2 ∨ d = 3 ∨ d = 4 by omega) with rfl | rfl | rfl | rfl | rfl <;> decide
  have hk : 2 ^ d ≤ 16 := by rcases (show d = 0 ∨ d = 1 ∨ d = 2 ∨ d = 3 ∨ d = 4 by omega) with rfl | rfl | rfl | rfl | rfl <;> decide
  have hpos : 0 < 2 ^ d := Nat.pow_pos (by omega)
  have hLk : L.length = 2 ^ d + 2 ^ d := by rw [hL, Nat.pow_succ]; omega
  obtain ⟨b, o, cap, rfl, hnc, hcm⟩ := h.bds (by omega)
  have hsp := split_lit L.length w h2
  have hT := h.take (2 ^ d) cap (by omega) (by omega) (Nat.le_refl _)
  have hD := h.drop (2 ^ d) (by omega)
  have hm : mroot (d + 1) L = hname (18 :: (mroot d (L.take (2 ^ d)) ++ mroot d (L.drop (2 ^ d)))) := rfl
  have lT : (L.take (2 ^ d)).length = 2 ^ d := by rw [List.length_take]; omega
  have lD : (L.drop (2 ^ d)).length = 2 ^ d := by rw [List.length_drop]; omega
  have iT := fun (v : Value) (w : World) (h : Ns w v (L.take (2 ^ d))) => ih.out _ v w h lT
  have iD := fun (v : Value) (w : World) (h : Ns w v (L.drop (2 ^ d))) => ih.out _ v w h lD
  have nT := mroot_isN d (L.take (2 ^ d))
  have nD := mroot_isN d (L.drop (2 ^ d))
  have hdiv : (L.length : Int) / 2 = ((2 ^ d : Nat) : Int) := by omega
  rw [hdiv] at hsp
  rw [hm]
  generalize mroot d (L.take (2 ^ d)) = rT at *
  generalize mroot d (L.drop (2 ^ d)) = rD at *
  generalize L.take (2 ^ d) = LT at *
  generalize L.drop (2 ^ d) = LD at *
  generalize 2 ^ d = k at *
  generalize hn : L.length = n at *
  have HT := Lib.hid hT
  have HD := Lib.hid hD
  have IT := Lib.hid iT
  have ID := Lib.hid iD
  have NT := Lib.hid nT
  have ND := Lib.hid nD
  have hn2 : n - k = k := by omega
  have hsp2 : ∀ w, Calls Try.prog 165 #[.int .i64 n] w fun e w' => e = .returned (.int .i64 k) ∧ w = w' := fun w => by
    have := split_lit n w h2
    rwa [hdiv] at this
  have SP := Lib.hid hsp2
  have hlt : (k : Int) ≤ (n : Int) := by omega
  have hlt2 : k ≤ cap := by omega
  have hck : ¬ cap = k := by omega
  have hne0 : ((n : Int) == 0) = false := by simp; omega
  have hne1 : ((n : Int) == 1) = false := by simp; omega
  have HN2 := Lib.hid hn2
  clear h hT hD iT iD nT nD lT lD hm hn h2 hdiv hsp hsp2 hLk hL hn2 ih
  have hN0 := Blk.new w 30 (bsv zeroN).toArray
  go_enter Try.func92, Try.ntmps92
  go_wp2_with (go_at_call 165; refine (SP.out _).mono ?_; rintro e w1 ⟨rfl, rfl⟩)
  generalize hW : World.alloc _ _ = W1
  have hN1 : Blk W1 w.heap.size 30 (bsv zeroN).toArray := by rw [← hW]; exact hN0
  have hV1 : Below w.heap.size w W1 := by rw [← hW]; exact below1 w _
  have hz1 := hN1.lt
  clear hW hN0
  go_region_law (first
    | (go_simp; go_at_call_of 92 (cap - k); refine (ID.out _ _ (by exact ((HD.out.below hV1).drew.below hB2))).mono ?_; rintro e w3 ⟨rfl, hB3⟩)
    | (go_simp; go_at_call 92; refine (IT.out _ _ (by exact (HT.out.below hV1).drew)).mono ?_; rintro e w2 ⟨rfl, hB2⟩)
    | (go_simp; go_at_call 166; refine (Calls.lit8 (pair_any 18 rT rD _ ⟨by omega, by omega⟩ NT.out ND.out) rfl).mono ?_; rintro e w4 ⟨c0, c1, c2, c3, c4, c5, c6, c7, rfl, HC, hB4⟩; have hz2 := hB2.size; have hz3 := hB3.size; simp only [World.size_drew] at hz2; have hN4 := ((hN1.drew.below hB2 (by simp; omega)).below hB3 (by omega)).below hB4 (by omega); obtain ⟨⟨d0, d1, d2, d3⟩, ⟨d4, d5, d6, d7⟩, df⟩ := hN4.zero8))
  go_wp2
  have hz2 := hB2.size
  have hz3 := hB3.size
  simp only [World.size_drew] at hz2
  have hV4 := ((hV1.drew.trans (hB2.mono (by simp; omega))).trans (hB3.mono (by omega))).trans (hB4.mono (by omega))
  refine ret_name rfl w.heap.size _ [c0, c1, c2, c3, c4, c5, c6, c7] rfl rfl (hN4.set8 c0 c1 c2 c3 c4 c5 c6 c7) rfl ⟨?_, below_set8 hV4 (Nat.le_refl _) c0 c1 c2 c3 c4 c5 c6 c7⟩
  rw [← HC.out]

theorem root_any (d : Nat) (hd : d ≤ 5) : ∀ (L : List (List Int)) (v : Value) (w : World), Ns w v L → L.length = 2 ^ d → Calls Try.prog 92 #[v] w fun e w' => e = .returned (nv (mroot d L)) ∧ Below w.heap.size w w' := by
  induction d with
  | zero => exact fun L v w h hL => root_zero L v w h hL
  | succ d ih => exact fun L v w h hL => root_succ d (by omega) (Lib.hid (ih (by omega))) L v w h hL
end
section
open Go.RowKit

set_option maxHeartbeats 1000000 in
theorem rroot_zero (L : List (List Int)) (v : Value) (w : World) (h : Ns w v L) (hL : L.length = 1) :
    Calls Try.prog 86 #[v] w fun e w' => e = .returned (nv (mroot 0 L)) ∧ Below w.heap.size w w' := by
  have HS := Lib.hid h
  obtain ⟨a, cap, rfl, hnc, hcm, _, _, _, hc⟩ := id h.1
  rw [hL] at HS
  obtain ⟨b, o, rfl, _⟩ := hc (by omega)
  obtain ⟨h0, h1⟩ := HS.out.at hL.symm 0 (by omega)
  simp only [Nat.zero_mul, Nat.add_zero] at h0
  have hm : mroot 0 L = hname (17 :: L.getD 0 []) := rfl
  rw [hm, hL]
  generalize L.getD 0 [] = x at *
  have hBs : Bs w (.slice (some ⟨b, o, none⟩) 8 8) x := by
    refine ⟨⟨_, _, by rw [h1.1], by rw [h1.1]; omega, by unfold maxLen; omega, (fun e => by cases e), by rw [h1.1]; omega, by rw [bsv_length]; omega, fun _ => ⟨b, o, rfl, fun j hj => ?_⟩⟩, h1.2⟩
    rw [h1.1] at hj
    rw [h0 j (by omega), bsv_get (by rw [h1.1]; omega)]
  have HBS := Lib.hid hBs
  have H1 := Lib.hid h1
  clear h hc h0 h1 hm hBs
  rw [hL] at hnc
  unfold maxLen at hcm
  have hN0 := Blk.new w 30 (bsv zeroN).toArray
  go_enter Try.func86, Try.ntmps86
  go_wp2_with (first
    | (go_at_call 133; refine (rtagged_any 17 x _ _ (HBS.out.below (below1 w _)) ⟨by omega, by omega⟩ (by have := H1.out.1; omega)).mono ?_; rintro e w3 ⟨rfl, hB3⟩)
    | (refine wpList_store_name _ rfl (.tmp 2) (.tmp 14) rfl w.heap.size rfl _ rfl _ _ (hN0.below hB3 (by simp)) rfl rfl ?_; intro w4 hN4 hg4))
  exact ret_name rfl w.heap.size _ _ rfl rfl hN4 rfl ⟨rfl, ((below1 w _).trans (hB3.mono (by simp))).grown hg4 ((below1 w _).trans (hB3.mono (by simp))).size (by intro j hj; cases hj; omega)⟩

set_option maxHeartbeats 2000000 in
theorem rroot_succ (d : Nat) (hd : d < 5) (ih : Hid (∀ (L : List (List Int)) (v : Value) (w : World), Ns w v L → L.length = 2 ^ d → Calls Try.prog 86 #[v] w fun e w' => e = .returned (nv (mroot d L)) ∧ Below w.heap.size w w'))
    (L : List (List Int)) (v : Value) (w : World) (h : Ns w v L) (hL : L.length = 2 ^ (d + 1)) :
    Calls Try.prog 86 #[v] w fun e w' => e = .returned (nv (mroot (d + 1) L)) ∧ Below w.heap.size w w' := by
  have h2 : (L.length : Int) = 2 ∨ (L.length : Int) = 4 ∨ (L.length : Int) = 8 ∨ (L.length : Int) = 16 ∨ (L.length : Int) = 32 := by
    rw [hL]; rcases (show d = 0 ∨ d = 1 ∨ d = 2 ∨ d = 3 ∨ d = 4 by omega) with rfl | rfl | rfl | rfl | rfl <;> decide
  have hk : 2 ^ d ≤ 16 := by rcases (show d = 0 ∨ d = 1 ∨ d = 2 ∨ d = 3 ∨ d = 4 by omega) with rfl | rfl | rfl | rfl | rfl <;> decide
  have hpos : 0 < 2 ^ d := Nat.pow_pos (by omega)
  have hLk : L.length = 2 ^ d + 2 ^ d := by rw [hL, Nat.pow_succ]; omega
  obtain ⟨b, o, cap, rfl, hnc, hcm⟩ := h.bds (by omega)
  have hsp := rsplit_lit L.length w h2
  have hT := h.take (2 ^ d) cap (by omega) (by omega) (Nat.le_refl _)
  have hD := h.drop (2 ^ d) (by omega)
  have hm : mroot (d + 1) L = hname (18 :: (mroot d (L.take (2 ^ d)) ++ mroot d (L.drop (2 ^ d)))) := rfl
  have lT : (L.take (2 ^ d)).length = 2 ^ d := by rw [List.length_take]; omega
  have lD : (L.drop (2 ^ d)).length = 2 ^ d := by rw [List.length_drop]; omega
  have iT := fun (v : Value) (w : World) (h : Ns w v (L.take (2 ^ d))) => ih.out _ v w h lT
  have iD := fun (v : Value) (w : World) (h : Ns w v (L.drop (2 ^ d))) => ih.out _ v w h lD
  have nT := mroot_isN d (L.take (2 ^ d))
  have nD := mroot_isN d (L.drop (2 ^ d))
  have hdiv : (L.length : Int) / 2 = ((2 ^ d : Nat) : Int) := by omega
  rw [hdiv] at hsp
  rw [hm]
  generalize mroot d (L.take (2 ^ d)) = rT at *
  generalize mroot d (L.drop (2 ^ d)) = rD at *
  generalize L.take (2 ^ d) = LT at *
  generalize L.drop (2 ^ d) = LD at *
  generalize 2 ^ d = k at *
  generalize hn : L.length = n at *
  have HT := Lib.hid hT
  have HD := Lib.hid hD
  have IT := Lib.hid iT
  have ID := Lib.hid iD
  have NT := Lib.hid nT
  have ND := Lib.hid nD
  have hn2 : n - k = k := by omega
  have hsp2 : ∀ w, Calls Try.prog 150 #[.int .i64 n] w fun e w' => e = .returned (.int .i64 k) ∧ w = w' := fun w => by
    have := rsplit_lit n w h2
    rwa [hdiv] at this
  have SP := Lib.hid hsp2
  have hlt : (k : Int) ≤ (n : Int) := by omega
  have hlt2 : k ≤ cap := by omega
  have hck : ¬ cap = k := by omega
  have hne0 : ((n : Int) == 0) = false := by simp; omega
  have hne1 : ((n : Int) == 1) = false := by simp; omega
  have HN2 := Lib.hid hn2
  clear h hT hD iT iD nT nD lT lD hm hn h2 hdiv hsp hsp2 hLk hL hn2 ih
  have hN0 := Blk.new w 30 (bsv zeroN).toArray
  go_enter Try.func86, Try.ntmps86
  go_wp2_with (go_at_call 150; refine (SP.out _).mono ?_; rintro e w1 ⟨rfl, rfl⟩)
  generalize hW : World.alloc _ _ = W1
  have hN1 : Blk W1 w.heap.size 30 (bsv zeroN).toArray := by rw [← hW]; exact hN0
  have hV1 : Below w.heap.size w W1 := by rw [← hW]; exact below1 w _
  have hz1 := hN1.lt
  clear hW hN0
  go_region_law (first
    | (go_simp; go_at_call_of 86 (cap - k); refine (ID.out _ _ (by exact ((HD.out.below hV1).drew.below hB2))).mono ?_; rintro e w3 ⟨rfl, hB3⟩)
    | (go_simp; go_at_call 86; refine (IT.out _ _ (by exact (HT.out.below hV1).drew)).mono ?_; rintro e w2 ⟨rfl, hB2⟩)
    | (go_simp; go_at_call 155; refine (Calls.lit8 (rpair_any 18 rT rD _ ⟨by omega, by omega⟩ NT.out ND.out) rfl).mono ?_; rintro e w4 ⟨c0, c1, c2, c3, c4, c5, c6, c7, rfl, HC, hB4⟩; have hz2 := hB2.size; have hz3 := hB3.size; simp only [World.size_drew] at hz2; have hN4 := ((hN1.drew.below hB2 (by simp; omega)).below hB3 (by omega)).below hB4 (by omega); obtain ⟨⟨d0, d1, d2, d3⟩, ⟨d4, d5, d6, d7⟩, df⟩ := hN4.zero8))
  go_wp2
  have hz2 := hB2.size
  have hz3 := hB3.size
  simp only [World.size_drew] at hz2
  have hV4 := ((hV1.drew.trans (hB2.mono (by simp; omega))).trans (hB3.mono (by omega))).trans (hB4.mono (by omega))
  refine ret_name rfl w.heap.size _ [c0, c1, c2, c3, c4, c5, c6, c7] rfl rfl (hN4.set8 c0 c1 c2 c3 c4 c5 c6 c7) rfl ⟨?_, below_set8 hV4 (Nat.le_refl _) c0 c1 c2 c3 c4 c5 c6 c7⟩
  rw [← HC.out]

theorem rroot_any (d : Nat) (hd : d ≤ 5) : ∀ (L : List (List Int)) (v : Value) (w : World), Ns w v L → L.length = 2 ^ d → Calls Try.prog 86 #[v] w fun e w' => e = .returned (nv (mroot d L)) ∧ Below w.heap.size w w' := by
  induction d with
  | zero => exact fun L v w h hL => rroot_zero L v w h hL
  | succ d ih => exact fun L v w h hL => rroot_succ d (by omega) (Lib.hid (ih (by omega))) L v w h hL
end
end Go.Proofs.Ytilhceihelcdgaa
