/-
  Follow at 32 leaves.
  The reference's Follow at 32 leaves.
-/
import Derived.Test.YtilhceihelcdgaaOC
namespace Go.Proofs.Ytilhceihelcdgaa
section
open Go.RowKit

set_option maxHeartbeats 1000000 in
theorem follow32 (leaf : List Int) (P : List (List Int)) (v : Value) (i : Int) (w : World) (hl : IsN leaf) (h : Ns w v P) (hP : P.length = 5) (h0 : 0 ≤ i) (h1 : i < 32) :
    Calls Try.prog 158 #[nv leaf, .int .i64 i, .int .i64 32, v] w fun e w' => e = .returned (.tuple #[nv (mfollow 5 leaf i P), .bool true]) ∧ Below w.heap.size w w' := by
  have HX := Lib.hid hl
  have CP := Lib.hid (fun (w : World) (v : Value) (h : Ns w v P) => comp_any 5 (by omega) leaf P v i w hl h hP h0 h1)
  have HS := Lib.hid h
  have HF := Lib.hid (mfollow_isN 5 leaf i P)
  obtain ⟨sb, so, sc, rfl, hs1, hs2⟩ := h.bds (by omega)
  rw [hP] at HS hs1 ⊢
  generalize mfollow 5 leaf i P = r at *
  clear h hl hP
  go_enter Try.func158, Try.ntmps158
  go_wp2_with (first
    | (refine wpList_box_name rfl (.tmp 0) rfl leaf rfl ?_; intro w1 hA1 hB1 hz1)
    | (go_at_call 212; refine (depth32 i _ h0 h1).mono ?_; rintro e w2 ⟨rfl, rfl⟩)
    | (refine wpList_load_name _ rfl (.tmp 4) rfl w.heap.size rfl _ _ (hA1.old _) HX.out.1 ?_; refine hold ?_))
  refine Lib.hid ?_
  have hN2 : Blk (w1.alloc (.cells (bsv zeroN).toArray 30)) (w.heap.size + 1) 30 (bsv zeroN).toArray := by rw [← hz1]; exact Blk.new _ _ _
  have hB2 : Below w.heap.size w (w1.alloc (.cells (bsv zeroN).toArray 30)) := hB1.trans ((below1 w1 _).mono (by omega))
  go_wp2_with (first
    | (go_at_call 213; refine (CP.out _ _ (HS.out.below hB2)).mono ?_; rintro e w3 ⟨rfl, hB3⟩)
    | (refine wpList_store_name _ rfl (.tmp 8) (.tmp 27) rfl (w.heap.size + 1) rfl _ rfl _ _ (hN2.below hB3 hN2.lt) rfl HF.out.1 ?_; intro w4 hN4 hg4))
  have hV3 := hB2.trans (hB3.mono hB2.size)
  exact ret_name2 rfl (w.heap.size + 1) _ _ (.bool true) rfl rfl rfl hN4 HF.out.1 ⟨rfl, hV3.grown hg4 hV3.size (by intro j hj; cases hj; omega)⟩

set_option maxHeartbeats 1000000 in
theorem rcomp_zero (leaf : List Int) (v : Value) (i : Int) (w : World) (hl : IsN leaf) :
    Calls Try.prog 163 #[nv leaf, .int .i64 i, .int .i64 1, v] w fun e w' => e = .returned (nv (mfollow 0 leaf i [])) ∧ Below w.heap.size w w' := by
  have HX := Lib.hid hl
  have HM : Hid (mfollow 0 leaf i [] = hname (17 :: leaf)) := rfl
  clear hl
  go_enter Try.func163, Try.ntmps163
  go_wp2_with (first
    | (refine wpList_box_name rfl (.tmp 0) rfl leaf rfl ?_; intro w1 hA1 hB1 hz1)
    | (go_at_call 133; refine hold ?_))
  refine Lib.hid ?_
  have hN2 : Blk (w1.alloc (.cells (bsv zeroN).toArray 30)) (w.heap.size + 1) 30 (bsv zeroN).toArray := by rw [← hz1]; exact Blk.new _ _ _
  have hB2 : Below w.heap.size w (w1.alloc (.cells (bsv zeroN).toArray 30)) := hB1.trans ((below1 w1 _).mono (by omega))
  refine (rtagged_any 17 leaf _ _ ⟨Sl.name (hA1.old _) HX.out, HX.out.2⟩ ⟨by omega, by omega⟩ (by rw [HX.out.1]; decide)).mono ?_
  rintro e w3 ⟨rfl, hB3⟩
  go_wp2_with (refine wpList_store_name _ rfl (.tmp 8) (.tmp 14) rfl (w.heap.size + 1) rfl _ rfl _ _ (hN2.below hB3 hN2.lt) rfl rfl ?_; intro w4 hN4 hg4)
  have hV3 := hB2.trans (hB3.mono hB2.size)
  exact ret_name rfl (w.heap.size + 1) _ _ rfl rfl hN4 rfl ⟨by rw [HM.out], hV3.grown hg4 hV3.size (by intro j hj; cases hj; omega)⟩

set_option maxHeartbeats 8000000 in
theorem rcomp_succ (d : Nat) (hd : d < 5) (ih : Hid (∀ (leaf : List Int) (P : List (List Int)) (v : Value) (i : Int) (w : World), IsN leaf → Ns w v P → P.length = d → 0 ≤ i → i < (2 ^ d : Nat) → Calls Try.prog 163 #[nv leaf, .int .i64 i, .int .i64 (2 ^ d : Nat), v] w fun e w' => e = .returned (nv (mfollow d leaf i P)) ∧ Below w.heap.size w w'))
    (leaf : List Int) (P : List (List Int)) (v : Value) (i : Int) (w : World) (hl : IsN leaf) (h : Ns w v P) (hP : P.length = d + 1) (i0 : 0 ≤ i) (i1 : i < (2 ^ (d + 1) : Nat)) :
    Calls Try.prog 163 #[nv leaf, .int .i64 i, .int .i64 (2 ^ (d + 1) : Nat), v] w fun e w' => e = .returned (nv (mfollow (d + 1) leaf i P)) ∧ Below w.heap.size w w' := by
  have HX := Lib.hid hl
  obtain ⟨b, o, cap, rfl, hnc, hcm⟩ := h.bds (by omega)
  rw [hP] at h hnc ⊢
  have hT := h.take d cap (by omega) (by omega) (Nat.le_refl _)
  have lT : (P.take d).length = d := by rw [List.length_take]; omega
  obtain ⟨p0, p1, p2, p3, p4, p5, p6, p7, hpe, hA8, hpN⟩ := h.last hP.symm d (by omega)
  have hm : mfollow (d + 1) leaf i P = if i < (2 ^ d : Nat) then hname (18 :: (mfollow d leaf i (P.take d) ++ P.getD d [])) else hname (18 :: (P.getD d [] ++ mfollow d leaf (i - (2 ^ d : Nat)) (P.take d))) := rfl
  rw [hm]
  have iT := fun (v : Value) (w : World) (h : Ns w v (P.take d)) (hi : i < (2 ^ d : Nat)) => ih.out leaf _ v i w hl h lT i0 hi
  have iD := fun (v : Value) (w : World) (h : Ns w v (P.take d)) (hi : (2 ^ d : Nat) ≤ i) => ih.out leaf _ v (i - (2 ^ d : Nat)) w hl h lT (by omega) (by rw [Nat.pow_succ] at i1; omega)
  have nT := mfollow_isN d leaf i (P.take d)
  have nD := mfollow_isN d leaf (i - (2 ^ d : Nat)) (P.take d)
  have h2 : ((2 ^ (d + 1) : Nat) : Int) = 2 ∨ ((2 ^ (d + 1) : Nat) : Int) = 4 ∨ ((2 ^ (d + 1) : Nat) : Int) = 8 ∨ ((2 ^ (d + 1) : Nat) : Int) = 16 ∨ ((2 ^ (d + 1) : Nat) : Int) = 32 := by
    rcases (show d = 0 ∨ d = 1 ∨ d = 2 ∨ d = 3 ∨ d = 4 by omega) with rfl | rfl | rfl | rfl | rfl <;> decide
  have hsp := fun w => rsplit_lit _ w h2
  have hk : 2 ^ d ≤ 16 := by rcases (show d = 0 ∨ d = 1 ∨ d = 2 ∨ d = 3 ∨ d = 4 by omega) with rfl | rfl | rfl | rfl | rfl <;> decide
  have hpos : 0 < 2 ^ d := Nat.pow_pos (by omega)
  have hn2 : 2 ^ (d + 1) = 2 ^ d + 2 ^ d := by rw [Nat.pow_succ]; omega
  rw [hn2] at hsp i1 ⊢
  have hdiv : (((2 ^ d + 2 ^ d : Nat) : Int)) / 2 = ((2 ^ d : Nat) : Int) := by omega
  rw [hdiv] at hsp
  generalize mfollow d leaf i (P.take d) = rT at *
  generalize mfollow d leaf (i - (2 ^ d : Nat)) (P.take d) = rD at *
  obtain ⟨a0, a1, a2, a3, a4, a5, a6, a7, hxe, _⟩ := hl.cases
  have hnx : nv leaf = .agg #[.int .u8 a0, .int .u8 a1, .int .u8 a2, .int .u8 a3, .int .u8 a4, .int .u8 a5, .int .u8 a6, .int .u8 a7] := by rw [hxe]; rfl
  rw [hnx] at iT iD ⊢
  generalize P.take d = PT at *
  generalize 2 ^ d = k at *
  generalize P.getD d [] = pl at *
  subst hpe
  have HT := Lib.hid hT
  have IT := Lib.hid iT
  have ID := Lib.hid iD
  have NT := Lib.hid nT
  have ND := Lib.hid nD
  have NP := Lib.hid hpN
  have SP := Lib.hid hsp
  have hcast : (((k + k : Nat) : Int)) = (k : Int) + (k : Int) := by omega
  rw [hcast] at SP ⊢
  have hne1 : ((k : Int) + (k : Int) == 1) = false := by simp; omega
  have hdc : d ≤ cap := by omega
  have hw3 : IntKind.i64.wrap (d : Int) = (d : Int) := by rw [IntKind.wrap_i64]; omega
  have hdi : (d : Int) < (d : Int) + 1 := by omega
  have hw1 : IntKind.i64.wrap (i - (k : Int)) = i - (k : Int) := by rw [IntKind.wrap_i64]; omega
  have hw2 : IntKind.i64.wrap (k : Int) = (k : Int) := by rw [IntKind.wrap_i64]; omega
  clear h hT lT hpN hm iT iD nT nD h2 hsp hn2 hdiv ih hP hl hcast
  by_cases hik : i < (k : Int)
  · rw [if_pos hik]
    go_enter Try.func163, Try.ntmps163
    go_wp2_with fail
    generalize hW : World.alloc _ _ = W2
    have hA2 : Blk W2 w.heap.size 30 (bsv [a0, a1, a2, a3, a4, a5, a6, a7]).toArray := by rw [← hW]; exact (Blk.new _ _ _).old _
    have hN2 : Blk W2 (w.heap.size + 1) 30 (bsv zeroN).toArray := by rw [← hW]; exact Blk.new' _ _ _ (by simp)
    have hV2 : Below w.heap.size w W2 := by rw [← hW]; exact below2 w _ _
    have hz2 := hN2.lt
    have HA := Lib.hid hA8
    obtain ⟨⟨q0, q1, q2, q3⟩, q4, q5, q6, q7⟩ := hA8.keep (Keeps.of_below hV2)
    have hbz : b < W2.heap.size := World.block_lt_of_cell? _ _ q0
    clear hW hA8
    go_region_law (go_simp; go_at_call 150; refine (SP.out _).mono ?_; rintro e w1 ⟨rfl, rfl⟩)
    all_goals
      generalize hW : World.drew _ = W3
      have hV23 : Below W2.heap.size W2 W3 := by rw [← hW]; exact (below1 W2 (.cells (bsv [p0, p1, p2, p3, p4, p5, p6, p7]).toArray 30)).drew
      have hU3 : Blk W3 W2.heap.size 30 (bsv [p0, p1, p2, p3, p4, p5, p6, p7]).toArray := by rw [← hW]; exact (Blk.new W2 30 (bsv [p0, p1, p2, p3, p4, p5, p6, p7]).toArray).drew
      have hN3 := hN2.below hV23 hz2
      have hz3 := hN3.lt
      have hV3 := hV2.trans (hV23.mono hV2.size)
      obtain ⟨⟨m0, m1, m2, m3⟩, m4, m5, m6, m7⟩ := (hA2.below hV23 (by omega)).at8
      obtain ⟨⟨n0, n1, n2, n3⟩, n4, n5, n6, n7⟩ := hU3.at8
      clear hW q0 q1 q2 q3 q4 q5 q6 q7
      go_wp2_with fail
      go_region_law (first
        | (go_simp; go_at_call 163; refine (IT.out _ _ (by exact (HT.out.below hV3).drew) hik).mono ?_; rintro e w4 ⟨rfl, hB4⟩; obtain ⟨⟨s0, s1, s2, s3⟩, s4, s5, s6, s7⟩ := (hU3.drew.below hB4 hU3.lt).at8)
        | (go_simp; go_at_call 155; refine (Calls.lit8 (rpair_any 18 rT [p0, p1, p2, p3, p4, p5, p6, p7] _ ⟨by omega, by omega⟩ NT.out NP.out) rfl).mono ?_; rintro e w5 ⟨c0, c1, c2, c3, c4, c5, c6, c7, rfl, HC, hB5⟩; have hN5 := (hN3.drew.below hB4 hN3.lt).below hB5 (by have := hB4.size; have := hN3.lt; simp at *; omega); obtain ⟨⟨d0, d1, d2, d3⟩, ⟨d4, d5, d6, d7⟩, df⟩ := hN5.zero8))
      all_goals (
        go_wp2
        have hz4 := hB4.size
        simp only [World.size_drew] at hz4
        have hV5 := (hV3.drew.trans (hB4.mono (by simp; omega))).trans (hB5.mono (by omega))
        refine ret_name rfl (w.heap.size + 1) _ [c0, c1, c2, c3, c4, c5, c6, c7] rfl rfl (hN5.set8 c0 c1 c2 c3 c4 c5 c6 c7) rfl ⟨?_, below_set8 hV5 (by omega) c0 c1 c2 c3 c4 c5 c6 c7⟩
        rw [← HC.out]; try rfl)
  · rw [if_neg hik]
    have hik' : (k : Int) ≤ i := by omega
    have hikb : decide (i < (k : Int)) = false := by simp; omega
    go_enter Try.func163, Try.ntmps163
    go_wp2_with fail
    generalize hW : World.alloc _ _ = W2
    have hA2 : Blk W2 w.heap.size 30 (bsv [a0, a1, a2, a3, a4, a5, a6, a7]).toArray := by rw [← hW]; exact (Blk.new _ _ _).old _
    have hN2 : Blk W2 (w.heap.size + 1) 30 (bsv zeroN).toArray := by rw [← hW]; exact Blk.new' _ _ _ (by simp)
    have hV2 : Below w.heap.size w W2 := by rw [← hW]; exact below2 w _ _
    have hz2 := hN2.lt
    have HA := Lib.hid hA8
    obtain ⟨⟨q0, q1, q2, q3⟩, q4, q5, q6, q7⟩ := hA8.keep (Keeps.of_below hV2)
    have hbz : b < W2.heap.size := World.block_lt_of_cell? _ _ q0
    clear hW hA8
    go_region_law (go_simp; go_at_call 150; refine (SP.out _).mono ?_; rintro e w1 ⟨rfl, rfl⟩)
    all_goals
      generalize hW : World.drew _ = W3
      have hV23 : Below W2.heap.size W2 W3 := by rw [← hW]; exact (below1 W2 (.cells (bsv [p0, p1, p2, p3, p4, p5, p6, p7]).toArray 30)).drew
      have hU3 : Blk W3 W2.heap.size 30 (bsv [p0, p1, p2, p3, p4, p5, p6, p7]).toArray := by rw [← hW]; exact (Blk.new W2 30 (bsv [p0, p1, p2, p3, p4, p5, p6, p7]).toArray).drew
      have hN3 := hN2.below hV23 hz2
      have hz3 := hN3.lt
      have hV3 := hV2.trans (hV23.mono hV2.size)
      obtain ⟨⟨m0, m1, m2, m3⟩, m4, m5, m6, m7⟩ := (hA2.below hV23 (by omega)).at8
      obtain ⟨⟨n0, n1, n2, n3⟩, n4, n5, n6, n7⟩ := hU3.at8
      clear hW q0 q1 q2 q3 q4 q5 q6 q7
      go_wp2_with fail
      go_region_law (first
        | (go_simp; go_at_call 163; refine (ID.out _ _ (by exact (HT.out.below hV3).drew) hik').mono ?_; rintro e w4 ⟨rfl, hB4⟩; obtain ⟨⟨s0, s1, s2, s3⟩, s4, s5, s6, s7⟩ := (hU3.drew.below hB4 hU3.lt).at8)
        | (go_simp; go_at_call 155; refine (Calls.lit8 (rpair_any 18 [p0, p1, p2, p3, p4, p5, p6, p7] rD _ ⟨by omega, by omega⟩ NP.out ND.out) rfl).mono ?_; rintro e w5 ⟨c0, c1, c2, c3, c4, c5, c6, c7, rfl, HC, hB5⟩; have hN5 := (hN3.drew.below hB4 hN3.lt).below hB5 (by have := hB4.size; have := hN3.lt; simp at *; omega); obtain ⟨⟨d0, d1, d2, d3⟩, ⟨d4, d5, d6, d7⟩, df⟩ := hN5.zero8))
      all_goals (
        go_wp2
        have hz4 := hB4.size
        simp only [World.size_drew] at hz4
        have hV5 := (hV3.drew.trans (hB4.mono (by simp; omega))).trans (hB5.mono (by omega))
        refine ret_name rfl (w.heap.size + 1) _ [c0, c1, c2, c3, c4, c5, c6, c7] rfl rfl (hN5.set8 c0 c1 c2 c3 c4 c5 c6 c7) rfl ⟨?_, below_set8 hV5 (by omega) c0 c1 c2 c3 c4 c5 c6 c7⟩
        rw [← HC.out]; try rfl)

theorem rcomp_any (d : Nat) (hd : d ≤ 5) : ∀ (leaf : List Int) (P : List (List Int)) (v : Value) (i : Int) (w : World), IsN leaf → Ns w v P → P.length = d → 0 ≤ i → i < (2 ^ d : Nat) →
    Calls Try.prog 163 #[nv leaf, .int .i64 i, .int .i64 (2 ^ d : Nat), v] w fun e w' => e = .returned (nv (mfollow d leaf i P)) ∧ Below w.heap.size w w' := by
  induction d with
  | zero => intro leaf P v i w hl h hP i0 i1; obtain rfl := List.length_eq_zero_iff.mp hP; exact rcomp_zero leaf v i w hl
  | succ d ih => exact fun leaf P v i w hl h hP i0 i1 => rcomp_succ d (by omega) (Lib.hid (ih (by omega))) leaf P v i w hl h hP i0 i1
end
section
open Go.RowKit

set_option maxHeartbeats 1000000 in
theorem rfollow32 (leaf : List Int) (P : List (List Int)) (v : Value) (i : Int) (w : World) (hl : IsN leaf) (h : Ns w v P) (hP : P.length = 5) (h0 : 0 ≤ i) (h1 : i < 32) :
    Calls Try.prog 90 #[nv leaf, .int .i64 i, .int .i64 32, v] w fun e w' => e = .returned (.tuple #[nv (mfollow 5 leaf i P), .bool true]) ∧ Below w.heap.size w w' := by
  have HX := Lib.hid hl
  have CP := Lib.hid (fun (w : World) (v : Value) (h : Ns w v P) => rcomp_any 5 (by omega) leaf P v i w hl h hP h0 h1)
  have HS := Lib.hid h
  have HF := Lib.hid (mfollow_isN 5 leaf i P)
  obtain ⟨sb, so, sc, rfl, hs1, hs2⟩ := h.bds (by omega)
  rw [hP] at HS hs1 ⊢
  generalize mfollow 5 leaf i P = r at *
  clear h hl hP
  go_enter Try.func90, Try.ntmps90
  go_wp2_with (first
    | (refine wpList_box_name rfl (.tmp 0) rfl leaf rfl ?_; intro w1 hA1 hB1 hz1)
    | (go_at_call 162; refine (rdepth32 i _ h0 h1).mono ?_; rintro e w2 ⟨rfl, rfl⟩)
    | (refine wpList_load_name _ rfl (.tmp 4) rfl w.heap.size rfl _ _ (hA1.old _) HX.out.1 ?_; refine hold ?_))
  refine Lib.hid ?_
  have hN2 : Blk (w1.alloc (.cells (bsv zeroN).toArray 30)) (w.heap.size + 1) 30 (bsv zeroN).toArray := by rw [← hz1]; exact Blk.new _ _ _
  have hB2 : Below w.heap.size w (w1.alloc (.cells (bsv zeroN).toArray 30)) := hB1.trans ((below1 w1 _).mono (by omega))
  go_wp2_with (first
    | (go_at_call 163; refine (CP.out _ _ (HS.out.below hB2)).mono ?_; rintro e w3 ⟨rfl, hB3⟩)
    | (refine wpList_store_name _ rfl (.tmp 8) (.tmp 27) rfl (w.heap.size + 1) rfl _ rfl _ _ (hN2.below hB3 hN2.lt) rfl HF.out.1 ?_; intro w4 hN4 hg4))
  have hV3 := hB2.trans (hB3.mono hB2.size)
  exact ret_name2 rfl (w.heap.size + 1) _ _ (.bool true) rfl rfl rfl hN4 HF.out.1 ⟨rfl, hV3.grown hg4 hV3.size (by intro j hj; cases hj; omega)⟩
end
end Go.Proofs.Ytilhceihelcdgaa
