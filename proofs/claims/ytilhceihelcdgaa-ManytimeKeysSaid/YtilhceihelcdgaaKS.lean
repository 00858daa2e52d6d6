/-
  The reference's Sign at one level.
  The reference's keys of two levels: NewKey.
  The reference's keys of two levels: Sign.
  The reference's Sign.
-/
import Derived.Test.YtilhceihelcdgaaKV
import Derived.Test.YtilhceihelcdgaaE2
import Derived.Deep.RegionHeld3
import Derived.Deep.AppendLies
namespace Go.Proofs.Ytilhceihelcdgaa
section
open Go.RowKit

theorem Lies.lo {w : World} {v v' : Value} {g B : Nat} (h : Lies w v v') (hv : v.ownBlock = some g) (hg : B ≤ g) (hB : B ≤ w.heap.size) : ∀ k, v'.ownBlock = some k → B ≤ k := by
  intro k hk
  rcases h with h | ⟨j, h1, h2⟩
  · rw [h, hv] at hk; injection hk; omega
  · rw [h1] at hk; injection hk; omega
theorem OwB.up {w : World} {B : Nat} {v : Value} {l : List Int} (h : OwB w 0 v l) (hk : ∀ k, v.ownBlock = some k → B ≤ k) : OwB w B v l := by
  obtain ⟨hl, h | ⟨g, cap, cur, hv, hb, r⟩⟩ := h
  · exact ⟨hl, .inl h⟩
  · exact ⟨hl, .inr ⟨g, cap, cur, hv, hk g (by rw [hv]; rfl), r⟩⟩
theorem OwB.lit {w : World} {g : Nat} {l : List Int} (h : Blk w g 5 (bsv l).toArray) (hm : l.length ≤ maxLen) : OwB w 0 (.slice (some ⟨g, 0, none⟩) l.length l.length) l :=
  OwB.of_blk (r := []) (by simpa using h) (Nat.zero_le _) (by simp) hm
theorem OwN.blk {w : World} {B : Nat} {v : Value} {L : List (List Int)} (h : OwN w B v L) {a : Addr} {m c : Nat} (hv : v = .slice (some a) m c) : B ≤ a.block ∧ a.block < w.heap.size := World.ownsRow.lt h a.block (by rw [hv]; rfl)
theorem beB_leaf {j : Int} (h0 : 0 ≤ j) (h1 : j < 32) : beB j 2 = [0, j] := by simp only [beB, List.cons.injEq, and_true]; omega
theorem osig_flat_len (x m : List Int) : (osig x m).flatten.length = 144 := by rw [flatten_len (osig_isN _ _), osig_len]

set_option maxRecDepth 100000 in
set_option maxHeartbeats 8000000 in
theorem rsign1_yes (x m : List Int) (j : Int) (w : World) (hx : IsN x) (hm : IsN m) (h0 : 0 ≤ j) (h1 : j < 32) :
    Calls Try.prog 26 #[nv x, .int .i64 1, .int .i64 j, nv m] w fun e w' => ∃ v', e = .returned (.tuple #[v', .bool true]) ∧ OwB w' w.heap.size v' (msig x 1 j.toNat m) ∧ Below w.heap.size w w' := by
  have HM : Hid (msig x 1 j.toNat m = [0, j] ++ (osig (okey x 1 0 j) m).flatten ++ (mpath 5 (otree x 1 0) j).flatten) := by
    show _ = _
    unfold msig psig
    rw [if_neg (by omega), List.append_nil, show ((j.toNat / 32 : Nat) : Int) = 0 by omega, show j.toNat % 32 = j.toNat by omega, show ((j.toNat : Nat) : Int) = j by omega, beB_leaf h0 h1, List.append_assoc]
  have HX := Lib.hid hx
  have HMN := Lib.hid hm
  have LV := Lib.hid (fun w => leaves_any x 1 0 w hx ⟨by omega, by omega⟩ ⟨by omega, by omega⟩)
  have PT := Lib.hid (fun v w (h : Ns w v (otree x 1 0)) => rpath_any 5 (by omega) (otree x 1 0) v j w h (otree_len _ _ _) h0 (by simpa using h1))
  have NT := Lib.hid (fun w v b (hb : OwN w b v (otree x 1 0)) => hb.ns (by rw [otree_len]; omega) (otree_isN x 1 0))
  have NP := Lib.hid (fun w v b (hb : OwN w b v (mpath 5 (otree x 1 0) j)) => hb.ns (by rw [mpath_len]; omega) (mpath_isN _ _ _))
  have lP := Lib.hid (mpath_len 5 (otree x 1 0) j)
  have KY := Lib.hid (fun w => Calls.lit8 (rkey_any x 1 0 j w hx ⟨by omega, by omega⟩ ⟨by omega, by omega⟩ ⟨h0, by omega⟩) (okey_isN _ _ _ _).1)
  have KN := Lib.hid (okey_isN x 1 0 j)
  have OS := Lib.hid (fun k w (hk : IsN k) => ronesign_any k m w hk hm)
  rw [HM.out]
  generalize mpath 5 (otree x 1 0) j = P at *
  generalize otree x 1 0 = T at *
  generalize okey x 1 0 j = K at *
  obtain ⟨x0, x1, x2, x3, x4, x5, x6, x7, rfl, _⟩ := hx.cases
  obtain ⟨m0, m1, m2, m3, m4, m5, m6, m7, rfl, _⟩ := hm.cases
  have hw1 : IntKind.u8.wrap j = j := by rw [IntKind.wrap_u8]; omega
  have hg1 : decide (j < 0) = false := by simp; omega
  have hg2 : decide (32 ≤ j) = false := by simp; omega
  clear hx hm
  go_enter Try.func26, Try.ntmps26
  go_upto_region 5 with (fail)
  generalize hW : World.alloc _ _ = W2
  have hA2 : Blk W2 w.heap.size 30 (bsv [x0, x1, x2, x3, x4, x5, x6, x7]).toArray := by rw [← hW]; exact (Blk.new _ _ _).old _
  have hM2 : Blk W2 (w.heap.size + 1) 30 (bsv [m0, m1, m2, m3, m4, m5, m6, m7]).toArray := by rw [← hW]; exact Blk.new' _ _ _ (by simp)
  have hV2 : Below w.heap.size w W2 := by rw [← hW]; exact below2 w _ _
  have hz2 := hM2.lt
  clear hW
  go_upto_region 6 with (first
    | (refine wpList_load_name _ rfl (.tmp 4) rfl w.heap.size rfl _ _ hA2 HX.out.1 ?_)
    | (go_at_call 82; refine (LV.out _).mono ?_; rintro e w3 ⟨v3, rfl, hO3, hB3⟩)
    | (go_at_call 81; refine (PT.out _ _ (NT.out _ _ _ hO3)).mono ?_; rintro e w4 ⟨v4, rfl, hP4, hB4⟩))
  have hB24 := hB3.trans (hB4.mono hB3.size)
  have hA4 := hA2.below hB24 hA2.lt
  have hM4 := hM2.below hB24 hz2
  have hV4 := hV2.trans (hB24.mono hV2.size)
  have hz4 := hM4.lt
  clear hO3 hB3 hB4 hA2 hM2 hz2 hV2 hB24
  generalize w4 = W at *
  have SO : Hid (∀ w' : World, Below W.heap.size W w' → (w'.cell? ⟨w.heap.size, 0, none⟩ = some (.int .u8 x0) ∧ w'.cell? ⟨w.heap.size, 1, none⟩ = some (.int .u8 x1) ∧ w'.cell? ⟨w.heap.size, 2, none⟩ = some (.int .u8 x2) ∧ w'.cell? ⟨w.heap.size, 3, none⟩ = some (.int .u8 x3) ∧ w'.cell? ⟨w.heap.size, 4, none⟩ = some (.int .u8 x4) ∧ w'.cell? ⟨w.heap.size, 5, none⟩ = some (.int .u8 x5) ∧ w'.cell? ⟨w.heap.size, 6, none⟩ = some (.int .u8 x6) ∧ w'.cell? ⟨w.heap.size, 7, none⟩ = some (.int .u8 x7)) ∧ (w'.cell? ⟨w.heap.size + 1, 0, none⟩ = some (.int .u8 m0) ∧ w'.cell? ⟨w.heap.size + 1, 1, none⟩ = some (.int .u8 m1) ∧ w'.cell? ⟨w.heap.size + 1, 2, none⟩ = some (.int .u8 m2) ∧ w'.cell? ⟨w.heap.size + 1, 3, none⟩ = some (.int .u8 m3) ∧ w'.cell? ⟨w.heap.size + 1, 4, none⟩ = some (.int .u8 m4) ∧ w'.cell? ⟨w.heap.size + 1, 5, none⟩ = some (.int .u8 m5) ∧ w'.cell? ⟨w.heap.size + 1, 6, none⟩ = some (.int .u8 m6) ∧ w'.cell? ⟨w.heap.size + 1, 7, none⟩ = some (.int .u8 m7))) := fun w' h =>
    ⟨⟨(hA4.below h hA4.lt).cell 0, (hA4.below h hA4.lt).cell 1, (hA4.below h hA4.lt).cell 2, (hA4.below h hA4.lt).cell 3, (hA4.below h hA4.lt).cell 4, (hA4.below h hA4.lt).cell 5, (hA4.below h hA4.lt).cell 6, (hA4.below h hA4.lt).cell 7⟩,
      (hM4.below h hM4.lt).cell 0, (hM4.below h hM4.lt).cell 1, (hM4.below h hM4.lt).cell 2, (hM4.below h hM4.lt).cell 3, (hM4.below h hM4.lt).cell 4, (hM4.below h hM4.lt).cell 5, (hM4.below h hM4.lt).cell 6, (hM4.below h hM4.lt).cell 7⟩
  clear hA4 hM4
  go_region_held3 (fun w' => (w'.cell? ⟨w.heap.size, 0, none⟩ = some (.int .u8 x0) ∧ w'.cell? ⟨w.heap.size, 1, none⟩ = some (.int .u8 x1) ∧ w'.cell? ⟨w.heap.size, 2, none⟩ = some (.int .u8 x2) ∧ w'.cell? ⟨w.heap.size, 3, none⟩ = some (.int .u8 x3) ∧ w'.cell? ⟨w.heap.size, 4, none⟩ = some (.int .u8 x4) ∧ w'.cell? ⟨w.heap.size, 5, none⟩ = some (.int .u8 x5) ∧ w'.cell? ⟨w.heap.size, 6, none⟩ = some (.int .u8 x6) ∧ w'.cell? ⟨w.heap.size, 7, none⟩ = some (.int .u8 x7)) ∧ (w'.cell? ⟨w.heap.size + 1, 0, none⟩ = some (.int .u8 m0) ∧ w'.cell? ⟨w.heap.size + 1, 1, none⟩ = some (.int .u8 m1) ∧ w'.cell? ⟨w.heap.size + 1, 2, none⟩ = some (.int .u8 m2) ∧ w'.cell? ⟨w.heap.size + 1, 3, none⟩ = some (.int .u8 m3) ∧ w'.cell? ⟨w.heap.size + 1, 4, none⟩ = some (.int .u8 m4) ∧ w'.cell? ⟨w.heap.size + 1, 5, none⟩ = some (.int .u8 m5) ∧ w'.cell? ⟨w.heap.size + 1, 6, none⟩ = some (.int .u8 m6) ∧ w'.cell? ⟨w.heap.size + 1, 7, none⟩ = some (.int .u8 m7)))
    ((refine SO.out _ ?_; first | assumption | exact (Below.refl _ _).drew | exact ((Below.refl _ _).alloc (Nat.le_refl _) _).drew | exact hV4'.alloc hV4'.size _ | exact hV3.alloc hV3.size _))
    (first
      | (go_at_call 85; refine (KY.out _).mono ?_; rintro e w3 ⟨e0, e1, e2, e3, e4, e5, e6, e7, rfl, HE, hB3⟩; (have hV3 : Below W.heap.size W w3 := by first | exact (Below.refl _ _).drew.trans (hB3.mono (by first | omega | (simp; omega) | (simp; done))) | exact ((Below.refl _ _).alloc (Nat.le_refl _) _).drew.trans (hB3.mono (by first | omega | (simp; omega) | (simp; done)))); have hz3 := hV3.size; try (have hG3 : Blk w3 W.heap.size 5 (bsv [0, j]).toArray := (Blk.new W.drew 5 (bsv [0, j]).toArray).below hB3 (by first | omega | (simp; omega) | (simp; done)); have hg3 := hG3.lt))
      | (go_at_call 84; refine (OS.out [e0, e1, e2, e3, e4, e5, e6, e7] _ (by rw [← HE.out]; exact KN.out)).mono ?_; rintro e w4 ⟨v4, rfl, hO4, hB4⟩; (have hV4' : Below W.heap.size W w4 := by first | exact hV3.trans (hB4.mono (by first | omega | (simp; omega) | (simp; done))) | exact (hV3.alloc hV3.size _).trans (hB4.mono (by first | omega | (simp; omega) | (simp; done)))); have hz4' := hV4'.size; rw [← HE.out] at hO4; have hz34 := hB4.size; (try simp only [World.size_alloc] at hz34); have hN4 := hO4.ns (by rw [osig_len]; omega) (osig_isN _ _); first | (have hG4 : Blk w4 W.heap.size 5 (bsv [0, j]).toArray := hG3.below hB4 (by first | omega | (simp; omega) | (simp; done))) | (have hG4 : Blk w4 w3.heap.size 5 (bsv [0, j]).toArray := (Blk.new w3 5 (bsv [0, j]).toArray).below hB4 (by first | omega | (simp; omega) | (simp; done))) | skip)
      | (go_at_call 83; refine (rnames_st ([0, j] ++ (osig K [m0, m1, m2, m3, m4, m5, m6, m7]).flatten) P v5 _ w5 hO5 ((NP.out _ _ _ hP4).below hV5) (by rw [lP.out]; omega) (by rw [lP.out]; omega) (by rw [List.length_append, osig_flat_len]; simp) (by intro a mm c hv e; have h1 := hP4.blk hv; have h2 := lo5 _ e.symm; omega)).mono ?_; rintro e w6 ⟨v6, rfl, hO6, hg6, hL6⟩; have hV6 := hV5.grown hg6 hV5.size lo5)
      | (go_at_call 83; refine (rnames_st [0, j] (osig K [m0, m1, m2, m3, m4, m5, m6, m7]) _ _ _ (by first | exact OwB.lit hG4 (by simp [maxLen]) | exact OwB.lit (Blk.new w4 5 (bsv [0, j]).toArray) (by simp [maxLen])) (by first | exact hN4 | exact hN4.below (below1 _ _)) (by rw [osig_len]; omega) (by rw [osig_len]; omega) (by simp) (by intro a mm c hv e; have h1 := hO4.blk hv; (try simp only [World.size_alloc] at h1); simp [Value.ownBlock] at e; omega)).mono ?_; rintro e w5 ⟨v5, rfl, hO5, hg5, hL5⟩; (have hV5 : Below W.heap.size W w5 := by first | exact hV4'.grown hg5 hV4'.size (by intro k hk; simp [Value.ownBlock] at hk; omega) | exact (hV4'.alloc hV4'.size _).grown hg5 (by first | omega | (simp; omega) | (simp; done)) (by intro k hk; simp [Value.ownBlock] at hk; omega)); (have lo5 : ∀ k, v5.ownBlock = some k → W.heap.size ≤ k := hL5.lo rfl (by first | omega | (simp; omega) | (simp; done)) (by first | omega | (simp; omega) | (simp; done)))))
  all_goals
    have lo6 : ∀ k, v6.ownBlock = some k → w.heap.size ≤ k := fun k hk => by
      have h7 := hV5.size
      rcases hL6 with h6 | ⟨b6, h6, h8⟩
      · have := lo5 k (h6 ▸ hk); omega
      · rw [h6] at hk; injection hk; omega
    go_wp2
    go_ret2
    exact ⟨_, rfl, hO6.up lo6, hV4.trans (hV6.mono hV4.size)⟩
end
section
open Go.RowKit

/-- The cells of a new key. -/
def keyCells (x : List Int) (v : Value) (l : List Value) : List Value := bsv x ++ v :: l
def nil32 : List Value := List.replicate 32 (.slice none 0 0)

set_option maxRecDepth 100000 in
set_option maxHeartbeats 8000000 in
theorem rnewkey_any (x : List Int) (w : World) (hx : IsN x) :
    Calls Try.prog 79 #[nv x] w fun e w' => ∃ g v', e = .returned (.pointer (some ⟨g, 0, none⟩)) ∧ Blk w' g 194 (keyCells x v' nil32).toArray ∧ OwN w' w.heap.size v' (otree x 2 0) ∧ w.heap.size ≤ g ∧ (∀ a m c, v' = .slice (some a) m c → a.block < g) ∧ Below w.heap.size w w' := by
  have LV := Lib.hid (fun w => leaves_any x 2 0 w hx ⟨by omega, by omega⟩ ⟨by omega, by omega⟩)
  have HX := Lib.hid hx
  have hlen := Lib.hid (otree_len x 2 0)
  generalize otree x 2 0 = T at *
  obtain ⟨x0, x1, x2, x3, x4, x5, x6, x7, rfl, _⟩ := hx.cases
  clear hx
  go_enter Try.func79, Try.ntmps79
  go_upto_region 1 with (fail)
  generalize hW : World.alloc _ _ = W
  have hA2 : Blk W w.heap.size 30 (bsv [x0, x1, x2, x3, x4, x5, x6, x7]).toArray := by rw [← hW]; exact Blk.new _ _ _
  have hV2 : Below w.heap.size w W := by rw [← hW]; exact below1 w _
  clear hW
  have SO : Hid (∀ w' : World, Below W.heap.size W w' → w'.cell? ⟨w.heap.size, 0, none⟩ = some (.int .u8 x0) ∧ w'.cell? ⟨w.heap.size, 1, none⟩ = some (.int .u8 x1) ∧ w'.cell? ⟨w.heap.size, 2, none⟩ = some (.int .u8 x2) ∧ w'.cell? ⟨w.heap.size, 3, none⟩ = some (.int .u8 x3) ∧ w'.cell? ⟨w.heap.size, 4, none⟩ = some (.int .u8 x4) ∧ w'.cell? ⟨w.heap.size, 5, none⟩ = some (.int .u8 x5) ∧ w'.cell? ⟨w.heap.size, 6, none⟩ = some (.int .u8 x6) ∧ w'.cell? ⟨w.heap.size, 7, none⟩ = some (.int .u8 x7)) := fun w' h =>
    ⟨(hA2.below h hA2.lt).cell 0, (hA2.below h hA2.lt).cell 1, (hA2.below h hA2.lt).cell 2, (hA2.below h hA2.lt).cell 3, (hA2.below h hA2.lt).cell 4, (hA2.below h hA2.lt).cell 5, (hA2.below h hA2.lt).cell 6, (hA2.below h hA2.lt).cell 7⟩
  go_region_held3 (fun w' => w'.cell? ⟨w.heap.size, 0, none⟩ = some (.int .u8 x0) ∧ w'.cell? ⟨w.heap.size, 1, none⟩ = some (.int .u8 x1) ∧ w'.cell? ⟨w.heap.size, 2, none⟩ = some (.int .u8 x2) ∧ w'.cell? ⟨w.heap.size, 3, none⟩ = some (.int .u8 x3) ∧ w'.cell? ⟨w.heap.size, 4, none⟩ = some (.int .u8 x4) ∧ w'.cell? ⟨w.heap.size, 5, none⟩ = some (.int .u8 x5) ∧ w'.cell? ⟨w.heap.size, 6, none⟩ = some (.int .u8 x6) ∧ w'.cell? ⟨w.heap.size, 7, none⟩ = some (.int .u8 x7))
    ((refine SO.out _ ?_; first | assumption | exact (Below.refl _ _).drew | exact hV3.alloc hV3.size _))
    ((go_at_call 82; refine (LV.out _).mono ?_; rintro e w3 ⟨v3, rfl, hO3, hB3⟩; (have hV3 : Below W.heap.size W w3 := (Below.refl _ _).drew.trans (hB3.mono (by first | omega | (simp; omega) | (simp; done)))); obtain ⟨vb, vc, rfl, hvb, hvl⟩ := World.ownsRow.form hO3 (by rw [hlen.out]; omega)))
  all_goals
    go_wp2
    go_ret
    refine ⟨_, _, rfl, Blk.new w3 _ _, ?_, ?_, ?_, ?_⟩
    · exact (OwN.base hO3 (by have := hV2.size; simp; omega)).alloc _
    · have := hV2.size; have := hV3.size; omega
    · intro a m c e; cases e; exact hvl
    · exact (hV2.trans (hV3.mono hV2.size)).alloc (by have := hV2.size; have := hV3.size; omega) _
end
section
open Go.RowKit

theorem keyCells_seed {x : List Int} (hx : IsN x) (v : Value) (l : List Value) {w : World} {B : Nat} {t : TypeId} (h : Blk w B t (keyCells x v l).toArray) (j : Nat) (hj : j < 8) : w.cell? ⟨B, j, none⟩ = some (.int .u8 (x.getD j 0)) := by
  rw [h.cell j, List.getElem?_toArray]
  unfold keyCells
  rw [List.getElem?_append_left (by rw [bsv_length, hx.1]; exact hj), bsv_get (by rw [hx.1]; exact hj)]
theorem keyCells_top {x : List Int} (hx : IsN x) (v : Value) (l : List Value) {w : World} {B : Nat} {t : TypeId} (h : Blk w B t (keyCells x v l).toArray) : w.cell? ⟨B, 8, none⟩ = some v := by
  rw [h.cell 8, List.getElem?_toArray]
  unfold keyCells
  rw [List.getElem?_append_right (by rw [bsv_length, hx.1]; omega), bsv_length, hx.1]; rfl
theorem keyCells_bot {x : List Int} (hx : IsN x) (v : Value) (l : List Value) {w : World} {B : Nat} {t : TypeId} (h : Blk w B t (keyCells x v l).toArray) (n : Nat) : w.cell? ⟨B, 9 + n, none⟩ = l[n]? := by
  rw [h.cell (9 + n), List.getElem?_toArray]
  unfold keyCells
  rw [List.getElem?_append_right (by rw [bsv_length, hx.1]; omega), bsv_length, hx.1, show 9 + n - 8 = n + 1 by omega]; rfl
theorem keyCells_set {x : List Int} (hx : IsN x) (v u : Value) (l : List Value) {w : World} {B : Nat} {t : TypeId} (h : Blk w B t (keyCells x v l).toArray) (n : Nat) : Blk (w.setCell ⟨B, 9 + n, none⟩ u) B t (keyCells x v (l.set n u)).toArray := by
  have := h.set (9 + n) u
  have e : (keyCells x v l).toArray.setIfInBounds (9 + n) u = (keyCells x v (l.set n u)).toArray := by
    rw [List.setIfInBounds_toArray]
    unfold keyCells
    rw [List.set_append_right _ _ (by rw [bsv_length, hx.1]; omega), bsv_length, hx.1, show 9 + n - 8 = n + 1 by omega]; rfl
  rwa [e] at this

/-- Bytes that a call has made so far, from the world W on. -/
def SigSt (W wx : World) (s : Value) (l : List Int) : Prop := OwB wx 0 s l ∧ (∀ k, s.ownBlock = some k → W.heap.size ≤ k) ∧ Below W.heap.size W wx

set_option maxRecDepth 100000 in
set_option maxHeartbeats 16000000 in
theorem rksign_yes (x m : List Int) (B : Nat) (vt : Value) (j : Int) (w : World) (hx : IsN x) (hm : IsN m) (h0 : 0 ≤ j) (h1 : j < 1024) (hB : Blk w B 194 (keyCells x vt nil32).toArray) (hT : OwN w 0 vt (otree x 2 0)) (hne : ∀ a m c, vt = .slice (some a) m c → a.block < B) :
    Calls Try.prog 80 #[.pointer (some ⟨B, 0, none⟩), .int .i64 j, nv m] w fun e w' => ∃ v', e = .returned (.tuple #[v', .bool true]) ∧ OwB w' w.heap.size v' (msig x 2 j.toNat m) ∧ w.grownBy w' (some B) := by
  obtain ⟨n, hn⟩ := Int.eq_ofNat_of_zero_le (show 0 ≤ j / 32 by omega)
  have hn32 : n < 32 := by omega
  have HM : Hid (msig x 2 j.toNat m = [j / 256, j % 256] ++ (osig (okey x 1 n (j % 32)) m).flatten ++ (mpath 5 (otree x 1 n) (j % 32)).flatten ++ (osig (okey x 2 0 n) (mroot 5 (otree x 1 n))).flatten ++ (mpath 5 (otree x 2 0) n).flatten) := by
    show _ = _
    unfold msig psig
    rw [if_pos rfl, show ((j.toNat / 32 : Nat) : Int) = n by omega, show ((j.toNat % 32 : Nat) : Int) = j % 32 by omega, show ((j.toNat : Nat) : Int) = j by omega]
    have : beB j 2 = [j / 256, j % 256] := by simp only [beB, List.cons.injEq, and_true]; omega
    rw [this]
    simp only [List.append_assoc]
  have HX := Lib.hid hx
  have HMN := Lib.hid hm
  have LV := Lib.hid (fun w => leaves_any x 1 n w hx ⟨by omega, by omega⟩ ⟨by omega, by omega⟩)
  have PT := Lib.hid (fun v w (h : Ns w v (otree x 1 n)) => rpath_any 5 (by omega) (otree x 1 n) v (j % 32) w h (otree_len _ _ _) (by omega) (by simp; omega))
  have PT2 := Lib.hid (fun v w (h : Ns w v (otree x 2 0)) => rpath_any 5 (by omega) (otree x 2 0) v n w h (otree_len _ _ _) (by omega) (by simp; omega))
  have RT := Lib.hid (fun v w (h : Ns w v (otree x 1 n)) => Calls.lit8 (rroot_any 5 (by omega) (otree x 1 n) v w h (otree_len _ _ _)) (mroot_isN _ _).1)
  have RN := Lib.hid (mroot_isN 5 (otree x 1 n))
  have NT := Lib.hid (fun w v b (hb : OwN w b v (otree x 1 n)) => hb.ns (by rw [otree_len]; omega) (otree_isN x 1 n))
  have NT2 := Lib.hid (fun w v b (hb : OwN w b v (otree x 2 0)) => hb.ns (by rw [otree_len]; omega) (otree_isN x 2 0))
  have NP := Lib.hid (fun w v b (hb : OwN w b v (mpath 5 (otree x 1 n) (j % 32))) => hb.ns (by rw [mpath_len]; omega) (mpath_isN _ _ _))
  have NP2 := Lib.hid (fun w v b (hb : OwN w b v (mpath 5 (otree x 2 0) n)) => hb.ns (by rw [mpath_len]; omega) (mpath_isN _ _ _))
  have lT := Lib.hid (otree_len x 1 n)
  have lP := Lib.hid (mpath_len 5 (otree x 1 n) (j % 32))
  have lT2 := Lib.hid (otree_len x 2 0)
  have lP2 := Lib.hid (mpath_len 5 (otree x 2 0) n)
  have KY := Lib.hid (fun w => Calls.lit8 (rkey_any x 1 n (j % 32) w hx ⟨by omega, by omega⟩ ⟨by omega, by omega⟩ ⟨by omega, by omega⟩) (okey_isN _ _ _ _).1)
  have KN := Lib.hid (okey_isN x 1 n (j % 32))
  have KY2 := Lib.hid (fun w => Calls.lit8 (rkey_any x 2 0 n w hx ⟨by omega, by omega⟩ ⟨by omega, by omega⟩ ⟨by omega, by omega⟩) (okey_isN _ _ _ _).1)
  have KN2 := Lib.hid (okey_isN x 2 0 n)
  have OS := Lib.hid (fun k z w (hk : IsN k) (hz : IsN z) => ronesign_any k z w hk hz)
  rw [HM.out]
  have HT := Lib.hid hT
  generalize mroot 5 (otree x 1 n) = R at *
  generalize mpath 5 (otree x 1 n) (j % 32) = P at *
  generalize mpath 5 (otree x 2 0) n = P2 at *
  generalize otree x 1 n = T at *
  generalize otree x 2 0 = T2 at *
  generalize okey x 1 n (j % 32) = K at *
  generalize okey x 2 0 n = K2 at *
  have hcb := keyCells_bot hx vt nil32 hB n
  rw [show nil32[n]? = some (Value.slice none 0 0) by unfold nil32; rw [List.getElem?_replicate, if_pos hn32]] at hcb
  obtain ⟨vb, vc, rfl, hvb, hvl⟩ := World.ownsRow.form hT (by rw [lT2.out]; omega)
  have hbB : vb < B := hne _ _ _ rfl
  have htd : j.tdiv 32 = (n : Int) := by rw [Int.tdiv_eq_ediv_of_nonneg h0, hn]
  have htm : j.tmod 32 = j % 32 := Int.tmod_eq_emod_of_nonneg h0
  have hg1 : decide (j < 0) = false := by simp; omega
  have hg2 : decide (1024 ≤ j) = false := by simp; omega
  have hn1 : (0 : Int) ≤ (n : Int) := by omega
  have hn2 : (n : Int) < 32 := by omega
  have hwn : IntKind.i64.wrap (n : Int) = (n : Int) := by rw [IntKind.wrap_i64]; omega
  obtain ⟨x0, x1, x2, x3, x4, x5, x6, x7, rfl, _⟩ := hx.cases
  obtain ⟨m0, m1, m2, m3, m4, m5, m6, m7, rfl, _⟩ := hm.cases
  have HB := Lib.hid hB
  have hlB := hB.lt
  have HNE := Lib.hid hne
  clear hx hm hB hT hne
  go_enter Try.func80, Try.ntmps80
  go_upto_region 5 with (fail)
  generalize hW : World.alloc _ _ = W2
  have hM2 : Blk W2 w.heap.size 30 (bsv [m0, m1, m2, m3, m4, m5, m6, m7]).toArray := by rw [← hW]; exact Blk.new _ _ _
  have hK2 : Blk W2 B 194 (keyCells [x0, x1, x2, x3, x4, x5, x6, x7] (.slice (some ⟨vb, 0, none⟩) T2.length vc) nil32).toArray := by rw [← hW]; exact HB.out.old _
  have hV2 : Below w.heap.size w W2 := by rw [← hW]; exact below1 w _
  have hz2 : W2.heap.size = w.heap.size + 1 := by rw [← hW]; simp
  have HZ2 := Lib.hid hz2
  have hlM := hM2.lt
  have hlK := hK2.lt
  clear hW hz2
  have SO : Hid (∀ (w' : World) l, Blk w' B 194 (keyCells [x0, x1, x2, x3, x4, x5, x6, x7] (.slice (some ⟨vb, 0, none⟩) T2.length vc) l).toArray → w'.cell? ⟨B, 0, none⟩ = some (.int .u8 x0) ∧ w'.cell? ⟨B, 1, none⟩ = some (.int .u8 x1) ∧ w'.cell? ⟨B, 2, none⟩ = some (.int .u8 x2) ∧ w'.cell? ⟨B, 3, none⟩ = some (.int .u8 x3) ∧ w'.cell? ⟨B, 4, none⟩ = some (.int .u8 x4) ∧ w'.cell? ⟨B, 5, none⟩ = some (.int .u8 x5) ∧ w'.cell? ⟨B, 6, none⟩ = some (.int .u8 x6) ∧ w'.cell? ⟨B, 7, none⟩ = some (.int .u8 x7)) := fun w' l h =>
    ⟨keyCells_seed HX.out _ l h 0 (by omega), keyCells_seed HX.out _ l h 1 (by omega), keyCells_seed HX.out _ l h 2 (by omega), keyCells_seed HX.out _ l h 3 (by omega), keyCells_seed HX.out _ l h 4 (by omega), keyCells_seed HX.out _ l h 5 (by omega), keyCells_seed HX.out _ l h 6 (by omega), keyCells_seed HX.out _ l h 7 (by omega)⟩
  have hK2' := Lib.hid hK2
  go_region_held3 (fun w' => w'.cell? ⟨B, 0, none⟩ = some (.int .u8 x0) ∧ w'.cell? ⟨B, 1, none⟩ = some (.int .u8 x1) ∧ w'.cell? ⟨B, 2, none⟩ = some (.int .u8 x2) ∧ w'.cell? ⟨B, 3, none⟩ = some (.int .u8 x3) ∧ w'.cell? ⟨B, 4, none⟩ = some (.int .u8 x4) ∧ w'.cell? ⟨B, 5, none⟩ = some (.int .u8 x5) ∧ w'.cell? ⟨B, 6, none⟩ = some (.int .u8 x6) ∧ w'.cell? ⟨B, 7, none⟩ = some (.int .u8 x7))
    (first | exact SO.out _ _ hK2'.out.drew | exact SO.out _ _ hK3.out | exact SO.out _ _ (keyCells_set HX.out _ _ _ hK3.out n))
    ((go_at_call 82; refine (LV.out _).mono ?_; rintro e w3 ⟨v3, rfl, hO3, hB3⟩; (have hV3 : Below W2.heap.size W2 w3 := (Below.refl _ _).drew.trans (hB3.mono (by first | omega | (simp; omega) | (simp; done)))); obtain ⟨b3, c3, rfl, hb3, hl3⟩ := World.ownsRow.form hO3 (by rw [lT.out]; omega); simp only [World.size_drew] at hb3; (have hK3 := Lib.hid (hK2'.out.below hV3 hlK)); have f3 := hK3.out.free (9 + n); have d3 := keyCells_bot HX.out _ _ hK3.out n; rw [show nil32[n]? = some (Value.slice none 0 0) by unfold nil32; rw [List.getElem?_replicate, if_pos hn32]] at d3))
  generalize hW : World.setCell _ _ _ = W3
  have hK4 : Blk W3 B 194 (keyCells [x0, x1, x2, x3, x4, x5, x6, x7] (.slice (some ⟨vb, 0, none⟩) T2.length vc) (nil32.set n (.slice (some ⟨b3, 0, none⟩) T.length c3))).toArray := by rw [← hW]; exact keyCells_set HX.out _ _ _ hK3.out n
  have hz2 := HZ2.out
  have hG3 : w.grownBy W3 (some B) := by rw [← hW]; exact grown_set (grown_below (grown_of_below hV2) hV3) (9 + n) _
  have hN3 : Ns W3 (.slice (some ⟨b3, 0, none⟩) T.length c3) T := by rw [← hW]; exact (NT.out w3 _ _ hO3).grown (grown_set (grown_refl w3 (some B)) (9 + n) _) (fun a mm c e => by cases e; intro e2; have e3 : b3 = B := (by injection e2); omega)
  have hM3 : Blk W3 w.heap.size 30 (bsv [m0, m1, m2, m3, m4, m5, m6, m7]).toArray := by rw [← hW]; exact (hM2.below hV3 hlM).other _ _ (fun e => by simp at e; omega)
  have hT3 : OwN W3 0 (.slice (some ⟨vb, 0, none⟩) T2.length vc) T2 := World.ownsRow.kept HT.out hG3 (.inr fun e => by simp [Value.ownBlock] at e; omega)
  have hl33 : b3 < W3.heap.size := by rw [← hW]; simpa using hl3
  clear hW hM2 hK2 hK2' hK3 d3 f3 hB3 hO3 hV2
  have cb := keyCells_bot HX.out _ _ hK4 n
  rw [List.getElem?_set_self (by unfold nil32; rw [List.length_replicate]; exact hn32)] at cb
  have ct := keyCells_top HX.out _ _ hK4
  have HK4 := Lib.hid hK4
  have hlK4 := hK4.lt
  have hlM4 := hM3.lt
  have HT3 := Lib.hid hT3
  have HN3 := Lib.hid hN3
  have hcc3 : T.length ≤ c3 := by obtain ⟨_, _, e, h1, _⟩ := hN3.1; cases e; exact h1
  have hcc2 : T2.length ≤ vc := by obtain ⟨_, _, e, h1, _⟩ := (NT2.out _ _ _ hT3).1; cases e; exact h1
  clear hN3 hT3 hK4
  go_upto_region 8 with (first
    | (go_at_call 81; refine (PT2.out _ _ ((NT2.out _ _ _ HT3.out).below hB4)).mono ?_; rintro e w5 ⟨v5, rfl, hP5, hB5⟩)
    | (go_at_call 81; refine (PT.out _ _ HN3.out).mono ?_; rintro e w4 ⟨v4, rfl, hP4, hB4⟩; have ct4 := keyCells_top HX.out _ _ (HK4.out.below hB4 hlK4)))
  have hB45 := hB4.trans (hB5.mono hB4.size)
  have hK5 := HK4.out.below hB45 hlK4
  have hM5 := hM3.below hB45 hlM4
  have hN5 := HN3.out.below hB45
  have hG5 := grown_below hG3 hB45
  have hQ4 := hP4.below hB5
  have hz5 := hB45.size
  have hlK5 := hK5.lt
  have hlM5 := hM5.lt
  clear ct ct4 cb hB4 hB5 hB45 HK4 hM3 HN3 hG3 HT3 hlK4 hlM4 hP4
  generalize w5 = W at *
  have hw8 : IntKind.u8.wrap (j / 256) = j / 256 := by rw [IntKind.wrap_u8]; omega
  have hw0 : IntKind.u8.wrap j = j % 256 := by rw [IntKind.wrap_u8]
  have SO2 : Hid (∀ w' : World, Below W.heap.size W w' → (w'.cell? ⟨B, 0, none⟩ = some (.int .u8 x0) ∧ w'.cell? ⟨B, 1, none⟩ = some (.int .u8 x1) ∧ w'.cell? ⟨B, 2, none⟩ = some (.int .u8 x2) ∧ w'.cell? ⟨B, 3, none⟩ = some (.int .u8 x3) ∧ w'.cell? ⟨B, 4, none⟩ = some (.int .u8 x4) ∧ w'.cell? ⟨B, 5, none⟩ = some (.int .u8 x5) ∧ w'.cell? ⟨B, 6, none⟩ = some (.int .u8 x6) ∧ w'.cell? ⟨B, 7, none⟩ = some (.int .u8 x7)) ∧ (w'.cell? ⟨w.heap.size, 0, none⟩ = some (.int .u8 m0) ∧ w'.cell? ⟨w.heap.size, 1, none⟩ = some (.int .u8 m1) ∧ w'.cell? ⟨w.heap.size, 2, none⟩ = some (.int .u8 m2) ∧ w'.cell? ⟨w.heap.size, 3, none⟩ = some (.int .u8 m3) ∧ w'.cell? ⟨w.heap.size, 4, none⟩ = some (.int .u8 m4) ∧ w'.cell? ⟨w.heap.size, 5, none⟩ = some (.int .u8 m5) ∧ w'.cell? ⟨w.heap.size, 6, none⟩ = some (.int .u8 m6) ∧ w'.cell? ⟨w.heap.size, 7, none⟩ = some (.int .u8 m7))) := fun w' h =>
    ⟨SO.out w' _ (hK5.below h hlK5), (hM5.below h hlM5).cell 0, (hM5.below h hlM5).cell 1, (hM5.below h hlM5).cell 2, (hM5.below h hlM5).cell 3, (hM5.below h hlM5).cell 4, (hM5.below h hlM5).cell 5, (hM5.below h hlM5).cell 6, (hM5.below h hlM5).cell 7⟩
  have HK5 := Lib.hid hK5
  have HM5 := Lib.hid hM5
  have HN5 := Lib.hid hN5
  clear hK5 hM5 hN5
  go_cut [13] (fun s wx => SigSt W wx s ([j / 256, j % 256] ++ (osig K [m0, m1, m2, m3, m4, m5, m6, m7]).flatten ++ P.flatten))
  case first =>
    go_region_held3 (fun w' => (w'.cell? ⟨B, 0, none⟩ = some (.int .u8 x0) ∧ w'.cell? ⟨B, 1, none⟩ = some (.int .u8 x1) ∧ w'.cell? ⟨B, 2, none⟩ = some (.int .u8 x2) ∧ w'.cell? ⟨B, 3, none⟩ = some (.int .u8 x3) ∧ w'.cell? ⟨B, 4, none⟩ = some (.int .u8 x4) ∧ w'.cell? ⟨B, 5, none⟩ = some (.int .u8 x5) ∧ w'.cell? ⟨B, 6, none⟩ = some (.int .u8 x6) ∧ w'.cell? ⟨B, 7, none⟩ = some (.int .u8 x7)) ∧ (w'.cell? ⟨w.heap.size, 0, none⟩ = some (.int .u8 m0) ∧ w'.cell? ⟨w.heap.size, 1, none⟩ = some (.int .u8 m1) ∧ w'.cell? ⟨w.heap.size, 2, none⟩ = some (.int .u8 m2) ∧ w'.cell? ⟨w.heap.size, 3, none⟩ = some (.int .u8 m3) ∧ w'.cell? ⟨w.heap.size, 4, none⟩ = some (.int .u8 m4) ∧ w'.cell? ⟨w.heap.size, 5, none⟩ = some (.int .u8 m5) ∧ w'.cell? ⟨w.heap.size, 6, none⟩ = some (.int .u8 m6) ∧ w'.cell? ⟨w.heap.size, 7, none⟩ = some (.int .u8 m7)))
      ((refine SO2.out _ ?_; first | assumption | exact (Below.refl _ _).drew | exact ((Below.refl _ _).alloc (Nat.le_refl _) _).drew | exact hV4'.alloc hV4'.size _ | exact hV3'.alloc hV3'.size _))
      (first
        | (go_at_call 85; refine (KY.out _).mono ?_; rintro e w3 ⟨e0, e1, e2, e3, e4, e5, e6, e7, rfl, HE, hB3⟩; (have hV3' : Below W.heap.size W w3 := by first | exact (Below.refl _ _).drew.trans (hB3.mono (by first | omega | (simp; omega) | (simp; done))) | exact ((Below.refl _ _).alloc (Nat.le_refl _) _).drew.trans (hB3.mono (by first | omega | (simp; omega) | (simp; done)))); have hz3 := hV3'.size; try (have hG3 : Blk w3 W.heap.size 5 (bsv [j / 256, j % 256]).toArray := (Blk.new W.drew 5 (bsv [j / 256, j % 256]).toArray).below hB3 (by first | omega | (simp; omega) | (simp; done)); have hg3 := hG3.lt))
        | (go_at_call 84; refine (OS.out [e0, e1, e2, e3, e4, e5, e6, e7] [m0, m1, m2, m3, m4, m5, m6, m7] _ (by rw [← HE.out]; exact KN.out) HMN.out).mono ?_; rintro e w4 ⟨v6, rfl, hO4, hB4⟩; (have hV4' : Below W.heap.size W w4 := by first | exact hV3'.trans (hB4.mono (by first | omega | (simp; omega) | (simp; done))) | exact (hV3'.alloc hV3'.size _).trans (hB4.mono (by first | omega | (simp; omega) | (simp; done)))); have hz4' := hV4'.size; rw [← HE.out] at hO4; have hz34 := hB4.size; (try simp only [World.size_alloc] at hz34); have hN4 := hO4.ns (by rw [osig_len]; omega) (osig_isN _ _); first | (have hG4 : Blk w4 W.heap.size 5 (bsv [j / 256, j % 256]).toArray := hG3.below hB4 (by first | omega | (simp; omega) | (simp; done))) | (have hG4 : Blk w4 w3.heap.size 5 (bsv [j / 256, j % 256]).toArray := (Blk.new w3 5 (bsv [j / 256, j % 256]).toArray).below hB4 (by first | omega | (simp; omega) | (simp; done))) | skip)
        | (go_at_call 83; refine (rnames_st ([j / 256, j % 256] ++ (osig K [m0, m1, m2, m3, m4, m5, m6, m7]).flatten) P v7 _ w5 hO5 ((NP.out _ _ _ hQ4).below hV5) (by rw [lP.out]; omega) (by rw [lP.out]; omega) (by rw [List.length_append, osig_flat_len]; simp) (by intro a mm c hv e; have h1 := hQ4.blk hv; have h2 := lo5 _ e.symm; omega)).mono ?_; rintro e w6 ⟨v8, rfl, hO6, hg6, hL6⟩; have hV6 := hV5.grown hg6 hV5.size lo5)
        | (go_at_call 83; refine (rnames_st [j / 256, j % 256] (osig K [m0, m1, m2, m3, m4, m5, m6, m7]) _ _ _ (by first | exact OwB.lit hG4 (by simp [maxLen]) | exact OwB.lit (Blk.new w4 5 (bsv [j / 256, j % 256]).toArray) (by simp [maxLen])) (by first | exact hN4 | exact hN4.below (below1 _ _)) (by rw [osig_len]; omega) (by rw [osig_len]; omega) (by simp) (by intro a mm c hv e; have h1 := hO4.blk hv; (try simp only [World.size_alloc] at h1); simp [Value.ownBlock] at e; omega)).mono ?_; rintro e w5 ⟨v7, rfl, hO5, hg5, hL5⟩; (have hV5 : Below W.heap.size W w5 := by first | exact hV4'.grown hg5 hV4'.size (by intro k hk; simp [Value.ownBlock] at hk; omega) | exact (hV4'.alloc hV4'.size _).grown hg5 (by first | omega | (simp; omega) | (simp; done)) (by intro k hk; simp [Value.ownBlock] at hk; omega)); (have lo5 : ∀ k, v7.ownBlock = some k → W.heap.size ≤ k := hL5.lo rfl (by first | omega | (simp; omega) | (simp; done)) (by first | omega | (simp; omega) | (simp; done)))))
    all_goals
      have lo6 : ∀ k, v8.ownBlock = some k → W.heap.size ≤ k := fun k hk => by
        have h7 := hV5.size
        rcases hL6 with h6 | ⟨b6, h6, h8⟩
        · exact lo5 k (h6 ▸ hk)
        · rw [h6] at hk; injection hk; omega
      go_wp2_with fail
      go_meet
      exact ⟨hO6, lo6, hV6⟩
  case rest =>
    obtain ⟨hO13, lo13, hV13⟩ := hcut
    have hw13 := hV13.size
    have SO3 : Hid (∀ w' : World, Below W.heap.size W w' → (w'.cell? ⟨B, 0, none⟩ = some (.int .u8 x0) ∧ w'.cell? ⟨B, 1, none⟩ = some (.int .u8 x1) ∧ w'.cell? ⟨B, 2, none⟩ = some (.int .u8 x2) ∧ w'.cell? ⟨B, 3, none⟩ = some (.int .u8 x3) ∧ w'.cell? ⟨B, 4, none⟩ = some (.int .u8 x4) ∧ w'.cell? ⟨B, 5, none⟩ = some (.int .u8 x5) ∧ w'.cell? ⟨B, 6, none⟩ = some (.int .u8 x6) ∧ w'.cell? ⟨B, 7, none⟩ = some (.int .u8 x7)) ∧ w'.cell? ⟨B, 9 + n, none⟩ = some (.slice (some ⟨b3, 0, none⟩) T.length c3)) := fun w' h =>
      ⟨SO.out w' _ (HK5.out.below h hlK5), (keyCells_bot HX.out _ _ (HK5.out.below h hlK5) n).trans (List.getElem?_set_self (by unfold nil32; rw [List.length_replicate]; exact hn32))⟩
    have HO13 := Lib.hid hO13
    have lt13 : ∀ k, u13.ownBlock = some k → k < wc.heap.size := fun k hk => (World.ownsRow.lt HO13.out k hk).2
    have acl : ([j / 256, j % 256] ++ (osig K [m0, m1, m2, m3, m4, m5, m6, m7]).flatten ++ P.flatten).length ≤ 1000 := by
      rw [List.length_append, List.length_append, osig_flat_len, flatten_len (NP.out _ _ _ hQ4).2, lP.out]; simp
    have ACL := Lib.hid acl
    clear hO13 acl
    generalize hAe : [j / 256, j % 256] ++ (osig K [m0, m1, m2, m3, m4, m5, m6, m7]).flatten ++ P.flatten = A at *
    have HAe := Lib.hid hAe
    clear hAe
    go_upto_region 9 with (fail)
    go_region_held3 (fun w' => (w'.cell? ⟨B, 0, none⟩ = some (.int .u8 x0) ∧ w'.cell? ⟨B, 1, none⟩ = some (.int .u8 x1) ∧ w'.cell? ⟨B, 2, none⟩ = some (.int .u8 x2) ∧ w'.cell? ⟨B, 3, none⟩ = some (.int .u8 x3) ∧ w'.cell? ⟨B, 4, none⟩ = some (.int .u8 x4) ∧ w'.cell? ⟨B, 5, none⟩ = some (.int .u8 x5) ∧ w'.cell? ⟨B, 6, none⟩ = some (.int .u8 x6) ∧ w'.cell? ⟨B, 7, none⟩ = some (.int .u8 x7)) ∧ w'.cell? ⟨B, 9 + n, none⟩ = some (.slice (some ⟨b3, 0, none⟩) T.length c3))
      ((refine SO3.out _ ?_; first | assumption | exact hV13.drew))
      (first
        | (go_at_call 85; refine (KY2.out _).mono ?_; rintro e wk ⟨e0, e1, e2, e3, e4, e5, e6, e7, rfl, HE, hBk⟩; (have hUk : Below wc.heap.size wc wk := by first | exact (Below.refl _ _).drew.trans (hBk.mono (by first | omega | (simp; omega) | (simp; done))) | exact hUr.trans (hBk.mono hUr.size)); have hVk := hV13.trans (hUk.mono hw13); have hzk := hUk.size)
        | (go_at_call 86; refine (RT.out _ _ (by first | exact (HN5.out.below hV13).drew | exact HN5.out.below hVk)).mono ?_; rintro e wr ⟨r0, r1, r2, r3, r4, r5, r6, r7, rfl, HR, hBr⟩; (have hUr : Below wc.heap.size wc wr := by first | exact (Below.refl _ _).drew.trans (hBr.mono (by first | omega | (simp; omega) | (simp; done))) | exact hUk.trans (hBr.mono hUk.size)); have hVr := hV13.trans (hUr.mono hw13); have hzr := hUr.size)
        | (go_at_call 84; refine (OS.out [e0, e1, e2, e3, e4, e5, e6, e7] [r0, r1, r2, r3, r4, r5, r6, r7] _ (by rw [← HE.out]; exact KN2.out) (by rw [← HR.out]; exact RN.out)).mono ?_; rintro e w4 ⟨v6, rfl, hO4, hB4⟩; (have hU4 : Below wc.heap.size wc w4 := by first | exact hUk.trans (hB4.mono hUk.size) | exact hUr.trans (hB4.mono hUr.size)); have hV4' := hV13.trans (hU4.mono hw13); have hz4' := hU4.size; rw [← HE.out, ← HR.out] at hO4; have hN4 := hO4.ns (by rw [osig_len]; omega) (osig_isN _ _))
        | (go_at_call 83; refine (rnames_st (A ++ (osig K2 R).flatten) P2 v7 _ w5 hO5 ((NP2.out _ _ _ hP5).below hV5) (by rw [lP2.out]; omega) (by rw [lP2.out]; omega) (by rw [List.length_append, osig_flat_len]; have := ACL.out; omega) (by intro a mm c hv e; have h1 := hP5.blk hv; have h2 := lo5 _ e.symm; omega)).mono ?_; rintro e w6 ⟨v8, rfl, hO6, hg6, hL6⟩; have hV6 := hV5.grown hg6 hV5.size lo5)
        | (go_at_call 83; refine (rnames_st A (osig K2 R) u13 v6 w4 (HO13.out.below hU4) hN4 (by rw [osig_len]; omega) (by rw [osig_len]; omega) (by have := ACL.out; omega) (by intro a mm c hv e; have h1 := hO4.blk hv; have h2 := lt13 _ e.symm; omega)).mono ?_; rintro e w5 ⟨v7, rfl, hO5, hg5, hL5⟩; (have hV5 : Below W.heap.size W w5 := hV4'.grown hg5 hV4'.size lo13); (have lo5 : ∀ k, v7.ownBlock = some k → W.heap.size ≤ k := fun k hk => by rcases hL5 with h6 | ⟨b6, h6, h8⟩; exact lo13 k (h6 ▸ hk); rw [h6] at hk; injection hk; omega)))
    all_goals
      have lo6 : ∀ k, v8.ownBlock = some k → w.heap.size ≤ k := fun k hk => by
        have h7 := hV5.size
        have h9 := hG5.size
        rcases hL6 with h6 | ⟨b6, h6, h8⟩
        · have := lo5 k (h6 ▸ hk); omega
        · rw [h6] at hk; injection hk; omega
      go_wp2
      go_ret2
      have h9 := hO6.up lo6
      rw [← HAe.out] at h9
      simp only [List.cons_append, List.nil_append] at h9
      exact ⟨_, rfl, h9, grown_below hG5 hV6⟩
end
section
open Go.RowKit

theorem rksign_no (m : List Int) (B : Nat) (j : Int) (w : World) (h : j < 0 ∨ 1024 ≤ j) :
    Calls Try.prog 80 #[.pointer (some ⟨B, 0, none⟩), .int .i64 j, nv m] w fun e w' => e = .returned (.tuple #[.slice none 0 0, .bool false]) ∧ Below w.heap.size w w' := by
  rcases h with h | h
  · have hg1 : decide (j < 0) = true := by simpa using h
    go_enter Try.func80, Try.ntmps80
    go_wp2_with (refine wpList_box_name rfl (.tmp 2) rfl m rfl ?_; intro w1 hA1 hB1 hs1)
    go_ret2
    exact ⟨rfl, hB1⟩
  · have hg1 : decide (j < 0) = false := by simp; omega
    have hg2 : decide (1024 ≤ j) = true := by simpa using h
    go_enter Try.func80, Try.ntmps80
    go_wp2_with (refine wpList_box_name rfl (.tmp 2) rfl m rfl ?_; intro w1 hA1 hB1 hs1)
    go_ret2
    exact ⟨rfl, hB1⟩

set_option maxRecDepth 100000 in
set_option maxHeartbeats 8000000 in
theorem rsign2_yes (x m : List Int) (j : Int) (w : World) (hx : IsN x) (hm : IsN m) (h0 : 0 ≤ j) (h1 : j < 1024) :
    Calls Try.prog 26 #[nv x, .int .i64 2, .int .i64 j, nv m] w fun e w' => ∃ v', e = .returned (.tuple #[v', .bool true]) ∧ OwB w' w.heap.size v' (msig x 2 j.toNat m) ∧ Below w.heap.size w w' := by
  have HX := Lib.hid hx
  have HMN := Lib.hid hm
  have NK := Lib.hid (fun w => rnewkey_any x w hx)
  have hsg : ∀ q : List Int, Hid (msig x 2 j.toNat m = q) → True := fun _ _ => trivial
  clear hsg
  generalize hS : msig x 2 j.toNat m = S at *
  have HS := Lib.hid hS
  clear hS
  obtain ⟨x0, x1, x2, x3, x4, x5, x6, x7, rfl, _⟩ := hx.cases
  obtain ⟨m0, m1, m2, m3, m4, m5, m6, m7, rfl, _⟩ := hm.cases
  clear hx hm
  go_enter Try.func26, Try.ntmps26
  go_upto_region 2 with (fail)
  generalize hW : World.alloc _ _ = W
  have hA2 : Blk W w.heap.size 30 (bsv [x0, x1, x2, x3, x4, x5, x6, x7]).toArray := by rw [← hW]; exact (Blk.new _ _ _).old _
  have hM2 : Blk W (w.heap.size + 1) 30 (bsv [m0, m1, m2, m3, m4, m5, m6, m7]).toArray := by rw [← hW]; exact Blk.new' _ _ _ (by simp)
  have hV2 : Below w.heap.size w W := by rw [← hW]; exact below2 w _ _
  clear hW
  have SO : Hid (∀ w' : World, Below W.heap.size W w' → (w'.cell? ⟨w.heap.size, 0, none⟩ = some (.int .u8 x0) ∧ w'.cell? ⟨w.heap.size, 1, none⟩ = some (.int .u8 x1) ∧ w'.cell? ⟨w.heap.size, 2, none⟩ = some (.int .u8 x2) ∧ w'.cell? ⟨w.heap.size, 3, none⟩ = some (.int .u8 x3) ∧ w'.cell? ⟨w.heap.size, 4, none⟩ = some (.int .u8 x4) ∧ w'.cell? ⟨w.heap.size, 5, none⟩ = some (.int .u8 x5) ∧ w'.cell? ⟨w.heap.size, 6, none⟩ = some (.int .u8 x6) ∧ w'.cell? ⟨w.heap.size, 7, none⟩ = some (.int .u8 x7)) ∧ (w'.cell? ⟨w.heap.size + 1, 0, none⟩ = some (.int .u8 m0) ∧ w'.cell? ⟨w.heap.size + 1, 1, none⟩ = some (.int .u8 m1) ∧ w'.cell? ⟨w.heap.size + 1, 2, none⟩ = some (.int .u8 m2) ∧ w'.cell? ⟨w.heap.size + 1, 3, none⟩ = some (.int .u8 m3) ∧ w'.cell? ⟨w.heap.size + 1, 4, none⟩ = some (.int .u8 m4) ∧ w'.cell? ⟨w.heap.size + 1, 5, none⟩ = some (.int .u8 m5) ∧ w'.cell? ⟨w.heap.size + 1, 6, none⟩ = some (.int .u8 m6) ∧ w'.cell? ⟨w.heap.size + 1, 7, none⟩ = some (.int .u8 m7))) := fun w' h =>
    ⟨⟨(hA2.below h hA2.lt).cell 0, (hA2.below h hA2.lt).cell 1, (hA2.below h hA2.lt).cell 2, (hA2.below h hA2.lt).cell 3, (hA2.below h hA2.lt).cell 4, (hA2.below h hA2.lt).cell 5, (hA2.below h hA2.lt).cell 6, (hA2.below h hA2.lt).cell 7⟩,
      (hM2.below h hM2.lt).cell 0, (hM2.below h hM2.lt).cell 1, (hM2.below h hM2.lt).cell 2, (hM2.below h hM2.lt).cell 3, (hM2.below h hM2.lt).cell 4, (hM2.below h hM2.lt).cell 5, (hM2.below h hM2.lt).cell 6, (hM2.below h hM2.lt).cell 7⟩
  clear hA2 hM2
  go_region_held3 (fun w' => (w'.cell? ⟨w.heap.size, 0, none⟩ = some (.int .u8 x0) ∧ w'.cell? ⟨w.heap.size, 1, none⟩ = some (.int .u8 x1) ∧ w'.cell? ⟨w.heap.size, 2, none⟩ = some (.int .u8 x2) ∧ w'.cell? ⟨w.heap.size, 3, none⟩ = some (.int .u8 x3) ∧ w'.cell? ⟨w.heap.size, 4, none⟩ = some (.int .u8 x4) ∧ w'.cell? ⟨w.heap.size, 5, none⟩ = some (.int .u8 x5) ∧ w'.cell? ⟨w.heap.size, 6, none⟩ = some (.int .u8 x6) ∧ w'.cell? ⟨w.heap.size, 7, none⟩ = some (.int .u8 x7)) ∧ (w'.cell? ⟨w.heap.size + 1, 0, none⟩ = some (.int .u8 m0) ∧ w'.cell? ⟨w.heap.size + 1, 1, none⟩ = some (.int .u8 m1) ∧ w'.cell? ⟨w.heap.size + 1, 2, none⟩ = some (.int .u8 m2) ∧ w'.cell? ⟨w.heap.size + 1, 3, none⟩ = some (.int .u8 m3) ∧ w'.cell? ⟨w.heap.size + 1, 4, none⟩ = some (.int .u8 m4) ∧ w'.cell? ⟨w.heap.size + 1, 5, none⟩ = some (.int .u8 m5) ∧ w'.cell? ⟨w.heap.size + 1, 6, none⟩ = some (.int .u8 m6) ∧ w'.cell? ⟨w.heap.size + 1, 7, none⟩ = some (.int .u8 m7)))
    ((refine SO.out _ ?_; first | exact hV4 | exact hV3 | exact (Below.refl _ _).drew))
    (first
      | (go_at_call 79; refine (NK.out _).mono ?_; rintro e w3 ⟨g, v3, rfl, hK3, hO3, hg3, hb3, hB3⟩; simp only [World.size_drew] at hg3; have hV3 : Below W.heap.size W w3 := (Below.refl _ _).drew.trans (hB3.mono (by first | omega | (simp; omega) | (simp; done))))
      | (go_at_call 80; refine (rksign_yes [x0, x1, x2, x3, x4, x5, x6, x7] [m0, m1, m2, m3, m4, m5, m6, m7] g v3 j w3 HX.out HMN.out h0 h1 hK3 (hO3.base (Nat.zero_le _)) hb3).mono ?_; rintro e w4 ⟨v4, rfl, hO4, hG4⟩; have hV4 := hV3.grown hG4 hV3.size (by intro k hk; cases hk; exact hg3)))
  all_goals
    go_wp2
    go_ret2
    rw [HS.out] at hO4
    exact ⟨_, rfl, hO4.base (by have := hV2.size; have := hV3.size; omega), hV2.trans (hV4.mono hV2.size)⟩

set_option maxRecDepth 100000 in
set_option maxHeartbeats 8000000 in
theorem rsign2_no (x m : List Int) (j : Int) (w : World) (hx : IsN x) (hm : IsN m) (h0 : j < 0 ∨ 1024 ≤ j) :
    Calls Try.prog 26 #[nv x, .int .i64 2, .int .i64 j, nv m] w fun e w' => e = .returned (.tuple #[.slice none 0 0, .bool false]) ∧ Below w.heap.size w w' := by
  have HX := Lib.hid hx
  have HMN := Lib.hid hm
  have NK := Lib.hid (fun w => rnewkey_any x w hx)
  have hsg : ∀ q : List Int, Hid (msig x 2 j.toNat m = q) → True := fun _ _ => trivial
  clear hsg
  generalize hS : msig x 2 j.toNat m = S at *
  have HS := Lib.hid hS
  clear hS
  obtain ⟨x0, x1, x2, x3, x4, x5, x6, x7, rfl, _⟩ := hx.cases
  obtain ⟨m0, m1, m2, m3, m4, m5, m6, m7, rfl, _⟩ := hm.cases
  clear hx hm
  go_enter Try.func26, Try.ntmps26
  go_upto_region 2 with (fail)
  generalize hW : World.alloc _ _ = W
  have hA2 : Blk W w.heap.size 30 (bsv [x0, x1, x2, x3, x4, x5, x6, x7]).toArray := by rw [← hW]; exact (Blk.new _ _ _).old _
  have hM2 : Blk W (w.heap.size + 1) 30 (bsv [m0, m1, m2, m3, m4, m5, m6, m7]).toArray := by rw [← hW]; exact Blk.new' _ _ _ (by simp)
  have hV2 : Below w.heap.size w W := by rw [← hW]; exact below2 w _ _
  clear hW
  have SO : Hid (∀ w' : World, Below W.heap.size W w' → (w'.cell? ⟨w.heap.size, 0, none⟩ = some (.int .u8 x0) ∧ w'.cell? ⟨w.heap.size, 1, none⟩ = some (.int .u8 x1) ∧ w'.cell? ⟨w.heap.size, 2, none⟩ = some (.int .u8 x2) ∧ w'.cell? ⟨w.heap.size, 3, none⟩ = some (.int .u8 x3) ∧ w'.cell? ⟨w.heap.size, 4, none⟩ = some (.int .u8 x4) ∧ w'.cell? ⟨w.heap.size, 5, none⟩ = some (.int .u8 x5) ∧ w'.cell? ⟨w.heap.size, 6, none⟩ = some (.int .u8 x6) ∧ w'.cell? ⟨w.heap.size, 7, none⟩ = some (.int .u8 x7)) ∧ (w'.cell? ⟨w.heap.size + 1, 0, none⟩ = some (.int .u8 m0) ∧ w'.cell? ⟨w.heap.size + 1, 1, none⟩ = some (.int .u8 m1) ∧ w'.cell? ⟨w.heap.size + 1, 2, none⟩ = some (.int .u8 m2) ∧ w'.cell? ⟨w.heap.size + 1, 3, none⟩ = some (.int .u8 m3) ∧ w'.cell? ⟨w.heap.size + 1, 4, none⟩ = some (.int .u8 m4) ∧ w'.cell? ⟨w.heap.size + 1, 5, none⟩ = some (.int .u8 m5) ∧ w'.cell? ⟨w.heap.size + 1, 6, none⟩ = some (.int .u8 m6) ∧ w'.cell? ⟨w.heap.size + 1, 7, none⟩ = some (.int .u8 m7))) := fun w' h =>
    ⟨⟨(hA2.below h hA2.lt).cell 0, (hA2.below h hA2.lt).cell 1, (hA2.below h hA2.lt).cell 2, (hA2.below h hA2.lt).cell 3, (hA2.below h hA2.lt).cell 4, (hA2.below h hA2.lt).cell 5, (hA2.below h hA2.lt).cell 6, (hA2.below h hA2.lt).cell 7⟩,
      (hM2.below h hM2.lt).cell 0, (hM2.below h hM2.lt).cell 1, (hM2.below h hM2.lt).cell 2, (hM2.below h hM2.lt).cell 3, (hM2.below h hM2.lt).cell 4, (hM2.below h hM2.lt).cell 5, (hM2.below h hM2.lt).cell 6, (hM2.below h hM2.lt).cell 7⟩
  clear hA2 hM2
  go_region_held3 (fun w' => (w'.cell? ⟨w.heap.size, 0, none⟩ = some (.int .u8 x0) ∧ w'.cell? ⟨w.heap.size, 1, none⟩ = some (.int .u8 x1) ∧ w'.cell? ⟨w.heap.size, 2, none⟩ = some (.int .u8 x2) ∧ w'.cell? ⟨w.heap.size, 3, none⟩ = some (.int .u8 x3) ∧ w'.cell? ⟨w.heap.size, 4, none⟩ = some (.int .u8 x4) ∧ w'.cell? ⟨w.heap.size, 5, none⟩ = some (.int .u8 x5) ∧ w'.cell? ⟨w.heap.size, 6, none⟩ = some (.int .u8 x6) ∧ w'.cell? ⟨w.heap.size, 7, none⟩ = some (.int .u8 x7)) ∧ (w'.cell? ⟨w.heap.size + 1, 0, none⟩ = some (.int .u8 m0) ∧ w'.cell? ⟨w.heap.size + 1, 1, none⟩ = some (.int .u8 m1) ∧ w'.cell? ⟨w.heap.size + 1, 2, none⟩ = some (.int .u8 m2) ∧ w'.cell? ⟨w.heap.size + 1, 3, none⟩ = some (.int .u8 m3) ∧ w'.cell? ⟨w.heap.size + 1, 4, none⟩ = some (.int .u8 m4) ∧ w'.cell? ⟨w.heap.size + 1, 5, none⟩ = some (.int .u8 m5) ∧ w'.cell? ⟨w.heap.size + 1, 6, none⟩ = some (.int .u8 m6) ∧ w'.cell? ⟨w.heap.size + 1, 7, none⟩ = some (.int .u8 m7)))
    ((refine SO.out _ ?_; first | exact hV4 | exact hV3 | exact (Below.refl _ _).drew))
    (first
      | (go_at_call 79; refine (NK.out _).mono ?_; rintro e w3 ⟨g, v3, rfl, hK3, hO3, hg3, hb3, hB3⟩; simp only [World.size_drew] at hg3; have hV3 : Below W.heap.size W w3 := (Below.refl _ _).drew.trans (hB3.mono (by first | omega | (simp; omega) | (simp; done))))
      | (go_at_call 80; refine (rksign_no [m0, m1, m2, m3, m4, m5, m6, m7] g j w3 h0).mono ?_; rintro e w4 ⟨rfl, hB4⟩; have hV4 := hV3.trans (hB4.mono hV3.size)))
  all_goals
    go_wp2
    go_ret2
    skip
    exact ⟨rfl, hV2.trans (hV4.mono hV2.size)⟩

set_option maxRecDepth 100000 in
theorem rsign1_no (x m : List Int) (l j : Int) (w : World) (h2 : l ≠ 2) (h : l ≠ 1 ∨ j < 0 ∨ 32 ≤ j) :
    Calls Try.prog 26 #[nv x, .int .i64 l, .int .i64 j, nv m] w fun e w' => e = .returned (.tuple #[.slice none 0 0, .bool false]) ∧ Below w.heap.size w w' := by
  have hc : (l == 2) = false ∧ ((l != 1) = true ∨ (l != 1) = false ∧ (decide (j < 0) = true ∨ decide (j < 0) = false ∧ decide (32 ≤ j) = true)) := by
    refine ⟨by simpa using h2, ?_⟩
    by_cases h1 : l = 1
    · refine .inr ⟨by simp [h1], ?_⟩
      by_cases hj : j < 0
      · exact .inl (by simpa using hj)
      · exact .inr ⟨by simp; omega, by simp; omega⟩
    · exact .inl (by simpa using h1)
  clear h h2
  obtain ⟨hg0, hg1 | ⟨hg1, hg2 | ⟨hg2, hg3⟩⟩⟩ := hc
  all_goals
    go_enter Try.func26, Try.ntmps26
    go_wp2_with (first
      | (refine wpList_box_name rfl (.tmp 0) rfl x rfl ?_; intro w1 hA1 hB1 hs1)
      | (refine wpList_box_name rfl (.tmp 3) rfl m rfl ?_; intro w2 hA2 hB2 hs2))
    go_ret2
    exact ⟨rfl, hB1.trans (hB2.mono (by omega))⟩
theorem capOf_yes {l j : Int} (h0 : 0 ≤ j) (h : j < capOf l) : l = 1 ∧ j < 32 ∨ l = 2 ∧ j < 1024 := by
  unfold capOf at h
  split at h
  · exact .inl ⟨by assumption, h⟩
  · split at h
    · exact .inr ⟨by assumption, h⟩
    · omega
theorem rsign_yes (x m : List Int) (l j : Int) (w : World) (hx : IsN x) (hm : IsN m) (h0 : 0 ≤ j) (h1 : j < capOf l) :
    Calls Try.prog 26 #[nv x, .int .i64 l, .int .i64 j, nv m] w fun e w' => ∃ v', e = .returned (.tuple #[v', .bool true]) ∧ OwB w' w.heap.size v' (msig x l j.toNat m) ∧ Below w.heap.size w w' := by
  rcases capOf_yes h0 h1 with ⟨rfl, h⟩ | ⟨rfl, h⟩
  · exact rsign1_yes x m j w hx hm h0 h
  · exact rsign2_yes x m j w hx hm h0 h
theorem rsign_no (x m : List Int) (l j : Int) (w : World) (hx : IsN x) (hm : IsN m) (h : ¬ (0 ≤ j ∧ j < capOf l)) :
    Calls Try.prog 26 #[nv x, .int .i64 l, .int .i64 j, nv m] w fun e w' => e = .returned (.tuple #[.slice none 0 0, .bool false]) ∧ Below w.heap.size w w' := by
  by_cases h2 : l = 2
  · subst h2
    exact rsign2_no x m j w hx hm (by simp [capOf] at h; omega)
  · refine rsign1_no x m l j w h2 ?_
    by_cases h1 : l = 1
    · subst h1; simp [capOf] at h; omega
    · exact .inl h1
end
end Go.Proofs.Ytilhceihelcdgaa
