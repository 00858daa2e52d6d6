/-
  The seed of one key of a tree.
  The leaves of a tree of keys: the reference's.
-/
import Derived.Test.YtilhceihelcdgaaOC
import Derived.Test.YtilhceihelcdgaaC
import Derived.Test.YtilhceihelcdgaaOD
namespace Go.Proofs.Ytilhceihelcdgaa
section
open Go.RowKit

def okey (x : List Int) (l t j : Int) : List Int := hname (48 :: (x ++ [l, 0, t, j]))
theorem okey_isN (x : List Int) (l t j : Int) : IsN (okey x l t j) := hname_isN _

set_option maxHeartbeats 1000000 in
theorem rkey_any (x : List Int) (l t j : Int) (w : World) (hx : IsN x) (hl : 0 ≤ l ∧ l < 256) (ht : 0 ≤ t ∧ t < 256) (hj : 0 ≤ j ∧ j < 256) :
    Calls Try.prog 85 #[nv x, .int .i64 l, .int .i64 t, .int .i64 j] w fun e w' => e = .returned (nv (okey x l t j)) ∧ Below w.heap.size w w' := by
  have HX := Lib.hid hx
  have HC := Lib.hid (hx.2.append (Byt.cons hl.1 hl.2 (Byt.cons (show (0 : Int) ≤ 0 by omega) (by omega) (Byt.cons ht.1 ht.2 (Byt.cons hj.1 hj.2 Byt.nil)))))
  obtain ⟨_, _⟩ := hl
  obtain ⟨_, _⟩ := ht
  obtain ⟨_, _⟩ := hj
  have hw1 : IntKind.u8.wrap l = l := by rw [IntKind.wrap_u8]; omega
  have hw2 : IntKind.u8.wrap t = t := by rw [IntKind.wrap_u8]; omega
  have hw3 : IntKind.u8.wrap j = j := by rw [IntKind.wrap_u8]; omega
  have hw4 : t / 256 = 0 := by omega
  clear hx
  go_enter Try.func85, Try.ntmps85
  go_wp2_with (first
    | (refine wpList_box_name rfl (.tmp 0) rfl x rfl ?_; intro w1 hA1 hB1 hs1)
    | (at_builtin; refine hold ?_))
  refine Lib.hid ?_
  generalize hW : World.alloc _ _ = W3
  have hA3 : Blk W3 w.heap.size 30 (bsv x).toArray := by rw [← hW]; exact (hA1.old _).old _
  have hN3 : Blk W3 (w.heap.size + 1) 30 (bsv zeroN).toArray := by rw [← hW, ← hs1]; exact (Blk.new _ _ _).old _
  have hE3 : OwB W3 (w.heap.size + 1 + 1) (.slice (some ⟨w.heap.size + 1 + 1, 0, none⟩) 0 0) [] := by
    rw [← hW]
    have := OwB.empty (w1.alloc (.cells (bsv zeroN).toArray 30)) (w.heap.size + 1 + 1) (by simp [hs1])
    rw [show (w1.alloc (.cells (bsv zeroN).toArray 30)).heap.size = w.heap.size + 1 + 1 by simp [hs1]] at this
    exact this
  have hV3 : Below w.heap.size w W3 := by rw [← hW]; exact hB1.trans ((below2 w1 _ _).mono (by omega))
  have hz3 : w.heap.size + 1 + 1 < W3.heap.size := by rw [← hW]; simp [hs1]
  clear hW
  refine wpList_app_bs _ rfl (.tmp 9) (.tmp 10) rfl (w.heap.size + 1 + 1) _ [] rfl hE3 _ x rfl (Sl.name hA3 HX.out) (by simp [HX.out.1]) (by omega) ?_
  intro v4 w4 hO4 hg4
  have hB4 := hE3.below_grown (Below.refl _ _) (by omega) hg4
  have hz4 := hB4.size
  go_wp2_with (at_builtin; refine hold ?_)
  refine Lib.hid ?_
  refine wpList_app_bs _ rfl (.tmp 11) (.tmp 21) rfl (w.heap.size + 1 + 1) _ _ rfl (hO4.alloc _) _ [l, 0, t, j] rfl (Sl.whole (Blk.new w4 5 (bsv [l, 0, t, j]).toArray) (by simp)) (by simp [HX.out.1]) (by simp; omega) ?_
  intro v5 w5 hO5 hg5
  have hB5 := (hO4.alloc (.cells (bsv [l, 0, t, j]).toArray 5)).below_grown (hB4.alloc (by omega) _) (by simp; omega) hg5
  have hz5 := hB5.size
  go_wp2_with (first
    | (go_at_call 133; refine (rtagged_any 48 (x ++ [l, 0, t, j]) _ _ (hO5.bs (by rw [List.nil_append, List.length_append, HX.out.1]; simp) HC.out) ⟨by omega, by omega⟩ (by rw [List.length_append, HX.out.1]; simp)).mono ?_; rintro e w6 ⟨rfl, hB6⟩)
    | (refine wpList_store_name _ rfl (.tmp 8) (.tmp 23) rfl (w.heap.size + 1) rfl _ rfl _ _ ((hN3.below hB5 (by omega)).below hB6 (by omega)) rfl rfl ?_; intro w7 hN7 hg7))
  have hV6 := (hV3.trans (hB5.mono (by omega))).trans (hB6.mono (by omega))
  exact ret_name rfl (w.heap.size + 1) _ _ rfl rfl hN7 rfl ⟨rfl, hV6.grown hg7 hV6.size (by intro j hj; cases hj; omega)⟩

theorem beB2 (t : Int) (h : 0 ≤ t ∧ t < 256) : beB t 2 = [0, t] := by
  obtain ⟨_, _⟩ := h
  simp only [beB, List.cons.injEq, and_true]
  omega

set_option maxHeartbeats 1000000 in
theorem seedOf_any (g : Nat) (x : List Int) (l t j : Int) (w : World) (hc : ∀ j, j < 8 → w.cell? ⟨g, 0 + j, none⟩ = some (.int .u8 (x.getD j 0))) (hx : IsN x) (hl : 0 ≤ l ∧ l < 256) (ht : 0 ≤ t ∧ t < 256) (hj : 0 ≤ j ∧ j < 256) :
    Calls Try.prog 168 #[.pointer (some ⟨g, 0, none⟩), .int .i64 l, .int .i64 t, .int .i64 j] w fun e w' => e = .returned (nv (okey x l t j)) ∧ Below w.heap.size w w' := by
  have HX := Lib.hid hx
  have HT := Lib.hid (beB2 t ht)
  have HC := Lib.hid (hx.2.append (Byt.cons hl.1 hl.2 (Byt.cons (show (0 : Int) ≤ 0 by omega) (by omega) (Byt.cons ht.1 ht.2 (Byt.cons hj.1 hj.2 Byt.nil)))))
  have HC1 := Lib.hid (hx.2.append (Byt.cons hl.1 hl.2 Byt.nil))
  have HS := Lib.hid (Sl.mid hc hx)
  obtain ⟨_, _⟩ := hl
  obtain ⟨_, _⟩ := ht
  obtain ⟨_, _⟩ := hj
  have hw1 : IntKind.u8.wrap l = l := by rw [IntKind.wrap_u8]; omega
  have hw3 : IntKind.u8.wrap j = j := by rw [IntKind.wrap_u8]; omega
  clear hx hc
  have hN0 := Blk.new w 30 (bsv zeroN).toArray
  go_enter Try.func168, Try.ntmps168
  go_wp2_with (at_builtin; refine hold ?_)
  refine Lib.hid ?_
  generalize hW : World.alloc _ _ = W3
  have hN3 : Blk W3 w.heap.size 30 (bsv zeroN).toArray := by rw [← hW]; exact hN0.old _
  have hC3 : Blk W3 (w.heap.size + 1) 5 (bsv [l]).toArray := by rw [← hW]; exact Blk.new' _ _ _ (by simp)
  have hV3 : Below w.heap.size w W3 := by rw [← hW]; exact below2 w _ _
  have hz3 := hC3.lt
  clear hW hN0
  refine wpList_grow_bs _ rfl (.tmp 13) (.tmp 16) rfl _ x rfl (HS.out.below hV3) (fun _ _ _ e => by cases e; exact HX.out.1.symm) _ [l] rfl (Sl.whole hC3 (by simp)) (by simp) (by rw [HX.out.1]; simp) ?_
  intro v4 w4 hO4 hg4
  have hB4 := Below.of_grown hg4 (Nat.le_refl _)
  have hz4 := hB4.size
  go_wp2_with (first
    | (go_at_call 94; refine (appendUint_any (x ++ [l]) _ t 2 _ (hO4.bs (by rw [List.length_append, HX.out.1]; simp) HC1.out) ⟨by omega, by omega⟩ (by omega) (by omega) (by rw [List.length_append, HX.out.1]; simp)).mono ?_; rintro e w5 ⟨v5, rfl, hO5, hB5⟩)
    | (at_builtin; refine hold ?_))
  refine Lib.hid ?_
  rw [show (2 : Int).toNat = 2 from rfl, HT.out] at hO5
  have hz5 := hB5.size
  refine wpList_app_bs _ rfl (.tmp 22) (.tmp 25) rfl w4.heap.size _ _ rfl (hO5.alloc _) _ [j] rfl (Sl.one _ _ _) (by simp [HX.out.1]) (by simp; omega) ?_
  intro v6 w6 hO6 hg6
  have hB6 := (hO5.alloc (.cells #[.int .u8 j] 5)).below_grown (hB5.alloc hB5.size _) (by simp; omega) hg6
  have hz6 := hB6.size
  have he : x ++ [l] ++ [0, t] ++ [j] = x ++ [l, 0, t, j] := by simp
  rw [he] at hO6
  have hB46 := hB4.trans (hB6.mono hB4.size)
  go_wp2_with (first
    | (go_at_call 131; refine (tagged_any 48 (x ++ [l, 0, t, j]) _ _ (hO6.bs (by rw [List.length_append, HX.out.1]; simp) HC.out) ⟨by omega, by omega⟩ (by rw [List.length_append, HX.out.1]; simp)).mono ?_; rintro e w7 ⟨rfl, hB7⟩)
    | (refine wpList_store_name _ rfl (.tmp 8) (.tmp 27) rfl w.heap.size rfl _ rfl _ _ ((hN3.below hB46 (by omega)).below hB7 (by omega)) rfl rfl ?_; intro w8 hN8 hg8))
  have hV7 := (hV3.trans (hB46.mono hV3.size)).trans (hB7.mono (by have := hV3.size; omega))
  exact ret_name rfl w.heap.size _ _ rfl rfl hN8 rfl ⟨rfl, hV7.grown hg8 hV7.size (by intro j hj; cases hj; omega)⟩
end
section
open Go.RowKit

def oleaf (x : List Int) (l t : Int) (j : Nat) : List Int := opub (okey x l t j)
theorem oleaf_isN (x : List Int) (l t : Int) (j : Nat) : IsN (oleaf x l t j) := opub_isN _
/-- The public names of a tree's keys. -/
def otree (x : List Int) (l t : Int) : List (List Int) := row (oleaf x l t) 32
theorem otree_len (x : List Int) (l t : Int) : (otree x l t).length = 32 := row_len _ _
theorem otree_isN (x : List Int) (l t : Int) : ∀ y ∈ otree x l t, IsN y := row_isN (oleaf_isN x l t) 32

set_option maxHeartbeats 1000000 in
theorem leaves_any (x : List Int) (l t : Int) (w : World) (hx : IsN x) (hl : 0 ≤ l ∧ l < 256) (ht : 0 ≤ t ∧ t < 256) :
    Calls Try.prog 82 #[nv x, .int .i64 l, .int .i64 t] w fun e w' => ∃ v', e = .returned v' ∧ OwN w' w.heap.size v' (otree x l t) ∧ Below w.heap.size w w' := by
  have HX := Lib.hid hx
  have HL := Lib.hid hl
  have HT := Lib.hid ht
  clear hx hl ht
  go_enter Try.func82, Try.ntmps82
  go_wp2_with (refine wpList_box_name rfl (.tmp 0) rfl x rfl ?_; intro w1 hA1 hB1 hs1)
  go_loopw [7, 8] (fun s i wr => ∃ k : Nat, k ≤ 32 ∧ i = .int .i64 (k : Int) ∧ OwN wr (w.heap.size + 1) s (row (oleaf x l t) k) ∧ Blk wr w.heap.size 30 (bsv x).toArray ∧ Below w.heap.size w wr) (fun _ i _ => 32 - (intOf i).toNat)
  case atStart => exact ⟨0, by omega, rfl, OwN.nil _ _, hA1, hB1⟩
  case round =>
    obtain ⟨k, hk, rfl, hO, hA, hB⟩ := hrel
    have hz := hA.lt
    have hzb := hB.size
    have hlen := row_len (oleaf x l t) k
    by_cases hlt : k < 32
    · have hlt' : (k : Int) < 32 := by omega
      have hs : Hid (row (oleaf x l t) (k + 1) = row (oleaf x l t) k ++ [opub (okey x l t k)]) := row_succ _ _
      have hE := Lib.hid (opub_isN (okey x l t k))
      have KY := Lib.hid (fun w => rkey_any x l t k w HX.out HL.out HT.out ⟨by omega, by omega⟩)
      have PB := Lib.hid (fun w => Calls.lit8 (ronepublic_any (okey x l t k) w (okey_isN _ _ _ _)) rfl)
      generalize opub (okey x l t k) = e at *
      generalize okey x l t k = s at *
      generalize row (oleaf x l t) k = L at *
      go_wp2_with (first
        | (refine wpList_load_name _ rfl (.tmp 3) rfl w.heap.size rfl _ _ hA HX.out.1 ?_)
        | (go_at_call 85; refine (KY.out _).mono ?_; rintro e1 w4 ⟨rfl, hB4⟩)
        | (go_at_call 151; refine (PB.out _).mono ?_; rintro e1 w5 ⟨c0, c1, c2, c3, c4, c5, c6, c7, rfl, HC, hB5⟩; have hB45 := hB4.trans (hB5.mono hB4.size); have hO5 := hO.below hB45; have hA5 := hA.below hB45 (by omega); have hB6 := hB.trans (hB45.mono hzb); have hz6 := hB45.size)
        | (at_builtin; refine wpList_app_ns _ rfl (.tmp 13) (.tmp 20) rfl (w.heap.size + 1) _ _ rfl (hO5.alloc _) _ [e] rfl (Sl.oneL (Blk.cells8 HC.out) hE.out.1) (by simp; omega) (by simp; omega) ?_; refine hold ?_))
      refine Lib.hid ?_
      intro v7 w7 hO7 hg7
      have hB7 := (OwN.base (hO5.alloc _) (show w.heap.size ≤ w.heap.size + 1 by omega)).below_grown (hB6.alloc hB6.size _) (by simp; omega) hg7
      have hA7 := (hA5.old _).grown hg7 (hO5.ne (by omega))
      go_wp2
      go_roundw
      case rel =>
        refine ⟨k + 1, by omega, by go_num, ?_, hA7, hB7⟩
        rw [hs.out]
        exact hO7
      case measure => simp [intOf]; omega
    · obtain rfl : k = 32 := by omega
      have hO' : OwN wr (w.heap.size + 1) u7 (otree x l t) := hO
      clear hO
      go_wp2
      go_ret
      exact ⟨_, rfl, OwN.base hO' (by omega), hB⟩

def mpub (x : List Int) (l : Int) : List Int := if 1 ≤ l ∧ l ≤ 2 then mroot 5 (otree x l 0) else zeroN

set_option maxHeartbeats 1000000 in
theorem rpublic2_any (x : List Int) (l : Int) (w : World) (hx : IsN x) :
    Calls Try.prog 27 #[nv x, .int .i64 l] w fun e w' => e = .returned (nv (mpub x l)) ∧ Below w.heap.size w w' := by
  have HX := Lib.hid hx
  by_cases hl : 1 ≤ l ∧ l ≤ 2
  · have HM : Hid (mpub x l = mroot 5 (otree x l 0)) := if_pos hl
    have LV := Lib.hid (fun w => leaves_any x l 0 w hx ⟨by omega, by omega⟩ ⟨by omega, by omega⟩)
    have hTl := Lib.hid (otree_len x l 0)
    have hTN := Lib.hid (otree_isN x l 0)
    generalize otree x l 0 = T at *
    obtain ⟨_, _⟩ := hl
    have h1 : decide (l < 1) = false := by simp; omega
    have h2 : decide (2 < l) = false := by simp; omega
    clear hx
    go_enter Try.func27, Try.ntmps27
    go_wp2_with (first
      | (refine wpList_box_name rfl (.tmp 0) rfl x rfl ?_; intro w1 hA1 hB1 hs1)
      | (refine wpList_load_name _ rfl (.tmp 2) rfl w.heap.size rfl _ _ (hA1.old _) HX.out.1 ?_; refine hold ?_))
    refine Lib.hid ?_
    have hN2 : Blk (w1.alloc (.cells (bsv zeroN).toArray 30)) (w.heap.size + 1) 30 (bsv zeroN).toArray := by rw [← hs1]; exact Blk.new _ _ _
    have hB2 : Below w.heap.size w (w1.alloc (.cells (bsv zeroN).toArray 30)) := hB1.trans ((below1 w1 _).mono (by omega))
    go_wp2_with (first
      | (go_at_call 82; refine (LV.out _).mono ?_; rintro e w3 ⟨v3, rfl, hO3, hB3⟩)
      | (go_at_call 86; refine (rroot_any 5 (by omega) T _ _ (hO3.ns (by rw [hTl.out]; omega) hTN.out) hTl.out).mono ?_; rintro e w4 ⟨rfl, hB4⟩; have hB34 := hB3.trans (hB4.mono hB3.size))
      | (refine wpList_store_name _ rfl (.tmp 4) (.tmp 15) rfl (w.heap.size + 1) rfl _ rfl _ _ (hN2.below hB34 hN2.lt) rfl rfl ?_; intro w5 hN5 hg5))
    have hV3 := hB2.trans (hB34.mono hB2.size)
    exact ret_name rfl (w.heap.size + 1) _ _ rfl rfl hN5 rfl ⟨by rw [HM.out], hV3.grown hg5 hV3.size (by intro j hj; cases hj; omega)⟩
  · have HM : Hid (mpub x l = zeroN) := if_neg hl
    have h12 : l < 1 ∨ 2 < l := by omega
    clear hx
    rcases h12 with h1 | h1
    · have h2 : decide (l < 1) = true := by simp; omega
      go_enter Try.func27, Try.ntmps27
      go_wp2_with (refine wpList_box_name rfl (.tmp 0) rfl x rfl ?_; intro w1 hA1 hB1 hs1)
      have hN2 : Blk (w1.alloc (.cells (bsv zeroN).toArray 30)) (w.heap.size + 1) 30 (bsv zeroN).toArray := by rw [← hs1]; exact Blk.new _ _ _
      have hB2 : Below w.heap.size w (w1.alloc (.cells (bsv zeroN).toArray 30)) := hB1.trans ((below1 w1 _).mono (by omega))
      exact ret_name rfl (w.heap.size + 1) _ zeroN rfl rfl hN2 rfl ⟨by rw [HM.out], hB2⟩
    · have h2 : decide (l < 1) = false := by simp; omega
      have h3 : decide (2 < l) = true := by simp; omega
      go_enter Try.func27, Try.ntmps27
      go_wp2_with (refine wpList_box_name rfl (.tmp 0) rfl x rfl ?_; intro w1 hA1 hB1 hs1)
      have hN2 : Blk (w1.alloc (.cells (bsv zeroN).toArray 30)) (w.heap.size + 1) 30 (bsv zeroN).toArray := by rw [← hs1]; exact Blk.new _ _ _
      have hB2 : Below w.heap.size w (w1.alloc (.cells (bsv zeroN).toArray 30)) := hB1.trans ((below1 w1 _).mono (by omega))
      exact ret_name rfl (w.heap.size + 1) _ zeroN rfl rfl hN2 rfl ⟨by rw [HM.out], hB2⟩
end
end Go.Proofs.Ytilhceihelcdgaa
