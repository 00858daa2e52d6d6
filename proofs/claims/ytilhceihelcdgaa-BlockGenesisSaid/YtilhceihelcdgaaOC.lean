/-
  The one-time signature.
  What a one-time signature shows; Follow at 32 leaves.
-/
import Derived.Test.YtilhceihelcdgaaOB
import Derived.Laws.ResultCell
namespace Go.Proofs.Ytilhceihelcdgaa
section
open Go.RowKit

/-- Digit k of a name. -/
def odg (m : List Int) (k : Nat) : Nat := ((odig m).getD k 0).toNat
theorem odg_get {m : List Int} (h : IsN m) (k : Nat) (hk : k < 18) : (ivs (odig m))[k]? = some (.int .i64 (odg m k : Nat)) ∧ odg m k ≤ 15 := by
  have hl := odig_len h
  have hg : (odig m).getD k 0 = (odig m)[k]'(by omega) := by rw [List.getD_eq_getElem?_getD, List.getElem?_eq_getElem (by omega)]; rfl
  obtain ⟨h0, h1⟩ := odig_bd h _ (List.getElem_mem (show k < (odig m).length by omega))
  rw [← hg] at h0 h1
  unfold odg
  refine ⟨?_, by omega⟩
  rw [Int.toNat_of_nonneg h0]
  simp only [ivs, List.getElem?_map, List.getElem?_eq_getElem (show k < (odig m).length by omega), Option.map_some]
  rw [← hg]
/-- The list of a name's digits, as a caller reads it. -/
theorem digits_at {m : List Int} {w : World} {b o cap : Nat} (h : Sl w (.slice (some ⟨b, o, none⟩) 18 cap) 1 18 (ivs (odig m))) (hm : IsN m) (k : Nat) (hk : k < 18) :
    w.cell? ⟨b, o + k, none⟩ = some (.int .i64 (odg m k : Nat)) := by
  have h1 := h.cell (by omega) k (by omega)
  rw [h1, (odg_get hm k hk).1]
theorem OwI.grown {w w' : World} {base : Nat} {v : Value} {l : List Int} {r : Option Nat} (h : OwI w base v l) (hg : w.grownBy w' r) (hne : ∀ k, r = some k → k < base) : OwI w' base v l := by
  refine World.ownsRow.kept h hg ?_
  rcases hv : v.ownBlock with _ | k
  · exact .inl rfl
  · refine .inr (fun e => ?_)
    have h1 := hne k (by rw [← e])
    have h2 := (World.ownsRow.lt h k hv).1
    omega
theorem OwI.below {w w' : World} {base : Nat} {v : Value} {l : List Int} (h : OwI w base v l) (k : Below w.heap.size w w') : OwI w' base v l :=
  World.ownsRow.kept h (row := none) (grown_of_below k) (by cases v.ownBlock <;> simp)
theorem OwI.digits {m : List Int} {w : World} {base : Nat} {v : Value} (h : OwI w base v (odig m)) (hm : IsN m) : ∃ b o cap, v = .slice (some ⟨b, o, none⟩) 18 cap ∧ 18 ≤ cap ∧ cap ≤ 9223372036854775807 ∧ Sl w (.slice (some ⟨b, o, none⟩) 18 cap) 1 18 (ivs (odig m)) := by
  have h1 := h.sl (by rw [odig_len hm]; omega)
  rw [odig_len hm] at h1
  obtain ⟨a, cap, rfl, hnc, hcm, _, _, _, hc⟩ := id h1
  obtain ⟨b, o, rfl, _⟩ := hc (by omega)
  exact ⟨b, o, cap, rfl, hnc, by unfold maxLen at hcm; omega, h1⟩

def osigAt (x m : List Int) (c : Nat) : List Int := owalk (odg m c) c 0 (ostart x c)
theorem osigAt_isN (x m : List Int) (c : Nat) : IsN (osigAt x m c) := owalk_isN _ _ _ _ (ostart_isN _ _)
/-- The names of a one-time signature. -/
def osig (x m : List Int) : List (List Int) := row (osigAt x m) 18

set_option maxHeartbeats 1000000 in
theorem onesign_any (x m : List Int) (w : World) (hx : IsN x) (hm : IsN m) :
    Calls Try.prog 171 #[nv x, nv m] w fun e w' => ∃ b, e = .returned (.slice (some ⟨b, 0, none⟩) 18 18) ∧ Blk w' b 30 (bsv (osig x m).flatten).toArray ∧ w.heap.size ≤ b ∧ Below w.heap.size w w' := by
  have HX := Lib.hid hx
  have HM := Lib.hid hm
  clear hx hm
  go_enter Try.func171, Try.ntmps171
  go_wp2_with (first
    | (refine wpList_box_name rfl (.tmp 0) rfl x rfl ?_; intro w1 hA1 hB1 hs1)
    | (refine wpList_box_name rfl (.tmp 1) rfl m rfl ?_; intro w2 hM2 hB2 hs2)
    | (refine wpList_make_ns _ rfl (.const (.int .i64 18)) (.const (.int .i64 18)) rfl 18 rfl rfl (by omega) (by kernel_rfl) ?_; refine hold ?_))
  refine Lib.hid ?_
  rw [hs1] at hM2
  have hsz2 : w2.heap.size = w.heap.size + 1 + 1 := by omega
  have hA2 := hA1.below hB2 (by omega)
  have hV2 := hB1.trans (hB2.mono (by omega))
  intro w3 hR3 hg3
  have hR3' := hR3
  have hM3 := hM2.grown hg3 (by simp)
  have hA3 := hA2.grown hg3 (by simp)
  have hB3 := hV2.grown hg3 hV2.size (by intro j hj; cases hj)
  clear hM2 hA2 hB2 hg3 hA1 hB1 hs1 hV2 hR3 hs2 hsz2
  have hz3 := hR3'.lt
  go_wp2_with (first
    | (refine wpList_load_name _ rfl (.tmp 3) rfl (w.heap.size + 1) rfl _ _ hM3 HM.out.1 ?_)
    | (go_at_call 209; refine (digits_any m _ HM.out).mono ?_; rintro e1 w4 ⟨v4, rfl, hD4, hB4⟩; obtain ⟨gb, go, gc, rfl, hg1, hg2, hD⟩ := hD4.digits HM.out))
  have HD := Lib.hid (hD4.base (show w.heap.size + 1 + 1 + 1 ≤ w3.heap.size by omega))
  have hA4 := hA3.below hB4 (by omega)
  have hR4 := hR3'.below hB4 (by omega)
  have hV4 := hB3.trans (hB4.mono hB3.size)
  have hz4 := hB4.size
  clear hD hD4
  go_loopw [12] (fun i wr => ∃ k : Nat, k ≤ 18 ∧ i = .int .i64 (k : Int) ∧ Blk wr (w.heap.size + 1 + 1) 30 (bsv ((row (osigAt x m) k).flatten ++ zeros (18 - k))).toArray ∧ Blk wr w.heap.size 30 (bsv x).toArray ∧ OwI wr (w.heap.size + 1 + 1 + 1) (.slice (some ⟨gb, go, none⟩) 18 gc) (odig m) ∧ Below w.heap.size w wr) (fun i _ => 18 - (intOf i).toNat)
  case atStart => exact ⟨0, by omega, rfl, hR4, hA4, HD.out, hV4⟩
  case round =>
    obtain ⟨k, hk, rfl, hR, hA, hD, hB⟩ := hrel
    have hz := hR.lt
    have hL : (row (osigAt x m) k).flatten.length = k * 8 := by rw [flatten_len (row_isN (osigAt_isN x m) k), row_len]
    by_cases hlt : k < 18
    · have hlt' : (k : Int) < 18 := by omega
      have hs : Hid ((row (osigAt x m) (k + 1)).flatten ++ zeros (18 - (k + 1)) = (row (osigAt x m) k).flatten ++ owalk (odg m k) k 0 (ostart x k) ++ zeros (18 - (k + 1))) := by
        show _ = _
        rw [row_succ, List.flatten_append, List.flatten_singleton]; rfl
      rw [show 18 - k = (18 - (k + 1)) + 1 by omega, zeros_succ, ← List.append_assoc] at hR
      have hc := digits_at (by have := hD.sl (by rw [odig_len HM.out]; omega); rw [odig_len HM.out] at this; exact this) HM.out k hlt
      have hdb := (odg_get HM.out k hlt).2
      have hE := Lib.hid (owalk_isN (odg m k) k 0 _ (ostart_isN x k))
      have ST := Lib.hid (fun w => start_any x k w HX.out ⟨by omega, by omega⟩)
      have WK := Lib.hid (fun w => walk_any (odg m k) (ostart x k) k 0 (odg m k) w (ostart_isN x k) ⟨by omega, by omega⟩ (by omega) (by omega) (by omega))
      generalize owalk (odg m k) k 0 (ostart x k) = e at *
      generalize ostart x k = s at *
      generalize odg m k = d at *
      generalize (row (osigAt x m) k).flatten = A at *
      generalize hBz : zeros (18 - (k + 1)) = B at *
      have HBZ := Lib.hid hBz
      have HDr := Lib.hid hD
      clear hBz hD
      have hzb := hB.size
      go_wp2_with (first
        | (refine wpList_load_name _ rfl (.tmp 2) rfl w.heap.size rfl _ _ hA HX.out.1 ?_)
        | (go_at_call 214; refine (ST.out _).mono ?_; rintro e1 w5 ⟨rfl, hB5⟩)
        | (go_at_call 210; refine (WK.out _).mono ?_; rintro e1 w6 ⟨rfl, hB6⟩; have hB56 := hB5.trans (hB6.mono hB5.size); have hR6 := hR.below hB56 hz; have hA6 := hA.below hB56 (by omega); have hD6 := Lib.hid (HDr.out.below hB56))
        | (refine wpList_store_next _ rfl (.tmp 25) (.tmp 24) rfl (w.heap.size + 1 + 1) (k * 8) rfl _ rfl hE.out.1 A B zeroN hL rfl _ hR6 ?_; refine hold ?_))
      refine Lib.hid ?_
      intro w7 hR7 hg7
      have hA7 := hA6.grown hg7 (fun e => by injection e; omega)
      have hV6 := hB.trans (hB56.mono hzb)
      have hV7 := hV6.grown hg7 hV6.size (by intro j hj; cases hj; omega)
      have hD7 := hD6.out.grown hg7 (by intro j hj; cases hj; omega)
      go_wp2
      go_roundw
      case rel =>
        refine ⟨k + 1, by omega, by go_num, ?_, hA7, hD7, hV7⟩
        rw [HBZ.out, hs.out, List.append_assoc]
        exact hR7
      case measure => simp [intOf]; omega
    · obtain rfl : k = 18 := by omega
      have hz0 : zeros (18 - 18) = [] := rfl
      rw [hz0, List.append_nil] at hR
      have hR' : Blk wr (w.heap.size + 1 + 1) 30 (bsv (osig x m).flatten).toArray := hR
      clear hR hz0
      go_wp2
      go_ret
      exact ⟨_, rfl, hR', by omega, hB⟩

set_option maxHeartbeats 1000000 in
theorem ronesign_any (x m : List Int) (w : World) (hx : IsN x) (hm : IsN m) :
    Calls Try.prog 84 #[nv x, nv m] w fun e w' => ∃ v', e = .returned v' ∧ OwN w' w.heap.size v' (osig x m) ∧ Below w.heap.size w w' := by
  have HX := Lib.hid hx
  have HM := Lib.hid hm
  clear hx hm
  go_enter Try.func84, Try.ntmps84
  go_wp2_with (first
    | (refine wpList_box_name rfl (.tmp 0) rfl x rfl ?_; intro w1 hA1 hB1 hs1)
    | (refine wpList_box_name rfl (.tmp 1) rfl m rfl ?_; intro w2 hM2 hB2 hs2; rw [hs1] at hM2)
    | (refine wpList_load_name _ rfl (.tmp 3) rfl (w.heap.size + 1) rfl _ _ hM2 HM.out.1 ?_)
    | (go_at_call 152; refine (rdigits_any m _ HM.out).mono ?_; rintro e1 w4 ⟨v4, rfl, hD4, hB4⟩; obtain ⟨gb, go, gc, rfl, hg1, hg2, hD⟩ := hD4.digits HM.out))
  have hz4 := hB4.size
  have hlt4 := (World.ownsRow.lt hD4 gb rfl).2
  have hA4 := (hA1.below hB2 (by omega)).below hB4 (by omega)
  have hV4 := (hB1.trans (hB2.mono (by omega))).trans (hB4.mono (by omega))
  have HD := Lib.hid hD
  have hwz : w.heap.size + 1 + 1 ≤ w4.heap.size := by omega
  clear hD hD4 hM2 hA1 hB1 hB2 hs1 hs2 hB4
  go_loopw [6, 7] (fun s i wr => ∃ k : Nat, k ≤ 18 ∧ i = .int .i64 (k : Int) ∧ OwN wr w4.heap.size s (row (osigAt x m) k) ∧ Below w4.heap.size w4 wr) (fun _ i _ => 18 - (intOf i).toNat)
  case atStart => exact ⟨0, by omega, rfl, OwN.nil _ _, Below.refl _ _⟩
  case round =>
    obtain ⟨k, hk, rfl, hO, hB⟩ := hrel
    have hzb := hB.size
    have hlen := row_len (osigAt x m) k
    by_cases hlt : k < 18
    · have hlt' : (k : Int) < 18 := by omega
      have hs : Hid (row (osigAt x m) (k + 1) = row (osigAt x m) k ++ [owalk (odg m k) k 0 (ostart x k)]) := row_succ _ _
      have hc := digits_at (HD.out.below hB) HM.out k hlt
      have hdb := (odg_get HM.out k hlt).2
      have hE := Lib.hid (owalk_isN (odg m k) k 0 _ (ostart_isN x k))
      have ST := Lib.hid (fun w => rstart_any x k w HX.out ⟨by omega, by omega⟩)
      have WK := Lib.hid (fun w => Calls.lit8 (rwalk_any (odg m k) (ostart x k) k 0 (odg m k) w (ostart_isN x k) ⟨by omega, by omega⟩ (by omega) (by omega) (by omega)) (owalk_isN (odg m k) k 0 _ (ostart_isN x k)).1)
      have hA := hA4.below hB (by omega)
      generalize row (osigAt x m) k = L at *
      generalize owalk (odg m k) k 0 (ostart x k) = e at *
      generalize ostart x k = s at *
      generalize odg m k = d at *
      obtain ⟨a0, a1, a2, a3, a4, a5, a6, a7, rfl, _⟩ := HX.out.cases
      obtain ⟨l0, l1, l2, l3, l4, l5, l6, l7⟩ := hA.lit8
      go_wp2_with fail
      go_region_law (first
        | (go_simp; go_at_call 154; refine (ST.out _).mono ?_; rintro e1 w5 ⟨rfl, hB5⟩; have hc5 := Keeps.of_below hB5 _ _ hc)
        | (go_simp; go_at_call 153; refine (WK.out _).mono ?_; rintro e1 w6 ⟨c0, c1, c2, c3, c4, c5, c6, c7, rfl, HC, hB6⟩; have hB56 := hB5.trans (hB6.mono hB5.size); have hz56 := hB56.size; have hO6 := hO.drew.below hB56)
        | (refine step_app_ns rfl (.tmp 14) (.tmp 24) rfl w4.heap.size _ _ rfl (hO6.alloc _) _ [e] rfl (Sl.oneL (Blk.cells8 HC.out) hE.out.1) (by simp; omega) (by simp; simp at hz56; omega) ?_; intro v7 w7 hO7 hg7))
      all_goals
        have hB6' := hB.drew.trans (hB56.mono (by simpa using hzb))
        have hB7 := (hO6.alloc _).below_grown (hB6'.alloc hB6'.size _) (by have := hB6'.size; simp; omega) hg7
        go_wp2
        go_roundw
        case rel => exact ⟨k + 1, by omega, by go_num, by rw [hs.out]; exact hO7, hB7⟩
        case measure => simp [intOf]; omega
    · obtain rfl : k = 18 := by omega
      have hO' : OwN wr w4.heap.size u6 (osig x m) := hO
      go_wp2
      go_ret
      exact ⟨_, rfl, OwN.base hO' (by omega), hV4.trans (hB.mono (by omega))⟩
end
section
open Go.RowKit

/-- A function that hands back one name, which lies in a block of its own, and a second result. -/
theorem ret_name2 {fn : Func} {p u : Tmp} (h : fn.results = #[.cell p 30, .tmp u]) {R : Ending → World → Prop} {a : Act} {w : World} (g : Nat) (t : TypeId) (l : List Int) (v : Value)
    (hp : a.tmps.getD p undef = .pointer (some ⟨g, 0, none⟩)) (hu : a.tmps.getD u undef = v) (hd : a.defers = []) (hg : Blk w g t (bsv l).toArray) (hl : l.length = 8) (hR : R (.returned (.tuple #[nv l, v])) w) : bodyPost Try.prog fn R .ret a w := by
  refine bodyPost_ret (v := .tuple #[nv l, v]) ?_ hd hR
  rw [results_cell_tmp h, hp, hu]
  have := run_loadVar_row (P := Try.prog) w g t 30 _ _ _ hg un_name rfl (by rw [size_name]; simp [bsv_length, hl])
  simp only [asAddr, Sem.run_pure, Result.andThen_ok, this]
  rfl

/-- The end that chain c of a signature shows. -/
def orecAt (m : List Int) (S : List (List Int)) (c : Nat) : List Int := owalk (15 - odg m c) c (odg m c) (S.getD c zeroN)
theorem orecAt_isN (m : List Int) {S : List (List Int)} (hS : ∀ x ∈ S, IsN x) (c : Nat) : IsN (orecAt m S c) := by
  refine owalk_isN _ _ _ _ ?_
  rw [List.getD_eq_getElem?_getD]
  cases h : S[c]? with
  | none => exact ⟨rfl, by intro x hx; simp [zeroN] at hx; subst hx; omega⟩
  | some y => exact hS y (List.mem_of_getElem? h)
def orec (m : List Int) (S : List (List Int)) : List Int := oends (row (orecAt m S) 18)
theorem orec_isN (m : List Int) (S : List (List Int)) : IsN (orec m S) := hname_isN _
theorem getD_dflt {α : Type} (l : List α) (k : Nat) (a b : α) (h : k < l.length) : l.getD k a = l.getD k b := by
  simp [List.getD_eq_getElem?_getD, List.getElem?_eq_getElem h]

set_option maxHeartbeats 1000000 in
theorem recover_any (m : List Int) (S : List (List Int)) (v : Value) (w : World) (hm : IsN m) (hS : Ns w v S) (hl : S.length = 18) :
    Calls Try.prog 156 #[nv m, v] w fun e w' => e = .returned (.tuple #[nv (orec m S), .bool true]) ∧ Below w.heap.size w w' := by
  have HM := Lib.hid hm
  have HS := Lib.hid hS
  obtain ⟨sb, so, sc, rfl, hs1, hs2⟩ := hS.bds (by omega)
  rw [hl] at HS hs1 ⊢
  clear hm hS
  go_enter Try.func156, Try.ntmps156
  go_wp2_with (first
    | (refine wpList_box_name rfl (.tmp 0) rfl m rfl ?_; intro w1 hA1 hB1 hz1)
    | (refine wpList_make_ns _ rfl (.const (.int .i64 18)) (.const (.int .i64 18)) rfl 18 rfl rfl (by omega) (by kernel_rfl) ?_; refine hold ?_))
  refine Lib.hid ?_
  have hN2 : Blk (w1.alloc (.cells (bsv zeroN).toArray 30)) (w.heap.size + 1) 30 (bsv zeroN).toArray := by rw [← hz1]; exact Blk.new _ _ _
  have hA2 := hA1.old (.cells (bsv zeroN).toArray 30)
  have hB2 : Below w.heap.size w (w1.alloc (.cells (bsv zeroN).toArray 30)) := hB1.trans ((below1 w1 _).mono (by omega))
  intro w3 hR3 hg3
  have hN3 := hN2.grown hg3 (by simp)
  have hA3 := hA2.grown hg3 (by simp)
  have hB3 := hB2.grown hg3 hB2.size (by intro j hj; cases hj)
  clear hN2 hA2 hB2 hg3 hA1 hB1 hz1
  have hz3 := hR3.lt
  go_wp2_with (first
    | (refine wpList_load_name _ rfl (.tmp 2) rfl w.heap.size rfl _ _ hA3 HM.out.1 ?_)
    | (go_at_call 209; refine (digits_any m _ HM.out).mono ?_; rintro e1 w4 ⟨v4, rfl, hD4, hB4⟩; obtain ⟨gb, go, gc, rfl, hg1, hg2, hD⟩ := hD4.digits HM.out))
  have HD := Lib.hid (hD4.base (show w.heap.size + 1 + 1 + 1 ≤ w3.heap.size by omega))
  have hN4 := hN3.below hB4 (by omega)
  have hR4 := hR3.below hB4 (by omega)
  have hV4 := hB3.trans (hB4.mono hB3.size)
  have hz4 := hB4.size
  clear hD hD4 hA3 hN3 hR3
  go_loopw [17] (fun i wr => ∃ k : Nat, k ≤ 18 ∧ i = .int .i64 (k : Int) ∧ Blk wr (w.heap.size + 1 + 1) 30 (bsv ((row (orecAt m S) k).flatten ++ zeros (18 - k))).toArray ∧ Blk wr (w.heap.size + 1) 30 (bsv zeroN).toArray ∧ OwI wr (w.heap.size + 1 + 1 + 1) (.slice (some ⟨gb, go, none⟩) 18 gc) (odig m) ∧ Below w.heap.size w wr) (fun i _ => 18 - (intOf i).toNat)
  case atStart => exact ⟨0, by omega, rfl, hR4, hN4, HD.out, hV4⟩
  case round =>
    obtain ⟨k, hk, rfl, hR, hN, hD, hB⟩ := hrel
    have hz := hR.lt
    have hL : (row (orecAt m S) k).flatten.length = k * 8 := by rw [flatten_len (row_isN (orecAt_isN m HS.out.2) k), row_len]
    by_cases hlt : k < 18
    · have hlt' : (k : Int) < 18 := by omega
      have hs : Hid ((row (orecAt m S) (k + 1)).flatten ++ zeros (18 - (k + 1)) = (row (orecAt m S) k).flatten ++ owalk (15 - odg m k) k (odg m k) (S.getD k []) ++ zeros (18 - (k + 1))) := by
        show _ = _
        rw [row_succ, List.flatten_append, List.flatten_singleton, getD_dflt S k [] zeroN (by omega)]; rfl
      rw [show 18 - k = (18 - (k + 1)) + 1 by omega, zeros_succ, ← List.append_assoc] at hR
      have hc := digits_at (by have := hD.sl (by rw [odig_len HM.out]; omega); rw [odig_len HM.out] at this; exact this) HM.out k hlt
      have hdb := (odg_get HM.out k hlt).2
      obtain ⟨hsc, hsN⟩ := (HS.out.below hB).at hl.symm k hlt
      have HSC := Lib.hid hsc
      have hE := Lib.hid (owalk_isN (15 - odg m k) k (odg m k) _ hsN)
      have hsN' := Lib.hid hsN
      have WK := Lib.hid (fun w => walk_any (15 - odg m k) (S.getD k []) k (odg m k) 15 w hsN ⟨by omega, by omega⟩ (by omega) (by omega) (by omega))
      generalize owalk (15 - odg m k) k (odg m k) (S.getD k []) = e at *
      generalize S.getD k [] = s at *
      generalize odg m k = d at *
      generalize (row (orecAt m S) k).flatten = A at *
      generalize hBz : zeros (18 - (k + 1)) = B at *
      have HBZ := Lib.hid hBz
      have HDr := Lib.hid hD
      clear hBz hD hsc hsN
      have hzb := hB.size
      go_wp2_with (first
        | (refine wpList_load_mid_name _ rfl (.tmp 26) rfl sb (so + k * 8) rfl s hsN'.out.1 HSC.out ?_)
        | (go_at_call 210; refine (WK.out _).mono ?_; rintro e1 w6 ⟨rfl, hB6⟩; have hR6 := hR.below hB6 hz; have hN6 := hN.below hB6 (by omega); have hD6 := Lib.hid (HDr.out.below hB6))
        | (refine wpList_store_next _ rfl (.tmp 31) (.tmp 30) rfl (w.heap.size + 1 + 1) (k * 8) rfl _ rfl hE.out.1 A B zeroN hL rfl _ hR6 ?_; refine hold ?_))
      refine Lib.hid ?_
      intro w7 hR7 hg7
      have hN7 := hN6.grown hg7 (fun e => by injection e; omega)
      have hV6 := hB.trans (hB6.mono hzb)
      have hV7 := hV6.grown hg7 hV6.size (by intro j hj; cases hj; omega)
      have hD7 := hD6.out.grown hg7 (by intro j hj; cases hj; omega)
      go_wp2
      go_roundw
      case rel =>
        refine ⟨k + 1, by omega, by go_num, ?_, hN7, hD7, hV7⟩
        rw [HBZ.out, hs.out, List.append_assoc]
        exact hR7
      case measure => simp [intOf]; omega
    · obtain rfl : k = 18 := by omega
      have hz0 : zeros (18 - 18) = [] := rfl
      rw [hz0, List.append_nil] at hR
      have hNs := Lib.hid (fun (n : Nat) (hn : n = 18) => Ns.whole (n := n) hR (row_isN (orecAt_isN m HS.out.2) 18) (by rw [row_len, hn]) (by omega))
      have hzb := hB.size
      have hlen := row_len (orecAt m S) 18
      have HO : Hid (orec m S = oends (row (orecAt m S) 18)) := rfl
      generalize row (orecAt m S) 18 = L at *
      go_wp2_with (first
        | (go_at_call 211; refine (public_any L _ _ (hNs.out 18 rfl) (by omega) (by omega)).mono ?_; rintro e1 w5 ⟨rfl, hB5⟩)
        | (refine wpList_store_name _ rfl (.tmp 4) (.tmp 34) rfl (w.heap.size + 1) rfl _ rfl _ _ (hN.below hB5 (by omega)) rfl rfl ?_; intro w6 hN6 hg6))
      have hV5 := hB.trans (hB5.mono hzb)
      exact ret_name2 rfl (w.heap.size + 1) _ _ (.bool true) rfl rfl rfl hN6 rfl ⟨by rw [HO.out], hV5.grown hg6 hV5.size (by intro j hj; cases hj; omega)⟩

set_option maxHeartbeats 1000000 in
theorem rrecover_any (m : List Int) (S : List (List Int)) (v : Value) (w : World) (hm : IsN m) (hS : Ns w v S) (hl : S.length = 18) :
    Calls Try.prog 88 #[nv m, v] w fun e w' => e = .returned (.tuple #[nv (orec m S), .bool true]) ∧ Below w.heap.size w w' := by
  have HM := Lib.hid hm
  have HS := Lib.hid hS
  obtain ⟨sb, so, sc, rfl, hs1, hs2⟩ := hS.bds (by omega)
  rw [hl] at HS hs1 ⊢
  clear hm hS
  go_enter Try.func88, Try.ntmps88
  go_wp2_with (first
    | (refine wpList_box_name rfl (.tmp 0) rfl m rfl ?_; intro w1 hA1 hB1 hz1)
    | (refine wpList_load_name _ rfl (.tmp 2) rfl w.heap.size rfl _ _ (hA1.old _) HM.out.1 ?_)
    | (go_at_call 152; refine (rdigits_any m _ HM.out).mono ?_; rintro e1 w4 ⟨v4, rfl, hD4, hB4⟩; obtain ⟨gb, go, gc, rfl, hg1, hg2, hD⟩ := hD4.digits HM.out))
  have hN2 : Blk (w1.alloc (.cells (bsv zeroN).toArray 30)) (w.heap.size + 1) 30 (bsv zeroN).toArray := by rw [← hz1]; exact Blk.new _ _ _
  have hN4 := hN2.below hB4 (by simp; omega)
  have hV4 := (hB1.trans ((below1 w1 (.cells (bsv zeroN).toArray 30)).mono (by omega))).trans (hB4.mono (by simp; omega))
  have hz4 := hN4.lt
  have hlt4 := (World.ownsRow.lt hD4 gb rfl).2
  have HD := Lib.hid hD
  clear hD hD4 hB4 hN2 hA1 hB1 hz1
  go_loopw [7, 8] (fun s i wr => ∃ k : Nat, k ≤ 18 ∧ i = .int .i64 (k : Int) ∧ OwN wr w4.heap.size s (row (orecAt m S) k) ∧ Below w4.heap.size w4 wr) (fun _ i _ => 18 - (intOf i).toNat)
  case atStart => exact ⟨0, by omega, rfl, OwN.nil _ _, Below.refl _ _⟩
  case round =>
    obtain ⟨k, hk, rfl, hO, hB⟩ := hrel
    have hzb := hB.size
    have hlen := row_len (orecAt m S) k
    by_cases hlt : k < 18
    · have hlt' : (k : Int) < 18 := by omega
      have hs : Hid (row (orecAt m S) (k + 1) = row (orecAt m S) k ++ [owalk (15 - odg m k) k (odg m k) (S.getD k [])]) := by
        show _ = _
        rw [row_succ, getD_dflt S k [] zeroN (by omega)]; rfl
      have hc := digits_at (HD.out.below hB) HM.out k hlt
      have hdb := (odg_get HM.out k hlt).2
      obtain ⟨a0, a1, a2, a3, a4, a5, a6, a7, hse, hA8, hsN⟩ := (HS.out.below (hV4.trans (hB.mono (by omega)))).last hl.symm k hlt
      have hE := Lib.hid (owalk_isN (15 - odg m k) k (odg m k) _ hsN)
      have WK := Lib.hid (fun w => Calls.lit8 (rwalk_any (15 - odg m k) (S.getD k []) k (odg m k) 15 w hsN ⟨by omega, by omega⟩ (by omega) (by omega) (by omega)) (owalk_isN (15 - odg m k) k (odg m k) _ hsN).1)
      generalize owalk (15 - odg m k) k (odg m k) (S.getD k []) = e at *
      rw [hse] at WK
      generalize S.getD k [] = s at *
      generalize row (orecAt m S) k = L at *
      generalize odg m k = d at *
      obtain ⟨⟨l0, l1, l2, l3⟩, l4, l5, l6, l7⟩ := hA8
      clear hse hsN
      go_wp2_with fail
      go_region_law (first
        | (go_simp; go_at_call 153; refine (WK.out _).mono ?_; rintro e1 w6 ⟨c0, c1, c2, c3, c4, c5, c6, c7, rfl, HC, hB6⟩; have hz6 := hB6.size; have hO6 := hO.drew.below hB6)
        | (refine step_app_ns rfl (.tmp 19) (.tmp 30) rfl w4.heap.size _ _ rfl (hO6.alloc _) _ [e] rfl (Sl.oneL (Blk.cells8 HC.out) hE.out.1) (by simp; omega) (by simp; simp at hz6; omega) ?_; intro v7 w7 hO7 hg7))
      all_goals
        have hB6' := hB.drew.trans (hB6.mono (by simpa using hzb))
        have hB7 := (hO6.alloc _).below_grown (hB6'.alloc hB6'.size _) (by have := hB6'.size; simp; omega) hg7
        go_wp2
        go_roundw
        case rel => exact ⟨k + 1, by omega, by go_num, by rw [hs.out]; exact hO7, hB7⟩
        case measure => simp [intOf]; omega
    · obtain rfl : k = 18 := by omega
      have HO : Hid (orec m S = oends (row (orecAt m S) 18)) := rfl
      have HR := Lib.hid (row_isN (orecAt_isN m HS.out.2) 18)
      have hN := hN4.below hB hz4
      generalize row (orecAt m S) 18 = L at *
      go_wp2_with (first
        | (go_at_call 159; refine (rpublic_any L _ _ (hO.ns (by omega) HR.out) (by omega) (by omega)).mono ?_; rintro e1 w5 ⟨rfl, hB5⟩)
        | (refine wpList_store_name _ rfl (.tmp 4) (.tmp 33) rfl (w.heap.size + 1) rfl _ rfl _ _ (hN.below hB5 (by omega)) rfl rfl ?_; intro w6 hN6 hg6))
      have hB' := hV4.trans (hB.mono (by omega))
      have hV5 := hB'.trans (hB5.mono hB'.size)
      exact ret_name2 rfl (w.heap.size + 1) _ _ (.bool true) rfl rfl rfl hN6 rfl ⟨by rw [HO.out], hV5.grown hg6 hV5.size (by intro j hj; cases hj; omega)⟩
end
end Go.Proofs.Ytilhceihelcdgaa
