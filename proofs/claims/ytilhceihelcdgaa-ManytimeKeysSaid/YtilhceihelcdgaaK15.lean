/-
  The walk of the law on Verify.
-/
import Derived.Test.YtilhceihelcdgaaKS
import Derived.Test.YtilhceihelcdgaaK10
namespace Go.Proofs.Ytilhceihelcdgaa
open Go.RowKit

theorem mpub_isN (x : List Int) (l : Int) : IsN (mpub x l) := by
  unfold mpub
  split
  · exact mroot_isN _ _
  · exact zeroN_isN
theorem bits_u8 (op : BinOp) (a b : Int) : 0 ≤ bits op .u8 a b ∧ bits op .u8 a b < 256 := by
  have hw : ∀ x, 0 ≤ IntKind.u8.wrap x ∧ IntKind.u8.wrap x < 256 := fun x => by rw [IntKind.wrap_u8]; omega
  unfold bits; split <;> exact hw _
theorem Byt.set {l : List Int} (h : Byt l) (i : Nat) {z : Int} (hz : 0 ≤ z ∧ z < 256) : Byt (l.set i z) := fun y hy => by
  rcases List.mem_or_eq_of_mem_set hy with hy | rfl
  · exact h y hy
  · exact hz
/-- A byte of an owned slice is overwritten. -/
theorem OwB.set {w : World} {base g n cap : Nat} {l : List Int} (h : OwB w base (.slice (some ⟨g, 0, none⟩) n cap) l) (i : Nat) (z : Int) (_hi : i < l.length) : OwB (w.setCell ⟨g, i, none⟩ (.int .u8 z)) base (.slice (some ⟨g, 0, none⟩) n cap) (l.set i z) := by
  obtain ⟨hl, h | ⟨g', cap', cur, hv, hb, hg, hnc, hcm, hcs, ht⟩⟩ := h
  · cases h.1
  · cases hv
    have hlen : (l.set i z).length = l.length := List.length_set
    refine ⟨by rw [bsv_length]; omega, .inr ⟨g, cap, cur.setIfInBounds i (.int .u8 z), by rw [hlen], hb, heap_setCell_same w g i cur _ _ hg, by rw [hlen]; exact hnc, hcm, by simpa using hcs, ?_⟩⟩
    rw [hlen]
    have e : bsv (l.set i z) = (bsv l).set i (.int .u8 z) := by unfold bsv; rw [List.map_set]
    rw [e, ← ht, Array.toList_setIfInBounds, List.take_set]
theorem OwB.cellAt {w : World} {base g n cap : Nat} {l : List Int} (h : OwB w base (.slice (some ⟨g, 0, none⟩) n cap) l) (i : Nat) (hi : i < l.length) : w.cell? ⟨g, i, none⟩ = some (.int .u8 (l.getD i 0)) ∧ w.frozen? ⟨g, i, none⟩ = false := by
  obtain ⟨hl, h | ⟨g', cap', cur, hv, hb, hg, hnc, hcm, hcs, ht⟩⟩ := h
  · cases h.1
  · cases hv
    refine ⟨?_, frozen_of_row w g i cur _ hg⟩
    rw [cell_of_row w g i cur _ (0, 0) hg, ← bsv_get hi, ← ht, List.getElem?_take, if_pos (by omega)]
    simp
theorem rem_bd (U : Int) (n : Nat) (hn : 0 < n) : ∃ i : Nat, U % (n : Int) = (i : Int) ∧ i < n := by
  have h0 := Int.emod_nonneg U (show (n : Int) ≠ 0 by omega)
  have h1 := Int.emod_lt_of_pos U (show (0 : Int) < n by omega)
  exact ⟨(U % (n : Int)).toNat, by omega, by omega⟩
theorem wrap_u64_bd (x : Int) : 0 ≤ IntKind.u64.wrap x ∧ IntKind.u64.wrap x < 18446744073709551616 := wrap_u64 x

set_option maxRecDepth 100000 in
set_option maxHeartbeats 32000000 in
theorem verifies1 (x m ot raw : List Int) (lv lf ati byi : Int) (rv : Value) (w : World) (hx : IsN x) (hm : IsN m) (ho : IsN ot) (hraw : Bs w rv raw) (hlv : -9223372036854775808 ≤ lv ∧ lv ≤ 9223372036854775807) (hby : 0 ≤ byi ∧ byi < 256) (hpar : IntKind.u64.wrap lv % 2 = 0) :
    Calls Try.prog 4 #[nv x, .int .i64 lv, .int .i64 lf, nv m, nv ot, rv, .int .i64 ati, .int .u8 byi] w fun e w' => e = .returned (.bool true) ∧ Below w.heap.size w w' := by
  have HX := Lib.hid hx
  have HMN := Lib.hid hm
  have HON := Lib.hid ho
  have hUl := wrap_u64_bd lv
  have hUf := wrap_u64_bd lf
  have hUa := wrap_u64_bd ati
  obtain ⟨q, hq, hq1⟩ := rem_bd (IntKind.u64.wrap lf) 32 (by omega)
  obtain ⟨i, hi, hi1⟩ := rem_bd (IntKind.u64.wrap ati) 186 (by omega)
  have eq0 : ((32 : Nat) : Int) = 32 := rfl
  have ei0 : ((186 : Nat) : Int) = 186 := rfl
  rw [eq0] at hq
  rw [ei0] at hi
  have SG := Lib.hid (fun w => rsign_yes x m 1 q w hx hm (by omega) (by simp [capOf]; omega))
  have hsl := msig_len x 1 q m (by omega)
  have hsb := msig_byt x 1 q m
  have PB := Lib.hid (fun w => rpublic2_any x 1 w hx)
  have PBN := Lib.hid (mpub_isN x 1)
  have hqn : ((q : Int)).toNat = q := by omega
  rw [hqn] at SG
  generalize msig x 1 q m = s at *
  have hsl2 : s.length = 186 := by simp [sizeOf] at hsl; omega
  generalize mpub x 1 = pp at *
  obtain ⟨p0, p1, p2, p3, p4, p5, p6, p7, rfl, _⟩ := PBN.out.cases
  have hwl := Lib.hid hpar
  have C1 := Lib.hid (fun w => rcapacity_any 1 w (by omega) (by omega))
  rw [show capOf 1 = 32 by simp [capOf]] at C1
  obtain ⟨x0, x1, x2, x3, x4, x5, x6, x7, rfl, _⟩ := hx.cases
  obtain ⟨m0, m1, m2, m3, m4, m5, m6, m7, rfl, _⟩ := hm.cases
  obtain ⟨o0, o1, o2, o3, o4, o5, o6, o7, rfl, _⟩ := ho.cases
  have hq2 : (IntKind.u64.wrap lf).tmod 32 = (q : Int) := by rw [Int.tmod_eq_emod_of_nonneg hUf.1]; exact hq
  have hwq : IntKind.i64.wrap (q : Int) = (q : Int) := by rw [IntKind.wrap_i64]; omega
  have hw32 : IntKind.u64.wrap 32 = 32 := by rw [IntKind.wrap_u64]; rfl
  have hwq2 : IntKind.u64.wrap (q : Int) = (q : Int) := by rw [IntKind.wrap_u64]; omega
  have HSL := Lib.hid hsl2
  have HSB := Lib.hid hsb
  have HIE := Lib.hid hi
  clear hx hm ho hsl hsb hsl2 hqn
  go_enter Try.func4, Try.ntmps4
  go_upto_region 2 with (fail)
  generalize hW : World.alloc _ _ = W
  have hX2 : Blk W w.heap.size 30 (bsv [x0, x1, x2, x3, x4, x5, x6, x7]).toArray := by rw [← hW]; exact ((Blk.new _ _ _).old _).old _
  have hM2 : Blk W (w.heap.size + 1) 30 (bsv [m0, m1, m2, m3, m4, m5, m6, m7]).toArray := by rw [← hW]; exact (Blk.new' _ _ _ (by simp)).old _
  have hO2 : Blk W (w.heap.size + 1 + 1) 30 (bsv [o0, o1, o2, o3, o4, o5, o6, o7]).toArray := by rw [← hW]; exact Blk.new' _ _ _ (by simp)
  have hV2 : Below w.heap.size w W := by rw [← hW]; exact below3 w _ _ _
  clear hW
  have hlX := hX2.lt
  have hlO := hO2.lt
  have SO : Hid (∀ w' : World, Below W.heap.size W w' → (w'.cell? ⟨w.heap.size, 0, none⟩ = some (.int .u8 x0) ∧ w'.cell? ⟨w.heap.size, 1, none⟩ = some (.int .u8 x1) ∧ w'.cell? ⟨w.heap.size, 2, none⟩ = some (.int .u8 x2) ∧ w'.cell? ⟨w.heap.size, 3, none⟩ = some (.int .u8 x3) ∧ w'.cell? ⟨w.heap.size, 4, none⟩ = some (.int .u8 x4) ∧ w'.cell? ⟨w.heap.size, 5, none⟩ = some (.int .u8 x5) ∧ w'.cell? ⟨w.heap.size, 6, none⟩ = some (.int .u8 x6) ∧ w'.cell? ⟨w.heap.size, 7, none⟩ = some (.int .u8 x7)) ∧ (w'.cell? ⟨w.heap.size + 1, 0, none⟩ = some (.int .u8 m0) ∧ w'.cell? ⟨w.heap.size + 1, 1, none⟩ = some (.int .u8 m1) ∧ w'.cell? ⟨w.heap.size + 1, 2, none⟩ = some (.int .u8 m2) ∧ w'.cell? ⟨w.heap.size + 1, 3, none⟩ = some (.int .u8 m3) ∧ w'.cell? ⟨w.heap.size + 1, 4, none⟩ = some (.int .u8 m4) ∧ w'.cell? ⟨w.heap.size + 1, 5, none⟩ = some (.int .u8 m5) ∧ w'.cell? ⟨w.heap.size + 1, 6, none⟩ = some (.int .u8 m6) ∧ w'.cell? ⟨w.heap.size + 1, 7, none⟩ = some (.int .u8 m7))) := fun w' h =>
    ⟨⟨(hX2.below h hX2.lt).cell 0, (hX2.below h hX2.lt).cell 1, (hX2.below h hX2.lt).cell 2, (hX2.below h hX2.lt).cell 3, (hX2.below h hX2.lt).cell 4, (hX2.below h hX2.lt).cell 5, (hX2.below h hX2.lt).cell 6, (hX2.below h hX2.lt).cell 7⟩, (hM2.below h hM2.lt).cell 0, (hM2.below h hM2.lt).cell 1, (hM2.below h hM2.lt).cell 2, (hM2.below h hM2.lt).cell 3, (hM2.below h hM2.lt).cell 4, (hM2.below h hM2.lt).cell 5, (hM2.below h hM2.lt).cell 6, (hM2.below h hM2.lt).cell 7⟩
  have HX2 := Lib.hid hX2
  have HM2 := Lib.hid hM2
  have HO2 := Lib.hid hO2
  clear hX2 hM2 hO2
  go_region_held3 (fun w' => (w'.cell? ⟨w.heap.size, 0, none⟩ = some (.int .u8 x0) ∧ w'.cell? ⟨w.heap.size, 1, none⟩ = some (.int .u8 x1) ∧ w'.cell? ⟨w.heap.size, 2, none⟩ = some (.int .u8 x2) ∧ w'.cell? ⟨w.heap.size, 3, none⟩ = some (.int .u8 x3) ∧ w'.cell? ⟨w.heap.size, 4, none⟩ = some (.int .u8 x4) ∧ w'.cell? ⟨w.heap.size, 5, none⟩ = some (.int .u8 x5) ∧ w'.cell? ⟨w.heap.size, 6, none⟩ = some (.int .u8 x6) ∧ w'.cell? ⟨w.heap.size, 7, none⟩ = some (.int .u8 x7)) ∧ (w'.cell? ⟨w.heap.size + 1, 0, none⟩ = some (.int .u8 m0) ∧ w'.cell? ⟨w.heap.size + 1, 1, none⟩ = some (.int .u8 m1) ∧ w'.cell? ⟨w.heap.size + 1, 2, none⟩ = some (.int .u8 m2) ∧ w'.cell? ⟨w.heap.size + 1, 3, none⟩ = some (.int .u8 m3) ∧ w'.cell? ⟨w.heap.size + 1, 4, none⟩ = some (.int .u8 m4) ∧ w'.cell? ⟨w.heap.size + 1, 5, none⟩ = some (.int .u8 m5) ∧ w'.cell? ⟨w.heap.size + 1, 6, none⟩ = some (.int .u8 m6) ∧ w'.cell? ⟨w.heap.size + 1, 7, none⟩ = some (.int .u8 m7)))
    ((refine SO.out _ ?_; first | assumption | exact (Below.refl _ _).drew))
    (first
      | (go_at_call 22; refine (C1.out _).mono ?_; rintro e w3 ⟨rfl, rfl⟩)
      | (go_at_call 26; refine (SG.out _).mono ?_; rintro e w3 ⟨v3, rfl, hS3, hB3⟩; obtain ⟨b3, c3, rfl, hb3, hl3⟩ := World.ownsRow.form hS3 (by rw [HSL.out]; omega); have hV3 : Below W.heap.size W w3 := (Below.refl _ _).drew.trans (hB3.mono (by first | omega | (simp; omega) | (simp; done)))))
  have hX3 := HX2.out.below hV3 hlX
  have HBS := Lib.hid (hS3.bs (by rw [HSL.out]; omega) HSB.out)
  have hne0 : ((s.length : Int) == 0) = false := by rw [HSL.out]; rfl
  have hcap3 : s.length ≤ c3 := by obtain ⟨_, _, e, h1, _⟩ := HBS.out.1; cases e; exact h1
  have hz3 := hV3.size
  clear hS3 hB3
  go_wp2_with (first
    | (refine wpList_load_name _ rfl (.tmp 8) rfl w.heap.size rfl _ _ hX3 HX.out.1 ?_)
    | (go_at_call 27; refine (PB.out _).mono ?_; rintro e w4 ⟨rfl, hB4⟩; have hV4 := hV3.trans (hB4.mono hz3); have hz4 := hV4.size)
    | (refine wpList_store_name _ rfl (.tmp 20) (.tmp 43) rfl w4.heap.size rfl _ rfl _ _ (Blk.new w4 30 (bsv zeroN).toArray) rfl PBN.out.1 ?_; intro w5 hP5 hg5; have hV5 := (hV4.alloc hz4 _).grown hg5 (by simp; omega) (by intro j hj; cases hj; omega); have hU5 : Below w3.heap.size w3 w5 := (hB4.alloc hB4.size _).grown hg5 (by have := hB4.size; simp; omega) (by intro j hj; cases hj; exact hB4.size))
    | (at_builtin; refine hold ?_))
  refine Lib.hid ?_
  have hz5 := hV5.size
  refine wpList_app_bs _ rfl (.tmp 47) (.tmp 48) rfl w5.heap.size _ [] rfl (OwB.empty w5 _ (Nat.le_refl _)) _ s rfl ((HBS.out.below hU5).below (below1 _ _)).1 (by rw [HSL.out]; decide) (by simp) ?_
  intro v6 w6 hC6 hg6
  rw [List.nil_append] at hC6
  obtain ⟨b6, c6, rfl, hb6, hl6⟩ := World.ownsRow.form hC6 (by rw [HSL.out]; omega)
  have hU6 := (OwB.empty w5 _ (Nat.le_refl _)).below_grown ((Below.refl w5.heap.size w5).alloc (Nat.le_refl _) _) (by simp) hg6
  have hV6 := hV5.trans (hU6.mono hz5)
  have hcell := OwB.cellAt hC6 i (by rw [HSL.out]; exact hi1)
  obtain ⟨hcl, hfz⟩ := hcell
  have HC7 := Lib.hid (OwB.set hC6 i (bits .xor .u8 (s.getD i 0) byi) (by rw [HSL.out]; exact hi1))
  have HYB := Lib.hid (HSB.out.set i (bits_u8 .xor (s.getD i 0) byi))
  have hyb := HSB.out.getD i
  have hlen2 : Hid ((s.set i (bits .xor .u8 (s.getD i 0) byi)).length = s.length) := List.length_set
  generalize s.getD i 0 = y at *
  obtain ⟨_, _⟩ := hyb
  obtain ⟨_, _⟩ := hby
  have hir : IntKind.u64.wrap ati % (s.length : Int) = (i : Int) := by rw [HSL.out]; exact HIE.out
  have hir2 : (IntKind.u64.wrap ati).tmod (s.length : Int) = (i : Int) := by rw [Int.tmod_eq_emod_of_nonneg hUa.1]; exact hir
  have hwi : IntKind.i64.wrap (i : Int) = (i : Int) := by rw [IntKind.wrap_i64]; omega
  have hwi2 : IntKind.u64.wrap (i : Int) = (i : Int) := by rw [IntKind.wrap_u64]; omega
  have hws : IntKind.u64.wrap (s.length : Int) = (s.length : Int) := by rw [IntKind.wrap_u64, HSL.out]; rfl
  have his : (i : Int) < (s.length : Int) := by rw [HSL.out]; omega
  have his2 : (0 : Int) ≤ (i : Int) := by omega
  have hs0 : (0 : Int) < (s.length : Int) := by omega
  have hcap6 : s.length ≤ c6 := by obtain ⟨_, _, e, h1, _⟩ := (hC6.bs (by rw [HSL.out]; omega) HSB.out).1; cases e; exact h1
  clear hC6 hg6
  go_upto_region 8 with (fail)
  generalize hW : World.setCell _ _ _ = W8
  have hV8 : Below W.heap.size W W8 := by rw [← hW]; exact hV6.setCell (Nat.le_trans hz5 hb6) _
  have hU8 : Below w5.heap.size w5 W8 := by rw [← hW]; exact hU6.setCell hb6 _
  have HC7' := HC7.out
  rw [hW] at HC7'
  have hC8 := Lib.hid (HC7'.bs (by rw [hlen2.out, HSL.out]; omega) HYB.out)
  have hS8 := Lib.hid ((HBS.out.below hU5).below hU8)
  have hp8 := hP5.below hU8 hP5.lt
  have hM8 := HM2.out.below hV8 HM2.out.lt
  have hO8 := HO2.out.below hV8 hlO
  have SO8 : Hid (∀ w' : World, Below W8.heap.size W8 w' → (w'.cell? ⟨w4.heap.size, 0, none⟩ = some (.int .u8 p0) ∧ w'.cell? ⟨w4.heap.size, 1, none⟩ = some (.int .u8 p1) ∧ w'.cell? ⟨w4.heap.size, 2, none⟩ = some (.int .u8 p2) ∧ w'.cell? ⟨w4.heap.size, 3, none⟩ = some (.int .u8 p3) ∧ w'.cell? ⟨w4.heap.size, 4, none⟩ = some (.int .u8 p4) ∧ w'.cell? ⟨w4.heap.size, 5, none⟩ = some (.int .u8 p5) ∧ w'.cell? ⟨w4.heap.size, 6, none⟩ = some (.int .u8 p6) ∧ w'.cell? ⟨w4.heap.size, 7, none⟩ = some (.int .u8 p7)) ∧ (w'.cell? ⟨w.heap.size + 1, 0, none⟩ = some (.int .u8 m0) ∧ w'.cell? ⟨w.heap.size + 1, 1, none⟩ = some (.int .u8 m1) ∧ w'.cell? ⟨w.heap.size + 1, 2, none⟩ = some (.int .u8 m2) ∧ w'.cell? ⟨w.heap.size + 1, 3, none⟩ = some (.int .u8 m3) ∧ w'.cell? ⟨w.heap.size + 1, 4, none⟩ = some (.int .u8 m4) ∧ w'.cell? ⟨w.heap.size + 1, 5, none⟩ = some (.int .u8 m5) ∧ w'.cell? ⟨w.heap.size + 1, 6, none⟩ = some (.int .u8 m6) ∧ w'.cell? ⟨w.heap.size + 1, 7, none⟩ = some (.int .u8 m7)) ∧ (w'.cell? ⟨w.heap.size + 1 + 1, 0, none⟩ = some (.int .u8 o0) ∧ w'.cell? ⟨w.heap.size + 1 + 1, 1, none⟩ = some (.int .u8 o1) ∧ w'.cell? ⟨w.heap.size + 1 + 1, 2, none⟩ = some (.int .u8 o2) ∧ w'.cell? ⟨w.heap.size + 1 + 1, 3, none⟩ = some (.int .u8 o3) ∧ w'.cell? ⟨w.heap.size + 1 + 1, 4, none⟩ = some (.int .u8 o4) ∧ w'.cell? ⟨w.heap.size + 1 + 1, 5, none⟩ = some (.int .u8 o5) ∧ w'.cell? ⟨w.heap.size + 1 + 1, 6, none⟩ = some (.int .u8 o6) ∧ w'.cell? ⟨w.heap.size + 1 + 1, 7, none⟩ = some (.int .u8 o7))) := fun w' h =>
    ⟨⟨(hp8.below h hp8.lt).cell 0, (hp8.below h hp8.lt).cell 1, (hp8.below h hp8.lt).cell 2, (hp8.below h hp8.lt).cell 3, (hp8.below h hp8.lt).cell 4, (hp8.below h hp8.lt).cell 5, (hp8.below h hp8.lt).cell 6, (hp8.below h hp8.lt).cell 7⟩, ⟨(hM8.below h hM8.lt).cell 0, (hM8.below h hM8.lt).cell 1, (hM8.below h hM8.lt).cell 2, (hM8.below h hM8.lt).cell 3, (hM8.below h hM8.lt).cell 4, (hM8.below h hM8.lt).cell 5, (hM8.below h hM8.lt).cell 6, (hM8.below h hM8.lt).cell 7⟩, (hO8.below h hO8.lt).cell 0, (hO8.below h hO8.lt).cell 1, (hO8.below h hO8.lt).cell 2, (hO8.below h hO8.lt).cell 3, (hO8.below h hO8.lt).cell 4, (hO8.below h hO8.lt).cell 5, (hO8.below h hO8.lt).cell 6, (hO8.below h hO8.lt).cell 7⟩
  have hraw8 := Lib.hid ((hraw.below hV2).below hV8)
  have V1 := Lib.hid (fun w h => verify_any [p0, p1, p2, p3, p4, p5, p6, p7] [m0, m1, m2, m3, m4, m5, m6, m7] (s.set i (bits .xor .u8 y byi)) 1 (.slice (some ⟨b6, 0, none⟩) s.length c6) w PBN.out HMN.out h ⟨by omega, by omega⟩)
  have R1 := Lib.hid (fun w h => rverify_any [p0, p1, p2, p3, p4, p5, p6, p7] [m0, m1, m2, m3, m4, m5, m6, m7] (s.set i (bits .xor .u8 y byi)) 1 (.slice (some ⟨b6, 0, none⟩) s.length c6) w PBN.out HMN.out h ⟨by omega, by omega⟩)
  have V2 := Lib.hid (fun w h => verify_any [p0, p1, p2, p3, p4, p5, p6, p7] [o0, o1, o2, o3, o4, o5, o6, o7] s 1 (.slice (some ⟨b3, 0, none⟩) s.length c3) w PBN.out HON.out h ⟨by omega, by omega⟩)
  have R2 := Lib.hid (fun w h => rverify_any [p0, p1, p2, p3, p4, p5, p6, p7] [o0, o1, o2, o3, o4, o5, o6, o7] s 1 (.slice (some ⟨b3, 0, none⟩) s.length c3) w PBN.out HON.out h ⟨by omega, by omega⟩)
  have V3 := Lib.hid (fun w h => verify_any [o0, o1, o2, o3, o4, o5, o6, o7] [m0, m1, m2, m3, m4, m5, m6, m7] s 1 (.slice (some ⟨b3, 0, none⟩) s.length c3) w HON.out HMN.out h ⟨by omega, by omega⟩)
  have R3 := Lib.hid (fun w h => rverify_any [o0, o1, o2, o3, o4, o5, o6, o7] [m0, m1, m2, m3, m4, m5, m6, m7] s 1 (.slice (some ⟨b3, 0, none⟩) s.length c3) w HON.out HMN.out h ⟨by omega, by omega⟩)
  have V4 := Lib.hid (fun w h => verify_any [p0, p1, p2, p3, p4, p5, p6, p7] [m0, m1, m2, m3, m4, m5, m6, m7] raw lv rv w PBN.out HMN.out h hlv)
  have R4 := Lib.hid (fun w h => rverify_any [p0, p1, p2, p3, p4, p5, p6, p7] [m0, m1, m2, m3, m4, m5, m6, m7] raw lv rv w PBN.out HMN.out h hlv)
  generalize mver [p0, p1, p2, p3, p4, p5, p6, p7] 1 [m0, m1, m2, m3, m4, m5, m6, m7] (s.set i (bits .xor .u8 y byi)) = g1 at *
  generalize mver [p0, p1, p2, p3, p4, p5, p6, p7] 1 [o0, o1, o2, o3, o4, o5, o6, o7] s = g2 at *
  generalize mver [o0, o1, o2, o3, o4, o5, o6, o7] 1 [m0, m1, m2, m3, m4, m5, m6, m7] s = g3 at *
  generalize mver [p0, p1, p2, p3, p4, p5, p6, p7] lv [m0, m1, m2, m3, m4, m5, m6, m7] raw = g4 at *
  have hrawh := Lib.hid hraw
  have hz8 := hV8.size
  have hVw := hV2.trans (hV8.mono hV2.size)
  clear hraw hir hir2 hwi hwi2 hws his his2 hs0 hcl hfz HC7' HC7 hW hV6 hU6 hU8 hU5 hV5 hp8 hM8 hO8 hq hq2 hpar
  go_region_held3 (fun w' => (w'.cell? ⟨w4.heap.size, 0, none⟩ = some (.int .u8 p0) ∧ w'.cell? ⟨w4.heap.size, 1, none⟩ = some (.int .u8 p1) ∧ w'.cell? ⟨w4.heap.size, 2, none⟩ = some (.int .u8 p2) ∧ w'.cell? ⟨w4.heap.size, 3, none⟩ = some (.int .u8 p3) ∧ w'.cell? ⟨w4.heap.size, 4, none⟩ = some (.int .u8 p4) ∧ w'.cell? ⟨w4.heap.size, 5, none⟩ = some (.int .u8 p5) ∧ w'.cell? ⟨w4.heap.size, 6, none⟩ = some (.int .u8 p6) ∧ w'.cell? ⟨w4.heap.size, 7, none⟩ = some (.int .u8 p7)) ∧ (w'.cell? ⟨w.heap.size + 1, 0, none⟩ = some (.int .u8 m0) ∧ w'.cell? ⟨w.heap.size + 1, 1, none⟩ = some (.int .u8 m1) ∧ w'.cell? ⟨w.heap.size + 1, 2, none⟩ = some (.int .u8 m2) ∧ w'.cell? ⟨w.heap.size + 1, 3, none⟩ = some (.int .u8 m3) ∧ w'.cell? ⟨w.heap.size + 1, 4, none⟩ = some (.int .u8 m4) ∧ w'.cell? ⟨w.heap.size + 1, 5, none⟩ = some (.int .u8 m5) ∧ w'.cell? ⟨w.heap.size + 1, 6, none⟩ = some (.int .u8 m6) ∧ w'.cell? ⟨w.heap.size + 1, 7, none⟩ = some (.int .u8 m7)) ∧ (w'.cell? ⟨w.heap.size + 1 + 1, 0, none⟩ = some (.int .u8 o0) ∧ w'.cell? ⟨w.heap.size + 1 + 1, 1, none⟩ = some (.int .u8 o1) ∧ w'.cell? ⟨w.heap.size + 1 + 1, 2, none⟩ = some (.int .u8 o2) ∧ w'.cell? ⟨w.heap.size + 1 + 1, 3, none⟩ = some (.int .u8 o3) ∧ w'.cell? ⟨w.heap.size + 1 + 1, 4, none⟩ = some (.int .u8 o4) ∧ w'.cell? ⟨w.heap.size + 1 + 1, 5, none⟩ = some (.int .u8 o5) ∧ w'.cell? ⟨w.heap.size + 1 + 1, 6, none⟩ = some (.int .u8 o6) ∧ w'.cell? ⟨w.heap.size + 1 + 1, 7, none⟩ = some (.int .u8 o7)))
    ((refine SO8.out _ ?_; first | assumption | exact (Below.refl _ _).drew))
    (first
      | (have _ := hT5; go_at_call 29; refine (R3.out _ (by exact hS8.out.below hT5)).mono ?_; rintro e q6 ⟨rfl, hQ⟩; have hT6 : Below W8.heap.size W8 q6 := hT5.trans (hQ.mono hT5.size); clear hQ)
      | (have _ := hT4; go_at_call 28; refine (V3.out _ (by exact hS8.out.below hT4)).mono ?_; rintro e q5 ⟨rfl, hQ⟩; have hT5 : Below W8.heap.size W8 q5 := hT4.trans (hQ.mono hT4.size); clear hQ)
      | (have _ := hT3; go_at_call 29; refine (R2.out _ (by exact hS8.out.below hT3)).mono ?_; rintro e q4 ⟨rfl, hQ⟩; have hT4 : Below W8.heap.size W8 q4 := hT3.trans (hQ.mono hT3.size); clear hQ)
      | (have _ := hT2; go_at_call 28; refine (V2.out _ (by exact hS8.out.below hT2)).mono ?_; rintro e q3 ⟨rfl, hQ⟩; have hT3 : Below W8.heap.size W8 q3 := hT2.trans (hQ.mono hT2.size); clear hQ)
      | (have _ := hT1; go_at_call 29; refine (R1.out _ (by exact hC8.out.below hT1)).mono ?_; rintro e q2 ⟨rfl, hQ⟩; have hT2 : Below W8.heap.size W8 q2 := hT1.trans (hQ.mono hT1.size); clear hQ)
      | (go_at_call 28; refine (V1.out _ (by exact hC8.out.drew)).mono ?_; rintro e q1 ⟨rfl, hQ⟩; have hT1 : Below W8.heap.size W8 q1 := (Below.refl _ _).drew.trans (hQ.mono (by first | omega | (simp; omega) | (simp; done))); clear hQ))
  go_upto_region 10 with (fail)
  go_region_held3 (fun w' => (w'.cell? ⟨w4.heap.size, 0, none⟩ = some (.int .u8 p0) ∧ w'.cell? ⟨w4.heap.size, 1, none⟩ = some (.int .u8 p1) ∧ w'.cell? ⟨w4.heap.size, 2, none⟩ = some (.int .u8 p2) ∧ w'.cell? ⟨w4.heap.size, 3, none⟩ = some (.int .u8 p3) ∧ w'.cell? ⟨w4.heap.size, 4, none⟩ = some (.int .u8 p4) ∧ w'.cell? ⟨w4.heap.size, 5, none⟩ = some (.int .u8 p5) ∧ w'.cell? ⟨w4.heap.size, 6, none⟩ = some (.int .u8 p6) ∧ w'.cell? ⟨w4.heap.size, 7, none⟩ = some (.int .u8 p7)) ∧ (w'.cell? ⟨w.heap.size + 1, 0, none⟩ = some (.int .u8 m0) ∧ w'.cell? ⟨w.heap.size + 1, 1, none⟩ = some (.int .u8 m1) ∧ w'.cell? ⟨w.heap.size + 1, 2, none⟩ = some (.int .u8 m2) ∧ w'.cell? ⟨w.heap.size + 1, 3, none⟩ = some (.int .u8 m3) ∧ w'.cell? ⟨w.heap.size + 1, 4, none⟩ = some (.int .u8 m4) ∧ w'.cell? ⟨w.heap.size + 1, 5, none⟩ = some (.int .u8 m5) ∧ w'.cell? ⟨w.heap.size + 1, 6, none⟩ = some (.int .u8 m6) ∧ w'.cell? ⟨w.heap.size + 1, 7, none⟩ = some (.int .u8 m7)) ∧ (w'.cell? ⟨w.heap.size + 1 + 1, 0, none⟩ = some (.int .u8 o0) ∧ w'.cell? ⟨w.heap.size + 1 + 1, 1, none⟩ = some (.int .u8 o1) ∧ w'.cell? ⟨w.heap.size + 1 + 1, 2, none⟩ = some (.int .u8 o2) ∧ w'.cell? ⟨w.heap.size + 1 + 1, 3, none⟩ = some (.int .u8 o3) ∧ w'.cell? ⟨w.heap.size + 1 + 1, 4, none⟩ = some (.int .u8 o4) ∧ w'.cell? ⟨w.heap.size + 1 + 1, 5, none⟩ = some (.int .u8 o5) ∧ w'.cell? ⟨w.heap.size + 1 + 1, 6, none⟩ = some (.int .u8 o6) ∧ w'.cell? ⟨w.heap.size + 1 + 1, 7, none⟩ = some (.int .u8 o7)))
    ((refine SO8.out _ ?_; first | assumption | exact hT6.drew))
    (first
      | (have _ := hT7; go_at_call 29; refine (R4.out _ (by exact hraw8.out.below hT7)).mono ?_; rintro e q8 ⟨rfl, hQ⟩; have hT8 : Below W8.heap.size W8 q8 := hT7.trans (hQ.mono hT7.size); clear hQ)
      | (go_at_call 28; refine (V4.out _ (by exact (hraw8.out.below hT6).drew)).mono ?_; rintro e q7 ⟨rfl, hQ⟩; have hT7 : Below W8.heap.size W8 q7 := hT6.drew.trans (hQ.mono (by simp; exact hT6.size)); clear hQ)
      | (go_at_call 25; refine (awake5 _).mono ?_; rintro e q9 ⟨rfl, rfl⟩))
  go_wp2
  go_ret
  exact ⟨rfl, hVw.trans (hT8.mono hVw.size)⟩

set_option maxRecDepth 100000 in
set_option maxHeartbeats 32000000 in
theorem verifies2 (x m ot raw : List Int) (lv lf ati byi : Int) (rv : Value) (w : World) (hx : IsN x) (hm : IsN m) (ho : IsN ot) (hraw : Bs w rv raw) (hlv : -9223372036854775808 ≤ lv ∧ lv ≤ 9223372036854775807) (hby : 0 ≤ byi ∧ byi < 256) (hpar : IntKind.u64.wrap lv % 2 = 1) :
    Calls Try.prog 4 #[nv x, .int .i64 lv, .int .i64 lf, nv m, nv ot, rv, .int .i64 ati, .int .u8 byi] w fun e w' => e = .returned (.bool true) ∧ Below w.heap.size w w' := by
  have HX := Lib.hid hx
  have HMN := Lib.hid hm
  have HON := Lib.hid ho
  have hUl := wrap_u64_bd lv
  have hUf := wrap_u64_bd lf
  have hUa := wrap_u64_bd ati
  obtain ⟨q, hq, hq1⟩ := rem_bd (IntKind.u64.wrap lf) 1024 (by omega)
  obtain ⟨i, hi, hi1⟩ := rem_bd (IntKind.u64.wrap ati) 370 (by omega)
  have eq0 : ((1024 : Nat) : Int) = 1024 := rfl
  have ei0 : ((370 : Nat) : Int) = 370 := rfl
  rw [eq0] at hq
  rw [ei0] at hi
  have SG := Lib.hid (fun w => rsign_yes x m 2 q w hx hm (by omega) (by simp [capOf]; omega))
  have hsl := msig_len x 2 q m (by omega)
  have hsb := msig_byt x 2 q m
  have PB := Lib.hid (fun w => rpublic2_any x 2 w hx)
  have PBN := Lib.hid (mpub_isN x 2)
  have hqn : ((q : Int)).toNat = q := by omega
  rw [hqn] at SG
  generalize msig x 2 q m = s at *
  have hsl2 : s.length = 370 := by simp [sizeOf] at hsl; omega
  generalize mpub x 2 = pp at *
  obtain ⟨p0, p1, p2, p3, p4, p5, p6, p7, rfl, _⟩ := PBN.out.cases
  have hwl := Lib.hid hpar
  have C1 := Lib.hid (fun w => rcapacity_any 2 w (by omega) (by omega))
  rw [show capOf 2 = 1024 by simp [capOf]] at C1
  obtain ⟨x0, x1, x2, x3, x4, x5, x6, x7, rfl, _⟩ := hx.cases
  obtain ⟨m0, m1, m2, m3, m4, m5, m6, m7, rfl, _⟩ := hm.cases
  obtain ⟨o0, o1, o2, o3, o4, o5, o6, o7, rfl, _⟩ := ho.cases
  have hq2 : (IntKind.u64.wrap lf).tmod 1024 = (q : Int) := by rw [Int.tmod_eq_emod_of_nonneg hUf.1]; exact hq
  have hwq : IntKind.i64.wrap (q : Int) = (q : Int) := by rw [IntKind.wrap_i64]; omega
  have hw32 : IntKind.u64.wrap 1024 = 1024 := by rw [IntKind.wrap_u64]; rfl
  have hwq2 : IntKind.u64.wrap (q : Int) = (q : Int) := by rw [IntKind.wrap_u64]; omega
  have HSL := Lib.hid hsl2
  have HSB := Lib.hid hsb
  have HIE := Lib.hid hi
  clear hx hm ho hsl hsb hsl2 hqn
  go_enter Try.func4, Try.ntmps4
  go_upto_region 2 with (fail)
  generalize hW : World.alloc _ _ = W
  have hX2 : Blk W w.heap.size 30 (bsv [x0, x1, x2, x3, x4, x5, x6, x7]).toArray := by rw [← hW]; exact ((Blk.new _ _ _).old _).old _
  have hM2 : Blk W (w.heap.size + 1) 30 (bsv [m0, m1, m2, m3, m4, m5, m6, m7]).toArray := by rw [← hW]; exact (Blk.new' _ _ _ (by simp)).old _
  have hO2 : Blk W (w.heap.size + 1 + 1) 30 (bsv [o0, o1, o2, o3, o4, o5, o6, o7]).toArray := by rw [← hW]; exact Blk.new' _ _ _ (by simp)
  have hV2 : Below w.heap.size w W := by rw [← hW]; exact below3 w _ _ _
  clear hW
  have hlX := hX2.lt
  have hlO := hO2.lt
  have SO : Hid (∀ w' : World, Below W.heap.size W w' → (w'.cell? ⟨w.heap.size, 0, none⟩ = some (.int .u8 x0) ∧ w'.cell? ⟨w.heap.size, 1, none⟩ = some (.int .u8 x1) ∧ w'.cell? ⟨w.heap.size, 2, none⟩ = some (.int .u8 x2) ∧ w'.cell? ⟨w.heap.size, 3, none⟩ = some (.int .u8 x3) ∧ w'.cell? ⟨w.heap.size, 4, none⟩ = some (.int .u8 x4) ∧ w'.cell? ⟨w.heap.size, 5, none⟩ = some (.int .u8 x5) ∧ w'.cell? ⟨w.heap.size, 6, none⟩ = some (.int .u8 x6) ∧ w'.cell? ⟨w.heap.size, 7, none⟩ = some (.int .u8 x7)) ∧ (w'.cell? ⟨w.heap.size + 1, 0, none⟩ = some (.int .u8 m0) ∧ w'.cell? ⟨w.heap.size + 1, 1, none⟩ = some (.int .u8 m1) ∧ w'.cell? ⟨w.heap.size + 1, 2, none⟩ = some (.int .u8 m2) ∧ w'.cell? ⟨w.heap.size + 1, 3, none⟩ = some (.int .u8 m3) ∧ w'.cell? ⟨w.heap.size + 1, 4, none⟩ = some (.int .u8 m4) ∧ w'.cell? ⟨w.heap.size + 1, 5, none⟩ = some (.int .u8 m5) ∧ w'.cell? ⟨w.heap.size + 1, 6, none⟩ = some (.int .u8 m6) ∧ w'.cell? ⟨w.heap.size + 1, 7, none⟩ = some (.int .u8 m7))) := fun w' h =>
    ⟨⟨(hX2.below h hX2.lt).cell 0, (hX2.below h hX2.lt).cell 1, (hX2.below h hX2.lt).cell 2, (hX2.below h hX2.lt).cell 3, (hX2.below h hX2.lt).cell 4, (hX2.below h hX2.lt).cell 5, (hX2.below h hX2.lt).cell 6, (hX2.below h hX2.lt).cell 7⟩, (hM2.below h hM2.lt).cell 0, (hM2.below h hM2.lt).cell 1, (hM2.below h hM2.lt).cell 2, (hM2.below h hM2.lt).cell 3, (hM2.below h hM2.lt).cell 4, (hM2.below h hM2.lt).cell 5, (hM2.below h hM2.lt).cell 6, (hM2.below h hM2.lt).cell 7⟩
  have HX2 := Lib.hid hX2
  have HM2 := Lib.hid hM2
  have HO2 := Lib.hid hO2
  clear hX2 hM2 hO2
  go_region_held3 (fun w' => (w'.cell? ⟨w.heap.size, 0, none⟩ = some (.int .u8 x0) ∧ w'.cell? ⟨w.heap.size, 1, none⟩ = some (.int .u8 x1) ∧ w'.cell? ⟨w.heap.size, 2, none⟩ = some (.int .u8 x2) ∧ w'.cell? ⟨w.heap.size, 3, none⟩ = some (.int .u8 x3) ∧ w'.cell? ⟨w.heap.size, 4, none⟩ = some (.int .u8 x4) ∧ w'.cell? ⟨w.heap.size, 5, none⟩ = some (.int .u8 x5) ∧ w'.cell? ⟨w.heap.size, 6, none⟩ = some (.int .u8 x6) ∧ w'.cell? ⟨w.heap.size, 7, none⟩ = some (.int .u8 x7)) ∧ (w'.cell? ⟨w.heap.size + 1, 0, none⟩ = some (.int .u8 m0) ∧ w'.cell? ⟨w.heap.size + 1, 1, none⟩ = some (.int .u8 m1) ∧ w'.cell? ⟨w.heap.size + 1, 2, none⟩ = some (.int .u8 m2) ∧ w'.cell? ⟨w.heap.size + 1, 3, none⟩ = some (.int .u8 m3) ∧ w'.cell? ⟨w.heap.size + 1, 4, none⟩ = some (.int .u8 m4) ∧ w'.cell? ⟨w.heap.size + 1, 5, none⟩ = some (.int .u8 m5) ∧ w'.cell? ⟨w.heap.size + 1, 6, none⟩ = some (.int .u8 m6) ∧ w'.cell? ⟨w.heap.size + 1, 7, none⟩ = some (.int .u8 m7)))
    ((refine SO.out _ ?_; first | assumption | exact (Below.refl _ _).drew))
    (first
      | (go_at_call 22; refine (C1.out _).mono ?_; rintro e w3 ⟨rfl, rfl⟩)
      | (go_at_call 26; refine (SG.out _).mono ?_; rintro e w3 ⟨v3, rfl, hS3, hB3⟩; obtain ⟨b3, c3, rfl, hb3, hl3⟩ := World.ownsRow.form hS3 (by rw [HSL.out]; omega); have hV3 : Below W.heap.size W w3 := (Below.refl _ _).drew.trans (hB3.mono (by first | omega | (simp; omega) | (simp; done)))))
  have hX3 := HX2.out.below hV3 hlX
  have HBS := Lib.hid (hS3.bs (by rw [HSL.out]; omega) HSB.out)
  have hne0 : ((s.length : Int) == 0) = false := by rw [HSL.out]; rfl
  have hcap3 : s.length ≤ c3 := by obtain ⟨_, _, e, h1, _⟩ := HBS.out.1; cases e; exact h1
  have hz3 := hV3.size
  clear hS3 hB3
  go_wp2_with (first
    | (refine wpList_load_name _ rfl (.tmp 8) rfl w.heap.size rfl _ _ hX3 HX.out.1 ?_)
    | (go_at_call 27; refine (PB.out _).mono ?_; rintro e w4 ⟨rfl, hB4⟩; have hV4 := hV3.trans (hB4.mono hz3); have hz4 := hV4.size)
    | (refine wpList_store_name _ rfl (.tmp 20) (.tmp 43) rfl w4.heap.size rfl _ rfl _ _ (Blk.new w4 30 (bsv zeroN).toArray) rfl PBN.out.1 ?_; intro w5 hP5 hg5; have hV5 := (hV4.alloc hz4 _).grown hg5 (by simp; omega) (by intro j hj; cases hj; omega); have hU5 : Below w3.heap.size w3 w5 := (hB4.alloc hB4.size _).grown hg5 (by have := hB4.size; simp; omega) (by intro j hj; cases hj; exact hB4.size))
    | (at_builtin; refine hold ?_))
  refine Lib.hid ?_
  have hz5 := hV5.size
  refine wpList_app_bs _ rfl (.tmp 47) (.tmp 48) rfl w5.heap.size _ [] rfl (OwB.empty w5 _ (Nat.le_refl _)) _ s rfl ((HBS.out.below hU5).below (below1 _ _)).1 (by rw [HSL.out]; decide) (by simp) ?_
  intro v6 w6 hC6 hg6
  rw [List.nil_append] at hC6
  obtain ⟨b6, c6, rfl, hb6, hl6⟩ := World.ownsRow.form hC6 (by rw [HSL.out]; omega)
  have hU6 := (OwB.empty w5 _ (Nat.le_refl _)).below_grown ((Below.refl w5.heap.size w5).alloc (Nat.le_refl _) _) (by simp) hg6
  have hV6 := hV5.trans (hU6.mono hz5)
  have hcell := OwB.cellAt hC6 i (by rw [HSL.out]; exact hi1)
  obtain ⟨hcl, hfz⟩ := hcell
  have HC7 := Lib.hid (OwB.set hC6 i (bits .xor .u8 (s.getD i 0) byi) (by rw [HSL.out]; exact hi1))
  have HYB := Lib.hid (HSB.out.set i (bits_u8 .xor (s.getD i 0) byi))
  have hyb := HSB.out.getD i
  have hlen2 : Hid ((s.set i (bits .xor .u8 (s.getD i 0) byi)).length = s.length) := List.length_set
  generalize s.getD i 0 = y at *
  obtain ⟨_, _⟩ := hyb
  obtain ⟨_, _⟩ := hby
  have hir : IntKind.u64.wrap ati % (s.length : Int) = (i : Int) := by rw [HSL.out]; exact HIE.out
  have hir2 : (IntKind.u64.wrap ati).tmod (s.length : Int) = (i : Int) := by rw [Int.tmod_eq_emod_of_nonneg hUa.1]; exact hir
  have hwi : IntKind.i64.wrap (i : Int) = (i : Int) := by rw [IntKind.wrap_i64]; omega
  have hwi2 : IntKind.u64.wrap (i : Int) = (i : Int) := by rw [IntKind.wrap_u64]; omega
  have hws : IntKind.u64.wrap (s.length : Int) = (s.length : Int) := by rw [IntKind.wrap_u64, HSL.out]; rfl
  have his : (i : Int) < (s.length : Int) := by rw [HSL.out]; omega
  have his2 : (0 : Int) ≤ (i : Int) := by omega
  have hs0 : (0 : Int) < (s.length : Int) := by omega
  have hcap6 : s.length ≤ c6 := by obtain ⟨_, _, e, h1, _⟩ := (hC6.bs (by rw [HSL.out]; omega) HSB.out).1; cases e; exact h1
  clear hC6 hg6
  go_upto_region 8 with (fail)
  generalize hW : World.setCell _ _ _ = W8
  have hV8 : Below W.heap.size W W8 := by rw [← hW]; exact hV6.setCell (Nat.le_trans hz5 hb6) _
  have hU8 : Below w5.heap.size w5 W8 := by rw [← hW]; exact hU6.setCell hb6 _
  have HC7' := HC7.out
  rw [hW] at HC7'
  have hC8 := Lib.hid (HC7'.bs (by rw [hlen2.out, HSL.out]; omega) HYB.out)
  have hS8 := Lib.hid ((HBS.out.below hU5).below hU8)
  have hp8 := hP5.below hU8 hP5.lt
  have hM8 := HM2.out.below hV8 HM2.out.lt
  have hO8 := HO2.out.below hV8 hlO
  have SO8 : Hid (∀ w' : World, Below W8.heap.size W8 w' → (w'.cell? ⟨w4.heap.size, 0, none⟩ = some (.int .u8 p0) ∧ w'.cell? ⟨w4.heap.size, 1, none⟩ = some (.int .u8 p1) ∧ w'.cell? ⟨w4.heap.size, 2, none⟩ = some (.int .u8 p2) ∧ w'.cell? ⟨w4.heap.size, 3, none⟩ = some (.int .u8 p3) ∧ w'.cell? ⟨w4.heap.size, 4, none⟩ = some (.int .u8 p4) ∧ w'.cell? ⟨w4.heap.size, 5, none⟩ = some (.int .u8 p5) ∧ w'.cell? ⟨w4.heap.size, 6, none⟩ = some (.int .u8 p6) ∧ w'.cell? ⟨w4.heap.size, 7, none⟩ = some (.int .u8 p7)) ∧ (w'.cell? ⟨w.heap.size + 1, 0, none⟩ = some (.int .u8 m0) ∧ w'.cell? ⟨w.heap.size + 1, 1, none⟩ = some (.int .u8 m1) ∧ w'.cell? ⟨w.heap.size + 1, 2, none⟩ = some (.int .u8 m2) ∧ w'.cell? ⟨w.heap.size + 1, 3, none⟩ = some (.int .u8 m3) ∧ w'.cell? ⟨w.heap.size + 1, 4, none⟩ = some (.int .u8 m4) ∧ w'.cell? ⟨w.heap.size + 1, 5, none⟩ = some (.int .u8 m5) ∧ w'.cell? ⟨w.heap.size + 1, 6, none⟩ = some (.int .u8 m6) ∧ w'.cell? ⟨w.heap.size + 1, 7, none⟩ = some (.int .u8 m7)) ∧ (w'.cell? ⟨w.heap.size + 1 + 1, 0, none⟩ = some (.int .u8 o0) ∧ w'.cell? ⟨w.heap.size + 1 + 1, 1, none⟩ = some (.int .u8 o1) ∧ w'.cell? ⟨w.heap.size + 1 + 1, 2, none⟩ = some (.int .u8 o2) ∧ w'.cell? ⟨w.heap.size + 1 + 1, 3, none⟩ = some (.int .u8 o3) ∧ w'.cell? ⟨w.heap.size + 1 + 1, 4, none⟩ = some (.int .u8 o4) ∧ w'.cell? ⟨w.heap.size + 1 + 1, 5, none⟩ = some (.int .u8 o5) ∧ w'.cell? ⟨w.heap.size + 1 + 1, 6, none⟩ = some (.int .u8 o6) ∧ w'.cell? ⟨w.heap.size + 1 + 1, 7, none⟩ = some (.int .u8 o7))) := fun w' h =>
    ⟨⟨(hp8.below h hp8.lt).cell 0, (hp8.below h hp8.lt).cell 1, (hp8.below h hp8.lt).cell 2, (hp8.below h hp8.lt).cell 3, (hp8.below h hp8.lt).cell 4, (hp8.below h hp8.lt).cell 5, (hp8.below h hp8.lt).cell 6, (hp8.below h hp8.lt).cell 7⟩, ⟨(hM8.below h hM8.lt).cell 0, (hM8.below h hM8.lt).cell 1, (hM8.below h hM8.lt).cell 2, (hM8.below h hM8.lt).cell 3, (hM8.below h hM8.lt).cell 4, (hM8.below h hM8.lt).cell 5, (hM8.below h hM8.lt).cell 6, (hM8.below h hM8.lt).cell 7⟩, (hO8.below h hO8.lt).cell 0, (hO8.below h hO8.lt).cell 1, (hO8.below h hO8.lt).cell 2, (hO8.below h hO8.lt).cell 3, (hO8.below h hO8.lt).cell 4, (hO8.below h hO8.lt).cell 5, (hO8.below h hO8.lt).cell 6, (hO8.below h hO8.lt).cell 7⟩
  have hraw8 := Lib.hid ((hraw.below hV2).below hV8)
  have V1 := Lib.hid (fun w h => verify_any [p0, p1, p2, p3, p4, p5, p6, p7] [m0, m1, m2, m3, m4, m5, m6, m7] (s.set i (bits .xor .u8 y byi)) 2 (.slice (some ⟨b6, 0, none⟩) s.length c6) w PBN.out HMN.out h ⟨by omega, by omega⟩)
  have R1 := Lib.hid (fun w h => rverify_any [p0, p1, p2, p3, p4, p5, p6, p7] [m0, m1, m2, m3, m4, m5, m6, m7] (s.set i (bits .xor .u8 y byi)) 2 (.slice (some ⟨b6, 0, none⟩) s.length c6) w PBN.out HMN.out h ⟨by omega, by omega⟩)
  have V2 := Lib.hid (fun w h => verify_any [p0, p1, p2, p3, p4, p5, p6, p7] [o0, o1, o2, o3, o4, o5, o6, o7] s 2 (.slice (some ⟨b3, 0, none⟩) s.length c3) w PBN.out HON.out h ⟨by omega, by omega⟩)
  have R2 := Lib.hid (fun w h => rverify_any [p0, p1, p2, p3, p4, p5, p6, p7] [o0, o1, o2, o3, o4, o5, o6, o7] s 2 (.slice (some ⟨b3, 0, none⟩) s.length c3) w PBN.out HON.out h ⟨by omega, by omega⟩)
  have V3 := Lib.hid (fun w h => verify_any [o0, o1, o2, o3, o4, o5, o6, o7] [m0, m1, m2, m3, m4, m5, m6, m7] s 2 (.slice (some ⟨b3, 0, none⟩) s.length c3) w HON.out HMN.out h ⟨by omega, by omega⟩)
  have R3 := Lib.hid (fun w h => rverify_any [o0, o1, o2, o3, o4, o5, o6, o7] [m0, m1, m2, m3, m4, m5, m6, m7] s 2 (.slice (some ⟨b3, 0, none⟩) s.length c3) w HON.out HMN.out h ⟨by omega, by omega⟩)
  have V4 := Lib.hid (fun w h => verify_any [p0, p1, p2, p3, p4, p5, p6, p7] [m0, m1, m2, m3, m4, m5, m6, m7] raw lv rv w PBN.out HMN.out h hlv)
  have R4 := Lib.hid (fun w h => rverify_any [p0, p1, p2, p3, p4, p5, p6, p7] [m0, m1, m2, m3, m4, m5, m6, m7] raw lv rv w PBN.out HMN.out h hlv)
  generalize mver [p0, p1, p2, p3, p4, p5, p6, p7] 2 [m0, m1, m2, m3, m4, m5, m6, m7] (s.set i (bits .xor .u8 y byi)) = g1 at *
  generalize mver [p0, p1, p2, p3, p4, p5, p6, p7] 2 [o0, o1, o2, o3, o4, o5, o6, o7] s = g2 at *
  generalize mver [o0, o1, o2, o3, o4, o5, o6, o7] 2 [m0, m1, m2, m3, m4, m5, m6, m7] s = g3 at *
  generalize mver [p0, p1, p2, p3, p4, p5, p6, p7] lv [m0, m1, m2, m3, m4, m5, m6, m7] raw = g4 at *
  have hrawh := Lib.hid hraw
  have hz8 := hV8.size
  have hVw := hV2.trans (hV8.mono hV2.size)
  clear hraw hir hir2 hwi hwi2 hws his his2 hs0 hcl hfz HC7' HC7 hW hV6 hU6 hU8 hU5 hV5 hp8 hM8 hO8 hq hq2 hpar
  go_region_held3 (fun w' => (w'.cell? ⟨w4.heap.size, 0, none⟩ = some (.int .u8 p0) ∧ w'.cell? ⟨w4.heap.size, 1, none⟩ = some (.int .u8 p1) ∧ w'.cell? ⟨w4.heap.size, 2, none⟩ = some (.int .u8 p2) ∧ w'.cell? ⟨w4.heap.size, 3, none⟩ = some (.int .u8 p3) ∧ w'.cell? ⟨w4.heap.size, 4, none⟩ = some (.int .u8 p4) ∧ w'.cell? ⟨w4.heap.size, 5, none⟩ = some (.int .u8 p5) ∧ w'.cell? ⟨w4.heap.size, 6, none⟩ = some (.int .u8 p6) ∧ w'.cell? ⟨w4.heap.size, 7, none⟩ = some (.int .u8 p7)) ∧ (w'.cell? ⟨w.heap.size + 1, 0, none⟩ = some (.int .u8 m0) ∧ w'.cell? ⟨w.heap.size + 1, 1, none⟩ = some (.int .u8 m1) ∧ w'.cell? ⟨w.heap.size + 1, 2, none⟩ = some (.int .u8 m2) ∧ w'.cell? ⟨w.heap.size + 1, 3, none⟩ = some (.int .u8 m3) ∧ w'.cell? ⟨w.heap.size + 1, 4, none⟩ = some (.int .u8 m4) ∧ w'.cell? ⟨w.heap.size + 1, 5, none⟩ = some (.int .u8 m5) ∧ w'.cell? ⟨w.heap.size + 1, 6, none⟩ = some (.int .u8 m6) ∧ w'.cell? ⟨w.heap.size + 1, 7, none⟩ = some (.int .u8 m7)) ∧ (w'.cell? ⟨w.heap.size + 1 + 1, 0, none⟩ = some (.int .u8 o0) ∧ w'.cell? ⟨w.heap.size + 1 + 1, 1, none⟩ = some (.int .u8 o1) ∧ w'.cell? ⟨w.heap.size + 1 + 1, 2, none⟩ = some (.int .u8 o2) ∧ w'.cell? ⟨w.heap.size + 1 + 1, 3, none⟩ = some (.int .u8 o3) ∧ w'.cell? ⟨w.heap.size + 1 + 1, 4, none⟩ = some (.int .u8 o4) ∧ w'.cell? ⟨w.heap.size + 1 + 1, 5, none⟩ = some (.int .u8 o5) ∧ w'.cell? ⟨w.heap.size + 1 + 1, 6, none⟩ = some (.int .u8 o6) ∧ w'.cell? ⟨w.heap.size + 1 + 1, 7, none⟩ = some (.int .u8 o7)))
    ((refine SO8.out _ ?_; first | assumption | exact (Below.refl _ _).drew))
    (first
      | (have _ := hT5; go_at_call 29; refine (R3.out _ (by exact hS8.out.below hT5)).mono ?_; rintro e q6 ⟨rfl, hQ⟩; have hT6 : Below W8.heap.size W8 q6 := hT5.trans (hQ.mono hT5.size); clear hQ)
      | (have _ := hT4; go_at_call 28; refine (V3.out _ (by exact hS8.out.below hT4)).mono ?_; rintro e q5 ⟨rfl, hQ⟩; have hT5 : Below W8.heap.size W8 q5 := hT4.trans (hQ.mono hT4.size); clear hQ)
      | (have _ := hT3; go_at_call 29; refine (R2.out _ (by exact hS8.out.below hT3)).mono ?_; rintro e q4 ⟨rfl, hQ⟩; have hT4 : Below W8.heap.size W8 q4 := hT3.trans (hQ.mono hT3.size); clear hQ)
      | (have _ := hT2; go_at_call 28; refine (V2.out _ (by exact hS8.out.below hT2)).mono ?_; rintro e q3 ⟨rfl, hQ⟩; have hT3 : Below W8.heap.size W8 q3 := hT2.trans (hQ.mono hT2.size); clear hQ)
      | (have _ := hT1; go_at_call 29; refine (R1.out _ (by exact hC8.out.below hT1)).mono ?_; rintro e q2 ⟨rfl, hQ⟩; have hT2 : Below W8.heap.size W8 q2 := hT1.trans (hQ.mono hT1.size); clear hQ)
      | (go_at_call 28; refine (V1.out _ (by exact hC8.out.drew)).mono ?_; rintro e q1 ⟨rfl, hQ⟩; have hT1 : Below W8.heap.size W8 q1 := (Below.refl _ _).drew.trans (hQ.mono (by first | omega | (simp; omega) | (simp; done))); clear hQ))
  go_upto_region 10 with (fail)
  go_region_held3 (fun w' => (w'.cell? ⟨w4.heap.size, 0, none⟩ = some (.int .u8 p0) ∧ w'.cell? ⟨w4.heap.size, 1, none⟩ = some (.int .u8 p1) ∧ w'.cell? ⟨w4.heap.size, 2, none⟩ = some (.int .u8 p2) ∧ w'.cell? ⟨w4.heap.size, 3, none⟩ = some (.int .u8 p3) ∧ w'.cell? ⟨w4.heap.size, 4, none⟩ = some (.int .u8 p4) ∧ w'.cell? ⟨w4.heap.size, 5, none⟩ = some (.int .u8 p5) ∧ w'.cell? ⟨w4.heap.size, 6, none⟩ = some (.int .u8 p6) ∧ w'.cell? ⟨w4.heap.size, 7, none⟩ = some (.int .u8 p7)) ∧ (w'.cell? ⟨w.heap.size + 1, 0, none⟩ = some (.int .u8 m0) ∧ w'.cell? ⟨w.heap.size + 1, 1, none⟩ = some (.int .u8 m1) ∧ w'.cell? ⟨w.heap.size + 1, 2, none⟩ = some (.int .u8 m2) ∧ w'.cell? ⟨w.heap.size + 1, 3, none⟩ = some (.int .u8 m3) ∧ w'.cell? ⟨w.heap.size + 1, 4, none⟩ = some (.int .u8 m4) ∧ w'.cell? ⟨w.heap.size + 1, 5, none⟩ = some (.int .u8 m5) ∧ w'.cell? ⟨w.heap.size + 1, 6, none⟩ = some (.int .u8 m6) ∧ w'.cell? ⟨w.heap.size + 1, 7, none⟩ = some (.int .u8 m7)) ∧ (w'.cell? ⟨w.heap.size + 1 + 1, 0, none⟩ = some (.int .u8 o0) ∧ w'.cell? ⟨w.heap.size + 1 + 1, 1, none⟩ = some (.int .u8 o1) ∧ w'.cell? ⟨w.heap.size + 1 + 1, 2, none⟩ = some (.int .u8 o2) ∧ w'.cell? ⟨w.heap.size + 1 + 1, 3, none⟩ = some (.int .u8 o3) ∧ w'.cell? ⟨w.heap.size + 1 + 1, 4, none⟩ = some (.int .u8 o4) ∧ w'.cell? ⟨w.heap.size + 1 + 1, 5, none⟩ = some (.int .u8 o5) ∧ w'.cell? ⟨w.heap.size + 1 + 1, 6, none⟩ = some (.int .u8 o6) ∧ w'.cell? ⟨w.heap.size + 1 + 1, 7, none⟩ = some (.int .u8 o7)))
    ((refine SO8.out _ ?_; first | assumption | exact hT6.drew))
    (first
      | (have _ := hT7; go_at_call 29; refine (R4.out _ (by exact hraw8.out.below hT7)).mono ?_; rintro e q8 ⟨rfl, hQ⟩; have hT8 : Below W8.heap.size W8 q8 := hT7.trans (hQ.mono hT7.size); clear hQ)
      | (go_at_call 28; refine (V4.out _ (by exact (hraw8.out.below hT6).drew)).mono ?_; rintro e q7 ⟨rfl, hQ⟩; have hT7 : Below W8.heap.size W8 q7 := hT6.drew.trans (hQ.mono (by simp; exact hT6.size)); clear hQ)
      | (go_at_call 25; refine (awake5 _).mono ?_; rintro e q9 ⟨rfl, rfl⟩))
  go_wp2
  go_ret
  exact ⟨rfl, hVw.trans (hT8.mono hVw.size)⟩

theorem verifies_walk (x : List Int) (lv lf : Int) (m ot raw : List Int) (rv : Value) (ati byi : Int) (w : World) (hx : IsN x) (hlv : -9223372036854775808 ≤ lv ∧ lv ≤ 9223372036854775807) (_hlf : -9223372036854775808 ≤ lf ∧ lf ≤ 9223372036854775807) (hm : IsN m) (ho : IsN ot) (hraw : Bs w rv raw) (_ha : -9223372036854775808 ≤ ati ∧ ati ≤ 9223372036854775807) (hby : 0 ≤ byi ∧ byi < 256) :
    Calls Try.prog 4 #[nv x, .int .i64 lv, .int .i64 lf, nv m, nv ot, rv, .int .i64 ati, .int .u8 byi] w fun e w' => e = .returned (.bool true) ∧ Below w.heap.size w w' := by
  rcases (show IntKind.u64.wrap lv % 2 = 0 ∨ IntKind.u64.wrap lv % 2 = 1 by omega) with h | h
  · exact verifies1 x m ot raw lv lf ati byi rv w hx hm ho hraw hlv hby h
  · exact verifies2 x m ot raw lv lf ati byi rv w hx hm ho hraw hlv hby h
end Go.Proofs.Ytilhceihelcdgaa
