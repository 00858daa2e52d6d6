/-
  The walk of the law that signatures by different leaves are different.
-/
import Derived.Test.YtilhceihelcdgaaK22
namespace Go.Proofs.Ytilhceihelcdgaa
open Go.RowKit

theorem strOfNums_inj {a b : List Int} (ha : Byt a) (hb : Byt b) (h : (strOfNums a).toList = (strOfNums b).toList) : a = b := by
  have h2 : (strOfNums a).data.toList = (strOfNums b).data.toList := by
    rw [ByteArray.toList_eq, ByteArray.toList_eq] at h
    exact h
  rw [strOfNums_data, strOfNums_data] at h2
  clear h
  induction a generalizing b with
  | nil => cases b with
    | nil => rfl
    | cons y b => simp at h2
  | cons x a ih => cases b with
    | nil => simp at h2
    | cons y b =>
      simp only [List.map_cons, List.cons.injEq] at h2
      have hx := ha x (List.mem_cons_self ..)
      have hy := hb y (List.mem_cons_self ..)
      have e := congrArg UInt8.toNat h2.1
      simp only [UInt8.toNat_ofNat'] at e
      have : x = y := by omega
      rw [this, ih (fun z hz => ha z (List.mem_cons_of_mem _ hz)) (fun z hz => hb z (List.mem_cons_of_mem _ hz)) h2.2]

set_option maxRecDepth 100000 in
set_option maxHeartbeats 16000000 in
theorem apart_walk (x : List Int) (la lb : Int) (m : List Int) (w : World) (hx : IsN x) (_ha : -9223372036854775808 ≤ la ∧ la ≤ 9223372036854775807) (_hb : -9223372036854775808 ≤ lb ∧ lb ≤ 9223372036854775807) (hm : IsN m) :
    Calls Try.prog 8 #[nv x, .int .i64 la, .int .i64 lb, nv m] w fun e w' => e = .returned (.bool true) ∧ Below w.heap.size w w' := by
  have HX := Lib.hid hx
  have HMN := Lib.hid hm
  have hUa := wrap_u64_bd la
  have hUb := wrap_u64_bd lb
  obtain ⟨q, hq, hq1⟩ := rem_bd (IntKind.u64.wrap la) 32 (by omega)
  obtain ⟨r, hr, hr1⟩ := rem_bd (IntKind.u64.wrap lb) 32 (by omega)
  have eq0 : ((32 : Nat) : Int) = 32 := rfl
  rw [eq0] at hq hr
  have hc1 : (q : Int) < capOf 1 := by rw [show capOf 1 = 32 by simp [capOf]]; omega
  have hc2 : (r : Int) < capOf 1 := by rw [show capOf 1 = 32 by simp [capOf]]; omega
  have MS := Lib.hid (fun w => msign_yes x m 1 q w hx hm (by omega) ⟨by omega, hc1⟩)
  have MT := Lib.hid (fun w => msign_yes x m 1 r w hx hm (by omega) ⟨by omega, hc2⟩)
  have hqn : ((q : Int)).toNat = q := by omega
  have hrn : ((r : Int)).toNat = r := by omega
  rw [hqn] at MS
  rw [hrn] at MT
  have hV1 := mver_msig x 1 q m (by omega) hc1 hm
  have hV2 := mver_msig x 1 r m (by omega) hc2 hm
  have hsl := msig_len x 1 q m (by omega)
  have htl := msig_len x 1 r m (by omega)
  have hsb := msig_byt x 1 q m
  have htb := msig_byt x 1 r m
  have hlf := msig_leaf x 1 q m (by omega)
  have hlg := msig_leaf x 1 r m (by omega)
  have hstr : ((strOfNums (msig x 1 q m)).toList == (strOfNums (msig x 1 r m)).toList) = ((q : Int) == (r : Int)) := by
    rw [Bool.eq_iff_iff, beq_iff_eq, beq_iff_eq]
    constructor
    · intro h
      have := strOfNums_inj hsb htb h
      rw [← hlf, ← hlg, this]
    · intro h
      have : q = r := by omega
      rw [this]
  have PA := Lib.hid (fun w => mpublic_any x 1 w hx ⟨by omega, by omega⟩)
  have PBN := Lib.hid (mpub_isN x 1)
  generalize msig x 1 q m = s at *
  generalize msig x 1 r m = t at *
  have hsl2 : s.length = 186 := by simp [sizeOf] at hsl; omega
  have htl2 : t.length = 186 := by simp [sizeOf] at htl; omega
  generalize mpub x 1 = pp at *
  obtain ⟨p0, p1, p2, p3, p4, p5, p6, p7, rfl, _⟩ := PBN.out.cases
  obtain ⟨x0, x1, x2, x3, x4, x5, x6, x7, rfl, _⟩ := hx.cases
  obtain ⟨m0, m1, m2, m3, m4, m5, m6, m7, rfl, _⟩ := hm.cases
  have VF := Lib.hid (fun v w (h : Bs w v s) => verify_any [p0, p1, p2, p3, p4, p5, p6, p7] [m0, m1, m2, m3, m4, m5, m6, m7] s 1 v w PBN.out HMN.out h ⟨by omega, by omega⟩)
  have VF2 := Lib.hid (fun v w (h : Bs w v t) => verify_any [p0, p1, p2, p3, p4, p5, p6, p7] [m0, m1, m2, m3, m4, m5, m6, m7] t 1 v w PBN.out HMN.out h ⟨by omega, by omega⟩)
  rw [hV1] at VF
  rw [hV2] at VF2
  have HSL := Lib.hid hsl2
  have HTL := Lib.hid htl2
  have HSB := Lib.hid hsb
  have HTB := Lib.hid htb
  have hq2 : (IntKind.u64.wrap la).tmod 32 = (q : Int) := by rw [Int.tmod_eq_emod_of_nonneg hUa.1]; exact hq
  have hr2 : (IntKind.u64.wrap lb).tmod 32 = (r : Int) := by rw [Int.tmod_eq_emod_of_nonneg hUb.1]; exact hr
  have hwq : IntKind.i64.wrap (q : Int) = (q : Int) := by rw [IntKind.wrap_i64]; omega
  have hwr : IntKind.i64.wrap (r : Int) = (r : Int) := by rw [IntKind.wrap_i64]; omega
  have HSTR := Lib.hid hstr
  clear hx hm hV1 hV2 hsl htl hlf hlg hqn hrn hsl2 htl2 hc1 hc2 hsb htb hstr
  go_enter Try.func8, Try.ntmps8
  go_wp2_with (first
    | (refine wpList_box_name rfl (.tmp 0) rfl [x0, x1, x2, x3, x4, x5, x6, x7] rfl ?_; intro w1 hX1 hB1 hs1)
    | (refine wpList_box_name rfl (.tmp 3) rfl [m0, m1, m2, m3, m4, m5, m6, m7] rfl ?_; intro w2 hM2 hB2 hs2; refine hold ?_))
  refine Lib.hid ?_
  rw [hs1] at hM2
  have hX2 := hX1.below hB2 (by omega)
  have hV2 := hB1.trans (hB2.mono (by omega))
  clear hX1 hB1 hB2 hs1 hs2
  go_upto_region 5 with (first
    | (refine wpList_load_name _ rfl (.tmp 4) rfl w.heap.size rfl _ _ hX4 HX.out.1 ?_)
    | (refine wpList_load_name _ rfl (.tmp 4) rfl w.heap.size rfl _ _ hX3 HX.out.1 ?_)
    | (refine wpList_load_name _ rfl (.tmp 7) rfl (w.heap.size + 1) rfl _ _ hM3 HMN.out.1 ?_)
    | (refine wpList_load_name _ rfl (.tmp 4) rfl w.heap.size rfl _ _ hX2 HX.out.1 ?_)
    | (refine wpList_load_name _ rfl (.tmp 7) rfl (w.heap.size + 1) rfl _ _ hM2 HMN.out.1 ?_)
    | (have _ := hX3; go_at_call 30; refine (MT.out _).mono ?_; rintro e w4 ⟨v4, rfl, hS4, hB4⟩; obtain ⟨b4, c4, rfl, hb4, hl4⟩ := World.ownsRow.form hS4 (by rw [HTL.out]; omega); have hTb := hS4.bs (by rw [HTL.out]; omega) HTB.out; have hX4 := hX3.below hB4 hX3.lt; have hM4 := hM3.below hB4 hM3.lt; have hSb4 := hSb.below hB4; have hV4 := hV3.trans (hB4.mono hV3.size))
    | (go_at_call 30; refine (MS.out _).mono ?_; rintro e w3 ⟨v3, rfl, hS3, hB3⟩; obtain ⟨b3, c3, rfl, hb3, hl3⟩ := World.ownsRow.form hS3 (by rw [HSL.out]; omega); have hSb := hS3.bs (by rw [HSL.out]; omega) HSB.out; have hX3 := hX2.below hB3 hX2.lt; have hM3 := hM2.below hB3 hM2.lt; have hV3 := hV2.trans (hB3.mono hV2.size))
    | (go_at_call 31; refine (PA.out _).mono ?_; rintro e w5 ⟨rfl, hB5⟩; have hM5 := hM4.below hB5 hM4.lt; have hSb5 := hSb4.below hB5; have hTb5 := hTb.below hB5; have hV5 := hV4.trans (hB5.mono hV4.size))
    | (refine wpList_store_name _ rfl (.tmp 13) (.tmp 37) rfl w5.heap.size rfl _ rfl _ _ (Blk.new w5 30 (bsv zeroN).toArray) rfl PBN.out.1 ?_; intro w6 hP6 hg6; have hU6 : Below w5.heap.size w5 w6 := ((Below.refl _ _).alloc (Nat.le_refl _) _).grown hg6 (by simp) (by intro j hj; cases hj; omega); have hM6 := hM5.below hU6 hM5.lt; have hSb6 := Lib.hid (hSb5.below hU6); have hTb6 := Lib.hid (hTb5.below hU6); have hV6 := hV5.trans (hU6.mono hV5.size)))
  clear hX2 hM2 hB3 hS3 hSb hX3 hM3 hV3 hB4 hS4 hTb hX4 hM4 hSb4 hV4 hB5 hM5 hSb5 hTb5 hV5 hU6 hg6
  generalize w6 = W at *
  have hstr := HSTR.out
  have e1 := hSb6.out.str
  have e2 := hTb6.out.str
  have cl : Hid (∀ v, Below W.heap.size W v → (v.cell? ⟨w5.heap.size, 0, none⟩ = some (.int .u8 p0) ∧ v.cell? ⟨w5.heap.size, 1, none⟩ = some (.int .u8 p1) ∧ v.cell? ⟨w5.heap.size, 2, none⟩ = some (.int .u8 p2) ∧ v.cell? ⟨w5.heap.size, 3, none⟩ = some (.int .u8 p3) ∧ v.cell? ⟨w5.heap.size, 4, none⟩ = some (.int .u8 p4) ∧ v.cell? ⟨w5.heap.size, 5, none⟩ = some (.int .u8 p5) ∧ v.cell? ⟨w5.heap.size, 6, none⟩ = some (.int .u8 p6) ∧ v.cell? ⟨w5.heap.size, 7, none⟩ = some (.int .u8 p7)) ∧ (v.cell? ⟨w.heap.size + 1, 0, none⟩ = some (.int .u8 m0) ∧ v.cell? ⟨w.heap.size + 1, 1, none⟩ = some (.int .u8 m1) ∧ v.cell? ⟨w.heap.size + 1, 2, none⟩ = some (.int .u8 m2) ∧ v.cell? ⟨w.heap.size + 1, 3, none⟩ = some (.int .u8 m3) ∧ v.cell? ⟨w.heap.size + 1, 4, none⟩ = some (.int .u8 m4) ∧ v.cell? ⟨w.heap.size + 1, 5, none⟩ = some (.int .u8 m5) ∧ v.cell? ⟨w.heap.size + 1, 6, none⟩ = some (.int .u8 m6) ∧ v.cell? ⟨w.heap.size + 1, 7, none⟩ = some (.int .u8 m7))) := fun v h =>
    ⟨⟨(hP6.below h hP6.lt).cell 0, (hP6.below h hP6.lt).cell 1, (hP6.below h hP6.lt).cell 2, (hP6.below h hP6.lt).cell 3, (hP6.below h hP6.lt).cell 4, (hP6.below h hP6.lt).cell 5, (hP6.below h hP6.lt).cell 6, (hP6.below h hP6.lt).cell 7⟩, ⟨(hM6.below h hM6.lt).cell 0, (hM6.below h hM6.lt).cell 1, (hM6.below h hM6.lt).cell 2, (hM6.below h hM6.lt).cell 3, (hM6.below h hM6.lt).cell 4, (hM6.below h hM6.lt).cell 5, (hM6.below h hM6.lt).cell 6, (hM6.below h hM6.lt).cell 7⟩⟩
  obtain ⟨⟨_, _, _, _, _, _, _, _⟩, _, _, _, _, _, _, _, _⟩ := cl.out W (Below.refl _ _)
  go_wp2_with (first
      | (have _ := hT1; go_at_call 28; refine (VF2.out _ _ (hTb6.out.below hT1)).mono ?_; rintro e q2 ⟨rfl, hQ⟩; have hT2 : Below W.heap.size W q2 := hT1.trans (hQ.mono hT1.size); clear hQ)
      | (go_at_call 28; refine (VF.out _ _ hSb6.out).mono ?_; rintro e q1 ⟨rfl, hQ⟩; have hT1 : Below W.heap.size W q1 := hQ; clear hQ; obtain ⟨⟨_, _, _, _, _, _, _, _⟩, _, _, _, _, _, _, _, _⟩ := cl.out q1 hT1)
      | (go_at_call 25; refine (awake5 _).mono ?_; rintro e w7 ⟨rfl, rfl⟩))
  all_goals
    go_wp2
    go_ret
    exact ⟨rfl, hV6.trans (hT2.mono hV6.size)⟩
end Go.Proofs.Ytilhceihelcdgaa
