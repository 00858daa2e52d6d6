/-
  The walk of the law that Verify accepts what Sign makes.
-/
import Derived.Test.YtilhceihelcdgaaK21
import Derived.Test.YtilhceihelcdgaaK15
namespace Go.Proofs.Ytilhceihelcdgaa
open Go.RowKit

set_option maxRecDepth 100000 in
set_option maxHeartbeats 16000000 in
theorem accepts1 (x : List Int) (lv lf : Int) (m : List Int) (w : World) (hx : IsN x) (hm : IsN m) (hpar : IntKind.u64.wrap lv % 2 = 0) :
    Calls Try.prog 7 #[nv x, .int .i64 lv, .int .i64 lf, nv m] w fun e w' => e = .returned (.bool true) ∧ Below w.heap.size w w' := by
  have HX := Lib.hid hx
  have HMN := Lib.hid hm
  have hUl := wrap_u64_bd lv
  have hUf := wrap_u64_bd lf
  have hpar2 : (IntKind.u64.wrap lv).tmod 2 = 0 := by rw [Int.tmod_eq_emod_of_nonneg hUl.1]; exact hpar
  obtain ⟨q, hq, hq1⟩ := rem_bd (IntKind.u64.wrap lf) 32 (by omega)
  have eq0 : ((32 : Nat) : Int) = 32 := rfl
  rw [eq0] at hq
  have hcap : (q : Int) < capOf 1 := by rw [show capOf 1 = 32 by simp [capOf]]; omega
  have MS := Lib.hid (fun w => msign_yes x m 1 q w hx hm (by omega) ⟨by omega, hcap⟩)
  have hqn : ((q : Int)).toNat = q := by omega
  rw [hqn] at MS
  have hV1 := mver_msig x 1 q m (by omega) hcap hm
  have hsl := msig_len x 1 q m (by omega)
  have HSB := Lib.hid (msig_byt x 1 q m)
  have hlf := msig_leaf x 1 q m (by omega)
  have PA := Lib.hid (fun w => mpublic_any x 1 w hx ⟨by omega, by omega⟩)
  have PBN := Lib.hid (mpub_isN x 1)
  generalize msig x 1 q m = s at *
  have hsl2 : s.length = 186 := by simp [sizeOf] at hsl; omega
  generalize mpub x 1 = pp at *
  obtain ⟨p0, p1, p2, p3, p4, p5, p6, p7, rfl, _⟩ := PBN.out.cases
  obtain ⟨x0, x1, x2, x3, x4, x5, x6, x7, rfl, _⟩ := hx.cases
  obtain ⟨m0, m1, m2, m3, m4, m5, m6, m7, rfl, _⟩ := hm.cases
  have hV2 : mver [p0, p1, p2, p3, p4, p5, p6, p7] 2 [m0, m1, m2, m3, m4, m5, m6, m7] s = false := mver_no (fun e => by have := e.2.1; rw [hsl2] at this; simp [sizeOf] at this)
  have VF := Lib.hid (fun v w (h : Bs w v s) => verify_any [p0, p1, p2, p3, p4, p5, p6, p7] [m0, m1, m2, m3, m4, m5, m6, m7] s 1 v w PBN.out HMN.out h ⟨by omega, by omega⟩)
  have VF2 := Lib.hid (fun v w (h : Bs w v s) => verify_any [p0, p1, p2, p3, p4, p5, p6, p7] [m0, m1, m2, m3, m4, m5, m6, m7] s 2 v w PBN.out HMN.out h ⟨by omega, by omega⟩)
  rw [hV1] at VF
  rw [hV2] at VF2
  have LF := Lib.hid (fun v w (h : Bs w v s) => leaf_yes s v w h (by omega))
  rw [hlf] at LF
  have C1 := Lib.hid (fun w => rcapacity_any 1 w (by omega) (by omega))
  rw [show capOf 1 = 32 by simp [capOf]] at C1
  have SZ := Lib.hid (fun w => size_any 1 w (by omega) (by omega))
  rw [show sizeOf 1 = 186 by simp [sizeOf]] at SZ
  have hsz : ((s.length : Int) == 186) = true := by rw [hsl2]; rfl
  have HSL := Lib.hid hsl2
  have hq2 : (IntKind.u64.wrap lf).tmod 32 = (q : Int) := by rw [Int.tmod_eq_emod_of_nonneg hUf.1]; exact hq
  have hwq : IntKind.i64.wrap (q : Int) = (q : Int) := by rw [IntKind.wrap_i64]; omega
  have hw32 : IntKind.u64.wrap 32 = 32 := by rw [IntKind.wrap_u64]; rfl
  clear hx hm hV1 hV2 hsl hlf hqn hsl2 hcap
  go_enter Try.func7, Try.ntmps7
  go_wp2_with (first
    | (refine wpList_box_name rfl (.tmp 0) rfl [x0, x1, x2, x3, x4, x5, x6, x7] rfl ?_; intro w1 hX1 hB1 hs1)
    | (refine wpList_box_name rfl (.tmp 3) rfl [m0, m1, m2, m3, m4, m5, m6, m7] rfl ?_; intro w2 hM2 hB2 hs2; refine hold ?_))
  refine Lib.hid ?_
  rw [hs1] at hM2
  have hX2 := hX1.below hB2 (by omega)
  have hV2 := hB1.trans (hB2.mono (by omega))
  clear hX1 hB1 hB2 hs1 hs2
  go_upto_region 5 with (first
    | (refine wpList_load_name _ rfl (.tmp 4) rfl w.heap.size rfl _ _ hX2 HX.out.1 ?_)
    | (refine wpList_load_name _ rfl (.tmp 7) rfl (w.heap.size + 1) rfl _ _ hM2 HMN.out.1 ?_)
    | (go_at_call 22; refine (C1.out _).mono ?_; rintro e w3 ⟨rfl, rfl⟩)
    | (go_at_call 30; refine (MS.out _).mono ?_; rintro e w3 ⟨v3, rfl, hS3, hB3⟩; obtain ⟨b3, c3, rfl, hb3, hl3⟩ := World.ownsRow.form hS3 (by rw [HSL.out]; omega); have hSb := hS3.bs (by rw [HSL.out]; omega) HSB.out)
    | (go_at_call 20; refine (LF.out _ _ hSb).mono ?_; rintro e w4 ⟨rfl, rfl⟩))
  have hX3 := hX2.below hB3 hX2.lt
  have hM3 := hM2.below hB3 hM2.lt
  have hV3 := hV2.trans (hB3.mono hV2.size)
  have HSb := Lib.hid hSb
  clear hX2 hM2 hB3 hS3 hSb
  generalize w3 = W at *
  have SO : Hid (∀ w' : World, Below W.heap.size W w' → (w'.cell? ⟨w.heap.size, 0, none⟩ = some (.int .u8 x0) ∧ w'.cell? ⟨w.heap.size, 1, none⟩ = some (.int .u8 x1) ∧ w'.cell? ⟨w.heap.size, 2, none⟩ = some (.int .u8 x2) ∧ w'.cell? ⟨w.heap.size, 3, none⟩ = some (.int .u8 x3) ∧ w'.cell? ⟨w.heap.size, 4, none⟩ = some (.int .u8 x4) ∧ w'.cell? ⟨w.heap.size, 5, none⟩ = some (.int .u8 x5) ∧ w'.cell? ⟨w.heap.size, 6, none⟩ = some (.int .u8 x6) ∧ w'.cell? ⟨w.heap.size, 7, none⟩ = some (.int .u8 x7)) ∧ (w'.cell? ⟨w.heap.size + 1, 0, none⟩ = some (.int .u8 m0) ∧ w'.cell? ⟨w.heap.size + 1, 1, none⟩ = some (.int .u8 m1) ∧ w'.cell? ⟨w.heap.size + 1, 2, none⟩ = some (.int .u8 m2) ∧ w'.cell? ⟨w.heap.size + 1, 3, none⟩ = some (.int .u8 m3) ∧ w'.cell? ⟨w.heap.size + 1, 4, none⟩ = some (.int .u8 m4) ∧ w'.cell? ⟨w.heap.size + 1, 5, none⟩ = some (.int .u8 m5) ∧ w'.cell? ⟨w.heap.size + 1, 6, none⟩ = some (.int .u8 m6) ∧ w'.cell? ⟨w.heap.size + 1, 7, none⟩ = some (.int .u8 m7))) := fun w' h =>
    ⟨⟨(hX3.below h hX3.lt).cell 0, (hX3.below h hX3.lt).cell 1, (hX3.below h hX3.lt).cell 2, (hX3.below h hX3.lt).cell 3, (hX3.below h hX3.lt).cell 4, (hX3.below h hX3.lt).cell 5, (hX3.below h hX3.lt).cell 6, (hX3.below h hX3.lt).cell 7⟩, (hM3.below h hM3.lt).cell 0, (hM3.below h hM3.lt).cell 1, (hM3.below h hM3.lt).cell 2, (hM3.below h hM3.lt).cell 3, (hM3.below h hM3.lt).cell 4, (hM3.below h hM3.lt).cell 5, (hM3.below h hM3.lt).cell 6, (hM3.below h hM3.lt).cell 7⟩
  clear hX3 hM3
  go_region_held3 (fun w' => (w'.cell? ⟨w.heap.size, 0, none⟩ = some (.int .u8 x0) ∧ w'.cell? ⟨w.heap.size, 1, none⟩ = some (.int .u8 x1) ∧ w'.cell? ⟨w.heap.size, 2, none⟩ = some (.int .u8 x2) ∧ w'.cell? ⟨w.heap.size, 3, none⟩ = some (.int .u8 x3) ∧ w'.cell? ⟨w.heap.size, 4, none⟩ = some (.int .u8 x4) ∧ w'.cell? ⟨w.heap.size, 5, none⟩ = some (.int .u8 x5) ∧ w'.cell? ⟨w.heap.size, 6, none⟩ = some (.int .u8 x6) ∧ w'.cell? ⟨w.heap.size, 7, none⟩ = some (.int .u8 x7)) ∧ (w'.cell? ⟨w.heap.size + 1, 0, none⟩ = some (.int .u8 m0) ∧ w'.cell? ⟨w.heap.size + 1, 1, none⟩ = some (.int .u8 m1) ∧ w'.cell? ⟨w.heap.size + 1, 2, none⟩ = some (.int .u8 m2) ∧ w'.cell? ⟨w.heap.size + 1, 3, none⟩ = some (.int .u8 m3) ∧ w'.cell? ⟨w.heap.size + 1, 4, none⟩ = some (.int .u8 m4) ∧ w'.cell? ⟨w.heap.size + 1, 5, none⟩ = some (.int .u8 m5) ∧ w'.cell? ⟨w.heap.size + 1, 6, none⟩ = some (.int .u8 m6) ∧ w'.cell? ⟨w.heap.size + 1, 7, none⟩ = some (.int .u8 m7)))
    ((refine SO.out _ ?_; first | assumption | exact (Below.refl _ _).drew))
    (first
      | (go_at_call 23; refine (SZ.out _).mono ?_; rintro e w5 ⟨rfl, rfl⟩)
      | (have _ := hT3; go_at_call 28; refine (VF2.out _ _ (HSb.out.below hT3)).mono ?_; rintro e q4 ⟨rfl, hQ⟩; have hT4 : Below W.heap.size W q4 := hT3.trans (hQ.mono hT3.size); clear hQ)
      | (have _ := hT2; go_at_call 31; refine (PA.out _).mono ?_; rintro e q3 ⟨rfl, hQ⟩; have hT3 : Below W.heap.size W q3 := hT2.trans (hQ.mono hT2.size); clear hQ)
      | (have _ := hT1; go_at_call 28; refine (VF.out _ _ (HSb.out.below hT1)).mono ?_; rintro e q2 ⟨rfl, hQ⟩; have hT2 : Below W.heap.size W q2 := hT1.trans (hQ.mono hT1.size); clear hQ)
      | (go_at_call 31; refine (PA.out _).mono ?_; rintro e q1 ⟨rfl, hQ⟩; have hT1 : Below W.heap.size W q1 := (Below.refl _ _).drew.trans (hQ.mono (by first | omega | (simp; omega) | (simp; done))); clear hQ)
      | (go_at_call 25; refine (awake5 _).mono ?_; rintro e w7 ⟨rfl, rfl⟩))
  all_goals
    go_wp2
    go_ret
    exact ⟨rfl, hV3.trans (hT4.mono hV3.size)⟩

set_option maxRecDepth 100000 in
set_option maxHeartbeats 16000000 in
theorem accepts2 (x : List Int) (lv lf : Int) (m : List Int) (w : World) (hx : IsN x) (hm : IsN m) (hpar : IntKind.u64.wrap lv % 2 = 1) :
    Calls Try.prog 7 #[nv x, .int .i64 lv, .int .i64 lf, nv m] w fun e w' => e = .returned (.bool true) ∧ Below w.heap.size w w' := by
  have HX := Lib.hid hx
  have HMN := Lib.hid hm
  have hUl := wrap_u64_bd lv
  have hUf := wrap_u64_bd lf
  have hpar2 : (IntKind.u64.wrap lv).tmod 2 = 1 := by rw [Int.tmod_eq_emod_of_nonneg hUl.1]; exact hpar
  obtain ⟨q, hq, hq1⟩ := rem_bd (IntKind.u64.wrap lf) 1024 (by omega)
  have eq0 : ((1024 : Nat) : Int) = 1024 := rfl
  rw [eq0] at hq
  have hcap : (q : Int) < capOf 2 := by rw [show capOf 2 = 1024 by simp [capOf]]; omega
  have MS := Lib.hid (fun w => msign_yes x m 2 q w hx hm (by omega) ⟨by omega, hcap⟩)
  have hqn : ((q : Int)).toNat = q := by omega
  rw [hqn] at MS
  have hV1 := mver_msig x 2 q m (by omega) hcap hm
  have hsl := msig_len x 2 q m (by omega)
  have HSB := Lib.hid (msig_byt x 2 q m)
  have hlf := msig_leaf x 2 q m (by omega)
  have PA := Lib.hid (fun w => mpublic_any x 2 w hx ⟨by omega, by omega⟩)
  have PBN := Lib.hid (mpub_isN x 2)
  generalize msig x 2 q m = s at *
  have hsl2 : s.length = 370 := by simp [sizeOf] at hsl; omega
  generalize mpub x 2 = pp at *
  obtain ⟨p0, p1, p2, p3, p4, p5, p6, p7, rfl, _⟩ := PBN.out.cases
  obtain ⟨x0, x1, x2, x3, x4, x5, x6, x7, rfl, _⟩ := hx.cases
  obtain ⟨m0, m1, m2, m3, m4, m5, m6, m7, rfl, _⟩ := hm.cases
  have hV2 : mver [p0, p1, p2, p3, p4, p5, p6, p7] 1 [m0, m1, m2, m3, m4, m5, m6, m7] s = false := mver_no (fun e => by have := e.2.1; rw [hsl2] at this; simp [sizeOf] at this)
  have VF := Lib.hid (fun v w (h : Bs w v s) => verify_any [p0, p1, p2, p3, p4, p5, p6, p7] [m0, m1, m2, m3, m4, m5, m6, m7] s 2 v w PBN.out HMN.out h ⟨by omega, by omega⟩)
  have VF2 := Lib.hid (fun v w (h : Bs w v s) => verify_any [p0, p1, p2, p3, p4, p5, p6, p7] [m0, m1, m2, m3, m4, m5, m6, m7] s 1 v w PBN.out HMN.out h ⟨by omega, by omega⟩)
  rw [hV1] at VF
  rw [hV2] at VF2
  have LF := Lib.hid (fun v w (h : Bs w v s) => leaf_yes s v w h (by omega))
  rw [hlf] at LF
  have C1 := Lib.hid (fun w => rcapacity_any 2 w (by omega) (by omega))
  rw [show capOf 2 = 1024 by simp [capOf]] at C1
  have SZ := Lib.hid (fun w => size_any 2 w (by omega) (by omega))
  rw [show sizeOf 2 = 370 by simp [sizeOf]] at SZ
  have hsz : ((s.length : Int) == 370) = true := by rw [hsl2]; rfl
  have HSL := Lib.hid hsl2
  have hq2 : (IntKind.u64.wrap lf).tmod 1024 = (q : Int) := by rw [Int.tmod_eq_emod_of_nonneg hUf.1]; exact hq
  have hwq : IntKind.i64.wrap (q : Int) = (q : Int) := by rw [IntKind.wrap_i64]; omega
  have hw32 : IntKind.u64.wrap 1024 = 1024 := by rw [IntKind.wrap_u64]; rfl
  clear hx hm hV1 hV2 hsl hlf hqn hsl2 hcap
  go_enter Try.func7, Try.ntmps7
  go_wp2_with (first
    | (refine wpList_box_name rfl (.tmp 0) rfl [x0, x1, x2, x3, x4, x5, x6, x7] rfl ?_; intro w1 hX1 hB1 hs1)
    | (refine wpList_box_name rfl (.tmp 3) rfl [m0, m1, m2, m3, m4, m5, m6, m7] rfl ?_; intro w2 hM2 hB2 hs2; refine hold ?_))
  refine Lib.hid ?_
  rw [hs1] at hM2
  have hX2 := hX1.below hB2 (by omega)
  have hV2 := hB1.trans (hB2.mono (by omega))
  clear hX1 hB1 hB2 hs1 hs2
  go_upto_region 5 with (first
    | (refine wpList_load_name _ rfl (.tmp 4) rfl w.heap.size rfl _ _ hX2 HX.out.1 ?_)
    | (refine wpList_load_name _ rfl (.tmp 7) rfl (w.heap.size + 1) rfl _ _ hM2 HMN.out.1 ?_)
    | (go_at_call 22; refine (C1.out _).mono ?_; rintro e w3 ⟨rfl, rfl⟩)
    | (go_at_call 30; refine (MS.out _).mono ?_; rintro e w3 ⟨v3, rfl, hS3, hB3⟩; obtain ⟨b3, c3, rfl, hb3, hl3⟩ := World.ownsRow.form hS3 (by rw [HSL.out]; omega); have hSb := hS3.bs (by rw [HSL.out]; omega) HSB.out)
    | (go_at_call 20; refine (LF.out _ _ hSb).mono ?_; rintro e w4 ⟨rfl, rfl⟩))
  have hX3 := hX2.below hB3 hX2.lt
  have hM3 := hM2.below hB3 hM2.lt
  have hV3 := hV2.trans (hB3.mono hV2.size)
  have HSb := Lib.hid hSb
  clear hX2 hM2 hB3 hS3 hSb
  generalize w3 = W at *
  have SO : Hid (∀ w' : World, Below W.heap.size W w' → (w'.cell? ⟨w.heap.size, 0, none⟩ = some (.int .u8 x0) ∧ w'.cell? ⟨w.heap.size, 1, none⟩ = some (.int .u8 x1) ∧ w'.cell? ⟨w.heap.size, 2, none⟩ = some (.int .u8 x2) ∧ w'.cell? ⟨w.heap.size, 3, none⟩ = some (.int .u8 x3) ∧ w'.cell? ⟨w.heap.size, 4, none⟩ = some (.int .u8 x4) ∧ w'.cell? ⟨w.heap.size, 5, none⟩ = some (.int .u8 x5) ∧ w'.cell? ⟨w.heap.size, 6, none⟩ = some (.int .u8 x6) ∧ w'.cell? ⟨w.heap.size, 7, none⟩ = some (.int .u8 x7)) ∧ (w'.cell? ⟨w.heap.size + 1, 0, none⟩ = some (.int .u8 m0) ∧ w'.cell? ⟨w.heap.size + 1, 1, none⟩ = some (.int .u8 m1) ∧ w'.cell? ⟨w.heap.size + 1, 2, none⟩ = some (.int .u8 m2) ∧ w'.cell? ⟨w.heap.size + 1, 3, none⟩ = some (.int .u8 m3) ∧ w'.cell? ⟨w.heap.size + 1, 4, none⟩ = some (.int .u8 m4) ∧ w'.cell? ⟨w.heap.size + 1, 5, none⟩ = some (.int .u8 m5) ∧ w'.cell? ⟨w.heap.size + 1, 6, none⟩ = some (.int .u8 m6) ∧ w'.cell? ⟨w.heap.size + 1, 7, none⟩ = some (.int .u8 m7))) := fun w' h =>
    ⟨⟨(hX3.below h hX3.lt).cell 0, (hX3.below h hX3.lt).cell 1, (hX3.below h hX3.lt).cell 2, (hX3.below h hX3.lt).cell 3, (hX3.below h hX3.lt).cell 4, (hX3.below h hX3.lt).cell 5, (hX3.below h hX3.lt).cell 6, (hX3.below h hX3.lt).cell 7⟩, (hM3.below h hM3.lt).cell 0, (hM3.below h hM3.lt).cell 1, (hM3.below h hM3.lt).cell 2, (hM3.below h hM3.lt).cell 3, (hM3.below h hM3.lt).cell 4, (hM3.below h hM3.lt).cell 5, (hM3.below h hM3.lt).cell 6, (hM3.below h hM3.lt).cell 7⟩
  clear hX3 hM3
  go_region_held3 (fun w' => (w'.cell? ⟨w.heap.size, 0, none⟩ = some (.int .u8 x0) ∧ w'.cell? ⟨w.heap.size, 1, none⟩ = some (.int .u8 x1) ∧ w'.cell? ⟨w.heap.size, 2, none⟩ = some (.int .u8 x2) ∧ w'.cell? ⟨w.heap.size, 3, none⟩ = some (.int .u8 x3) ∧ w'.cell? ⟨w.heap.size, 4, none⟩ = some (.int .u8 x4) ∧ w'.cell? ⟨w.heap.size, 5, none⟩ = some (.int .u8 x5) ∧ w'.cell? ⟨w.heap.size, 6, none⟩ = some (.int .u8 x6) ∧ w'.cell? ⟨w.heap.size, 7, none⟩ = some (.int .u8 x7)) ∧ (w'.cell? ⟨w.heap.size + 1, 0, none⟩ = some (.int .u8 m0) ∧ w'.cell? ⟨w.heap.size + 1, 1, none⟩ = some (.int .u8 m1) ∧ w'.cell? ⟨w.heap.size + 1, 2, none⟩ = some (.int .u8 m2) ∧ w'.cell? ⟨w.heap.size + 1, 3, none⟩ = some (.int .u8 m3) ∧ w'.cell? ⟨w.heap.size + 1, 4, none⟩ = some (.int .u8 m4) ∧ w'.cell? ⟨w.heap.size + 1, 5, none⟩ = some (.int .u8 m5) ∧ w'.cell? ⟨w.heap.size + 1, 6, none⟩ = some (.int .u8 m6) ∧ w'.cell? ⟨w.heap.size + 1, 7, none⟩ = some (.int .u8 m7)))
    ((refine SO.out _ ?_; first | assumption | exact (Below.refl _ _).drew))
    (first
      | (go_at_call 23; refine (SZ.out _).mono ?_; rintro e w5 ⟨rfl, rfl⟩)
      | (have _ := hT3; go_at_call 28; refine (VF2.out _ _ (HSb.out.below hT3)).mono ?_; rintro e q4 ⟨rfl, hQ⟩; have hT4 : Below W.heap.size W q4 := hT3.trans (hQ.mono hT3.size); clear hQ)
      | (have _ := hT2; go_at_call 31; refine (PA.out _).mono ?_; rintro e q3 ⟨rfl, hQ⟩; have hT3 : Below W.heap.size W q3 := hT2.trans (hQ.mono hT2.size); clear hQ)
      | (have _ := hT1; go_at_call 28; refine (VF.out _ _ (HSb.out.below hT1)).mono ?_; rintro e q2 ⟨rfl, hQ⟩; have hT2 : Below W.heap.size W q2 := hT1.trans (hQ.mono hT1.size); clear hQ)
      | (go_at_call 31; refine (PA.out _).mono ?_; rintro e q1 ⟨rfl, hQ⟩; have hT1 : Below W.heap.size W q1 := (Below.refl _ _).drew.trans (hQ.mono (by first | omega | (simp; omega) | (simp; done))); clear hQ)
      | (go_at_call 25; refine (awake5 _).mono ?_; rintro e w7 ⟨rfl, rfl⟩))
  all_goals
    go_wp2
    go_ret
    exact ⟨rfl, hV3.trans (hT4.mono hV3.size)⟩

theorem accepts_walk (x : List Int) (lv lf : Int) (m : List Int) (w : World) (hx : IsN x) (_hlv : -9223372036854775808 ≤ lv ∧ lv ≤ 9223372036854775807) (_hlf : -9223372036854775808 ≤ lf ∧ lf ≤ 9223372036854775807) (hm : IsN m) :
    Calls Try.prog 7 #[nv x, .int .i64 lv, .int .i64 lf, nv m] w fun e w' => e = .returned (.bool true) ∧ Below w.heap.size w w' := by
  rcases (show IntKind.u64.wrap lv % 2 = 0 ∨ IntKind.u64.wrap lv % 2 = 1 by omega) with h | h
  · exact accepts1 x lv lf m w hx hm h
  · exact accepts2 x lv lf m w hx hm h
end Go.Proofs.Ytilhceihelcdgaa
