/-
  The walk of the law on keys: what a key answers is what the functions answer.
-/
import Derived.Test.YtilhceihelcdgaaK25
namespace Go.Proofs.Ytilhceihelcdgaa
open Go.RowKit

set_option maxRecDepth 100000 in
set_option maxHeartbeats 16000000 in
theorem keys1 (x l m : List Int) (v : Value) (w : World) (hx : IsN x) (hl : Is w v l) (hm : IsN m) :
    Calls Try.prog 6 #[nv x, .int .i64 1, v, nv m] w fun e w' => e = .returned (.bool true) ∧ Below w.heap.size w w' := by
  have HX := Lib.hid hx
  have HMN := Lib.hid hm
  have HL := Lib.hid hl
  have HR : Hid (-9223372036854775808 ≤ (1 : Int) ∧ (1 : Int) ≤ 9223372036854775807) := ⟨by omega, by omega⟩
  obtain ⟨a, cap, rfl, hnc, hcm, _, hln, _, hc⟩ := id hl.1
  have HC := Lib.hid hc
  clear hc hl
  unfold maxLen at hcm
  have KP := Lib.hid (fun kv ob N w hK hN => Calls.lit8 (kpublic_u x 1 kv ob N w hx hK hN) (mpub_isN x 1).1)
  have PA := Lib.hid (fun w => Calls.lit8 (mpublic_any x 1 w hx HR.out) (mpub_isN x 1).1)
  have KS := Lib.hid (fun lk kv ob N w hK hN => ksign_u x m 1 lk kv ob N w hx hm hK hN)
  have SU := Lib.hid (fun lk w => sign_u x m 1 lk w hx hm HR.out)
  generalize mpub x 1 = pp at *
  obtain ⟨x0, x1, x2, x3, x4, x5, x6, x7, rfl, _⟩ := hx.cases
  obtain ⟨m0, m1, m2, m3, m4, m5, m6, m7, rfl, _⟩ := hm.cases
  clear hx hm
  have qE := run_eq_name8
  go_enter Try.func6, Try.ntmps6
  go_wp2_with (first
    | (refine wpList_box_name rfl (.tmp 0) rfl [x0, x1, x2, x3, x4, x5, x6, x7] rfl ?_; intro w1 hX1 hB1 hs1)
    | (refine wpList_box_name rfl (.tmp 3) rfl [m0, m1, m2, m3, m4, m5, m6, m7] rfl ?_; intro w2 hM2 hB2 hs2; refine hold ?_))
  refine Lib.hid ?_
  rw [hs1] at hM2
  have hX2 := hX1.below hB2 (by omega)
  have hV2 := hB1.trans (hB2.mono (by omega))
  clear hX1 hB1 hB2 hs1 hs2
  go_upto_region 2 with (first
    | (refine wpList_load_name _ rfl (.tmp 4) rfl w.heap.size rfl _ _ hX2 HX.out.1 ?_)
    | (go_at_call 32; refine (mnewkey_yes [x0, x1, x2, x3, x4, x5, x6, x7] 1 (fun _ => True) _ HX.out (.inl rfl)).mono ?_; rintro e w3 ⟨B, b, rfl, hK3, hT3, hB3, hb3, hne, hV⟩; have hKO : Hid (KOk w3 [x0, x1, x2, x3, x4, x5, x6, x7] 1 (.pointer (some ⟨B, 0, none⟩)) (some b) 0) := Lib.hid (Or.inl ⟨.inl rfl, B, b, rfl, rfl, hK3, hne, hT3⟩); have hobX : Hid (some w.heap.size ≠ some b) := Lib.hid (by have := hM2.lt; intro e; injection e; omega); have hobM : Hid (some (w.heap.size + 1) ≠ some b) := Lib.hid (by have := hM2.lt; intro e; injection e; omega); have hobW : Hid (∀ k, some b = some k → w.heap.size ≤ k) := Lib.hid (by have := hM2.lt; intro k e; injection e; omega); clear hK3 hT3 hB3 hb3 hne))
  have hX3 := hX2.below hV hX2.lt
  have hM3 := hM2.below hV hM2.lt
  have hV3 := hV2.trans (hV.mono hV2.size)
  clear hX2 hM2 hV2 hV
  generalize w3 = W at *
  have SO : Hid (∀ w' : World, W.grownBy w' (some b) → w'.cell? ⟨w.heap.size, 0, none⟩ = some (.int .u8 x0) ∧ w'.cell? ⟨w.heap.size, 1, none⟩ = some (.int .u8 x1) ∧ w'.cell? ⟨w.heap.size, 2, none⟩ = some (.int .u8 x2) ∧ w'.cell? ⟨w.heap.size, 3, none⟩ = some (.int .u8 x3) ∧ w'.cell? ⟨w.heap.size, 4, none⟩ = some (.int .u8 x4) ∧ w'.cell? ⟨w.heap.size, 5, none⟩ = some (.int .u8 x5) ∧ w'.cell? ⟨w.heap.size, 6, none⟩ = some (.int .u8 x6) ∧ w'.cell? ⟨w.heap.size, 7, none⟩ = some (.int .u8 x7)) := fun w' h => ⟨(hX3.grown h hobX.out).cell 0, (hX3.grown h hobX.out).cell 1, (hX3.grown h hobX.out).cell 2, (hX3.grown h hobX.out).cell 3, (hX3.grown h hobX.out).cell 4, (hX3.grown h hobX.out).cell 5, (hX3.grown h hobX.out).cell 6, (hX3.grown h hobX.out).cell 7⟩
  refine wp_region_held_drew (S := fun w' => w'.cell? ⟨w.heap.size, 0, none⟩ = some (.int .u8 x0) ∧ w'.cell? ⟨w.heap.size, 1, none⟩ = some (.int .u8 x1) ∧ w'.cell? ⟨w.heap.size, 2, none⟩ = some (.int .u8 x2) ∧ w'.cell? ⟨w.heap.size, 3, none⟩ = some (.int .u8 x3) ∧ w'.cell? ⟨w.heap.size, 4, none⟩ = some (.int .u8 x4) ∧ w'.cell? ⟨w.heap.size, 5, none⟩ = some (.int .u8 x5) ∧ w'.cell? ⟨w.heap.size, 6, none⟩ = some (.int .u8 x6) ∧ w'.cell? ⟨w.heap.size, 7, none⟩ = some (.int .u8 x7)) (by kernel_rfl) (SO.out _ (grown_of_below (Below.refl _ _).drew)) (fun hHeld => ?_)
  refine wpAnyH_take (i := 0) (v := (.pointer (some ⟨B, 0, none⟩))) rfl (by kernel_rfl) (by kernel_rfl) (by kernel_rfl) ?hq0 (Or.inl ⟨by rfl, ?hy0⟩) (by assumption) ?rest0
  case hy0 => (intro w' hSw; (try dsimp only at hSw); go_simp; try with_reducible rfl)
  case hq0 => exact fun _ _ _ h => h
  simp only [List.getElem_toArray, List.getElem_cons_zero, Act.put, List.setIfInBounds_toArray, List.set_cons_zero, List.set_cons_succ]
  refine wpAnyH_take (i := 1) (v := (.bool true)) rfl (by kernel_rfl) (by kernel_rfl) (by kernel_rfl) ?hq1 (Or.inl ⟨by rfl, ?hy1⟩) (by assumption) ?rest1
  case hy1 => (intro w' hSw; (try dsimp only at hSw); go_simp; try with_reducible rfl)
  case hq1 => exact fun _ _ _ h => h
  simp only [List.getElem_toArray, List.getElem_cons_zero, List.getElem_cons_succ, Act.put, List.setIfInBounds_toArray, List.set_cons_zero, List.set_cons_succ]
  refine wpAnyH_take (i := 2) (v := (.int .i64 1)) rfl (by kernel_rfl) (by kernel_rfl) (by kernel_rfl) ?hq2 (Or.inl ⟨by rfl, ?hy2⟩) (by assumption) ?rest2
  case hy2 => (intro w' hSw; (try dsimp only at hSw); go_simp; try with_reducible rfl)
  case hq2 => exact fun _ _ _ h => h
  simp only [List.getElem_toArray, List.getElem_cons_zero, List.getElem_cons_succ, Act.put, List.setIfInBounds_toArray, List.set_cons_zero, List.set_cons_succ]
  refine wpAnyH_take (i := 3) (v := (.bool true)) rfl (by kernel_rfl) (by kernel_rfl) (by kernel_rfl) ?hq3 (Or.inl ⟨by rfl, ?hy3⟩) (by assumption) ?rest3
  case hy3 => (intro w' hSw; (try dsimp only at hSw); go_simp; try with_reducible rfl)
  case hq3 => exact fun _ _ _ h => h
  simp only [List.getElem_toArray, List.getElem_cons_zero, List.getElem_cons_succ, Act.put, List.setIfInBounds_toArray, List.set_cons_zero, List.set_cons_succ]
  refine wpAnyH_take (i := 4) (v := (.bool true)) rfl (by kernel_rfl) (by kernel_rfl) (by kernel_rfl) ?hq4 (Or.inl ⟨by rfl, ?hy4⟩) (by assumption) ?rest4
  case hy4 => (intro w' hSw; (try dsimp only at hSw); go_simp; try with_reducible rfl)
  case hq4 => exact fun _ _ _ h => h
  simp only [List.getElem_toArray, List.getElem_cons_zero, List.getElem_cons_succ, Act.put, List.setIfInBounds_toArray, List.set_cons_zero, List.set_cons_succ]
  refine wpAnyH_take (i := 5) (v := undef) rfl (by kernel_rfl) (by kernel_rfl) (by kernel_rfl) ?hq5 (Or.inr ⟨by rfl, rfl⟩) (by assumption) ?rest5
  case hq5 => exact fun _ _ _ h => h
  simp only [List.getElem_toArray, List.getElem_cons_zero, List.getElem_cons_succ, Act.put, List.setIfInBounds_toArray, List.set_cons_zero, List.set_cons_succ]
  refine wpAnyH_take (i := 6) (v := undef) rfl (by kernel_rfl) (by kernel_rfl) (by kernel_rfl) ?hq6 (Or.inr ⟨by rfl, rfl⟩) (by assumption) ?rest6
  case hq6 => exact fun _ _ _ h => h
  simp only [List.getElem_toArray, List.getElem_cons_zero, List.getElem_cons_succ, Act.put, List.setIfInBounds_toArray, List.set_cons_zero, List.set_cons_succ]
  refine wpAnyH_take (i := 7) (v := (.bool true)) rfl (by kernel_rfl) (by kernel_rfl) (by kernel_rfl) ?hq7 (Or.inl ⟨by rfl, ?hy7⟩) (by assumption) ?rest7
  case hy7 => (intro w' hSw; (try dsimp only at hSw); go_simp; try with_reducible rfl)
  case hq7 => exact fun _ _ _ h => h
  simp only [List.getElem_toArray, List.getElem_cons_zero, List.getElem_cons_succ, Act.put, List.setIfInBounds_toArray, List.set_cons_zero, List.set_cons_succ]
  refine wpAnyH_take (i := 8) (v := (.bool false)) rfl (by kernel_rfl) (by kernel_rfl) (by kernel_rfl) ?hq8 (Or.inl ⟨by rfl, ?hy8⟩) (by assumption) ?rest8
  case hy8 => (intro w' hSw; (try dsimp only at hSw); go_simp; try with_reducible rfl)
  case hq8 => exact fun _ _ _ h => h
  simp only [List.getElem_toArray, List.getElem_cons_zero, List.getElem_cons_succ, Act.put, List.setIfInBounds_toArray, List.set_cons_zero, List.set_cons_succ]
  refine wpAnyH_take (i := 9) (v := (.bool false)) rfl (by kernel_rfl) (by kernel_rfl) (by kernel_rfl) ?hq9 (Or.inl ⟨by rfl, ?hy9⟩) (by assumption) ?rest9
  case hy9 => (intro w' hSw; (try dsimp only at hSw); go_simp; try with_reducible rfl)
  case hq9 => exact fun _ _ _ h => h
  simp only [List.getElem_toArray, List.getElem_cons_zero, List.getElem_cons_succ, Act.put, List.setIfInBounds_toArray, List.set_cons_zero, List.set_cons_succ]
  refine wpAnyH_take (i := 10) (v := (.pointer (some ⟨B, 0, none⟩))) rfl (by kernel_rfl) (by kernel_rfl) (by kernel_rfl) ?hq10 (Or.inl ⟨by rfl, ?hy10⟩) (by assumption) ?rest10
  case hy10 => (intro w' hSw; (try dsimp only at hSw); go_simp; try with_reducible rfl)
  case hq10 => exact fun _ _ _ h => h
  simp only [List.getElem_toArray, List.getElem_cons_zero, List.getElem_cons_succ, Act.put, List.setIfInBounds_toArray, List.set_cons_zero, List.set_cons_succ]
  refine wpAnyH_take (i := 12) (v := (.agg #[.int .u8 x0, .int .u8 x1, .int .u8 x2, .int .u8 x3, .int .u8 x4, .int .u8 x5, .int .u8 x6, .int .u8 x7])) rfl (by kernel_rfl) (by kernel_rfl) (by kernel_rfl) ?hq12 (Or.inl ⟨by rfl, ?hy12⟩) (by assumption) ?rest12
  case hy12 => (intro w' hSw; (try dsimp only at hSw); go_simp; try with_reducible rfl)
  case hq12 => exact fun _ _ _ h => h
  simp only [List.getElem_toArray, List.getElem_cons_zero, List.getElem_cons_succ, Act.put, List.setIfInBounds_toArray, List.set_cons_zero, List.set_cons_succ]
  refine wpAnyH_take (i := 13) (v := (.int .i64 1)) rfl (by kernel_rfl) (by kernel_rfl) (by kernel_rfl) ?hq13 (Or.inl ⟨by rfl, ?hy13⟩) (by assumption) ?rest13
  case hy13 => (intro w' hSw; (try dsimp only at hSw); go_simp; try with_reducible rfl)
  case hq13 => exact fun _ _ _ h => h
  simp only [List.getElem_toArray, List.getElem_cons_zero, List.getElem_cons_succ, Act.put, List.setIfInBounds_toArray, List.set_cons_zero, List.set_cons_succ]
  refine wpAnyH_ready (rs := [11]) (by kernel_rfl) (by simp) ?_
  refine AllReadyH.cons rfl (fun K hK => ?_) AllReadyH.nil
  go_simp
  go_at_call 33; refine (KP.out _ _ _ _ hKO.out.drew (by omega)).mono ?_; rintro e q1 ⟨p0, p1, p2, p3, p4, p5, p6, p7, rfl, HP1, hK1, hG1⟩; have hT1 : W.grownBy q1 (some b) := grown_trans (grown_of_below (Below.refl _ _).drew) hG1; have hKQ := Lib.hid hK1; clear hK1 hG1
  refine hK.out _ _ (SO.out _ hT1) (fun hHeld => ?_)
  clear hK K
  refine wpAnyH_ready (rs := [14]) (by kernel_rfl) (by simp) ?_
  refine AllReadyH.cons rfl (fun K hK => ?_) AllReadyH.nil
  go_simp
  go_at_call 31; refine (PA.out _).mono ?_; rintro e q2 ⟨r0, r1, r2, r3, r4, r5, r6, r7, rfl, HP2, hB2⟩; have hT2 : W.grownBy q2 (some b) := grown_trans hT1 (grown_of_below hB2); have hKQ2 := Lib.hid (hKQ.out.below hB2); clear hB2; have hpq := HP1.out.symm.trans HP2.out; simp only [List.cons.injEq, and_true] at hpq; obtain ⟨rfl, rfl, rfl, rfl, rfl, rfl, rfl, rfl⟩ := hpq
  refine hK.out _ _ (SO.out _ hT2) (fun hHeld => ?_)
  clear hK K
  refine wpAnyH_take (i := 15) (v := (.bool false)) rfl (by kernel_rfl) (by kernel_rfl) (by kernel_rfl) ?hq15 (Or.inl ⟨by rfl, ?hy15⟩) (by assumption) ?rest15
  case hy15 => (intro w' hSw; (try dsimp only at hSw); go_simp; try with_reducible rfl)
  case hq15 => exact fun _ _ _ h => h
  simp only [List.getElem_toArray, List.getElem_cons_zero, List.getElem_cons_succ, Act.put, List.setIfInBounds_toArray, List.set_cons_zero, List.set_cons_succ]
  refine wpAnyH_take (i := 16) (v := (.bool false)) rfl (by kernel_rfl) (by kernel_rfl) (by kernel_rfl) ?hq16 (Or.inl ⟨by rfl, ?hy16⟩) (by assumption) ?rest16
  case hy16 => (intro w' hSw; (try dsimp only at hSw); go_simp; try with_reducible rfl)
  case hq16 => exact fun _ _ _ h => h
  simp only [List.getElem_toArray, List.getElem_cons_zero, List.getElem_cons_succ, Act.put, List.setIfInBounds_toArray, List.set_cons_zero, List.set_cons_succ]
  refine wpAnyH_done (by kernel_rfl) ?_ _
  have hX4 := hX3.grown hT2 hobX.out
  have hM4 := hM3.grown hT2 hobM.out
  have hV4 := Lib.hid (hV3.grown hT2 hV3.size hobW.out)
  clear hX3 hM3 hV3 hT1 hT2 hKO hKQ SO HP1 HP2 KP PA
  generalize q2 = W2 at *
  have hXX := Lib.hid hX4
  have hMM := Lib.hid hM4
  clear hX4 hM4
  go_wp2_with fail
  go_loopw [10] (fun i wr => ∃ k : Nat, k ≤ l.length ∧ k ≤ 4 ∧ i = .int .i64 (k : Int) ∧ KOk wr [x0, x1, x2, x3, x4, x5, x6, x7] 1 (.pointer (some ⟨B, 0, none⟩)) (some b) (1 + 3 * k) ∧ W2.grownBy wr (some b)) (fun i _ => 4 - (intOf i).toNat)
  case atStart => exact ⟨0, by omega, by omega, rfl, hKQ2.out, grown_of_below (Below.refl _ _)⟩
  case round =>
    obtain ⟨k, hk, hk4, rfl, hK, hG⟩ := hrel
    have HK := Lib.hid hK
    have HG := Lib.hid hG
    clear hK hG
    by_cases hlt : k < l.length ∧ k < 4
    · obtain ⟨b3, o3, rfl, _⟩ := HC.out (by omega)
      have hkl : (k : Int) < (l.length : Int) := by omega
      have hk44 : (k : Int) < 4 := by omega
      have LCE : Hid (∀ w' : World, W2.grownBy w' (some b) → w'.cell? ⟨b3, o3 + k, none⟩ = some (.int .i64 l[k])) := fun w' h => by
        have h1 := hV4.out.grown h hV4.out.size hobW.out
        have h2 := (HL.out.1.below h1).cell (by omega) k (by omega)
        rw [h2]
        simp [List.getElem?_eq_getElem hlt.1]
      have KS' := Lib.hid (KS.out l[k])
      have SU' := Lib.hid (SU.out l[k])
      generalize ssig [x0, x1, x2, x3, x4, x5, x6, x7] 1 l[k] [m0, m1, m2, m3, m4, m5, m6, m7] = s at KS' SU'
      generalize decide (0 ≤ l[k] ∧ l[k] < capOf 1) = d at KS' SU'
      generalize l[k] = lk at *
      go_upto_region 7 with (fail)
      have SO7 : Hid (∀ w' : World, W2.grownBy w' (some b) → (w'.cell? ⟨w.heap.size + 1, 0, none⟩ = some (.int .u8 m0) ∧ w'.cell? ⟨w.heap.size + 1, 1, none⟩ = some (.int .u8 m1) ∧ w'.cell? ⟨w.heap.size + 1, 2, none⟩ = some (.int .u8 m2) ∧ w'.cell? ⟨w.heap.size + 1, 3, none⟩ = some (.int .u8 m3) ∧ w'.cell? ⟨w.heap.size + 1, 4, none⟩ = some (.int .u8 m4) ∧ w'.cell? ⟨w.heap.size + 1, 5, none⟩ = some (.int .u8 m5) ∧ w'.cell? ⟨w.heap.size + 1, 6, none⟩ = some (.int .u8 m6) ∧ w'.cell? ⟨w.heap.size + 1, 7, none⟩ = some (.int .u8 m7)) ∧ w'.cell? ⟨b3, o3 + k, none⟩ = some (.int .i64 lk)) := fun w' h => ⟨⟨(hMM.out.grown h hobM.out).cell 0, (hMM.out.grown h hobM.out).cell 1, (hMM.out.grown h hobM.out).cell 2, (hMM.out.grown h hobM.out).cell 3, (hMM.out.grown h hobM.out).cell 4, (hMM.out.grown h hobM.out).cell 5, (hMM.out.grown h hobM.out).cell 6, (hMM.out.grown h hobM.out).cell 7⟩, LCE.out w' h⟩
      go_region_held3 (fun w' => (w'.cell? ⟨w.heap.size + 1, 0, none⟩ = some (.int .u8 m0) ∧ w'.cell? ⟨w.heap.size + 1, 1, none⟩ = some (.int .u8 m1) ∧ w'.cell? ⟨w.heap.size + 1, 2, none⟩ = some (.int .u8 m2) ∧ w'.cell? ⟨w.heap.size + 1, 3, none⟩ = some (.int .u8 m3) ∧ w'.cell? ⟨w.heap.size + 1, 4, none⟩ = some (.int .u8 m4) ∧ w'.cell? ⟨w.heap.size + 1, 5, none⟩ = some (.int .u8 m5) ∧ w'.cell? ⟨w.heap.size + 1, 6, none⟩ = some (.int .u8 m6) ∧ w'.cell? ⟨w.heap.size + 1, 7, none⟩ = some (.int .u8 m7)) ∧ w'.cell? ⟨b3, o3 + k, none⟩ = some (.int .i64 lk))
        ((refine SO7.out _ ?_; first | exact hT3 | exact grown_trans HG.out (grown_of_below (Below.refl _ _).drew)))
        ((go_at_call 34; refine (KS'.out _ _ _ _ HK.out.drew (by omega)).mono ?_; rintro e q3 ⟨v3, rfl, hS3, hK3, hG3⟩; have hT3 : W2.grownBy q3 (some b) := grown_trans HG.out (grown_trans (grown_of_below (Below.refl _ _).drew) hG3); have HK3 := Lib.hid hK3; have HS3 := Lib.hid hS3; clear hK3 hS3 hG3))
      clear SO7
      have HT3 := Lib.hid hT3
      clear hT3
      have SO8 : Hid (∀ w' : World, W2.grownBy w' (some b) → (w'.cell? ⟨w.heap.size, 0, none⟩ = some (.int .u8 x0) ∧ w'.cell? ⟨w.heap.size, 1, none⟩ = some (.int .u8 x1) ∧ w'.cell? ⟨w.heap.size, 2, none⟩ = some (.int .u8 x2) ∧ w'.cell? ⟨w.heap.size, 3, none⟩ = some (.int .u8 x3) ∧ w'.cell? ⟨w.heap.size, 4, none⟩ = some (.int .u8 x4) ∧ w'.cell? ⟨w.heap.size, 5, none⟩ = some (.int .u8 x5) ∧ w'.cell? ⟨w.heap.size, 6, none⟩ = some (.int .u8 x6) ∧ w'.cell? ⟨w.heap.size, 7, none⟩ = some (.int .u8 x7)) ∧ (w'.cell? ⟨w.heap.size + 1, 0, none⟩ = some (.int .u8 m0) ∧ w'.cell? ⟨w.heap.size + 1, 1, none⟩ = some (.int .u8 m1) ∧ w'.cell? ⟨w.heap.size + 1, 2, none⟩ = some (.int .u8 m2) ∧ w'.cell? ⟨w.heap.size + 1, 3, none⟩ = some (.int .u8 m3) ∧ w'.cell? ⟨w.heap.size + 1, 4, none⟩ = some (.int .u8 m4) ∧ w'.cell? ⟨w.heap.size + 1, 5, none⟩ = some (.int .u8 m5) ∧ w'.cell? ⟨w.heap.size + 1, 6, none⟩ = some (.int .u8 m6) ∧ w'.cell? ⟨w.heap.size + 1, 7, none⟩ = some (.int .u8 m7)) ∧ w'.cell? ⟨b3, o3 + k, none⟩ = some (.int .i64 lk)) := fun w' h => ⟨⟨(hXX.out.grown h hobX.out).cell 0, (hXX.out.grown h hobX.out).cell 1, (hXX.out.grown h hobX.out).cell 2, (hXX.out.grown h hobX.out).cell 3, (hXX.out.grown h hobX.out).cell 4, (hXX.out.grown h hobX.out).cell 5, (hXX.out.grown h hobX.out).cell 6, (hXX.out.grown h hobX.out).cell 7⟩, ⟨(hMM.out.grown h hobM.out).cell 0, (hMM.out.grown h hobM.out).cell 1, (hMM.out.grown h hobM.out).cell 2, (hMM.out.grown h hobM.out).cell 3, (hMM.out.grown h hobM.out).cell 4, (hMM.out.grown h hobM.out).cell 5, (hMM.out.grown h hobM.out).cell 6, (hMM.out.grown h hobM.out).cell 7⟩, LCE.out w' h⟩
      go_upto_region 8 with (fail)
      go_region_held3 (fun w' => (w'.cell? ⟨w.heap.size, 0, none⟩ = some (.int .u8 x0) ∧ w'.cell? ⟨w.heap.size, 1, none⟩ = some (.int .u8 x1) ∧ w'.cell? ⟨w.heap.size, 2, none⟩ = some (.int .u8 x2) ∧ w'.cell? ⟨w.heap.size, 3, none⟩ = some (.int .u8 x3) ∧ w'.cell? ⟨w.heap.size, 4, none⟩ = some (.int .u8 x4) ∧ w'.cell? ⟨w.heap.size, 5, none⟩ = some (.int .u8 x5) ∧ w'.cell? ⟨w.heap.size, 6, none⟩ = some (.int .u8 x6) ∧ w'.cell? ⟨w.heap.size, 7, none⟩ = some (.int .u8 x7)) ∧ (w'.cell? ⟨w.heap.size + 1, 0, none⟩ = some (.int .u8 m0) ∧ w'.cell? ⟨w.heap.size + 1, 1, none⟩ = some (.int .u8 m1) ∧ w'.cell? ⟨w.heap.size + 1, 2, none⟩ = some (.int .u8 m2) ∧ w'.cell? ⟨w.heap.size + 1, 3, none⟩ = some (.int .u8 m3) ∧ w'.cell? ⟨w.heap.size + 1, 4, none⟩ = some (.int .u8 m4) ∧ w'.cell? ⟨w.heap.size + 1, 5, none⟩ = some (.int .u8 m5) ∧ w'.cell? ⟨w.heap.size + 1, 6, none⟩ = some (.int .u8 m6) ∧ w'.cell? ⟨w.heap.size + 1, 7, none⟩ = some (.int .u8 m7)) ∧ w'.cell? ⟨b3, o3 + k, none⟩ = some (.int .i64 lk))
        ((refine SO8.out _ ?_; first | exact hT5 | exact grown_trans HT3.out (grown_of_below (Below.refl _ _).drew)))
        ((go_at_call 30; refine (SU'.out _).mono ?_; rintro e q4 ⟨v4, rfl, hS4, hB4⟩; have hT5 : W2.grownBy q4 (some b) := grown_trans HT3.out (grown_trans (grown_of_below (Below.refl _ _).drew) (grown_of_below hB4)); have HK4 := Lib.hid (HK3.out.drew.below hB4); have e1 := ((HS3.out.below (Below.refl _ _).drew).below hB4).str; have e2 := hS4.str; clear hS4 hB4))
      clear SO8
      have HT5 := Lib.hid hT5
      clear hT5
      go_wp2
      go_roundw
      case rel => exact ⟨k + 1, by omega, by omega, by go_num, HK4.out, HT5.out⟩
      case measure => simp [intOf]; omega
    · have hVr := Lib.hid (hV4.out.grown HG.out hV4.out.size hobW.out)
      by_cases hk5 : k < l.length
      · have hkl : (k : Int) < (l.length : Int) := by omega
        have hd : decide ((k : Int) < 4) = false := by simp; omega
        go_wp2_with (go_at_call 25; refine (awake5 _).mono ?_; rintro e w7 ⟨rfl, rfl⟩)
        go_ret
        exact ⟨rfl, hVr.out⟩
      · have hd : decide ((k : Int) < (l.length : Int)) = false := by simp; omega
        go_wp2_with (go_at_call 25; refine (awake5 _).mono ?_; rintro e w7 ⟨rfl, rfl⟩)
        go_ret
        exact ⟨rfl, hVr.out⟩

end Go.Proofs.Ytilhceihelcdgaa
