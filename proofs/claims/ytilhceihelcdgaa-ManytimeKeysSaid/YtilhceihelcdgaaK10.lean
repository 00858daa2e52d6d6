/-
  The reference's Verify.
-/
import Derived.Test.YtilhceihelcdgaaKV
import Derived.Test.YtilhceihelcdgaaK2
namespace Go.Proofs.Ytilhceihelcdgaa
open Go.RowKit

/-- A region that reads names and recovers or follows leaves this: a new cell with the name. -/
def Cell8 (W wx : World) (s : Value) (r : List Int) : Prop := ∃ g : Nat, s = .pointer (some ⟨g, 0, none⟩) ∧ Blk wx g 30 (bsv r).toArray ∧ Below W.heap.size W wx

set_option maxHeartbeats 8000000 in
theorem rverify_any (P m l : List Int) (lv : Int) (v : Value) (w : World) (hP : IsN P) (hm : IsN m) (h : Bs w v l) (hlv : -9223372036854775808 ≤ lv ∧ lv ≤ 9223372036854775807) :
    Calls Try.prog 29 #[nv P, .int .i64 lv, nv m, v] w fun e w' => e = .returned (.bool (mver P lv m l)) ∧ Below w.heap.size w w' := by
  have HS := Lib.hid h
  have HP := Lib.hid hP
  have HM := Lib.hid hm
  have hle := h.1.le
  have SZ := Lib.hid (fun w => rsize_any lv w hlv.1 hlv.2)
  have CP := Lib.hid (fun w => rcapacity_any lv w hlv.1 hlv.2)
  have hfl := Lib.hid (leafOf_bd h.2)
  by_cases hl12 : lv = 1 ∨ lv = 2
  · have hg1 : decide (lv < 1) = false := by simp; omega
    have hg2 : decide (2 < lv) = false := by simp; omega
    by_cases hsz : (l.length : Int) = sizeOf lv
    · have hlen : 186 ≤ l.length := by rcases hl12 with rfl | rfl <;> simp [sizeOf] at hsz <;> omega
      have hb2 : ((l.length : Int) != sizeOf lv) = false := by simpa using hsz
      obtain ⟨a, cap, rfl, _, _, _, _, _, hc⟩ := id h.1
      obtain ⟨b, o, rfl, _⟩ := hc (by omega)
      have h2' : (2 : Int) ≤ (l.length : Int) := by omega
      have c0 := Bs.at h.1 0 (by omega)
      have c1 := Bs.at h.1 1 (by omega)
      have b0 := h.2.getD 0
      have b1 := h.2.getD 1
      have hor := or_byte63 b0.1 b0.2 b1.1 b1.2
      have hlf : Hid (leafOf l = l.getD 0 0 * 256 + l.getD 1 0) := rfl
      by_cases hcp : leafOf l < capOf lv
      · have HV := Lib.hid (mver_yes (P := P) (m := m) hl12 hsz hcp)
        have NM := Lib.hid (fun w h => rlist_any l (.slice (some ⟨b, o, none⟩) l.length cap) 2 18 w h (by omega) (by omega))
        have NM5 := Lib.hid (fun w h => rlist_any l (.slice (some ⟨b, o, none⟩) l.length cap) 146 5 w h (by omega) (by omega))
        have hS18 := namesAt_isN h.2 2 18 (by omega)
        have hS5 := namesAt_isN h.2 146 5 (by omega)
        have l18 : (namesAt l 2 18).length = 18 := row_len _ _
        have l5 : (namesAt l 146 5).length = 5 := row_len _ _
        have RC := Lib.hid (fun v w (h : Ns w v (namesAt l 2 18)) => Calls.lit8t (rrecover_any m (namesAt l 2 18) v w hm h l18) (orec_isN _ _).1)
        have hf1 : 0 ≤ leafOf l % 32 ∧ leafOf l % 32 < 32 := by have := hfl.out; omega
        have FW := Lib.hid (fun leaf v w (hl : IsN leaf) (h : Ns w v (namesAt l 146 5)) => Calls.lit8t (rfollow32 leaf (namesAt l 146 5) v (leafOf l % 32) w hl h l5 hf1.1 hf1.2) (mfollow_isN _ _ _ _).1)
        have NR := Lib.hid (orec_isN m (namesAt l 2 18))
        have NF := Lib.hid (fun leaf => mfollow_isN 5 leaf (leafOf l % 32) (namesAt l 146 5))
        have NS18 := Lib.hid (fun w v b (hb : OwN w b v (namesAt l 2 18)) => hb.ns (by rw [l18]; omega) hS18)
        have NS5 := Lib.hid (fun w v b (hb : OwN w b v (namesAt l 146 5)) => hb.ns (by rw [l5]; omega) hS5)
        have HC : Hid (mclimb l 2 (leafOf l % 32) m = mfollow 5 (orec m (namesAt l 2 18)) (leafOf l % 32) (namesAt l 146 5)) := rfl
        have hb3 : decide (capOf lv ≤ leafOf l) = false := by simpa using hcp
        have hcp' := hcp
        obtain ⟨m0, m1, m2, m3, m4, m5, m6, m7, hme, _⟩ := hm.cases
        have e2 : ((2 : Nat) : Int) = 2 := rfl
        have e18 : ((18 : Nat) : Int) = 18 := rfl
        have e146 : ((146 : Nat) : Int) = 146 := rfl
        have e5 : ((5 : Nat) : Int) = 5 := rfl
        rw [e2, e18] at NM
        rw [e146, e5] at NM5
        clear e2 e18 e146 e5 hS18 hS5 l18 l5 hc
        have hl2 : lv = 2 → 370 ≤ l.length := by rintro rfl; simp [sizeOf] at hsz; omega
        rcases hl12 with rfl | rfl
        · rw [show sizeOf 1 = 186 from by simp [sizeOf]] at SZ hsz hb2
          rw [show capOf 1 = 32 from by simp [capOf]] at CP hcp hb3
          have HT : Hid (mtop 1 m l = mclimb l 2 (leafOf l % 32) m) := if_neg (by omega)
          subst hme
          generalize orec [m0, m1, m2, m3, m4, m5, m6, m7] (namesAt l 2 18) = r at *
          generalize namesAt l 146 5 = P5 at *
          generalize namesAt l 2 18 = S at *
          generalize leafOf l = lf at *
          generalize l.getD 0 0 = y0 at *
          generalize l.getD 1 0 = y1 at *
          obtain ⟨_, _⟩ := b0
          obtain ⟨_, _⟩ := b1
          have HSZ := Lib.hid hsz
          have hly : y0 * 256 + y1 = lf := hlf.out.symm
          rw [hly] at hor
          obtain ⟨_, _⟩ := hfl.out
          have HFL := Lib.hid hf1
          have htm : lf.tmod 32 = lf % 32 := Int.tmod_eq_emod_of_nonneg (by omega)
          have htd : lf.tdiv 32 = lf / 32 := Int.tdiv_eq_ediv_of_nonneg (by omega)
          have hwm : IntKind.i64.wrap (lf % 32) = lf % 32 := by rw [IntKind.wrap_i64]; omega
          have hwd : IntKind.i64.wrap (lf / 32) = lf / 32 := by rw [IntKind.wrap_i64]; omega
          simp only [Nat.add_zero] at c0
          clear h hP hm hsz hcp hly hf1 hlf
          go_enter Try.func29, Try.ntmps29
          go_wp2_with (first
            | (refine wpList_box_name rfl (.tmp 0) rfl P rfl ?_; intro w1 hA1 hB1 hs1; refine hold ?_))
          refine Lib.hid ?_
          have c0' := c0
          have c1' := c1
          go_upto_region 3 with (go_at_call 24; refine (SZ.out _).mono ?_; rintro e w3 ⟨rfl, rfl⟩)
          generalize hW : World.alloc _ _ = W2
          have hM2 : Blk W2 (w.heap.size + 1) 30 (bsv [m0, m1, m2, m3, m4, m5, m6, m7]).toArray := by rw [← hW]; exact Blk.new' _ _ _ hs1.symm
          have hA2 : Blk W2 w.heap.size 30 (bsv P).toArray := by rw [← hW]; exact hA1.old _
          have hV2 : Below w.heap.size w W2 := by rw [← hW]; exact hB1.alloc hB1.size _
          have hz2 := hM2.lt
          clear hW
          have d0 := Keeps.of_below hV2 _ _ c0
          have d1 := Keeps.of_below hV2 _ _ c1
          go_quiet (fail)
          go_upto_region 6 with (go_at_call 22; refine (CP.out _).mono ?_; rintro e w3 ⟨rfl, rfl⟩)
          generalize hW : World.drewN _ _ = W3
          have hM3 : Blk W3 (w.heap.size + 1) 30 (bsv [m0, m1, m2, m3, m4, m5, m6, m7]).toArray := by rw [← hW]; exact hM2
          have hA3' : Blk W3 w.heap.size 30 (bsv P).toArray := by rw [← hW]; exact hA2
          have hV3' : Below w.heap.size w W3 := by rw [← hW]; exact below_drewN hV2 _
          clear hW d0 d1 c0 c1 c0' c1' hM2 hA2 hz2 hV2 hA1 hB1 hor
          have hS3 := Lib.hid (HS.out.below hV3')
          have hlM := hM3.lt
          have hzv3 := hV3'.size
          obtain ⟨⟨q0, q1, q2, q3⟩, q4, q5, q6, q7⟩ := hM3.at8
          go_cut [10] (fun s wx => Cell8 W3 wx s r)
          case first =>
            go_region_law (first
              | (go_simp; go_at_call 89; refine (NM.out _ (by first | exact hS3.out.drew | exact hS3.out.drew.below (below1 _ _))).mono ?_; rintro e w3 ⟨v3, rfl, hO3, hB3⟩; have hz3 := hB3.size; (try simp only [World.size_drew] at hz3); (try simp only [World.size_alloc] at hz3); (try simp only [World.size_drew] at hz3); (have hA3 : Blk w3 (w.heap.size + 1) 30 (bsv [m0, m1, m2, m3, m4, m5, m6, m7]).toArray := by first | exact hM3.drew.below hB3 (by first | omega | (simp; omega) | (simp; done)) | exact (hM3.drew.old _).below hB3 (by first | omega | (simp; omega) | (simp; done))); obtain ⟨⟨k0, k1, k2, k3⟩, k4, k5, k6, k7⟩ := hA3.at8; have hlA := hA3.lt; try (have hZ3 : Blk w3 W3.heap.size 30 (bsv zeroN).toArray := (Blk.new W3.drew 30 (bsv zeroN).toArray).below hB3 (by simp)))
              | (go_simp; go_at_call 88; refine (RC.out _ _ (by first | exact NS18.out _ _ _ hO3 | exact NS18.out _ _ _ (hO3.alloc _))).mono ?_; rintro e w4 ⟨c0, c1, c2, c3, c4, c5, c6, c7, rfl, HR, hB4⟩; have hz4 := hB4.size; (try simp only [World.size_drew] at hz4); (try simp only [World.size_alloc] at hz4); (try simp only [World.size_drew] at hz4); first | (have hZ4 := hZ3.below hB4 (by first | omega | (simp; omega) | (simp; done)); obtain ⟨⟨d0, d1, d2, d3⟩, ⟨d4, d5, d6, d7⟩, df⟩ := hZ4.zero8) | (have hZ4 := (Blk.new w3 30 (bsv zeroN).toArray).below hB4 (by simp); obtain ⟨⟨d0, d1, d2, d3⟩, ⟨d4, d5, d6, d7⟩, df⟩ := hZ4.zero8) | skip))
            all_goals
              go_wp2_with fail
              go_meet
              (try unfold Cell8)
              have hV3 : Below W3.heap.size W3 w3 := by first | exact (Below.refl _ _).drew.trans (hB3.mono (by first | omega | (simp; omega) | (simp; done))) | exact ((Below.refl _ _).alloc (Nat.le_refl _) _).drew.trans (hB3.mono (by first | omega | (simp; omega) | (simp; done)))
              have hV4 : Below W3.heap.size W3 w4 := by first | exact hV3.trans (hB4.mono (by first | omega | (simp; omega) | (simp; done))) | exact (hV3.alloc hV3.size _).trans (hB4.mono (by first | omega | (simp; omega) | (simp; done)))
              rw [HR.out]
              first
                | exact ⟨_, rfl, hZ4.set8 c0 c1 c2 c3 c4 c5 c6 c7, below_set8 hV4 (by first | omega | (simp; omega) | (simp; done)) c0 c1 c2 c3 c4 c5 c6 c7⟩
                | exact ⟨_, rfl, Blk.new w4 _ _, hV4.alloc hV4.size _⟩
          case rest =>
            obtain ⟨g, rfl, hR, hB⟩ := hcut
            obtain ⟨r0, r1, r2, r3, r4, r5, r6, r7, rfl, _⟩ := NR.out.cases
            have hA4 := hA3'.below hB hA3'.lt
            have hV4' := hV3'.trans (hB.mono hzv3)
            have hS4 := Lib.hid (HS.out.below hV4')
            have hlR := hR.lt
            have hzv4 := hV4'.size
            clear hM3 hA3' hV3' hS3 q0 q1 q2 q3 q4 q5 q6 q7 hB hlM
            obtain ⟨⟨q0, q1, q2, q3⟩, q4, q5, q6, q7⟩ := hR.at8
            go_upto_region 7 with (fail)
            go_cut [12] (fun s wx => Cell8 wc wx s (mfollow 5 [r0, r1, r2, r3, r4, r5, r6, r7] (lf % 32) P5))
            case first =>
              go_region_law (first
                | (go_simp; go_at_call 89; refine (NM5.out _ (by first | exact hS4.out.drew | exact hS4.out.drew.below (below1 _ _))).mono ?_; rintro e w3 ⟨v3, rfl, hO3, hB3⟩; have hz3 := hB3.size; (try simp only [World.size_drew] at hz3); (try simp only [World.size_alloc] at hz3); (try simp only [World.size_drew] at hz3); (have hA3 : Blk w3 g 30 (bsv [r0, r1, r2, r3, r4, r5, r6, r7]).toArray := by first | exact hR.drew.below hB3 (by first | omega | (simp; omega) | (simp; done)) | exact (hR.drew.old _).below hB3 (by first | omega | (simp; omega) | (simp; done))); obtain ⟨⟨k0, k1, k2, k3⟩, k4, k5, k6, k7⟩ := hA3.at8; have hlA := hA3.lt; try (have hZ3 : Blk w3 wc.heap.size 30 (bsv zeroN).toArray := (Blk.new wc.drew 30 (bsv zeroN).toArray).below hB3 (by simp)))
                | (go_simp; go_at_call 90; refine (FW.out _ _ _ NR.out (by first | exact NS5.out _ _ _ hO3 | exact NS5.out _ _ _ (hO3.alloc _))).mono ?_; rintro e w4 ⟨c0, c1, c2, c3, c4, c5, c6, c7, rfl, HR, hB4⟩; have hz4 := hB4.size; (try simp only [World.size_drew] at hz4); (try simp only [World.size_alloc] at hz4); (try simp only [World.size_drew] at hz4); first | (have hZ4 := hZ3.below hB4 (by first | omega | (simp; omega) | (simp; done)); obtain ⟨⟨d0, d1, d2, d3⟩, ⟨d4, d5, d6, d7⟩, df⟩ := hZ4.zero8) | (have hZ4 := (Blk.new w3 30 (bsv zeroN).toArray).below hB4 (by simp); obtain ⟨⟨d0, d1, d2, d3⟩, ⟨d4, d5, d6, d7⟩, df⟩ := hZ4.zero8) | skip))
              all_goals
                go_wp2_with fail
                go_meet
                (try unfold Cell8)
                have hV3 : Below wc.heap.size wc w3 := by first | exact (Below.refl _ _).drew.trans (hB3.mono (by first | omega | (simp; omega) | (simp; done))) | exact ((Below.refl _ _).alloc (Nat.le_refl _) _).drew.trans (hB3.mono (by first | omega | (simp; omega) | (simp; done)))
                have hV4 : Below wc.heap.size wc w4 := by first | exact hV3.trans (hB4.mono (by first | omega | (simp; omega) | (simp; done))) | exact (hV3.alloc hV3.size _).trans (hB4.mono (by first | omega | (simp; omega) | (simp; done)))
                rw [HR.out]
                first
                  | exact ⟨_, rfl, hZ4.set8 c0 c1 c2 c3 c4 c5 c6 c7, below_set8 hV4 (by first | omega | (simp; omega) | (simp; done)) c0 c1 c2 c3 c4 c5 c6 c7⟩
                  | exact ⟨_, rfl, Blk.new w4 _ _, hV4.alloc hV4.size _⟩
            case rest =>
              obtain ⟨g5, rfl, hR5, hB5⟩ := hcut
              have hNF := NF.out [r0, r1, r2, r3, r4, r5, r6, r7]
              generalize hz : mfollow 5 [r0, r1, r2, r3, r4, r5, r6, r7] (lf % 32) P5 = z at *
              have HZ := Lib.hid hz
              have HNF := Lib.hid hNF
              clear hz hNF
              have hA5 := hA4.below hB5 hA4.lt
              have hV5 := hV4'.trans (hB5.mono hzv4)
              go_wp2_with (first
                | (refine wpList_load_name _ rfl (.tmp 12) rfl g5 rfl _ _ hR5 HNF.out.1 ?_)
                | (refine wpList_load_name _ rfl (.tmp 4) rfl w.heap.size rfl _ _ hA5 HP.out.1 ?_)
                | (refine wpList_eql_name rfl (.tmp 63) (.tmp 64) rfl _ _ rfl rfl HNF.out.1 HP.out.1 ?_))
              go_ret
              exact ⟨by rw [HV.out, HT.out, HC.out]; rfl, hV5⟩
        · rw [show sizeOf 2 = 370 from by simp [sizeOf]] at SZ hsz hb2
          rw [show capOf 2 = 1024 from by simp [capOf]] at CP hb3
          have HT : Hid (mtop 2 m l = mclimb l 186 (leafOf l / 32) (mclimb l 2 (leafOf l % 32) m)) := if_pos rfl
          subst hme
          generalize orec [m0, m1, m2, m3, m4, m5, m6, m7] (namesAt l 2 18) = r at *
          generalize namesAt l 146 5 = P5 at *
          generalize namesAt l 2 18 = S at *
          have hl370 := hl2 rfl
          have NM' := Lib.hid (fun w h => rlist_any l (.slice (some ⟨b, o, none⟩) l.length cap) 186 18 w h (by omega) (by omega))
          have NM5' := Lib.hid (fun w h => rlist_any l (.slice (some ⟨b, o, none⟩) l.length cap) 330 5 w h (by omega) (by omega))
          have hS18' := namesAt_isN h.2 186 18 (by omega)
          have hS5' := namesAt_isN h.2 330 5 (by omega)
          have l18' : (namesAt l 186 18).length = 18 := row_len _ _
          have l5' : (namesAt l 330 5).length = 5 := row_len _ _
          have RC2 := Lib.hid (fun z v w (hz : IsN z) (h : Ns w v (namesAt l 186 18)) => Calls.lit8t (rrecover_any z (namesAt l 186 18) v w hz h l18') (orec_isN _ _).1)
          have hf2 : 0 ≤ leafOf l / 32 ∧ leafOf l / 32 < 32 := by have := hfl.out; simp [capOf] at hcp; omega
          have FW2 := Lib.hid (fun leaf v w (hl : IsN leaf) (h : Ns w v (namesAt l 330 5)) => Calls.lit8t (rfollow32 leaf (namesAt l 330 5) v (leafOf l / 32) w hl h l5' hf2.1 hf2.2) (mfollow_isN _ _ _ _).1)
          have NR2 := Lib.hid (fun z => orec_isN z (namesAt l 186 18))
          have NF2 := Lib.hid (fun leaf => mfollow_isN 5 leaf (leafOf l / 32) (namesAt l 330 5))
          have NS18' := Lib.hid (fun w v b (hb : OwN w b v (namesAt l 186 18)) => hb.ns (by rw [l18']; omega) hS18')
          have NS5' := Lib.hid (fun w v b (hb : OwN w b v (namesAt l 330 5)) => hb.ns (by rw [l5']; omega) hS5')
          have HC2 : Hid (∀ z, mclimb l 186 (leafOf l / 32) z = mfollow 5 (orec z (namesAt l 186 18)) (leafOf l / 32) (namesAt l 330 5)) := fun z => rfl
          have e186 : ((186 : Nat) : Int) = 186 := rfl
          have e18 : ((18 : Nat) : Int) = 18 := rfl
          have e330 : ((330 : Nat) : Int) = 330 := rfl
          have e5 : ((5 : Nat) : Int) = 5 := rfl
          rw [e186, e18] at NM'
          rw [e330, e5] at NM5'
          clear e186 e18 e330 e5 hS18' hS5' l18' l5' hf2
          generalize namesAt l 330 5 = P52 at *
          generalize namesAt l 186 18 = S2 at *
          generalize leafOf l = lf at *
          generalize l.getD 0 0 = y0 at *
          generalize l.getD 1 0 = y1 at *
          obtain ⟨_, _⟩ := b0
          obtain ⟨_, _⟩ := b1
          have HSZ := Lib.hid hsz
          have hly : y0 * 256 + y1 = lf := hlf.out.symm
          rw [hly] at hor
          obtain ⟨_, _⟩ := hfl.out
          have HFL := Lib.hid hf1
          have htm : lf.tmod 32 = lf % 32 := Int.tmod_eq_emod_of_nonneg (by omega)
          have htd : lf.tdiv 32 = lf / 32 := Int.tdiv_eq_ediv_of_nonneg (by omega)
          have hwm : IntKind.i64.wrap (lf % 32) = lf % 32 := by rw [IntKind.wrap_i64]; omega
          have hwd : IntKind.i64.wrap (lf / 32) = lf / 32 := by rw [IntKind.wrap_i64]; omega
          simp only [Nat.add_zero] at c0
          clear h hP hm hsz hcp hly hf1 hlf
          go_enter Try.func29, Try.ntmps29
          go_wp2_with (first
            | (refine wpList_box_name rfl (.tmp 0) rfl P rfl ?_; intro w1 hA1 hB1 hs1; refine hold ?_))
          refine Lib.hid ?_
          have c0' := c0
          have c1' := c1
          go_upto_region 3 with (go_at_call 24; refine (SZ.out _).mono ?_; rintro e w3 ⟨rfl, rfl⟩)
          generalize hW : World.alloc _ _ = W2
          have hM2 : Blk W2 (w.heap.size + 1) 30 (bsv [m0, m1, m2, m3, m4, m5, m6, m7]).toArray := by rw [← hW]; exact Blk.new' _ _ _ hs1.symm
          have hA2 : Blk W2 w.heap.size 30 (bsv P).toArray := by rw [← hW]; exact hA1.old _
          have hV2 : Below w.heap.size w W2 := by rw [← hW]; exact hB1.alloc hB1.size _
          have hz2 := hM2.lt
          clear hW
          have d0 := Keeps.of_below hV2 _ _ c0
          have d1 := Keeps.of_below hV2 _ _ c1
          go_quiet (fail)
          go_upto_region 6 with (go_at_call 22; refine (CP.out _).mono ?_; rintro e w3 ⟨rfl, rfl⟩)
          generalize hW : World.drewN _ _ = W3
          have hM3 : Blk W3 (w.heap.size + 1) 30 (bsv [m0, m1, m2, m3, m4, m5, m6, m7]).toArray := by rw [← hW]; exact hM2
          have hA3' : Blk W3 w.heap.size 30 (bsv P).toArray := by rw [← hW]; exact hA2
          have hV3' : Below w.heap.size w W3 := by rw [← hW]; exact below_drewN hV2 _
          clear hW d0 d1 c0 c1 c0' c1' hM2 hA2 hz2 hV2 hA1 hB1 hor
          have hS3 := Lib.hid (HS.out.below hV3')
          have hlM := hM3.lt
          have hzv3 := hV3'.size
          obtain ⟨⟨q0, q1, q2, q3⟩, q4, q5, q6, q7⟩ := hM3.at8
          go_cut [10] (fun s wx => Cell8 W3 wx s r)
          case first =>
            go_region_law (first
              | (go_simp; go_at_call 89; refine (NM.out _ (by first | exact hS3.out.drew | exact hS3.out.drew.below (below1 _ _))).mono ?_; rintro e w3 ⟨v3, rfl, hO3, hB3⟩; have hz3 := hB3.size; (try simp only [World.size_drew] at hz3); (try simp only [World.size_alloc] at hz3); (try simp only [World.size_drew] at hz3); (have hA3 : Blk w3 (w.heap.size + 1) 30 (bsv [m0, m1, m2, m3, m4, m5, m6, m7]).toArray := by first | exact hM3.drew.below hB3 (by first | omega | (simp; omega) | (simp; done)) | exact (hM3.drew.old _).below hB3 (by first | omega | (simp; omega) | (simp; done))); obtain ⟨⟨k0, k1, k2, k3⟩, k4, k5, k6, k7⟩ := hA3.at8; have hlA := hA3.lt; try (have hZ3 : Blk w3 W3.heap.size 30 (bsv zeroN).toArray := (Blk.new W3.drew 30 (bsv zeroN).toArray).below hB3 (by simp)))
              | (go_simp; go_at_call 88; refine (RC.out _ _ (by first | exact NS18.out _ _ _ hO3 | exact NS18.out _ _ _ (hO3.alloc _))).mono ?_; rintro e w4 ⟨c0, c1, c2, c3, c4, c5, c6, c7, rfl, HR, hB4⟩; have hz4 := hB4.size; (try simp only [World.size_drew] at hz4); (try simp only [World.size_alloc] at hz4); (try simp only [World.size_drew] at hz4); first | (have hZ4 := hZ3.below hB4 (by first | omega | (simp; omega) | (simp; done)); obtain ⟨⟨d0, d1, d2, d3⟩, ⟨d4, d5, d6, d7⟩, df⟩ := hZ4.zero8) | (have hZ4 := (Blk.new w3 30 (bsv zeroN).toArray).below hB4 (by simp); obtain ⟨⟨d0, d1, d2, d3⟩, ⟨d4, d5, d6, d7⟩, df⟩ := hZ4.zero8) | skip))
            all_goals
              go_wp2_with fail
              go_meet
              (try unfold Cell8)
              have hV3 : Below W3.heap.size W3 w3 := by first | exact (Below.refl _ _).drew.trans (hB3.mono (by first | omega | (simp; omega) | (simp; done))) | exact ((Below.refl _ _).alloc (Nat.le_refl _) _).drew.trans (hB3.mono (by first | omega | (simp; omega) | (simp; done)))
              have hV4 : Below W3.heap.size W3 w4 := by first | exact hV3.trans (hB4.mono (by first | omega | (simp; omega) | (simp; done))) | exact (hV3.alloc hV3.size _).trans (hB4.mono (by first | omega | (simp; omega) | (simp; done)))
              rw [HR.out]
              first
                | exact ⟨_, rfl, hZ4.set8 c0 c1 c2 c3 c4 c5 c6 c7, below_set8 hV4 (by first | omega | (simp; omega) | (simp; done)) c0 c1 c2 c3 c4 c5 c6 c7⟩
                | exact ⟨_, rfl, Blk.new w4 _ _, hV4.alloc hV4.size _⟩
          case rest =>
            obtain ⟨g, rfl, hR, hB⟩ := hcut
            obtain ⟨r0, r1, r2, r3, r4, r5, r6, r7, rfl, _⟩ := NR.out.cases
            have hA4 := hA3'.below hB hA3'.lt
            have hV4' := hV3'.trans (hB.mono hzv3)
            have hS4 := Lib.hid (HS.out.below hV4')
            have hlR := hR.lt
            have hzv4 := hV4'.size
            clear hM3 hA3' hV3' hS3 q0 q1 q2 q3 q4 q5 q6 q7 hB hlM
            obtain ⟨⟨q0, q1, q2, q3⟩, q4, q5, q6, q7⟩ := hR.at8
            go_upto_region 7 with (fail)
            go_cut [12] (fun s wx => Cell8 wc wx s (mfollow 5 [r0, r1, r2, r3, r4, r5, r6, r7] (lf % 32) P5))
            case first =>
              go_region_law (first
                | (go_simp; go_at_call 89; refine (NM5.out _ (by first | exact hS4.out.drew | exact hS4.out.drew.below (below1 _ _))).mono ?_; rintro e w3 ⟨v3, rfl, hO3, hB3⟩; have hz3 := hB3.size; (try simp only [World.size_drew] at hz3); (try simp only [World.size_alloc] at hz3); (try simp only [World.size_drew] at hz3); (have hA3 : Blk w3 g 30 (bsv [r0, r1, r2, r3, r4, r5, r6, r7]).toArray := by first | exact hR.drew.below hB3 (by first | omega | (simp; omega) | (simp; done)) | exact (hR.drew.old _).below hB3 (by first | omega | (simp; omega) | (simp; done))); obtain ⟨⟨k0, k1, k2, k3⟩, k4, k5, k6, k7⟩ := hA3.at8; have hlA := hA3.lt; try (have hZ3 : Blk w3 wc.heap.size 30 (bsv zeroN).toArray := (Blk.new wc.drew 30 (bsv zeroN).toArray).below hB3 (by simp)))
                | (go_simp; go_at_call 90; refine (FW.out _ _ _ NR.out (by first | exact NS5.out _ _ _ hO3 | exact NS5.out _ _ _ (hO3.alloc _))).mono ?_; rintro e w4 ⟨c0, c1, c2, c3, c4, c5, c6, c7, rfl, HR, hB4⟩; have hz4 := hB4.size; (try simp only [World.size_drew] at hz4); (try simp only [World.size_alloc] at hz4); (try simp only [World.size_drew] at hz4); first | (have hZ4 := hZ3.below hB4 (by first | omega | (simp; omega) | (simp; done)); obtain ⟨⟨d0, d1, d2, d3⟩, ⟨d4, d5, d6, d7⟩, df⟩ := hZ4.zero8) | (have hZ4 := (Blk.new w3 30 (bsv zeroN).toArray).below hB4 (by simp); obtain ⟨⟨d0, d1, d2, d3⟩, ⟨d4, d5, d6, d7⟩, df⟩ := hZ4.zero8) | skip))
              all_goals
                go_wp2_with fail
                go_meet
                (try unfold Cell8)
                have hV3 : Below wc.heap.size wc w3 := by first | exact (Below.refl _ _).drew.trans (hB3.mono (by first | omega | (simp; omega) | (simp; done))) | exact ((Below.refl _ _).alloc (Nat.le_refl _) _).drew.trans (hB3.mono (by first | omega | (simp; omega) | (simp; done)))
                have hV4 : Below wc.heap.size wc w4 := by first | exact hV3.trans (hB4.mono (by first | omega | (simp; omega) | (simp; done))) | exact (hV3.alloc hV3.size _).trans (hB4.mono (by first | omega | (simp; omega) | (simp; done)))
                rw [HR.out]
                first
                  | exact ⟨_, rfl, hZ4.set8 c0 c1 c2 c3 c4 c5 c6 c7, below_set8 hV4 (by first | omega | (simp; omega) | (simp; done)) c0 c1 c2 c3 c4 c5 c6 c7⟩
                  | exact ⟨_, rfl, Blk.new w4 _ _, hV4.alloc hV4.size _⟩
            case rest =>
              obtain ⟨g5, rfl, hR5, hB5⟩ := hcut
              have hNF := NF.out [r0, r1, r2, r3, r4, r5, r6, r7]
              generalize hz : mfollow 5 [r0, r1, r2, r3, r4, r5, r6, r7] (lf % 32) P5 = z at *
              have HZ := Lib.hid hz
              have HNF := Lib.hid hNF
              clear hz hNF
              have hA5 := hA4.below hB5 hA4.lt
              have hV5 := hV4'.trans (hB5.mono hzv4)
              have hne : ((2 : Int) == 1) = false := rfl
              obtain ⟨z0, z1, z2, z3, z4, z5, z6, z7, rfl, _⟩ := HNF.out.cases
              have hS5 := Lib.hid (HS.out.below hV5)
              have hlR5 := hR5.lt
              have hzv5 := hV5.size
              clear q0 q1 q2 q3 q4 q5 q6 q7 hB5 hR hlR
              obtain ⟨⟨q0, q1, q2, q3⟩, q4, q5, q6, q7⟩ := hR5.at8
              have NR3 := Lib.hid (NR2.out [z0, z1, z2, z3, z4, z5, z6, z7])
              go_upto_region 10 with (fail)
              go_cut [14] (fun s wx => Cell8 wc wx s (orec [z0, z1, z2, z3, z4, z5, z6, z7] S2))
              case first =>
                go_region_law (first
                  | (go_simp; go_at_call 89; refine (NM'.out _ (by first | exact hS5.out.drew | exact hS5.out.drew.below (below1 _ _))).mono ?_; rintro e w3 ⟨v3, rfl, hO3, hB3⟩; have hz3 := hB3.size; (try simp only [World.size_drew] at hz3); (try simp only [World.size_alloc] at hz3); (try simp only [World.size_drew] at hz3); (have hA3 : Blk w3 g5 30 (bsv [z0, z1, z2, z3, z4, z5, z6, z7]).toArray := by first | exact hR5.drew.below hB3 (by first | omega | (simp; omega) | (simp; done)) | exact (hR5.drew.old _).below hB3 (by first | omega | (simp; omega) | (simp; done))); obtain ⟨⟨k0, k1, k2, k3⟩, k4, k5, k6, k7⟩ := hA3.at8; have hlA := hA3.lt; try (have hZ3 : Blk w3 wc.heap.size 30 (bsv zeroN).toArray := (Blk.new wc.drew 30 (bsv zeroN).toArray).below hB3 (by simp)))
                  | (go_simp; go_at_call 88; refine (RC2.out _ _ _ HNF.out (by first | exact NS18'.out _ _ _ hO3 | exact NS18'.out _ _ _ (hO3.alloc _))).mono ?_; rintro e w4 ⟨c0, c1, c2, c3, c4, c5, c6, c7, rfl, HR, hB4⟩; have hz4 := hB4.size; (try simp only [World.size_drew] at hz4); (try simp only [World.size_alloc] at hz4); (try simp only [World.size_drew] at hz4); first | (have hZ4 := hZ3.below hB4 (by first | omega | (simp; omega) | (simp; done)); obtain ⟨⟨d0, d1, d2, d3⟩, ⟨d4, d5, d6, d7⟩, df⟩ := hZ4.zero8) | (have hZ4 := (Blk.new w3 30 (bsv zeroN).toArray).below hB4 (by simp); obtain ⟨⟨d0, d1, d2, d3⟩, ⟨d4, d5, d6, d7⟩, df⟩ := hZ4.zero8) | skip))
                all_goals
                  go_wp2_with fail
                  go_meet
                  (try unfold Cell8)
                  have hV3 : Below wc.heap.size wc w3 := by first | exact (Below.refl _ _).drew.trans (hB3.mono (by first | omega | (simp; omega) | (simp; done))) | exact ((Below.refl _ _).alloc (Nat.le_refl _) _).drew.trans (hB3.mono (by first | omega | (simp; omega) | (simp; done)))
                  have hV4 : Below wc.heap.size wc w4 := by first | exact hV3.trans (hB4.mono (by first | omega | (simp; omega) | (simp; done))) | exact (hV3.alloc hV3.size _).trans (hB4.mono (by first | omega | (simp; omega) | (simp; done)))
                  rw [HR.out]
                  first
                    | exact ⟨_, rfl, hZ4.set8 c0 c1 c2 c3 c4 c5 c6 c7, below_set8 hV4 (by first | omega | (simp; omega) | (simp; done)) c0 c1 c2 c3 c4 c5 c6 c7⟩
                    | exact ⟨_, rfl, Blk.new w4 _ _, hV4.alloc hV4.size _⟩
              case rest =>
                obtain ⟨g6, rfl, hR6, hB6⟩ := hcut
                generalize hx : orec [z0, z1, z2, z3, z4, z5, z6, z7] S2 = x at *
                have HX := Lib.hid hx
                obtain ⟨x0, x1, x2, x3, x4, x5, x6, x7, rfl, _⟩ := NR3.out.cases
                have hA6 := hA5.below hB6 hA5.lt
                have hV6 := hV5.trans (hB6.mono hzv5)
                have hS6 := Lib.hid (HS.out.below hV6)
                have hlR6 := hR6.lt
                have hzv6 := hV6.size
                clear hR5 hA5 hS5 hlR5 q0 q1 q2 q3 q4 q5 q6 q7 hB6 hx
                obtain ⟨⟨q0, q1, q2, q3⟩, q4, q5, q6, q7⟩ := hR6.at8
                have NR4 := NR3
                go_upto_region 11 with (fail)
                go_cut [16] (fun s wx => Cell8 wc wx s (mfollow 5 [x0, x1, x2, x3, x4, x5, x6, x7] (lf / 32) P52))
                case first =>
                  go_region_law (first
                    | (go_simp; go_at_call 89; refine (NM5'.out _ (by first | exact hS6.out.drew | exact hS6.out.drew.below (below1 _ _))).mono ?_; rintro e w3 ⟨v3, rfl, hO3, hB3⟩; have hz3 := hB3.size; (try simp only [World.size_drew] at hz3); (try simp only [World.size_alloc] at hz3); (try simp only [World.size_drew] at hz3); (have hA3 : Blk w3 g6 30 (bsv [x0, x1, x2, x3, x4, x5, x6, x7]).toArray := by first | exact hR6.drew.below hB3 (by first | omega | (simp; omega) | (simp; done)) | exact (hR6.drew.old _).below hB3 (by first | omega | (simp; omega) | (simp; done))); obtain ⟨⟨k0, k1, k2, k3⟩, k4, k5, k6, k7⟩ := hA3.at8; have hlA := hA3.lt; try (have hZ3 : Blk w3 wc.heap.size 30 (bsv zeroN).toArray := (Blk.new wc.drew 30 (bsv zeroN).toArray).below hB3 (by simp)))
                    | (go_simp; go_at_call 90; refine (FW2.out _ _ _ NR4.out (by first | exact NS5'.out _ _ _ hO3 | exact NS5'.out _ _ _ (hO3.alloc _))).mono ?_; rintro e w4 ⟨c0, c1, c2, c3, c4, c5, c6, c7, rfl, HR, hB4⟩; have hz4 := hB4.size; (try simp only [World.size_drew] at hz4); (try simp only [World.size_alloc] at hz4); (try simp only [World.size_drew] at hz4); first | (have hZ4 := hZ3.below hB4 (by first | omega | (simp; omega) | (simp; done)); obtain ⟨⟨d0, d1, d2, d3⟩, ⟨d4, d5, d6, d7⟩, df⟩ := hZ4.zero8) | (have hZ4 := (Blk.new w3 30 (bsv zeroN).toArray).below hB4 (by simp); obtain ⟨⟨d0, d1, d2, d3⟩, ⟨d4, d5, d6, d7⟩, df⟩ := hZ4.zero8) | skip))
                  all_goals
                    go_wp2_with fail
                    go_meet
                    (try unfold Cell8)
                    have hV3 : Below wc.heap.size wc w3 := by first | exact (Below.refl _ _).drew.trans (hB3.mono (by first | omega | (simp; omega) | (simp; done))) | exact ((Below.refl _ _).alloc (Nat.le_refl _) _).drew.trans (hB3.mono (by first | omega | (simp; omega) | (simp; done)))
                    have hV4 : Below wc.heap.size wc w4 := by first | exact hV3.trans (hB4.mono (by first | omega | (simp; omega) | (simp; done))) | exact (hV3.alloc hV3.size _).trans (hB4.mono (by first | omega | (simp; omega) | (simp; done)))
                    rw [HR.out]
                    first
                      | exact ⟨_, rfl, hZ4.set8 c0 c1 c2 c3 c4 c5 c6 c7, below_set8 hV4 (by first | omega | (simp; omega) | (simp; done)) c0 c1 c2 c3 c4 c5 c6 c7⟩
                      | exact ⟨_, rfl, Blk.new w4 _ _, hV4.alloc hV4.size _⟩
                case rest =>
                  obtain ⟨g7, rfl, hR7, hB7⟩ := hcut
                  have hNF := NF2.out [x0, x1, x2, x3, x4, x5, x6, x7]
                  generalize hy : mfollow 5 [x0, x1, x2, x3, x4, x5, x6, x7] (lf / 32) P52 = y at *
                  have HY := Lib.hid hy
                  have HNY := Lib.hid hNF
                  clear hy hNF
                  have hA7 := hA6.below hB7 hA6.lt
                  have hV7 := hV6.trans (hB7.mono hzv6)
                  go_wp2_with (first
                    | (refine wpList_load_name _ rfl (.tmp 16) rfl g7 rfl _ _ hR7 HNY.out.1 ?_)
                    | (refine wpList_load_name _ rfl (.tmp 4) rfl w.heap.size rfl _ _ hA7 HP.out.1 ?_)
                    | (refine wpList_eql_name rfl (.tmp 82) (.tmp 83) rfl _ _ rfl rfl HNY.out.1 HP.out.1 ?_))
                  go_ret
                  exact ⟨by rw [HV.out, HT.out, HC.out, HC2.out, HX.out, HY.out]; rfl, hV7⟩

      · have HV := Lib.hid (mver_no (P := P) (m := m) (l := l) (lv := lv) (fun e => hcp e.2.2))
        have hb3 : decide (capOf lv ≤ leafOf l) = true := by simp; omega
        generalize leafOf l = lf at *
        generalize l.getD 0 0 = y0 at *
        generalize l.getD 1 0 = y1 at *
        generalize sizeOf lv = sz at *
        generalize capOf lv = cp at *
        obtain ⟨_, _⟩ := b0
        obtain ⟨_, _⟩ := b1
        have hly : y0 * 256 + y1 = lf := hlf.out.symm
        rw [hly] at hor
        obtain ⟨_, _⟩ := hfl.out
        simp only [Nat.add_zero] at c0
        clear h hP hm hsz hcp hly hlf hl12
        go_enter Try.func29, Try.ntmps29
        go_wp2_with (first
          | (refine wpList_box_name rfl (.tmp 0) rfl P rfl ?_; intro w1 hA1 hB1 hs1)
          | (refine wpList_box_name rfl (.tmp 2) rfl m rfl ?_; intro w2 hA2 hB2 hs2; have hV2 := hB1.trans (hB2.mono (by omega)); have d0 := Keeps.of_below hV2 _ _ c0; have d1 := Keeps.of_below hV2 _ _ c1)
          | (go_at_call 24; refine (SZ.out _).mono ?_; rintro e w3 ⟨rfl, rfl⟩))
        go_quiet (fail)
        go_wp2_with (go_at_call 22; refine (CP.out _).mono ?_; rintro e w3 ⟨rfl, rfl⟩)
        go_ret
        exact ⟨by rw [HV.out]; rfl, below_drewN hV2 _⟩
    · have HV := Lib.hid (mver_no (P := P) (m := m) (l := l) (lv := lv) (fun e => hsz e.2.1))
      have hb2 : ((l.length : Int) != sizeOf lv) = true := by simpa using hsz
      obtain ⟨a, cap, rfl, _, _, _, _, _, _⟩ := id h.1
      generalize sizeOf lv = sz at *
      clear h hP hm hsz hl12
      go_enter Try.func29, Try.ntmps29
      go_wp2_with (first
        | (refine wpList_box_name rfl (.tmp 0) rfl P rfl ?_; intro w1 hA1 hB1 hs1)
        | (refine wpList_box_name rfl (.tmp 2) rfl m rfl ?_; intro w2 hA2 hB2 hs2; have hV2 := hB1.trans (hB2.mono (by omega)))
        | (go_at_call 24; refine (SZ.out _).mono ?_; rintro e w3 ⟨rfl, rfl⟩))
      go_ret
      exact ⟨by rw [HV.out]; rfl, hV2⟩
  · have HV := Lib.hid (mver_no (P := P) (m := m) (l := l) (lv := lv) (fun e => hl12 e.1))
    obtain ⟨a, cap, rfl, _, _, _, _, _, _⟩ := id h.1
    have hc : lv < 1 ∨ ¬ lv < 1 ∧ 2 < lv := by omega
    clear h hP hm hl12
    rcases hc with hc | ⟨hc, hc2⟩
    · have hg1 : decide (lv < 1) = true := by simpa using hc
      go_enter Try.func29, Try.ntmps29
      go_wp2_with (first
        | (refine wpList_box_name rfl (.tmp 0) rfl P rfl ?_; intro w1 hA1 hB1 hs1)
        | (refine wpList_box_name rfl (.tmp 2) rfl m rfl ?_; intro w2 hA2 hB2 hs2; have hV2 := hB1.trans (hB2.mono (by omega))))
      go_ret
      exact ⟨by rw [HV.out]; rfl, hV2⟩
    · have hg1 : decide (lv < 1) = false := by simpa using hc
      have hg2 : decide (2 < lv) = true := by simpa using hc2
      go_enter Try.func29, Try.ntmps29
      go_wp2_with (first
        | (refine wpList_box_name rfl (.tmp 0) rfl P rfl ?_; intro w1 hA1 hB1 hs1)
        | (refine wpList_box_name rfl (.tmp 2) rfl m rfl ?_; intro w2 hA2 hB2 hs2; have hV2 := hB1.trans (hB2.mono (by omega))))
      go_ret
      exact ⟨by rw [HV.out]; rfl, hV2⟩
end Go.Proofs.Ytilhceihelcdgaa
