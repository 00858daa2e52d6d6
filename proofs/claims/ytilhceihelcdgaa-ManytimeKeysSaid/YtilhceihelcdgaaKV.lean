/-
  The root that a part of a signature shows.
  Verify.
-/
import Derived.Test.YtilhceihelcdgaaKN
import Derived.Test.YtilhceihelcdgaaKL
import Derived.Deep.DeepCutAuto
import Derived.Test.YtilhceihelcdgaaE1
namespace Go.Proofs.Ytilhceihelcdgaa
section
open Go.RowKit

theorem Calls.lit8t {f : FuncId} {args : Array Value} {w : World} {L : List Int} {R : World → Prop} {b : Bool} (h : Calls Try.prog f args w fun e w' => e = .returned (.tuple #[nv L, .bool b]) ∧ R w') (hL : L.length = 8) :
    Calls Try.prog f args w fun e w' => ∃ c0 c1 c2 c3 c4 c5 c6 c7 : Int, e = .returned (.tuple #[.agg #[.int .u8 c0, .int .u8 c1, .int .u8 c2, .int .u8 c3, .int .u8 c4, .int .u8 c5, .int .u8 c6, .int .u8 c7], .bool b]) ∧ Hid (L = [c0, c1, c2, c3, c4, c5, c6, c7]) ∧ R w' :=
  h.mono fun e w' ⟨he, hR⟩ => by
    match L, hL with
    | [c0, c1, c2, c3, c4, c5, c6, c7], _ => exact ⟨c0, c1, c2, c3, c4, c5, c6, c7, he, rfl, hR⟩

set_option maxHeartbeats 4000000 in
theorem climbed_any (l : List Int) (v : Value) (p : Nat) (j : Int) (m : List Int) (w : World) (h : Bs w v l) (hp : p + 184 ≤ l.length) (hp0 : p ≤ 1000) (hj : 0 ≤ j ∧ j < 32) (hm : IsN m) :
    Calls Try.prog 87 #[v, .int .i64 p, .int .i64 j, nv m] w fun e w' => e = .returned (nv (mclimb l p j m)) ∧ Below w.heap.size w w' := by
  have HV := Lib.hid h
  have HJ := Lib.hid hj
  have NM := Lib.hid (fun w h => names_any l v p 18 w h (by omega) (Or.inl rfl))
  have NM5 := Lib.hid (fun w h => names_any l v (p + 144) 5 w h (by omega) (Or.inr rfl))
  have hS18 := namesAt_isN h.2 p 18 (by omega)
  have hS5 := namesAt_isN h.2 (p + 144) 5 (by omega)
  have l18 : (namesAt l p 18).length = 18 := row_len _ _
  have l5 : (namesAt l (p + 144) 5).length = 5 := row_len _ _
  have RC := Lib.hid (fun v w (h : Ns w v (namesAt l p 18)) => Calls.lit8t (recover_any m (namesAt l p 18) v w hm h l18) (orec_isN _ _).1)
  have HC : Hid (mclimb l p j m = mfollow 5 (orec m (namesAt l p 18)) j (namesAt l (p + 144) 5)) := rfl
  rw [HC.out]
  have NR := Lib.hid (orec_isN m (namesAt l p 18))
  have NS18 := Lib.hid (fun w g (hb : Blk w g 30 (bsv (namesAt l p 18).flatten).toArray) => Ns.whole hb hS18 l18.symm (by omega))
  have NS5 := Lib.hid (fun w g (hb : Blk w g 30 (bsv (namesAt l (p + 144) 5).flatten).toArray) => Ns.whole hb hS5 l5.symm (by omega))
  have FW := Lib.hid (fun leaf v w (hl : IsN leaf) (h : Ns w v (namesAt l (p + 144) 5)) => Calls.lit8t (follow32 leaf (namesAt l (p + 144) 5) v j w hl h l5 hj.1 hj.2) (mfollow_isN _ _ _ _).1)
  have NF := Lib.hid (fun leaf => mfollow_isN 5 leaf j (namesAt l (p + 144) 5))
  have hpc : ((p + 144 : Nat) : Int) = (p : Int) + 144 := by omega
  have h18 : ((18 : Nat) : Int) = 18 := rfl
  have h5 : ((5 : Nat) : Int) = 5 := rfl
  rw [hpc, h5] at NM5
  rw [h18] at NM
  obtain ⟨m0, m1, m2, m3, m4, m5, m6, m7, rfl, _⟩ := hm.cases
  generalize orec [m0, m1, m2, m3, m4, m5, m6, m7] (namesAt l p 18) = r at *
  generalize namesAt l (p + 144) 5 = P at *
  generalize namesAt l p 18 = S at *
  obtain ⟨a, cap, rfl, _, _, _, _, _, _⟩ := id h.1
  have hw1 : IntKind.i64.wrap ((p : Int) + 144) = (p : Int) + 144 := by rw [IntKind.wrap_i64]; omega
  clear h hm hS18 hS5 l18 l5 hpc h18 h5 hj
  go_enter Try.func87, Try.ntmps87
  go_upto_region 1 with (fail)
  generalize hW : World.alloc _ _ = W2
  have hA2 : Blk W2 w.heap.size 30 (bsv [m0, m1, m2, m3, m4, m5, m6, m7]).toArray := by rw [← hW]; exact (Blk.new _ _ _).old _
  have hN2 : Blk W2 (w.heap.size + 1) 30 (bsv zeroN).toArray := by rw [← hW]; exact Blk.new' _ _ _ (by simp)
  have hV2 : Below w.heap.size w W2 := by rw [← hW]; exact below2 w _ _
  have hz2 := hN2.lt
  clear hW
  have hB2 := Lib.hid (HV.out.below hV2)
  have hlA2 := hA2.lt
  obtain ⟨⟨q0, q1, q2, q3⟩, q4, q5, q6, q7⟩ := hA2.at8
  go_cut [9] (fun s9 wx => ∃ g : Nat, s9 = .pointer (some ⟨g, 0, none⟩) ∧ Blk wx g 30 (bsv r).toArray ∧ Below W2.heap.size W2 wx)
  case first =>
    go_region_law (first
      | (go_simp; go_at_call 157; refine (NM.out _ (by first | exact hB2.out.drew | exact hB2.out.drew.below (below1 _ _))).mono ?_; rintro e w3 ⟨b3, rfl, hR3, hlt3, hB3⟩; have hz3 := hB3.size; (try simp only [World.size_drew] at hz3); (try simp only [World.size_alloc] at hz3); (try simp only [World.size_drew] at hz3); (have hA3 : Blk w3 w.heap.size 30 (bsv [m0, m1, m2, m3, m4, m5, m6, m7]).toArray := by first | exact hA2.drew.below hB3 (by first | omega | (simp; omega) | (simp; done)) | exact (hA2.drew.old _).below hB3 (by first | omega | (simp; omega) | (simp; done))); obtain ⟨⟨k0, k1, k2, k3⟩, k4, k5, k6, k7⟩ := hA3.at8; have hlA := hA3.lt; try (have hZ3 : Blk w3 W2.heap.size 30 (bsv zeroN).toArray := (Blk.new W2.drew 30 (bsv zeroN).toArray).below hB3 (by simp)))
      | (go_simp; go_at_call 156; refine (RC.out _ _ (by first | exact NS18.out _ _ hR3 | exact NS18.out _ _ (hR3.old _))).mono ?_; rintro e w4 ⟨c0, c1, c2, c3, c4, c5, c6, c7, rfl, HR, hB4⟩; have hz4 := hB4.size; (try simp only [World.size_drew] at hz4); (try simp only [World.size_alloc] at hz4); (try simp only [World.size_drew] at hz4); first | (have hZ4 := hZ3.below hB4 (by first | omega | (simp; omega) | (simp; done)); obtain ⟨⟨d0, d1, d2, d3⟩, ⟨d4, d5, d6, d7⟩, df⟩ := hZ4.zero8) | (have hZ4 := (Blk.new w3 30 (bsv zeroN).toArray).below hB4 (by simp); obtain ⟨⟨d0, d1, d2, d3⟩, ⟨d4, d5, d6, d7⟩, df⟩ := hZ4.zero8) | skip))
    all_goals
      go_wp2_with fail
      go_meet
      have hV3 : Below W2.heap.size W2 w3 := by first | exact (Below.refl _ _).drew.trans (hB3.mono (by first | omega | (simp; omega) | (simp; done))) | exact ((Below.refl _ _).alloc (Nat.le_refl _) _).drew.trans (hB3.mono (by first | omega | (simp; omega) | (simp; done)))
      have hV4 : Below W2.heap.size W2 w4 := by first | exact hV3.trans (hB4.mono (by first | omega | (simp; omega) | (simp; done))) | exact (hV3.alloc hV3.size _).trans (hB4.mono (by first | omega | (simp; omega) | (simp; done)))
      rw [HR.out]
      first
        | exact ⟨_, rfl, hZ4.set8 c0 c1 c2 c3 c4 c5 c6 c7, below_set8 hV4 (by first | omega | (simp; omega) | (simp; done)) c0 c1 c2 c3 c4 c5 c6 c7⟩
        | exact ⟨_, rfl, Blk.new w4 _ _, hV4.alloc hV4.size _⟩
  case rest =>
    obtain ⟨g, rfl, hR, hB⟩ := hcut
    obtain ⟨r0, r1, r2, r3, r4, r5, r6, r7, rfl, _⟩ := NR.out.cases
    have hN3 := hN2.below hB hz2
    have hV3 := hV2.trans (hB.mono hV2.size)
    have hB3 := Lib.hid (HV.out.below hV3)
    have hz3 := hN3.lt
    have hlA3 := hR.lt
    clear hA2 hN2 hB2 q0 q1 q2 q3 q4 q5 q6 q7 hB
    obtain ⟨⟨q0, q1, q2, q3⟩, q4, q5, q6, q7⟩ := hR.at8
    go_upto_region 2 with (fail)
    go_cut [11] (fun s11 wx => ∃ g : Nat, s11 = .pointer (some ⟨g, 0, none⟩) ∧ Blk wx g 30 (bsv (mfollow 5 [r0, r1, r2, r3, r4, r5, r6, r7] j P)).toArray ∧ Below wc.heap.size wc wx)
    case first =>
      go_region_law (first
        | (go_simp; go_at_call 157; refine (NM5.out _ (by first | exact hB3.out.drew | exact hB3.out.drew.below (below1 _ _))).mono ?_; rintro e w3 ⟨b3, rfl, hR3, hlt3, hB3⟩; have hz3 := hB3.size; (try simp only [World.size_drew] at hz3); (try simp only [World.size_alloc] at hz3); (try simp only [World.size_drew] at hz3); (have hA3 : Blk w3 g 30 (bsv [r0, r1, r2, r3, r4, r5, r6, r7]).toArray := by first | exact hR.drew.below hB3 (by first | omega | (simp; omega) | (simp; done)) | exact (hR.drew.old _).below hB3 (by first | omega | (simp; omega) | (simp; done))); obtain ⟨⟨k0, k1, k2, k3⟩, k4, k5, k6, k7⟩ := hA3.at8; have hlA := hA3.lt; try (have hZ3 : Blk w3 wc.heap.size 30 (bsv zeroN).toArray := (Blk.new wc.drew 30 (bsv zeroN).toArray).below hB3 (by simp)))
        | (go_simp; go_at_call 158; refine (FW.out _ _ _ NR.out (by first | exact NS5.out _ _ hR3 | exact NS5.out _ _ (hR3.old _))).mono ?_; rintro e w4 ⟨c0, c1, c2, c3, c4, c5, c6, c7, rfl, HR, hB4⟩; have hz4 := hB4.size; (try simp only [World.size_drew] at hz4); (try simp only [World.size_alloc] at hz4); (try simp only [World.size_drew] at hz4); first | (have hZ4 := hZ3.below hB4 (by first | omega | (simp; omega) | (simp; done)); obtain ⟨⟨d0, d1, d2, d3⟩, ⟨d4, d5, d6, d7⟩, df⟩ := hZ4.zero8) | (have hZ4 := (Blk.new w3 30 (bsv zeroN).toArray).below hB4 (by simp); obtain ⟨⟨d0, d1, d2, d3⟩, ⟨d4, d5, d6, d7⟩, df⟩ := hZ4.zero8) | skip))
      all_goals
        go_wp2_with fail
        go_meet
        have hV3 : Below wc.heap.size wc w3 := by first | exact (Below.refl _ _).drew.trans (hB3.mono (by first | omega | (simp; omega) | (simp; done))) | exact ((Below.refl _ _).alloc (Nat.le_refl _) _).drew.trans (hB3.mono (by first | omega | (simp; omega) | (simp; done)))
        have hV4 : Below wc.heap.size wc w4 := by first | exact hV3.trans (hB4.mono (by first | omega | (simp; omega) | (simp; done))) | exact (hV3.alloc hV3.size _).trans (hB4.mono (by first | omega | (simp; omega) | (simp; done)))
        rw [HR.out]
        first
          | exact ⟨_, rfl, hZ4.set8 c0 c1 c2 c3 c4 c5 c6 c7, below_set8 hV4 (by first | omega | (simp; omega) | (simp; done)) c0 c1 c2 c3 c4 c5 c6 c7⟩
          | exact ⟨_, rfl, Blk.new w4 _ _, hV4.alloc hV4.size _⟩
    case rest =>
      obtain ⟨g5, rfl, hR5, hB5⟩ := hcut
      have hN5 := hN3.below hB5 hz3
      have HNF := Lib.hid (NF.out [r0, r1, r2, r3, r4, r5, r6, r7])
      generalize hz : mfollow 5 [r0, r1, r2, r3, r4, r5, r6, r7] j P = z at *
      have HZ := Lib.hid hz
      clear hz
      have hV5 := hV3.trans (hB5.mono hV3.size)
      go_wp2_with (first
        | (refine wpList_load_name _ rfl (.tmp 11) rfl g5 rfl _ _ hR5 HNF.out.1 ?_)
        | (refine wpList_store_name _ rfl (.tmp 8) (.tmp 31) rfl (w.heap.size + 1) rfl _ rfl _ _ hN5 rfl HNF.out.1 ?_; intro w7 hN7 hg7))
      exact ret_name rfl (w.heap.size + 1) _ _ rfl rfl hN7 HNF.out.1 ⟨by rw [HZ.out], hV5.grown hg7 hV5.size (by intro j hj; cases hj; omega)⟩
end
section
open Go.RowKit

theorem leafOf_bd {l : List Int} (h : Byt l) : 0 ≤ leafOf l ∧ leafOf l < 65536 := by
  have h0 := h.getD 0; have h1 := h.getD 1
  unfold leafOf; omega
theorem mver_no {P : List Int} {lv : Int} {m l : List Int} (h : ¬ ((lv = 1 ∨ lv = 2) ∧ (l.length : Int) = sizeOf lv ∧ leafOf l < capOf lv)) : mver P lv m l = false := by
  unfold mver
  by_cases h1 : lv = 1 ∨ lv = 2 <;> by_cases h2 : (l.length : Int) = sizeOf lv <;> by_cases h3 : leafOf l < capOf lv <;> simp [h1, h2, h3]
  exact absurd ⟨h1, h2, h3⟩ h
theorem mver_yes {P : List Int} {lv : Int} {m l : List Int} (h1 : lv = 1 ∨ lv = 2) (h2 : (l.length : Int) = sizeOf lv) (h3 : leafOf l < capOf lv) : mver P lv m l = decide (mtop lv m l = P) := by
  unfold mver
  simp [h1, h2, h3]

set_option maxHeartbeats 4000000 in
theorem verify_any (P m l : List Int) (lv : Int) (v : Value) (w : World) (hP : IsN P) (hm : IsN m) (h : Bs w v l) (hlv : -9223372036854775808 ≤ lv ∧ lv ≤ 9223372036854775807) :
    Calls Try.prog 28 #[nv P, .int .i64 lv, nv m, v] w fun e w' => e = .returned (.bool (mver P lv m l)) ∧ Below w.heap.size w w' := by
  have HS := Lib.hid h
  have HP := Lib.hid hP
  have HM := Lib.hid hm
  have hle := h.1.le
  have SZ := Lib.hid (fun w => size_any lv w hlv.1 hlv.2)
  have CP := Lib.hid (fun w => capacity_any lv w hlv.1 hlv.2)
  obtain ⟨hf0, hf1⟩ := leafOf_bd h.2
  obtain ⟨a, cap, rfl, _, _, _, _, _, _⟩ := id h.1
  by_cases h2 : 2 ≤ l.length
  · have LF := Lib.hid (fun w h => leaf_yes l (.slice a l.length cap) w h h2)
    by_cases hsz : (l.length : Int) = sizeOf lv
    · have hl12 : lv = 1 ∨ lv = 2 := by
        by_cases h1 : lv = 1
        · exact .inl h1
        · by_cases h3 : lv = 2
          · exact .inr h3
          · rw [sizeOf, if_neg h1, if_neg h3] at hsz; omega
      by_cases hcp : leafOf l < capOf lv
      · have HV := Lib.hid (mver_yes (P := P) (m := m) hl12 hsz hcp)
        have hlen : 186 ≤ l.length := by rcases hl12 with rfl | rfl <;> simp [sizeOf] at hsz <;> omega
        have hb2 : ((l.length : Int) != sizeOf lv) = false := by simpa using hsz
        have hb3 : decide (capOf lv ≤ leafOf l) = false := by simpa using hcp
        have CL := Lib.hid (fun w h => climbed_any l (.slice a l.length cap) 2 (leafOf l % 32) m w h (by omega) (by omega) ⟨by omega, by omega⟩ hm)
        rcases hl12 with rfl | rfl
        · have HT : Hid (mtop 1 m l = mclimb l 2 (leafOf l % 32) m) := if_neg (by omega)
          have HR := Lib.hid (mclimb_isN l 2 (leafOf l % 32) m)
          generalize mclimb l 2 (leafOf l % 32) m = r at *
          generalize leafOf l = lf at *
          rw [show sizeOf 1 = 186 from by simp [sizeOf]] at SZ hsz hb2
          rw [show capOf 1 = 32 from by simp [capOf]] at CP hcp hb3
          have HSZ := Lib.hid hsz
          clear h hP hm hsz
          go_enter Try.func28, Try.ntmps28
          go_wp2_with (first
            | (refine wpList_box_name rfl (.tmp 0) rfl P rfl ?_; intro w1 hA1 hB1 hs1)
            | (refine wpList_box_name rfl (.tmp 2) rfl m rfl ?_; intro w2 hM2 hB2 hs2; refine hold ?_))
          refine Lib.hid ?_
          rw [hs1] at hM2
          have hA2 := hA1.below hB2 (by omega)
          have hV2 := hB1.trans (hB2.mono (by omega))
          clear hs1 hs2 hB1 hB2 hA1
          go_wp2_with (first
            | (go_at_call 20; refine (LF.out _ (by exact HS.out.below hV2)).mono ?_; rintro e w3 ⟨rfl, rfl⟩)
            | (go_at_call 23; refine (SZ.out _).mono ?_; rintro e w3 ⟨rfl, rfl⟩)
            | (go_at_call 21; refine (CP.out _).mono ?_; rintro e w3 ⟨rfl, rfl⟩)
            | (refine wpList_load_name _ rfl (.tmp 6) rfl (w.heap.size + 1) rfl _ _ hM2 HM.out.1 ?_)
            | (go_at_call_of 87 (Value.int IntKind.i64 2); refine (CL.out _ (by exact HS.out.below hV2)).mono ?_; rintro e w4 ⟨rfl, hB4⟩; have hA4 := hA2.below hB4 hA2.lt; have hV4 := hV2.trans (hB4.mono hV2.size); have hz4 := hV4.size)
            | (refine wpList_store_name _ rfl (.tmp 11) (.tmp 36) rfl w4.heap.size rfl _ rfl _ _ (Blk.new w4 30 (bsv zeroN).toArray) rfl HR.out.1 ?_; intro w5 hR5 hg5; have hA5 := (hA4.old _).grown hg5 (fun e => by injection e; have := hA4.lt; omega); have hV5 := (hV4.alloc hV4.size _).grown hg5 (by simp; omega) (by intro j hj; cases hj; omega))
            | (refine wpList_load_name _ rfl (.tmp 11) rfl w4.heap.size rfl _ _ hR5 HR.out.1 ?_)
            | (refine wpList_load_name _ rfl (.tmp 4) rfl w.heap.size rfl _ _ hA5 HP.out.1 ?_)
            | (refine wpList_eql_name rfl (.tmp 44) (.tmp 45) rfl _ _ rfl rfl HR.out.1 HP.out.1 ?_))
          go_ret
          exact ⟨by rw [HV.out, HT.out]; rfl, hV5⟩
        · have HT : Hid (mtop 2 m l = mclimb l 186 (leafOf l / 32) (mclimb l 2 (leafOf l % 32) m)) := if_pos rfl
          have hl370 : 370 ≤ l.length := by simp [sizeOf] at hsz; omega
          have hcp' : leafOf l < 1024 := by simpa [capOf] using hcp
          have hr := mclimb_isN l 2 (leafOf l % 32) m
          have CL2 := Lib.hid (fun w h => climbed_any l (.slice a l.length cap) 186 (leafOf l / 32) (mclimb l 2 (leafOf l % 32) m) w h (by omega) (by omega) ⟨by omega, by omega⟩ hr)
          have HR := Lib.hid hr
          have HR2 := Lib.hid (mclimb_isN l 186 (leafOf l / 32) (mclimb l 2 (leafOf l % 32) m))
          generalize mclimb l 186 (leafOf l / 32) (mclimb l 2 (leafOf l % 32) m) = r2 at *
          generalize mclimb l 2 (leafOf l % 32) m = r at *
          generalize leafOf l = lf at *
          clear hr
          rw [show sizeOf 2 = 370 from by simp [sizeOf]] at SZ hsz hb2
          rw [show capOf 2 = 1024 from by simp [capOf]] at CP hcp hb3
          have HSZ := Lib.hid hsz
          clear h hP hm hsz
          go_enter Try.func28, Try.ntmps28
          go_wp2_with (first
            | (refine wpList_box_name rfl (.tmp 0) rfl P rfl ?_; intro w1 hA1 hB1 hs1)
            | (refine wpList_box_name rfl (.tmp 2) rfl m rfl ?_; intro w2 hM2 hB2 hs2; refine hold ?_))
          refine Lib.hid ?_
          rw [hs1] at hM2
          have hA2 := hA1.below hB2 (by omega)
          have hV2 := hB1.trans (hB2.mono (by omega))
          clear hs1 hs2 hB1 hB2 hA1
          go_wp2_with (first
            | (go_at_call 20; refine (LF.out _ (by exact HS.out.below hV2)).mono ?_; rintro e w3 ⟨rfl, rfl⟩)
            | (go_at_call 23; refine (SZ.out _).mono ?_; rintro e w3 ⟨rfl, rfl⟩)
            | (go_at_call 21; refine (CP.out _).mono ?_; rintro e w3 ⟨rfl, rfl⟩)
            | (refine wpList_load_name _ rfl (.tmp 6) rfl (w.heap.size + 1) rfl _ _ hM2 HM.out.1 ?_)
            | (go_at_call_of 87 (Value.int IntKind.i64 2); refine (CL.out _ (by exact HS.out.below hV2)).mono ?_; rintro e w4 ⟨rfl, hB4⟩; have hA4 := hA2.below hB4 hA2.lt; have hV4 := hV2.trans (hB4.mono hV2.size); have hz4 := hV4.size)
            | (refine wpList_store_name _ rfl (.tmp 11) (.tmp 36) rfl w4.heap.size rfl _ rfl _ _ (Blk.new w4 30 (bsv zeroN).toArray) rfl HR.out.1 ?_; intro w5 hR5 hg5; have hA5 := (hA4.old _).grown hg5 (fun e => by injection e; have := hA4.lt; omega); have hV5 := (hV4.alloc hV4.size _).grown hg5 (by simp; omega) (by intro j hj; cases hj; omega))
            | (refine wpList_load_name _ rfl (.tmp 11) rfl w4.heap.size rfl _ _ hR7 HR2.out.1 ?_)
            | (refine wpList_load_name _ rfl (.tmp 11) rfl w4.heap.size rfl _ _ hR5 HR.out.1 ?_)
            | (go_at_call_of 87 (Value.int IntKind.i64 186); refine (CL2.out _ (by exact HS.out.below hV5)).mono ?_; rintro e w6 ⟨rfl, hB6⟩; have hA6 := hA5.below hB6 hA5.lt; have hR6 := hR5.below hB6 hR5.lt; have hV6 := hV5.trans (hB6.mono hV5.size))
            | (refine wpList_store_name _ rfl (.tmp 11) (.tmp 43) rfl w4.heap.size rfl _ rfl _ _ hR6 (by simp [bsv_length, HR.out.1]) HR2.out.1 ?_; intro w7 hR7 hg7; have hA7 := hA6.grown hg7 (fun e => by injection e; have := hA4.lt; omega); have hV7 := hV6.grown hg7 hV6.size (by intro j hj; cases hj; omega))
            | (refine wpList_load_name _ rfl (.tmp 4) rfl w.heap.size rfl _ _ hA7 HP.out.1 ?_)
            | (refine wpList_eql_name rfl (.tmp 44) (.tmp 45) rfl _ _ rfl rfl HR2.out.1 HP.out.1 ?_))
          go_ret
          exact ⟨by rw [HV.out, HT.out]; rfl, hV7⟩
      · have HV := Lib.hid (mver_no (P := P) (m := m) (l := l) (lv := lv) (fun e => hcp e.2.2))
        have hb2 : ((l.length : Int) != sizeOf lv) = false := by simpa using hsz
        have hb3 : decide (capOf lv ≤ leafOf l) = true := by simp; omega
        generalize leafOf l = lf at *
        generalize sizeOf lv = sz at *
        generalize capOf lv = cp at *
        clear h hP hm hsz hcp hl12
        go_enter Try.func28, Try.ntmps28
        go_wp2_with (first
            | (refine wpList_box_name rfl (.tmp 0) rfl P rfl ?_; intro w1 hA1 hB1 hs1)
            | (refine wpList_box_name rfl (.tmp 2) rfl m rfl ?_; intro w2 hM2 hB2 hs2; refine hold ?_))
        refine Lib.hid ?_
        rw [hs1] at hM2
        have hA2 := hA1.below hB2 (by omega)
        have hV2 := hB1.trans (hB2.mono (by omega))
        clear hs1 hs2 hB1 hB2 hA1
        go_wp2_with (first
            | (go_at_call 20; refine (LF.out _ (by exact HS.out.below hV2)).mono ?_; rintro e w3 ⟨rfl, rfl⟩)
            | (go_at_call 23; refine (SZ.out _).mono ?_; rintro e w3 ⟨rfl, rfl⟩)
            | (go_at_call 21; refine (CP.out _).mono ?_; rintro e w3 ⟨rfl, rfl⟩))
        go_ret
        exact ⟨by rw [HV.out]; rfl, hV2⟩
    · have HV := Lib.hid (mver_no (P := P) (m := m) (l := l) (lv := lv) (fun e => hsz e.2.1))
      have hb2 : ((l.length : Int) != sizeOf lv) = true := by simpa using hsz
      generalize leafOf l = lf at *
      generalize sizeOf lv = sz at *
      clear h hP hm hsz
      go_enter Try.func28, Try.ntmps28
      go_wp2_with (first
          | (refine wpList_box_name rfl (.tmp 0) rfl P rfl ?_; intro w1 hA1 hB1 hs1)
          | (refine wpList_box_name rfl (.tmp 2) rfl m rfl ?_; intro w2 hM2 hB2 hs2; refine hold ?_))
      refine Lib.hid ?_
      rw [hs1] at hM2
      have hA2 := hA1.below hB2 (by omega)
      have hV2 := hB1.trans (hB2.mono (by omega))
      clear hs1 hs2 hB1 hB2 hA1
      go_wp2_with (first
            | (go_at_call 20; refine (LF.out _ (by exact HS.out.below hV2)).mono ?_; rintro e w3 ⟨rfl, rfl⟩)
            | (go_at_call 23; refine (SZ.out _).mono ?_; rintro e w3 ⟨rfl, rfl⟩)
            | (go_at_call 21; refine (CP.out _).mono ?_; rintro e w3 ⟨rfl, rfl⟩))
      go_ret
      exact ⟨by rw [HV.out]; rfl, hV2⟩
  · have hno : ¬ ((lv = 1 ∨ lv = 2) ∧ (l.length : Int) = sizeOf lv ∧ leafOf l < capOf lv) := by
      rintro ⟨rfl | rfl, e, _⟩ <;> simp [sizeOf] at e <;> omega
    have HV := Lib.hid (mver_no (P := P) (m := m) hno)
    have LF := Lib.hid (fun w h => leaf_no l (.slice a l.length cap) w h h2)
    clear h hP hm hno
    go_enter Try.func28, Try.ntmps28
    go_wp2_with (first
        | (refine wpList_box_name rfl (.tmp 0) rfl P rfl ?_; intro w1 hA1 hB1 hs1)
        | (refine wpList_box_name rfl (.tmp 2) rfl m rfl ?_; intro w2 hM2 hB2 hs2; refine hold ?_))
    refine Lib.hid ?_
    rw [hs1] at hM2
    have hA2 := hA1.below hB2 (by omega)
    have hV2 := hB1.trans (hB2.mono (by omega))
    clear hs1 hs2 hB1 hB2 hA1
    go_wp2_with (first
            | (go_at_call 20; refine (LF.out _ (by exact HS.out.below hV2)).mono ?_; rintro e w3 ⟨rfl, rfl⟩)
            | (go_at_call 23; refine (SZ.out _).mono ?_; rintro e w3 ⟨rfl, rfl⟩)
            | (go_at_call 21; refine (CP.out _).mono ?_; rintro e w3 ⟨rfl, rfl⟩))
    go_ret
    exact ⟨by rw [HV.out]; rfl, hV2⟩
end
end Go.Proofs.Ytilhceihelcdgaa
