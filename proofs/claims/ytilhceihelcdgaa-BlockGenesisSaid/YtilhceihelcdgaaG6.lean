/-
  A genesis is read out of its text.
-/
import Derived.Test.YtilhceihelcdgaaG5
namespace Go.Proofs.Ytilhceihelcdgaa
open Go.RowKit

theorem info_name9 : (Try.prog.info? 30).map (fun i => (i.zero, i.size, i.bytes)) = some (some (nv zeroN), 8, 8) := info_name
/-- Where an owned slice does not lie. -/
theorem own_kept {w w' : World} {base e sz n : Nat} {v : Value} {xs : List Value} {row : Option Nat} (h : w.ownsRow base e sz v n xs) (hg : w.grownBy w' row) (hne : ∀ k, v.ownBlock = some k → row ≠ some k) : w'.ownsRow base e sz v n xs := by
  refine World.ownsRow.kept h hg ?_
  rcases hv : v.ownBlock with _ | k
  · exact .inl rfl
  · exact .inr (fun e => hne k hv e.symm)
theorem info_int9 : (Try.prog.info? 3).map (fun i => (i.zero, i.size, i.bytes)) = some (some (.int .i64 0), 1, 8) := info_int
/-- Two owned slices lie apart. -/
def Apt (u z : Value) : Prop := ∀ k, u.ownBlock = some k → z.ownBlock ≠ some k
theorem Apt.nil (z : Value) : Apt (.slice none 0 0) z := fun k h => by cases h
theorem Apt.left {w : World} {u u' z : Value} (h : Apt u z) (hl : Lies w u u') (hz : ∀ k, z.ownBlock = some k → k < w.heap.size) : Apt u' z := fun k hk e => by
  rcases hl with hl | ⟨g, h1, h2⟩
  · rw [hl] at hk; exact h k hk e
  · rw [h1] at hk; injection hk with hk; subst hk; have := hz _ e; omega
theorem Apt.right {w : World} {u z z' : Value} (h : Apt u z) (hl : Lies w z z') (hu : ∀ k, u.ownBlock = some k → k < w.heap.size) : Apt u z' := fun k hk e => by
  rcases hl with hl | ⟨g, h1, h2⟩
  · rw [hl] at e; exact h k hk e
  · rw [h1] at e; injection e with e; subst e; have := hu _ hk; omega
set_option maxRecDepth 100000 in
set_option maxHeartbeats 16000000 in
theorem decodeGenesis_ok (n st : Int) (V A : List (List Int)) (B : List Int) (t : Value) (w : World) (hV : ∀ x ∈ V, IsN x) (hA : ∀ x ∈ A, IsN x) (hBr : ∀ x ∈ B, -9223372036854775808 ≤ x ∧ x ≤ 9223372036854775807) (hok : GOk n st V A B) (h : Bs w t (encG n st V A B)) :
    Calls Try.prog 51 #[t] w fun e w' => ∃ a b c, e = .returned (.tuple #[.agg (gnv n st a b c).toArray, .int .i64 0]) ∧ Ns w' a V ∧ Ns w' b A ∧ Ig w' c B ∧ Below w.heap.size w w' := by
  have HVV := Lib.hid hV
  have HAA := Lib.hid hA
  have HBB := Lib.hid hBr
  have HK := Lib.hid hok
  have H := Lib.hid h
  have HLd := Lib.hid (gd_len (n := n) (st := st) (B := B) hV hA)
  have HO := Lib.hid (fun w h => open_ok (encG n st V A B) t 1 w h (by simp [kindOf, encG, encGh]) (by have := congrArg List.length (encG_drop n st V A B); rw [List.length_drop, HLd.out] at this; omega))
  rw [encG_drop] at HO
  obtain ⟨⟨hn1, hn7⟩, ⟨hv1, hv10, hnv⟩, ⟨ha1, ha16⟩, hab, hst, hbs⟩ := hok
  have HAB := Lib.hid hab
  have hst0 : 0 ≤ st ∧ st ≤ 1099511627776 := hst
  have C0 := Lib.hid (fun P u w hb hv => cuint_any P (encGd n st V A B) u 0 1 false w hb hv (by omega) (by omega) (by omega))
  rw [curU_of (q := 0) (n := 1) (gd0 n st V A B) rfl (by omega), numOf_one] at C0
  have C1 := Lib.hid (fun P u w hb hv => cuint_any P (encGd n st V A B) u 1 6 false w hb hv (by omega) (by omega) (by rw [HLd.out]; omega))
  obtain ⟨r1, hr1⟩ := gd1 n st V A B
  rw [curU_of (q := 1) (n := 6) hr1 (beB_len _ _) (by omega), numOf_beB6 hst0.1 hst0.2] at C1
  have C7 := Lib.hid (fun P u w hb hv => cuint_any P (encGd n st V A B) u 7 1 false w hb hv (by omega) (by omega) (by rw [HLd.out]; omega))
  rw [curU_of (q := 7) (n := 1) (gd7 n st V A B) rfl (by omega), numOf_one] at C7
  have CV := Lib.hid (fun k (hk : k < V.length) P u w hb hv => cname_any P (encGd n st V A B) u (8 + 8 * k) false w hb hv (by rw [HLd.out]; omega))
  have CA := Lib.hid (fun P u w hb hv => cuint_any P (encGd n st V A B) u (8 + 8 * V.length) 1 false w hb hv (by omega) (by omega) (by rw [HLd.out]; omega))
  rw [curU_of (q := 8 + 8 * V.length) (n := 1) (gdA hV) rfl (by omega), numOf_one] at CA
  have CB := Lib.hid (fun k (hk : k < A.length) P u w hb hv => cname_any P (encGd n st V A B) u (9 + 8 * V.length + 14 * k) false w hb hv (by rw [HLd.out]; omega))
  have CC := Lib.hid (fun k (hk : k < A.length) P u w hb hv => cuint_any P (encGd n st V A B) u (9 + 8 * V.length + 14 * k + 8) 6 false w hb hv (by omega) (by omega) (by rw [HLd.out]; omega))
  have GV := Lib.hid (fun k hk => gdV (n := n) (st := st) (A := A) (B := B) hV k hk)
  have GB := Lib.hid (fun k hk => gdB (n := n) (st := st) (B := B) hV hA k hk)
  have VG := Lib.hid (fun a b c w h1 h2 h3 => validateGenesis_any n st V A B a b c w h1 h2 h3)
  rw [gerr_yes HK.out] at VG
  have HBS := Lib.hid hbs
  have CD := Lib.hid (fun P u w hb hv => cdone_any P (encGd n st V A B) u (9 + 8 * V.length + 14 * A.length) false w hb hv)
  rw [show (!false && decide (9 + 8 * V.length + 14 * A.length = (encGd n st V A B).length)) = true by rw [HLd.out]; simp] at CD
  obtain ⟨at0, cap, rfl, hnc, hcm, _, _, _, hc⟩ := id h.1
  clear hc h hV hA hBr hab hst hbs hr1
  generalize encGd n st V A B = D at *
  have hZ0 := Blk.new w 67 zeroGen.toArray
  go_enter Try.func51, Try.ntmps51
  go_wp2_with (first
    | (go_at_call 103; refine (HO.out _ (by exact H.out.below (below1 w (.cells zeroGen.toArray 67)))).mono ?_; rintro e w1 ⟨P, u, rfl, hP, hC1, hU1, hB1⟩; have hzp : w.heap.size < P := by simp at hP; omega)
    | (go_at_call 104; refine hold ?_))
  refine Lib.hid ?_
  refine (C0.out P u _ hC1 (hU1.below hB1)).mono ?_
  rintro e w2 ⟨rfl, hC2, hg2⟩
  have hB2 := hB1.grown hg2 hB1.size (fun k hk => by injection hk; simp; omega)
  go_wp2_with fail
  refine (C1.out P u _ hC2 (hU1.below hB2)).mono ?_
  rintro e w3 ⟨rfl, hC3, hg3⟩
  have hB3 := hB2.grown hg3 hB2.size (fun k hk => by injection hk; simp; omega)
  have hzP3 := hC3.lt
  go_wp2_with fail
  have hB3' := hB3.alloc hB3.size (.cells (gnv n st (.slice none 0 0) (.slice none 0 0) (.slice none 0 0)).toArray 67)
  have hG3 := Blk.new w3 67 (gnv n st (.slice none 0 0) (.slice none 0 0) (.slice none 0 0)).toArray
  refine (C7.out P u _ (by exact hC3.old _) (by exact hU1.below hB3')).mono ?_
  rintro e w4 ⟨rfl, hC4, hg4⟩
  have hB4 := hB3'.grown hg4 hB3'.size (fun k hk => by injection hk; simp; omega)
  have hG4 := hG3.grown hg4 (fun e => by injection e; omega)
  generalize w3.heap.size = G at *
  have HU1 := Lib.hid hU1
  have HC4 := Lib.hid hC4
  have HB4 := Lib.hid hB4
  have HG4 := Lib.hid hG4
  have HZ0 := Lib.hid hZ0
  clear hC1 hC2 hC3 hC4 hB1 hB2 hB3 hB3' hB4 hG3 hG4 hg2 hg3 hg4 hU1 hZ0 HO C0 C1 C7
  go_wp2
  go_loopw [15] (fun i wr => ∃ (k : Nat) (v : Value), k ≤ V.length ∧ i = .int .i64 k ∧ OwN wr (G + 1) v (V.take k) ∧ Blk wr G 67 (gnv n st v (.slice none 0 0) (.slice none 0 0)).toArray ∧ Blk wr P 215 #[u, .int .i64 ((8 + 8 * k : Nat) : Int), .bool false] ∧ Below (w.alloc (.cells zeroGen.toArray 67)).heap.size (w.alloc (.cells zeroGen.toArray 67)) wr) (fun i _ => V.length - (intOf i).toNat)
  case atStart => exact ⟨0, _, Nat.zero_le _, rfl, World.ownsRow_nil _ _ _ _, HG4.out, HC4.out, HB4.out⟩
  case round =>
    obtain ⟨k, v, hk, rfl, hO, hG, hC, hB⟩ := hrel
    have HOr := Lib.hid hO
    have HGr := Lib.hid hG
    have HCr := Lib.hid hC
    have HBr := Lib.hid hB
    clear hO hG hC hB
    by_cases hlt : k < V.length
    · have hkl : (k : Int) < (V.length : Int) := by omega
      have hnm := HVV.out _ (List.getElem_mem hlt)
      obtain ⟨r, hr⟩ := GV.out k hlt
      have HM := Lib.hid (CV.out k hlt P u)
      have htk : Hid (V.take (k + 1) = V.take k ++ [V[k]]) := Lib.hid (List.take_succ_eq_append_getElem hlt)
      generalize V[k] = nm at *
      rw [curN_of hr hnm.1] at HM
      obtain ⟨n0, n1, n2, n3, n4, n5, n6, n7, rfl, _⟩ := hnm.cases
      rw [show nv [n0, n1, n2, n3, n4, n5, n6, n7] = (.agg #[.int .u8 n0, .int .u8 n1, .int .u8 n2, .int .u8 n3, .int .u8 n4, .int .u8 n5, .int .u8 n6, .int .u8 n7]) from rfl] at HM
      have c8 : wr.cell? ⟨G, 2, none⟩ = some v := HGr.out.cell 2
      have f8 := HGr.out.free 2
      have HTK := Lib.hid (show (V.take k).length = k by rw [List.length_take]; omega)
      clear hr hnm
      go_wp2_with fail
      go_region_law (first
        | (go_simp; go_at_call 111; refine (HM.out _ HCr.out.drew (HU1.out.below HBr.out.drew)).mono ?_; rintro e w5 ⟨rfl, hC5, hg5⟩; have hG5 := HGr.out.drew.grown hg5 (fun e => by injection e; omega); have hB5 := HBr.out.drew.grown hg5 HBr.out.size (fun k hk => by injection hk; simp; omega); have hO5 : OwN w5 (G + 1) v (V.take k) := own_grown HOr.out (grown_trans (grown_of_below (Below.refl _ _).drew) hg5) (fun k hk => by injection hk; omega); have c85 : w5.cell? ⟨G, 2, none⟩ = some v := hG5.cell 2; have f85 := hG5.free 2; have hl5 := hG5.lt)
        | (refine step_app rfl (.tmp 18) (.tmp 21) _ rfl (G + 1) 30 _ 8 8 un_names info_name rfl (by omega) v _ _ rfl (World.ownsRow.alloc hO5 _) _ 1 (bsv [n0, n1, n2, n3, n4, n5, n6, n7]) rfl (Sl.row w5 _ _ 8 rfl) (bsv_one _) (by rw [HTK.out]; omega) (by omega) (by simp; omega) ?_; intro v7 w7 hO7 hg7; have hG7 : Blk w7 G 67 _ := (hG5.old (.cells (bsv [n0, n1, n2, n3, n4, n5, n6, n7]).toArray 30)).grown hg7 (own_ne hO5 (by omega)); have hC7 := (hC5.old (.cells (bsv [n0, n1, n2, n3, n4, n5, n6, n7]).toArray 30)).grown hg7 (own_ne hO5 (by omega)); have hB7 := (hB5.alloc hB5.size (.cells (bsv [n0, n1, n2, n3, n4, n5, n6, n7]).toArray 30)).grown hg7 (by have := hB5.size; simp at this ⊢; omega) (fun k hk => by have := (World.ownsRow.lt hO5 k hk).1; simp; omega); have c87 : w7.cell? ⟨G, 2, none⟩ = some v := hG7.cell 2; have f87 := hG7.free 2; obtain ⟨a7, cap7, rfl, _⟩ := Sl.of_owns hO7 (by rw [HTK.out]; omega)))
      all_goals
        have hO8 : OwN w7 (G + 1) (.slice a7 (k + 1) cap7) (V.take (k + 1)) := by
          unfold OwN
          rw [htk.out, List.length_append, List.flatten_append, bsv_append]
          have := hO7
          rw [HTK.out] at this
          rw [HTK.out]
          simpa using this
        have HO9 := Lib.hid (show OwN _ (G + 1) (.slice a7 (k + 1) cap7) (V.take (k + 1)) from own_grown hO8 (grown_set (grown_refl w7 (some G)) 2 (.slice a7 (k + 1) cap7)) (fun k hk => by injection hk; omega))
        have hG9 : Blk (w7.setCell ⟨G, 2, none⟩ (.slice a7 (k + 1) cap7)) G 67 (gnv n st (.slice a7 (k + 1) cap7) (.slice none 0 0) (.slice none 0 0)).toArray := hG7.set 2 (.slice a7 (k + 1) cap7)
        have HG9 := Lib.hid hG9
        have hC9 := hC7.other ⟨G, 2, none⟩ (.slice a7 (k + 1) cap7) (by simp; omega)
        rw [show 8 + 8 * k + 8 = 8 + 8 * (k + 1) by omega] at hC9
        have HC9 := Lib.hid hC9
        have HB9 := Lib.hid (hB7.setCell (p := ⟨G, 2, none⟩) (by simp; omega) (.slice a7 (k + 1) cap7))
        clear hO7 hO8 hG9 hC9 hB7 hC7 hG7 c87 f87 c85 f85 hO5 hG5 hC5 hB5 hg5 c8 f8 HM hg7
        go_wp2
        go_roundw
        case rel => exact ⟨k + 1, _, by omega, by go_num, HO9.out, HG9.out, HC9.out, HB9.out⟩
        case measure => simp [intOf]; omega
    · obtain rfl : k = V.length := by omega
      have hd : decide ((V.length : Int) < (V.length : Int)) = false := by simp
      rw [List.take_length] at HOr
      go_wp2_with fail
      refine (CA.out P u _ HCr.out (HU1.out.below HBr.out)).mono ?_
      rintro e wb ⟨rfl, hC5, hg5⟩
      have hBb := HBr.out.grown hg5 HBr.out.size (fun k hk => by injection hk; simp; omega)
      have hGb := HGr.out.grown hg5 (fun e => by injection e; omega)
      have hOb : OwN wb (G + 1) v V := own_grown HOr.out hg5 (fun k hk => by injection hk; omega)
      have hvz := Lib.hid (fun k hk => (World.ownsRow.lt hOb k hk).2)
      have hzG := hGb.lt
      have hzA := hBb.size
      rw [show 8 + 8 * V.length + 1 = 9 + 8 * V.length + 14 * 0 by omega] at hC5
      have HCb := Lib.hid hC5
      have HGb := Lib.hid hGb
      have HOb := Lib.hid hOb
      have HBb := Lib.hid hBb
      generalize hZ : wb.heap.size = Z at *
      have HZ := Lib.hid hZ
      clear hC5 hg5 hBb hGb hOb HOr HGr HCr HBr HC4 HB4 HG4 hZ
      go_wp2
      go_loopw [27] (fun i wr => ∃ (k : Nat) (b c : Value), k ≤ A.length ∧ i = .int .i64 k ∧ OwN wr (G + 1) v V ∧ OwN wr Z b (A.take k) ∧ OwI wr Z c (B.take k) ∧ Apt b c ∧ Blk wr G 67 (gnv n st v b c).toArray ∧ Blk wr P 215 #[u, .int .i64 ((9 + 8 * V.length + 14 * k : Nat) : Int), .bool false] ∧ Below (w.alloc (.cells zeroGen.toArray 67)).heap.size (w.alloc (.cells zeroGen.toArray 67)) wr ∧ Z ≤ wr.heap.size) (fun i _ => A.length - (intOf i).toNat)
      case atStart => exact ⟨0, _, _, Nat.zero_le _, rfl, HOb.out, World.ownsRow_nil _ _ _ _, World.ownsRow_nil _ _ _ _, Apt.nil _, HGb.out, HCb.out, HBb.out, Nat.le_of_eq HZ.out.symm⟩
      case round =>
        obtain ⟨k, b, c, hk, rfl, hV, hb, hc, hbc, hG, hC, hB, hz⟩ := hrel
        have HVr := Lib.hid hV
        have Hbr := Lib.hid hb
        have Hcr := Lib.hid hc
        have HAp := Lib.hid hbc
        have HGr := Lib.hid hG
        have HCr := Lib.hid hC
        have HBr := Lib.hid hB
        clear hV hb hc hbc hG hC hB
        by_cases hlt : k < A.length
        · have hkl : (k : Int) < (A.length : Int) := by omega
          have hkB : k < B.length := by have := HAB.out; omega
          have hnm := HAA.out _ (List.getElem_mem hlt)
          obtain ⟨r, hr⟩ := GB.out k hlt
          have HM := Lib.hid (CB.out k hlt P u)
          have HN := Lib.hid (CC.out k hlt P u)
          have hx0 : 0 ≤ idAt B k ∧ idAt B k ≤ 1099511627776 := HBS.out (idAt B k) (by unfold idAt; rw [List.getD_eq_getElem?_getD, List.getElem?_eq_getElem hkB]; exact List.getElem_mem _)
          have htk : Hid (A.take (k + 1) = A.take k ++ [A[k]]) := Lib.hid (List.take_succ_eq_append_getElem hlt)
          have htb : Hid (B.take (k + 1) = B.take k ++ [idAt B k]) := Lib.hid (by rw [List.take_succ_eq_append_getElem hkB]; unfold idAt; rw [List.getD_eq_getElem?_getD, List.getElem?_eq_getElem hkB]; rfl)
          have hr2 : D.drop (9 + 8 * V.length + 14 * k + 8) = beB (idAt B k) 6 ++ r := by rw [← List.drop_drop, hr, show 8 = A[k].length from hnm.1.symm, List.drop_left]
          generalize A[k] = nm at *
          rw [curN_of hr hnm.1] at HM
          rw [curU_of (n := 6) hr2 (beB_len _ _) (by omega), numOf_beB6 hx0.1 hx0.2] at HN
          generalize idAt B k = x at *
          obtain ⟨n0, n1, n2, n3, n4, n5, n6, n7, rfl, _⟩ := hnm.cases
          rw [show nv [n0, n1, n2, n3, n4, n5, n6, n7] = (.agg #[.int .u8 n0, .int .u8 n1, .int .u8 n2, .int .u8 n3, .int .u8 n4, .int .u8 n5, .int .u8 n6, .int .u8 n7]) from rfl] at HM
          have c8 : wr.cell? ⟨G, 3, none⟩ = some b := HGr.out.cell 3
          have f8 := HGr.out.free 3
          have HTK := Lib.hid (show (A.take k).length = k by rw [List.length_take]; omega)
          have HTB := Lib.hid (show (B.take k).length = k by rw [List.length_take]; omega)
          have HKB := Lib.hid hkB
          clear hr hr2 hnm hkB
          go_wp2_with fail
          go_region_law (first
            | (go_simp; go_at_call 111; refine (HM.out _ HCr.out.drew (HU1.out.below HBr.out.drew)).mono ?_; rintro e w5 ⟨rfl, hC5, hg5⟩; have hg5' := grown_trans (grown_of_below (r := some P) (Below.refl wr.heap.size wr).drew) hg5; have hG5 := HGr.out.grown hg5' (fun e => by injection e; omega); have hB5 := HBr.out.grown hg5' HBr.out.size (fun k hk => by injection hk; simp; omega); have hV5 : OwN w5 (G + 1) v V := own_grown HVr.out hg5' (fun k hk => by injection hk; omega); have hb5 : OwN w5 Z b (A.take k) := own_grown Hbr.out hg5' (fun k hk => by injection hk; omega); have hc5 : OwI w5 Z c (B.take k) := own_grown Hcr.out hg5' (fun k hk => by injection hk; omega); have c85 : w5.cell? ⟨G, 3, none⟩ = some b := hG5.cell 3; have f85 := hG5.free 3; have hl5 := hG5.lt; have hz5 := hg5'.size)
            | (refine step_app_at rfl (.tmp 30) (.tmp 33) _ rfl Z 30 _ 8 8 un_names info_name rfl (by omega) b _ _ rfl (World.ownsRow.alloc hb5 _) _ 1 (bsv [n0, n1, n2, n3, n4, n5, n6, n7]) rfl (Sl.row w5 _ _ 8 rfl) (bsv_one _) (by rw [HTK.out]; omega) (by omega) (by simp; omega) ?_; intro v7 w7 hO7 hg7 hL7; have hG7 : Blk w7 G 67 _ := (hG5.old (.cells (bsv [n0, n1, n2, n3, n4, n5, n6, n7]).toArray 30)).grown hg7 (own_ne hb5 (by omega)); have hC7 := (hC5.old (.cells (bsv [n0, n1, n2, n3, n4, n5, n6, n7]).toArray 30)).grown hg7 (own_ne hb5 (by omega)); have hB7 := (hB5.alloc hB5.size (.cells (bsv [n0, n1, n2, n3, n4, n5, n6, n7]).toArray 30)).grown hg7 (by have := hB5.size; simp at this ⊢; omega) (fun k hk => by have := (World.ownsRow.lt hb5 k hk).1; simp at hzA ⊢; omega); have hV7 : OwN w7 (G + 1) v V := own_kept (World.ownsRow.alloc hV5 (.cells (bsv [n0, n1, n2, n3, n4, n5, n6, n7]).toArray 30)) hg7 (fun q hq e => by have := (World.ownsRow.lt hb5 q e).1; have := hvz.out q hq; omega); have hc7 : OwI w7 Z c (B.take k) := own_kept (World.ownsRow.alloc hc5 (.cells (bsv [n0, n1, n2, n3, n4, n5, n6, n7]).toArray 30)) hg7 (fun q hq e => HAp.out q e hq); have hA7 : Apt v7 c := HAp.out.left hL7 (fun q hq => by have := (World.ownsRow.lt hc5 q hq).2; simp; omega); have hz7 := hg7.size; have c87 : w7.cell? ⟨G, 3, none⟩ = some b := hG7.cell 3; have f87 := hG7.free 3; obtain ⟨a7, cap7, rfl, _⟩ := Sl.of_owns hO7 (by rw [HTK.out]; omega)))
          all_goals
            rw [HTK.out] at hA7
            have hO8 : OwN w7 Z (.slice a7 (k + 1) cap7) (A.take (k + 1)) := by
              unfold OwN
              rw [htk.out, List.length_append, List.flatten_append, bsv_append]
              have := hO7
              rw [HTK.out] at this
              rw [HTK.out]
              simpa using this
            have hb9 : OwN _ Z (.slice a7 (k + 1) cap7) (A.take (k + 1)) := own_grown hO8 (grown_set (grown_refl w7 (some G)) 3 (.slice a7 (k + 1) cap7)) (fun k hk => by injection hk; omega)
            have hV9 : OwN _ (G + 1) v V := own_grown hV7 (grown_set (grown_refl w7 (some G)) 3 (.slice a7 (k + 1) cap7)) (fun k hk => by injection hk; omega)
            have hc9 : OwI _ Z c (B.take k) := own_grown hc7 (grown_set (grown_refl w7 (some G)) 3 (.slice a7 (k + 1) cap7)) (fun k hk => by injection hk; omega)
            have hG9 : Blk (w7.setCell ⟨G, 3, none⟩ (.slice a7 (k + 1) cap7)) G 67 (gnv n st v (.slice a7 (k + 1) cap7) c).toArray := hG7.set 3 (.slice a7 (k + 1) cap7)
            have hC9 := hC7.other ⟨G, 3, none⟩ (.slice a7 (k + 1) cap7) (by simp; omega)
            have hB9 := hB7.setCell (p := ⟨G, 3, none⟩) (by simp; omega) (.slice a7 (k + 1) cap7)
            have hz9 : Z ≤ (w7.setCell ⟨G, 3, none⟩ (.slice a7 (k + 1) cap7)).heap.size := by simp at hz7 ⊢; omega
            have hG9z := hG9.lt
            have Hb9 := Lib.hid hb9
            have HV9 := Lib.hid hV9
            have Hc9 := Lib.hid hc9
            have HG9 := Lib.hid hG9
            have HC9 := Lib.hid hC9
            have HB9 := Lib.hid hB9
            have HA9 := Lib.hid hA7
            clear hO7 hO8 hb9 hV9 hc9 hG9 hC9 hB9 hB7 hC7 hG7 c87 f87 c85 f85 hG5 hC5 hB5 hg5 hg5' c8 f8 HM hg7 hL7 hV7 hc7 hA7 hV5 hb5 hc5 HVr Hbr Hcr HAp HGr HCr HBr hl5 hz5 hz7
            go_wp2_with fail
            generalize w7.setCell ⟨G, 3, none⟩ (.slice a7 (k + 1) cap7) = W9 at *
            have c8 : W9.cell? ⟨G, 4, none⟩ = some c := HG9.out.cell 4
            have f8 := HG9.out.free 4
            have hkb : k ≤ B.length := by have := HKB.out; omega
            go_region_law (first
              | (go_simp; go_at_call 104; refine (HN.out _ HC9.out.drew (HU1.out.below HB9.out.drew)).mono ?_; rintro e w5 ⟨rfl, hC5, hg5⟩; have hg5' := grown_trans (grown_of_below (r := some P) (Below.refl W9.heap.size W9).drew) hg5; have hG5 := HG9.out.grown hg5' (fun e => by injection e; omega); have hB5 := HB9.out.grown hg5' HB9.out.size (fun k hk => by injection hk; simp; omega); have hV5 : OwN w5 (G + 1) v V := own_grown HV9.out hg5' (fun k hk => by injection hk; omega); have hb5 : OwN w5 Z _ (A.take (k + 1)) := own_grown Hb9.out hg5' (fun k hk => by injection hk; omega); have hc5 : OwI w5 Z c (B.take k) := own_grown Hc9.out hg5' (fun k hk => by injection hk; omega); have c85 : w5.cell? ⟨G, 4, none⟩ = some c := hG5.cell 4; have f85 := hG5.free 4; have hl5 := hG5.lt; have hz5 := hg5'.size)
              | (refine step_app_at rfl (.tmp 37) (.tmp 40) _ rfl Z 3 _ 1 8 un_ints info_int rfl (by omega) c _ _ rfl (World.ownsRow.alloc hc5 _) _ 1 [.int .i64 x] rfl (Sl.row w5 _ _ 1 rfl) (by intro q hq; simp at hq; subst hq; rfl) (by rw [HTB.out]; omega) (by omega) (by simp; omega) ?_; intro v7 w7 hO7 hg7 hL7; have hG7 : Blk w7 G 67 _ := (hG5.old (.cells #[.int .i64 x] 3)).grown hg7 (own_ne hc5 (by omega)); have hC7 := (hC5.old (.cells #[.int .i64 x] 3)).grown hg7 (own_ne hc5 (by omega)); have hB7 := (hB5.alloc hB5.size (.cells #[.int .i64 x] 3)).grown hg7 (by have := hB5.size; simp at this ⊢; omega) (fun k hk => by have := (World.ownsRow.lt hc5 k hk).1; simp at hzA ⊢; omega); have hV7 : OwN w7 (G + 1) v V := own_kept (World.ownsRow.alloc hV5 (.cells #[.int .i64 x] 3)) hg7 (fun q hq e => by have := (World.ownsRow.lt hc5 q e).1; have := hvz.out q hq; omega); have hb7 : OwN w7 Z _ (A.take (k + 1)) := own_kept (World.ownsRow.alloc hb5 (.cells #[.int .i64 x] 3)) hg7 (fun q hq e => HA9.out q hq e); have hA7 : Apt _ v7 := HA9.out.right hL7 (fun q hq => by have := (World.ownsRow.lt hb5 q hq).2; simp; omega); have hz7 := hg7.size; have c87 : w7.cell? ⟨G, 4, none⟩ = some c := hG7.cell 4; have f87 := hG7.free 4; obtain ⟨a9, cap9, rfl, _⟩ := Sl.of_owns hO7 (by rw [HTB.out]; omega)))
            all_goals
              rw [HTB.out] at hA7
              have hO8 : OwI w7 Z (.slice a9 (k + 1) cap9) (B.take (k + 1)) := by
                unfold OwI ivs
                rw [htb.out, List.length_append, List.map_append]
                have := hO7
                unfold ivs at this
                rw [HTB.out] at this
                rw [HTB.out]
                simpa using this
              have HO10 := Lib.hid (show OwI _ Z (.slice a9 (k + 1) cap9) (B.take (k + 1)) from own_grown hO8 (grown_set (grown_refl w7 (some G)) 4 (.slice a9 (k + 1) cap9)) (fun k hk => by injection hk; omega))
              have HV10 := Lib.hid (show OwN _ (G + 1) v V from own_grown hV7 (grown_set (grown_refl w7 (some G)) 4 (.slice a9 (k + 1) cap9)) (fun k hk => by injection hk; omega))
              have HB10 := Lib.hid (show OwN _ Z _ (A.take (k + 1)) from own_grown hb7 (grown_set (grown_refl w7 (some G)) 4 (.slice a9 (k + 1) cap9)) (fun k hk => by injection hk; omega))
              have hG10 : Blk (w7.setCell ⟨G, 4, none⟩ (.slice a9 (k + 1) cap9)) G 67 (gnv n st v (.slice a7 (k + 1) cap7) (.slice a9 (k + 1) cap9)).toArray := hG7.set 4 (.slice a9 (k + 1) cap9)
              have HG10 := Lib.hid hG10
              have hC10 := hC7.other ⟨G, 4, none⟩ (.slice a9 (k + 1) cap9) (by simp; omega)
              rw [show 9 + 8 * V.length + 14 * k + 8 + 6 = 9 + 8 * V.length + 14 * (k + 1) by omega] at hC10
              have HC10 := Lib.hid hC10
              have HBl10 := Lib.hid (hB7.setCell (p := ⟨G, 4, none⟩) (by simp; omega) (.slice a9 (k + 1) cap9))
              have HA10 := Lib.hid hA7
              have HZ10 : Z ≤ (w7.setCell ⟨G, 4, none⟩ (.slice a9 (k + 1) cap9)).heap.size := by simp at hz7 ⊢; omega
              clear hO7 hO8 hG10 hC10 hB7 hC7 hG7 c87 f87 c85 f85 hG5 hC5 hB5 hg5 hg5' c8 f8 HN hg7 hL7 hV7 hb7 hA7 hV5 hb5 hc5 Hb9 HV9 Hc9 HG9 HC9 HB9 HA9 hl5 hz5 hz7
              go_wp2
              go_roundw
              case rel => exact ⟨k + 1, _, _, by omega, by go_num, HV10.out, HB10.out, HO10.out, HA10.out, HG10.out, HC10.out, HBl10.out, HZ10⟩
              case measure => simp [intOf]; omega
        · obtain rfl : k = A.length := by omega
          have hd : decide ((A.length : Int) < (A.length : Int)) = false := by simp
          rw [List.take_length] at Hbr
          rw [show B.take A.length = B from List.take_of_length_le (by have := HAB.out; omega)] at Hcr
          have hl2 := HLd.out
          have NV := Lib.hid (show Ns wr v V from ⟨Sl.of_owns HVr.out (by omega), HVV.out⟩)
          have NB := Lib.hid (show Ns wr b A from ⟨Sl.of_owns Hbr.out (by omega), HAA.out⟩)
          have NC := Lib.hid (show Ig wr c B from ⟨Sl.of_owns Hcr.out (by have := HAB.out; omega), HBB.out⟩)
          have hX1 := gnv_one n st v b c (by obtain ⟨_, _, rfl, _⟩ := NV.out.1; rfl) (by obtain ⟨_, _, rfl, _⟩ := NB.out.1; rfl) (by obtain ⟨_, _, rfl, _⟩ := NC.out.1; rfl)
          have HV2 := Lib.hid (fun w h1 h2 h3 => VG.out v b c w h1 h2 h3)
          have HDn := Lib.hid (CD.out P u wr HCr.out (HU1.out.below HBr.out))
          generalize hX : gnv n st v b c = X at *
          have HX := Lib.hid hX
          have HXs := Lib.hid (show X.length = 5 by rw [← hX]; rfl)
          have HXS := Lib.hid (show X.toArray.size = 5 by rw [← hX]; rfl)
          have HX1 := Lib.hid hX1
          clear hX hX1
          go_wp2_with (first
            | (go_at_call 106; refine HDn.out.mono ?_; rintro e w6 ⟨rfl, q, rfl⟩; have HG6 : Blk (wr.drewN q) G 67 X.toArray := HGr.out; have HB6 := below_drewN HBr.out q)
            | (refine wpList_load_all rfl _ (.tmp 5) rfl G rfl _ X.toArray HG7 un_gen (by rw [HXS.out]; exact size_gen) ?_)
            | (refine wpList_load_all rfl _ (.tmp 5) rfl G rfl _ X.toArray HG6 un_gen (by rw [HXS.out]; exact size_gen) ?_)
            | (go_at_call 112; refine (HV2.out _ (by exact NV.out.below (below_drewN (Below.refl _ _) q)) (by exact NB.out.below (below_drewN (Below.refl _ _) q)) (by exact NC.out.below (below_drewN (Below.refl _ _) q))).mono ?_; rintro e w7 ⟨rfl, hB7⟩; have HG7 := HG6.below hB7 HG6.lt; have HB7 := HB6.trans (hB7.mono HB6.size); have HZ7 := HZ0.out.below HB7 (by simp))
            | (refine wpList_store_new rfl _ (.tmp 2) (.tmp 53) rfl w.heap.size rfl X rfl 5 HXs.out _ _ HZ7 rfl size_gen HX1.out ?_; intro w8 hZ8 hg8))
          have hV8 := ((below1 w (.cells zeroGen.toArray 67)).trans (HB7.mono (by simp))).grown hg8 (by have := HB7.size; simp at this; omega) (fun k hk => by injection hk; omega)
          refine ret_row2 rfl w.heap.size _ X (.int .i64 0) 5 HXs.out rfl rfl rfl hZ8 un_gen size_gen ?_
          have g1 : OwN w8 (G + 1) v V := own_grown (own_below (own_below HVr.out (below_drewN (Below.refl _ _) q)) hB7) hg8 (fun k hk => by injection hk; omega)
          have g2 : OwN w8 Z b A := own_grown (own_below (own_below Hbr.out (below_drewN (Below.refl _ _) q)) hB7) hg8 (fun k hk => by injection hk; omega)
          have g3 : OwI w8 Z c B := own_grown (own_below (own_below Hcr.out (below_drewN (Below.refl _ _) q)) hB7) hg8 (fun k hk => by injection hk; omega)
          exact ⟨v, b, c, by rw [HX.out], ⟨Sl.of_owns g1 (by omega), HVV.out⟩, ⟨Sl.of_owns g2 (by omega), HAA.out⟩, ⟨Sl.of_owns g3 (by have := HAB.out; omega), HBB.out⟩, hV8⟩
end Go.Proofs.Ytilhceihelcdgaa
