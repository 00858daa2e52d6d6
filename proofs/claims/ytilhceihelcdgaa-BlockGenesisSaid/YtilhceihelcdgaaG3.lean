/-
  A genesis is encoded by the reference; both answers where it is not valid.
-/
import Derived.Test.YtilhceihelcdgaaG2
import Derived.Test.YtilhceihelcdgaaB5
namespace Go.Proofs.Ytilhceihelcdgaa
open Go.RowKit

set_option maxHeartbeats 2000000 in
theorem encodeGenesis_no (n st : Int) (V A : List (List Int)) (B : List Int) (a b c : Value) (w : World) (hV : Ns w a V) (hA : Ns w b A) (hB : Ig w c B) (hok : ¬ GOk n st V A B) :
    Calls Try.prog 49 #[.agg (gnv n st a b c).toArray] w fun e w' => e = .returned (.tuple #[.slice none 0 0, .int .i64 1]) ∧ Below w.heap.size w w' := by
  have HV := Lib.hid hV
  have HA := Lib.hid hA
  have HB := Lib.hid hB
  have VG := Lib.hid (fun w h1 h2 h3 => validateGenesis_any n st V A B a b c w h1 h2 h3)
  rw [gerr_no hok] at VG
  generalize hX : (gnv n st a b c).toArray = X at *
  have HXs := Lib.hid (show X.size = 5 by rw [← hX]; rfl)
  clear hV hA hB hok hX
  go_enter Try.func49, Try.ntmps49
  go_wp2_with (first
    | (refine wpList_box_any rfl _ (.tmp 0) rfl X rfl ?_; intro w1 hX1 hB1 hs1)
    | (refine wpList_load_all rfl _ (.tmp 1) rfl w.heap.size rfl _ X hX1 un_gen (by rw [HXs.out]; exact size_gen) ?_)
    | (go_at_call 112; refine (VG.out _ (HV.out.below hB1) (HA.out.below hB1) (HB.out.below hB1)).mono ?_; rintro e w2 ⟨rfl, hB2⟩; have hV2 := hB1.trans (hB2.mono hB1.size)))
  go_ret2
  exact ⟨rfl, hV2⟩
set_option maxHeartbeats 2000000 in
theorem rencodeGenesis_no (n st : Int) (V A : List (List Int)) (B : List Int) (a b c : Value) (w : World) (hV : Ns w a V) (hA : Ns w b A) (hB : Ig w c B) (hok : ¬ GOk n st V A B) :
    Calls Try.prog 50 #[.agg (gnv n st a b c).toArray] w fun e w' => e = .returned (.tuple #[.slice none 0 0, .int .i64 1]) ∧ Below w.heap.size w w' := by
  have HV := Lib.hid hV
  have HA := Lib.hid hA
  have HB := Lib.hid hB
  have VG := Lib.hid (fun w h1 h2 h3 => rvalidGenesis_any n st V A B a b c w h1 h2 h3)
  rw [gok_no hok] at VG
  generalize hX : (gnv n st a b c).toArray = X at *
  have HXs := Lib.hid (show X.size = 5 by rw [← hX]; rfl)
  clear hV hA hB hok hX
  go_enter Try.func50, Try.ntmps50
  go_wp2_with (first
    | (refine wpList_box_any rfl _ (.tmp 0) rfl X rfl ?_; intro w1 hX1 hB1 hs1)
    | (refine wpList_load_all rfl _ (.tmp 1) rfl w.heap.size rfl _ X hX1 un_gen (by rw [HXs.out]; exact size_gen) ?_)
    | (go_at_call 113; refine (VG.out _ (HV.out.below hB1) (HA.out.below hB1) (HB.out.below hB1)).mono ?_; rintro e w2 ⟨rfl, hB2⟩; have hV2 := hB1.trans (hB2.mono hB1.size)))
  go_ret2
  exact ⟨rfl, hV2⟩

set_option maxRecDepth 100000 in
set_option maxHeartbeats 8000000 in
theorem rencodeGenesis_yes (n st : Int) (V A : List (List Int)) (B : List Int) (a b c : Value) (w : World) (hV : Ns w a V) (hA : Ns w b A) (hB : Ig w c B) (hok : GOk n st V A B) :
    Calls Try.prog 50 #[.agg (gnv n st a b c).toArray] w fun e w' => ∃ v', e = .returned (.tuple #[v', .int .i64 0]) ∧ OwB w' w.heap.size v' (encG n st V A B) ∧ Below w.heap.size w w' := by
  have HV := Lib.hid hV
  have HA := Lib.hid hA
  have HB := Lib.hid hB
  have VG := Lib.hid (fun w h1 h2 h3 => rvalidGenesis_any n st V A B a b c w h1 h2 h3)
  rw [gok_yes hok] at VG
  obtain ⟨a, ka, rfl, hna, hma, _, hla, _, hca⟩ := id hV.1
  obtain ⟨b, kb, rfl, hnb, hmb, _, hlb, _, hcb⟩ := id hA.1
  obtain ⟨c, kc, rfl, hnc, hmc, _, hlc, _, hcc⟩ := id hB.1
  have HCA := Lib.hid hca
  have HCB := Lib.hid hcb
  have HCC := Lib.hid hcc
  obtain ⟨⟨hn1, hn7⟩, ⟨hv1, hv10, hnv⟩, ⟨ha1, ha16⟩, hab, hst, hbs⟩ := hok
  have HAB := Lib.hid hab
  have HBS := Lib.hid hbs
  have hst0 : 0 ≤ st ∧ st ≤ 1099511627776 := hst
  unfold maxLen at hma hmb hmc
  have HX := Lib.hid (show ∀ j : Nat, (gnv n st (.slice a V.length ka) (.slice b A.length kb) (.slice c B.length kc)).toArray[j]? = (#[.int .i64 n, .int .i64 st, .slice a V.length ka, .slice b A.length kb, .slice c B.length kc] : Array Value)[j]? from fun _ => rfl)
  generalize hX : (gnv n st (.slice a V.length ka) (.slice b A.length kb) (.slice c B.length kc)).toArray = X at *
  have HXs := Lib.hid (show X.size = 5 by rw [← hX]; rfl)
  clear hV hA hB hca hcb hcc hab hst hbs hX
  go_enter Try.func50, Try.ntmps50
  go_wp2_with (first
    | (refine wpList_box_any rfl _ (.tmp 0) rfl X rfl ?_; intro w1 hX1 hB1 hs1)
    | (refine wpList_load_all rfl _ (.tmp 1) rfl w.heap.size rfl _ X hX1 un_gen (by rw [HXs.out]; exact size_gen) ?_)
    | (go_at_call 113; refine (VG.out _ (HV.out.below hB1) (HA.out.below hB1) (HB.out.below hB1)).mono ?_; rintro e w2 ⟨rfl, hB2⟩; have hX2 := hX1.below hB2 hX1.lt; have hV2 := hB1.trans (hB2.mono hB1.size); have hz2 := hX2.lt))
  have HX2 := Lib.hid hX2
  have HV2 := Lib.hid hV2
  clear hX1 hB1 hs1 hX2 hB2 hV2
  have SO : Hid (∀ w', Below w2.heap.size w2 w' → w'.cell? ⟨w.heap.size, 0, none⟩ = some (.int .i64 n) ∧ w'.cell? ⟨w.heap.size, 1, none⟩ = some (.int .i64 st) ∧ w'.cell? ⟨w.heap.size, 2, none⟩ = some (.slice a V.length ka)) := fun w' h => ⟨((HX2.out.below h HX2.out.lt).cell 0).trans (HX.out 0), ((HX2.out.below h HX2.out.lt).cell 1).trans (HX.out 1), ((HX2.out.below h HX2.out.lt).cell 2).trans (HX.out 2)⟩
  have hL2 := Lib.hid ((OwB.lit w2 (w.heap.size + 1) [1] (by omega) (by simp)).bs (by simp) (by intro x hx; simp at hx; omega))
  have N1 := Lib.hid (fun v w h => rnum_any [1] v n 1 w h (by omega) (by omega) (by omega) (by omega) (by simp))
  have N2 := Lib.hid (fun v w h => rnum_any ([1] ++ beB n 1) v st 6 w h (by omega) (by omega) (by omega) (by omega) (by simp [beB_len]))
  have N3 := Lib.hid (fun v w h => rnum_any ([1] ++ beB n 1 ++ beB st 6) v V.length 1 w h (by omega) (by omega) (by omega) (by omega) (by simp [beB_len]))
  rw [show Int.toNat 1 = 1 from rfl] at N1 N3
  rw [show Int.toNat 6 = 6 from rfl] at N2
  have Y1 := Lib.hid (Byt.append (show Byt [1] by intro x hx; simp at hx; omega) (beB_byt n 1))
  have Y2 := Lib.hid (Y1.out.append (beB_byt st 6))
  go_region_held3 (fun w' => w'.cell? ⟨w.heap.size, 0, none⟩ = some (.int .i64 n) ∧ w'.cell? ⟨w.heap.size, 1, none⟩ = some (.int .i64 st) ∧ w'.cell? ⟨w.heap.size, 2, none⟩ = some (.slice a V.length ka))
    ((refine SO.out _ ?_; first | assumption | exact (Below.refl _ _).drew | exact (below1 _ _) | exact (below1 _ _).drew))
    (first
      | ((go_at_call_of 101 n; refine (N1.out _ _ (by exact hL2.out.drew)).mono ?_; rintro e w3 ⟨v3, rfl, hO3, hB3⟩; have hT3 : Below w2.heap.size w2 w3 := (below1 w2 _).drew.trans (hB3.mono (by simp)); have HO3 := Lib.hid hO3; clear hO3 hB3))
      | ((go_at_call_of 101 st; refine (N2.out _ _ (HO3.out.bs (by simp [beB_len]) Y1.out)).mono ?_; rintro e w4 ⟨v4, rfl, hO4, hB4⟩; have hT4 : Below w2.heap.size w2 w4 := hT3.trans (hB4.mono hT3.size); have HO4 := Lib.hid hO4; clear hO4 hB4))
      | ((go_at_call_of 101 v4; refine (N3.out _ _ (HO4.out.bs (by simp [beB_len]) Y2.out)).mono ?_; rintro e w5 ⟨v5, rfl, hO5, hB5⟩; have hT5 : Below w2.heap.size w2 w5 := hT4.trans (hB5.mono hT4.size); have HO5 := Lib.hid hO5; clear hO5 hB5)))
  have hX5 := HX2.out.below hT5 HX2.out.lt
  have hV5 := HV2.out.trans (hT5.mono HV2.out.size)
  have HO6 := Lib.hid (show OwB w5 (w.heap.size + 1) v5 (encGh n st V) from by
    have := HO5.out.base (base' := w.heap.size + 1) (by have := hT4.size; omega)
    rwa [beB_one (x := n) (by omega) (by omega), beB_one (x := (V.length : Int)) (by omega) (by omega)] at this)
  have HX5 := Lib.hid hX5
  have HV5 := Lib.hid hV5
  have HLh := Lib.hid (show (encGh n st V).length = 9 by simp [encGh, beB_len])
  have hBE0 := Lib.hid (show Byt (encGh n st V) from ((Byt.append (show Byt [1, n] by intro x hx; simp at hx; omega) (beB_byt _ _)).append (by intro x hx; simp at hx; omega)))
  generalize hE : encGh n st V = E0 at *
  have hE0 := Lib.hid hE
  clear hE SO HO3 HO4 HO5 hT3 hT4 hT5 N1 N2 N3 Y1 Y2 hL2 hX5 hV5 HX2 HV2
  go_wp2
  go_loopw [4, 5] (fun v i wr => ∃ k : Nat, k ≤ V.length ∧ i = .int .i64 k ∧ OwB wr (w.heap.size + 1) v (E0 ++ (V.take k).flatten) ∧ Blk wr w.heap.size 67 X ∧ Below w.heap.size w wr) (fun _ i _ => V.length - (intOf i).toNat)
  case atStart => exact ⟨0, Nat.zero_le _, rfl, by simpa using HO6.out, HX5.out, HV5.out⟩
  case round =>
    obtain ⟨k, hk, rfl, hO, hX, hV⟩ := hrel
    have HVr := Lib.hid hV
    have HOr := Lib.hid hO
    have HXr := Lib.hid hX
    have hzr := hX.lt
    have c2 := hX.cell 2
    rw [HX.out] at c2
    simp at c2
    clear hV hO hX
    by_cases hlt : k < V.length
    · have hkl : (k : Int) < (V.length : Int) := by omega
      obtain ⟨b1, o1, rfl, _⟩ := HCA.out (by omega)
      have hnm := Lib.hid (HV.out.2 _ (List.getElem_mem hlt))
      have HCL := Lib.hid (fun j hj => (HV.out.below HVr.out).nm k hlt j hj)
      have htk := Lib.hid (take_flat hlt)
      have hlk := flat_le HV.out.2 k
      have HBk := Lib.hid (flat_byt (fun x hx => HV.out.2 x (List.mem_of_mem_take (i := k) hx)))
      generalize V[k] = nm at *
      go_wp2_with (first
        | (refine wpList_load_nm rfl (.tmp 32) rfl b1 (o1 + k * 8) rfl nm hnm.out.1 (fun j hj => HCL.out j hj) ?_)
        | (go_at_call 110; refine (rname_any _ nm _ _ (HOr.out.bs (by have := HLh.out; simp only [List.length_append]; omega) (hBE0.out.append HBk.out)) hnm.out (by have := HLh.out; simp only [List.length_append]; omega)).mono ?_; rintro e w6 ⟨v6, rfl, hO6, hB6⟩))
      have HO7 := Lib.hid (show OwB w6 (w.heap.size + 1) v6 (E0 ++ (V.take (k + 1)).flatten) from by rw [htk.out, ← List.append_assoc]; exact hO6.base (by omega))
      have HV7 := Lib.hid (HVr.out.trans (hB6.mono HVr.out.size))
      have HX7 := Lib.hid (HXr.out.below hB6 hzr)
      clear hO6 hB6
      go_roundw
      case rel => exact ⟨k + 1, by omega, by go_num, HO7.out, HX7.out, HV7.out⟩
      case measure => simp [intOf]; omega
    · obtain rfl : k = V.length := by omega
      have hd : decide ((V.length : Int) < (V.length : Int)) = false := by simp
      have c3 := HXr.out.cell 3
      rw [HX.out] at c3
      simp at c3
      rw [List.take_length] at HOr
      have hlv := flat_le HV.out.2 V.length
      rw [List.take_length] at hlv
      have N4 := Lib.hid (fun v w h => rnum_any (E0 ++ V.flatten) v A.length 1 w h (by omega) (by omega) (by omega) (by omega) (by have := HLh.out; rw [List.length_append]; omega))
      rw [show Int.toNat 1 = 1 from rfl, beB_one (x := (A.length : Int)) (by omega) (by omega)] at N4
      have Y4 := Lib.hid (hBE0.out.append (flat_byt HV.out.2))
      go_wp2_with (go_at_call 101; refine (N4.out _ _ (HOr.out.bs (by have := HLh.out; simp only [List.length_append]; omega) Y4.out)).mono ?_; rintro e w5 ⟨v5, rfl, hO5, hB5⟩)
      have HE := Lib.hid (show encG n st V A B = E0 ++ V.flatten ++ [(A.length : Int)] ++ (List.range A.length).flatMap (accB A B) by rw [← hE0.out]; rfl)
      have HLf := Lib.hid (show (E0 ++ V.flatten ++ [(A.length : Int)]).length ≤ 90 by have := HLh.out; simp only [List.length_append, List.length_cons, List.length_nil]; omega)
      have HBYf := Lib.hid (show Byt (E0 ++ V.flatten ++ [(A.length : Int)]) from (hBE0.out.append (flat_byt HV.out.2)).append (by intro x hx; simp at hx; omega))
      generalize E0 ++ V.flatten ++ [(A.length : Int)] = E1 at *
      have HO8 := Lib.hid (hO5.base (base' := w.heap.size + 1) (by omega))
      have HV8 := Lib.hid (HVr.out.trans (hB5.mono HVr.out.size))
      have HX8 := Lib.hid (HXr.out.below hB5 hzr)
      clear hO5 hB5 HOr HVr HXr N4 Y4 HO6 HX5 HV5
      go_wp2
      go_loopw [4, 6] (fun v i wr => ∃ k : Nat, k ≤ A.length ∧ i = .int .i64 k ∧ OwB wr (w.heap.size + 1) v (E1 ++ (List.range k).flatMap (accB A B)) ∧ Blk wr w.heap.size 67 X ∧ Below w.heap.size w wr) (fun _ i _ => A.length - (intOf i).toNat)
      case atStart => exact ⟨0, Nat.zero_le _, rfl, by simpa using HO8.out, HX8.out, HV8.out⟩
      case round =>
        obtain ⟨k, hk, rfl, hO, hX, hV⟩ := hrel
        have HVr := Lib.hid hV
        have HOr := Lib.hid hO
        have HXr := Lib.hid hX
        have hzr := hX.lt
        have c3 := hX.cell 3
        rw [HX.out] at c3
        simp at c3
        clear hV hO hX
        by_cases hlt : k < A.length
        · have hkl : (k : Int) < (A.length : Int) := by omega
          obtain ⟨b1, o1, rfl, _⟩ := HCB.out (by omega)
          obtain ⟨b4, o4, rfl, _⟩ := HCC.out (by have := HAB.out; omega)
          have hkB : k < B.length := by have := HAB.out; omega
          have hkBl : (k : Int) < (B.length : Int) := by omega
          have hnm := HA.out.2 _ (List.getElem_mem hlt)
          have HCL := Lib.hid (fun w' (hw : Below w.heap.size w w') j hj => (HA.out.below hw).nm k hlt j hj)
          have HXK := Lib.hid (fun w' (hw : Below w.heap.size w w') => (HB.out.below hw).cell k hkB)
          have hx := HBS.out (idAt B k) (by unfold idAt; rw [List.getD_eq_getElem?_getD, List.getElem?_eq_getElem hkB]; exact List.getElem_mem _)
          have hx0 : 0 ≤ idAt B k ∧ idAt B k ≤ 1099511627776 := hx
          have htk : Hid ((List.range (k + 1)).flatMap (accB A B) = (List.range k).flatMap (accB A B) ++ (A[k] ++ beB (idAt B k) 6)) := Lib.hid (by rw [range_snoc, accB, List.getD_eq_getElem?_getD, List.getElem?_eq_getElem hlt]; rfl)
          have HLk := Lib.hid (range_len A B HA.out.2 k (by omega))
          have HBk : Hid (Byt ((List.range k).flatMap (accB A B))) := Lib.hid (range_byt HA.out.2 k (by omega))
          clear hx
          generalize A[k] = nm at *
          generalize idAt B k = x at *
          obtain ⟨n0, n1, n2, n3, n4, n5, n6, n7, rfl, _⟩ := hnm.cases
          have HN := Lib.hid hnm
          clear hnm
          have SO2 : Hid (∀ w', Below wr.heap.size wr w' → (w'.cell? ⟨b1, o1 + k * 8, none⟩ = some (.int .u8 n0) ∧ w'.cell? ⟨b1, o1 + k * 8 + 1, none⟩ = some (.int .u8 n1) ∧ w'.cell? ⟨b1, o1 + k * 8 + 2, none⟩ = some (.int .u8 n2) ∧ w'.cell? ⟨b1, o1 + k * 8 + 3, none⟩ = some (.int .u8 n3) ∧ w'.cell? ⟨b1, o1 + k * 8 + 4, none⟩ = some (.int .u8 n4) ∧ w'.cell? ⟨b1, o1 + k * 8 + 5, none⟩ = some (.int .u8 n5) ∧ w'.cell? ⟨b1, o1 + k * 8 + 6, none⟩ = some (.int .u8 n6) ∧ w'.cell? ⟨b1, o1 + k * 8 + 7, none⟩ = some (.int .u8 n7)) ∧ w'.cell? ⟨w.heap.size, 3, none⟩ = some (.slice (some ⟨b1, o1, none⟩) A.length kb) ∧ w'.cell? ⟨w.heap.size, 4, none⟩ = some (.slice (some ⟨b4, o4, none⟩) B.length kc) ∧ w'.cell? ⟨b4, o4 + k, none⟩ = some (.int .i64 x)) := fun w' h => by
            have h1 := HVr.out.trans (h.mono HVr.out.size)
            have h2 := HXr.out.below h hzr
            exact ⟨⟨HCL.out w' h1 0 (by omega), HCL.out w' h1 1 (by omega), HCL.out w' h1 2 (by omega), HCL.out w' h1 3 (by omega), HCL.out w' h1 4 (by omega), HCL.out w' h1 5 (by omega), HCL.out w' h1 6 (by omega), HCL.out w' h1 7 (by omega)⟩, (h2.cell 3).trans (HX.out 3), (h2.cell 4).trans (HX.out 4), HXK.out w' h1⟩
          go_wp2_with fail
          go_region_held3 (fun w' => (w'.cell? ⟨b1, o1 + k * 8, none⟩ = some (.int .u8 n0) ∧ w'.cell? ⟨b1, o1 + k * 8 + 1, none⟩ = some (.int .u8 n1) ∧ w'.cell? ⟨b1, o1 + k * 8 + 2, none⟩ = some (.int .u8 n2) ∧ w'.cell? ⟨b1, o1 + k * 8 + 3, none⟩ = some (.int .u8 n3) ∧ w'.cell? ⟨b1, o1 + k * 8 + 4, none⟩ = some (.int .u8 n4) ∧ w'.cell? ⟨b1, o1 + k * 8 + 5, none⟩ = some (.int .u8 n5) ∧ w'.cell? ⟨b1, o1 + k * 8 + 6, none⟩ = some (.int .u8 n6) ∧ w'.cell? ⟨b1, o1 + k * 8 + 7, none⟩ = some (.int .u8 n7)) ∧ w'.cell? ⟨w.heap.size, 3, none⟩ = some (.slice (some ⟨b1, o1, none⟩) A.length kb) ∧ w'.cell? ⟨w.heap.size, 4, none⟩ = some (.slice (some ⟨b4, o4, none⟩) B.length kc) ∧ w'.cell? ⟨b4, o4 + k, none⟩ = some (.int .i64 x))
            ((refine SO2.out _ ?_; first | assumption | exact (Below.refl _ _).drew))
            (first
              | ((go_at_call 110; refine (rname_any _ [n0, n1, n2, n3, n4, n5, n6, n7] _ _ (HOr.out.bs (by have := HLf.out; have := HLk.out; simp only [List.length_append]; omega) (HBYf.out.append HBk.out)).drew HN.out (by have := HLf.out; have := HLk.out; simp only [List.length_append]; omega)).mono ?_; rintro e w6 ⟨v6, rfl, hO6, hB6⟩; have hT6 : Below wr.heap.size wr w6 := (Below.refl _ _).drew.trans hB6; have HO6 := Lib.hid hO6; clear hO6 hB6))
              | ((go_at_call 101; refine (rnum_any _ _ x 6 _ (HO6.out.bs (by have := HLf.out; have := HLk.out; simp only [List.length_append, List.length_cons, List.length_nil]; omega) ((HBYf.out.append HBk.out).append HN.out.2)) (by omega) (by omega) (by omega) (by omega) (by have := HLf.out; have := HLk.out; simp only [List.length_append, List.length_cons, List.length_nil]; omega)).mono ?_; rintro e w9 ⟨v9, rfl, hO9, hB9⟩; have hT9 : Below wr.heap.size wr w9 := hT6.trans (hB9.mono hT6.size); have HO9 := Lib.hid hO9; clear hO9 hB9)))
          have HO10 := Lib.hid (show OwB w9 (w.heap.size + 1) v9 (E1 ++ (List.range (k + 1)).flatMap (accB A B)) from by
            rw [htk.out]
            have := HO9.out.base (base' := w.heap.size + 1) (by have := hT6.size; omega)
            rw [show Int.toNat 6 = 6 from rfl] at this
            simpa only [List.append_assoc] using this)
          have HX10 := Lib.hid (HXr.out.below hT9 hzr)
          have HV10 := Lib.hid (HVr.out.trans (hT9.mono HVr.out.size))
          clear SO2 HO6 HO9 hT6 hT9
          go_wp2
          go_roundw
          case rel => exact ⟨k + 1, by omega, by go_num, HO10.out, HX10.out, HV10.out⟩
          case measure => simp [intOf]; omega
        · obtain rfl : k = A.length := by omega
          have hd : decide ((A.length : Int) < (A.length : Int)) = false := by simp
          go_wp2
          go_ret2
          exact ⟨_, rfl, by rw [HE.out]; exact HOr.out.base (Nat.le_succ _), HVr.out⟩
end Go.Proofs.Ytilhceihelcdgaa
