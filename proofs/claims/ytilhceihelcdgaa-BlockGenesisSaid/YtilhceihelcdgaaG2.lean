/-
  A genesis is encoded by the program.
-/
import Derived.Test.YtilhceihelcdgaaG1
import Derived.Deep.RegionHeld3
namespace Go.Proofs.Ytilhceihelcdgaa
open Go.RowKit

def accB (A : List (List Int)) (B : List Int) (k : Nat) : List Int := A.getD k [] ++ beB (idAt B k) 6
def encGh (n st : Int) (V : List (List Int)) : List Int := [1, n] ++ beB st 6 ++ [(V.length : Int)]
def encG (n st : Int) (V A : List (List Int)) (B : List Int) : List Int := encGh n st V ++ V.flatten ++ [(A.length : Int)] ++ (List.range A.length).flatMap (accB A B)
theorem un_gen : (Try.prog.underlying 67).map TypeDesc.isRow = some true := by kernel_rfl
theorem size_gen : (Try.prog.info? 67).map (·.size) = some 5 := by kernel_rfl
theorem range_snoc (f : Nat → List Int) (k : Nat) : (List.range (k + 1)).flatMap f = (List.range k).flatMap f ++ f k := by
  rw [List.range_succ, List.flatMap_append]; simp
theorem range_len (A : List (List Int)) (B : List Int) (hA : ∀ x ∈ A, IsN x) (k : Nat) (hk : k ≤ A.length) : ((List.range k).flatMap (accB A B)).length = k * 14 := by
  induction k with
  | zero => rfl
  | succ k ih =>
    rw [range_snoc, List.length_append, ih (by omega), accB, List.length_append, beB_len]
    have := (hA _ (List.getElem_mem (show k < A.length by omega))).1
    rw [List.getD_eq_getElem?_getD, List.getElem?_eq_getElem (show k < A.length by omega), Option.getD_some, this]
    omega
theorem take_flat {V : List (List Int)} {k : Nat} (hk : k < V.length) : (V.take (k + 1)).flatten = (V.take k).flatten ++ V[k] := by
  rw [List.take_succ_eq_append_getElem hk, List.flatten_append]; simp
theorem flat_le {V : List (List Int)} (h : ∀ x ∈ V, IsN x) (k : Nat) : (V.take k).flatten.length ≤ V.length * 8 := by
  rw [List.length_flatten]
  have : ∀ (W : List (List Int)), (∀ x ∈ W, IsN x) → (W.map List.length).sum = W.length * 8 := by
    intro W hW
    induction W with
    | nil => rfl
    | cons x W ih => rw [List.map_cons, List.sum_cons, ih (fun y hy => hW y (by simp [hy])), (hW x (by simp)).1, List.length_cons]; omega
  rw [this _ (fun x hx => h x (List.mem_of_mem_take hx)), List.length_take]
  exact Nat.mul_le_mul_right 8 (Nat.min_le_right _ _)
theorem Ns.nm {w : World} {b o cap : Nat} {V : List (List Int)} (h : Ns w (.slice (some ⟨b, o, none⟩) V.length cap) V) (k : Nat) (hk : k < V.length) (j : Nat) (hj : j < 8) : w.cell? ⟨b, o + k * 8 + j, none⟩ = (bsv V[k])[j]? := by
  have := h.1.cell (by omega) (k * 8 + j) (by omega)
  rw [← Nat.add_assoc] at this
  rw [this]
  have hf : bsv V.flatten = V.flatMap bsv := by
    clear this h hk
    induction V with
    | nil => rfl
    | cons x V ih => rw [List.flatten_cons, bsv_append, ih, List.flatMap_cons]
  rw [hf]
  exact flat_get bsv 8 V (fun x hx => by rw [bsv_length, (h.2 x hx).1]) k j hk hj

theorem range_byt {A : List (List Int)} {B : List Int} (hA : ∀ x ∈ A, IsN x) (k : Nat) (hk : k ≤ A.length) : Byt ((List.range k).flatMap (accB A B)) := by
  intro y hy
  obtain ⟨i, hi, hy⟩ := List.mem_flatMap.1 hy
  have hi' : i < A.length := by have := List.mem_range.1 hi; omega
  rw [accB, List.getD_eq_getElem?_getD, List.getElem?_eq_getElem hi'] at hy
  exact ((hA _ (List.getElem_mem hi')).2.append (beB_byt _ _)) y hy
theorem flat_byt {V : List (List Int)} (h : ∀ x ∈ V, IsN x) : Byt V.flatten := by
  intro y hy
  obtain ⟨x, hx, hy⟩ := List.mem_flatten.1 hy
  exact (h x hx).2 y hy
set_option maxRecDepth 100000 in
set_option maxHeartbeats 4000000 in
theorem encodeGenesis_yes (n st : Int) (V A : List (List Int)) (B : List Int) (a b c : Value) (w : World) (hV : Ns w a V) (hA : Ns w b A) (hB : Ig w c B) (hok : GOk n st V A B) :
    Calls Try.prog 49 #[.agg (gnv n st a b c).toArray] w fun e w' => ∃ v', e = .returned (.tuple #[v', .int .i64 0]) ∧ OwB w' w.heap.size v' (encG n st V A B) ∧ Below w.heap.size w w' := by
  have HV := Lib.hid hV
  have HA := Lib.hid hA
  have HB := Lib.hid hB
  have VG := Lib.hid (fun w h1 h2 h3 => validateGenesis_any n st V A B a b c w h1 h2 h3)
  rw [gerr_yes hok] at VG
  obtain ⟨a, ka, rfl, hna, hma, _, hla, _, hca⟩ := id hV.1
  obtain ⟨b, kb, rfl, hnb, hmb, _, hlb, _, hcb⟩ := id hA.1
  obtain ⟨c, kc, rfl, hnc, hmc, _, hlc, _, hcc⟩ := id hB.1
  have HCA := Lib.hid hca
  have HCB := Lib.hid hcb
  have HCC := Lib.hid hcc
  obtain ⟨⟨hn1, hn7⟩, ⟨hv1, hv10, hnv⟩, ⟨ha1, ha16⟩, hab, hst, hbs⟩ := hok
  have HAB := Lib.hid hab
  have HBS := Lib.hid hbs
  have hst0 : 0 ≤ st ∧ st ≤ 1099511627776 := hst
  have hwn : IntKind.u8.wrap n = n := by rw [IntKind.wrap_u8]; omega
  have hws : IntKind.u64.wrap st = st := wrap_u64_id hst0.1 (by omega)
  have hwv : IntKind.u8.wrap (V.length : Int) = V.length := by rw [IntKind.wrap_u8]; omega
  have hwa : IntKind.u8.wrap (A.length : Int) = A.length := by rw [IntKind.wrap_u8]; omega
  unfold maxLen at hma hmb hmc
  have HX := Lib.hid (show ∀ j : Nat, (gnv n st (.slice a V.length ka) (.slice b A.length kb) (.slice c B.length kc)).toArray[j]? = (#[.int .i64 n, .int .i64 st, .slice a V.length ka, .slice b A.length kb, .slice c B.length kc] : Array Value)[j]? from fun _ => rfl)
  generalize hX : (gnv n st (.slice a V.length ka) (.slice b A.length kb) (.slice c B.length kc)).toArray = X at *
  have HXs := Lib.hid (show X.size = 5 by rw [← hX]; rfl)
  clear hV hA hB hca hcb hcc hab hst hbs hX
  go_enter Try.func49, Try.ntmps49
  go_wp2_with (first
    | (refine wpList_box_any rfl _ (.tmp 0) rfl X rfl ?_; intro w1 hX1 hB1 hs1)
    | (refine wpList_load_all rfl _ (.tmp 1) rfl w.heap.size rfl _ X hX1 un_gen (by rw [HXs.out]; exact size_gen) ?_)
    | (go_at_call 112; refine (VG.out _ (HV.out.below hB1) (HA.out.below hB1) (HB.out.below hB1)).mono ?_; rintro e w2 ⟨rfl, hB2⟩; have hX2 := hX1.below hB2 hX1.lt; have hV2 := hB1.trans (hB2.mono hB1.size); have hz2 := hX2.lt; have c0 := hX2.cell 0; have c1 := hX2.cell 1; rw [HX.out] at c0 c1; simp at c0 c1)
    | (go_at_call 94; refine hold ?_))
  refine Lib.hid ?_
  have hO2 := OwB.lit w2 (w.heap.size + 1) [1, n] (by omega) (by simp)
  have hL1 : Byt [1, n] := by intro x hx; simp at hx; omega
  refine (appendUint_any [1, n] _ st 6 _ (hO2.bs (by simp) hL1) ⟨by omega, by omega⟩ (by omega) (by omega) (by simp)).mono ?_
  rintro e w3 ⟨v3, rfl, hO3, hB3⟩
  have hT3 := (below1 w2 (.cells #[.int .u8 1, .int .u8 n] 5)).trans (hB3.mono (by simp))
  have hX3 := hX2.below hT3 hX2.lt
  have hV3 := hV2.trans (hT3.mono hV2.size)
  have hO3' := hO3.base (base' := w.heap.size + 1) (by simp; omega)
  have c2 := hX3.cell 2
  rw [HX.out] at c2
  simp at c2
  clear hO2 hO3 hX1 hB1 hs1 hX2 hV2 hB2 hT3 hB3 c0 c1
  go_wp2_with (at_builtin; refine hold ?_)
  refine Lib.hid ?_
  refine wpList_app_bs _ rfl (.tmp 20) (.tmp 25) rfl (w.heap.size + 1) _ _ rfl (hO3'.alloc _) _ [(V.length : Int)] rfl (Sl.one _ _ _) (by simp [beB_len]) (by have := hX3.lt; simp; omega) ?_
  intro v4 w4 hO4 hg4
  have hV4 := ((hO3'.base (Nat.le_succ _)).alloc (.cells #[.int .u8 (V.length : Int)] 5)).below_grown (hV3.alloc hV3.size _) (by have := hX3.lt; simp; omega) hg4
  have hX4 := (hX3.old (.cells #[.int .u8 (V.length : Int)] 5)).grown hg4 (hO3'.ne (by omega))
  have HO4 := Lib.hid (show OwB w4 (w.heap.size + 1) v4 (encGh n st V) from by simpa [encGh] using hO4)
  have HV4 := Lib.hid hV4
  have HX4 := Lib.hid hX4
  have HLh := Lib.hid (show (encGh n st V).length = 9 by simp [encGh, beB_len])
  have c2 := hX4.cell 2
  rw [HX.out] at c2
  simp at c2
  clear hO3' hV3 hX3 hg4 hO4 hV4 hX4
  have hBE0 := Lib.hid (show Byt (encGh n st V) from ((Byt.append hL1 (beB_byt _ _)).append (by intro x hx; simp at hx; omega)))
  generalize hE : encGh n st V = E0 at *
  have hE0 := Lib.hid hE
  clear hE
  go_wp2
  go_loopw [4, 30] (fun v i wr => ∃ k : Nat, k ≤ V.length ∧ i = .int .i64 k ∧ OwB wr (w.heap.size + 1) v (E0 ++ (V.take k).flatten) ∧ Blk wr w.heap.size 67 X ∧ Below w.heap.size w wr) (fun _ i _ => V.length - (intOf i).toNat)
  case atStart => exact ⟨0, Nat.zero_le _, rfl, by simpa using HO4.out, HX4.out, HV4.out⟩
  case round =>
    obtain ⟨k, hk, rfl, hO, hX, hV⟩ := hrel
    have HVr := Lib.hid hV
    have HOr := Lib.hid hO
    have HXr := Lib.hid hX
    have hzr := hX.lt
    clear hV hO hX
    by_cases hlt : k < V.length
    · have hkl : (k : Int) < (V.length : Int) := by omega
      obtain ⟨b1, o1, rfl, _⟩ := HCA.out (by omega)
      have hnm := Lib.hid (HV.out.2 _ (List.getElem_mem hlt))
      have HCL := Lib.hid (fun j hj => (HV.out.below HVr.out).nm k hlt j hj)
      have htk := Lib.hid (take_flat hlt)
      have hlk := flat_le HV.out.2 k
      generalize V[k] = nm at *
      go_wp2_with (first
        | (refine wpList_load_nm rfl (.tmp 32) rfl b1 (o1 + k * 8) rfl nm hnm.out.1 (fun j hj => HCL.out j hj) ?_)
        | (refine wpList_store_name _ rfl (.tmp 6) (.tmp 33) rfl wr.heap.size rfl nm rfl _ _ (Blk.new _ _ _) rfl hnm.out.1 ?_; intro w5 hS5 hg5; have hB5 := below_new hg5; have hO5 := HOr.out.below hB5; have hV5 := HVr.out.trans (hB5.mono (by omega)); have hX5 := HXr.out.below hB5 hzr)
        | (at_builtin; refine hold ?_))
      refine Lib.hid ?_
      refine wpList_app_bs _ rfl (.tmp 34) (.tmp 35) rfl (w.heap.size + 1) _ _ rfl hO5 _ nm rfl (by have := Sl.whole hS5 (by rw [hnm.out.1]; omega); rw [hnm.out.1] at this ⊢; exact this) (by have := HLh.out; have := hnm.out.1; rw [List.length_append]; omega) (by have := hX5.lt; omega) ?_
      intro v6 w6 hO6 hg6
      have HO6 := Lib.hid (show OwB w6 (w.heap.size + 1) v6 (E0 ++ (V.take (k + 1)).flatten) from by rw [htk.out, ← List.append_assoc]; exact hO6)
      have HV6 := Lib.hid ((hO5.base (Nat.le_succ _)).below_grown hV5 (by have := hX5.lt; omega) hg6)
      have HX6 := Lib.hid (hX5.grown hg6 (hO5.ne (by omega)))
      clear hS5 hg5 hB5 hO5 hV5 hX5 hO6 hg6
      go_wp2
      go_roundw
      case rel => exact ⟨k + 1, by omega, by go_num, HO6.out, HX6.out, HV6.out⟩
      case measure => simp [intOf]; omega
    · obtain rfl : k = V.length := by omega
      have hd : decide ((V.length : Int) < (V.length : Int)) = false := by simp
      have c3 := HXr.out.cell 3
      rw [HX.out] at c3
      simp at c3
      rw [List.take_length] at HOr
      go_wp2_with (at_builtin; refine hold ?_)
      refine Lib.hid ?_
      refine wpList_app_bs _ rfl (.tmp 38) (.tmp 43) rfl (w.heap.size + 1) _ _ rfl (HOr.out.alloc _) _ [(A.length : Int)] rfl (Sl.one _ _ _) (by have := HLh.out; have := flat_le HV.out.2 V.length; rw [List.take_length] at this; simp only [List.length_append, List.length_cons, List.length_nil]; omega) (by simp; omega) ?_
      intro v5 w5 hO5 hg5
      have hV5 := ((HOr.out.base (Nat.le_succ _)).alloc (.cells #[.int .u8 (A.length : Int)] 5)).below_grown (HVr.out.alloc HVr.out.size _) (by simp; omega) hg5
      have hX5 := (HXr.out.old (.cells #[.int .u8 (A.length : Int)] 5)).grown hg5 (HOr.out.ne (by omega))
      have c3 := hX5.cell 3
      rw [HX.out] at c3
      simp at c3
      have HLf := Lib.hid (show (E0 ++ V.flatten ++ [(A.length : Int)]).length ≤ 90 by have := HLh.out; have := flat_le HV.out.2 V.length; rw [List.take_length] at this; simp only [List.length_append, List.length_cons, List.length_nil]; omega)
      have HE := Lib.hid (show encG n st V A B = E0 ++ V.flatten ++ [(A.length : Int)] ++ (List.range A.length).flatMap (accB A B) by rw [← hE0.out]; rfl)
      have HBYf := Lib.hid (show Byt (E0 ++ V.flatten ++ [(A.length : Int)]) from (hBE0.out.append (flat_byt HV.out.2)).append (by intro x hx; simp at hx; omega))
      generalize E0 ++ V.flatten ++ [(A.length : Int)] = E1 at *
      have HO5 := Lib.hid hO5
      have HV5 := Lib.hid hV5
      have HX5 := Lib.hid hX5
      clear hg5 hO5 hV5 hX5 HOr HVr HXr HO4 HV4 HX4
      go_wp2
      go_loopw [4, 48] (fun v i wr => ∃ k : Nat, k ≤ A.length ∧ i = .int .i64 k ∧ OwB wr (w.heap.size + 1) v (E1 ++ (List.range k).flatMap (accB A B)) ∧ Blk wr w.heap.size 67 X ∧ Below w.heap.size w wr) (fun _ i _ => A.length - (intOf i).toNat)
      case atStart => exact ⟨0, Nat.zero_le _, rfl, by simpa using HO5.out, HX5.out, HV5.out⟩
      case round =>
        obtain ⟨k, hk, rfl, hO, hX, hV⟩ := hrel
        have HVr := Lib.hid hV
        have HOr := Lib.hid hO
        have HXr := Lib.hid hX
        have hzr := hX.lt
        clear hV hO hX
        by_cases hlt : k < A.length
        · have hkl : (k : Int) < (A.length : Int) := by omega
          obtain ⟨b1, o1, rfl, _⟩ := HCB.out (by omega)
          obtain ⟨b4, o4, rfl, _⟩ := HCC.out (by have := HAB.out; omega)
          have hkB : k < B.length := by have := HAB.out; omega
          have hkBl : (k : Int) < (B.length : Int) := by omega
          have hnm := Lib.hid (HA.out.2 _ (List.getElem_mem hlt))
          have HCL := Lib.hid (fun j hj => (HA.out.below HVr.out).nm k hlt j hj)
          have HXK := Lib.hid (fun w' (hw : Below w.heap.size w w') => (HB.out.below hw).cell k hkB)
          have hx := HBS.out (idAt B k) (by unfold idAt; rw [List.getD_eq_getElem?_getD, List.getElem?_eq_getElem hkB]; exact List.getElem_mem _)
          have hx0 : 0 ≤ idAt B k ∧ idAt B k ≤ 1099511627776 := hx
          have htk : Hid ((List.range (k + 1)).flatMap (accB A B) = (List.range k).flatMap (accB A B) ++ (A[k] ++ beB (idAt B k) 6)) := Lib.hid (by rw [range_snoc, accB, List.getD_eq_getElem?_getD, List.getElem?_eq_getElem hlt]; rfl)
          have HLk := Lib.hid (range_len A B HA.out.2 k (by omega))
          have HBk : Hid (Byt ((List.range k).flatMap (accB A B))) := Lib.hid (range_byt HA.out.2 k (by omega))
          clear hx
          generalize A[k] = nm at *
          generalize idAt B k = x at *
          have hwx : IntKind.u64.wrap x = x := wrap_u64_id hx0.1 (by omega)
          go_wp2_with (first
            | (refine wpList_load_nm rfl (.tmp 51) rfl b1 (o1 + k * 8) rfl nm hnm.out.1 (fun j hj => HCL.out j hj) ?_)
            | (refine wpList_store_name _ rfl (.tmp 8) (.tmp 52) rfl wr.heap.size rfl nm rfl _ _ (Blk.new _ _ _) rfl hnm.out.1 ?_; intro w7 hS7 hg7; have hB7 := below_new hg7; have hO7 := HOr.out.below hB7; have hV7 := HVr.out.trans (hB7.mono (by omega)); have hX7 := HXr.out.below hB7 hzr))
          have HS7 := Lib.hid hS7
          have HO7 := Lib.hid hO7
          have HV7 := Lib.hid hV7
          have HX7 := Lib.hid hX7
          have hz7 := hX7.lt
          clear hS7 hg7 hB7 hO7 hV7 hX7
          have SO : Hid (∀ w', Below w.heap.size w w' → Blk w' w.heap.size 67 X → w'.cell? ⟨w.heap.size, 4, none⟩ = some (.slice (some ⟨b4, o4, none⟩) B.length kc) ∧ w'.cell? ⟨b4, o4 + k, none⟩ = some (.int .i64 x)) := fun w' h1 h2 => ⟨(h2.cell 4).trans (HX.out 4), HXK.out w' h1⟩
          go_region_held3 (fun w' => w'.cell? ⟨w.heap.size, 4, none⟩ = some (.slice (some ⟨b4, o4, none⟩) B.length kc) ∧ w'.cell? ⟨b4, o4 + k, none⟩ = some (.int .i64 x))
            ((first | exact SO.out _ hV9 hX9 | exact SO.out _ hV8 hX8 | exact SO.out _ HV7.out.drew HX7.out.drew))
            (first
              | ((go_at_call 94; refine (appendUint_any _ _ x 6 _ (hO8.bs (by have := HLf.out; have := HLk.out; have := hnm.out.1; simp only [List.length_append]; omega) ((HBYf.out.append HBk.out).append hnm.out.2)) ⟨by omega, by omega⟩ (by omega) (by omega) (by have := HLf.out; have := HLk.out; have := hnm.out.1; simp only [List.length_append]; omega)).mono ?_; rintro e w9 ⟨v9, rfl, hO9, hB9⟩; have hV9 := hV8.trans (hB9.mono hV8.size); have hX9 := hX8.below hB9 hX8.lt))
              | ((refine step_app_bs rfl (.tmp 53) (.tmp 54) rfl (w.heap.size + 1) _ _ rfl HO7.out.drew _ nm rfl (by have := Sl.whole HS7.out.drew (by rw [hnm.out.1]; omega); rw [hnm.out.1] at this ⊢; exact this) (by have := HLf.out; have := HLk.out; have := hnm.out.1; simp only [List.length_append]; omega) (show w.heap.size + 1 ≤ w7.heap.size by omega) ?_; intro v8 w8 hO8 hg8; have hV8 := (HO7.out.base (Nat.le_succ _)).drew.below_grown HV7.out.drew (show w.heap.size ≤ w7.heap.size by omega) hg8; have hX8 := HX7.out.drew.grown hg8 (HO7.out.drew.ne (by omega)))))
          have HO10 := Lib.hid (show OwB w9 (w.heap.size + 1) v9 (E1 ++ (List.range (k + 1)).flatMap (accB A B)) from by
            rw [htk.out]
            have := hO9.base (base' := w.heap.size + 1) (by have := hX8.lt; omega)
            rw [show Int.toNat 6 = 6 from rfl] at this
            simpa only [List.append_assoc] using this)
          have HX10 := Lib.hid hX9
          have HV10 := Lib.hid hV9
          clear hO9 hX9 hV9 hO8 hX8 hV8 hB9 hg8
          go_wp2
          go_roundw
          case rel => exact ⟨k + 1, by omega, by go_num, HO10.out, HX10.out, HV10.out⟩
          case measure => simp [intOf]; omega
        · obtain rfl : k = A.length := by omega
          have hd : decide ((A.length : Int) < (A.length : Int)) = false := by simp
          go_wp2
          go_ret2
          exact ⟨_, rfl, by rw [HE.out]; exact HOr.out.base (Nat.le_succ _), HVr.out⟩
end Go.Proofs.Ytilhceihelcdgaa
