/-
  A block is encoded: the program's text and the reference's.
-/
import Derived.Test.YtilhceihelcdgaaB2
import Derived.Test.YtilhceihelcdgaaB3
namespace Go.Proofs.Ytilhceihelcdgaa
open Go.RowKit

theorem un_block : (Try.prog.underlying 59).map TypeDesc.isRow = some true := by kernel_rfl
theorem size_block : (Try.prog.info? 59).map (·.size) = some 9 := by kernel_rfl
theorem un_choice : (Try.prog.underlying 139).map TypeDesc.isRow = some true := by kernel_rfl
theorem size_choice : (Try.prog.info? 139).map (·.size) = some 9 := by kernel_rfl
theorem blv_size {p : List Int} {v : Value} (hp : p.length = 8) : (blv p v).toArray.size = 9 := by simp [blv, bsv_length, hp]
theorem blv_byte {p : List Int} {v : Value} (hp : p.length = 8) : ∀ j, j < 8 → (blv p v).toArray[0 + j]? = (bsv p)[j]? := by
  intro j hj
  simp only [blv, List.getElem?_toArray, Nat.zero_add]
  rw [List.getElem?_append_left (by rw [bsv_length, hp]; exact hj)]
theorem chv_one (s : Int × List Int) : (chv s).toArray.all (·.oneCell') = true := by
  rw [Array.all_eq_true_iff_forall_mem]
  intro x hx
  simp only [chv, List.mem_toArray, List.mem_cons] at hx
  rcases hx with rfl | hx
  · rfl
  · exact bsv_one _ x hx
theorem chv_byte (s : Int × List Int) : ∀ j, (chv s).toArray[1 + j]? = (bsv s.2)[j]? := by
  intro j
  simp [chv, Nat.add_comm]
theorem OwB.lit (w : World) (base : Nat) (l : List Int) (h : base ≤ w.heap.size) (hl : l.length ≤ 1000) : OwB (w.alloc (.cells (bsv l).toArray 5)) base (.slice (some ⟨w.heap.size, 0, none⟩) l.length l.length) l := by
  have := World.ownsRow_lit (e := 5) (size := 1) w (bsv l).toArray l.length h (by unfold maxLen; omega) (by simp [bsv_length])
  unfold OwB
  simpa using this

/-- A slot's bytes; a block's text. -/
def slotB (s : Int × List Int) : List Int := s.1 :: s.2
def encB (p : List Int) (L : List (Int × List Int)) : List Int := 3 :: (p ++ ((L.length : Int) :: L.flatMap slotB))
def encO (p : List Int) (L : List (Int × List Int)) : List Int := if BlkOk L then encB p L else []
theorem BlkOk.slot {L : List (Int × List Int)} (h : BlkOk L) (k : Nat) (hk : k < L.length) : 0 ≤ L[k].1 ∧ L[k].1 < 10 := by
  have := h.2.2 k (by rw [ids_len]; exact hk)
  have e : idAt (ids L) k = L[k].1 := by simp [idAt, ids, List.getD_eq_getElem?_getD, List.getElem?_eq_getElem hk]
  rw [← e]; exact ⟨this.1, this.2.1⟩
theorem slots_len {L : List (Int × List Int)} (h : ∀ s ∈ L, ChOk s) : (L.flatMap slotB).length = L.length * 9 := by
  induction L with
  | nil => rfl
  | cons a L ih =>
    rw [List.flatMap_cons, List.length_append, ih (fun s hs => h s (by simp [hs])), List.length_cons]
    have := (h a (by simp)).1.1
    simp [slotB, this]; omega
set_option maxHeartbeats 2000000 in
theorem encodeBlock_yes (p : List Int) (L : List (Int × List Int)) (v : Value) (w : World) (hp : IsN p) (h : Cs w v L) (hok : BlkOk L) :
    Calls Try.prog 45 #[.agg (blv p v).toArray] w fun e w' => ∃ v', e = .returned (.tuple #[v', .int .i64 0]) ∧ OwB w' w.heap.size v' (encB p L) ∧ Below w.heap.size w w' := by
  obtain ⟨a, cap, rfl, hnc, hcm, _, hln, _, hc⟩ := id h.1
  unfold maxLen at hcm
  obtain ⟨b, o, rfl, hcc⟩ := hc (by have := hok.1; omega)
  have HV := Lib.hid (fun w h => validBlock_any p L (.slice (some ⟨b, o, none⟩) L.length cap) w hp.1 h)
  rw [decide_eq_true hok] at HV
  have hX8 := blv_at (p := p) (v := .slice (some ⟨b, o, none⟩) L.length cap) hp.1
  have HXB := Lib.hid (blv_byte (p := p) (v := .slice (some ⟨b, o, none⟩) L.length cap) hp.1)
  have HXS := Lib.hid (blv_size (p := p) (v := .slice (some ⟨b, o, none⟩) L.length cap) hp.1)
  have H := Lib.hid h
  have HO := Lib.hid hok
  have HP := Lib.hid hp
  have hl7 : L.length ≤ 7 := hok.2.1
  have hl1 : 1 ≤ L.length := hok.1
  generalize hX : (blv p (.slice (some ⟨b, o, none⟩) L.length cap)).toArray = X at *
  clear hc hcc h hok hp hX
  have HX8 := Lib.hid hX8
  have hwl : IntKind.u8.wrap (L.length : Int) = L.length := by simp [IntKind.wrap, IntKind.bits, IntKind.signed]; omega
  clear hX8
  go_enter Try.func45, Try.ntmps45
  go_wp2_with (first
    | (refine wpList_box_any rfl _ (.tmp 0) rfl X rfl ?_; intro w1 hX1 hB1 hs1)
    | (refine wpList_load_all rfl _ (.tmp 1) rfl w.heap.size rfl _ X hX1 un_block (by rw [HXS.out]; exact size_block) ?_)
    | (go_at_call 108; refine (HV.out _ (by exact H.out.below hB1)).mono ?_; rintro e w2 ⟨rfl, hB2⟩; have hX2 := hX1.below hB2 hX1.lt; have hV2 := hB1.trans (hB2.mono hB1.size); have hz2 := hX2.lt)
    | (at_builtin; refine hold ?_))
  refine Lib.hid ?_
  have hO2 := OwB.lit w2 (w.heap.size + 1) [3] (by omega) (by simp)
  refine wpList_app_bs _ rfl (.tmp 10) (.tmp 12) rfl (w.heap.size + 1) _ [3] rfl hO2 _ p rfl (by have := Sl.part (hX2.old (.cells (bsv [3]).toArray 5)) 0 8 8 p HP.out.1 (by omega) (by omega) HXB.out; rw [HP.out.1] at this ⊢; exact this) (by have := HP.out.1; simp; omega) (by simp; omega) ?_
  intro v3 w3 hO3 hg3
  have hV3 := (hO2.base (Nat.le_succ _)).below_grown (hV2.alloc hV2.size _) (by simp; omega) hg3
  have hX3 := (hX2.old (.cells #[.int .u8 3] 5)).grown hg3 (hO2.ne (by omega))
  have hz3 := hX3.lt
  have c8 := hX3.cell 8
  rw [HX8.out] at c8
  clear hO2 hg3
  go_wp2_with (at_builtin; refine hold ?_)
  refine Lib.hid ?_
  refine wpList_app_bs _ rfl (.tmp 14) (.tmp 19) rfl (w.heap.size + 1) _ _ rfl (hO3.alloc _) _ [(L.length : Int)] rfl (Sl.one _ _ _) (by have := HP.out.1; simp; omega) (by simp; omega) ?_
  intro v4 w4 hO4 hg4
  have hV4 := ((hO3.base (Nat.le_succ _)).alloc (.cells #[.int .u8 (L.length : Int)] 5)).below_grown (hV3.alloc hV3.size _) (by simp; omega) hg4
  have hX4 := (hX3.old (.cells #[.int .u8 (L.length : Int)] 5)).grown hg4 (hO3.ne (by omega))
  have c84 := hX4.cell 8
  rw [HX8.out] at c84
  have hX4z := hX4.lt
  clear c8 hg4 hX3 hO3 hX4
  go_wp2
  have hV4' := Lib.hid hV4
  have hz4 := Lib.hid hX4z
  clear hV3 hz3 c84 hX1 hX2 hB1 hB2 hV2 hz2 hs1 HX8 HXB HXS HV hwl
  go_loopw [4, 24] (fun v i wr => ∃ k : Nat, k ≤ L.length ∧ i = .int .i64 k ∧ OwB wr (w.heap.size + 1) v ([3] ++ p ++ [(L.length : Int)] ++ (L.take k).flatMap slotB) ∧ Below w.heap.size w wr ∧ w.heap.size < wr.heap.size) (fun _ i _ => L.length - (intOf i).toNat)
  case atStart => exact ⟨0, Nat.zero_le _, rfl, by simpa using hO4, hV4'.out, hz4.out⟩
  case round =>
    obtain ⟨k, hk, rfl, hO, hV, hz⟩ := hrel
    have HVr := Lib.hid hV
    have HOr := Lib.hid hO
    clear hV hO
    by_cases hlt : k < L.length
    · have hkl : (k : Int) < (L.length : Int) := by omega
      have hs := HO.out.slot k hlt
      have hsn := (H.out.2 _ (List.getElem_mem hlt)).1
      have HCL := Lib.hid (fun j (hj : j < 9) => ((H.out.below HVr.out).cell k j hlt hj))
      have htk : Hid ((L.take (k + 1)).flatMap slotB = (L.take k).flatMap slotB ++ ([L[k].1] ++ L[k].2)) := Lib.hid (by rw [List.take_succ_eq_append_getElem hlt, List.flatMap_append]; simp [slotB])
      generalize L[k] = sk at *
      have hsl := Lib.hid (chv_len (s := sk) ⟨hsn, by omega, by omega⟩)
      go_wp2_with (first
        | (refine wpList_load_part rfl _ (.tmp 26) rfl b (o + k * 9) rfl (chv sk) (by intro j hj; rw [hsl.out] at hj; rw [Nat.add_assoc]; exact HCL.out j hj) un_choice (by rw [hsl.out]; exact size_choice) ?_)
        | (refine wpList_store_new rfl _ (.tmp 6) (.tmp 27) rfl wr.heap.size rfl (chv sk) rfl 9 hsl.out _ _ (Blk.new _ _ _) rfl size_choice (chv_one sk) ?_; intro w5 hS5 hg5))
      have hB5 := below_new hg5
      have hne := Lib.hid (HOr.out.ne_hi (n := wr.heap.size) (Nat.le_refl _))
      have hlk : ((L.take k).flatMap slotB).length ≤ 63 := by rw [slots_len (fun s hs => H.out.2 s (List.mem_of_mem_take hs)), List.length_take]; omega
      have hO5 := HOr.out.below hB5
      have hV5 := HVr.out.trans (hB5.mono (by omega))
      have hz5 := hS5.lt
      have c50 := hS5.cell 0
      have hsb := Lib.hid (chv_byte sk)
      simp only [chv, List.getElem?_toArray, List.getElem?_cons_zero] at c50
      have hws : IntKind.u8.wrap sk.1 = sk.1 := by rw [IntKind.wrap_u8]; omega
      have HO5 := Lib.hid hO5
      have HV5 := Lib.hid hV5
      have HS5 := Lib.hid hS5
      clear hg5 hB5 hO5 hV5 hS5
      go_region_law (first
        | (refine step_app_bs rfl (.tmp 28) (.tmp 32) rfl (w.heap.size + 1) _ _ rfl (HO5.out.drew.alloc _) _ [sk.1] rfl (Sl.one _ _ _) (by have := HP.out.1; simp only [List.length_append, List.length_cons, List.length_nil]; omega) (by simp; omega) ?_; intro v6 w6 hO6 hg6; have hV6 := ((HO5.out.base (Nat.le_succ _)).drew.alloc (.cells #[.int .u8 sk.1] 5)).below_grown (HV5.out.drew.alloc HV5.out.size _) (by simp; omega) hg6; have hz6 := hV6.size; have hS6 : Blk w6 wr.heap.size 139 (chv sk).toArray := (HS5.out.drew.old (.cells #[.int .u8 sk.1] 5)).grown hg6 hne.out; have hz7 := hS6.lt)
        | (refine step_app_bs rfl (.tmp 33) (.tmp 35) rfl (w.heap.size + 1) _ _ rfl hO6 _ sk.2 rfl (by have := Sl.part hS6 1 8 8 sk.2 hsn.1 (by omega) (by omega) (fun j _ => hsb.out j); rw [hsn.1] at this ⊢; exact this) (by have := HP.out.1; have := hsn.1; simp only [List.length_append, List.length_cons, List.length_nil]; omega) (by omega) ?_; intro v7 w7 hO7 hg7; have hV7 := (hO6.base (Nat.le_succ _)).below_grown hV6 (by omega) hg7; have hz8 := hg7.size))
      go_wp2
      go_roundw
      case rel =>
        refine ⟨k + 1, by omega, by go_num, ?_, hV7, by omega⟩
        rw [htk.out]
        simpa only [List.append_assoc] using hO7
      case measure => simp [intOf]; omega
    · obtain rfl : k = L.length := by omega
      go_wp2
      go_ret2
      refine ⟨_, rfl, ?_, HVr.out⟩
      have := HOr.out.base (Nat.le_succ _)
      rw [List.take_length] at this
      simpa [encB, List.append_assoc] using this
end Go.Proofs.Ytilhceihelcdgaa
