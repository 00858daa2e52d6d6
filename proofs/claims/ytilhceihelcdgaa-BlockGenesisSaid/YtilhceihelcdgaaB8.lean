/-
  A block is read out of its text.
-/
import Derived.Test.YtilhceihelcdgaaB7
namespace Go.Proofs.Ytilhceihelcdgaa
open Go.RowKit

/-- What is behind a block's kind, and what is left of it. -/
def encD (p : List Int) (L : List (Int × List Int)) : List Int := p ++ ((L.length : Int) :: L.flatMap slotB)
theorem encB_drop (p : List Int) (L : List (Int × List Int)) : (encB p L).drop 1 = encD p L := rfl
theorem slots_drop {L : List (Int × List Int)} (h : ∀ s ∈ L, ChOk s) : ∀ k, (hk : k < L.length) → (L.flatMap slotB).drop (9 * k) = slotB L[k] ++ (L.drop (k + 1)).flatMap slotB := by
  induction L with
  | nil => intro k hk; simp at hk
  | cons a L ih =>
    have ha : (slotB a).length = 9 := by have := (h a (by simp)).1.1; simp [slotB, this]
    intro k hk
    cases k with
    | zero => simp
    | succ k =>
      have := ih (fun s hs => h s (by simp [hs])) k (by simpa using hk)
      rw [List.flatMap_cons, show 9 * (k + 1) = (slotB a).length + 9 * k by omega, ← List.drop_drop, List.drop_left, this]
      simp
theorem encD_drop {p : List Int} {L : List (Int × List Int)} (hp : p.length = 8) (h : ∀ s ∈ L, ChOk s) (k : Nat) (hk : k < L.length) : (encD p L).drop (9 + 9 * k) = [L[k].1] ++ (L[k].2 ++ (L.drop (k + 1)).flatMap slotB) := by
  have h1 : encD p L = (p ++ [(L.length : Int)]) ++ L.flatMap slotB := by simp [encD]
  rw [h1, ← List.drop_drop, show 9 = (p ++ [(L.length : Int)]).length by simp [hp], List.drop_left]
  rw [show (p ++ [(L.length : Int)]).length * k = 9 * k by simp [hp], slots_drop h k hk]
  simp [slotB]
theorem encD_len {p : List Int} {L : List (Int × List Int)} (hp : p.length = 8) (h : ∀ s ∈ L, ChOk s) : (encD p L).length = 9 + 9 * L.length := by
  rw [encD, List.length_append, List.length_cons, slots_len h, hp]; omega
theorem encB_len {p : List Int} {L : List (Int × List Int)} (hp : p.length = 8) (h : ∀ s ∈ L, ChOk s) : (encB p L).length = 10 + 9 * L.length := by
  rw [encB, List.length_cons, show p ++ ((L.length : Int) :: L.flatMap slotB) = encD p L from rfl, encD_len hp h]; omega

theorem one_chv (s : Int × List Int) : ∀ u ∈ chv s, u.oneCell' = true := by
  intro u hu
  simp only [chv, List.mem_cons] at hu
  rcases hu with rfl | hu
  · rfl
  · exact bsv_one _ u hu
set_option maxRecDepth 100000 in
set_option maxHeartbeats 4000000 in
theorem decodeBlock_ok (p : List Int) (L : List (Int × List Int)) (t : Value) (w : World) (hp : IsN p) (hL : ∀ s ∈ L, ChOk s) (hok : BlkOk L) (h : Bs w t (encB p L)) :
    Calls Try.prog 47 #[t] w fun e w' => ∃ v', e = .returned (.tuple #[.agg (blv p v').toArray, .int .i64 0]) ∧ Cs w' v' L ∧ Below w.heap.size w w' := by
  have HO := Lib.hid (fun w h => open_ok (encB p L) t 3 w h (by simp [kindOf, encB]) (by rw [encB_len hp.1 hL]; omega))
  have H := Lib.hid h
  have HL := Lib.hid hL
  have HK := Lib.hid hok
  have hl7 : L.length ≤ 7 := hok.2.1
  have hl1 : 1 ≤ L.length := hok.1
  have HDl := Lib.hid (encD_len hp.1 hL)
  have HDk := Lib.hid (fun k hk => encD_drop hp.1 hL k hk)
  have HN := Lib.hid (fun P u w hb hv => cname_any P (encD p L) u 0 false w hb hv (by omega))
  rw [curN_of (d := encD p L) (q := 0) (x := p) (r := (L.length : Int) :: L.flatMap slotB) rfl hp.1] at HN
  have HU := Lib.hid (fun P u w hb hv => cuint_any P (encD p L) u 8 1 false w hb hv (by omega) (by omega) (by rw [HDl.out]; omega))
  rw [curU_of (d := encD p L) (q := 8) (x := [(L.length : Int)]) (r := L.flatMap slotB) (n := 1) (by rw [encD, show 8 = p.length from hp.1.symm, List.drop_left]; rfl) rfl (by omega), numOf_one] at HU
  have HS := Lib.hid (fun k (hk : k < L.length) P u w hb hv => cuint_any P (encD p L) u (9 + 9 * k) 1 false w hb hv (by omega) (by omega) (by rw [HDl.out]; omega))
  have HM := Lib.hid (fun k (hk : k < L.length) P u w hb hv => cname_any P (encD p L) u (9 + 9 * k + 1) false w hb hv (by rw [HDl.out]; omega))
  obtain ⟨a, cap, rfl, hnc, hcm, _, _, _, hc⟩ := id h.1
  obtain ⟨p0, p1, p2, p3, p4, p5, p6, p7, rfl, _⟩ := hp.cases
  rw [show nv [p0, p1, p2, p3, p4, p5, p6, p7] = .agg #[.int .u8 p0, .int .u8 p1, .int .u8 p2, .int .u8 p3, .int .u8 p4, .int .u8 p5, .int .u8 p6, .int .u8 p7] from rfl] at HN
  clear hc h hL hok hp
  go_enter Try.func47, Try.ntmps47
  have hZ0 := Blk.new w 59 zeroBlock.toArray
  go_wp2_with (first
    | (go_at_call 103; refine (HO.out _ (by exact H.out.below (below1 w (.cells zeroBlock.toArray 59)))).mono ?_; rintro e w1 ⟨P, u, rfl, hP, hC1, hU1, hB1⟩; have hzp : w.heap.size < P := by simp at hP; omega)
    | (go_at_call 111; refine (HN.out P u _ hC1 (hU1.below hB1)).mono ?_; rintro e w2 ⟨rfl, hC2, hg2⟩; have hB2 := hB1.grown hg2 hB1.size (fun k hk => by injection hk; simp; omega))
    | (go_at_call 104; refine hold ?_))
  refine Lib.hid ?_
  have hB2' := hB2.alloc hB2.size (.cells (blv [p0, p1, p2, p3, p4, p5, p6, p7] (.slice none 0 0)).toArray 59)
  have hG2 := Blk.new w2 59 (blv [p0, p1, p2, p3, p4, p5, p6, p7] (.slice none 0 0)).toArray
  have hzP2 := hC2.lt
  refine (HU.out P u _ (by exact hC2.old _) (by exact hU1.below hB2')).mono ?_
  rintro e w3 ⟨rfl, hC3, hg3⟩
  have hB3 := hB2'.grown hg3 hB2'.size (fun k hk => by injection hk; simp; omega)
  have hG3 := hG2.grown hg3 (fun e => by injection e; omega)
  generalize w2.heap.size = G at *
  have HU1 := Lib.hid hU1
  have HC3 := Lib.hid hC3
  have HB3 := Lib.hid hB3
  have HG3 := Lib.hid hG3
  have HZ0 := Lib.hid hZ0
  clear hC1 hC2 hC3 hB1 hB2 hB2' hB3 hG2 hG3 hg2 hg3 hU1 hZ0 HO HN HU
  go_wp2
  go_loopw [13] (fun i wr => ∃ (k : Nat) (v : Value), k ≤ L.length ∧ i = .int .i64 k ∧ OwC wr (G + 1) v (L.take k) ∧ Blk wr G 59 (blv [p0, p1, p2, p3, p4, p5, p6, p7] v).toArray ∧ Blk wr P 215 #[u, .int .i64 ((9 + 9 * k : Nat) : Int), .bool false] ∧ Below (w.alloc (.cells zeroBlock.toArray 59)).heap.size (w.alloc (.cells zeroBlock.toArray 59)) wr) (fun i _ => L.length - (intOf i).toNat)
  case atStart => exact ⟨0, _, Nat.zero_le _, rfl, World.ownsRow_nil _ _ _ _, HG3.out, HC3.out, HB3.out⟩
  case round =>
    obtain ⟨k, v, hk, rfl, hO, hG, hC, hB⟩ := hrel
    have HOr := Lib.hid hO
    have HGr := Lib.hid hG
    have HCr := Lib.hid hC
    have HBr := Lib.hid hB
    clear hO hG hC hB
    by_cases hlt : k < L.length
    · have hkl : (k : Int) < (L.length : Int) := by omega
      have hsk := HL.out _ (List.getElem_mem hlt)
      have hid := HK.out.slot k hlt
      have HU' := Lib.hid (HS.out k hlt P u)
      have HM' := Lib.hid (HM.out k hlt P u)
      have hdk := HDk.out k hlt
      have htk : Hid (L.take (k + 1) = L.take k ++ [L[k]]) := Lib.hid (List.take_succ_eq_append_getElem hlt)
      generalize L[k] = sk at *
      obtain ⟨x, n⟩ := sk
      simp only at hid hdk
      have hdk2 : (encD [p0, p1, p2, p3, p4, p5, p6, p7] L).drop (9 + 9 * k + 1) = n ++ (L.drop (k + 1)).flatMap slotB := by rw [← List.drop_drop, hdk]; rfl
      rw [curU_of (n := 1) hdk rfl (by omega), numOf_one] at HU'
      rw [curN_of hdk2 hsk.1.1] at HM'
      obtain ⟨n0, n1, n2, n3, n4, n5, n6, n7, rfl, _⟩ := hsk.1.cases
      rw [show nv [n0, n1, n2, n3, n4, n5, n6, n7] = .agg #[.int .u8 n0, .int .u8 n1, .int .u8 n2, .int .u8 n3, .int .u8 n4, .int .u8 n5, .int .u8 n6, .int .u8 n7] from rfl] at HM'
      have c8 := HGr.out.cell 8
      have f8 := HGr.out.free 8
      rw [blv_at rfl] at c8
      have hkt : (L.take k).length = k := by rw [List.length_take]; omega
      have HTK := Lib.hid hkt
      have HSK := Lib.hid hsk
      clear hdk hdk2 hkt hsk
      go_wp2_with fail
      go_region_law (first
        | (go_simp; go_at_call 104; refine (HU'.out _ HCr.out.drew (HU1.out.below HBr.out.drew)).mono ?_; rintro e w5 ⟨rfl, hC5, hg5⟩; have hG5 := HGr.out.drew.grown hg5 (fun e => by injection e; omega); have hB5 := HBr.out.drew.grown hg5 HBr.out.size (fun k hk => by injection hk; simp; omega); have hO5 : OwC w5 (G + 1) v (L.take k) := HOr.out.grown (grown_trans (grown_of_below (Below.refl _ _).drew) hg5) (fun k hk => by injection hk; omega); have c85 := hG5.cell 8; have f85 := hG5.free 8; rw [blv_at rfl] at c85)
        | (go_simp; go_at_call 111; refine (HM'.out _ hC5 (HU1.out.below hB5)).mono ?_; rintro e w6 ⟨rfl, hC6, hg6⟩; have hG6 := hG5.grown hg6 (fun e => by injection e; omega); have hB6 := hB5.grown hg6 hB5.size (fun k hk => by injection hk; simp; omega); have hO6 : OwC w6 (G + 1) v (L.take k) := hO5.grown hg6 (fun k hk => by injection hk; omega); have c86 := hG6.cell 8; have f86 := hG6.free 8; rw [blv_at rfl] at c86; have hl6 := hG6.lt)
        | (refine step_app rfl (.tmp 16) (.tmp 22) _ rfl (G + 1) 139 _ 9 16 un_choices info_choice rfl (by omega) v _ _ rfl (World.ownsRow.alloc hO6 _) _ 1 (chv (x, [n0, n1, n2, n3, n4, n5, n6, n7])) rfl (Sl.row w6 _ _ 9 rfl) (one_chv _) (by rw [HTK.out]; omega) (by omega) (by have := hG6.lt; simp; omega) ?_; intro v7 w7 hO7 hg7; have hG7 : Blk w7 G 59 _ := (hG6.old (.cells (chv (x, [n0, n1, n2, n3, n4, n5, n6, n7])).toArray 139)).grown hg7 (own_ne hO6 (by omega)); have hC7 := (hC6.old (.cells (chv (x, [n0, n1, n2, n3, n4, n5, n6, n7])).toArray 139)).grown hg7 (own_ne hO6 (by omega)); have hB7 := (hB6.alloc hB6.size (.cells (chv (x, [n0, n1, n2, n3, n4, n5, n6, n7])).toArray 139)).grown hg7 (by have := hB6.size; simp at this ⊢; omega) (fun k hk => by have := (World.ownsRow.lt hO6 k hk).1; simp; omega); have c87 := hG7.cell 8; have f87 := hG7.free 8; rw [blv_at rfl] at c87; obtain ⟨a7, cap7, rfl, _⟩ := Sl.of_owns hO7 (by rw [HTK.out]; omega)))
      all_goals
        have hO8 : OwC w7 (G + 1) (.slice a7 (k + 1) cap7) (L.take (k + 1)) := by
          unfold OwC
          rw [htk.out, List.length_append, List.flatMap_append]
          have := hO7
          rw [HTK.out] at this
          rw [HTK.out]
          simpa using this
        have HO9 := Lib.hid (hO8.grown (grown_set (grown_refl w7 (some G)) 8 (.slice a7 (k + 1) cap7)) (fun k hk => by injection hk; omega))
        have hG9 : Blk (w7.setCell ⟨G, 8, none⟩ (.slice a7 (k + 1) cap7)) G 59 (blv [p0, p1, p2, p3, p4, p5, p6, p7] (.slice a7 (k + 1) cap7)).toArray := hG7.set 8 (.slice a7 (k + 1) cap7)
        have HG9 := Lib.hid hG9
        have hC9 := hC7.other ⟨G, 8, none⟩ (.slice a7 (k + 1) cap7) (by simp; omega)
        rw [show 9 + 9 * k + 1 + 8 = 9 + 9 * (k + 1) by omega] at hC9
        have HC9 := Lib.hid hC9
        have HB9 := Lib.hid (hB7.setCell (p := ⟨G, 8, none⟩) (by simp; omega) (.slice a7 (k + 1) cap7))
        clear hO7 hO8 hG9 hC9 hB7 hC7 hG7 c87 f87 c86 f86 c85 f85 hO6 hO5 hG6 hG5 hC6 hC5 hB6 hB5 hg5 hg6 c8 f8 HU' HM'
        go_wp2
        go_roundw
        case rel => exact ⟨k + 1, _, by omega, by go_num, HO9.out, HG9.out, HC9.out, HB9.out⟩
        case measure => simp [intOf]; omega
    · obtain rfl : k = L.length := by omega
      rw [List.take_length] at HOr
      have HCs := Lib.hid (HOr.out.cs (by omega) HL.out)
      have HDn := Lib.hid (cdone_any P (encD [p0, p1, p2, p3, p4, p5, p6, p7] L) u (9 + 9 * L.length) false wr HCr.out (HU1.out.below HBr.out))
      rw [show (!false && decide (9 + 9 * L.length = (encD [p0, p1, p2, p3, p4, p5, p6, p7] L).length)) = true by rw [HDl.out]; simp] at HDn
      have HV := Lib.hid (fun w h => validBlock_any [p0, p1, p2, p3, p4, p5, p6, p7] L v w rfl h)
      rw [decide_eq_true HK.out] at HV
      have HXS := Lib.hid (blv_size (p := [p0, p1, p2, p3, p4, p5, p6, p7]) (v := v) rfl)
      have HX1 := Lib.hid (blv_one [p0, p1, p2, p3, p4, p5, p6, p7] v (by obtain ⟨_, _, rfl, _⟩ := HCs.out.1; rfl))
      generalize hX : blv [p0, p1, p2, p3, p4, p5, p6, p7] v = X at *
      have HX := Lib.hid hX
      clear hX
      go_wp2_with (first
        | (go_at_call 106; refine HDn.out.mono ?_; rintro e w4 ⟨rfl, q, rfl⟩; have HG4 : Blk (wr.drewN q) G 59 X.toArray := HGr.out; have HB4 := below_drewN HBr.out q)
        | (refine wpList_load_all rfl _ (.tmp 5) rfl G rfl _ X.toArray HG5 un_block (by rw [HXS.out]; exact size_block) ?_)
        | (refine wpList_load_all rfl _ (.tmp 5) rfl G rfl _ X.toArray HG4 un_block (by rw [HXS.out]; exact size_block) ?_)
        | (go_at_call 108; refine (HV.out _ (by exact HCs.out.below (below_drewN (Below.refl _ _) q))).mono ?_; rintro e w5 ⟨rfl, hB5⟩; have HG5 := HG4.below hB5 HG4.lt; have HB5 := HB4.trans (hB5.mono HB4.size); have HZ5 := HZ0.out.below HB5 (by simp))
        | (refine wpList_store_new rfl _ (.tmp 2) (.tmp 35) rfl w.heap.size rfl X rfl 9 (by rw [← HXS.out]; simp) _ _ HZ5 rfl size_block HX1.out ?_; intro w6 hZ6 hg6))
      have hV6 := ((below1 w (.cells zeroBlock.toArray 59)).trans (HB5.mono (by simp))).grown hg6 (by have := HB5.size; simp at this; omega) (fun k hk => by injection hk; omega)
      refine ret_row2 rfl w.heap.size _ X (.int .i64 0) 9 (by rw [← HXS.out]; simp) rfl rfl rfl hZ6 un_block size_block ?_
      exact ⟨v, by rw [HX.out], (((HOr.out.below (below_drewN (Below.refl _ _) q)).below hB5).grown hg6 (fun k hk => by injection hk; omega)).cs (by omega) HL.out, hV6⟩
end Go.Proofs.Ytilhceihelcdgaa
