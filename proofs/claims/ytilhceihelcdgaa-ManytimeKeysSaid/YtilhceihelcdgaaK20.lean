/-
  Keys of many-time signatures: Sign.
-/
import Derived.Test.YtilhceihelcdgaaK19
import Derived.Test.YtilhceihelcdgaaKS
namespace Go.Proofs.Ytilhceihelcdgaa
open Go.RowKit

set_option maxRecDepth 100000 in
set_option maxHeartbeats 8000000 in
theorem mksign1_yes (x m : List Int) (B b N : Nat) (q : Nat) (w : World) (hx : IsN x) (hm : IsN m) (hK : Blk w B 133 (mkCells x 1 b).toArray) (hBb : B ≠ b) (hT : Trees w x b (fun _ => True) N) (hN : N ≤ 800) (hq : (q : Int) < capOf 1) :
    Calls Try.prog 34 #[.pointer (some ⟨B, 0, none⟩), .int .i64 q, nv m] w fun e w' => ∃ v', e = .returned (.tuple #[v', .bool true]) ∧ OwB w' w.heap.size v' (msig x 1 q m) ∧ Trees w' x b (fun _ => True) (N + 3) ∧ w.grownBy w' (some b) := by
  have HX := Lib.hid hx
  have HMN := Lib.hid hm
  have HK := Lib.hid hK
  have hb := hT.lt
  have hlK := hK.lt
  rw [show capOf 1 = 32 by simp [capOf]] at hq
  have hq1024 : q < 1024 := by omega
  have HMS : Hid (msig x 1 q m = beB q 2 ++ psig x m 1 ((q : Int) / 32) ((q : Int) % 32).toNat) := by
    show _ = _
    unfold msig
    rw [if_neg (by omega), List.append_nil, show ((q / 32 : Nat) : Int) = (q : Int) / 32 by omega, show ((q : Int) % 32).toNat = q % 32 by omega]
  rw [HMS.out]
  have CP := Lib.hid (fun w => capacity_any 1 w (by omega) (by omega))
  rw [show capOf 1 = 32 by simp [capOf]] at CP
  have AU := Lib.hid (fun w => appendUint_any [] (.slice none 0 0) (q : Int) 2 w ⟨⟨none, 0, rfl, Nat.le_refl _, Nat.zero_le _, fun _ => rfl, by simp, rfl, fun h => absurd h (by simp)⟩, Byt.nil⟩ ⟨by omega, by omega⟩ (by omega) (by omega) (by simp))
  have e2 : ((2 : Int)).toNat = 2 := rfl
  rw [e2] at AU
  have hbl : (beB q 2).length = 2 := beB_len _ _
  have SG := Lib.hid (fun w' (v0 : Value) (hT' : Trees w' x b (fun g => some g ≠ v0.ownBlock) N) (hO' : OwB w' 0 v0 (beB q 2)) (hG' : w.grownBy w' (some b)) (hv : ∀ k, v0.ownBlock = some k → w.heap.size ≤ k) => msigned_any x m (beB q 2) B b N 1 1 ((q : Int) / 32) ((q : Int) % 32) v0 w' w hx hm hK hBb hb hT' (by omega) hO' (Nat.le_trans (Nat.le_of_eq hbl) (by omega)) hG' hv ⟨by omega, by omega⟩ ⟨by omega, by omega⟩ ⟨by omega, by omega⟩)
  generalize psig x m 1 ((q : Int) / 32) ((q : Int) % 32).toNat = Y at *
  generalize beB q 2 = A at *
  have hwq : IntKind.u64.wrap (q : Int) = (q : Int) := by rw [IntKind.wrap_u64]; omega
  have hg1 : decide ((q : Int) < 0) = false := by rw [decide_eq_false_iff_not]; omega
  have hg2 : decide ((32 : Int) ≤ (q : Int)) = false := by simp; omega
  have c8 := mkCells_lv hx hK
  have c9 := mkCells_map hx hK
  have HT := Lib.hid hT
  clear hx hm hK hT hbl e2
  go_enter Try.func34, Try.ntmps34
  go_wp2_with (refine wpList_box_name rfl (.tmp 2) rfl m rfl ?_; intro w1 hM1 hB1 hs1; refine hold ?_)
  refine Lib.hid ?_
  have hK1 := HK.out.below hB1 hlK
  have d8 := mkCells_lv HX.out hK1
  have d9 := mkCells_map HX.out hK1
  clear c8 c9 hK1
  go_wp2_with (first
    | (go_at_call 91; refine (mready_yes B b _ d9).mono ?_; rintro e w2 ⟨rfl, rfl⟩)
    | (go_at_call 21; refine (CP.out _).mono ?_; rintro e w2 ⟨rfl, rfl⟩)
    | (go_at_call 94; refine (AU.out _).mono ?_; rintro e w3 ⟨v3, rfl, hO3, hB3⟩; rw [List.nil_append] at hO3; have hV3 := hB1.trans (hB3.mono hB1.size); have hO3' := hO3.base (Nat.zero_le _); have lo3 : ∀ k, v3.ownBlock = some k → w.heap.size ≤ k := fun k hk => Nat.le_trans hB1.size (World.ownsRow.lt hO3 k hk).1; have hT3 : Trees w3 x b (fun g => some g ≠ v3.ownBlock) N := Trees.imp (Trees.below (Trees.imp (P' := fun g => g < w.heap.size) HT.out (fun g hg _ => hg)) hV3) (fun g _ hp e => by have := lo3 g e.symm; omega); have hM3 := hM1.below hB3 hM1.lt)
    | (refine wpList_load_name _ rfl (.tmp 5) rfl w.heap.size rfl _ _ hM3 HMN.out.1 ?_)
    | (go_at_call 95; refine (SG.out _ _ hT3 hO3' (grown_of_below hV3) lo3).mono ?_; rintro e w4 ⟨v4, rfl, hO4, hT4, hG4, hlo4⟩; have hK4' := HK.out.grown hG4 (fun e => hBb (by injection e)); have f8 := mkCells_lv HX.out hK4'))
  go_ret2
  exact ⟨_, rfl, OwB.up hO4 hlo4, (hT4.imp (fun _ _ _ => trivial)).mono (by omega), hG4⟩

set_option maxRecDepth 100000 in
set_option maxHeartbeats 8000000 in
theorem mksign2_yes (x m : List Int) (B b N : Nat) (q : Nat) (w : World) (hx : IsN x) (hm : IsN m) (hK : Blk w B 133 (mkCells x 2 b).toArray) (hBb : B ≠ b) (hT : Trees w x b (fun _ => True) N) (hN : N ≤ 800) (hq : (q : Int) < capOf 2) :
    Calls Try.prog 34 #[.pointer (some ⟨B, 0, none⟩), .int .i64 q, nv m] w fun e w' => ∃ v', e = .returned (.tuple #[v', .bool true]) ∧ OwB w' w.heap.size v' (msig x 2 q m) ∧ Trees w' x b (fun _ => True) (N + 3) ∧ w.grownBy w' (some b) := by
  have HX := Lib.hid hx
  have HMN := Lib.hid hm
  have HK := Lib.hid hK
  have hb := hT.lt
  have hlK := hK.lt
  rw [show capOf 2 = 1024 by simp [capOf]] at hq
  have hq1024 : q < 1024 := by omega
  have HMS : Hid (msig x 2 q m = beB q 2 ++ psig x m 1 ((q : Int) / 32) ((q : Int) % 32).toNat ++ psig x (mroot 5 (otree x 1 ((q : Int) / 32))) 2 0 ((q : Int) / 32).toNat) := by
    show _ = _
    unfold msig
    rw [if_pos rfl, show ((q / 32 : Nat) : Int) = (q : Int) / 32 by omega, show ((q : Int) % 32).toNat = q % 32 by omega, show ((q : Int) / 32).toNat = q / 32 by omega, List.append_assoc]
  rw [HMS.out]
  have CP := Lib.hid (fun w => capacity_any 2 w (by omega) (by omega))
  rw [show capOf 2 = 1024 by simp [capOf]] at CP
  have AU := Lib.hid (fun w => appendUint_any [] (.slice none 0 0) (q : Int) 2 w ⟨⟨none, 0, rfl, Nat.le_refl _, Nat.zero_le _, fun _ => rfl, by simp, rfl, fun h => absurd h (by simp)⟩, Byt.nil⟩ ⟨by omega, by omega⟩ (by omega) (by omega) (by simp))
  have e2 : ((2 : Int)).toNat = 2 := rfl
  rw [e2] at AU
  have hbl : (beB q 2).length = 2 := beB_len _ _
  have SG := Lib.hid (fun w' (v0 : Value) (hT' : Trees w' x b (fun g => some g ≠ v0.ownBlock) N) (hO' : OwB w' 0 v0 (beB q 2)) (hG' : w.grownBy w' (some b)) (hv : ∀ k, v0.ownBlock = some k → w.heap.size ≤ k) => msigned_any x m (beB q 2) B b N 2 1 ((q : Int) / 32) ((q : Int) % 32) v0 w' w hx hm hK hBb hb hT' (by omega) hO' (Nat.le_trans (Nat.le_of_eq hbl) (by omega)) hG' hv ⟨by omega, by omega⟩ ⟨by omega, by omega⟩ ⟨by omega, by omega⟩)
  have hRN := mroot_isN 5 (otree x 1 ((q : Int) / 32))
  have SG2 := Lib.hid (fun w' (v0 : Value) acc (hT' : Trees w' x b (fun g => some g ≠ v0.ownBlock) (N + 1 + 1)) (hO' : OwB w' 0 v0 (beB q 2 ++ acc)) (hG' : w.grownBy w' (some b)) (hv : ∀ k, v0.ownBlock = some k → w.heap.size ≤ k) (hacc : acc.length = 184) => msigned_any x (mroot 5 (otree x 1 ((q : Int) / 32))) (beB q 2 ++ acc) B b (N + 1 + 1) 2 2 0 ((q : Int) / 32) v0 w' w hx hRN hK hBb hb hT' (by omega) hO' (by rw [List.length_append, hbl, hacc]; omega) hG' hv ⟨by omega, by omega⟩ ⟨by omega, by omega⟩ ⟨by omega, by omega⟩)
  have hpl := psig_len x m 1 ((q : Int) / 32) ((q : Int) % 32).toNat
  have hTl := otree_len x 1 ((q : Int) / 32)
  have hTi := otree_isN x 1 ((q : Int) / 32)
  have TR := Lib.hid (fun w' (v0 : Value) (hK' : Blk w' B 133 (mkCells x 2 b).toArray) (hT' : Trees w' x b (fun g => some g ≠ v0.ownBlock) (N + 1)) (hlt : ∀ k, v0.ownBlock = some k → 0 ≤ k ∧ k < w'.heap.size) => mtree_any x B b (N + 1) (fun g => some g ≠ v0.ownBlock) 2 1 ((q : Int) / 32) w' hx hK' hT' (by omega) (fun g hg e => by have := hlt g e.symm; omega) ⟨by omega, by omega⟩ ⟨by omega, by omega⟩)
  have RT := Lib.hid (fun w g (hb : Blk w g 30 (bsv (otree x 1 ((q : Int) / 32)).flatten).toArray) => root_any 5 (by omega) (otree x 1 ((q : Int) / 32)) _ w (Ns.whole hb hTi (n := 32) hTl.symm (by omega)) hTl)
  generalize mroot 5 (otree x 1 ((q : Int) / 32)) = R at *
  generalize otree x 1 ((q : Int) / 32) = T at *
  have SG2' := Lib.hid (fun w' (v0 : Value) hT' hO' hG' hv => SG2.out w' v0 _ hT' hO' hG' hv hpl)
  generalize psig x R 2 0 ((q : Int) / 32).toNat = Z at *
  generalize psig x m 1 ((q : Int) / 32) ((q : Int) % 32).toNat = Y at *
  generalize beB q 2 = A at *
  have hwq : IntKind.u64.wrap (q : Int) = (q : Int) := by rw [IntKind.wrap_u64]; omega
  have hg1 : decide ((q : Int) < 0) = false := by rw [decide_eq_false_iff_not]; omega
  have hg2 : decide ((1024 : Int) ≤ (q : Int)) = false := by simp; omega
  have c8 := mkCells_lv hx hK
  have c9 := mkCells_map hx hK
  have HT := Lib.hid hT
  clear hx hm hK hT hbl e2 hTl hTi hpl hRN
  go_enter Try.func34, Try.ntmps34
  go_wp2_with (refine wpList_box_name rfl (.tmp 2) rfl m rfl ?_; intro w1 hM1 hB1 hs1; refine hold ?_)
  refine Lib.hid ?_
  have hK1 := HK.out.below hB1 hlK
  have d8 := mkCells_lv HX.out hK1
  have d9 := mkCells_map HX.out hK1
  clear c8 c9 hK1
  go_wp2_with (first
    | (go_at_call 91; refine (mready_yes B b _ d9).mono ?_; rintro e w2 ⟨rfl, rfl⟩)
    | (go_at_call 21; refine (CP.out _).mono ?_; rintro e w2 ⟨rfl, rfl⟩)
    | (go_at_call 94; refine (AU.out _).mono ?_; rintro e w3 ⟨v3, rfl, hO3, hB3⟩; rw [List.nil_append] at hO3; have hV3 := hB1.trans (hB3.mono hB1.size); have hO3' := hO3.base (Nat.zero_le _); have lo3 : ∀ k, v3.ownBlock = some k → w.heap.size ≤ k := fun k hk => Nat.le_trans hB1.size (World.ownsRow.lt hO3 k hk).1; have hT3 : Trees w3 x b (fun g => some g ≠ v3.ownBlock) N := Trees.imp (Trees.below (Trees.imp (P' := fun g => g < w.heap.size) HT.out (fun g hg _ => hg)) hV3) (fun g _ hp e => by have := lo3 g e.symm; omega); have hM3 := hM1.below hB3 hM1.lt)
    | (refine wpList_load_name _ rfl (.tmp 5) rfl w.heap.size rfl _ _ hM3 HMN.out.1 ?_)
    | (have _ := hB6; go_at_call 95; refine (SG2'.out _ v4 hT6 hO6 hG6 hlo4).mono ?_; rintro e w7 ⟨v7, rfl, hO7, hT7, hG7, hlo7⟩)
    | (go_at_call 93; refine (TR.out _ v4 hK4' hT4 (World.ownsRow.lt hO4)).mono ?_; rintro e w5 ⟨g, rfl, hgB, hg1, hg2, hT5, hG5⟩)
    | (go_at_call 92; refine (RT.out _ _ hgB).mono ?_; rintro e w6 ⟨rfl, hB6⟩; have hG45 := grown_below hG5 hB6; have hG6 := grown_trans hG4 hG45; have hT6 := hT5.below hB6; have hO6 : OwB w6 0 v4 _ := World.ownsRow.kept hO4 hG45 (.inr fun e => by have := hlo4 _ e; omega))
    | (go_at_call 95; refine (SG.out _ _ hT3 hO3' (grown_of_below hV3) lo3).mono ?_; rintro e w4 ⟨v4, rfl, hO4, hT4, hG4, hlo4⟩; have hK4' := HK.out.grown hG4 (fun e => hBb (by injection e)); have f8 := mkCells_lv HX.out hK4'))
  go_ret2
  exact ⟨_, rfl, OwB.up hO7 hlo7, (hT7.imp (fun _ _ _ => trivial)).mono (by omega), hG7⟩

end Go.Proofs.Ytilhceihelcdgaa
