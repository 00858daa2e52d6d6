/-
  The sanity check of the statements on texts.
-/
import Derived.Test.YtilhceihelcdgaaB12
import Derived.Test.YtilhceihelcdgaaS1
namespace Go.Proofs.Ytilhceihelcdgaa
open Go.RowKit

theorem wpList_eql_nm {w : World} {ops : Array Oper} {rest : List Oper} {o : Oper} {a : Act} {Q : Exit → Act → World → Prop} (hw : Region.wanted o (yielded ops a.tmps) = true) (x y : Operand) (ho : o.op = .binOp .eql 30 x y 30)
    (k l : List Int) (hx : a.eval x = nv k) (hy : a.eval y = nv l) (hk : k.length = 8) (hl : l.length = 8) (h : wpList Try.prog ops Q rest (a.put o.dst (.bool (decide (k = l)))) w) : wpList Try.prog ops Q (o :: rest) a w :=
  wpList_gd hw fun K hK => by
    have e := run_eq_name w k l hk hl
    have hx' : a.eval x = .agg (bsv k).toArray := hx
    have hy' : a.eval y = .agg (bsv l).toArray := hy
    generalize (bsv k).toArray = X at *
    generalize (bsv l).toArray = Y at *
    unfold Oper.wp
    simp [execOp, ho, hx', hy', run_eqGuard_agg w _ _ x y X Y Try.eqGuardType30, run_eql_struct, e, Result.andThen]
    exact hK _ _ h
def one : List (Int × List Int) := [(1, zeroN)]
theorem one_ok : BlkOk one := by
  refine ⟨by simp [one], by simp [one], fun k hk => ?_⟩
  have : k = 0 := by simp [ids, one] at hk; omega
  subst this
  exact ⟨by simp [idAt, ids, one], by simp [idAt, ids, one], fun h => by omega⟩
theorem one_ch : ∀ s ∈ one, ChOk s := by
  intro s hs
  simp [one] at hs
  subst hs
  exact ⟨zeroN_isN, by simp, by simp⟩
set_option maxRecDepth 100000 in
set_option maxHeartbeats 8000000 in
theorem awake24 (w : World) : Calls Try.prog 39 #[] w fun e w' => e = .returned (.bool true) ∧ Below w.heap.size w w' := by
  go_enter Try.func39, Try.ntmps39
  go_wp2_with (first
    | (go_at_call 41; refine (encodePayload_zero _).mono ?_; rintro e w1 ⟨v1, rfl, hO1, hB1⟩)
    | (go_at_call 45; refine (encodeBlock_yes zeroN one (.slice (some ⟨w1.heap.size, 0, none⟩) 1 1) _ zeroN_isN ⟨Sl.row w1 (chv (1, zeroN)) 139 9 rfl, one_ch⟩ one_ok).mono ?_; rintro e w2 ⟨v2, rfl, hO2, hB2⟩; have hT2 := (below1 w1 (.cells (chv (1, zeroN)).toArray 139)).trans (hB2.mono (by simp)))
    | (go_at_call 99; refine (encodeRecord_zero _).mono ?_; rintro e w3 ⟨v3, rfl, hO3, hB3⟩)
    | (go_at_call 43; refine (decodePayload_bad (encB zeroN one) v2 _ ((hO2.bs (by simp [encB, one, zeroN, slotB]) (by intro x hx; simp [encB, one, zeroN, slotB] at hx; omega)).below hB3) (by simp [kindOf, encB])).mono ?_; rintro e w4 ⟨rfl, hB4⟩)
    | (go_at_call 49; refine (encodeGenesis_zero _).mono ?_; rintro e w5 ⟨rfl, hB5⟩; refine hold ?_))
  refine Lib.hid ?_
  have hT5 := (below1 w4 (.cells #[.slice none 0 0] 49)).trans (hB5.mono (by simp))
  have h1 := (hO1.bs (by simp) (by intro x hx; simp at hx; omega)).below (hT2.trans ((hB3.trans (hB4.mono hB3.size)).trans (hT5.mono (hB3.trans (hB4.mono hB3.size)).size) |>.mono hT2.size))
  have hV := hB1.trans ((hT2.trans ((hB3.trans (hB4.mono hB3.size)).trans (hT5.mono (hB3.trans (hB4.mono hB3.size)).size) |>.mono hT2.size)).mono hB1.size)
  have e1 := h1.str
  have hst : (strOfNums [2, 0]).toList = [2, 0] := by
    rw [ByteArray.toList_eq, strOfNums_data]
    rfl
  obtain ⟨a1, c1, hv1, _⟩ := id h1.1
  obtain ⟨a2, c2, hv2, _⟩ := Sl.of_owns hO2 (by simp [encB, one, zeroN, slotB])
  obtain ⟨a3, c3, hv3, _⟩ := Sl.of_owns hO3 (by simp)
  rw [show [(2 : Int), 0].length = 2 from rfl] at hv1
  rw [show (encB zeroN one).length = 19 from rfl] at hv2
  rw [show [(4 : Int), 0, 0, 0, 0, 0, 0, 0, 0, 0, 0, 0, 0].length = 13 from rfl] at hv3
  subst hv1 hv2 hv3
  have K1 := Lib.hid (kind_any [2, 0] _ _ h1)
  have N1 := Lib.hid (textName_any [2, 0] _ _ h1)
  have N2 := Lib.hid (fun w' (hb : Below w5.heap.size w5 w') => rsum_any [2, 0] _ _ (h1.below hb))
  have HV := Lib.hid hV
  clear hO1 hO2 hO3 hB1 hB2 hB3 hB4 hB5 hT2 hT5 h1 hV
  go_wp2_with (first
    | (go_at_call 37; refine N1.out.mono ?_; rintro e w6 ⟨rfl, hB6⟩)
    | (go_at_call 98; refine (N2.out _ hB6).mono ?_; rintro e w7 ⟨rfl, hB7⟩)
    | (refine wpList_eql_nm rfl (.tmp 82) (.tmp 84) rfl _ _ rfl rfl (hname_len _) (hname_len _) ?_)
    | (go_at_call 35; first | ((with_reducible refine K1.out.mono ?_); rintro e w8 ⟨rfl, rfl⟩) | (refine (kind_nil _).mono ?_; rintro e w8 ⟨rfl, rfl⟩)))
  go_ret
  exact ⟨rfl, HV.out.trans ((hB6.trans (hB7.mono hB6.size)).mono HV.out.size)⟩
end Go.Proofs.Ytilhceihelcdgaa
