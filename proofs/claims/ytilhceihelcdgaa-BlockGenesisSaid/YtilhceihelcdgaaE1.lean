/-
  Two names are held against each other.
-/
import Derived.Test.YtilhceihelcdgaaL
import Derived.ChangeKeysEq
namespace Go.Proofs.Ytilhceihelcdgaa
open Go.RowKit

theorem un_u8 : Try.prog.underlying 5 = some (.int .u8) := by kernel_rfl
theorem plain_u8 : Try.prog.plainKey 5 = true := by kernel_rfl
theorem cells_of_u8 : Try.prog.cellsOf 5 = 1 := by kernel_rfl
theorem bsv_at {l : List Int} {j : Nat} (h : j < l.length) : (bsv l).toArray[j]? = some (.int .u8 (l.getD j 0)) := by
  rw [List.getElem?_toArray]; exact bsv_get h
theorem run_items_u8 (d : Nat) (w : World) (a b : List Int) : ∀ is : List Nat, (∀ i ∈ is, i < a.length ∧ i < b.length) →
    (Op.eqItems (d + 1) 5 1 (bsv a).toArray (bsv b).toArray is).run Try.prog w = .ok (is.all fun i => a.getD i 0 == b.getD i 0) w
  | [], _ => by simp [Op.eqItems]
  | i :: is, h => by
    obtain ⟨h1, h2⟩ := h i (List.mem_cons_self ..)
    have ih := run_items_u8 d w a b is (fun j hj => h j (List.mem_cons_of_mem _ hj))
    have p1 := run_part_plain (w := w) plain_u8 (bsv_at h1)
    have p2 := run_part_plain (w := w) plain_u8 (bsv_at h2)
    simp only [Op.eqItems, Sem.run_bind, Nat.mul_one, p1, p2, Result.andThen_ok, run_equalIn_int w d 5 .u8 .u8 _ _ un_u8, List.all_cons]
    generalize (a.getD i 0 == b.getD i 0) = r
    cases r
    · simp
    · simpa using ih
theorem all_eq {a b : List Int} (h : a.length = b.length) : ((List.range a.length).all fun i => a.getD i 0 == b.getD i 0) = decide (a = b) := by
  rw [Bool.eq_iff_iff, List.all_eq_true, decide_eq_true_eq]
  constructor
  · intro k
    refine List.ext_getElem h fun i h1 h2 => ?_
    have := k i (List.mem_range.2 h1)
    rw [List.getD_eq_getElem?_getD, List.getD_eq_getElem?_getD, List.getElem?_eq_getElem h1, List.getElem?_eq_getElem h2] at this
    simpa using this
  · rintro rfl i _
    simp
theorem run_eq_name (w : World) (a b : List Int) (ha : a.length = 8) (hb : b.length = 8) : (Op.equalIn 10000 30 (.agg (bsv a).toArray) (.agg (bsv b).toArray)).run Try.prog w = .ok (decide (a = b)) w := by
  obtain ⟨i, hi, _⟩ := info_parts info_u8
  rw [run_equalIn_array w 9999 _ _ un_name hi, cells_of_u8, run_items_u8 9998 w a b _ (fun i hi => by have := List.mem_range.1 hi; omega)]
  have := all_eq (a := a) (b := b) (by omega)
  rw [ha] at this
  rw [this]
theorem wpList_eql_name {w : World} {ops : Array Oper} {rest : List Oper} {o : Oper} {a : Act} {Q : Exit → Act → World → Prop} (hgd : o.guard = none) (x y : Operand) (ho : o.op = .binOp .eql 30 x y 30)
    (k l : List Int) (hx : a.eval x = nv k) (hy : a.eval y = nv l) (hk : k.length = 8) (hl : l.length = 8) (h : wpList Try.prog ops Q rest (a.put o.dst (.bool (decide (k = l)))) w) : wpList Try.prog ops Q (o :: rest) a w :=
  wpList_plain hgd fun K hK => by
    have e := run_eq_name w k l hk hl
    have hx' : a.eval x = .agg (bsv k).toArray := hx
    have hy' : a.eval y = .agg (bsv l).toArray := hy
    generalize (bsv k).toArray = X at *
    generalize (bsv l).toArray = Y at *
    unfold Oper.wp
    simp [execOp, ho, hx', hy', run_eqGuard_agg w _ _ x y X Y Try.eqGuardType30, run_eql_struct, e, Result.andThen]

    exact hK _ _ h
theorem wpList_neq_name {w : World} {ops : Array Oper} {rest : List Oper} {o : Oper} {a : Act} {Q : Exit → Act → World → Prop} (hgd : o.guard = none) (x y : Operand) (ho : o.op = .binOp .neq 30 x y 30)
    (k l : List Int) (hx : a.eval x = nv k) (hy : a.eval y = nv l) (hk : k.length = 8) (hl : l.length = 8) (h : wpList Try.prog ops Q rest (a.put o.dst (.bool (!decide (k = l)))) w) : wpList Try.prog ops Q (o :: rest) a w :=
  wpList_plain hgd fun K hK => by
    have e := run_eq_name w k l hk hl
    have hx' : a.eval x = .agg (bsv k).toArray := hx
    have hy' : a.eval y = .agg (bsv l).toArray := hy
    generalize (bsv k).toArray = X at *
    generalize (bsv l).toArray = Y at *
    unfold Oper.wp
    simp [execOp, ho, hx', hy', run_eqGuard_agg w _ _ x y X Y Try.eqGuardType30, run_neq_struct, e, Result.andThen]
    exact hK _ _ h
/-- .. of names that are written out. -/
theorem run_eq_name8 (w : World) (a0 a1 a2 a3 a4 a5 a6 a7 b0 b1 b2 b3 b4 b5 b6 b7 : Int) :
    (Op.equalIn 10000 30 (.agg #[.int .u8 a0, .int .u8 a1, .int .u8 a2, .int .u8 a3, .int .u8 a4, .int .u8 a5, .int .u8 a6, .int .u8 a7]) (.agg #[.int .u8 b0, .int .u8 b1, .int .u8 b2, .int .u8 b3, .int .u8 b4, .int .u8 b5, .int .u8 b6, .int .u8 b7])).run Try.prog w = .ok (decide ([a0, a1, a2, a3, a4, a5, a6, a7] = [b0, b1, b2, b3, b4, b5, b6, b7])) w :=
  run_eq_name w [a0, a1, a2, a3, a4, a5, a6, a7] [b0, b1, b2, b3, b4, b5, b6, b7] rfl rfl
end Go.Proofs.Ytilhceihelcdgaa
