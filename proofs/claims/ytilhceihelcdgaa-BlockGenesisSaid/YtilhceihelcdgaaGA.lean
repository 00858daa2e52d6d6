/-
  How a genesis that is an argument reads.
-/
import Derived.Test.YtilhceihelcdgaaG
import Derived.Test.YtilhceihelcdgaaG1
namespace Go.Proofs.Ytilhceihelcdgaa
open Go.RowKit Go.ChangeShapes Go.WideShapes Go.ChangeAt

theorem cut5 {c0 c1 c2 c3 c4 : Value} {cs : List Value} (h : cs.length = 5) (e0 : (cs.drop 0).take 1 = [c0]) (e1 : (cs.drop 1).take 1 = [c1]) (e2 : (cs.drop 2).take 1 = [c2]) (e3 : (cs.drop 3).take 1 = [c3]) (e4 : (cs.drop 4).take 1 = [c4]) : cs = [c0, c1, c2, c3, c4] := by
  match cs, h with
  | [x0, x1, x2, x3, x4], _ =>
    simp at e0 e1 e2 e3 e4
    subst e0 e1 e2 e3 e4
    rfl
set_option maxRecDepth 100000 in
theorem arg_genesis {w : World} {r : Reach} {b0 : Nat} {v : Value} (ho : Value.okWide Try.prog w r b0 67 v) (h : Rd w 67 v.cells.toList) :
    ∃ (x : (Int × Int) × (List (List Int) × List (List Int) × List Int)) (u : Value × Value × Value), v = .agg (gnv x.1.1 x.1.2 u.1 u.2.1 u.2.2).toArray ∧ Ns w u.1 x.2.1 ∧ Ns w u.2.1 x.2.2.1 ∧ Ig w u.2.2 x.2.2.2 := by
  obtain ⟨h5, hr⟩ := rd_struct (t := 67) (L := [(3, 0), (3, 1), (65, 2), (65, 3), (38, 4)]) (by kernel_rfl) (by kernel_rfl) h
  rw [show Try.prog.cellsOf 67 = 5 by kernel_rfl] at h5
  obtain ⟨n, e0, b0⟩ := rd_i64 (by kernel_rfl) (hr 0 _ _ rfl)
  obtain ⟨st, e1, b1⟩ := rd_i64 (by kernel_rfl) (hr 1 _ _ rfl)
  obtain ⟨a, V, e2, b2⟩ := rd_names (hr 2 _ _ rfl)
  obtain ⟨b, A, e3, b3⟩ := rd_names (hr 3 _ _ rfl)
  obtain ⟨c, B, e4, b4⟩ := rd_ints (hr 4 _ _ rfl)
  rw [show Try.prog.cellsOf 3 = 1 by kernel_rfl] at e0 e1
  rw [show Try.prog.cellsOf 65 = 1 by kernel_rfl] at e2 e3
  rw [show Try.prog.cellsOf 38 = 1 by kernel_rfl] at e4
  exact ⟨((n, st), V, A, B), (a, b, c), okWide_of_cells (t := 67) (fs := Try.prog.fieldsOf 67) (by kernel_rfl) ho (cut5 h5 e0 e1 e2 e3 e4), b2, b3, b4⟩
end Go.Proofs.Ytilhceihelcdgaa
