/-
  Proved: for every number of levels and every byte string ManytimeSizes returns true and leaves its arguments as they read before. Conditions: none.
-/
import Derived.Test.YtilhceihelcdgaaRows
import Derived.Test.YtilhceihelcdgaaK2
import Derived.Test.YtilhceihelcdgaaFF
namespace Go.Proofs.Ytilhceihelcdgaa.manytimeSizes
open Go.ChangeShapes Go.WideShapes Go.ChangeAt Go.RowKit

set_option maxRecDepth 100000 in
theorem lifted (os : Os) (started : os.Started) (H : Type) (enc : TypeId × Value → H) :
    ReturnsInHanded {} Try.checked os 3 .any (Rows.manytimeSizesSpec.pre6 enc Try.prog Try.f3 Rows.manytimeSizesRow.domain false) (Rows.manytimeSizesSpec.post enc Try.prog Try.f3 false true false false) := by
  refine returnsInHanded_of_change_sized (C := Try.checked) own started (by kernel_rfl) Try.func3
    (ChangeSpec.witness6 (enc := enc) (C := Try.checked) false ⟨#[], #[.int .i64 0, .slice none 0 0], []⟩ 8 (by kernel_rfl) (by kernel_rfl) (by kernel_rfl) (by kernel_rfl)) ?_
  intro W base args ds gs before hval0 hW _ hsz0 _
  have hval : ∀ (j : Nat) t v, Try.f3.params[j]? = some t → args[j]? = some v → Value.okWide Try.prog W .any base t v := hval0
  have hsz : (DataW.weightsEach Try.prog (Try.f3.params.toList ++ Rows.manytimeSizesSpec.plain.varTypes Try.prog) (ds ++ gs)).all (· ≤ reachBytes) = true := hsz0
  clear hsz0 hval0
  have hW' := hW
  obtain ⟨p, q, hA0, hV, rfl, _, _⟩ := hW
  have hA : DataW.TrodAll enc Try.prog W 0 (fun _ => true) true Try.f3.params.toList args.toList ds p := hA0
  rw [Try.params3] at hA hval hsz
  obtain ⟨v0, vs0, d0, ds0, p0, q0, hargs, rfl, rfl, h0, r0⟩ := trodAll_cons hA
  obtain ⟨v1, vs1, d1, ds1, p1, q1, rfl, rfl, rfl, h1, r1⟩ := trodAll_cons r0
  obtain ⟨rfl, rfl, rfl⟩ := trodAll_nil r1
  obtain rfl : args = #[v0, v1] := by cases args; simp_all
  obtain ⟨rfl, rfl⟩ := trodVars_none hV
  clear hA0
  have k0 := h0
  have lt0 : ∀ x ∈ p0, x.block < W.heap.size := by obtain ⟨m, hm⟩ := k0; exact DataW.trod_lt m _ _ _ hm
  have z0 := List.all_eq_true.1 hsz
  have y0 := Rd.of h0 (fun n hn => by simpa using z0 n (DataW.weights_mem_each (j := 0) (t := 3) rfl rfl n hn))
  obtain ⟨a0, b0⟩ := arg_int (hval 0 3 v0 rfl rfl) y0
  have k1 := h1
  have lt1 : ∀ x ∈ p1, x.block < W.heap.size := by obtain ⟨m, hm⟩ := k1; exact DataW.trod_lt m _ _ _ hm
  have z1 := List.all_eq_true.1 hsz
  have y1 := Rd.of h1 (fun n hn => by simpa using z1 n (DataW.weights_mem_each (j := 1) (t := 22) rfl rfl n hn))
  obtain ⟨a1, b1⟩ := arg_bytes (hval 1 22 v1 rfl rfl) y1
  obtain ⟨rfl, c0⟩ := b0
  refine (sizes_walk a0 a1 v1 W c0 b1).mono fun e W' ⟨he, bel⟩ => ?_
  subst he
  exact ⟨_, rfl, _, _, _, [], _, [], hW', trodAll_mk1 (shut_bool (by kernel_rfl) _), (trodAll_cons_mk (Below.trod laidOut (by kernel_rfl) (of_decide_eq_true (by kernel_rfl)) k0 bel lt0) (trodAll_cons_mk (Below.trod laidOut (by kernel_rfl) (of_decide_eq_true (by kernel_rfl)) k1 bel lt1) trodAll_mk0)), rfl, bel.frame _, fun h => by cases h⟩

theorem fc9 : (Rows.manytimeSizesRow.inPlace == Try.prog.inPlace 3) = true := by kernel_rfl
theorem fc10 : (Rows.manytimeSizesRow.unfollowed == Try.prog.unfollowed 3) = true := by kernel_rfl
theorem fc11 : (Rows.manytimeSizesRow.recurses == Try.prog.recurses 3) = true := by kernel_rfl
theorem fc12 : (Rows.manytimeSizesRow.named == Try.prog.varsNamed 3) = true := by kernel_rfl
theorem fcn : Try.checked.prog.funcNamed Rows.manytimeSizesRow.func = some 3 := by kernel_rfl
theorem fc : joinedFacts Try.prog 3 Try.f3 Rows.manytimeSizesSpec Rows.manytimeSizesRow = true :=
  joined_of (by kernel_rfl) (by kernel_rfl) (by kernel_rfl) (by kernel_rfl) (by kernel_rfl) fc9 fc10 fc11 fc12 (by kernel_rfl) (by kernel_rfl) (by kernel_rfl) (by kernel_rfl) (by kernel_rfl) (by kernel_rfl) (by kernel_rfl) (by kernel_rfl) (by kernel_rfl) (by kernel_rfl) (by kernel_rfl) rfl rfl (by kernel_rfl) (by kernel_rfl) (by kernel_rfl) (by kernel_rfl)
theorem over : Rows.manytimeSizesRow.holds Try.pinned (OpenSpec.ofChange Rows.manytimeSizesSpec) :=
  OpenClaim.holds_of_wide 3 Try.f3 rfl rfl rfl rfl rfl rfl rfl ⟨rfl, rfl, rfl, rfl, rfl⟩ rfl rfl rfl rfl rfl fcn Try.func3 fc
    (of_decide_eq_true (by kernel_rfl)) (by unfold Func.isWrapper; first | (rw [if_pos (by decide +kernel)]; kernel_rfl) | (rw [if_neg (by decide +kernel)]; exact ⟨rfl, rfl⟩))
    (fun os started H enc _ => lifted os started H enc)

theorem proved : Rows.ManytimeSizesSaid := over
#print axioms proved
end Go.Proofs.Ytilhceihelcdgaa.manytimeSizes
