/-
  Proved: for every block BlockBlock returns true and leaves its argument as it reads before. Conditions: none.
-/
import Derived.Test.YtilhceihelcdgaaRows
import Derived.Test.YtilhceihelcdgaaB15
import Derived.Test.YtilhceihelcdgaaFF
import Derived.Test.YtilhceihelcdgaaG
namespace Go.Proofs.Ytilhceihelcdgaa.blockBlock
open Go.ChangeShapes Go.WideShapes Go.ChangeAt Go.RowKit

set_option maxRecDepth 100000 in
theorem lifted (os : Os) (started : os.Started) (H : Type) (enc : TypeId × Value → H) :
    ReturnsInHanded {} Try.checked os 11 .any (Rows.blockBlockSpec.pre6 enc Try.prog Try.f11 Rows.blockBlockRow.domain false) (Rows.blockBlockSpec.post enc Try.prog Try.f11 false true false false) := by
  refine returnsInHanded_of_change_sized (C := Try.checked) own started (by kernel_rfl) Try.func11
    (ChangeSpec.witness6 (enc := enc) (C := Try.checked) false ⟨#[], #[.agg #[.int .u8 0, .int .u8 0, .int .u8 0, .int .u8 0, .int .u8 0, .int .u8 0, .int .u8 0, .int .u8 0, .slice none 0 0]], []⟩ 8 (by kernel_rfl) (by kernel_rfl) (by kernel_rfl) (by kernel_rfl)) ?_
  intro W base args ds gs before hval0 hW _ hsz0 _
  have hval : ∀ (j : Nat) t v, Try.f11.params[j]? = some t → args[j]? = some v → Value.okWide Try.prog W .any base t v := hval0
  have hsz : (DataW.weightsEach Try.prog (Try.f11.params.toList ++ Rows.blockBlockSpec.plain.varTypes Try.prog) (ds ++ gs)).all (· ≤ reachBytes) = true := hsz0
  clear hsz0 hval0
  have hW' := hW
  obtain ⟨p, q, hA0, hV, rfl, _, _⟩ := hW
  have hA : DataW.TrodAll enc Try.prog W 0 (fun _ => true) true Try.f11.params.toList args.toList ds p := hA0
  rw [Try.params11] at hA hval hsz
  obtain ⟨v0, vs0, d0, ds0, p0, q0, hargs, rfl, rfl, h0, r0⟩ := trodAll_cons hA
  obtain ⟨rfl, rfl, rfl⟩ := trodAll_nil r0
  obtain rfl : args = #[v0] := by cases args; simp_all
  obtain ⟨rfl, rfl⟩ := trodVars_none hV
  clear hA0
  have k0 := h0
  have lt0 : ∀ x ∈ p0, x.block < W.heap.size := by obtain ⟨m, hm⟩ := k0; exact DataW.trod_lt m _ _ _ hm
  have z0 := List.all_eq_true.1 hsz
  have y0 := Rd.of h0 (fun n hn => by simpa using z0 n (DataW.weights_mem_each (j := 0) (t := 59) rfl rfl n hn))
  obtain ⟨a0, b0⟩ := arg_block (hval 0 59 v0 rfl rfl) y0
  obtain ⟨u0, rfl, f0, g0⟩ := b0
  refine (blockBlock_walk a0.1 a0.2 u0 W f0 g0).mono fun e W' ⟨he, bel⟩ => ?_
  subst he
  exact ⟨_, rfl, _, _, _, [], _, [], hW', trodAll_mk1 (shut_bool (by kernel_rfl) _), (trodAll_cons_mk (Below.trod laidOut (by kernel_rfl) (of_decide_eq_true (by kernel_rfl)) k0 bel lt0) trodAll_mk0), rfl, bel.frame _, fun h => by cases h⟩

theorem fc9 : (Rows.blockBlockRow.inPlace == Try.prog.inPlace 11) = true := by kernel_rfl
theorem fc10 : (Rows.blockBlockRow.unfollowed == Try.prog.unfollowed 11) = true := by kernel_rfl
theorem fc11 : (Rows.blockBlockRow.recurses == Try.prog.recurses 11) = true := by kernel_rfl
theorem fc12 : (Rows.blockBlockRow.named == Try.prog.varsNamed 11) = true := by kernel_rfl
theorem fcn : Try.checked.prog.funcNamed Rows.blockBlockRow.func = some 11 := by kernel_rfl
theorem fc : joinedFacts Try.prog 11 Try.f11 Rows.blockBlockSpec Rows.blockBlockRow = true :=
  joined_of (by kernel_rfl) (by kernel_rfl) (by kernel_rfl) (by kernel_rfl) (by kernel_rfl) fc9 fc10 fc11 fc12 (by kernel_rfl) (by kernel_rfl) (by kernel_rfl) (by kernel_rfl) (by kernel_rfl) (by kernel_rfl) (by kernel_rfl) (by kernel_rfl) (by kernel_rfl) (by kernel_rfl) (by kernel_rfl) rfl rfl (by kernel_rfl) (by kernel_rfl) (by kernel_rfl) (by kernel_rfl)
theorem over : Rows.blockBlockRow.holds Try.pinned (OpenSpec.ofChange Rows.blockBlockSpec) :=
  OpenClaim.holds_of_wide 11 Try.f11 rfl rfl rfl rfl rfl rfl rfl ⟨rfl, rfl, rfl, rfl, rfl⟩ rfl rfl rfl rfl rfl fcn Try.func11 fc
    (of_decide_eq_true (by kernel_rfl)) (by unfold Func.isWrapper; first | (rw [if_pos (by decide +kernel)]; kernel_rfl) | (rw [if_neg (by decide +kernel)]; exact ⟨rfl, rfl⟩))
    (fun os started H enc _ => lifted os started H enc)

theorem proved : Rows.BlockBlockSaid := over
#print axioms proved
end Go.Proofs.Ytilhceihelcdgaa.blockBlock
