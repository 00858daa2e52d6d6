/-
  Proved: for every genesis BlockGenesis returns true and leaves its argument as it reads before. Conditions: none.
-/
import Derived.Test.YtilhceihelcdgaaRows
import Derived.Test.YtilhceihelcdgaaG7
import Derived.Test.YtilhceihelcdgaaFF
import Derived.Test.YtilhceihelcdgaaGA
namespace Go.Proofs.Ytilhceihelcdgaa.blockGenesis
open Go.ChangeShapes Go.WideShapes Go.ChangeAt Go.RowKit

set_option maxRecDepth 100000 in
theorem lifted (os : Os) (started : os.Started) (H : Type) (enc : TypeId × Value → H) :
    ReturnsInHanded {} Try.checked os 12 .any (Rows.blockGenesisSpec.pre6 enc Try.prog Try.f12 Rows.blockGenesisRow.domain false) (Rows.blockGenesisSpec.post enc Try.prog Try.f12 false true false false) := by
  refine returnsInHanded_of_change_sized (C := Try.checked) own started (by kernel_rfl) Try.func12
    (ChangeSpec.witness6 (enc := enc) (C := Try.checked) false ⟨#[], #[.agg #[.int .i64 0, .int .i64 0, .slice none 0 0, .slice none 0 0, .slice none 0 0]], []⟩ 8 (by kernel_rfl) (by kernel_rfl) (by kernel_rfl) (by kernel_rfl)) ?_
  intro W base args ds gs before hval0 hW _ hsz0 _
  have hval : ∀ (j : Nat) t v, Try.f12.params[j]? = some t → args[j]? = some v → Value.okWide Try.prog W .any base t v := hval0
  have hsz : (DataW.weightsEach Try.prog (Try.f12.params.toList ++ Rows.blockGenesisSpec.plain.varTypes Try.prog) (ds ++ gs)).all (· ≤ reachBytes) = true := hsz0
  clear hsz0 hval0
  have hW' := hW
  obtain ⟨p, q, hA0, hV, rfl, _, _⟩ := hW
  have hA : DataW.TrodAll enc Try.prog W 0 (fun _ => true) true Try.f12.params.toList args.toList ds p := hA0
  rw [Try.params12] at hA hval hsz
  obtain ⟨v0, vs0, d0, ds0, p0, q0, hargs, rfl, rfl, h0, r0⟩ := trodAll_cons hA
  obtain ⟨rfl, rfl, rfl⟩ := trodAll_nil r0
  obtain rfl : args = #[v0] := by cases args; simp_all
  obtain ⟨rfl, rfl⟩ := trodVars_none hV
  clear hA0
  have k0 := h0
  have lt0 : ∀ x ∈ p0, x.block < W.heap.size := by obtain ⟨m, hm⟩ := k0; exact DataW.trod_lt m _ _ _ hm
  have z0 := List.all_eq_true.1 hsz
  have y0 := Rd.of h0 (fun n hn => by simpa using z0 n (DataW.weights_mem_each (j := 0) (t := 67) rfl rfl n hn))
  obtain ⟨a0, b0⟩ := arg_genesis (hval 0 67 v0 rfl rfl) y0
  obtain ⟨u0, rfl, fa0, fb0, fc0⟩ := b0
  refine (blockGenesis_walk a0.1.1 a0.1.2 a0.2.1 a0.2.2.1 a0.2.2.2 u0.1 u0.2.1 u0.2.2 W fa0 fb0 fc0).mono fun e W' ⟨he, bel⟩ => ?_
  subst he
  exact ⟨_, rfl, _, _, _, [], _, [], hW', trodAll_mk1 (shut_bool (by kernel_rfl) _), (trodAll_cons_mk (Below.trod laidOut (by kernel_rfl) (of_decide_eq_true (by kernel_rfl)) k0 bel lt0) trodAll_mk0), rfl, bel.frame _, fun h => by cases h⟩

theorem fc9 : (Rows.blockGenesisRow.inPlace == Try.prog.inPlace 12) = true := by kernel_rfl
theorem fc10 : (Rows.blockGenesisRow.unfollowed == Try.prog.unfollowed 12) = true := by kernel_rfl
theorem fc11 : (Rows.blockGenesisRow.recurses == Try.prog.recurses 12) = true := by kernel_rfl
theorem fc12 : (Rows.blockGenesisRow.named == Try.prog.varsNamed 12) = true := by kernel_rfl
theorem fcn : Try.checked.prog.funcNamed Rows.blockGenesisRow.func = some 12 := by kernel_rfl
theorem fc : joinedFacts Try.prog 12 Try.f12 Rows.blockGenesisSpec Rows.blockGenesisRow = true :=
  joined_of (by kernel_rfl) (by kernel_rfl) (by kernel_rfl) (by kernel_rfl) (by kernel_rfl) fc9 fc10 fc11 fc12 (by kernel_rfl) (by kernel_rfl) (by kernel_rfl) (by kernel_rfl) (by kernel_rfl) (by kernel_rfl) (by kernel_rfl) (by kernel_rfl) (by kernel_rfl) (by kernel_rfl) (by kernel_rfl) rfl rfl (by kernel_rfl) (by kernel_rfl) (by kernel_rfl) (by kernel_rfl)
theorem over : Rows.blockGenesisRow.holds Try.pinned (OpenSpec.ofChange Rows.blockGenesisSpec) :=
  OpenClaim.holds_of_wide 12 Try.f12 rfl rfl rfl rfl rfl rfl rfl ⟨rfl, rfl, rfl, rfl, rfl⟩ rfl rfl rfl rfl rfl fcn Try.func12 fc
    (of_decide_eq_true (by kernel_rfl)) (by unfold Func.isWrapper; first | (rw [if_pos (by decide +kernel)]; kernel_rfl) | (rw [if_neg (by decide +kernel)]; exact ⟨rfl, rfl⟩))
    (fun os started H enc _ => lifted os started H enc)

theorem proved : Rows.BlockGenesisSaid := over
#print axioms proved
end Go.Proofs.Ytilhceihelcdgaa.blockGenesis
