/-
  Proved: for every seed, every number of levels, every list of leaves and every name ManytimeKeys returns true and leaves its arguments as they read before. Conditions: none.
-/
import Derived.Test.YtilhceihelcdgaaRows
import Derived.Test.YtilhceihelcdgaaK28
import Derived.Test.YtilhceihelcdgaaFF
namespace Go.Proofs.Ytilhceihelcdgaa.manytimeKeys
open Go.ChangeShapes Go.WideShapes Go.ChangeAt Go.RowKit

set_option maxRecDepth 100000 in
theorem lifted (os : Os) (started : os.Started) (H : Type) (enc : TypeId × Value → H) :
    ReturnsInHanded {} Try.checked os 6 .any (Rows.manytimeKeysSpec.pre6 enc Try.prog Try.f6 Rows.manytimeKeysRow.domain false) (Rows.manytimeKeysSpec.post enc Try.prog Try.f6 false true false false) := by
  refine returnsInHanded_of_change_sized (C := Try.checked) own started (by kernel_rfl) Try.func6
    (ChangeSpec.witness6 (enc := enc) (C := Try.checked) false ⟨#[], #[.agg #[.int .u8 0, .int .u8 0, .int .u8 0, .int .u8 0, .int .u8 0, .int .u8 0, .int .u8 0, .int .u8 0], .int .i64 0, .slice none 0 0, .agg #[.int .u8 0, .int .u8 0, .int .u8 0, .int .u8 0, .int .u8 0, .int .u8 0, .int .u8 0, .int .u8 0]], []⟩ 8 (by kernel_rfl) (by kernel_rfl) (by kernel_rfl) (by kernel_rfl)) ?_
  intro W base args ds gs before hval0 hW _ hsz0 _
  have hval : ∀ (j : Nat) t v, Try.f6.params[j]? = some t → args[j]? = some v → Value.okWide Try.prog W .any base t v := hval0
  have hsz : (DataW.weightsEach Try.prog (Try.f6.params.toList ++ Rows.manytimeKeysSpec.plain.varTypes Try.prog) (ds ++ gs)).all (· ≤ reachBytes) = true := hsz0
  clear hsz0 hval0
  have hW' := hW
  obtain ⟨p, q, hA0, hV, rfl, _, _⟩ := hW
  have hA : DataW.TrodAll enc Try.prog W 0 (fun _ => true) true Try.f6.params.toList args.toList ds p := hA0
  rw [Try.params6] at hA hval hsz
  obtain ⟨v0, vs0, d0, ds0, p0, q0, hargs, rfl, rfl, h0, r0⟩ := trodAll_cons hA
  obtain ⟨v1, vs1, d1, ds1, p1, q1, rfl, rfl, rfl, h1, r1⟩ := trodAll_cons r0
  obtain ⟨v2, vs2, d2, ds2, p2, q2, rfl, rfl, rfl, h2, r2⟩ := trodAll_cons r1
  obtain ⟨v3, vs3, d3, ds3, p3, q3, rfl, rfl, rfl, h3, r3⟩ := trodAll_cons r2
  obtain ⟨rfl, rfl, rfl⟩ := trodAll_nil r3
  obtain rfl : args = #[v0, v1, v2, v3] := by cases args; simp_all
  obtain ⟨rfl, rfl⟩ := trodVars_none hV
  clear hA0
  have k0 := h0
  have lt0 : ∀ x ∈ p0, x.block < W.heap.size := by obtain ⟨m, hm⟩ := k0; exact DataW.trod_lt m _ _ _ hm
  have z0 := List.all_eq_true.1 hsz
  have y0 := Rd.of h0 (fun n hn => by simpa using z0 n (DataW.weights_mem_each (j := 0) (t := 30) rfl rfl n hn))
  obtain ⟨a0, b0⟩ := arg_name (hval 0 30 v0 rfl rfl) y0
  have k1 := h1
  have lt1 : ∀ x ∈ p1, x.block < W.heap.size := by obtain ⟨m, hm⟩ := k1; exact DataW.trod_lt m _ _ _ hm
  have z1 := List.all_eq_true.1 hsz
  have y1 := Rd.of h1 (fun n hn => by simpa using z1 n (DataW.weights_mem_each (j := 1) (t := 3) rfl rfl n hn))
  obtain ⟨a1, b1⟩ := arg_int (hval 1 3 v1 rfl rfl) y1
  have k2 := h2
  have lt2 : ∀ x ∈ p2, x.block < W.heap.size := by obtain ⟨m, hm⟩ := k2; exact DataW.trod_lt m _ _ _ hm
  have z2 := List.all_eq_true.1 hsz
  have y2 := Rd.of h2 (fun n hn => by simpa using z2 n (DataW.weights_mem_each (j := 2) (t := 38) rfl rfl n hn))
  obtain ⟨a2, b2⟩ := arg_ints (hval 2 38 v2 rfl rfl) y2
  have k3 := h3
  have lt3 : ∀ x ∈ p3, x.block < W.heap.size := by obtain ⟨m, hm⟩ := k3; exact DataW.trod_lt m _ _ _ hm
  have z3 := List.all_eq_true.1 hsz
  have y3 := Rd.of h3 (fun n hn => by simpa using z3 n (DataW.weights_mem_each (j := 3) (t := 30) rfl rfl n hn))
  obtain ⟨a3, b3⟩ := arg_name (hval 3 30 v3 rfl rfl) y3
  obtain ⟨rfl, c0⟩ := b0
  obtain ⟨rfl, c1⟩ := b1
  obtain ⟨rfl, c3⟩ := b3
  refine (keys_walk a0 a1 a2 v2 a3 W c0 c1 b2 c3).mono fun e W' ⟨he, bel⟩ => ?_
  subst he
  exact ⟨_, rfl, _, _, _, [], _, [], hW', trodAll_mk1 (shut_bool (by kernel_rfl) _), (trodAll_cons_mk (Below.trod laidOut (by kernel_rfl) (of_decide_eq_true (by kernel_rfl)) k0 bel lt0) (trodAll_cons_mk (Below.trod laidOut (by kernel_rfl) (of_decide_eq_true (by kernel_rfl)) k1 bel lt1) (trodAll_cons_mk (Below.trod laidOut (by kernel_rfl) (of_decide_eq_true (by kernel_rfl)) k2 bel lt2) (trodAll_cons_mk (Below.trod laidOut (by kernel_rfl) (of_decide_eq_true (by kernel_rfl)) k3 bel lt3) trodAll_mk0)))), rfl, bel.frame _, fun h => by cases h⟩

theorem fc9 : (Rows.manytimeKeysRow.inPlace == Try.prog.inPlace 6) = true := by kernel_rfl
theorem fc10 : (Rows.manytimeKeysRow.unfollowed == Try.prog.unfollowed 6) = true := by kernel_rfl
theorem fc11 : (Rows.manytimeKeysRow.recurses == Try.prog.recurses 6) = true := by kernel_rfl
theorem fc12 : (Rows.manytimeKeysRow.named == Try.prog.varsNamed 6) = true := by kernel_rfl
theorem fcn : Try.checked.prog.funcNamed Rows.manytimeKeysRow.func = some 6 := by kernel_rfl
theorem fc : joinedFacts Try.prog 6 Try.f6 Rows.manytimeKeysSpec Rows.manytimeKeysRow = true :=
  joined_of (by kernel_rfl) (by kernel_rfl) (by kernel_rfl) (by kernel_rfl) (by kernel_rfl) fc9 fc10 fc11 fc12 (by kernel_rfl) (by kernel_rfl) (by kernel_rfl) (by kernel_rfl) (by kernel_rfl) (by kernel_rfl) (by kernel_rfl) (by kernel_rfl) (by kernel_rfl) (by kernel_rfl) (by kernel_rfl) rfl rfl (by kernel_rfl) (by kernel_rfl) (by kernel_rfl) (by kernel_rfl)
theorem over : Rows.manytimeKeysRow.holds Try.pinned (OpenSpec.ofChange Rows.manytimeKeysSpec) :=
  OpenClaim.holds_of_wide 6 Try.f6 rfl rfl rfl rfl rfl rfl rfl ⟨rfl, rfl, rfl, rfl, rfl⟩ rfl rfl rfl rfl rfl fcn Try.func6 fc
    (of_decide_eq_true (by kernel_rfl)) (by unfold Func.isWrapper; first | (rw [if_pos (by decide +kernel)]; kernel_rfl) | (rw [if_neg (by decide +kernel)]; exact ⟨rfl, rfl⟩))
    (fun os started H enc _ => lifted os started H enc)

theorem proved : Rows.ManytimeKeysSaid := over
#print axioms proved
end Go.Proofs.Ytilhceihelcdgaa.manytimeKeys
