/-
  Proved: for every seed, every number of levels, every leaf, every name and every byte string ManytimeVerifies returns true and leaves its arguments as they read before. Conditions: none.
-/
import Derived.Test.YtilhceihelcdgaaRows
import Derived.Test.YtilhceihelcdgaaK15
import Derived.Test.YtilhceihelcdgaaFF
namespace Go.Proofs.Ytilhceihelcdgaa.manytimeVerifies
open Go.ChangeShapes Go.WideShapes Go.ChangeAt Go.RowKit

set_option maxRecDepth 100000 in
theorem lifted (os : Os) (started : os.Started) (H : Type) (enc : TypeId × Value → H) :
    ReturnsInHanded {} Try.checked os 4 .any (Rows.manytimeVerifiesSpec.pre6 enc Try.prog Try.f4 Rows.manytimeVerifiesRow.domain false) (Rows.manytimeVerifiesSpec.post enc Try.prog Try.f4 false true false false) := by
  refine returnsInHanded_of_change_sized (C := Try.checked) own started (by kernel_rfl) Try.func4
    (ChangeSpec.witness6 (enc := enc) (C := Try.checked) false ⟨#[], #[.agg #[.int .u8 0, .int .u8 0, .int .u8 0, .int .u8 0, .int .u8 0, .int .u8 0, .int .u8 0, .int .u8 0], .int .i64 0, .int .i64 0, .agg #[.int .u8 0, .int .u8 0, .int .u8 0, .int .u8 0, .int .u8 0, .int .u8 0, .int .u8 0, .int .u8 0], .agg #[.int .u8 0, .int .u8 0, .int .u8 0, .int .u8 0, .int .u8 0, .int .u8 0, .int .u8 0, .int .u8 0], .slice none 0 0, .int .i64 0, .int .u8 0], []⟩ 8 (by kernel_rfl) (by kernel_rfl) (by kernel_rfl) (by kernel_rfl)) ?_
  intro W base args ds gs before hval0 hW _ hsz0 _
  have hval : ∀ (j : Nat) t v, Try.f4.params[j]? = some t → args[j]? = some v → Value.okWide Try.prog W .any base t v := hval0
  have hsz : (DataW.weightsEach Try.prog (Try.f4.params.toList ++ Rows.manytimeVerifiesSpec.plain.varTypes Try.prog) (ds ++ gs)).all (· ≤ reachBytes) = true := hsz0
  clear hsz0 hval0
  have hW' := hW
  obtain ⟨p, q, hA0, hV, rfl, _, _⟩ := hW
  have hA : DataW.TrodAll enc Try.prog W 0 (fun _ => true) true Try.f4.params.toList args.toList ds p := hA0
  rw [Try.params4] at hA hval hsz
  obtain ⟨v0, vs0, d0, ds0, p0, q0, hargs, rfl, rfl, h0, r0⟩ := trodAll_cons hA
  obtain ⟨v1, vs1, d1, ds1, p1, q1, rfl, rfl, rfl, h1, r1⟩ := trodAll_cons r0
  obtain ⟨v2, vs2, d2, ds2, p2, q2, rfl, rfl, rfl, h2, r2⟩ := trodAll_cons r1
  obtain ⟨v3, vs3, d3, ds3, p3, q3, rfl, rfl, rfl, h3, r3⟩ := trodAll_cons r2
  obtain ⟨v4, vs4, d4, ds4, p4, q4, rfl, rfl, rfl, h4, r4⟩ := trodAll_cons r3
  obtain ⟨v5, vs5, d5, ds5, p5, q5, rfl, rfl, rfl, h5, r5⟩ := trodAll_cons r4
  obtain ⟨v6, vs6, d6, ds6, p6, q6, rfl, rfl, rfl, h6, r6⟩ := trodAll_cons r5
  obtain ⟨v7, vs7, d7, ds7, p7, q7, rfl, rfl, rfl, h7, r7⟩ := trodAll_cons r6
  obtain ⟨rfl, rfl, rfl⟩ := trodAll_nil r7
  obtain rfl : args = #[v0, v1, v2, v3, v4, v5, v6, v7] := by cases args; simp_all
  obtain ⟨rfl, rfl⟩ := trodVars_none hV
  clear hA0
  have k0 := h0
  have lt0 : ∀ x ∈ p0, x.block < W.heap.size := by obtain ⟨m, hm⟩ := k0; exact DataW.trod_lt m _ _ _ hm
  have z0 := List.all_eq_true.1 hsz
  have y0 := Rd.of h0 (fun n hn => by simpa using z0 n (DataW.weights_mem_each (j := 0) (t := 30) rfl rfl n hn))
  obtain ⟨a0, b0⟩ := arg_name (hval 0 30 v0 rfl rfl) y0
  have k1 := h1
  have lt1 : ∀ x ∈ p1, x.block < W.heap.size := by obtain ⟨m, hm⟩ := k1; exact DataW.trod_lt m _ _ _ hm
  have z1 := List.all_eq_true.1 hsz
  have y1 := Rd.of h1 (fun n hn => by simpa using z1 n (DataW.weights_mem_each (j := 1) (t := 3) rfl rfl n hn))
  obtain ⟨a1, b1⟩ := arg_int (hval 1 3 v1 rfl rfl) y1
  have k2 := h2
  have lt2 : ∀ x ∈ p2, x.block < W.heap.size := by obtain ⟨m, hm⟩ := k2; exact DataW.trod_lt m _ _ _ hm
  have z2 := List.all_eq_true.1 hsz
  have y2 := Rd.of h2 (fun n hn => by simpa using z2 n (DataW.weights_mem_each (j := 2) (t := 3) rfl rfl n hn))
  obtain ⟨a2, b2⟩ := arg_int (hval 2 3 v2 rfl rfl) y2
  have k3 := h3
  have lt3 : ∀ x ∈ p3, x.block < W.heap.size := by obtain ⟨m, hm⟩ := k3; exact DataW.trod_lt m _ _ _ hm
  have z3 := List.all_eq_true.1 hsz
  have y3 := Rd.of h3 (fun n hn => by simpa using z3 n (DataW.weights_mem_each (j := 3) (t := 30) rfl rfl n hn))
  obtain ⟨a3, b3⟩ := arg_name (hval 3 30 v3 rfl rfl) y3
  have k4 := h4
  have lt4 : ∀ x ∈ p4, x.block < W.heap.size := by obtain ⟨m, hm⟩ := k4; exact DataW.trod_lt m _ _ _ hm
  have z4 := List.all_eq_true.1 hsz
  have y4 := Rd.of h4 (fun n hn => by simpa using z4 n (DataW.weights_mem_each (j := 4) (t := 30) rfl rfl n hn))
  obtain ⟨a4, b4⟩ := arg_name (hval 4 30 v4 rfl rfl) y4
  have k5 := h5
  have lt5 : ∀ x ∈ p5, x.block < W.heap.size := by obtain ⟨m, hm⟩ := k5; exact DataW.trod_lt m _ _ _ hm
  have z5 := List.all_eq_true.1 hsz
  have y5 := Rd.of h5 (fun n hn => by simpa using z5 n (DataW.weights_mem_each (j := 5) (t := 22) rfl rfl n hn))
  obtain ⟨a5, b5⟩ := arg_bytes (hval 5 22 v5 rfl rfl) y5
  have k6 := h6
  have lt6 : ∀ x ∈ p6, x.block < W.heap.size := by obtain ⟨m, hm⟩ := k6; exact DataW.trod_lt m _ _ _ hm
  have z6 := List.all_eq_true.1 hsz
  have y6 := Rd.of h6 (fun n hn => by simpa using z6 n (DataW.weights_mem_each (j := 6) (t := 3) rfl rfl n hn))
  obtain ⟨a6, b6⟩ := arg_int (hval 6 3 v6 rfl rfl) y6
  have k7 := h7
  have lt7 : ∀ x ∈ p7, x.block < W.heap.size := by obtain ⟨m, hm⟩ := k7; exact DataW.trod_lt m _ _ _ hm
  have z7 := List.all_eq_true.1 hsz
  have y7 := Rd.of h7 (fun n hn => by simpa using z7 n (DataW.weights_mem_each (j := 7) (t := 5) rfl rfl n hn))
  obtain ⟨a7, b7⟩ := arg_u8 (hval 7 5 v7 rfl rfl) y7
  obtain ⟨rfl, c0⟩ := b0
  obtain ⟨rfl, c1⟩ := b1
  obtain ⟨rfl, c2⟩ := b2
  obtain ⟨rfl, c3⟩ := b3
  obtain ⟨rfl, c4⟩ := b4
  obtain ⟨rfl, c6⟩ := b6
  obtain ⟨rfl, c7⟩ := b7
  refine (verifies_walk a0 a1 a2 a3 a4 a5 v5 a6 a7 W c0 c1 c2 c3 c4 b5 c6 c7).mono fun e W' ⟨he, bel⟩ => ?_
  subst he
  exact ⟨_, rfl, _, _, _, [], _, [], hW', trodAll_mk1 (shut_bool (by kernel_rfl) _), (trodAll_cons_mk (Below.trod laidOut (by kernel_rfl) (of_decide_eq_true (by kernel_rfl)) k0 bel lt0) (trodAll_cons_mk (Below.trod laidOut (by kernel_rfl) (of_decide_eq_true (by kernel_rfl)) k1 bel lt1) (trodAll_cons_mk (Below.trod laidOut (by kernel_rfl) (of_decide_eq_true (by kernel_rfl)) k2 bel lt2) (trodAll_cons_mk (Below.trod laidOut (by kernel_rfl) (of_decide_eq_true (by kernel_rfl)) k3 bel lt3) (trodAll_cons_mk (Below.trod laidOut (by kernel_rfl) (of_decide_eq_true (by kernel_rfl)) k4 bel lt4) (trodAll_cons_mk (Below.trod laidOut (by kernel_rfl) (of_decide_eq_true (by kernel_rfl)) k5 bel lt5) (trodAll_cons_mk (Below.trod laidOut (by kernel_rfl) (of_decide_eq_true (by kernel_rfl)) k6 bel lt6) (trodAll_cons_mk (Below.trod laidOut (by kernel_rfl) (of_decide_eq_true (by kernel_rfl)) k7 bel lt7) trodAll_mk0)))))))), rfl, bel.frame _, fun h => by cases h⟩

theorem fc9 : (Rows.manytimeVerifiesRow.inPlace == Try.prog.inPlace 4) = true := by kernel_rfl
theorem fc10 : (Rows.manytimeVerifiesRow.unfollowed == Try.prog.unfollowed 4) = true := by kernel_rfl
theorem fc11 : (Rows.manytimeVerifiesRow.recurses == Try.prog.recurses 4) = true := by kernel_rfl
theorem fc12 : (Rows.manytimeVerifiesRow.named == Try.prog.varsNamed 4) = true := by kernel_rfl
theorem fcn : Try.checked.prog.funcNamed Rows.manytimeVerifiesRow.func = some 4 := by kernel_rfl
theorem fc : joinedFacts Try.prog 4 Try.f4 Rows.manytimeVerifiesSpec Rows.manytimeVerifiesRow = true :=
  joined_of (by kernel_rfl) (by kernel_rfl) (by kernel_rfl) (by kernel_rfl) (by kernel_rfl) fc9 fc10 fc11 fc12 (by kernel_rfl) (by kernel_rfl) (by kernel_rfl) (by kernel_rfl) (by kernel_rfl) (by kernel_rfl) (by kernel_rfl) (by kernel_rfl) (by kernel_rfl) (by kernel_rfl) (by kernel_rfl) rfl rfl (by kernel_rfl) (by kernel_rfl) (by kernel_rfl) (by kernel_rfl)
theorem over : Rows.manytimeVerifiesRow.holds Try.pinned (OpenSpec.ofChange Rows.manytimeVerifiesSpec) :=
  OpenClaim.holds_of_wide 4 Try.f4 rfl rfl rfl rfl rfl rfl rfl ⟨rfl, rfl, rfl, rfl, rfl⟩ rfl rfl rfl rfl rfl fcn Try.func4 fc
    (of_decide_eq_true (by kernel_rfl)) (by unfold Func.isWrapper; first | (rw [if_pos (by decide +kernel)]; kernel_rfl) | (rw [if_neg (by decide +kernel)]; exact ⟨rfl, rfl⟩))
    (fun os started H enc _ => lifted os started H enc)

theorem proved : Rows.ManytimeVerifiesSaid := over
#print axioms proved
end Go.Proofs.Ytilhceihelcdgaa.manytimeVerifies
