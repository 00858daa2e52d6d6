/-
  Contracts of the functions that write numbers: codec.extended, codec.AppendUint and the reference's AppendUint.
-/
import Derived.Test.YtilhceihelcdgaaC1
namespace Go.Proofs.Ytilhceihelcdgaa
open Go.RowKit

/-- 'make([]byte, L, C)'. -/
theorem wpList_mk_bs (w : World) {ops : Array Oper} {rest : List Oper} {o : Oper} {a : Act} {Q : Exit → Act → World → Prop} (hgd : o.guard = none) (l c : Operand) (ho : o.op = Op.makeSlice 22 l c)
    (L C : Nat) (L' C' : Int) (hl : a.eval l = .int .i64 L') (hc : a.eval c = .int .i64 C') (hL' : L' = L) (hC' : C' = C) (hL : L ≤ C) (hC : C ≤ 281474976710656)
    (h : ∀ w', Blk w' w.heap.size 5 (bsv (List.replicate C 0)).toArray → Below w.heap.size w w' → wpList Try.prog ops Q rest (a.put o.dst (.slice (some ⟨w.heap.size, 0, none⟩) L C)) w') : wpList Try.prog ops Q (o :: rest) a w := by
  subst hL' hC'
  refine wpList_plain hgd fun K hK => ?_
  obtain ⟨i, hi, hz0, hz1, hz2⟩ := info_parts info_u8
  have hrun := run_make (P := Try.prog) w 22 5 i (.int .u8 0) un_bytes hi hz0 .i64 .i64 L C (by omega) (by omega) (by rw [hz2]; omega) (by omega)
  unfold Oper.wp
  simp [execOp, ho, hl, hc, hrun, Result.andThen]
  refine hK _ _ (h _ ?_ (below1 w _))
  have hm : (madeCells (Value.int .u8 0).cells (C * i.size)) = (bsv (List.replicate C 0)).toArray := by
    apply Array.ext'
    rw [hz1, Nat.mul_one]
    exact (toList_madeCells_one _ C).trans (by simp [bsv])
  rw [hm]
  exact Blk.new _ _ _

theorem splice_ext (l : List Int) (n : Nat) : splice (bsv (List.replicate (l.length + n) 0)) 0 (bsv l) = bsv (l ++ List.replicate n 0) := by
  unfold splice
  simp [bsv, List.map_append]
/-- A block whose first cells are l is owned by the slice that begins at its head. -/
theorem OwB.of_blk {w : World} {base g C : Nat} {l r : List Int} (h : Blk w g 5 (bsv (l ++ r)).toArray) (hb : base ≤ g) (hC : C = l.length + r.length) (hm : C ≤ maxLen) : OwB w base (.slice (some ⟨g, 0, none⟩) l.length C) l := by
  refine ⟨by simp [bsv_length], .inr ⟨g, C, _, rfl, hb, h, by omega, hm, by simp [bsv_length, hC], ?_⟩⟩
  rw [bsv_append]
  simp [bsv_length]

set_option maxHeartbeats 1000000 in
theorem extended_any (l : List Int) (v : Value) (n : Int) (w : World) (h : Bs w v l) (h0 : 0 ≤ n) (h1 : n ≤ 8) (hl : l.length ≤ 140737488355320) :
    Calls Try.prog 169 #[v, .int .i64 n] w fun e w' => ∃ v', e = .returned v' ∧ OwB w' w.heap.size v' l ∧ Below w.heap.size w w' := by
  obtain ⟨n, rfl⟩ := Int.eq_ofNat_of_zero_le h0
  have HS := Lib.hid h
  obtain ⟨a, cap, rfl, hnc, hcm, _, _, _, hc⟩ := id h.1
  clear hc h
  unfold maxLen at hcm
  go_enter Try.func169, Try.ntmps169
  have hf : 0 + min l.length l.length ≤ (bsv (List.replicate (l.length + n) 0)).length := by rw [bsv_length, List.length_replicate]; omega
  have HF := Lib.hid hf
  clear hf
  go_wp2_with (refine wpList_mk_bs _ rfl (.tmp 7) (.tmp 11) rfl l.length (l.length + n) _ _ rfl rfl rfl (by omega) (by omega) (by omega) ?_)
  intro w1 hC1 hB1
  go_wp2_with (refine wpList_copy_bs _ rfl (.tmp 13) (.tmp 14) rfl _ l rfl (HS.out.1.below hB1) w.heap.size 0 l.length (l.length + n) rfl _ _ hC1 HF.out w.heap.size w hB1 (Nat.le_refl _) ?_)
  intro w2 hC2 hB2
  rw [splice_ext] at hC2
  go_wp2
  go_ret
  exact ⟨_, rfl, OwB.of_blk hC2 (Nat.le_refl _) (by simp) (by unfold maxLen; omega), hB2⟩
end Go.Proofs.Ytilhceihelcdgaa
