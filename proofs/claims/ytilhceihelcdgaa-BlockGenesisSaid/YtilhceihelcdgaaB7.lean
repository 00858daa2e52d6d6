/-
  A block is read: from a text of another kind.
-/
import Derived.Test.YtilhceihelcdgaaB4
import Derived.Test.YtilhceihelcdgaaB6
namespace Go.Proofs.Ytilhceihelcdgaa
open Go.RowKit

theorem un_choices : Try.prog.underlying 57 = some (.slice 139) := by kernel_rfl
theorem info_choice : (Try.prog.info? 139).map (fun i => (i.zero, i.size, i.bytes)) = some (some (.agg (chv (0, zeroN)).toArray), 9, 16) := by kernel_rfl
/-- A []Choice that the call owns. -/
def OwC (w : World) (base : Nat) (v : Value) (L : List (Int × List Int)) : Prop := w.ownsRow base 139 9 v L.length (L.flatMap chv)
theorem OwC.cs {w : World} {base : Nat} {v : Value} {L : List (Int × List Int)} (h : OwC w base v L) (hl : L.length ≤ 1000000) (hb : ∀ s ∈ L, ChOk s) : Cs w v L := ⟨Sl.of_owns h (by omega), hb⟩
theorem own_grown {w w' : World} {base e sz n : Nat} {v : Value} {xs : List Value} {row : Option Nat} (h : w.ownsRow base e sz v n xs) (hg : w.grownBy w' row) (hne : ∀ k, row = some k → k < base) : w'.ownsRow base e sz v n xs := by
  refine World.ownsRow.kept h hg ?_
  rcases hv : v.ownBlock with _ | k
  · exact .inl rfl
  · refine .inr fun e => ?_
    have h1 := (World.ownsRow.lt h k hv).1
    have h2 := hne k e.symm
    omega
theorem own_below {w w' : World} {base e sz n : Nat} {v : Value} {xs : List Value} (h : w.ownsRow base e sz v n xs) (k : Below w.heap.size w w') : w'.ownsRow base e sz v n xs := own_grown h (grown_of_below (r := none) k) (fun _ e => by cases e)
theorem own_ne {w : World} {base e sz n m : Nat} {v : Value} {xs : List Value} (h : w.ownsRow base e sz v n xs) (hm : m < base) : some m ≠ v.ownBlock := fun e => by
  have := (World.ownsRow.lt h m e.symm).1; omega
theorem OwC.grown {w w' : World} {base : Nat} {v : Value} {L : List (Int × List Int)} {row : Option Nat} (h : OwC w base v L) (hg : w.grownBy w' row) (hne : ∀ k, row = some k → k < base) : OwC w' base v L := own_grown h hg hne
theorem OwC.below {w w' : World} {base : Nat} {v : Value} {L : List (Int × List Int)} (h : OwC w base v L) (k : Below w.heap.size w w') : OwC w' base v L := own_below h k
theorem blv_one (p : List Int) (v : Value) (hv : v.oneCell' = true) : (blv p v).toArray.all (·.oneCell') = true := by
  rw [Array.all_eq_true_iff_forall_mem]
  intro x hx
  simp only [blv, List.mem_toArray, List.mem_append, List.mem_singleton] at hx
  rcases hx with hx | rfl
  · exact bsv_one _ x hx
  · exact hv
def zeroBlock : List Value := blv zeroN (.slice none 0 0)

set_option maxHeartbeats 2000000 in
theorem decodeBlock_bad (l : List Int) (v : Value) (w : World) (h : Bs w v l) (hk : kindOf l ≠ 3) :
    Calls Try.prog 47 #[v] w fun e w' => e = .returned (.tuple #[.agg zeroBlock.toArray, .int .i64 4]) ∧ Below w.heap.size w w' := by
  have HO := Lib.hid (fun w h => open_bad l v 3 w h hk)
  have H := Lib.hid h
  obtain ⟨a, cap, rfl, hnc, hcm, _, _, _, hc⟩ := id h.1
  clear hc h hk
  have hN : Hid (∀ w, Bs w (.slice none 0 0) []) := fun w => ⟨⟨none, 0, rfl, by simp, by unfold maxLen; omega, fun _ => rfl, by simp, by simp [bsv], fun h => absurd h (by simp)⟩, fun x hx => by simp at hx⟩
  go_enter Try.func47, Try.ntmps47
  have hZ0 := Blk.new w 59 zeroBlock.toArray
  go_wp2_with (first
    | (go_at_call 103; refine (HO.out _ (by exact H.out.below (below1 w (.cells zeroBlock.toArray 59)))).mono ?_; rintro e w1 ⟨P, rfl, hP, hC1, hB1⟩; have hZ1 := hZ0.below hB1 (by simp); have hV1 := (below1 w (.cells zeroBlock.toArray 59)).trans (hB1.mono (by simp)); have hzp : w.heap.size < P := by simp at hP; omega)
    | (go_at_call 111; refine (cname_bad P _ hC1).mono ?_; rintro e w2 ⟨rfl, hC2, hg2⟩; have hZ2 := hZ1.grown hg2 (fun e => by injection e; omega); have hV2 := hV1.grown hg2 hV1.size (fun k hk => by injection hk; omega))
    | (go_at_call 104; refine (cuint_bad P 1 _ (by exact hC2.old _) (by omega) (by omega)).mono ?_; rintro e w3 ⟨rfl, hC3, hg3⟩; have hZ3 := (hZ2.old (.cells zeroBlock.toArray 59)).grown hg3 (fun e => by injection e; omega); have hV3 := (hV2.alloc hV2.size (.cells zeroBlock.toArray 59)).grown hg3 (by have := hV2.size; simp; omega) (fun k hk => by injection hk; omega)))
  have HC3 := Lib.hid hC3
  have HZ3 := Lib.hid hZ3
  have HV3 := Lib.hid hV3
  clear hC1 hC2 hC3 hZ0 hZ1 hZ2 hZ3 hV1 hV2 hV3 hg2 hg3
  go_loopw [13] (fun i wr => i = .int .i64 0 ∧ wr = w3) (fun _ _ => 0)
  case atStart => exact ⟨rfl, rfl⟩
  case round =>
    obtain ⟨rfl, rfl⟩ := hrel
    go_wp2_with (first
      | (go_at_call 106; refine (cdone_bad P _ HC3.out).mono ?_; rintro e w4 ⟨rfl, q, rfl⟩; have HZ4 : Blk (wr.drewN q) w.heap.size 59 zeroBlock.toArray := HZ3.out)
      | (refine wpList_store_new rfl _ (.tmp 2) (.tmp 34) rfl w.heap.size rfl zeroBlock rfl 9 rfl _ _ HZ4 rfl size_block (blv_one _ _ rfl) ?_; intro w5 hZ5 hg5))
    refine ret_row2 rfl w.heap.size _ zeroBlock (.int .i64 4) 9 rfl rfl rfl rfl hZ5 un_block size_block ⟨rfl, ?_⟩
    exact (below_drewN HV3.out q).grown hg5 HV3.out.size (fun k hk => by injection hk; omega)
end Go.Proofs.Ytilhceihelcdgaa
