/-
  Contracts of the hash of a byte string behind a tag, in both texts.
-/
import Derived.Test.YtilhceihelcdgaaH6
namespace Go.Proofs.Ytilhceihelcdgaa
open Go.RowKit

set_option maxHeartbeats 1000000 in
theorem tagged_any (t : Int) (l : List Int) (v : Value) (w : World) (h : Bs w v l) (ht : 0 ≤ t ∧ t < 256) (hl : l.length ≤ 140737488355327) :
    Calls Try.prog 131 #[.int .u8 t, v] w fun e w' => e = .returned (nv (hname (t :: l))) ∧ Below w.heap.size w w' := by
  have HB := h.2
  obtain ⟨_, _⟩ := ht
  have HS := Lib.hid h
  clear h
  have hN0 := Blk.new w 30 (bsv zeroN).toArray
  go_enter Try.func131, Try.ntmps131
  go_wp2_with (refine wpList_make_bs _ rfl (.const (.int .i64 0)) (.const (.int .i64 160)) rfl (w.heap.size + 1) 160 160 rfl rfl rfl (by omega) (by simp) ?_)
  intro w1 hO1 hg1
  have hW1 := (Below.refl (w.heap.size + 1) (w.alloc (.cells (bsv zeroN).toArray 30))).grown hg1 (by simp) (by simp)
  have hz1 := hW1.size
  simp only [World.size_alloc] at hz1
  go_wp2_with (first
    | (at_builtin; refine wpList_app_bs _ rfl (.tmp 7) (.tmp 9) rfl (w.heap.size + 1) _ [] rfl (hO1.alloc _) _ [t] rfl (Sl.one _ _ _) (by simp) (by simp; omega) ?_; intro v2 w2 hO2 hg2; have hW2 := (hO1.alloc (.cells #[.int .u8 t] 5)).below_grown (hW1.alloc hz1 _) (by simp; omega) hg2; have hz2 := hW2.size; simp only [World.size_alloc] at hz2; have hV2 := (below1 w (.cells (bsv zeroN).toArray 30)).trans (hW2.mono (Nat.le_succ _)))
    | (at_builtin; refine wpList_app_bs _ rfl (.tmp 10) (.tmp 11) rfl (w.heap.size + 1) _ [t] rfl hO2 _ l rfl (HS.out.1.below hV2) (by simp; omega) hz2 ?_; intro v3 w3 hO3 hg3; have hW3 := hO2.below_grown hW2 hz2 hg3; have hz3 := hW3.size; simp only [World.size_alloc] at hz3; have hV3 := (below1 w (.cells (bsv zeroN).toArray 30)).trans (hW3.mono (Nat.le_succ _)))
    | (go_at_call 97; refine (sum_any (t :: l) _ _ (hO3.bs (by simp; omega) (HB.cons (by omega) (by omega)))).mono ?_; rintro e w4 ⟨rfl, hB4⟩)
    | (refine wpList_store_name _ rfl (.tmp 4) (.tmp 13) rfl w.heap.size rfl _ rfl _ _ ((hN0.below hW3 (by simp)).below hB4 (by omega)) rfl rfl ?_; intro w7 hN7 hg7))
  have hV7 := (hV3.trans (hB4.mono hV3.size)).grown hg7 (hV3.trans (hB4.mono hV3.size)).size (by intro j hj; cases hj; omega)
  exact ret_name rfl w.heap.size _ _ rfl rfl hN7 rfl ⟨rfl, hV7⟩
end Go.Proofs.Ytilhceihelcdgaa
