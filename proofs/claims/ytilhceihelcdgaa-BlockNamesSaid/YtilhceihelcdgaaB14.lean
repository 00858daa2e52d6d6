/-
  The walks of the statements on kinds and names, and on blocks.
-/
import Derived.Test.YtilhceihelcdgaaB13
namespace Go.Proofs.Ytilhceihelcdgaa
open Go.RowKit

set_option maxRecDepth 100000 in
set_option maxHeartbeats 4000000 in
theorem blockNames_walk (l : List Int) (v : Value) (w : World) (h : Bs w v l) : Calls Try.prog 9 #[v] w fun e w' => e = .returned (.bool true) ∧ Below w.heap.size w w' := by
  have K1 := Lib.hid (kind_any l v w h)
  have K2 := Lib.hid (rkind_any l v w h)
  have N1 := Lib.hid (textName_any l v w h)
  have N2 := Lib.hid (fun w' (hb : Below w.heap.size w w') => rtextName_any l v w' (h.below hb))
  obtain ⟨a, cap, rfl, _⟩ := id h.1
  have HF := Lib.hid (hname_len l)
  generalize hname l = f at *
  generalize kindOf l = q at *
  clear h
  go_enter Try.func9, Try.ntmps9
  go_wp2_with (first
    | (go_at_call 35; refine K1.out.mono ?_; rintro e w1 ⟨rfl, rfl⟩)
    | (go_at_call 36; refine K2.out.mono ?_; rintro e w1 ⟨rfl, rfl⟩)
    | (go_at_call 37; refine N1.out.mono ?_; rintro e w2 ⟨rfl, hB2⟩)
    | (go_at_call 38; refine (N2.out _ hB2).mono ?_; rintro e w3 ⟨rfl, hB3⟩)
    | (refine wpList_eql_nm rfl (.tmp 10) (.tmp 12) rfl _ _ rfl rfl HF.out HF.out ?_)
    | (go_at_call 39; refine (awake24 _).mono ?_; rintro e w4 ⟨rfl, hB4⟩))
  go_ret
  have h3 := hB2.trans (hB3.mono hB2.size)
  exact ⟨rfl, h3.trans (hB4.mono h3.size)⟩
end Go.Proofs.Ytilhceihelcdgaa
