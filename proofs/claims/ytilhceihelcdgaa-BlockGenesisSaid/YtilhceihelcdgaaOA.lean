/-
  The one-time chain: its start, its steps, its ends.
  The one-time chain: the reference's start and steps; the ends of both.
  The one-time key's public name from the ends of its chains.
-/
import Derived.Test.YtilhceihelcdgaaMB
import Derived.Great.Ranges
namespace Go.Proofs.Ytilhceihelcdgaa
section
open Go.RowKit

/-- n steps of chain c from position f. -/
def owalk : Nat → Int → Int → List Int → List Int
  | 0, _, _, x => x
  | n + 1, c, f, x => hname (33 :: (owalk n c f x ++ [c, f + n]))
theorem owalk_isN (n : Nat) (c f : Int) (x : List Int) (h : IsN x) : IsN (owalk n c f x) := by
  cases n with
  | zero => exact h
  | succ n => exact hname_isN _
def ostart (x : List Int) (c : Int) : List Int := hname (32 :: (x ++ [c]))
theorem ostart_isN (x : List Int) (c : Int) : IsN (ostart x c) := hname_isN _
def oends (L : List (List Int)) : List Int := hname (34 :: L.flatten)
theorem oends_isN (L : List (List Int)) : IsN (oends L) := hname_isN _
/-- A name that is boxed: its block. -/
theorem wpList_box_name {w : World} {ops : Array Oper} {rest : List Oper} {o : Oper} {a : Act} {Q : Exit → Act → World → Prop} (hg : o.guard = none) (x : Operand) (ho : o.op = .box 30 x)
    (l : List Int) (hx : a.eval x = nv l) (h : ∀ w', Blk w' w.heap.size 30 (bsv l).toArray → Below w.heap.size w w' → w'.heap.size = w.heap.size + 1 → wpList Try.prog ops Q rest (a.put o.dst (.pointer (some ⟨w.heap.size, 0, none⟩))) w') :
    wpList Try.prog ops Q (o :: rest) a w :=
  Go.Great.wpList_boxTo hg _ x ho _ rfl _ rfl _ (by rw [hx]; rfl) (h _ (Blk.new _ _ _) (below1 _ _) (by simp))

/-- Stops a walk. -/
theorem hold {p : Prop} (h : Hid p) : p := h.out

theorem Below.of_grown {w w' : World} {B : Nat} (h : w.grownBy w' none) (hB : B ≤ w.heap.size) : Below B w w' :=
  (Below.refl B w).grown h hB (by intro j hj; cases hj)
theorem Sl.name {w : World} {g : Nat} {t : TypeId} {x : List Int} (h : Blk w g t (bsv x).toArray) (hx : IsN x) : Sl w (.slice (some ⟨g, 0, none⟩) 8 8) 1 x.length (bsv x) := by
  have := Sl.whole h (by rw [hx.1]; omega); rw [hx.1] at this ⊢; exact this

set_option maxHeartbeats 1000000 in
theorem start_any (x : List Int) (c : Int) (w : World) (hx : IsN x) (hc : 0 ≤ c ∧ c < 256) :
    Calls Try.prog 214 #[nv x, .int .i64 c] w fun e w' => e = .returned (nv (ostart x c)) ∧ Below w.heap.size w w' := by
  have HX := Lib.hid hx
  have HC := Lib.hid (hx.2.append (Byt.cons hc.1 hc.2 Byt.nil))
  obtain ⟨_, _⟩ := hc
  have hwc : IntKind.u8.wrap c = c := by rw [IntKind.wrap_u8]; omega
  clear hx
  go_enter Try.func214, Try.ntmps214
  go_wp2_with (first
    | (refine wpList_box_name rfl (.tmp 0) rfl x rfl ?_; intro w1 hA1 hB1 hs1)
    | (at_builtin; refine hold ?_))
  refine Lib.hid ?_
  generalize hW : World.alloc _ _ = W3
  have hA3 : Blk W3 w.heap.size 30 (bsv x).toArray := by rw [← hW]; exact (hA1.old _).old _
  have hN3 : Blk W3 (w.heap.size + 1) 30 (bsv zeroN).toArray := by rw [← hW, ← hs1]; exact (Blk.new _ _ _).old _
  have hC3 : Blk W3 (w.heap.size + 1 + 1) 5 (bsv [c]).toArray := by rw [← hW]; exact Blk.new' _ _ _ (by simp [hs1])
  have hV3 : Below w.heap.size w W3 := by rw [← hW]; exact hB1.trans ((below2 w1 _ _).mono (by omega))
  have hz3 := hC3.lt
  clear hW
  refine wpList_grow_bs _ rfl (.tmp 5) (.tmp 8) rfl _ x rfl (Sl.name hA3 HX.out) (fun _ _ _ e => by cases e; exact HX.out.1.symm) _ [c] rfl (Sl.whole hC3 (by simp)) (by simp) (by rw [HX.out.1]; simp) ?_
  intro v4 w4 hO4 hg4
  have hB4 := Below.of_grown hg4 (Nat.le_refl _)
  have hz4 := hB4.size
  go_wp2_with (first
    | (go_at_call 131; refine (tagged_any 32 (x ++ [c]) _ _ (hO4.bs (by rw [List.length_append, HX.out.1]; simp) HC.out) ⟨by omega, by omega⟩ (by rw [List.length_append, HX.out.1]; simp)).mono ?_; rintro e w5 ⟨rfl, hB5⟩)
    | (refine wpList_store_name _ rfl (.tmp 4) (.tmp 10) rfl (w.heap.size + 1) rfl _ rfl _ _ ((hN3.below hB4 (by omega)).below hB5 (by omega)) rfl rfl ?_; intro w6 hN6 hg6))
  have hV5 := (hV3.trans (hB4.mono hV3.size)).trans (hB5.mono (by omega))
  exact ret_name rfl (w.heap.size + 1) _ _ rfl rfl hN6 rfl ⟨rfl, hV5.grown hg6 hV5.size (by intro j hj; cases hj; omega)⟩

set_option maxHeartbeats 1000000 in
theorem walk_any (n : Nat) (x : List Int) (c f t : Int) (w : World) (hx : IsN x) (hc : 0 ≤ c ∧ c < 256) (hf : 0 ≤ f) (ht : t = f + n) (htb : t ≤ 256) :
    Calls Try.prog 210 #[nv x, .int .i64 c, .int .i64 f, .int .i64 t] w fun e w' => e = .returned (nv (owalk n c f x)) ∧ Below w.heap.size w w' := by
  have HX := Lib.hid hx
  obtain ⟨a0, a1, a2, a3, a4, a5, a6, a7, hxe, _⟩ := hx.cases
  have hnx : nv x = .agg #[.int .u8 a0, .int .u8 a1, .int .u8 a2, .int .u8 a3, .int .u8 a4, .int .u8 a5, .int .u8 a6, .int .u8 a7] := by rw [hxe]; rfl
  rw [hnx]
  obtain ⟨_, _⟩ := hc
  have hwc : IntKind.u8.wrap c = c := by rw [IntKind.wrap_u8]; omega
  have hA0 : Blk ((w.alloc (.cells #[.int .u8 a0, .int .u8 a1, .int .u8 a2, .int .u8 a3, .int .u8 a4, .int .u8 a5, .int .u8 a6, .int .u8 a7] 30)).alloc (.cells (bsv zeroN).toArray 30)) w.heap.size 30 (bsv x).toArray := by rw [hxe]; exact (Blk.new _ _ _).old _
  have hwn : IntKind.i64.wrap (t - f) = (n : Int) := by rw [IntKind.wrap_i64]; omega
  have hfn : f + (n : Int) ≤ 256 := by omega
  clear hx hnx hxe ht htb
  go_enter Try.func210, Try.ntmps210
  go_wp2
  go_loopw [13] (fun i wr => ∃ k : Nat, k ≤ n ∧ i = .int .i64 (k : Int) ∧ Blk wr w.heap.size 30 (bsv (owalk k c f x)).toArray ∧ Blk wr (w.heap.size + 1) 30 (bsv zeroN).toArray ∧ Below w.heap.size w wr) (fun i _ => n - (intOf i).toNat)
  case atStart => exact ⟨0, by omega, rfl, hA0, Blk.new' _ _ _ (by simp), below2 w _ _⟩
  case round =>
    obtain ⟨k, hk, rfl, hA, hN, hB⟩ := hrel
    have hy := Lib.hid (owalk_isN k c f x HX.out)
    have hs : Hid (owalk (k + 1) c f x = hname (33 :: (owalk k c f x ++ [c, f + k]))) := rfl
    have hend : k = n → Hid (owalk k c f x = owalk n c f x) := fun e => by rw [e]; rfl
    have HE := Lib.hid hend
    clear hend
    generalize owalk k c f x = y at *
    have hz := hN.lt
    have hzb := hB.size
    by_cases hlt : k < n
    · have hlt' : (k : Int) < (n : Int) := by omega
      have hwk : IntKind.u8.wrap (f + (k : Int)) = f + (k : Int) := by rw [IntKind.wrap_u8]; omega
      have HD := Lib.hid (hy.out.2.append (Byt.cons (show 0 ≤ c by omega) (show c < 256 by omega) (Byt.cons (show 0 ≤ f + (k : Int) by omega) (show f + (k : Int) < 256 by omega) Byt.nil)))
      go_wp2_with (first
        | (at_builtin; generalize hW : World.alloc _ _ = W3; have hA3 : Blk W3 w.heap.size 30 (bsv y).toArray := (by rw [← hW]; exact hA.old _); have hN3 : Blk W3 (w.heap.size + 1) 30 (bsv zeroN).toArray := (by rw [← hW]; exact hN.old _); have hC3 : Blk W3 wr.heap.size 5 (bsv [c, f + (k : Int)]).toArray := (by rw [← hW]; exact Blk.new _ _ _); have hV3 : Below w.heap.size w W3 := (by rw [← hW]; exact hB.alloc hB.size _); have hz3 := hC3.lt; clear hW; refine wpList_grow_bs _ rfl (.tmp 16) (.tmp 23) rfl _ y rfl (Sl.name hA3 hy.out) (fun _ _ _ e => by cases e; exact hy.out.1.symm) _ [c, f + (k : Int)] rfl (Sl.whole hC3 (by simp)) (by simp) (by rw [hy.out.1]; simp) ?_; intro v4 w4 hO4 hg4; have hB4 := Below.of_grown hg4 (Nat.le_refl _); have hz4 := hB4.size)
        | (go_at_call 131; refine (tagged_any 33 (y ++ [c, f + (k : Int)]) _ _ (hO4.bs (by rw [List.length_append, hy.out.1]; simp) HD.out) ⟨by omega, by omega⟩ (by rw [List.length_append, hy.out.1]; simp)).mono ?_; rintro e w5 ⟨rfl, hB5⟩; have hz5 := hB5.size)
        | (refine wpList_store_name _ rfl (.tmp 4) (.tmp 25) rfl w.heap.size rfl _ rfl _ _ ((hA3.below hB4 (by omega)).below hB5 (by omega)) (by simp [bsv_length, hy.out.1]) rfl ?_; intro w6 hA6 hg6; have hN6 := ((hN3.below hB4 (by omega)).below hB5 (by omega)).grown hg6 (by simp); have hV5 := (hV3.trans (hB4.mono hV3.size)).trans (hB5.mono (by omega)); have hV6 := hV5.grown hg6 hV5.size (by intro j hj; cases hj; omega)))
      go_roundw
      case rel =>
        refine ⟨k + 1, by omega, by go_num, ?_, hN6, hV6⟩
        rw [hs.out]
        exact hA6
      case measure => simp [intOf]; omega
    · obtain rfl : k = n := by omega
      go_wp2_with (first
        | (refine wpList_load_name _ rfl (.tmp 4) rfl w.heap.size rfl _ _ hA hy.out.1 ?_)
        | (refine wpList_store_name _ rfl (.tmp 8) (.tmp 27) rfl (w.heap.size + 1) rfl _ rfl _ _ hN rfl hy.out.1 ?_; intro w6 hN6 hg6))
      refine ret_name rfl (w.heap.size + 1) _ _ rfl rfl hN6 hy.out.1 ⟨?_, hB.grown hg6 hB.size (by intro j hj; cases hj; omega)⟩
      rw [(HE.out (by simp)).out]
end
section
open Go.RowKit

/-- A name in the middle of a block, as a slice of its bytes. -/
theorem Sl.mid {w : World} {b o : Nat} {x : List Int} (h : ∀ j, j < 8 → w.cell? ⟨b, o + j, none⟩ = some (.int .u8 (x.getD j 0))) (hx : IsN x) : Sl w (.slice (some ⟨b, o, none⟩) 8 8) 1 x.length (bsv x) := by
  rw [hx.1]
  refine ⟨_, 8, rfl, Nat.le_refl _, by simp [maxLen], (fun e => by cases e), by omega, by rw [bsv_length, hx.1], fun _ => ⟨b, o, rfl, fun j hj => ?_⟩⟩
  have := h j (by omega)
  rw [this, bsv_get (by rw [hx.1]; omega)]
theorem flatten_take_succ (L : List (List Int)) (k : Nat) (hk : k < L.length) : (L.take (k + 1)).flatten = (L.take k).flatten ++ L.getD k [] := by
  rw [List.take_add_one, List.flatten_append, List.getElem?_eq_getElem hk, List.getD_eq_getElem?_getD, List.getElem?_eq_getElem hk]
  simp
theorem flatten_take_le {L : List (List Int)} (h : ∀ x ∈ L, IsN x) (k : Nat) : (L.take k).flatten.length ≤ 8 * L.length := by
  induction L generalizing k with
  | nil => simp
  | cons a L ih =>
    cases k with
    | zero => simp
    | succ k =>
      have h1 := ih (fun x hx => h x (List.mem_cons_of_mem _ hx)) k
      have h2 := (h a List.mem_cons_self).1
      simp only [List.take_succ_cons, List.flatten_cons, List.length_append, List.length_cons]
      omega
theorem flatten_byt {L : List (List Int)} (h : ∀ x ∈ L, IsN x) : Byt L.flatten := by
  intro c hc
  obtain ⟨x, hx, hcx⟩ := List.mem_flatten.1 hc
  exact (h x hx).2 c hcx

set_option maxHeartbeats 1000000 in
theorem rstart_any (x : List Int) (c : Int) (w : World) (hx : IsN x) (hc : 0 ≤ c ∧ c < 256) :
    Calls Try.prog 154 #[nv x, .int .i64 c] w fun e w' => e = .returned (nv (ostart x c)) ∧ Below w.heap.size w w' := by
  have HX := Lib.hid hx
  have HC := Lib.hid (hx.2.append (Byt.cons hc.1 hc.2 Byt.nil))
  obtain ⟨_, _⟩ := hc
  have hwc : IntKind.u8.wrap c = c := by rw [IntKind.wrap_u8]; omega
  clear hx
  go_enter Try.func154, Try.ntmps154
  go_wp2_with (first
    | (refine wpList_box_name rfl (.tmp 0) rfl x rfl ?_; intro w1 hA1 hB1 hs1)
    | (at_builtin; refine hold ?_))
  refine Lib.hid ?_
  generalize hW : World.alloc _ _ = W3
  have hA3 : Blk W3 w.heap.size 30 (bsv x).toArray := by rw [← hW]; exact (hA1.old _).old _
  have hN3 : Blk W3 (w.heap.size + 1) 30 (bsv zeroN).toArray := by rw [← hW, ← hs1]; exact (Blk.new _ _ _).old _
  have hE3 : OwB W3 (w.heap.size + 1 + 1) (.slice (some ⟨w.heap.size + 1 + 1, 0, none⟩) 0 0) [] := by
    rw [← hW]
    have := OwB.empty (w1.alloc (.cells (bsv zeroN).toArray 30)) (w.heap.size + 1 + 1) (by simp [hs1])
    rw [show (w1.alloc (.cells (bsv zeroN).toArray 30)).heap.size = w.heap.size + 1 + 1 by simp [hs1]] at this
    exact this
  have hV3 : Below w.heap.size w W3 := by rw [← hW]; exact hB1.trans ((below2 w1 _ _).mono (by omega))
  have hz3 : w.heap.size + 1 + 1 < W3.heap.size := by rw [← hW]; simp [hs1]
  clear hW
  refine wpList_app_bs _ rfl (.tmp 5) (.tmp 6) rfl (w.heap.size + 1 + 1) _ [] rfl hE3 _ x rfl (Sl.name hA3 HX.out) (by simp [HX.out.1]) (by omega) ?_
  intro v4 w4 hO4 hg4
  have hB4 := hE3.below_grown (Below.refl _ _) (by omega) hg4
  have hz4 := hB4.size
  go_wp2_with (at_builtin; refine hold ?_)
  refine Lib.hid ?_
  refine wpList_app_bs _ rfl (.tmp 7) (.tmp 10) rfl (w.heap.size + 1 + 1) _ _ rfl (hO4.alloc _) _ [c] rfl (Sl.one _ _ _) (by simp [HX.out.1]) (by simp; omega) ?_
  intro v5 w5 hO5 hg5
  have hB5 := (hO4.alloc (.cells #[.int .u8 c] 5)).below_grown (hB4.alloc (by omega) _) (by simp; omega) hg5
  have hz5 := hB5.size
  go_wp2_with (first
    | (go_at_call 133; refine (rtagged_any 32 (x ++ [c]) _ _ (hO5.bs (by rw [List.nil_append, List.length_append, HX.out.1]; simp) HC.out) ⟨by omega, by omega⟩ (by rw [List.length_append, HX.out.1]; simp)).mono ?_; rintro e w6 ⟨rfl, hB6⟩)
    | (refine wpList_store_name _ rfl (.tmp 4) (.tmp 12) rfl (w.heap.size + 1) rfl _ rfl _ _ ((hN3.below hB5 (by omega)).below hB6 (by omega)) rfl rfl ?_; intro w7 hN7 hg7))
  have hV6 := (hV3.trans (hB5.mono (by omega))).trans (hB6.mono (by omega))
  exact ret_name rfl (w.heap.size + 1) _ _ rfl rfl hN7 rfl ⟨rfl, hV6.grown hg7 hV6.size (by intro j hj; cases hj; omega)⟩

set_option maxHeartbeats 1000000 in
theorem rwalk_any (n : Nat) (x : List Int) (c f t : Int) (w : World) (hx : IsN x) (hc : 0 ≤ c ∧ c < 256) (hf : 0 ≤ f) (ht : t = f + n) (htb : t ≤ 256) :
    Calls Try.prog 153 #[nv x, .int .i64 c, .int .i64 f, .int .i64 t] w fun e w' => e = .returned (nv (owalk n c f x)) ∧ Below w.heap.size w w' := by
  have HX := Lib.hid hx
  subst ht
  obtain ⟨_, _⟩ := hc
  have hwc : IntKind.u8.wrap c = c := by rw [IntKind.wrap_u8]; omega
  clear hx
  go_enter Try.func153, Try.ntmps153
  go_wp2_with (refine wpList_box_name rfl (.tmp 0) rfl x rfl ?_; intro w1 hA1 hB1 hs1)
  have hN1 : Blk (w1.alloc (.cells (bsv zeroN).toArray 30)) (w.heap.size + 1) 30 (bsv zeroN).toArray := by rw [← hs1]; exact Blk.new _ _ _
  go_loopw [9] (fun i wr => ∃ k : Nat, k ≤ n ∧ i = .int .i64 (f + (k : Int)) ∧ Blk wr w.heap.size 30 (bsv (owalk k c f x)).toArray ∧ Blk wr (w.heap.size + 1) 30 (bsv zeroN).toArray ∧ Below w.heap.size w wr) (fun i _ => (f + n - (intOf i)).toNat)
  case atStart => exact ⟨0, by omega, by simp, hA1.old _, hN1, hB1.trans ((below1 w1 _).mono (by omega))⟩
  case round =>
    obtain ⟨k, hk, rfl, hA, hN, hB⟩ := hrel
    have hy := Lib.hid (owalk_isN k c f x HX.out)
    have hs : Hid (owalk (k + 1) c f x = hname (33 :: (owalk k c f x ++ [c, f + k]))) := rfl
    have hend : k = n → Hid (owalk k c f x = owalk n c f x) := fun e => by rw [e]; rfl
    have HE := Lib.hid hend
    clear hend
    generalize owalk k c f x = y at *
    have hz := hN.lt
    have hzb := hB.size
    by_cases hlt : k < n
    · have hlt' : f + (k : Int) < f + (n : Int) := by omega
      have hwk : IntKind.u8.wrap (f + (k : Int)) = f + (k : Int) := by rw [IntKind.wrap_u8]; omega
      have HD := Lib.hid (Byt.cons (show (0 : Int) ≤ 33 by omega) (by omega) (hy.out.2.append (Byt.cons (show 0 ≤ c by omega) (show c < 256 by omega) (Byt.cons (show 0 ≤ f + (k : Int) by omega) (show f + (k : Int) < 256 by omega) Byt.nil))))
      obtain ⟨y0, y1, y2, y3, y4, y5, y6, y7, rfl, _⟩ := hy.out.cases
      obtain ⟨d0, d1, d2, d3, d4, d5, d6, d7⟩ := hA.lit8
      go_wp2_with (go_at_call 98; refine hold ?_)
      refine Lib.hid ?_
      generalize hW : World.alloc _ _ = W3
      have hA3 : Blk W3 w.heap.size 30 (bsv [y0, y1, y2, y3, y4, y5, y6, y7]).toArray := by rw [← hW]; exact hA.old _
      have hN3 : Blk W3 (w.heap.size + 1) 30 (bsv zeroN).toArray := by rw [← hW]; exact hN.old _
      have hC3 : Blk W3 wr.heap.size 5 (bsv [33, y0, y1, y2, y3, y4, y5, y6, y7, c, f + (k : Int)]).toArray := by rw [← hW]; exact Blk.new _ _ _
      have hV3 : Below w.heap.size w W3 := by rw [← hW]; exact hB.alloc hB.size _
      have hz3 := hC3.lt
      clear hW
      refine (rsum_any [33, y0, y1, y2, y3, y4, y5, y6, y7, c, f + (k : Int)] _ _ ⟨Sl.whole hC3 (by simp), HD.out⟩).mono ?_
      rintro e w5 ⟨rfl, hB5⟩
      have hV5 := hV3.trans (hB5.mono hV3.size)
      go_wp2_with (refine wpList_store_name _ rfl (.tmp 4) (.tmp 37) rfl w.heap.size rfl _ rfl _ _ (hA3.below hB5 (by omega)) rfl rfl ?_; intro w6 hA6 hg6; have hN6 := (hN3.below hB5 (by omega)).grown hg6 (by simp); have hV6 := hV5.grown hg6 hV5.size (by intro j hj; cases hj; omega))
      go_roundw
      case rel =>
        refine ⟨k + 1, by omega, by go_num, ?_, hN6, hV6⟩
        rw [hs.out]
        exact hA6
      case measure => simp [intOf]; omega
    · obtain rfl : k = n := by omega
      go_wp2_with (first
        | (refine wpList_load_name _ rfl (.tmp 4) rfl w.heap.size rfl _ _ hA hy.out.1 ?_)
        | (refine wpList_store_name _ rfl (.tmp 8) (.tmp 38) rfl (w.heap.size + 1) rfl _ rfl _ _ hN rfl hy.out.1 ?_; intro w6 hN6 hg6))
      refine ret_name rfl (w.heap.size + 1) _ _ rfl rfl hN6 hy.out.1 ⟨?_, hB.grown hg6 hB.size (by intro j hj; cases hj; omega)⟩
      rw [(HE.out (by simp)).out]
end
section
open Go.RowKit

set_option maxHeartbeats 1000000 in
theorem public_any (L : List (List Int)) (v : Value) (w : World) (h : Ns w v L) (hL0 : 0 < L.length) (hL : L.length ≤ 1000) :
    Calls Try.prog 211 #[v] w fun e w' => e = .returned (nv (oends L)) ∧ Below w.heap.size w w' := by
  have HS := Lib.hid h
  obtain ⟨b, o, cap, rfl, hnc, hcm⟩ := h.bds hL0
  clear h
  have hN0 := Blk.new w 30 (bsv zeroN).toArray
  go_enter Try.func211, Try.ntmps211
  go_wp2_with (refine wpList_make_bs _ rfl (.const (.int .i64 0)) (.const (.int .i64 144)) rfl (w.heap.size + 1) 144 144 rfl rfl rfl (by omega) (by simp) ?_; intro w1 hO1 hg1)
  have hN1 := hN0.grown hg1 (by simp)
  have hV1 := (below1 w (.cells (bsv zeroN).toArray 30)).grown hg1 (by simp) (by intro j hj; cases hj)
  go_loopw [3, 9] (fun s i wr => ∃ k : Nat, k ≤ L.length ∧ i = .int .i64 (k : Int) ∧ OwB wr (w.heap.size + 1) s (L.take k).flatten ∧ Blk wr w.heap.size 30 (bsv zeroN).toArray ∧ Below w.heap.size w wr) (fun _ i _ => L.length - (intOf i).toNat)
  case atStart => exact ⟨0, by omega, rfl, by simpa using hO1, hN1, hV1⟩
  case round =>
    obtain ⟨k, hk, rfl, hO, hN, hB⟩ := hrel
    have hXl := flatten_take_le HS.out.2 k
    have hz := hN.lt
    have hzb := hB.size
    by_cases hlt : k < L.length
    · have hlt' : (k : Int) < (L.length : Int) := by omega
      obtain ⟨hc, hx⟩ := (HS.out.below hB).at rfl k hlt
      have HC := Lib.hid hc
      have HX := Lib.hid hx
      have hs := Lib.hid (flatten_take_succ L k hlt)
      generalize L.getD k [] = x at *
      generalize (L.take k).flatten = X at *
      clear hc hx
      go_wp2_with (first
        | (refine wpList_load_mid_name _ rfl (.tmp 11) rfl b (o + k * 8) rfl x HX.out.1 HC.out ?_)
        | (refine wpList_store_name _ rfl (.tmp 5) (.tmp 12) rfl wr.heap.size rfl x rfl _ _ (Blk.new wr 30 (bsv zeroN).toArray) rfl HX.out.1 ?_; intro w2 hA2 hg2)
        | (at_builtin; refine hold ?_))
      refine Lib.hid ?_
      have hB12 : Below wr.heap.size wr w2 := (below1 wr _).grown hg2 (by simp) (by intro j hj; cases hj; exact Nat.le_refl _)
      have hO2 := hO.below hB12
      have hN2 := hN.below hB12 hz
      have hB2 := hB.trans (hB12.mono hzb)
      have hz2 := hB12.size
      refine wpList_app_bs _ rfl (.tmp 13) (.tmp 14) rfl (w.heap.size + 1) _ _ rfl hO2 _ x rfl (Sl.name hA2 HX.out) (by rw [HX.out.1]; omega) (by omega) ?_
      intro v3 w3 hO3 hg3
      have hB3 := (OwB.base hO2 (Nat.le_succ _)).below_grown hB2 hB2.size hg3
      have hN3 := hN2.grown hg3 (hO2.ne (by omega))
      go_wp2
      go_roundw
      case rel =>
        refine ⟨k + 1, by omega, by go_num, ?_, hN3, hB3⟩
        rw [hs.out]
        exact hO3
      case measure => simp [intOf]; omega
    · obtain rfl : k = L.length := by omega
      rw [List.take_length] at hO hXl
      have hlt' : ((L.length : Int) < (L.length : Int)) = False := by simp
      go_wp2_with (first
        | (go_at_call 131; refine (tagged_any 34 L.flatten _ _ (hO.bs (by omega) (flatten_byt HS.out.2)) ⟨by omega, by omega⟩ (by omega)).mono ?_; rintro e w5 ⟨rfl, hB5⟩)
        | (refine wpList_store_name _ rfl (.tmp 2) (.tmp 18) rfl w.heap.size rfl _ rfl _ _ (hN.below hB5 hz) rfl rfl ?_; intro w6 hN6 hg6))
      have hV5 := hB.trans (hB5.mono hzb)
      exact ret_name rfl w.heap.size _ _ rfl rfl hN6 rfl ⟨rfl, hV5.grown hg6 hV5.size (by intro j hj; cases hj; omega)⟩

set_option maxHeartbeats 1000000 in
theorem rpublic_any (L : List (List Int)) (v : Value) (w : World) (h : Ns w v L) (hL0 : 0 < L.length) (hL : L.length ≤ 1000) :
    Calls Try.prog 159 #[v] w fun e w' => e = .returned (nv (oends L)) ∧ Below w.heap.size w w' := by
  have HS := Lib.hid h
  obtain ⟨b, o, cap, rfl, hnc, hcm⟩ := h.bds hL0
  clear h
  have hN0 := Blk.new w 30 (bsv zeroN).toArray
  go_enter Try.func159, Try.ntmps159
  go_wp2
  go_loopw [3, 4] (fun s i wr => ∃ k : Nat, k ≤ L.length ∧ i = .int .i64 (k : Int) ∧ OwB wr (w.heap.size + 1) s (L.take k).flatten ∧ Blk wr w.heap.size 30 (bsv zeroN).toArray ∧ Below w.heap.size w wr) (fun _ i _ => L.length - (intOf i).toNat)
  case atStart => exact ⟨0, by omega, rfl, OwB.nil _ _, hN0, below1 w _⟩
  case round =>
    obtain ⟨k, hk, rfl, hO, hN, hB⟩ := hrel
    have hXl := flatten_take_le HS.out.2 k
    have hz := hN.lt
    have hzb := hB.size
    by_cases hlt : k < L.length
    · have hlt' : (k : Int) < (L.length : Int) := by omega
      obtain ⟨hc, hx⟩ := (HS.out.below hB).at rfl k hlt
      have HC := Lib.hid hc
      have HX := Lib.hid hx
      have hs := Lib.hid (flatten_take_succ L k hlt)
      generalize L.getD k [] = x at *
      generalize (L.take k).flatten = X at *
      clear hc hx
      go_wp2_with (at_builtin; refine hold ?_)
      refine Lib.hid ?_
      refine wpList_app_bs _ rfl (.tmp 11) (.tmp 15) rfl (w.heap.size + 1) _ _ rfl hO _ x rfl (Sl.mid HC.out HX.out) (by rw [HX.out.1]; omega) (by omega) ?_
      intro v3 w3 hO3 hg3
      have hB3 := (OwB.base hO (Nat.le_succ _)).below_grown hB hB.size hg3
      have hN3 := hN.grown hg3 (hO.ne (by omega))
      go_wp2
      go_roundw
      case rel =>
        refine ⟨k + 1, by omega, by go_num, ?_, hN3, hB3⟩
        rw [hs.out]
        exact hO3
      case measure => simp [intOf]; omega
    · obtain rfl : k = L.length := by omega
      rw [List.take_length] at hO hXl
      go_wp2_with (first
        | (go_at_call 133; refine (rtagged_any 34 L.flatten _ _ (hO.bs (by omega) (flatten_byt HS.out.2)) ⟨by omega, by omega⟩ (by omega)).mono ?_; rintro e w5 ⟨rfl, hB5⟩)
        | (refine wpList_store_name _ rfl (.tmp 2) (.tmp 18) rfl w.heap.size rfl _ rfl _ _ (hN.below hB5 hz) rfl rfl ?_; intro w6 hN6 hg6))
      have hV5 := hB.trans (hB5.mono hzb)
      exact ret_name rfl w.heap.size _ _ rfl rfl hN6 rfl ⟨rfl, hV5.grown hg6 hV5.size (by intro j hj; cases hj; omega)⟩
end
end Go.Proofs.Ytilhceihelcdgaa
