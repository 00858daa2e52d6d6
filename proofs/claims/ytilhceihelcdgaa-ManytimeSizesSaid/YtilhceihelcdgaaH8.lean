/-
  Contracts of the reference's Tagged and of the hash of a pair of names in both texts.
-/
import Derived.Test.YtilhceihelcdgaaH7
namespace Go.Proofs.Ytilhceihelcdgaa
open Go.RowKit

set_option maxHeartbeats 1000000 in
theorem rtagged_any (t : Int) (l : List Int) (v : Value) (w : World) (h : Bs w v l) (ht : 0 ≤ t ∧ t < 256) (hl : l.length ≤ 140737488355327) :
    Calls Try.prog 133 #[.int .u8 t, v] w fun e w' => e = .returned (nv (hname (t :: l))) ∧ Below w.heap.size w w' := by
  have HB := h.2
  obtain ⟨_, _⟩ := ht
  have HS := Lib.hid h
  clear h
  have hN0 := Blk.new w 30 (bsv zeroN).toArray
  go_enter Try.func133, Try.ntmps133
  go_wp2_with (refine wpList_make_bs _ rfl (.const (.int .i64 0)) (.const (.int .i64 160)) rfl (w.heap.size + 1) 160 160 rfl rfl rfl (by omega) (by simp) ?_)
  intro w1 hO1 hg1
  have hW1 := (Below.refl (w.heap.size + 1) (w.alloc (.cells (bsv zeroN).toArray 30))).grown hg1 (by simp) (by simp)
  have hz1 := hW1.size
  simp only [World.size_alloc] at hz1
  go_wp2_with (first
    | (at_builtin; refine wpList_app_bs _ rfl (.tmp 5) (.tmp 7) rfl (w.heap.size + 1) _ [] rfl (hO1.alloc _) _ [t] rfl (Sl.one _ _ _) (by simp) (by simp; omega) ?_; intro v2 w2 hO2 hg2; have hW2 := (hO1.alloc (.cells #[.int .u8 t] 5)).below_grown (hW1.alloc hz1 _) (by simp; omega) hg2; have hz2 := hW2.size; simp only [World.size_alloc] at hz2; have hV2 := (below1 w (.cells (bsv zeroN).toArray 30)).trans (hW2.mono (Nat.le_succ _)))
    | (at_builtin; refine wpList_app_bs _ rfl (.tmp 8) (.tmp 9) rfl (w.heap.size + 1) _ [t] rfl hO2 _ l rfl (HS.out.1.below hV2) (by simp; omega) hz2 ?_; intro v3 w3 hO3 hg3; have hW3 := hO2.below_grown hW2 hz2 hg3; have hz3 := hW3.size; simp only [World.size_alloc] at hz3; have hV3 := (below1 w (.cells (bsv zeroN).toArray 30)).trans (hW3.mono (Nat.le_succ _)))
    | (go_at_call 98; refine (rsum_any (t :: l) _ _ (hO3.bs (by simp; omega) (HB.cons (by omega) (by omega)))).mono ?_; rintro e w4 ⟨rfl, hB4⟩)
    | (refine wpList_store_name _ rfl (.tmp 4) (.tmp 11) rfl w.heap.size rfl _ rfl _ _ ((hN0.below hW3 (by simp)).below hB4 (by omega)) rfl rfl ?_; intro w7 hN7 hg7))
  have hV7 := (hV3.trans (hB4.mono hV3.size)).grown hg7 (hV3.trans (hB4.mono hV3.size)).size (by intro j hj; cases hj; omega)
  exact ret_name rfl w.heap.size _ _ rfl rfl hN7 rfl ⟨rfl, hV7⟩

/-- copy as one step of a region that draws its order. -/
theorem step_copy_bs {w : World} {ops : Array Oper} {o : Oper} {a : Act} {K : Act → World → Prop} {Q : Exit → Act → World → Prop} {E : Prop} (hgd : o.guard = none) (d s : Operand)
    (ho : o.op = .call { callee := .builtin .copy, args := #[d, s], argTypes := #[22, 22] })
    (sv : Value) (l : List Int) (hs : a.eval s = sv) (hsl : Sl w sv 1 l.length (bsv l)) (g off dLen dCap : Nat) (hd : a.eval d = .slice (some ⟨g, off, none⟩) dLen dCap)
    (cur : List Value) (t : TypeId) (hg : Blk w g t cur.toArray) (hfit : off + min l.length dLen ≤ cur.length) (B : Nat) (w0 : World) (hb : Below B w0 w) (hBg : B ≤ g)
    (h : ∀ w', Blk w' g t (splice cur off (bsv (l.take dLen))).toArray → Below B w0 w' → K (a.put o.dst (goInt (min l.length dLen : Nat))) w') :
    if Region.wanted o (yielded ops a.tmps) = true then o.wp Try.prog a w K Q else E := by
  obtain ⟨ad, cap, rfl, g1, g2, g3, g4, g5, g6⟩ := id hsl
  have hlen : (bsv (l.take dLen)).length = min l.length dLen := by rw [bsv_length, List.length_take, Nat.min_comm]
  refine step_copy_splice hgd d s 22 22 ho 5 un_bytes (by have h8 := info_u8; revert h8; cases Try.prog.info? 5 <;> simp; intro _ h1 _; exact h1) (some ⟨g, off, none⟩) ad dLen dCap l.length cap hd hs g off cur t hg (bsv (l.take dLen)) hlen ?_ (by rw [hlen]; exact hfit) (bsv_one _) B w0 hb hBg ?_
  · intro hpos
    refine ⟨rfl, ?_⟩
    obtain ⟨b, o, rfl, _⟩ := g6 (by rw [hlen] at hpos; omega)
    refine ⟨_, rfl, fun j v hv => ?_⟩
    have hj : j < (bsv (l.take dLen)).length := by
      rcases Nat.lt_or_ge j (bsv (l.take dLen)).length with h' | h'
      · exact h'
      · rw [List.getElem?_eq_none h'] at hv; cases hv
    have hv' : (bsv l)[j]? = some v := by
      rw [← hv]
      unfold bsv
      rw [List.getElem?_map, List.getElem?_map, List.getElem?_take, if_pos (by rw [hlen] at hj; omega)]
    exact hsl.news j v hv'
  · intro w' h1 h2
    have := h w' h1.out h2
    rw [hlen]
    exact this

/-- The whole of a block of bytes, as a slice. -/
theorem Sl.whole {w : World} {g : Nat} {t : TypeId} {l : List Int} (h : Blk w g t (bsv l).toArray) (hl : l.length ≤ 140737488355328) : Sl w (.slice (some ⟨g, 0, none⟩) l.length l.length) 1 l.length (bsv l) :=
  ⟨_, _, rfl, Nat.le_refl _, by unfold maxLen; omega, (fun e => by cases e), hl, by rw [bsv_length]; omega, fun _ => ⟨g, 0, rfl, fun j _ => by rw [Nat.zero_add, h.cell j]; simp⟩⟩

def zero16 : List Int := [0, 0, 0, 0, 0, 0, 0, 0, 0, 0, 0, 0, 0, 0, 0, 0]
theorem splice16a {a : List Int} (h : IsN a) : splice (bsv zero16) 0 (bsv (a.take 16)) = bsv (a ++ zeroN) := by
  obtain ⟨c0, c1, c2, c3, c4, c5, c6, c7, rfl, _⟩ := h.cases
  rfl
theorem splice16b {a b : List Int} (h : IsN a) (k : IsN b) : splice (bsv (a ++ zeroN)) 8 (bsv (b.take 8)) = bsv (a ++ b) := by
  obtain ⟨c0, c1, c2, c3, c4, c5, c6, c7, rfl, _⟩ := h.cases
  obtain ⟨d0, d1, d2, d3, d4, d5, d6, d7, rfl, _⟩ := k.cases
  rfl
theorem nv_cells (l : List Int) : (nv l).cells = (bsv l).toArray := rfl

set_option maxHeartbeats 1000000 in
theorem pair_any (t : Int) (x y : List Int) (w : World) (ht : 0 ≤ t ∧ t < 256) (hx : IsN x) (hy : IsN y) :
    Calls Try.prog 166 #[.int .u8 t, nv x, nv y] w fun e w' => e = .returned (nv (hname (t :: (x ++ y)))) ∧ Below w.heap.size w w' := by
  have HX := Lib.hid hx
  have HY := Lib.hid hy
  obtain ⟨_, _⟩ := ht
  obtain ⟨a0, a1, a2, a3, a4, a5, a6, a7, hxe, _⟩ := hx.cases
  obtain ⟨b0, b1, b2, b3, b4, b5, b6, b7, hye, _⟩ := hy.cases
  have hA := Blk.new w 30 (bsv x).toArray
  have hB := Blk.new (w.alloc (.cells (bsv x).toArray 30)) 30 (bsv y).toArray
  have hnx : nv x = .agg #[.int .u8 a0, .int .u8 a1, .int .u8 a2, .int .u8 a3, .int .u8 a4, .int .u8 a5, .int .u8 a6, .int .u8 a7] := by rw [hxe]; rfl
  have hny : nv y = .agg #[.int .u8 b0, .int .u8 b1, .int .u8 b2, .int .u8 b3, .int .u8 b4, .int .u8 b5, .int .u8 b6, .int .u8 b7] := by rw [hye]; rfl
  rw [hnx, hny]
  clear hx hy
  go_enter Try.func166, Try.ntmps166
  go_wp2
  generalize hW : World.alloc _ _ = W4
  have hA4 : Blk W4 w.heap.size 30 (bsv x).toArray := by rw [← hW, hxe]; exact (((Blk.new _ _ _).old _).old _).old _
  have hB4 : Blk W4 (w.heap.size + 1) 30 (bsv y).toArray := by rw [← hW, hye]; exact ((Blk.new' _ _ _ (by simp)).old _).old _
  have hN4 : Blk W4 (w.heap.size + 1 + 1) 30 (bsv zeroN).toArray := by rw [← hW]; exact (Blk.new' _ _ _ (by simp)).old _
  have hC4 : Blk W4 (w.heap.size + 1 + 1 + 1) 232 (bsv zero16).toArray := by rw [← hW]; exact Blk.new' _ _ _ (by simp)
  have hV4 : Below w.heap.size w W4 := by rw [← hW]; exact below4 w _ _ _ _
  have hz4 := hC4.lt
  clear hW hnx hny hxe hye hA hB
  go_region_law (refine step_copy_bs rfl (.tmp 8) (.tmp 9) rfl _ x rfl (by have := Sl.whole hA4.drew (by rw [HX.out.1]; omega); rw [HX.out.1] at this ⊢; exact this) (w.heap.size + 1 + 1 + 1) 0 16 16 rfl (bsv zero16) _ hC4.drew (by rw [HX.out.1]; decide) (w.heap.size + 1 + 1 + 1) W4.drew (Below.refl _ _) (Nat.le_refl _) ?_; intro w5 hC5 hB5)
  rw [splice16a HX.out] at hC5
  go_wp2
  go_region_law (refine step_copy_bs rfl (.tmp 11) (.tmp 12) rfl _ y rfl (by have := Sl.whole (hB4.drew.below hB5 (by omega)).drew (by rw [HY.out.1]; omega); rw [HY.out.1] at this ⊢; exact this) (w.heap.size + 1 + 1 + 1) 8 8 8 rfl (bsv (x ++ zeroN)) _ hC5.drew (by rw [HY.out.1, bsv_length, List.length_append, HX.out.1]; decide) (w.heap.size + 1 + 1 + 1) w5.drew (Below.refl _ _) (Nat.le_refl _) ?_; intro w6 hC6 hB6)
  rw [splice16b HX.out HY.out] at hC6
  have hz5 := hB5.size
  have hz6 := hB6.size
  simp only [World.size_drew] at hz5 hz6
  have hN6 := (hN4.drew.below hB5 (by omega)).drew.below hB6 (by omega)
  have hV6 := (hV4.drew.trans (hB5.mono (by omega))).drew.trans (hB6.mono (by omega))
  have hL : (x ++ y).length = 16 := by rw [List.length_append, HX.out.1, HY.out.1]
  have hBs : Bs w6 (.slice (some ⟨w.heap.size + 1 + 1 + 1, 0, none⟩) 16 16) (x ++ y) := by
    have := Sl.whole hC6 (by omega)
    rw [hL] at this
    exact ⟨by rw [hL]; exact this, HX.out.2.append HY.out.2⟩
  have HL := Lib.hid hL
  have HBS := Lib.hid hBs
  clear hL hBs
  go_wp2_with (first
    | (go_at_call 131; refine (tagged_any t (x ++ y) _ _ HBS.out ⟨by omega, by omega⟩ (by rw [HL.out]; omega)).mono ?_; rintro e w7 ⟨rfl, hB7⟩)
    | (refine wpList_store_name _ rfl (.tmp 6) (.tmp 16) rfl (w.heap.size + 1 + 1) rfl _ rfl _ _ (hN6.below hB7 hN6.lt) rfl rfl ?_; intro w8 hN8 hg8))
  have hV7 := hV6.trans (hB7.mono hV6.size)
  exact ret_name rfl (w.heap.size + 1 + 1) _ _ rfl rfl hN8 rfl ⟨rfl, hV7.grown hg8 hV7.size (by intro j hj; cases hj; omega)⟩

theorem OwB.drew {w : World} {base : Nat} {v : Value} {l : List Int} (h : OwB w base v l) : OwB w.drew base v l := h
theorem Sl.drew {w : World} {v : Value} {sz n : Nat} {cs : List Value} (h : Sl w v sz n cs) : Sl w.drew v sz n cs := h
/-- A []byte literal without elements is owned. -/
theorem OwB.empty (w : World) (base : Nat) (h : base ≤ w.heap.size) : OwB (w.alloc (.cells #[] 5)) base (.slice (some ⟨w.heap.size, 0, none⟩) 0 0) [] :=
  World.ownsRow_lit w #[] 0 h (Nat.zero_le _) rfl

/-- A name that a call hands back, its eight bytes one by one. -/
theorem Calls.lit8 {f : FuncId} {args : Array Value} {w : World} {L : List Int} {R : World → Prop} (h : Calls Try.prog f args w fun e w' => e = .returned (nv L) ∧ R w') (hL : L.length = 8) :
    Calls Try.prog f args w fun e w' => ∃ c0 c1 c2 c3 c4 c5 c6 c7 : Int, e = .returned (.agg #[.int .u8 c0, .int .u8 c1, .int .u8 c2, .int .u8 c3, .int .u8 c4, .int .u8 c5, .int .u8 c6, .int .u8 c7]) ∧ Hid (L = [c0, c1, c2, c3, c4, c5, c6, c7]) ∧ R w' :=
  h.mono fun e w' ⟨he, hR⟩ => by
    match L, hL with
    | [c0, c1, c2, c3, c4, c5, c6, c7], _ => exact ⟨c0, c1, c2, c3, c4, c5, c6, c7, he, rfl, hR⟩
/-- A block that holds the zero name, cell by cell. -/
theorem Blk.zero8 {w : World} {b : Nat} {t : TypeId} (h : Blk w b t (bsv zeroN).toArray) : (w.cell? ⟨b, 0, none⟩ = some (.int .u8 0) ∧ w.cell? ⟨b, 1, none⟩ = some (.int .u8 0) ∧ w.cell? ⟨b, 2, none⟩ = some (.int .u8 0) ∧ w.cell? ⟨b, 3, none⟩ = some (.int .u8 0)) ∧
    (w.cell? ⟨b, 4, none⟩ = some (.int .u8 0) ∧ w.cell? ⟨b, 5, none⟩ = some (.int .u8 0) ∧ w.cell? ⟨b, 6, none⟩ = some (.int .u8 0) ∧ w.cell? ⟨b, 7, none⟩ = some (.int .u8 0)) ∧ ∀ j, w.frozen? ⟨b, j, none⟩ = false :=
  ⟨⟨h.cell 0, h.cell 1, h.cell 2, h.cell 3⟩, ⟨h.cell 4, h.cell 5, h.cell 6, h.cell 7⟩, fun j => h.free j⟩
/-- Eight stores into such a block. -/
def World.set8 (w : World) (b : Nat) (c0 c1 c2 c3 c4 c5 c6 c7 : Int) : World :=
  (((((((w.setCell ⟨b, 0, none⟩ (.int .u8 c0)).setCell ⟨b, 1, none⟩ (.int .u8 c1)).setCell ⟨b, 2, none⟩ (.int .u8 c2)).setCell ⟨b, 3, none⟩ (.int .u8 c3)).setCell ⟨b, 4, none⟩ (.int .u8 c4)).setCell ⟨b, 5, none⟩ (.int .u8 c5)).setCell ⟨b, 6, none⟩ (.int .u8 c6)).setCell ⟨b, 7, none⟩ (.int .u8 c7)
theorem Blk.set8 {w : World} {b : Nat} {t : TypeId} (h : Blk w b t (bsv zeroN).toArray) (c0 c1 c2 c3 c4 c5 c6 c7 : Int) : Blk (World.set8 w b c0 c1 c2 c3 c4 c5 c6 c7) b t (bsv [c0, c1, c2, c3, c4, c5, c6, c7]).toArray :=
  by
  have h0 : Blk w b t #[.int .u8 0, .int .u8 0, .int .u8 0, .int .u8 0, .int .u8 0, .int .u8 0, .int .u8 0, .int .u8 0] := h
  have h1 := (((((((h0.set 0 (.int .u8 c0)).set 1 (.int .u8 c1)).set 2 (.int .u8 c2)).set 3 (.int .u8 c3)).set 4 (.int .u8 c4)).set 5 (.int .u8 c5)).set 6 (.int .u8 c6)).set 7 (.int .u8 c7)
  simp at h1
  exact h1
theorem below_set8 {w0 w : World} {B b : Nat} (h : Below B w0 w) (hb : B ≤ b) (c0 c1 c2 c3 c4 c5 c6 c7 : Int) : Below B w0 (World.set8 w b c0 c1 c2 c3 c4 c5 c6 c7) :=
  (((((((h.setCell hb _).setCell hb _).setCell hb _).setCell hb _).setCell hb _).setCell hb _).setCell hb _).setCell hb _

set_option maxHeartbeats 1000000 in
theorem rpair_any (t : Int) (x y : List Int) (w : World) (ht : 0 ≤ t ∧ t < 256) (hx : IsN x) (hy : IsN y) :
    Calls Try.prog 155 #[.int .u8 t, nv x, nv y] w fun e w' => e = .returned (nv (hname (t :: (x ++ y)))) ∧ Below w.heap.size w w' := by
  have HX := Lib.hid hx
  have HY := Lib.hid hy
  obtain ⟨_, _⟩ := ht
  obtain ⟨a0, a1, a2, a3, a4, a5, a6, a7, hxe, _⟩ := hx.cases
  obtain ⟨b0, b1, b2, b3, b4, b5, b6, b7, hye, _⟩ := hy.cases
  have hnx : nv x = .agg #[.int .u8 a0, .int .u8 a1, .int .u8 a2, .int .u8 a3, .int .u8 a4, .int .u8 a5, .int .u8 a6, .int .u8 a7] := by rw [hxe]; rfl
  have hny : nv y = .agg #[.int .u8 b0, .int .u8 b1, .int .u8 b2, .int .u8 b3, .int .u8 b4, .int .u8 b5, .int .u8 b6, .int .u8 b7] := by rw [hye]; rfl
  rw [hnx, hny]
  clear hx hy
  go_enter Try.func155, Try.ntmps155
  go_wp2
  generalize hW : World.alloc _ _ = W3
  have hA3 : Blk W3 w.heap.size 30 (bsv x).toArray := by rw [← hW, hxe]; exact ((Blk.new _ _ _).old _).old _
  have hB3 : Blk W3 (w.heap.size + 1) 30 (bsv y).toArray := by rw [← hW, hye]; exact (Blk.new' _ _ _ (by simp)).old _
  have hN3 : Blk W3 (w.heap.size + 1 + 1) 30 (bsv zeroN).toArray := by rw [← hW]; exact Blk.new' _ _ _ (by simp)
  have hV3 : Below w.heap.size w W3 := by rw [← hW]; exact below3 w _ _ _
  have hz3 := hN3.lt
  clear hW hnx hny hxe hye
  go_region_law (first
    | (go_simp; go_at_call 133; refine (Calls.lit8 (rtagged_any t (x ++ y) _ _ (hO5.bs (by have h8 := HX.out.1; have h9 := HY.out.1; simp only [List.nil_append, List.length_append]; omega) (HX.out.2.append HY.out.2)) ⟨by omega, by omega⟩ (by have h8 := HX.out.1; have h9 := HY.out.1; simp only [List.length_append]; omega)) rfl).mono ?_; rintro e w7 ⟨c0, c1, c2, c3, c4, c5, c6, c7, rfl, HC, hB7⟩; have hN7 := (hN3.below hW5 (by omega)).below hB7 (by omega); obtain ⟨⟨d0, d1, d2, d3⟩, ⟨d4, d5, d6, d7⟩, df⟩ := hN7.zero8)
    | (refine step_app_bs rfl (.tmp 8) (.tmp 9) rfl (w.heap.size + 1 + 1 + 1) _ [] rfl (OwB.empty W3 _ (by omega)).drew _ x rfl (by have := ((Sl.whole hA3 (by rw [HX.out.1]; omega)).below (below1 W3 (.cells #[] 5))).drew; rw [HX.out.1] at this ⊢; exact this) (by have h8 := HX.out.1; simp only [List.length_nil]; omega) (by simp; omega) ?_; intro v4 w4 hO4 hg4; have hW4 := (OwB.empty W3 (w.heap.size + 1 + 1 + 1) (by omega)).drew.below_grown (((Below.refl (w.heap.size + 1 + 1 + 1) W3).alloc (by omega) (.cells #[] 5)).drew) (by simp; omega) hg4; have hz4 := hW4.size; have hB4 := hB3.below hW4 (by omega))
    | (refine step_app_bs rfl (.tmp 10) (.tmp 11) rfl (w.heap.size + 1 + 1 + 1) _ _ rfl hO4 _ y rfl (by have := Sl.whole hB4 (by rw [HY.out.1]; omega); rw [HY.out.1] at this ⊢; exact this) (by have h8 := HX.out.1; have h9 := HY.out.1; simp only [List.nil_append]; omega) (by omega) ?_; intro v5 w5 hO5 hg5; have hW5 := hO4.below_grown hW4 (by omega) hg5; have hz5 := hW5.size))
  go_wp2
  have hV5 := (hV3.trans (hW5.mono (by omega))).trans (hB7.mono (by have := hV3.size; omega))
  refine ret_name rfl (w.heap.size + 1 + 1) _ [c0, c1, c2, c3, c4, c5, c6, c7] rfl rfl (hN7.set8 c0 c1 c2 c3 c4 c5 c6 c7) rfl ⟨?_, below_set8 hV5 (by omega) c0 c1 c2 c3 c4 c5 c6 c7⟩
  rw [← HC.out]
end Go.Proofs.Ytilhceihelcdgaa
