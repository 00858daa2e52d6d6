/-
  The path of a leaf in a hash tree: the reference's Path.
  The path of a leaf in a hash tree: merkle.climb and merkle.Path.
  The root that follows from a leaf and its path: merkle.computed and merkle.Follow.
-/
import Derived.Test.YtilhceihelcdgaaM
import Derived.Test.YtilhceihelcdgaaL2
namespace Go.Proofs.Ytilhceihelcdgaa
section
open Go.RowKit

/-- The path of leaf i of a tree of 2^d names, the lowest first. -/
def mpath : Nat → List (List Int) → Int → List (List Int)
  | 0, _, _ => []
  | d + 1, L, i => if i < (2 ^ d : Nat) then mpath d (L.take (2 ^ d)) i ++ [mroot d (L.drop (2 ^ d))] else mpath d (L.drop (2 ^ d)) (i - (2 ^ d : Nat)) ++ [mroot d (L.take (2 ^ d))]
theorem mpath_len (d : Nat) (L : List (List Int)) (i : Int) : (mpath d L i).length = d := by
  induction d generalizing L i with
  | zero => rfl
  | succ d ih => unfold mpath; split <;> simp [ih]
theorem mpath_isN (d : Nat) (L : List (List Int)) (i : Int) : ∀ x ∈ mpath d L i, IsN x := by
  induction d generalizing L i with
  | zero => intro x hx; cases hx
  | succ d ih =>
    intro x hx
    unfold mpath at hx
    split at hx
    · rcases List.mem_append.1 hx with h | h
      · exact ih _ _ x h
      · rw [List.mem_singleton.1 h]; exact mroot_isN _ _
    · rcases List.mem_append.1 hx with h | h
      · exact ih _ _ x h
      · rw [List.mem_singleton.1 h]; exact mroot_isN _ _

/-- One name in a block of its own, as a slice. -/
theorem Sl.oneN {w : World} {g : Nat} {t : TypeId} {x : List Int} (h : Blk w g t (bsv x).toArray) (hx : x.length = 8) : Sl w (.slice (some ⟨g, 0, none⟩) 1 1) 8 1 (bsv x) :=
  ⟨_, 1, rfl, Nat.le_refl _, by simp [maxLen], (fun e => by cases e), by omega, by rw [bsv_length, hx], fun _ => ⟨g, 0, rfl, fun j _ => by rw [Nat.zero_add, h.cell j]; simp⟩⟩

theorem Sl.oneL {w : World} {g : Nat} {t : TypeId} {x : List Int} (h : Blk w g t (bsv x).toArray) (hx : x.length = 8) : Sl w (.slice (some ⟨g, 0, none⟩) 1 1) 8 [x].length (bsv [x].flatten) := by
  rw [List.flatten_singleton]; exact Sl.oneN h hx

theorem wp_app_ns (w : World) {o : Oper} {a : Act} {K : Act → World → Prop} {Q : Exit → Act → World → Prop} (s x : Operand)
    (ho : o.op = .call { callee := .builtin .append, args := #[s, x], argTypes := #[65, 65] })
    (base : Nat) (v : Value) (X : List (List Int)) (hs : a.eval s = v) (hown : OwN w base v X) (sv : Value) (L : List (List Int)) (hx : a.eval x = sv) (hsl : Sl w sv 8 L.length (bsv L.flatten))
    (hbytes : (X.length + L.length) * 8 ≤ 140737488355328) (hbase : base ≤ w.heap.size)
    (h : ∀ v' w', OwN w' base v' (X ++ L) → w.grownBy w' v.ownBlock → K (a.put o.dst v') w') : o.wp Try.prog a w K Q := by
  refine wp_app w s x _ ho base 30 (nv zeroN) 8 8 un_names info_name rfl (by decide) v _ _ hs hown sv _ _ hx hsl (bsv_one _) hbytes (by decide) hbase (fun v' w' h1 h2 => h v' w' ?_ h2)
  unfold OwN
  rw [List.length_append, List.flatten_append, bsv_append]
  exact h1
theorem wpList_app_ns (w : World) {ops : Array Oper} {rest : List Oper} {o : Oper} {a : Act} {Q : Exit → Act → World → Prop} (hgd : o.guard = none) (s x : Operand)
    (ho : o.op = .call { callee := .builtin .append, args := #[s, x], argTypes := #[65, 65] })
    (base : Nat) (v : Value) (X : List (List Int)) (hs : a.eval s = v) (hown : OwN w base v X) (sv : Value) (L : List (List Int)) (hx : a.eval x = sv) (hsl : Sl w sv 8 L.length (bsv L.flatten))
    (hbytes : (X.length + L.length) * 8 ≤ 140737488355328) (hbase : base ≤ w.heap.size)
    (h : ∀ v' w', OwN w' base v' (X ++ L) → w.grownBy w' v.ownBlock → wpList Try.prog ops Q rest (a.put o.dst v') w') : wpList Try.prog ops Q (o :: rest) a w :=
  wpList_plain hgd fun _ hK => wp_app_ns w s x ho base v X hs hown sv L hx hsl hbytes hbase fun v' w' h1 h2 => hK _ _ (h v' w' h1 h2)
theorem step_app_ns {w : World} {ops : Array Oper} {o : Oper} {a : Act} {K : Act → World → Prop} {Q : Exit → Act → World → Prop} {E : Prop} (hgd : o.guard = none) (s x : Operand)
    (ho : o.op = .call { callee := .builtin .append, args := #[s, x], argTypes := #[65, 65] })
    (base : Nat) (v : Value) (X : List (List Int)) (hs : a.eval s = v) (hown : OwN w base v X) (sv : Value) (L : List (List Int)) (hx : a.eval x = sv) (hsl : Sl w sv 8 L.length (bsv L.flatten))
    (hbytes : (X.length + L.length) * 8 ≤ 140737488355328) (hbase : base ≤ w.heap.size)
    (h : ∀ v' w', OwN w' base v' (X ++ L) → w.grownBy w' v.ownBlock → K (a.put o.dst v') w') : if Region.wanted o (yielded ops a.tmps) = true then o.wp Try.prog a w K Q else E := by
  rw [if_pos (by simp [Region.wanted, hgd])]
  exact wp_app_ns w s x ho base v X hs hown sv L hx hsl hbytes hbase h
theorem OwN.alloc {w : World} {base : Nat} {v : Value} {l : List (List Int)} (h : OwN w base v l) (o : Obj) : OwN (w.alloc o) base v l := World.ownsRow.alloc h o
theorem OwN.drew {w : World} {base : Nat} {v : Value} {l : List (List Int)} (h : OwN w base v l) : OwN w.drew base v l := h
theorem Blk.cells8 {w : World} {c0 c1 c2 c3 c4 c5 c6 c7 : Int} {t : TypeId} {x : List Int} (hx : x = [c0, c1, c2, c3, c4, c5, c6, c7]) : Blk (w.alloc (.cells #[.int .u8 c0, .int .u8 c1, .int .u8 c2, .int .u8 c3, .int .u8 c4, .int .u8 c5, .int .u8 c6, .int .u8 c7] t)) w.heap.size t (bsv x).toArray := by
  subst hx; exact Blk.new _ _ _

set_option maxHeartbeats 1000000 in
theorem rpath_zero (L : List (List Int)) (v : Value) (w : World) (h : Ns w v L) (hL : L.length = 1) :
    Calls Try.prog 81 #[v, .int .i64 0] w fun e w' => ∃ v', e = .returned (.tuple #[v', .bool true]) ∧ OwN w' w.heap.size v' [] ∧ Below w.heap.size w w' := by
  obtain ⟨b, o, cap, rfl, hnc, hcm⟩ := h.bds (by omega)
  rw [hL]
  clear h
  go_enter Try.func81, Try.ntmps81
  go_wp2
  go_ret2
  exact ⟨_, rfl, OwN.nil _ _, Below.refl _ _⟩

set_option maxHeartbeats 2000000 in
theorem rpath_succ (d : Nat) (hd : d < 5) (ih : Hid (∀ (L : List (List Int)) (v : Value) (i : Int) (w : World), Ns w v L → L.length = 2 ^ d → 0 ≤ i → i < (2 ^ d : Nat) → Calls Try.prog 81 #[v, .int .i64 i] w fun e w' => ∃ v', e = .returned (.tuple #[v', .bool true]) ∧ OwN w' w.heap.size v' (mpath d L i) ∧ Below w.heap.size w w'))
    (L : List (List Int)) (v : Value) (i : Int) (w : World) (h : Ns w v L) (hL : L.length = 2 ^ (d + 1)) (i0 : 0 ≤ i) (i1 : i < (2 ^ (d + 1) : Nat)) :
    Calls Try.prog 81 #[v, .int .i64 i] w fun e w' => ∃ v', e = .returned (.tuple #[v', .bool true]) ∧ OwN w' w.heap.size v' (mpath (d + 1) L i) ∧ Below w.heap.size w w' := by
  have h2 : (L.length : Int) = 2 ∨ (L.length : Int) = 4 ∨ (L.length : Int) = 8 ∨ (L.length : Int) = 16 ∨ (L.length : Int) = 32 := by
    rw [hL]; rcases (show d = 0 ∨ d = 1 ∨ d = 2 ∨ d = 3 ∨ d = 4 by omega) with rfl | rfl | rfl | rfl | rfl <;> decide
  have hk : 2 ^ d ≤ 16 := by rcases (show d = 0 ∨ d = 1 ∨ d = 2 ∨ d = 3 ∨ d = 4 by omega) with rfl | rfl | rfl | rfl | rfl <;> decide
  have hpos : 0 < 2 ^ d := Nat.pow_pos (by omega)
  have hLk : L.length = 2 ^ d + 2 ^ d := by rw [hL, Nat.pow_succ]; omega
  rw [← hL] at i1
  obtain ⟨b, o, cap, rfl, hnc, hcm⟩ := h.bds (by omega)
  have hT := h.take (2 ^ d) cap (by omega) (by omega) (Nat.le_refl _)
  have hD := h.drop (2 ^ d) (by omega)
  have lT : (L.take (2 ^ d)).length = 2 ^ d := by rw [List.length_take]; omega
  have lD : (L.drop (2 ^ d)).length = 2 ^ d := by rw [List.length_drop]; omega
  have hm : mpath (d + 1) L i = if i < (2 ^ d : Nat) then mpath d (L.take (2 ^ d)) i ++ [mroot d (L.drop (2 ^ d))] else mpath d (L.drop (2 ^ d)) (i - (2 ^ d : Nat)) ++ [mroot d (L.take (2 ^ d))] := rfl
  have iT := fun (v : Value) (w : World) (h : Ns w v (L.take (2 ^ d))) (hi : i < (2 ^ d : Nat)) => ih.out _ v i w h lT i0 hi
  have iD := fun (v : Value) (w : World) (h : Ns w v (L.drop (2 ^ d))) (hi : (2 ^ d : Nat) ≤ i) => ih.out _ v (i - (2 ^ d : Nat)) w h lD (by omega) (by omega)
  have rT := fun (v : Value) (w : World) (h : Ns w v (L.take (2 ^ d))) => Calls.lit8 (rroot_any d (by omega) _ v w h lT) (mroot_isN _ _).1
  have rD := fun (v : Value) (w : World) (h : Ns w v (L.drop (2 ^ d))) => Calls.lit8 (rroot_any d (by omega) _ v w h lD) (mroot_isN _ _).1
  have pT := mpath_len d (L.take (2 ^ d)) i
  have pD := mpath_len d (L.drop (2 ^ d)) (i - (2 ^ d : Nat))
  have hdiv : (L.length : Int) / 2 = ((2 ^ d : Nat) : Int) := by omega
  rw [hm]
  have nT := mroot_isN d (L.take (2 ^ d))
  have nD := mroot_isN d (L.drop (2 ^ d))
  generalize mroot d (L.take (2 ^ d)) = rT' at *
  generalize mroot d (L.drop (2 ^ d)) = rD' at *
  generalize mpath d (L.take (2 ^ d)) i = qT at *
  generalize mpath d (L.drop (2 ^ d)) (i - (2 ^ d : Nat)) = qD at *
  generalize L.take (2 ^ d) = LT at *
  generalize L.drop (2 ^ d) = LD at *
  generalize 2 ^ d = k at *
  generalize hn : L.length = n at *
  have HT := Lib.hid hT
  have HD := Lib.hid hD
  have IT := Lib.hid iT
  have ID := Lib.hid iD
  have RT := Lib.hid rT
  have RD := Lib.hid rD
  have PT := Lib.hid pT
  have PD := Lib.hid pD
  have NT := Lib.hid nT
  have ND := Lib.hid nD
  have hn2 : n - k = k := by omega
  have hsp2 : ∀ w, Calls Try.prog 150 #[.int .i64 n] w fun e w' => e = .returned (.int .i64 k) ∧ w = w' := fun w => by
    have := rsplit_lit n w h2
    rwa [hdiv] at this
  have SP := Lib.hid hsp2
  have hlt : (k : Int) ≤ (n : Int) := by omega
  have hlt2 : k ≤ cap := by omega
  have hck : ¬ cap = k := by omega
  have hne1 : ((n : Int) == 1) = false := by simp; omega
  have hg0 : decide (i < 0) = false := by simp; omega
  have hg1 : decide ((n : Int) ≤ i) = false := by simp; omega
  clear h hT hD iT iD lT lD hm hn h2 hdiv hsp2 hLk hL hn2 ih rT rD pT pD nT nD
  by_cases hik : i < (k : Int)
  · rw [if_pos hik]
    go_enter Try.func81, Try.ntmps81
    go_wp2_with (first
      | (go_at_call 150; refine (SP.out _).mono ?_; rintro e w1 ⟨rfl, rfl⟩)
      | (go_at_call 81; refine (IT.out _ _ HT.out hik).mono ?_; rintro e w2 ⟨v2, rfl, hO2, hB2⟩)
      | (go_at_call 86; refine (RD.out _ _ (HD.out.below hB2)).mono ?_; rintro e w3 ⟨c0, c1, c2, c3, c4, c5, c6, c7, rfl, HC, hB3⟩; have hz2 := hB2.size; have hz3 := hB3.size; have hO3 := (hO2.below hB3).alloc (.cells #[.int .u8 c0, .int .u8 c1, .int .u8 c2, .int .u8 c3, .int .u8 c4, .int .u8 c5, .int .u8 c6, .int .u8 c7] 30))
      | (at_builtin; refine wpList_app_ns _ rfl (.tmp 36) (.tmp 41) rfl w.heap.size _ _ rfl hO3 _ [rD'] rfl (Sl.oneL (Blk.cells8 HC.out) ND.out.1) (by have := PT.out; simp only [List.length_singleton]; omega) (by simp only [World.size_alloc]; omega) ?_; intro v4 w4 hO4 hg4; have hB4 := hO3.below_grown (((hB2.trans (hB3.mono hz2))).alloc (by omega) _) (by simp; omega) hg4))
    go_ret2
    exact ⟨_, rfl, hO4, hB4⟩
  · rw [if_neg hik]
    have hik' : (k : Int) ≤ i := by omega
    go_enter Try.func81, Try.ntmps81
    go_wp2_with (first
      | (go_at_call 150; refine (SP.out _).mono ?_; rintro e w1 ⟨rfl, rfl⟩)
      | (go_at_call 81; refine (ID.out _ _ HD.out hik').mono ?_; rintro e w2 ⟨v2, rfl, hO2, hB2⟩)
      | (go_at_call 86; refine (RT.out _ _ (HT.out.below hB2)).mono ?_; rintro e w3 ⟨c0, c1, c2, c3, c4, c5, c6, c7, rfl, HC, hB3⟩; have hz2 := hB2.size; have hz3 := hB3.size; have hO3 := (hO2.below hB3).alloc (.cells #[.int .u8 c0, .int .u8 c1, .int .u8 c2, .int .u8 c3, .int .u8 c4, .int .u8 c5, .int .u8 c6, .int .u8 c7] 30))
      | (at_builtin; refine wpList_app_ns _ rfl (.tmp 53) (.tmp 58) rfl w.heap.size _ _ rfl hO3 _ [rT'] rfl (Sl.oneL (Blk.cells8 HC.out) NT.out.1) (by have := PD.out; simp only [List.length_singleton]; omega) (by simp only [World.size_alloc]; omega) ?_; intro v4 w4 hO4 hg4; have hB4 := hO3.below_grown (((hB2.trans (hB3.mono hz2))).alloc (by omega) _) (by simp; omega) hg4))
    go_ret2
    exact ⟨_, rfl, hO4, hB4⟩

theorem rpath_any (d : Nat) (hd : d ≤ 5) : ∀ (L : List (List Int)) (v : Value) (i : Int) (w : World), Ns w v L → L.length = 2 ^ d → 0 ≤ i → i < (2 ^ d : Nat) → Calls Try.prog 81 #[v, .int .i64 i] w fun e w' => ∃ v', e = .returned (.tuple #[v', .bool true]) ∧ OwN w' w.heap.size v' (mpath d L i) ∧ Below w.heap.size w w' := by
  induction d with
  | zero =>
    intro L v i w h hL h0 h1
    obtain rfl : i = 0 := by have : ((2 ^ 0 : Nat) : Int) = 1 := rfl; omega
    exact rpath_zero L v w h hL
  | succ d ih => exact fun L v i w h hL h0 h1 => rpath_succ d (by omega) (Lib.hid (ih (by omega))) L v i w h hL h0 h1
end
section
open Go.RowKit

theorem grown_set8 (w : World) (b : Nat) (c0 c1 c2 c3 c4 c5 c6 c7 : Int) : w.grownBy (World.set8 w b c0 c1 c2 c3 c4 c5 c6 c7) (some b) :=
  grown_set (grown_set (grown_set (grown_set (grown_set (grown_set (grown_set (grown_set (grown_refl w _) 0 _) 1 _) 2 _) 3 _) 4 _) 5 _) 6 _) 7 _
theorem OwN.set8 {w : World} {base b : Nat} {v : Value} {l : List (List Int)} (h : OwN w base v l) (hb : b < base) {c0 c1 c2 c3 c4 c5 c6 c7 : Int} : OwN (World.set8 w b c0 c1 c2 c3 c4 c5 c6 c7) base v l :=
  World.ownsRow.kept h (grown_set8 w b c0 c1 c2 c3 c4 c5 c6 c7) (.inr (fun e => h.ne hb e.symm))
theorem Blk.lit8 {w : World} {b : Nat} {t : TypeId} {c0 c1 c2 c3 c4 c5 c6 c7 : Int} (h : Blk w b t (bsv [c0, c1, c2, c3, c4, c5, c6, c7]).toArray) : w.cell? ⟨b, 0, none⟩ = some (.int .u8 c0) ∧ w.cell? ⟨b, 1, none⟩ = some (.int .u8 c1) ∧ w.cell? ⟨b, 2, none⟩ = some (.int .u8 c2) ∧ w.cell? ⟨b, 3, none⟩ = some (.int .u8 c3) ∧
    w.cell? ⟨b, 4, none⟩ = some (.int .u8 c4) ∧ w.cell? ⟨b, 5, none⟩ = some (.int .u8 c5) ∧ w.cell? ⟨b, 6, none⟩ = some (.int .u8 c6) ∧ w.cell? ⟨b, 7, none⟩ = some (.int .u8 c7) :=
  ⟨h.cell 0, h.cell 1, h.cell 2, h.cell 3, h.cell 4, h.cell 5, h.cell 6, h.cell 7⟩

theorem Sl.trim {w : World} {a : Option Addr} {n cap sz : Nat} {cs : List Value} (h : Sl w (.slice a n cap) sz n cs) : Sl w (.slice a n n) sz n cs := by
  obtain ⟨a', cap', h1, h2, h3, h0, h4, h5, h6⟩ := h
  cases h1
  exact ⟨a, n, rfl, Nat.le_refl _, by omega, fun e => by have := h0 e; omega, h4, h5, h6⟩

set_option maxHeartbeats 1000000 in
theorem climb_zero (L : List (List Int)) (v : Value) (w : World) (h : Ns w v L) (hL : L.length = 1) :
    Calls Try.prog 215 #[v, .int .i64 0] w fun e w' => ∃ v', e = .returned v' ∧ OwN w' w.heap.size v' [] ∧ Below w.heap.size w w' := by
  obtain ⟨b, o, cap, rfl, hnc, hcm⟩ := h.bds (by omega)
  rw [hL]
  clear h
  go_enter Try.func215, Try.ntmps215
  go_wp2
  go_ret
  exact ⟨_, rfl, OwN.nil _ _, Below.refl _ _⟩

set_option maxHeartbeats 2000000 in
theorem climb_succ (d : Nat) (hd : d < 5) (ih : Hid (∀ (L : List (List Int)) (v : Value) (i : Int) (w : World), Ns w v L → L.length = 2 ^ d → 0 ≤ i → i < (2 ^ d : Nat) → Calls Try.prog 215 #[v, .int .i64 i] w fun e w' => ∃ v', e = .returned v' ∧ OwN w' w.heap.size v' (mpath d L i) ∧ Below w.heap.size w w'))
    (L : List (List Int)) (v : Value) (i : Int) (w : World) (h : Ns w v L) (hL : L.length = 2 ^ (d + 1)) (i0 : 0 ≤ i) (i1 : i < (2 ^ (d + 1) : Nat)) :
    Calls Try.prog 215 #[v, .int .i64 i] w fun e w' => ∃ v', e = .returned v' ∧ OwN w' w.heap.size v' (mpath (d + 1) L i) ∧ Below w.heap.size w w' := by
  have h2 : (L.length : Int) = 2 ∨ (L.length : Int) = 4 ∨ (L.length : Int) = 8 ∨ (L.length : Int) = 16 ∨ (L.length : Int) = 32 := by
    rw [hL]; rcases (show d = 0 ∨ d = 1 ∨ d = 2 ∨ d = 3 ∨ d = 4 by omega) with rfl | rfl | rfl | rfl | rfl <;> decide
  have hk : 2 ^ d ≤ 16 := by rcases (show d = 0 ∨ d = 1 ∨ d = 2 ∨ d = 3 ∨ d = 4 by omega) with rfl | rfl | rfl | rfl | rfl <;> decide
  have hpos : 0 < 2 ^ d := Nat.pow_pos (by omega)
  have hLk : L.length = 2 ^ d + 2 ^ d := by rw [hL, Nat.pow_succ]; omega
  rw [← hL] at i1
  obtain ⟨b, o, cap, rfl, hnc, hcm⟩ := h.bds (by omega)
  have hT := h.take (2 ^ d) (2 ^ d) (by omega) (by omega) (by omega)
  have hD := h.drop (2 ^ d) (by omega)
  have lT : (L.take (2 ^ d)).length = 2 ^ d := by rw [List.length_take]; omega
  have lD : (L.drop (2 ^ d)).length = 2 ^ d := by rw [List.length_drop]; omega
  have hm : mpath (d + 1) L i = if i < (2 ^ d : Nat) then mpath d (L.take (2 ^ d)) i ++ [mroot d (L.drop (2 ^ d))] else mpath d (L.drop (2 ^ d)) (i - (2 ^ d : Nat)) ++ [mroot d (L.take (2 ^ d))] := rfl
  have iT := fun (v : Value) (w : World) (h : Ns w v (L.take (2 ^ d))) (hi : i < (2 ^ d : Nat)) => ih.out _ v i w h lT i0 hi
  have iD := fun (v : Value) (w : World) (h : Ns w v (L.drop (2 ^ d))) (hi : (2 ^ d : Nat) ≤ i) => ih.out _ v (i - (2 ^ d : Nat)) w h lD (by omega) (by omega)
  have rT := fun (v : Value) (w : World) (h : Ns w v (L.take (2 ^ d))) => Calls.lit8 (root_any d (by omega) _ v w h lT) (mroot_isN _ _).1
  have rD := fun (v : Value) (w : World) (h : Ns w v (L.drop (2 ^ d))) => Calls.lit8 (root_any d (by omega) _ v w h lD) (mroot_isN _ _).1
  have pT := mpath_len d (L.take (2 ^ d)) i
  have qqT := mpath_isN d (L.take (2 ^ d)) i
  have qqD := mpath_isN d (L.drop (2 ^ d)) (i - (2 ^ d : Nat))
  have pD := mpath_len d (L.drop (2 ^ d)) (i - (2 ^ d : Nat))
  have hdiv : (L.length : Int) / 2 = ((2 ^ d : Nat) : Int) := by omega
  rw [hm]
  have nT := mroot_isN d (L.take (2 ^ d))
  have nD := mroot_isN d (L.drop (2 ^ d))
  generalize mroot d (L.take (2 ^ d)) = rT' at *
  generalize mroot d (L.drop (2 ^ d)) = rD' at *
  generalize mpath d (L.take (2 ^ d)) i = qT at *
  generalize mpath d (L.drop (2 ^ d)) (i - (2 ^ d : Nat)) = qD at *
  generalize L.take (2 ^ d) = LT at *
  generalize L.drop (2 ^ d) = LD at *
  generalize 2 ^ d = k at *
  generalize hn : L.length = n at *
  have HT := Lib.hid hT
  have HD := Lib.hid hD
  have IT := Lib.hid iT
  have ID := Lib.hid iD
  have RT := Lib.hid rT
  have RD := Lib.hid rD
  have PT := Lib.hid pT
  have PD := Lib.hid pD
  have NT := Lib.hid nT
  have HQ := Lib.hid qqT
  have HQD := Lib.hid qqD
  have ND := Lib.hid nD
  have hn2 : n - k = k := by omega
  have hsp2 : ∀ w, Calls Try.prog 165 #[.int .i64 n] w fun e w' => e = .returned (.int .i64 k) ∧ w = w' := fun w => by
    have := split_lit n w h2
    rwa [hdiv] at this
  have SP := Lib.hid hsp2
  have hlt : (k : Int) ≤ (n : Int) := by omega
  have hlt2 : k ≤ cap := by omega
  have hck : ¬ cap = k := by omega
  have hne1 : ((n : Int) == 1) = false := by simp; omega
  clear h hT hD iT iD lT lD hm hn h2 hdiv hsp2 hLk hL hn2 ih rT rD pT pD nT nD qqT qqD
  by_cases hik : i < (k : Int)
  · rw [if_pos hik]
    go_enter Try.func215, Try.ntmps215
    go_wp2_with (go_at_call 165; refine (SP.out _).mono ?_; rintro e w1 ⟨rfl, rfl⟩)
    generalize hW : World.alloc _ _ = W1
    have hN1 : Blk W1 w.heap.size 30 (bsv zeroN).toArray := by rw [← hW]; exact Blk.new _ _ _
    have hV1 : Below w.heap.size w W1 := by rw [← hW]; exact below1 w _
    have hz1 := hN1.lt
    clear hW
    go_region_law (first
      | (go_simp; go_at_call 215; refine (IT.out _ _ (by exact (HT.out.below hV1).drew) hik).mono ?_; rintro e w2 ⟨v2, rfl, hO2, hB2⟩)
      | (go_simp; go_at_call 92; refine (RD.out _ _ (by exact (HD.out.below hV1).drew.below hB2)).mono ?_; rintro e w3 ⟨c0, c1, c2, c3, c4, c5, c6, c7, rfl, HC, hB3⟩; have hz2 := hB2.size; have hz3 := hB3.size; simp only [World.size_drew] at hz2; have hN3 := (hN1.drew.below hB2 (by simp; omega)).below hB3 (by omega); obtain ⟨⟨d0, d1, d2, d3⟩, ⟨d4, d5, d6, d7⟩, df⟩ := hN3.zero8))
    go_wp2_with fail
    generalize hW : World.setCell _ _ _ = W5
    have hz2 := hB2.size
    have hz3 := hB3.size
    simp only [World.size_drew] at hz2
    have hN5 : Blk W5 w.heap.size 30 (bsv [c0, c1, c2, c3, c4, c5, c6, c7]).toArray := by rw [← hW]; exact hN3.set8 c0 c1 c2 c3 c4 c5 c6 c7
    have hO5 : OwN W5 (w.heap.size + 1) v2 qT := by rw [← hW]; exact (OwN.below (OwN.base hO2 (by simp; omega)) hB3).set8 (by omega)
    have hV5 : Below w.heap.size w W5 := by rw [← hW]; exact below_set8 ((hV1.drew.trans (hB2.mono (by simp; omega))).trans (hB3.mono (by omega))) (Nat.le_refl _) c0 c1 c2 c3 c4 c5 c6 c7
    clear hW d0 d1 d2 d3 d4 d5 d6 d7 df hN3 hB2 hB3 hO2
    obtain ⟨d0, d1, d2, d3, d4, d5, d6, d7⟩ := hN5.lit8
    have hs5 := (hO5.ns (by have := PT.out; omega) HQ.out).1
    obtain ⟨a2, cap2, rfl, e1, e2, e3, e4, e5, e6⟩ := id hs5
    have HS5 := Lib.hid hs5.trim
    clear hs5 e6
    unfold maxLen at e2
    have hz5 := hV5.size
    go_region_law (refine step_grow_ns rfl (.tmp 44) (.tmp 46) rfl _ qT rfl (HS5.out.below (below1 W5 _)).drew (fun _ _ _ e => by cases e; rfl) _ [rD'] rfl (Sl.oneL (Blk.cells8 HC.out).drew ND.out.1) (Nat.zero_lt_one) (by have := PT.out; simp only [List.length_singleton]; omega) ?_; intro v6 w6 hO6 hg6)
    go_wp2
    go_ret
    exact ⟨_, rfl, hO6.base (by simp; omega), (hV5.alloc hz5 _).drew.grown hg6 (by simp; omega) (by simp)⟩
  · rw [if_neg hik]
    have hik' : (k : Int) ≤ i := by omega
    have hwr : IntKind.i64.wrap (i - (k : Int)) = i - (k : Int) := by rw [IntKind.wrap_i64]; omega
    go_enter Try.func215, Try.ntmps215
    go_wp2_with (go_at_call 165; refine (SP.out _).mono ?_; rintro e w1 ⟨rfl, rfl⟩)
    generalize hW : World.alloc _ _ = W1
    have hN1 : Blk W1 w.heap.size 30 (bsv zeroN).toArray := by rw [← hW]; exact Blk.new _ _ _
    have hV1 : Below w.heap.size w W1 := by rw [← hW]; exact below1 w _
    have hz1 := hN1.lt
    clear hW
    go_region_law (first
      | (go_simp; go_at_call 215; refine (ID.out _ _ (by exact (HD.out.below hV1).drew) hik').mono ?_; rintro e w2 ⟨v2, rfl, hO2, hB2⟩)
      | (go_simp; go_at_call 92; refine (RT.out _ _ (by exact (HT.out.below hV1).drew.below hB2)).mono ?_; rintro e w3 ⟨c0, c1, c2, c3, c4, c5, c6, c7, rfl, HC, hB3⟩; have hz2 := hB2.size; have hz3 := hB3.size; simp only [World.size_drew] at hz2; have hN3 := (hN1.drew.below hB2 (by simp; omega)).below hB3 (by omega); obtain ⟨⟨d0, d1, d2, d3⟩, ⟨d4, d5, d6, d7⟩, df⟩ := hN3.zero8))
    clear hwr
    go_wp2_with fail
    generalize hW : World.setCell _ _ _ = W5
    have hz2 := hB2.size
    have hz3 := hB3.size
    simp only [World.size_drew] at hz2
    have hN5 : Blk W5 w.heap.size 30 (bsv [c0, c1, c2, c3, c4, c5, c6, c7]).toArray := by rw [← hW]; exact hN3.set8 c0 c1 c2 c3 c4 c5 c6 c7
    have hO5 : OwN W5 (w.heap.size + 1) v2 qD := by rw [← hW]; exact (OwN.below (OwN.base hO2 (by simp; omega)) hB3).set8 (by omega)
    have hV5 : Below w.heap.size w W5 := by rw [← hW]; exact below_set8 ((hV1.drew.trans (hB2.mono (by simp; omega))).trans (hB3.mono (by omega))) (Nat.le_refl _) c0 c1 c2 c3 c4 c5 c6 c7
    clear hW d0 d1 d2 d3 d4 d5 d6 d7 df hN3 hB2 hB3 hO2
    obtain ⟨d0, d1, d2, d3, d4, d5, d6, d7⟩ := hN5.lit8
    have hs5 := (hO5.ns (by have := PD.out; omega) HQD.out).1
    obtain ⟨a2, cap2, rfl, e1, e2, e3, e4, e5, e6⟩ := id hs5
    have HS5 := Lib.hid hs5.trim
    clear hs5 e6
    unfold maxLen at e2
    have hz5 := hV5.size
    go_region_law (refine step_grow_ns rfl (.tmp 44) (.tmp 46) rfl _ qD rfl (HS5.out.below (below1 W5 _)).drew (fun _ _ _ e => by cases e; rfl) _ [rT'] rfl (Sl.oneL (Blk.cells8 HC.out).drew NT.out.1) (Nat.zero_lt_one) (by have := PD.out; simp only [List.length_singleton]; omega) ?_; intro v6 w6 hO6 hg6)
    go_wp2
    go_ret
    exact ⟨_, rfl, hO6.base (by simp; omega), (hV5.alloc hz5 _).drew.grown hg6 (by simp; omega) (by simp)⟩

theorem climb_any (d : Nat) (hd : d ≤ 5) : ∀ (L : List (List Int)) (v : Value) (i : Int) (w : World), Ns w v L → L.length = 2 ^ d → 0 ≤ i → i < (2 ^ d : Nat) → Calls Try.prog 215 #[v, .int .i64 i] w fun e w' => ∃ v', e = .returned v' ∧ OwN w' w.heap.size v' (mpath d L i) ∧ Below w.heap.size w w' := by
  induction d with
  | zero =>
    intro L v i w h hL h0 h1
    obtain rfl : i = 0 := by have : ((2 ^ 0 : Nat) : Int) = 1 := rfl; omega
    exact climb_zero L v w h hL
  | succ d ih => exact fun L v i w h hL h0 h1 => climb_succ d (by omega) (Lib.hid (ih (by omega))) L v i w h hL h0 h1

theorem path32 (L : List (List Int)) (v : Value) (i : Int) (w : World) (h : Ns w v L) (hL : L.length = 32) (h0 : 0 ≤ i) (h1 : i < 32) :
    Calls Try.prog 170 #[v, .int .i64 i] w fun e w' => ∃ v', e = .returned (.tuple #[v', .bool true]) ∧ OwN w' w.heap.size v' (mpath 5 L i) ∧ Below w.heap.size w w' := by
  have hc := climb_any 5 (by omega) L v i w h hL h0 h1
  obtain ⟨b, o, cap, rfl, hnc, hcm⟩ := h.bds (by omega)
  rw [hL] at hc ⊢
  have HC := Lib.hid hc
  clear hc h
  go_enter Try.func170, Try.ntmps170
  go_wp2_with (first
    | (go_at_call 212; refine (depth32 i _ h0 h1).mono ?_; rintro e w1 ⟨rfl, rfl⟩)
    | (go_at_call 215; refine HC.out.mono ?_; rintro e w1 ⟨v1, rfl, hO1, hB1⟩))
  go_ret2
  exact ⟨_, rfl, hO1, hB1⟩
end
section
open Go.RowKit

/-- The root that follows from a leaf at place i of 2^d and its path. -/
def mfollow : Nat → List Int → Int → List (List Int) → List Int
  | 0, leaf, _, _ => hname (17 :: leaf)
  | d + 1, leaf, i, P => if i < (2 ^ d : Nat) then hname (18 :: (mfollow d leaf i (P.take d) ++ P.getD d [])) else hname (18 :: (P.getD d [] ++ mfollow d leaf (i - (2 ^ d : Nat)) (P.take d)))
theorem mfollow_isN (d : Nat) (leaf : List Int) (i : Int) (P : List (List Int)) : IsN (mfollow d leaf i P) := by
  cases d with
  | zero => exact hname_isN _
  | succ d => unfold mfollow; split <;> exact hname_isN _

/-- Eight cells in a row. -/
def At8 (w : World) (b o : Nat) (c0 c1 c2 c3 c4 c5 c6 c7 : Int) : Prop :=
  (w.cell? ⟨b, o, none⟩ = some (.int .u8 c0) ∧ w.cell? ⟨b, o + 1, none⟩ = some (.int .u8 c1) ∧ w.cell? ⟨b, o + 2, none⟩ = some (.int .u8 c2) ∧ w.cell? ⟨b, o + 3, none⟩ = some (.int .u8 c3)) ∧
    (w.cell? ⟨b, o + 4, none⟩ = some (.int .u8 c4) ∧ w.cell? ⟨b, o + 5, none⟩ = some (.int .u8 c5) ∧ w.cell? ⟨b, o + 6, none⟩ = some (.int .u8 c6) ∧ w.cell? ⟨b, o + 7, none⟩ = some (.int .u8 c7))
theorem At8.keep {w w' : World} {b o : Nat} {c0 c1 c2 c3 c4 c5 c6 c7 : Int} (h : At8 w b o c0 c1 c2 c3 c4 c5 c6 c7) (k : Keeps w w') : At8 w' b o c0 c1 c2 c3 c4 c5 c6 c7 := by
  obtain ⟨⟨h0, h1, h2, h3⟩, h4, h5, h6, h7⟩ := h
  exact ⟨⟨k _ _ h0, k _ _ h1, k _ _ h2, k _ _ h3⟩, k _ _ h4, k _ _ h5, k _ _ h6, k _ _ h7⟩
theorem Ns.last {w : World} {b o n cap : Nat} {P : List (List Int)} (h : Ns w (.slice (some ⟨b, o, none⟩) n cap) P) (hn : n = P.length) (i : Nat) (hi : i < n) : ∃ c0 c1 c2 c3 c4 c5 c6 c7 : Int, P.getD i [] = [c0, c1, c2, c3, c4, c5, c6, c7] ∧ At8 w b (o + i * 8) c0 c1 c2 c3 c4 c5 c6 c7 ∧ IsN (P.getD i []) := by
  obtain ⟨h8, hx⟩ := h.at hn i hi
  obtain ⟨c0, c1, c2, c3, c4, c5, c6, c7, hl, _⟩ := hx.cases
  rw [hl] at h8
  exact ⟨c0, c1, c2, c3, c4, c5, c6, c7, hl, ⟨⟨h8 0 (by omega), h8 1 (by omega), h8 2 (by omega), h8 3 (by omega)⟩, h8 4 (by omega), h8 5 (by omega), h8 6 (by omega), h8 7 (by omega)⟩, hx⟩
theorem Blk.at8 {w : World} {b : Nat} {t : TypeId} {c0 c1 c2 c3 c4 c5 c6 c7 : Int} (h : Blk w b t (bsv [c0, c1, c2, c3, c4, c5, c6, c7]).toArray) : At8 w b 0 c0 c1 c2 c3 c4 c5 c6 c7 :=
  ⟨⟨h.cell 0, h.cell 1, h.cell 2, h.cell 3⟩, h.cell 4, h.cell 5, h.cell 6, h.cell 7⟩

set_option maxHeartbeats 1000000 in
theorem comp_zero (leaf : List Int) (v : Value) (i : Int) (w : World) (hl : IsN leaf) :
    Calls Try.prog 213 #[nv leaf, .int .i64 i, .int .i64 1, v] w fun e w' => e = .returned (nv (mfollow 0 leaf i [])) ∧ Below w.heap.size w w' := by
  have HX := Lib.hid hl
  obtain ⟨a0, a1, a2, a3, a4, a5, a6, a7, hxe, _⟩ := hl.cases
  have hm : mfollow 0 leaf i [] = hname (17 :: leaf) := rfl
  have hnx : nv leaf = .agg #[.int .u8 a0, .int .u8 a1, .int .u8 a2, .int .u8 a3, .int .u8 a4, .int .u8 a5, .int .u8 a6, .int .u8 a7] := by rw [hxe]; rfl
  rw [hnx, hm]
  have hb0 : Blk ((w.alloc (.cells #[.int .u8 a0, .int .u8 a1, .int .u8 a2, .int .u8 a3, .int .u8 a4, .int .u8 a5, .int .u8 a6, .int .u8 a7] 30)).alloc (.cells (bsv zeroN).toArray 30)) w.heap.size 30 (bsv leaf).toArray := by rw [hxe]; exact (Blk.new _ _ _).old _
  have hN0 : Blk ((w.alloc (.cells #[.int .u8 a0, .int .u8 a1, .int .u8 a2, .int .u8 a3, .int .u8 a4, .int .u8 a5, .int .u8 a6, .int .u8 a7] 30)).alloc (.cells (bsv zeroN).toArray 30)) (w.heap.size + 1) 30 (bsv zeroN).toArray := Blk.new' _ _ _ (by simp)
  clear hl hnx hm hxe
  go_enter Try.func213, Try.ntmps213
  go_wp2_with (first
    | (refine wpList_load_name _ rfl (.tmp 4) rfl w.heap.size rfl _ _ hb0 HX.out.1 ?_)
    | (go_at_call 164; refine (single_any leaf _ HX.out).mono ?_; rintro e w3 ⟨rfl, hB3⟩)
    | (refine wpList_store_name _ rfl (.tmp 8) (.tmp 14) rfl (w.heap.size + 1) rfl _ rfl _ _ (hN0.below hB3 (by simp)) rfl rfl ?_; intro w4 hN4 hg4))
  have hV3 := (below2 w _ _).trans (hB3.mono (by simp; omega))
  exact ret_name rfl (w.heap.size + 1) _ _ rfl rfl hN4 rfl ⟨rfl, hV3.grown hg4 hV3.size (by intro j hj; cases hj; omega)⟩

set_option maxHeartbeats 2000000 in
theorem comp_succ (d : Nat) (hd : d < 5) (ih : Hid (∀ (leaf : List Int) (P : List (List Int)) (v : Value) (i : Int) (w : World), IsN leaf → Ns w v P → P.length = d → 0 ≤ i → i < (2 ^ d : Nat) → Calls Try.prog 213 #[nv leaf, .int .i64 i, .int .i64 (2 ^ d : Nat), v] w fun e w' => e = .returned (nv (mfollow d leaf i P)) ∧ Below w.heap.size w w'))
    (leaf : List Int) (P : List (List Int)) (v : Value) (i : Int) (w : World) (hl : IsN leaf) (h : Ns w v P) (hP : P.length = d + 1) (i0 : 0 ≤ i) (i1 : i < (2 ^ (d + 1) : Nat)) :
    Calls Try.prog 213 #[nv leaf, .int .i64 i, .int .i64 (2 ^ (d + 1) : Nat), v] w fun e w' => e = .returned (nv (mfollow (d + 1) leaf i P)) ∧ Below w.heap.size w w' := by
  have HX := Lib.hid hl
  obtain ⟨b, o, cap, rfl, hnc, hcm⟩ := h.bds (by omega)
  rw [hP] at h hnc ⊢
  have hT := h.take d cap (by omega) (by omega) (Nat.le_refl _)
  have lT : (P.take d).length = d := by rw [List.length_take]; omega
  obtain ⟨p0, p1, p2, p3, p4, p5, p6, p7, hpe, hA8, hpN⟩ := h.last hP.symm d (by omega)
  have hm : mfollow (d + 1) leaf i P = if i < (2 ^ d : Nat) then hname (18 :: (mfollow d leaf i (P.take d) ++ P.getD d [])) else hname (18 :: (P.getD d [] ++ mfollow d leaf (i - (2 ^ d : Nat)) (P.take d))) := rfl
  rw [hm]
  have iT := fun (v : Value) (w : World) (h : Ns w v (P.take d)) (hi : i < (2 ^ d : Nat)) => ih.out leaf _ v i w hl h lT i0 hi
  have iD := fun (v : Value) (w : World) (h : Ns w v (P.take d)) (hi : (2 ^ d : Nat) ≤ i) => ih.out leaf _ v (i - (2 ^ d : Nat)) w hl h lT (by omega) (by rw [Nat.pow_succ] at i1; omega)
  have nT := mfollow_isN d leaf i (P.take d)
  have nD := mfollow_isN d leaf (i - (2 ^ d : Nat)) (P.take d)
  have h2 : ((2 ^ (d + 1) : Nat) : Int) = 2 ∨ ((2 ^ (d + 1) : Nat) : Int) = 4 ∨ ((2 ^ (d + 1) : Nat) : Int) = 8 ∨ ((2 ^ (d + 1) : Nat) : Int) = 16 ∨ ((2 ^ (d + 1) : Nat) : Int) = 32 := by
    rcases (show d = 0 ∨ d = 1 ∨ d = 2 ∨ d = 3 ∨ d = 4 by omega) with rfl | rfl | rfl | rfl | rfl <;> decide
  have hsp := fun w => split_lit _ w h2
  have hk : 2 ^ d ≤ 16 := by rcases (show d = 0 ∨ d = 1 ∨ d = 2 ∨ d = 3 ∨ d = 4 by omega) with rfl | rfl | rfl | rfl | rfl <;> decide
  have hpos : 0 < 2 ^ d := Nat.pow_pos (by omega)
  have hn2 : 2 ^ (d + 1) = 2 ^ d + 2 ^ d := by rw [Nat.pow_succ]; omega
  rw [hn2] at hsp i1 ⊢
  have hdiv : (((2 ^ d + 2 ^ d : Nat) : Int)) / 2 = ((2 ^ d : Nat) : Int) := by omega
  rw [hdiv] at hsp
  generalize mfollow d leaf i (P.take d) = rT at *
  generalize mfollow d leaf (i - (2 ^ d : Nat)) (P.take d) = rD at *
  obtain ⟨a0, a1, a2, a3, a4, a5, a6, a7, hxe, _⟩ := hl.cases
  have hnx : nv leaf = .agg #[.int .u8 a0, .int .u8 a1, .int .u8 a2, .int .u8 a3, .int .u8 a4, .int .u8 a5, .int .u8 a6, .int .u8 a7] := by rw [hxe]; rfl
  rw [hnx] at iT iD ⊢
  generalize P.take d = PT at *
  generalize 2 ^ d = k at *
  generalize P.getD d [] = pl at *
  subst hpe
  have HT := Lib.hid hT
  have IT := Lib.hid iT
  have ID := Lib.hid iD
  have NT := Lib.hid nT
  have ND := Lib.hid nD
  have NP := Lib.hid hpN
  have SP := Lib.hid hsp
  have hcast : (((k + k : Nat) : Int)) = (k : Int) + (k : Int) := by omega
  rw [hcast] at SP ⊢
  have hne1 : ((k : Int) + (k : Int) == 1) = false := by simp; omega
  have hdc : d ≤ cap := by omega
  have hdi : (d : Int) < (d : Int) + 1 := by omega
  have hw1 : IntKind.i64.wrap (i - (k : Int)) = i - (k : Int) := by rw [IntKind.wrap_i64]; omega
  have hw2 : IntKind.i64.wrap (k : Int) = (k : Int) := by rw [IntKind.wrap_i64]; omega
  clear h hT lT hpN hm iT iD nT nD h2 hsp hn2 hdiv ih hP hl hcast
  by_cases hik : i < (k : Int)
  · rw [if_pos hik]
    go_enter Try.func213, Try.ntmps213
    go_wp2_with (go_at_call 165; refine (SP.out _).mono ?_; rintro e w1 ⟨rfl, rfl⟩)
    generalize hW : World.alloc _ _ = W2
    have hA2 : Blk W2 w.heap.size 30 (bsv [a0, a1, a2, a3, a4, a5, a6, a7]).toArray := by rw [← hW]; exact (Blk.new _ _ _).old _
    have hN2 : Blk W2 (w.heap.size + 1) 30 (bsv zeroN).toArray := by rw [← hW]; exact Blk.new' _ _ _ (by simp)
    have hV2 : Below w.heap.size w W2 := by rw [← hW]; exact below2 w _ _
    have hz2 := hN2.lt
    have HA := Lib.hid hA8
    obtain ⟨⟨l0, l1, l2, l3⟩, l4, l5, l6, l7⟩ := hA2.at8
    obtain ⟨⟨q0, q1, q2, q3⟩, q4, q5, q6, q7⟩ := hA8.keep (Keeps.of_below hV2)
    clear hW hA8
    go_region_law (first
      | (go_simp; go_at_call 213; refine (IT.out _ _ (by exact (HT.out.below hV2).drew) hik).mono ?_; rintro e w3 ⟨rfl, hB3⟩; obtain ⟨⟨s0, s1, s2, s3⟩, s4, s5, s6, s7⟩ := HA.out.keep (Keeps.of_below (hV2.drew.trans (hB3.mono (by simp; omega)))))
      | (go_simp; go_at_call 166; refine (Calls.lit8 (pair_any 18 rT [p0, p1, p2, p3, p4, p5, p6, p7] _ ⟨by omega, by omega⟩ NT.out NP.out) rfl).mono ?_; rintro e w4 ⟨c0, c1, c2, c3, c4, c5, c6, c7, rfl, HC, hB4⟩; have hz3 := hB3.size; simp only [World.size_drew] at hz3; have hN4 := (hN2.drew.below hB3 (by simp; omega)).below hB4 (by omega); obtain ⟨⟨d0, d1, d2, d3⟩, ⟨d4, d5, d6, d7⟩, df⟩ := hN4.zero8))
    all_goals (
      go_wp2
      have hz3 := hB3.size
      simp only [World.size_drew] at hz3
      have hV4 := (hV2.drew.trans (hB3.mono (by simp; omega))).trans (hB4.mono (by omega))
      refine ret_name rfl (w.heap.size + 1) _ [c0, c1, c2, c3, c4, c5, c6, c7] rfl rfl (hN4.set8 c0 c1 c2 c3 c4 c5 c6 c7) rfl ⟨?_, below_set8 hV4 (by omega) c0 c1 c2 c3 c4 c5 c6 c7⟩
      rw [← HC.out]; try rfl)
  · rw [if_neg hik]
    have hik' : (k : Int) ≤ i := by omega
    have hikb : decide (i < (k : Int)) = false := by simp; omega
    go_enter Try.func213, Try.ntmps213
    go_wp2_with (go_at_call 165; refine (SP.out _).mono ?_; rintro e w1 ⟨rfl, rfl⟩)
    generalize hW : World.alloc _ _ = W2
    have hA2 : Blk W2 w.heap.size 30 (bsv [a0, a1, a2, a3, a4, a5, a6, a7]).toArray := by rw [← hW]; exact (Blk.new _ _ _).old _
    have hN2 : Blk W2 (w.heap.size + 1) 30 (bsv zeroN).toArray := by rw [← hW]; exact Blk.new' _ _ _ (by simp)
    have hV2 : Below w.heap.size w W2 := by rw [← hW]; exact below2 w _ _
    have hz2 := hN2.lt
    have HA := Lib.hid hA8
    obtain ⟨⟨l0, l1, l2, l3⟩, l4, l5, l6, l7⟩ := hA2.at8
    obtain ⟨⟨q0, q1, q2, q3⟩, q4, q5, q6, q7⟩ := hA8.keep (Keeps.of_below hV2)
    clear hW hA8
    go_region_law (first
      | (go_simp; go_at_call 213; refine (ID.out _ _ (by exact (HT.out.below hV2).drew) hik').mono ?_; rintro e w3 ⟨rfl, hB3⟩; obtain ⟨⟨s0, s1, s2, s3⟩, s4, s5, s6, s7⟩ := HA.out.keep (Keeps.of_below (hV2.drew.trans (hB3.mono (by simp; omega)))))
      | (go_simp; go_at_call 166; refine (Calls.lit8 (pair_any 18 [p0, p1, p2, p3, p4, p5, p6, p7] rD _ ⟨by omega, by omega⟩ NP.out ND.out) rfl).mono ?_; rintro e w4 ⟨c0, c1, c2, c3, c4, c5, c6, c7, rfl, HC, hB4⟩; have hz3 := hB3.size; simp only [World.size_drew] at hz3; have hN4 := (hN2.drew.below hB3 (by simp; omega)).below hB4 (by omega); obtain ⟨⟨d0, d1, d2, d3⟩, ⟨d4, d5, d6, d7⟩, df⟩ := hN4.zero8))
    all_goals (
      go_wp2
      have hz3 := hB3.size
      simp only [World.size_drew] at hz3
      have hV4 := (hV2.drew.trans (hB3.mono (by simp; omega))).trans (hB4.mono (by omega))
      refine ret_name rfl (w.heap.size + 1) _ [c0, c1, c2, c3, c4, c5, c6, c7] rfl rfl (hN4.set8 c0 c1 c2 c3 c4 c5 c6 c7) rfl ⟨?_, below_set8 hV4 (by omega) c0 c1 c2 c3 c4 c5 c6 c7⟩
      rw [← HC.out]; try rfl)

theorem comp_any (d : Nat) (hd : d ≤ 5) : ∀ (leaf : List Int) (P : List (List Int)) (v : Value) (i : Int) (w : World), IsN leaf → Ns w v P → P.length = d → 0 ≤ i → i < (2 ^ d : Nat) →
    Calls Try.prog 213 #[nv leaf, .int .i64 i, .int .i64 (2 ^ d : Nat), v] w fun e w' => e = .returned (nv (mfollow d leaf i P)) ∧ Below w.heap.size w w' := by
  induction d with
  | zero => intro leaf P v i w hl h hP i0 i1; obtain rfl := List.length_eq_zero_iff.mp hP; exact comp_zero leaf v i w hl
  | succ d ih => exact fun leaf P v i w hl h hP i0 i1 => comp_succ d (by omega) (Lib.hid (ih (by omega))) leaf P v i w hl h hP i0 i1
end
end Go.Proofs.Ytilhceihelcdgaa
