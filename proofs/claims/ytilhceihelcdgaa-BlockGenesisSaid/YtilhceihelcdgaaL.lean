/-
  Laws of append, copy and make for the slices of this seat, with the source given by what it reads as.
-/
import Derived.Test.YtilhceihelcdgaaP
import Derived.Laws.AppendOwnNone
import Derived.Laws.CopyOwn
import Derived.ArgAppend
import Derived.Deep.MidRow
namespace Go.Proofs.Ytilhceihelcdgaa
open Go.RowKit

theorem Addr.add_lit' (b o j : Nat) : (⟨b, o, none⟩ : Addr).add j = ⟨b, o + j, none⟩ := by unfold Addr.add; split <;> simp_all
theorem bsv_one (l : List Int) : ∀ u ∈ bsv l, u.oneCell' = true := by
  intro u hu
  obtain ⟨x, _, rfl⟩ := List.mem_map.1 hu
  rfl
/-- The cells of a slice that is read, in the form that the laws of append ask. -/
theorem Sl.news {w : World} {b o n cap sz : Nat} {cs : List Value} (h : Sl w (.slice (some ⟨b, o, none⟩) n cap) sz n cs) : ∀ j u, cs[j]? = some u → w.cell? ((⟨b, o, none⟩ : Addr).add j) = some u := by
  intro j u hu
  have hj : j < cs.length := by
    rcases Nat.lt_or_ge j cs.length with h' | h'
    · exact h'
    · rw [List.getElem?_eq_none h'] at hu; cases hu
  have hl : cs.length = n * sz := by obtain ⟨_, _, _, _, _, _, _, h5, _⟩ := h; exact h5
  have hn : 0 < n := Nat.pos_of_ne_zero (fun e => by rw [e] at hl; omega)
  rw [Addr.add_lit', h.cell hn j (by omega), hu]

/-- append to a slice that the call owns (or nil), from whatever reads as news. -/
theorem wp_app {P : Program} (w : World) {o : Oper} {a : Act} {K : Act → World → Prop} {Q : Exit → Act → World → Prop} (s x : Operand) (t : TypeId)
    (ho : o.op = .call { callee := .builtin .append, args := #[s, x], argTypes := #[t, t] })
    (base : Nat) (e : TypeId) (z : Value) (size bytes : Nat) (ht : P.underlying t = some (.slice e)) (hi : (P.info? e).map (fun i => (i.zero, i.size, i.bytes)) = some (some z, size, bytes)) (hzs : z.cells.size = size) (hsz : 0 < size)
    (v : Value) (n : Nat) (xs : List Value) (hs : a.eval s = v) (hown : w.ownsRow base e size v n xs)
    (sv : Value) (m : Nat) (news : List Value) (hx : a.eval x = sv) (hsl : Sl w sv size m news) (h1 : ∀ u ∈ news, u.oneCell' = true)
    (hbytes : (n + m) * bytes ≤ 140737488355328) (hb1 : 0 < bytes) (hbase : base ≤ w.heap.size)
    (h : ∀ v' w', w'.ownsRow base e size v' (n + m) (xs ++ news) → w.grownBy w' v.ownBlock → K (a.put o.dst v') w') : o.wp P a w K Q := by
  obtain ⟨i, hi, hz0, hz1, hz2⟩ := info_parts hi
  have hnm : n + m ≤ 140737488355328 := Nat.le_trans (Nat.le_mul_of_pos_right _ hb1) hbytes
  have hml : n + m ≤ maxLen := by unfold maxLen; omega
  obtain ⟨ad, cap, rfl, g1, g2, g3, g4, g5, g6⟩ := id hsl
  cases ad with
  | none =>
    obtain rfl := g3 rfl
    obtain rfl : m = 0 := by omega
    have hnil : news = [] := List.eq_nil_of_length_eq_zero (by omega)
    subst hnil
    have hrun := run_append_owned_none (P := P) (w := w) base t o.type e i size ht hi v n xs hown
    unfold Oper.wp
    simp [execOp, ho, resolve, invoke, builtin, hs, hx, hrun, Result.andThen]
    exact h v w (by simpa using hown) (World.grownBy.refl _ _)
  | some ad =>
    refine wp_append_own w s x t ho base e i z size bytes ht hi hz0 hz1 hz2 hzs hsz v n xs hs hown ad m cap news hx g5 ?_ h1 hml hbytes hbase (fun v' w' h2 h3 _ => h v' w' h2 h3)
    rcases Nat.eq_zero_or_pos m with rfl | hm
    · have hnil : news = [] := List.eq_nil_of_length_eq_zero (by omega)
      subst hnil
      intro j u hu
      simp at hu
    · obtain ⟨b, o, hbo, _⟩ := g6 hm
      cases hbo
      exact hsl.news

/-- A []byte that the call owns. -/
def OwB (w : World) (base : Nat) (v : Value) (l : List Int) : Prop := w.ownsRow base 5 1 v l.length (bsv l)
/-- A []Name that the call owns. -/
def OwN (w : World) (base : Nat) (v : Value) (L : List (List Int)) : Prop := w.ownsRow base 30 8 v L.length (bsv L.flatten)

theorem wp_app_bs (w : World) {o : Oper} {a : Act} {K : Act → World → Prop} {Q : Exit → Act → World → Prop} (s x : Operand)
    (ho : o.op = .call { callee := .builtin .append, args := #[s, x], argTypes := #[22, 22] })
    (base : Nat) (v : Value) (xs : List Int) (hs : a.eval s = v) (hown : OwB w base v xs) (sv : Value) (l : List Int) (hx : a.eval x = sv) (hsl : Sl w sv 1 l.length (bsv l))
    (hbytes : xs.length + l.length ≤ 140737488355328) (hbase : base ≤ w.heap.size)
    (h : ∀ v' w', OwB w' base v' (xs ++ l) → w.grownBy w' v.ownBlock → K (a.put o.dst v') w') : o.wp Try.prog a w K Q := by
  refine wp_app w s x _ ho base 5 (.int .u8 0) 1 1 un_bytes info_u8 rfl (by decide) v _ _ hs hown sv _ _ hx hsl (bsv_one _) (by omega) (by decide) hbase (fun v' w' h1 h2 => h v' w' ?_ h2)
  unfold OwB
  rw [List.length_append, bsv_append]
  exact h1
theorem wpList_app_bs (w : World) {ops : Array Oper} {rest : List Oper} {o : Oper} {a : Act} {Q : Exit → Act → World → Prop} (hgd : o.guard = none) (s x : Operand)
    (ho : o.op = .call { callee := .builtin .append, args := #[s, x], argTypes := #[22, 22] })
    (base : Nat) (v : Value) (xs : List Int) (hs : a.eval s = v) (hown : OwB w base v xs) (sv : Value) (l : List Int) (hx : a.eval x = sv) (hsl : Sl w sv 1 l.length (bsv l))
    (hbytes : xs.length + l.length ≤ 140737488355328) (hbase : base ≤ w.heap.size)
    (h : ∀ v' w', OwB w' base v' (xs ++ l) → w.grownBy w' v.ownBlock → wpList Try.prog ops Q rest (a.put o.dst v') w') : wpList Try.prog ops Q (o :: rest) a w :=
  wpList_plain hgd fun _ hK => wp_app_bs w s x ho base v xs hs hown sv l hx hsl hbytes hbase fun v' w' h1 h2 => hK _ _ (h v' w' h1 h2)
theorem step_app_bs {w : World} {ops : Array Oper} {o : Oper} {a : Act} {K : Act → World → Prop} {Q : Exit → Act → World → Prop} {E : Prop} (hgd : o.guard = none) (s x : Operand)
    (ho : o.op = .call { callee := .builtin .append, args := #[s, x], argTypes := #[22, 22] })
    (base : Nat) (v : Value) (xs : List Int) (hs : a.eval s = v) (hown : OwB w base v xs) (sv : Value) (l : List Int) (hx : a.eval x = sv) (hsl : Sl w sv 1 l.length (bsv l))
    (hbytes : xs.length + l.length ≤ 140737488355328) (hbase : base ≤ w.heap.size)
    (h : ∀ v' w', OwB w' base v' (xs ++ l) → w.grownBy w' v.ownBlock → K (a.put o.dst v') w') : if Region.wanted o (yielded ops a.tmps) = true then o.wp Try.prog a w K Q else E := by
  rw [if_pos (by simp [Region.wanted, hgd])]
  exact wp_app_bs w s x ho base v xs hs hown sv l hx hsl hbytes hbase h
/-- 'make([]byte, 0, n)'. -/
theorem wpList_make_bs (w : World) {ops : Array Oper} {rest : List Oper} {o : Oper} {a : Act} {Q : Exit → Act → World → Prop} (hgd : o.guard = none) (l c : Operand) (ho : o.op = Op.makeSlice 22 l c)
    (base : Nat) (C : Int) (n : Nat) (hl : a.eval l = .int .i64 0) (hc : a.eval c = .int .i64 C) (hC : C = (n : Int)) (hn : n ≤ 140737488355328) (hbase : base ≤ w.heap.size)
    (h : ∀ w', OwB w' base (.slice (some ⟨w.heap.size, 0, none⟩) 0 n) [] → w.grownBy w' none → wpList Try.prog ops Q rest (a.put o.dst (.slice (some ⟨w.heap.size, 0, none⟩) 0 n)) w') : wpList Try.prog ops Q (o :: rest) a w := by
  obtain ⟨i, hi, hz0, hz1, hz2⟩ := info_parts info_u8
  exact wpList_make_own w hgd l c _ ho base 5 i (.int .u8 0) 1 un_bytes hi hz0 hz1 .i64 .i64 C n hl hc hC (by rw [hz2]; omega) (by unfold maxLen; omega) hbase h

/-- The one cell that 'append(b, x)' lays first. -/
theorem Sl.one (w : World) (x : Int) (t : TypeId) : Sl (w.alloc (.cells #[.int .u8 x] t)) (.slice (some ⟨w.heap.size, 0, none⟩) 1 1) 1 1 (bsv [x]) :=
  ⟨_, 1, rfl, Nat.le_refl _, by simp [maxLen], (fun h => by cases h), by omega, rfl, fun _ => ⟨_, 0, rfl, fun j hj => by
    obtain rfl : j = 0 := by omega
    rw [Nat.zero_add, (Blk.new w t #[.int .u8 x]).cell 0]; rfl⟩⟩

/-- A row that the call owns stays owned. -/
theorem OwB.grown {w w' : World} {base : Nat} {v : Value} {l : List Int} {row : Option Nat} (h : OwB w base v l) (hg : w.grownBy w' row) (hne : ∀ k, row = some k → k < base) : OwB w' base v l := by
  refine World.ownsRow.kept h hg ?_
  rcases hv : v.ownBlock with _ | k
  · exact .inl rfl
  · refine .inr fun e => ?_
    have h1 := (World.ownsRow.lt h k hv).1
    have h2 := hne k e.symm
    omega
theorem OwB.below {w w' : World} {base : Nat} {v : Value} {l : List Int} (h : OwB w base v l) (k : Below w.heap.size w w') : OwB w' base v l :=
  h.grown (row := none) (grown_of_below k) (fun _ e => by cases e)
theorem OwN.below {w w' : World} {base : Nat} {v : Value} {l : List (List Int)} (h : OwN w base v l) (k : Below w.heap.size w w') : OwN w' base v l :=
  World.ownsRow.kept h (row := none) (grown_of_below k) (by cases v.ownBlock <;> simp)
theorem OwB.alloc {w : World} {base : Nat} {v : Value} {l : List Int} (h : OwB w base v l) (o : Obj) : OwB (w.alloc o) base v l := World.ownsRow.alloc h o
theorem OwB.base {w : World} {base base' : Nat} {v : Value} {l : List Int} (h : OwB w base v l) (hb : base' ≤ base) : OwB w base' v l := owns_base h hb
theorem OwN.base {w : World} {base base' : Nat} {v : Value} {l : List (List Int)} (h : OwN w base v l) (hb : base' ≤ base) : OwN w base' v l := owns_base h hb
theorem OwB.nil (w : World) (base : Nat) : OwB w base (.slice none 0 0) [] := World.ownsRow_nil w base _ _
theorem OwN.nil (w : World) (base : Nat) : OwN w base (.slice none 0 0) [] := World.ownsRow_nil w base _ _
theorem OwB.bs {w : World} {base : Nat} {v : Value} {l : List Int} (h : OwB w base v l) (hl : l.length ≤ 140737488355328) (hb : Byt l) : Bs w v l := ⟨Sl.of_owns h hl, hb⟩
theorem OwN.ns {w : World} {base : Nat} {v : Value} {l : List (List Int)} (h : OwN w base v l) (hl : l.length ≤ 140737488355328) (hb : ∀ x ∈ l, IsN x) : Ns w v l := ⟨Sl.of_owns h hl, hb⟩

/-- What an append to an owned row does to old memory. -/
theorem OwB.below_grown {w0 w w' : World} {base : Nat} {v : Value} {l : List Int} (h : OwB w base v l) (hb : Below base w0 w) (hbase : base ≤ w.heap.size) (hg : w.grownBy w' v.ownBlock) : Below base w0 w' :=
  hb.grown hg hbase (fun k hk => (World.ownsRow.lt h k hk).1)
theorem OwN.below_grown {w0 w w' : World} {base : Nat} {v : Value} {l : List (List Int)} (h : OwN w base v l) (hb : Below base w0 w) (hbase : base ≤ w.heap.size) (hg : w.grownBy w' v.ownBlock) : Below base w0 w' :=
  hb.grown hg hbase (fun k hk => (World.ownsRow.lt h k hk).1)

/-- copy from whatever reads as l into a block that is known whole. -/
theorem wpList_copy_bs (w : World) {ops : Array Oper} {rest : List Oper} {o : Oper} {a : Act} {Q : Exit → Act → World → Prop} (hgd : o.guard = none) (d s : Operand)
    (ho : o.op = .call { callee := .builtin .copy, args := #[d, s], argTypes := #[22, 22] })
    (sv : Value) (l : List Int) (hs : a.eval s = sv) (hsl : Sl w sv 1 l.length (bsv l)) (g off dLen dCap : Nat) (hd : a.eval d = .slice (some ⟨g, off, none⟩) dLen dCap)
    (cur : List Value) (t : TypeId) (hg : Blk w g t cur.toArray) (hfit : off + min l.length dLen ≤ cur.length) (B : Nat) (w0 : World) (hb : Below B w0 w) (hBg : B ≤ g)
    (h : ∀ w', Blk w' g t (splice cur off (bsv (l.take dLen))).toArray → Below B w0 w' → wpList Try.prog ops Q rest (a.put o.dst (goInt (min l.length dLen : Nat))) w') : wpList Try.prog ops Q (o :: rest) a w := by
  obtain ⟨ad, cap, rfl, g1, g2, g3, g4, g5, g6⟩ := id hsl
  have hlen : (bsv (l.take dLen)).length = min l.length dLen := by rw [bsv_length, List.length_take, Nat.min_comm]
  refine wpList_copy_splice hgd d s 22 22 ho 5 un_bytes (by have h8 := info_u8; revert h8; cases Try.prog.info? 5 <;> simp; intro _ h1 _; exact h1) (some ⟨g, off, none⟩) ad dLen dCap l.length cap hd hs g off cur t hg (bsv (l.take dLen)) hlen ?_ (by rw [hlen]; exact hfit) (bsv_one _) B w0 hb hBg ?_
  · intro hpos
    refine ⟨rfl, ?_⟩
    obtain ⟨b, o, rfl, _⟩ := g6 (by rw [hlen] at hpos; omega)
    refine ⟨_, rfl, fun j v hv => ?_⟩
    have hj : j < (bsv (l.take dLen)).length := by
      rcases Nat.lt_or_ge j (bsv (l.take dLen)).length with h' | h'
      · exact h'
      · rw [List.getElem?_eq_none h'] at hv; cases hv
    have hv' : (bsv l)[j]? = some v := by
      rw [← hv]
      unfold bsv
      rw [List.getElem?_map, List.getElem?_map, List.getElem?_take, if_pos (by rw [hlen] at hj; omega)]
    exact hsl.news j v hv'
  · intro w' h1 h2
    have := h w' h1.out h2
    rw [hlen]
    exact this

/-- A whole name is read out of a block. -/
theorem wpList_load_name (w : World) {ops : Array Oper} {rest : List Oper} {o : Oper} {a : Act} {Q : Exit → Act → World → Prop} (hgd : o.guard = none) (x : Operand) (ho : o.op = .load 30 x)
    (g : Nat) (hx : a.eval x = .pointer (some ⟨g, 0, none⟩)) (t : TypeId) (l : List Int) (hg : Blk w g t (bsv l).toArray) (hl : l.length = 8)
    (h : wpList Try.prog ops Q rest (a.put o.dst (nv l)) w) : wpList Try.prog ops Q (o :: rest) a w :=
  wpList_load_row hgd _ x ho g hx t _ _ _ hg un_name rfl (by rw [size_name]; simp [bsv_length, hl]) h

theorem nv_all (l : List Int) : ((l.map (Value.int .u8)).toArray).all (·.oneCell') = true := by
  rw [Array.all_eq_true_iff_forall_mem]
  intro x hx
  obtain ⟨y, _, rfl⟩ := List.mem_map.1 (List.mem_toArray.1 hx)
  rfl
/-- A whole name is stored into a block of eight cells. -/
theorem wpList_store_name (w : World) {ops : Array Oper} {rest : List Oper} {o : Oper} {a : Act} {Q : Exit → Act → World → Prop} (hgd : o.guard = none) (x y : Operand) (ho : o.op = .store 30 x y)
    (g : Nat) (hx : a.eval x = .pointer (some ⟨g, 0, none⟩)) (l : List Int) (hy : a.eval y = nv l) (t : TypeId) (old : Array Value) (hg : Blk w g t old) (hold : old.size = 8) (hl : l.length = 8)
    (h : ∀ w', Blk w' g t (bsv l).toArray → w.grownBy w' (some g) → wpList Try.prog ops Q rest (a.put o.dst undef) w') : wpList Try.prog ops Q (o :: rest) a w :=
  wpList_plain hgd fun K hK => wp_store_row _ x y ho g _ hx hy t old hg (by rw [size_name]; simp [hl]) (by simp [hold, hl]) (nv_all l)
    (hK _ _ (h _ (setRow_heap w g _ _ t _ hg) ⟨rfl, rfl, rfl, by simp [World.setRow], fun k _ hk => setRow_other w g k _ (fun e => hk (by rw [e]))⟩))
/-- A name in the middle of a block: read, stored. -/
theorem wpList_load_mid_name (w : World) {ops : Array Oper} {rest : List Oper} {o : Oper} {a : Act} {Q : Exit → Act → World → Prop} (hgd : o.guard = none) (x : Operand) (ho : o.op = .load 30 x)
    (b off : Nat) (hx : a.eval x = .pointer (some ⟨b, off, none⟩)) (l : List Int) (hl : l.length = 8) (hc : ∀ j, j < 8 → w.cell? ⟨b, off + j, none⟩ = some (.int .u8 (l.getD j 0)))
    (h : wpList Try.prog ops Q rest (a.put o.dst (nv l)) w) : wpList Try.prog ops Q (o :: rest) a w := by
  refine wpList_load_mid hgd _ x ho b off hx (bsv l) _ (fun j v hv => ?_) un_name rfl (by rw [size_name, bsv_length, hl]) h
  have hj : j < l.length := by
    rcases Nat.lt_or_ge j l.length with h' | h'
    · exact h'
    · rw [List.getElem?_eq_none (by rw [bsv_length]; exact h')] at hv; cases hv
  rw [bsv_get hj] at hv
  rw [hc j (by omega), hv]
theorem OwB.ne {w : World} {base n : Nat} {v : Value} {l : List Int} (h : OwB w base v l) (hn : n < base) : some n ≠ v.ownBlock := fun e => by
  have := (World.ownsRow.lt h n e.symm).1; omega
theorem OwN.ne {w : World} {base n : Nat} {v : Value} {l : List (List Int)} (h : OwN w base v l) (hn : n < base) : some n ≠ v.ownBlock := fun e => by
  have := (World.ownsRow.lt h n e.symm).1; omega
theorem OwB.sl {w : World} {base : Nat} {v : Value} {l : List Int} (h : OwB w base v l) (hl : l.length ≤ 140737488355328) : Sl w v 1 l.length (bsv l) := Sl.of_owns h hl
theorem hname_len (l : List Int) : (hname l).length = 8 := rfl
/-- The world behind one, two, three blocks of the call's own. -/
theorem below1 (w : World) (a : Obj) : Below w.heap.size w (w.alloc a) := (Below.refl _ _).alloc (Nat.le_refl _) _
theorem below2 (w : World) (a b : Obj) : Below w.heap.size w ((w.alloc a).alloc b) := (below1 w a).alloc (by simp) _
theorem below3 (w : World) (a b c : Obj) : Below w.heap.size w (((w.alloc a).alloc b).alloc c) := (below2 w a b).alloc (by simp; omega) _
theorem below4 (w : World) (a b c d : Obj) : Below w.heap.size w ((((w.alloc a).alloc b).alloc c).alloc d) := (below3 w a b c).alloc (by simp; omega) _
end Go.Proofs.Ytilhceihelcdgaa
