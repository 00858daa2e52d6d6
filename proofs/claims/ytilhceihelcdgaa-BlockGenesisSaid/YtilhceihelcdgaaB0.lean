/-
  Boxes, loads and stores of whole structures whose cells stay unread.
-/
import Derived.Test.YtilhceihelcdgaaOA
import Derived.Great.Ranges
import Derived.Deep.MidRow
namespace Go.Proofs.Ytilhceihelcdgaa
open Go.RowKit

theorem wpList_box_any {w : World} {ops : Array Oper} {rest : List Oper} {o : Oper} {a : Act} {Q : Exit → Act → World → Prop} (hg : o.guard = none) (t : TypeId) (x : Operand) (ho : o.op = .box t x)
    (cs : Array Value) (hx : a.eval x = .agg cs) (h : ∀ w', Blk w' w.heap.size t cs → Below w.heap.size w w' → w'.heap.size = w.heap.size + 1 → wpList Try.prog ops Q rest (a.put o.dst (.pointer (some ⟨w.heap.size, 0, none⟩))) w') :
    wpList Try.prog ops Q (o :: rest) a w :=
  Go.Great.wpList_boxTo hg _ x ho _ rfl _ rfl _ (by rw [hx]; rfl) (h _ (Blk.new _ _ _) (below1 _ _) (by simp))
/-- A step whose guard holds. -/
theorem wpList_gd {P : Program} {w : World} {ops : Array Oper} {rest : List Oper} {o : Oper} {a : Act} {Q : Exit → Act → World → Prop} (hw : Region.wanted o (yielded ops a.tmps) = true)
    (h : ∀ K : Act → World → Prop, (∀ a w, wpList P ops Q rest a w → K a w) → o.wp P a w K Q) : wpList P ops Q (o :: rest) a w :=
  wpList_step fun K hK => by rw [hw, if_pos rfl]; exact h K hK
/-- A whole structure is read out of a block of its own. -/
theorem row_of {ty : TypeId} (h : (Try.prog.underlying ty).map TypeDesc.isRow = some true) : ∃ d, Try.prog.underlying ty = some d ∧ d.isRow = true := by
  cases hd : Try.prog.underlying ty with
  | none => rw [hd] at h; cases h
  | some d => rw [hd] at h; exact ⟨d, rfl, by injection h⟩
theorem wpList_load_all {w : World} {ops : Array Oper} {rest : List Oper} {o : Oper} {a : Act} {Q : Exit → Act → World → Prop} (hw : Region.wanted o (yielded ops a.tmps) = true) (ty : TypeId) (x : Operand) (ho : o.op = .load ty x)
    (g : Nat) (hx : a.eval x = .pointer (some ⟨g, 0, none⟩)) (t : TypeId) (cs : Array Value) (hg : Blk w g t cs) (hu : (Try.prog.underlying ty).map TypeDesc.isRow = some true) (hi : (Try.prog.info? ty).map (·.size) = some cs.size)
    (h : wpList Try.prog ops Q rest (a.put o.dst (.agg cs)) w) : wpList Try.prog ops Q (o :: rest) a w := by
  obtain ⟨d, hu, hd⟩ := row_of hu
  exact wpList_gd hw fun _ hK => wp_load_mid ty x ho g 0 hx cs.toList d (fun j v hv => by rw [hg.cell (0 + j), Nat.zero_add, ← hv]; simp) hu hd (by rw [hi]; simp) (hK _ _ (by simpa using h))
theorem wpList_load_nm {w : World} {ops : Array Oper} {rest : List Oper} {o : Oper} {a : Act} {Q : Exit → Act → World → Prop} (hw : Region.wanted o (yielded ops a.tmps) = true) (x : Operand) (ho : o.op = .load 30 x)
    (b off : Nat) (hx : a.eval x = .pointer (some ⟨b, off, none⟩)) (l : List Int) (hl : l.length = 8) (hc : ∀ j, j < 8 → w.cell? ⟨b, off + j, none⟩ = (bsv l)[j]?)
    (h : wpList Try.prog ops Q rest (a.put o.dst (nv l)) w) : wpList Try.prog ops Q (o :: rest) a w :=
  wpList_gd hw fun _ hK => wp_load_mid _ x ho b off hx (bsv l) _ (fun j v hv => by
    have hj : j < (bsv l).length := by
      rcases Nat.lt_or_ge j (bsv l).length with h' | h'
      · exact h'
      · rw [List.getElem?_eq_none h'] at hv; cases hv
    rw [hc j (by rw [bsv_length, hl] at hj; exact hj), hv]) un_name rfl (by rw [size_name, bsv_length, hl]) (hK _ _ h)
/-- A structure in the middle of a block. -/
theorem wpList_load_part {w : World} {ops : Array Oper} {rest : List Oper} {o : Oper} {a : Act} {Q : Exit → Act → World → Prop} (hw : Region.wanted o (yielded ops a.tmps) = true) (ty : TypeId) (x : Operand) (ho : o.op = .load ty x)
    (b off : Nat) (hx : a.eval x = .pointer (some ⟨b, off, none⟩)) (cs : List Value) (hc : ∀ j, j < cs.length → w.cell? ⟨b, off + j, none⟩ = cs[j]?) (hu : (Try.prog.underlying ty).map TypeDesc.isRow = some true) (hi : (Try.prog.info? ty).map (·.size) = some cs.length)
    (h : wpList Try.prog ops Q rest (a.put o.dst (.agg cs.toArray)) w) : wpList Try.prog ops Q (o :: rest) a w := by
  obtain ⟨d, hu, hd⟩ := row_of hu
  exact wpList_gd hw fun _ hK => wp_load_mid ty x ho b off hx cs d (fun j v hv => by
    have hj : j < cs.length := by
      rcases Nat.lt_or_ge j cs.length with h' | h'
      · exact h'
      · rw [List.getElem?_eq_none h'] at hv; cases hv
    rw [hc j hj, hv]) hu hd hi (hK _ _ h)
/-- A whole structure is written over a block of its own. -/
theorem wpList_store_all {w : World} {ops : Array Oper} {rest : List Oper} {o : Oper} {a : Act} {Q : Exit → Act → World → Prop} (hgd : o.guard = none) (ty : TypeId) (x y : Operand) (ho : o.op = .store ty x y)
    (g : Nat) (hx : a.eval x = .pointer (some ⟨g, 0, none⟩)) (cs : Array Value) (hy : a.eval y = .agg cs) (t : TypeId) (old : Array Value) (hg : Blk w g t old) (hold : old.size = cs.size) (hi : (Try.prog.info? ty).map (·.size) = some cs.size) (h1 : cs.all (·.oneCell') = true)
    (h : ∀ w', Blk w' g t cs → w.grownBy w' (some g) → wpList Try.prog ops Q rest (a.put o.dst undef) w') : wpList Try.prog ops Q (o :: rest) a w :=
  wpList_plain hgd fun K hK => wp_store_row _ x y ho g _ hx hy t old hg hi hold h1
    (hK _ _ (h _ (setRow_heap w g _ _ t _ hg) ⟨rfl, rfl, rfl, by simp [World.setRow], fun k _ hk => setRow_other w g k _ (fun e => hk (by rw [e]))⟩))
/-- Stops a walk at a store, at a load. -/
theorem hold_store {P : Program} {w : World} {ops : Array Oper} {rest : List Oper} {o : Oper} {a : Act} {Q : Exit → Act → World → Prop} (ty : TypeId) (x y : Operand) (_ho : o.op = .store ty x y) (h : Hid (wpList P ops Q (o :: rest) a w)) : wpList P ops Q (o :: rest) a w := h.out
theorem hold_load {P : Program} {w : World} {ops : Array Oper} {rest : List Oper} {o : Oper} {a : Act} {Q : Exit → Act → World → Prop} (ty : TypeId) (x : Operand) (_ho : o.op = .load ty x) (h : Hid (wpList P ops Q (o :: rest) a w)) : wpList P ops Q (o :: rest) a w := h.out
/-- A whole structure goes into a new block of its own. -/
theorem wpList_store_new {w : World} {ops : Array Oper} {rest : List Oper} {o : Oper} {a : Act} {Q : Exit → Act → World → Prop} (hgd : o.guard = none) (ty : TypeId) (x y : Operand) (ho : o.op = .store ty x y)
    (g : Nat) (hx : a.eval x = .pointer (some ⟨g, 0, none⟩)) (cs : List Value) (hy : a.eval y = .agg cs.toArray) (n : Nat) (hn : cs.length = n) (t : TypeId) (old : Array Value) (hg : Blk w g t old) (hold : old.size = n) (hi : (Try.prog.info? ty).map (·.size) = some n) (h1 : cs.toArray.all (·.oneCell') = true)
    (h : ∀ w', Blk w' g t cs.toArray → w.grownBy w' (some g) → wpList Try.prog ops Q rest (a.put o.dst undef) w') : wpList Try.prog ops Q (o :: rest) a w := by
  subst hn
  exact wpList_store_all hgd ty x y ho g hx cs.toArray hy t old hg (by simpa using hold) (by simpa using hi) h1 h
/-- A new block that is filled: old memory stands. -/
theorem below_new {w w' : World} {o : Obj} (hg : (w.alloc o).grownBy w' (some w.heap.size)) : Below w.heap.size w w' :=
  (below1 w o).grown hg (by simp) (fun k hk => by injection hk; omega)
theorem OwB.ne_hi {w : World} {base n : Nat} {v : Value} {l : List Int} (h : OwB w base v l) (hn : w.heap.size ≤ n) : some n ≠ v.ownBlock := fun e => by
  have := (World.ownsRow.lt h n e.symm).2; omega
theorem OwN.ne_hi {w : World} {base n : Nat} {v : Value} {l : List (List Int)} (h : OwN w base v l) (hn : w.heap.size ≤ n) : some n ≠ v.ownBlock := fun e => by
  have := (World.ownsRow.lt h n e.symm).2; omega
/-- A part of a block of bytes, as a slice. -/
theorem Sl.part {w : World} {g : Nat} {t : TypeId} {cs : Array Value} (h : Blk w g t cs) (off n cap : Nat) (l : List Int) (hl : l.length = n) (hcap : n ≤ cap) (hm : cap ≤ 1000000) (hcs : ∀ j, j < n → cs[off + j]? = (bsv l)[j]?) : Sl w (.slice (some ⟨g, off, none⟩) n cap) 1 l.length (bsv l) := by
  subst hl
  exact ⟨_, cap, rfl, hcap, by unfold maxLen; omega, (fun h => by cases h), by omega, by rw [bsv_length]; omega, fun _ => ⟨g, off, rfl, fun j hj => by rw [h.cell (off + j)]; exact hcs j (by omega)⟩⟩
end Go.Proofs.Ytilhceihelcdgaa
