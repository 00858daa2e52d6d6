/-
  Closed facts of the program's table of types, and the shape of a function's result that lies in a cell.
-/
import Derived.Test.YtilhceihelcdgaaProg
import Derived.Test.YtilhceihelcdgaaA
namespace Go.Proofs.Ytilhceihelcdgaa
open Go.RowKit

theorem un_name : Try.prog.underlying 30 = some (.array 8 5) := by kernel_rfl
theorem un_bytes : Try.prog.underlying 22 = some (.slice 5) := by kernel_rfl
theorem un_names : Try.prog.underlying 65 = some (.slice 30) := by kernel_rfl
theorem un_ints : Try.prog.underlying 38 = some (.slice 3) := by kernel_rfl
theorem info_u8 : (Try.prog.info? 5).map (fun i => (i.zero, i.size, i.bytes)) = some (some (.int .u8 0), 1, 1) := by kernel_rfl
theorem info_int : (Try.prog.info? 3).map (fun i => (i.zero, i.size, i.bytes)) = some (some (.int .i64 0), 1, 8) := by kernel_rfl
theorem info_name : (Try.prog.info? 30).map (fun i => (i.zero, i.size, i.bytes)) = some (some (nv zeroN), 8, 8) := by kernel_rfl
theorem size_name : (Try.prog.info? 30).map (·.size) = some 8 := by kernel_rfl

/-- A block of cells, none of them frozen. -/
def Blk (w : World) (b : Nat) (t : TypeId) (cs : Array Value) : Prop := w.heap[b]? = some (.cells cs t (0, 0))
theorem Blk.cell {w : World} {b : Nat} {t : TypeId} {cs : Array Value} (h : Blk w b t cs) (j : Nat) : w.cell? ⟨b, j, none⟩ = cs[j]? := cell_of_row w b j cs t (0, 0) h
theorem Blk.free {w : World} {b : Nat} {t : TypeId} {cs : Array Value} (h : Blk w b t cs) (j : Nat) : w.frozen? ⟨b, j, none⟩ = false := frozen_of_row w b j cs t h
theorem Blk.lt {w : World} {b : Nat} {t : TypeId} {cs : Array Value} (h : Blk w b t cs) : b < w.heap.size := lt_of_block h
theorem Blk.set {w : World} {b : Nat} {t : TypeId} {cs : Array Value} (h : Blk w b t cs) (j : Nat) (v : Value) : Blk (w.setCell ⟨b, j, none⟩ v) b t (cs.setIfInBounds j v) := heap_setCell_same w b j cs t v h
theorem Blk.drew {w : World} {b : Nat} {t : TypeId} {cs : Array Value} (h : Blk w b t cs) : Blk w.drew b t cs := h
theorem Blk.below {w w' : World} {B b : Nat} {t : TypeId} {cs : Array Value} (h : Blk w b t cs) (k : Below B w w') (hb : b < B) : Blk w' b t cs := (k.block b hb).trans h
theorem Blk.grown {w w' : World} {b : Nat} {row : Option Nat} {t : TypeId} {cs : Array Value} (h : Blk w b t cs) (k : w.grownBy w' row) (hb : some b ≠ row) : Blk w' b t cs := (k.block b h.lt hb).trans h
theorem Blk.new (w : World) (t : TypeId) (cs : Array Value) : Blk (w.alloc (.cells cs t)) w.heap.size t cs := heap_alloc_new w _
theorem Blk.new' (w : World) (t : TypeId) (cs : Array Value) {n : Nat} (h : n = w.heap.size) : Blk (w.alloc (.cells cs t)) n t cs := by subst h; exact heap_alloc_new w _
theorem Blk.old {w : World} {b : Nat} {t : TypeId} {cs : Array Value} (h : Blk w b t cs) (o : Obj) : Blk (w.alloc o) b t cs := (Below.heap_alloc w o b h.lt).trans h
theorem Blk.other {w : World} {b : Nat} {t : TypeId} {cs : Array Value} (h : Blk w b t cs) (a : Addr) (v : Value) (hb : b ≠ a.block) : Blk (w.setCell a v) b t cs := (heap_setCell_other w a b v hb).trans h

theorem grown_refl (w : World) (r : Option Nat) : w.grownBy w r := World.grownBy.refl w r
theorem grown_trans {a b c : World} {r : Option Nat} (h : a.grownBy b r) (k : b.grownBy c r) : a.grownBy c r :=
  ⟨k.os.trans h.os, k.tape.trans h.tape, k.output.trans h.output, Nat.le_trans h.size k.size, fun i hi hr => (k.block i (Nat.lt_of_lt_of_le hi h.size) hr).trans (h.block i hi hr)⟩
theorem grown_drew {a b : World} {r : Option Nat} (h : a.grownBy b r) : a.grownBy b.drew r := ⟨h.os, h.tape, h.output, h.size, h.block⟩
theorem grown_set {a b : World} {B : Nat} (h : a.grownBy b (some B)) (j : Nat) (v : Value) : a.grownBy (b.setCell ⟨B, j, none⟩ v) (some B) :=
  grown_trans h ⟨rfl, rfl, rfl, by simp, fun i _ hr => heap_setCell_other _ _ _ _ (fun e => hr (by rw [e]))⟩
theorem grown_alloc {a b : World} {r : Option Nat} (h : a.grownBy b r) (o : Obj) : a.grownBy (b.alloc o) r := grown_trans h (World.grownBy_alloc b o r)
theorem grown_below {a b c : World} {r : Option Nat} (h : a.grownBy b r) (k : Below b.heap.size b c) : a.grownBy c r :=
  grown_trans h ⟨k.os, k.tape, k.output, k.size, fun i hi _ => k.block i hi⟩
theorem below_grown_none {a b : World} (h : a.grownBy b none) : Below a.heap.size a b := ⟨h.os, h.tape, h.output, h.size, fun i hi => h.block i hi (by simp)⟩
theorem grown_of_below {a b : World} {r : Option Nat} (k : Below a.heap.size a b) : a.grownBy b r := ⟨k.os, k.tape, k.output, k.size, fun i hi _ => k.block i hi⟩

/-- A function that hands back one name, which lies in a block of its own. -/
theorem ret_name {fn : Func} {p : Tmp} (h : fn.results = #[.cell p 30]) {R : Ending → World → Prop} {a : Act} {w : World} (g : Nat) (t : TypeId) (l : List Int)
    (hp : a.tmps.getD p undef = .pointer (some ⟨g, 0, none⟩)) (hd : a.defers = []) (hg : Blk w g t (bsv l).toArray) (hl : l.length = 8) (hR : R (.returned (nv l)) w) : bodyPost Try.prog fn R .ret a w :=
  bodyPost_ret (v := nv l) (results_cell_row h a.tmps w g t _ _ _ hp hg un_name rfl (by rw [size_name]; simp [hl])) hd hR
end Go.Proofs.Ytilhceihelcdgaa
