/-
  The trees that a key keeps: a map from a level and a number to the names of a tree.
-/
import Derived.Test.YtilhceihelcdgaaKN
import Derived.Maps.Own
import Derived.Maps.OwnOps
import Derived.Maps.Views
import Derived.DeepKeys4
namespace Go.Proofs.Ytilhceihelcdgaa
open Go.RowKit

theorem un_map : Try.prog.underlying 131 = some (.map 201 65) := by kernel_rfl
theorem un_2int : Try.prog.underlying 201 = some (.array 2 3) := by kernel_rfl
theorem un_int : Try.prog.underlying 3 = some (.int .i64) := by kernel_rfl
theorem cells_int : Try.prog.cellsOf 3 = 1 := by kernel_rfl
theorem cells_2int : Try.prog.cellsOf 201 = 2 := by kernel_rfl
theorem key2 : Maps.Keyed Try.prog 201 := Maps.Keyed.of_law (deep_law_laid laidOut (m := 3) (by omega) (of_decide_eq_true (by kernel_rfl)) (by kernel_rfl) (by kernel_rfl))
/-- The key of a tree. -/
def tkey (l t : Int) : Value := .agg #[.int .i64 l, .int .i64 t]
def I64 (x : Int) : Prop := -9223372036854775808 ≤ x ∧ x ≤ 9223372036854775807
theorem wf_i64 {x : Int} (h : I64 x) : (Lit.int .i64 x).wf = true := by
  unfold I64 at h
  simp [Lit.wf, IntKind.min, IntKind.max, IntKind.signed, IntKind.bits]
  omega
theorem types_succ : ∃ d, Try.prog.types.size = d + 1 := ⟨Try.prog.types.size - 1, by
  have : (0 < Try.prog.types.size) := of_decide_eq_true (by kernel_rfl)
  omega⟩
theorem keyOf2 {l t : Int} (hl : I64 l) (ht : I64 t) : ∃ kl, keyOf Try.prog 201 (tkey l t) = some kl := by
  obtain ⟨d, hd⟩ := types_succ
  have hk : Try.prog.keyType 201 = true := by kernel_rfl
  have h1 := wf_i64 hl
  have h2 := wf_i64 ht
  unfold keyOf tkey
  rw [un_2int]
  simp only [hk, Value.formed, un_2int, cells_2int, Bool.true_and]
  rw [hd]
  simp [Program.keyLits, cells_int, cells_2int, Value.cells, h1, h2, List.range_succ]
theorem tkey_inj {l t l' t' : Int} {kl : Lit} (h : keyOf Try.prog 201 (tkey l t) = some kl) (h' : keyOf Try.prog 201 (tkey l' t') = some kl) : l = l' ∧ t = t' := by
  have := key2.inj h h'
  unfold tkey at this
  simpa using this

/-- The slice that holds a tree: a whole block. -/
def tslice (g : Nat) : Value := .slice (some ⟨g, 0, none⟩) 32 32
def nslice : Value := .slice none 0 0
theorem tslice_inj {g g' : Nat} (h : tslice g = tslice g') : g = g' := by unfold tslice at h; injection h with h _ _; injection h with h; injection h
theorem tslice_ne (g : Nat) : tslice g ≠ nslice := fun h => by unfold tslice nslice at h; injection h with h _ _; cases h
open Classical in
/-- How an element of the map reads: nothing, or the number of a block. -/
noncomputable def treeElem (v : Value) : Option (DataW Unit × List MemPlace) :=
  if v = nslice then some (.nil, []) else if h : ∃ g, v = tslice g then some (.lit (.int .i64 (Classical.choose h : Nat)), []) else none
theorem treeElem_nil : treeElem nslice = some (.nil, []) := by unfold treeElem; rw [if_pos rfl]
theorem treeElem_slice (g : Nat) : treeElem (tslice g) = some (.lit (.int .i64 (g : Nat)), []) := by
  unfold treeElem
  have h : ∃ g', tslice g = tslice g' := ⟨g, rfl⟩
  rw [if_neg (tslice_ne g), dif_pos h, ← tslice_inj (Classical.choose_spec h)]
theorem treeElem_inv {v : Value} {d : DataW Unit} {ps : List MemPlace} (h : treeElem v = some (d, ps)) : v = nslice ∧ d = .nil ∨ ∃ g : Nat, v = tslice g ∧ d = .lit (.int .i64 (g : Int)) := by
  unfold treeElem at h
  split at h
  · injection h with h; injection h with h1 h2
    exact .inl ⟨by assumption, h1.symm⟩
  · split at h
    · rename_i h'
      injection h with h; injection h with h1 h2
      exact .inr ⟨_, Classical.choose_spec h', h1.symm⟩
    · cases h

/-- What the map of a key of seed x holds: trees, each in a block of its own of which P holds. -/
def Trees (w : World) (x : List Int) (b : Nat) (P : Nat → Prop) (N : Nat) : Prop :=
  ∃ D : DataW Unit, w.ownsMap Try.prog 201 treeElem b N D ∧ Maps.IsMap D ∧ ∀ (l t : Int) (kl : Lit) (g : Int), keyOf Try.prog 201 (tkey l t) = some kl → D.atKey kl .nil = .lit (.int .i64 g) → ∃ gb : Nat, g = (gb : Int) ∧ P gb ∧ gb ≠ b ∧ Blk w gb 30 (bsv (otree x l t).flatten).toArray
theorem Trees.mono {w : World} {x : List Int} {b N N' : Nat} {P : Nat → Prop} (h : Trees w x b P N) (hN : N ≤ N') : Trees w x b P N' := by
  obtain ⟨D, h1, h2⟩ := h
  exact ⟨D, h1.mono hN, h2⟩
theorem Trees.imp {w : World} {x : List Int} {b N : Nat} {P P' : Nat → Prop} (h : Trees w x b P N) (hP : ∀ g, g < w.heap.size → P g → P' g) : Trees w x b P' N := by
  obtain ⟨D, h1, h2, h3⟩ := h
  refine ⟨D, h1, h2, fun l t kl y hk hy => ?_⟩
  obtain ⟨gb, e1, e2, e3, e4⟩ := h3 l t kl y hk hy
  exact ⟨gb, e1, hP gb e4.lt e2, e3, e4⟩
theorem Trees.grown {w w' : World} {x : List Int} {b N : Nat} {P : Nat → Prop} {r : Option Nat} (h : Trees w x b P N) (g : w.grownBy w' r) (hb : some b ≠ r) (hr : ∀ k, k < w.heap.size → P k → some k ≠ r) : Trees w' x b P N := by
  obtain ⟨D, h1, h2, h3⟩ := h
  refine ⟨D, h1.kept g hb, h2, fun l t kl y hk hy => ?_⟩
  obtain ⟨gb, e1, e2, e3, e4⟩ := h3 l t kl y hk hy
  exact ⟨gb, e1, e2, e3, e4.grown g (hr gb e4.lt e2)⟩
theorem Trees.below {w w' : World} {x : List Int} {b N : Nat} {P : Nat → Prop} (h : Trees w x b P N) (g : Below w.heap.size w w') : Trees w' x b P N := h.grown (r := none) (grown_of_below g) (by simp) (fun _ _ _ => by simp)
theorem Trees.new (w : World) (x : List Int) (P : Nat → Prop) : Trees (w.alloc (.map #[] 0)) x w.heap.size P 0 :=
  ⟨.map [], World.ownsMap_made w _ _ _, ⟨_, rfl⟩, fun _ _ _ _ _ h => by cases h⟩
theorem Trees.lt {w : World} {x : List Int} {b N : Nat} {P : Nat → Prop} (h : Trees w x b P N) : b < w.heap.size := by
  obtain ⟨D, h1, _⟩ := h
  exact h1.lt
theorem Trees.lookup {w : World} {x : List Int} {b N : Nat} {P : Nat → Prop} (h : Trees w x b P N) {l t : Int} (hl : I64 l) (ht : I64 t) :
    ∃ v, (Instr.lookup 131 (.map (some b)) (tkey l t) false).run Try.prog w = .ok v w ∧ (v = nslice ∨ ∃ g, v = tslice g ∧ P g ∧ g ≠ b ∧ Blk w g 30 (bsv (otree x l t).flatten).toArray) := by
  obtain ⟨D, h1, h2, h3⟩ := h
  obtain ⟨kl, hk⟩ := keyOf2 hl ht
  have hz : (zeroValue 65).run Try.prog w = .ok nslice w := by kernel_rfl
  obtain ⟨v, ps, hrun, hR⟩ := h1.lookup key2 un_map hz treeElem_nil hk
  refine ⟨v, hrun, ?_⟩
  rcases treeElem_inv hR with ⟨rfl, _⟩ | ⟨g, rfl, hg⟩
  · exact .inl rfl
  · obtain ⟨gb, e1, e2, e3, e4⟩ := h3 l t kl g hk hg
    obtain rfl : g = gb := by omega
    exact .inr ⟨g, rfl, e2, e3, e4⟩
theorem wpList_trees_put (w : World) {ops : Array Oper} {rest : List Oper} {o : Oper} {a : Act} {Q : Exit → Act → World → Prop} (hgd : o.guard = none) (m k v : Operand) (ho : o.op = Op.mapUpdate 131 m k v)
    (x : List Int) (l t : Int) (b N g : Nat) (P : Nat → Prop) (hm : a.eval m = .map (some b)) (hk : a.eval k = tkey l t) (hv : a.eval v = tslice g) (hT : Trees w x b P N) (hN : N ≤ 1000000) (hl : I64 l) (ht : I64 t) (hg1 : P g) (hg2 : g ≠ b)
    (hB : Blk w g 30 (bsv (otree x l t).flatten).toArray)
    (h : ∀ w', Trees w' x b P (N + 1) → w.grownBy w' (some b) → wpList Try.prog ops Q rest (a.put o.dst undef) w') : wpList Try.prog ops Q (o :: rest) a w := by
  obtain ⟨D, h1, h2, h3⟩ := hT
  obtain ⟨kl, hkl⟩ := keyOf2 hl ht
  refine wpList_mapUpdate_own w hgd m k v _ ho 201 65 key2 un_map treeElem b N D hm h1 (by unfold maxLen; omega) _ _ kl hk hv hkl _ _ (treeElem_slice g) fun w' k1 k2 => h w' ⟨_, k1, ?_, fun l' t' kl' y hk' hy => ?_⟩ k2
  · obtain ⟨es, rfl⟩ := h2
    exact ⟨_, rfl⟩
  · by_cases e : kl' = kl
    · subst e
      obtain ⟨rfl, rfl⟩ := tkey_inj hk' hkl
      rw [Maps.atKey_put_same h2 (key2.key hkl)] at hy
      injection hy with hy; injection hy with _ hy
      exact ⟨g, hy.symm, hg1, hg2, hB.grown k2 (fun e => hg2 (by injection e))⟩
    · rw [Maps.atKey_put_other e] at hy
      obtain ⟨gb, e1, e2, e3, e4⟩ := h3 l' t' kl' y hk' hy
      exact ⟨gb, e1, e2, e3, e4.grown k2 (fun e => e3 (by injection e))⟩
end Go.Proofs.Ytilhceihelcdgaa
