/-
  How structures and slices of structures read.
-/
import Derived.Test.YtilhceihelcdgaaF
import Derived.Test.YtilhceihelcdgaaB9
namespace Go.Proofs.Ytilhceihelcdgaa
open Go.RowKit Go.ChangeShapes Go.WideShapes Go.ChangeAt

theorem rd_struct {w : World} {t : TypeId} {cs : List Value} {L : List (TypeId × Nat)} (ht : Try.prog.underlying t = some (.struct (Try.prog.fieldsOf t))) (hL : (Try.prog.fieldsOf t).toList.map (fun f => (f.type, f.offset)) = L) (h : Rd w t cs) :
    cs.length = Try.prog.cellsOf t ∧ ∀ (i : Nat) (e : TypeId) (o : Nat), L[i]? = some (e, o) → Rd w e ((cs.drop o).take (Try.prog.cellsOf e)) := by
  obtain ⟨H, enc, fuel, x, hx, hw⟩ := h
  obtain ⟨xs, m, rfl, rfl, h1, h2, h3⟩ := DataW.trod_struct ht hx
  refine ⟨h1, fun i e o hi => ?_⟩
  subst hL
  rw [List.getElem?_map] at hi
  obtain ⟨f, hf, hfe⟩ := Option.map_eq_some_iff.1 hi
  rw [Array.getElem?_toList] at hf
  injection hfe with h4 h5
  subst h4 h5
  have hil : i < xs.length := by
    have := (Array.getElem?_eq_some_iff.1 hf).1
    omega
  have := h3 i f hf
  rw [List.getElem?_eq_getElem hil] at this
  refine ⟨H, enc, m, xs[i], this, fun k hk => hw k ?_⟩
  unfold DataW.weights
  rw [ht]
  exact DataW.weights_mem_each (j := i) (t := f.type) (d := xs[i].1) (by rw [List.getElem?_map, Array.getElem?_toList, hf]; rfl) (by rw [List.getElem?_map, List.getElem?_eq_getElem hil]; rfl) k hk
/-- A slice of rows. -/
theorem rd_rows {α : Type} (d : α) (f : α → List Value) (P : World → α → Prop) {w : World} {t e : TypeId} {k m : Nat} {cs : List Value} (ht : Try.prog.underlying t = some (.slice e)) (hk : Try.prog.cellsOf e = k) (hm : Try.prog.bytesOf e = m) (hk0 : 0 < k) (hm0 : 0 < m)
    (hf : ∀ es, Rd w e es → ∃ x, es = f x ∧ P w x) (hlen : ∀ x, P w x → (f x).length = k) (h : Rd w t cs) : ∃ (v : Value) (L : List α), cs = [v] ∧ Sl w v k L.length (L.flatMap f) ∧ (∀ x ∈ L, P w x) ∧ L.length * m ≤ 140737488351232 := by
  obtain ⟨a, n, cap, rfl, h1, h2, h3, h4, h5⟩ := rd_slice ht hk hm hk0 h
  rw [reach47] at h4
  obtain ⟨L, hl, hp⟩ := list_of d (fun i x => ∃ b o, a = some ⟨b, o, none⟩ ∧ (∀ j, j < k → w.cell? ⟨b, o + i * k + j, none⟩ = (f x)[j]?) ∧ P w x) n (fun i hi => by
    obtain ⟨b, o, es, e1, e2, e3, e4⟩ := h5 i hi
    obtain ⟨x, rfl, hx⟩ := hf es e3
    exact ⟨x, b, o, e1, e4, hx⟩)
  have hL : ∀ x ∈ L, P w x := fun x hx => by
    obtain ⟨i, hi, rfl⟩ := List.getElem_of_mem hx
    obtain ⟨_, _, _, _, h0⟩ := hp i (by omega)
    rwa [List.getD_eq_getElem?_getD, List.getElem?_eq_getElem hi] at h0
  have hfl := flat_len f k L (fun x hx => hlen x (hL x hx))
  have hcm : cap * 1 ≤ cap * m := Nat.mul_le_mul_left cap hm0
  have hnm : n * m ≤ cap * m := Nat.mul_le_mul_right m h1
  refine ⟨_, L, rfl, ⟨a, cap, by rw [hl], by omega, h2, h3, by omega, hfl, fun hn => ?_⟩, hL, by rw [hl]; omega⟩
  obtain ⟨b, o, rfl, _⟩ := hp 0 (by omega)
  refine ⟨b, o, rfl, fun j hj => ?_⟩
  have hjd : j / k < L.length := Nat.div_lt_of_lt_mul (by rw [Nat.mul_comm]; exact hj)
  have hjm : j % k < k := Nat.mod_lt _ hk0
  obtain ⟨b', o', e, hc, _⟩ := hp (j / k) (by omega)
  cases e
  have := hc (j % k) hjm
  rw [Nat.add_assoc, Nat.div_add_mod' j k] at this
  rw [this, List.getD_eq_getElem?_getD, List.getElem?_eq_getElem hjd]
  have h9 := flat_get f k L (fun x hx => hlen x (hL x hx)) (j / k) (j % k) hjd hjm
  rw [Nat.div_add_mod' j k] at h9
  rw [h9]; rfl
set_option maxRecDepth 100000 in
theorem okWide_of_cells {w : World} {r : Reach} {b0 : Nat} {v : Value} {t : TypeId} {fs : Array Field} (ht : Try.prog.underlying t = some (.struct fs)) (ho : Value.okWide Try.prog w r b0 t v) {cs : List Value} (h : v.cells.toList = cs) : v = .agg cs.toArray := by
  obtain ⟨x, rfl, _⟩ := okWide_struct ht ho
  subst h
  simp [Value.cells]
set_option maxRecDepth 100000 in
theorem rd_choice {w : World} {cs : List Value} (h : Rd w 139 cs) : ∃ s, cs = chv s ∧ ChOk s := by
  obtain ⟨h9, hr⟩ := rd_struct (t := 139) (L := [(3, 0), (30, 1)]) (by kernel_rfl) (by kernel_rfl) h
  rw [show Try.prog.cellsOf 139 = 9 by kernel_rfl] at h9
  obtain ⟨n, e0, b0⟩ := rd_i64 (by kernel_rfl) (hr 0 _ _ rfl)
  obtain ⟨l, e1, b1⟩ := rd_name (hr 1 _ _ rfl)
  rw [show Try.prog.cellsOf 3 = 1 by kernel_rfl] at e0
  rw [cells_name] at e1
  match cs, h9 with
  | c :: r, h9 =>
    simp at e0 e1
    subst e0
    refine ⟨(n, l), ?_, b1, b0⟩
    rw [chv, ← e1, List.take_of_length_le (by simp at h9; omega)]
set_option maxRecDepth 100000 in
theorem rd_choices {w : World} {cs : List Value} (h : Rd w 57 cs) : ∃ v L, cs = [v] ∧ Cs w v L := by
  obtain ⟨v, L, rfl, h1, h2, _⟩ := rd_rows (0, []) chv (fun _ s => ChOk s) (t := 57) un_choices (by kernel_rfl) (by kernel_rfl) (k := 9) (m := 16) (by omega) (by omega) (fun es h => rd_choice h) (fun x h => chv_len h) h
  exact ⟨v, L, rfl, h1, h2⟩
set_option maxRecDepth 100000 in
theorem arg_block {w : World} {r : Reach} {b0 : Nat} {v : Value} (ho : Value.okWide Try.prog w r b0 59 v) (h : Rd w 59 v.cells.toList) : ∃ (x : List Int × List (Int × List Int)) (u : Value), v = .agg (blv x.1 u).toArray ∧ IsN x.1 ∧ Cs w u x.2 := by
  obtain ⟨h9, hr⟩ := rd_struct (t := 59) (L := [(30, 0), (57, 8)]) (by kernel_rfl) (by kernel_rfl) h
  rw [show Try.prog.cellsOf 59 = 9 by kernel_rfl] at h9
  obtain ⟨p, e0, b0⟩ := rd_name (hr 0 _ _ rfl)
  obtain ⟨u, L, e1, b1⟩ := rd_choices (hr 1 _ _ rfl)
  rw [cells_name] at e0
  rw [show Try.prog.cellsOf 57 = 1 by kernel_rfl] at e1
  refine ⟨(p, L), u, okWide_of_cells (t := 59) (fs := Try.prog.fieldsOf 59) (by kernel_rfl) ho ?_, b0, b1⟩
  rw [blv, ← e0, ← e1]
  generalize v.cells.toList = cs at *
  rw [show List.take 1 (cs.drop 8) = cs.drop 8 from List.take_of_length_le (by rw [List.length_drop]; omega)]
  simp
end Go.Proofs.Ytilhceihelcdgaa
