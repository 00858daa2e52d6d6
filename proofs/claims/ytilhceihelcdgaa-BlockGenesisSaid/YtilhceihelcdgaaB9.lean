/-
  Two blocks are held against one another by the reference.
-/
import Derived.Test.YtilhceihelcdgaaB8
import Derived.Test.YtilhceihelcdgaaE1
namespace Go.Proofs.Ytilhceihelcdgaa
open Go.RowKit

/-- The fields of a structure, one by one, by type and place. -/
def eqAll (d : Nat) (xs ys : Array Value) : List (TypeId × Nat) → Sem Bool
  | [] => pure true
  | (t, o) :: fs => do
    let a ← part t xs o
    let b ← part t ys o
    let r ← Op.equalIn d t a b
    if !r then pure false else eqAll d xs ys fs
theorem eqAll_of {w : World} (d : Nat) (xs ys : Array Value) : ∀ (fs : List Field), fs.all (fun f => f.name != "_") = true → (Op.eqFields d xs ys fs).run Try.prog w = (eqAll d xs ys (fs.map fun f => (f.type, f.offset))).run Try.prog w
  | [], _ => rfl
  | f :: fs, h => by
    simp only [List.all_cons, Bool.and_eq_true, bne_iff_ne] at h
    have ih := fun w => eqAll_of (w := w) d xs ys fs h.2
    simp only [Op.eqFields, ne_eq, h.1, not_false_eq_true, if_true, List.map_cons, eqAll, Sem.run_bind]
    generalize (part f.type xs f.offset).run Try.prog w = r1
    cases r1 with
    | halt x w1 => simp [Result.andThen]
    | ok a w1 =>
      simp only [Result.andThen_ok]
      generalize (part f.type ys f.offset).run Try.prog w1 = r2
      cases r2 with
      | halt x w2 => simp [Result.andThen]
      | ok b w2 =>
        simp only [Result.andThen_ok]
        generalize (Op.equalIn d f.type a b).run Try.prog w2 = r3
        cases r3 with
        | halt x w3 => simp [Result.andThen]
        | ok r w3 =>
          simp only [Result.andThen_ok]
          cases r
          · simp
          · simp [ih w3]
theorem run_eq_struct {w : World} (t : TypeId) (L : List (TypeId × Nat)) (xs ys : Array Value) (ht : Try.prog.underlying t = some (.struct (Try.prog.fieldsOf t))) (hp : Try.prog.stoodInHeld t = false)
    (hL : (Try.prog.fieldsOf t).toList.map (fun f => (f.type, f.offset)) = L) (hn : (Try.prog.fieldsOf t).toList.all (fun f => f.name != "_") = true) (d : Nat) :
    (Op.equalIn (d + 1) t (.agg xs) (.agg ys)).run Try.prog w = (eqAll d xs ys L).run Try.prog w := by
  rw [run_equalIn_struct w d t xs ys ht hp, eqAll_of d xs ys _ hn, hL]
theorem plain_int : Try.prog.plainKey 3 = true := by kernel_rfl
theorem un_int : Try.prog.underlying 3 = some (.int .i64) := by kernel_rfl
theorem run_part_nm {w : World} {xs : Array Value} {o : Nat} : (part 30 xs o).run Try.prog w = .ok (.agg (xs.extract o (o + 8))) w := by
  obtain ⟨i, hi, hz0, hz1, hz2⟩ := info_parts info_name
  simp [part, isAgg, run_underlying un_name, sizeOf, typeInfo, hi, hz1]
theorem step_int {w : World} {d : Nat} {t : TypeId} {xs ys : Array Value} {o : Nat} {L : List (TypeId × Nat)} {x y : Int} (hp : Try.prog.plainKey t = true) (hu : Try.prog.underlying t = some (.int .i64)) (hx : xs[o]? = some (.int .i64 x)) (hy : ys[o]? = some (.int .i64 y)) :
    (eqAll (d + 1) xs ys ((t, o) :: L)).run Try.prog w = if x = y then (eqAll (d + 1) xs ys L).run Try.prog w else .ok false w := by
  simp only [eqAll, Sem.run_bind, run_part_plain w hp hx, run_part_plain w hp hy, Result.andThen_ok, run_equalIn_int w d t .i64 .i64 x y hu]
  by_cases h : x = y <;> simp [h]
theorem step_name {w : World} {xs ys : Array Value} {o : Nat} {L : List (TypeId × Nat)} {a b : List Int} (hx : xs.extract o (o + 8) = (bsv a).toArray) (hy : ys.extract o (o + 8) = (bsv b).toArray) (e : ∀ w, (Op.equalIn 9999 30 (.agg (bsv a).toArray) (.agg (bsv b).toArray)).run Try.prog w = .ok (decide (a = b)) w) :
    (eqAll 9999 xs ys ((30, o) :: L)).run Try.prog w = if a = b then (eqAll 9999 xs ys L).run Try.prog w else .ok false w := by
  simp only [eqAll, Sem.run_bind, run_part_nm, hx, hy, Result.andThen_ok, e]
  by_cases h : a = b <;> simp [h]
theorem run_eq_nameD (d : Nat) (w : World) (a b : List Int) (ha : a.length = 8) (hb : b.length = 8) : (Op.equalIn (d + 2) 30 (.agg (bsv a).toArray) (.agg (bsv b).toArray)).run Try.prog w = .ok (decide (a = b)) w := by
  obtain ⟨i, hi, _⟩ := info_parts info_u8
  rw [run_equalIn_array w (d + 1) _ _ un_name hi, cells_of_u8, run_items_u8 d w a b _ (fun i hi => by have := List.mem_range.1 hi; omega)]
  have := all_eq (a := a) (b := b) (by omega)
  rw [ha] at this
  rw [this]
theorem chv_cut {s : Int × List Int} (h : s.2.length = 8) : (chv s).toArray.extract 1 (1 + 8) = (bsv s.2).toArray := by
  simp [chv]
  exact List.take_of_length_le (by rw [bsv_length, h]; exact Nat.le_refl _)
theorem run_eq_choice (w : World) (s r : Int × List Int) (hs : s.2.length = 8) (hr : r.2.length = 8) : (Op.equalIn 10000 139 (.agg (chv s).toArray) (.agg (chv r).toArray)).run Try.prog w = .ok (decide (s = r)) w := by
  rw [run_eq_struct 139 [(3, 0), (30, 1)] _ _ (by kernel_rfl) (by kernel_rfl) (by kernel_rfl) (by kernel_rfl) 9999]
  rw [step_int plain_int un_int (x := s.1) (y := r.1) rfl rfl, step_name (a := s.2) (b := r.2) (chv_cut hs) (chv_cut hr) (fun w => run_eq_nameD 9997 w _ _ hs hr)]
  obtain ⟨x, a⟩ := s
  obtain ⟨y, b⟩ := r
  by_cases h1 : x = y
  · by_cases h2 : a = b
    · simp [h1, h2, eqAll]
    · simp [h1, h2]
  · simp [h1]
end Go.Proofs.Ytilhceihelcdgaa
