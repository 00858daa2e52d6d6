/-
  The words that the contracts of this seat use: bytes, names and slices as they lie in memory, and the plain functions of the hash. Nothing here speaks of the program.
-/
import Derived.WalkKit
import Derived.WalkSpells
import Derived.WalkLawsBesides
import Derived.Lib.Hide
namespace Go.Proofs.Ytilhceihelcdgaa
open Go.RowKit

/-- A name as a value: an array of eight bytes. -/
def nv (l : List Int) : Value := .agg (l.map (Value.int .u8)).toArray
def Byt (l : List Int) : Prop := ∀ x ∈ l, 0 ≤ x ∧ x < 256
def IsN (l : List Int) : Prop := l.length = 8 ∧ Byt l
def zeroN : List Int := [0, 0, 0, 0, 0, 0, 0, 0]

theorem Byt.nil : Byt [] := fun _ h => by cases h
theorem Byt.cons {x : Int} {l : List Int} (h0 : 0 ≤ x) (h1 : x < 256) (h : Byt l) : Byt (x :: l) := fun y hy => by
  rcases List.mem_cons.1 hy with rfl | hy
  · exact ⟨h0, h1⟩
  · exact h y hy
theorem Byt.append {a b : List Int} (ha : Byt a) (hb : Byt b) : Byt (a ++ b) := fun y hy => by
  rcases List.mem_append.1 hy with h | h
  · exact ha y h
  · exact hb y h
theorem Byt.left {a b : List Int} (h : Byt (a ++ b)) : Byt a := fun y hy => h y (List.mem_append_left _ hy)
theorem Byt.right {a b : List Int} (h : Byt (a ++ b)) : Byt b := fun y hy => h y (List.mem_append_right _ hy)
theorem Byt.take {l : List Int} (h : Byt l) (n : Nat) : Byt (l.take n) := fun y hy => h y (List.mem_of_mem_take hy)
theorem Byt.drop {l : List Int} (h : Byt l) (n : Nat) : Byt (l.drop n) := fun y hy => h y (List.mem_of_mem_drop hy)
theorem Byt.getD {l : List Int} (h : Byt l) (n : Nat) : 0 ≤ l.getD n 0 ∧ l.getD n 0 < 256 := by
  rw [List.getD_eq_getElem?_getD]
  by_cases hn : n < l.length
  · rw [List.getElem?_eq_getElem hn]; exact h _ (List.getElem_mem hn)
  · rw [List.getElem?_eq_none (by omega)]; exact ⟨by simp, by simp⟩
theorem IsN.byt {l : List Int} (h : IsN l) : Byt l := h.2
theorem IsN.cases {l : List Int} (h : IsN l) : ∃ c0 c1 c2 c3 c4 c5 c6 c7 : Int, l = [c0, c1, c2, c3, c4, c5, c6, c7] ∧ ((0 ≤ c0 ∧ c0 < 256) ∧ (0 ≤ c1 ∧ c1 < 256) ∧ (0 ≤ c2 ∧ c2 < 256) ∧ (0 ≤ c3 ∧ c3 < 256)) ∧ ((0 ≤ c4 ∧ c4 < 256) ∧ (0 ≤ c5 ∧ c5 < 256) ∧ (0 ≤ c6 ∧ c6 < 256) ∧ (0 ≤ c7 ∧ c7 < 256)) := by
  obtain ⟨h8, hb⟩ := h
  match l, h8 with
  | [c0, c1, c2, c3, c4, c5, c6, c7], _ =>
    exact ⟨c0, c1, c2, c3, c4, c5, c6, c7, rfl, ⟨hb _ (by simp), hb _ (by simp), hb _ (by simp), hb _ (by simp)⟩, hb _ (by simp), hb _ (by simp), hb _ (by simp), hb _ (by simp)⟩
theorem zeroN_isN : IsN zeroN := ⟨rfl, by intro x hx; simp [zeroN] at hx; subst hx; omega⟩
theorem IsN.mk {c0 c1 c2 c3 c4 c5 c6 c7 : Int} (h0 : 0 ≤ c0 ∧ c0 < 256) (h1 : 0 ≤ c1 ∧ c1 < 256) (h2 : 0 ≤ c2 ∧ c2 < 256) (h3 : 0 ≤ c3 ∧ c3 < 256) (h4 : 0 ≤ c4 ∧ c4 < 256) (h5 : 0 ≤ c5 ∧ c5 < 256) (h6 : 0 ≤ c6 ∧ c6 < 256) (h7 : 0 ≤ c7 ∧ c7 < 256) : IsN [c0, c1, c2, c3, c4, c5, c6, c7] :=
  ⟨rfl, Byt.cons h0.1 h0.2 (Byt.cons h1.1 h1.2 (Byt.cons h2.1 h2.2 (Byt.cons h3.1 h3.2 (Byt.cons h4.1 h4.2 (Byt.cons h5.1 h5.2 (Byt.cons h6.1 h6.2 (Byt.cons h7.1 h7.2 Byt.nil)))))))⟩

/-- A value is a slice of n elements of sz cells each, whose cells read as cs in the world w. -/
def Sl (w : World) (v : Value) (sz n : Nat) (cs : List Value) : Prop :=
  ∃ a cap, v = .slice a n cap ∧ n ≤ cap ∧ cap ≤ maxLen ∧ (a = none → cap = 0) ∧ n ≤ 140737488355328 ∧ cs.length = n * sz ∧ (0 < n → ∃ b o, a = some ⟨b, o, none⟩ ∧ ∀ j, j < n * sz → w.cell? ⟨b, o + j, none⟩ = cs[j]?)

/-- Old cells read as before. -/
def Keeps (w w' : World) : Prop := ∀ a v, w.cell? a = some v → w'.cell? a = some v

theorem Keeps.of_below {w w' : World} (h : Below w.heap.size w w') : Keeps w w' := fun _ _ hv => (h.cell (World.block_lt_of_cell? _ _ hv)).trans hv

theorem Sl.keep {w w' : World} {v : Value} {sz n : Nat} {cs : List Value} (h : Sl w v sz n cs) (k : Keeps w w') : Sl w' v sz n cs := by
  obtain ⟨a, cap, h1, h2, h3, h0, h4, h5, h6⟩ := h
  refine ⟨a, cap, h1, h2, h3, h0, h4, h5, fun hn => ?_⟩
  obtain ⟨b, o, hb, hc⟩ := h6 hn
  refine ⟨b, o, hb, fun j hj => ?_⟩
  have hj' : j < cs.length := by omega
  have := hc j hj
  rw [List.getElem?_eq_getElem hj'] at this ⊢
  exact k _ _ this
theorem Sl.below {w w' : World} {v : Value} {sz n : Nat} {cs : List Value} (h : Sl w v sz n cs) (k : Below w.heap.size w w') : Sl w' v sz n cs := h.keep (Keeps.of_below k)

def bsv (l : List Int) : List Value := l.map (Value.int .u8)
theorem bsv_length (l : List Int) : (bsv l).length = l.length := by simp [bsv]
theorem bsv_append (a b : List Int) : bsv (a ++ b) = bsv a ++ bsv b := by simp [bsv]
/-- A []byte that reads as l. -/
def Bs (w : World) (v : Value) (l : List Int) : Prop := Sl w v 1 l.length (bsv l) ∧ Byt l
/-- A []Name that reads as L. -/
def Ns (w : World) (v : Value) (L : List (List Int)) : Prop := Sl w v 8 L.length (bsv L.flatten) ∧ ∀ x ∈ L, IsN x
theorem Bs.below {w w' : World} {v : Value} {l : List Int} (h : Bs w v l) (k : Below w.heap.size w w') : Bs w' v l := ⟨h.1.below k, h.2⟩
theorem Ns.below {w w' : World} {v : Value} {l : List (List Int)} (h : Ns w v l) (k : Below w.heap.size w w') : Ns w' v l := ⟨h.1.below k, h.2⟩
theorem Bs.keep {w w' : World} {v : Value} {l : List Int} (h : Bs w v l) (k : Keeps w w') : Bs w' v l := ⟨h.1.keep k, h.2⟩
theorem Ns.keep {w w' : World} {v : Value} {l : List (List Int)} (h : Ns w v l) (k : Keeps w w') : Ns w' v l := ⟨h.1.keep k, h.2⟩

theorem Bs.drew {w : World} {v : Value} {l : List Int} (h : Bs w v l) : Bs w.drew v l := h
theorem Ns.drew {w : World} {v : Value} {l : List (List Int)} (h : Ns w v l) : Ns w.drew v l := h

/-- A slice that the call itself made reads as what it owns. -/
theorem Sl.of_owns {w : World} {base e sz n : Nat} {v : Value} {xs : List Value} (h : w.ownsRow base e sz v n xs) (hn : n ≤ 140737488355328) : Sl w v sz n xs := by
  obtain ⟨hl, h | ⟨g, cap, cur, rfl, hb, hg, hnc, hcm, hcs, ht⟩⟩ := h
  · obtain ⟨rfl, rfl⟩ := h
    exact ⟨none, 0, rfl, Nat.le_refl _, Nat.zero_le _, fun _ => rfl, hn, hl, fun h => absurd h (by omega)⟩
  · refine ⟨_, cap, rfl, hnc, hcm, (fun h => by cases h), hn, hl, fun _ => ⟨g, 0, rfl, fun j hj => ?_⟩⟩
    rw [Nat.zero_add, cell_of_row w g j cur e (0, 0) hg, ← ht, List.getElem?_take, if_pos hj]
    simp
theorem Bs.of_owns {w : World} {base e : Nat} {v : Value} {l : List Int} (h : w.ownsRow base e 1 v l.length (bsv l)) (hl : l.length ≤ 140737488355328) (hb : Byt l) : Bs w v l := ⟨Sl.of_owns h hl, hb⟩
theorem owns_base {w : World} {base base' e sz n : Nat} {v : Value} {xs : List Value} (h : w.ownsRow base e sz v n xs) (hb : base' ≤ base) : w.ownsRow base' e sz v n xs := by
  obtain ⟨hl, h | ⟨g, cap, cur, hv, hb', r⟩⟩ := h
  · exact ⟨hl, .inl h⟩
  · exact ⟨hl, .inr ⟨g, cap, cur, hv, Nat.le_trans hb hb', r⟩⟩

/-- What the walk uses of a slice: its address, and its cells one by one. -/
theorem Sl.cell {w : World} {b o n cap sz : Nat} {cs : List Value} (h : Sl w (.slice (some ⟨b, o, none⟩) n cap) sz n cs) (hn : 0 < n) (j : Nat) (hj : j < n * sz) : w.cell? ⟨b, o + j, none⟩ = cs[j]? := by
  obtain ⟨a, cap', h1, _, _, _, _, _, h6⟩ := h
  obtain ⟨b', o', rfl, hc⟩ := h6 hn
  simp only [Value.slice.injEq, Option.some.injEq, Addr.mk.injEq, and_true, true_and] at h1
  obtain ⟨⟨rfl, rfl⟩, rfl⟩ := h1
  exact hc j hj
theorem bsv_get {l : List Int} {j : Nat} (h : j < l.length) : (bsv l)[j]? = some (.int .u8 (l.getD j 0)) := by
  simp [bsv, List.getD_eq_getElem?_getD, List.getElem?_eq_getElem h]

/-! The hash. -/
def rot13 (x : Int) : Int := bits .or .u64 (IntKind.u64.wrap (x * 8192)) (x / 2251799813685248)
def rot32 (x : Int) : Int := bits .or .u64 (IntKind.u64.wrap (x * 4294967296)) (x / 4294967296)
def mixX (x y : Int) : Int := IntKind.u64.wrap (rot32 (IntKind.u64.wrap (x + y)) * 11400714819323198485)
def mixY (x y : Int) : Int := bits .xor .u64 (rot13 y) (IntKind.u64.wrap (x + y))
def mixN : Nat → Int → Int → Int × Int
  | 0, x, y => (x, y)
  | n + 1, x, y => mixN n (mixX x y) (mixY x y)
def U64 (x : Int) : Prop := 0 ≤ x ∧ x < 18446744073709551616
theorem wrap_u64 (x : Int) : U64 (IntKind.u64.wrap x) := by
  have : IntKind.u64.wrap x = x % 18446744073709551616 := by simp [IntKind.wrap, IntKind.bits, IntKind.signed]
  unfold U64; rw [this]; omega
theorem bits_u64 (op : BinOp) (a b : Int) : U64 (bits op .u64 a b) := by
  unfold bits; split <;> exact wrap_u64 _
theorem mixX_u64 (x y : Int) : U64 (mixX x y) := wrap_u64 _
theorem mixY_u64 (x y : Int) : U64 (mixY x y) := bits_u64 _ _ _
theorem mixN_succ (n : Nat) (x y : Int) : mixN (n + 1) x y = (mixX (mixN n x y).1 (mixN n x y).2, mixY (mixN n x y).1 (mixN n x y).2) := by
  induction n generalizing x y with
  | zero => rfl
  | succ n ih => rw [mixN, ih]; rfl
theorem mixN_u64 (n : Nat) (x y : Int) (hx : U64 x) (hy : U64 y) : U64 (mixN n x y).1 ∧ U64 (mixN n x y).2 := by
  cases n with
  | zero => exact ⟨hx, hy⟩
  | succ n => rw [mixN_succ]; exact ⟨mixX_u64 _ _, mixY_u64 _ _⟩
/-- The number of the first eight bytes, zeros behind the last. -/
def wordOf (l : List Int) : Int :=
  l.getD 0 0 * 72057594037927936 + l.getD 1 0 * 281474976710656 + l.getD 2 0 * 1099511627776 + l.getD 3 0 * 4294967296 + l.getD 4 0 * 16777216 + l.getD 5 0 * 65536 + l.getD 6 0 * 256 + l.getD 7 0
theorem wordOf_u64 {l : List Int} (h : Byt l) : U64 (wordOf l) := by
  have h0 := h.getD 0; have h1 := h.getD 1; have h2 := h.getD 2; have h3 := h.getD 3; have h4 := h.getD 4; have h5 := h.getD 5; have h6 := h.getD 6; have h7 := h.getD 7
  unfold U64 wordOf; omega
/-- The state after k words of eight bytes. -/
def stS (l : List Int) : Nat → Int × Int
  | 0 => (2611923443488327891, 1376283091369227076)
  | k + 1 => mixN 2 (bits .xor .u64 (stS l k).1 (wordOf (l.drop (8 * k)))) (stS l k).2
theorem stS_u64 (l : List Int) (k : Nat) : U64 (stS l k).1 ∧ U64 (stS l k).2 := by
  induction k with
  | zero => unfold stS U64; omega
  | succ k ih => exact mixN_u64 _ _ _ (bits_u64 _ _ _) ih.2
def hsum (l : List Int) : Int :=
  bits .xor .u64 (mixN 4 (stS l ((l.length + 7) / 8)).1 (bits .xor .u64 (stS l ((l.length + 7) / 8)).2 l.length)).1 (mixN 4 (stS l ((l.length + 7) / 8)).1 (bits .xor .u64 (stS l ((l.length + 7) / 8)).2 l.length)).2
theorem hsum_u64 (l : List Int) : U64 (hsum l) := bits_u64 _ _ _
/-- The eight bytes of a number, the highest first. -/
def ofU (x : Int) : List Int := [x / 72057594037927936, x / 281474976710656 % 256, x / 1099511627776 % 256, x / 4294967296 % 256, x / 16777216 % 256, x / 65536 % 256, x / 256 % 256, x % 256]
theorem ofU_isN {x : Int} (h : U64 x) : IsN (ofU x) := by
  unfold U64 at h
  exact IsN.mk (by omega) (by omega) (by omega) (by omega) (by omega) (by omega) (by omega) (by omega)
/-- The name of a byte string. -/
def hname (l : List Int) : List Int := ofU (hsum l)
theorem hname_isN (l : List Int) : IsN (hname l) := ofU_isN (hsum_u64 l)

/-! Bits as sums. -/
theorem or_add (x y : Int) (i : Nat) (hx : 0 ≤ x) (hx1 : x < 18446744073709551616) (hm : x % 2 ^ i = 0) (hy : 0 ≤ y) (hy1 : y < 2 ^ i) (hi : i ≤ 64) : bits .or .u64 x y = x + y := by
  have hk : ∀ n : Int, 0 ≤ n → n < 2 ^ 64 → IntKind.u64.wrap n = n := fun n h0 h1 => by
    have : IntKind.u64.wrap n = n % 18446744073709551616 := by simp [IntKind.wrap, IntKind.bits, IntKind.signed]
    rw [this]; omega
  exact bits_join .u64 64 (by decide) hk i x y hx hm (by omega) hy hy1 (Int.lt_of_lt_of_le hy1 (by
    have := Nat.pow_le_pow_right (show 0 < 2 by omega) hi
    exact_mod_cast this))
end Go.Proofs.Ytilhceihelcdgaa
