/-
  A text is opened: a cursor behind its kind, or one that has failed. Results that are a structure and a number.
-/
import Derived.Test.YtilhceihelcdgaaB1
import Derived.Test.YtilhceihelcdgaaU
import Derived.Test.YtilhceihelcdgaaOC
namespace Go.Proofs.Ytilhceihelcdgaa
open Go.RowKit

set_option maxHeartbeats 1000000 in
theorem open_bad (l : List Int) (v : Value) (k : Int) (w : World) (h : Bs w v l) (hk : kindOf l ≠ k) :
    Calls Try.prog 103 #[v, .int .i64 k] w fun e w' => ∃ P, e = .returned (.pointer (some ⟨P, 0, none⟩)) ∧ w.heap.size ≤ P ∧ Blk w' P 215 #[.slice none 0 0, .int .i64 ((0 : Nat) : Int), .bool true] ∧ Below w.heap.size w w' := by
  have HK := Lib.hid (kind_any l v w h)
  obtain ⟨a, cap, rfl, hnc, hcm, _, _, _, hc⟩ := id h.1
  clear hc h
  generalize kindOf l = q at *
  have hd : decide (q = k) = false := decide_eq_false hk
  have hN : Hid (∀ w, Bs w (.slice none 0 0) []) := fun w => ⟨⟨none, 0, rfl, by simp, by unfold maxLen; omega, fun _ => rfl, by simp, by simp [bsv], fun h => absurd h (by simp)⟩, fun x hx => by simp at hx⟩
  go_enter Try.func103, Try.ntmps103
  go_wp2_with (first
    | (go_at_call 35; refine (HK.out).mono ?_; rintro e w1 ⟨rfl, rfl⟩)
    | (go_at_call 119; refine (cnew_any _ [] _ (hN.out _)).mono ?_; rintro e w2 ⟨rfl, hC2, hB2⟩)
    | (go_at_call 104; refine (cuint_no w.heap.size [] (.slice none 0 0) 0 1 false _ hC2 (hN.out _) (by omega) (by omega) (by simp) (.inr (by simp))).mono ?_; rintro e w3 ⟨rfl, hC3, hg3⟩))
  go_ret
  exact ⟨_, rfl, Nat.le_refl _, hC3, hB2.grown hg3 hB2.size (fun k hk => by injection hk; omega)⟩
set_option maxHeartbeats 1000000 in
theorem open_ok (l : List Int) (v : Value) (k : Int) (w : World) (h : Bs w v l) (hk : kindOf l = k) (hl : 2 ≤ l.length) :
    Calls Try.prog 103 #[v, .int .i64 k] w fun e w' => ∃ P u, e = .returned (.pointer (some ⟨P, 0, none⟩)) ∧ w.heap.size ≤ P ∧ Blk w' P 215 #[u, .int .i64 ((0 : Nat) : Int), .bool false] ∧ Bs w u (l.drop 1) ∧ Below w.heap.size w w' := by
  have HK := Lib.hid (kind_any l v w h)
  obtain ⟨a, cap, rfl, hnc, hcm, _, _, _, hc⟩ := id h.1
  unfold maxLen at hcm
  obtain ⟨b, o, rfl, hcc⟩ := hc (by omega)
  have HD := Lib.hid (h.drop 1 (by omega))
  rw [hk] at HK
  clear hc hcc h hk
  have hcp : ¬ cap = 1 := by omega
  have h1 : ((l.length - 1 : Nat) : Int) = (l.length : Int) - 1 := by omega
  go_enter Try.func103, Try.ntmps103
  go_wp2_with (first
    | (go_at_call 35; refine (HK.out).mono ?_; rintro e w1 ⟨rfl, rfl⟩)
    | (go_at_call 119; refine (cnew_any _ (l.drop 1) _ (by exact HD.out)).mono ?_; rintro e w2 ⟨rfl, hC2, hB2⟩))
  go_ret
  exact ⟨_, _, rfl, Nat.le_refl _, hC2, HD.out, hB2⟩

/-- A function that hands back a structure, which lies in a block of its own, and a second value. -/
theorem ret_row2 {fn : Func} {p u : Tmp} {ty : TypeId} (h : fn.results = #[.cell p ty, .tmp u]) {R : Ending → World → Prop} {a : Act} {w : World} (g : Nat) (t : TypeId) (cs : List Value) (v : Value) (n : Nat) (hn : cs.length = n)
    (hp : a.tmps.getD p undef = .pointer (some ⟨g, 0, none⟩)) (hu : a.tmps.getD u undef = v) (hd : a.defers = []) (hg : Blk w g t cs.toArray) (hun : (Try.prog.underlying ty).map TypeDesc.isRow = some true) (hi : (Try.prog.info? ty).map (·.size) = some n)
    (hR : R (.returned (.tuple #[.agg cs.toArray, v])) w) : bodyPost Try.prog fn R .ret a w := by
  subst hn
  obtain ⟨d, hu1, hd1⟩ := row_of hun
  refine bodyPost_ret (v := .tuple #[.agg cs.toArray, v]) ?_ hd hR
  rw [results_cell_tmp h, hp, hu]
  have := run_loadVar_mid (P := Try.prog) w g 0 ty cs d (fun j v hv => by rw [hg.cell (0 + j), Nat.zero_add, ← hv]; simp) hu1 hd1 hi
  simp only [asAddr, Sem.run_pure, Result.andThen_ok, this]
/-- append to a slice that the call owns, as one step of a region that draws its order. -/
theorem step_app {w : World} {ops : Array Oper} {o : Oper} {a : Act} {K : Act → World → Prop} {Q : Exit → Act → World → Prop} {E : Prop} (hgd : o.guard = none) (s x : Operand) (t : TypeId)
    (ho : o.op = .call { callee := .builtin .append, args := #[s, x], argTypes := #[t, t] })
    (base : Nat) (e : TypeId) (z : Value) (size bytes : Nat) (ht : Try.prog.underlying t = some (.slice e)) (hi : (Try.prog.info? e).map (fun i => (i.zero, i.size, i.bytes)) = some (some z, size, bytes)) (hzs : z.cells.size = size) (hsz : 0 < size)
    (v : Value) (n : Nat) (xs : List Value) (hs : a.eval s = v) (hown : w.ownsRow base e size v n xs)
    (sv : Value) (m : Nat) (news : List Value) (hx : a.eval x = sv) (hsl : Sl w sv size m news) (h1 : ∀ u ∈ news, u.oneCell' = true)
    (hbytes : (n + m) * bytes ≤ 140737488355328) (hb1 : 0 < bytes) (hbase : base ≤ w.heap.size)
    (h : ∀ v' w', w'.ownsRow base e size v' (n + m) (xs ++ news) → w.grownBy w' v.ownBlock → K (a.put o.dst v') w') : if Region.wanted o (yielded ops a.tmps) = true then o.wp Try.prog a w K Q else E := by
  rw [if_pos (by simp [Region.wanted, hgd])]
  exact wp_app w s x t ho base e z size bytes ht hi hzs hsz v n xs hs hown sv m news hx hsl h1 hbytes hb1 hbase h
/-- One row that a literal lays. -/
theorem Sl.row (w : World) (cs : List Value) (t : TypeId) (sz : Nat) (h : cs.length = sz) : Sl (w.alloc (.cells cs.toArray t)) (.slice (some ⟨w.heap.size, 0, none⟩) 1 1) sz 1 cs :=
  ⟨_, 1, rfl, Nat.le_refl _, by simp [maxLen], (fun h => by cases h), by omega, by omega, fun _ => ⟨_, 0, rfl, fun j hj => by
    rw [Nat.zero_add, (Blk.new w t cs.toArray).cell j]; simp⟩⟩
/-- What a cursor reads, by what is left. -/
theorem cut_of {d x r : List Int} {q n : Nat} (h : d.drop q = x ++ r) (hx : x.length = n) : cut d q n = x := by
  unfold cut; rw [h, ← hx, List.take_left]
theorem len_of {d x r : List Int} {q n : Nat} (h : d.drop q = x ++ r) (hx : x.length = n) (hn : 0 < n) : q + n ≤ d.length := by
  have := congrArg List.length h
  rw [List.length_drop, List.length_append, hx] at this
  omega
theorem curU_of {d x r : List Int} {q n : Nat} (h : d.drop q = x ++ r) (hx : x.length = n) (hn : 0 < n) : curU d q false n = (numOf x, q + n, false) := by
  rw [curU_yes _ _ _ (len_of h hx hn), cut_of h hx]
theorem curN_of {d x r : List Int} {q : Nat} (h : d.drop q = x ++ r) (hx : x.length = 8) : curN d q false = (x, q + 8, false) := by
  unfold curN
  rw [if_pos ⟨rfl, len_of h hx (by omega)⟩, cut_of h hx]
theorem numOf_one (x : Int) : numOf [x] = x := by simp [numOf]
/-- What a failed cursor hands back. -/
theorem cuint_bad (B : Nat) (n : Nat) (w : World) (hb : Blk w B 215 #[.slice none 0 0, .int .i64 ((0 : Nat) : Int), .bool true]) (h1 : 1 ≤ n) (h7 : n ≤ 7) :
    Calls Try.prog 104 #[.pointer (some ⟨B, 0, none⟩), .int .i64 n] w fun e w' => e = .returned (.int .i64 0) ∧ Blk w' B 215 #[.slice none 0 0, .int .i64 ((0 : Nat) : Int), .bool true] ∧ w.grownBy w' (some B) :=
  cuint_no B [] (.slice none 0 0) 0 n true w hb ⟨⟨none, 0, rfl, by simp, by unfold maxLen; omega, fun _ => rfl, by simp, by simp [bsv], fun h => absurd h (by simp)⟩, fun x hx => by simp at hx⟩ h1 h7 (by simp) (.inl rfl)
theorem cname_bad (B : Nat) (w : World) (hb : Blk w B 215 #[.slice none 0 0, .int .i64 ((0 : Nat) : Int), .bool true]) :
    Calls Try.prog 111 #[.pointer (some ⟨B, 0, none⟩)] w fun e w' => e = .returned (.agg #[.int .u8 0, .int .u8 0, .int .u8 0, .int .u8 0, .int .u8 0, .int .u8 0, .int .u8 0, .int .u8 0]) ∧ Blk w' B 215 #[.slice none 0 0, .int .i64 ((0 : Nat) : Int), .bool true] ∧ w.grownBy w' (some B) :=
  cname_any B [] (.slice none 0 0) 0 true w hb ⟨⟨none, 0, rfl, by simp, by unfold maxLen; omega, fun _ => rfl, by simp, by simp [bsv], fun h => absurd h (by simp)⟩, fun x hx => by simp at hx⟩ (by simp)
theorem cdone_bad (B : Nat) (w : World) (hb : Blk w B 215 #[.slice none 0 0, .int .i64 ((0 : Nat) : Int), .bool true]) :
    Calls Try.prog 106 #[.pointer (some ⟨B, 0, none⟩)] w fun e w' => e = .returned (.bool false) ∧ ∃ n, w' = w.drewN n :=
  cdone_any B [] (.slice none 0 0) 0 true w hb ⟨⟨none, 0, rfl, by simp, by unfold maxLen; omega, fun _ => rfl, by simp, by simp [bsv], fun h => absurd h (by simp)⟩, fun x hx => by simp at hx⟩
end Go.Proofs.Ytilhceihelcdgaa
