/-
  The digits of a name: lists of int that the call owns, and Digits of both sides.
  The public name of a one-time key, from its seed.
  The public name of a one-time key, from its seed: the reference's.
-/
import Derived.Test.YtilhceihelcdgaaOA
namespace Go.Proofs.Ytilhceihelcdgaa
section
open Go.RowKit

def ivs (l : List Int) : List Value := l.map (Value.int .i64)
theorem ivs_length (l : List Int) : (ivs l).length = l.length := by simp [ivs]
theorem ivs_append (a b : List Int) : ivs (a ++ b) = ivs a ++ ivs b := by simp [ivs]
theorem ivs_one (l : List Int) : ∀ u ∈ ivs l, u.oneCell' = true := by
  intro u hu
  obtain ⟨x, _, rfl⟩ := List.mem_map.1 hu
  rfl
/-- A []int that the call owns. -/
def OwI (w : World) (base : Nat) (v : Value) (l : List Int) : Prop := w.ownsRow base 3 1 v l.length (ivs l)
theorem OwI.nil (w : World) (base : Nat) : OwI w base (.slice none 0 0) [] := World.ownsRow_nil w base _ _
theorem OwI.alloc {w : World} {base : Nat} {v : Value} {l : List Int} (h : OwI w base v l) (o : Obj) : OwI (w.alloc o) base v l := World.ownsRow.alloc h o
theorem OwI.base {w : World} {base base' : Nat} {v : Value} {l : List Int} (h : OwI w base v l) (hb : base' ≤ base) : OwI w base' v l := owns_base h hb
theorem OwI.below_grown {w0 w w' : World} {base : Nat} {v : Value} {l : List Int} (h : OwI w base v l) (hb : Below base w0 w) (hbase : base ≤ w.heap.size) (hg : w.grownBy w' v.ownBlock) : Below base w0 w' :=
  hb.grown hg hbase (fun k hk => (World.ownsRow.lt h k hk).1)
theorem OwI.drew {w : World} {base : Nat} {v : Value} {l : List Int} (h : OwI w base v l) : OwI w.drew base v l := h
theorem OwI.sl {w : World} {base : Nat} {v : Value} {l : List Int} (h : OwI w base v l) (hl : l.length ≤ 140737488355328) : Sl w v 1 l.length (ivs l) := Sl.of_owns h hl
theorem OwI.ne {w : World} {base n : Nat} {v : Value} {l : List Int} (h : OwI w base v l) (hn : n < base) : some n ≠ v.ownBlock := fun e => by
  have := (World.ownsRow.lt h n e.symm).1; omega

theorem wp_app_is (w : World) {o : Oper} {a : Act} {K : Act → World → Prop} {Q : Exit → Act → World → Prop} (s x : Operand)
    (ho : o.op = .call { callee := .builtin .append, args := #[s, x], argTypes := #[38, 38] })
    (base : Nat) (v : Value) (xs : List Int) (hs : a.eval s = v) (hown : OwI w base v xs) (sv : Value) (l : List Int) (hx : a.eval x = sv) (hsl : Sl w sv 1 l.length (ivs l))
    (hbytes : (xs.length + l.length) * 8 ≤ 140737488355328) (hbase : base ≤ w.heap.size)
    (h : ∀ v' w', OwI w' base v' (xs ++ l) → w.grownBy w' v.ownBlock → K (a.put o.dst v') w') : o.wp Try.prog a w K Q := by
  refine wp_app w s x _ ho base 3 (.int .i64 0) 1 8 un_ints info_int rfl (by decide) v _ _ hs hown sv _ _ hx hsl (ivs_one _) hbytes (by decide) hbase (fun v' w' h1 h2 => h v' w' ?_ h2)
  unfold OwI
  rw [List.length_append, ivs_append]
  exact h1
theorem wpList_app_is (w : World) {ops : Array Oper} {rest : List Oper} {o : Oper} {a : Act} {Q : Exit → Act → World → Prop} (hgd : o.guard = none) (s x : Operand)
    (ho : o.op = .call { callee := .builtin .append, args := #[s, x], argTypes := #[38, 38] })
    (base : Nat) (v : Value) (xs : List Int) (hs : a.eval s = v) (hown : OwI w base v xs) (sv : Value) (l : List Int) (hx : a.eval x = sv) (hsl : Sl w sv 1 l.length (ivs l))
    (hbytes : (xs.length + l.length) * 8 ≤ 140737488355328) (hbase : base ≤ w.heap.size)
    (h : ∀ v' w', OwI w' base v' (xs ++ l) → w.grownBy w' v.ownBlock → wpList Try.prog ops Q rest (a.put o.dst v') w') : wpList Try.prog ops Q (o :: rest) a w :=
  wpList_plain hgd fun _ hK => wp_app_is w s x ho base v xs hs hown sv l hx hsl hbytes hbase fun v' w' h1 h2 => hK _ _ (h v' w' h1 h2)
theorem step_app_is {w : World} {ops : Array Oper} {o : Oper} {a : Act} {K : Act → World → Prop} {Q : Exit → Act → World → Prop} {E : Prop} (hgd : o.guard = none) (s x : Operand)
    (ho : o.op = .call { callee := .builtin .append, args := #[s, x], argTypes := #[38, 38] })
    (base : Nat) (v : Value) (xs : List Int) (hs : a.eval s = v) (hown : OwI w base v xs) (sv : Value) (l : List Int) (hx : a.eval x = sv) (hsl : Sl w sv 1 l.length (ivs l))
    (hbytes : (xs.length + l.length) * 8 ≤ 140737488355328) (hbase : base ≤ w.heap.size)
    (h : ∀ v' w', OwI w' base v' (xs ++ l) → w.grownBy w' v.ownBlock → K (a.put o.dst v') w') : if Region.wanted o (yielded ops a.tmps) = true then o.wp Try.prog a w K Q else E := by
  rw [if_pos (by simp [Region.wanted, hgd])]
  exact wp_app_is w s x ho base v xs hs hown sv l hx hsl hbytes hbase h
theorem wpList_make_is (w : World) {ops : Array Oper} {rest : List Oper} {o : Oper} {a : Act} {Q : Exit → Act → World → Prop} (hgd : o.guard = none) (l c : Operand) (ho : o.op = Op.makeSlice 38 l c)
    (base : Nat) (C : Int) (n : Nat) (hl : a.eval l = .int .i64 0) (hc : a.eval c = .int .i64 C) (hC : C = (n : Int)) (hn : n ≤ 1000000000) (hbase : base ≤ w.heap.size)
    (h : ∀ w', OwI w' base (.slice (some ⟨w.heap.size, 0, none⟩) 0 n) [] → w.grownBy w' none → wpList Try.prog ops Q rest (a.put o.dst (.slice (some ⟨w.heap.size, 0, none⟩) 0 n)) w') : wpList Try.prog ops Q (o :: rest) a w := by
  obtain ⟨i, hi, hz0, hz1, hz2⟩ := info_parts info_int
  exact wpList_make_own w hgd l c _ ho base 3 i (.int .i64 0) 1 un_ints hi hz0 hz1 .i64 .i64 C n hl hc hC (by rw [hz2]; omega) (by unfold maxLen; omega) hbase h
theorem Sl.two (w : World) (x y : Int) (t : TypeId) : Sl (w.alloc (.cells #[.int .i64 x, .int .i64 y] t)) (.slice (some ⟨w.heap.size, 0, none⟩) 2 2) 1 [x, y].length (ivs [x, y]) :=
  ⟨_, 2, rfl, Nat.le_refl _, by simp [maxLen], (fun h => by cases h), by simp, rfl, fun _ => ⟨_, 0, rfl, fun j hj => by
    rcases (show j = 0 ∨ j = 1 by simp at hj; omega) with rfl | rfl
    · exact (Blk.new w t #[.int .i64 x, .int .i64 y]).cell 0
    · exact (Blk.new w t #[.int .i64 x, .int .i64 y]).cell 1⟩⟩

/-- The 18 digits of a name. -/
def oD : List Int → List Int
  | [] => []
  | c :: l => c / 16 :: c % 16 :: oD l
def oS : List Int → Int
  | [] => 0
  | c :: l => c / 16 + c % 16 + oS l
def odig (m : List Int) : List Int := oD m ++ [(240 - oS m) / 16, (240 - oS m) % 16]
theorem oD_len (l : List Int) : (oD l).length = 2 * l.length := by
  induction l with
  | nil => rfl
  | cons c l ih => simp only [oD, List.length_cons, ih]; omega
theorem odig_len {m : List Int} (h : IsN m) : (odig m).length = 18 := by simp [odig, oD_len, h.1]
theorem oS_le {l : List Int} (h : Byt l) : 0 ≤ oS l ∧ oS l ≤ 30 * l.length := by
  induction l with
  | nil => simp [oS]
  | cons c l ih =>
    have h1 := ih (fun x hx => h x (List.mem_cons_of_mem _ hx))
    obtain ⟨h2, h3⟩ := h c List.mem_cons_self
    simp only [oS, List.length_cons]
    omega
theorem oD_bd {l : List Int} (h : Byt l) : ∀ x ∈ oD l, 0 ≤ x ∧ x ≤ 15 := by
  induction l with
  | nil => intro x hx; cases hx
  | cons c l ih =>
    intro x hx
    obtain ⟨h2, h3⟩ := h c List.mem_cons_self
    simp only [oD, List.mem_cons] at hx
    rcases hx with rfl | rfl | hx
    · omega
    · omega
    · exact ih (fun x hx => h x (List.mem_cons_of_mem _ hx)) x hx
theorem odig_bd {m : List Int} (h : IsN m) : ∀ x ∈ odig m, 0 ≤ x ∧ x ≤ 15 := by
  intro x hx
  have hs := oS_le h.2
  rw [h.1] at hs
  simp only [odig, List.mem_append, List.mem_cons, List.not_mem_nil, or_false] at hx
  rcases hx with hx | rfl | rfl
  · exact oD_bd h.2 x hx
  · omega
  · omega

theorem and15 (x : Int) (h0 : 0 ≤ x) (h1 : x ≤ 240) : bits .and .i64 x 15 = x % 16 := by
  obtain ⟨n, rfl⟩ := Int.eq_ofNat_of_zero_le h0
  have h : ∀ n : Nat, n < 241 → bits .and .i64 (n : Int) 15 = (n : Int) % 16 := by decide +kernel
  exact h n (by omega)
theorem andu15 (x : Int) (h0 : 0 ≤ x) (h1 : x < 256) : bits .and .u8 x 15 = x % 16 := by
  obtain ⟨n, rfl⟩ := Int.eq_ofNat_of_zero_le h0
  have h : ∀ n : Nat, n < 256 → bits .and .u8 (n : Int) 15 = (n : Int) % 16 := by decide +kernel
  exact h n (by omega)
theorem odig_eq (m0 m1 m2 m3 m4 m5 m6 m7 : Int) : odig [m0, m1, m2, m3, m4, m5, m6, m7] = [m0 / 16, m0 % 16, m1 / 16, m1 % 16, m2 / 16, m2 % 16, m3 / 16, m3 % 16, m4 / 16, m4 % 16, m5 / 16, m5 % 16, m6 / 16, m6 % 16, m7 / 16, m7 % 16, (240 - (m0 / 16 + m0 % 16) - (m1 / 16 + m1 % 16) - (m2 / 16 + m2 % 16) - (m3 / 16 + m3 % 16) - (m4 / 16 + m4 % 16) - (m5 / 16 + m5 % 16) - (m6 / 16 + m6 % 16) - (m7 / 16 + m7 % 16)) / 16, (240 - (m0 / 16 + m0 % 16) - (m1 / 16 + m1 % 16) - (m2 / 16 + m2 % 16) - (m3 / 16 + m3 % 16) - (m4 / 16 + m4 % 16) - (m5 / 16 + m5 % 16) - (m6 / 16 + m6 % 16) - (m7 / 16 + m7 % 16)) % 16] := by
  have h : 240 - oS [m0, m1, m2, m3, m4, m5, m6, m7] = (240 - (m0 / 16 + m0 % 16) - (m1 / 16 + m1 % 16) - (m2 / 16 + m2 % 16) - (m3 / 16 + m3 % 16) - (m4 / 16 + m4 % 16) - (m5 / 16 + m5 % 16) - (m6 / 16 + m6 % 16) - (m7 / 16 + m7 % 16)) := by simp only [oS]; omega
  unfold odig
  rw [h]
  rfl

set_option maxHeartbeats 2000000 in
theorem digits_any (m : List Int) (w : World) (hm : IsN m) :
    Calls Try.prog 209 #[nv m] w fun e w' => ∃ v', e = .returned v' ∧ OwI w' w.heap.size v' (odig m) ∧ Below w.heap.size w w' := by
  obtain ⟨m0, m1, m2, m3, m4, m5, m6, m7, rfl, ⟨⟨_, _⟩, ⟨_, _⟩, ⟨_, _⟩, ⟨_, _⟩⟩, ⟨_, _⟩, ⟨_, _⟩, ⟨_, _⟩, ⟨_, _⟩⟩ := hm.cases
  have hnx : nv [m0, m1, m2, m3, m4, m5, m6, m7] = .agg #[.int .u8 m0, .int .u8 m1, .int .u8 m2, .int .u8 m3, .int .u8 m4, .int .u8 m5, .int .u8 m6, .int .u8 m7] := rfl
  rw [hnx]
  clear hm hnx
  have i0 : ∀ w, (Instr.index 30 (.agg #[.int .u8 m0, .int .u8 m1, .int .u8 m2, .int .u8 m3, .int .u8 m4, .int .u8 m5, .int .u8 m6, .int .u8 m7]) (.int .i64 0)).run Try.prog w = .ok (.int .u8 m0) w := fun _ => by kernel_rfl
  have i1 : ∀ w, (Instr.index 30 (.agg #[.int .u8 m0, .int .u8 m1, .int .u8 m2, .int .u8 m3, .int .u8 m4, .int .u8 m5, .int .u8 m6, .int .u8 m7]) (.int .i64 1)).run Try.prog w = .ok (.int .u8 m1) w := fun _ => by kernel_rfl
  have i2 : ∀ w, (Instr.index 30 (.agg #[.int .u8 m0, .int .u8 m1, .int .u8 m2, .int .u8 m3, .int .u8 m4, .int .u8 m5, .int .u8 m6, .int .u8 m7]) (.int .i64 2)).run Try.prog w = .ok (.int .u8 m2) w := fun _ => by kernel_rfl
  have i3 : ∀ w, (Instr.index 30 (.agg #[.int .u8 m0, .int .u8 m1, .int .u8 m2, .int .u8 m3, .int .u8 m4, .int .u8 m5, .int .u8 m6, .int .u8 m7]) (.int .i64 3)).run Try.prog w = .ok (.int .u8 m3) w := fun _ => by kernel_rfl
  have i4 : ∀ w, (Instr.index 30 (.agg #[.int .u8 m0, .int .u8 m1, .int .u8 m2, .int .u8 m3, .int .u8 m4, .int .u8 m5, .int .u8 m6, .int .u8 m7]) (.int .i64 4)).run Try.prog w = .ok (.int .u8 m4) w := fun _ => by kernel_rfl
  have i5 : ∀ w, (Instr.index 30 (.agg #[.int .u8 m0, .int .u8 m1, .int .u8 m2, .int .u8 m3, .int .u8 m4, .int .u8 m5, .int .u8 m6, .int .u8 m7]) (.int .i64 5)).run Try.prog w = .ok (.int .u8 m5) w := fun _ => by kernel_rfl
  have i6 : ∀ w, (Instr.index 30 (.agg #[.int .u8 m0, .int .u8 m1, .int .u8 m2, .int .u8 m3, .int .u8 m4, .int .u8 m5, .int .u8 m6, .int .u8 m7]) (.int .i64 6)).run Try.prog w = .ok (.int .u8 m6) w := fun _ => by kernel_rfl
  have i7 : ∀ w, (Instr.index 30 (.agg #[.int .u8 m0, .int .u8 m1, .int .u8 m2, .int .u8 m3, .int .u8 m4, .int .u8 m5, .int .u8 m6, .int .u8 m7]) (.int .i64 7)).run Try.prog w = .ok (.int .u8 m7) w := fun _ => by kernel_rfl
  go_enter Try.func209, Try.ntmps209
  go_wp2_with (refine wpList_make_is _ rfl (.const (.int .i64 0)) (.const (.int .i64 18)) rfl (w.heap.size) 18 18 rfl rfl rfl (by omega) (by simp) ?_; intro w1 hO0 hg1; have hO : OwI w1 w.heap.size (.slice (some ⟨w.heap.size + 1, 0, none⟩) 0 18) [] := (by simpa using hO0); clear hO0; obtain ⟨d0, d1, d2, d3, d4, d5, d6, d7⟩ := (Blk.grown (Blk.new w 30 (bsv [m0, m1, m2, m3, m4, m5, m6, m7]).toArray) hg1 (by simp)).lit8; have hB := (below1 w (.cells #[.int .u8 m0, .int .u8 m1, .int .u8 m2, .int .u8 m3, .int .u8 m4, .int .u8 m5, .int .u8 m6, .int .u8 m7] 30)).grown hg1 (by simp) (by intro j hj; cases hj))
  refine wp_loop_rounds 9 ?_
  repeat (rw [rounds_succ]; go_wp2_with (first
    | (at_builtin; refine wpList_app_is _ rfl (.tmp 20) (.tmp 23) rfl w.heap.size _ _ rfl (hO.alloc _) _ [_, _] rfl (Sl.two _ _ _ _) (by simp) (by have := hB.size; simp; omega) ?_; intro v2 w2 hO2 hg2; replace hB := (hO.alloc _).below_grown (hB.alloc hB.size _) (by have := hB.size; simp; omega) hg2; replace hO := hO2; clear hg2 hO2)
    | (at_builtin; refine wpList_app_is _ rfl (.tmp 31) (.tmp 36) rfl w.heap.size _ _ rfl (hO.alloc _) _ [_, _] rfl (Sl.two _ _ _ _) (by simp) (by have := hB.size; simp; omega) ?_; intro v2 w2 hO2 hg2; replace hB := (hO.alloc _).below_grown (hB.alloc hB.size _) (by have := hB.size; simp; omega) hg2; replace hO := hO2; clear hg2 hO2)))
  go_ret
  refine ⟨_, rfl, ?_, hB⟩
  rw [and15 _ (by omega) (by omega)] at hO
  rw [odig_eq]
  exact hO

theorem oD_succ (m : List Int) (k : Nat) (hk : k < m.length) : oD (m.take (k + 1)) = oD (m.take k) ++ [m.getD k 0 / 16, m.getD k 0 % 16] := by
  induction m generalizing k with
  | nil => simp at hk
  | cons c l ih =>
    cases k with
    | zero => simp [oD]
    | succ k => have := ih k (by simpa using hk); simp [oD, this]
theorem oS_succ (m : List Int) (k : Nat) (hk : k < m.length) : oS (m.take (k + 1)) = oS (m.take k) + m.getD k 0 / 16 + m.getD k 0 % 16 := by
  induction m generalizing k with
  | nil => simp at hk
  | cons c l ih =>
    cases k with
    | zero => simp [oS]
    | succ k => have := ih k (by simpa using hk); simp [oS, this]; omega

set_option maxHeartbeats 1000000 in
theorem rdigits_any (m : List Int) (w : World) (hm : IsN m) :
    Calls Try.prog 152 #[nv m] w fun e w' => ∃ v', e = .returned v' ∧ OwI w' w.heap.size v' (odig m) ∧ Below w.heap.size w w' := by
  have HM := Lib.hid hm
  clear hm
  go_enter Try.func152, Try.ntmps152
  go_wp2_with (refine wpList_box_name rfl (.tmp 0) rfl m rfl ?_; intro w1 hA1 hB1 hs1)
  go_loopw [3, 4, 5] (fun s r i wr => ∃ k : Nat, k ≤ 8 ∧ i = .int .i64 (k : Int) ∧ r = .int .i64 (240 - oS (m.take k)) ∧ OwI wr (w.heap.size + 1) s (oD (m.take k)) ∧ Blk wr w.heap.size 30 (bsv m).toArray ∧ Below w.heap.size w wr) (fun _ _ i _ => 8 - (intOf i).toNat)
  case atStart => exact ⟨0, by omega, rfl, rfl, OwI.nil _ _, hA1, hB1⟩
  case round =>
    obtain ⟨k, hk, rfl, rfl, hO, hA, hB⟩ := hrel
    have hz := hA.lt
    have hT := oS_le (l := m.take k) (fun x hx => HM.out.2 x (List.mem_of_mem_take hx))
    have hl : (m.take k).length = k := by rw [List.length_take, HM.out.1]; omega
    rw [hl] at hT
    have hDl := oD_len (m.take k)
    rw [hl] at hDl
    by_cases hlt : k < 8
    · have hlt' : (k : Int) < 8 := by omega
      have hOs := Lib.hid (oD_succ m k (by rw [HM.out.1]; omega))
      have hSs := Lib.hid (oS_succ m k (by rw [HM.out.1]; omega))
      have hck : (bsv m).toArray[k]? = some (.int .u8 (m.getD k 0)) := by simp [bsv, List.getD_eq_getElem?_getD, List.getElem?_eq_getElem (show k < m.length by rw [HM.out.1]; omega)]
      have hc : wr.cell? ⟨w.heap.size, k, none⟩ = some (.int .u8 (m.getD k 0)) := by rw [hA.cell k]; exact hck
      have hcb : 0 ≤ m.getD k 0 ∧ m.getD k 0 < 256 := by
        rw [List.getD_eq_getElem?_getD, List.getElem?_eq_getElem (show k < m.length by rw [HM.out.1]; omega)]
        exact HM.out.2 _ (List.getElem_mem _)
      generalize m.getD k 0 = c at *
      generalize oS (m.take k) = S at *
      generalize oD (m.take k) = D at *
      clear hl
      obtain ⟨_, _⟩ := hcb
      have a1 : bits .and .u8 c 15 = c % 16 := andu15 _ (by omega) (by omega)
      have a2 : IntKind.i64.wrap (c / 16) = c / 16 := by rw [IntKind.wrap_i64]; omega
      have a3 : IntKind.i64.wrap (c % 16) = c % 16 := by rw [IntKind.wrap_i64]; omega
      have a4 : IntKind.i64.wrap (240 - S - c / 16) = 240 - S - c / 16 := by rw [IntKind.wrap_i64]; omega
      have a5 : IntKind.i64.wrap (240 - S - c / 16 - c % 16) = 240 - S - c / 16 - c % 16 := by rw [IntKind.wrap_i64]; omega
      go_wp2_with fail
      go_region_law (refine step_app_is rfl (.tmp 10) (.tmp 21) rfl (w.heap.size + 1) _ _ rfl (hO.alloc _).drew _ [c / 16, c % 16] rfl (Sl.two _ _ _ _).drew (by simp; omega) (by simp; omega) ?_; intro v2 w2 hO2 hg2)
      all_goals
        have hB2 := (OwI.base (hO.alloc _).drew (Nat.le_succ _)).below_grown (hB.alloc hB.size _).drew (by simp; omega) hg2
        have hA2 := (hA.old _).drew.grown hg2 (hO.ne (Nat.lt_succ_self _))
        have hc2 : w2.cell? ⟨w.heap.size, k, none⟩ = some (.int .u8 c) := by rw [hA2.cell k]; exact hck
        go_wp2_with fail
        go_quiet (fail)
        go_wp2
        go_roundw
        case rel =>
          refine ⟨k + 1, by omega, by go_num, ?_, by rw [hOs.out]; exact hO2, hA2, ⟨hB2.os, hB2.tape, hB2.output, hB2.size, hB2.block⟩⟩
          rw [hSs.out]
          exact congrArg _ (by omega)
        case measure => simp [intOf]; omega
    · obtain rfl : k = 8 := by omega
      have ht : m.take 8 = m := List.take_of_length_le (by rw [HM.out.1]; omega)
      rw [ht] at hO hT ⊢
      have ho : odig m = oD m ++ [(240 - oS m) / 16, (240 - oS m) % 16] := rfl
      rw [ht] at hDl
      have HO := Lib.hid ho
      clear ho ht hl
      generalize oS m = S at *
      generalize oD m = D at *
      have hzb := hB.size
      go_wp2_with (at_builtin; refine hold ?_)
      refine Lib.hid ?_
      refine wpList_app_is _ rfl (.tmp 36) (.tmp 41) rfl w.heap.size _ _ rfl (OwI.base (hO.alloc _) (Nat.le_succ _)) _ [_, _] rfl (Sl.two _ _ _ _) (by simp; omega) (by simp; omega) ?_
      intro v2 w2 hO2 hg2
      have hB2 := (OwI.base (hO.alloc _) (Nat.le_succ _)).below_grown (hB.alloc hB.size _) (by simp; omega) hg2
      go_wp2
      go_ret
      exact ⟨_, rfl, by rw [HO.out]; exact hO2, hB2⟩
end
section
open Go.RowKit

theorem Blk.setCells {b : Nat} {t : TypeId} : ∀ (vs : List Value) (o : Nat) (w : World) (A B M : List Value), M.length = vs.length → A.length = o → Blk w b t (A ++ M ++ B).toArray → Blk (w.setCells b o vs) b t (A ++ vs ++ B).toArray
  | [], _, w, A, B, M, hM, _, h => by
    obtain rfl := List.eq_nil_of_length_eq_zero hM
    exact h
  | v :: vs, o, w, A, B, [], hM, _, h => by cases hM
  | v :: vs, o, w, A, B, m :: M, hM, hA, h => by
    have h1 := h.set o v
    have e : (A ++ m :: M ++ B).toArray.setIfInBounds o v = ((A ++ [v]) ++ M ++ B).toArray := by
      subst hA
      simp
    rw [e] at h1
    have := Blk.setCells vs (o + 1) _ (A ++ [v]) B M (by simpa using hM) (by simp [hA]) h1
    simpa [World.setCells] using this
theorem grown_setCells (b : Nat) : ∀ (vs : List Value) (o : Nat) (w : World), w.grownBy (w.setCells b o vs) (some b)
  | [], _, w => grown_refl w _
  | v :: vs, o, w => grown_trans (grown_set (grown_refl w _) o v) (grown_setCells b vs (o + 1) _)

/-- A name stored in the middle of a block. -/
theorem wpList_store_next (w : World) {ops : Array Oper} {rest : List Oper} {o : Oper} {a : Act} {Q : Exit → Act → World → Prop} (hgd : o.guard = none) (x y : Operand) (ho : o.op = .store 30 x y)
    (b off : Nat) (hx : a.eval x = .pointer (some ⟨b, off, none⟩)) (l : List Int) (hy : a.eval y = nv l) (hl : l.length = 8) (A B M : List Int) (hA : A.length = off) (hM : M.length = 8) (t : TypeId) (hb : Blk w b t (bsv (A ++ M ++ B)).toArray)
    (h : ∀ w', Blk w' b t (bsv (A ++ l ++ B)).toArray → w.grownBy w' (some b) → wpList Try.prog ops Q rest (a.put o.dst undef) w') : wpList Try.prog ops Q (o :: rest) a w := by
  refine wpList_store_mid hgd _ x y ho b off (bsv l).toArray hx hy (fun j hj => ⟨?_, hb.free _⟩) (by rw [size_name]; simp [bsv_length, hl]) (nv_all l) (h _ ?_ (grown_setCells _ _ _ _))
  · have hj8 : j < 8 := by simpa [bsv_length, hl] using hj
    rw [hb.cell]
    simp [bsv, hA, hM]
    omega
  · have h1 : Blk w b t (bsv A ++ bsv M ++ bsv B).toArray := by rw [← bsv_append, ← bsv_append]; exact hb
    have := Blk.setCells (bsv l) off w (bsv A) (bsv B) (bsv M) (by rw [bsv_length, bsv_length, hM, hl]) (by rw [bsv_length, hA]) h1
    rw [← bsv_append, ← bsv_append] at this
    simpa using this

def zeros (n : Nat) : List Int := (List.replicate n zeroN).flatten
theorem zeros_succ (n : Nat) : zeros (n + 1) = zeroN ++ zeros n := by simp [zeros, List.replicate_succ]
/-- 'make([]Name, n)'. -/
theorem wpList_make_ns (w : World) {ops : Array Oper} {rest : List Oper} {o : Oper} {a : Act} {Q : Exit → Act → World → Prop} (hgd : o.guard = none) (l c : Operand) (ho : o.op = Op.makeSlice 65 l c)
    (n : Nat) (hl : a.eval l = .int .i64 n) (hc : a.eval c = .int .i64 n) (hn : n ≤ 1000) (hz : (madeCells (nv zeroN).cells (n * 8)).toList = bsv (zeros n))
    (h : ∀ w', Blk w' w.heap.size 30 (bsv (zeros n)).toArray → w.grownBy w' none → wpList Try.prog ops Q rest (a.put o.dst (.slice (some ⟨w.heap.size, 0, none⟩) n n)) w') : wpList Try.prog ops Q (o :: rest) a w := by
  obtain ⟨i, hi, hz0, hz1, hz2⟩ := info_parts info_name
  refine wpList_make_full w hgd l c _ ho w.heap.size 30 i (nv zeroN) 8 un_names hi hz0 hz1 .i64 .i64 n n n hl hc rfl rfl (by rw [hz2]; omega) (by unfold maxLen; omega) (Nat.le_refl _) fun w' h1 h2 => h w' ?_ h2
  obtain ⟨_, ⟨hv, _⟩ | ⟨g, cap, cur, hv, _, hh, _, _, hs, ht⟩⟩ := h1
  · cases hv
  · cases hv
    rw [List.take_of_length_le (by rw [Array.length_toList]; omega), hz] at ht
    show w'.heap[w.heap.size]? = _
    rw [hh, ← ht]

/-- The first k names that f lists. -/
def row (f : Nat → List Int) (k : Nat) : List (List Int) := (List.range k).map f
theorem row_succ (f : Nat → List Int) (k : Nat) : row f (k + 1) = row f k ++ [f k] := by simp [row, List.range_succ]
theorem row_len (f : Nat → List Int) (k : Nat) : (row f k).length = k := by simp [row]
theorem row_isN {f : Nat → List Int} (h : ∀ k, IsN (f k)) (k : Nat) : ∀ x ∈ row f k, IsN x := by
  intro x hx
  obtain ⟨j, _, rfl⟩ := List.mem_map.1 hx
  exact h j
/-- A block of names, as a slice. -/
theorem Ns.whole {w : World} {g n : Nat} {t : TypeId} {L : List (List Int)} (h : Blk w g t (bsv L.flatten).toArray) (hL : ∀ x ∈ L, IsN x) (hn : n = L.length) (hb : n ≤ 1000) : Ns w (.slice (some ⟨g, 0, none⟩) n n) L := by
  subst hn
  refine ⟨⟨_, _, rfl, Nat.le_refl _, by unfold maxLen; omega, (fun e => by cases e), by omega, by rw [bsv_length, flatten_len hL], fun _ => ⟨g, 0, rfl, fun j _ => by rw [Nat.zero_add, h.cell j]; simp⟩⟩, hL⟩

/-- The end of chain c of a key. -/
def oend (x : List Int) (c : Nat) : List Int := owalk 15 c 0 (ostart x c)
theorem oend_isN (x : List Int) (c : Nat) : IsN (oend x c) := owalk_isN _ _ _ _ (ostart_isN _ _)
def opub (x : List Int) : List Int := oends (row (oend x) 18)
theorem opub_isN (x : List Int) : IsN (opub x) := hname_isN _

set_option maxHeartbeats 1000000 in
theorem onepublic_any (x : List Int) (w : World) (hx : IsN x) :
    Calls Try.prog 167 #[nv x] w fun e w' => e = .returned (nv (opub x)) ∧ Below w.heap.size w w' := by
  have HX := Lib.hid hx
  clear hx
  go_enter Try.func167, Try.ntmps167
  go_wp2_with (first
    | (refine wpList_box_name rfl (.tmp 0) rfl x rfl ?_; intro w1 hA1 hB1 hs1)
    | (refine wpList_make_ns _ rfl (.const (.int .i64 18)) (.const (.int .i64 18)) rfl 18 rfl rfl (by omega) (by kernel_rfl) ?_; refine hold ?_))
  refine Lib.hid ?_
  have hN2 : Blk (w1.alloc (.cells (bsv zeroN).toArray 30)) (w.heap.size + 1) 30 (bsv zeroN).toArray := by rw [← hs1]; exact Blk.new _ _ _
  have hsz : (w1.alloc (.cells (bsv zeroN).toArray 30)).heap.size = w.heap.size + 1 + 1 := by simp [hs1]
  have hA2 := hA1.old (.cells (bsv zeroN).toArray 30)
  have hB2 : Below w.heap.size w (w1.alloc (.cells (bsv zeroN).toArray 30)) := hB1.trans ((below1 w1 _).mono (by omega))
  intro w3 hR3 hg3
  have hN3 := hN2.grown hg3 (by simp)
  have hA3 := hA2.grown hg3 (by simp)
  have hB3 := hB2.grown hg3 hB2.size (by intro j hj; cases hj)
  clear hN2 hA2 hB2 hg3 hA1 hB1 hs1
  go_wp2
  go_loopw [6] (fun i wr => ∃ k : Nat, k ≤ 18 ∧ i = .int .i64 (k : Int) ∧ Blk wr (w.heap.size + 1 + 1) 30 (bsv ((row (oend x) k).flatten ++ zeros (18 - k))).toArray ∧ Blk wr w.heap.size 30 (bsv x).toArray ∧ Blk wr (w.heap.size + 1) 30 (bsv zeroN).toArray ∧ Below w.heap.size w wr) (fun i _ => 18 - (intOf i).toNat)
  case atStart => exact ⟨0, by omega, rfl, hR3, hA3, hN3, hB3⟩
  case round =>
    obtain ⟨k, hk, rfl, hR, hA, hN, hB⟩ := hrel
    have hz := hR.lt
    have hL : (row (oend x) k).flatten.length = k * 8 := by rw [flatten_len (row_isN (oend_isN x) k), row_len]
    by_cases hlt : k < 18
    · have hlt' : (k : Int) < 18 := by omega
      have hs : Hid ((row (oend x) (k + 1)).flatten ++ zeros (18 - (k + 1)) = (row (oend x) k).flatten ++ owalk 15 k 0 (ostart x k) ++ zeros (18 - (k + 1))) := by
        show _ = _
        rw [row_succ, List.flatten_append, List.flatten_singleton]; rfl
      rw [show 18 - k = (18 - (k + 1)) + 1 by omega, zeros_succ, ← List.append_assoc] at hR
      have hE := Lib.hid (owalk_isN 15 k 0 _ (ostart_isN x k))
      have ST := Lib.hid (fun w => start_any x k w HX.out ⟨by omega, by omega⟩)
      have WK := Lib.hid (fun w => walk_any 15 (ostart x k) k 0 15 w (ostart_isN x k) ⟨by omega, by omega⟩ (by omega) (by omega) (by omega))
      generalize owalk 15 k 0 (ostart x k) = e at *
      generalize ostart x k = s at *
      generalize (row (oend x) k).flatten = A at *
      generalize hBz : zeros (18 - (k + 1)) = B at *
      have HBZ := Lib.hid hBz
      clear hBz
      have hzb := hB.size
      go_wp2_with (first
        | (refine wpList_load_name _ rfl (.tmp 1) rfl w.heap.size rfl _ _ hA HX.out.1 ?_)
        | (go_at_call 214; refine (ST.out _).mono ?_; rintro e1 w4 ⟨rfl, hB4⟩)
        | (go_at_call 210; refine (WK.out _).mono ?_; rintro e1 w5 ⟨rfl, hB5⟩; have hB45 := hB4.trans (hB5.mono hB4.size); have hR5 := hR.below hB45 hz; have hA5 := hA.below hB45 (by omega); have hN5 := hN.below hB45 (by omega))
        | (refine wpList_store_next _ rfl (.tmp 16) (.tmp 15) rfl (w.heap.size + 1 + 1) (k * 8) rfl _ rfl hE.out.1 A B zeroN hL rfl _ hR5 ?_; intro w6 hR6 hg6; have hA6 := hA5.grown hg6 (fun e => by injection e; omega); have hN6 := hN5.grown hg6 (fun e => by injection e; omega); have hV6 := (hB.trans (hB45.mono hzb)).grown hg6 (hB.trans (hB45.mono hzb)).size (by intro j hj; cases hj; omega)))
      go_roundw
      case rel =>
        refine ⟨k + 1, by omega, by go_num, ?_, hA6, hN6, hV6⟩
        rw [HBZ.out, hs.out]
        exact hR6
      case measure => simp [intOf]; omega
    · obtain rfl : k = 18 := by omega
      have hz0 : zeros (18 - 18) = [] := rfl
      rw [hz0, List.append_nil] at hR
      have hNs := Lib.hid (fun (n : Nat) (hn : n = 18) => Ns.whole (n := n) hR (row_isN (oend_isN x) 18) (by rw [row_len, hn]) (by omega))
      have hzb := hB.size
      have ho : opub x = oends (row (oend x) 18) := rfl
      have hlen := row_len (oend x) 18
      have HO := Lib.hid ho
      clear ho
      generalize row (oend x) 18 = L at *
      go_wp2_with (first
        | (go_at_call 211; refine (public_any L _ _ (hNs.out 18 rfl) (by omega) (by omega)).mono ?_; rintro e1 w5 ⟨rfl, hB5⟩)
        | (refine wpList_store_name _ rfl (.tmp 2) (.tmp 19) rfl (w.heap.size + 1) rfl _ rfl _ _ (hN.below hB5 (by omega)) rfl rfl ?_; intro w6 hN6 hg6))
      have hV5 := hB.trans (hB5.mono hzb)
      exact ret_name rfl (w.heap.size + 1) _ _ rfl rfl hN6 rfl ⟨by rw [HO.out], hV5.grown hg6 hV5.size (by intro j hj; cases hj; omega)⟩
end
section
open Go.RowKit

set_option maxHeartbeats 1000000 in
theorem ronepublic_any (x : List Int) (w : World) (hx : IsN x) :
    Calls Try.prog 151 #[nv x] w fun e w' => e = .returned (nv (opub x)) ∧ Below w.heap.size w w' := by
  have HX := Lib.hid hx
  clear hx
  go_enter Try.func151, Try.ntmps151
  go_wp2_with (refine wpList_box_name rfl (.tmp 0) rfl x rfl ?_; intro w1 hA1 hB1 hs1)
  have hN3 : Blk (w1.alloc (.cells (bsv zeroN).toArray 30)) (w.heap.size + 1) 30 (bsv zeroN).toArray := by rw [← hs1]; exact Blk.new _ _ _
  have hA3 := hA1.old (.cells (bsv zeroN).toArray 30)
  have hB3 : Below w.heap.size w (w1.alloc (.cells (bsv zeroN).toArray 30)) := hB1.trans ((below1 w1 _).mono (by omega))
  go_loopw [3, 4] (fun s i wr => ∃ k : Nat, k ≤ 18 ∧ i = .int .i64 (k : Int) ∧ OwN wr (w.heap.size + 1 + 1) s (row (oend x) k) ∧ Blk wr w.heap.size 30 (bsv x).toArray ∧ Blk wr (w.heap.size + 1) 30 (bsv zeroN).toArray ∧ Below w.heap.size w wr) (fun _ i _ => 18 - (intOf i).toNat)
  case atStart => exact ⟨0, by omega, rfl, OwN.nil _ _, hA3, hN3, hB3⟩
  case round =>
    obtain ⟨k, hk, rfl, hO, hA, hN, hB⟩ := hrel
    have hz := hN.lt
    have hzb := hB.size
    have hlen := row_len (oend x) k
    by_cases hlt : k < 18
    · have hlt' : (k : Int) < 18 := by omega
      have hs : Hid (row (oend x) (k + 1) = row (oend x) k ++ [owalk 15 k 0 (ostart x k)]) := row_succ _ _
      have hE := Lib.hid (owalk_isN 15 k 0 _ (ostart_isN x k))
      have ST := Lib.hid (fun w => rstart_any x k w HX.out ⟨by omega, by omega⟩)
      have WK := Lib.hid (fun w => Calls.lit8 (rwalk_any 15 (ostart x k) k 0 15 w (ostart_isN x k) ⟨by omega, by omega⟩ (by omega) (by omega) (by omega)) (owalk_isN 15 k 0 _ (ostart_isN x k)).1)
      generalize owalk 15 k 0 (ostart x k) = e at *
      generalize ostart x k = s at *
      generalize row (oend x) k = L at *
      go_wp2_with (first
        | (refine wpList_load_name _ rfl (.tmp 1) rfl w.heap.size rfl _ _ hA HX.out.1 ?_)
        | (go_at_call 154; refine (ST.out _).mono ?_; rintro e1 w4 ⟨rfl, hB4⟩)
        | (go_at_call 153; refine (WK.out _).mono ?_; rintro e1 w5 ⟨c0, c1, c2, c3, c4, c5, c6, c7, rfl, HC, hB5⟩; have hB45 := hB4.trans (hB5.mono hB4.size); have hO5 := hO.below hB45; have hA5 := hA.below hB45 (by omega); have hN5 := hN.below hB45 (by omega); have hB6 := hB.trans (hB45.mono hzb); have hz6 := hB45.size)
        | (at_builtin; refine wpList_app_ns _ rfl (.tmp 9) (.tmp 15) rfl (w.heap.size + 1 + 1) _ _ rfl (hO5.alloc _) _ [e] rfl (Sl.oneL (Blk.cells8 HC.out) hE.out.1) (by simp; omega) (by simp; omega) ?_; refine hold ?_))
      refine Lib.hid ?_
      intro v7 w7 hO7 hg7
      have hB7 := (OwN.base (hO5.alloc _) (show w.heap.size ≤ w.heap.size + 1 + 1 by omega)).below_grown (hB6.alloc hB6.size _) (by simp; omega) hg7
      have hA7 := (hA5.old _).grown hg7 (hO5.ne (by omega))
      have hN7 := (hN5.old _).grown hg7 (hO5.ne (by omega))
      go_wp2
      go_roundw
      case rel =>
        refine ⟨k + 1, by omega, by go_num, ?_, hA7, hN7, hB7⟩
        rw [hs.out]
        exact hO7
      case measure => simp [intOf]; omega
    · obtain rfl : k = 18 := by omega
      have HO : Hid (opub x = oends (row (oend x) 18)) := rfl
      have HR := Lib.hid (row_isN (oend_isN x) 18)
      generalize row (oend x) 18 = L at *
      go_wp2_with (first
        | (go_at_call 159; refine (rpublic_any L _ _ (hO.ns (by omega) HR.out) (by omega) (by omega)).mono ?_; rintro e1 w5 ⟨rfl, hB5⟩)
        | (refine wpList_store_name _ rfl (.tmp 2) (.tmp 18) rfl (w.heap.size + 1) rfl _ rfl _ _ (hN.below hB5 (by omega)) rfl rfl ?_; intro w6 hN6 hg6))
      have hV5 := hB.trans (hB5.mono hzb)
      exact ret_name rfl (w.heap.size + 1) _ _ rfl rfl hN6 rfl ⟨by rw [HO.out], hV5.grown hg6 hV5.size (by intro j hj; cases hj; omega)⟩
end
end Go.Proofs.Ytilhceihelcdgaa
