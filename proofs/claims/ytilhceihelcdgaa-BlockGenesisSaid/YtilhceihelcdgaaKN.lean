/-
  Names laid behind bytes, and names read out of bytes: the reference's.
  Names read out of bytes.
  Names read out of bytes: manytime's.
-/
import Derived.Test.YtilhceihelcdgaaK3
import Derived.Test.YtilhceihelcdgaaU
namespace Go.Proofs.Ytilhceihelcdgaa
section
open Go.RowKit

set_option maxHeartbeats 1000000 in
theorem rnames_any (l : List Int) (L : List (List Int)) (v0 v : Value) (base : Nat) (w : World) (hO0 : OwB w base v0 l) (hb : base ≤ w.heap.size) (h : Ns w v L) (hn : 0 < L.length) (hL : L.length ≤ 1000) (hl : l.length ≤ 100000)
    (hK : ∀ w', Below base w w' → Ns w' v L) :
    Calls Try.prog 83 #[v0, v] w fun e w' => ∃ v', e = .returned v' ∧ OwB w' base v' (l ++ L.flatten) ∧ Below base w w' := by
  have HK := Lib.hid hK
  have hN := h.2
  obtain ⟨b, o, cap, rfl, hnc, hcm⟩ := h.bds hn
  have HN := Lib.hid hN
  have HO := Lib.hid hO0
  clear h hK hN hO0
  go_enter Try.func83, Try.ntmps83
  go_wp2
  go_loopw [0, 5] (fun s i wr => ∃ k : Nat, k ≤ L.length ∧ i = .int .i64 (k : Int) ∧ OwB wr base s (l ++ (L.take k).flatten) ∧ Below base w wr) (fun _ i _ => L.length - (intOf i).toNat)
  case atStart => exact ⟨0, by omega, rfl, by simpa using HO.out, Below.refl _ _⟩
  case round =>
    obtain ⟨k, hk, rfl, hO, hB⟩ := hrel
    have hXl := flatten_take_le HN.out k
    have hz := hB.size
    by_cases hlt : k < L.length
    · have hlt' : (k : Int) < (L.length : Int) := by omega
      obtain ⟨hc, hx⟩ := (HK.out wr hB).at rfl k hlt
      have HC := Lib.hid hc
      have HX := Lib.hid hx
      have hs := Lib.hid (flatten_take_succ L k hlt)
      generalize L.getD k [] = x at *
      generalize (L.take k).flatten = X at *
      clear hc hx
      go_wp2_with (at_builtin; refine hold ?_)
      refine Lib.hid ?_
      refine wpList_app_bs _ rfl (.tmp 12) (.tmp 16) rfl base _ _ rfl hO _ x rfl (Sl.mid HC.out HX.out) (by rw [HX.out.1, List.length_append]; omega) (by omega) ?_
      intro v3 w3 hO3 hg3
      have hB3 := hO.below_grown hB (by omega) hg3
      go_wp2
      go_roundw
      case rel =>
        refine ⟨k + 1, by omega, by go_num, ?_, hB3⟩
        rw [hs.out, ← List.append_assoc]
        exact hO3
      case measure => simp [intOf]; omega
    · obtain rfl : k = L.length := by omega
      rw [List.take_length] at hO
      go_wp2
      go_ret
      exact ⟨_, rfl, hO, hB⟩
end
section
open Go.RowKit

theorem ofU_num {l : List Int} (h : IsN l) : ofU (numOf l) = l := by
  obtain ⟨c0, c1, c2, c3, c4, c5, c6, c7, rfl, ⟨⟨_, _⟩, ⟨_, _⟩, ⟨_, _⟩, ⟨_, _⟩⟩, ⟨_, _⟩, ⟨_, _⟩, ⟨_, _⟩, ⟨_, _⟩⟩ := h.cases
  simp only [numOf, List.foldl_cons, List.foldl_nil, ofU, List.cons.injEq, and_true]
  refine ⟨?_, ?_, ?_, ?_, ?_, ?_, ?_, ?_⟩ <;> omega
theorem numOf_u64 {l : List Int} (h : IsN l) : U64 (numOf l) := by
  have := numOf_bd l h.2
  rw [h.1] at this
  exact ⟨this.1, by have := this.2; simpa using this⟩
theorem cut_isN {l : List Int} (h : Byt l) (p : Nat) (hp : p + 8 ≤ l.length) : IsN (cut l p 8) := ⟨cut_len _ _ _ hp, cut_byt h p 8⟩
/-- n names of l from place p. -/
def namesAt (l : List Int) (p : Nat) : Nat → List (List Int) := row fun k => cut l (p + 8 * k) 8
theorem namesAt_isN {l : List Int} (h : Byt l) (p n : Nat) (hp : p + 8 * n ≤ l.length) : ∀ x ∈ namesAt l p n, IsN x := by
  intro x hx
  obtain ⟨k, hk, rfl⟩ := List.mem_map.1 hx
  have := List.mem_range.1 hk
  exact cut_isN h _ (by omega)

set_option maxHeartbeats 1000000 in
theorem rlist_any (l : List Int) (v : Value) (p n : Nat) (w : World) (h : Bs w v l) (hp : p + 8 * n ≤ l.length) (hn : n ≤ 1000) :
    Calls Try.prog 89 #[v, .int .i64 p, .int .i64 n] w fun e w' => ∃ v', e = .returned v' ∧ OwN w' w.heap.size v' (namesAt l p n) ∧ Below w.heap.size w w' := by
  have HS := Lib.hid h
  have hl47 : l.length ≤ 140737488355328 := by obtain ⟨_, _, _, _, _, _, h4, _⟩ := h.1; exact h4
  clear h
  go_enter Try.func89, Try.ntmps89
  go_wp2
  go_loopw [7, 8] (fun s i wr => ∃ k : Nat, k ≤ n ∧ i = .int .i64 (k : Int) ∧ OwN wr w.heap.size s (namesAt l p k) ∧ Below w.heap.size w wr) (fun _ i _ => n - (intOf i).toNat)
  case atStart => exact ⟨0, by omega, rfl, OwN.nil _ _, Below.refl _ _⟩
  case round =>
    obtain ⟨k, hk, rfl, hO, hB⟩ := hrel
    have hz := hB.size
    have hlen : (namesAt l p k).length = k := row_len _ _
    by_cases hlt : k < n
    · have hlt' : (k : Int) < (n : Int) := by omega
      have hs : Hid (namesAt l p (k + 1) = namesAt l p k ++ [cut l (p + 8 * k) 8]) := row_succ _ _
      have hN := cut_isN HS.out.2 (p + 8 * k) (by omega)
      have hE := Lib.hid hN
      have UI := Lib.hid (ruint_yes l v ((p : Int) + 8 * (k : Int)) 8 wr (HS.out.below hB) (by omega) (by omega) (by omega) (by omega))
      have hto : (((p : Int) + 8 * (k : Int)).toNat) = p + 8 * k := by omega
      rw [hto] at UI
      have OF := Lib.hid (fun w => Calls.lit8 (rof_any (numOf (cut l (p + 8 * k) 8)) w (numOf_u64 hN)) rfl)
      have hof := ofU_num hN
      rw [hof] at OF
      have h8 : (8 : Int).toNat = 8 := rfl
      rw [h8] at UI
      generalize numOf (cut l (p + 8 * k) 8) = u at *
      generalize cut l (p + 8 * k) 8 = e at *
      generalize namesAt l p k = L at *
      clear hN hof hto h8
      go_wp2_with (first
        | (go_at_call 160; refine UI.out.mono ?_; rintro e1 w4 ⟨rfl, rfl⟩)
        | (go_at_call 161; refine (OF.out _).mono ?_; rintro e1 w5 ⟨c0, c1, c2, c3, c4, c5, c6, c7, rfl, HC, hB5⟩; have hO5 := hO.below hB5; have hB6 := hB.trans (hB5.mono hz); have hz6 := hB5.size)
        | (at_builtin; refine wpList_app_ns _ rfl (.tmp 25) (.tmp 28) rfl w.heap.size _ _ rfl (hO5.alloc _) _ [e] rfl (Sl.oneL (Blk.cells8 HC.out) hE.out.1) (by simp; omega) (by simp; omega) ?_; refine hold ?_))
      refine Lib.hid ?_
      intro v7 w7 hO7 hg7
      have hB7 := (hO5.alloc _).below_grown (hB6.alloc hB6.size _) (by simp; omega) hg7
      go_wp2
      go_roundw
      case rel => exact ⟨k + 1, by omega, by go_num, by rw [hs.out]; exact hO7, hB7⟩
      case measure => simp [intOf]; omega
    · obtain rfl : k = n := by omega
      go_wp2
      go_ret
      exact ⟨_, rfl, hO, hB⟩
end
section
open Go.RowKit

theorem splice_name (A M B l : List Int) (hM : M.length = 8) (hl : 8 ≤ l.length) : splice (bsv (A ++ M ++ B)) A.length (bsv (l.take 8)) = bsv (A ++ l.take 8 ++ B) := by
  unfold splice
  rw [bsv_length, List.length_take, Nat.min_eq_left hl, bsv_append, bsv_append, bsv_append, bsv_append, List.append_assoc, List.take_left' (bsv_length A)]
  rw [← List.append_assoc (bsv A) (bsv M) (bsv B), List.drop_left' (by rw [List.length_append, bsv_length, bsv_length, hM]), List.append_assoc]

/-- copy of eight bytes into a name in the middle of a block. -/
theorem step_copy_mid {w : World} {ops : Array Oper} {o : Oper} {a : Act} {K : Act → World → Prop} {Q : Exit → Act → World → Prop} {E : Prop} (hgd : o.guard = none) (d s : Operand)
    (ho : o.op = .call { callee := .builtin .copy, args := #[d, s], argTypes := #[22, 22] })
    (sv : Value) (l : List Int) (hs : a.eval s = sv) (hsl : Sl w sv 1 l.length (bsv l)) (h8 : 8 ≤ l.length) (g off dCap : Nat) (hd : a.eval d = .slice (some ⟨g, off, none⟩) 8 dCap)
    (A M B : List Int) (hA : A.length = off) (hM : M.length = 8) (t : TypeId) (hg : Blk w g t (bsv (A ++ M ++ B)).toArray)
    (h : ∀ w', Blk w' g t (bsv (A ++ l.take 8 ++ B)).toArray → Below g w w' → K (a.put o.dst (.int .i64 8)) w') :
    if Region.wanted o (yielded ops a.tmps) = true then o.wp Try.prog a w K Q else E := by
  subst hA
  refine step_copy_bs hgd d s ho sv l hs hsl g A.length 8 dCap hd (bsv (A ++ M ++ B)) t hg (by rw [bsv_length, List.length_append, List.length_append, hM]; omega) g w (Below.refl _ _) (Nat.le_refl _) fun w' h1 h2 => ?_
  rw [splice_name A M B l hM h8] at h1
  rw [Nat.min_eq_right h8]
  exact h w' h1 h2

set_option maxHeartbeats 2000000 in
theorem names_any (l : List Int) (v : Value) (p n : Nat) (w : World) (h : Bs w v l) (hp : p + 8 * n ≤ l.length) (hn : n = 18 ∨ n = 5) :
    Calls Try.prog 157 #[v, .int .i64 p, .int .i64 n] w fun e w' => ∃ b, e = .returned (.slice (some ⟨b, 0, none⟩) n n) ∧ Blk w' b 30 (bsv (namesAt l p n).flatten).toArray ∧ w.heap.size ≤ b ∧ Below w.heap.size w w' := by
  have HS := Lib.hid h
  have hz : (madeCells (nv zeroN).cells (n * 8)).toList = bsv (zeros n) := by rcases hn with rfl | rfl <;> kernel_rfl
  have hn2 : 0 < n ∧ n ≤ 18 := by omega
  obtain ⟨a, cap, rfl, hnc, hcm, _, hl47, _, hcc⟩ := id h.1
  obtain ⟨b, o, rfl, _⟩ := hcc (by omega)
  unfold maxLen at hcm
  clear h hcc hn
  obtain ⟨_, _⟩ := hn2
  go_enter Try.func157, Try.ntmps157
  go_wp2_with (refine wpList_make_ns _ rfl (.tmp 9) (.tmp 9) rfl n rfl rfl (by omega) hz ?_; refine hold ?_)
  refine Lib.hid ?_
  intro w1 hR1 hg1
  have hB1 := Below.of_grown hg1 (Nat.le_refl _)
  go_wp2
  go_loopw [13] (fun i wr => ∃ k : Nat, k ≤ n ∧ i = .int .i64 (k : Int) ∧ Blk wr w.heap.size 30 (bsv ((namesAt l p k).flatten ++ zeros (n - k))).toArray ∧ Below w.heap.size w wr) (fun i _ => n - (intOf i).toNat)
  case atStart => exact ⟨0, by omega, rfl, hR1, hB1⟩
  case round =>
    obtain ⟨k, hk, rfl, hR, hB⟩ := hrel
    have hzr := hR.lt
    by_cases hlt : k < n
    · have hlt' : (k : Int) < (n : Int) := by omega
      have hs : Hid ((namesAt l p (k + 1)).flatten ++ zeros (n - (k + 1)) = (namesAt l p k).flatten ++ (l.drop (p + 8 * k)).take 8 ++ zeros (n - (k + 1))) := by
        show _ = _
        unfold namesAt
        rw [row_succ, List.flatten_append, List.flatten_singleton]; rfl
      have hA8 : (namesAt l p k).flatten.length = k * 8 := by rw [flatten_len (namesAt_isN HS.out.2 p k (by omega))]; exact congrArg (· * 8) (row_len _ _)
      rw [show n - k = (n - (k + 1)) + 1 by omega, zeros_succ, ← List.append_assoc] at hR
      have hD := (Bs.drop HS.out (p + 8 * k) (by omega)).below hB
      have HD := Lib.hid hD
      have hdl : 8 ≤ (l.drop (p + 8 * k)).length := by rw [List.length_drop]; omega
      have a1 : IntKind.i64.wrap ((k : Int) * 8) = (k : Int) * 8 := by rw [IntKind.wrap_i64]; omega
      have a2 : IntKind.i64.wrap ((p : Int) + (k : Int) * 8) = (p : Int) + (k : Int) * 8 := by rw [IntKind.wrap_i64]; omega
      have a3 : ((p : Int) + (k : Int) * 8).toNat = p + 8 * k := by omega
      have a4 : (p : Int) + (k : Int) * 8 ≤ (l.length : Int) := by omega
      have a6 : (cap = p + 8 * k) = False := by simp; omega
      have a5 : 0 ≤ (p : Int) + (k : Int) * 8 := by omega
      generalize (namesAt l p k).flatten = A at *
      generalize hBz : zeros (n - (k + 1)) = Z at *
      have HBZ := Lib.hid hBz
      clear hBz hD
      have HR := Lib.hid hR
      have HA8 := Lib.hid hA8
      have Hdl := Lib.hid hdl
      clear hR hA8 hdl
      go_wp2_with fail
      go_region_law (refine step_copy_mid rfl (.tmp 19) (.tmp 25) rfl (.slice (some ⟨b, o + (p + 8 * k), none⟩) (l.length - (p + 8 * k)) (cap - (p + 8 * k))) (l.drop (p + 8 * k)) (by go_simp) (by exact HD.out.1.drew) Hdl.out w.heap.size (k * 8) 8 (by go_simp) A zeroN Z HA8.out rfl _ (by exact HR.out.drew) ?_; intro w5 hR5 hB5)
      all_goals
        have hV5 := hB.drew.trans (hB5.mono (Nat.le_refl _))
        go_wp2
        go_roundw
        case rel =>
          refine ⟨k + 1, by omega, by go_num, ?_, hV5⟩
          rw [HBZ.out, hs.out]
          exact hR5
        case measure => simp [intOf]; omega
    · obtain rfl : k = n := by omega
      rw [Nat.sub_self, show zeros 0 = [] from rfl, List.append_nil] at hR
      go_wp2
      go_ret
      exact ⟨_, rfl, hR, Nat.le_refl _, hB⟩
end
end Go.Proofs.Ytilhceihelcdgaa
