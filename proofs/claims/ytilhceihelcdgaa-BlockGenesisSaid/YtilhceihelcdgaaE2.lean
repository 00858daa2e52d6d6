/-
  append to a []byte that the call owns, with the place of what comes back; names laid behind bytes, with that frame.
-/
import Derived.Test.YtilhceihelcdgaaKN
import Derived.Test.YtilhceihelcdgaaU
import Derived.Maps.AppendAt
namespace Go.Proofs.Ytilhceihelcdgaa
open Go.RowKit

/-- Where an owned slice may lie after an append at w: where it lay, or in a new block. -/
def Lies (w : World) (v v' : Value) : Prop := v'.ownBlock = v.ownBlock ∨ ∃ g, v'.ownBlock = some g ∧ w.heap.size ≤ g
theorem Lies.refl (w : World) (v : Value) : Lies w v v := .inl rfl
theorem Lies.step {w0 w1 : World} {v v1 v2 : Value} (h : Lies w0 v v1) (k : Lies w1 v1 v2) (hz : w0.heap.size ≤ w1.heap.size) : Lies w0 v v2 := by
  rcases k with k | ⟨g, k1, k2⟩
  · rcases h with h | ⟨g, h1, h2⟩
    · exact .inl (k.trans h)
    · exact .inr ⟨g, k.trans h1, h2⟩
  · exact .inr ⟨g, k1, by omega⟩
theorem Lies.grown {w0 w1 w2 : World} {v v1 : Value} (h : Lies w0 v v1) (g : w0.grownBy w1 v.ownBlock) (k : w1.grownBy w2 v1.ownBlock) : w0.grownBy w2 v.ownBlock := by
  rcases h with h | ⟨b, h1, h2⟩
  · rw [h] at k; exact grown_trans g k
  · rw [h1] at k; exact grown_own g k h2
/-- A slice that reads elsewhere keeps what it reads. -/
theorem Sl.grown {w w' : World} {v : Value} {sz n : Nat} {cs : List Value} {r : Option Nat} (h : Sl w v sz n cs) (g : w.grownBy w' r) (hb : ∀ a m c, v = .slice (some a) m c → some a.block ≠ r) : Sl w' v sz n cs := by
  obtain ⟨a, cap, h1, h2, h3, h0, h4, h5, h6⟩ := h
  refine ⟨a, cap, h1, h2, h3, h0, h4, h5, fun hn => ?_⟩
  obtain ⟨b, o, hbo, hc⟩ := h6 hn
  refine ⟨b, o, hbo, fun j hj => ?_⟩
  have h7 := hc j hj
  have hlt : b < w.heap.size := by
    have : cs[j]? = some (cs[j]'(by omega)) := List.getElem?_eq_getElem _
    rw [this] at h7
    exact World.block_lt_of_cell? _ _ h7
  subst hbo
  have h8 := g.block b hlt (hb _ _ _ h1)
  rw [← h7]
  unfold World.cell?
  simp [h8]
theorem Ns.grown {w w' : World} {v : Value} {L : List (List Int)} {r : Option Nat} (h : Ns w v L) (g : w.grownBy w' r) (hb : ∀ a m c, v = .slice (some a) m c → some a.block ≠ r) : Ns w' v L := ⟨h.1.grown g hb, h.2⟩

theorem wp_app_at {P : Program} (w : World) {o : Oper} {a : Act} {K : Act → World → Prop} {Q : Exit → Act → World → Prop} (s x : Operand) (t : TypeId)
    (ho : o.op = .call { callee := .builtin .append, args := #[s, x], argTypes := #[t, t] })
    (base : Nat) (e : TypeId) (z : Value) (size bytes : Nat) (ht : P.underlying t = some (.slice e)) (hi : (P.info? e).map (fun i => (i.zero, i.size, i.bytes)) = some (some z, size, bytes)) (hzs : z.cells.size = size) (hsz : 0 < size)
    (v : Value) (n : Nat) (xs : List Value) (hs : a.eval s = v) (hown : w.ownsRow base e size v n xs)
    (sv : Value) (m : Nat) (news : List Value) (hx : a.eval x = sv) (hsl : Sl w sv size m news) (h1 : ∀ u ∈ news, u.oneCell' = true)
    (hbytes : (n + m) * bytes ≤ 140737488355328) (hb1 : 0 < bytes) (hbase : base ≤ w.heap.size)
    (h : ∀ v' w', w'.ownsRow base e size v' (n + m) (xs ++ news) → w.grownBy w' v.ownBlock → Lies w v v' → K (a.put o.dst v') w') : o.wp P a w K Q := by
  obtain ⟨i, hi, hz0, hz1, hz2⟩ := info_parts hi
  have hnm : n + m ≤ 140737488355328 := Nat.le_trans (Nat.le_mul_of_pos_right _ hb1) hbytes
  have hml : n + m ≤ maxLen := by unfold maxLen; omega
  obtain ⟨ad, cap, rfl, g1, g2, g3, g4, g5, g6⟩ := id hsl
  cases ad with
  | none =>
    obtain rfl := g3 rfl
    obtain rfl : m = 0 := by omega
    have hnil : news = [] := List.eq_nil_of_length_eq_zero (by omega)
    subst hnil
    have hrun := run_append_owned_none (P := P) (w := w) base t o.type e i size ht hi v n xs hown
    unfold Oper.wp
    simp [execOp, ho, resolve, invoke, builtin, hs, hx, hrun, Result.andThen]
    exact h v w (by simpa using hown) (World.grownBy.refl _ _) (Lies.refl _ _)
  | some ad =>
    have hnews : ∀ j u, news[j]? = some u → w.cell? (ad.add j) = some u := by
      rcases Nat.eq_zero_or_pos m with rfl | hm
      · have hnil : news = [] := List.eq_nil_of_length_eq_zero (by omega)
        subst hnil
        intro j u hu
        simp at hu
      · obtain ⟨b, o, hbo, _⟩ := g6 hm
        cases hbo
        exact hsl.news
    obtain ⟨v', w', hr, h2, h3, _, h5⟩ := run_append_own_at (P := P) w base t o.type e i z size bytes ht hi hz0 hz1 hz2 hzs hsz v n xs hown ad m cap news g5 hnews h1 hml hbytes hbase
    unfold Oper.wp execOp
    simp only [ho, resolve, invoke, builtin, Sem.run_bind, Sem.run_pure, Result.andThen_ok, List.map_toArray, List.map_cons, List.map_nil, hs, hx, hr]
    exact h v' w' h2 h3 (h5.imp id fun e => ⟨_, e, Nat.le_refl _⟩)
theorem wp_app_bs_at (w : World) {o : Oper} {a : Act} {K : Act → World → Prop} {Q : Exit → Act → World → Prop} (s x : Operand)
    (ho : o.op = .call { callee := .builtin .append, args := #[s, x], argTypes := #[22, 22] })
    (base : Nat) (v : Value) (xs : List Int) (hs : a.eval s = v) (hown : OwB w base v xs) (sv : Value) (l : List Int) (hx : a.eval x = sv) (hsl : Sl w sv 1 l.length (bsv l))
    (hbytes : xs.length + l.length ≤ 140737488355328) (hbase : base ≤ w.heap.size)
    (h : ∀ v' w', OwB w' base v' (xs ++ l) → w.grownBy w' v.ownBlock → Lies w v v' → K (a.put o.dst v') w') : o.wp Try.prog a w K Q := by
  refine wp_app_at w s x _ ho base 5 (.int .u8 0) 1 1 un_bytes info_u8 rfl (by decide) v _ _ hs hown sv _ _ hx hsl (bsv_one _) (by omega) (by decide) hbase (fun v' w' h1 h2 h3 => h v' w' ?_ h2 h3)
  unfold OwB
  rw [List.length_append, bsv_append]
  exact h1
theorem wpList_app_bs_at (w : World) {ops : Array Oper} {rest : List Oper} {o : Oper} {a : Act} {Q : Exit → Act → World → Prop} (hgd : o.guard = none) (s x : Operand)
    (ho : o.op = .call { callee := .builtin .append, args := #[s, x], argTypes := #[22, 22] })
    (base : Nat) (v : Value) (xs : List Int) (hs : a.eval s = v) (hown : OwB w base v xs) (sv : Value) (l : List Int) (hx : a.eval x = sv) (hsl : Sl w sv 1 l.length (bsv l))
    (hbytes : xs.length + l.length ≤ 140737488355328) (hbase : base ≤ w.heap.size)
    (h : ∀ v' w', OwB w' base v' (xs ++ l) → w.grownBy w' v.ownBlock → Lies w v v' → wpList Try.prog ops Q rest (a.put o.dst v') w') : wpList Try.prog ops Q (o :: rest) a w :=
  wpList_plain hgd fun _ hK => wp_app_bs_at w s x ho base v xs hs hown sv l hx hsl hbytes hbase fun v' w' h1 h2 h3 => hK _ _ (h v' w' h1 h2 h3)

set_option maxHeartbeats 1000000 in
theorem rnames_st (l : List Int) (L : List (List Int)) (v0 v : Value) (w : World) (hO0 : OwB w 0 v0 l) (h : Ns w v L) (hn : 0 < L.length) (hL : L.length ≤ 1000) (hl : l.length ≤ 100000) (hne : ∀ a m c, v = .slice (some a) m c → some a.block ≠ v0.ownBlock) :
    Calls Try.prog 83 #[v0, v] w fun e w' => ∃ v', e = .returned v' ∧ OwB w' 0 v' (l ++ L.flatten) ∧ w.grownBy w' v0.ownBlock ∧ Lies w v0 v' := by
  have HK := Lib.hid (fun wr (g : w.grownBy wr v0.ownBlock) => h.grown g hne)
  have hN := h.2
  obtain ⟨b, o, cap, rfl, hnc, hcm⟩ := h.bds hn
  have HN := Lib.hid hN
  have HO := Lib.hid hO0
  clear h hN hO0 hne
  go_enter Try.func83, Try.ntmps83
  go_wp2
  go_loopw [0, 5] (fun s i wr => ∃ k : Nat, k ≤ L.length ∧ i = .int .i64 (k : Int) ∧ OwB wr 0 s (l ++ (L.take k).flatten) ∧ w.grownBy wr v0.ownBlock ∧ Lies w v0 s) (fun _ i _ => L.length - (intOf i).toNat)
  case atStart => exact ⟨0, by omega, rfl, by simpa using HO.out, grown_refl _ _, Lies.refl _ _⟩
  case round =>
    obtain ⟨k, hk, rfl, hO, hB, hLi⟩ := hrel
    have hXl := flatten_take_le HN.out k
    by_cases hlt : k < L.length
    · have hlt' : (k : Int) < (L.length : Int) := by omega
      obtain ⟨hc, hx⟩ := (HK.out wr hB).at rfl k hlt
      have HC := Lib.hid hc
      have HX := Lib.hid hx
      have hs := Lib.hid (flatten_take_succ L k hlt)
      generalize L.getD k [] = x at *
      generalize (L.take k).flatten = X at *
      have HLi := Lib.hid hLi
      clear hc hx hLi
      go_wp2_with (at_builtin; refine hold ?_)
      refine Lib.hid ?_
      refine wpList_app_bs_at _ rfl (.tmp 12) (.tmp 16) rfl 0 _ _ rfl hO _ x rfl (Sl.mid HC.out HX.out) (by rw [HX.out.1, List.length_append]; omega) (by omega) ?_
      intro v3 w3 hO3 hg3 hL3
      have hB3 := HLi.out.grown hB hg3
      have HL3 := Lib.hid (HLi.out.step hL3 hB.size)
      clear hL3 hg3
      go_wp2
      go_roundw
      case rel =>
        refine ⟨k + 1, by omega, by go_num, ?_, hB3, HL3.out⟩
        rw [hs.out, ← List.append_assoc]
        exact hO3
      case measure => simp [intOf]; omega
    · obtain rfl : k = L.length := by omega
      rw [List.take_length] at hO
      have HLi := Lib.hid hLi
      clear hLi
      go_wp2
      go_ret
      exact ⟨_, rfl, hO, hB, HLi.out⟩
end Go.Proofs.Ytilhceihelcdgaa
