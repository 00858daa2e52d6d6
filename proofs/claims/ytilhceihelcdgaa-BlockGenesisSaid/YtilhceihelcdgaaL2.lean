/-
  append to a slice without spare room: it always moves to a new array.
-/
import Derived.Test.YtilhceihelcdgaaL
import Derived.Deep.RegionLawGrows
namespace Go.Proofs.Ytilhceihelcdgaa
open Go.RowKit

theorem wp_grow {P : Program} (w : World) {o : Oper} {a : Act} {K : Act → World → Prop} {Q : Exit → Act → World → Prop} (hgd : o.guard = none) (s x : Operand) (t : TypeId)
    (ho : o.op = .call { callee := .builtin .append, args := #[s, x], argTypes := #[t, t] })
    (e : TypeId) (z : Value) (size bytes : Nat) (ht : P.underlying t = some (.slice e)) (hi : (P.info? e).map (fun i => (i.zero, i.size, i.bytes)) = some (some z, size, bytes)) (hzs : z.cells.size = size) (hsz : 0 < size)
    (dv : Value) (n : Nat) (cs : List Value) (hs : a.eval s = dv) (hd : Sl w dv size n cs) (hdc : ∀ ao k c, dv = .slice ao k c → c = n)
    (sv : Value) (m : Nat) (news : List Value) (hx : a.eval x = sv) (hsl : Sl w sv size m news) (hm : 0 < m) (h1 : ∀ u ∈ news, u.oneCell' = true)
    (hbytes : (n + m) * bytes ≤ 140737488355328) (hb1 : 0 < bytes)
    (h : ∀ v' w', w'.ownsRow w.heap.size e size v' (n + m) (cs ++ news) → w.grownBy w' none → K (a.put o.dst v') w') : o.wp P a w K Q := by
  obtain ⟨i, hi, hz0, hz1, hz2⟩ := info_parts hi
  have hnm : n + m ≤ 140737488355328 := Nat.le_trans (Nat.le_mul_of_pos_right _ hb1) hbytes
  obtain ⟨ao, cap, rfl, d1, d2, d3, d4, d5, d6⟩ := id hd
  obtain rfl := hdc _ _ _ rfl
  obtain ⟨ad, c, rfl, g1, g2, g3, g4, g5, g6⟩ := id hsl
  obtain ⟨b', o', rfl, _⟩ := g6 hm
  have hw : Region.wanted o (yielded #[] a.tmps) = true := by simp [Region.wanted, hgd]
  have hall : ∀ b, ao = some b → ∀ j u, cs[j]? = some u → w.cell? (b.add j) = some u := by
    rintro b rfl
    rcases Nat.eq_zero_or_pos cap with h0 | hn
    · have hnil : cs = [] := List.eq_nil_of_length_eq_zero (by rw [d5, h0]; omega)
      subst hnil
      intro j u hu
      simp at hu
    · obtain ⟨b2, o2, hbo, _⟩ := d6 hn
      cases hbo
      exact hd.news
  have := step_append_grows (P := P) (ops := #[]) (o := o) (a := a) (w := w) (K := K) (Q := Q) (E := True) hgd s x t ho e i z size bytes ht hi hz0 hz1 hz2 hzs hsz ao cap cap cs hs (fun e => ⟨by have := d3 e; omega, d3 e⟩) d5 hall _ m c news hx g5 hsl.news h1 (by omega) (by unfold maxLen; omega) hbytes h
  rwa [if_pos hw] at this

theorem wpList_grow_bs (w : World) {ops : Array Oper} {rest : List Oper} {o : Oper} {a : Act} {Q : Exit → Act → World → Prop} (hgd : o.guard = none) (s x : Operand)
    (ho : o.op = .call { callee := .builtin .append, args := #[s, x], argTypes := #[22, 22] })
    (dv : Value) (X : List Int) (hs : a.eval s = dv) (hd : Sl w dv 1 X.length (bsv X)) (hdc : ∀ ao k c, dv = .slice ao k c → c = X.length) (sv : Value) (l : List Int) (hx : a.eval x = sv) (hsl : Sl w sv 1 l.length (bsv l)) (hm : 0 < l.length)
    (hbytes : X.length + l.length ≤ 140737488355328)
    (h : ∀ v' w', OwB w' w.heap.size v' (X ++ l) → w.grownBy w' none → wpList Try.prog ops Q rest (a.put o.dst v') w') : wpList Try.prog ops Q (o :: rest) a w := by
  refine wpList_plain hgd fun K hK => wp_grow w hgd s x _ ho 5 (.int .u8 0) 1 1 un_bytes info_u8 rfl (by decide) dv _ _ hs hd hdc sv _ _ hx hsl hm (bsv_one _) (by omega) (by decide) fun v' w' h1 h2 => hK _ _ (h v' w' ?_ h2)
  unfold OwB
  rw [List.length_append, bsv_append]
  exact h1
theorem step_grow_bs {w : World} {ops : Array Oper} {o : Oper} {a : Act} {K : Act → World → Prop} {Q : Exit → Act → World → Prop} {E : Prop} (hgd : o.guard = none) (s x : Operand)
    (ho : o.op = .call { callee := .builtin .append, args := #[s, x], argTypes := #[22, 22] })
    (dv : Value) (X : List Int) (hs : a.eval s = dv) (hd : Sl w dv 1 X.length (bsv X)) (hdc : ∀ ao k c, dv = .slice ao k c → c = X.length) (sv : Value) (l : List Int) (hx : a.eval x = sv) (hsl : Sl w sv 1 l.length (bsv l)) (hm : 0 < l.length)
    (hbytes : X.length + l.length ≤ 140737488355328)
    (h : ∀ v' w', OwB w' w.heap.size v' (X ++ l) → w.grownBy w' none → K (a.put o.dst v') w') : if Region.wanted o (yielded ops a.tmps) = true then o.wp Try.prog a w K Q else E := by
  rw [if_pos (by simp [Region.wanted, hgd])]
  refine wp_grow w hgd s x _ ho 5 (.int .u8 0) 1 1 un_bytes info_u8 rfl (by decide) dv _ _ hs hd hdc sv _ _ hx hsl hm (bsv_one _) (by omega) (by decide) fun v' w' h1 h2 => h v' w' ?_ h2
  unfold OwB
  rw [List.length_append, bsv_append]
  exact h1
theorem step_grow_ns {w : World} {ops : Array Oper} {o : Oper} {a : Act} {K : Act → World → Prop} {Q : Exit → Act → World → Prop} {E : Prop} (hgd : o.guard = none) (s x : Operand)
    (ho : o.op = .call { callee := .builtin .append, args := #[s, x], argTypes := #[65, 65] })
    (dv : Value) (X : List (List Int)) (hs : a.eval s = dv) (hd : Sl w dv 8 X.length (bsv X.flatten)) (hdc : ∀ ao k c, dv = .slice ao k c → c = X.length) (sv : Value) (L : List (List Int)) (hx : a.eval x = sv) (hsl : Sl w sv 8 L.length (bsv L.flatten)) (hm : 0 < L.length)
    (hbytes : (X.length + L.length) * 8 ≤ 140737488355328)
    (h : ∀ v' w', OwN w' w.heap.size v' (X ++ L) → w.grownBy w' none → K (a.put o.dst v') w') : if Region.wanted o (yielded ops a.tmps) = true then o.wp Try.prog a w K Q else E := by
  rw [if_pos (by simp [Region.wanted, hgd])]
  refine wp_grow w hgd s x _ ho 30 (nv zeroN) 8 8 un_names info_name rfl (by decide) dv _ _ hs hd hdc sv _ _ hx hsl hm (bsv_one _) hbytes (by decide) fun v' w' h1 h2 => h v' w' ?_ h2
  unfold OwN
  rw [List.length_append, List.flatten_append, bsv_append]
  exact h1
end Go.Proofs.Ytilhceihelcdgaa
