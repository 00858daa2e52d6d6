/-
  A genesis is read: what a text holds, by places; from a text of another kind.
-/
import Derived.Test.YtilhceihelcdgaaG4
import Derived.Test.YtilhceihelcdgaaE2
import Derived.Test.YtilhceihelcdgaaB13
import Derived.Deep.DeepCutAuto
namespace Go.Proofs.Ytilhceihelcdgaa
open Go.RowKit

theorem numOf_beB6 {x : Int} (h0 : 0 ≤ x) (h1 : x ≤ 1099511627776) : numOf (beB x 6) = x := by
  simp [beB, numOf]
  omega
def encGd (n st : Int) (V A : List (List Int)) (B : List Int) : List Int := [n] ++ (beB st 6 ++ ([(V.length : Int)] ++ (V.flatten ++ ([(A.length : Int)] ++ (List.range A.length).flatMap (accB A B)))))
theorem encG_drop (n st : Int) (V A : List (List Int)) (B : List Int) : (encG n st V A B).drop 1 = encGd n st V A B := by simp [encG, encGh, encGd]
theorem flat_len8 {V : List (List Int)} (h : ∀ x ∈ V, IsN x) : V.flatten.length = V.length * 8 := by
  rw [List.length_flatten]
  induction V with
  | nil => rfl
  | cons x V ih => rw [List.map_cons, List.sum_cons, ih (fun y hy => h y (by simp [hy])), (h x (by simp)).1, List.length_cons]; omega
theorem flat_drop {V : List (List Int)} (h : ∀ x ∈ V, IsN x) : ∀ k, (hk : k < V.length) → V.flatten.drop (8 * k) = V[k] ++ (V.drop (k + 1)).flatten := by
  induction V with
  | nil => intro k hk; simp at hk
  | cons x V ih =>
    intro k hk
    cases k with
    | zero => simp
    | succ k =>
      have := ih (fun y hy => h y (by simp [hy])) k (by simpa using hk)
      rw [List.flatten_cons, show 8 * (k + 1) = x.length + 8 * k by rw [(h x (by simp)).1]; omega, ← List.drop_drop, List.drop_left, this]
      simp
theorem range_drop {A : List (List Int)} {B : List Int} (hA : ∀ x ∈ A, IsN x) (k : Nat) (hk : k < A.length) : ∃ r, ((List.range A.length).flatMap (accB A B)).drop (14 * k) = A[k] ++ (beB (idAt B k) 6 ++ r) := by
  have h1 : List.range A.length = List.range k ++ (k :: (List.range (A.length - (k + 1))).map (· + (k + 1))) := by
    apply List.ext_getElem
    · simp; omega
    · intro i h1 h2
      simp only [List.getElem_range, List.getElem_append, List.length_range]
      split
      · rfl
      · rename_i h3
        rw [List.getElem_cons]
        split
        · omega
        · simp; omega
  rw [h1, List.flatMap_append, show 14 * k = ((List.range k).flatMap (accB A B)).length by rw [range_len A B hA k (by omega)]; omega, List.drop_left, List.flatMap_cons, accB, List.getD_eq_getElem?_getD, List.getElem?_eq_getElem hk]
  exact ⟨_, by rw [Option.getD_some, List.append_assoc]⟩
theorem gd0 (n st : Int) (V A : List (List Int)) (B : List Int) : (encGd n st V A B).drop 0 = [n] ++ (encGd n st V A B).drop 1 := rfl
theorem gd1 (n st : Int) (V A : List (List Int)) (B : List Int) : ∃ r, (encGd n st V A B).drop 1 = beB st 6 ++ r := ⟨_, rfl⟩
theorem gd7 (n st : Int) (V A : List (List Int)) (B : List Int) : (encGd n st V A B).drop 7 = [(V.length : Int)] ++ (V.flatten ++ ([(A.length : Int)] ++ (List.range A.length).flatMap (accB A B))) := rfl
theorem gd8 (n st : Int) (V A : List (List Int)) (B : List Int) : (encGd n st V A B).drop 8 = V.flatten ++ ([(A.length : Int)] ++ (List.range A.length).flatMap (accB A B)) := rfl
theorem gdV {n st : Int} {V A : List (List Int)} {B : List Int} (hV : ∀ x ∈ V, IsN x) (k : Nat) (hk : k < V.length) : ∃ r, (encGd n st V A B).drop (8 + 8 * k) = V[k] ++ r := by
  rw [← List.drop_drop, gd8, List.drop_append_of_le_length (by rw [flat_len8 hV]; omega), flat_drop hV k hk]
  exact ⟨_, by rw [List.append_assoc]⟩
theorem gdA {n st : Int} {V A : List (List Int)} {B : List Int} (hV : ∀ x ∈ V, IsN x) : (encGd n st V A B).drop (8 + 8 * V.length) = [(A.length : Int)] ++ (List.range A.length).flatMap (accB A B) := by
  rw [← List.drop_drop, gd8, show 8 * V.length = V.flatten.length by rw [flat_len8 hV]; omega, List.drop_left]
theorem gdB {n st : Int} {V A : List (List Int)} {B : List Int} (hV : ∀ x ∈ V, IsN x) (hA : ∀ x ∈ A, IsN x) (k : Nat) (hk : k < A.length) : ∃ r, (encGd n st V A B).drop (9 + 8 * V.length + 14 * k) = A[k] ++ (beB (idAt B k) 6 ++ r) := by
  rw [show 9 + 8 * V.length + 14 * k = (8 + 8 * V.length) + (1 + 14 * k) by omega, ← List.drop_drop, gdA hV, ← List.drop_drop]
  exact range_drop hA k hk
theorem gd_len {n st : Int} {V A : List (List Int)} {B : List Int} (hV : ∀ x ∈ V, IsN x) (hA : ∀ x ∈ A, IsN x) : (encGd n st V A B).length = 9 + 8 * V.length + 14 * A.length := by
  have h1 := flat_len8 hV
  have h2 := range_len A B hA A.length (Nat.le_refl _)
  simp only [encGd, List.length_append, List.length_cons, List.length_nil, beB_len, h1, h2]
  omega
/-- append to a slice that the call owns, as one step of a region that draws its order; with the place of what comes back. -/
theorem step_app_at {w : World} {ops : Array Oper} {o : Oper} {a : Act} {K : Act → World → Prop} {Q : Exit → Act → World → Prop} {E : Prop} (hgd : o.guard = none) (s x : Operand) (t : TypeId)
    (ho : o.op = .call { callee := .builtin .append, args := #[s, x], argTypes := #[t, t] })
    (base : Nat) (e : TypeId) (z : Value) (size bytes : Nat) (ht : Try.prog.underlying t = some (.slice e)) (hi : (Try.prog.info? e).map (fun i => (i.zero, i.size, i.bytes)) = some (some z, size, bytes)) (hzs : z.cells.size = size) (hsz : 0 < size)
    (v : Value) (n : Nat) (xs : List Value) (hs : a.eval s = v) (hown : w.ownsRow base e size v n xs)
    (sv : Value) (m : Nat) (news : List Value) (hx : a.eval x = sv) (hsl : Sl w sv size m news) (h1 : ∀ u ∈ news, u.oneCell' = true)
    (hbytes : (n + m) * bytes ≤ 140737488355328) (hb1 : 0 < bytes) (hbase : base ≤ w.heap.size)
    (h : ∀ v' w', w'.ownsRow base e size v' (n + m) (xs ++ news) → w.grownBy w' v.ownBlock → Lies w v v' → K (a.put o.dst v') w') : if Region.wanted o (yielded ops a.tmps) = true then o.wp Try.prog a w K Q else E := by
  rw [if_pos (by simp [Region.wanted, hgd])]
  exact wp_app_at w s x t ho base e z size bytes ht hi hzs hsz v n xs hs hown sv m news hx hsl h1 hbytes hb1 hbase h
theorem gnv_one (n st : Int) (a b c : Value) (ha : a.oneCell' = true) (hb : b.oneCell' = true) (hc : c.oneCell' = true) : (gnv n st a b c).toArray.all (·.oneCell') = true := by
  rw [Array.all_eq_true_iff_forall_mem]
  intro x hx
  simp only [gnv, List.mem_toArray, List.mem_cons, List.not_mem_nil, or_false] at hx
  rcases hx with rfl | rfl | rfl | rfl | rfl
  · rfl
  · rfl
  · exact ha
  · exact hb
  · exact hc
def zeroGen : List Value := gnv 0 0 (.slice none 0 0) (.slice none 0 0) (.slice none 0 0)
set_option maxHeartbeats 2000000 in
theorem decodeGenesis_bad (l : List Int) (v : Value) (w : World) (h : Bs w v l) (hk : kindOf l ≠ 1) :
    Calls Try.prog 51 #[v] w fun e w' => e = .returned (.tuple #[.agg zeroGen.toArray, .int .i64 4]) ∧ Below w.heap.size w w' := by
  have HO := Lib.hid (fun w h => open_bad l v 1 w h hk)
  have H := Lib.hid h
  obtain ⟨a, cap, rfl, hnc, hcm, _, _, _, hc⟩ := id h.1
  clear hc h hk
  have hZ0 := Blk.new w 67 zeroGen.toArray
  go_enter Try.func51, Try.ntmps51
  go_wp2_with (first
    | (go_at_call 103; refine (HO.out _ (by exact H.out.below (below1 w (.cells zeroGen.toArray 67)))).mono ?_; rintro e w1 ⟨P, rfl, hP, hC1, hB1⟩; have hB0 := hB1; have hzp : w.heap.size < P := by simp at hP; omega)
    | (go_at_call 104; refine hold ?_))
  refine Lib.hid ?_
  refine (cuint_bad P 1 _ hC1 (by omega) (by omega)).mono ?_
  rintro e w2 ⟨rfl, hC2, hg2⟩
  have hB2 := hB1.grown hg2 hB1.size (fun k hk => by injection hk; simp; omega)
  go_wp2_with fail
  refine (cuint_bad P 6 _ hC2 (by omega) (by omega)).mono ?_
  rintro e w3 ⟨rfl, hC3, hg3⟩
  have hB3 := hB2.grown hg3 hB2.size (fun k hk => by injection hk; simp; omega)
  go_wp2_with fail
  refine (cuint_bad P 1 _ (by exact hC3.old _) (by omega) (by omega)).mono ?_
  rintro e w4 ⟨rfl, hC4, hg4⟩
  have hB4 := (hB3.alloc hB3.size (.cells zeroGen.toArray 67)).grown hg4 (by have := hB3.size; simp at this ⊢; omega) (fun k hk => by injection hk; simp; omega)
  have HC4 := Lib.hid hC4
  have HB4 := Lib.hid hB4
  have HZ4 := Lib.hid (hZ0.below hB4 (by simp))
  clear hC1 hB1 hC2 hg2 hB2 hC3 hg3 hB3 hC4 hg4 hB4 hZ0 hB0
  go_wp2
  go_loopw [15] (fun i wr => i = .int .i64 0 ∧ wr = w4) (fun _ _ => 0)
  case atStart => exact ⟨rfl, rfl⟩
  case round =>
    obtain ⟨rfl, rfl⟩ := hrel
    go_wp2_with fail
    refine (cuint_bad P 1 _ HC4.out (by omega) (by omega)).mono ?_
    rintro e w5 ⟨rfl, hC5, hg5⟩
    have HC5 := Lib.hid hC5
    have HB5 := Lib.hid (HB4.out.grown hg5 HB4.out.size (fun k hk => by injection hk; simp; omega))
    have HZ5 := Lib.hid (HZ4.out.grown hg5 (fun e => by injection e; omega))
    clear hC5 hg5
    go_wp2
    go_loopw [27] (fun i wr => i = .int .i64 0 ∧ wr = w5) (fun _ _ => 0)
    case atStart => exact ⟨rfl, rfl⟩
    case round =>
      obtain ⟨rfl, rfl⟩ := hrel
      go_wp2_with (first
        | (go_at_call 106; refine (cdone_bad P _ HC5.out).mono ?_; rintro e w6 ⟨rfl, q, rfl⟩; have HZ6 : Blk (World.drewN _ q) w.heap.size 67 zeroGen.toArray := HZ5.out)
        | (refine wpList_store_new rfl _ (.tmp 2) (.tmp 52) rfl w.heap.size rfl zeroGen rfl 5 rfl _ _ HZ6 rfl size_gen (gnv_one _ _ _ _ _ rfl rfl rfl) ?_; intro w7 hZ7 hg7))
      refine ret_row2 rfl w.heap.size _ zeroGen (.int .i64 4) 5 rfl rfl rfl rfl hZ7 un_gen size_gen ⟨rfl, ?_⟩
      exact ((below1 w (.cells zeroGen.toArray 67)).trans ((below_drewN HB5.out q).mono (by simp))).grown hg7 (by have := HB5.out.size; simp at this ⊢; omega) (fun k hk => by injection hk; omega)
end Go.Proofs.Ytilhceihelcdgaa
