/-
  A key's two methods and the two functions, whatever the level and the leaf: what the law on keys asks.
-/
import Derived.Test.YtilhceihelcdgaaK22
namespace Go.Proofs.Ytilhceihelcdgaa
open Go.RowKit

theorem Bs.nil (w : World) : Bs w (.slice none 0 0) [] := ⟨⟨none, 0, rfl, by simp, by unfold maxLen; omega, fun _ => rfl, by simp, by simp [bsv], fun h => absurd h (by simp)⟩, fun x hx => by simp at hx⟩
def KOk (w : World) (x : List Int) (lv : Int) (kv : Value) (ob : Option Nat) (N : Nat) : Prop :=
  ((lv = 1 ∨ lv = 2) ∧ ∃ B b, kv = .pointer (some ⟨B, 0, none⟩) ∧ ob = some b ∧ Blk w B 133 (mkCells x lv b).toArray ∧ B ≠ b ∧ Trees w x b (fun _ => True) N) ∨ (¬ (lv = 1 ∨ lv = 2) ∧ kv = .pointer none ∧ ob = none)
theorem KOk.below {w w' : World} {x : List Int} {lv : Int} {kv : Value} {ob : Option Nat} {N : Nat} (h : KOk w x lv kv ob N) (g : Below w.heap.size w w') : KOk w' x lv kv ob N := by
  rcases h with ⟨h, B, b, h1, h2, h3, h4, h5⟩ | h
  · exact .inl ⟨h, B, b, h1, h2, h3.below g h3.lt, h4, h5.below g⟩
  · exact .inr h
theorem KOk.drew {w : World} {x : List Int} {lv : Int} {kv : Value} {ob : Option Nat} {N : Nat} (h : KOk w x lv kv ob N) : KOk w.drew x lv kv ob N := h.below (Below.refl _ _).drew
def ssig (x : List Int) (lv j : Int) (m : List Int) : List Int := if 0 ≤ j ∧ j < capOf lv then msig x lv j.toNat m else []
theorem owb_bs {w : World} {base : Nat} {v : Value} {x m : List Int} {lv j : Int} (h : OwB w base v (msig x lv j.toNat m)) (hlv : lv = 1 ∨ lv = 2) : Bs w v (msig x lv j.toNat m) := by
  have hsl := msig_len x lv j.toNat m hlv
  exact h.bs (by rcases hlv with rfl | rfl <;> simp [sizeOf] at hsl <;> omega) (msig_byt x lv j.toNat m)
theorem capOf_no {lv : Int} (h : ¬ (lv = 1 ∨ lv = 2)) (j : Int) : ¬ (0 ≤ j ∧ j < capOf lv) := fun ⟨h0, h1⟩ => h (capOf_cases h0 h1)

theorem kpublic_u (x : List Int) (lv : Int) (kv : Value) (ob : Option Nat) (N : Nat) (w : World) (hx : IsN x) (hK : KOk w x lv kv ob N) (hN : N ≤ 800) :
    Calls Try.prog 33 #[kv] w fun e w' => e = .returned (nv (mpub x lv)) ∧ KOk w' x lv kv ob (N + 1) ∧ w.grownBy w' ob := by
  rcases hK with ⟨hlv, B, b, rfl, rfl, hB, hne, hT⟩ | ⟨hlv, rfl, rfl⟩
  · refine (mkpublic_any x B b N (fun _ => True) lv w hx hlv hB hne hT (by omega) (fun _ _ => trivial)).mono ?_
    rintro e w' ⟨rfl, hT', hG⟩
    exact ⟨rfl, .inl ⟨hlv, B, b, rfl, rfl, hB.grown hG (fun e => by injection e; omega), hne, hT'⟩, hG⟩
  · refine (mkpublic_nil w).mono ?_
    rintro e w' ⟨rfl, hB⟩
    exact ⟨by rw [show mpub x lv = zeroN from if_neg (by omega)], .inr ⟨hlv, rfl, rfl⟩, grown_of_below hB⟩
theorem ksign_u (x m : List Int) (lv j : Int) (kv : Value) (ob : Option Nat) (N : Nat) (w : World) (hx : IsN x) (hm : IsN m) (hK : KOk w x lv kv ob N) (hN : N ≤ 800) :
    Calls Try.prog 34 #[kv, .int .i64 j, nv m] w fun e w' => ∃ v', e = .returned (.tuple #[v', .bool (decide (0 ≤ j ∧ j < capOf lv))]) ∧ Bs w' v' (ssig x lv j m) ∧ KOk w' x lv kv ob (N + 3) ∧ w.grownBy w' ob := by
  rcases hK with ⟨hlv, B, b, rfl, rfl, hB, hne, hT⟩ | ⟨hlv, rfl, rfl⟩
  · by_cases hj : 0 ≤ j ∧ j < capOf lv
    · refine (mksign_yes x m B b N lv j w hx hm hlv hB hne hT hN hj).mono ?_
      rintro e w' ⟨v', rfl, hO, hT', hG⟩
      refine ⟨v', by rw [decide_eq_true hj], ?_, .inl ⟨hlv, B, b, rfl, rfl, hB.grown hG (fun e => by injection e; omega), hne, hT'⟩, hG⟩
      rw [show ssig x lv j m = msig x lv j.toNat m from if_pos hj]
      exact owb_bs hO hlv
    · refine (mksign_no x m B b lv j w hx hlv hB hj).mono ?_
      rintro e w' ⟨rfl, hV⟩
      refine ⟨_, by rw [decide_eq_false hj], ?_, .inl ⟨hlv, B, b, rfl, rfl, hB.below hV hB.lt, hne, (hT.below hV).mono (by omega)⟩, grown_of_below hV⟩
      rw [show ssig x lv j m = [] from if_neg hj]
      exact Bs.nil _
  · refine (mksign_nil m j w).mono ?_
    rintro e w' ⟨rfl, hV⟩
    have hj := capOf_no hlv j
    refine ⟨_, by rw [decide_eq_false hj], ?_, .inr ⟨hlv, rfl, rfl⟩, grown_of_below hV⟩
    rw [show ssig x lv j m = [] from if_neg hj]
    exact Bs.nil _
theorem sign_u (x m : List Int) (lv j : Int) (w : World) (hx : IsN x) (hm : IsN m) (hr : -9223372036854775808 ≤ lv ∧ lv ≤ 9223372036854775807) :
    Calls Try.prog 30 #[nv x, .int .i64 lv, .int .i64 j, nv m] w fun e w' => ∃ v', e = .returned (.tuple #[v', .bool (decide (0 ≤ j ∧ j < capOf lv))]) ∧ Bs w' v' (ssig x lv j m) ∧ Below w.heap.size w w' := by
  by_cases hj : 0 ≤ j ∧ j < capOf lv
  · have hlv := capOf_cases hj.1 hj.2
    refine (msign_yes x m lv j w hx hm hlv hj).mono ?_
    rintro e w' ⟨v', rfl, hO, hV⟩
    refine ⟨v', by rw [decide_eq_true hj], ?_, hV⟩
    rw [show ssig x lv j m = msig x lv j.toNat m from if_pos hj]
    exact owb_bs hO hlv
  · refine (msign_no x m lv j w hx hm hr hj).mono ?_
    rintro e w' ⟨rfl, hV⟩
    refine ⟨_, by rw [decide_eq_false hj], ?_, hV⟩
    rw [show ssig x lv j m = [] from if_neg hj]
    exact Bs.nil _
end Go.Proofs.Ytilhceihelcdgaa
