/-
  Texts' kinds; lists of slots in memory; whether the ids of a block's slots ascend.
-/
import Derived.Test.YtilhceihelcdgaaB0
import Derived.Deep.QuietTactic
import Derived.BigQuiet
import Derived.Outline
namespace Go.Proofs.Ytilhceihelcdgaa
open Go.RowKit

/-- Rows of equal length, one behind the other. -/
theorem flat_get {α : Type} (f : α → List Value) (m : Nat) : ∀ (L : List α), (∀ x ∈ L, (f x).length = m) → ∀ (i j : Nat) (hi : i < L.length), j < m → (L.flatMap f)[i * m + j]? = (f L[i])[j]?
  | [], _, i, _, hi, _ => by simp at hi
  | a :: L, h, 0, j, _, hj => by
    simp only [List.flatMap_cons, Nat.zero_mul, Nat.zero_add, List.getElem_cons_zero]
    rw [List.getElem?_append_left (by rw [h a (by simp)]; exact hj)]
  | a :: L, h, i + 1, j, hi, hj => by
    have ha := h a (by simp)
    have ih := flat_get f m L (fun x hx => h x (by simp [hx])) i j (by simpa using hi) hj
    simp only [List.flatMap_cons, List.getElem_cons_succ]
    rw [List.getElem?_append_right (by rw [ha, Nat.succ_mul]; omega), ha, ← ih]
    congr 1
    rw [Nat.succ_mul]; omega
theorem flat_len {α : Type} (f : α → List Value) (m : Nat) : ∀ (L : List α), (∀ x ∈ L, (f x).length = m) → (L.flatMap f).length = L.length * m
  | [], _ => by simp
  | a :: L, h => by
    have ih := flat_len f m L (fun x hx => h x (by simp [hx]))
    rw [List.flatMap_cons, List.length_append, h a (by simp), ih, List.length_cons, Nat.succ_mul]; omega

/-- A slot: an id and a name. -/
def chv (s : Int × List Int) : List Value := .int .i64 s.1 :: bsv s.2
def ChOk (s : Int × List Int) : Prop := IsN s.2 ∧ -9223372036854775808 ≤ s.1 ∧ s.1 ≤ 9223372036854775807
theorem chv_len {s : Int × List Int} (h : ChOk s) : (chv s).length = 9 := by simp [chv, bsv_length, h.1.1]
/-- A []Choice that reads as L. -/
def Cs (w : World) (v : Value) (L : List (Int × List Int)) : Prop := Sl w v 9 L.length (L.flatMap chv) ∧ ∀ s ∈ L, ChOk s
theorem Cs.below {w w' : World} {v : Value} {L : List (Int × List Int)} (h : Cs w v L) (k : Below w.heap.size w w') : Cs w' v L := ⟨h.1.below k, h.2⟩
theorem Cs.cell {w : World} {b o cap : Nat} {L : List (Int × List Int)} (h : Cs w (.slice (some ⟨b, o, none⟩) L.length cap) L) (i j : Nat) (hi : i < L.length) (hj : j < 9) : w.cell? ⟨b, o + (i * 9 + j), none⟩ = (chv L[i])[j]? := by
  rw [h.1.cell (by omega) (i * 9 + j) (by omega)]
  exact flat_get chv 9 L (fun s hs => chv_len (h.2 s hs)) i j hi hj

theorem kind_nil (w : World) : Calls Try.prog 35 #[.slice none 0 0] w fun e w' => e = .returned (.int .i64 0) ∧ w = w' := by
  go_enter Try.func35, Try.ntmps35
  go_wp2
  go_ret
  exact ⟨rfl, rfl⟩
def kindOf (l : List Int) : Int := if 1 ≤ l.getD 0 0 ∧ l.getD 0 0 ≤ 4 then l.getD 0 0 else 0
theorem kind_any (l : List Int) (v : Value) (w : World) (h : Bs w v l) : Calls Try.prog 35 #[v] w fun e w' => e = .returned (.int .i64 (kindOf l)) ∧ w = w' := by
  obtain ⟨a, cap, rfl, hnc, hcm, _, hln, _, hc⟩ := id h.1
  unfold maxLen at hcm
  cases l with
  | nil =>
    show Calls _ _ _ _ fun e w' => e = .returned (.int .i64 0) ∧ w = w'
    clear h hc
    go_enter Try.func35, Try.ntmps35
    go_wp2
    go_ret
    exact ⟨rfl, rfl⟩
  | cons k r =>
    obtain ⟨b, o, rfl, hcc⟩ := hc (by simp)
    have c0 := hcc 0 (by simp)
    have hk := h.2 k (by simp)
    simp [bsv] at c0
    have hl : ((k :: r).length : Int) ≠ 0 := by simp; omega
    have hK : Hid (kindOf (k :: r) = if 1 ≤ k ∧ k ≤ 4 then k else 0) := Lib.hid rfl
    have hkl : (k :: r).length = r.length + 1 := rfl
    rw [hkl] at hnc hln hl ⊢
    rw [hK.out]
    clear h hc hcc hkl
    by_cases h1 : k < 1
    · rw [if_neg (by omega)]
      go_enter Try.func35, Try.ntmps35
      go_wp2
      go_ret
      exact ⟨rfl, rfl⟩
    · by_cases h4 : 4 < k
      · rw [if_neg (by omega)]
        go_enter Try.func35, Try.ntmps35
        go_wp2
        go_ret
        exact ⟨rfl, rfl⟩
      · rw [if_pos (by omega)]
        go_enter Try.func35, Try.ntmps35
        go_wp2
        go_ret
        exact ⟨rfl, rfl⟩
theorem within_any (x lo hi : Int) (w : World) : Calls Try.prog 96 #[.int .i64 x, .int .i64 lo, .int .i64 hi] w fun e w' => e = .returned (.bool (decide (lo ≤ x ∧ x ≤ hi))) ∧ w = w' := by
  by_cases h1 : lo ≤ x
  · by_cases h2 : x ≤ hi
    · rw [decide_eq_true ⟨h1, h2⟩]
      go_enter Try.func96, Try.ntmps96
      go_wp2
      go_ret
      exact ⟨rfl, rfl⟩
    · rw [decide_eq_false (fun e => h2 e.2)]
      have h2' : decide (x ≤ hi) = false := decide_eq_false h2
      go_enter Try.func96, Try.ntmps96
      go_wp2
      go_ret
      exact ⟨rfl, rfl⟩
  · rw [decide_eq_false (fun e => h1 e.1)]
    have h1' : decide (lo ≤ x) = false := decide_eq_false h1
    go_enter Try.func96, Try.ntmps96
    go_wp2
    go_ret
    exact ⟨rfl, rfl⟩
theorem rkind_any (l : List Int) (v : Value) (w : World) (h : Bs w v l) : Calls Try.prog 36 #[v] w fun e w' => e = .returned (.int .i64 (kindOf l)) ∧ w = w' := by
  obtain ⟨a, cap, rfl, hnc, hcm, _, hln, _, hc⟩ := id h.1
  unfold maxLen at hcm
  cases l with
  | nil =>
    show Calls _ _ _ _ fun e w' => e = .returned (.int .i64 0) ∧ w = w'
    clear h hc
    go_enter Try.func36, Try.ntmps36
    go_wp2
    go_ret
    exact ⟨rfl, rfl⟩
  | cons k r =>
    obtain ⟨b, o, rfl, hcc⟩ := hc (by simp)
    have c0 := hcc 0 (by simp)
    have hk := h.2 k (by simp)
    simp [bsv] at c0
    have hl : ((k :: r).length : Int) ≠ 0 := by simp; omega
    have hK : Hid (kindOf (k :: r) = if 1 ≤ k ∧ k ≤ 4 then k else 0) := Lib.hid rfl
    have hkl : (k :: r).length = r.length + 1 := rfl
    rw [hkl] at hnc hln hl ⊢
    rw [hK.out]
    have hwr : IntKind.i64.wrap k = k := by rw [IntKind.wrap_i64]; omega
    clear h hc hcc hkl
    by_cases h1 : 1 ≤ k ∧ k ≤ 4
    · rw [if_pos h1]
      have HW := Lib.hid (fun w => (within_any k 1 4 w))
      rw [decide_eq_true h1] at HW
      clear h1 hK
      go_enter Try.func36, Try.ntmps36
      go_wp2_with (go_at_call 96; refine (HW.out _).mono ?_; rintro e w' ⟨rfl, rfl⟩)
      go_ret
      exact ⟨rfl, rfl⟩
    · rw [if_neg h1]
      have HW := Lib.hid (fun w => (within_any k 1 4 w))
      rw [decide_eq_false h1] at HW
      clear h1 hK
      go_enter Try.func36, Try.ntmps36
      go_wp2_with (go_at_call 96; refine (HW.out _).mono ?_; rintro e w' ⟨rfl, rfl⟩)
      go_ret
      exact ⟨rfl, rfl⟩

/-- The ids ascend, each a validator's. -/
def idAt (xs : List Int) (k : Nat) : Int := xs.getD k 0
/-- A block in a variable of its own. -/
def blv (p : List Int) (v : Value) : List Value := bsv p ++ [v]
theorem blv_at {p : List Int} {v : Value} (hp : p.length = 8) : (blv p v).toArray[8]? = some v := by
  simp [blv, bsv_length, hp]
set_option maxHeartbeats 400000 in
theorem vb1_any (B : Nat) (L : List (Int × List Int)) (v : Value) (p : List Int) (i : Int) (w : World) (hB : Blk w B 59 (blv p v).toArray) (hp : p.length = 8) (h : Cs w v L) (hi0 : 0 ≤ i) (hi : i < L.length) :
    Calls Try.prog 183 #[.int .i64 i, .pointer (some ⟨B, 0, none⟩)] w fun e w' => e = .returned (.int .i64 (idAt (L.map (·.1)) i.toNat)) ∧ w = w' := by
  obtain ⟨a, cap, rfl, hnc, hcm, _, hln, _, hc⟩ := id h.1
  unfold maxLen at hcm
  obtain ⟨b, o, rfl, hcc⟩ := hc (by omega)
  obtain ⟨k, rfl⟩ : ∃ k : Nat, i = k := ⟨i.toNat, by omega⟩
  have hk : k < L.length := by omega
  have c8 := hB.cell 8
  rw [blv_at hp] at c8
  have ck := h.cell k 0 hk (by omega)
  simp only [chv, List.getElem?_cons_zero, Nat.add_zero] at ck
  have hg : idAt (L.map (·.1)) ((k : Int).toNat) = L[k].1 := by simp [idAt, List.getD_eq_getElem?_getD, List.getElem?_eq_getElem hk]
  rw [hg]
  generalize L[k].1 = x at *
  clear hB h hc hcc hg
  go_enter Try.func183, Try.ntmps183
  go_wp2
  go_ret
  exact ⟨rfl, rfl⟩
def idOk (xs : List Int) (k : Nat) : Prop := 0 ≤ idAt xs k ∧ idAt xs k < 10 ∧ (0 < k → idAt xs (k - 1) < idAt xs k)
instance (xs : List Int) (k : Nat) : Decidable (idOk xs k) := by unfold idOk; infer_instance
def IdsOk (xs : List Int) : Prop := ∀ k, k < xs.length → idOk xs k
instance (xs : List Int) : Decidable (IdsOk xs) := by unfold IdsOk; infer_instance
set_option maxHeartbeats 2000000 in
theorem validators_any (xs : List Int) (F : Value) (B : Nat) (w : World) (hF : F = .func (.func 183) #[] #[.pointer (some ⟨B, 0, none⟩)]) (hlen : xs.length ≤ 1000000)
    (hx : ∀ x ∈ xs, -9223372036854775808 ≤ x ∧ x ≤ 9223372036854775807)
    (HC : Hid (∀ (i : Int), 0 ≤ i → i < xs.length → Calls Try.prog 183 #[.int .i64 i, .pointer (some ⟨B, 0, none⟩)] w fun e w' => e = .returned (.int .i64 (idAt xs i.toNat)) ∧ w = w')) :
    Calls Try.prog 182 #[.int .i64 xs.length, F] w fun e w' => e = .returned (.bool (decide (IdsOk xs))) ∧ w = w' := by
  subst hF
  have HX := Lib.hid hx
  clear hx
  go_enter Try.func182, Try.ntmps182
  go_wp2
  go_loop [7] (fun i => ∃ k : Nat, k ≤ xs.length ∧ i = .int .i64 k ∧ Hid (∀ j, j < k → idOk xs j)) (fun i => xs.length - (intOf i).toNat)
  case atStart => exact ⟨0, Nat.zero_le _, rfl, Lib.hid (fun j hj => by omega)⟩
  case round =>
    obtain ⟨k, hk, rfl, hA⟩ := hrel
    by_cases hlt : k < xs.length
    · have hb := HX.out _ (List.getElem_mem hlt)
      have hgk : xs[k] = idAt xs k := by simp [idAt, List.getD_eq_getElem?_getD, List.getElem?_eq_getElem hlt]
      rw [hgk] at hb
      clear hgk
      have HN : Hid (¬ idOk xs k → decide (IdsOk xs) = false) := Lib.hid (fun hn => decide_eq_false (fun h => hn (h k hlt)))
      have HK := Lib.hid (HC.out (k : Int) (by omega) (by omega))
      simp only [Int.toNat_natCast] at HK
      by_cases h0 : idAt xs k < 0
      · have hN := Lib.hid (HN.out (fun h => by have := h.1; omega))
        clear HN
        generalize idAt xs k = x at *
        go_wp2_with (go_at_call 183; refine (HK.out).mono ?_; rintro e w' ⟨rfl, rfl⟩)
        go_ret
        exact ⟨by rw [hN.out]; rfl, rfl⟩
      · by_cases h10 : 10 ≤ idAt xs k
        · have hN := Lib.hid (HN.out (fun h => by have := h.2.1; omega))
          clear HN
          generalize idAt xs k = x at *
          have d0 : decide (x < 0) = false := decide_eq_false h0
          go_wp2_with (go_at_call 183; refine (HK.out).mono ?_; rintro e w' ⟨rfl, rfl⟩)
          go_ret
          exact ⟨by rw [hN.out]; rfl, rfl⟩
        · by_cases hk0 : k = 0
          · subst hk0
            have hO : Hid (∀ j, j < 0 + 1 → idOk xs j) := Lib.hid (fun j hj => by obtain rfl : j = 0 := by omega
                                                                                  exact ⟨by omega, by omega, fun h => by omega⟩)
            clear HN hA
            generalize idAt xs 0 = x at *
            have d0 : decide (x < 0) = false := decide_eq_false h0
            have d1 : decide (10 ≤ x) = false := decide_eq_false h10
            go_wp2_with (go_at_call 183; refine (HK.out).mono ?_; rintro e w' ⟨rfl, rfl⟩)
            go_round
            case rel => exact ⟨1, by omega, by go_num, hO⟩
            case measure => simp [intOf]; omega
          · obtain ⟨q, rfl⟩ : ∃ q, k = q + 1 := ⟨k - 1, by omega⟩
            have HQ := Lib.hid (HC.out (q : Int) (by omega) (by omega))
            simp only [Int.toNat_natCast] at HQ
            rw [show ((q + 1 : Nat) : Int) = (q : Int) + 1 by omega] at HK
            by_cases hlt2 : idAt xs q < idAt xs (q + 1)
            · have hO : Hid (∀ j, j < q + 1 + 1 → idOk xs j) := Lib.hid (fun j hj => by
                by_cases hj' : j < q + 1
                · exact hA.out j hj'
                · obtain rfl : j = q + 1 := by omega
                  exact ⟨by omega, by omega, fun _ => hlt2⟩)
              clear HN hA HC
              generalize idAt xs (q + 1) = x at *
              generalize idAt xs q = y at *
              have d0 : decide (x < 0) = false := decide_eq_false h0
              have d1 : decide (10 ≤ x) = false := decide_eq_false h10
              have d2 : decide (x ≤ y) = false := decide_eq_false (by omega)
              go_wp2_with (go_at_call 183; first | ((with_reducible refine (HK.out).mono ?_); rintro e w' ⟨rfl, rfl⟩) | ((with_reducible refine HQ.out.mono ?_); rintro e w' ⟨rfl, rfl⟩))
              go_round
              case rel => exact ⟨q + 1 + 1, by omega, by go_num, hO⟩
              case measure => simp [intOf]; omega
            · have hN := Lib.hid (HN.out (fun h => by have := h.2.2 (by omega); simp only [Nat.add_sub_cancel] at this; omega))
              clear HN hA HC
              generalize idAt xs (q + 1) = x at *
              generalize idAt xs q = y at *
              have d0 : decide (x < 0) = false := decide_eq_false h0
              have d1 : decide (10 ≤ x) = false := decide_eq_false h10
              have d2 : decide (x ≤ y) = true := decide_eq_true (by omega)
              go_wp2_with (go_at_call 183; first | ((with_reducible refine (HK.out).mono ?_); rintro e w' ⟨rfl, rfl⟩) | ((with_reducible refine HQ.out.mono ?_); rintro e w' ⟨rfl, rfl⟩))
              go_ret
              exact ⟨by rw [hN.out]; rfl, rfl⟩
    · have hd : Hid (decide (IdsOk xs) = true) := Lib.hid (decide_eq_true (fun j hj => hA.out j (by omega)))
      go_wp2
      go_ret
      exact ⟨by rw [hd.out]; rfl, rfl⟩
end Go.Proofs.Ytilhceihelcdgaa
