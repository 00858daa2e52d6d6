/-
  Whether a genesis is valid: the program's test and the reference's.
-/
import Derived.Test.YtilhceihelcdgaaB9
namespace Go.Proofs.Ytilhceihelcdgaa
open Go.RowKit

def amt (x : Int) : Prop := 0 ≤ x ∧ x ≤ 1099511627776
instance (x : Int) : Decidable (amt x) := by unfold amt; infer_instance
def Ig (w : World) (v : Value) (l : List Int) : Prop := Sl w v 1 l.length (l.map (Value.int .i64)) ∧ ∀ x ∈ l, -9223372036854775808 ≤ x ∧ x ≤ 9223372036854775807
theorem Ig.below {w w' : World} {v : Value} {l : List Int} (h : Ig w v l) (k : Below w.heap.size w w') : Ig w' v l := ⟨h.1.below k, h.2⟩
theorem Ig.cell {w : World} {b o cap : Nat} {l : List Int} (h : Ig w (.slice (some ⟨b, o, none⟩) l.length cap) l) (i : Nat) (hi : i < l.length) : w.cell? ⟨b, o + i, none⟩ = some (.int .i64 (idAt l i)) := by
  rw [h.1.cell (by omega) i (by omega)]
  simp [idAt, List.getD_eq_getElem?_getD, List.getElem?_eq_getElem hi]
/-- A genesis in a variable of its own. -/
def gnv (n st : Int) (a b c : Value) : List Value := [.int .i64 n, .int .i64 st, a, b, c]
def GOk (n st : Int) (V A : List (List Int)) (B : List Int) : Prop := (1 ≤ n ∧ n ≤ 7) ∧ (1 ≤ V.length ∧ V.length ≤ 10 ∧ n ≤ V.length) ∧ (1 ≤ A.length ∧ A.length ≤ 16) ∧ B.length = A.length ∧ amt st ∧ ∀ b ∈ B, amt b
instance (n st : Int) (V A : List (List Int)) (B : List Int) : Decidable (GOk n st V A B) := by unfold GOk; infer_instance
def gerr (n st : Int) (V A : List (List Int)) (B : List Int) : Int := if GOk n st V A B then 0 else 1
theorem gerr_yes {n st : Int} {V A : List (List Int)} {B : List Int} (h : GOk n st V A B) : gerr n st V A B = 0 := if_pos h
theorem gerr_no {n st : Int} {V A : List (List Int)} {B : List Int} (h : ¬ GOk n st V A B) : gerr n st V A B = 1 := if_neg h
def gok (n st : Int) (V A : List (List Int)) (B : List Int) : Bool := decide (GOk n st V A B)
theorem amount_any (x : Int) (w : World) : Calls Try.prog 184 #[.int .i64 x] w fun e w' => e = .returned (.bool (decide (amt x))) ∧ w = w' := by
  by_cases h1 : 0 ≤ x
  · by_cases h2 : x ≤ 1099511627776
    · rw [decide_eq_true (show amt x from ⟨h1, h2⟩)]
      go_enter Try.func184, Try.ntmps184
      go_wp2
      go_ret
      exact ⟨rfl, rfl⟩
    · rw [decide_eq_false (show ¬ amt x from fun e => h2 e.2)]
      have h2' : decide (x ≤ 1099511627776) = false := decide_eq_false h2
      go_enter Try.func184, Try.ntmps184
      go_wp2
      go_ret
      exact ⟨rfl, rfl⟩
  · rw [decide_eq_false (show ¬ amt x from fun e => h1 e.1)]
    have h1' : decide (0 ≤ x) = false := decide_eq_false h1
    go_enter Try.func184, Try.ntmps184
    go_wp2
    go_ret
    exact ⟨rfl, rfl⟩
theorem within_amt (x : Int) (w : World) : Calls Try.prog 96 #[.int .i64 x, .int .i64 0, .int .i64 1099511627776] w fun e w' => e = .returned (.bool (decide (amt x))) ∧ w = w' := within_any x 0 1099511627776 w

set_option maxRecDepth 100000 in
set_option maxHeartbeats 4000000 in
theorem validateGenesis_any (n st : Int) (V A : List (List Int)) (B : List Int) (a b c : Value) (w : World) (hV : Ns w a V) (hA : Ns w b A) (hB : Ig w c B) :
    Calls Try.prog 112 #[.agg (gnv n st a b c).toArray] w fun e w' => e = .returned (.int .i64 (gerr n st V A B)) ∧ Below w.heap.size w w' := by
  obtain ⟨a, ka, rfl, hna, hma, _, hla, _, _⟩ := id hV.1
  obtain ⟨b, kb, rfl, hnb, hmb, _, hlb, _, _⟩ := id hA.1
  obtain ⟨c, kc, rfl, hnc, hmc, _, hlc, _, hcc⟩ := id hB.1
  have HC := Lib.hid hcc
  have HB := Lib.hid hB
  unfold maxLen at hma hmb hmc
  clear hV hA hB hcc
  show Calls _ _ #[.agg #[.int .i64 n, .int .i64 st, .slice a V.length ka, .slice b A.length kb, .slice c B.length kc]] _ _
  have hW0 := Blk.new w 67 #[.int .i64 n, .int .i64 st, .slice a V.length ka, .slice b A.length kb, .slice c B.length kc]
  have AST := Lib.hid (fun w => amount_any st w)

  by_cases q0 : n < 1
  · have HD := Lib.hid (show decide (GOk n st V A B) = false from decide_eq_false (fun h => by have := h.1; have := h.2.1; have := h.2.2.1; have h4 := h.2.2.2.1; have h5 := h.2.2.2.2.1; first | omega | exact q0 h4 | exact q0 h5))
    have d00 : decide (n < 1) = true := decide_eq_true (by omega)
    clear hW0
    go_enter Try.func112, Try.ntmps112
    go_wp2
    go_quiet (fail)
    go_wp2_with (go_at_call 184; refine (AST.out _).mono ?_; rintro e w1 ⟨rfl, rfl⟩)
    go_ret
    exact ⟨by rw [gerr_no (of_decide_eq_false HD.out)]; rfl, below_drewN (below1 _ _) _⟩
  · have d0 := q0
    have d00 : decide (n < 1) = false := decide_eq_false (by omega)
    by_cases q1 : 7 < n
    · have HD := Lib.hid (show decide (GOk n st V A B) = false from decide_eq_false (fun h => by have := h.1; have := h.2.1; have := h.2.2.1; have h4 := h.2.2.2.1; have h5 := h.2.2.2.2.1; first | omega | exact q1 h4 | exact q1 h5))
      have d10 : decide (7 < n) = true := decide_eq_true (by omega)
      clear hW0
      go_enter Try.func112, Try.ntmps112
      go_wp2
      go_quiet (fail)
      go_wp2_with (go_at_call 184; refine (AST.out _).mono ?_; rintro e w1 ⟨rfl, rfl⟩)
      go_ret
      exact ⟨by rw [gerr_no (of_decide_eq_false HD.out)]; rfl, below_drewN (below1 _ _) _⟩
    · have d1 := q1
      have d10 : decide (7 < n) = false := decide_eq_false (by omega)
      by_cases q2 : V.length < 1
      · have HD := Lib.hid (show decide (GOk n st V A B) = false from decide_eq_false (fun h => by have := h.1; have := h.2.1; have := h.2.2.1; have h4 := h.2.2.2.1; have h5 := h.2.2.2.2.1; first | omega | exact q2 h4 | exact q2 h5))
        have d20 : decide (V.length < 1) = true := decide_eq_true (by omega)
        have d21 : decide ((V.length : Int) < 1) = true := decide_eq_true (by omega)
        clear hW0
        go_enter Try.func112, Try.ntmps112
        go_wp2
        go_quiet (fail)
        go_wp2_with (go_at_call 184; refine (AST.out _).mono ?_; rintro e w1 ⟨rfl, rfl⟩)
        go_ret
        exact ⟨by rw [gerr_no (of_decide_eq_false HD.out)]; rfl, below_drewN (below1 _ _) _⟩
      · have d2 := q2
        have d20 : decide (V.length < 1) = false := decide_eq_false (by omega)
        have d21 : decide ((V.length : Int) < 1) = false := decide_eq_false (by omega)
        by_cases q3 : 10 < V.length
        · have HD := Lib.hid (show decide (GOk n st V A B) = false from decide_eq_false (fun h => by have := h.1; have := h.2.1; have := h.2.2.1; have h4 := h.2.2.2.1; have h5 := h.2.2.2.2.1; first | omega | exact q3 h4 | exact q3 h5))
          have d30 : decide (10 < V.length) = true := decide_eq_true (by omega)
          have d31 : decide ((10 : Int) < V.length) = true := decide_eq_true (by omega)
          clear hW0
          go_enter Try.func112, Try.ntmps112
          go_wp2
          go_quiet (fail)
          go_wp2_with (go_at_call 184; refine (AST.out _).mono ?_; rintro e w1 ⟨rfl, rfl⟩)
          go_ret
          exact ⟨by rw [gerr_no (of_decide_eq_false HD.out)]; rfl, below_drewN (below1 _ _) _⟩
        · have d3 := q3
          have d30 : decide (10 < V.length) = false := decide_eq_false (by omega)
          have d31 : decide ((10 : Int) < V.length) = false := decide_eq_false (by omega)
          by_cases q4 : (V.length : Int) < n
          · have HD := Lib.hid (show decide (GOk n st V A B) = false from decide_eq_false (fun h => by have := h.1; have := h.2.1; have := h.2.2.1; have h4 := h.2.2.2.1; have h5 := h.2.2.2.2.1; first | omega | exact q4 h4 | exact q4 h5))
            have d40 : decide ((V.length : Int) < n) = true := decide_eq_true (by omega)
            clear hW0
            go_enter Try.func112, Try.ntmps112
            go_wp2
            go_quiet (fail)
            go_wp2_with (go_at_call 184; refine (AST.out _).mono ?_; rintro e w1 ⟨rfl, rfl⟩)
            go_ret
            exact ⟨by rw [gerr_no (of_decide_eq_false HD.out)]; rfl, below_drewN (below1 _ _) _⟩
          · have d4 := q4
            have d40 : decide ((V.length : Int) < n) = false := decide_eq_false (by omega)
            by_cases q5 : A.length < 1
            · have HD := Lib.hid (show decide (GOk n st V A B) = false from decide_eq_false (fun h => by have := h.1; have := h.2.1; have := h.2.2.1; have h4 := h.2.2.2.1; have h5 := h.2.2.2.2.1; first | omega | exact q5 h4 | exact q5 h5))
              have d50 : decide (A.length < 1) = true := decide_eq_true (by omega)
              have d51 : decide ((A.length : Int) < 1) = true := decide_eq_true (by omega)
              clear hW0
              go_enter Try.func112, Try.ntmps112
              go_wp2
              go_quiet (fail)
              go_wp2_with (go_at_call 184; refine (AST.out _).mono ?_; rintro e w1 ⟨rfl, rfl⟩)
              go_ret
              exact ⟨by rw [gerr_no (of_decide_eq_false HD.out)]; rfl, below_drewN (below1 _ _) _⟩
            · have d5 := q5
              have d50 : decide (A.length < 1) = false := decide_eq_false (by omega)
              have d51 : decide ((A.length : Int) < 1) = false := decide_eq_false (by omega)
              by_cases q6 : 16 < A.length
              · have HD := Lib.hid (show decide (GOk n st V A B) = false from decide_eq_false (fun h => by have := h.1; have := h.2.1; have := h.2.2.1; have h4 := h.2.2.2.1; have h5 := h.2.2.2.2.1; first | omega | exact q6 h4 | exact q6 h5))
                have d60 : decide (16 < A.length) = true := decide_eq_true (by omega)
                have d61 : decide ((16 : Int) < A.length) = true := decide_eq_true (by omega)
                clear hW0
                go_enter Try.func112, Try.ntmps112
                go_wp2
                go_quiet (fail)
                go_wp2_with (go_at_call 184; refine (AST.out _).mono ?_; rintro e w1 ⟨rfl, rfl⟩)
                go_ret
                exact ⟨by rw [gerr_no (of_decide_eq_false HD.out)]; rfl, below_drewN (below1 _ _) _⟩
              · have d6 := q6
                have d60 : decide (16 < A.length) = false := decide_eq_false (by omega)
                have d61 : decide ((16 : Int) < A.length) = false := decide_eq_false (by omega)
                by_cases q7 : ¬ B.length = A.length
                · have HD := Lib.hid (show decide (GOk n st V A B) = false from decide_eq_false (fun h => by have := h.1; have := h.2.1; have := h.2.2.1; have h4 := h.2.2.2.1; have h5 := h.2.2.2.2.1; first | omega | exact q7 h4 | exact q7 h5))
                  have d70 : decide (¬ B.length = A.length) = true := decide_eq_true (by omega)
                  clear hW0
                  go_enter Try.func112, Try.ntmps112
                  go_wp2
                  go_quiet (fail)
                  go_wp2_with (go_at_call 184; refine (AST.out _).mono ?_; rintro e w1 ⟨rfl, rfl⟩)
                  go_ret
                  exact ⟨by rw [gerr_no (of_decide_eq_false HD.out)]; rfl, below_drewN (below1 _ _) _⟩
                · have d7 := q7
                  have d70 : decide (¬ B.length = A.length) = false := decide_eq_false (by omega)
                  by_cases q8 : ¬ amt st
                  · have HD := Lib.hid (show decide (GOk n st V A B) = false from decide_eq_false (fun h => by have := h.1; have := h.2.1; have := h.2.2.1; have h4 := h.2.2.2.1; have h5 := h.2.2.2.2.1; first | omega | exact q8 h4 | exact q8 h5))
                    rw [decide_eq_false q8] at AST
                    clear hW0
                    go_enter Try.func112, Try.ntmps112
                    go_wp2
                    go_quiet (fail)
                    go_wp2_with (go_at_call 184; refine (AST.out _).mono ?_; rintro e w1 ⟨rfl, rfl⟩)
                    go_ret
                    exact ⟨by rw [gerr_no (of_decide_eq_false HD.out)]; rfl, below_drewN (below1 _ _) _⟩
                  · have d8 := q8
                    have hG : (∀ b ∈ B, amt b) → GOk n st V A B := fun hb => ⟨⟨by omega, by omega⟩, ⟨by omega, by omega, by omega⟩, ⟨by omega, by omega⟩, by omega, Decidable.not_not.1 q8, hb⟩
                    have HGY := Lib.hid hG
                    have HGN : Hid (∀ k, k < B.length → ¬ amt (idAt B k) → ¬ GOk n st V A B) := Lib.hid (fun k hk hn h => hn (by have := h.2.2.2.2.2 B[k] (List.getElem_mem hk); unfold idAt; rwa [List.getD_eq_getElem?_getD, List.getElem?_eq_getElem hk]))
                    rw [decide_eq_true (Decidable.not_not.1 q8)] at AST
                    have hq7 := Decidable.not_not.1 q7
                    have HQ7 := Lib.hid hq7
                    have e7 : ((B.length : Nat) : Int) = A.length := by omega
                    clear hG hW0 q7 d7 d8 q8
                    go_enter Try.func112, Try.ntmps112
                    go_wp2
                    go_quiet (fail)
                    go_wp2_with (go_at_call 184; refine (AST.out _).mono ?_; rintro e w1 ⟨rfl, rfl⟩)
                    go_loop [59] (fun x => ∃ k : Nat, k ≤ A.length ∧ x = .int .i64 k ∧ Hid (∀ j, j < k → amt (idAt B j))) (fun x => A.length - (intOf x).toNat)
                    case atStart => exact ⟨0, Nat.zero_le _, rfl, Lib.hid (fun j hj => by omega)⟩
                    case round =>
                      obtain ⟨k, hk, rfl, hP⟩ := hrel
                      by_cases hlt : k < A.length
                      · have hkl : (k : Int) < (A.length : Int) := by omega
                        have hkB : k < B.length := by have := HQ7.out; omega
                        obtain ⟨b3, o3, rfl, _⟩ := HC.out (by omega)
                        have ck := (HB.out.below (below1 w (.cells #[.int .i64 n, .int .i64 st, .slice a V.length ka, .slice b A.length kb, .slice (some ⟨b3, o3, none⟩) B.length kc] 67))).cell k hkB
                        rw [HQ7.out] at ck
                        have AK := Lib.hid (fun w => amount_any (idAt B k) w)
                        have HN := Lib.hid (HGN.out k hkB)
                        clear hkB
                        by_cases hx : amt (idAt B k)
                        · rw [decide_eq_true hx] at AK
                          have hP2 : Hid (∀ j, j < k + 1 → amt (idAt B j)) := Lib.hid (fun j hj => by
                            by_cases hj' : j < k
                            · exact hP.out j hj'
                            · obtain rfl : j = k := by omega
                              exact hx)
                          clear hx HN hP
                          go_wp2_with (go_at_call 184; refine (AK.out _).mono ?_; rintro e w1 ⟨rfl, rfl⟩)
                          go_round
                          case rel => exact ⟨k + 1, by omega, by go_num, hP2⟩
                          case measure => simp [intOf]; omega
                        · rw [decide_eq_false hx] at AK
                          have HN2 := Lib.hid (HN.out hx)
                          clear hx HN hP
                          go_wp2_with (go_at_call 184; refine (AK.out _).mono ?_; rintro e w1 ⟨rfl, rfl⟩)
                          go_ret
                          exact ⟨by rw [gerr_no HN2.out]; rfl, below_drewN (below1 _ _) _⟩
                      · have HY := Lib.hid (HGY.out (fun b hb => by
                          obtain ⟨j, hj, rfl⟩ := List.mem_iff_getElem.1 hb
                          have := hP.out j (by have := HQ7.out; omega)
                          unfold idAt at this
                          rwa [List.getD_eq_getElem?_getD, List.getElem?_eq_getElem hj] at this))
                        have hd : decide ((k : Int) < (A.length : Int)) = false := decide_eq_false (by omega)
                        go_wp2
                        go_ret
                        exact ⟨by rw [gerr_yes HY.out]; rfl, below_drewN (below1 _ _) _⟩
theorem gok_yes {n st : Int} {V A : List (List Int)} {B : List Int} (h : GOk n st V A B) : gok n st V A B = true := decide_eq_true h
theorem gok_no {n st : Int} {V A : List (List Int)} {B : List Int} (h : ¬ GOk n st V A B) : gok n st V A B = false := decide_eq_false h
set_option maxRecDepth 100000 in
set_option maxHeartbeats 4000000 in
theorem rvalidGenesis_any (n st : Int) (V A : List (List Int)) (B : List Int) (a b c : Value) (w : World) (hV : Ns w a V) (hA : Ns w b A) (hB : Ig w c B) :
    Calls Try.prog 113 #[.agg (gnv n st a b c).toArray] w fun e w' => e = .returned (.bool (gok n st V A B)) ∧ Below w.heap.size w w' := by
  obtain ⟨a, ka, rfl, hna, hma, _, hla, _, _⟩ := id hV.1
  obtain ⟨b, kb, rfl, hnb, hmb, _, hlb, _, _⟩ := id hA.1
  obtain ⟨c, kc, rfl, hnc, hmc, _, hlc, _, hcc⟩ := id hB.1
  have HC := Lib.hid hcc
  have HB := Lib.hid hB
  unfold maxLen at hma hmb hmc
  clear hV hA hB hcc
  show Calls _ _ #[.agg #[.int .i64 n, .int .i64 st, .slice a V.length ka, .slice b A.length kb, .slice c B.length kc]] _ _
  have hW0 := Blk.new w 67 #[.int .i64 n, .int .i64 st, .slice a V.length ka, .slice b A.length kb, .slice c B.length kc]
  have AST := Lib.hid (fun w => within_amt st w)

  have W0 := Lib.hid (fun w => within_any n 1 7 w)
  have W1 := Lib.hid (fun w => within_any V.length 1 10 w)
  have W3 := Lib.hid (fun w => within_any A.length 1 16 w)

  by_cases q0 : ((1 : Int) ≤ n ∧ n ≤ 7)
  rotate_left
  · have HD := Lib.hid (show ¬ GOk n st V A B from fun h => q0 (by have := h.1; have := h.2.1; have := h.2.2.1; have h4 := h.2.2.2.1; have h5 := h.2.2.2.2.1; first | omega | exact h4 | exact h5))
    rw [decide_eq_false q0] at W0
    clear hW0
    go_enter Try.func113, Try.ntmps113
    go_wp2_with (go_at_call 96; first | ((with_reducible refine (W0.out _).mono ?_); rintro e w1 ⟨rfl, rfl⟩) | ((with_reducible refine (W1.out _).mono ?_); rintro e w1 ⟨rfl, rfl⟩) | ((with_reducible refine (W3.out _).mono ?_); rintro e w1 ⟨rfl, rfl⟩) | ((with_reducible refine (AST.out _).mono ?_); rintro e w1 ⟨rfl, rfl⟩))
    go_ret
    exact ⟨by rw [gok_no HD.out]; rfl, below1 _ _⟩
  rw [decide_eq_true q0] at W0
  by_cases q1 : ((1 : Int) ≤ (V.length : Int) ∧ (V.length : Int) ≤ 10)
  rotate_left
  · have HD := Lib.hid (show ¬ GOk n st V A B from fun h => q1 (by have := h.1; have := h.2.1; have := h.2.2.1; have h4 := h.2.2.2.1; have h5 := h.2.2.2.2.1; first | omega | exact h4 | exact h5))
    rw [decide_eq_false q1] at W1
    clear hW0
    go_enter Try.func113, Try.ntmps113
    go_wp2_with (go_at_call 96; first | ((with_reducible refine (W0.out _).mono ?_); rintro e w1 ⟨rfl, rfl⟩) | ((with_reducible refine (W1.out _).mono ?_); rintro e w1 ⟨rfl, rfl⟩) | ((with_reducible refine (W3.out _).mono ?_); rintro e w1 ⟨rfl, rfl⟩) | ((with_reducible refine (AST.out _).mono ?_); rintro e w1 ⟨rfl, rfl⟩))
    go_ret
    exact ⟨by rw [gok_no HD.out]; rfl, below1 _ _⟩
  rw [decide_eq_true q1] at W1
  by_cases q2 : (n ≤ (V.length : Int))
  rotate_left
  · have HD := Lib.hid (show ¬ GOk n st V A B from fun h => q2 (by have := h.1; have := h.2.1; have := h.2.2.1; have h4 := h.2.2.2.1; have h5 := h.2.2.2.2.1; first | omega | exact h4 | exact h5))
    have d2 : decide ((V.length : Int) < n) = true := decide_eq_true (by omega)
    clear hW0
    go_enter Try.func113, Try.ntmps113
    go_wp2_with (go_at_call 96; first | ((with_reducible refine (W0.out _).mono ?_); rintro e w1 ⟨rfl, rfl⟩) | ((with_reducible refine (W1.out _).mono ?_); rintro e w1 ⟨rfl, rfl⟩) | ((with_reducible refine (W3.out _).mono ?_); rintro e w1 ⟨rfl, rfl⟩) | ((with_reducible refine (AST.out _).mono ?_); rintro e w1 ⟨rfl, rfl⟩))
    go_ret
    exact ⟨by rw [gok_no HD.out]; rfl, below1 _ _⟩
  have d2 : decide ((V.length : Int) < n) = false := decide_eq_false (by omega)
  by_cases q3 : ((1 : Int) ≤ (A.length : Int) ∧ (A.length : Int) ≤ 16)
  rotate_left
  · have HD := Lib.hid (show ¬ GOk n st V A B from fun h => q3 (by have := h.1; have := h.2.1; have := h.2.2.1; have h4 := h.2.2.2.1; have h5 := h.2.2.2.2.1; first | omega | exact h4 | exact h5))
    rw [decide_eq_false q3] at W3
    clear hW0
    go_enter Try.func113, Try.ntmps113
    go_wp2_with (go_at_call 96; first | ((with_reducible refine (W0.out _).mono ?_); rintro e w1 ⟨rfl, rfl⟩) | ((with_reducible refine (W1.out _).mono ?_); rintro e w1 ⟨rfl, rfl⟩) | ((with_reducible refine (W3.out _).mono ?_); rintro e w1 ⟨rfl, rfl⟩) | ((with_reducible refine (AST.out _).mono ?_); rintro e w1 ⟨rfl, rfl⟩))
    go_ret
    exact ⟨by rw [gok_no HD.out]; rfl, below1 _ _⟩
  rw [decide_eq_true q3] at W3
  by_cases q4 : (B.length = A.length)
  rotate_left
  · have HD := Lib.hid (show ¬ GOk n st V A B from fun h => q4 (by have := h.1; have := h.2.1; have := h.2.2.1; have h4 := h.2.2.2.1; have h5 := h.2.2.2.2.1; first | omega | exact h4 | exact h5))
    clear hW0
    go_enter Try.func113, Try.ntmps113
    go_wp2_with (go_at_call 96; first | ((with_reducible refine (W0.out _).mono ?_); rintro e w1 ⟨rfl, rfl⟩) | ((with_reducible refine (W1.out _).mono ?_); rintro e w1 ⟨rfl, rfl⟩) | ((with_reducible refine (W3.out _).mono ?_); rintro e w1 ⟨rfl, rfl⟩) | ((with_reducible refine (AST.out _).mono ?_); rintro e w1 ⟨rfl, rfl⟩))
    go_ret
    exact ⟨by rw [gok_no HD.out]; rfl, below1 _ _⟩
  by_cases q5 : amt st
  rotate_left
  · have HD := Lib.hid (show ¬ GOk n st V A B from fun h => q5 (by have := h.1; have := h.2.1; have := h.2.2.1; have h4 := h.2.2.2.1; have h5 := h.2.2.2.2.1; first | omega | exact h4 | exact h5))
    rw [decide_eq_false q5] at AST
    clear hW0
    go_enter Try.func113, Try.ntmps113
    go_wp2_with (go_at_call 96; first | ((with_reducible refine (W0.out _).mono ?_); rintro e w1 ⟨rfl, rfl⟩) | ((with_reducible refine (W1.out _).mono ?_); rintro e w1 ⟨rfl, rfl⟩) | ((with_reducible refine (W3.out _).mono ?_); rintro e w1 ⟨rfl, rfl⟩) | ((with_reducible refine (AST.out _).mono ?_); rintro e w1 ⟨rfl, rfl⟩))
    go_ret
    exact ⟨by rw [gok_no HD.out]; rfl, below1 _ _⟩
  rw [decide_eq_true q5] at AST
  have hG : (∀ b ∈ B, amt b) → GOk n st V A B := fun hb => ⟨⟨by omega, by omega⟩, ⟨by omega, by omega, by omega⟩, ⟨by omega, by omega⟩, by omega, q5, hb⟩
  have HGY := Lib.hid hG
  have HGN : Hid (∀ k, k < B.length → ¬ amt (idAt B k) → ¬ GOk n st V A B) := Lib.hid (fun k hk hn h => hn (by have := h.2.2.2.2.2 B[k] (List.getElem_mem hk); unfold idAt; rwa [List.getD_eq_getElem?_getD, List.getElem?_eq_getElem hk]))
  have HQ7 := Lib.hid q4
  clear hG hW0 q5
  go_enter Try.func113, Try.ntmps113
  go_wp2_with (go_at_call 96; first | ((with_reducible refine (W0.out _).mono ?_); rintro e w1 ⟨rfl, rfl⟩) | ((with_reducible refine (W1.out _).mono ?_); rintro e w1 ⟨rfl, rfl⟩) | ((with_reducible refine (W3.out _).mono ?_); rintro e w1 ⟨rfl, rfl⟩) | ((with_reducible refine (AST.out _).mono ?_); rintro e w1 ⟨rfl, rfl⟩))
  go_loop [3] (fun x => ∃ k : Nat, k ≤ A.length ∧ x = .int .i64 k ∧ Hid (∀ j, j < k → amt (idAt B j))) (fun x => A.length - (intOf x).toNat)
  case atStart => exact ⟨0, Nat.zero_le _, rfl, Lib.hid (fun j hj => by omega)⟩
  case round =>
    obtain ⟨k, hk, rfl, hP⟩ := hrel
    by_cases hlt : k < A.length
    · have hkl : (k : Int) < (A.length : Int) := by omega
      have hkB : k < B.length := by have := HQ7.out; omega
      obtain ⟨b3, o3, rfl, _⟩ := HC.out (by omega)
      have ck := (HB.out.below (below1 w (.cells #[.int .i64 n, .int .i64 st, .slice a V.length ka, .slice b A.length kb, .slice (some ⟨b3, o3, none⟩) B.length kc] 67))).cell k hkB
      rw [HQ7.out] at ck
      have AK := Lib.hid (fun w => within_amt (idAt B k) w)
      have HN := Lib.hid (HGN.out k hkB)
      clear hkB
      by_cases hx : amt (idAt B k)
      · rw [decide_eq_true hx] at AK
        have hP2 : Hid (∀ j, j < k + 1 → amt (idAt B j)) := Lib.hid (fun j hj => by
          by_cases hj' : j < k
          · exact hP.out j hj'
          · obtain rfl : j = k := by omega
            exact hx)
        clear hx HN hP
        go_wp2_with (go_at_call 96; refine (AK.out _).mono ?_; rintro e w1 ⟨rfl, rfl⟩)
        go_round
        case rel => exact ⟨k + 1, by omega, by go_num, hP2⟩
        case measure => simp [intOf]; omega
      · rw [decide_eq_false hx] at AK
        have HN2 := Lib.hid (HN.out hx)
        clear hx HN hP
        go_wp2_with (go_at_call 96; refine (AK.out _).mono ?_; rintro e w1 ⟨rfl, rfl⟩)
        go_ret
        exact ⟨by rw [gok_no HN2.out]; rfl, below1 _ _⟩
    · have HY := Lib.hid (HGY.out (fun b hb => by
        obtain ⟨j, hj, rfl⟩ := List.mem_iff_getElem.1 hb
        have := hP.out j (by have := HQ7.out; omega)
        unfold idAt at this
        rwa [List.getD_eq_getElem?_getD, List.getElem?_eq_getElem hj] at this))
      have hd : decide ((k : Int) < (A.length : Int)) = false := decide_eq_false (by omega)
      go_wp2
      go_ret
      exact ⟨by rw [gok_yes HY.out]; rfl, below1 _ _⟩
end Go.Proofs.Ytilhceihelcdgaa
