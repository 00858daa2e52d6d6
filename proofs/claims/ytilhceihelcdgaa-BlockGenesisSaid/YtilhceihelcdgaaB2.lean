/-
  Whether a block is valid: the program's test and the reference's.
-/
import Derived.Test.YtilhceihelcdgaaB1
import Derived.Test.YtilhceihelcdgaaU
namespace Go.Proofs.Ytilhceihelcdgaa
open Go.RowKit

def ids (L : List (Int × List Int)) : List Int := L.map (·.1)
theorem ids_len (L : List (Int × List Int)) : (ids L).length = L.length := by simp [ids]
theorem ids_ok {L : List (Int × List Int)} (h : ∀ s ∈ L, ChOk s) : ∀ x ∈ ids L, -9223372036854775808 ≤ x ∧ x ≤ 9223372036854775807 := by
  intro x hx
  obtain ⟨s, hs, rfl⟩ := List.mem_map.1 hx
  exact (h s hs).2
def BlkOk (L : List (Int × List Int)) : Prop := 1 ≤ L.length ∧ L.length ≤ 7 ∧ IdsOk (ids L)
instance (L : List (Int × List Int)) : Decidable (BlkOk L) := by unfold BlkOk; infer_instance
set_option maxHeartbeats 1000000 in
theorem validBlock_any (p : List Int) (L : List (Int × List Int)) (v : Value) (w : World) (hp : p.length = 8) (h : Cs w v L) :
    Calls Try.prog 108 #[.agg (blv p v).toArray] w fun e w' => e = .returned (.bool (decide (BlkOk L))) ∧ Below w.heap.size w w' := by
  obtain ⟨a, cap, rfl, hnc, hcm, _, hln, _, hc⟩ := id h.1
  unfold maxLen at hcm
  have hmf : ∀ (fn : Fn) (first cap : Array Value) (w : World), (Instr.makeFunc fn first cap).run Try.prog w = .ok (.func fn first cap) w := fun _ _ _ _ => rfl
  have hb8 := blv_at (p := p) (v := .slice a L.length cap) hp
  generalize hX : (blv p (.slice a L.length cap)).toArray = X at *
  have hc8 : (w.alloc (.cells X 59)).cell? ⟨w.heap.size, 8, none⟩ = some (.slice a L.length cap) := by rw [(Blk.new w 59 X).cell 8, hb8]
  have hS : Hid (∀ w' r, w.alloc (.cells X 59) = w' → decide (BlkOk L) = r → (Ending.returned (.bool r) = .returned (.bool (decide (BlkOk L))) ∧ Below w.heap.size w w')) := Lib.hid (fun w' r h1 h2 => by subst h1 h2; exact ⟨rfl, below1 _ _⟩)
  by_cases h1 : 1 ≤ L.length
  · by_cases h7 : L.length ≤ 7
    · have HV := Lib.hid (validators_any (ids L) _ w.heap.size (w.alloc (.cells X 59)) rfl (by rw [ids_len]; omega) (ids_ok h.2) (Lib.hid fun i h0 hi => vb1_any w.heap.size L (.slice a L.length cap) p i _ (by rw [hX]; exact Blk.new _ _ _) hp (h.below (below1 _ _)) h0 (by rw [ids_len] at hi; exact hi)))
      rw [ids_len] at HV
      have hD := Lib.hid (show decide (BlkOk L) = decide (IdsOk (ids L)) by simp [BlkOk, h1, h7])
      generalize decide (IdsOk (ids L)) = d at *
      clear hb8 hX hc h
      go_enter Try.func108, Try.ntmps108
      go_wp2_with (go_at_call 182; refine (HV.out).mono ?_; rintro e w' ⟨rfl, rfl⟩)
      go_ret
      exact hS.out _ _ rfl hD.out
    · have hD := Lib.hid (show decide (BlkOk L) = false from decide_eq_false (fun h => h7 h.2.1))
      have h7' : decide (L.length ≤ 7) = false := decide_eq_false h7
      clear hb8 hX hc h
      go_enter Try.func108, Try.ntmps108
      go_wp2
      go_ret
      exact hS.out _ _ rfl hD.out
  · have hD := Lib.hid (show decide (BlkOk L) = false from decide_eq_false (fun h => h1 h.1))
    have h1' : decide (1 ≤ L.length) = false := decide_eq_false h1
    clear hb8 hX hc h
    go_enter Try.func108, Try.ntmps108
    go_wp2
    go_ret
    exact hS.out _ _ rfl hD.out

set_option maxHeartbeats 2000000 in
theorem rvalidBlock_any (p : List Int) (L : List (Int × List Int)) (v : Value) (w : World) (hp : p.length = 8) (h : Cs w v L) :
    Calls Try.prog 109 #[.agg (blv p v).toArray] w fun e w' => e = .returned (.bool (decide (BlkOk L))) ∧ Below w.heap.size w w' := by
  obtain ⟨a, cap, rfl, hnc, hcm, _, hln, _, hc⟩ := id h.1
  unfold maxLen at hcm
  have hb8 := blv_at (p := p) (v := .slice a L.length cap) hp
  generalize hX : (blv p (.slice a L.length cap)).toArray = X at *
  have HX8 := Lib.hid hb8
  have hc8 : (w.alloc (.cells X 59)).cell? ⟨w.heap.size, 8, none⟩ = some (.slice a L.length cap) := by rw [(Blk.new w 59 X).cell 8, hb8]
  have hS : Hid (∀ w' r, Below w.heap.size w w' → decide (BlkOk L) = r → (Ending.returned (.bool r) = .returned (.bool (decide (BlkOk L))) ∧ Below w.heap.size w w')) := Lib.hid (fun w' r h1 h2 => by subst h2; exact ⟨rfl, h1⟩)
  have HW := Lib.hid (fun w => within_any L.length 1 7 w)
  by_cases h1 : 1 ≤ L.length ∧ L.length ≤ 7
  · rw [decide_eq_true (show (1 : Int) ≤ L.length ∧ (L.length : Int) ≤ 7 by omega)] at HW
    obtain ⟨b, o, rfl, hcc⟩ := hc (by omega)
    have hD := Lib.hid (show decide (BlkOk L) = decide (IdsOk (ids L)) by simp [BlkOk, h1])
    have HC := Lib.hid (fun (k : Nat) (hk : k < L.length) (w' : World) (hb : Below w.heap.size w w') => show w'.cell? ⟨b, o + k * 9, none⟩ = some (.int .i64 (idAt (ids L) k)) by
      have := (h.below hb).cell k 0 hk (by omega)
      rw [Nat.add_zero] at this
      rw [this]
      simp [chv, idAt, ids, List.getD_eq_getElem?_getD, List.getElem?_eq_getElem hk])
    have HI := Lib.hid (ids_ok h.2)
    clear hb8 hX hc h hcc
    go_enter Try.func109, Try.ntmps109
    go_wp2_with (go_at_call 96; refine (HW.out _).mono ?_; rintro e w' ⟨rfl, rfl⟩)
    clear hc8
    go_loopw [3] (fun i wr => ∃ k : Nat, k ≤ L.length ∧ i = .int .i64 k ∧ Hid (∀ j, j < k → idOk (ids L) j) ∧ Blk wr w.heap.size 59 X ∧ Below w.heap.size w wr) (fun i _ => L.length - (intOf i).toNat)
    case atStart => exact ⟨0, Nat.zero_le _, rfl, Lib.hid (fun j hj => by omega), Blk.new _ _ _, below1 _ _⟩
    case round =>
      obtain ⟨k, hk, rfl, hA, hB, hV⟩ := hrel
      have hc8 := hB.cell 8
      rw [HX8.out] at hc8
      have HB := Lib.hid hB
      have HV := Lib.hid hV
      clear hB hV
      have hfin := Lib.hid (fun (r : Bool) (hr : decide (BlkOk L) = r) (n : Nat) => hS.out (wr.drewN n) r (below_drewN HV.out n) hr)
      by_cases hlt : k < L.length
      · have hkl : (k : Int) < (L.length : Int) := by omega
        have ck := HC.out k hlt wr HV.out
        have hb := HI.out (idAt (ids L) k) (by unfold idAt; rw [List.getD_eq_getElem?_getD, List.getElem?_eq_getElem (by rw [ids_len]; exact hlt)]; exact List.getElem_mem _)
        have HN : Hid (¬ idOk (ids L) k → decide (BlkOk L) = false) := Lib.hid (fun hn => decide_eq_false (fun h => hn (h.2.2 k (by rw [ids_len]; exact hlt))))
        have HW2 := Lib.hid (fun w => within_any (idAt (ids L) k) 0 9 w)
        by_cases hok : 0 ≤ idAt (ids L) k ∧ idAt (ids L) k ≤ 9
        · rw [decide_eq_true hok] at HW2
          by_cases hk0 : k = 0
          · subst hk0
            simp only [Nat.zero_mul, Nat.add_zero] at ck
            have hO : Hid (∀ j, j < 0 + 1 → idOk (ids L) j) := Lib.hid (fun j hj => by (have e : j = 0 := by omega); subst e; exact ⟨hok.1, by omega, fun h => by omega⟩)
            generalize idAt (ids L) 0 = x at *
            clear HN hok hA
            go_wp2_with fail
            go_quiet ((go_at_call 96; exact Calls.same (HW2.out _)))
            go_wp2
            go_roundw
            case rel => exact ⟨1, by omega, by go_num, hO, HB.out, below_drewN HV.out _⟩
            case measure => simp [intOf]; omega
          · obtain ⟨q, rfl⟩ : ∃ q, k = q + 1 := ⟨k - 1, by omega⟩
            have cq := HC.out q (by omega) wr HV.out
            have hbq := HI.out (idAt (ids L) q) (by unfold idAt; rw [List.getD_eq_getElem?_getD, List.getElem?_eq_getElem (by rw [ids_len]; omega)]; exact List.getElem_mem _)
            by_cases hlt2 : idAt (ids L) q < idAt (ids L) (q + 1)
            · have hO : Hid (∀ j, j < q + 1 + 1 → idOk (ids L) j) := Lib.hid (fun j hj => by
                by_cases hj' : j < q + 1
                · exact hA.out j hj'
                · obtain rfl : j = q + 1 := by omega
                  exact ⟨hok.1, by omega, fun _ => hlt2⟩)
              clear HN hA
              generalize idAt (ids L) (q + 1) = x at *
              generalize idAt (ids L) q = y at *
              have d2 : decide (x ≤ y) = false := decide_eq_false (by omega)
              go_wp2_with fail
              go_quiet ((go_at_call 96; exact Calls.same (HW2.out _)))
              go_wp2
              go_roundw
              case rel => exact ⟨q + 1 + 1, by omega, by go_num, hO, HB.out, below_drewN HV.out _⟩
              case measure => simp [intOf]; omega
            · have hN := Lib.hid (HN.out (fun h => by have := h.2.2 (by omega); simp only [Nat.add_sub_cancel] at this; omega))
              clear HN hA
              generalize idAt (ids L) (q + 1) = x at *
              generalize idAt (ids L) q = y at *
              have d2 : decide (x ≤ y) = true := decide_eq_true (by omega)
              go_wp2_with fail
              go_quiet ((go_at_call 96; exact Calls.same (HW2.out _)))
              go_wp2
              go_ret
              exact hfin.out _ hN.out _
        · rw [decide_eq_false hok] at HW2
          have hN := Lib.hid (HN.out (fun h => hok ⟨h.1, by have := h.2.1; omega⟩))
          generalize idAt (ids L) k = x at *
          clear HN hok
          go_wp2_with fail
          go_quiet ((go_at_call 96; exact Calls.same (HW2.out _)))
          go_wp2
          go_ret
          exact hfin.out _ hN.out _
      · have hN := Lib.hid (hD.out.trans (decide_eq_true (fun j hj => hA.out j (by rw [ids_len] at hj; omega))))
        have hd : decide ((k : Int) < (L.length : Int)) = false := decide_eq_false (by omega)
        go_wp2
        go_ret
        exact hS.out _ _ HV.out hN.out
  · rw [decide_eq_false (show ¬ ((1 : Int) ≤ L.length ∧ (L.length : Int) ≤ 7) by omega)] at HW
    have hD := Lib.hid (show decide (BlkOk L) = false from decide_eq_false (fun h => h1 ⟨h.1, h.2.1⟩))
    clear hb8 hX hc h
    go_enter Try.func109, Try.ntmps109
    go_wp2_with (go_at_call 96; refine (HW.out _).mono ?_; rintro e w' ⟨rfl, rfl⟩)
    go_ret
    exact hS.out _ _ (below1 _ _) hD.out
end Go.Proofs.Ytilhceihelcdgaa
