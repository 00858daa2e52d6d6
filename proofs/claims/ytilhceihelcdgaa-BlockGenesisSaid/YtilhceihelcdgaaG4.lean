/-
  The reference says of two geneses with one content that they are the same.
-/
import Derived.Test.YtilhceihelcdgaaG3
namespace Go.Proofs.Ytilhceihelcdgaa
open Go.RowKit

set_option maxRecDepth 100000 in
set_option maxHeartbeats 4000000 in
theorem rsameNames_true (V : List (List Int)) (v1 v2 : Value) (w : World) (h1 : Ns w v1 V) (h2 : Ns w v2 V) :
    Calls Try.prog 114 #[v1, v2] w fun e w' => e = .returned (.bool true) ∧ ∃ n, w' = w.drewN n := by
  have H1 := Lib.hid h1
  have H2 := Lib.hid h2
  obtain ⟨a, ka, rfl, hna, hma, _, hla, _, hca⟩ := id h1.1
  obtain ⟨b, kb, rfl, hnb, hmb, _, hlb, _, hcb⟩ := id h2.1
  have HA := Lib.hid hca
  have HB := Lib.hid hcb
  unfold maxLen at hma hmb
  clear h1 h2 hca hcb
  go_enter Try.func114, Try.ntmps114
  go_wp2
  go_loopw [5] (fun i wr => ∃ k q : Nat, k ≤ V.length ∧ i = .int .i64 k ∧ wr = w.drewN q) (fun i _ => V.length - (intOf i).toNat)
  case atStart => exact ⟨0, 0, Nat.zero_le _, rfl, rfl⟩
  case round =>
    obtain ⟨k, q, hk, rfl, rfl⟩ := hrel
    by_cases hlt : k < V.length
    · have hkl : (k : Int) < (V.length : Int) := by omega
      obtain ⟨b1, o1, rfl, hz1⟩ := HA.out (by omega)
      obtain ⟨b2, o2, rfl, hz2⟩ := HB.out (by omega)
      clear hz1 hz2
      have hn := H1.out.2 _ (List.getElem_mem hlt)
      obtain ⟨nm, hnm⟩ : ∃ x, V[k] = x := ⟨_, rfl⟩
      have C1 := H1.out.nm k hlt
      have C2 := H2.out.nm k hlt
      rw [hnm] at hn C1 C2
      obtain ⟨n0, n1, n2, n3, n4, n5, n6, n7, rfl, _⟩ := hn.cases
      have a0 := C1 0 (by omega)
      have a1 := C1 1 (by omega)
      have a2 := C1 2 (by omega)
      have a3 := C1 3 (by omega)
      have a4 := C1 4 (by omega)
      have a5 := C1 5 (by omega)
      have a6 := C1 6 (by omega)
      have a7 := C1 7 (by omega)
      have e0 := C2 0 (by omega)
      have e1 := C2 1 (by omega)
      have e2 := C2 2 (by omega)
      have e3 := C2 3 (by omega)
      have e4 := C2 4 (by omega)
      have e5 := C2 5 (by omega)
      have e6 := C2 6 (by omega)
      have e7 := C2 7 (by omega)
      simp [bsv] at a0 a1 a2 a3 a4 a5 a6 a7 e0 e1 e2 e3 e4 e5 e6 e7
      have qE : ∀ w, (Op.equalIn 10000 30 (.agg #[.int .u8 n0, .int .u8 n1, .int .u8 n2, .int .u8 n3, .int .u8 n4, .int .u8 n5, .int .u8 n6, .int .u8 n7]) (.agg #[.int .u8 n0, .int .u8 n1, .int .u8 n2, .int .u8 n3, .int .u8 n4, .int .u8 n5, .int .u8 n6, .int .u8 n7])).run Try.prog w = .ok true w := fun w => by
        have := run_eq_name8 w n0 n1 n2 n3 n4 n5 n6 n7 n0 n1 n2 n3 n4 n5 n6 n7
        rwa [decide_eq_true rfl] at this
      clear hnm hn C1 C2
      go_wp2_with fail
      go_quiet (fail)
      go_wp2
      go_roundw
      case rel => exact ⟨k + 1, _, by omega, by go_num, rfl⟩
      case measure => simp [intOf]; omega
    · have hd : decide ((k : Int) < (V.length : Int)) = false := by simp; omega
      go_wp2
      go_ret
      exact ⟨rfl, _, rfl⟩
set_option maxRecDepth 100000 in
set_option maxHeartbeats 4000000 in
theorem rsameInts_true (V : List Int) (v1 v2 : Value) (w : World) (h1 : Ig w v1 V) (h2 : Ig w v2 V) :
    Calls Try.prog 115 #[v1, v2] w fun e w' => e = .returned (.bool true) ∧ ∃ n, w' = w.drewN n := by
  have H1 := Lib.hid h1
  have H2 := Lib.hid h2
  obtain ⟨a, ka, rfl, hna, hma, _, hla, _, hca⟩ := id h1.1
  obtain ⟨b, kb, rfl, hnb, hmb, _, hlb, _, hcb⟩ := id h2.1
  have HA := Lib.hid hca
  have HB := Lib.hid hcb
  unfold maxLen at hma hmb
  clear h1 h2 hca hcb
  go_enter Try.func115, Try.ntmps115
  go_wp2
  go_loopw [5] (fun i wr => ∃ k q : Nat, k ≤ V.length ∧ i = .int .i64 k ∧ wr = w.drewN q) (fun i _ => V.length - (intOf i).toNat)
  case atStart => exact ⟨0, 0, Nat.zero_le _, rfl, rfl⟩
  case round =>
    obtain ⟨k, q, hk, rfl, rfl⟩ := hrel
    by_cases hlt : k < V.length
    · have hkl : (k : Int) < (V.length : Int) := by omega
      obtain ⟨b1, o1, rfl, hz1⟩ := HA.out (by omega)
      obtain ⟨b2, o2, rfl, hz2⟩ := HB.out (by omega)
      clear hz1 hz2
      have a0 := H1.out.cell k hlt
      have e0 := H2.out.cell k hlt
      go_wp2_with fail
      go_quiet (fail)
      go_wp2
      go_roundw
      case rel => exact ⟨k + 1, _, by omega, by go_num, rfl⟩
      case measure => simp [intOf]; omega
    · have hd : decide ((k : Int) < (V.length : Int)) = false := by simp; omega
      go_wp2
      go_ret
      exact ⟨rfl, _, rfl⟩
set_option maxRecDepth 100000 in
set_option maxHeartbeats 4000000 in
theorem rsameGenesis_true (n st : Int) (V A : List (List Int)) (B : List Int) (a b c a' b' c' : Value) (w : World) (h1 : Ns w a V) (h2 : Ns w b A) (h3 : Ig w c B) (h4 : Ns w a' V) (h5 : Ns w b' A) (h6 : Ig w c' B) :
    Calls Try.prog 52 #[.agg (gnv n st a b c).toArray, .agg (gnv n st a' b' c').toArray] w fun e w' => e = .returned (.bool true) ∧ Below w.heap.size w w' := by
  have H1 := Lib.hid h1
  have H2 := Lib.hid h2
  have H3 := Lib.hid h3
  have H4 := Lib.hid h4
  have H5 := Lib.hid h5
  have H6 := Lib.hid h6
  obtain ⟨a, ka, rfl, _⟩ := id h1.1
  obtain ⟨b, kb, rfl, _⟩ := id h2.1
  obtain ⟨c, kc, rfl, _⟩ := id h3.1
  obtain ⟨a', ka', rfl, _⟩ := id h4.1
  obtain ⟨b', kb', rfl, _⟩ := id h5.1
  obtain ⟨c', kc', rfl, _⟩ := id h6.1
  show Calls _ _ #[.agg #[.int .i64 n, .int .i64 st, .slice a V.length ka, .slice b A.length kb, .slice c B.length kc], .agg #[.int .i64 n, .int .i64 st, .slice a' V.length ka', .slice b' A.length kb', .slice c' B.length kc']] _ _
  clear h1 h2 h3 h4 h5 h6
  have BB := below2 w (.cells #[.int .i64 n, .int .i64 st, .slice a V.length ka, .slice b A.length kb, .slice c B.length kc] 67) (.cells #[.int .i64 n, .int .i64 st, .slice a' V.length ka', .slice b' A.length kb', .slice c' B.length kc'] 67)
  have N1 := Lib.hid (fun w' hb => rsameNames_true V _ _ w' ((H1.out.below BB).below hb) ((H4.out.below BB).below hb))
  have N2 := Lib.hid (fun w' hb => rsameNames_true A _ _ w' ((H2.out.below BB).below hb) ((H5.out.below BB).below hb))
  have N3 := Lib.hid (fun w' hb => rsameInts_true B _ _ w' ((H3.out.below BB).below hb) ((H6.out.below BB).below hb))
  go_enter Try.func52, Try.ntmps52
  go_wp2_with fail
  refine (N1.out _ (Below.refl _ _)).mono ?_
  rintro e w1 ⟨rfl, q1, rfl⟩
  go_wp2_with fail
  refine (N2.out _ (by exact below_drewN (Below.refl _ _) _)).mono ?_
  rintro e w2 ⟨rfl, q2, rfl⟩
  go_wp2_with fail
  refine (N3.out _ (by first | exact below_drewN (below_drewN (Below.refl _ _) _) _ | exact below_drewN (Below.refl _ _) _)).mono ?_
  rintro e w3 ⟨rfl, q3, rfl⟩
  go_wp2
  go_ret
  exact ⟨rfl, by first | exact below_drewN (below_drewN (below_drewN BB _) _) _ | exact below_drewN (below_drewN BB _) _ | exact below_drewN BB _⟩
end Go.Proofs.Ytilhceihelcdgaa
