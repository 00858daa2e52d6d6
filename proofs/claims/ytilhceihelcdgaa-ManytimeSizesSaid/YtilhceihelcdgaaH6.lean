/-
  Contracts of the hash of a byte string: the reference's Sum, and Tagged in both texts.
-/
import Derived.Test.YtilhceihelcdgaaH5
import Derived.Deep.RegionLaw
namespace Go.Proofs.Ytilhceihelcdgaa
open Go.RowKit

set_option maxHeartbeats 1000000 in
theorem rsum_any (l : List Int) (v : Value) (w : World) (h : Bs w v l) :
    Calls Try.prog 98 #[v] w fun e w' => e = .returned (nv (hname l)) ∧ Below w.heap.size w w' := by
  have HB := h.2
  have HS := Lib.hid h
  obtain ⟨a, cap, rfl, hnc, hcm, _, hl, _, hc⟩ := id h.1
  have HC := Lib.hid hc
  clear hc h
  unfold maxLen at hcm
  go_enter Try.func98, Try.ntmps98
  go_wp2
  go_loopw [3, 4, 5] (fun x y i wr => ∃ k : Nat, 8 * k ≤ l.length + 7 ∧ i = .int .i64 (8 * (k : Int)) ∧ x = .int .u64 (stS l k).1 ∧ y = .int .u64 (stS l k).2 ∧ Blk wr w.heap.size 30 (bsv zeroN).toArray ∧ Below w.heap.size w wr)
    (fun _ _ i _ => l.length + 8 - (intOf i).toNat)
  case atStart => exact ⟨0, by omega, rfl, rfl, rfl, Blk.new _ _ _, (Below.refl _ _).alloc (Nat.le_refl _) _⟩
  case round =>
    obtain ⟨k, hk, rfl, rfl, rfl, hN, hW⟩ := hrel
    obtain ⟨hX, hY⟩ := stS_u64 l k
    have hs := stS_succ l k
    generalize hX' : (stS l k).1 = X at *
    generalize hY' : (stS l k).2 = Y at *
    have HX' := Lib.hid hX'
    have HY' := Lib.hid hY'
    have HN := Lib.hid hs
    clear hX' hY' hs
    obtain ⟨_, _⟩ := hX
    obtain ⟨_, _⟩ := hY
    have hsz := hN.lt
    by_cases hlt : 8 * k < l.length
    · obtain ⟨b, o, rfl, _⟩ := HC.out (by omega)
      have hbs := (Bs.drop HS.out (8 * k) hlt).below (hW)
      have HBS := Lib.hid hbs
      clear hbs
      have hlt' : ((8 * k : Nat) : Int) < (l.length : Int) := by omega
      go_wp2_with fail
      refine (rword_any (l.drop (8 * k)) _ _ HBS.out).mono ?_
      rintro e w2 ⟨rfl, hB2⟩
      obtain ⟨b0, b1⟩ := bits_u64 .xor X (wordOf (l.drop (8 * k)))
      generalize hx1 : bits .xor .u64 X (wordOf (l.drop (8 * k))) = x1 at *
      go_wp2_with fail
      have HX1 := Lib.hid hx1
      clear hx1
      refine (rmix_any x1 Y _ (by omega) (by omega) (by omega) (by omega)).mono ?_
      rintro e w3 ⟨rfl, rfl⟩
      have h2 : mixN 2 x1 Y = (mixX (mixX x1 Y) (mixY x1 Y), mixY (mixX x1 Y) (mixY x1 Y)) := rfl
      have hp := mixX_u64 x1 Y
      have hq := mixY_u64 x1 Y
      generalize mixX x1 Y = p1 at *
      generalize mixY x1 Y = q1 at *
      obtain ⟨_, _⟩ := hp
      obtain ⟨_, _⟩ := hq
      have H2 := Lib.hid h2
      clear h2
      go_wp2_with fail
      refine (rmix_any p1 q1 _ (by omega) (by omega) (by omega) (by omega)).mono ?_
      rintro e w3 ⟨rfl, rfl⟩
      go_wp2_with fail
      go_roundw
      case rel =>
        refine ⟨k + 1, by omega, by go_num, ?_, ?_, hN.below hB2 hsz, hW.trans (hB2.mono hW.size)⟩
        · rw [HN.out, H2.out]
        · rw [HN.out, H2.out]
      case measure => simp [intOf]; omega
    · have hke : (l.length + 7) / 8 = k := by omega
      have hsum := hsum_of l k hke
      rw [HX'.out, HY'.out] at hsum
      have HSUM := Lib.hid hsum
      clear hsum hke
      have hu := bits_u64 .xor Y l.length
      generalize hy1 : bits .xor .u64 Y l.length = y1 at *
      have hd : decide (8 * (k : Int) < (l.length : Int)) = false := by simp; omega
      go_wp2_with fail
      go_loop [3, 4, 6] (fun x y i => ∃ j : Nat, j ≤ 4 ∧ i = .int .i64 j ∧ x = .int .u64 (mixN j X y1).1 ∧ y = .int .u64 (mixN j X y1).2) (fun _ _ i => 4 - (intOf i).toNat)
      case atStart => exact ⟨0, by omega, rfl, rfl, rfl⟩
      case round =>
        obtain ⟨j, hj, rfl, rfl, rfl⟩ := hrel
        obtain ⟨hA, hB⟩ := mixN_u64 j X y1 ⟨by omega, by omega⟩ hu
        have hs := mixN_succ j X y1
        generalize hA' : (mixN j X y1).1 = A at *
        generalize hB' : (mixN j X y1).2 = B at *
        have HA' := Lib.hid hA'
        have HB' := Lib.hid hB'
        have HSJ := Lib.hid hs
        clear hA' hB' hs
        obtain ⟨_, _⟩ := hA
        obtain ⟨_, _⟩ := hB
        clear hy1
        by_cases hj4 : j < 4
        · go_wp2_with fail
          refine (rmix_any A B _ (by omega) (by omega) (by omega) (by omega)).mono ?_
          rintro e w3 ⟨rfl, rfl⟩
          go_wp2_with fail
          go_round
          case rel => exact ⟨j + 1, by omega, by go_num, by rw [HSJ.out], by rw [HSJ.out]⟩
          case measure => simp [intOf]; omega
        · obtain rfl : j = 4 := by omega
          go_wp2_with fail
          refine (rof_any _ _ (bits_u64 _ _ _)).mono ?_
          rintro e w6 ⟨rfl, hB6⟩
          go_wp2_with (refine wpList_store_name _ rfl (.tmp 2) (.tmp 49) rfl _ rfl _ rfl _ _ (hN.below hB6 hN.lt) rfl rfl ?_)
          intro w7 hN7 hg7
          go_wp2
          refine ret_name rfl w.heap.size _ _ rfl rfl hN7 rfl ⟨?_, (hW.trans (hB6.mono hW.size)).grown hg7 (hW.trans (hB6.mono hW.size)).size (by intro j hj; cases hj; omega)⟩
          rw [hname, HSUM.out, HA'.out, HB'.out]
end Go.Proofs.Ytilhceihelcdgaa
