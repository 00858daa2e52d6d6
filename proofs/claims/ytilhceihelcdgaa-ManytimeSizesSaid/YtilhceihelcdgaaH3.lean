/-
  Contracts of the two functions that read a word of eight bytes.
-/
import Derived.Test.YtilhceihelcdgaaH2
import Derived.Deep.QuietTactic
import Derived.BigQuiet
namespace Go.Proofs.Ytilhceihelcdgaa
open Go.RowKit

theorem or_word (c0 c1 c2 c3 c4 c5 c6 c7 : Int) (h0 : 0 ≤ c0 ∧ c0 < 256) (h1 : 0 ≤ c1 ∧ c1 < 256) (h2 : 0 ≤ c2 ∧ c2 < 256) (h3 : 0 ≤ c3 ∧ c3 < 256) (h4 : 0 ≤ c4 ∧ c4 < 256) (h5 : 0 ≤ c5 ∧ c5 < 256) (h6 : 0 ≤ c6 ∧ c6 < 256) (h7 : 0 ≤ c7 ∧ c7 < 256) :
    bits .or .u64 (bits .or .u64 (bits .or .u64 (bits .or .u64 (bits .or .u64 (bits .or .u64 (bits .or .u64 (c0 * 72057594037927936) (c1 * 281474976710656)) (c2 * 1099511627776)) (c3 * 4294967296)) (c4 * 16777216)) (c5 * 65536)) (c6 * 256)) c7 =
      c0 * 72057594037927936 + c1 * 281474976710656 + c2 * 1099511627776 + c3 * 4294967296 + c4 * 16777216 + c5 * 65536 + c6 * 256 + c7 := by
  rw [or_add (c0 * 72057594037927936) _ 56 (by omega) (by omega) (by omega) (by omega) (by omega) (by decide),
    or_add (c0 * 72057594037927936 + _) _ 48 (by omega) (by omega) (by omega) (by omega) (by omega) (by decide),
    or_add (c0 * 72057594037927936 + _ + _) _ 40 (by omega) (by omega) (by omega) (by omega) (by omega) (by decide),
    or_add (c0 * 72057594037927936 + _ + _ + _) _ 32 (by omega) (by omega) (by omega) (by omega) (by omega) (by decide),
    or_add (c0 * 72057594037927936 + _ + _ + _ + _) _ 24 (by omega) (by omega) (by omega) (by omega) (by omega) (by decide),
    or_add (c0 * 72057594037927936 + _ + _ + _ + _ + _) _ 16 (by omega) (by omega) (by omega) (by omega) (by omega) (by decide),
    or_add (c0 * 72057594037927936 + _ + _ + _ + _ + _ + _) _ 8 (by omega) (by omega) (by omega) (by omega) (by omega) (by decide)]

theorem Bs.at {w : World} {b o cap : Nat} {l : List Int} (h : Sl w (.slice (some ⟨b, o, none⟩) l.length cap) 1 l.length (bsv l)) (j : Nat) (hj : j < l.length) : w.cell? ⟨b, o + j, none⟩ = some (.int .u8 (l.getD j 0)) := by
  rw [h.cell (by omega) j (by omega), bsv_get hj]

/-- A list of bytes and zeros behind it, as one number. -/
theorem numOf_pad (l : List Int) (h : l.length < 8) : numOf (l ++ List.replicate (8 - l.length) 0) = wordOf l := by
  match l, h with
  | [], _ => simp [numOf, wordOf]
  | [a], _ => simp [numOf, wordOf]; omega
  | [a, b], _ => simp [numOf, wordOf]; omega
  | [a, b, c], _ => simp [numOf, wordOf]; omega
  | [a, b, c, d], _ => simp [numOf, wordOf]; omega
  | [a, b, c, d, e], _ => simp [numOf, wordOf]; omega
  | [a, b, c, d, e, f], _ => simp [numOf, wordOf]; omega
  | [a, b, c, d, e, f, g], _ => simp [numOf, wordOf]; omega

set_option maxHeartbeats 400000 in
theorem word_ge (l : List Int) (v : Value) (w : World) (h : Bs w v l) (hn : 8 ≤ l.length) :
    Calls Try.prog 172 #[v] w fun e w' => e = .returned (.int .u64 (wordOf l)) ∧ Below w.heap.size w w' := by
  have HB := h.2
  obtain ⟨a, cap, rfl, hnc, hcm, _, hl, _, hc⟩ := id h.1
  obtain ⟨b, o, rfl, _⟩ := hc (by omega)
  have c0 := Bs.at h.1 0 (by omega); have c1 := Bs.at h.1 1 (by omega); have c2 := Bs.at h.1 2 (by omega); have c3 := Bs.at h.1 3 (by omega)
  have c4 := Bs.at h.1 4 (by omega); have c5 := Bs.at h.1 5 (by omega); have c6 := Bs.at h.1 6 (by omega); have c7 := Bs.at h.1 7 (by omega)
  have b0 := HB.getD 0; have b1 := HB.getD 1; have b2 := HB.getD 2; have b3 := HB.getD 3; have b4 := HB.getD 4; have b5 := HB.getD 5; have b6 := HB.getD 6; have b7 := HB.getD 7
  have hfin : wordOf l = _ := (or_word _ _ _ _ _ _ _ _ b0 b1 b2 b3 b4 b5 b6 b7).symm
  have HF := Lib.hid hfin
  clear hfin hc h
  generalize l.getD 0 0 = d0 at *; generalize l.getD 1 0 = d1 at *; generalize l.getD 2 0 = d2 at *; generalize l.getD 3 0 = d3 at *
  generalize l.getD 4 0 = d4 at *; generalize l.getD 5 0 = d5 at *; generalize l.getD 6 0 = d6 at *; generalize l.getD 7 0 = d7 at *
  obtain ⟨_, _⟩ := b0; obtain ⟨_, _⟩ := b1; obtain ⟨_, _⟩ := b2; obtain ⟨_, _⟩ := b3; obtain ⟨_, _⟩ := b4; obtain ⟨_, _⟩ := b5; obtain ⟨_, _⟩ := b6; obtain ⟨_, _⟩ := b7
  unfold maxLen at hcm
  generalize l.length = n at *
  simp only [Nat.add_zero] at c0
  go_enter Try.func172, Try.ntmps172
  go_wp2
  go_quiet (fail)
  go_wp2
  go_ret
  exact ⟨by rw [HF.out]; rfl, below_drewN (Below.refl _ _) _⟩

theorem splice_pad (l : List Int) (h : l.length < 8) : splice (bsv zeroN) 0 (bsv (l.take 8)) = bsv (l ++ List.replicate (8 - l.length) 0) := by
  match l, h with
  | [], _ => rfl
  | [a], _ => rfl
  | [a, b], _ => rfl
  | [a, b, c], _ => rfl
  | [a, b, c, d], _ => rfl
  | [a, b, c, d, e], _ => rfl
  | [a, b, c, d, e, f], _ => rfl
  | [a, b, c, d, e, f, g], _ => rfl
theorem pad_isN (l : List Int) (h : l.length < 8) (hb : Byt l) : IsN (l ++ List.replicate (8 - l.length) 0) :=
  ⟨by simp; omega, hb.append (fun x hx => by obtain ⟨_, rfl⟩ := List.mem_replicate.1 hx; omega)⟩

set_option maxHeartbeats 400000 in
theorem word_lt (l : List Int) (v : Value) (w : World) (h : Bs w v l) (hn : l.length < 8) :
    Calls Try.prog 172 #[v] w fun e w' => e = .returned (.int .u64 (wordOf l)) ∧ Below w.heap.size w w' := by
  have HB := h.2
  have hsl := h.1
  obtain ⟨a, cap, rfl, hnc, hcm, _, hl, _, hc⟩ := id h.1
  have hn' : (l.length : Int) < 8 := by omega
  have hpad := pad_isN l hn HB
  have hw := numOf_pad l hn
  have hsp := splice_pad l hn
  have HS := Lib.hid hsl
  have HW := Lib.hid hw
  have HP := Lib.hid hsp
  clear hc h hsl hw hsp
  unfold maxLen at hcm
  go_enter Try.func172, Try.ntmps172
  go_wp2_with (with_reducible refine wpList_copy_bs _ rfl (.tmp 53) (.tmp 54) rfl _ l rfl (HS.out.below ((Below.refl _ _).alloc (Nat.le_refl _) _)) w.heap.size 0 8 8 rfl (bsv zeroN) _ (Blk.new _ _ _) (by simp [bsv, zeroN]; omega) w.heap.size w ((Below.refl _ _).alloc (Nat.le_refl _) _) (Nat.le_refl _) ?_)
  intro w1 hb1 hB1
  rw [HP.out] at hb1
  go_wp2_with (refine wpList_load_name _ rfl (.tmp 3) rfl w.heap.size rfl _ _ hb1 hpad.1 ?_)
  go_wp2_with (go_at_call 216; refine (number_any _ _ hpad).mono ?_; rintro e w2 ⟨rfl, hB2⟩)

  go_ret
  exact ⟨by rw [← HW.out]; rfl, hB1.trans (hB2.mono hB1.size)⟩
end Go.Proofs.Ytilhceihelcdgaa
