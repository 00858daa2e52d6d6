/-
  Contracts of the hash functions: hash.Of, the rotation, the mixing of the state, in the program and in the reference.
  Contracts of hash.Number and of the two functions that read a word of eight bytes.
  Contracts of the two functions that read a word of eight bytes.
  The contract of the reference's function that reads a word of eight bytes.
  Contracts of the hash of a byte string: hash.Sum, hash.Tagged, hash.Pair and the reference's.
  Contracts of the hash of a byte string: the reference's Sum, and Tagged in both texts.
  Contracts of the hash of a byte string behind a tag, in both texts.
  Contracts of the reference's Tagged and of the hash of a pair of names in both texts.
-/
import Derived.Test.YtilhceihelcdgaaP
import Derived.Deep.QuietTactic
import Derived.BigQuiet
import Derived.Deep.RegionHeld3
import Derived.StillTailTactics
import Derived.Test.YtilhceihelcdgaaL
import Derived.Deep.RegionWith
import Derived.Deep.RegionLaw
namespace Go.Proofs.Ytilhceihelcdgaa
section
open Go.RowKit

theorem of_any (x : Int) (w : World) (h : U64 x) :
    Calls Try.prog 174 #[.int .u64 x] w fun e w' => e = .returned (nv (ofU x)) ∧ Below w.heap.size w w' := by
  obtain ⟨h0, h1⟩ := h
  go_enter Try.func174, Try.ntmps174
  go_wp2
  exact ret_name rfl w.heap.size _ (ofU x) rfl rfl (Blk.new _ _ _) rfl ⟨rfl, (Below.refl _ _).alloc (Nat.le_refl _) _⟩
theorem rof_any (x : Int) (w : World) (h : U64 x) :
    Calls Try.prog 161 #[.int .u64 x] w fun e w' => e = .returned (nv (ofU x)) ∧ Below w.heap.size w w' := by
  obtain ⟨h0, h1⟩ := h
  go_enter Try.func161, Try.ntmps161
  go_wp2
  exact ret_name rfl w.heap.size _ (ofU x) rfl rfl (Blk.new _ _ _) rfl ⟨rfl, (Below.refl _ _).alloc (Nat.le_refl _) _⟩
theorem rot13_any (x : Int) (w : World) (_h0 : 0 ≤ x) (_h1 : x < 18446744073709551616) :
    Calls Try.prog 217 #[.int .u64 x, .int .i64 13] w fun e w' => e = .returned (.int .u64 (rot13 x)) ∧ w = w' := by
  have hb : bits BinOp.and IntKind.u64 13 63 = 13 := by decide
  go_enter Try.func217, Try.ntmps217
  go_wp2
  go_ret
  exact ⟨rfl, rfl⟩
theorem rot32_any (x : Int) (w : World) (_h0 : 0 ≤ x) (_h1 : x < 18446744073709551616) :
    Calls Try.prog 217 #[.int .u64 x, .int .i64 32] w fun e w' => e = .returned (.int .u64 (rot32 x)) ∧ w = w' := by
  have hb : bits BinOp.and IntKind.u64 32 63 = 32 := by decide
  go_enter Try.func217, Try.ntmps217
  go_wp2
  go_ret
  exact ⟨rfl, rfl⟩
theorem rmix_any (x y : Int) (w : World) (_h0 : 0 ≤ x) (_h1 : x < 18446744073709551616) (_h2 : 0 ≤ y) (_h3 : y < 18446744073709551616) :
    Calls Try.prog 176 #[.int .u64 x, .int .u64 y] w fun e w' => e = .returned (.tuple #[.int .u64 (mixX x y), .int .u64 (mixY x y)]) ∧ w = w' := by
  go_enter Try.func176, Try.ntmps176
  go_wp2
  go_ret2
  exact ⟨rfl, rfl⟩

set_option maxHeartbeats 400000 in
/-- One round of the mixing. -/
theorem mix_any (B n : Nat) (x y : Int) (w : World) (hn : n ≤ 4) (hx : U64 x) (hy : U64 y) (hb : Blk w B 205 #[.int .u64 x, .int .u64 y]) :
    Calls Try.prog 173 #[.pointer (some ⟨B, 0, none⟩), .int .i64 n] w fun e w' => e = .returned (.tuple #[]) ∧ Blk w' B 205 #[.int .u64 (mixN n x y).1, .int .u64 (mixN n x y).2] ∧ w.grownBy w' (some B) := by
  go_enter Try.func173, Try.ntmps173
  go_wp2
  go_loopw [5] (fun i wr => ∃ k : Nat, k ≤ n ∧ i = .int .i64 k ∧ Blk wr B 205 #[.int .u64 (mixN k x y).1, .int .u64 (mixN k x y).2] ∧ w.grownBy wr (some B))
    (fun i _ => n - (intOf i).toNat)
  case atStart => exact ⟨0, Nat.zero_le _, rfl, hb, grown_refl _ _⟩
  case round =>
    obtain ⟨k, hk, rfl, hB, hg⟩ := hrel
    obtain ⟨hX, hY⟩ := mixN_u64 k x y hx hy
    have hs := mixN_succ k x y
    generalize hX' : (mixN k x y).1 = X at *
    generalize hY' : (mixN k x y).2 = Y at *
    have HX' := Lib.hid hX'
    have HY' := Lib.hid hY'
    clear hX' hY'
    obtain ⟨_, _⟩ := hX
    obtain ⟨_, _⟩ := hY
    have c0 := hB.cell 0
    have c1 := hB.cell 1
    have f0 := hB.free 0
    have f1 := hB.free 1
    simp at c0 c1
    have HS := Lib.hid hs
    clear hs
    go_wp2
    · go_region
      have hB2 := (hB.set 0 (.int .u64 (IntKind.u64.wrap (X + Y)))).drew
      have hg2 := grown_drew (grown_set hg 0 (.int .u64 (IntKind.u64.wrap (X + Y))))
      generalize (wr.setCell ⟨B, 0, none⟩ (.int .u64 (IntKind.u64.wrap (X + Y)))).drew = w2 at *
      obtain ⟨_, _⟩ := wrap_u64 (X + Y)
      generalize hX1 : IntKind.u64.wrap (X + Y) = X1 at *
      have HX := Lib.hid hX1
      clear hX1
      clear c0 c1 f0 f1
      have c0 := hB2.cell 0
      have c1 := hB2.cell 1
      have f0 := hB2.free 0
      have f1 := hB2.free 1
      simp at c0 c1
      go_wp2
      go_region_with (go_at_call 217; refine (rot13_any _ _ (by omega) (by omega)).mono ?_; rintro e w' ⟨rfl, rfl⟩)
      all_goals
        have hB3 := (hB2.set 1 (.int .u64 (bits .xor .u64 (rot13 Y) X1))).drew
        have hg3 := grown_drew (grown_set hg2 1 (.int .u64 (bits .xor .u64 (rot13 Y) X1)))
        generalize (w2.setCell ⟨B, 1, none⟩ (.int .u64 (bits .xor .u64 (rot13 Y) X1))).drew = w3 at *
        clear c0 c1 f0 f1
        have c0 := hB3.cell 0
        have f0 := hB3.free 0
        simp at c0
        go_wp2_with (go_at_call 217; refine (rot32_any _ _ (by omega) (by omega)).mono ?_; rintro e w' ⟨rfl, rfl⟩)
        go_roundw
        case rel =>
          refine ⟨k + 1, by omega, by go_num, ?_, grown_set hg3 _ _⟩
          rw [HS.out]
          have := hB3.set 0 (.int .u64 (IntKind.u64.wrap (rot32 X1 * 11400714819323198485)))
          rw [← HX.out] at this ⊢
          exact this
        case measure => simp [intOf]; omega
    · go_end0
      obtain rfl : k = n := by omega
      rw [HX'.out, HY'.out]
      exact ⟨rfl, hB, hg⟩
end
section
open Go.RowKit

def numOf (l : List Int) : Int := l.foldl (fun a c => a * 256 + c) 0
theorem numOf_snoc (l : List Int) (c : Int) : numOf (l ++ [c]) = numOf l * 256 + c := by simp [numOf]
theorem numOf_bd (l : List Int) (h : Byt l) : 0 ≤ numOf l ∧ numOf l < 256 ^ l.length := by
  suffices ∀ n (l : List Int), l.length = n → Byt l → 0 ≤ numOf l ∧ numOf l < 256 ^ n from this _ l rfl h
  intro n
  induction n with
  | zero => intro l hl _; obtain rfl := List.eq_nil_of_length_eq_zero hl; simp [numOf]
  | succ n ih =>
    intro l hl hb
    obtain ⟨l', c, rfl⟩ : ∃ l' c, l = l' ++ [c] := ⟨l.dropLast, l.getLast (by intro e; simp [e] at hl), (List.dropLast_concat_getLast _).symm⟩
    have := ih l' (by simpa using hl) hb.left
    have hc := hb c (by simp)
    rw [numOf_snoc, Int.pow_succ]
    omega
theorem pow256_le (n : Nat) (h : n ≤ 7) : (256 : Int) ^ n ≤ 72057594037927936 := by
  rcases (show n = 0 ∨ n = 1 ∨ n = 2 ∨ n = 3 ∨ n = 4 ∨ n = 5 ∨ n = 6 ∨ n = 7 by omega) with rfl | rfl | rfl | rfl | rfl | rfl | rfl | rfl <;> decide
theorem or_byte {x c : Int} (h0 : 0 ≤ x) (h1 : x < 72057594037927936) (c0 : 0 ≤ c) (c1 : c < 256) : bits .or .u64 (x * 256) c = x * 256 + c :=
  or_add _ _ 8 (by omega) (by omega) (by simp) c0 (by simpa using c1) (by decide)
theorem take_one {l : List Int} {k : Nat} (h : k < l.length) : l.take (k + 1) = l.take k ++ [l.getD k 0] := by
  rw [List.take_succ_eq_append_getElem h, List.getD_eq_getElem?_getD, List.getElem?_eq_getElem h]; rfl
theorem run_index_nv (c0 c1 c2 c3 c4 c5 c6 c7 : Int) (k : Nat) (hk : k < 8) (w : World) :
    (Instr.index 30 (.agg #[.int .u8 c0, .int .u8 c1, .int .u8 c2, .int .u8 c3, .int .u8 c4, .int .u8 c5, .int .u8 c6, .int .u8 c7]) (.int .i64 k)).run Try.prog w = .ok (.int .u8 ([c0, c1, c2, c3, c4, c5, c6, c7].getD k 0)) w := by
  rcases (show k = 0 ∨ k = 1 ∨ k = 2 ∨ k = 3 ∨ k = 4 ∨ k = 5 ∨ k = 6 ∨ k = 7 by omega) with rfl | rfl | rfl | rfl | rfl | rfl | rfl | rfl <;> kernel_rfl

set_option maxHeartbeats 400000 in
theorem number_any (l : List Int) (w : World) (h : IsN l) :
    Calls Try.prog 216 #[nv l] w fun e w' => e = .returned (.int .u64 (numOf l)) ∧ Below w.heap.size w w' := by
  have HL := h.1
  have HB := h.2
  obtain ⟨c0, c1, c2, c3, c4, c5, c6, c7, hl, _, _⟩ := h.cases
  have hnv : nv l = .agg #[.int .u8 c0, .int .u8 c1, .int .u8 c2, .int .u8 c3, .int .u8 c4, .int .u8 c5, .int .u8 c6, .int .u8 c7] := by rw [hl]; rfl
  have hix : ∀ k, k < 8 → ∀ w, (Instr.index 30 (.agg #[.int .u8 c0, .int .u8 c1, .int .u8 c2, .int .u8 c3, .int .u8 c4, .int .u8 c5, .int .u8 c6, .int .u8 c7]) (.int .i64 (k : Nat))).run Try.prog w = .ok (.int .u8 (l.getD k 0)) w := fun k hk w => by
    rw [hl]; exact run_index_nv c0 c1 c2 c3 c4 c5 c6 c7 k hk w
  rw [hnv]
  have HIX := Lib.hid hix
  have HL' := Lib.hid HL
  clear hix hl hnv HL h
  go_enter Try.func216, Try.ntmps216
  go_wp2
  go_loop [3, 5, 7] (fun a _ i => ∃ k : Nat, k ≤ 8 ∧ i = .int .i64 k ∧ a = .int .u64 (numOf (l.take k))) (fun _ _ i => 8 - (intOf i).toNat)
  case atStart => exact ⟨0, by omega, rfl, rfl⟩
  case round =>
    obtain ⟨k, hk, rfl, rfl⟩ := hrel
    by_cases hlt : k < 8
    · have hb := numOf_bd (l.take k) (HB.take k)
      have h2 := HB.getD k
      have hix := HIX.out k hlt
      have hs := numOf_snoc (l.take k) (l.getD k 0)
      rw [← take_one (by rw [HL'.out]; exact hlt)] at hs
      have h8 : numOf (l.take k) < 72057594037927936 := Int.lt_of_lt_of_le hb.2 (pow256_le _ (by rw [List.length_take]; omega))
      have h9 := or_byte hb.1 h8 h2.1 h2.2
      obtain ⟨hb0, _⟩ := hb
      generalize numOf (l.take k) = A at *
      generalize l.getD k 0 = c at *
      obtain ⟨_, _⟩ := h2
      have HS := Lib.hid hs
      clear hs
      go_wp2
      go_round
      case rel => exact ⟨k + 1, by omega, by go_num, by rw [HS.out]⟩
      case measure => simp [intOf]; omega
    · go_wp2
      go_ret
      obtain rfl : k = 8 := by omega
      exact ⟨by rw [List.take_of_length_le (by rw [HL'.out]; exact Nat.le_refl _)]; rfl, (Below.refl _ _).alloc (Nat.le_refl _) _⟩
end
section
open Go.RowKit

theorem or_word (c0 c1 c2 c3 c4 c5 c6 c7 : Int) (h0 : 0 ≤ c0 ∧ c0 < 256) (h1 : 0 ≤ c1 ∧ c1 < 256) (h2 : 0 ≤ c2 ∧ c2 < 256) (h3 : 0 ≤ c3 ∧ c3 < 256) (h4 : 0 ≤ c4 ∧ c4 < 256) (h5 : 0 ≤ c5 ∧ c5 < 256) (h6 : 0 ≤ c6 ∧ c6 < 256) (h7 : 0 ≤ c7 ∧ c7 < 256) :
    bits .or .u64 (bits .or .u64 (bits .or .u64 (bits .or .u64 (bits .or .u64 (bits .or .u64 (bits .or .u64 (c0 * 72057594037927936) (c1 * 281474976710656)) (c2 * 1099511627776)) (c3 * 4294967296)) (c4 * 16777216)) (c5 * 65536)) (c6 * 256)) c7 =
      c0 * 72057594037927936 + c1 * 281474976710656 + c2 * 1099511627776 + c3 * 4294967296 + c4 * 16777216 + c5 * 65536 + c6 * 256 + c7 := by
  rw [or_add (c0 * 72057594037927936) _ 56 (by omega) (by omega) (by omega) (by omega) (by omega) (by decide),
    or_add (c0 * 72057594037927936 + _) _ 48 (by omega) (by omega) (by omega) (by omega) (by omega) (by decide),
    or_add (c0 * 72057594037927936 + _ + _) _ 40 (by omega) (by omega) (by omega) (by omega) (by omega) (by decide),
    or_add (c0 * 72057594037927936 + _ + _ + _) _ 32 (by omega) (by omega) (by omega) (by omega) (by omega) (by decide),
    or_add (c0 * 72057594037927936 + _ + _ + _ + _) _ 24 (by omega) (by omega) (by omega) (by omega) (by omega) (by decide),
    or_add (c0 * 72057594037927936 + _ + _ + _ + _ + _) _ 16 (by omega) (by omega) (by omega) (by omega) (by omega) (by decide),
    or_add (c0 * 72057594037927936 + _ + _ + _ + _ + _ + _) _ 8 (by omega) (by omega) (by omega) (by omega) (by omega) (by decide)]

theorem Bs.at {w : World} {b o cap : Nat} {l : List Int} (h : Sl w (.slice (some ⟨b, o, none⟩) l.length cap) 1 l.length (bsv l)) (j : Nat) (hj : j < l.length) : w.cell? ⟨b, o + j, none⟩ = some (.int .u8 (l.getD j 0)) := by
  rw [h.cell (by omega) j (by omega), bsv_get hj]

/-- A list of bytes and zeros behind it, as one number. -/
theorem numOf_pad (l : List Int) (h : l.length < 8) : numOf (l ++ List.replicate (8 - l.length) 0) = wordOf l := by
  match l, h with
  | [], _ => simp [numOf, wordOf]
  | [a], _ => simp [numOf, wordOf]; omega
  | [a, b], _ => simp [numOf, wordOf]; omega
  | [a, b, c], _ => simp [numOf, wordOf]; omega
  | [a, b, c, d], _ => simp [numOf, wordOf]; omega
  | [a, b, c, d, e], _ => simp [numOf, wordOf]; omega
  | [a, b, c, d, e, f], _ => simp [numOf, wordOf]; omega
  | [a, b, c, d, e, f, g], _ => simp [numOf, wordOf]; omega

set_option maxHeartbeats 400000 in
theorem word_ge (l : List Int) (v : Value) (w : World) (h : Bs w v l) (hn : 8 ≤ l.length) :
    Calls Try.prog 172 #[v] w fun e w' => e = .returned (.int .u64 (wordOf l)) ∧ Below w.heap.size w w' := by
  have HB := h.2
  obtain ⟨a, cap, rfl, hnc, hcm, _, hl, _, hc⟩ := id h.1
  obtain ⟨b, o, rfl, _⟩ := hc (by omega)
  have c0 := Bs.at h.1 0 (by omega); have c1 := Bs.at h.1 1 (by omega); have c2 := Bs.at h.1 2 (by omega); have c3 := Bs.at h.1 3 (by omega)
  have c4 := Bs.at h.1 4 (by omega); have c5 := Bs.at h.1 5 (by omega); have c6 := Bs.at h.1 6 (by omega); have c7 := Bs.at h.1 7 (by omega)
  have b0 := HB.getD 0; have b1 := HB.getD 1; have b2 := HB.getD 2; have b3 := HB.getD 3; have b4 := HB.getD 4; have b5 := HB.getD 5; have b6 := HB.getD 6; have b7 := HB.getD 7
  have hfin : wordOf l = _ := (or_word _ _ _ _ _ _ _ _ b0 b1 b2 b3 b4 b5 b6 b7).symm
  have HF := Lib.hid hfin
  clear hfin hc h
  generalize l.getD 0 0 = d0 at *; generalize l.getD 1 0 = d1 at *; generalize l.getD 2 0 = d2 at *; generalize l.getD 3 0 = d3 at *
  generalize l.getD 4 0 = d4 at *; generalize l.getD 5 0 = d5 at *; generalize l.getD 6 0 = d6 at *; generalize l.getD 7 0 = d7 at *
  obtain ⟨_, _⟩ := b0; obtain ⟨_, _⟩ := b1; obtain ⟨_, _⟩ := b2; obtain ⟨_, _⟩ := b3; obtain ⟨_, _⟩ := b4; obtain ⟨_, _⟩ := b5; obtain ⟨_, _⟩ := b6; obtain ⟨_, _⟩ := b7
  unfold maxLen at hcm
  generalize l.length = n at *
  simp only [Nat.add_zero] at c0
  go_enter Try.func172, Try.ntmps172
  go_wp2
  go_quiet (fail)
  go_wp2
  go_ret
  exact ⟨by rw [HF.out]; rfl, below_drewN (Below.refl _ _) _⟩

theorem splice_pad (l : List Int) (h : l.length < 8) : splice (bsv zeroN) 0 (bsv (l.take 8)) = bsv (l ++ List.replicate (8 - l.length) 0) := by
  match l, h with
  | [], _ => rfl
  | [a], _ => rfl
  | [a, b], _ => rfl
  | [a, b, c], _ => rfl
  | [a, b, c, d], _ => rfl
  | [a, b, c, d, e], _ => rfl
  | [a, b, c, d, e, f], _ => rfl
  | [a, b, c, d, e, f, g], _ => rfl
theorem pad_isN (l : List Int) (h : l.length < 8) (hb : Byt l) : IsN (l ++ List.replicate (8 - l.length) 0) :=
  ⟨by simp; omega, hb.append (fun x hx => by obtain ⟨_, rfl⟩ := List.mem_replicate.1 hx; omega)⟩

set_option maxHeartbeats 400000 in
theorem word_lt (l : List Int) (v : Value) (w : World) (h : Bs w v l) (hn : l.length < 8) :
    Calls Try.prog 172 #[v] w fun e w' => e = .returned (.int .u64 (wordOf l)) ∧ Below w.heap.size w w' := by
  have HB := h.2
  have hsl := h.1
  obtain ⟨a, cap, rfl, hnc, hcm, _, hl, _, hc⟩ := id h.1
  have hn' : (l.length : Int) < 8 := by omega
  have hpad := pad_isN l hn HB
  have hw := numOf_pad l hn
  have hsp := splice_pad l hn
  have HS := Lib.hid hsl
  have HW := Lib.hid hw
  have HP := Lib.hid hsp
  clear hc h hsl hw hsp
  unfold maxLen at hcm
  go_enter Try.func172, Try.ntmps172
  go_wp2_with (with_reducible refine wpList_copy_bs _ rfl (.tmp 53) (.tmp 54) rfl _ l rfl (HS.out.below ((Below.refl _ _).alloc (Nat.le_refl _) _)) w.heap.size 0 8 8 rfl (bsv zeroN) _ (Blk.new _ _ _) (by simp [bsv, zeroN]; omega) w.heap.size w ((Below.refl _ _).alloc (Nat.le_refl _) _) (Nat.le_refl _) ?_)
  intro w1 hb1 hB1
  rw [HP.out] at hb1
  go_wp2_with (refine wpList_load_name _ rfl (.tmp 3) rfl w.heap.size rfl _ _ hb1 hpad.1 ?_)
  go_wp2_with (go_at_call 216; refine (number_any _ _ hpad).mono ?_; rintro e w2 ⟨rfl, hB2⟩)

  go_ret
  exact ⟨by rw [← HW.out]; rfl, hB1.trans (hB2.mono hB1.size)⟩
end
section
open Go.RowKit

set_option maxHeartbeats 400000 in
theorem rword_ge (l : List Int) (v : Value) (w : World) (h : Bs w v l) (hn : 8 ≤ l.length) :
    Calls Try.prog 175 #[v] w fun e w' => e = .returned (.int .u64 (wordOf l)) ∧ Below w.heap.size w w' := by
  have HB := h.2
  obtain ⟨a, cap, rfl, hnc, hcm, _, hl, _, hc⟩ := id h.1
  obtain ⟨b, o, rfl, _⟩ := hc (by omega)
  have c0 := Bs.at h.1 0 (by omega); have c1 := Bs.at h.1 1 (by omega); have c2 := Bs.at h.1 2 (by omega); have c3 := Bs.at h.1 3 (by omega)
  have c4 := Bs.at h.1 4 (by omega); have c5 := Bs.at h.1 5 (by omega); have c6 := Bs.at h.1 6 (by omega); have c7 := Bs.at h.1 7 (by omega)
  have b0 := HB.getD 0; have b1 := HB.getD 1; have b2 := HB.getD 2; have b3 := HB.getD 3; have b4 := HB.getD 4; have b5 := HB.getD 5; have b6 := HB.getD 6; have b7 := HB.getD 7
  have hfin : wordOf l = _ := (or_word _ _ _ _ _ _ _ _ b0 b1 b2 b3 b4 b5 b6 b7).symm
  have HF := Lib.hid hfin
  clear hfin hc h
  generalize l.getD 0 0 = d0 at *; generalize l.getD 1 0 = d1 at *; generalize l.getD 2 0 = d2 at *; generalize l.getD 3 0 = d3 at *
  generalize l.getD 4 0 = d4 at *; generalize l.getD 5 0 = d5 at *; generalize l.getD 6 0 = d6 at *; generalize l.getD 7 0 = d7 at *
  obtain ⟨_, _⟩ := b0; obtain ⟨_, _⟩ := b1; obtain ⟨_, _⟩ := b2; obtain ⟨_, _⟩ := b3; obtain ⟨_, _⟩ := b4; obtain ⟨_, _⟩ := b5; obtain ⟨_, _⟩ := b6; obtain ⟨_, _⟩ := b7
  unfold maxLen at hcm
  generalize l.length = n at *
  simp only [Nat.add_zero] at c0
  go_enter Try.func175, Try.ntmps175
  go_wp2
  go_quiet (fail)
  go_wp2
  go_ret
  exact ⟨by rw [HF.out]; rfl, below_drewN (Below.refl _ _) _⟩

theorem wrapU {x : Int} (h0 : 0 ≤ x) (h1 : x < 18446744073709551616) : IntKind.u64.wrap x = x := by
  have : IntKind.u64.wrap x = x % 18446744073709551616 := by simp [IntKind.wrap, IntKind.bits, IntKind.signed]
  rw [this]; omega
theorem wordOf_take (l : List Int) (k : Nat) (hk : k < l.length) (h7 : k < 7) (hb : Byt l) :
    wordOf (l.take (k + 1)) = bits .or .u64 (wordOf (l.take k)) (IntKind.u64.wrap (l.getD k 0 * 2 ^ (56 - 8 * k))) := by
  have g : ∀ j, (l.take (k + 1)).getD j 0 = if j < k + 1 then l.getD j 0 else 0 := fun j => by
    simp only [List.getD_eq_getElem?_getD, List.getElem?_take]; split <;> simp
  have g' : ∀ j, (l.take k).getD j 0 = if j < k then l.getD j 0 else 0 := fun j => by
    simp only [List.getD_eq_getElem?_getD, List.getElem?_take]; split <;> simp
  have b0 := hb.getD 0; have b1 := hb.getD 1; have b2 := hb.getD 2; have b3 := hb.getD 3; have b4 := hb.getD 4; have b5 := hb.getD 5; have b6 := hb.getD 6
  unfold wordOf
  simp only [g, g']
  rcases (show k = 0 ∨ k = 1 ∨ k = 2 ∨ k = 3 ∨ k = 4 ∨ k = 5 ∨ k = 6 by omega) with rfl | rfl | rfl | rfl | rfl | rfl | rfl
  all_goals clear g g'
  all_goals generalize l.getD 0 0 = d0 at *
  all_goals generalize l.getD 1 0 = d1 at *
  all_goals generalize l.getD 2 0 = d2 at *
  all_goals generalize l.getD 3 0 = d3 at *
  all_goals generalize l.getD 4 0 = d4 at *
  all_goals generalize l.getD 5 0 = d5 at *
  all_goals generalize l.getD 6 0 = d6 at *
  · simp; rw [wrapU (by omega) (by omega), or_add _ _ 64 (by omega) (by omega) (by omega) (by omega) (by omega) (by decide)]; omega
  · simp; rw [wrapU (by omega) (by omega), or_add _ _ 56 (by omega) (by omega) (by omega) (by omega) (by omega) (by decide)]
  · simp; rw [wrapU (by omega) (by omega), or_add _ _ 48 (by omega) (by omega) (by omega) (by omega) (by omega) (by decide)]
  · simp; rw [wrapU (by omega) (by omega), or_add _ _ 40 (by omega) (by omega) (by omega) (by omega) (by omega) (by decide)]
  · simp; rw [wrapU (by omega) (by omega), or_add _ _ 32 (by omega) (by omega) (by omega) (by omega) (by omega) (by decide)]
  · simp; rw [wrapU (by omega) (by omega), or_add _ _ 24 (by omega) (by omega) (by omega) (by omega) (by omega) (by decide)]
  · simp; rw [wrapU (by omega) (by omega), or_add _ _ 16 (by omega) (by omega) (by omega) (by omega) (by omega) (by decide)]

set_option maxHeartbeats 1000000 in
theorem rword_lt (l : List Int) (v : Value) (w : World) (h : Bs w v l) (hn : l.length < 8) :
    Calls Try.prog 175 #[v] w fun e w' => e = .returned (.int .u64 (wordOf l)) ∧ Below w.heap.size w w' := by
  have HB := h.2
  have hsl := h.1
  obtain ⟨a, cap, rfl, hnc, hcm, _, hl, _, hc⟩ := id h.1
  have hn' : (l.length : Int) < 8 := by omega
  have HS := Lib.hid hsl
  have HC := Lib.hid hc
  clear hc h hsl
  unfold maxLen at hcm
  go_enter Try.func175, Try.ntmps175
  go_wp2
  go_loop [3, 4] (fun t i => ∃ k : Nat, k ≤ l.length ∧ i = .int .i64 k ∧ t = .int .u64 (wordOf (l.take k))) (fun _ i => l.length - (intOf i).toNat)
  case atStart => exact ⟨0, Nat.zero_le _, rfl, rfl⟩
  case round =>
    obtain ⟨k, hk, rfl, rfl⟩ := hrel
    by_cases hlt : k < l.length
    · obtain ⟨b, o, rfl, _⟩ := HC.out (by omega)
      have c0 := Bs.at HS.out k hlt
      have b0 := HB.getD k
      have hs := wordOf_take l k hlt (by omega) HB
      have hu := wordOf_u64 (HB.take k)
      have HS2 := Lib.hid hs
      clear hs
      generalize l.getD k 0 = d at *
      generalize wordOf (l.take k) = A at *
      obtain ⟨_, _⟩ := b0
      obtain ⟨_, _⟩ := hu
      generalize l.length = n at *
      go_wp2
      go_round
      case rel => exact ⟨k + 1, by omega, by go_num, by rw [HS2.out]⟩
      case measure => simp [intOf]; omega
    · go_wp2
      go_ret
      obtain rfl : k = l.length := by omega
      exact ⟨by rw [List.take_of_length_le (Nat.le_refl _)]; rfl, Below.refl _ _⟩
end
section
open Go.RowKit

theorem stS_succ (l : List Int) (k : Nat) : stS l (k + 1) = mixN 2 (bits .xor .u64 (stS l k).1 (wordOf (l.drop (8 * k)))) (stS l k).2 := rfl
theorem hsum_of (l : List Int) (k : Nat) (h : (l.length + 7) / 8 = k) : hsum l = bits .xor .u64 (mixN 4 (stS l k).1 (bits .xor .u64 (stS l k).2 l.length)).1 (mixN 4 (stS l k).1 (bits .xor .u64 (stS l k).2 l.length)).2 := by
  subst h; rfl
theorem word_any (l : List Int) (v : Value) (w : World) (h : Bs w v l) :
    Calls Try.prog 172 #[v] w fun e w' => e = .returned (.int .u64 (wordOf l)) ∧ Below w.heap.size w w' := by
  by_cases hn : 8 ≤ l.length
  · exact word_ge l v w h hn
  · exact word_lt l v w h (by omega)
theorem rword_any (l : List Int) (v : Value) (w : World) (h : Bs w v l) :
    Calls Try.prog 175 #[v] w fun e w' => e = .returned (.int .u64 (wordOf l)) ∧ Below w.heap.size w w' := by
  by_cases hn : 8 ≤ l.length
  · exact rword_ge l v w h hn
  · exact rword_lt l v w h (by omega)

/-- A slice cut at its begin. -/
theorem Bs.drop {w : World} {b o cap : Nat} {l : List Int} (h : Bs w (.slice (some ⟨b, o, none⟩) l.length cap) l) (k : Nat) (hk : k < l.length) :
    Bs w (.slice (some ⟨b, o + k, none⟩) (l.length - k) (cap - k)) (l.drop k) := by
  obtain ⟨hs, hb⟩ := h
  obtain ⟨a, cap', h1, h2, h3, h0, h4, h5, h6⟩ := id hs
  cases h1
  refine ⟨⟨_, _, by rw [List.length_drop], by rw [List.length_drop]; omega, Nat.le_trans (Nat.sub_le _ _) h3, (fun e => by cases e), by rw [List.length_drop]; omega, by rw [bsv_length]; omega, fun _ => ⟨b, o + k, rfl, fun j hj => ?_⟩⟩, hb.drop k⟩
  rw [List.length_drop] at hj
  have := hs.cell (by omega) (k + j) (by omega)
  rw [← Nat.add_assoc] at this
  rw [this]
  unfold bsv
  rw [List.getElem?_map, List.getElem?_map, List.getElem?_drop]

theorem mix2_any (B : Nat) (x y : Int) (w : World) (hx : U64 x) (hy : U64 y) (hb : Blk w B 205 #[.int .u64 x, .int .u64 y]) :
    Calls Try.prog 173 #[.pointer (some ⟨B, 0, none⟩), .int .i64 2] w fun e w' => e = .returned (.tuple #[]) ∧ Blk w' B 205 #[.int .u64 (mixN 2 x y).1, .int .u64 (mixN 2 x y).2] ∧ w.grownBy w' (some B) :=
  mix_any B 2 x y w (by decide) hx hy hb
theorem mix4_any (B : Nat) (x y : Int) (w : World) (hx : U64 x) (hy : U64 y) (hb : Blk w B 205 #[.int .u64 x, .int .u64 y]) :
    Calls Try.prog 173 #[.pointer (some ⟨B, 0, none⟩), .int .i64 4] w fun e w' => e = .returned (.tuple #[]) ∧ Blk w' B 205 #[.int .u64 (mixN 4 x y).1, .int .u64 (mixN 4 x y).2] ∧ w.grownBy w' (some B) :=
  mix_any B 4 x y w (by decide) hx hy hb

set_option maxHeartbeats 1000000 in
theorem sum_any (l : List Int) (v : Value) (w : World) (h : Bs w v l) :
    Calls Try.prog 97 #[v] w fun e w' => e = .returned (nv (hname l)) ∧ Below w.heap.size w w' := by
  have HB := h.2
  have HS := Lib.hid h
  obtain ⟨a, cap, rfl, hnc, hcm, _, hl, _, hc⟩ := id h.1
  have HC := Lib.hid hc
  clear hc h
  unfold maxLen at hcm
  have hP0 := Blk.new w 30 (bsv zeroN).toArray
  go_enter Try.func97, Try.ntmps97
  go_wp2
  go_loopw [4] (fun i wr => ∃ k : Nat, 8 * k ≤ l.length + 7 ∧ i = .int .i64 (8 * k : Nat) ∧ Blk wr (w.heap.size + 1) 205 #[.int .u64 (stS l k).1, .int .u64 (stS l k).2] ∧ Blk wr w.heap.size 30 (bsv zeroN).toArray ∧ Below w.heap.size w wr)
    (fun i _ => l.length + 8 - (intOf i).toNat)
  case atStart => exact ⟨0, by omega, rfl, Blk.new' _ _ _ (by simp), (Blk.new _ _ _).old _, ((Below.refl _ _).alloc (Nat.le_refl _) _).alloc (by simp) _⟩
  case round =>
    obtain ⟨k, hk, rfl, hS, hN, hW⟩ := hrel
    obtain ⟨hX, hY⟩ := stS_u64 l k
    have hs := stS_succ l k
    generalize hX' : (stS l k).1 = X at *
    generalize hY' : (stS l k).2 = Y at *
    have HX' := Lib.hid hX'
    have HY' := Lib.hid hY'
    have HN := Lib.hid hs
    clear hX' hY' hs
    obtain ⟨_, _⟩ := hX
    obtain ⟨_, _⟩ := hY
    have c0 := hS.cell 0
    have c1 := hS.cell 1
    have f0 := hS.free 0
    have f1 := hS.free 1
    have hsz := hS.lt
    simp at c0 c1
    by_cases hlt : 8 * k < l.length
    · obtain ⟨b, o, rfl, _⟩ := HC.out (by omega)
      have hbs := (Bs.drop HS.out (8 * k) hlt).below (hW)
      have HBS := Lib.hid hbs
      clear hbs
      have hlt' : ((8 * k : Nat) : Int) < (l.length : Int) := by omega
      go_wp2_with fail
      go_region_with (go_at_call 172; refine (word_any (l.drop (8 * k)) _ _ HBS.out.drew).mono ?_; rintro e w2 ⟨rfl, hB2⟩; have hS2 := hS.drew.below hB2 hsz; have c0' := hS2.cell 0; have f0' := hS2.free 0; simp at c0')
      all_goals
        have hS3 := hS2.set 0 (.int .u64 (bits .xor .u64 X (wordOf (l.drop (8 * k)))))
        have hN3 := (hN.drew.below hB2 (by simp; omega)).other ⟨w.heap.size + 1, 0, none⟩ (.int .u64 (bits .xor .u64 X (wordOf (l.drop (8 * k))))) (by simp)
        have hW3 := (hW.drew.trans (hB2.mono (by simpa using hW.size))).setCell (p := ⟨w.heap.size + 1, 0, none⟩) (by simp) (.int .u64 (bits .xor .u64 X (wordOf (l.drop (8 * k)))))
        generalize w2.setCell ⟨w.heap.size + 1, 0, none⟩ (.int .u64 (bits .xor .u64 X (wordOf (l.drop (8 * k))))) = w3 at *
        clear c0 c1 f0 f1 c0' f0'
        go_wp2_with (go_at_call 173; refine (mix2_any _ (bits .xor .u64 X (wordOf (l.drop (8 * k)))) Y _ (bits_u64 _ _ _) ⟨by omega, by omega⟩ hS3).mono ?_; rintro e w4 ⟨rfl, hS4, hg4⟩)
        go_roundw
        case rel =>
          refine ⟨k + 1, by omega, by go_num, ?_, hN3.grown hg4 (by simp), hW3.grown hg4 hW3.size (by intro j hj; cases hj; omega)⟩
          rw [HN.out]
          exact hS4
        case measure => simp [intOf]; omega
    · have hke : (l.length + 7) / 8 = k := by omega
      have hsum := hsum_of l k hke
      rw [HX'.out, HY'.out] at hsum
      have HSUM := Lib.hid hsum
      clear hsum hke
      go_wp2_with (go_at_call 173; refine (mix4_any _ X (bits .xor .u64 Y l.length) _ ⟨by omega, by omega⟩ (bits_u64 _ _ _) (hS.set 1 (.int .u64 (bits .xor .u64 Y l.length)))).mono ?_; rintro e w4 ⟨rfl, hS4, hg4⟩; have d0 := hS4.cell 0; have d1 := hS4.cell 1; simp at d0 d1)
      have hN5 := ((hN.other ⟨w.heap.size + 1, 1, none⟩ (.int .u64 (bits .xor .u64 Y l.length)) (by simp)).grown hg4 (by simp))
      have hW5 := ((hW.setCell (p := ⟨w.heap.size + 1, 1, none⟩) (by simp) (.int .u64 (bits .xor .u64 Y l.length))).grown hg4 (by simpa using hW.size) (by intro j hj; cases hj; omega))
      refine (of_any _ _ (bits_u64 _ _ _)).mono ?_
      rintro e w6 ⟨rfl, hB6⟩
      have hN6 := hN5.below hB6 hN5.lt
      have hW6 := hW5.trans (hB6.mono hW5.size)
      go_wp2_with (refine wpList_store_name _ rfl (.tmp 2) (.tmp 34) rfl w.heap.size rfl _ rfl _ _ hN6 rfl rfl ?_)
      intro w7 hN7 hg7
      go_wp2
      refine ret_name rfl w.heap.size _ _ rfl rfl hN7 rfl ⟨?_, hW6.grown hg7 hW6.size (by intro j hj; cases hj; omega)⟩
      rw [hname, HSUM.out]
end
section
open Go.RowKit

set_option maxHeartbeats 1000000 in
theorem rsum_any (l : List Int) (v : Value) (w : World) (h : Bs w v l) :
    Calls Try.prog 98 #[v] w fun e w' => e = .returned (nv (hname l)) ∧ Below w.heap.size w w' := by
  have HB := h.2
  have HS := Lib.hid h
  obtain ⟨a, cap, rfl, hnc, hcm, _, hl, _, hc⟩ := id h.1
  have HC := Lib.hid hc
  clear hc h
  unfold maxLen at hcm
  go_enter Try.func98, Try.ntmps98
  go_wp2
  go_loopw [3, 4, 5] (fun x y i wr => ∃ k : Nat, 8 * k ≤ l.length + 7 ∧ i = .int .i64 (8 * (k : Int)) ∧ x = .int .u64 (stS l k).1 ∧ y = .int .u64 (stS l k).2 ∧ Blk wr w.heap.size 30 (bsv zeroN).toArray ∧ Below w.heap.size w wr)
    (fun _ _ i _ => l.length + 8 - (intOf i).toNat)
  case atStart => exact ⟨0, by omega, rfl, rfl, rfl, Blk.new _ _ _, (Below.refl _ _).alloc (Nat.le_refl _) _⟩
  case round =>
    obtain ⟨k, hk, rfl, rfl, rfl, hN, hW⟩ := hrel
    obtain ⟨hX, hY⟩ := stS_u64 l k
    have hs := stS_succ l k
    generalize hX' : (stS l k).1 = X at *
    generalize hY' : (stS l k).2 = Y at *
    have HX' := Lib.hid hX'
    have HY' := Lib.hid hY'
    have HN := Lib.hid hs
    clear hX' hY' hs
    obtain ⟨_, _⟩ := hX
    obtain ⟨_, _⟩ := hY
    have hsz := hN.lt
    by_cases hlt : 8 * k < l.length
    · obtain ⟨b, o, rfl, _⟩ := HC.out (by omega)
      have hbs := (Bs.drop HS.out (8 * k) hlt).below (hW)
      have HBS := Lib.hid hbs
      clear hbs
      have hlt' : ((8 * k : Nat) : Int) < (l.length : Int) := by omega
      go_wp2_with fail
      refine (rword_any (l.drop (8 * k)) _ _ HBS.out).mono ?_
      rintro e w2 ⟨rfl, hB2⟩
      obtain ⟨b0, b1⟩ := bits_u64 .xor X (wordOf (l.drop (8 * k)))
      generalize hx1 : bits .xor .u64 X (wordOf (l.drop (8 * k))) = x1 at *
      go_wp2_with fail
      have HX1 := Lib.hid hx1
      clear hx1
      refine (rmix_any x1 Y _ (by omega) (by omega) (by omega) (by omega)).mono ?_
      rintro e w3 ⟨rfl, rfl⟩
      have h2 : mixN 2 x1 Y = (mixX (mixX x1 Y) (mixY x1 Y), mixY (mixX x1 Y) (mixY x1 Y)) := rfl
      have hp := mixX_u64 x1 Y
      have hq := mixY_u64 x1 Y
      generalize mixX x1 Y = p1 at *
      generalize mixY x1 Y = q1 at *
      obtain ⟨_, _⟩ := hp
      obtain ⟨_, _⟩ := hq
      have H2 := Lib.hid h2
      clear h2
      go_wp2_with fail
      refine (rmix_any p1 q1 _ (by omega) (by omega) (by omega) (by omega)).mono ?_
      rintro e w3 ⟨rfl, rfl⟩
      go_wp2_with fail
      go_roundw
      case rel =>
        refine ⟨k + 1, by omega, by go_num, ?_, ?_, hN.below hB2 hsz, hW.trans (hB2.mono hW.size)⟩
        · rw [HN.out, H2.out]
        · rw [HN.out, H2.out]
      case measure => simp [intOf]; omega
    · have hke : (l.length + 7) / 8 = k := by omega
      have hsum := hsum_of l k hke
      rw [HX'.out, HY'.out] at hsum
      have HSUM := Lib.hid hsum
      clear hsum hke
      have hu := bits_u64 .xor Y l.length
      generalize hy1 : bits .xor .u64 Y l.length = y1 at *
      have hd : decide (8 * (k : Int) < (l.length : Int)) = false := by simp; omega
      go_wp2_with fail
      go_loop [3, 4, 6] (fun x y i => ∃ j : Nat, j ≤ 4 ∧ i = .int .i64 j ∧ x = .int .u64 (mixN j X y1).1 ∧ y = .int .u64 (mixN j X y1).2) (fun _ _ i => 4 - (intOf i).toNat)
      case atStart => exact ⟨0, by omega, rfl, rfl, rfl⟩
      case round =>
        obtain ⟨j, hj, rfl, rfl, rfl⟩ := hrel
        obtain ⟨hA, hB⟩ := mixN_u64 j X y1 ⟨by omega, by omega⟩ hu
        have hs := mixN_succ j X y1
        generalize hA' : (mixN j X y1).1 = A at *
        generalize hB' : (mixN j X y1).2 = B at *
        have HA' := Lib.hid hA'
        have HB' := Lib.hid hB'
        have HSJ := Lib.hid hs
        clear hA' hB' hs
        obtain ⟨_, _⟩ := hA
        obtain ⟨_, _⟩ := hB
        clear hy1
        by_cases hj4 : j < 4
        · go_wp2_with fail
          refine (rmix_any A B _ (by omega) (by omega) (by omega) (by omega)).mono ?_
          rintro e w3 ⟨rfl, rfl⟩
          go_wp2_with fail
          go_round
          case rel => exact ⟨j + 1, by omega, by go_num, by rw [HSJ.out], by rw [HSJ.out]⟩
          case measure => simp [intOf]; omega
        · obtain rfl : j = 4 := by omega
          go_wp2_with fail
          refine (rof_any _ _ (bits_u64 _ _ _)).mono ?_
          rintro e w6 ⟨rfl, hB6⟩
          go_wp2_with (refine wpList_store_name _ rfl (.tmp 2) (.tmp 49) rfl _ rfl _ rfl _ _ (hN.below hB6 hN.lt) rfl rfl ?_)
          intro w7 hN7 hg7
          go_wp2
          refine ret_name rfl w.heap.size _ _ rfl rfl hN7 rfl ⟨?_, (hW.trans (hB6.mono hW.size)).grown hg7 (hW.trans (hB6.mono hW.size)).size (by intro j hj; cases hj; omega)⟩
          rw [hname, HSUM.out, HA'.out, HB'.out]
end
section
open Go.RowKit

set_option maxHeartbeats 1000000 in
theorem tagged_any (t : Int) (l : List Int) (v : Value) (w : World) (h : Bs w v l) (ht : 0 ≤ t ∧ t < 256) (hl : l.length ≤ 140737488355327) :
    Calls Try.prog 131 #[.int .u8 t, v] w fun e w' => e = .returned (nv (hname (t :: l))) ∧ Below w.heap.size w w' := by
  have HB := h.2
  obtain ⟨_, _⟩ := ht
  have HS := Lib.hid h
  clear h
  have hN0 := Blk.new w 30 (bsv zeroN).toArray
  go_enter Try.func131, Try.ntmps131
  go_wp2_with (refine wpList_make_bs _ rfl (.const (.int .i64 0)) (.const (.int .i64 160)) rfl (w.heap.size + 1) 160 160 rfl rfl rfl (by omega) (by simp) ?_)
  intro w1 hO1 hg1
  have hW1 := (Below.refl (w.heap.size + 1) (w.alloc (.cells (bsv zeroN).toArray 30))).grown hg1 (by simp) (by simp)
  have hz1 := hW1.size
  simp only [World.size_alloc] at hz1
  go_wp2_with (first
    | (at_builtin; refine wpList_app_bs _ rfl (.tmp 7) (.tmp 9) rfl (w.heap.size + 1) _ [] rfl (hO1.alloc _) _ [t] rfl (Sl.one _ _ _) (by simp) (by simp; omega) ?_; intro v2 w2 hO2 hg2; have hW2 := (hO1.alloc (.cells #[.int .u8 t] 5)).below_grown (hW1.alloc hz1 _) (by simp; omega) hg2; have hz2 := hW2.size; simp only [World.size_alloc] at hz2; have hV2 := (below1 w (.cells (bsv zeroN).toArray 30)).trans (hW2.mono (Nat.le_succ _)))
    | (at_builtin; refine wpList_app_bs _ rfl (.tmp 10) (.tmp 11) rfl (w.heap.size + 1) _ [t] rfl hO2 _ l rfl (HS.out.1.below hV2) (by simp; omega) hz2 ?_; intro v3 w3 hO3 hg3; have hW3 := hO2.below_grown hW2 hz2 hg3; have hz3 := hW3.size; simp only [World.size_alloc] at hz3; have hV3 := (below1 w (.cells (bsv zeroN).toArray 30)).trans (hW3.mono (Nat.le_succ _)))
    | (go_at_call 97; refine (sum_any (t :: l) _ _ (hO3.bs (by simp; omega) (HB.cons (by omega) (by omega)))).mono ?_; rintro e w4 ⟨rfl, hB4⟩)
    | (refine wpList_store_name _ rfl (.tmp 4) (.tmp 13) rfl w.heap.size rfl _ rfl _ _ ((hN0.below hW3 (by simp)).below hB4 (by omega)) rfl rfl ?_; intro w7 hN7 hg7))
  have hV7 := (hV3.trans (hB4.mono hV3.size)).grown hg7 (hV3.trans (hB4.mono hV3.size)).size (by intro j hj; cases hj; omega)
  exact ret_name rfl w.heap.size _ _ rfl rfl hN7 rfl ⟨rfl, hV7⟩
end
section
open Go.RowKit

set_option maxHeartbeats 1000000 in
theorem rtagged_any (t : Int) (l : List Int) (v : Value) (w : World) (h : Bs w v l) (ht : 0 ≤ t ∧ t < 256) (hl : l.length ≤ 140737488355327) :
    Calls Try.prog 133 #[.int .u8 t, v] w fun e w' => e = .returned (nv (hname (t :: l))) ∧ Below w.heap.size w w' := by
  have HB := h.2
  obtain ⟨_, _⟩ := ht
  have HS := Lib.hid h
  clear h
  have hN0 := Blk.new w 30 (bsv zeroN).toArray
  go_enter Try.func133, Try.ntmps133
  go_wp2_with (refine wpList_make_bs _ rfl (.const (.int .i64 0)) (.const (.int .i64 160)) rfl (w.heap.size + 1) 160 160 rfl rfl rfl (by omega) (by simp) ?_)
  intro w1 hO1 hg1
  have hW1 := (Below.refl (w.heap.size + 1) (w.alloc (.cells (bsv zeroN).toArray 30))).grown hg1 (by simp) (by simp)
  have hz1 := hW1.size
  simp only [World.size_alloc] at hz1
  go_wp2_with (first
    | (at_builtin; refine wpList_app_bs _ rfl (.tmp 5) (.tmp 7) rfl (w.heap.size + 1) _ [] rfl (hO1.alloc _) _ [t] rfl (Sl.one _ _ _) (by simp) (by simp; omega) ?_; intro v2 w2 hO2 hg2; have hW2 := (hO1.alloc (.cells #[.int .u8 t] 5)).below_grown (hW1.alloc hz1 _) (by simp; omega) hg2; have hz2 := hW2.size; simp only [World.size_alloc] at hz2; have hV2 := (below1 w (.cells (bsv zeroN).toArray 30)).trans (hW2.mono (Nat.le_succ _)))
    | (at_builtin; refine wpList_app_bs _ rfl (.tmp 8) (.tmp 9) rfl (w.heap.size + 1) _ [t] rfl hO2 _ l rfl (HS.out.1.below hV2) (by simp; omega) hz2 ?_; intro v3 w3 hO3 hg3; have hW3 := hO2.below_grown hW2 hz2 hg3; have hz3 := hW3.size; simp only [World.size_alloc] at hz3; have hV3 := (below1 w (.cells (bsv zeroN).toArray 30)).trans (hW3.mono (Nat.le_succ _)))
    | (go_at_call 98; refine (rsum_any (t :: l) _ _ (hO3.bs (by simp; omega) (HB.cons (by omega) (by omega)))).mono ?_; rintro e w4 ⟨rfl, hB4⟩)
    | (refine wpList_store_name _ rfl (.tmp 4) (.tmp 11) rfl w.heap.size rfl _ rfl _ _ ((hN0.below hW3 (by simp)).below hB4 (by omega)) rfl rfl ?_; intro w7 hN7 hg7))
  have hV7 := (hV3.trans (hB4.mono hV3.size)).grown hg7 (hV3.trans (hB4.mono hV3.size)).size (by intro j hj; cases hj; omega)
  exact ret_name rfl w.heap.size _ _ rfl rfl hN7 rfl ⟨rfl, hV7⟩

/-- copy as one step of a region that draws its order. -/
theorem step_copy_bs {w : World} {ops : Array Oper} {o : Oper} {a : Act} {K : Act → World → Prop} {Q : Exit → Act → World → Prop} {E : Prop} (hgd : o.guard = none) (d s : Operand)
    (ho : o.op = .call { callee := .builtin .copy, args := #[d, s], argTypes := #[22, 22] })
    (sv : Value) (l : List Int) (hs : a.eval s = sv) (hsl : Sl w sv 1 l.length (bsv l)) (g off dLen dCap : Nat) (hd : a.eval d = .slice (some ⟨g, off, none⟩) dLen dCap)
    (cur : List Value) (t : TypeId) (hg : Blk w g t cur.toArray) (hfit : off + min l.length dLen ≤ cur.length) (B : Nat) (w0 : World) (hb : Below B w0 w) (hBg : B ≤ g)
    (h : ∀ w', Blk w' g t (splice cur off (bsv (l.take dLen))).toArray → Below B w0 w' → K (a.put o.dst (goInt (min l.length dLen : Nat))) w') :
    if Region.wanted o (yielded ops a.tmps) = true then o.wp Try.prog a w K Q else E := by
  obtain ⟨ad, cap, rfl, g1, g2, g3, g4, g5, g6⟩ := id hsl
  have hlen : (bsv (l.take dLen)).length = min l.length dLen := by rw [bsv_length, List.length_take, Nat.min_comm]
  refine step_copy_splice hgd d s 22 22 ho 5 un_bytes (by have h8 := info_u8; revert h8; cases Try.prog.info? 5 <;> simp; intro _ h1 _; exact h1) (some ⟨g, off, none⟩) ad dLen dCap l.length cap hd hs g off cur t hg (bsv (l.take dLen)) hlen ?_ (by rw [hlen]; exact hfit) (bsv_one _) B w0 hb hBg ?_
  · intro hpos
    refine ⟨rfl, ?_⟩
    obtain ⟨b, o, rfl, _⟩ := g6 (by rw [hlen] at hpos; omega)
    refine ⟨_, rfl, fun j v hv => ?_⟩
    have hj : j < (bsv (l.take dLen)).length := by
      rcases Nat.lt_or_ge j (bsv (l.take dLen)).length with h' | h'
      · exact h'
      · rw [List.getElem?_eq_none h'] at hv; cases hv
    have hv' : (bsv l)[j]? = some v := by
      rw [← hv]
      unfold bsv
      rw [List.getElem?_map, List.getElem?_map, List.getElem?_take, if_pos (by rw [hlen] at hj; omega)]
    exact hsl.news j v hv'
  · intro w' h1 h2
    have := h w' h1.out h2
    rw [hlen]
    exact this

/-- The whole of a block of bytes, as a slice. -/
theorem Sl.whole {w : World} {g : Nat} {t : TypeId} {l : List Int} (h : Blk w g t (bsv l).toArray) (hl : l.length ≤ 140737488355328) : Sl w (.slice (some ⟨g, 0, none⟩) l.length l.length) 1 l.length (bsv l) :=
  ⟨_, _, rfl, Nat.le_refl _, by unfold maxLen; omega, (fun e => by cases e), hl, by rw [bsv_length]; omega, fun _ => ⟨g, 0, rfl, fun j _ => by rw [Nat.zero_add, h.cell j]; simp⟩⟩

def zero16 : List Int := [0, 0, 0, 0, 0, 0, 0, 0, 0, 0, 0, 0, 0, 0, 0, 0]
theorem splice16a {a : List Int} (h : IsN a) : splice (bsv zero16) 0 (bsv (a.take 16)) = bsv (a ++ zeroN) := by
  obtain ⟨c0, c1, c2, c3, c4, c5, c6, c7, rfl, _⟩ := h.cases
  rfl
theorem splice16b {a b : List Int} (h : IsN a) (k : IsN b) : splice (bsv (a ++ zeroN)) 8 (bsv (b.take 8)) = bsv (a ++ b) := by
  obtain ⟨c0, c1, c2, c3, c4, c5, c6, c7, rfl, _⟩ := h.cases
  obtain ⟨d0, d1, d2, d3, d4, d5, d6, d7, rfl, _⟩ := k.cases
  rfl
theorem nv_cells (l : List Int) : (nv l).cells = (bsv l).toArray := rfl

set_option maxHeartbeats 1000000 in
theorem pair_any (t : Int) (x y : List Int) (w : World) (ht : 0 ≤ t ∧ t < 256) (hx : IsN x) (hy : IsN y) :
    Calls Try.prog 166 #[.int .u8 t, nv x, nv y] w fun e w' => e = .returned (nv (hname (t :: (x ++ y)))) ∧ Below w.heap.size w w' := by
  have HX := Lib.hid hx
  have HY := Lib.hid hy
  obtain ⟨_, _⟩ := ht
  obtain ⟨a0, a1, a2, a3, a4, a5, a6, a7, hxe, _⟩ := hx.cases
  obtain ⟨b0, b1, b2, b3, b4, b5, b6, b7, hye, _⟩ := hy.cases
  have hA := Blk.new w 30 (bsv x).toArray
  have hB := Blk.new (w.alloc (.cells (bsv x).toArray 30)) 30 (bsv y).toArray
  have hnx : nv x = .agg #[.int .u8 a0, .int .u8 a1, .int .u8 a2, .int .u8 a3, .int .u8 a4, .int .u8 a5, .int .u8 a6, .int .u8 a7] := by rw [hxe]; rfl
  have hny : nv y = .agg #[.int .u8 b0, .int .u8 b1, .int .u8 b2, .int .u8 b3, .int .u8 b4, .int .u8 b5, .int .u8 b6, .int .u8 b7] := by rw [hye]; rfl
  rw [hnx, hny]
  clear hx hy
  go_enter Try.func166, Try.ntmps166
  go_wp2
  generalize hW : World.alloc _ _ = W4
  have hA4 : Blk W4 w.heap.size 30 (bsv x).toArray := by rw [← hW, hxe]; exact (((Blk.new _ _ _).old _).old _).old _
  have hB4 : Blk W4 (w.heap.size + 1) 30 (bsv y).toArray := by rw [← hW, hye]; exact ((Blk.new' _ _ _ (by simp)).old _).old _
  have hN4 : Blk W4 (w.heap.size + 1 + 1) 30 (bsv zeroN).toArray := by rw [← hW]; exact (Blk.new' _ _ _ (by simp)).old _
  have hC4 : Blk W4 (w.heap.size + 1 + 1 + 1) 232 (bsv zero16).toArray := by rw [← hW]; exact Blk.new' _ _ _ (by simp)
  have hV4 : Below w.heap.size w W4 := by rw [← hW]; exact below4 w _ _ _ _
  have hz4 := hC4.lt
  clear hW hnx hny hxe hye hA hB
  go_region_law (refine step_copy_bs rfl (.tmp 8) (.tmp 9) rfl _ x rfl (by have := Sl.whole hA4.drew (by rw [HX.out.1]; omega); rw [HX.out.1] at this ⊢; exact this) (w.heap.size + 1 + 1 + 1) 0 16 16 rfl (bsv zero16) _ hC4.drew (by rw [HX.out.1]; decide) (w.heap.size + 1 + 1 + 1) W4.drew (Below.refl _ _) (Nat.le_refl _) ?_; intro w5 hC5 hB5)
  rw [splice16a HX.out] at hC5
  go_wp2
  go_region_law (refine step_copy_bs rfl (.tmp 11) (.tmp 12) rfl _ y rfl (by have := Sl.whole (hB4.drew.below hB5 (by omega)).drew (by rw [HY.out.1]; omega); rw [HY.out.1] at this ⊢; exact this) (w.heap.size + 1 + 1 + 1) 8 8 8 rfl (bsv (x ++ zeroN)) _ hC5.drew (by rw [HY.out.1, bsv_length, List.length_append, HX.out.1]; decide) (w.heap.size + 1 + 1 + 1) w5.drew (Below.refl _ _) (Nat.le_refl _) ?_; intro w6 hC6 hB6)
  rw [splice16b HX.out HY.out] at hC6
  have hz5 := hB5.size
  have hz6 := hB6.size
  simp only [World.size_drew] at hz5 hz6
  have hN6 := (hN4.drew.below hB5 (by omega)).drew.below hB6 (by omega)
  have hV6 := (hV4.drew.trans (hB5.mono (by omega))).drew.trans (hB6.mono (by omega))
  have hL : (x ++ y).length = 16 := by rw [List.length_append, HX.out.1, HY.out.1]
  have hBs : Bs w6 (.slice (some ⟨w.heap.size + 1 + 1 + 1, 0, none⟩) 16 16) (x ++ y) := by
    have := Sl.whole hC6 (by omega)
    rw [hL] at this
    exact ⟨by rw [hL]; exact this, HX.out.2.append HY.out.2⟩
  have HL := Lib.hid hL
  have HBS := Lib.hid hBs
  clear hL hBs
  go_wp2_with (first
    | (go_at_call 131; refine (tagged_any t (x ++ y) _ _ HBS.out ⟨by omega, by omega⟩ (by rw [HL.out]; omega)).mono ?_; rintro e w7 ⟨rfl, hB7⟩)
    | (refine wpList_store_name _ rfl (.tmp 6) (.tmp 16) rfl (w.heap.size + 1 + 1) rfl _ rfl _ _ (hN6.below hB7 hN6.lt) rfl rfl ?_; intro w8 hN8 hg8))
  have hV7 := hV6.trans (hB7.mono hV6.size)
  exact ret_name rfl (w.heap.size + 1 + 1) _ _ rfl rfl hN8 rfl ⟨rfl, hV7.grown hg8 hV7.size (by intro j hj; cases hj; omega)⟩

theorem OwB.drew {w : World} {base : Nat} {v : Value} {l : List Int} (h : OwB w base v l) : OwB w.drew base v l := h
theorem Sl.drew {w : World} {v : Value} {sz n : Nat} {cs : List Value} (h : Sl w v sz n cs) : Sl w.drew v sz n cs := h
/-- A []byte literal without elements is owned. -/
theorem OwB.empty (w : World) (base : Nat) (h : base ≤ w.heap.size) : OwB (w.alloc (.cells #[] 5)) base (.slice (some ⟨w.heap.size, 0, none⟩) 0 0) [] :=
  World.ownsRow_lit w #[] 0 h (Nat.zero_le _) rfl

/-- A name that a call hands back, its eight bytes one by one. -/
theorem Calls.lit8 {f : FuncId} {args : Array Value} {w : World} {L : List Int} {R : World → Prop} (h : Calls Try.prog f args w fun e w' => e = .returned (nv L) ∧ R w') (hL : L.length = 8) :
    Calls Try.prog f args w fun e w' => ∃ c0 c1 c2 c3 c4 c5 c6 c7 : Int, e = .returned (.agg #[.int .u8 c0, .int .u8 c1, .int .u8 c2, .int .u8 c3, .int .u8 c4, .int .u8 c5, .int .u8 c6, .int .u8 c7]) ∧ Hid (L = [c0, c1, c2, c3, c4, c5, c6, c7]) ∧ R w' :=
  h.mono fun e w' ⟨he, hR⟩ => by
    match L, hL with
    | [c0, c1, c2, c3, c4, c5, c6, c7], _ => exact ⟨c0, c1, c2, c3, c4, c5, c6, c7, he, rfl, hR⟩
/-- A block that holds the zero name, cell by cell. -/
theorem Blk.zero8 {w : World} {b : Nat} {t : TypeId} (h : Blk w b t (bsv zeroN).toArray) : (w.cell? ⟨b, 0, none⟩ = some (.int .u8 0) ∧ w.cell? ⟨b, 1, none⟩ = some (.int .u8 0) ∧ w.cell? ⟨b, 2, none⟩ = some (.int .u8 0) ∧ w.cell? ⟨b, 3, none⟩ = some (.int .u8 0)) ∧
    (w.cell? ⟨b, 4, none⟩ = some (.int .u8 0) ∧ w.cell? ⟨b, 5, none⟩ = some (.int .u8 0) ∧ w.cell? ⟨b, 6, none⟩ = some (.int .u8 0) ∧ w.cell? ⟨b, 7, none⟩ = some (.int .u8 0)) ∧ ∀ j, w.frozen? ⟨b, j, none⟩ = false :=
  ⟨⟨h.cell 0, h.cell 1, h.cell 2, h.cell 3⟩, ⟨h.cell 4, h.cell 5, h.cell 6, h.cell 7⟩, fun j => h.free j⟩
/-- Eight stores into such a block. -/
def World.set8 (w : World) (b : Nat) (c0 c1 c2 c3 c4 c5 c6 c7 : Int) : World :=
  (((((((w.setCell ⟨b, 0, none⟩ (.int .u8 c0)).setCell ⟨b, 1, none⟩ (.int .u8 c1)).setCell ⟨b, 2, none⟩ (.int .u8 c2)).setCell ⟨b, 3, none⟩ (.int .u8 c3)).setCell ⟨b, 4, none⟩ (.int .u8 c4)).setCell ⟨b, 5, none⟩ (.int .u8 c5)).setCell ⟨b, 6, none⟩ (.int .u8 c6)).setCell ⟨b, 7, none⟩ (.int .u8 c7)
theorem Blk.set8 {w : World} {b : Nat} {t : TypeId} (h : Blk w b t (bsv zeroN).toArray) (c0 c1 c2 c3 c4 c5 c6 c7 : Int) : Blk (World.set8 w b c0 c1 c2 c3 c4 c5 c6 c7) b t (bsv [c0, c1, c2, c3, c4, c5, c6, c7]).toArray :=
  by
  have h0 : Blk w b t #[.int .u8 0, .int .u8 0, .int .u8 0, .int .u8 0, .int .u8 0, .int .u8 0, .int .u8 0, .int .u8 0] := h
  have h1 := (((((((h0.set 0 (.int .u8 c0)).set 1 (.int .u8 c1)).set 2 (.int .u8 c2)).set 3 (.int .u8 c3)).set 4 (.int .u8 c4)).set 5 (.int .u8 c5)).set 6 (.int .u8 c6)).set 7 (.int .u8 c7)
  simp at h1
  exact h1
theorem below_set8 {w0 w : World} {B b : Nat} (h : Below B w0 w) (hb : B ≤ b) (c0 c1 c2 c3 c4 c5 c6 c7 : Int) : Below B w0 (World.set8 w b c0 c1 c2 c3 c4 c5 c6 c7) :=
  (((((((h.setCell hb _).setCell hb _).setCell hb _).setCell hb _).setCell hb _).setCell hb _).setCell hb _).setCell hb _

set_option maxHeartbeats 1000000 in
theorem rpair_any (t : Int) (x y : List Int) (w : World) (ht : 0 ≤ t ∧ t < 256) (hx : IsN x) (hy : IsN y) :
    Calls Try.prog 155 #[.int .u8 t, nv x, nv y] w fun e w' => e = .returned (nv (hname (t :: (x ++ y)))) ∧ Below w.heap.size w w' := by
  have HX := Lib.hid hx
  have HY := Lib.hid hy
  obtain ⟨_, _⟩ := ht
  obtain ⟨a0, a1, a2, a3, a4, a5, a6, a7, hxe, _⟩ := hx.cases
  obtain ⟨b0, b1, b2, b3, b4, b5, b6, b7, hye, _⟩ := hy.cases
  have hnx : nv x = .agg #[.int .u8 a0, .int .u8 a1, .int .u8 a2, .int .u8 a3, .int .u8 a4, .int .u8 a5, .int .u8 a6, .int .u8 a7] := by rw [hxe]; rfl
  have hny : nv y = .agg #[.int .u8 b0, .int .u8 b1, .int .u8 b2, .int .u8 b3, .int .u8 b4, .int .u8 b5, .int .u8 b6, .int .u8 b7] := by rw [hye]; rfl
  rw [hnx, hny]
  clear hx hy
  go_enter Try.func155, Try.ntmps155
  go_wp2
  generalize hW : World.alloc _ _ = W3
  have hA3 : Blk W3 w.heap.size 30 (bsv x).toArray := by rw [← hW, hxe]; exact ((Blk.new _ _ _).old _).old _
  have hB3 : Blk W3 (w.heap.size + 1) 30 (bsv y).toArray := by rw [← hW, hye]; exact (Blk.new' _ _ _ (by simp)).old _
  have hN3 : Blk W3 (w.heap.size + 1 + 1) 30 (bsv zeroN).toArray := by rw [← hW]; exact Blk.new' _ _ _ (by simp)
  have hV3 : Below w.heap.size w W3 := by rw [← hW]; exact below3 w _ _ _
  have hz3 := hN3.lt
  clear hW hnx hny hxe hye
  go_region_law (first
    | (go_simp; go_at_call 133; refine (Calls.lit8 (rtagged_any t (x ++ y) _ _ (hO5.bs (by have h8 := HX.out.1; have h9 := HY.out.1; simp only [List.nil_append, List.length_append]; omega) (HX.out.2.append HY.out.2)) ⟨by omega, by omega⟩ (by have h8 := HX.out.1; have h9 := HY.out.1; simp only [List.length_append]; omega)) rfl).mono ?_; rintro e w7 ⟨c0, c1, c2, c3, c4, c5, c6, c7, rfl, HC, hB7⟩; have hN7 := (hN3.below hW5 (by omega)).below hB7 (by omega); obtain ⟨⟨d0, d1, d2, d3⟩, ⟨d4, d5, d6, d7⟩, df⟩ := hN7.zero8)
    | (refine step_app_bs rfl (.tmp 8) (.tmp 9) rfl (w.heap.size + 1 + 1 + 1) _ [] rfl (OwB.empty W3 _ (by omega)).drew _ x rfl (by have := ((Sl.whole hA3 (by rw [HX.out.1]; omega)).below (below1 W3 (.cells #[] 5))).drew; rw [HX.out.1] at this ⊢; exact this) (by have h8 := HX.out.1; simp only [List.length_nil]; omega) (by simp; omega) ?_; intro v4 w4 hO4 hg4; have hW4 := (OwB.empty W3 (w.heap.size + 1 + 1 + 1) (by omega)).drew.below_grown (((Below.refl (w.heap.size + 1 + 1 + 1) W3).alloc (by omega) (.cells #[] 5)).drew) (by simp; omega) hg4; have hz4 := hW4.size; have hB4 := hB3.below hW4 (by omega))
    | (refine step_app_bs rfl (.tmp 10) (.tmp 11) rfl (w.heap.size + 1 + 1 + 1) _ _ rfl hO4 _ y rfl (by have := Sl.whole hB4 (by rw [HY.out.1]; omega); rw [HY.out.1] at this ⊢; exact this) (by have h8 := HX.out.1; have h9 := HY.out.1; simp only [List.nil_append]; omega) (by omega) ?_; intro v5 w5 hO5 hg5; have hW5 := hO4.below_grown hW4 (by omega) hg5; have hz5 := hW5.size))
  go_wp2
  have hV5 := (hV3.trans (hW5.mono (by omega))).trans (hB7.mono (by have := hV3.size; omega))
  refine ret_name rfl (w.heap.size + 1 + 1) _ [c0, c1, c2, c3, c4, c5, c6, c7] rfl rfl (hN7.set8 c0 c1 c2 c3 c4 c5 c6 c7) rfl ⟨?_, below_set8 hV5 (by omega) c0 c1 c2 c3 c4 c5 c6 c7⟩
  rw [← HC.out]
end
end Go.Proofs.Ytilhceihelcdgaa
