/-
  Contracts of the hash of a byte string: hash.Sum, hash.Tagged, hash.Pair and the reference's.
-/
import Derived.Test.YtilhceihelcdgaaH4
import Derived.Deep.RegionWith
namespace Go.Proofs.Ytilhceihelcdgaa
open Go.RowKit

theorem stS_succ (l : List Int) (k : Nat) : stS l (k + 1) = mixN 2 (bits .xor .u64 (stS l k).1 (wordOf (l.drop (8 * k)))) (stS l k).2 := rfl
theorem hsum_of (l : List Int) (k : Nat) (h : (l.length + 7) / 8 = k) : hsum l = bits .xor .u64 (mixN 4 (stS l k).1 (bits .xor .u64 (stS l k).2 l.length)).1 (mixN 4 (stS l k).1 (bits .xor .u64 (stS l k).2 l.length)).2 := by
  subst h; rfl
theorem word_any (l : List Int) (v : Value) (w : World) (h : Bs w v l) :
    Calls Try.prog 172 #[v] w fun e w' => e = .returned (.int .u64 (wordOf l)) ∧ Below w.heap.size w w' := by
  by_cases hn : 8 ≤ l.length
  · exact word_ge l v w h hn
  · exact word_lt l v w h (by omega)
theorem rword_any (l : List Int) (v : Value) (w : World) (h : Bs w v l) :
    Calls Try.prog 175 #[v] w fun e w' => e = .returned (.int .u64 (wordOf l)) ∧ Below w.heap.size w w' := by
  by_cases hn : 8 ≤ l.length
  · exact rword_ge l v w h hn
  · exact rword_lt l v w h (by omega)

/-- A slice cut at its begin. -/
theorem Bs.drop {w : World} {b o cap : Nat} {l : List Int} (h : Bs w (.slice (some ⟨b, o, none⟩) l.length cap) l) (k : Nat) (hk : k < l.length) :
    Bs w (.slice (some ⟨b, o + k, none⟩) (l.length - k) (cap - k)) (l.drop k) := by
  obtain ⟨hs, hb⟩ := h
  obtain ⟨a, cap', h1, h2, h3, h0, h4, h5, h6⟩ := id hs
  cases h1
  refine ⟨⟨_, _, by rw [List.length_drop], by rw [List.length_drop]; omega, Nat.le_trans (Nat.sub_le _ _) h3, (fun e => by cases e), by rw [List.length_drop]; omega, by rw [bsv_length]; omega, fun _ => ⟨b, o + k, rfl, fun j hj => ?_⟩⟩, hb.drop k⟩
  rw [List.length_drop] at hj
  have := hs.cell (by omega) (k + j) (by omega)
  rw [← Nat.add_assoc] at this
  rw [this]
  unfold bsv
  rw [List.getElem?_map, List.getElem?_map, List.getElem?_drop]

theorem mix2_any (B : Nat) (x y : Int) (w : World) (hx : U64 x) (hy : U64 y) (hb : Blk w B 205 #[.int .u64 x, .int .u64 y]) :
    Calls Try.prog 173 #[.pointer (some ⟨B, 0, none⟩), .int .i64 2] w fun e w' => e = .returned (.tuple #[]) ∧ Blk w' B 205 #[.int .u64 (mixN 2 x y).1, .int .u64 (mixN 2 x y).2] ∧ w.grownBy w' (some B) :=
  mix_any B 2 x y w (by decide) hx hy hb
theorem mix4_any (B : Nat) (x y : Int) (w : World) (hx : U64 x) (hy : U64 y) (hb : Blk w B 205 #[.int .u64 x, .int .u64 y]) :
    Calls Try.prog 173 #[.pointer (some ⟨B, 0, none⟩), .int .i64 4] w fun e w' => e = .returned (.tuple #[]) ∧ Blk w' B 205 #[.int .u64 (mixN 4 x y).1, .int .u64 (mixN 4 x y).2] ∧ w.grownBy w' (some B) :=
  mix_any B 4 x y w (by decide) hx hy hb

set_option maxHeartbeats 1000000 in
theorem sum_any (l : List Int) (v : Value) (w : World) (h : Bs w v l) :
    Calls Try.prog 97 #[v] w fun e w' => e = .returned (nv (hname l)) ∧ Below w.heap.size w w' := by
  have HB := h.2
  have HS := Lib.hid h
  obtain ⟨a, cap, rfl, hnc, hcm, _, hl, _, hc⟩ := id h.1
  have HC := Lib.hid hc
  clear hc h
  unfold maxLen at hcm
  have hP0 := Blk.new w 30 (bsv zeroN).toArray
  go_enter Try.func97, Try.ntmps97
  go_wp2
  go_loopw [4] (fun i wr => ∃ k : Nat, 8 * k ≤ l.length + 7 ∧ i = .int .i64 (8 * k : Nat) ∧ Blk wr (w.heap.size + 1) 205 #[.int .u64 (stS l k).1, .int .u64 (stS l k).2] ∧ Blk wr w.heap.size 30 (bsv zeroN).toArray ∧ Below w.heap.size w wr)
    (fun i _ => l.length + 8 - (intOf i).toNat)
  case atStart => exact ⟨0, by omega, rfl, Blk.new' _ _ _ (by simp), (Blk.new _ _ _).old _, ((Below.refl _ _).alloc (Nat.le_refl _) _).alloc (by simp) _⟩
  case round =>
    obtain ⟨k, hk, rfl, hS, hN, hW⟩ := hrel
    obtain ⟨hX, hY⟩ := stS_u64 l k
    have hs := stS_succ l k
    generalize hX' : (stS l k).1 = X at *
    generalize hY' : (stS l k).2 = Y at *
    have HX' := Lib.hid hX'
    have HY' := Lib.hid hY'
    have HN := Lib.hid hs
    clear hX' hY' hs
    obtain ⟨_, _⟩ := hX
    obtain ⟨_, _⟩ := hY
    have c0 := hS.cell 0
    have c1 := hS.cell 1
    have f0 := hS.free 0
    have f1 := hS.free 1
    have hsz := hS.lt
    simp at c0 c1
    by_cases hlt : 8 * k < l.length
    · obtain ⟨b, o, rfl, _⟩ := HC.out (by omega)
      have hbs := (Bs.drop HS.out (8 * k) hlt).below (hW)
      have HBS := Lib.hid hbs
      clear hbs
      have hlt' : ((8 * k : Nat) : Int) < (l.length : Int) := by omega
      go_wp2_with fail
      go_region_with (go_at_call 172; refine (word_any (l.drop (8 * k)) _ _ HBS.out.drew).mono ?_; rintro e w2 ⟨rfl, hB2⟩; have hS2 := hS.drew.below hB2 hsz; have c0' := hS2.cell 0; have f0' := hS2.free 0; simp at c0')
      all_goals
        have hS3 := hS2.set 0 (.int .u64 (bits .xor .u64 X (wordOf (l.drop (8 * k)))))
        have hN3 := (hN.drew.below hB2 (by simp; omega)).other ⟨w.heap.size + 1, 0, none⟩ (.int .u64 (bits .xor .u64 X (wordOf (l.drop (8 * k))))) (by simp)
        have hW3 := (hW.drew.trans (hB2.mono (by simpa using hW.size))).setCell (p := ⟨w.heap.size + 1, 0, none⟩) (by simp) (.int .u64 (bits .xor .u64 X (wordOf (l.drop (8 * k)))))
        generalize w2.setCell ⟨w.heap.size + 1, 0, none⟩ (.int .u64 (bits .xor .u64 X (wordOf (l.drop (8 * k))))) = w3 at *
        clear c0 c1 f0 f1 c0' f0'
        go_wp2_with (go_at_call 173; refine (mix2_any _ (bits .xor .u64 X (wordOf (l.drop (8 * k)))) Y _ (bits_u64 _ _ _) ⟨by omega, by omega⟩ hS3).mono ?_; rintro e w4 ⟨rfl, hS4, hg4⟩)
        go_roundw
        case rel =>
          refine ⟨k + 1, by omega, by go_num, ?_, hN3.grown hg4 (by simp), hW3.grown hg4 hW3.size (by intro j hj; cases hj; omega)⟩
          rw [HN.out]
          exact hS4
        case measure => simp [intOf]; omega
    · have hke : (l.length + 7) / 8 = k := by omega
      have hsum := hsum_of l k hke
      rw [HX'.out, HY'.out] at hsum
      have HSUM := Lib.hid hsum
      clear hsum hke
      go_wp2_with (go_at_call 173; refine (mix4_any _ X (bits .xor .u64 Y l.length) _ ⟨by omega, by omega⟩ (bits_u64 _ _ _) (hS.set 1 (.int .u64 (bits .xor .u64 Y l.length)))).mono ?_; rintro e w4 ⟨rfl, hS4, hg4⟩; have d0 := hS4.cell 0; have d1 := hS4.cell 1; simp at d0 d1)
      have hN5 := ((hN.other ⟨w.heap.size + 1, 1, none⟩ (.int .u64 (bits .xor .u64 Y l.length)) (by simp)).grown hg4 (by simp))
      have hW5 := ((hW.setCell (p := ⟨w.heap.size + 1, 1, none⟩) (by simp) (.int .u64 (bits .xor .u64 Y l.length))).grown hg4 (by simpa using hW.size) (by intro j hj; cases hj; omega))
      refine (of_any _ _ (bits_u64 _ _ _)).mono ?_
      rintro e w6 ⟨rfl, hB6⟩
      have hN6 := hN5.below hB6 hN5.lt
      have hW6 := hW5.trans (hB6.mono hW5.size)
      go_wp2_with (refine wpList_store_name _ rfl (.tmp 2) (.tmp 34) rfl w.heap.size rfl _ rfl _ _ hN6 rfl rfl ?_)
      intro w7 hN7 hg7
      go_wp2
      refine ret_name rfl w.heap.size _ _ rfl rfl hN7 rfl ⟨?_, hW6.grown hg7 hW6.size (by intro j hj; cases hj; omega)⟩
      rw [hname, HSUM.out]
end Go.Proofs.Ytilhceihelcdgaa
