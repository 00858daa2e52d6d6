/-
  Contracts of the functions that append and read a byte string with its length.
-/
import Derived.Test.YtilhceihelcdgaaC3
namespace Go.Proofs.Ytilhceihelcdgaa
open Go.RowKit

/-- A byte string with its length. -/
def strB (p : List Int) : List Int := beB p.length 2 ++ p
theorem strB_len (p : List Int) : (strB p).length = 2 + p.length := by simp [strB, beB_len]
theorem strB_byt {p : List Int} (h : Byt p) : Byt (strB p) := (beB_byt _ _).append h

set_option maxHeartbeats 1000000 in
theorem appendBytes_any (l p : List Int) (v u : Value) (w : World) (h : Bs w v l) (k : Bs w u p) (hp : p.length ≤ 65535) (hl : l.length ≤ 1000000000) :
    Calls Try.prog 100 #[v, u] w fun e w' => ∃ v', e = .returned (.tuple #[v', .bool true]) ∧ OwB w' w.heap.size v' (l ++ strB p) ∧ Below w.heap.size w w' := by
  have HS := Lib.hid h
  have HU := Lib.hid k
  obtain ⟨a, cap, rfl, hnc, hcm, _, _, _, hc⟩ := id k.1
  clear hc h k
  unfold maxLen at hcm
  go_enter Try.func100, Try.ntmps100
  go_wp2_with (first
    | (go_at_call 94; refine (appendUint_any l _ p.length 2 _ HS.out ⟨by omega, by omega⟩ (by omega) (by omega) (by omega)).mono ?_; rintro e w1 ⟨v1, rfl, hO1, hB1⟩)
    | (at_builtin; refine wpList_app_bs _ rfl (.tmp 13) (.tmp 14) rfl w.heap.size _ _ rfl hO1 _ p rfl (HU.out.1.below hB1) (by have := beB_len p.length 2; simp; omega) hB1.size ?_; intro v2 w2 hO2 hg2; have hB2 := hO1.below_grown hB1 hB1.size hg2))
  go_ret2
  exact ⟨_, rfl, by rw [strB, ← List.append_assoc]; exact hO2, hB2⟩

set_option maxHeartbeats 1000000 in
theorem rappendBytes_any (l p : List Int) (v u : Value) (w : World) (h : Bs w v l) (k : Bs w u p) (hp : p.length ≤ 65535) (hl : l.length ≤ 1000000000) :
    Calls Try.prog 180 #[v, u] w fun e w' => ∃ v', e = .returned (.tuple #[v', .bool true]) ∧ OwB w' w.heap.size v' (l ++ strB p) ∧ Below w.heap.size w w' := by
  have HS := Lib.hid h
  have HU := Lib.hid k
  obtain ⟨a, cap, rfl, hnc, hcm, _, _, _, hc⟩ := id k.1
  clear hc h k
  unfold maxLen at hcm
  go_enter Try.func180, Try.ntmps180
  go_wp2_with (first
    | (go_at_call 179; refine (rappendUint_any l _ p.length 2 _ HS.out ⟨by omega, by omega⟩ (by omega) (by omega) (by omega)).mono ?_; rintro e w1 ⟨v1, rfl, hO1, hB1⟩)
    | (at_builtin; refine wpList_app_bs _ rfl (.tmp 13) (.tmp 14) rfl w.heap.size _ _ rfl hO1 _ p rfl (HU.out.1.below hB1) (by have := beB_len p.length 2; simp; omega) hB1.size ?_; intro v2 w2 hO2 hg2; have hB2 := hO1.below_grown hB1 hB1.size hg2))
  go_ret2
  exact ⟨_, rfl, by rw [strB, ← List.append_assoc]; exact hO2, hB2⟩

/-- A slice of a slice that has elements. -/
theorem Sl.cutAt {w : World} {b o cap : Nat} {l : List Int} (h : Sl w (.slice (some ⟨b, o, none⟩) l.length cap) 1 l.length (bsv l)) (p n : Nat) (_hn : 0 < n) (hp : p + n ≤ l.length) :
    Sl w (.slice (some ⟨b, o + p, none⟩) n (cap - p)) 1 (cut l p n).length (bsv (cut l p n)) := by
  obtain ⟨a, cap', h1, h2, h3, h0, h4, h5, h6⟩ := id h
  cases h1
  rw [cut_len l p n hp]
  refine ⟨_, _, rfl, by omega, Nat.le_trans (Nat.sub_le _ _) h3, (fun e => by cases e), by omega, by rw [bsv_length, cut_len l p n hp]; omega, fun _ => ⟨b, o + p, rfl, fun j hj => ?_⟩⟩
  have := h.cell (by omega) (p + j) (by omega)
  rw [← Nat.add_assoc] at this
  rw [this, bsv_get (by omega), bsv_get (by rw [cut_len l p n hp]; omega)]
  unfold cut
  rw [List.getD_eq_getElem?_getD, List.getD_eq_getElem?_getD, List.getElem?_take, if_pos (by omega), List.getElem?_drop]
theorem Sl.empty (w : World) (a : Addr) (cap : Nat) (h : cap ≤ maxLen) : Sl w (.slice (some a) 0 cap) 1 0 (bsv []) :=
  ⟨_, _, rfl, Nat.zero_le _, h, (fun e => by cases e), by omega, rfl, fun e => absurd e (by omega)⟩
theorem cut_zero (l : List Int) (p : Nat) : cut l p 0 = [] := by simp [cut]
theorem numOf2_bd {l : List Int} (h : Byt l) (p : Nat) (hp : p + 2 ≤ l.length) : 0 ≤ numOf (cut l p 2) ∧ numOf (cut l p 2) < 65536 := by
  have := numOf_bd _ (cut_byt h p 2)
  rw [cut_len _ _ _ hp] at this
  exact ⟨this.1, by simpa using this.2⟩

theorem Sl.le {w : World} {v : Value} {sz n : Nat} {cs : List Value} (h : Sl w v sz n cs) : n ≤ 140737488355328 := by obtain ⟨_, _, _, _, _, _, h, _⟩ := h; exact h
set_option maxHeartbeats 1000000 in
theorem bytes_yes (l : List Int) (v : Value) (p : Int) (w : World) (h : Bs w v l) (h0 : 0 ≤ p) (h2 : p + 2 ≤ l.length) (h3 : p + 2 + numOf (cut l p.toNat 2) ≤ l.length) :
    Calls Try.prog 181 #[v, .int .i64 p] w fun e w' => ∃ v', e = .returned (.tuple #[v', .int .i64 (p + 2 + numOf (cut l p.toNat 2)), .bool true]) ∧ OwB w' w.heap.size v' (cut l (p.toNat + 2) (numOf (cut l p.toNat 2)).toNat) ∧ Below w.heap.size w w' := by
  obtain ⟨p, rfl⟩ := Int.eq_ofNat_of_zero_le h0
  simp only [Int.toNat_natCast] at h3 ⊢
  have HS := Lib.hid h
  obtain ⟨k0, _⟩ := numOf2_bd h.2 p (by omega)
  obtain ⟨a, cap, rfl, hnc, hcm, _, _, _, hc⟩ := id h.1
  obtain ⟨b, o, rfl, _⟩ := hc (by omega)
  clear hc h
  unfold maxLen at hcm
  obtain ⟨n, hn⟩ := Int.eq_ofNat_of_zero_le k0
  rw [hn] at h3 ⊢
  simp only [Int.toNat_natCast]
  have HN := Lib.hid hn
  clear k0
  have hu := uint_yes l _ p 2 w HS.out (by omega) (by omega) (by omega) (by omega)
  rw [show ((2 : Int)).toNat = 2 from rfl, Int.toNat_natCast, HN.out] at hu
  have HU := Lib.hid hu
  clear hu
  rcases Nat.eq_zero_or_pos n with rfl | hnp
  · clear hn
    go_enter Try.func181, Try.ntmps181
    go_wp2_with (first
      | (go_at_call 78; refine HU.out.mono ?_; rintro e w1 ⟨rfl, rfl⟩)
      | (go_at_call 149; refine (follow_yes l _ _ _ _ HS.out (by omega) (by omega) (by omega)).mono ?_; rintro e w1 ⟨rfl, rfl⟩))
    all_goals
      go_ret3
      exact ⟨.slice none 0 0, by simp, by rw [cut_zero]; exact OwB.nil _ _, Below.refl _ _⟩
  · have hcut := Sl.cutAt HS.out.1 (p + 2) n hnp (by omega)
    have hcl := cut_len l (p + 2) n (by omega)
    have HCUT := Lib.hid hcut
    have HCL := Lib.hid hcl
    clear hcut hcl hn
    go_enter Try.func181, Try.ntmps181
    go_wp2_with (first
      | (go_at_call 78; refine HU.out.mono ?_; rintro e w1 ⟨rfl, rfl⟩)
      | (go_at_call 149; refine (follow_yes l _ _ _ _ HS.out (by omega) (by omega) (by omega)).mono ?_; rintro e w1 ⟨rfl, rfl⟩)
      | (at_builtin; refine wpList_app_bs _ rfl (.const (.slice none 0 0)) (.tmp 36) rfl w.heap.size _ [] rfl (OwB.nil _ _) _ (cut l (p + 2) n) ?hx (HCUT.out.below (Below.refl _ _)) (by have := HCL.out; simp; omega) (Nat.le_refl _) ?_; rotate_left; intro v2 w2 hO2 hg2; have hB2 := (OwB.nil w w.heap.size).below_grown (Below.refl _ _) (Nat.le_refl _) hg2))
    case hx => simp [Act.eval]
    go_ret3
    exact ⟨_, rfl, hO2, hB2⟩

set_option maxHeartbeats 1000000 in
theorem rbytes_yes (l : List Int) (v : Value) (p : Int) (w : World) (h : Bs w v l) (h0 : 0 ≤ p) (h2 : p + 2 ≤ l.length) (h3 : p + 2 + numOf (cut l p.toNat 2) ≤ l.length) :
    Calls Try.prog 191 #[v, .int .i64 p] w fun e w' => ∃ v', e = .returned (.tuple #[v', .int .i64 (p + 2 + numOf (cut l p.toNat 2)), .bool true]) ∧ OwB w' w.heap.size v' (cut l (p.toNat + 2) (numOf (cut l p.toNat 2)).toNat) ∧ Below w.heap.size w w' := by
  obtain ⟨p, rfl⟩ := Int.eq_ofNat_of_zero_le h0
  simp only [Int.toNat_natCast] at h3 ⊢
  have HS := Lib.hid h
  obtain ⟨k0, _⟩ := numOf2_bd h.2 p (by omega)
  obtain ⟨a, cap, rfl, hnc, hcm, _, _, _, hc⟩ := id h.1
  obtain ⟨b, o, rfl, _⟩ := hc (by omega)
  clear hc h
  unfold maxLen at hcm
  obtain ⟨n, hn⟩ := Int.eq_ofNat_of_zero_le k0
  rw [hn] at h3 ⊢
  simp only [Int.toNat_natCast]
  have HN := Lib.hid hn
  clear k0
  have hu := ruint_yes l _ p 2 w HS.out (by omega) (by omega) (by omega) (by omega)
  rw [show ((2 : Int)).toNat = 2 from rfl, Int.toNat_natCast, HN.out] at hu
  have HU := Lib.hid hu
  clear hu
  rcases Nat.eq_zero_or_pos n with rfl | hnp
  · clear hn
    go_enter Try.func191, Try.ntmps191
    go_wp2_with (first
      | (go_at_call 160; refine HU.out.mono ?_; rintro e w1 ⟨rfl, rfl⟩))
    all_goals
      go_ret3
      exact ⟨.slice (some ⟨w.heap.size, 0, none⟩) 0 0, by simp, by rw [cut_zero]; exact OwB.empty _ _ (Nat.le_refl _), below1 _ _⟩
  · have hcut := Sl.cutAt HS.out.1 (p + 2) n hnp (by omega)
    have hcl := cut_len l (p + 2) n (by omega)
    have HCUT := Lib.hid hcut
    have HCL := Lib.hid hcl
    clear hcut hcl hn
    go_enter Try.func191, Try.ntmps191
    go_wp2_with (first
      | (go_at_call 160; refine HU.out.mono ?_; rintro e w1 ⟨rfl, rfl⟩)
      | (at_builtin; refine wpList_app_bs _ rfl (.tmp 33) (.tmp 38) rfl w.heap.size _ [] rfl (OwB.empty _ _ (Nat.le_refl _)) _ (cut l (p + 2) n) ?hx (HCUT.out.below (below1 _ _)) (by have := HCL.out; simp; omega) (by simp) ?_; rotate_left; intro v2 w2 hO2 hg2; have hB2 := (OwB.empty w w.heap.size (Nat.le_refl _)).below_grown (below1 w _) (by simp) hg2))
    case hx => simp [Act.eval]
    go_ret3
    exact ⟨_, rfl, hO2, hB2⟩

theorem bytes_no1 (l : List Int) (v : Value) (p : Int) (w : World) (h : Bs w v l) (h0 : 0 ≤ p) (h00 : p ≤ 140737488355328) (h2 : ¬ p + 2 ≤ l.length) :
    Calls Try.prog 181 #[v, .int .i64 p] w fun e w' => e = .returned (.tuple #[.slice none 0 0, .int .i64 0, .bool false]) ∧ w = w' := by
  have HS := Lib.hid h
  have H2 := Lib.hid h2
  clear h h2
  go_enter Try.func181, Try.ntmps181
  go_wp2_with (go_at_call 78; refine (uint_no l _ _ _ _ HS.out (by omega) (by omega) (by omega) (by omega) H2.out).mono ?_; rintro e w1 ⟨rfl, rfl⟩)
  go_ret3
  exact ⟨rfl, rfl⟩
theorem bytes_no2 (l : List Int) (v : Value) (p : Int) (w : World) (h : Bs w v l) (h0 : 0 ≤ p) (h2 : p + 2 ≤ l.length) (h3 : ¬ p + 2 + numOf (cut l p.toNat 2) ≤ l.length) :
    Calls Try.prog 181 #[v, .int .i64 p] w fun e w' => e = .returned (.tuple #[.slice none 0 0, .int .i64 0, .bool false]) ∧ w = w' := by
  obtain ⟨p, rfl⟩ := Int.eq_ofNat_of_zero_le h0
  simp only [Int.toNat_natCast] at h3
  have HS := Lib.hid h
  obtain ⟨k0, k1⟩ := numOf2_bd h.2 p (by omega)
  have hl := h.1.le
  have hu := uint_yes l _ p 2 w HS.out (by omega) (by omega) (by omega) (by omega)
  rw [show ((2 : Int)).toNat = 2 from rfl, Int.toNat_natCast] at hu
  generalize numOf (cut l p 2) = n at *
  have HU := Lib.hid hu
  have H3 := Lib.hid h3
  clear hu h3 h
  go_enter Try.func181, Try.ntmps181
  go_wp2_with (first
    | (go_at_call 78; refine HU.out.mono ?_; rintro e w1 ⟨rfl, rfl⟩)
    | (go_at_call 149; refine (follow_no l _ _ _ _ HS.out (by omega) (by omega) (by have := H3.out; omega) (by omega) (by omega)).mono ?_; rintro e w1 ⟨rfl, rfl⟩))
  go_ret3
  exact ⟨rfl, rfl⟩
theorem rbytes_no1 (l : List Int) (v : Value) (p : Int) (w : World) (h : Bs w v l) (h0 : 0 ≤ p) (h00 : p ≤ 140737488355328) (h2 : ¬ p + 2 ≤ l.length) :
    Calls Try.prog 191 #[v, .int .i64 p] w fun e w' => e = .returned (.tuple #[.slice none 0 0, .int .i64 0, .bool false]) ∧ w = w' := by
  have HS := Lib.hid h
  have H2 := Lib.hid h2
  clear h h2
  go_enter Try.func191, Try.ntmps191
  go_wp2_with (go_at_call 160; refine (ruint_no l _ _ _ _ HS.out (by omega) (by omega) (by omega) (by omega) H2.out).mono ?_; rintro e w1 ⟨rfl, rfl⟩)
  go_ret3
  exact ⟨rfl, rfl⟩
theorem rbytes_no2 (l : List Int) (v : Value) (p : Int) (w : World) (h : Bs w v l) (h0 : 0 ≤ p) (h2 : p + 2 ≤ l.length) (h3 : ¬ p + 2 + numOf (cut l p.toNat 2) ≤ l.length) :
    Calls Try.prog 191 #[v, .int .i64 p] w fun e w' => e = .returned (.tuple #[.slice none 0 0, .int .i64 0, .bool false]) ∧ w = w' := by
  obtain ⟨p, rfl⟩ := Int.eq_ofNat_of_zero_le h0
  simp only [Int.toNat_natCast] at h3
  have HS := Lib.hid h
  obtain ⟨k0, k1⟩ := numOf2_bd h.2 p (by omega)
  have hu := ruint_yes l _ p 2 w HS.out (by omega) (by omega) (by omega) (by omega)
  rw [show ((2 : Int)).toNat = 2 from rfl, Int.toNat_natCast] at hu
  generalize numOf (cut l p 2) = n at *
  have HU := Lib.hid hu
  have h3' : (l.length : Int) - (p : Int) - 2 < n := by omega
  obtain ⟨a, cap, rfl, hnc, hcm, _, hl, _, hc⟩ := id h.1
  clear hu h3 h hc
  go_enter Try.func191, Try.ntmps191
  go_wp2_with (go_at_call 160; refine HU.out.mono ?_; rintro e w1 ⟨rfl, rfl⟩)
  go_ret3
  exact ⟨rfl, rfl⟩
end Go.Proofs.Ytilhceihelcdgaa
