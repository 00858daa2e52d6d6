/-
  Contracts of the functions that read numbers: codec.follow, codec.Uint and the reference's Uint.
  Contracts of the functions that write numbers: codec.extended, codec.AppendUint and the reference's AppendUint.
  Contracts of the functions that append a number: codec.AppendUint and the reference's.
  Contracts of the functions that append and read a byte string with its length.
-/
import Derived.Test.YtilhceihelcdgaaH
namespace Go.Proofs.Ytilhceihelcdgaa
section
open Go.RowKit

theorem follow_yes (l : List Int) (v : Value) (p n : Int) (w : World) (h : Bs w v l) (h0 : 0 ≤ p) (h1 : p ≤ l.length) (h2 : n ≤ l.length - p) :
    Calls Try.prog 149 #[v, .int .i64 p, .int .i64 n] w fun e w' => e = .returned (.bool true) ∧ w = w' := by
  obtain ⟨a, cap, rfl, hnc, hcm, _, hl, _, _⟩ := h.1
  clear h
  go_enter Try.func149, Try.ntmps149
  go_wp2
  go_ret
  exact ⟨rfl, rfl⟩
theorem follow_no (l : List Int) (v : Value) (p n : Int) (w : World) (h : Bs w v l) (h0 : 0 ≤ p) (_h1 : p ≤ 140737488355328) (h2 : ¬ (p ≤ l.length ∧ n ≤ l.length - p)) (_h3 : -1000 ≤ n) (_h4 : n ≤ 140737488355328) :
    Calls Try.prog 149 #[v, .int .i64 p, .int .i64 n] w fun e w' => e = .returned (.bool false) ∧ w = w' := by
  obtain ⟨a, cap, rfl, hnc, hcm, _, hl, _, _⟩ := h.1
  clear h
  by_cases hp : p ≤ l.length
  · have hn : ¬ n ≤ l.length - p := fun e => h2 ⟨hp, e⟩
    clear h2
    go_enter Try.func149, Try.ntmps149
    go_wp2
    go_ret
    exact ⟨rfl, rfl⟩
  · clear h2
    go_enter Try.func149, Try.ntmps149
    go_wp2
    go_ret
    exact ⟨rfl, rfl⟩

/-- The bytes from place p on, so many. -/
def cut (l : List Int) (p n : Nat) : List Int := (l.drop p).take n
theorem cut_len (l : List Int) (p n : Nat) (h : p + n ≤ l.length) : (cut l p n).length = n := by simp [cut]; omega
theorem cut_succ (l : List Int) (p n : Nat) (h : p + n < l.length) : cut l p (n + 1) = cut l p n ++ [l.getD (p + n) 0] := by
  unfold cut
  rw [take_one (by simp; omega)]
  congr 2
  rw [List.getD_eq_getElem?_getD, List.getElem?_drop, ← List.getD_eq_getElem?_getD]
theorem cut_byt {l : List Int} (h : Byt l) (p n : Nat) : Byt (cut l p n) := (h.drop p).take n

set_option maxHeartbeats 1000000 in
theorem uint_yes (l : List Int) (v : Value) (p n : Int) (w : World) (h : Bs w v l) (h0 : 0 ≤ p) (h1 : 1 ≤ n) (h2 : n ≤ 8) (h3 : p + n ≤ l.length) :
    Calls Try.prog 78 #[v, .int .i64 p, .int .i64 n] w fun e w' => e = .returned (.tuple #[.int .u64 (numOf (cut l p.toNat n.toNat)), .bool true]) ∧ w = w' := by
  obtain ⟨p, rfl⟩ := Int.eq_ofNat_of_zero_le h0
  obtain ⟨n, rfl⟩ := Int.eq_ofNat_of_zero_le (show 0 ≤ n by omega)
  simp only [Int.toNat_natCast]
  have HB := h.2
  have HS := Lib.hid h
  obtain ⟨a, cap, rfl, hnc, hcm, _, hl, _, hc⟩ := id h.1
  obtain ⟨b, o, rfl, _⟩ := hc (by omega)
  clear hc h
  unfold maxLen at hcm
  have hd1 : decide ((n : Int) < 1) = false := by simp; omega
  have hd2 : decide (8 < (n : Int)) = false := by simp; omega
  have h3' : p + n ≤ l.length := by omega
  go_enter Try.func78, Try.ntmps78
  go_wp2_with (go_at_call 149; refine (follow_yes l _ _ _ _ HS.out (by omega) (by omega) (by omega)).mono ?_; rintro e w' ⟨rfl, rfl⟩)
  go_loop [8, 10, 31] (fun a _ i => ∃ k : Nat, k ≤ n ∧ i = .int .i64 k ∧ a = .int .u64 (numOf (cut l p k))) (fun _ _ i => n - (intOf i).toNat)
  case atStart => exact ⟨0, by omega, rfl, by simp [cut, numOf]⟩
  case round =>
    obtain ⟨k, hk, rfl, rfl⟩ := hrel
    by_cases hlt : k < n
    · have hlt' : (k : Int) < (n : Int) := by omega
      have c0 := Bs.at HS.out.1 (p + k) (by omega)
      rw [← Nat.add_assoc] at c0
      have hb := numOf_bd (cut l p k) (cut_byt HB p k)
      have h8 : numOf (cut l p k) < 72057594037927936 := Int.lt_of_lt_of_le hb.2 (pow256_le _ (by rw [cut_len _ _ _ (by omega)]; omega))
      have g2 := HB.getD (p + k)
      have hs := numOf_snoc (cut l p k) (l.getD (p + k) 0)
      rw [← cut_succ l p k (by omega)] at hs
      have h9 := or_byte hb.1 h8 g2.1 g2.2
      obtain ⟨_, _⟩ := hb
      generalize numOf (cut l p k) = A at *
      generalize l.getD (p + k) 0 = c at *
      obtain ⟨_, _⟩ := g2
      have HSS := Lib.hid hs
      clear hs
      go_wp2
      go_round
      case rel => exact ⟨k + 1, by omega, by go_num, by rw [HSS.out]⟩
      case measure => simp [intOf]; omega
    · obtain rfl : k = n := by omega
      go_wp2
      go_ret2
      exact ⟨rfl, rfl⟩

theorem uint_no (l : List Int) (v : Value) (p n : Int) (w : World) (h : Bs w v l) (h0 : 0 ≤ p) (h00 : p ≤ 140737488355328) (h1 : 1 ≤ n) (h2 : n ≤ 8) (h3 : ¬ p + n ≤ l.length) :
    Calls Try.prog 78 #[v, .int .i64 p, .int .i64 n] w fun e w' => e = .returned (.tuple #[.int .u64 0, .bool false]) ∧ w = w' := by
  have HS := Lib.hid h
  obtain ⟨a, cap, rfl, hnc, hcm, _, hl, _, hc⟩ := id h.1
  clear hc h
  have HN := Lib.hid h3
  clear h3
  go_enter Try.func78, Try.ntmps78
  go_wp2_with (go_at_call 149; refine (follow_no l _ _ _ _ HS.out (by omega) (by omega) (by have := HN.out; omega) (by omega) (by omega)).mono ?_; rintro e w' ⟨rfl, rfl⟩)
  go_ret2
  exact ⟨rfl, rfl⟩

set_option maxHeartbeats 1000000 in
theorem ruint_yes (l : List Int) (v : Value) (p n : Int) (w : World) (h : Bs w v l) (h0 : 0 ≤ p) (h1 : 1 ≤ n) (h2 : n ≤ 8) (h3 : p + n ≤ l.length) :
    Calls Try.prog 160 #[v, .int .i64 p, .int .i64 n] w fun e w' => e = .returned (.tuple #[.int .u64 (numOf (cut l p.toNat n.toNat)), .bool true]) ∧ w = w' := by
  obtain ⟨p, rfl⟩ := Int.eq_ofNat_of_zero_le h0
  obtain ⟨n, rfl⟩ := Int.eq_ofNat_of_zero_le (show 0 ≤ n by omega)
  simp only [Int.toNat_natCast]
  have HB := h.2
  have HS := Lib.hid h
  obtain ⟨a, cap, rfl, hnc, hcm, _, hl, _, hc⟩ := id h.1
  obtain ⟨b, o, rfl, _⟩ := hc (by omega)
  clear hc h
  unfold maxLen at hcm
  have hd1 : decide ((n : Int) < 1) = false := by simp; omega
  have hd2 : decide (8 < (n : Int)) = false := by simp; omega
  have hd3 : decide ((p : Int) < 0) = false := by simp
  have hd4 : decide ((l.length : Int) - (n : Int) < (p : Int)) = false := by simp; omega
  have h3' : p + n ≤ l.length := by omega
  go_enter Try.func160, Try.ntmps160
  go_wp2
  go_loop [8, 9] (fun a i => ∃ k : Nat, k ≤ n ∧ i = .int .i64 k ∧ a = .int .u64 (numOf (cut l p k))) (fun _ i => n - (intOf i).toNat)
  case atStart => exact ⟨0, by omega, rfl, by simp [cut, numOf]⟩
  case round =>
    obtain ⟨k, hk, rfl, rfl⟩ := hrel
    by_cases hlt : k < n
    · have hlt' : (k : Int) < (n : Int) := by omega
      have c0 := Bs.at HS.out.1 (p + k) (by omega)
      have hb := numOf_bd (cut l p k) (cut_byt HB p k)
      have h8 : numOf (cut l p k) < 72057594037927936 := Int.lt_of_lt_of_le hb.2 (pow256_le _ (by rw [cut_len _ _ _ (by omega)]; omega))
      have g2 := HB.getD (p + k)
      have hs := numOf_snoc (cut l p k) (l.getD (p + k) 0)
      rw [← cut_succ l p k (by omega)] at hs
      have h9 := or_byte hb.1 h8 g2.1 g2.2
      obtain ⟨_, _⟩ := hb
      generalize numOf (cut l p k) = A at *
      generalize l.getD (p + k) 0 = c at *
      obtain ⟨_, _⟩ := g2
      have HSS := Lib.hid hs
      clear hs
      go_wp2
      go_round
      case rel => exact ⟨k + 1, by omega, by go_num, by rw [HSS.out]⟩
      case measure => simp [intOf]; omega
    · obtain rfl : k = n := by omega
      go_wp2
      go_ret2
      exact ⟨rfl, rfl⟩
theorem ruint_no (l : List Int) (v : Value) (p n : Int) (w : World) (h : Bs w v l) (h0 : 0 ≤ p) (h00 : p ≤ 140737488355328) (h1 : 1 ≤ n) (h2 : n ≤ 8) (h3 : ¬ p + n ≤ l.length) :
    Calls Try.prog 160 #[v, .int .i64 p, .int .i64 n] w fun e w' => e = .returned (.tuple #[.int .u64 0, .bool false]) ∧ w = w' := by
  obtain ⟨a, cap, rfl, hnc, hcm, _, hl, _, hc⟩ := id h.1
  clear hc h
  have h4 : (l.length : Int) - n < p := by omega
  clear h3
  go_enter Try.func160, Try.ntmps160
  go_wp2
  go_ret2
  exact ⟨rfl, rfl⟩
end
section
open Go.RowKit

/-- 'make([]byte, L, C)'. -/
theorem wpList_mk_bs (w : World) {ops : Array Oper} {rest : List Oper} {o : Oper} {a : Act} {Q : Exit → Act → World → Prop} (hgd : o.guard = none) (l c : Operand) (ho : o.op = Op.makeSlice 22 l c)
    (L C : Nat) (L' C' : Int) (hl : a.eval l = .int .i64 L') (hc : a.eval c = .int .i64 C') (hL' : L' = L) (hC' : C' = C) (hL : L ≤ C) (hC : C ≤ 281474976710656)
    (h : ∀ w', Blk w' w.heap.size 5 (bsv (List.replicate C 0)).toArray → Below w.heap.size w w' → wpList Try.prog ops Q rest (a.put o.dst (.slice (some ⟨w.heap.size, 0, none⟩) L C)) w') : wpList Try.prog ops Q (o :: rest) a w := by
  subst hL' hC'
  refine wpList_plain hgd fun K hK => ?_
  obtain ⟨i, hi, hz0, hz1, hz2⟩ := info_parts info_u8
  have hrun := run_make (P := Try.prog) w 22 5 i (.int .u8 0) un_bytes hi hz0 .i64 .i64 L C (by omega) (by omega) (by rw [hz2]; omega) (by omega)
  unfold Oper.wp
  simp [execOp, ho, hl, hc, hrun, Result.andThen]
  refine hK _ _ (h _ ?_ (below1 w _))
  have hm : (madeCells (Value.int .u8 0).cells (C * i.size)) = (bsv (List.replicate C 0)).toArray := by
    apply Array.ext'
    rw [hz1, Nat.mul_one]
    exact (toList_madeCells_one _ C).trans (by simp [bsv])
  rw [hm]
  exact Blk.new _ _ _

theorem splice_ext (l : List Int) (n : Nat) : splice (bsv (List.replicate (l.length + n) 0)) 0 (bsv l) = bsv (l ++ List.replicate n 0) := by
  unfold splice
  simp [bsv, List.map_append]
/-- A block whose first cells are l is owned by the slice that begins at its head. -/
theorem OwB.of_blk {w : World} {base g C : Nat} {l r : List Int} (h : Blk w g 5 (bsv (l ++ r)).toArray) (hb : base ≤ g) (hC : C = l.length + r.length) (hm : C ≤ maxLen) : OwB w base (.slice (some ⟨g, 0, none⟩) l.length C) l := by
  refine ⟨by simp [bsv_length], .inr ⟨g, C, _, rfl, hb, h, by omega, hm, by simp [bsv_length, hC], ?_⟩⟩
  rw [bsv_append]
  simp [bsv_length]

set_option maxHeartbeats 1000000 in
theorem extended_any (l : List Int) (v : Value) (n : Int) (w : World) (h : Bs w v l) (h0 : 0 ≤ n) (h1 : n ≤ 8) (hl : l.length ≤ 140737488355320) :
    Calls Try.prog 169 #[v, .int .i64 n] w fun e w' => ∃ v', e = .returned v' ∧ OwB w' w.heap.size v' l ∧ Below w.heap.size w w' := by
  obtain ⟨n, rfl⟩ := Int.eq_ofNat_of_zero_le h0
  have HS := Lib.hid h
  obtain ⟨a, cap, rfl, hnc, hcm, _, _, _, hc⟩ := id h.1
  clear hc h
  unfold maxLen at hcm
  go_enter Try.func169, Try.ntmps169
  have hf : 0 + min l.length l.length ≤ (bsv (List.replicate (l.length + n) 0)).length := by rw [bsv_length, List.length_replicate]; omega
  have HF := Lib.hid hf
  clear hf
  go_wp2_with (refine wpList_mk_bs _ rfl (.tmp 7) (.tmp 11) rfl l.length (l.length + n) _ _ rfl rfl rfl (by omega) (by omega) (by omega) ?_)
  intro w1 hC1 hB1
  go_wp2_with (refine wpList_copy_bs _ rfl (.tmp 13) (.tmp 14) rfl _ l rfl (HS.out.1.below hB1) w.heap.size 0 l.length (l.length + n) rfl _ _ hC1 HF.out w.heap.size w hB1 (Nat.le_refl _) ?_)
  intro w2 hC2 hB2
  rw [splice_ext] at hC2
  go_wp2
  go_ret
  exact ⟨_, rfl, OwB.of_blk hC2 (Nat.le_refl _) (by simp) (by unfold maxLen; omega), hB2⟩
end
section
open Go.RowKit

/-- The n lowest bytes of a number, the highest first. -/
def beB (v : Int) : Nat → List Int
  | 0 => []
  | n + 1 => (v / 2 ^ (8 * n) % 256) :: beB v n
theorem beB_len (v : Int) (n : Nat) : (beB v n).length = n := by induction n with
  | zero => rfl
  | succ n ih => simp [beB, ih]
theorem beB_byt (v : Int) (n : Nat) : Byt (beB v n) := by induction n with
  | zero => exact Byt.nil
  | succ n ih => exact Byt.cons (by omega) (by omega) ih

set_option maxHeartbeats 1000000 in
theorem appendUint_any (l : List Int) (v : Value) (x n : Int) (w : World) (h : Bs w v l) (hx : U64 x) (h0 : 0 ≤ n) (h1 : n ≤ 8) (hl : l.length ≤ 140737488355320) :
    Calls Try.prog 94 #[v, .int .u64 x, .int .i64 n] w fun e w' => ∃ v', e = .returned v' ∧ OwB w' w.heap.size v' (l ++ beB x n.toNat) ∧ Below w.heap.size w w' := by
  obtain ⟨n, rfl⟩ := Int.eq_ofNat_of_zero_le h0
  obtain ⟨_, _⟩ := hx
  simp only [Int.toNat_natCast]
  have HS := Lib.hid h
  clear h
  go_enter Try.func94, Try.ntmps94
  go_wp2_with (go_at_call 169; refine (extended_any l _ n _ HS.out (by omega) (by omega) hl).mono ?_; rintro e w1 ⟨v1, rfl, hO1, hB1⟩)
  go_loopw [7, 8] (fun b i wr => ∃ k : Nat, k ≤ n ∧ i = .int .i64 ((k : Int) - 1) ∧ ∃ pre, Hid (pre ++ beB x k = beB x n) ∧ OwB wr w.heap.size b (l ++ pre) ∧ Below w.heap.size w wr) (fun _ i _ => ((intOf i) + 1).toNat)
  case atStart => exact ⟨n, Nat.le_refl _, rfl, [], rfl, by simpa using hO1, hB1⟩
  case round =>
    obtain ⟨k, hk, rfl, pre, hpre, hO, hB⟩ := hrel
    have hlp : pre.length + k = n := by have := congrArg List.length hpre.out; simpa [beB_len] using this
    have hz := hB.size
    have HLP := Lib.hid hlp
    clear hlp
    rcases k with _ | k
    · go_wp2
      go_ret
      refine ⟨_, rfl, ?_, hB⟩
      have := hpre.out
      simp only [beB, List.append_nil] at this
      rw [← this]; exact hO
    · have hs : (k : Int) + 1 - 1 = (k : Int) := by omega
      have hs2 : (((k + 1 : Nat) : Int) - 1) = (k : Int) := by omega
      rw [hs2]
      clear hs hs2
      go_wp2_with (at_builtin; refine wpList_app_bs _ rfl (.tmp 21) (.tmp 27) rfl w.heap.size _ _ rfl (hO.alloc _) _ [x / 2 ^ (8 * k) % 256] rfl (Sl.one _ _ _) (by have := HLP.out; simp; omega) (by simp; omega) ?_; intro v2 w2 hO2 hg2; have hB2 := (hO.alloc (.cells #[.int .u8 (x / 2 ^ (8 * k) % 256)] 5)).below_grown (hB.alloc hz _) (by simp; omega) hg2)
      go_roundw
      case rel =>
        refine ⟨k, by omega, rfl, pre ++ [x / 2 ^ (8 * k) % 256], ?_, by rw [← List.append_assoc]; exact hO2, hB2⟩
        show _ = _
        rw [← hpre.out, List.append_assoc]; rfl
      case measure => simp [intOf]

set_option maxHeartbeats 1000000 in
theorem rappendUint_any (l : List Int) (v : Value) (x n : Int) (w : World) (h : Bs w v l) (hx : U64 x) (h0 : 1 ≤ n) (h1 : n ≤ 8) (hl : l.length ≤ 140737488355320) :
    Calls Try.prog 179 #[v, .int .u64 x, .int .i64 n] w fun e w' => ∃ v', e = .returned v' ∧ OwB w' w.heap.size v' (l ++ beB x n.toNat) ∧ Below w.heap.size w w' := by
  obtain ⟨n, rfl⟩ := Int.eq_ofNat_of_zero_le (show 0 ≤ n by omega)
  have hnp : 0 < n := by omega
  obtain ⟨_, _⟩ := hx
  simp only [Int.toNat_natCast]
  have HS := Lib.hid h
  clear h
  go_enter Try.func179, Try.ntmps179
  go_wp2_with (at_builtin; refine wpList_app_bs _ rfl (.tmp 9) (.tmp 10) rfl w.heap.size _ [] rfl (OwB.empty _ _ (Nat.le_refl _)) _ l rfl (HS.out.1.below (below1 _ _)) (by simp; omega) (by simp) ?_; intro v1 w1 hO1 hg1; have hB1 := (OwB.empty w w.heap.size (Nat.le_refl _)).below_grown (below1 w _) (by simp) hg1)
  go_loopw [7, 8] (fun b i wr => ∃ k : Nat, k ≤ n ∧ i = .int .i64 ((k : Int) - 1) ∧ ∃ pre, Hid (pre ++ beB x k = beB x n) ∧ OwB wr w.heap.size b (l ++ pre) ∧ Below w.heap.size w wr) (fun _ i _ => ((intOf i) + 1).toNat)
  case atStart => exact ⟨n, Nat.le_refl _, rfl, [], rfl, by simpa using hO1, hB1⟩
  case round =>
    obtain ⟨k, hk, rfl, pre, hpre, hO, hB⟩ := hrel
    have hlp : pre.length + k = n := by have := congrArg List.length hpre.out; simpa [beB_len] using this
    have hz := hB.size
    have HLP := Lib.hid hlp
    clear hlp
    rcases k with _ | k
    · go_wp2
      go_ret
      refine ⟨_, rfl, ?_, hB⟩
      have := hpre.out
      simp only [beB, List.append_nil] at this
      rw [← this]; exact hO
    · have hs : (k : Int) + 1 - 1 = (k : Int) := by omega
      have hs2 : (((k + 1 : Nat) : Int) - 1) = (k : Int) := by omega
      rw [hs2]
      clear hs hs2
      go_wp2_with (at_builtin; refine wpList_app_bs _ rfl (.tmp 20) (.tmp 27) rfl w.heap.size _ _ rfl (hO.alloc _) _ [x / 2 ^ (8 * k) % 256] rfl (Sl.one _ _ _) (by have := HLP.out; simp; omega) (by simp; omega) ?_; intro v2 w2 hO2 hg2; have hB2 := (hO.alloc (.cells #[.int .u8 (x / 2 ^ (8 * k) % 256)] 5)).below_grown (hB.alloc hz _) (by simp; omega) hg2)
      go_roundw
      case rel =>
        refine ⟨k, by omega, rfl, pre ++ [x / 2 ^ (8 * k) % 256], ?_, by rw [← List.append_assoc]; exact hO2, hB2⟩
        show _ = _
        rw [← hpre.out, List.append_assoc]; rfl
      case measure => simp [intOf]
end
section
open Go.RowKit

/-- A byte string with its length. -/
def strB (p : List Int) : List Int := beB p.length 2 ++ p
theorem strB_len (p : List Int) : (strB p).length = 2 + p.length := by simp [strB, beB_len]
theorem strB_byt {p : List Int} (h : Byt p) : Byt (strB p) := (beB_byt _ _).append h

set_option maxHeartbeats 1000000 in
theorem appendBytes_any (l p : List Int) (v u : Value) (w : World) (h : Bs w v l) (k : Bs w u p) (hp : p.length ≤ 65535) (hl : l.length ≤ 1000000000) :
    Calls Try.prog 100 #[v, u] w fun e w' => ∃ v', e = .returned (.tuple #[v', .bool true]) ∧ OwB w' w.heap.size v' (l ++ strB p) ∧ Below w.heap.size w w' := by
  have HS := Lib.hid h
  have HU := Lib.hid k
  obtain ⟨a, cap, rfl, hnc, hcm, _, _, _, hc⟩ := id k.1
  clear hc h k
  unfold maxLen at hcm
  go_enter Try.func100, Try.ntmps100
  go_wp2_with (first
    | (go_at_call 94; refine (appendUint_any l _ p.length 2 _ HS.out ⟨by omega, by omega⟩ (by omega) (by omega) (by omega)).mono ?_; rintro e w1 ⟨v1, rfl, hO1, hB1⟩)
    | (at_builtin; refine wpList_app_bs _ rfl (.tmp 13) (.tmp 14) rfl w.heap.size _ _ rfl hO1 _ p rfl (HU.out.1.below hB1) (by have := beB_len p.length 2; simp; omega) hB1.size ?_; intro v2 w2 hO2 hg2; have hB2 := hO1.below_grown hB1 hB1.size hg2))
  go_ret2
  exact ⟨_, rfl, by rw [strB, ← List.append_assoc]; exact hO2, hB2⟩

set_option maxHeartbeats 1000000 in
theorem rappendBytes_any (l p : List Int) (v u : Value) (w : World) (h : Bs w v l) (k : Bs w u p) (hp : p.length ≤ 65535) (hl : l.length ≤ 1000000000) :
    Calls Try.prog 180 #[v, u] w fun e w' => ∃ v', e = .returned (.tuple #[v', .bool true]) ∧ OwB w' w.heap.size v' (l ++ strB p) ∧ Below w.heap.size w w' := by
  have HS := Lib.hid h
  have HU := Lib.hid k
  obtain ⟨a, cap, rfl, hnc, hcm, _, _, _, hc⟩ := id k.1
  clear hc h k
  unfold maxLen at hcm
  go_enter Try.func180, Try.ntmps180
  go_wp2_with (first
    | (go_at_call 179; refine (rappendUint_any l _ p.length 2 _ HS.out ⟨by omega, by omega⟩ (by omega) (by omega) (by omega)).mono ?_; rintro e w1 ⟨v1, rfl, hO1, hB1⟩)
    | (at_builtin; refine wpList_app_bs _ rfl (.tmp 13) (.tmp 14) rfl w.heap.size _ _ rfl hO1 _ p rfl (HU.out.1.below hB1) (by have := beB_len p.length 2; simp; omega) hB1.size ?_; intro v2 w2 hO2 hg2; have hB2 := hO1.below_grown hB1 hB1.size hg2))
  go_ret2
  exact ⟨_, rfl, by rw [strB, ← List.append_assoc]; exact hO2, hB2⟩

/-- A slice of a slice that has elements. -/
theorem Sl.cutAt {w : World} {b o cap : Nat} {l : List Int} (h : Sl w (.slice (some ⟨b, o, none⟩) l.length cap) 1 l.length (bsv l)) (p n : Nat) (_hn : 0 < n) (hp : p + n ≤ l.length) :
    Sl w (.slice (some ⟨b, o + p, none⟩) n (cap - p)) 1 (cut l p n).length (bsv (cut l p n)) := by
  obtain ⟨a, cap', h1, h2, h3, h0, h4, h5, h6⟩ := id h
  cases h1
  rw [cut_len l p n hp]
  refine ⟨_, _, rfl, by omega, Nat.le_trans (Nat.sub_le _ _) h3, (fun e => by cases e), by omega, by rw [bsv_length, cut_len l p n hp]; omega, fun _ => ⟨b, o + p, rfl, fun j hj => ?_⟩⟩
  have := h.cell (by omega) (p + j) (by omega)
  rw [← Nat.add_assoc] at this
  rw [this, bsv_get (by omega), bsv_get (by rw [cut_len l p n hp]; omega)]
  unfold cut
  rw [List.getD_eq_getElem?_getD, List.getD_eq_getElem?_getD, List.getElem?_take, if_pos (by omega), List.getElem?_drop]
theorem Sl.empty (w : World) (a : Addr) (cap : Nat) (h : cap ≤ maxLen) : Sl w (.slice (some a) 0 cap) 1 0 (bsv []) :=
  ⟨_, _, rfl, Nat.zero_le _, h, (fun e => by cases e), by omega, rfl, fun e => absurd e (by omega)⟩
theorem cut_zero (l : List Int) (p : Nat) : cut l p 0 = [] := by simp [cut]
theorem numOf2_bd {l : List Int} (h : Byt l) (p : Nat) (hp : p + 2 ≤ l.length) : 0 ≤ numOf (cut l p 2) ∧ numOf (cut l p 2) < 65536 := by
  have := numOf_bd _ (cut_byt h p 2)
  rw [cut_len _ _ _ hp] at this
  exact ⟨this.1, by simpa using this.2⟩

theorem Sl.le {w : World} {v : Value} {sz n : Nat} {cs : List Value} (h : Sl w v sz n cs) : n ≤ 140737488355328 := by obtain ⟨_, _, _, _, _, _, h, _⟩ := h; exact h
set_option maxHeartbeats 1000000 in
theorem bytes_yes (l : List Int) (v : Value) (p : Int) (w : World) (h : Bs w v l) (h0 : 0 ≤ p) (h2 : p + 2 ≤ l.length) (h3 : p + 2 + numOf (cut l p.toNat 2) ≤ l.length) :
    Calls Try.prog 181 #[v, .int .i64 p] w fun e w' => ∃ v', e = .returned (.tuple #[v', .int .i64 (p + 2 + numOf (cut l p.toNat 2)), .bool true]) ∧ OwB w' w.heap.size v' (cut l (p.toNat + 2) (numOf (cut l p.toNat 2)).toNat) ∧ Below w.heap.size w w' := by
  obtain ⟨p, rfl⟩ := Int.eq_ofNat_of_zero_le h0
  simp only [Int.toNat_natCast] at h3 ⊢
  have HS := Lib.hid h
  obtain ⟨k0, _⟩ := numOf2_bd h.2 p (by omega)
  obtain ⟨a, cap, rfl, hnc, hcm, _, _, _, hc⟩ := id h.1
  obtain ⟨b, o, rfl, _⟩ := hc (by omega)
  clear hc h
  unfold maxLen at hcm
  obtain ⟨n, hn⟩ := Int.eq_ofNat_of_zero_le k0
  rw [hn] at h3 ⊢
  simp only [Int.toNat_natCast]
  have HN := Lib.hid hn
  clear k0
  have hu := uint_yes l _ p 2 w HS.out (by omega) (by omega) (by omega) (by omega)
  rw [show ((2 : Int)).toNat = 2 from rfl, Int.toNat_natCast, HN.out] at hu
  have HU := Lib.hid hu
  clear hu
  rcases Nat.eq_zero_or_pos n with rfl | hnp
  · clear hn
    go_enter Try.func181, Try.ntmps181
    go_wp2_with (first
      | (go_at_call 78; refine HU.out.mono ?_; rintro e w1 ⟨rfl, rfl⟩)
      | (go_at_call 149; refine (follow_yes l _ _ _ _ HS.out (by omega) (by omega) (by omega)).mono ?_; rintro e w1 ⟨rfl, rfl⟩))
    all_goals
      go_ret3
      exact ⟨.slice none 0 0, by simp, by rw [cut_zero]; exact OwB.nil _ _, Below.refl _ _⟩
  · have hcut := Sl.cutAt HS.out.1 (p + 2) n hnp (by omega)
    have hcl := cut_len l (p + 2) n (by omega)
    have HCUT := Lib.hid hcut
    have HCL := Lib.hid hcl
    clear hcut hcl hn
    go_enter Try.func181, Try.ntmps181
    go_wp2_with (first
      | (go_at_call 78; refine HU.out.mono ?_; rintro e w1 ⟨rfl, rfl⟩)
      | (go_at_call 149; refine (follow_yes l _ _ _ _ HS.out (by omega) (by omega) (by omega)).mono ?_; rintro e w1 ⟨rfl, rfl⟩)
      | (at_builtin; refine wpList_app_bs _ rfl (.const (.slice none 0 0)) (.tmp 36) rfl w.heap.size _ [] rfl (OwB.nil _ _) _ (cut l (p + 2) n) ?hx (HCUT.out.below (Below.refl _ _)) (by have := HCL.out; simp; omega) (Nat.le_refl _) ?_; rotate_left; intro v2 w2 hO2 hg2; have hB2 := (OwB.nil w w.heap.size).below_grown (Below.refl _ _) (Nat.le_refl _) hg2))
    case hx => simp [Act.eval]
    go_ret3
    exact ⟨_, rfl, hO2, hB2⟩

set_option maxHeartbeats 1000000 in
theorem rbytes_yes (l : List Int) (v : Value) (p : Int) (w : World) (h : Bs w v l) (h0 : 0 ≤ p) (h2 : p + 2 ≤ l.length) (h3 : p + 2 + numOf (cut l p.toNat 2) ≤ l.length) :
    Calls Try.prog 191 #[v, .int .i64 p] w fun e w' => ∃ v', e = .returned (.tuple #[v', .int .i64 (p + 2 + numOf (cut l p.toNat 2)), .bool true]) ∧ OwB w' w.heap.size v' (cut l (p.toNat + 2) (numOf (cut l p.toNat 2)).toNat) ∧ Below w.heap.size w w' := by
  obtain ⟨p, rfl⟩ := Int.eq_ofNat_of_zero_le h0
  simp only [Int.toNat_natCast] at h3 ⊢
  have HS := Lib.hid h
  obtain ⟨k0, _⟩ := numOf2_bd h.2 p (by omega)
  obtain ⟨a, cap, rfl, hnc, hcm, _, _, _, hc⟩ := id h.1
  obtain ⟨b, o, rfl, _⟩ := hc (by omega)
  clear hc h
  unfold maxLen at hcm
  obtain ⟨n, hn⟩ := Int.eq_ofNat_of_zero_le k0
  rw [hn] at h3 ⊢
  simp only [Int.toNat_natCast]
  have HN := Lib.hid hn
  clear k0
  have hu := ruint_yes l _ p 2 w HS.out (by omega) (by omega) (by omega) (by omega)
  rw [show ((2 : Int)).toNat = 2 from rfl, Int.toNat_natCast, HN.out] at hu
  have HU := Lib.hid hu
  clear hu
  rcases Nat.eq_zero_or_pos n with rfl | hnp
  · clear hn
    go_enter Try.func191, Try.ntmps191
    go_wp2_with (first
      | (go_at_call 160; refine HU.out.mono ?_; rintro e w1 ⟨rfl, rfl⟩))
    all_goals
      go_ret3
      exact ⟨.slice (some ⟨w.heap.size, 0, none⟩) 0 0, by simp, by rw [cut_zero]; exact OwB.empty _ _ (Nat.le_refl _), below1 _ _⟩
  · have hcut := Sl.cutAt HS.out.1 (p + 2) n hnp (by omega)
    have hcl := cut_len l (p + 2) n (by omega)
    have HCUT := Lib.hid hcut
    have HCL := Lib.hid hcl
    clear hcut hcl hn
    go_enter Try.func191, Try.ntmps191
    go_wp2_with (first
      | (go_at_call 160; refine HU.out.mono ?_; rintro e w1 ⟨rfl, rfl⟩)
      | (at_builtin; refine wpList_app_bs _ rfl (.tmp 33) (.tmp 38) rfl w.heap.size _ [] rfl (OwB.empty _ _ (Nat.le_refl _)) _ (cut l (p + 2) n) ?hx (HCUT.out.below (below1 _ _)) (by have := HCL.out; simp; omega) (by simp) ?_; rotate_left; intro v2 w2 hO2 hg2; have hB2 := (OwB.empty w w.heap.size (Nat.le_refl _)).below_grown (below1 w _) (by simp) hg2))
    case hx => simp [Act.eval]
    go_ret3
    exact ⟨_, rfl, hO2, hB2⟩

theorem bytes_no1 (l : List Int) (v : Value) (p : Int) (w : World) (h : Bs w v l) (h0 : 0 ≤ p) (h00 : p ≤ 140737488355328) (h2 : ¬ p + 2 ≤ l.length) :
    Calls Try.prog 181 #[v, .int .i64 p] w fun e w' => e = .returned (.tuple #[.slice none 0 0, .int .i64 0, .bool false]) ∧ w = w' := by
  have HS := Lib.hid h
  have H2 := Lib.hid h2
  clear h h2
  go_enter Try.func181, Try.ntmps181
  go_wp2_with (go_at_call 78; refine (uint_no l _ _ _ _ HS.out (by omega) (by omega) (by omega) (by omega) H2.out).mono ?_; rintro e w1 ⟨rfl, rfl⟩)
  go_ret3
  exact ⟨rfl, rfl⟩
theorem bytes_no2 (l : List Int) (v : Value) (p : Int) (w : World) (h : Bs w v l) (h0 : 0 ≤ p) (h2 : p + 2 ≤ l.length) (h3 : ¬ p + 2 + numOf (cut l p.toNat 2) ≤ l.length) :
    Calls Try.prog 181 #[v, .int .i64 p] w fun e w' => e = .returned (.tuple #[.slice none 0 0, .int .i64 0, .bool false]) ∧ w = w' := by
  obtain ⟨p, rfl⟩ := Int.eq_ofNat_of_zero_le h0
  simp only [Int.toNat_natCast] at h3
  have HS := Lib.hid h
  obtain ⟨k0, k1⟩ := numOf2_bd h.2 p (by omega)
  have hl := h.1.le
  have hu := uint_yes l _ p 2 w HS.out (by omega) (by omega) (by omega) (by omega)
  rw [show ((2 : Int)).toNat = 2 from rfl, Int.toNat_natCast] at hu
  generalize numOf (cut l p 2) = n at *
  have HU := Lib.hid hu
  have H3 := Lib.hid h3
  clear hu h3 h
  go_enter Try.func181, Try.ntmps181
  go_wp2_with (first
    | (go_at_call 78; refine HU.out.mono ?_; rintro e w1 ⟨rfl, rfl⟩)
    | (go_at_call 149; refine (follow_no l _ _ _ _ HS.out (by omega) (by omega) (by have := H3.out; omega) (by omega) (by omega)).mono ?_; rintro e w1 ⟨rfl, rfl⟩))
  go_ret3
  exact ⟨rfl, rfl⟩
theorem rbytes_no1 (l : List Int) (v : Value) (p : Int) (w : World) (h : Bs w v l) (h0 : 0 ≤ p) (h00 : p ≤ 140737488355328) (h2 : ¬ p + 2 ≤ l.length) :
    Calls Try.prog 191 #[v, .int .i64 p] w fun e w' => e = .returned (.tuple #[.slice none 0 0, .int .i64 0, .bool false]) ∧ w = w' := by
  have HS := Lib.hid h
  have H2 := Lib.hid h2
  clear h h2
  go_enter Try.func191, Try.ntmps191
  go_wp2_with (go_at_call 160; refine (ruint_no l _ _ _ _ HS.out (by omega) (by omega) (by omega) (by omega) H2.out).mono ?_; rintro e w1 ⟨rfl, rfl⟩)
  go_ret3
  exact ⟨rfl, rfl⟩
theorem rbytes_no2 (l : List Int) (v : Value) (p : Int) (w : World) (h : Bs w v l) (h0 : 0 ≤ p) (h2 : p + 2 ≤ l.length) (h3 : ¬ p + 2 + numOf (cut l p.toNat 2) ≤ l.length) :
    Calls Try.prog 191 #[v, .int .i64 p] w fun e w' => e = .returned (.tuple #[.slice none 0 0, .int .i64 0, .bool false]) ∧ w = w' := by
  obtain ⟨p, rfl⟩ := Int.eq_ofNat_of_zero_le h0
  simp only [Int.toNat_natCast] at h3
  have HS := Lib.hid h
  obtain ⟨k0, k1⟩ := numOf2_bd h.2 p (by omega)
  have hu := ruint_yes l _ p 2 w HS.out (by omega) (by omega) (by omega) (by omega)
  rw [show ((2 : Int)).toNat = 2 from rfl, Int.toNat_natCast] at hu
  generalize numOf (cut l p 2) = n at *
  have HU := Lib.hid hu
  have h3' : (l.length : Int) - (p : Int) - 2 < n := by omega
  obtain ⟨a, cap, rfl, hnc, hcm, _, hl, _, hc⟩ := id h.1
  clear hu h3 h hc
  go_enter Try.func191, Try.ntmps191
  go_wp2_with (go_at_call 160; refine HU.out.mono ?_; rintro e w1 ⟨rfl, rfl⟩)
  go_ret3
  exact ⟨rfl, rfl⟩
end
end Go.Proofs.Ytilhceihelcdgaa
