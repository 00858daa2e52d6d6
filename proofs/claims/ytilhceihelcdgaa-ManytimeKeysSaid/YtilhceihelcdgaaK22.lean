/-
  The walk of the law on Sign and Public.
-/
import Derived.Test.YtilhceihelcdgaaK21
import Derived.Test.YtilhceihelcdgaaK15
import Derived.Laws.BytesArg
namespace Go.Proofs.Ytilhceihelcdgaa
open Go.RowKit

theorem un_string : Try.prog.underlying 9 = some .string := by kernel_rfl
theorem str_nil (w : World) : (convert 22 9 (.slice none 0 0)).run Try.prog w = .ok (.string ByteArray.empty) w := run_convert_bytes_nil w _ _ un_bytes un_u8 0 0 _ un_string
theorem Bs.str {w : World} {v : Value} {l : List Int} (h : Bs w v l) : (convert 22 9 v).run Try.prog w = .ok (.string (strOfNums l)) w := by
  obtain ⟨a, cap, rfl, h2, h3, h0, h4, h5, h6⟩ := h.1
  rcases Nat.eq_zero_or_pos l.length with hl | hl
  · obtain rfl := List.eq_nil_of_length_eq_zero hl
    cases a with
    | none => exact run_convert_bytes_nil w _ _ un_bytes un_u8 _ _ _ un_string
    | some a => 
      obtain ⟨b, o, t⟩ := a
      rw [run_convert_bytes_string w _ _ _ _ _ _ un_bytes un_u8 un_string, run_bytesToString w _ _ _ [] (by simp [loadCells, loadCellsFrom])]
      rfl
  · obtain ⟨b, o, rfl, hc⟩ := h6 hl
    refine run_convert_bytes_arg w _ _ un_bytes un_u8 b o _ _ l rfl (fun i hi => ?_) _ un_string
    rw [hc i (by omega), bsv_get hi]
theorem capOf_cases {l j : Int} (h0 : 0 ≤ j) (h : j < capOf l) : l = 1 ∨ l = 2 := by
  rcases capOf_yes h0 h with ⟨h, _⟩ | ⟨h, _⟩
  · exact .inl h
  · exact .inr h

set_option maxRecDepth 100000 in
set_option maxHeartbeats 16000000 in
theorem signs_yes (x : List Int) (lv lf : Int) (m : List Int) (w : World) (hx : IsN x) (hlv : -9223372036854775808 ≤ lv ∧ lv ≤ 9223372036854775807) (hm : IsN m) (h0 : 0 ≤ lf) (h1 : lf < capOf lv) :
    Calls Try.prog 5 #[nv x, .int .i64 lv, .int .i64 lf, nv m] w fun e w' => e = .returned (.bool true) ∧ Below w.heap.size w w' := by
  have HX := Lib.hid hx
  have HMN := Lib.hid hm
  have HSB := Lib.hid (msig_byt x lv lf.toNat m)
  have hsl := msig_len x lv lf.toNat m (capOf_cases h0 h1)
  have HSP := Lib.hid (show 0 < (msig x lv lf.toNat m).length by rcases capOf_cases h0 h1 with rfl | rfl <;> simp [sizeOf] at hsl <;> omega)
  have HSL := Lib.hid (show (msig x lv lf.toNat m).length ≤ 1000 by rcases capOf_cases h0 h1 with rfl | rfl <;> simp [sizeOf] at hsl <;> omega)
  have MS := Lib.hid (fun w => msign_yes x m lv lf w hx hm (capOf_cases h0 h1) ⟨h0, h1⟩)
  have RS := Lib.hid (fun w => rsign_yes x m lv lf w hx hm h0 h1)
  generalize msig x lv lf.toNat m = s at *
  have PA := Lib.hid (fun w => Calls.lit8 (mpublic_any x lv w hx hlv) (mpub_isN x lv).1)
  have PB := Lib.hid (fun w => Calls.lit8 (rpublic2_any x lv w hx) (mpub_isN x lv).1)
  generalize mpub x lv = pp at *
  obtain ⟨x0, x1, x2, x3, x4, x5, x6, x7, rfl, _⟩ := hx.cases
  clear hx hm h0 h1 hsl
  go_enter Try.func5, Try.ntmps5
  go_wp2_with (first
    | (refine wpList_box_name rfl (.tmp 0) rfl [x0, x1, x2, x3, x4, x5, x6, x7] rfl ?_; intro w1 hX1 hB1 hs1)
    | (refine wpList_box_name rfl (.tmp 3) rfl m rfl ?_; intro w2 hM2 hB2 hs2; refine hold ?_))
  refine Lib.hid ?_
  rw [hs1] at hM2
  have hX2 := hX1.below hB2 (by omega)
  have hV2 := hB1.trans (hB2.mono (by omega))
  clear hX1 hB1 hB2 hs1 hs2
  go_upto_region 3 with (first
    | (refine wpList_load_name _ rfl (.tmp 4) rfl w.heap.size rfl _ _ hX3 HX.out.1 ?_)
    | (refine wpList_load_name _ rfl (.tmp 7) rfl (w.heap.size + 1) rfl _ _ hM3 HMN.out.1 ?_)
    | (refine wpList_load_name _ rfl (.tmp 4) rfl w.heap.size rfl _ _ hX2 HX.out.1 ?_)
    | (refine wpList_load_name _ rfl (.tmp 7) rfl (w.heap.size + 1) rfl _ _ hM2 HMN.out.1 ?_)
    | (go_at_call 30; refine (MS.out _).mono ?_; rintro e w3 ⟨v3, rfl, hS3, hB3⟩; obtain ⟨b3, c3, rfl, hb3, hl3⟩ := World.ownsRow.form hS3 HSP.out; have hV3 := hV2.trans (hB3.mono hV2.size); have hX3 := hX2.below hB3 hX2.lt; have hM3 := hM2.below hB3 hM2.lt)
    | (go_at_call 26; refine (RS.out _).mono ?_; rintro e w4 ⟨v4, rfl, hS4, hB4⟩; obtain ⟨b4, c4, rfl, hb4, hl4⟩ := World.ownsRow.form hS4 HSP.out))
  have hX4 := hX3.below hB4 hX3.lt
  have hV4 := hV3.trans (hB4.mono hV3.size)
  have hS3b := Lib.hid ((hS3.bs (by have := HSL.out; omega) HSB.out).below hB4)
  have hS4b := Lib.hid (hS4.bs (by have := HSL.out; omega) HSB.out)
  clear hS3 hS4
  clear hX2 hX3 hM2 hM3 hB3 hV3 hB4
  generalize w4 = W at *
  have SO : Hid (∀ w' : World, Below W.heap.size W w' → (w'.cell? ⟨w.heap.size, 0, none⟩ = some (.int .u8 x0) ∧ w'.cell? ⟨w.heap.size, 1, none⟩ = some (.int .u8 x1) ∧ w'.cell? ⟨w.heap.size, 2, none⟩ = some (.int .u8 x2) ∧ w'.cell? ⟨w.heap.size, 3, none⟩ = some (.int .u8 x3) ∧ w'.cell? ⟨w.heap.size, 4, none⟩ = some (.int .u8 x4) ∧ w'.cell? ⟨w.heap.size, 5, none⟩ = some (.int .u8 x5) ∧ w'.cell? ⟨w.heap.size, 6, none⟩ = some (.int .u8 x6) ∧ w'.cell? ⟨w.heap.size, 7, none⟩ = some (.int .u8 x7)) ∧ (convert 22 9 (.slice (some ⟨b3, 0, none⟩) s.length c3)).run Try.prog w' = .ok (.string (strOfNums s)) w' ∧ (convert 22 9 (.slice (some ⟨b4, 0, none⟩) s.length c4)).run Try.prog w' = .ok (.string (strOfNums s)) w') := fun w' h =>
    ⟨⟨(hX4.below h hX4.lt).cell 0, (hX4.below h hX4.lt).cell 1, (hX4.below h hX4.lt).cell 2, (hX4.below h hX4.lt).cell 3, (hX4.below h hX4.lt).cell 4, (hX4.below h hX4.lt).cell 5, (hX4.below h hX4.lt).cell 6, (hX4.below h hX4.lt).cell 7⟩, (hS3b.out.below h).str, (hS4b.out.below h).str⟩
  have qE := run_eq_name8
  clear hX4
  go_region_held3 (fun w' => (w'.cell? ⟨w.heap.size, 0, none⟩ = some (.int .u8 x0) ∧ w'.cell? ⟨w.heap.size, 1, none⟩ = some (.int .u8 x1) ∧ w'.cell? ⟨w.heap.size, 2, none⟩ = some (.int .u8 x2) ∧ w'.cell? ⟨w.heap.size, 3, none⟩ = some (.int .u8 x3) ∧ w'.cell? ⟨w.heap.size, 4, none⟩ = some (.int .u8 x4) ∧ w'.cell? ⟨w.heap.size, 5, none⟩ = some (.int .u8 x5) ∧ w'.cell? ⟨w.heap.size, 6, none⟩ = some (.int .u8 x6) ∧ w'.cell? ⟨w.heap.size, 7, none⟩ = some (.int .u8 x7)) ∧ (convert 22 9 (.slice (some ⟨b3, 0, none⟩) s.length c3)).run Try.prog w' = .ok (.string (strOfNums s)) w' ∧ (convert 22 9 (.slice (some ⟨b4, 0, none⟩) s.length c4)).run Try.prog w' = .ok (.string (strOfNums s)) w')
    ((refine SO.out _ ?_; first | exact hV6 | exact hV5 | exact (Below.refl _ _).drew))
    (first
      | (go_at_call 31; refine (PA.out _).mono ?_; rintro e w5 ⟨p0, p1, p2, p3, p4, p5, p6, p7, rfl, HP1, hB5⟩; have hV5 : Below W.heap.size W w5 := (Below.refl _ _).drew.trans (hB5.mono (by first | omega | (simp; omega) | (simp; done))))
      | (go_at_call 27; refine (PB.out _).mono ?_; rintro e w6 ⟨q0, q1, q2, q3, q4, q5, q6, q7, rfl, HP2, hB6⟩; have hV6 : Below W.heap.size W w6 := hV5.trans (hB6.mono hV5.size); have hpq := HP1.out.symm.trans HP2.out; simp only [List.cons.injEq, and_true] at hpq; obtain ⟨rfl, rfl, rfl, rfl, rfl, rfl, rfl, rfl⟩ := hpq)
      | (go_at_call 25; refine (awake5 _).mono ?_; rintro e w7 ⟨rfl, rfl⟩))
  all_goals
    go_wp2
    go_ret
    exact ⟨rfl, hV4.trans (hV6.mono hV4.size)⟩

set_option maxRecDepth 100000 in
set_option maxHeartbeats 16000000 in
theorem signs_no (x : List Int) (lv lf : Int) (m : List Int) (w : World) (hx : IsN x) (hlv : -9223372036854775808 ≤ lv ∧ lv ≤ 9223372036854775807) (hm : IsN m) (hj : ¬ (0 ≤ lf ∧ lf < capOf lv)) :
    Calls Try.prog 5 #[nv x, .int .i64 lv, .int .i64 lf, nv m] w fun e w' => e = .returned (.bool true) ∧ Below w.heap.size w w' := by
  have HX := Lib.hid hx
  have HMN := Lib.hid hm
  have MS := Lib.hid (fun w => msign_no x m lv lf w hx hm hlv hj)
  have RS := Lib.hid (fun w => rsign_no x m lv lf w hx hm hj)
  have PA := Lib.hid (fun w => Calls.lit8 (mpublic_any x lv w hx hlv) (mpub_isN x lv).1)
  have PB := Lib.hid (fun w => Calls.lit8 (rpublic2_any x lv w hx) (mpub_isN x lv).1)
  generalize mpub x lv = pp at *
  obtain ⟨x0, x1, x2, x3, x4, x5, x6, x7, rfl, _⟩ := hx.cases
  clear hx hm hj
  go_enter Try.func5, Try.ntmps5
  go_wp2_with (first
    | (refine wpList_box_name rfl (.tmp 0) rfl [x0, x1, x2, x3, x4, x5, x6, x7] rfl ?_; intro w1 hX1 hB1 hs1)
    | (refine wpList_box_name rfl (.tmp 3) rfl m rfl ?_; intro w2 hM2 hB2 hs2; refine hold ?_))
  refine Lib.hid ?_
  rw [hs1] at hM2
  have hX2 := hX1.below hB2 (by omega)
  have hV2 := hB1.trans (hB2.mono (by omega))
  clear hX1 hB1 hB2 hs1 hs2
  go_upto_region 3 with (first
    | (refine wpList_load_name _ rfl (.tmp 4) rfl w.heap.size rfl _ _ hX3 HX.out.1 ?_)
    | (refine wpList_load_name _ rfl (.tmp 7) rfl (w.heap.size + 1) rfl _ _ hM3 HMN.out.1 ?_)
    | (refine wpList_load_name _ rfl (.tmp 4) rfl w.heap.size rfl _ _ hX2 HX.out.1 ?_)
    | (refine wpList_load_name _ rfl (.tmp 7) rfl (w.heap.size + 1) rfl _ _ hM2 HMN.out.1 ?_)
    | (go_at_call 30; refine (MS.out _).mono ?_; rintro e w3 ⟨rfl, hB3⟩; have hV3 := hV2.trans (hB3.mono hV2.size); have hX3 := hX2.below hB3 hX2.lt; have hM3 := hM2.below hB3 hM2.lt)
    | (go_at_call 26; refine (RS.out _).mono ?_; rintro e w4 ⟨rfl, hB4⟩))
  have hX4 := hX3.below hB4 hX3.lt
  have hV4 := hV3.trans (hB4.mono hV3.size)
  skip
  clear hX2 hX3 hM2 hM3 hB3 hV3 hB4
  generalize w4 = W at *
  have SO : Hid (∀ w' : World, Below W.heap.size W w' → (w'.cell? ⟨w.heap.size, 0, none⟩ = some (.int .u8 x0) ∧ w'.cell? ⟨w.heap.size, 1, none⟩ = some (.int .u8 x1) ∧ w'.cell? ⟨w.heap.size, 2, none⟩ = some (.int .u8 x2) ∧ w'.cell? ⟨w.heap.size, 3, none⟩ = some (.int .u8 x3) ∧ w'.cell? ⟨w.heap.size, 4, none⟩ = some (.int .u8 x4) ∧ w'.cell? ⟨w.heap.size, 5, none⟩ = some (.int .u8 x5) ∧ w'.cell? ⟨w.heap.size, 6, none⟩ = some (.int .u8 x6) ∧ w'.cell? ⟨w.heap.size, 7, none⟩ = some (.int .u8 x7)) ∧ (convert 22 9 (.slice none 0 0)).run Try.prog w' = .ok (.string (ByteArray.empty)) w' ∧ (convert 22 9 (.slice none 0 0)).run Try.prog w' = .ok (.string (ByteArray.empty)) w') := fun w' h =>
    ⟨⟨(hX4.below h hX4.lt).cell 0, (hX4.below h hX4.lt).cell 1, (hX4.below h hX4.lt).cell 2, (hX4.below h hX4.lt).cell 3, (hX4.below h hX4.lt).cell 4, (hX4.below h hX4.lt).cell 5, (hX4.below h hX4.lt).cell 6, (hX4.below h hX4.lt).cell 7⟩, str_nil w', str_nil w'⟩
  have qE := run_eq_name8
  clear hX4
  go_region_held3 (fun w' => (w'.cell? ⟨w.heap.size, 0, none⟩ = some (.int .u8 x0) ∧ w'.cell? ⟨w.heap.size, 1, none⟩ = some (.int .u8 x1) ∧ w'.cell? ⟨w.heap.size, 2, none⟩ = some (.int .u8 x2) ∧ w'.cell? ⟨w.heap.size, 3, none⟩ = some (.int .u8 x3) ∧ w'.cell? ⟨w.heap.size, 4, none⟩ = some (.int .u8 x4) ∧ w'.cell? ⟨w.heap.size, 5, none⟩ = some (.int .u8 x5) ∧ w'.cell? ⟨w.heap.size, 6, none⟩ = some (.int .u8 x6) ∧ w'.cell? ⟨w.heap.size, 7, none⟩ = some (.int .u8 x7)) ∧ (convert 22 9 (.slice none 0 0)).run Try.prog w' = .ok (.string (ByteArray.empty)) w' ∧ (convert 22 9 (.slice none 0 0)).run Try.prog w' = .ok (.string (ByteArray.empty)) w')
    ((refine SO.out _ ?_; first | exact hV6 | exact hV5 | exact (Below.refl _ _).drew))
    (first
      | (go_at_call 31; refine (PA.out _).mono ?_; rintro e w5 ⟨p0, p1, p2, p3, p4, p5, p6, p7, rfl, HP1, hB5⟩; have hV5 : Below W.heap.size W w5 := (Below.refl _ _).drew.trans (hB5.mono (by first | omega | (simp; omega) | (simp; done))))
      | (go_at_call 27; refine (PB.out _).mono ?_; rintro e w6 ⟨q0, q1, q2, q3, q4, q5, q6, q7, rfl, HP2, hB6⟩; have hV6 : Below W.heap.size W w6 := hV5.trans (hB6.mono hV5.size); have hpq := HP1.out.symm.trans HP2.out; simp only [List.cons.injEq, and_true] at hpq; obtain ⟨rfl, rfl, rfl, rfl, rfl, rfl, rfl, rfl⟩ := hpq)
      | (go_at_call 25; refine (awake5 _).mono ?_; rintro e w7 ⟨rfl, rfl⟩))
  all_goals
    go_wp2
    go_ret
    exact ⟨rfl, hV4.trans (hV6.mono hV4.size)⟩

theorem signs_walk (x : List Int) (lv lf : Int) (m : List Int) (w : World) (hx : IsN x) (hlv : -9223372036854775808 ≤ lv ∧ lv ≤ 9223372036854775807) (_hlf : -9223372036854775808 ≤ lf ∧ lf ≤ 9223372036854775807) (hm : IsN m) :
    Calls Try.prog 5 #[nv x, .int .i64 lv, .int .i64 lf, nv m] w fun e w' => e = .returned (.bool true) ∧ Below w.heap.size w w' := by
  by_cases hj : 0 ≤ lf ∧ lf < capOf lv
  · exact signs_yes x lv lf m w hx hlv hm hj.1 hj.2
  · exact signs_no x lv lf m w hx hlv hm hj
end Go.Proofs.Ytilhceihelcdgaa
