/-
  The walk of the statement on geneses.
-/
import Derived.Test.YtilhceihelcdgaaG6
namespace Go.Proofs.Ytilhceihelcdgaa
open Go.RowKit

theorem encG_byt {n st : Int} {V A : List (List Int)} {B : List Int} (hV : ∀ x ∈ V, IsN x) (hA : ∀ x ∈ A, IsN x) (hok : GOk n st V A B) : Byt (encG n st V A B) := by
  obtain ⟨⟨hn1, hn7⟩, ⟨hv1, hv10, hnv⟩, ⟨ha1, ha16⟩, hab, hst, hbs⟩ := hok
  exact (((((Byt.append (show Byt [1, n] by intro x hx; simp at hx; omega) (beB_byt _ _)).append (show Byt [(V.length : Int)] by intro x hx; simp at hx; omega)).append (flat_byt hV)).append (show Byt [(A.length : Int)] by intro x hx; simp at hx; omega)).append (range_byt hA A.length (Nat.le_refl _)))
theorem encG_len {n st : Int} {V A : List (List Int)} {B : List Int} (hV : ∀ x ∈ V, IsN x) (hA : ∀ x ∈ A, IsN x) : (encG n st V A B).length = 10 + 8 * V.length + 14 * A.length := by
  have h1 := flat_len8 hV
  have h2 := range_len A B hA A.length (Nat.le_refl _)
  simp only [encG, encGh, List.length_append, List.length_cons, List.length_nil, beB_len, h1, h2]
  omega
theorem encG_kind (n st : Int) (V A : List (List Int)) (B : List Int) : kindOf (encG n st V A B) = 1 := by simp [kindOf, encG, encGh]
set_option maxRecDepth 100000 in
set_option maxHeartbeats 8000000 in
theorem blockGenesis_yes (n st : Int) (V A : List (List Int)) (B : List Int) (a b c : Value) (w : World) (hV : Ns w a V) (hA : Ns w b A) (hB : Ig w c B) (hok : GOk n st V A B) : Calls Try.prog 12 #[.agg (gnv n st a b c).toArray] w fun e w' => e = .returned (.bool true) ∧ Below w.heap.size w w' := by
  have HV := Lib.hid hV
  have HA := Lib.hid hA
  have HB := Lib.hid hB
  have E1 := Lib.hid (fun w h1 h2 h3 => encodeGenesis_yes n st V A B a b c w h1 h2 h3 hok)
  have E2 := Lib.hid (fun w h1 h2 h3 => rencodeGenesis_yes n st V A B a b c w h1 h2 h3 hok)
  have D1 := Lib.hid (fun t w h => decodeGenesis_ok n st V A B t w HV.out.2 HA.out.2 HB.out.2 hok h)
  have S1 := Lib.hid (fun a' b' c' w h1 h2 h3 h4 h5 h6 => rsameGenesis_true n st V A B a' b' c' a b c w h1 h2 h3 h4 h5 h6)
  have HBY := Lib.hid (encG_byt hV.2 hA.2 hok)
  have hlen := encG_len (n := n) (st := st) (B := B) hV.2 hA.2
  have hv10 : V.length ≤ 10 := hok.2.1.2.1
  have ha16 : A.length ≤ 16 := hok.2.2.1.2
  have hb16 : B.length ≤ 16 := by have := hok.2.2.2.1; omega
  have HLE := Lib.hid (show (encG n st V A B).length ≤ 1000 by omega)
  have HKD := Lib.hid (encG_kind n st V A B)
  obtain ⟨a, ka, rfl, hna, hma, _, hla, _, _⟩ := id hV.1
  obtain ⟨b, kb, rfl, hnb, hmb, _, hlb, _, _⟩ := id hA.1
  obtain ⟨c, kc, rfl, hnc, hmc, _, hlc, _, _⟩ := id hB.1
  unfold maxLen at hma hmb hmc
  generalize encG n st V A B = T at *
  have HX := Lib.hid (show ∀ j : Nat, (gnv n st (.slice a V.length ka) (.slice b A.length kb) (.slice c B.length kc)).toArray[j]? = (#[.int .i64 n, .int .i64 st, .slice a V.length ka, .slice b A.length kb, .slice c B.length kc] : Array Value)[j]? from fun _ => rfl)
  generalize hX : (gnv n st (.slice a V.length ka) (.slice b A.length kb) (.slice c B.length kc)).toArray = X at *
  have HXs := Lib.hid (show X.size = 5 by rw [← hX]; rfl)
  clear hV hA hB hok hlen hX
  go_enter Try.func12, Try.ntmps12
  go_wp2_with (first
    | (refine wpList_box_any rfl _ (.tmp 0) rfl X rfl ?_; intro w1 hX1 hB1 hs1; have c2 := hX1.cell 2; have c3 := hX1.cell 3; have c4 := hX1.cell 4; rw [HX.out] at c2 c3 c4; simp at c2 c3 c4)
    | (refine wpList_load_all rfl _ (.tmp 1) rfl w.heap.size rfl _ X (by first | exact hX2 | exact hX1) un_gen (by rw [HXs.out]; exact size_gen) ?_)
    | (go_at_call 49; refine (E1.out _ (HV.out.below hB1) (HA.out.below hB1) (HB.out.below hB1)).mono ?_; rintro e w2 ⟨v1, rfl, hO1, hB2⟩; have hX2 := hX1.below hB2 hX1.lt; have hV2 := hB1.trans (hB2.mono hB1.size))
    | (go_at_call 50; refine (E2.out _ (HV.out.below hV2) (HA.out.below hV2) (HB.out.below hV2)).mono ?_; rintro e w3 ⟨v2, rfl, hO2, hB3⟩; have hX3 := hX2.below hB3 hX2.lt; have hV3 := hV2.trans (hB3.mono hV2.size))
    | (go_at_call 51; refine (D1.out _ _ ((hO1.bs (by have := HLE.out; omega) HBY.out).below hB3)).mono ?_; rintro e w4 ⟨a', b', c', rfl, hq1, hq2, hq3, hB4⟩; have hX4 := hX3.below hB4 hX3.lt; have hV4 := hV3.trans (hB4.mono hV3.size))
    | (refine wpList_store_new rfl _ (.tmp 7) (.tmp 39) rfl w4.heap.size rfl (gnv n st a' b' c') rfl 5 rfl _ _ (Blk.new _ _ _) rfl size_gen (gnv_one n st a' b' c' (by obtain ⟨_, _, rfl, _⟩ := hq1.1; rfl) (by obtain ⟨_, _, rfl, _⟩ := hq2.1; rfl) (by obtain ⟨_, _, rfl, _⟩ := hq3.1; rfl)) ?_; intro w5 hR5 hg5; refine hold ?_))
  refine Lib.hid ?_
  have hB5 := below_new hg5
  have hX5 := hX4.below hB5 hX4.lt
  have hV5 := hV4.trans (hB5.mono hV4.size)
  have b1 := (((hO1.bs (by have := HLE.out; omega) HBY.out).below hB3).below hB4).below hB5
  have b2 := ((hO2.bs (by have := HLE.out; omega) HBY.out).below hB4).below hB5
  have e1 := b1.str
  have e2 := b2.str
  have SB := Lib.hid (S1.out a' b' c' w5 (hq1.below hB5) (hq2.below hB5) (hq3.below hB5) (HV.out.below hV5) (HA.out.below hV5) (HB.out.below hV5))
  have KD := Lib.hid (fun w' (hb : Below w5.heap.size w5 w') => kind_any T v1 w' (b1.below hb))
  rw [HKD.out] at KD
  obtain ⟨a1, k1, rfl, _⟩ := id b1.1
  obtain ⟨a2, k2, rfl, _⟩ := id b2.1
  have HV5 := Lib.hid hV5
  have HX5 := Lib.hid hX5
  have HR5 := Lib.hid hR5
  clear hX1 hB1 hs1 c2 c3 c4 hO1 hB2 hX2 hV2 hO2 hB3 hX3 hV3 hq1 hq2 hq3 hB4 hX4 hV4 hg5 hB5 hX5 hV5 b1 b2 hR5
  generalize strOfNums T = str at *
  go_wp2_with (first
    | (refine wpList_load_all rfl _ (.tmp 7) rfl w4.heap.size rfl _ (gnv n st a' b' c').toArray HR5.out un_gen size_gen ?_)
    | (refine wpList_load_all rfl _ (.tmp 1) rfl w.heap.size rfl _ X HX5.out un_gen (by rw [HXs.out]; exact size_gen) ?_)
    | (go_at_call 52; refine SB.out.mono ?_; rintro e w6 ⟨rfl, hB6⟩)
    | (go_at_call 35; refine (KD.out _ hB6).mono ?_; rintro e w7 ⟨rfl, rfl⟩)
    | (go_at_call 39; refine (awake24 _).mono ?_; rintro e w8 ⟨rfl, hB8⟩))
  go_ret
  exact ⟨rfl, HV5.out.trans ((hB6.trans (hB8.mono hB6.size)).mono HV5.out.size)⟩
set_option maxRecDepth 100000 in
set_option maxHeartbeats 8000000 in
theorem blockGenesis_no (n st : Int) (V A : List (List Int)) (B : List Int) (a b c : Value) (w : World) (hV : Ns w a V) (hA : Ns w b A) (hB : Ig w c B) (hok : ¬ GOk n st V A B) : Calls Try.prog 12 #[.agg (gnv n st a b c).toArray] w fun e w' => e = .returned (.bool true) ∧ Below w.heap.size w w' := by
  have HV := Lib.hid hV
  have HA := Lib.hid hA
  have HB := Lib.hid hB
  have E1 := Lib.hid (fun w h1 h2 h3 => encodeGenesis_no n st V A B a b c w h1 h2 h3 hok)
  have E2 := Lib.hid (fun w h1 h2 h3 => rencodeGenesis_no n st V A B a b c w h1 h2 h3 hok)
  have hN : Hid (∀ w, Bs w (.slice none 0 0) []) := fun w => ⟨⟨none, 0, rfl, by simp, by unfold maxLen; omega, fun _ => rfl, by simp, by simp [bsv], fun h => absurd h (by simp)⟩, fun x hx => by simp at hx⟩
  have D1 := Lib.hid (fun w => decodeGenesis_bad [] (.slice none 0 0) w (hN.out w) (by simp [kindOf]))
  obtain ⟨a, ka, rfl, hna, hma, _, hla, _, _⟩ := id hV.1
  obtain ⟨b, kb, rfl, hnb, hmb, _, hlb, _, _⟩ := id hA.1
  obtain ⟨c, kc, rfl, hnc, hmc, _, hlc, _, _⟩ := id hB.1
  unfold maxLen at hma hmb hmc
  have HX := Lib.hid (show ∀ j : Nat, (gnv n st (.slice a V.length ka) (.slice b A.length kb) (.slice c B.length kc)).toArray[j]? = (#[.int .i64 n, .int .i64 st, .slice a V.length ka, .slice b A.length kb, .slice c B.length kc] : Array Value)[j]? from fun _ => rfl)
  generalize hX : (gnv n st (.slice a V.length ka) (.slice b A.length kb) (.slice c B.length kc)).toArray = X at *
  have HXs := Lib.hid (show X.size = 5 by rw [← hX]; rfl)
  have s0 := str_nil
  clear hV hA hB hok hX
  by_cases q1 : (300 : Int) < V.length
  · have d1 : decide ((300 : Int) < V.length) = true := decide_eq_true q1
    go_enter Try.func12, Try.ntmps12
    go_wp2_with (first
      | (refine wpList_box_any rfl _ (.tmp 0) rfl X rfl ?_; intro w1 hX1 hB1 hs1; have c2 := hX1.cell 2; have c3 := hX1.cell 3; have c4 := hX1.cell 4; rw [HX.out] at c2 c3 c4; simp at c2 c3 c4)
      | (go_at_call 39; refine (awake24 _).mono ?_; rintro e w8 ⟨rfl, hB8⟩))
    go_ret
    exact ⟨rfl, hB1.trans (hB8.mono hB1.size)⟩
  · have d1 : decide ((300 : Int) < V.length) = false := decide_eq_false q1
    by_cases q2 : (300 : Int) < A.length
    · have d2 : decide ((300 : Int) < A.length) = true := decide_eq_true q2
      go_enter Try.func12, Try.ntmps12
      go_wp2_with (first
        | (refine wpList_box_any rfl _ (.tmp 0) rfl X rfl ?_; intro w1 hX1 hB1 hs1; have c2 := hX1.cell 2; have c3 := hX1.cell 3; have c4 := hX1.cell 4; rw [HX.out] at c2 c3 c4; simp at c2 c3 c4)
        | (go_at_call 39; refine (awake24 _).mono ?_; rintro e w8 ⟨rfl, hB8⟩))
      go_ret
      exact ⟨rfl, hB1.trans (hB8.mono hB1.size)⟩
    · have d2 : decide ((300 : Int) < A.length) = false := decide_eq_false q2
      by_cases q3 : (300 : Int) < B.length
      · have d3 : decide ((300 : Int) < B.length) = true := decide_eq_true q3
        go_enter Try.func12, Try.ntmps12
        go_wp2_with (first
          | (refine wpList_box_any rfl _ (.tmp 0) rfl X rfl ?_; intro w1 hX1 hB1 hs1; have c2 := hX1.cell 2; have c3 := hX1.cell 3; have c4 := hX1.cell 4; rw [HX.out] at c2 c3 c4; simp at c2 c3 c4)
          | (go_at_call 39; refine (awake24 _).mono ?_; rintro e w8 ⟨rfl, hB8⟩))
        go_ret
        exact ⟨rfl, hB1.trans (hB8.mono hB1.size)⟩
      · have d3 : decide ((300 : Int) < B.length) = false := decide_eq_false q3
        go_enter Try.func12, Try.ntmps12
        go_wp2_with (first
          | (refine wpList_box_any rfl _ (.tmp 0) rfl X rfl ?_; intro w1 hX1 hB1 hs1; have c2 := hX1.cell 2; have c3 := hX1.cell 3; have c4 := hX1.cell 4; rw [HX.out] at c2 c3 c4; simp at c2 c3 c4)
          | (refine wpList_load_all rfl _ (.tmp 1) rfl w.heap.size rfl _ X (by first | exact hX2 | exact hX1) un_gen (by rw [HXs.out]; exact size_gen) ?_)
          | (go_at_call 49; refine (E1.out _ (HV.out.below hB1) (HA.out.below hB1) (HB.out.below hB1)).mono ?_; rintro e w2 ⟨rfl, hB2⟩; have hX2 := hX1.below hB2 hX1.lt; have hV2 := hB1.trans (hB2.mono hB1.size))
          | (go_at_call 50; refine (E2.out _ (HV.out.below hV2) (HA.out.below hV2) (HB.out.below hV2)).mono ?_; rintro e w3 ⟨rfl, hB3⟩; have hV3 := hV2.trans (hB3.mono hV2.size))
          | (go_at_call 51; refine (D1.out _).mono ?_; rintro e w4 ⟨rfl, hB4⟩; have hV4 := hV3.trans (hB4.mono hV3.size))
          | (refine wpList_store_new rfl _ (.tmp 7) (.tmp 39) rfl w4.heap.size rfl zeroGen rfl 5 rfl _ _ (Blk.new _ _ _) rfl size_gen (gnv_one _ _ _ _ _ rfl rfl rfl) ?_; intro w5 hR5 hg5; have hB5 := below_new hg5; have hV5 := hV4.trans (hB5.mono hV4.size))
          | (go_at_call 39; refine (awake24 _).mono ?_; rintro e w8 ⟨rfl, hB8⟩))
        go_ret
        exact ⟨rfl, hV5.trans (hB8.mono hV5.size)⟩
theorem blockGenesis_walk (n st : Int) (V A : List (List Int)) (B : List Int) (a b c : Value) (w : World) (hV : Ns w a V) (hA : Ns w b A) (hB : Ig w c B) : Calls Try.prog 12 #[.agg (gnv n st a b c).toArray] w fun e w' => e = .returned (.bool true) ∧ Below w.heap.size w w' := by
  by_cases hok : GOk n st V A B
  · exact blockGenesis_yes n st V A B a b c w hV hA hB hok
  · exact blockGenesis_no n st V A B a b c w hV hA hB hok
end Go.Proofs.Ytilhceihelcdgaa
