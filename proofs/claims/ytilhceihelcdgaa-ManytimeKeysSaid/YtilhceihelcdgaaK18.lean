/-
  A part of a signature: a one-time signature and its path.
-/
import Derived.Test.YtilhceihelcdgaaK17
import Derived.Test.YtilhceihelcdgaaE2
import Derived.Test.YtilhceihelcdgaaKL
import Derived.Deep.AppendLies
import Derived.Deep.RegionHeld3
import Derived.Deep.DeepCutAuto
import Derived.Deep.RegionLaw
namespace Go.Proofs.Ytilhceihelcdgaa
open Go.RowKit

theorem Lies.lo2 {w : World} {v v' : Value} {B : Nat} (h : Lies w v v') (hv : ∀ k, v.ownBlock = some k → B ≤ k) (hB : B ≤ w.heap.size) : ∀ k, v'.ownBlock = some k → B ≤ k := by
  intro k hk
  rcases h with h | ⟨j, h1, h2⟩
  · rw [h] at hk; exact hv k hk
  · rw [h1] at hk; injection hk; omega
theorem Lies.apart {w : World} {v v' : Value} (h : Lies w v v') {g : Nat} (hg : g < w.heap.size) (hv : some g ≠ v.ownBlock) : some g ≠ v'.ownBlock := by
  rcases h with h | ⟨j, h1, h2⟩
  · rw [h]; exact hv
  · rw [h1]; intro e; injection e; omega
theorem grown_row {a b c : World} {r : Option Nat} {v : Value} (h : a.grownBy b r) (k : b.grownBy c v.ownBlock) (hv : ∀ g, v.ownBlock = some g → a.heap.size ≤ g) : a.grownBy c r :=
  ⟨k.os.trans h.os, k.tape.trans h.tape, k.output.trans h.output, Nat.le_trans h.size k.size, fun i hi hr => (k.block i (by have := h.size; omega) (fun e => by have := hv i e.symm; omega)).trans (h.block i hi hr)⟩

set_option maxRecDepth 100000 in
set_option maxHeartbeats 8000000 in
theorem msigned_any (x m acc : List Int) (B b N : Nat) (lv l t j : Int) (v0 : Value) (w w0 : World) (hx : IsN x) (hm : IsN m) (hK : Blk w0 B 133 (mkCells x lv b).toArray) (hBb : B ≠ b) (hb0 : b < w0.heap.size)
    (hT : Trees w x b (fun g => some g ≠ v0.ownBlock) N) (hN : N ≤ 900) (hO : OwB w 0 v0 acc) (hacc : acc.length ≤ 1000) (hG : w0.grownBy w (some b)) (hv0 : ∀ k, v0.ownBlock = some k → w0.heap.size ≤ k)
    (hl : 0 ≤ l ∧ l < 256) (ht : 0 ≤ t ∧ t < 256) (hj : 0 ≤ j ∧ j < 32) :
    Calls Try.prog 95 #[.pointer (some ⟨B, 0, none⟩), v0, .int .i64 l, .int .i64 t, .int .i64 j, nv m] w fun e w' => ∃ v', e = .returned v' ∧ OwB w' 0 v' (acc ++ psig x m l t j.toNat) ∧ Trees w' x b (fun g => some g ≠ v'.ownBlock) (N + 1) ∧ w0.grownBy w' (some b) ∧ (∀ k, v'.ownBlock = some k → w0.heap.size ≤ k) := by
  have HX := Lib.hid hx
  have HMN := Lib.hid hm
  have HK := Lib.hid hK
  have HPS : Hid (psig x m l t j.toNat = (osig (okey x l t j) m ++ mpath 5 (otree x l t) j).flatten) := by
    show _ = _
    unfold psig
    rw [List.flatten_append, show ((j.toNat : Nat) : Int) = j by omega]
  rw [HPS.out]
  have hlB := hK.lt
  have lt0 : ∀ k, v0.ownBlock = some k → k < w.heap.size := fun k hk => (World.ownsRow.lt hO k hk).2
  have hzw := hG.size
  have TR := Lib.hid (fun w' (hK' : Blk w' B 133 (mkCells x lv b).toArray) (hT' : Trees w' x b (fun g => some g ≠ v0.ownBlock) N) (hz : w.heap.size ≤ w'.heap.size) => mtree_any x B b N (fun g => some g ≠ v0.ownBlock) lv l t w' hx hK' hT' (by omega) (fun g hg e => by have := lt0 g e.symm; omega) hl ht)
  have hTl := otree_len x l t
  have hTi := otree_isN x l t
  have NT := Lib.hid (fun w g (hb : Blk w g 30 (bsv (otree x l t).flatten).toArray) => Ns.whole hb hTi hTl.symm (by omega))
  have PT := Lib.hid (fun v w (h : Ns w v (otree x l t)) => path32 (otree x l t) v j w h hTl hj.1 hj.2)
  have NP := Lib.hid (fun w v b (hb : OwN w b v (mpath 5 (otree x l t) j)) => hb.ns (by rw [mpath_len]; omega) (mpath_isN _ _ _))
  have lP := Lib.hid (mpath_len 5 (otree x l t) j)
  have SD := Lib.hid (fun w' (hK' : Blk w' B 133 (mkCells x lv b).toArray) => Calls.lit8 (seedOf_any B x l t j w' (fun i hi => mkCells_seed hx hK' i hi) hx hl ht ⟨by omega, by omega⟩) (okey_isN _ _ _ _).1)
  have KN := Lib.hid (okey_isN x l t j)
  have OS := Lib.hid (fun k w (hk : IsN k) => onesign_any k m w hk hm)
  have hLi : ∀ y ∈ osig (okey x l t j) m ++ mpath 5 (otree x l t) j, IsN y := fun y hy => by
    rcases List.mem_append.1 hy with h | h
    · exact osig_isN _ _ y h
    · exact mpath_isN _ _ _ y h
  have hLl : (osig (okey x l t j) m ++ mpath 5 (otree x l t) j).length = 23 := by rw [List.length_append, osig_len, mpath_len]
  have HLI := Lib.hid hLi
  have HLL := Lib.hid hLl
  generalize hLe : osig (okey x l t j) m ++ mpath 5 (otree x l t) j = L at *
  have HLE := Lib.hid hLe
  generalize mpath 5 (otree x l t) j = P at *
  generalize okey x l t j = K at *
  generalize otree x l t = T at *
  obtain ⟨m0, m1, m2, m3, m4, m5, m6, m7, rfl, _⟩ := hm.cases
  have HT := Lib.hid hT
  have HO := Lib.hid hO
  have HG := Lib.hid hG
  have HV0 := Lib.hid hv0
  have LT0 := Lib.hid lt0
  clear hx hm hK hTl hTi hLi hLl hLe hT hO hG hv0 lt0
  go_enter Try.func95, Try.ntmps95
  go_upto_region 1 with (fail)
  generalize hW : World.alloc _ _ = W
  have hM2 : Blk W w.heap.size 30 (bsv [m0, m1, m2, m3, m4, m5, m6, m7]).toArray := by rw [← hW]; exact Blk.new _ _ _
  have hV2 : Below w.heap.size w W := by rw [← hW]; exact below1 w _
  clear hW
  have hG2 := grown_below HG.out hV2
  have hK2 := HK.out.grown hG2 (fun e => hBb (by injection e))
  have hT2 := HT.out.below hV2
  have hO2 := HO.out.below hV2
  go_upto_region 2 with (first
    | (go_at_call 93; refine (TR.out _ hK2 hT2 hV2.size).mono ?_; rintro e w3 ⟨g, rfl, hgB, hg1, hg2, hT3, hG3⟩)
    | (go_at_call 170; refine (PT.out _ _ (NT.out _ _ hgB)).mono ?_; rintro e w4 ⟨v4, rfl, hP4, hB4⟩))
  have hG4 := grown_below (grown_trans hG2 hG3) hB4
  have hbw : w.heap.size ≠ b := by omega
  have hM4 := (hM2.grown hG3 (fun e => hbw (by injection e))).below hB4 (by have := hM2.lt; have := hG3.size; omega)
  have hT4 := hT3.below hB4
  have hO3 : OwB w3 0 v0 acc := World.ownsRow.kept hO2 hG3 (.inr fun e => by have := HV0.out _ e; omega)
  have hO4 := hO3.below hB4
  have hK4 := HK.out.grown hG4 (fun e => hBb (by injection e))
  have hlM4 := hM4.lt
  have hz4 := hG4.size
  have hz24 := hV2.size
  have hz34 := hG3.size
  have hz44 := hB4.size
  have SO : Hid (∀ w' : World, Below w4.heap.size w4 w' → w'.cell? ⟨w.heap.size, 0, none⟩ = some (.int .u8 m0) ∧ w'.cell? ⟨w.heap.size, 1, none⟩ = some (.int .u8 m1) ∧ w'.cell? ⟨w.heap.size, 2, none⟩ = some (.int .u8 m2) ∧ w'.cell? ⟨w.heap.size, 3, none⟩ = some (.int .u8 m3) ∧ w'.cell? ⟨w.heap.size, 4, none⟩ = some (.int .u8 m4) ∧ w'.cell? ⟨w.heap.size, 5, none⟩ = some (.int .u8 m5) ∧ w'.cell? ⟨w.heap.size, 6, none⟩ = some (.int .u8 m6) ∧ w'.cell? ⟨w.heap.size, 7, none⟩ = some (.int .u8 m7)) := fun w' h => ⟨(hM4.below h hM4.lt).cell 0, (hM4.below h hM4.lt).cell 1, (hM4.below h hM4.lt).cell 2, (hM4.below h hM4.lt).cell 3, (hM4.below h hM4.lt).cell 4, (hM4.below h hM4.lt).cell 5, (hM4.below h hM4.lt).cell 6, (hM4.below h hM4.lt).cell 7⟩
  have HK4 := Lib.hid hK4
  have HO4 := Lib.hid hO4
  have HT4 := Lib.hid hT4
  have HP4 := Lib.hid hP4
  clear hG2 hG3 hB4 hM2 hT3 hT2 hO2 hO3 hK2 hV2 hgB hK4 hO4 hT4 hP4
  go_region_held3 (fun w' => w'.cell? ⟨w.heap.size, 0, none⟩ = some (.int .u8 m0) ∧ w'.cell? ⟨w.heap.size, 1, none⟩ = some (.int .u8 m1) ∧ w'.cell? ⟨w.heap.size, 2, none⟩ = some (.int .u8 m2) ∧ w'.cell? ⟨w.heap.size, 3, none⟩ = some (.int .u8 m3) ∧ w'.cell? ⟨w.heap.size, 4, none⟩ = some (.int .u8 m4) ∧ w'.cell? ⟨w.heap.size, 5, none⟩ = some (.int .u8 m5) ∧ w'.cell? ⟨w.heap.size, 6, none⟩ = some (.int .u8 m6) ∧ w'.cell? ⟨w.heap.size, 7, none⟩ = some (.int .u8 m7))
    ((refine SO.out _ ?_; first | assumption | exact (Below.refl _ _).drew))
    (first
      | (go_at_call 168; refine (SD.out _ (by exact HK4.out.drew)).mono ?_; rintro e w5 ⟨e0, e1, e2, e3, e4, e5, e6, e7, rfl, HE, hB5⟩; have hV5 : Below w4.heap.size w4 w5 := (Below.refl _ _).drew.trans (hB5.mono (by first | omega | (simp; omega) | (simp; done))))
      | (go_at_call 171; refine (OS.out [e0, e1, e2, e3, e4, e5, e6, e7] _ (by rw [← HE.out]; exact KN.out)).mono ?_; rintro e w6 ⟨bs, rfl, hS6, hbs, hB6⟩; rw [← HE.out] at hS6; have hV6 := hV5.trans (hB6.mono hV5.size); have hN6 := Ns.whole (n := 18) hS6 (osig_isN _ _) (osig_len _ _).symm (by omega); have hP6 := (NP.out _ _ _ HP4.out).below hV6)
      | (refine step_grow_ns rfl (.tmp 32) (.tmp 33) rfl (.slice (some ⟨bs, 0, none⟩) 18 18) (osig K [m0, m1, m2, m3, m4, m5, m6, m7]) (by rfl) hN6.1 (fun _ _ _ e => by cases e; exact (osig_len _ _).symm) v4 P (by rfl) hP6.1 (by rw [lP.out]; omega) (by rw [lP.out, osig_len]; omega) ?_; intro v7 w7 hO7 hg7; have hV7 := hV6.trans ((Below.of_grown hg7 (Nat.le_refl _)).mono hV6.size); rw [HLE.out] at hO7; obtain ⟨b7, c7, rfl, hb7, hl7⟩ := World.ownsRow.form hO7 (by rw [HLL.out]; omega)))
  have hN7 := hO7.ns (by rw [HLL.out]; omega) HLI.out
  have hO7' : OwB w7 0 v0 acc := HO4.out.below hV7
  have hT7 := HT4.out.below hV7
  have hG7 := grown_below hG4 hV7
  have ap7 : some b7 ≠ v0.ownBlock := fun e => by have := LT0.out _ e.symm; have := hV6.size; omega
  have hL23 : L.length = 23 := HLL.out
  have HL23 := Lib.hid hL23
  have hzz : w0.heap.size ≤ w7.heap.size := hG7.size
  clear hS6 hN6 hP6 hO7 hg7 HO4 HT4 HK4 HP4 SO hL23 hM4 hB5 hB6 hG4
  go_wp2_with fail
  go_loopw [1, 36] (fun s i wr => ∃ k : Nat, k ≤ L.length ∧ i = .int .i64 (k : Int) ∧ OwB wr 0 s (acc ++ (L.take k).flatten) ∧ w0.grownBy wr (some b) ∧ (∀ q, s.ownBlock = some q → w0.heap.size ≤ q) ∧ Trees wr x b (fun g => some g ≠ s.ownBlock) (N + 1) ∧ Ns wr (.slice (some ⟨b7, 0, none⟩) L.length c7) L ∧ some b7 ≠ s.ownBlock) (fun _ i _ => L.length - (intOf i).toNat)
  case atStart => exact ⟨0, by omega, rfl, by simpa using hO7', hG7, HV0.out, hT7, hN7, ap7⟩
  case round =>
    obtain ⟨k, hk, rfl, hO, hG, hlo, hT, hN, hap⟩ := hrel
    have HO := Lib.hid hO
    have HG := Lib.hid hG
    have HLO := Lib.hid hlo
    have HTT := Lib.hid hT
    have HN := Lib.hid hN
    have HAP := Lib.hid hap
    have hXl := Lib.hid (flatten_take_le HLI.out k)
    have hbr := hT.lt
    have hLb : L.length ≤ 23 := by rw [HL23.out]; omega
    have hzr := hG.size
    clear hO7' hT7 hN7 hG7 ap7
    clear hO hG hlo hT hN hap
    by_cases hlt : k < L.length
    · have hlt' : (k : Int) < (L.length : Int) := by omega
      obtain ⟨hc, hy⟩ := HN.out.at rfl k hlt
      simp only [Nat.zero_add] at hc
      have HC := Lib.hid hc
      have HY := Lib.hid hy
      have hs := Lib.hid (flatten_take_succ L k hlt)
      generalize L.getD k [] = y at *
      generalize (L.take k).flatten = X at *
      have hb7 : b7 < wr.heap.size := World.block_lt_of_cell? _ _ (hc 0 (by omega))
      clear hc hy
      go_wp2_with (first
        | (refine wpList_load_mid_name _ rfl (.tmp 38) rfl b7 (k * 8) rfl y HY.out.1 HC.out ?_)
        | (refine wpList_store_name _ rfl (.tmp 16) (.tmp 39) rfl wr.heap.size rfl _ rfl _ _ (Blk.new wr 30 (bsv zeroN).toArray) rfl HY.out.1 ?_; intro wa hA ha)
        | (at_builtin; refine hold ?_))
      refine Lib.hid ?_
      have ltu : ∀ q, u1.ownBlock = some q → q < wr.heap.size := fun q hq => (World.ownsRow.lt HO.out q hq).2
      have hOa : OwB wa 0 u1 (acc ++ X) := World.ownsRow.kept (HO.out.alloc _) ha (.inr fun e => by have := ltu _ e; omega)
      have hza := ha.size
      simp only [World.size_alloc] at hza
      have hGa := grown_own (grown_alloc HG.out (.cells (bsv zeroN).toArray 30)) ha hzr
      have hTa : Trees wa x b (fun g => some g ≠ u1.ownBlock) (N + 1) :=
        Trees.imp (Trees.grown (P := fun g => some g ≠ u1.ownBlock ∧ g < wr.heap.size) (Trees.below (Trees.imp HTT.out (fun g hg hp => ⟨hp, hg⟩)) (below1 wr (.cells (bsv zeroN).toArray 30))) ha (fun e => by injection e; omega) (fun q _ hq e => by injection e; have := hq.2; omega)) (fun g _ hp => hp.1)
      have hNa := (HN.out.below (below1 wr (.cells (bsv zeroN).toArray 30))).grown ha (fun a mm c e => by cases e; intro e2; have e3 : b7 = wr.heap.size := (by injection e2); omega)
      refine wpList_app_bs_at _ rfl (.tmp 40) (.tmp 41) rfl 0 _ _ rfl hOa _ y rfl (Sl.name hA HY.out) (by rw [HY.out.1, List.length_append]; have := hXl.out; have := HL23.out; omega) (Nat.zero_le _) ?_
      intro v8 w8 hO8 hg8 hL8
      have hG8 := grown_row hGa hg8 HLO.out
      have hT8 : Trees w8 x b (fun g => some g ≠ v8.ownBlock) (N + 1) :=
        Trees.imp (Trees.grown (P := fun g => some g ≠ u1.ownBlock ∧ g < wa.heap.size) (Trees.imp hTa (fun g hg hp => ⟨hp, hg⟩)) hg8 (fun e => by have := HLO.out _ e.symm; omega) (fun q _ hq => hq.1)) (fun g _ hp => hL8.apart hp.2 hp.1)
      have hN8 := hNa.grown hg8 (fun a mm c e => by cases e; exact HAP.out)
      have ap8 := hL8.apart (g := b7) (by omega) HAP.out
      have lo8 := hL8.lo2 HLO.out (by have := hGa.size; omega)
      have HL8 := Lib.hid hL8
      have HT8 := Lib.hid hT8
      have HG8 := Lib.hid hG8
      have HN8 := Lib.hid hN8
      have HA8 := Lib.hid ap8
      have HLO8 := Lib.hid lo8
      clear hL8 hT8 hG8 hN8 ap8 lo8 hg8 hNa hTa hGa hOa ltu hA ha
      go_wp2
      go_roundw
      case rel =>
        refine ⟨k + 1, by omega, by go_num, ?_, HG8.out, HLO8.out, HT8.out, HN8.out, HA8.out⟩
        rw [hs.out, ← List.append_assoc]
        exact hO8
      case measure => simp [intOf]; omega
    · obtain rfl : k = L.length := by omega
      have hO' := HO.out
      rw [List.take_length] at hO'
      have HO' := Lib.hid hO'
      clear hO'
      go_wp2
      go_ret
      exact ⟨_, rfl, HO'.out, HTT.out, HG.out, HLO.out⟩
end Go.Proofs.Ytilhceihelcdgaa
