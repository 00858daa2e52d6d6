/-
  The cursor: numbers read one after the other.
  The cursor: byte strings, what is left, and its making.
  The cursor: names.
-/
import Derived.Test.YtilhceihelcdgaaC
import Derived.Deep.QuietTactic
import Derived.BigQuiet
import Derived.Deep.RegionLaw
namespace Go.Proofs.Ytilhceihelcdgaa
section
open Go.RowKit

/-- A cursor's state: its place, and whether a value was incomplete. -/
def curU (l : List Int) (p : Nat) (bad : Bool) (n : Nat) : Int × Nat × Bool := if bad = false ∧ p + n ≤ l.length then (numOf (cut l p n), p + n, false) else (0, p, true)
theorem curU_yes (l : List Int) (p n : Nat) (h : p + n ≤ l.length) : curU l p false n = (numOf (cut l p n), p + n, false) := if_pos ⟨rfl, h⟩
theorem curU_no (l : List Int) (p n : Nat) (bad : Bool) (h : bad = true ∨ ¬ p + n ≤ l.length) : curU l p bad n = (0, p, true) := if_neg (fun ⟨h1, h2⟩ => by rcases h with rfl | h; cases h1; exact h h2)
/-- A cursor in memory: its block, the bytes that it reads. -/
def CurAt (t : TypeId) (w : World) (B : Nat) (v : Value) (l : List Int) (p : Nat) (bad : Bool) : Prop := Blk w B t #[v, .int .i64 p, .bool bad] ∧ Bs w v l ∧ p ≤ l.length
theorem Calls.same {P : Program} {f : FuncId} {args : Array Value} {w : World} {v : Value} {n : Nat} (h : Calls P f args (w.drewN n) fun e w' => e = .returned v ∧ w.drewN n = w') : Calls P f args (w.drewN n) fun e w'' => e = .returned v ∧ ∃ m, w'' = w.drewN m :=
  Calls.quiet_of_same (h.mono fun _ _ ⟨he, hm⟩ => ⟨he, hm.symm⟩)
theorem Bs.grown {w w' : World} {v : Value} {l : List Int} {B : Nat} (h : Bs w v l) (g : w.grownBy w' (some B)) (hb : ∀ a n c, v = .slice (some a) n c → a.block ≠ B) : Bs w' v l := by
  obtain ⟨⟨a, cap, h1, h2, h3, h0, h4, h5, h6⟩, hl⟩ := h
  refine ⟨⟨a, cap, h1, h2, h3, h0, h4, h5, fun hn => ?_⟩, hl⟩
  obtain ⟨b, o, hbo, hc⟩ := h6 hn
  refine ⟨b, o, hbo, fun j hj => ?_⟩
  have h7 := hc j hj
  have hlt : b < w.heap.size := by
    have : (bsv l)[j]? = some ((bsv l)[j]'(by omega)) := List.getElem?_eq_getElem _
    rw [this] at h7
    exact World.block_lt_of_cell? _ _ h7
  subst hbo
  have hne := hb _ _ _ h1
  have h8 := g.block b hlt (fun e => hne (by injection e))
  rw [← h7]
  unfold World.cell?
  simp [h8]

theorem cur_at {w : World} {B : Nat} {t : TypeId} {v u x : Value} {p : Value} (h : Blk w B t #[v, p, u]) (n : Nat) : Blk ((w.drewN n).setCell ⟨B, 1, none⟩ x) B t #[v, x, u] ∧ w.grownBy ((w.drewN n).setCell ⟨B, 1, none⟩ x) (some B) := by
  have h' : Blk (w.drewN n) B t #[v, p, u] := h
  have := h'.set 1 x
  exact ⟨this, grown_set (a := w) (b := w.drewN n) ⟨rfl, rfl, rfl, Nat.le_refl _, fun _ _ _ => rfl⟩ 1 x⟩
theorem cur_bad {w : World} {B : Nat} {t : TypeId} {v u x : Value} {p : Value} (h : Blk w B t #[v, p, u]) (n : Nat) : Blk ((w.drewN n).setCell ⟨B, 2, none⟩ x) B t #[v, p, x] ∧ w.grownBy ((w.drewN n).setCell ⟨B, 2, none⟩ x) (some B) := by
  have h' : Blk (w.drewN n) B t #[v, p, u] := h
  have := h'.set 2 x
  exact ⟨this, grown_set (a := w) (b := w.drewN n) ⟨rfl, rfl, rfl, Nat.le_refl _, fun _ _ _ => rfl⟩ 2 x⟩
theorem cur_same {w : World} {B : Nat} {t : TypeId} {cs : Array Value} (h : Blk w B t cs) (n : Nat) : Blk (w.drewN n) B t cs ∧ w.grownBy (w.drewN n) (some B) := ⟨h, ⟨rfl, rfl, rfl, Nat.le_refl _, fun _ _ _ => rfl⟩⟩

set_option maxHeartbeats 1000000 in
theorem cuint_yes (B : Nat) (l : List Int) (v : Value) (p n : Nat) (w : World) (hb : Blk w B 215 #[v, .int .i64 p, .bool false]) (hv : Bs w v l) (h1 : 1 ≤ n) (h7 : n ≤ 7) (h : p + n ≤ l.length) :
    Calls Try.prog 104 #[.pointer (some ⟨B, 0, none⟩), .int .i64 n] w fun e w' => e = .returned (.int .i64 (numOf (cut l p n))) ∧ Blk w' B 215 #[v, .int .i64 ((p + n : Nat) : Int), .bool false] ∧ w.grownBy w' (some B) := by
  have HU := Lib.hid (fun w h => uint_yes l v p n w h (by omega) (by omega) (by omega) (by omega))
  simp only [Int.toNat_natCast] at HU
  have hnb := numOf_bd (cut l p n) (cut_byt hv.2 p n)
  rw [cut_len _ _ _ h] at hnb
  have hp7 := pow256_le n h7
  obtain ⟨_, _⟩ := hnb
  have hle := hv.1.le
  have HV := Lib.hid hv
  have HB := Lib.hid hb
  have c0 := hb.cell 0
  have c1 := hb.cell 1
  have c2 := hb.cell 2
  have f1 := hb.free 1
  simp at c0 c1 c2
  generalize numOf (cut l p n) = r at *
  have hwr : IntKind.i64.wrap r = r := by rw [IntKind.wrap_i64]; omega
  clear hb hv
  go_enter Try.func104, Try.ntmps104
  go_wp2_with fail
  go_quiet ((go_at_call 78; exact Calls.same (HU.out _ (by exact HV.out))))
  go_wp2
  go_ret
  refine ⟨rfl, ?_⟩
  rw [show ((p + n : Nat) : Int) = (p : Int) + n by omega]
  exact cur_at HB.out nq
set_option maxHeartbeats 1000000 in
theorem cuint_no (B : Nat) (l : List Int) (v : Value) (p n : Nat) (bad : Bool) (w : World) (hb : Blk w B 215 #[v, .int .i64 p, .bool bad]) (hv : Bs w v l) (h1 : 1 ≤ n) (h7 : n ≤ 7) (hp : p ≤ l.length) (h : bad = true ∨ ¬ p + n ≤ l.length) :
    Calls Try.prog 104 #[.pointer (some ⟨B, 0, none⟩), .int .i64 n] w fun e w' => e = .returned (.int .i64 0) ∧ Blk w' B 215 #[v, .int .i64 p, .bool true] ∧ w.grownBy w' (some B) := by
  have hle := hv.1.le
  have HV := Lib.hid hv
  have HB := Lib.hid hb
  have c0 := hb.cell 0
  have c1 := hb.cell 1
  have c2 := hb.cell 2
  have f2 := hb.free 2
  simp at c0 c1 c2
  clear hb
  by_cases hpn : p + n ≤ l.length
  · obtain rfl : bad = true := by rcases h with h | h; exact h; exact absurd hpn h
    have HU := Lib.hid (fun w h => uint_yes l v p n w h (by omega) (by omega) (by omega) (by omega))
    simp only [Int.toNat_natCast] at HU
    generalize numOf (cut l p n) = r at *
    clear hv h
    go_enter Try.func104, Try.ntmps104
    go_wp2_with fail
    go_quiet ((go_at_call 78; exact Calls.same (HU.out _ (by exact HV.out))))
    go_wp2
    go_ret
    exact ⟨rfl, cur_bad HB.out nq⟩
  · have HU := Lib.hid (fun w h => uint_no l v p n w h (by omega) (by omega) (by omega) (by omega) (by omega))
    clear hv h hpn
    cases bad
    all_goals
      go_enter Try.func104, Try.ntmps104
      go_wp2_with fail
      go_quiet ((go_at_call 78; exact Calls.same (HU.out _ (by exact HV.out))))
      go_wp2
      go_ret
      exact ⟨rfl, cur_bad HB.out nq⟩
theorem cuint_any (B : Nat) (l : List Int) (v : Value) (p n : Nat) (bad : Bool) (w : World) (hb : Blk w B 215 #[v, .int .i64 p, .bool bad]) (hv : Bs w v l) (h1 : 1 ≤ n) (h7 : n ≤ 7) (hp : p ≤ l.length) :
    Calls Try.prog 104 #[.pointer (some ⟨B, 0, none⟩), .int .i64 n] w fun e w' => e = .returned (.int .i64 (curU l p bad n).1) ∧ Blk w' B 215 #[v, .int .i64 (curU l p bad n).2.1, .bool (curU l p bad n).2.2] ∧ w.grownBy w' (some B) := by
  by_cases h : bad = false ∧ p + n ≤ l.length
  · obtain ⟨rfl, h⟩ := h
    rw [curU_yes _ _ _ h]
    exact cuint_yes B l v p n w hb hv h1 h7 h
  · have h' : bad = true ∨ ¬ p + n ≤ l.length := by
      cases bad
      · exact .inr fun e => h ⟨rfl, e⟩
      · exact .inl rfl
    rw [curU_no _ _ _ _ h']
    exact cuint_no B l v p n bad w hb hv h1 h7 hp h'
set_option maxHeartbeats 1000000 in
theorem rcuint_yes (B : Nat) (l : List Int) (v : Value) (p n : Nat) (w : World) (hb : Blk w B 164 #[v, .int .i64 p, .bool false]) (hv : Bs w v l) (h1 : 1 ≤ n) (h7 : n ≤ 7) (h : p + n ≤ l.length) :
    Calls Try.prog 123 #[.pointer (some ⟨B, 0, none⟩), .int .i64 n] w fun e w' => e = .returned (.int .i64 (numOf (cut l p n))) ∧ Blk w' B 164 #[v, .int .i64 ((p + n : Nat) : Int), .bool false] ∧ w.grownBy w' (some B) := by
  have HU := Lib.hid (fun w h => ruint_yes l v p n w h (by omega) (by omega) (by omega) (by omega))
  simp only [Int.toNat_natCast] at HU
  have hnb := numOf_bd (cut l p n) (cut_byt hv.2 p n)
  rw [cut_len _ _ _ h] at hnb
  have hp7 := pow256_le n h7
  obtain ⟨_, _⟩ := hnb
  have hle := hv.1.le
  have HV := Lib.hid hv
  have HB := Lib.hid hb
  have c0 := hb.cell 0
  have c1 := hb.cell 1
  have c2 := hb.cell 2
  have f1 := hb.free 1
  simp at c0 c1 c2
  generalize numOf (cut l p n) = r at *
  have hwr : IntKind.i64.wrap r = r := by rw [IntKind.wrap_i64]; omega
  clear hb hv
  go_enter Try.func123, Try.ntmps123
  go_wp2_with fail
  go_quiet ((go_at_call 160; exact Calls.same (HU.out _ (by exact HV.out))))
  go_wp2
  go_ret
  refine ⟨rfl, ?_⟩
  rw [show ((p + n : Nat) : Int) = (p : Int) + n by omega]
  exact cur_at HB.out nq
set_option maxHeartbeats 1000000 in
theorem rcuint_no (B : Nat) (l : List Int) (v : Value) (p n : Nat) (bad : Bool) (w : World) (hb : Blk w B 164 #[v, .int .i64 p, .bool bad]) (hv : Bs w v l) (h1 : 1 ≤ n) (h7 : n ≤ 7) (hp : p ≤ l.length) (h : bad = true ∨ ¬ p + n ≤ l.length) :
    Calls Try.prog 123 #[.pointer (some ⟨B, 0, none⟩), .int .i64 n] w fun e w' => e = .returned (.int .i64 0) ∧ Blk w' B 164 #[v, .int .i64 p, .bool true] ∧ w.grownBy w' (some B) := by
  have hle := hv.1.le
  have HV := Lib.hid hv
  have HB := Lib.hid hb
  have c0 := hb.cell 0
  have c1 := hb.cell 1
  have c2 := hb.cell 2
  have f2 := hb.free 2
  simp at c0 c1 c2
  clear hb
  by_cases hpn : p + n ≤ l.length
  · obtain rfl : bad = true := by rcases h with h | h; exact h; exact absurd hpn h
    have HU := Lib.hid (fun w h => ruint_yes l v p n w h (by omega) (by omega) (by omega) (by omega))
    simp only [Int.toNat_natCast] at HU
    generalize numOf (cut l p n) = r at *
    clear hv h
    go_enter Try.func123, Try.ntmps123
    go_wp2_with fail
    go_quiet ((go_at_call 160; exact Calls.same (HU.out _ (by exact HV.out))))
    go_wp2
    go_ret
    exact ⟨rfl, cur_bad HB.out nq⟩
  · have HU := Lib.hid (fun w h => ruint_no l v p n w h (by omega) (by omega) (by omega) (by omega) (by omega))
    clear hv h hpn
    cases bad
    all_goals
      go_enter Try.func123, Try.ntmps123
      go_wp2_with fail
      go_quiet ((go_at_call 160; exact Calls.same (HU.out _ (by exact HV.out))))
      go_wp2
      go_ret
      exact ⟨rfl, cur_bad HB.out nq⟩
theorem rcuint_any (B : Nat) (l : List Int) (v : Value) (p n : Nat) (bad : Bool) (w : World) (hb : Blk w B 164 #[v, .int .i64 p, .bool bad]) (hv : Bs w v l) (h1 : 1 ≤ n) (h7 : n ≤ 7) (hp : p ≤ l.length) :
    Calls Try.prog 123 #[.pointer (some ⟨B, 0, none⟩), .int .i64 n] w fun e w' => e = .returned (.int .i64 (curU l p bad n).1) ∧ Blk w' B 164 #[v, .int .i64 (curU l p bad n).2.1, .bool (curU l p bad n).2.2] ∧ w.grownBy w' (some B) := by
  by_cases h : bad = false ∧ p + n ≤ l.length
  · obtain ⟨rfl, h⟩ := h
    rw [curU_yes _ _ _ h]
    exact rcuint_yes B l v p n w hb hv h1 h7 h
  · have h' : bad = true ∨ ¬ p + n ≤ l.length := by
      cases bad
      · exact .inr fun e => h ⟨rfl, e⟩
      · exact .inl rfl
    rw [curU_no _ _ _ _ h']
    exact rcuint_no B l v p n bad w hb hv h1 h7 hp h'
end
section
open Go.RowKit

/-- A byte string is read: what, and the state behind. -/
def curB (l : List Int) (p : Nat) (bad : Bool) : List Int × Nat × Bool :=
  if bad = false ∧ p + 2 ≤ l.length ∧ p + 2 + (numOf (cut l p 2)).toNat ≤ l.length then (cut l (p + 2) (numOf (cut l p 2)).toNat, p + 2 + (numOf (cut l p 2)).toNat, false) else ([], p, true)
set_option maxHeartbeats 1000000 in
theorem cbytes_any (B : Nat) (l : List Int) (v : Value) (p : Nat) (bad : Bool) (w : World) (hb : Blk w B 215 #[v, .int .i64 p, .bool bad]) (hv : Bs w v l) (hp : p ≤ l.length) :
    Calls Try.prog 105 #[.pointer (some ⟨B, 0, none⟩)] w fun e w' => ∃ v', e = .returned v' ∧ OwB w' w.heap.size v' (curB l p bad).1 ∧ Blk w' B 215 #[v, .int .i64 (curB l p bad).2.1, .bool (curB l p bad).2.2] ∧ w.grownBy w' (some B) := by
  have hle := hv.1.le
  have HV := Lib.hid hv
  have HB := Lib.hid hb
  have hz := hb.lt
  by_cases h2 : p + 2 ≤ l.length
  · have hn := numOf2_bd hv.2 p h2
    obtain ⟨hn0, hn1⟩ := hn
    by_cases h3 : p + 2 + (numOf (cut l p 2)).toNat ≤ l.length
    · have HU := Lib.hid (fun w h => bytes_yes l v p w h (by omega) (by omega) (by simp only [Int.toNat_natCast]; omega))
      simp only [Int.toNat_natCast] at HU
      cases bad
      · have HC : Hid (curB l p false = (cut l (p + 2) (numOf (cut l p 2)).toNat, p + 2 + (numOf (cut l p 2)).toNat, false)) := if_pos ⟨rfl, h2, h3⟩
        rw [HC.out]
        generalize cut l (p + 2) (numOf (cut l p 2)).toNat = X at *
        have hnat : (((p + 2 + (numOf (cut l p 2)).toNat : Nat)) : Int) = (p : Int) + 2 + numOf (cut l p 2) := by omega
        show Calls _ _ _ _ (fun e w' => ∃ v', e = .returned v' ∧ OwB w' w.heap.size v' X ∧ Blk w' B 215 #[v, .int .i64 (((p + 2 + (numOf (cut l p 2)).toNat : Nat)) : Int), .bool false] ∧ w.grownBy w' (some B))
        rw [hnat]
        generalize numOf (cut l p 2) = r at *
        have c0 := hb.cell 0
        have c1 := hb.cell 1
        simp at c0 c1
        clear hb hv hnat
        go_enter Try.func105, Try.ntmps105
        go_wp2_with fail
        go_region_with (go_at_call 181; refine (HU.out _ (by exact HV.out)).mono ?_; rintro e w2 ⟨v2, rfl, hO2, hB2⟩)
        all_goals
          have hB3 := HB.out.drew.below hB2 hz
          have d0 := hB3.cell 0
          have d1 := hB3.cell 1
          have d2 := hB3.cell 2
          have f1 := hB3.free 1
          simp at d0 d1 d2
          go_wp2
          go_ret
          have hg : w.grownBy w2 (some B) := grown_of_below (Below.drew (Below.refl _ _) |>.trans hB2)
          exact ⟨_, rfl, hO2.grown (grown_set (grown_refl w2 (some B)) 1 _) (by intro k hk; cases hk; exact hz), hB3.set 1 _, grown_set hg 1 _⟩
      · have HC : Hid (curB l p true = ([], p, true)) := if_neg (fun e => by cases e.1)
        rw [HC.out]
        generalize cut l (p + 2) (numOf (cut l p 2)).toNat = X at *
        generalize numOf (cut l p 2) = r at *
        have c0 := hb.cell 0
        have c1 := hb.cell 1
        simp at c0 c1
        clear hb hv
        go_enter Try.func105, Try.ntmps105
        go_wp2_with fail
        go_region_with (go_at_call 181; refine (HU.out _ (by exact HV.out)).mono ?_; rintro e w2 ⟨v2, rfl, hO2, hB2⟩)
        all_goals
          have hB3 := HB.out.drew.below hB2 hz
          have d0 := hB3.cell 0
          have d1 := hB3.cell 1
          have d2 := hB3.cell 2
          have f2 := hB3.free 2
          simp at d0 d1 d2
          go_wp2
          go_ret
          have hg : w.grownBy w2 (some B) := grown_of_below (Below.drew (Below.refl _ _) |>.trans hB2)
          exact ⟨_, rfl, OwB.nil _ _, hB3.set 2 _, grown_set hg 2 _⟩
    · have HC : Hid (curB l p bad = ([], p, true)) := if_neg (fun e => h3 e.2.2)
      rw [HC.out]
      have HU := Lib.hid (fun w h => bytes_no2 l v p w h (by omega) (by omega) (by simp only [Int.toNat_natCast]; omega))
      have c0 := hb.cell 0
      have c1 := hb.cell 1
      have c2 := hb.cell 2
      have f2 := hb.free 2
      simp at c0 c1 c2
      clear hb hv h3
      generalize numOf (cut l p 2) = r at *
      cases bad
      all_goals
        go_enter Try.func105, Try.ntmps105
        go_wp2_with fail
        go_quiet ((go_at_call 181; exact Calls.same (HU.out _ (by exact HV.out))))
        go_wp2
        go_ret
        exact ⟨_, rfl, OwB.nil _ _, cur_bad HB.out nq⟩
  · have HC : Hid (curB l p bad = ([], p, true)) := if_neg (fun e => h2 e.2.1)
    rw [HC.out]
    have HU := Lib.hid (fun w h => bytes_no1 l v p w h (by omega) (by omega) (by omega))
    have c0 := hb.cell 0
    have c1 := hb.cell 1
    have c2 := hb.cell 2
    have f2 := hb.free 2
    simp at c0 c1 c2
    clear hb hv h2
    cases bad
    all_goals
      go_enter Try.func105, Try.ntmps105
      go_wp2_with fail
      go_quiet ((go_at_call 181; exact Calls.same (HU.out _ (by exact HV.out))))
      go_wp2
      go_ret
      exact ⟨_, rfl, OwB.nil _ _, cur_bad HB.out nq⟩

set_option maxHeartbeats 1000000 in
theorem rcbytes_any (B : Nat) (l : List Int) (v : Value) (p : Nat) (bad : Bool) (w : World) (hb : Blk w B 164 #[v, .int .i64 p, .bool bad]) (hv : Bs w v l) (hp : p ≤ l.length) :
    Calls Try.prog 125 #[.pointer (some ⟨B, 0, none⟩)] w fun e w' => ∃ v', e = .returned v' ∧ OwB w' w.heap.size v' (curB l p bad).1 ∧ Blk w' B 164 #[v, .int .i64 (curB l p bad).2.1, .bool (curB l p bad).2.2] ∧ w.grownBy w' (some B) := by
  have hle := hv.1.le
  have HV := Lib.hid hv
  have HB := Lib.hid hb
  have hz := hb.lt
  by_cases h2 : p + 2 ≤ l.length
  · have hn := numOf2_bd hv.2 p h2
    obtain ⟨hn0, hn1⟩ := hn
    by_cases h3 : p + 2 + (numOf (cut l p 2)).toNat ≤ l.length
    · have HU := Lib.hid (fun w h => rbytes_yes l v p w h (by omega) (by omega) (by simp only [Int.toNat_natCast]; omega))
      simp only [Int.toNat_natCast] at HU
      cases bad
      · have HC : Hid (curB l p false = (cut l (p + 2) (numOf (cut l p 2)).toNat, p + 2 + (numOf (cut l p 2)).toNat, false)) := if_pos ⟨rfl, h2, h3⟩
        rw [HC.out]
        generalize cut l (p + 2) (numOf (cut l p 2)).toNat = X at *
        have hnat : (((p + 2 + (numOf (cut l p 2)).toNat : Nat)) : Int) = (p : Int) + 2 + numOf (cut l p 2) := by omega
        show Calls _ _ _ _ (fun e w' => ∃ v', e = .returned v' ∧ OwB w' w.heap.size v' X ∧ Blk w' B 164 #[v, .int .i64 (((p + 2 + (numOf (cut l p 2)).toNat : Nat)) : Int), .bool false] ∧ w.grownBy w' (some B))
        rw [hnat]
        generalize numOf (cut l p 2) = r at *
        have c0 := hb.cell 0
        have c1 := hb.cell 1
        simp at c0 c1
        clear hb hv hnat
        go_enter Try.func125, Try.ntmps125
        go_wp2_with fail
        go_region_with (go_at_call 191; refine (HU.out _ (by exact HV.out)).mono ?_; rintro e w2 ⟨v2, rfl, hO2, hB2⟩)
        all_goals
          have hB3 := HB.out.drew.below hB2 hz
          have d0 := hB3.cell 0
          have d1 := hB3.cell 1
          have d2 := hB3.cell 2
          have f1 := hB3.free 1
          simp at d0 d1 d2
          go_wp2
          go_ret
          have hg : w.grownBy w2 (some B) := grown_of_below (Below.drew (Below.refl _ _) |>.trans hB2)
          exact ⟨_, rfl, hO2.grown (grown_set (grown_refl w2 (some B)) 1 _) (by intro k hk; cases hk; exact hz), hB3.set 1 _, grown_set hg 1 _⟩
      · have HC : Hid (curB l p true = ([], p, true)) := if_neg (fun e => by cases e.1)
        rw [HC.out]
        generalize cut l (p + 2) (numOf (cut l p 2)).toNat = X at *
        generalize numOf (cut l p 2) = r at *
        have c0 := hb.cell 0
        have c1 := hb.cell 1
        simp at c0 c1
        clear hb hv
        go_enter Try.func125, Try.ntmps125
        go_wp2_with fail
        go_region_with (go_at_call 191; refine (HU.out _ (by exact HV.out)).mono ?_; rintro e w2 ⟨v2, rfl, hO2, hB2⟩)
        all_goals
          have hB3 := HB.out.drew.below hB2 hz
          have d0 := hB3.cell 0
          have d1 := hB3.cell 1
          have d2 := hB3.cell 2
          have f2 := hB3.free 2
          simp at d0 d1 d2
          go_wp2
          go_ret
          have hg : w.grownBy w2 (some B) := grown_of_below (Below.drew (Below.refl _ _) |>.trans hB2)
          exact ⟨_, rfl, OwB.nil _ _, hB3.set 2 _, grown_set hg 2 _⟩
    · have HC : Hid (curB l p bad = ([], p, true)) := if_neg (fun e => h3 e.2.2)
      rw [HC.out]
      have HU := Lib.hid (fun w h => rbytes_no2 l v p w h (by omega) (by omega) (by simp only [Int.toNat_natCast]; omega))
      have c0 := hb.cell 0
      have c1 := hb.cell 1
      have c2 := hb.cell 2
      have f2 := hb.free 2
      simp at c0 c1 c2
      clear hb hv h3
      generalize numOf (cut l p 2) = r at *
      cases bad
      all_goals
        go_enter Try.func125, Try.ntmps125
        go_wp2_with fail
        go_quiet ((go_at_call 191; exact Calls.same (HU.out _ (by exact HV.out))))
        go_wp2
        go_ret
        exact ⟨_, rfl, OwB.nil _ _, cur_bad HB.out nq⟩
  · have HC : Hid (curB l p bad = ([], p, true)) := if_neg (fun e => h2 e.2.1)
    rw [HC.out]
    have HU := Lib.hid (fun w h => rbytes_no1 l v p w h (by omega) (by omega) (by omega))
    have c0 := hb.cell 0
    have c1 := hb.cell 1
    have c2 := hb.cell 2
    have f2 := hb.free 2
    simp at c0 c1 c2
    clear hb hv h2
    cases bad
    all_goals
      go_enter Try.func125, Try.ntmps125
      go_wp2_with fail
      go_quiet ((go_at_call 191; exact Calls.same (HU.out _ (by exact HV.out))))
      go_wp2
      go_ret
      exact ⟨_, rfl, OwB.nil _ _, cur_bad HB.out nq⟩

theorem cdone_any (B : Nat) (l : List Int) (v : Value) (p : Nat) (bad : Bool) (w : World) (hb : Blk w B 215 #[v, .int .i64 p, .bool bad]) (hv : Bs w v l) :
    Calls Try.prog 106 #[.pointer (some ⟨B, 0, none⟩)] w fun e w' => e = .returned (.bool (!bad && decide (p = l.length))) ∧ ∃ n, w' = w.drewN n := by
  have hle := hv.1.le
  obtain ⟨a, cap, rfl, hnc, hcm, _, _, _, _⟩ := hv.1
  have c0 := hb.cell 0
  have c1 := hb.cell 1
  have c2 := hb.cell 2
  simp at c0 c1 c2
  clear hb hv
  cases bad
  · have he : ((p : Int) == (l.length : Int)) = decide (p = l.length) := by by_cases h : p = l.length <;> simp [h]; omega
    go_enter Try.func106, Try.ntmps106
    go_wp2_with fail
    go_quiet (fail)
    go_wp2
    go_ret
    exact ⟨by simp, nq, rfl⟩
  · go_enter Try.func106, Try.ntmps106
    go_wp2_with fail
    go_quiet (fail)
    go_wp2
    go_ret
    exact ⟨by simp, nq, rfl⟩
theorem rcdone_any (B : Nat) (l : List Int) (v : Value) (p : Nat) (bad : Bool) (w : World) (hb : Blk w B 164 #[v, .int .i64 p, .bool bad]) (hv : Bs w v l) :
    Calls Try.prog 126 #[.pointer (some ⟨B, 0, none⟩)] w fun e w' => e = .returned (.bool (!bad && decide (p = l.length))) ∧ ∃ n, w' = w.drewN n := by
  have hle := hv.1.le
  obtain ⟨a, cap, rfl, hnc, hcm, _, _, _, _⟩ := hv.1
  have c0 := hb.cell 0
  have c1 := hb.cell 1
  have c2 := hb.cell 2
  simp at c0 c1 c2
  clear hb hv
  cases bad
  · have he : ((p : Int) == (l.length : Int)) = decide (p = l.length) := by by_cases h : p = l.length <;> simp [h]; omega
    go_enter Try.func126, Try.ntmps126
    go_wp2_with fail
    go_quiet (fail)
    go_wp2
    go_ret
    exact ⟨by simp, nq, rfl⟩
  · go_enter Try.func126, Try.ntmps126
    go_wp2_with fail
    go_quiet (fail)
    go_wp2
    go_ret
    exact ⟨by simp, nq, rfl⟩
theorem cok_any (B : Nat) (v : Value) (p : Nat) (bad : Bool) (w : World) (hb : Blk w B 215 #[v, .int .i64 p, .bool bad]) :
    Calls Try.prog 121 #[.pointer (some ⟨B, 0, none⟩)] w fun e w' => e = .returned (.bool (!bad)) ∧ w = w' := by
  have c2 := hb.cell 2
  simp at c2
  clear hb
  go_enter Try.func121, Try.ntmps121
  go_wp2
  go_ret
  exact ⟨rfl, rfl⟩
theorem cnew_any (v : Value) (l : List Int) (w : World) (hv : Bs w v l) :
    Calls Try.prog 119 #[v] w fun e w' => e = .returned (.pointer (some ⟨w.heap.size, 0, none⟩)) ∧ Blk w' w.heap.size 215 #[v, .int .i64 ((0 : Nat) : Int), .bool false] ∧ Below w.heap.size w w' := by
  obtain ⟨a, cap, rfl, _, _, _, _, _, _⟩ := hv.1
  clear hv
  go_enter Try.func119, Try.ntmps119
  go_wp2
  go_ret
  exact ⟨rfl, Blk.new _ _ _, below1 _ _⟩
end
section
open Go.RowKit

/-- A name is read: which, and the state behind. -/
def curN (l : List Int) (p : Nat) (bad : Bool) : List Int × Nat × Bool := if bad = false ∧ p + 8 ≤ l.length then (cut l p 8, p + 8, false) else (zeroN, p, true)
theorem splice_whole (a l : List Int) (ha : a.length = 8) (h : 8 ≤ l.length) : splice (bsv a) 0 (bsv (l.take 8)) = bsv (l.take 8) := by
  unfold splice
  rw [bsv_length, List.length_take, Nat.min_eq_left h, List.take_zero, List.nil_append, List.drop_eq_nil_of_le (by rw [bsv_length, ha]; omega), List.append_nil]
theorem grown_far {a b c : World} {r : Option Nat} {g : Nat} (h : a.grownBy b r) (k : Below g b c) (hg : a.heap.size ≤ g) : a.grownBy c r :=
  ⟨k.os.trans h.os, k.tape.trans h.tape, k.output.trans h.output, Nat.le_trans h.size k.size, fun i hi hr => (k.block i (by omega)).trans (h.block i hi hr)⟩
theorem below_drewN {a b : World} {B : Nat} (h : Below B a b) (n : Nat) : Below B a (b.drewN n) := ⟨h.os, h.tape, h.output, h.size, h.block⟩
theorem grown_own {a b c : World} {r : Option Nat} {g : Nat} (h : a.grownBy b r) (k : b.grownBy c (some g)) (hg : a.heap.size ≤ g) : a.grownBy c r :=
  ⟨k.os.trans h.os, k.tape.trans h.tape, k.output.trans h.output, Nat.le_trans h.size k.size, fun i hi hr => (k.block i (by have := h.size; omega) (fun e => by injection e; omega)).trans (h.block i hi hr)⟩
/-- copy of eight bytes into a whole name. -/
theorem step_copy_name {w : World} {ops : Array Oper} {o : Oper} {a : Act} {K : Act → World → Prop} {Q : Exit → Act → World → Prop} {E : Prop} (hgd : o.guard = none) (d s : Operand)
    (ho : o.op = .call { callee := .builtin .copy, args := #[d, s], argTypes := #[22, 22] })
    (sv : Value) (l : List Int) (hs : a.eval s = sv) (hsl : Sl w sv 1 l.length (bsv l)) (h8 : 8 ≤ l.length) (g dCap : Nat) (hd : a.eval d = .slice (some ⟨g, 0, none⟩) 8 dCap)
    (cur : List Int) (hcl : cur.length = 8) (t : TypeId) (hg : Blk w g t (bsv cur).toArray)
    (h : ∀ w', Blk w' g t (bsv (l.take 8)).toArray → Below g w w' → K (a.put o.dst (.int .i64 8)) w') :
    if Region.wanted o (yielded ops a.tmps) = true then o.wp Try.prog a w K Q else E := by
  refine step_copy_bs hgd d s ho sv l hs hsl g 0 8 dCap hd (bsv cur) t hg (by rw [bsv_length, hcl]; omega) g w (Below.refl _ _) (Nat.le_refl _) fun w' h1 h2 => ?_
  rw [splice_whole cur l hcl h8] at h1
  rw [Nat.min_eq_right h8]
  exact h w' h1 h2

set_option maxHeartbeats 2000000 in
theorem cname_any (B : Nat) (l : List Int) (v : Value) (p : Nat) (bad : Bool) (w : World) (hb : Blk w B 215 #[v, .int .i64 p, .bool bad]) (hv : Bs w v l) (hp : p ≤ l.length) :
    Calls Try.prog 111 #[.pointer (some ⟨B, 0, none⟩)] w fun e w' => e = .returned (nv (curN l p bad).1) ∧ Blk w' B 215 #[v, .int .i64 (curN l p bad).2.1, .bool (curN l p bad).2.2] ∧ w.grownBy w' (some B) := by
  have hle := hv.1.le
  have HV := Lib.hid hv
  have HB := Lib.hid hb
  have hz := hb.lt
  obtain ⟨a, cap, rfl, hnc, hcm, _, _, _, hcc⟩ := id hv.1
  unfold maxLen at hcm
  have c0 := hb.cell 0
  have c1 := hb.cell 1
  have c2 := hb.cell 2
  have f2 := hb.free 2
  have f1 := hb.free 1
  simp at c0 c1 c2
  by_cases h : bad = false ∧ p + 8 ≤ l.length
  · obtain ⟨rfl, h8⟩ := h
    have HC : Hid (curN l p false = (cut l p 8, p + 8, false)) := if_pos ⟨rfl, h8⟩
    rw [HC.out]
    obtain ⟨b, o, rfl, _⟩ := hcc (by omega)
    have hD := Bs.drop hv p (by omega)
    have HD := Lib.hid hD
    have hDl : 8 ≤ (l.drop p).length := by rw [List.length_drop]; omega
    have HDl := Lib.hid hDl
    have HX := Lib.hid (cut_len l p 8 h8)
    have ht : decide ((l.length : Int) - (p : Int) < 8) = false := by simp; omega
    have ht2 : decide (IntKind.i64.wrap ((l.length : Int) - (p : Int)) < 8) = false := by rw [IntKind.wrap_i64]; simp; omega
    have hcp : ¬ cap = p := by omega
    have ha8 : IntKind.i64.wrap ((p : Int) + 8) = (p : Int) + 8 := by rw [IntKind.wrap_i64]; omega
    show Calls _ _ _ _ (fun e w' => e = .returned (nv (cut l p 8)) ∧ Blk w' B 215 #[.slice (some ⟨b, o, none⟩) l.length cap, .int .i64 ((p + 8 : Nat) : Int), .bool false] ∧ w.grownBy w' (some B))
    rw [show ((p + 8 : Nat) : Int) = (p : Int) + 8 by omega]
    clear hb hv hcc hD hDl
    go_enter Try.func111, Try.ntmps111
    go_wp2_with fail
    go_quiet (fail)
    go_wp2_with fail
    generalize hW : World.drewN _ _ = W1
    have hN1 : Blk W1 w.heap.size 30 (bsv zeroN).toArray := by rw [← hW]; exact (Blk.new w 30 (bsv zeroN).toArray)
    have hV1 : Below w.heap.size w W1 := by rw [← hW]; exact below_drewN (below1 w (.cells (bsv zeroN).toArray 30)) _
    have hB1 := HB.out.below hV1 hz
    have hD1 := Lib.hid (HD.out.1.below hV1)
    clear hW c0 c1 c2 f1 f2
    have hN1' := Lib.hid hN1
    have hB1' := Lib.hid hB1
    have c0 := hB1.cell 0
    have c1 := hB1.cell 1
    have f1 := hB1.free 1
    simp at c0 c1
    go_region_law (refine step_copy_name rfl (.tmp 28) (.tmp 37) rfl _ (l.drop p) rfl (by exact hD1.out.drew) HDl.out w.heap.size 8 rfl zeroN rfl _ (by exact hN1'.out.drew) ?_; intro w5 hR5 hB5; have hB5' := hB1'.out.drew.below hB5 hz; have d1 := hB5'.cell 1; have g1 := hB5'.free 1; simp at d1)
    all_goals
      have hV5 := hV1.drew.trans (hB5.mono (by first | (simp; done) | (simp; omega)))
      have hR6 : Blk _ w.heap.size 30 (bsv (cut l p 8)).toArray := hR5.other ⟨B, 1, none⟩ (.int .i64 ((p : Int) + 8)) (fun e => by simp at e; omega)
      have hG := grown_set (grown_far (grown_drew (grown_of_below (r := some B) hV1)) hB5 (Nat.le_refl _)) 1 (.int .i64 ((p : Int) + 8))
      go_wp2_with (first
        | (refine wpList_load_name _ rfl (.tmp 2) rfl w.heap.size rfl _ _ hR6 HX.out ?_)
        | (refine wpList_store_name _ rfl (.tmp 2) (.tmp 42) rfl w.heap.size rfl _ rfl _ _ hR6 (by simp [bsv_length, HX.out]) HX.out ?_; intro w7 hN7 hg7))
      have hB6 := hB5'.set 1 (.int .i64 ((p : Int) + 8))
      exact ret_name rfl w.heap.size _ _ rfl rfl hN7 HX.out ⟨rfl, hB6.grown hg7 (fun e => by injection e; omega), grown_own hG hg7 (Nat.le_refl _)⟩
  · have HC : Hid (curN l p bad = (zeroN, p, true)) := if_neg h
    rw [HC.out]
    have hbad : bad = true ∨ (bad = false ∧ decide ((l.length : Int) - (p : Int) < 8) = true ∧ decide (IntKind.i64.wrap ((l.length : Int) - (p : Int)) < 8) = true) := by
      cases bad
      · refine .inr ⟨rfl, ?_, ?_⟩
        · have hh : ¬ p + 8 ≤ l.length := fun e => h ⟨rfl, e⟩; simp; omega
        · have hh : ¬ p + 8 ≤ l.length := fun e => h ⟨rfl, e⟩; rw [IntKind.wrap_i64]; simp; omega
      · exact .inl rfl
    clear h hb hv hcc
    rcases hbad with rfl | ⟨rfl, ht, ht2⟩
    all_goals
      go_enter Try.func111, Try.ntmps111
      go_wp2_with fail
      go_quiet (fail)
      generalize hW : World.drewN _ _ = W1
      have hN1 : Blk W1 w.heap.size 30 (bsv zeroN).toArray := by rw [← hW]; exact (Blk.new w 30 (bsv zeroN).toArray)
      have hV1 : Below w.heap.size w W1 := by rw [← hW]; exact below_drewN (below1 w (.cells (bsv zeroN).toArray 30)) _
      have hB1 := HB.out.below hV1 hz
      clear hW c0 c1 c2 f1 f2
      have hN2 := hN1.other ⟨B, 2, none⟩ (.bool true) (fun e => by simp at e; omega)
      have hB2 := hB1.set 2 (.bool true)
      have hG := grown_set (grown_of_below (r := some B) hV1) 2 (.bool true)
      have f2 := hB1.free 2
      have e2 := hB1.cell 2
      simp at e2
      have HB2 := Lib.hid hB2
      clear hB1 hB2
      go_wp2_with (first
        | (refine wpList_load_name _ rfl (.tmp 2) rfl w.heap.size rfl _ _ hN2 rfl ?_)
        | (refine wpList_store_name _ rfl (.tmp 2) (.tmp 23) rfl w.heap.size rfl _ rfl _ _ hN2 rfl rfl ?_; intro w7 hN7 hg7))
      exact ret_name rfl w.heap.size _ _ rfl rfl hN7 rfl ⟨rfl, HB2.out.grown hg7 (fun e => by injection e; omega), grown_own hG hg7 (Nat.le_refl _)⟩
set_option maxHeartbeats 2000000 in
theorem rcname_any (B : Nat) (l : List Int) (v : Value) (p : Nat) (bad : Bool) (w : World) (hb : Blk w B 164 #[v, .int .i64 p, .bool bad]) (hv : Bs w v l) (hp : p ≤ l.length) :
    Calls Try.prog 190 #[.pointer (some ⟨B, 0, none⟩)] w fun e w' => e = .returned (nv (curN l p bad).1) ∧ Blk w' B 164 #[v, .int .i64 (curN l p bad).2.1, .bool (curN l p bad).2.2] ∧ w.grownBy w' (some B) := by
  have hle := hv.1.le
  have HV := Lib.hid hv
  have HB := Lib.hid hb
  have hz := hb.lt
  obtain ⟨a, cap, rfl, hnc, hcm, _, _, _, hcc⟩ := id hv.1
  unfold maxLen at hcm
  have c0 := hb.cell 0
  have c1 := hb.cell 1
  have c2 := hb.cell 2
  have f2 := hb.free 2
  have f1 := hb.free 1
  simp at c0 c1 c2
  by_cases h : bad = false ∧ p + 8 ≤ l.length
  · obtain ⟨rfl, h8⟩ := h
    have HC : Hid (curN l p false = (cut l p 8, p + 8, false)) := if_pos ⟨rfl, h8⟩
    rw [HC.out]
    obtain ⟨b, o, rfl, _⟩ := hcc (by omega)
    have hD := Bs.drop hv p (by omega)
    have HD := Lib.hid hD
    have hDl : 8 ≤ (l.drop p).length := by rw [List.length_drop]; omega
    have HDl := Lib.hid hDl
    have HX := Lib.hid (cut_len l p 8 h8)
    have ht : decide ((l.length : Int) - (p : Int) < 8) = false := by simp; omega
    have ht2 : decide (IntKind.i64.wrap ((l.length : Int) - (p : Int)) < 8) = false := by rw [IntKind.wrap_i64]; simp; omega
    have hcp : ¬ cap = p := by omega
    have ha8 : IntKind.i64.wrap ((p : Int) + 8) = (p : Int) + 8 := by rw [IntKind.wrap_i64]; omega
    show Calls _ _ _ _ (fun e w' => e = .returned (nv (cut l p 8)) ∧ Blk w' B 164 #[.slice (some ⟨b, o, none⟩) l.length cap, .int .i64 ((p + 8 : Nat) : Int), .bool false] ∧ w.grownBy w' (some B))
    rw [show ((p + 8 : Nat) : Int) = (p : Int) + 8 by omega]
    clear hb hv hcc hD hDl
    go_enter Try.func190, Try.ntmps190
    go_wp2_with fail
    go_quiet (fail)
    go_wp2_with fail
    generalize hW : World.drewN _ _ = W1
    have hN1 : Blk W1 w.heap.size 30 (bsv zeroN).toArray := by rw [← hW]; exact (Blk.new w 30 (bsv zeroN).toArray).old _
    have hM1 : Blk W1 (w.heap.size + 1) 30 (bsv zeroN).toArray := by rw [← hW]; exact (Blk.new' _ 30 (bsv zeroN).toArray (by simp))
    have hV1 : Below w.heap.size w W1 := by rw [← hW]; exact below_drewN (below2 w (.cells (bsv zeroN).toArray 30) (.cells (bsv zeroN).toArray 30)) _
    have hB1 := HB.out.below hV1 hz
    have hD1 := Lib.hid (HD.out.1.below hV1)
    clear hW c0 c1 c2 f1 f2
    have hN1' := Lib.hid hN1
    have hM1' := Lib.hid hM1
    have hB1' := Lib.hid hB1
    have c0 := hB1.cell 0
    have c1 := hB1.cell 1
    have f1 := hB1.free 1
    simp at c0 c1
    go_region_law (refine step_copy_name rfl (.tmp 25) (.tmp 34) rfl _ (l.drop p) rfl (by exact hD1.out.drew) HDl.out (w.heap.size + 1) 8 rfl zeroN rfl _ (by exact hM1'.out.drew) ?_; intro w5 hR5 hB5; have hB5' := hB1'.out.drew.below hB5 (by omega); have d1 := hB5'.cell 1; have g1 := hB5'.free 1; simp at d1)
    all_goals
      have hV5 := hV1.drew.trans (hB5.mono (by simp))
      have hG := grown_far (grown_drew (grown_of_below (r := some B) hV1)) hB5 (by omega)
      have hN5 := hN1.drew.below hB5 (by omega)
      have hR5' : Blk w5 (w.heap.size + 1) 30 (bsv (cut l p 8)).toArray := hR5
      have hB6 := hB5'.set 1 (.int .i64 ((p : Int) + 8))
      have hG6 := grown_set hG 1 (.int .i64 ((p : Int) + 8))
      have hR6 := hR5'.other ⟨B, 1, none⟩ (.int .i64 ((p : Int) + 8)) (fun e => by simp at e; omega)
      have hN6 := hN5.other ⟨B, 1, none⟩ (.int .i64 ((p : Int) + 8)) (fun e => by simp at e; omega)
      have HB6 := Lib.hid hB6
      have HR6 := Lib.hid hR6
      clear hB6 hR5 hR5' hR6
      go_wp2_with (first
        | (refine wpList_load_name _ rfl (.tmp 3) rfl (w.heap.size + 1) rfl _ _ HR6.out HX.out ?_)
        | (refine wpList_store_name _ rfl (.tmp 2) (.tmp 44) rfl w.heap.size rfl _ rfl _ _ hN6 rfl HX.out ?_; intro w7 hN7 hg7))
      exact ret_name rfl w.heap.size _ _ rfl rfl hN7 HX.out ⟨rfl, HB6.out.grown hg7 (fun e => by injection e; omega), grown_own hG6 hg7 (Nat.le_refl _)⟩
  · have HC : Hid (curN l p bad = (zeroN, p, true)) := if_neg h
    rw [HC.out]
    have hbad : bad = true ∨ (bad = false ∧ decide ((l.length : Int) - (p : Int) < 8) = true ∧ decide (IntKind.i64.wrap ((l.length : Int) - (p : Int)) < 8) = true) := by
      cases bad
      · refine .inr ⟨rfl, ?_, ?_⟩
        · have hh : ¬ p + 8 ≤ l.length := fun e => h ⟨rfl, e⟩; simp; omega
        · have hh : ¬ p + 8 ≤ l.length := fun e => h ⟨rfl, e⟩; rw [IntKind.wrap_i64]; simp; omega
      · exact .inl rfl
    clear h hb hv hcc
    rcases hbad with rfl | ⟨rfl, ht, ht2⟩
    all_goals
      go_enter Try.func190, Try.ntmps190
      go_wp2_with fail
      go_quiet (fail)
      generalize hW : World.drewN _ _ = W1
      have hN1 : Blk W1 w.heap.size 30 (bsv zeroN).toArray := by rw [← hW]; exact (Blk.new w 30 (bsv zeroN).toArray).old _
      have hM1 : Blk W1 (w.heap.size + 1) 30 (bsv zeroN).toArray := by rw [← hW]; exact (Blk.new' _ 30 (bsv zeroN).toArray (by simp))
      have hV1 : Below w.heap.size w W1 := by rw [← hW]; exact below_drewN (below2 w (.cells (bsv zeroN).toArray 30) (.cells (bsv zeroN).toArray 30)) _
      have hB1 := HB.out.below hV1 hz
      clear hW c0 c1 c2 f1 f2
      have hN2 := hN1.other ⟨B, 2, none⟩ (.bool true) (fun e => by simp at e; omega)
      have hM2 := hM1.other ⟨B, 2, none⟩ (.bool true) (fun e => by simp at e; omega)
      have hB2 := hB1.set 2 (.bool true)
      have hG := grown_set (grown_of_below (r := some B) hV1) 2 (.bool true)
      have f2 := hB1.free 2
      have e2 := hB1.cell 2
      simp at e2
      have HB2 := Lib.hid hB2
      clear hB1 hB2
      go_wp2_with (first
        | (refine wpList_load_name _ rfl (.tmp 3) rfl (w.heap.size + 1) rfl _ _ hM2 rfl ?_)
        | (refine wpList_store_name _ rfl (.tmp 2) (.tmp 24) rfl w.heap.size rfl _ rfl _ _ hN2 rfl rfl ?_; intro w7 hN7 hg7))
      exact ret_name rfl w.heap.size _ _ rfl rfl hN7 rfl ⟨rfl, HB2.out.grown hg7 (fun e => by injection e; omega), grown_own hG hg7 (Nat.le_refl _)⟩
end
end Go.Proofs.Ytilhceihelcdgaa
