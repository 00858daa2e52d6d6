/-
  The plain law of many-time signatures: what Sign makes, Verify accepts. Nothing here speaks of the program's steps.
-/
import Derived.Test.YtilhceihelcdgaaKN
import Derived.Test.YtilhceihelcdgaaK1
namespace Go.Proofs.Ytilhceihelcdgaa
open Go.RowKit

theorem owalk_add (a b : Nat) (c f : Int) (x : List Int) : owalk (a + b) c f x = owalk b c (f + a) (owalk a c f x) := by
  induction b with
  | zero => rfl
  | succ b ih =>
    rw [← Nat.add_assoc, owalk, owalk, ih, show f + ((a + b : Nat) : Int) = f + a + b by omega]
theorem row_getD (f : Nat → List Int) (n k : Nat) (d : List Int) (h : k < n) : (row f n).getD k d = f k := by
  rw [List.getD_eq_getElem?_getD, row, List.getElem?_map, List.getElem?_range h]; rfl
theorem odg_le (m : List Int) (hm : IsN m) (c : Nat) (hc : c < 18) : odg m c ≤ 15 := (odg_get hm c hc).2
theorem orec_osig (x m : List Int) (hm : IsN m) : orec m (osig x m) = opub x := by
  unfold orec opub
  refine congrArg oends (List.map_congr_left fun c hc => ?_)
  have hc := List.mem_range.1 hc
  have hd := odg_le m hm c hc
  unfold orecAt oend osig
  rw [row_getD _ _ _ _ hc]
  unfold osigAt
  have := owalk_add (odg m c) (15 - odg m c) c 0 (ostart x c)
  rw [show odg m c + (15 - odg m c) = 15 by omega, Int.zero_add] at this
  exact this.symm
theorem getD_take {α : Type} (l : List α) (i n : Nat) (d : α) (h : i < n) : (l.take n).getD i d = l.getD i d := by
  rw [List.getD_eq_getElem?_getD, List.getD_eq_getElem?_getD, List.getElem?_take, if_pos h]
theorem getD_drop {α : Type} (l : List α) (i n : Nat) (d : α) : (l.drop n).getD i d = l.getD (n + i) d := by
  rw [List.getD_eq_getElem?_getD, List.getD_eq_getElem?_getD, List.getElem?_drop]
theorem getD_snoc {α : Type} (l : List α) (n : Nat) (y d : α) (h : l.length = n) : (l ++ [y]).getD n d = y := by
  rw [List.getD_eq_getElem?_getD, List.getElem?_append_right (by omega), h, Nat.sub_self]; rfl
theorem mfollow_mpath (d : Nat) : ∀ (L : List (List Int)) (i : Int), L.length = 2 ^ d → 0 ≤ i → i < (2 ^ d : Nat) → mfollow d (L.getD i.toNat []) i (mpath d L i) = mroot d L := by
  induction d with
  | zero =>
    intro L i _ h0 h1
    obtain rfl : i = 0 := by simp at h1; omega
    rfl
  | succ d ih =>
    intro L i hL h0 h1
    rw [Nat.pow_succ] at hL h1
    rw [mfollow, mpath, mroot]
    by_cases hi : i < (2 ^ d : Nat)
    · rw [if_pos hi, if_pos hi, getD_snoc _ _ _ _ (mpath_len _ _ _), List.take_left' (mpath_len _ _ _)]
      have := ih (L.take (2 ^ d)) i (by rw [List.length_take]; omega) h0 hi
      rw [getD_take _ _ _ _ (by omega)] at this
      rw [this]
    · rw [if_neg hi, if_neg hi, getD_snoc _ _ _ _ (mpath_len _ _ _), List.take_left' (mpath_len _ _ _)]
      have := ih (L.drop (2 ^ d)) (i - (2 ^ d : Nat)) (by rw [List.length_drop]; omega) (by omega) (by omega)
      rw [getD_drop, show 2 ^ d + (i - (2 ^ d : Nat)).toNat = i.toNat by omega] at this
      rw [this]
theorem namesAt_mid (A B : List Int) (L : List (List Int)) (hL : ∀ x ∈ L, IsN x) (p n : Nat) (hp : A.length = p) (hn : L.length = n) : namesAt (A ++ (L.flatten ++ B)) p n = L := by
  refine List.ext_getElem ((row_len _ _).trans hn.symm) fun k h1 h2 => ?_
  have hk : (namesAt (A ++ (L.flatten ++ B)) p n)[k] = cut (A ++ (L.flatten ++ B)) (p + 8 * k) 8 := by
    simp [namesAt, row]
  have hd : (L.drop k).flatten = L.flatten.drop (k * 8) := flatten_drop hL k
  have hl : k * 8 ≤ L.flatten.length := by rw [flatten_len hL]; omega
  rw [hk]
  unfold cut
  rw [List.drop_append, List.drop_eq_nil_of_le (by omega), List.nil_append, show p + 8 * k - A.length = k * 8 by omega, List.drop_append_of_le_length hl, ← hd, List.drop_eq_getElem_cons h2, List.flatten_cons, List.append_assoc]
  exact List.take_left' (hL _ (List.getElem_mem h2)).1

/-- The part of a signature by key j of a tree. -/
def psig (x m : List Int) (l t : Int) (j : Nat) : List Int := (osig (okey x l t j) m).flatten ++ (mpath 5 (otree x l t) j).flatten
theorem osig_len (x m : List Int) : (osig x m).length = 18 := row_len _ _
theorem osig_isN (x m : List Int) : ∀ y ∈ osig x m, IsN y := row_isN (osigAt_isN x m) 18
theorem psig_len (x m : List Int) (l t : Int) (j : Nat) : (psig x m l t j).length = 184 := by
  unfold psig
  rw [List.length_append, flatten_len (osig_isN _ _), flatten_len (mpath_isN _ _ _), osig_len, mpath_len]
theorem psig_byt (x m : List Int) (l t : Int) (j : Nat) : Byt (psig x m l t j) := (flatten_byt (osig_isN _ _)).append (flatten_byt (mpath_isN _ _ _))
/-- The signature of m by a leaf. -/
def msig (x : List Int) (l : Int) (leaf : Nat) (m : List Int) : List Int :=
  beB leaf 2 ++ (psig x m 1 (leaf / 32 : Nat) (leaf % 32) ++ if l = 2 then psig x (mroot 5 (otree x 1 (leaf / 32 : Nat))) 2 0 (leaf / 32) else [])
def mclimb (s : List Int) (p : Nat) (j : Int) (m : List Int) : List Int := mfollow 5 (orec m (namesAt s p 18)) j (namesAt s (p + 144) 5)
theorem mclimb_isN (s : List Int) (p : Nat) (j : Int) (m : List Int) : IsN (mclimb s p j m) := mfollow_isN _ _ _ _
def mtop (l : Int) (m s : List Int) : List Int := if l = 2 then mclimb s 186 (leafOf s / 32) (mclimb s 2 (leafOf s % 32) m) else mclimb s 2 (leafOf s % 32) m
def mver (P : List Int) (l : Int) (m s : List Int) : Bool := (decide (l = 1 ∨ l = 2) && decide ((s.length : Int) = sizeOf l) && decide (leafOf s < capOf l)) && decide (mtop l m s = P)

theorem otree_getD (x : List Int) (l t : Int) (j : Nat) (h : j < 32) : (otree x l t).getD j [] = opub (okey x l t j) := row_getD _ _ _ _ h
theorem mclimb_psig (A B x m : List Int) (l t : Int) (j p : Nat) (hj : j < 32) (hp : A.length = p) (hm : IsN m) : mclimb (A ++ (psig x m l t j ++ B)) p j m = mroot 5 (otree x l t) := by
  have h1 : namesAt (A ++ (psig x m l t j ++ B)) p 18 = osig (okey x l t j) m := by
    unfold psig
    rw [List.append_assoc]
    exact namesAt_mid A _ _ (osig_isN _ _) p 18 hp (osig_len _ _)
  have h2 : namesAt (A ++ (psig x m l t j ++ B)) (p + 144) 5 = mpath 5 (otree x l t) j := by
    unfold psig
    rw [List.append_assoc, ← List.append_assoc]
    exact namesAt_mid _ _ _ (mpath_isN _ _ _) _ _ (by rw [List.length_append, flatten_len (osig_isN _ _), osig_len, hp]) (mpath_len _ _ _)
  unfold mclimb
  rw [h1, h2, orec_osig _ _ hm, ← otree_getD x l t j hj]
  have := mfollow_mpath 5 (otree x l t) (j : Int) (otree_len _ _ _) (by omega) (by omega)
  rwa [show ((j : Int).toNat) = j by omega] at this
theorem msig_len (x : List Int) (l : Int) (leaf : Nat) (m : List Int) (hl : l = 1 ∨ l = 2) : ((msig x l leaf m).length : Int) = sizeOf l := by
  unfold msig sizeOf
  rw [List.length_append, List.length_append, beB_len, psig_len]
  rcases hl with rfl | rfl
  · simp
  · simp [psig_len]
theorem msig_byt (x : List Int) (l : Int) (leaf : Nat) (m : List Int) : Byt (msig x l leaf m) := by
  unfold msig
  refine (beB_byt _ _).append ((psig_byt _ _ _ _ _).append ?_)
  split
  · exact psig_byt _ _ _ _ _
  · exact Byt.nil
theorem leafOf_beB (n : Nat) (B : List Int) (h : n < 65536) : leafOf (beB n 2 ++ B) = n := by
  simp [leafOf, beB]; omega
theorem msig_leaf (x : List Int) (l : Int) (leaf : Nat) (m : List Int) (h : leaf < 65536) : leafOf (msig x l leaf m) = leaf := leafOf_beB _ _ h
theorem mtop_msig (x : List Int) (l : Int) (leaf : Nat) (m : List Int) (hl : l = 1 ∨ l = 2) (h : (leaf : Int) < capOf l) (hm : IsN m) : mtop l m (msig x l leaf m) = mroot 5 (otree x l 0) := by
  have hc : leaf < 1024 := by rcases hl with rfl | rfl <;> simp [capOf] at h <;> omega
  have h1 := mclimb_psig (beB leaf 2) (if l = 2 then psig x (mroot 5 (otree x 1 (leaf / 32 : Nat))) 2 0 (leaf / 32) else []) x m 1 (leaf / 32 : Nat) (leaf % 32) 2 (Nat.mod_lt _ (by omega)) (beB_len _ _) hm
  have e1 : ((leaf % 32 : Nat) : Int) = leafOf (msig x l leaf m) % 32 := by rw [msig_leaf _ _ _ _ (by omega)]; omega
  have e2 : ((leaf / 32 : Nat) : Int) = leafOf (msig x l leaf m) / 32 := by rw [msig_leaf _ _ _ _ (by omega)]; omega
  have h1' : mclimb (msig x l leaf m) 2 (leafOf (msig x l leaf m) % 32) m = mroot 5 (otree x 1 (leaf / 32 : Nat)) := by rw [← e1]; exact h1
  unfold mtop
  rw [h1']
  rcases hl with rfl | rfl
  · rw [if_neg (by omega)]
    have : leaf / 32 = 0 := by simp [capOf] at h; omega
    rw [this]; rfl
  · rw [if_pos rfl, ← e2]
    have h2 := mclimb_psig (beB leaf 2 ++ psig x m 1 (leaf / 32 : Nat) (leaf % 32)) [] x (mroot 5 (otree x 1 (leaf / 32 : Nat))) 2 0 (leaf / 32) 186 (by omega) (by rw [List.length_append, beB_len, psig_len]) (mroot_isN _ _)
    rw [List.append_nil, List.append_assoc] at h2
    exact h2
/-- What Sign makes, Verify accepts. -/
theorem mver_msig (x : List Int) (l : Int) (leaf : Nat) (m : List Int) (hl : l = 1 ∨ l = 2) (h : (leaf : Int) < capOf l) (hm : IsN m) : mver (mpub x l) l m (msig x l leaf m) = true := by
  have hc : leaf < 1024 := by rcases hl with rfl | rfl <;> simp [capOf] at h <;> omega
  have hp : mpub x l = mroot 5 (otree x l 0) := if_pos (by omega)
  unfold mver
  rw [mtop_msig x l leaf m hl h hm, msig_len x l leaf m hl, msig_leaf _ _ _ _ (by omega), hp]
  simp [hl, h]
end Go.Proofs.Ytilhceihelcdgaa
