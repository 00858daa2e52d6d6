/-
  The words of the program's head, read one by one: the door that the rows of this seat ask for, and the make of the translation.
-/
import Derived.Test.YtilhceihelcdgaaRows
import Derived.KernelRfl
namespace Go.Proofs.Ytilhceihelcdgaa

theorem ws_word : ∀ (w : List Char), (∀ c ∈ w, c ≠ Char.ofNat 32) → ∀ r, wordsSigns (w ++ Char.ofNat 32 :: r) = w :: wordsSigns r
  | [], _, _ => rfl
  | c :: w, h, r => by
    have hc : c ≠ Char.ofNat 32 := h c (List.mem_cons_self ..)
    have ih := ws_word w (fun x hx => h x (List.mem_cons_of_mem _ hx)) r
    rw [List.cons_append]
    rw [wordsSigns]
    · rw [ih]
    · exact fun e => hc e
def headA : List Nat := [104,97,114,110,101,115,115]
def headB : List Nat := [56,102,55,102,48,98,54,98,101,101,52,53,100,98,98,54,97,53,102,51,98,48,51,101,98,53,98,54,56,53,53,99,48,102,48,48,97,99,102,51,54,100,102,49,98,48,54,97,99,52,101,55,52,53,54,50,52,101,97,102,54,57,101,101]
def headC : List Nat := [99,117,116]
def headR : List Nat := [97,116,32,102,111,114,107,108,101,100,103,101,114,47,102,111,114,107,108,101,100,103,101,114,108,97,119,53,46,77,97,110,121,116,105,109,101,83,105,122,101,115,32,102,111,114,107,108,101,100,103,101,114,47,102,111,114,107,108,101,100,103,101,114,108,97,119,53,46,77,97,110,121,116,105,109,101,86,101,114,105,102,105,101,115,32,102,111,114,107,108,101,100,103,101,114,47,102,111,114,107,108,101,100,103,101,114,108,97,119,53,46,77,97,110,121,116,105,109,101,83,105,103,110,115,32,102,111,114,107,108,101,100,103,101,114,47,102,111,114,107,108,101,100,103,101,114,108,97,119,53,46,77,97,110,121,116,105,109,101,75,101,121,115,32,102,111,114,107,108,101,100,103,101,114,47,102,111,114,107,108,101,100,103,101,114,108,97,119,53,46,77,97,110,121,116,105,109,101,65,99,99,101,112,116,115,32,102,111,114,107,108,101,100,103,101,114,47,102,111,114,107,108,101,100,103,101,114,108,97,119,53,46,77,97,110,121,116,105,109,101,65,112,97,114,116,32,102,111,114,107,108,101,100,103,101,114,47,102,111,114,107,108,101,100,103,101,114,108,97,119,50,52,46,66,108,111,99,107,78,97,109,101,115,32,102,111,114,107,108,101,100,103,101,114,47,102,111,114,107,108,101,100,103,101,114,108,97,119,50,52,46,66,108,111,99,107,80,97,121,108,111,97,100,32,102,111,114,107,108,101,100,103,101,114,47,102,111,114,107,108,101,100,103,101,114,108,97,119,50,52,46,66,108,111,99,107,66,108,111,99,107,32,102,111,114,107,108,101,100,103,101,114,47,102,111,114,107,108,101,100,103,101,114,108,97,119,50,52,46,66,108,111,99,107,71,101,110,101,115,105,115,32,102,111,114,107,108,101,100,103,101,114,47,102,111,114,107,108,101,100,103,101,114,108,97,119,50,48,46,84,120,69,110,99,111,100,101,32,102,111,114,107,108,101,100,103,101,114,47,102,111,114,107,108,101,100,103,101,114,108,97,119,50,48,46,84,120,68,101,99,111,100,101,32,102,111,114,107,108,101,100,103,101,114,47,102,111,114,107,108,101,100,103,101,114,108,97,119,50,48,46,84,120,84,114,117,110,99,97,116,101,100,32,102,111,114,107,108,101,100,103,101,114,47,102,111,114,107,108,101,100,103,101,114,108,97,119,50,48,46,84,120,69,113,117,97,108,32,102,111,114,107,108,101,100,103,101,114,47,102,111,114,107,108,101,100,103,101,114,108,97,119,50,48,46,84,120,86,97,108,105,100,97,116,101,32,102,111,114,107,108,101,100,103,101,114,47,102,111,114,107,108,101,100,103,101,114,108,97,119,52,49,46,83,99,114,105,112,116,67,111,110,102,105,103,115,32,102,111,114,107,108,101,100,103,101,114,47,102,111,114,107,108,101,100,103,101,114,108,97,119,52,49,46,83,99,114,105,112,116,69,113,117,97,108]
theorem init_eq : Try.prog.initOrder = String.ofList (headA.map Char.ofNat ++ Char.ofNat 32 :: (headB.map Char.ofNat ++ Char.ofNat 32 :: (headC.map Char.ofNat ++ Char.ofNat 32 :: headR.map Char.ofNat))) := by kernel_rfl
theorem init_words : ∃ R, behindMainWord (wordsSigns Try.prog.initOrder.toList) = headC.map Char.ofNat :: R := by
  refine ⟨wordsSigns (headR.map Char.ofNat), ?_⟩
  rw [init_eq, String.toList_ofList, ws_word _ (by decide), ws_word _ (by decide), ws_word _ (by decide)]
  generalize wordsSigns (headR.map Char.ofNat) = R
  kernel_rfl
theorem make_of {P : Program} {R : List (List Char)} (h : behindMainWord (wordsSigns P.initOrder.toList) = headC.map Char.ofNat :: R) : P.make = some .cut := by
  unfold Program.make
  rw [h]
  kernel_rfl
theorem lifts_of {P : Program} {R : List (List Char)} (h : behindMainWord (wordsSigns P.initOrder.toList) = headC.map Char.ofNat :: R) : P.liftsFinal = false := by
  unfold Program.liftsFinal Program.headLifts
  rw [h]
  kernel_rfl
theorem enter_of {P : Program} {R : List (List Char)} (h : behindMainWord (wordsSigns P.initOrder.toList) = headC.map Char.ofNat :: R) (h1 : P.laysLater = false) (h2 : P.bearsReflect = false) (h3 : P.doorFits [] = true) : P.mayEnter = true := by
  have e : ∀ r, stripLifts liftWords (headC.map Char.ofNat :: r) = ([], headC.map Char.ofNat :: r) := fun r => by kernel_rfl
  unfold Program.mayEnter
  rw [h]
  simp only [e, h1, h2, h3]
  show _ = _
  kernel_rfl
theorem later0 : Try.prog.laysLater = false := by kernel_rfl
theorem reflect0 : Try.prog.bearsReflect = false := by kernel_rfl
theorem door0 : Try.prog.doorFits [] = true := by kernel_rfl
theorem pf25 : Try.prog.mayEnter = true := by
  obtain ⟨R, hR⟩ := init_words
  exact enter_of hR later0 reflect0 door0
theorem pf26 : Try.prog.liftsFinal = false := by
  obtain ⟨R, hR⟩ := init_words
  exact lifts_of hR
theorem pf27 : Try.prog.make = some .cut := by
  obtain ⟨R, hR⟩ := init_words
  exact make_of hR
end Go.Proofs.Ytilhceihelcdgaa
