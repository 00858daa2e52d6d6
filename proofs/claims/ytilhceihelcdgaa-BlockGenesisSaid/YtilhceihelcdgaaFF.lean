/-
  The closed facts of a row of this seat, those that speak of the program alone proved once.
-/
import Derived.Test.YtilhceihelcdgaaRows
import Derived.Test.YtilhceihelcdgaaF
import Derived.Test.YtilhceihelcdgaaFW
import Derived.JoinedOf
namespace Go.Proofs.Ytilhceihelcdgaa

theorem pf2 : mapsRowed Try.prog = true := by kernel_rfl
theorem pf6 : (Try.prog.stops == []) = true := by kernel_rfl
theorem pf8 : (Try.prog.stopKnobs == []) = true := by kernel_rfl
theorem pf24 : Try.prog.stopsHeard = true := by kernel_rfl

theorem and_i {a b : Bool} (ha : a = true) (hb : b = true) : (a && b) = true := by rw [ha, hb]; rfl
set_option maxRecDepth 100000 in
theorem joined_of {f : FuncId} {fn : Func} {s : ChangeSpec} {c : OpenClaim} (h0 : c.wf (OpenSpec.ofChange s) = true) (h3 : fn.params.all (Try.prog.readableRec ·) = true) (h4 : namedTie Try.prog c.named s.vars = true)
    (h5 : (c.stops == []) = true) (h7 : (c.knobs == []) = true) (h9 : (c.inPlace == Try.prog.inPlace f) = true) (h10 : (c.unfollowed == Try.prog.unfollowed f) = true) (h11 : (c.recurses == Try.prog.recurses f) = true) (h12 : (c.named == Try.prog.varsNamed f) = true)
    (h13 : (c.maps == (fn.params.toList ++ s.plain.varTypes Try.prog).any (Try.prog.mapsRec ·)) = true) (h14 : (c.ifaces == (fn.params.toList ++ s.plain.varTypes Try.prog).any (Try.prog.ifacesRec ·)) = true) (h15 : (c.mapsOut == Try.prog.mapsAmong fn.resultTypes.toList) = true)
    (h16 : (c.loops == (fn.params.toList ++ s.plain.varTypes Try.prog).any (Try.prog.loopsFrom ·)) = true) (h17 : (c.wideKeys == (fn.params.toList ++ s.plain.varTypes Try.prog ++ fn.resultTypes.toList).any (Try.prog.wideKeysFrom ·)) = true)
    (h18 : s.vars.all (Try.prog.varReadable ·) = true) (h19 : fn.resultTypes.all (fun t => Try.prog.readableRec t && decide (t < Try.prog.types.size)) = true) (h20 : (c.ifacesOut == fn.resultTypes.toList.any (Try.prog.ifacesRec ·)) = true) (h21 : (c.loopsOut == fn.resultTypes.toList.any (Try.prog.loopsFrom ·)) = true)
    (h22 : (c.plainKeys == Try.prog.plainKeys) = true) (h23 : c.shortTexts.isNone = true) (h26 : c.lifted = false) (h27 : c.make = .cut)
    (h28 : (c.kinds == (if c.domain.isEmpty then [] else fn.params.toList.map fun t => match Try.prog.underlying t with | some (.int k) => some k | _ => none)) = true) (h29 : (c.pinned == c.pinnedBy) = true)
    (h30 : (c.veiled == (fn.params.toList ++ s.plain.varTypes Try.prog ++ fn.resultTypes.toList).any (Try.prog.veiledRec ·)) = true) (h31 : c.veiledFits Try.prog fn.params.toList (fn.params.toList ++ s.plain.varTypes Try.prog ++ fn.resultTypes.toList) = true) :
    joinedFacts Try.prog f fn s c = true := by
  have g26 : (c.lifted == Try.prog.liftsFinal) = true := by rw [h26, pf26]; rfl
  have g27 : (Try.prog.make == some c.make) = true := by rw [h27, pf27]; rfl
  unfold joinedFacts
  exact (and_i (and_i (and_i (and_i (and_i (and_i (and_i (and_i (and_i (and_i (and_i (and_i (and_i (and_i (and_i (and_i (and_i (and_i (and_i (and_i (and_i (and_i (and_i (and_i (and_i (and_i (and_i (and_i (and_i (and_i (and_i h0 laidOut) pf2) h3) h4) h5) pf6) h7) pf8) h9) h10) h11) h12) h13) h14) h15) h16) h17) h18) h19) h20) h21) h22) h23) pf24) pf25) g26) g27) h28) h29) h30) h31)
end Go.Proofs.Ytilhceihelcdgaa
