/-
  Facts: a part of the proofs about the given program: contracts of its functions, each with the conditions that stand ahead of its colon.
-/
import Derived.Test.YtenihlicjahjhaaRows
import Derived.Test.YtenihlicjahjhaaChecked
import Derived.ProofKit
import Derived.JoinedOf
set_option linter.unusedVariables false
set_option linter.unusedSimpArgs false
namespace Go.Proofs.Ytenihlicjahjhaa
open Go Go.ChangeShapes Go.WideShapes Go.ChangeAt Go.RowKit

theorem joined_mk {P : Program} {f : FuncId} {fn : Func} {s : ChangeSpec} {c : OpenClaim}
    (a0 : (c.wf (OpenSpec.ofChange s)) = true)
    (a1 : (laidOutB P) = true)
    (a2 : (mapsRowed P) = true)
    (a3 : (fn.params.all (P.readableRec ·)) = true)
    (a4 : (namedTie P c.named s.vars) = true)
    (a5 : ((c.stops == [])) = true)
    (a6 : ((P.stops == [])) = true)
    (a7 : ((c.knobs == [])) = true)
    (a8 : ((P.stopKnobs == [])) = true)
    (a9 : ((c.inPlace == P.inPlace f)) = true)
    (a10 : ((c.unfollowed == P.unfollowed f)) = true)
    (a11 : ((c.recurses == P.recurses f)) = true)
    (a12 : ((c.named == P.varsNamed f)) = true)
    (a13 : ((c.maps == (fn.params.toList ++ s.plain.varTypes P).any (P.mapsRec ·))) = true)
    (a14 : ((c.ifaces == (fn.params.toList ++ s.plain.varTypes P).any (P.ifacesRec ·))) = true)
    (a15 : ((c.mapsOut == P.mapsAmong fn.resultTypes.toList)) = true)
    (a16 : ((c.loops == (fn.params.toList ++ s.plain.varTypes P).any (P.loopsFrom ·))) = true)
    (a17 : ((c.wideKeys == (fn.params.toList ++ s.plain.varTypes P ++ fn.resultTypes.toList).any (P.wideKeysFrom ·))) = true)
    (a18 : (s.vars.all (P.varReadable ·)) = true)
    (a19 : (fn.resultTypes.all (fun t => P.readableRec t && decide (t < P.types.size))) = true)
    (a20 : ((c.ifacesOut == fn.resultTypes.toList.any (P.ifacesRec ·))) = true)
    (a21 : ((c.loopsOut == fn.resultTypes.toList.any (P.loopsFrom ·))) = true)
    (a22 : ((c.plainKeys == P.plainKeys)) = true)
    (a23 : (c.shortTexts.isNone) = true)
    (a24 : (P.stopsHeard) = true)
    (a25 : ((c.veiled == (fn.params.toList ++ s.plain.varTypes P ++ fn.resultTypes.toList).any (P.veiledRec ·))) = true)
    (a26 : (c.veiledFits P fn.params.toList (fn.params.toList ++ s.plain.varTypes P ++ fn.resultTypes.toList)) = true)
    (b0 : P.mayEnter = true) (b1 : (c.lifted == P.liftsFinal) = true) (b2 : (P.make == some c.make) = true)
    (b3 : (c.kinds == (if c.domain.isEmpty then [] else fn.params.toList.map fun t => match P.underlying t with | some (.int k) => some k | _ => none)) = true) (b4 : (c.pinned == c.pinnedBy) = true)
    : joinedFacts P f fn s c = true := by
  simp only [joinedFacts, a0, a1, a2, a3, a4, a5, a6, a7, a8, a9, a10, a11, a12, a13, a14, a15, a16, a17, a18, a19, a20, a21, a22, a23, a24, a25, a26, b0, b1, b2, b4, Bool.true_and, Bool.and_true]
  exact b3

theorem facts_laid : (laidOutB Try.pinned.checked.prog) = true := by kernel_rfl
theorem facts_maps : (mapsRowed Try.pinned.checked.prog) = true := by kernel_rfl
theorem facts_stops : (Try.pinned.checked.prog.stops == []) = true := by kernel_rfl
theorem facts_knobs : (Try.pinned.checked.prog.stopKnobs == []) = true := by kernel_rfl
theorem facts_keys : (true == Try.pinned.checked.prog.plainKeys) = true := by kernel_rfl
theorem facts_enter : Try.pinned.checked.prog.mayEnter = true := by kernel_rfl
theorem facts_heard : Try.pinned.checked.prog.stopsHeard = true := by kernel_rfl
end Go.Proofs.Ytenihlicjahjhaa
