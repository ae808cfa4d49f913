/-
  The closed facts of EvalPrims's row, one by one (asked of the kernel together they want more than 10 GB).
-/
import Derived.Test.YtkeekncfeibobaaGreatDoorRows
import Derived.ProofKit
namespace Go.Proofs.YtkeekncfeibobaaGreatDoor.evalPrims

set_option maxRecDepth 100000
theorem k1 : (Rows.evalPrimsRow.wf (OpenSpec.ofChange Rows.evalPrimsSpec)) = true := by kernel_rfl
theorem k5 : (namedTie Tryz.prog Rows.evalPrimsRow.named Rows.evalPrimsSpec.vars) = true := by kernel_rfl
theorem k9 : ((Tryz.prog.stopKnobs == [])) = true := by kernel_rfl
theorem k13 : ((Rows.evalPrimsRow.named == Tryz.prog.varsNamed 4)) = true := by kernel_rfl
theorem k17 : ((Rows.evalPrimsRow.loops == (Tryz.f4.params.toList ++ Rows.evalPrimsSpec.plain.varTypes Tryz.prog).any (Tryz.prog.loopsFrom ·))) = true := by kernel_rfl
theorem k21 : ((Rows.evalPrimsRow.ifacesOut == Tryz.f4.resultTypes.toList.any (Tryz.prog.ifacesRec ·))) = true := by kernel_rfl
theorem k25 : (Tryz.prog.stopsHeard) = true := by kernel_rfl
theorem k29 : ((Rows.evalPrimsRow.kinds == (if Rows.evalPrimsRow.domain.isEmpty then [] else Tryz.f4.params.toList.map fun t => match Tryz.prog.underlying t with | some (.int k) => some k | _ => none))) = true := by kernel_rfl
end Go.Proofs.YtkeekncfeibobaaGreatDoor.evalPrims
