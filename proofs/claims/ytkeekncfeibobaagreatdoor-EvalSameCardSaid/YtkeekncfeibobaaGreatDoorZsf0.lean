/-
  The closed facts of EvalSame's row, one by one (asked of the kernel together they want more than 10 GB).
-/
import Derived.Test.YtkeekncfeibobaaGreatDoorRows
import Derived.ProofKit
namespace Go.Proofs.YtkeekncfeibobaaGreatDoor.evalSame

set_option maxRecDepth 100000
theorem k1 : (Rows.evalSameRow.wf (OpenSpec.ofChange Rows.evalSameSpec)) = true := by kernel_rfl
theorem k5 : (namedTie Tryz.prog Rows.evalSameRow.named Rows.evalSameSpec.vars) = true := by kernel_rfl
theorem k9 : ((Tryz.prog.stopKnobs == [])) = true := by kernel_rfl
theorem k13 : ((Rows.evalSameRow.named == Tryz.prog.varsNamed 3)) = true := by kernel_rfl
theorem k17 : ((Rows.evalSameRow.loops == (Tryz.f3.params.toList ++ Rows.evalSameSpec.plain.varTypes Tryz.prog).any (Tryz.prog.loopsFrom ·))) = true := by kernel_rfl
theorem k21 : ((Rows.evalSameRow.ifacesOut == Tryz.f3.resultTypes.toList.any (Tryz.prog.ifacesRec ·))) = true := by kernel_rfl
theorem k25 : (Tryz.prog.stopsHeard) = true := by kernel_rfl
theorem k29 : ((Rows.evalSameRow.kinds == (if Rows.evalSameRow.domain.isEmpty then [] else Tryz.f3.params.toList.map fun t => match Tryz.prog.underlying t with | some (.int k) => some k | _ => none))) = true := by kernel_rfl
end Go.Proofs.YtkeekncfeibobaaGreatDoor.evalSame
