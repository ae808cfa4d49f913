/-
  The closed facts of EvalPrims's row, one by one (asked of the kernel together they want more than 10 GB).
-/
import Derived.Test.YtkeekncfeibobaaGreatDoorRows
import Derived.ProofKit
namespace Go.Proofs.YtkeekncfeibobaaGreatDoor.evalPrims

set_option maxRecDepth 100000
theorem k2 : (laidOutB Tryz.prog) = true := by kernel_rfl
theorem k6 : ((Rows.evalPrimsRow.stops == [])) = true := by kernel_rfl
theorem k10 : ((Rows.evalPrimsRow.inPlace == Tryz.prog.inPlace 4)) = true := by kernel_rfl
theorem k14 : ((Rows.evalPrimsRow.maps == (Tryz.f4.params.toList ++ Rows.evalPrimsSpec.plain.varTypes Tryz.prog).any (Tryz.prog.mapsRec ·))) = true := by kernel_rfl
theorem k18 : ((Rows.evalPrimsRow.wideKeys == (Tryz.f4.params.toList ++ Rows.evalPrimsSpec.plain.varTypes Tryz.prog ++ Tryz.f4.resultTypes.toList).any (Tryz.prog.wideKeysFrom ·))) = true := by kernel_rfl
theorem k22 : ((Rows.evalPrimsRow.loopsOut == Tryz.f4.resultTypes.toList.any (Tryz.prog.loopsFrom ·))) = true := by kernel_rfl
theorem k26 : (Tryz.prog.mayEnter) = true := by kernel_rfl
theorem k30 : ((Rows.evalPrimsRow.pinned == Rows.evalPrimsRow.pinnedBy)) = true := by kernel_rfl
end Go.Proofs.YtkeekncfeibobaaGreatDoor.evalPrims
