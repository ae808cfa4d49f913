/-
  The closed facts of EvalSame's row, one by one (asked of the kernel together they want more than 10 GB).
-/
import Derived.Test.YtkeekncfeibobaaGreatDoorRows
import Derived.ProofKit
namespace Go.Proofs.YtkeekncfeibobaaGreatDoor.evalSame

set_option maxRecDepth 100000
theorem k2 : (laidOutB Tryz.prog) = true := by kernel_rfl
theorem k6 : ((Rows.evalSameRow.stops == [])) = true := by kernel_rfl
theorem k10 : ((Rows.evalSameRow.inPlace == Tryz.prog.inPlace 3)) = true := by kernel_rfl
theorem k14 : ((Rows.evalSameRow.maps == (Tryz.f3.params.toList ++ Rows.evalSameSpec.plain.varTypes Tryz.prog).any (Tryz.prog.mapsRec ·))) = true := by kernel_rfl
theorem k18 : ((Rows.evalSameRow.wideKeys == (Tryz.f3.params.toList ++ Rows.evalSameSpec.plain.varTypes Tryz.prog ++ Tryz.f3.resultTypes.toList).any (Tryz.prog.wideKeysFrom ·))) = true := by kernel_rfl
theorem k22 : ((Rows.evalSameRow.loopsOut == Tryz.f3.resultTypes.toList.any (Tryz.prog.loopsFrom ·))) = true := by kernel_rfl
theorem k26 : (Tryz.prog.mayEnter) = true := by kernel_rfl
theorem k30 : ((Rows.evalSameRow.pinned == Rows.evalSameRow.pinnedBy)) = true := by kernel_rfl
end Go.Proofs.YtkeekncfeibobaaGreatDoor.evalSame
