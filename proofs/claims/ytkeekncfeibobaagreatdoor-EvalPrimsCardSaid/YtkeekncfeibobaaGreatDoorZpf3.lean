/-
  The closed facts of EvalPrims's row, one by one (asked of the kernel together they want more than 10 GB).
-/
import Derived.Test.YtkeekncfeibobaaGreatDoorRows
import Derived.ProofKit
namespace Go.Proofs.YtkeekncfeibobaaGreatDoor.evalPrims

set_option maxRecDepth 100000
theorem k4 : (Tryz.f4.params.all (Tryz.prog.readableRec ·)) = true := by kernel_rfl
theorem k8 : ((Rows.evalPrimsRow.knobs == [])) = true := by kernel_rfl
theorem k12 : ((Rows.evalPrimsRow.recurses == Tryz.prog.recurses 4)) = true := by kernel_rfl
theorem k16 : ((Rows.evalPrimsRow.mapsOut == Tryz.prog.mapsAmong Tryz.f4.resultTypes.toList)) = true := by kernel_rfl
theorem k20 : (Tryz.f4.resultTypes.all (fun t => Tryz.prog.readableRec t && decide (t < Tryz.prog.types.size))) = true := by kernel_rfl
theorem k24 : (Rows.evalPrimsRow.shortTexts.isNone) = true := by kernel_rfl
theorem k28 : ((Tryz.prog.make == some Rows.evalPrimsRow.make)) = true := by kernel_rfl
theorem k32 : (Rows.evalPrimsRow.veiledFits Tryz.prog Tryz.f4.params.toList (Tryz.f4.params.toList ++ Rows.evalPrimsSpec.plain.varTypes Tryz.prog ++ Tryz.f4.resultTypes.toList)) = true := by kernel_rfl
end Go.Proofs.YtkeekncfeibobaaGreatDoor.evalPrims
