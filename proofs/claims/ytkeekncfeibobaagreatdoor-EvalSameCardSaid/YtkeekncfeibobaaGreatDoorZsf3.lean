/-
  The closed facts of EvalSame's row, one by one (asked of the kernel together they want more than 10 GB).
-/
import Derived.Test.YtkeekncfeibobaaGreatDoorRows
import Derived.ProofKit
namespace Go.Proofs.YtkeekncfeibobaaGreatDoor.evalSame

set_option maxRecDepth 100000
theorem k4 : (Tryz.f3.params.all (Tryz.prog.readableRec ·)) = true := by kernel_rfl
theorem k8 : ((Rows.evalSameRow.knobs == [])) = true := by kernel_rfl
theorem k12 : ((Rows.evalSameRow.recurses == Tryz.prog.recurses 3)) = true := by kernel_rfl
theorem k16 : ((Rows.evalSameRow.mapsOut == Tryz.prog.mapsAmong Tryz.f3.resultTypes.toList)) = true := by kernel_rfl
theorem k20 : (Tryz.f3.resultTypes.all (fun t => Tryz.prog.readableRec t && decide (t < Tryz.prog.types.size))) = true := by kernel_rfl
theorem k24 : (Rows.evalSameRow.shortTexts.isNone) = true := by kernel_rfl
theorem k28 : ((Tryz.prog.make == some Rows.evalSameRow.make)) = true := by kernel_rfl
theorem k32 : (Rows.evalSameRow.veiledFits Tryz.prog Tryz.f3.params.toList (Tryz.f3.params.toList ++ Rows.evalSameSpec.plain.varTypes Tryz.prog ++ Tryz.f3.resultTypes.toList)) = true := by kernel_rfl
end Go.Proofs.YtkeekncfeibobaaGreatDoor.evalSame
