/-
  The closed facts of EvalSame's row, one by one (asked of the kernel together they want more than 10 GB).
-/
import Derived.Test.YtkeekncfeibobaaGreatDoorRows
import Derived.ProofKit
namespace Go.Proofs.YtkeekncfeibobaaGreatDoor.evalSame

set_option maxRecDepth 100000
theorem k3 : (mapsRowed Tryz.prog) = true := by kernel_rfl
theorem k7 : ((Tryz.prog.stops == [])) = true := by kernel_rfl
theorem k11 : ((Rows.evalSameRow.unfollowed == Tryz.prog.unfollowed 3)) = true := by kernel_rfl
theorem k15 : ((Rows.evalSameRow.ifaces == (Tryz.f3.params.toList ++ Rows.evalSameSpec.plain.varTypes Tryz.prog).any (Tryz.prog.ifacesRec ·))) = true := by kernel_rfl
theorem k19 : (Rows.evalSameSpec.vars.all (Tryz.prog.varReadable ·)) = true := by kernel_rfl
theorem k23 : ((Rows.evalSameRow.plainKeys == Tryz.prog.plainKeys)) = true := by kernel_rfl
theorem k27 : ((Rows.evalSameRow.lifted == Tryz.prog.liftsFinal)) = true := by kernel_rfl
theorem k31 : ((Rows.evalSameRow.veiled == (Tryz.f3.params.toList ++ Rows.evalSameSpec.plain.varTypes Tryz.prog ++ Tryz.f3.resultTypes.toList).any (Tryz.prog.veiledRec ·))) = true := by kernel_rfl
end Go.Proofs.YtkeekncfeibobaaGreatDoor.evalSame
