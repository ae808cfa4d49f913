/-
  The closed facts of EvalPrims's row, one by one (asked of the kernel together they want more than 10 GB).
-/
import Derived.Test.YtkeekncfeibobaaGreatDoorRows
import Derived.ProofKit
namespace Go.Proofs.YtkeekncfeibobaaGreatDoor.evalPrims

set_option maxRecDepth 100000
theorem k3 : (mapsRowed Tryz.prog) = true := by kernel_rfl
theorem k7 : ((Tryz.prog.stops == [])) = true := by kernel_rfl
theorem k11 : ((Rows.evalPrimsRow.unfollowed == Tryz.prog.unfollowed 4)) = true := by kernel_rfl
theorem k15 : ((Rows.evalPrimsRow.ifaces == (Tryz.f4.params.toList ++ Rows.evalPrimsSpec.plain.varTypes Tryz.prog).any (Tryz.prog.ifacesRec ·))) = true := by kernel_rfl
theorem k19 : (Rows.evalPrimsSpec.vars.all (Tryz.prog.varReadable ·)) = true := by kernel_rfl
theorem k23 : ((Rows.evalPrimsRow.plainKeys == Tryz.prog.plainKeys)) = true := by kernel_rfl
theorem k27 : ((Rows.evalPrimsRow.lifted == Tryz.prog.liftsFinal)) = true := by kernel_rfl
theorem k31 : ((Rows.evalPrimsRow.veiled == (Tryz.f4.params.toList ++ Rows.evalPrimsSpec.plain.varTypes Tryz.prog ++ Tryz.f4.resultTypes.toList).any (Tryz.prog.veiledRec ·))) = true := by kernel_rfl
end Go.Proofs.YtkeekncfeibobaaGreatDoor.evalPrims
