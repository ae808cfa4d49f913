/-
  The closed facts of the row, together.
-/
import Derived.Test.YtkeekncfeibobaaGreatDoorZsf0
import Derived.Test.YtkeekncfeibobaaGreatDoorZsf1
import Derived.Test.YtkeekncfeibobaaGreatDoorZsf2
import Derived.Test.YtkeekncfeibobaaGreatDoorZsf3
namespace Go.Proofs.YtkeekncfeibobaaGreatDoor.evalSame

theorem and_i {a b : Bool} (ha : a = true) (hb : b = true) : (a && b) = true := by rw [ha, hb]; rfl
set_option maxRecDepth 100000 in
theorem closed : joinedFacts Tryz.prog 3 Tryz.f3 Rows.evalSameSpec Rows.evalSameRow = true := by
  unfold joinedFacts
  exact and_i (and_i (and_i (and_i (and_i (and_i (and_i (and_i (and_i (and_i (and_i (and_i (and_i (and_i (and_i (and_i (and_i (and_i (and_i (and_i (and_i (and_i (and_i (and_i (and_i (and_i (and_i (and_i (and_i (and_i (and_i k1 k2) k3) k4) k5) k6) k7) k8) k9) k10) k11) k12) k13) k14) k15) k16) k17) k18) k19) k20) k21) k22) k23) k24) k25) k26) k27) k28) k29) k30) k31) k32
end Go.Proofs.YtkeekncfeibobaaGreatDoor.evalSame
