/-
  The law of New: for all integers and operations the law HeapNew returns true, and nothing that was there is changed. No conditions.
-/
import Derived.Test.YtelghmmcbgfjnaaGreatRows
import Derived.Test.YtelghmmcbgfjnaaGreatH24
import Derived.Test.YtelghmmcbgfjnaaGreatH24
import Derived.WalkKit
import Derived.ProofKit
import Derived.OpenShut
import Derived.ShutString
import Derived.ChangeOld
import Derived.Below
namespace Go.Proofs.YtelghmmcbgfjnaaGreat.heapNew
open Go.ChangeShapes Go.WideShapes Go.ChangeAt Go.RowKit
open Go.ChangeMaps (open_string shut_string)
set_option linter.unusedVariables false

theorem own : ownKnob Tryz.prog.godebug = none := by kernel_rfl
theorem laidOut : laidOutB Tryz.prog = true := by kernel_rfl

/-! ### STEP 1: THE WALK -/
theorem walk (a0 a1 k a b : Int) (x : Option Addr) (n c : Nat) (cs : List Wd) (w : World) (w2 : CellsAt w x n cs) :
    Calls Tryz.prog 6 #[.int .i64 a0, .int .i64 a1, .agg #[.int .i64 k, .int .i64 a, .int .i64 b, .slice x n c]] w fun e w' => e = .returned (.bool true) ∧ Below w.heap.size w w' := by
  refine (heapNew_any w a0 a1 k a b c w2).mono ?_
  rintro e w' ⟨rfl, hC⟩
  exact ⟨rfl, ⟨hC.os, hC.tape, hC.output, hC.size, fun k hk => hC.block k hk fun h => h⟩⟩

/-! ### THE ROW's STEP: WRITTEN OUT: LEAVE IT -/
set_option maxRecDepth 100000 in
theorem lifted (os : Os) (started : os.Started) (H : Type) (enc : TypeId × Value → H) :
    ReturnsInHanded {} Tryz.checked os 6 .any (Rows.heapNewSpec.pre6 enc Tryz.prog Tryz.f6 Rows.heapNewRow.domain false) (Rows.heapNewSpec.post enc Tryz.prog Tryz.f6 false true false false) := by
  refine returnsInHanded_of_change_sized (C := Tryz.checked) own started (by kernel_rfl) Tryz.func6
    (ChangeSpec.witness6 (enc := enc) (C := Tryz.checked) false ⟨#[], #[.int .i64 0, .int .i64 0, .agg #[.int .i64 0, .int .i64 0, .int .i64 0, .slice none 0 0]], []⟩ 8 (by kernel_rfl) (by kernel_rfl) (by kernel_rfl) (by kernel_rfl)) ?_
  intro W base args ds gs before hval0 hW hcnd hsz0 _
  have hsz : (DataW.weightsEach Tryz.prog (Tryz.f6.params.toList ++ Rows.heapNewSpec.plain.varTypes Tryz.prog) (ds ++ gs)).all (· ≤ reachBytes) = true := hsz0
  clear hsz0
  have hval : ∀ (j : Nat) t v, Tryz.f6.params[j]? = some t → args[j]? = some v → Value.okWide Tryz.prog W .any base t v := hval0
  have hW' := hW
  obtain ⟨p, q, hA0, hV, rfl, hfz, hnd⟩ := hW
  have hA : DataW.TrodAll enc Tryz.prog W 0 (fun _ => true) true Tryz.f6.params.toList args.toList ds p := hA0
  rw [Tryz.params6] at hA hval hsz
  obtain ⟨v0, vs0, d0, ds0, p0, q0, hargs, rfl, rfl, h0, r0⟩ := trodAll_cons hA
  obtain ⟨v1, vs1, d1, ds1, p1, q1, rfl, rfl, rfl, h1, r1⟩ := trodAll_cons r0
  obtain ⟨v2, vs2, d2, ds2, p2, q2, rfl, rfl, rfl, h2, r2⟩ := trodAll_cons r1
  obtain ⟨rfl, rfl, rfl⟩ := trodAll_nil r2
  obtain rfl : args = #[v0, v1, v2] := by cases args; simp_all
  obtain ⟨rfl, rfl⟩ := trodVars_none hV
  obtain ⟨a0, rfl, rfl, rfl, w0⟩ := open_int Tryz.underlying3 (hval 0 3 v0 rfl rfl) h0
  obtain ⟨a1, rfl, rfl, rfl, w1⟩ := open_int Tryz.underlying3 (hval 1 3 v1 rfl rfl) h1
  obtain ⟨vs, rfl, hvs⟩ := okWide_struct Tryz.underlying33 (hval 2 33 v2 rfl rfl)
  have k2 := h2
  have lt2 : ∀ x ∈ p2, x.block < W.heap.size := by obtain ⟨m, hm⟩ := k2; exact DataW.trod_lt m _ _ _ hm
  obtain ⟨k, a, b, x, n, c, ws, rfl, w2⟩ : ∃ k a b x n c ws, vs = #[.int .i64 k, .int .i64 a, .int .i64 b, .slice x n c] ∧ CellsAt W x n ws := by
    obtain ⟨fuel, hf⟩ := h2
    obtain ⟨k, a, b, x, n, c, ws, hcs, hw, _⟩ := reads_op hf fun z hz => of_decide_eq_true (List.all_eq_true.1 hsz z (DataW.weights_mem_each (j := 2) (t := 33) (d := d2) rfl rfl z hz))
    refine ⟨k, a, b, x, n, c, ws, ?_, hw⟩
    have hc : vs.toList = [.int .i64 k, .int .i64 a, .int .i64 b, .slice x n c] := hcs
    rw [← Array.toArray_toList (xs := vs), hc]
  clear hA0 hval0
  refine (walk a0 a1 k a b x n c ws W w2).mono fun e W' ⟨he, bel⟩ => ?_
  subst he
  exact ⟨_, rfl, _, _, _, [], _, [], hW', trodAll_mk1 (shut_bool Tryz.underlying4 _), (trodAll_cons_mk (shut_int Tryz.underlying3 w0) (trodAll_cons_mk (shut_int Tryz.underlying3 w1) (trodAll_cons_mk (Below.trod laidOut (by kernel_rfl) (of_decide_eq_true (by kernel_rfl)) k2 bel lt2) trodAll_mk0))), rfl, bel.frame _, fun h => by cases h⟩

theorem over : Rows.heapNewRow.holds Tryz.pinned (OpenSpec.ofChange Rows.heapNewSpec) :=
  OpenClaim.holds_of_wide 6 Tryz.f6 rfl rfl rfl rfl rfl rfl rfl ⟨rfl, rfl, rfl, rfl, rfl⟩ rfl rfl rfl rfl rfl (by kernel_rfl) Tryz.func6 (by kernel_rfl)
    (of_decide_eq_true (by kernel_rfl)) (by unfold Func.isWrapper; first | (rw [if_pos (by decide +kernel)]; kernel_rfl) | (rw [if_neg (by decide +kernel)]; exact ⟨rfl, rfl⟩))
    (fun os started H enc _ => lifted os started H enc)

end Go.Proofs.YtelghmmcbgfjnaaGreat.heapNew

namespace Go.Proofs.YtelghmmcbgfjnaaGreat
/-- The statement. -/
theorem heapNew_holds : Rows.HeapNewSaid := heapNew.over
#print axioms heapNew_holds
end Go.Proofs.YtelghmmcbgfjnaaGreat
