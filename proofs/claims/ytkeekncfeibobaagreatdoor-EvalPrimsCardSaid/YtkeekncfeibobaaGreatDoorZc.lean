/-
  EvalPrims, the tied card: Prim and Operands are as specified for every name and all integers; the law returns true and its arguments read as before. Conditions: the ten listed tables hold what the program's text lays (the card ties them).
  THE CARD out of its row (EvalPrims): the closed facts one by one; 'goesBy' by hand (asked of the kernel as it stands it wants more than 10 GB: that is why TURN says 'her seat fell').
-/
import Derived.Test.YtkeekncfeibobaaGreatDoorCards
import Derived.Test.YtkeekncfeibobaaGreatDoorTie
import Derived.Test.YtkeekncfeibobaaGreatDoorZp
import Derived.SevenTiedAt
namespace Go.Proofs.YtkeekncfeibobaaGreatDoor
open Go
set_option maxRecDepth 100000
theorem none_goes : Tryz.prog.funcs.any Func.goes = false := by kernel_rfl
theorem goes_false (P : Program) (h : P.funcs.any Func.goes = false) (f : FuncId) : P.goes f = false := by
  unfold Program.goes
  rw [h, Bool.and_false, Bool.or_false]
  rw [List.any_eq_false]
  intro g _
  cases hg : P.funcs[g]? with
  | none => simp
  | some fn =>
    have hm := (Array.any_eq_false' ).1 h fn (Array.mem_of_getElem? hg)
    simpa using hm
theorem goesBy_false (c : OpenClaim) (hs : c.start = .entering) : false = c.goesBy Tryz.pinned.checked.prog := by
  unfold OpenClaim.goesBy Program.goesAt Program.goesFrom
  have e : Tryz.pinned.checked.prog = Tryz.prog := rfl
  rw [e, hs]
  show false = ((Tryz.prog.funcNamed c.func).any Tryz.prog.goes || false)
  cases Tryz.prog.funcNamed c.func with
  | none => rfl
  | some f => simp [goes_false Tryz.prog none_goes f]
theorem c2 : Tryz.pinned.checked.prog.mainIs = some (true, "7884e23f85c223a01e44515ee5b09f0633b9d25a5a350cfa383a4bbeace4508f".toList) := by kernel_rfl
theorem c3 : Tryz.prog.funcNamed "skerry/skerrylaw13.EvalPrims" = some 4 := by kernel_rfl
theorem c5 : Tryz.prog.wantsStandIn 9 = false := by kernel_rfl
theorem c5' : Tryz.prog.wantsStandIn 3 = false := by kernel_rfl
theorem c4 : true = Tryz.pinned.checked.prog.looks [] := by kernel_rfl
theorem c1 : OpenClaim.wfByText (OpenSpec.ofChange Rows.evalPrimsSpec) Rows.evalPrimsRow = true := by kernel_rfl
theorem card_of_row (hrow : Rows.EvalPrimsSaid) : Rows.EvalPrimsCardSaid :=
  Claim7.holds_tied_plain_at .later [] [.data, .data, .data, .data, .pinned, .pinned, .pinned, .pinned, .pinned, .pinned] true (true, "7884e23f85c223a01e44515ee5b09f0633b9d25a5a350cfa383a4bbeace4508f") true
    hrow (fun _ h => by cases h) c1 (fun _ h => by cases h) evalPrims_row_tie rfl ⟨rfl, rfl⟩ c2 rfl
    (fun f fn hf hfn => by
      obtain rfl : f = 4 := Option.some.inj (c3.symm.trans hf) |>.symm
      obtain rfl : fn = Tryz.f4 := (Option.some.inj (Tryz.func4.symm.trans hfn)).symm
      exact ⟨c4, fun j t ht => by
        rw [Tryz.params4] at ht
        have h3 : t = 9 ∨ t = 3 := by
          rcases j with _ | _ | _ | j
          · left; simpa using ht.symm
          · right; simpa using ht.symm
          · right; simpa using ht.symm
          · simp at ht
        rcases h3 with rfl | rfl
        · exact c5
        · exact c5'⟩)
    (goesBy_false _ rfl)
/-- The statement. -/
theorem evalPrims_holds : Rows.EvalPrimsCardSaid := card_of_row evalPrims.row_holds
#print axioms evalPrims_holds
end Go.Proofs.YtkeekncfeibobaaGreatDoor
