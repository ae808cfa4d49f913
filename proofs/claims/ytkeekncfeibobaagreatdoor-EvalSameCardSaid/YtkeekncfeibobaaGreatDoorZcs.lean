/-
  EvalSame, the tied card: Same agrees with the specification for any two outcomes, in either order; the law returns true and its arguments read as before. Conditions: the ten listed tables hold what the program's text lays (the card ties them).
  THE CARD out of its row (EvalSame): the closed facts one by one; 'goesBy' by hand (asked of the kernel as it stands it wants more than 10 GB: that is why TURN says 'her seat fell').
-/
import Derived.Test.YtkeekncfeibobaaGreatDoorCards
import Derived.Test.YtkeekncfeibobaaGreatDoorTie
import Derived.Test.YtkeekncfeibobaaGreatDoorZs
import Derived.SevenTiedAt
namespace Go.Proofs.YtkeekncfeibobaaGreatDoor
open Go
set_option maxRecDepth 100000
theorem none_goes : Tryz.prog.funcs.any Func.goes = false := by kernel_rfl
theorem goes_false (P : Program) (h : P.funcs.any Func.goes = false) (f : FuncId) : P.goes f = false := by
  unfold Program.goes
  rw [h, Bool.and_false, Bool.or_false]
  rw [List.any_eq_false]
  intro g _
  cases hg : P.funcs[g]? with
  | none => simp
  | some fn =>
    have hm := (Array.any_eq_false' ).1 h fn (Array.mem_of_getElem? hg)
    simpa using hm
theorem goesBy_false (c : OpenClaim) (hs : c.start = .entering) : false = c.goesBy Tryz.pinned.checked.prog := by
  unfold OpenClaim.goesBy Program.goesAt Program.goesFrom
  have e : Tryz.pinned.checked.prog = Tryz.prog := rfl
  rw [e, hs]
  show false = ((Tryz.prog.funcNamed c.func).any Tryz.prog.goes || false)
  cases Tryz.prog.funcNamed c.func with
  | none => rfl
  | some f => simp [goes_false Tryz.prog none_goes f]
theorem c2 : Tryz.pinned.checked.prog.mainIs = some (true, "7884e23f85c223a01e44515ee5b09f0633b9d25a5a350cfa383a4bbeace4508f".toList) := by kernel_rfl
theorem c3 : Tryz.prog.funcNamed "skerry/skerrylaw13.EvalSame" = some 3 := by kernel_rfl
theorem c5 : Tryz.prog.wantsStandIn 24 = false := by kernel_rfl
theorem c4 : true = Tryz.pinned.checked.prog.looks [] := by kernel_rfl
theorem c1 : OpenClaim.wfByText (OpenSpec.ofChange Rows.evalSameSpec) Rows.evalSameRow = true := by kernel_rfl
theorem card_of_row (hrow : Rows.EvalSameSaid) : Rows.EvalSameCardSaid :=
  Claim7.holds_tied_plain_at .later [] [.data, .data, .data, .data, .pinned, .pinned, .pinned, .pinned, .pinned, .pinned] true (true, "7884e23f85c223a01e44515ee5b09f0633b9d25a5a350cfa383a4bbeace4508f") true
    hrow (fun _ h => by cases h) c1 (fun _ h => by cases h) evalSame_row_tie rfl ⟨rfl, rfl⟩ c2 rfl
    (fun f fn hf hfn => by
      obtain rfl : f = 3 := Option.some.inj (c3.symm.trans hf) |>.symm
      obtain rfl : fn = Tryz.f3 := (Option.some.inj (Tryz.func3.symm.trans hfn)).symm
      exact ⟨c4, fun j t ht => by
        rw [Tryz.params3] at ht
        have h3 : t = 24 := by
          rcases j with _ | _ | j
          · simpa using ht.symm
          · simpa using ht.symm
          · simp at ht
        subst h3
        exact c5⟩)
    (goesBy_false _ rfl)
/-- The statement. -/
theorem evalSame_holds : Rows.EvalSameCardSaid := card_of_row evalSame.row_holds
#print axioms evalSame_holds
end Go.Proofs.YtkeekncfeibobaaGreatDoor
