/-
  DERIVED. GIVEN WITH THE SEED: THE CARDS: each row of YtkeekncfeibobaaGreatDoorRows.lean that lists a variable, with what it lists TIED to the program's text (the seventh form; the later family's looks); each row that meets fmt, with fmt's text TOLD by the authors' own Lean function (tested against real Go, not proved from fmt's source: count such statements apart). THE CARD IS WHAT COUNTS. Prove the row's statement (the work); the ties are given (YtkeekncfeibobaaGreatDoorTie.lean); close each card by the builder's one call (the guide's Derived/Test/ToyasCard.lean, 'card_holds'). Laid BY PROGRAM, IN A SANDBOX (cutbox-door.mjs). By AI agents, Wed Nov 11 2026. No macro, syntax, notation, axiom, sorry.
-/
import Derived.Test.YtkeekncfeibobaaGreatDoorRows
import GoSem.ClaimSeven
namespace Go.Proofs.YtkeekncfeibobaaGreatDoor
namespace Rows

/-- THE TIED CARD OF 'skerrylaw13.EvalSame'. -/
def evalSameCard : Claim7 := { stood := { row := evalSameRow, standIns := [], harness := (true, "7884e23f85c223a01e44515ee5b09f0633b9d25a5a350cfa383a4bbeace4508f"), looks := true }, kinds := [], alts := [], laidByText := true, laidKinds := [.data, .data, .data, .data, .pinned, .pinned, .pinned, .pinned, .pinned, .pinned], laidTests := true, laidLooks := .later }
def EvalSameCardSaid : Prop := Claim7.holds Tryz.pinned (.plain (OpenSpec.ofChange evalSameSpec)) evalSameCard

/-- THE TIED CARD OF 'skerrylaw13.EvalPrims'. -/
def evalPrimsCard : Claim7 := { stood := { row := evalPrimsRow, standIns := [], harness := (true, "7884e23f85c223a01e44515ee5b09f0633b9d25a5a350cfa383a4bbeace4508f"), looks := true }, kinds := [], alts := [], laidByText := true, laidKinds := [.data, .data, .data, .data, .pinned, .pinned, .pinned, .pinned, .pinned, .pinned], laidTests := true, laidLooks := .later }
def EvalPrimsCardSaid : Prop := Claim7.holds Tryz.pinned (.plain (OpenSpec.ofChange evalPrimsSpec)) evalPrimsCard

/-- THE SECOND FORM's CARD OF 'skerrylaw13.EvalSame'. -/
def evalSameUptoCard : Claim7 := { stood := { row := evalSameUptoRow, standIns := [], harness := (true, "7884e23f85c223a01e44515ee5b09f0633b9d25a5a350cfa383a4bbeace4508f"), looks := true }, kinds := [], alts := [], laidByText := true, laidKinds := [.data, .data, .data, .data, .pinned, .pinned, .pinned, .pinned, .pinned, .pinned], laidTests := true, laidLooks := .later }
def EvalSameUptoCardSaid : Prop := Claim7.holds Tryz.pinned (.plain (OpenSpec.upto evalSameSpec)) evalSameUptoCard

/-- THE SECOND FORM's CARD OF 'skerrylaw13.EvalPrims'. -/
def evalPrimsUptoCard : Claim7 := { stood := { row := evalPrimsUptoRow, standIns := [], harness := (true, "7884e23f85c223a01e44515ee5b09f0633b9d25a5a350cfa383a4bbeace4508f"), looks := true }, kinds := [], alts := [], laidByText := true, laidKinds := [.data, .data, .data, .data, .pinned, .pinned, .pinned, .pinned, .pinned, .pinned], laidTests := true, laidLooks := .later }
def EvalPrimsUptoCardSaid : Prop := Claim7.holds Tryz.pinned (.plain (OpenSpec.upto evalPrimsSpec)) evalPrimsUptoCard
end Rows
end Go.Proofs.YtkeekncfeibobaaGreatDoor
