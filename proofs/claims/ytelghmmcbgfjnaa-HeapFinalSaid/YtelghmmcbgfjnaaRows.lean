/-
  No cell of these rows narrows 'for every input' (looked for: loops, veiled, ifaces, maps, wideKeys, modest, calm, conditions, laid).
  DERIVED. THE GIVEN ROWS OF THIS SEAT. 4 by the template 'for every input the law returns true; each argument reads behind the call as it read before'; 0 by the template 'total and deterministic' (their statements: YtelghmmcbgfjnaaTotals.lean).
  GIVEN WITH THE SEED: the statements are not yours to turn. If you find one false, say at which input.
  Laid BY PROGRAM, IN A SANDBOX (cutbox-rows.mjs): the forced cells as the released guide's own fill.sh prints them over the translation 6f636a66fb0ecba9… (all of the seat's roots in one cut). By AI agents, Wed Nov 11 2026. No macro, syntax, notation, axiom, sorry.
-/
import Derived.Test.YtelghmmcbgfjnaaChecked
import GoSem.Claim
import GoSem.ClaimJoined
import GoSem.ClaimMapViews
import Derived.JoinedTies
import Derived.KernelRfl
namespace Go.Proofs.Ytelghmmcbgfjnaa
/- THE CELL 'sum', in the pinned program and in every row, IS THE sha256 OF THE DUMP (.gsa) THAT YtelghmmcbgfjnaaProg.lean LOADS. Nothing in Lean hashes anything: it is a label: what it is worth is what the hold of that sum in a sandbox is worth. -/
noncomputable def Try.pinned : Pinned := { name := "ytelghmmcbgfjnaa", sum := "6f636a66fb0ecba994d993416803c87cde2cf159514f174489345430b39e850d", checked := Try.checked }
namespace Rows
def none {H : Type} : Left H := { results := [], args := [] }

/-- 'skerrylaw22.HeapRoom': WHATEVER THE INPUT: true; the input reads as it did. -/
def heapRoomSpec : ChangeSpec := { name := "heapRoom", fn := fun _ => fun
  | [d1, d2, d3] => { results := [.lit (.bool true)], args := [d1, d2, d3] }
  | _ => none }
def heapRoomRow : OpenClaim := { program := "ytelghmmcbgfjnaa", sum := "6f636a66fb0ecba994d993416803c87cde2cf159514f174489345430b39e850d", func := "skerry/skerrylaw22.HeapRoom", spec := "heapRoom", unfollowed := true, recurses := true, apart := false }
def HeapRoomSaid : Prop := heapRoomRow.holds Try.pinned (OpenSpec.ofChange heapRoomSpec)

/-- ITS FALSE NEIGHBOUR: 'it returns false'. Refute it at one input. -/
def heapRoomWrong : ChangeSpec := { name := "heapRoom", fn := fun _ => fun
  | [d1, d2, d3] => { results := [.lit (.bool false)], args := [d1, d2, d3] }
  | _ => none }
def HeapRoomWrongFalsely : Prop := heapRoomRow.holds Try.pinned (OpenSpec.ofChange heapRoomWrong)

/-- 'skerrylaw22.HeapRings': WHATEVER THE INPUT: true; the input reads as it did. -/
def heapRingsSpec : ChangeSpec := { name := "heapRings", fn := fun _ => fun
  | [d1, d2, d3] => { results := [.lit (.bool true)], args := [d1, d2, d3] }
  | _ => none }
def heapRingsRow : OpenClaim := { program := "ytelghmmcbgfjnaa", sum := "6f636a66fb0ecba994d993416803c87cde2cf159514f174489345430b39e850d", func := "skerry/skerrylaw22.HeapRings", spec := "heapRings", unfollowed := true, recurses := true, apart := false }
def HeapRingsSaid : Prop := heapRingsRow.holds Try.pinned (OpenSpec.ofChange heapRingsSpec)

/-- ITS FALSE NEIGHBOUR: 'it returns false'. Refute it at one input. -/
def heapRingsWrong : ChangeSpec := { name := "heapRings", fn := fun _ => fun
  | [d1, d2, d3] => { results := [.lit (.bool false)], args := [d1, d2, d3] }
  | _ => none }
def HeapRingsWrongFalsely : Prop := heapRingsRow.holds Try.pinned (OpenSpec.ofChange heapRingsWrong)

/-- 'skerrylaw22.HeapMap': WHATEVER THE INPUT: true; the input reads as it did. -/
def heapMapSpec : ChangeSpec := { name := "heapMap", fn := fun _ => fun
  | [d1, d2, d3] => { results := [.lit (.bool true)], args := [d1, d2, d3] }
  | _ => none }
def heapMapRow : OpenClaim := { program := "ytelghmmcbgfjnaa", sum := "6f636a66fb0ecba994d993416803c87cde2cf159514f174489345430b39e850d", func := "skerry/skerrylaw22.HeapMap", spec := "heapMap", unfollowed := true, recurses := true, apart := false }
def HeapMapSaid : Prop := heapMapRow.holds Try.pinned (OpenSpec.ofChange heapMapSpec)

/-- ITS FALSE NEIGHBOUR: 'it returns false'. Refute it at one input. -/
def heapMapWrong : ChangeSpec := { name := "heapMap", fn := fun _ => fun
  | [d1, d2, d3] => { results := [.lit (.bool false)], args := [d1, d2, d3] }
  | _ => none }
def HeapMapWrongFalsely : Prop := heapMapRow.holds Try.pinned (OpenSpec.ofChange heapMapWrong)

/-- 'skerrylaw22.HeapFinal': WHATEVER THE INPUT: true; the input reads as it did. -/
def heapFinalSpec : ChangeSpec := { name := "heapFinal", fn := fun _ => fun
  | [d1, d2, d3] => { results := [.lit (.bool true)], args := [d1, d2, d3] }
  | _ => none }
def heapFinalRow : OpenClaim := { program := "ytelghmmcbgfjnaa", sum := "6f636a66fb0ecba994d993416803c87cde2cf159514f174489345430b39e850d", func := "skerry/skerrylaw22.HeapFinal", spec := "heapFinal", unfollowed := true, recurses := true, apart := false }
def HeapFinalSaid : Prop := heapFinalRow.holds Try.pinned (OpenSpec.ofChange heapFinalSpec)

/-- ITS FALSE NEIGHBOUR: 'it returns false'. Refute it at one input. -/
def heapFinalWrong : ChangeSpec := { name := "heapFinal", fn := fun _ => fun
  | [d1, d2, d3] => { results := [.lit (.bool false)], args := [d1, d2, d3] }
  | _ => none }
def HeapFinalWrongFalsely : Prop := heapFinalRow.holds Try.pinned (OpenSpec.ofChange heapFinalWrong)

/- THE SECOND FORM. 'bulk': how many values and letters a reading holds, each counted each time it is reached (what is shared counts as often as it is met; a slice's spare places count too). A statement '..UptoSaid' is the law's where the arguments, and the package variables that the reading takes, are together of bulk at most 1048576: NARROWER than '..Said'. Prove '..Said' where nothing that the law and all that it calls make is longer than what came in: it says more and counts as full. Else prove '..UptoSaid'. A law counts once. -/
mutual
def uptoBulk {H : Type} : DataW H → Nat
  | .lit (.string bytes) => bytes.length + 1
  | .lit _ => 1
  | .nil => 1
  | .ptr d => uptoBulk d + 1
  | .slice elems spare => uptoBulkAll elems + uptoBulkAll spare + 1
  | .agg parts => uptoBulkAll parts + 1
  | .iface _ d => uptoBulk d + 1
  | .map entries => uptoBulkEntries entries + 1
  | .held _ => 1
def uptoBulkAll {H : Type} : List (DataW H) → Nat
  | [] => 0
  | d :: r => uptoBulk d + uptoBulkAll r
def uptoBulkEntries {H : Type} : List (Lit × DataW H) → Nat
  | [] => 0
  | x :: r => uptoBulkEntry x + uptoBulkEntries r
def uptoBulkEntry {H : Type} : Lit × DataW H → Nat
  | (.string bytes, d) => bytes.length + uptoBulk d + 1
  | (_, d) => uptoBulk d + 1
 end
def uptoSmall : (H : Type) → List (DataW H) → Bool := fun _ ds => decide (uptoBulkAll ds ≤ 1048576)
def OpenSpec.upto (s : _root_.Go.ChangeSpec) : _root_.Go.OpenSpec := { _root_.Go.OpenSpec.ofChange s with cond := some uptoSmall }

/-- 'skerrylaw22.HeapRoom', WHERE WHAT IT READS IS OF BULK AT MOST 1048576: true; the input reads as it did. -/
def heapRoomUptoRow : OpenClaim := { program := "ytelghmmcbgfjnaa", sum := "6f636a66fb0ecba994d993416803c87cde2cf159514f174489345430b39e850d", func := "skerry/skerrylaw22.HeapRoom", spec := "heapRoom", unfollowed := true, recurses := true, apart := false, narrowed := true }
def HeapRoomUptoSaid : Prop := heapRoomUptoRow.holds Try.pinned (OpenSpec.upto heapRoomSpec)

/-- 'skerrylaw22.HeapRings', WHERE WHAT IT READS IS OF BULK AT MOST 1048576: true; the input reads as it did. -/
def heapRingsUptoRow : OpenClaim := { program := "ytelghmmcbgfjnaa", sum := "6f636a66fb0ecba994d993416803c87cde2cf159514f174489345430b39e850d", func := "skerry/skerrylaw22.HeapRings", spec := "heapRings", unfollowed := true, recurses := true, apart := false, narrowed := true }
def HeapRingsUptoSaid : Prop := heapRingsUptoRow.holds Try.pinned (OpenSpec.upto heapRingsSpec)

/-- 'skerrylaw22.HeapMap', WHERE WHAT IT READS IS OF BULK AT MOST 1048576: true; the input reads as it did. -/
def heapMapUptoRow : OpenClaim := { program := "ytelghmmcbgfjnaa", sum := "6f636a66fb0ecba994d993416803c87cde2cf159514f174489345430b39e850d", func := "skerry/skerrylaw22.HeapMap", spec := "heapMap", unfollowed := true, recurses := true, apart := false, narrowed := true }
def HeapMapUptoSaid : Prop := heapMapUptoRow.holds Try.pinned (OpenSpec.upto heapMapSpec)

/-- 'skerrylaw22.HeapFinal', WHERE WHAT IT READS IS OF BULK AT MOST 1048576: true; the input reads as it did. -/
def heapFinalUptoRow : OpenClaim := { program := "ytelghmmcbgfjnaa", sum := "6f636a66fb0ecba994d993416803c87cde2cf159514f174489345430b39e850d", func := "skerry/skerrylaw22.HeapFinal", spec := "heapFinal", unfollowed := true, recurses := true, apart := false, narrowed := true }
def HeapFinalUptoSaid : Prop := heapFinalUptoRow.holds Try.pinned (OpenSpec.upto heapFinalSpec)

end Rows
end Go.Proofs.Ytelghmmcbgfjnaa
