/-
  No cell of these rows narrows 'for every input' (looked for: loops, veiled, ifaces, maps, wideKeys, modest, calm, conditions, laid).
  DERIVED. THE GIVEN ROWS OF THIS SEAT. 5 by the template 'for every input the law returns true; each argument reads behind the call as it read before'; 0 by the template 'total and deterministic' (their statements: YtelghmmcbgfjnaaGreatTotals.lean).
  GIVEN WITH THE SEED: the statements are not yours to turn. If you find one false, say at which input.
  Laid BY PROGRAM, IN A SANDBOX (cutbox-rows.mjs): the forced cells as the released guide's own fill.sh prints them over the translation e3bca50e7061c74b… (all of the seat's roots in one cut). By AI agents, Wed Nov 11 2026. No macro, syntax, notation, axiom, sorry.
-/
import Derived.Test.YtelghmmcbgfjnaaGreatChecked
import GoSem.Claim
import GoSem.ClaimJoined
import GoSem.ClaimMapViews
import Derived.JoinedTies
import Derived.KernelRfl
namespace Go.Proofs.YtelghmmcbgfjnaaGreat
/- THE CELL 'sum', in the pinned program and in every row, IS THE sha256 OF THE DUMP (.gsa) THAT YtelghmmcbgfjnaaGreatProg.lean LOADS. Nothing in Lean hashes anything: it is a label: what it is worth is what the hold of that sum in a sandbox is worth. -/
noncomputable def Tryz.pinned : Pinned := { name := "ytelghmmcbgfjnaagreat", sum := "e3bca50e7061c74b76e156f8c3b9d9ddea2a20e3a2633374d28de3aa8cbf0d83", checked := Tryz.checked }
namespace Rows
def none {H : Type} : Left H := { results := [], args := [] }

/-- 'skerrylaw22.HeapSeen': WHATEVER THE INPUT: true; the input reads as it did. -/
def heapSeenSpec : ChangeSpec := { name := "heapSeen", fn := fun _ => fun
  | [d1, d2, d3] => { results := [.lit (.bool true)], args := [d1, d2, d3] }
  | _ => none }
def heapSeenRow : OpenClaim := { program := "ytelghmmcbgfjnaagreat", sum := "e3bca50e7061c74b76e156f8c3b9d9ddea2a20e3a2633374d28de3aa8cbf0d83", func := "skerry/skerrylaw22.HeapSeen", spec := "heapSeen", unfollowed := true, recurses := true, apart := false }
def HeapSeenSaid : Prop := heapSeenRow.holds Tryz.pinned (OpenSpec.ofChange heapSeenSpec)

/-- ITS FALSE NEIGHBOUR: 'it returns false'. Refute it at one input. -/
def heapSeenWrong : ChangeSpec := { name := "heapSeen", fn := fun _ => fun
  | [d1, d2, d3] => { results := [.lit (.bool false)], args := [d1, d2, d3] }
  | _ => none }
def HeapSeenWrongFalsely : Prop := heapSeenRow.holds Tryz.pinned (OpenSpec.ofChange heapSeenWrong)

/-- 'skerrylaw22.HeapScript': WHATEVER THE INPUT: true; the input reads as it did. -/
def heapScriptSpec : ChangeSpec := { name := "heapScript", fn := fun _ => fun
  | [d1, d2, d3] => { results := [.lit (.bool true)], args := [d1, d2, d3] }
  | _ => none }
def heapScriptRow : OpenClaim := { program := "ytelghmmcbgfjnaagreat", sum := "e3bca50e7061c74b76e156f8c3b9d9ddea2a20e3a2633374d28de3aa8cbf0d83", func := "skerry/skerrylaw22.HeapScript", spec := "heapScript", unfollowed := true, recurses := true, apart := false }
def HeapScriptSaid : Prop := heapScriptRow.holds Tryz.pinned (OpenSpec.ofChange heapScriptSpec)

/-- ITS FALSE NEIGHBOUR: 'it returns false'. Refute it at one input. -/
def heapScriptWrong : ChangeSpec := { name := "heapScript", fn := fun _ => fun
  | [d1, d2, d3] => { results := [.lit (.bool false)], args := [d1, d2, d3] }
  | _ => none }
def HeapScriptWrongFalsely : Prop := heapScriptRow.holds Tryz.pinned (OpenSpec.ofChange heapScriptWrong)

/-- 'skerrylaw22.HeapKept': WHATEVER THE INPUT: true; the input reads as it did. -/
def heapKeptSpec : ChangeSpec := { name := "heapKept", fn := fun _ => fun
  | [d1, d2, d3] => { results := [.lit (.bool true)], args := [d1, d2, d3] }
  | _ => none }
def heapKeptRow : OpenClaim := { program := "ytelghmmcbgfjnaagreat", sum := "e3bca50e7061c74b76e156f8c3b9d9ddea2a20e3a2633374d28de3aa8cbf0d83", func := "skerry/skerrylaw22.HeapKept", spec := "heapKept", unfollowed := true, recurses := true, apart := false }
def HeapKeptSaid : Prop := heapKeptRow.holds Tryz.pinned (OpenSpec.ofChange heapKeptSpec)

/-- ITS FALSE NEIGHBOUR: 'it returns false'. Refute it at one input. -/
def heapKeptWrong : ChangeSpec := { name := "heapKept", fn := fun _ => fun
  | [d1, d2, d3] => { results := [.lit (.bool false)], args := [d1, d2, d3] }
  | _ => none }
def HeapKeptWrongFalsely : Prop := heapKeptRow.holds Tryz.pinned (OpenSpec.ofChange heapKeptWrong)

/-- 'skerrylaw22.HeapNew': WHATEVER THE INPUT: true; the input reads as it did. -/
def heapNewSpec : ChangeSpec := { name := "heapNew", fn := fun _ => fun
  | [d1, d2, d3] => { results := [.lit (.bool true)], args := [d1, d2, d3] }
  | _ => none }
def heapNewRow : OpenClaim := { program := "ytelghmmcbgfjnaagreat", sum := "e3bca50e7061c74b76e156f8c3b9d9ddea2a20e3a2633374d28de3aa8cbf0d83", func := "skerry/skerrylaw22.HeapNew", spec := "heapNew", unfollowed := true, recurses := true, apart := false }
def HeapNewSaid : Prop := heapNewRow.holds Tryz.pinned (OpenSpec.ofChange heapNewSpec)

/-- ITS FALSE NEIGHBOUR: 'it returns false'. Refute it at one input. -/
def heapNewWrong : ChangeSpec := { name := "heapNew", fn := fun _ => fun
  | [d1, d2, d3] => { results := [.lit (.bool false)], args := [d1, d2, d3] }
  | _ => none }
def HeapNewWrongFalsely : Prop := heapNewRow.holds Tryz.pinned (OpenSpec.ofChange heapNewWrong)

/-- 'skerrylaw22.HeapAges': WHATEVER THE INPUT: true; the input reads as it did. -/
def heapAgesSpec : ChangeSpec := { name := "heapAges", fn := fun _ => fun
  | [d1, d2, d3] => { results := [.lit (.bool true)], args := [d1, d2, d3] }
  | _ => none }
def heapAgesRow : OpenClaim := { program := "ytelghmmcbgfjnaagreat", sum := "e3bca50e7061c74b76e156f8c3b9d9ddea2a20e3a2633374d28de3aa8cbf0d83", func := "skerry/skerrylaw22.HeapAges", spec := "heapAges", unfollowed := true, recurses := true, apart := false }
def HeapAgesSaid : Prop := heapAgesRow.holds Tryz.pinned (OpenSpec.ofChange heapAgesSpec)

/-- ITS FALSE NEIGHBOUR: 'it returns false'. Refute it at one input. -/
def heapAgesWrong : ChangeSpec := { name := "heapAges", fn := fun _ => fun
  | [d1, d2, d3] => { results := [.lit (.bool false)], args := [d1, d2, d3] }
  | _ => none }
def HeapAgesWrongFalsely : Prop := heapAgesRow.holds Tryz.pinned (OpenSpec.ofChange heapAgesWrong)

/- THE SECOND FORM. 'bulk': how many values and letters a reading holds, each counted each time it is reached (what is shared counts as often as it is met; a slice's spare places count too). A statement '..UptoSaid' is the law's where the arguments, and the package variables that the reading takes, are together of bulk at most 1048576: NARROWER than '..Said'. Prove '..Said' where nothing that the law and all that it calls make is longer than what came in: it says more and counts as full. Else prove '..UptoSaid'. A law counts once. -/
mutual
def uptoBulk {H : Type} : DataW H → Nat
  | .lit (.string bytes) => bytes.length + 1
  | .lit _ => 1
  | .nil => 1
  | .ptr d => uptoBulk d + 1
  | .slice elems spare => uptoBulkAll elems + uptoBulkAll spare + 1
  | .agg parts => uptoBulkAll parts + 1
  | .iface _ d => uptoBulk d + 1
  | .map entries => uptoBulkEntries entries + 1
  | .held _ => 1
def uptoBulkAll {H : Type} : List (DataW H) → Nat
  | [] => 0
  | d :: r => uptoBulk d + uptoBulkAll r
def uptoBulkEntries {H : Type} : List (Lit × DataW H) → Nat
  | [] => 0
  | x :: r => uptoBulkEntry x + uptoBulkEntries r
def uptoBulkEntry {H : Type} : Lit × DataW H → Nat
  | (.string bytes, d) => bytes.length + uptoBulk d + 1
  | (_, d) => uptoBulk d + 1
 end
def uptoSmall : (H : Type) → List (DataW H) → Bool := fun _ ds => decide (uptoBulkAll ds ≤ 1048576)
def OpenSpec.upto (s : _root_.Go.ChangeSpec) : _root_.Go.OpenSpec := { _root_.Go.OpenSpec.ofChange s with cond := some uptoSmall }

/-- 'skerrylaw22.HeapSeen', WHERE WHAT IT READS IS OF BULK AT MOST 1048576: true; the input reads as it did. -/
def heapSeenUptoRow : OpenClaim := { program := "ytelghmmcbgfjnaagreat", sum := "e3bca50e7061c74b76e156f8c3b9d9ddea2a20e3a2633374d28de3aa8cbf0d83", func := "skerry/skerrylaw22.HeapSeen", spec := "heapSeen", unfollowed := true, recurses := true, apart := false, narrowed := true }
def HeapSeenUptoSaid : Prop := heapSeenUptoRow.holds Tryz.pinned (OpenSpec.upto heapSeenSpec)

/-- 'skerrylaw22.HeapScript', WHERE WHAT IT READS IS OF BULK AT MOST 1048576: true; the input reads as it did. -/
def heapScriptUptoRow : OpenClaim := { program := "ytelghmmcbgfjnaagreat", sum := "e3bca50e7061c74b76e156f8c3b9d9ddea2a20e3a2633374d28de3aa8cbf0d83", func := "skerry/skerrylaw22.HeapScript", spec := "heapScript", unfollowed := true, recurses := true, apart := false, narrowed := true }
def HeapScriptUptoSaid : Prop := heapScriptUptoRow.holds Tryz.pinned (OpenSpec.upto heapScriptSpec)

/-- 'skerrylaw22.HeapKept', WHERE WHAT IT READS IS OF BULK AT MOST 1048576: true; the input reads as it did. -/
def heapKeptUptoRow : OpenClaim := { program := "ytelghmmcbgfjnaagreat", sum := "e3bca50e7061c74b76e156f8c3b9d9ddea2a20e3a2633374d28de3aa8cbf0d83", func := "skerry/skerrylaw22.HeapKept", spec := "heapKept", unfollowed := true, recurses := true, apart := false, narrowed := true }
def HeapKeptUptoSaid : Prop := heapKeptUptoRow.holds Tryz.pinned (OpenSpec.upto heapKeptSpec)

/-- 'skerrylaw22.HeapNew', WHERE WHAT IT READS IS OF BULK AT MOST 1048576: true; the input reads as it did. -/
def heapNewUptoRow : OpenClaim := { program := "ytelghmmcbgfjnaagreat", sum := "e3bca50e7061c74b76e156f8c3b9d9ddea2a20e3a2633374d28de3aa8cbf0d83", func := "skerry/skerrylaw22.HeapNew", spec := "heapNew", unfollowed := true, recurses := true, apart := false, narrowed := true }
def HeapNewUptoSaid : Prop := heapNewUptoRow.holds Tryz.pinned (OpenSpec.upto heapNewSpec)

/-- 'skerrylaw22.HeapAges', WHERE WHAT IT READS IS OF BULK AT MOST 1048576: true; the input reads as it did. -/
def heapAgesUptoRow : OpenClaim := { program := "ytelghmmcbgfjnaagreat", sum := "e3bca50e7061c74b76e156f8c3b9d9ddea2a20e3a2633374d28de3aa8cbf0d83", func := "skerry/skerrylaw22.HeapAges", spec := "heapAges", unfollowed := true, recurses := true, apart := false, narrowed := true }
def HeapAgesUptoSaid : Prop := heapAgesUptoRow.holds Tryz.pinned (OpenSpec.upto heapAgesSpec)

end Rows
end Go.Proofs.YtelghmmcbgfjnaaGreat
