/-
  Operations that came in, read, their sizes told by the bulk of what came in. (A part of the proof, joined of: Ss; made smaller.)
-/
import Derived.Test.YtelghmmcbgfjnaaGreatH30
import Derived.ProofKit
import Derived.OpenShut
import Derived.ShutString
import Derived.ChangeOld
import Derived.Below
import Derived.SizedLaws
import Derived.Deep.Slices
import Derived.Deep.SlicePairs
import Derived.JoinedCond
set_option maxRecDepth 100000
namespace Go.Proofs.YtelghmmcbgfjnaaGreat
variable {fuel : Nat}
open Go.RowKit
theorem bkInt : Tryz.prog.cellsOf 3 = 1 := by kernel_rfl
theorem bkOp : Tryz.prog.cellsOf 33 = 4 := by kernel_rfl
theorem bkSl : Tryz.prog.cellsOf 31 = 1 := by kernel_rfl
theorem bkHC : Tryz.prog.cellsOf 54 = 2 := by kernel_rfl
section
variable {H : Type}
theorem bulk_one (d : DataW H) : 1 ≤ Rows.uptoBulk d := by
 cases d with
 | lit l => cases l <;> simp [Rows.uptoBulk]
 | nil => simp [Rows.uptoBulk]
 | ptr d => simp [Rows.uptoBulk]
 | slice elems spare => simp [Rows.uptoBulk]
 | agg parts => simp [Rows.uptoBulk]
 | iface t d => simp [Rows.uptoBulk]
 | map entries => simp [Rows.uptoBulk]
 | held h => simp [Rows.uptoBulk]
theorem bulk_part {d : DataW H} {l : List (DataW H)} (h : d ∈ l) : Rows.uptoBulk d ≤ Rows.uptoBulkAll l := by
 induction l with
 | nil => cases h
 | cons x r ih =>
   simp only [Rows.uptoBulkAll];cases List.mem_cons.1 h with
   | inl e => subst e; omega
   | inr e => have := ih e; omega
theorem bulk_pairs (l : List (DataW H × DataW H)) : 3 * l.length ≤ Rows.uptoBulkAll (l.map fun q => DataW.agg [q.1, q.2]) := by
 induction l with
 | nil => simp [Rows.uptoBulkAll]
 | cons x r ih =>
   have h0 := bulk_one x.1;have h1 := bulk_one x.2;simp only [List.map_cons, Rows.uptoBulkAll, Rows.uptoBulk, List.length_cons];omega
theorem bulk_range (n : Nat) (D0 D1 : Nat → DataW H) (sp : List (DataW H)) : 3 * n ≤ Rows.uptoBulk (.slice ((List.range n).map fun i => DataW.agg [D0 i, D1 i]) sp) := by
 have h := bulk_pairs ((List.range n).map fun i => (D0 i, D1 i));rw [List.map_map, List.length_map, List.length_range] at h;have e : ((fun q : DataW H × DataW H => DataW.agg [q.1, q.2]) ∘ fun i => (D0 i, D1 i)) = fun i => DataW.agg [D0 i, D1 i] := rfl;rw [e] at h;simp only [Rows.uptoBulk];omega
end
section
variable {H : Type} {enc : TypeId × Value → H} {W : World}
theorem bulk_cells {v : Value} {x : DataW H × List MemPlace} (h : DataW.trod enc Tryz.prog W 0 (fun _ => true) true fuel 31 [v] = some x) :
 ∃ a n c cs, v = .slice a n c ∧ CellsAt W a n cs ∧ 3 * n ≤ Rows.uptoBulk x.1 := by
 obtain ⟨f0, f1, hu, o0, o1, c0, c1, t0, t1⟩ : ∃ f0 f1, Tryz.prog.underlying 54 = some (.struct #[f0, f1]) ∧ f0.offset = 0 ∧ f1.offset = 1 ∧ Tryz.prog.cellsOf f0.type = 1 ∧ Tryz.prog.cellsOf f1.type = 1 ∧ f0.type = 4 ∧ f1.type = 3 := by
  refine ⟨_, _, Tryz.underlying54, ?_, ?_, ?_, ?_, ?_, ?_⟩ <;> kernel_rfl
 rcases Go.Deep.open_slice_pairs Tryz.underlying31 hu bkHC o0 o1 c0 c1 h with ⟨hcs, _⟩ | ⟨a, len, cap, m, n, V0, V1, D0, D1, P0, P1, hcs, hb, hl, hm, hmm, rfl, hel⟩
 · simp only [List.cons.injEq, and_true] at hcs;subst hcs;exact ⟨none, 0, 0, [], rfl, .of rfl fun j c hj => by simp at hj, by omega⟩
 · simp only [List.cons.injEq, and_true] at hcs;subst hcs;have hm' : m = cap := by rw [hmm]; rfl
   subst hm';have h3 : 3 * len ≤ Rows.uptoBulk (DataW.slice ((List.range len).map fun i => DataW.agg [D0 i, D1 i]) ((List.range (m - len)).map fun j => DataW.agg [D0 (len + j), D1 (len + j)])) := bulk_range len D0 D1 _;obtain ⟨q, hq⟩ := Go.Deep.choose_lt (α := Bool × Int) (n := len) (p := fun i q => W.cell? (a.add (i * 2)) = some (.bool q.1) ∧ W.cell? (a.add (i * 2 + 1)) = some (.int .i64 q.2)) fun i hi => by
    obtain ⟨k0, k1, k2, k3⟩ := hel i (by omega);rw [t0] at k2;rw [t1] at k3;obtain ⟨b, e2, _⟩ := DataW.trod_bool Tryz.underlying4 k2;obtain ⟨z, e3, _⟩ := DataW.trod_int Tryz.underlying3 k3;simp only [List.cons.injEq, and_true] at e2 e3;exact ⟨(b, z), by rw [k0, e2], by rw [k1, e3]⟩
   refine ⟨some a, len, m, (List.range len).map fun i => ⟨(q i).1, (q i).2⟩, rfl, ⟨by simp, fun j c hj => ?_⟩, h3⟩;have hjl : j < len := by
    have := (List.getElem?_eq_some_iff.1 hj).1;simpa using this
   rw [List.getElem?_map, List.getElem?_range hjl] at hj;simp only [Option.map_some, Option.some.injEq] at hj;subst hj;exact ⟨a, rfl, (hq j hjl).1, (hq j hjl).2⟩
theorem bulk_op {cs : List Value} {x : DataW H × List MemPlace} (h : DataW.trod enc Tryz.prog W 0 (fun _ => true) true fuel 33 cs = some x) :
 ∃ k a b s n c ws, cs = [.int .i64 k, .int .i64 a, .int .i64 b, .slice s n c] ∧ CellsAt W s n ws ∧ 3 * n ≤ Rows.uptoBulk x.1 := by
 obtain ⟨f0, f1, f2, f3, hu, ⟨o0, o1, o2, o3⟩, t0, t1, t2, t3⟩ : ∃ f0 f1 f2 f3, Tryz.prog.underlying 33 = some (.struct #[f0, f1, f2, f3]) ∧ (f0.offset = 0 ∧ f1.offset = 1 ∧ f2.offset = 2 ∧ f3.offset = 3) ∧ f0.type = 3 ∧ f1.type = 3 ∧ f2.type = 3 ∧ f3.type = 31 := by
  refine ⟨_, _, _, _, Tryz.underlying33, ⟨?_, ?_, ?_, ?_⟩, ?_, ?_, ?_, ?_⟩ <;> kernel_rfl
 obtain ⟨xs, n, _, rfl, hl, hxl, hf⟩ := DataW.trod_struct hu h;rw [bkOp] at hl
 match xs, hxl, cs, hl with
 | [y0, y1, y2, y3], _, [v0, v1, v2, v3], _ =>
   have g0 := hf 0 f0 rfl;have g1 := hf 1 f1 rfl;have g2 := hf 2 f2 rfl;have g3 := hf 3 f3 rfl;rw [t0, o0, bkInt] at g0;rw [t1, o1, bkInt] at g1;rw [t2, o2, bkInt] at g2;rw [t3, o3, bkSl] at g3;simp only [List.drop_zero, List.drop_succ_cons, List.take_succ_cons, List.take_zero, List.getElem?_cons_zero, List.getElem?_cons_succ] at g0 g1 g2 g3;obtain ⟨k, e0, _⟩ := DataW.trod_int Tryz.underlying3 g0;obtain ⟨a, e1, _⟩ := DataW.trod_int Tryz.underlying3 g1;obtain ⟨b, e2, _⟩ := DataW.trod_int Tryz.underlying3 g2;obtain ⟨s, m, c, ws, e3, hcs, hm⟩ := bulk_cells g3;simp only [List.cons.injEq, and_true] at e0 e1 e2;subst e0 e1 e2 e3;refine ⟨k, a, b, s, m, c, ws, rfl, hcs, ?_⟩
   have hp : Rows.uptoBulk y3.1 ≤ Rows.uptoBulkAll [y0.1, y1.1, y2.1, y3.1] := bulk_part (by simp);simp only [List.map_cons, List.map_nil, Rows.uptoBulk];omega
instance : Inhabited OpV := ⟨⟨0, 0, 0, none, 0, 0, []⟩⟩
theorem bulk_ops {a : Option Addr} {len cap : Nat} {x : DataW H × List MemPlace} (h : DataW.trod enc Tryz.prog W 0 (fun _ => true) true fuel 22 [.slice a len cap] = some x) (hw : Rows.uptoBulk x.1 ≤ 1048576) :
 ∃ o, OpsAt W a len o ∧ ∀ i, i < len → (o i).n ≤ 1000000 := by
 rcases Go.Deep.open_slice Tryz.underlying22 h with ⟨hcs, _⟩ | ⟨p, len', cap', m, n, D, Pl, hcs, hb, hl, hm, hmm, rfl, hel⟩
 · simp only [List.cons.injEq, Value.slice.injEq, and_true] at hcs;obtain ⟨rfl, rfl, rfl⟩ := hcs;exact ⟨default, fun i hi => by omega, fun i hi => by omega⟩
 · simp only [List.cons.injEq, Value.slice.injEq, and_true] at hcs;obtain ⟨rfl, rfl, rfl⟩ := hcs;have hm' : m = cap := by rw [hmm]; rfl
   subst hm';obtain ⟨o, ho⟩ := Go.Deep.choose_lt (α := OpV) (n := len) (p := fun i o => OpAt W (p.add (i * 4)) o ∧ o.n ≤ 1000000) fun i hi => by
    obtain ⟨cs', h1, h2⟩ := hel i (by omega);rw [bkOp] at h1;obtain ⟨_, hlen, hcell⟩ := World.cells?_some h1;obtain ⟨k, a, b, s, q, c, ws, rfl, hcs, hq⟩ := bulk_op h2;have hpart : Rows.uptoBulk (D i) ≤ Rows.uptoBulkAll ((List.range len).map D) := bulk_part (List.mem_map.2 ⟨i, List.mem_range.2 hi, rfl⟩);have hq' : q ≤ 1000000 := by
     simp only [Rows.uptoBulk] at hw;have hq2 : 3 * q ≤ Rows.uptoBulk (D i) := hq;omega
    have e0 := hcell 0 (by omega);have e1 := hcell 1 (by omega);have e2 := hcell 2 (by omega);have e3 := hcell 3 (by omega);refine ⟨⟨k, a, b, s, q, c, ws⟩, ⟨?_, ?_, ?_, ?_, hcs, (show q ≤ 8796093021952 by omega)⟩, hq'⟩
    · simpa [Addr.add] using e0
    · exact e1
    · exact e2
    · exact e3
   exact ⟨o, fun i hi => ⟨p, rfl, (ho i hi).1⟩, fun i hi => (ho i hi).2⟩
end
end Go.Proofs.YtelghmmcbgfjnaaGreat
