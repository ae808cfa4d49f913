/-
A CLOSED RUN. A call, run once (its literals printed by wip/closed/Sm.lean).
A CLOSED RUN. sane holds: its contract.
A CLOSED RUN. A call, run once (its literals printed by wip/closed/Sm.lean).
A CLOSED RUN. eval.ints: its contract.
Strings: a string's list of bytes.
A look-up in a table whose keys are strings.
The walk of eval.Operands.
The walks of the functions of eval.ints (under way).
The walks of the functions of eval.ints: the table's functions (under way).
The walks of R13.Prim (under way: quotient and the operations that are none are left).
The walks of R13.Prim: quotient, none; of eval.ints' quotient (under way).
The walks of quotient: R13.Prim, eval.ints.
The walks of eval.Prim.
The walks of eval.Prim.
The walks of eval.Prim.
The walks of eval.Prim.
The walks of eval.Prim.
The walks of eval.Prim.
The walks of R01.Index and R04.Operands.
EvalPrims: both sides agree, case by case; the law's walk.
-/
import Derived.Test.YtkeekncfeibobaaGreatDoorFg
import Derived.Test.YtkeekncfeibobaaGreatDoorI1
import Derived.Test.YtkeekncfeibobaaGreatDoorI2
import Derived.Test.YtkeekncfeibobaaGreatDoorI3
import Derived.Test.YtkeekncfeibobaaGreatDoorI4
import Derived.Test.YtkeekncfeibobaaGreatDoorM07
import Derived.Test.YtkeekncfeibobaaGreatDoorProg
import Derived.Handy
import Derived.Lib.Hide
import Derived.Deep.RegionWith
namespace Go.Clo
open Go.Proofs
def sane_args : List Value := []
def sane_pre : List AO := []
def sane : Sum := ⟨5, sane_args, sane_pre, (.bool true),
  [], 39599⟩
theorem sane_fit : okSum sane 20 = true := by kernel_rfl
theorem sane_run : isYes (runS (runD G xt (fun cf => knownC (sumK run1 20 (sumK run2 20 (sumK run3 20 (sumK run4 20 cf))))) 60).1 sane) = true := by kernel_rfl
theorem sane_ok {B0 : Nat} : SumOK Tryz.prog G B0 sane := sum_ok (all_sim (known := fun cf => sumK run1 20 (sumK run2 20 (sumK run3 20 (sumK run4 20 cf)))) (fun _ h => sumK_sim run1_ok run1_fit (sumK_sim run2_ok run2_fit (sumK_sim run3_ok run3_fit (sumK_sim run4_ok run4_fit h)))) 60) sane_run
end Go.Clo
namespace Go.Clo
open Go.RowKit Go.Proofs

theorem sane_any (w : World) : Calls Tryz.prog 5 #[] w fun e w' => e = .returned (.bool true) ∧ Below w.heap.size w w' := calls_of_sum rfl sane_ok
#print axioms sane_any
end Go.Clo
namespace Go.Clo
open Go.Proofs
def ints_args : List Value := []
def ints_pre : List AO := []
def ints : Sum := ⟨20, ints_args, ints_pre, (.map (some 1000001)),
  [(1, (.map .str [((.string ⟨⟨[43]⟩⟩), (.func (.func 31) ⟨[]⟩ ⟨[(.pointer (some ⟨1000000, 0, none⟩))]⟩)), ((.string ⟨⟨[45]⟩⟩), (.func (.func 32) ⟨[]⟩ ⟨[(.pointer (some ⟨1000000, 0, none⟩))]⟩)), ((.string ⟨⟨[42]⟩⟩), (.func (.func 33) ⟨[]⟩ ⟨[(.pointer (some ⟨1000000, 0, none⟩))]⟩)), ((.string ⟨⟨[113, 117, 111, 116, 105, 101, 110, 116]⟩⟩), (.func (.func 34) ⟨[]⟩ ⟨[(.pointer (some ⟨1000000, 0, none⟩))]⟩)), ((.string ⟨⟨[60]⟩⟩), (.func (.func 35) ⟨[]⟩ ⟨[]⟩)), ((.string ⟨⟨[60, 61]⟩⟩), (.func (.func 37) ⟨[]⟩ ⟨[]⟩)), ((.string ⟨⟨[62]⟩⟩), (.func (.func 38) ⟨[]⟩ ⟨[]⟩)), ((.string ⟨⟨[62, 61]⟩⟩), (.func (.func 39) ⟨[]⟩ ⟨[]⟩)), ((.string ⟨⟨[61]⟩⟩), (.func (.func 40) ⟨[]⟩ ⟨[]⟩)), ((.string ⟨⟨[61, 61]⟩⟩), (.func (.func 41) ⟨[]⟩ ⟨[]⟩))])),
  (0, (.cells [(.func (.func 30) ⟨[]⟩ ⟨[]⟩)] 104 false))], 2⟩
theorem ints_fit : okSum ints 20 = true := by kernel_rfl
theorem ints_run : isYes (runS (runD G xt (fun cf => knownC (cf)) 60).1 ints) = true := by kernel_rfl
theorem ints_ok {B0 : Nat} : SumOK Tryz.prog G B0 ints := sum_ok (all_sim (known := fun cf => cf) (fun _ h => h) 60) ints_run
end Go.Clo
namespace Go.Clo
open Go.RowKit Go.Proofs

/-- the table of eval.ints; bc: the block of the variable that four of its functions have captured -/
def intsKV (bc : Nat) : List (Value × Value) := [((.string ⟨⟨[43]⟩⟩), (.func (.func 31) ⟨[]⟩ ⟨[(.pointer (some ⟨bc, 0, none⟩))]⟩)), ((.string ⟨⟨[45]⟩⟩), (.func (.func 32) ⟨[]⟩ ⟨[(.pointer (some ⟨bc, 0, none⟩))]⟩)), ((.string ⟨⟨[42]⟩⟩), (.func (.func 33) ⟨[]⟩ ⟨[(.pointer (some ⟨bc, 0, none⟩))]⟩)), ((.string ⟨⟨[113, 117, 111, 116, 105, 101, 110, 116]⟩⟩), (.func (.func 34) ⟨[]⟩ ⟨[(.pointer (some ⟨bc, 0, none⟩))]⟩)), ((.string ⟨⟨[60]⟩⟩), (.func (.func 35) ⟨[]⟩ ⟨[]⟩)), ((.string ⟨⟨[60, 61]⟩⟩), (.func (.func 37) ⟨[]⟩ ⟨[]⟩)), ((.string ⟨⟨[62]⟩⟩), (.func (.func 38) ⟨[]⟩ ⟨[]⟩)), ((.string ⟨⟨[62, 61]⟩⟩), (.func (.func 39) ⟨[]⟩ ⟨[]⟩)), ((.string ⟨⟨[61]⟩⟩), (.func (.func 40) ⟨[]⟩ ⟨[]⟩)), ((.string ⟨⟨[61, 61]⟩⟩), (.func (.func 41) ⟨[]⟩ ⟨[]⟩))]
theorem ints_any (w : World) : Calls Tryz.prog 20 #[] w fun e w' => ∃ bm bc E cl, e = .returned (.map (some bm)) ∧ w'.heap[bm]? = some (.map E cl) ∧ (E.toList.map fun e => (e.key, e.val)).Perm (intsKV bc) ∧
    w'.heap[bc]? = some (.cells #[.func (.func 30) #[] #[]] 104 (0, 0)) ∧ Below w.heap.size w w' := by
  intro cs
  have hW : ∀ ρ', WEq ρ' G w.heap.size (mkH []) 0 w := fun ρ' => by
    have hno : ∀ k, ¬ Live (mkH []) k := fun k hk => hk (by rw [getO_mkH]; rfl)
    exact ⟨fun k hk => absurd hk (hno k), fun k hk => absurd hk (hno k), fun k hk => absurd hk (hno k), fun k _ hk => absurd hk (hno k)⟩
  obtain ⟨_, ρ1, V, M', w', fr, _, _, hO, hK, hL, hs⟩ := (ints_ok (B0 := w.heap.size)).call ⟨fun _ => 0, fun _ => 0, fun _ => 0⟩ (fun _ => False) .normal cs #[] none w (fun _ hk => hk.elim) (fun ρ' _ => ⟨rfl, hW ρ', rfl⟩) (Nat.le_refl _) rfl
  obtain ⟨e1, e2, e3⟩ := hO ρ1 (.refl _ _)
  have hk := hK ρ1 (.refl _ _)
  have e3 : M' = none := e3
  subst e3
  have g1 : (mkP ints.post).getO 1 = getP ints.post 1 := getO_mkP _ _
  have g0 : (mkP ints.post).getO 0 = getP ints.post 0 := getO_mkP _ _
  obtain ⟨p1, hp1, hq1⟩ := e2.obj 1 (by rw [Live, g1]; exact nofun)
  obtain ⟨p0, hp0, hq0⟩ := e2.obj 0 (by rw [Live, g0]; exact nofun)
  rw [g1] at hq1
  rw [g0] at hq0
  obtain ⟨E, cl, rfl, hB, h1, h2, h3⟩ := hq1
  have e1 : V = .map (some (ρ1.loc 1)) := by rw [e1]; simp [ints, rlV, rlB, O]
  subst e1
  obtain ⟨_, hq0⟩ := hq0
  subst hq0
  refine ⟨.returned _, w', fr, ⟨ρ1.loc 1, ρ1.loc 0, E, cl, rfl, hp1, ?_, ?_, ⟨hk.os, hk.tape, hk.out, hk.size, fun k hk' => (hk.rest k hk' fun j hj => absurd (show (mkH []).getO j = .gone by rw [getO_mkH]; rfl) hj).1⟩⟩, hs, hL.fid, hL.leaving⟩
  · refine h3.trans (List.Perm.of_eq ?_)
    simp [intsKV, rlV, rlF, rlA, rlB, O]
  · rw [hp0]
    simp [rlV, rlF]
end Go.Clo
namespace Go.Clo

theorem loop_bytes (s : ByteArray) : ∀ (n i : Nat) (r : List UInt8), s.size - i = n → ByteArray.toList.loop s i r = r.reverse ++ s.data.toList.drop i
  | n, i, r, hn => by
    unfold ByteArray.toList.loop
    by_cases h : i < s.size
    · rw [if_pos h]
      have ih := loop_bytes s (n - 1) (i + 1) (s.get! i :: r) (by omega)
      rw [ih]
      have hl : i < s.data.toList.length := by rw [Array.length_toList]; exact h
      rw [List.drop_eq_getElem_cons hl]
      have hi : i < s.data.size := by simpa using hl
      have hg : s.get! i = s.data.toList[i] := by
        show s.data[i]! = _
        rw [getElem!_pos s.data i hi]
        rfl
      simp [hg]
    · rw [if_neg h]
      have hl : s.data.toList.length ≤ i := by rw [Array.length_toList]; exact Nat.le_of_not_lt h
      rw [List.drop_eq_nil_of_le hl]
      simp
  termination_by _ i => s.size - i
theorem str_bytes (s : ByteArray) : s.toList = s.data.toList := by
  have := loop_bytes s _ 0 [] rfl
  rw [List.drop_zero, List.reverse_nil, List.nil_append] at this
  exact this
theorem str_of {s : ByteArray} {l : List UInt8} (h : (s.toList == l) = true) : s = ⟨⟨l⟩⟩ := by
  have h : s.data.toList = l := by rw [← str_bytes]; simpa using h
  obtain ⟨⟨d⟩⟩ := s
  have h : d = l := h
  rw [h]
end Go.Clo
namespace Go.Clo
open Go.RowKit Go.Proofs

theorem lookup_str {P : Program} {G : Tab} (T : TabOK P G) {t kt et : TypeId} {z : Value} (hd : und G t = some (.map kt et)) (hk : xkey G kt = .str) (hz : zero? G et = some z) {w : World} {b : Nat} {E : Array MapEntry} {cl : Nat} (hm : w.heap[b]? = some (.map E cl))
    {kv : List (Value × Value)} (hp : (E.toList.map fun e => (e.key, e.val)).Perm kv) (hS : ∀ e ∈ kv, ∃ s, e.1 = .string s) (s : ByteArray) :
    ((∀ e ∈ kv, e.1 ≠ .string s) → (Instr.lookup t (.map (some b)) (.string s) true).run P w = .ok (.tuple #[z, .bool false]) w) ∧
    (∀ v, (.string s, v) ∈ kv → (∀ u, (.string s, u) ∈ kv → u = v) → (Instr.lookup t (.map (some b)) (.string s) true).run P w = .ok (.tuple #[v, .bool true]) w) := by
  have hkk : keyX (xkey G kt) (.string s) (.string s) = some true := by rw [hk]; exact keyX_str s
  have hin : ∀ e ∈ E.toList, (e.key, e.val) ∈ kv := fun e he => hp.mem_iff.1 (List.mem_map.2 ⟨e, he, rfl⟩)
  have hkl : ∀ e ∈ E.toList, keyX (xkey G kt) e.key e.key = some true := by
    intro e he
    obtain ⟨s, hs⟩ := hS _ (hin e he)
    have hs : e.key = .string s := hs
    rw [hs, hk]
    exact keyX_str s
  obtain ⟨r, hrun, hF⟩ := findKey_found (w := w) T rfl hkk hkl
  have hck := checkKey_run (w := w) T rfl hkk E.isEmpty 9998
  simp only [Nat.reduceAdd] at hck
  have hL : (Instr.lookup t (.map (some b)) (.string s) true).run P w = r.elim (Result.ok (.tuple #[z, .bool false]) w) fun p => Result.ok (.tuple #[p.2, .bool true]) w := by
    simp only [Instr.lookup, Sem.run_bind, T.run_und hd, Result.andThen, Sem.run_pure, MapKept.run_getObj_map hm, hck, hrun]
    cases r with
    | none => simp [T.run_zero hz]
    | some p => simp
  refine ⟨fun hno => ?_, fun v hv hu => ?_⟩
  · cases r with
    | none => exact hL
    | some p =>
      obtain ⟨j, u⟩ := p
      obtain ⟨e, _, he, hek, _⟩ := hF
      exact absurd hek (hno _ (hin e (List.mem_of_getElem? he)))
  · cases r with
    | none =>
      obtain ⟨e, he, hq⟩ := List.mem_map.1 (hp.mem_iff.2 hv)
      simp only [Prod.mk.injEq] at hq
      exact absurd hq.1 (hF e he)
    | some p =>
      obtain ⟨j, u⟩ := p
      obtain ⟨e, _, he, hek, hue⟩ := hF
      have h1 := hin e (List.mem_of_getElem? he)
      rw [hek] at h1
      have h2 := hu _ h1
      rw [hL]
      show Result.ok (Value.tuple #[u, .bool true]) w = _
      rw [hue, h2]
end Go.Clo
namespace Go.Clo
open Go.RowKit Go.Proofs

set_option maxRecDepth 100000 in
set_option maxHeartbeats 1000000 in
theorem operands_0 (w : World) : Calls Tryz.prog 10 #[.string (⟨#[43]⟩ : ByteArray)] w fun e w' => e = .returned (.int .i64 2) ∧ w' = w := by
  go_enter Tryz.func10, Tryz.ntmps10
  go_wp2
  go_ret
  exact ⟨rfl, rfl⟩
set_option maxRecDepth 100000 in
set_option maxHeartbeats 1000000 in
theorem operands_1 (w : World) : Calls Tryz.prog 10 #[.string (⟨#[45]⟩ : ByteArray)] w fun e w' => e = .returned (.int .i64 2) ∧ w' = w := by
  go_enter Tryz.func10, Tryz.ntmps10
  go_wp2
  go_ret
  exact ⟨rfl, rfl⟩
set_option maxRecDepth 100000 in
set_option maxHeartbeats 1000000 in
theorem operands_2 (w : World) : Calls Tryz.prog 10 #[.string (⟨#[42]⟩ : ByteArray)] w fun e w' => e = .returned (.int .i64 2) ∧ w' = w := by
  go_enter Tryz.func10, Tryz.ntmps10
  go_wp2
  go_ret
  exact ⟨rfl, rfl⟩
set_option maxRecDepth 100000 in
set_option maxHeartbeats 1000000 in
theorem operands_3 (w : World) : Calls Tryz.prog 10 #[.string (⟨#[113, 117, 111, 116, 105, 101, 110, 116]⟩ : ByteArray)] w fun e w' => e = .returned (.int .i64 2) ∧ w' = w := by
  go_enter Tryz.func10, Tryz.ntmps10
  go_wp2
  go_ret
  exact ⟨rfl, rfl⟩
set_option maxRecDepth 100000 in
set_option maxHeartbeats 1000000 in
theorem operands_4 (w : World) : Calls Tryz.prog 10 #[.string (⟨#[60]⟩ : ByteArray)] w fun e w' => e = .returned (.int .i64 2) ∧ w' = w := by
  go_enter Tryz.func10, Tryz.ntmps10
  go_wp2
  go_ret
  exact ⟨rfl, rfl⟩
set_option maxRecDepth 100000 in
set_option maxHeartbeats 1000000 in
theorem operands_5 (w : World) : Calls Tryz.prog 10 #[.string (⟨#[60, 61]⟩ : ByteArray)] w fun e w' => e = .returned (.int .i64 2) ∧ w' = w := by
  go_enter Tryz.func10, Tryz.ntmps10
  go_wp2
  go_ret
  exact ⟨rfl, rfl⟩
set_option maxRecDepth 100000 in
set_option maxHeartbeats 1000000 in
theorem operands_6 (w : World) : Calls Tryz.prog 10 #[.string (⟨#[62]⟩ : ByteArray)] w fun e w' => e = .returned (.int .i64 2) ∧ w' = w := by
  go_enter Tryz.func10, Tryz.ntmps10
  go_wp2
  go_ret
  exact ⟨rfl, rfl⟩
set_option maxRecDepth 100000 in
set_option maxHeartbeats 1000000 in
theorem operands_7 (w : World) : Calls Tryz.prog 10 #[.string (⟨#[62, 61]⟩ : ByteArray)] w fun e w' => e = .returned (.int .i64 2) ∧ w' = w := by
  go_enter Tryz.func10, Tryz.ntmps10
  go_wp2
  go_ret
  exact ⟨rfl, rfl⟩
set_option maxRecDepth 100000 in
set_option maxHeartbeats 1000000 in
theorem operands_8 (w : World) : Calls Tryz.prog 10 #[.string (⟨#[61]⟩ : ByteArray)] w fun e w' => e = .returned (.int .i64 2) ∧ w' = w := by
  go_enter Tryz.func10, Tryz.ntmps10
  go_wp2
  go_ret
  exact ⟨rfl, rfl⟩
set_option maxRecDepth 100000 in
set_option maxHeartbeats 1000000 in
theorem operands_9 (w : World) : Calls Tryz.prog 10 #[.string (⟨#[61, 61]⟩ : ByteArray)] w fun e w' => e = .returned (.int .i64 2) ∧ w' = w := by
  go_enter Tryz.func10, Tryz.ntmps10
  go_wp2
  go_ret
  exact ⟨rfl, rfl⟩
set_option maxRecDepth 100000 in
set_option maxHeartbeats 1000000 in
theorem operands_10 (w : World) : Calls Tryz.prog 10 #[.string (⟨#[110, 111, 116]⟩ : ByteArray)] w fun e w' => e = .returned (.int .i64 1) ∧ w' = w := by
  go_enter Tryz.func10, Tryz.ntmps10
  go_wp2
  go_ret
  exact ⟨rfl, rfl⟩
set_option maxRecDepth 100000 in
set_option maxHeartbeats 1000000 in
theorem operands_11 (w : World) : Calls Tryz.prog 10 #[.string (⟨#[112, 114, 105, 110, 116]⟩ : ByteArray)] w fun e w' => e = .returned (.int .i64 1) ∧ w' = w := by
  go_enter Tryz.func10, Tryz.ntmps10
  go_wp2
  go_ret
  exact ⟨rfl, rfl⟩
set_option maxRecDepth 100000 in
set_option maxHeartbeats 1000000 in
theorem operands_12 (w : World) : Calls Tryz.prog 10 #[.string (⟨#[115, 105, 103, 110, 97, 108]⟩ : ByteArray)] w fun e w' => e = .returned (.int .i64 1) ∧ w' = w := by
  go_enter Tryz.func10, Tryz.ntmps10
  go_wp2
  go_ret
  exact ⟨rfl, rfl⟩
set_option maxRecDepth 100000 in
set_option maxHeartbeats 1000000 in
theorem operands_13 (w : World) : Calls Tryz.prog 10 #[.string (⟨#[99, 108, 97, 115, 115, 45, 111, 102]⟩ : ByteArray)] w fun e w' => e = .returned (.int .i64 1) ∧ w' = w := by
  go_enter Tryz.func10, Tryz.ntmps10
  go_wp2
  go_ret
  exact ⟨rfl, rfl⟩
set_option maxRecDepth 100000 in
set_option maxHeartbeats 1000000 in
theorem operands_none (s : ByteArray) (w : World) (h0 : (s.toList == [43]) = false) (h1 : (s.toList == [45]) = false) (h2 : (s.toList == [42]) = false) (h3 : (s.toList == [113, 117, 111, 116, 105, 101, 110, 116]) = false) (h4 : (s.toList == [60]) = false) (h5 : (s.toList == [60, 61]) = false) (h6 : (s.toList == [62]) = false) (h7 : (s.toList == [62, 61]) = false) (h8 : (s.toList == [61]) = false) (h9 : (s.toList == [61, 61]) = false) (h10 : (s.toList == [110, 111, 116]) = false) (h11 : (s.toList == [112, 114, 105, 110, 116]) = false) (h12 : (s.toList == [115, 105, 103, 110, 97, 108]) = false) (h13 : (s.toList == [99, 108, 97, 115, 115, 45, 111, 102]) = false) : Calls Tryz.prog 10 #[.string s] w fun e w' => e = .returned (.int .i64 0) ∧ w' = w := by
  go_enter Tryz.func10, Tryz.ntmps10
  go_wp2
  go_ret
  exact ⟨rfl, rfl⟩
end Go.Clo
namespace Go.Clo
open Go.RowKit Go.Proofs

def tagI (n : Int) : Value := .agg #[.int .i64 1, .int .i64 n, .string ⟨#[]⟩]
def tagB (b : Bool) : Value := .agg #[.int .i64 2, .int .i64 (if b then 1 else 0), .string ⟨#[]⟩]
theorem below_alloc (w : World) (o : Obj) : Below w.heap.size w (w.alloc o) := ⟨rfl, rfl, rfl, by simp, fun k hk => Go.heap_alloc_old w o hk⟩
set_option maxRecDepth 100000 in
set_option maxHeartbeats 1000000 in
theorem num_any (n : Int) (w : World) : Calls Tryz.prog 30 #[.int .i64 n] w fun e w' => e = .returned (tagI n) ∧ Below w.heap.size w w' := by
  go_enter Tryz.func30, Tryz.ntmps30
  go_wp2
  go_returns
  exact ⟨rfl, below_alloc _ _⟩
set_option maxRecDepth 100000 in
set_option maxHeartbeats 1000000 in
theorem truth_t (w : World) : Calls Tryz.prog 36 #[.bool true] w fun e w' => e = .returned (tagB true) ∧ Below w.heap.size w w' := by
  go_enter Tryz.func36, Tryz.ntmps36
  go_wp2
  go_returns
  exact ⟨rfl, below_alloc _ _⟩
set_option maxRecDepth 100000 in
set_option maxHeartbeats 1000000 in
theorem truth_f (w : World) : Calls Tryz.prog 36 #[.bool false] w fun e w' => e = .returned (tagB false) ∧ Below w.heap.size w w' := by
  go_enter Tryz.func36, Tryz.ntmps36
  go_wp2
  go_returns
  exact ⟨rfl, below_alloc _ _⟩
end Go.Clo
namespace Go.Clo
open Go.RowKit Go.Proofs

theorem Below.both {B : Nat} {a b c : World} (h : Below B a b) (k : Below B b c) : Below B a c := ⟨k.os.trans h.os, k.tape.trans h.tape, k.output.trans h.output, Nat.le_trans h.size k.size, fun j hj => (k.block j hj).trans (h.block j hj)⟩
theorem Below.low {B B' : Nat} {a b : World} (h : Below B a b) (hB : B' ≤ B) : Below B' a b := ⟨h.os, h.tape, h.output, h.size, fun j hj => h.block j (Nat.lt_of_lt_of_le hj hB)⟩
theorem below_step {a b c : World} (h : Below a.heap.size a b) (k : Below b.heap.size b c) : Below a.heap.size a c := Below.both h (Below.low k h.size)
set_option maxRecDepth 100000 in
set_option maxHeartbeats 1000000 in
theorem plus_any (a b : Int) {w : World} {bc : Nat} (hc : w.heap[bc]? = some (.cells #[.func (.func 30) #[] #[]] 104 (0, 0))) :
    Calls Tryz.prog 31 #[.int .i64 a, .int .i64 b, .pointer (some ⟨bc, 0, none⟩)] w fun e w' => e = .returned (tagI (wrap64 (a + b))) ∧ Below w.heap.size w w' := by
  have c0 : w.cell? ⟨bc, 0, none⟩ = some (.func (.func 30) #[] #[]) := by simp [World.cell?, hc]
  have hlt : bc < w.heap.size := lt_of_block hc
  clear hc
  go_enter Tryz.func31, Tryz.ntmps31
  go_wp2
  go_returns
  exact ⟨rfl, below_step (below_alloc _ _) (below_alloc _ _)⟩
set_option maxRecDepth 100000 in
set_option maxHeartbeats 1000000 in
theorem minus_any (a b : Int) {w : World} {bc : Nat} (hc : w.heap[bc]? = some (.cells #[.func (.func 30) #[] #[]] 104 (0, 0))) :
    Calls Tryz.prog 32 #[.int .i64 a, .int .i64 b, .pointer (some ⟨bc, 0, none⟩)] w fun e w' => e = .returned (tagI (wrap64 (a - b))) ∧ Below w.heap.size w w' := by
  have c0 : w.cell? ⟨bc, 0, none⟩ = some (.func (.func 30) #[] #[]) := by simp [World.cell?, hc]
  have hlt : bc < w.heap.size := lt_of_block hc
  clear hc
  go_enter Tryz.func32, Tryz.ntmps32
  go_wp2
  go_returns
  exact ⟨rfl, below_step (below_alloc _ _) (below_alloc _ _)⟩
set_option maxRecDepth 100000 in
set_option maxHeartbeats 1000000 in
theorem times_any (a b : Int) {w : World} {bc : Nat} (hc : w.heap[bc]? = some (.cells #[.func (.func 30) #[] #[]] 104 (0, 0))) :
    Calls Tryz.prog 33 #[.int .i64 a, .int .i64 b, .pointer (some ⟨bc, 0, none⟩)] w fun e w' => e = .returned (tagI (wrap64 (a * b))) ∧ Below w.heap.size w w' := by
  have c0 : w.cell? ⟨bc, 0, none⟩ = some (.func (.func 30) #[] #[]) := by simp [World.cell?, hc]
  have hlt : bc < w.heap.size := lt_of_block hc
  clear hc
  go_enter Tryz.func33, Tryz.ntmps33
  go_wp2
  go_returns
  exact ⟨rfl, below_step (below_alloc _ _) (below_alloc _ _)⟩
set_option maxRecDepth 100000 in
set_option maxHeartbeats 1000000 in
theorem lt_any (a b : Int) (w : World) : Calls Tryz.prog 35 #[.int .i64 a, .int .i64 b] w fun e w' => e = .returned (tagB (decide (a < b))) ∧ Below w.heap.size w w' := by
  by_cases h : a < b
  · go_enter Tryz.func35, Tryz.ntmps35
    go_wp2
    go_returns
    exact ⟨by simp [tagB, h], below_step (below_alloc _ _) (below_alloc _ _)⟩
  · go_enter Tryz.func35, Tryz.ntmps35
    go_wp2
    go_returns
    exact ⟨by simp [tagB, h], below_step (below_alloc _ _) (below_alloc _ _)⟩
set_option maxRecDepth 100000 in
set_option maxHeartbeats 1000000 in
theorem le_any (a b : Int) (w : World) : Calls Tryz.prog 37 #[.int .i64 a, .int .i64 b] w fun e w' => e = .returned (tagB (decide (a ≤ b))) ∧ Below w.heap.size w w' := by
  by_cases h : a ≤ b
  · go_enter Tryz.func37, Tryz.ntmps37
    go_wp2
    go_returns
    exact ⟨by simp [tagB, h], below_step (below_alloc _ _) (below_alloc _ _)⟩
  · go_enter Tryz.func37, Tryz.ntmps37
    go_wp2
    go_returns
    exact ⟨by simp [tagB, h], below_step (below_alloc _ _) (below_alloc _ _)⟩
set_option maxRecDepth 100000 in
set_option maxHeartbeats 1000000 in
theorem gt_any (a b : Int) (w : World) : Calls Tryz.prog 38 #[.int .i64 a, .int .i64 b] w fun e w' => e = .returned (tagB (decide (b < a))) ∧ Below w.heap.size w w' := by
  by_cases h : b < a
  · go_enter Tryz.func38, Tryz.ntmps38
    go_wp2
    go_returns
    exact ⟨by simp [tagB, h], below_step (below_alloc _ _) (below_alloc _ _)⟩
  · go_enter Tryz.func38, Tryz.ntmps38
    go_wp2
    go_returns
    exact ⟨by simp [tagB, h], below_step (below_alloc _ _) (below_alloc _ _)⟩
set_option maxRecDepth 100000 in
set_option maxHeartbeats 1000000 in
theorem ge_any (a b : Int) (w : World) : Calls Tryz.prog 39 #[.int .i64 a, .int .i64 b] w fun e w' => e = .returned (tagB (decide (b ≤ a))) ∧ Below w.heap.size w w' := by
  by_cases h : b ≤ a
  · go_enter Tryz.func39, Tryz.ntmps39
    go_wp2
    go_returns
    exact ⟨by simp [tagB, h], below_step (below_alloc _ _) (below_alloc _ _)⟩
  · go_enter Tryz.func39, Tryz.ntmps39
    go_wp2
    go_returns
    exact ⟨by simp [tagB, h], below_step (below_alloc _ _) (below_alloc _ _)⟩
set_option maxRecDepth 100000 in
set_option maxHeartbeats 1000000 in
theorem eq_any (a b : Int) (w : World) : Calls Tryz.prog 40 #[.int .i64 a, .int .i64 b] w fun e w' => e = .returned (tagB (decide (a = b))) ∧ Below w.heap.size w w' := by
  by_cases h : a = b
  · go_enter Tryz.func40, Tryz.ntmps40
    go_wp2
    go_returns
    exact ⟨by simp [tagB, h], below_step (below_alloc _ _) (below_alloc _ _)⟩
  · go_enter Tryz.func40, Tryz.ntmps40
    go_wp2
    go_returns
    exact ⟨by simp [tagB, h], below_step (below_alloc _ _) (below_alloc _ _)⟩
set_option maxRecDepth 100000 in
set_option maxHeartbeats 1000000 in
theorem eqq_any (a b : Int) (w : World) : Calls Tryz.prog 41 #[.int .i64 a, .int .i64 b] w fun e w' => e = .returned (tagB (decide (a = b))) ∧ Below w.heap.size w w' := by
  by_cases h : a = b
  · go_enter Tryz.func41, Tryz.ntmps41
    go_wp2
    go_returns
    exact ⟨by simp [tagB, h], below_step (below_alloc _ _) (below_alloc _ _)⟩
  · go_enter Tryz.func41, Tryz.ntmps41
    go_wp2
    go_returns
    exact ⟨by simp [tagB, h], below_step (below_alloc _ _) (below_alloc _ _)⟩
end Go.Clo
namespace Go.Clo
open Go.RowKit Go.Proofs

set_option maxRecDepth 100000 in
set_option maxHeartbeats 1000000 in
theorem rprim_0 (a b : Int) (w : World) : Calls Tryz.prog 9 #[.string ⟨#[43]⟩, .agg #[.int .i64 a, .int .i64 b]] w fun e w' => e = .returned (.tuple #[tagI (wrap64 (a + b)), .bool true]) ∧ Below w.heap.size w w' := by
  go_enter Tryz.func9, Tryz.ntmps9
  go_wp2
  go_returns
  exact ⟨rfl, below_step (below_alloc _ _) (below_alloc _ _)⟩
set_option maxRecDepth 100000 in
set_option maxHeartbeats 1000000 in
theorem rprim_1 (a b : Int) (w : World) : Calls Tryz.prog 9 #[.string ⟨#[45]⟩, .agg #[.int .i64 a, .int .i64 b]] w fun e w' => e = .returned (.tuple #[tagI (wrap64 (a - b)), .bool true]) ∧ Below w.heap.size w w' := by
  go_enter Tryz.func9, Tryz.ntmps9
  go_wp2
  go_returns
  exact ⟨rfl, below_step (below_alloc _ _) (below_alloc _ _)⟩
set_option maxRecDepth 100000 in
set_option maxHeartbeats 1000000 in
theorem rprim_2 (a b : Int) (w : World) : Calls Tryz.prog 9 #[.string ⟨#[42]⟩, .agg #[.int .i64 a, .int .i64 b]] w fun e w' => e = .returned (.tuple #[tagI (wrap64 (a * b)), .bool true]) ∧ Below w.heap.size w w' := by
  go_enter Tryz.func9, Tryz.ntmps9
  go_wp2
  go_returns
  exact ⟨rfl, below_step (below_alloc _ _) (below_alloc _ _)⟩
set_option maxRecDepth 100000 in
set_option maxHeartbeats 1000000 in
theorem rprim_4 (a b : Int) (w : World) : Calls Tryz.prog 9 #[.string ⟨#[60]⟩, .agg #[.int .i64 a, .int .i64 b]] w fun e w' => e = .returned (.tuple #[tagB (decide (a < b)), .bool true]) ∧ Below w.heap.size w w' := by
  by_cases h : a < b
  · go_enter Tryz.func9, Tryz.ntmps9
    go_wp2
    go_returns
    exact ⟨by simp [tagB, h], below_step (below_alloc _ _) (below_step (below_alloc _ _) (below_alloc _ _))⟩
  · go_enter Tryz.func9, Tryz.ntmps9
    go_wp2
    go_returns
    exact ⟨by simp [tagB, h], below_step (below_alloc _ _) (below_step (below_alloc _ _) (below_alloc _ _))⟩
set_option maxRecDepth 100000 in
set_option maxHeartbeats 1000000 in
theorem rprim_5 (a b : Int) (w : World) : Calls Tryz.prog 9 #[.string ⟨#[60, 61]⟩, .agg #[.int .i64 a, .int .i64 b]] w fun e w' => e = .returned (.tuple #[tagB (decide (a ≤ b)), .bool true]) ∧ Below w.heap.size w w' := by
  by_cases h : a ≤ b
  · go_enter Tryz.func9, Tryz.ntmps9
    go_wp2
    go_returns
    exact ⟨by simp [tagB, h], below_step (below_alloc _ _) (below_step (below_alloc _ _) (below_alloc _ _))⟩
  · go_enter Tryz.func9, Tryz.ntmps9
    go_wp2
    go_returns
    exact ⟨by simp [tagB, h], below_step (below_alloc _ _) (below_step (below_alloc _ _) (below_alloc _ _))⟩
set_option maxRecDepth 100000 in
set_option maxHeartbeats 1000000 in
theorem rprim_6 (a b : Int) (w : World) : Calls Tryz.prog 9 #[.string ⟨#[62]⟩, .agg #[.int .i64 a, .int .i64 b]] w fun e w' => e = .returned (.tuple #[tagB (decide (b < a)), .bool true]) ∧ Below w.heap.size w w' := by
  by_cases h : b < a
  · go_enter Tryz.func9, Tryz.ntmps9
    go_wp2
    go_returns
    exact ⟨by simp [tagB, h], below_step (below_alloc _ _) (below_step (below_alloc _ _) (below_alloc _ _))⟩
  · go_enter Tryz.func9, Tryz.ntmps9
    go_wp2
    go_returns
    exact ⟨by simp [tagB, h], below_step (below_alloc _ _) (below_step (below_alloc _ _) (below_alloc _ _))⟩
set_option maxRecDepth 100000 in
set_option maxHeartbeats 1000000 in
theorem rprim_7 (a b : Int) (w : World) : Calls Tryz.prog 9 #[.string ⟨#[62, 61]⟩, .agg #[.int .i64 a, .int .i64 b]] w fun e w' => e = .returned (.tuple #[tagB (decide (b ≤ a)), .bool true]) ∧ Below w.heap.size w w' := by
  by_cases h : b ≤ a
  · go_enter Tryz.func9, Tryz.ntmps9
    go_wp2
    go_returns
    exact ⟨by simp [tagB, h], below_step (below_alloc _ _) (below_step (below_alloc _ _) (below_alloc _ _))⟩
  · go_enter Tryz.func9, Tryz.ntmps9
    go_wp2
    go_returns
    exact ⟨by simp [tagB, h], below_step (below_alloc _ _) (below_step (below_alloc _ _) (below_alloc _ _))⟩
set_option maxRecDepth 100000 in
set_option maxHeartbeats 1000000 in
theorem rprim_8 (a b : Int) (w : World) : Calls Tryz.prog 9 #[.string ⟨#[61]⟩, .agg #[.int .i64 a, .int .i64 b]] w fun e w' => e = .returned (.tuple #[tagB (decide (a = b)), .bool true]) ∧ Below w.heap.size w w' := by
  by_cases h : a = b
  · go_enter Tryz.func9, Tryz.ntmps9
    go_wp2
    go_returns
    exact ⟨by simp [tagB, h], below_step (below_alloc _ _) (below_step (below_alloc _ _) (below_alloc _ _))⟩
  · go_enter Tryz.func9, Tryz.ntmps9
    go_wp2
    go_returns
    exact ⟨by simp [tagB, h], below_step (below_alloc _ _) (below_step (below_alloc _ _) (below_alloc _ _))⟩
set_option maxRecDepth 100000 in
set_option maxHeartbeats 1000000 in
theorem rprim_9 (a b : Int) (w : World) : Calls Tryz.prog 9 #[.string ⟨#[61, 61]⟩, .agg #[.int .i64 a, .int .i64 b]] w fun e w' => e = .returned (.tuple #[tagB (decide (a = b)), .bool true]) ∧ Below w.heap.size w w' := by
  by_cases h : a = b
  · go_enter Tryz.func9, Tryz.ntmps9
    go_wp2
    go_returns
    exact ⟨by simp [tagB, h], below_step (below_alloc _ _) (below_step (below_alloc _ _) (below_alloc _ _))⟩
  · go_enter Tryz.func9, Tryz.ntmps9
    go_wp2
    go_returns
    exact ⟨by simp [tagB, h], below_step (below_alloc _ _) (below_step (below_alloc _ _) (below_alloc _ _))⟩
end Go.Clo
namespace Go.Clo
open Go.RowKit Go.Proofs

def tag0 : Value := .agg #[.int .i64 0, .int .i64 0, .string ⟨#[]⟩]
set_option maxRecDepth 100000 in
set_option maxHeartbeats 1000000 in
theorem rprim_q0 (a : Int) (w : World) : Calls Tryz.prog 9 #[.string ⟨#[113, 117, 111, 116, 105, 101, 110, 116]⟩, .agg #[.int .i64 a, .int .i64 0]] w fun e w' => e = .returned (.tuple #[tag0, .bool false]) ∧ Below w.heap.size w w' := by
  go_enter Tryz.func9, Tryz.ntmps9
  go_wp2
  go_returns
  exact ⟨rfl, below_step (below_alloc _ _) (below_alloc _ _)⟩
set_option maxRecDepth 100000 in
set_option maxHeartbeats 1000000 in
theorem rprim_none (s : ByteArray) (a b : Int) (w : World) (h0 : (s.toList == [43]) = false) (h1 : (s.toList == [45]) = false) (h2 : (s.toList == [42]) = false) (h3 : (s.toList == [113, 117, 111, 116, 105, 101, 110, 116]) = false) (h4 : (s.toList == [60]) = false) (h5 : (s.toList == [60, 61]) = false) (h6 : (s.toList == [62]) = false) (h7 : (s.toList == [62, 61]) = false) (h8 : (s.toList == [61]) = false) (h9 : (s.toList == [61, 61]) = false) : Calls Tryz.prog 9 #[.string s, .agg #[.int .i64 a, .int .i64 b]] w fun e w' => e = .returned (.tuple #[tag0, .bool false]) ∧ Below w.heap.size w w' := by
  go_enter Tryz.func9, Tryz.ntmps9
  go_wp2
  go_returns
  exact ⟨rfl, below_step (below_alloc _ _) (below_alloc _ _)⟩
end Go.Clo
namespace Go.Clo
open Go.RowKit Go.Proofs

set_option maxRecDepth 100000 in
set_option maxHeartbeats 1000000 in
theorem rprim_q (a b : Int) (w : World) (hb : ¬ b = 0) : Calls Tryz.prog 9 #[.string ⟨#[113, 117, 111, 116, 105, 101, 110, 116]⟩, .agg #[.int .i64 a, .int .i64 b]] w fun e w' => e = .returned (.tuple #[tagI (wrap64 (a.tdiv b)), .bool true]) ∧ Below w.heap.size w w' := by
  go_enter Tryz.func9, Tryz.ntmps9
  go_wp2
  go_returns
  exact ⟨rfl, below_step (below_alloc _ _) (below_alloc _ _)⟩
end Go.Clo
namespace Go.Clo
open Go.RowKit Go.Proofs

theorem und_ints : und G 58 = some (.map 9 56) := by kernel_rfl
theorem zero_f : zero? G 56 = some .nilFunc := by kernel_rfl
theorem keys_ints (bc : Nat) : ∀ e ∈ intsKV bc, ∃ s, e.1 = .string s := by
  intro e he
  simp only [intsKV, List.mem_cons, List.not_mem_nil, or_false] at he
  rcases he with rfl | rfl | rfl | rfl | rfl | rfl | rfl | rfl | rfl | rfl <;> exact ⟨_, rfl⟩
theorem ints_at {w : World} {bm bc : Nat} {E : Array MapEntry} {cl : Nat} (hm : w.heap[bm]? = some (.map E cl)) (hp : (E.toList.map fun e => (e.key, e.val)).Perm (intsKV bc)) (s : ByteArray) (v : Value)
    (hv : (.string s, v) ∈ intsKV bc) (hu : ∀ u, (.string s, u) ∈ intsKV bc → u = v) : (Instr.lookup 58 (.map (some bm)) (.string s) true).run Tryz.prog w = .ok (.tuple #[v, .bool true]) w :=
  (lookup_str tab_ok und_ints key_names zero_f hm hp (keys_ints bc) s).2 v hv hu
theorem ints_no {w : World} {bm bc : Nat} {E : Array MapEntry} {cl : Nat} (hm : w.heap[bm]? = some (.map E cl)) (hp : (E.toList.map fun e => (e.key, e.val)).Perm (intsKV bc)) (s : ByteArray)
    (hu : ∀ e ∈ intsKV bc, e.1 ≠ .string s) : (Instr.lookup 58 (.map (some bm)) (.string s) true).run Tryz.prog w = .ok (.tuple #[.nilFunc, .bool false]) w :=
  (lookup_str tab_ok und_ints key_names zero_f hm hp (keys_ints bc) s).1 hu

/-- the result's block, still as it was laid -/
theorem res_at {w w1 wx : World} (h1 : Below w1.heap.size w1 wx) (hw : w1 = w.alloc (.cells #[.int .i64 0, .int .i64 0, .string ⟨#[]⟩] 28)) :
    wx.heap[w.heap.size]? = some (.cells #[.int .i64 0, .int .i64 0, .string ⟨#[]⟩] 28) := by
  rw [h1.block _ (by rw [hw]; simp), hw]
  exact Go.heap_alloc_new _ _
theorem res_at2 {w w1 wx : World} (h1 : Below w1.heap.size w1 wx) (hw : w1.heap = (w.alloc (.cells #[.int .i64 0, .int .i64 0, .string ⟨#[]⟩] 28)).heap) :
    wx.heap[w.heap.size]? = some (.cells #[.int .i64 0, .int .i64 0, .string ⟨#[]⟩] 28) := by
  rw [h1.block _ (by rw [hw]; simp), hw]
  exact Go.heap_alloc_new _ _
theorem below_drew {w wx : World} {o : Obj} (h : Below (w.alloc o).drew.heap.size (w.alloc o).drew wx) : Below w.heap.size w wx := by
  refine below_step (b := (w.alloc o).drew) ?_ h
  have := below_alloc w o
  exact ⟨this.os, this.tape, this.output, this.size, this.block⟩
theorem res_cells {w : World} {b : Nat} (h : w.heap[b]? = some (.cells #[.int .i64 0, .int .i64 0, .string ⟨#[]⟩] 28)) :
    (w.cell? ⟨b, 0, none⟩ = some (.int .i64 0) ∧ w.cell? ⟨b, 1, none⟩ = some (.int .i64 0) ∧ w.cell? ⟨b, 2, none⟩ = some (.string ⟨#[]⟩)) ∧ w.frozen? ⟨b, 0, none⟩ = false ∧ w.frozen? ⟨b, 1, none⟩ = false ∧ w.frozen? ⟨b, 2, none⟩ = false := by
  refine ⟨⟨?_, ?_, ?_⟩, ?_, ?_, ?_⟩ <;> simp [World.cell?, World.frozen?, h]
theorem heap_setCell {w : World} {b : Nat} {c : Array Value} {e : TypeId} {f : Nat × Nat} (h : w.heap[b]? = some (.cells c e f)) (i : Nat) (v : Value) :
    (w.setCell ⟨b, i, none⟩ v).heap[b]? = some (.cells (c.setIfInBounds i v) e f) := by
  simp [World.setCell, Array.getElem?_modify, h]
theorem res_stored {w w3 : World} {b : Nat} (h : w3.heap[b]? = some (.cells #[.int .i64 0, .int .i64 0, .string ⟨#[]⟩] 28)) (hB : Below w.heap.size w w3) (hb : w.heap.size ≤ b) (v0 v1 v2 : Value) :
    ∃ w4, w4 = ((w3.setCell ⟨b, 0, none⟩ v0).setCell ⟨b, 1, none⟩ v1).setCell ⟨b, 2, none⟩ v2 ∧ (w4.cell? ⟨b, 0, none⟩ = some v0 ∧ w4.cell? ⟨b, 1, none⟩ = some v1 ∧ w4.cell? ⟨b, 2, none⟩ = some v2) ∧ Below w.heap.size w w4 := by
  have h4 := heap_setCell (heap_setCell (heap_setCell h 0 v0) 1 v1) 2 v2
  refine ⟨_, rfl, ⟨?_, ?_, ?_⟩, ((hB.setCell (p := ⟨b, 0, none⟩) hb v0).setCell (p := ⟨b, 1, none⟩) hb v1).setCell (p := ⟨b, 2, none⟩) hb v2⟩ <;> simp [World.cell?, h4]
end Go.Clo
namespace Go.Clo
open Go.RowKit Go.Proofs

set_option maxRecDepth 100000 in
set_option maxHeartbeats 1000000 in
theorem prim_0 (a b : Int) (w : World) : Calls Tryz.prog 8 #[.string ⟨#[43]⟩, .int .i64 a, .int .i64 b] w fun e w' => e = .returned (.tuple #[tagI (wrap64 (a + b)), .bool true]) ∧ Below w.heap.size w w' := by
  go_enter Tryz.func8, Tryz.ntmps8
  go_wp2_with (go_at_call 20; refine (ints_any _).mono ?_; rintro e wi ⟨bm, bc, E, cl, rfl, hm, hp, hc, hB⟩; have hL := ints_at hm hp ⟨#[43]⟩ (.func (.func 31) #[] #[.pointer (some ⟨bc, 0, none⟩)]) (by simp [intsKV]) (by intro u hu; simpa [intsKV] using hu))
  refine (plus_any a b hc).mono ?_
  rintro e w3 ⟨rfl, hB3⟩
  have hB2 := below_step hB hB3
  obtain ⟨⟨k0, k1, k2⟩, f0, f1, f2⟩ := res_cells (res_at hB2 rfl)
  clear hL hm hp hc
  unfold tagI
  obtain ⟨w4, hw4, ⟨j0, j1, j2⟩, hB4⟩ := res_stored (res_at hB2 rfl) (below_step (below_alloc _ _) hB2) (Nat.le_refl _) (.int .i64 1) (.int .i64 (wrap64 (a + b))) (.string ⟨#[]⟩)
  go_wp2
  rw [← hw4]
  clear hw4 k0 k1 k2 f0 f1 f2
  refine bodyPost_ret (v := .tuple #[.agg #[.int .i64 1, .int .i64 (wrap64 (a + b)), .string ⟨#[]⟩], .bool true]) (by simp [results, Tryz.results8, go_sem, j0, j1, j2]) rfl ?_
  exact ⟨rfl, hB4⟩
set_option maxRecDepth 100000 in
set_option maxHeartbeats 1000000 in
theorem prim_1 (a b : Int) (w : World) : Calls Tryz.prog 8 #[.string ⟨#[45]⟩, .int .i64 a, .int .i64 b] w fun e w' => e = .returned (.tuple #[tagI (wrap64 (a - b)), .bool true]) ∧ Below w.heap.size w w' := by
  go_enter Tryz.func8, Tryz.ntmps8
  go_wp2_with (go_at_call 20; refine (ints_any _).mono ?_; rintro e wi ⟨bm, bc, E, cl, rfl, hm, hp, hc, hB⟩; have hL := ints_at hm hp ⟨#[45]⟩ (.func (.func 32) #[] #[.pointer (some ⟨bc, 0, none⟩)]) (by simp [intsKV]) (by intro u hu; simpa [intsKV] using hu))
  refine (minus_any a b hc).mono ?_
  rintro e w3 ⟨rfl, hB3⟩
  have hB2 := below_step hB hB3
  obtain ⟨⟨k0, k1, k2⟩, f0, f1, f2⟩ := res_cells (res_at hB2 rfl)
  clear hL hm hp hc
  unfold tagI
  obtain ⟨w4, hw4, ⟨j0, j1, j2⟩, hB4⟩ := res_stored (res_at hB2 rfl) (below_step (below_alloc _ _) hB2) (Nat.le_refl _) (.int .i64 1) (.int .i64 (wrap64 (a - b))) (.string ⟨#[]⟩)
  go_wp2
  rw [← hw4]
  clear hw4 k0 k1 k2 f0 f1 f2
  refine bodyPost_ret (v := .tuple #[.agg #[.int .i64 1, .int .i64 (wrap64 (a - b)), .string ⟨#[]⟩], .bool true]) (by simp [results, Tryz.results8, go_sem, j0, j1, j2]) rfl ?_
  exact ⟨rfl, hB4⟩
set_option maxRecDepth 100000 in
set_option maxHeartbeats 1000000 in
theorem prim_2 (a b : Int) (w : World) : Calls Tryz.prog 8 #[.string ⟨#[42]⟩, .int .i64 a, .int .i64 b] w fun e w' => e = .returned (.tuple #[tagI (wrap64 (a * b)), .bool true]) ∧ Below w.heap.size w w' := by
  go_enter Tryz.func8, Tryz.ntmps8
  go_wp2_with (go_at_call 20; refine (ints_any _).mono ?_; rintro e wi ⟨bm, bc, E, cl, rfl, hm, hp, hc, hB⟩; have hL := ints_at hm hp ⟨#[42]⟩ (.func (.func 33) #[] #[.pointer (some ⟨bc, 0, none⟩)]) (by simp [intsKV]) (by intro u hu; simpa [intsKV] using hu))
  refine (times_any a b hc).mono ?_
  rintro e w3 ⟨rfl, hB3⟩
  have hB2 := below_step hB hB3
  obtain ⟨⟨k0, k1, k2⟩, f0, f1, f2⟩ := res_cells (res_at hB2 rfl)
  clear hL hm hp hc
  unfold tagI
  obtain ⟨w4, hw4, ⟨j0, j1, j2⟩, hB4⟩ := res_stored (res_at hB2 rfl) (below_step (below_alloc _ _) hB2) (Nat.le_refl _) (.int .i64 1) (.int .i64 (wrap64 (a * b))) (.string ⟨#[]⟩)
  go_wp2
  rw [← hw4]
  clear hw4 k0 k1 k2 f0 f1 f2
  refine bodyPost_ret (v := .tuple #[.agg #[.int .i64 1, .int .i64 (wrap64 (a * b)), .string ⟨#[]⟩], .bool true]) (by simp [results, Tryz.results8, go_sem, j0, j1, j2]) rfl ?_
  exact ⟨rfl, hB4⟩
end Go.Clo
namespace Go.Clo
open Go.RowKit Go.Proofs

set_option maxRecDepth 100000 in
set_option maxHeartbeats 1000000 in
theorem prim_4 (a b : Int) (w : World) : Calls Tryz.prog 8 #[.string ⟨#[60]⟩, .int .i64 a, .int .i64 b] w fun e w' => e = .returned (.tuple #[tagB (decide (a < b)), .bool true]) ∧ Below w.heap.size w w' := by
  obtain ⟨z, hT⟩ : ∃ z : Int, tagB (decide (a < b)) = .agg #[.int .i64 2, .int .i64 z, .string ⟨#[]⟩] := ⟨_, rfl⟩
  have HF : Hid (∀ w, Calls Tryz.prog 35 #[.int .i64 a, .int .i64 b] w fun e w' => e = .returned (.agg #[.int .i64 2, .int .i64 z, .string ⟨#[]⟩]) ∧ Below w.heap.size w w') := fun w => by
    rw [← hT]
    exact lt_any a b _
  rw [hT]
  clear hT
  go_enter Tryz.func8, Tryz.ntmps8
  go_wp2_with (go_at_call 20; refine (ints_any _).mono ?_; rintro e wi ⟨bm, bc, E, cl, rfl, hm, hp, hc, hB⟩; have hL := ints_at hm hp ⟨#[60]⟩ (.func (.func 35) #[] #[]) (by simp [intsKV]) (by intro u hu; simpa [intsKV] using hu))
  refine (HF.out _).mono ?_
  rintro e w3 ⟨rfl, hB3⟩
  have hB2 := below_step hB hB3
  obtain ⟨⟨k0, k1, k2⟩, f0, f1, f2⟩ := res_cells (res_at hB2 rfl)
  clear hL hm hp hc
  obtain ⟨w4, hw4, ⟨j0, j1, j2⟩, hB4⟩ := res_stored (res_at hB2 rfl) (below_step (below_alloc _ _) hB2) (Nat.le_refl _) (.int .i64 2) (.int .i64 z) (.string ⟨#[]⟩)
  go_wp2
  rw [← hw4]
  clear hw4 k0 k1 k2 f0 f1 f2
  refine bodyPost_ret (v := .tuple #[.agg #[.int .i64 2, .int .i64 z, .string ⟨#[]⟩], .bool true]) (by simp [results, Tryz.results8, go_sem, j0, j1, j2]) rfl ?_
  exact ⟨rfl, hB4⟩
set_option maxRecDepth 100000 in
set_option maxHeartbeats 1000000 in
theorem prim_5 (a b : Int) (w : World) : Calls Tryz.prog 8 #[.string ⟨#[60, 61]⟩, .int .i64 a, .int .i64 b] w fun e w' => e = .returned (.tuple #[tagB (decide (a ≤ b)), .bool true]) ∧ Below w.heap.size w w' := by
  obtain ⟨z, hT⟩ : ∃ z : Int, tagB (decide (a ≤ b)) = .agg #[.int .i64 2, .int .i64 z, .string ⟨#[]⟩] := ⟨_, rfl⟩
  have HF : Hid (∀ w, Calls Tryz.prog 37 #[.int .i64 a, .int .i64 b] w fun e w' => e = .returned (.agg #[.int .i64 2, .int .i64 z, .string ⟨#[]⟩]) ∧ Below w.heap.size w w') := fun w => by
    rw [← hT]
    exact le_any a b _
  rw [hT]
  clear hT
  go_enter Tryz.func8, Tryz.ntmps8
  go_wp2_with (go_at_call 20; refine (ints_any _).mono ?_; rintro e wi ⟨bm, bc, E, cl, rfl, hm, hp, hc, hB⟩; have hL := ints_at hm hp ⟨#[60, 61]⟩ (.func (.func 37) #[] #[]) (by simp [intsKV]) (by intro u hu; simpa [intsKV] using hu))
  refine (HF.out _).mono ?_
  rintro e w3 ⟨rfl, hB3⟩
  have hB2 := below_step hB hB3
  obtain ⟨⟨k0, k1, k2⟩, f0, f1, f2⟩ := res_cells (res_at hB2 rfl)
  clear hL hm hp hc
  obtain ⟨w4, hw4, ⟨j0, j1, j2⟩, hB4⟩ := res_stored (res_at hB2 rfl) (below_step (below_alloc _ _) hB2) (Nat.le_refl _) (.int .i64 2) (.int .i64 z) (.string ⟨#[]⟩)
  go_wp2
  rw [← hw4]
  clear hw4 k0 k1 k2 f0 f1 f2
  refine bodyPost_ret (v := .tuple #[.agg #[.int .i64 2, .int .i64 z, .string ⟨#[]⟩], .bool true]) (by simp [results, Tryz.results8, go_sem, j0, j1, j2]) rfl ?_
  exact ⟨rfl, hB4⟩
set_option maxRecDepth 100000 in
set_option maxHeartbeats 1000000 in
theorem prim_6 (a b : Int) (w : World) : Calls Tryz.prog 8 #[.string ⟨#[62]⟩, .int .i64 a, .int .i64 b] w fun e w' => e = .returned (.tuple #[tagB (decide (b < a)), .bool true]) ∧ Below w.heap.size w w' := by
  obtain ⟨z, hT⟩ : ∃ z : Int, tagB (decide (b < a)) = .agg #[.int .i64 2, .int .i64 z, .string ⟨#[]⟩] := ⟨_, rfl⟩
  have HF : Hid (∀ w, Calls Tryz.prog 38 #[.int .i64 a, .int .i64 b] w fun e w' => e = .returned (.agg #[.int .i64 2, .int .i64 z, .string ⟨#[]⟩]) ∧ Below w.heap.size w w') := fun w => by
    rw [← hT]
    exact gt_any a b _
  rw [hT]
  clear hT
  go_enter Tryz.func8, Tryz.ntmps8
  go_wp2_with (go_at_call 20; refine (ints_any _).mono ?_; rintro e wi ⟨bm, bc, E, cl, rfl, hm, hp, hc, hB⟩; have hL := ints_at hm hp ⟨#[62]⟩ (.func (.func 38) #[] #[]) (by simp [intsKV]) (by intro u hu; simpa [intsKV] using hu))
  refine (HF.out _).mono ?_
  rintro e w3 ⟨rfl, hB3⟩
  have hB2 := below_step hB hB3
  obtain ⟨⟨k0, k1, k2⟩, f0, f1, f2⟩ := res_cells (res_at hB2 rfl)
  clear hL hm hp hc
  obtain ⟨w4, hw4, ⟨j0, j1, j2⟩, hB4⟩ := res_stored (res_at hB2 rfl) (below_step (below_alloc _ _) hB2) (Nat.le_refl _) (.int .i64 2) (.int .i64 z) (.string ⟨#[]⟩)
  go_wp2
  rw [← hw4]
  clear hw4 k0 k1 k2 f0 f1 f2
  refine bodyPost_ret (v := .tuple #[.agg #[.int .i64 2, .int .i64 z, .string ⟨#[]⟩], .bool true]) (by simp [results, Tryz.results8, go_sem, j0, j1, j2]) rfl ?_
  exact ⟨rfl, hB4⟩
end Go.Clo
namespace Go.Clo
open Go.RowKit Go.Proofs

set_option maxRecDepth 100000 in
set_option maxHeartbeats 1000000 in
theorem prim_7 (a b : Int) (w : World) : Calls Tryz.prog 8 #[.string ⟨#[62, 61]⟩, .int .i64 a, .int .i64 b] w fun e w' => e = .returned (.tuple #[tagB (decide (b ≤ a)), .bool true]) ∧ Below w.heap.size w w' := by
  obtain ⟨z, hT⟩ : ∃ z : Int, tagB (decide (b ≤ a)) = .agg #[.int .i64 2, .int .i64 z, .string ⟨#[]⟩] := ⟨_, rfl⟩
  have HF : Hid (∀ w, Calls Tryz.prog 39 #[.int .i64 a, .int .i64 b] w fun e w' => e = .returned (.agg #[.int .i64 2, .int .i64 z, .string ⟨#[]⟩]) ∧ Below w.heap.size w w') := fun w => by
    rw [← hT]
    exact ge_any a b _
  rw [hT]
  clear hT
  go_enter Tryz.func8, Tryz.ntmps8
  go_wp2_with (go_at_call 20; refine (ints_any _).mono ?_; rintro e wi ⟨bm, bc, E, cl, rfl, hm, hp, hc, hB⟩; have hL := ints_at hm hp ⟨#[62, 61]⟩ (.func (.func 39) #[] #[]) (by simp [intsKV]) (by intro u hu; simpa [intsKV] using hu))
  refine (HF.out _).mono ?_
  rintro e w3 ⟨rfl, hB3⟩
  have hB2 := below_step hB hB3
  obtain ⟨⟨k0, k1, k2⟩, f0, f1, f2⟩ := res_cells (res_at hB2 rfl)
  clear hL hm hp hc
  obtain ⟨w4, hw4, ⟨j0, j1, j2⟩, hB4⟩ := res_stored (res_at hB2 rfl) (below_step (below_alloc _ _) hB2) (Nat.le_refl _) (.int .i64 2) (.int .i64 z) (.string ⟨#[]⟩)
  go_wp2
  rw [← hw4]
  clear hw4 k0 k1 k2 f0 f1 f2
  refine bodyPost_ret (v := .tuple #[.agg #[.int .i64 2, .int .i64 z, .string ⟨#[]⟩], .bool true]) (by simp [results, Tryz.results8, go_sem, j0, j1, j2]) rfl ?_
  exact ⟨rfl, hB4⟩
set_option maxRecDepth 100000 in
set_option maxHeartbeats 1000000 in
theorem prim_8 (a b : Int) (w : World) : Calls Tryz.prog 8 #[.string ⟨#[61]⟩, .int .i64 a, .int .i64 b] w fun e w' => e = .returned (.tuple #[tagB (decide (a = b)), .bool true]) ∧ Below w.heap.size w w' := by
  obtain ⟨z, hT⟩ : ∃ z : Int, tagB (decide (a = b)) = .agg #[.int .i64 2, .int .i64 z, .string ⟨#[]⟩] := ⟨_, rfl⟩
  have HF : Hid (∀ w, Calls Tryz.prog 40 #[.int .i64 a, .int .i64 b] w fun e w' => e = .returned (.agg #[.int .i64 2, .int .i64 z, .string ⟨#[]⟩]) ∧ Below w.heap.size w w') := fun w => by
    rw [← hT]
    exact eq_any a b _
  rw [hT]
  clear hT
  go_enter Tryz.func8, Tryz.ntmps8
  go_wp2_with (go_at_call 20; refine (ints_any _).mono ?_; rintro e wi ⟨bm, bc, E, cl, rfl, hm, hp, hc, hB⟩; have hL := ints_at hm hp ⟨#[61]⟩ (.func (.func 40) #[] #[]) (by simp [intsKV]) (by intro u hu; simpa [intsKV] using hu))
  refine (HF.out _).mono ?_
  rintro e w3 ⟨rfl, hB3⟩
  have hB2 := below_step hB hB3
  obtain ⟨⟨k0, k1, k2⟩, f0, f1, f2⟩ := res_cells (res_at hB2 rfl)
  clear hL hm hp hc
  obtain ⟨w4, hw4, ⟨j0, j1, j2⟩, hB4⟩ := res_stored (res_at hB2 rfl) (below_step (below_alloc _ _) hB2) (Nat.le_refl _) (.int .i64 2) (.int .i64 z) (.string ⟨#[]⟩)
  go_wp2
  rw [← hw4]
  clear hw4 k0 k1 k2 f0 f1 f2
  refine bodyPost_ret (v := .tuple #[.agg #[.int .i64 2, .int .i64 z, .string ⟨#[]⟩], .bool true]) (by simp [results, Tryz.results8, go_sem, j0, j1, j2]) rfl ?_
  exact ⟨rfl, hB4⟩
set_option maxRecDepth 100000 in
set_option maxHeartbeats 1000000 in
theorem prim_9 (a b : Int) (w : World) : Calls Tryz.prog 8 #[.string ⟨#[61, 61]⟩, .int .i64 a, .int .i64 b] w fun e w' => e = .returned (.tuple #[tagB (decide (a = b)), .bool true]) ∧ Below w.heap.size w w' := by
  obtain ⟨z, hT⟩ : ∃ z : Int, tagB (decide (a = b)) = .agg #[.int .i64 2, .int .i64 z, .string ⟨#[]⟩] := ⟨_, rfl⟩
  have HF : Hid (∀ w, Calls Tryz.prog 41 #[.int .i64 a, .int .i64 b] w fun e w' => e = .returned (.agg #[.int .i64 2, .int .i64 z, .string ⟨#[]⟩]) ∧ Below w.heap.size w w') := fun w => by
    rw [← hT]
    exact eqq_any a b _
  rw [hT]
  clear hT
  go_enter Tryz.func8, Tryz.ntmps8
  go_wp2_with (go_at_call 20; refine (ints_any _).mono ?_; rintro e wi ⟨bm, bc, E, cl, rfl, hm, hp, hc, hB⟩; have hL := ints_at hm hp ⟨#[61, 61]⟩ (.func (.func 41) #[] #[]) (by simp [intsKV]) (by intro u hu; simpa [intsKV] using hu))
  refine (HF.out _).mono ?_
  rintro e w3 ⟨rfl, hB3⟩
  have hB2 := below_step hB hB3
  obtain ⟨⟨k0, k1, k2⟩, f0, f1, f2⟩ := res_cells (res_at hB2 rfl)
  clear hL hm hp hc
  obtain ⟨w4, hw4, ⟨j0, j1, j2⟩, hB4⟩ := res_stored (res_at hB2 rfl) (below_step (below_alloc _ _) hB2) (Nat.le_refl _) (.int .i64 2) (.int .i64 z) (.string ⟨#[]⟩)
  go_wp2
  rw [← hw4]
  clear hw4 k0 k1 k2 f0 f1 f2
  refine bodyPost_ret (v := .tuple #[.agg #[.int .i64 2, .int .i64 z, .string ⟨#[]⟩], .bool true]) (by simp [results, Tryz.results8, go_sem, j0, j1, j2]) rfl ?_
  exact ⟨rfl, hB4⟩
end Go.Clo
namespace Go.Clo
open Go.RowKit Go.Proofs

set_option maxRecDepth 100000 in
set_option maxHeartbeats 1000000 in
theorem prim_q0 (a : Int) (w : World) : Calls Tryz.prog 8 #[.string ⟨#[113, 117, 111, 116, 105, 101, 110, 116]⟩, .int .i64 a, .int .i64 0] w fun e w' => e = .returned (.tuple #[tag0, .bool false]) ∧ Below w.heap.size w w' := by
  go_enter Tryz.func8, Tryz.ntmps8
  go_wp2_with (go_at_call 20; refine (ints_any _).mono ?_; rintro e w3 ⟨bm, bc, E, cl, rfl, hm, hp, hc, hB2⟩; have hL := ints_at hm hp ⟨#[113, 117, 111, 116, 105, 101, 110, 116]⟩ (.func (.func 34) #[] #[.pointer (some ⟨bc, 0, none⟩)]) (by simp [intsKV]) (by intro u hu; simpa [intsKV] using hu); obtain ⟨⟨k0, k1, k2⟩, f0, f1, f2⟩ := res_cells (res_at hB2 rfl); obtain ⟨w4, hw4, ⟨j0, j1, j2⟩, hB4⟩ := res_stored (res_at hB2 rfl) (below_step (below_alloc _ _) hB2) (Nat.le_refl _) (.int .i64 0) (.int .i64 0) (.string ⟨#[]⟩))
  rw [← hw4]
  clear hw4 k0 k1 k2 f0 f1 f2
  refine bodyPost_ret (v := .tuple #[.agg #[.int .i64 0, .int .i64 0, .string ⟨#[]⟩], .bool false]) (by simp [results, Tryz.results8, go_sem, j0, j1, j2]) rfl ?_
  exact ⟨rfl, hB4⟩
theorem ne_lit {s : ByteArray} {l : List UInt8} (h : (s.toList == l) = false) : (Value.string ⟨⟨l⟩⟩) ≠ .string s := by
  intro hq
  cases hq
  rw [str_bytes] at h
  simp at h
set_option maxRecDepth 100000 in
set_option maxHeartbeats 1000000 in
theorem prim_none (s : ByteArray) (a b : Int) (w : World) (h0 : (s.toList == [43]) = false) (h1 : (s.toList == [45]) = false) (h2 : (s.toList == [42]) = false) (h3 : (s.toList == [113, 117, 111, 116, 105, 101, 110, 116]) = false) (h4 : (s.toList == [60]) = false) (h5 : (s.toList == [60, 61]) = false) (h6 : (s.toList == [62]) = false) (h7 : (s.toList == [62, 61]) = false) (h8 : (s.toList == [61]) = false) (h9 : (s.toList == [61, 61]) = false) : Calls Tryz.prog 8 #[.string s, .int .i64 a, .int .i64 b] w fun e w' => e = .returned (.tuple #[tag0, .bool false]) ∧ Below w.heap.size w w' := by
  have HN : Hid (∀ bc, ∀ e ∈ intsKV bc, e.1 ≠ .string s) := fun bc e he => by
    simp only [intsKV, List.mem_cons, List.not_mem_nil, or_false] at he
    rcases he with rfl | rfl | rfl | rfl | rfl | rfl | rfl | rfl | rfl | rfl
    · exact ne_lit h0
    · exact ne_lit h1
    · exact ne_lit h2
    · exact ne_lit h3
    · exact ne_lit h4
    · exact ne_lit h5
    · exact ne_lit h6
    · exact ne_lit h7
    · exact ne_lit h8
    · exact ne_lit h9
  clear h0 h1 h2 h4 h5 h6 h7 h8 h9
  go_enter Tryz.func8, Tryz.ntmps8
  go_wp2_with (go_at_call 20; refine (ints_any _).mono ?_; rintro e w3 ⟨bm, bc, E, cl, rfl, hm, hp, hc, hB2⟩; have hL := ints_no hm hp s (HN.out bc); obtain ⟨⟨k0, k1, k2⟩, f0, f1, f2⟩ := res_cells (res_at hB2 rfl); obtain ⟨w4, hw4, ⟨j0, j1, j2⟩, hB4⟩ := res_stored (res_at hB2 rfl) (below_step (below_alloc _ _) hB2) (Nat.le_refl _) (.int .i64 0) (.int .i64 0) (.string ⟨#[]⟩))
  rw [← hw4]
  clear hw4 k0 k1 k2 f0 f1 f2
  refine bodyPost_ret (v := .tuple #[.agg #[.int .i64 0, .int .i64 0, .string ⟨#[]⟩], .bool false]) (by simp [results, Tryz.results8, go_sem, j0, j1, j2]) rfl ?_
  exact ⟨rfl, hB4⟩
end Go.Clo
namespace Go.Clo
open Go.RowKit Go.Proofs

theorem wrap_eq (n : Int) : IntKind.i64.wrap n = wrap64 n := by
  simp [IntKind.wrap, wrap64, IntKind.bits, IntKind.signed]
  split <;> omega
set_option maxRecDepth 100000 in
set_option maxHeartbeats 1000000 in
theorem quo_any (a b : Int) {w : World} {bc : Nat} (hb : ¬ b = 0) (hc : w.heap[bc]? = some (.cells #[.func (.func 30) #[] #[]] 104 (0, 0))) :
    Calls Tryz.prog 34 #[.int .i64 a, .int .i64 b, .pointer (some ⟨bc, 0, none⟩)] w fun e w' => e = .returned (tagI (wrap64 (a.tdiv b))) ∧ Below w.heap.size w w' := by
  have c0 : w.cell? ⟨bc, 0, none⟩ = some (.func (.func 30) #[] #[]) := by simp [World.cell?, hc]
  have hlt : bc < w.heap.size := lt_of_block hc
  clear hc
  go_enter Tryz.func34, Tryz.ntmps34
  go_wp2
  go_region_with (go_at_call 30; refine (num_any _ _).mono ?_; rintro e wx ⟨rfl, hB⟩; unfold tagI; obtain ⟨⟨k0, k1, k2⟩, f0, f1, f2⟩ := res_cells (res_at2 hB rfl); obtain ⟨w4, hw4, ⟨j0, j1, j2⟩, hB4⟩ := res_stored (w := w) (res_at2 hB rfl) (below_drew hB) (Nat.le_refl _) (.int .i64 1) (.int .i64 (wrap64 (a.tdiv b))) (.string ⟨#[]⟩))
  rw [wrap_eq, ← hw4]
  clear hw4 k0 k1 k2 f0 f1 f2
  go_wp2
  refine bodyPost_ret (v := .agg #[.int .i64 1, .int .i64 (wrap64 (a.tdiv b)), .string ⟨#[]⟩]) (by simp [results, Tryz.results34, go_sem, j0, j1, j2]) rfl ?_
  exact ⟨rfl, hB4⟩
set_option maxRecDepth 100000 in
set_option maxHeartbeats 1000000 in
theorem prim_3 (a b : Int) (w : World) (hb : ¬ b = 0) : Calls Tryz.prog 8 #[.string ⟨#[113, 117, 111, 116, 105, 101, 110, 116]⟩, .int .i64 a, .int .i64 b] w fun e w' => e = .returned (.tuple #[tagI (wrap64 (a.tdiv b)), .bool true]) ∧ Below w.heap.size w w' := by
  go_enter Tryz.func8, Tryz.ntmps8
  go_wp2_with (go_at_call 20; refine (ints_any _).mono ?_; rintro e wi ⟨bm, bc, E, cl, rfl, hm, hp, hc, hB⟩; have hL := ints_at hm hp ⟨#[113, 117, 111, 116, 105, 101, 110, 116]⟩ (.func (.func 34) #[] #[.pointer (some ⟨bc, 0, none⟩)]) (by simp [intsKV]) (by intro u hu; simpa [intsKV] using hu))
  refine (quo_any a b hb hc).mono ?_
  rintro e w3 ⟨rfl, hB3⟩
  have hB2 := below_step hB hB3
  obtain ⟨⟨k0, k1, k2⟩, f0, f1, f2⟩ := res_cells (res_at hB2 rfl)
  clear hL hm hp hc
  unfold tagI
  obtain ⟨w4, hw4, ⟨j0, j1, j2⟩, hB4⟩ := res_stored (res_at hB2 rfl) (below_step (below_alloc _ _) hB2) (Nat.le_refl _) (.int .i64 1) (.int .i64 (wrap64 (a.tdiv b))) (.string ⟨#[]⟩)
  go_wp2
  rw [← hw4]
  clear hw4 k0 k1 k2 f0 f1 f2
  refine bodyPost_ret (v := .tuple #[.agg #[.int .i64 1, .int .i64 (wrap64 (a.tdiv b)), .string ⟨#[]⟩], .bool true]) (by simp [results, Tryz.results8, go_sem, j0, j1, j2]) rfl ?_
  exact ⟨rfl, hB4⟩
end Go.Clo
namespace Go.Clo
open Go.RowKit Go.Proofs

theorem toList_inj {s s' : ByteArray} (h : s.toList = s'.toList) : s = s' := by
  obtain ⟨⟨s⟩⟩ := s
  obtain ⟨⟨s'⟩⟩ := s'
  rw [str_bytes, str_bytes] at h
  have h : s = s' := h
  rw [h]
set_option maxRecDepth 100000 in
set_option maxHeartbeats 1000000 in
theorem index_any (w : World) (b n : Nat) (l : List ByteArray) (hn : n = l.length) (hmx : n ≤ 1000) (hw : w.heap[b]? = some (.cells (l.map Value.string).toArray 9)) (s : ByteArray) :
    Calls Tryz.prog 22 #[.slice (some ⟨b, 0, none⟩) n n, .string s] w fun e w' => ∃ r : Int, e = .returned (.int .i64 r) ∧ ((0 ≤ r ∧ s ∈ l) ∨ (r = -1 ∧ s ∉ l)) ∧ w' = w := by
  refine ret_k fun K hK => ?_
  have HK := Lib.hid hK
  have HC : Hid (∀ j, j < n → w.cell? ⟨b, j, none⟩ = some (.string (l.getD j ⟨#[]⟩))) := fun j hj => by
    have hj' : j < l.length := by omega
    simp [World.cell?, hw, List.getElem?_eq_getElem hj', List.getD_eq_getElem?_getD]
  have HN := Lib.hid hn
  have HMx := Lib.hid hmx
  clear hK hn hmx hw
  go_enter Tryz.func22, Tryz.ntmps22
  go_wp2
  go_loopw [5] (fun i wr => ∃ j : Nat, j ≤ n ∧ i = .int .i64 j ∧ Hid (∀ k, k < j → ¬ l.getD k ⟨#[]⟩ = s) ∧ wr = w) (fun i _ => n - (intOf i).toNat)
  case atStart => exact ⟨0, by omega, rfl, Lib.hid (fun k hk => by omega), rfl⟩
  case round =>
    obtain ⟨j, hj, rfl, HE, rfl⟩ := hrel
    by_cases hlt : j < n
    · have k0 := HC.out j hlt
      have hl2 : (j : Int) < (n : Int) := by omega
      have hwj : IntKind.i64.wrap ((j : Int) + 1) = (j : Int) + 1 := IntWalk.i64_in _ (by have := HMx.out; omega)
      by_cases hq : l.getD j ⟨#[]⟩ = s
      · have HZ := Lib.hid (HK.out _ _ ⟨j, rfl, .inl ⟨by omega, by
          have hj' : j < l.length := by have := HN.out; omega
          rw [← hq, List.getD_eq_getElem?_getD, List.getElem?_eq_getElem hj']
          exact List.getElem_mem hj'⟩, rfl⟩)
        rw [hq] at k0
        clear hq
        go_wp2
        go_ret
        exact HZ.out
      · have HE2 : Hid (∀ k, k < j + 1 → ¬ l.getD k ⟨#[]⟩ = s) := fun k hk => by
          by_cases h : k = j
          · rw [h]; exact hq
          · exact HE.out k (by omega)
        have hq2 : ((l.getD j ⟨#[]⟩).toList == s.toList) = false := by
          cases h : ((l.getD j ⟨#[]⟩).toList == s.toList) with
          | false => rfl
          | true => exact absurd (toList_inj (by simpa using h)) hq
        clear hq
        generalize l.getD j ⟨#[]⟩ = z at *
        go_wp2
        go_roundw
        case rel => exact ⟨j + 1, by omega, by go_num, HE2, trivial⟩
        case measure => simp [intOf]; omega
    · obtain rfl : j = n := by omega
      have HZ := Lib.hid (HK.out _ _ ⟨-1, rfl, .inr ⟨rfl, fun hs => by
        obtain ⟨k, hk, hks⟩ := List.getElem_of_mem hs
        refine HE.out k (by have := HN.out; omega) ?_
        rw [List.getD_eq_getElem?_getD, List.getElem?_eq_getElem hk]
        exact hks⟩, rfl⟩)
      clear HC HK HE
      go_wp2
      go_ret
      exact HZ.out
/-- the operations of two operands, of one -/
def L10 : List ByteArray := [⟨#[43]⟩, ⟨#[45]⟩, ⟨#[42]⟩, ⟨#[113, 117, 111, 116, 105, 101, 110, 116]⟩, ⟨#[60]⟩, ⟨#[60, 61]⟩, ⟨#[62]⟩, ⟨#[62, 61]⟩, ⟨#[61]⟩, ⟨#[61, 61]⟩]
def L4 : List ByteArray := [⟨#[110, 111, 116]⟩, ⟨#[112, 114, 105, 110, 116]⟩, ⟨#[115, 105, 103, 110, 97, 108]⟩, ⟨#[99, 108, 97, 115, 115, 45, 111, 102]⟩]
set_option maxRecDepth 100000 in
set_option maxHeartbeats 1000000 in
theorem rops_any (s : ByteArray) (w : World) : Calls Tryz.prog 11 #[.string s] w fun e w' => ∃ m : Int, e = .returned (.int .i64 m) ∧ ((s ∈ L10 ∧ m = 2) ∨ (s ∉ L10 ∧ s ∈ L4 ∧ m = 1) ∨ (s ∉ L10 ∧ s ∉ L4 ∧ m = 0)) ∧ Chg (fun _ => False) w w' := by
  have HI1 := index_any _ w.heap.size 10 L10 rfl (by omega) (Go.heap_alloc_new w (.cells (L10.map Value.string).toArray 9)) s
  have HI2 := index_any ((w.alloc (.cells (L10.map Value.string).toArray 9)).alloc (.cells (L4.map Value.string).toArray 9)) (w.heap.size + 1) 4 L4 rfl (by omega)
    (by simpa using Go.heap_alloc_new (w.alloc (.cells (L10.map Value.string).toArray 9)) (.cells (L4.map Value.string).toArray 9)) s
  have HM1 : Hid (∀ r : Int, (0 ≤ r ∧ s ∈ L10) ∨ (r = -1 ∧ s ∉ L10) → True) := fun _ _ => trivial
  generalize hS1 : (s ∈ L10) = S1 at *
  generalize hS2 : (s ∈ L4) = S2 at *
  simp only [L10, L4, List.map_cons, List.map_nil] at HI1 HI2
  have HI1 := Lib.hid HI1
  have HI2 := Lib.hid HI2
  clear hS1 hS2 HM1
  go_enter Tryz.func11, Tryz.ntmps11
  go_wp2_with fail
  refine HI1.out.mono ?_
  rintro e w1 ⟨r, rfl, hr, rfl⟩
  rcases hr with ⟨hr, hm⟩ | ⟨rfl, hm⟩
  · have HM := Lib.hid hm
    clear hm
    go_wp2
    go_ret
    exact ⟨2, rfl, .inl ⟨HM.out, rfl⟩, Chg.alloc (Chg.refl _ _) _⟩
  · have HM := Lib.hid hm
    clear hm
    go_wp2_with fail
    refine HI2.out.mono ?_
    rintro e w1 ⟨r, rfl, hr, rfl⟩
    rcases hr with ⟨hr, hm⟩ | ⟨rfl, hm⟩
    · have HM2 := Lib.hid hm
      clear hm
      go_wp2
      go_ret
      exact ⟨1, rfl, .inr (.inl ⟨HM.out, HM2.out, rfl⟩), Chg.alloc (Chg.alloc (Chg.refl _ _) _) _⟩
    · have HM2 := Lib.hid hm
      clear hm
      go_wp2
      go_ret
      exact ⟨0, rfl, .inr (.inr ⟨HM.out, HM2.out, rfl⟩), Chg.alloc (Chg.alloc (Chg.refl _ _) _) _⟩
end Go.Clo
namespace Go.Clo
open Go.RowKit Go.Proofs

/-- both sides answer alike -/
def Agrees (s : ByteArray) (a b : Int) : Prop := ∃ (k n : Int) (is : Bool) (m : Int),
  (∀ w, Calls Tryz.prog 8 #[.string s, .int .i64 a, .int .i64 b] w fun e w' => e = .returned (.tuple #[.agg #[.int .i64 k, .int .i64 n, .string ⟨#[]⟩], .bool is]) ∧ Below w.heap.size w w') ∧
  (∀ w, Calls Tryz.prog 9 #[.string s, .agg #[.int .i64 a, .int .i64 b]] w fun e w' => e = .returned (.tuple #[.agg #[.int .i64 k, .int .i64 n, .string ⟨#[]⟩], .bool is]) ∧ Below w.heap.size w w') ∧
  (∀ w, Calls Tryz.prog 10 #[.string s] w fun e w' => e = .returned (.int .i64 m) ∧ w' = w) ∧
  (∀ w, Calls Tryz.prog 11 #[.string s] w fun e w' => e = .returned (.int .i64 m) ∧ Below w.heap.size w w')
theorem rops_2 {s : ByteArray} (h : s ∈ L10) (w : World) : Calls Tryz.prog 11 #[.string s] w fun e w' => e = .returned (.int .i64 2) ∧ Below w.heap.size w w' := by
  refine (rops_any s w).mono ?_
  rintro e w' ⟨m, rfl, hm, hC⟩
  rcases hm with ⟨_, rfl⟩ | ⟨h1, _⟩ | ⟨h1, _⟩
  · exact ⟨rfl, hC.os, hC.tape, hC.output, hC.size, fun k hk => hC.block k hk fun h => h⟩
  · exact absurd h h1
  · exact absurd h h1
theorem rops_1 {s : ByteArray} (h' : s ∉ L10) (h : s ∈ L4) (w : World) : Calls Tryz.prog 11 #[.string s] w fun e w' => e = .returned (.int .i64 1) ∧ Below w.heap.size w w' := by
  refine (rops_any s w).mono ?_
  rintro e w' ⟨m, rfl, hm, hC⟩
  rcases hm with ⟨h1, _⟩ | ⟨_, _, rfl⟩ | ⟨_, h1, _⟩
  · exact absurd h1 h'
  · exact ⟨rfl, hC.os, hC.tape, hC.output, hC.size, fun k hk => hC.block k hk fun h => h⟩
  · exact absurd h h1
theorem rops_0 {s : ByteArray} (h' : s ∉ L10) (h : s ∉ L4) (w : World) : Calls Tryz.prog 11 #[.string s] w fun e w' => e = .returned (.int .i64 0) ∧ Below w.heap.size w w' := by
  refine (rops_any s w).mono ?_
  rintro e w' ⟨m, rfl, hm, hC⟩
  rcases hm with ⟨h1, _⟩ | ⟨_, h1, _⟩ | ⟨_, _, rfl⟩
  · exact absurd h1 h'
  · exact absurd h1 h
  · exact ⟨rfl, hC.os, hC.tape, hC.output, hC.size, fun k hk => hC.block k hk fun h => h⟩
theorem not_lit {s : ByteArray} {l : List UInt8} (h : (s.toList == l) = false) : ¬ s = ⟨⟨l⟩⟩ := by
  intro hq
  rw [hq, str_bytes] at h
  simp at h
theorem agrees_any (s : ByteArray) (a b : Int) : Agrees s a b := by
  cases h0 : (s.toList == [43]) with
  | true =>
    obtain rfl := str_of h0
    exact ⟨_, _, true, 2, fun w => prim_0 a b w, fun w => rprim_0 a b w, fun w => operands_0 w, fun w => rops_2 (by simp [L10]) w⟩
  | false =>
  cases h1 : (s.toList == [45]) with
  | true =>
    obtain rfl := str_of h1
    exact ⟨_, _, true, 2, fun w => prim_1 a b w, fun w => rprim_1 a b w, fun w => operands_1 w, fun w => rops_2 (by simp [L10]) w⟩
  | false =>
  cases h2 : (s.toList == [42]) with
  | true =>
    obtain rfl := str_of h2
    exact ⟨_, _, true, 2, fun w => prim_2 a b w, fun w => rprim_2 a b w, fun w => operands_2 w, fun w => rops_2 (by simp [L10]) w⟩
  | false =>
  cases h3 : (s.toList == [113, 117, 111, 116, 105, 101, 110, 116]) with
  | true =>
    obtain rfl := str_of h3
    by_cases hb : b = 0
    · subst hb
      exact ⟨0, 0, false, 2, fun w => prim_q0 a w, fun w => rprim_q0 a w, fun w => operands_3 w, fun w => rops_2 (by simp [L10]) w⟩
    · exact ⟨_, _, true, 2, fun w => prim_3 a b w hb, fun w => rprim_q a b w hb, fun w => operands_3 w, fun w => rops_2 (by simp [L10]) w⟩
  | false =>
  cases h4 : (s.toList == [60]) with
  | true =>
    obtain rfl := str_of h4
    exact ⟨_, _, true, 2, fun w => prim_4 a b w, fun w => rprim_4 a b w, fun w => operands_4 w, fun w => rops_2 (by simp [L10]) w⟩
  | false =>
  cases h5 : (s.toList == [60, 61]) with
  | true =>
    obtain rfl := str_of h5
    exact ⟨_, _, true, 2, fun w => prim_5 a b w, fun w => rprim_5 a b w, fun w => operands_5 w, fun w => rops_2 (by simp [L10]) w⟩
  | false =>
  cases h6 : (s.toList == [62]) with
  | true =>
    obtain rfl := str_of h6
    exact ⟨_, _, true, 2, fun w => prim_6 a b w, fun w => rprim_6 a b w, fun w => operands_6 w, fun w => rops_2 (by simp [L10]) w⟩
  | false =>
  cases h7 : (s.toList == [62, 61]) with
  | true =>
    obtain rfl := str_of h7
    exact ⟨_, _, true, 2, fun w => prim_7 a b w, fun w => rprim_7 a b w, fun w => operands_7 w, fun w => rops_2 (by simp [L10]) w⟩
  | false =>
  cases h8 : (s.toList == [61]) with
  | true =>
    obtain rfl := str_of h8
    exact ⟨_, _, true, 2, fun w => prim_8 a b w, fun w => rprim_8 a b w, fun w => operands_8 w, fun w => rops_2 (by simp [L10]) w⟩
  | false =>
  cases h9 : (s.toList == [61, 61]) with
  | true =>
    obtain rfl := str_of h9
    exact ⟨_, _, true, 2, fun w => prim_9 a b w, fun w => rprim_9 a b w, fun w => operands_9 w, fun w => rops_2 (by simp [L10]) w⟩
  | false =>
  cases h10 : (s.toList == [110, 111, 116]) with
  | true =>
    obtain rfl := str_of h10
    exact ⟨0, 0, false, 1, fun w => prim_none _ a b w h0 h1 h2 h3 h4 h5 h6 h7 h8 h9, fun w => rprim_none _ a b w h0 h1 h2 h3 h4 h5 h6 h7 h8 h9, fun w => operands_10 w, fun w => rops_1 (by simp [L10]) (by simp [L4]) w⟩
  | false =>
  cases h11 : (s.toList == [112, 114, 105, 110, 116]) with
  | true =>
    obtain rfl := str_of h11
    exact ⟨0, 0, false, 1, fun w => prim_none _ a b w h0 h1 h2 h3 h4 h5 h6 h7 h8 h9, fun w => rprim_none _ a b w h0 h1 h2 h3 h4 h5 h6 h7 h8 h9, fun w => operands_11 w, fun w => rops_1 (by simp [L10]) (by simp [L4]) w⟩
  | false =>
  cases h12 : (s.toList == [115, 105, 103, 110, 97, 108]) with
  | true =>
    obtain rfl := str_of h12
    exact ⟨0, 0, false, 1, fun w => prim_none _ a b w h0 h1 h2 h3 h4 h5 h6 h7 h8 h9, fun w => rprim_none _ a b w h0 h1 h2 h3 h4 h5 h6 h7 h8 h9, fun w => operands_12 w, fun w => rops_1 (by simp [L10]) (by simp [L4]) w⟩
  | false =>
  cases h13 : (s.toList == [99, 108, 97, 115, 115, 45, 111, 102]) with
  | true =>
    obtain rfl := str_of h13
    exact ⟨0, 0, false, 1, fun w => prim_none _ a b w h0 h1 h2 h3 h4 h5 h6 h7 h8 h9, fun w => rprim_none _ a b w h0 h1 h2 h3 h4 h5 h6 h7 h8 h9, fun w => operands_13 w, fun w => rops_1 (by simp [L10]) (by simp [L4]) w⟩
  | false =>
  exact ⟨0, 0, false, 0, fun w => prim_none s a b w h0 h1 h2 h3 h4 h5 h6 h7 h8 h9, fun w => rprim_none s a b w h0 h1 h2 h3 h4 h5 h6 h7 h8 h9, fun w => operands_none s w h0 h1 h2 h3 h4 h5 h6 h7 h8 h9 h10 h11 h12 h13, fun w => rops_0 (by simp only [L10, List.mem_cons, List.not_mem_nil, or_false, not_or]; exact ⟨not_lit h0, not_lit h1, not_lit h2, not_lit h3, not_lit h4, not_lit h5, not_lit h6, not_lit h7, not_lit h8, not_lit h9⟩) (by simp only [L4, List.mem_cons, List.not_mem_nil, or_false, not_or]; exact ⟨not_lit h10, not_lit h11, not_lit h12, not_lit h13⟩) w⟩

set_option maxRecDepth 100000 in
set_option maxHeartbeats 2000000 in
theorem evalPrims_any (s : ByteArray) (a b : Int) (w : World) : Calls Tryz.prog 4 #[.string s, .int .i64 a, .int .i64 b] w fun e w' => e = .returned (.bool true) ∧ Below w.heap.size w w' := by
  obtain ⟨k, n, is, m, h8, h9, h10, h11⟩ := agrees_any s a b
  have H8 := Lib.hid h8
  have H9 := Lib.hid h9
  have H10 := Lib.hid h10
  have H11 := Lib.hid h11
  clear h8 h9 h10 h11
  cases is
  all_goals
    go_enter Tryz.func4, Tryz.ntmps4
    go_wp2_with fail
    refine (sane_any _).mono ?_
    rintro e w1 ⟨rfl, hB1⟩
    have HB1 := Lib.hid hB1
    clear hB1
    go_wp2_with fail
    refine (H8.out _).mono ?_
    rintro e w2 ⟨rfl, hB2⟩
    have HB2 := Lib.hid (below_step HB1.out hB2)
    clear hB2 HB1
    go_wp2_with fail
    refine (H9.out _).mono ?_
    rintro e w3 ⟨rfl, hB3⟩
    have hx : w3.heap[w2.heap.size]? = some (.cells #[.int .i64 k, .int .i64 n, .string ⟨#[]⟩] 28) := by
      rw [hB3.block _ (by simp)]
      exact Go.heap_alloc_new _ _
    have hlt : w2.heap.size < w3.heap.size := lt_of_block hx
    have c0 : w3.cell? ⟨w2.heap.size, 0, none⟩ = some (.int .i64 k) := by simp [World.cell?, hx]
    have c1 : w3.cell? ⟨w2.heap.size, 1, none⟩ = some (.int .i64 n) := by simp [World.cell?, hx]
    have c2 : w3.cell? ⟨w2.heap.size, 2, none⟩ = some (.string ⟨#[]⟩) := by simp [World.cell?, hx]
    have HB3 := Lib.hid (below_step (below_step HB2.out (below_alloc _ _)) hB3)
    clear hx hB3 HB2
    go_wp2_with fail
    refine (H10.out _).mono ?_
    rintro e w4 ⟨rfl, rfl⟩
    go_wp2_with fail
    refine (H11.out _).mono ?_
    rintro e w5 ⟨rfl, hB5⟩
    have HB5 := Lib.hid (below_step (below_step HB3.out (below_alloc _ _)) hB5)
    clear hB5 HB3
    go_wp2
    go_ret
    exact ⟨rfl, HB5.out⟩
end Go.Clo
