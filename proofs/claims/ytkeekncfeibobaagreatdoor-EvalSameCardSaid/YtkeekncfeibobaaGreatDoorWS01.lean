/-
A CLOSED RUN. A call, run once (its literals printed by wip/closed/Sm.lean).
A CLOSED RUN. sane holds: its contract.
Strings: a string's list of bytes.
EvalSame: events that came in, read.
EvalSame: the walks of SameEvents and slices.Equal.
EvalSame: the walks of slices.Equal, R13.Same, eval.Same.
EvalSame: the law's walk.
-/
import Derived.Test.YtkeekncfeibobaaGreatDoorFg
import Derived.Test.YtkeekncfeibobaaGreatDoorI1
import Derived.Test.YtkeekncfeibobaaGreatDoorI2
import Derived.Test.YtkeekncfeibobaaGreatDoorI3
import Derived.Test.YtkeekncfeibobaaGreatDoorI4
import Derived.Test.YtkeekncfeibobaaGreatDoorM07
import Derived.Test.YtkeekncfeibobaaGreatDoorProg
import Derived.ProofKit
import Derived.OpenShut
import Derived.ShutString
import Derived.Deep.Slices
import Derived.Lib.SmallJoins
import Derived.Handy
import Derived.Deep.RegionWith
import Derived.Deep.CutRange
namespace Go.Clo
open Go.Proofs
def sane_args : List Value := []
def sane_pre : List AO := []
def sane : Sum := ⟨5, sane_args, sane_pre, (.bool true),
  [], 39599⟩
theorem sane_fit : okSum sane 20 = true := by kernel_rfl
theorem sane_run : isYes (runS (runD G xt (fun cf => knownC (sumK run1 20 (sumK run2 20 (sumK run3 20 (sumK run4 20 cf))))) 60).1 sane) = true := by kernel_rfl
theorem sane_ok {B0 : Nat} : SumOK Tryz.prog G B0 sane := sum_ok (all_sim (known := fun cf => sumK run1 20 (sumK run2 20 (sumK run3 20 (sumK run4 20 cf)))) (fun _ h => sumK_sim run1_ok run1_fit (sumK_sim run2_ok run2_fit (sumK_sim run3_ok run3_fit (sumK_sim run4_ok run4_fit h)))) 60) sane_run
end Go.Clo
namespace Go.Clo
open Go.RowKit Go.Proofs

theorem sane_any (w : World) : Calls Tryz.prog 5 #[] w fun e w' => e = .returned (.bool true) ∧ Below w.heap.size w w' := calls_of_sum rfl sane_ok
#print axioms sane_any
end Go.Clo
namespace Go.Clo

theorem loop_bytes (s : ByteArray) : ∀ (n i : Nat) (r : List UInt8), s.size - i = n → ByteArray.toList.loop s i r = r.reverse ++ s.data.toList.drop i
  | n, i, r, hn => by
    unfold ByteArray.toList.loop
    by_cases h : i < s.size
    · rw [if_pos h]
      have ih := loop_bytes s (n - 1) (i + 1) (s.get! i :: r) (by omega)
      rw [ih]
      have hl : i < s.data.toList.length := by rw [Array.length_toList]; exact h
      rw [List.drop_eq_getElem_cons hl]
      have hi : i < s.data.size := by simpa using hl
      have hg : s.get! i = s.data.toList[i] := by
        show s.data[i]! = _
        rw [getElem!_pos s.data i hi]
        rfl
      simp [hg]
    · rw [if_neg h]
      have hl : s.data.toList.length ≤ i := by rw [Array.length_toList]; exact Nat.le_of_not_lt h
      rw [List.drop_eq_nil_of_le hl]
      simp
  termination_by _ i => s.size - i
theorem str_bytes (s : ByteArray) : s.toList = s.data.toList := by
  have := loop_bytes s _ 0 [] rfl
  rw [List.drop_zero, List.reverse_nil, List.nil_append] at this
  exact this
theorem str_of {s : ByteArray} {l : List UInt8} (h : (s.toList == l) = true) : s = ⟨⟨l⟩⟩ := by
  have h : s.data.toList = l := by rw [← str_bytes]; simpa using h
  obtain ⟨⟨d⟩⟩ := s
  have h : d = l := h
  rw [h]
end Go.Clo
namespace Go.Clo
open Go.RowKit Go.Proofs

/-- an event -/
structure Evt where
  k : Int
  n : Int
  s : ByteArray
instance : Inhabited Evt := ⟨⟨0, 0, ⟨#[]⟩⟩⟩
/-- p shows the event e -/
structure EvAt (w : World) (p : Addr) (e : Evt) : Prop where
  c0 : w.cell? p = some (.int .i64 e.k)
  c1 : w.cell? ⟨p.block, p.off + 1, none⟩ = some (.int .i64 e.n)
  c2 : w.cell? ⟨p.block, p.off + 2, none⟩ = some (.string e.s)
def EvsAt (w : World) (a : Option Addr) (n : Nat) (o : Nat → Evt) : Prop := n ≤ maxLen ∧ ∀ i, i < n → ∃ x, a = some x ∧ EvAt w (x.add (i * 3)) (o i)
theorem cell_chg {w w' : World} (hC : Chg (fun _ => False) w w') {p : Addr} {v : Value} (h : w.cell? p = some v) : w'.cell? p = some v := by
  rw [World.cell?_of_block (w := w) (hC.block p.block (World.block_lt_of_cell? w _ h) fun h => h)]
  exact h
theorem EvAt.chg {w w' : World} {p : Addr} {e : Evt} (h : EvAt w p e) (hC : Chg (fun _ => False) w w') : EvAt w' p e := ⟨cell_chg hC h.c0, cell_chg hC h.c1, cell_chg hC h.c2⟩
theorem EvsAt.chg {w w' : World} {a : Option Addr} {n : Nat} {o : Nat → Evt} (h : EvsAt w a n o) (hC : Chg (fun _ => False) w w') : EvsAt w' a n o := ⟨h.1, fun i hi => by
  obtain ⟨x, h1, h2⟩ := h.2 i hi
  exact ⟨x, h1, h2.chg hC⟩⟩

theorem cellsInt : Tryz.prog.cellsOf 3 = 1 := by kernel_rfl
theorem cellsStr : Tryz.prog.cellsOf 9 = 1 := by kernel_rfl
theorem cellsEv : Tryz.prog.cellsOf 54 = 3 := by kernel_rfl
theorem cellsOut : Tryz.prog.cellsOf 24 = 4 := by kernel_rfl

section
variable {H : Type} {enc : TypeId × Value → H} {W : World}
set_option maxRecDepth 100000 in
theorem reads_ev {fuel : Nat} {cs : List Value} {x : DataW H × List MemPlace} (h : DataW.trod enc Tryz.prog W 0 (fun _ => true) true fuel 54 cs = some x) :
    ∃ k n s, cs = [.int .i64 k, .int .i64 n, .string s] := by
  obtain ⟨f0, f1, f2, hu, ⟨o0, o1, o2⟩, t0, t1, t2⟩ : ∃ f0 f1 f2, Tryz.prog.underlying 54 = some (.struct #[f0, f1, f2]) ∧ (f0.offset = 0 ∧ f1.offset = 1 ∧ f2.offset = 2) ∧ f0.type = 3 ∧ f1.type = 3 ∧ f2.type = 9 := by
    refine ⟨_, _, _, Tryz.underlying54, ⟨?_, ?_, ?_⟩, ?_, ?_, ?_⟩ <;> kernel_rfl
  obtain ⟨xs, n, _, rfl, hl, hxl, hf⟩ := DataW.trod_struct hu h
  rw [cellsEv] at hl
  match xs, hxl, cs, hl with
  | [y0, y1, y2], _, [v0, v1, v2], _ =>
    have g0 := hf 0 f0 rfl
    have g1 := hf 1 f1 rfl
    have g2 := hf 2 f2 rfl
    rw [t0, o0, cellsInt] at g0
    rw [t1, o1, cellsInt] at g1
    rw [t2, o2, cellsStr] at g2
    simp only [List.drop_zero, List.drop_succ_cons, List.take_succ_cons, List.take_zero, List.getElem?_cons_zero, List.getElem?_cons_succ] at g0 g1 g2
    obtain ⟨k, e0, _⟩ := DataW.trod_int Tryz.underlying3 g0
    obtain ⟨a, e1, _⟩ := DataW.trod_int Tryz.underlying3 g1
    obtain ⟨s, e2, _⟩ := DataW.trod_string Tryz.underlying9 g2
    simp only [List.cons.injEq, and_true] at e0 e1 e2
    subst e0 e1 e2
    exact ⟨k, a, s, rfl⟩

set_option maxRecDepth 100000 in
theorem reads_evs {fuel : Nat} {v : Value} {x : DataW H × List MemPlace} (h : DataW.trod enc Tryz.prog W 0 (fun _ => true) true fuel 22 [v] = some x) :
    ∃ a len cap o, v = .slice a len cap ∧ EvsAt W a len o := by
  rcases Go.Deep.open_slice Tryz.underlying22 h with ⟨hcs, _⟩ | ⟨p, len', cap', m, n, D, Pl, hcs, hb, hl, hm, hmm, rfl, hel⟩
  · simp only [List.cons.injEq, and_true] at hcs
    subst hcs
    exact ⟨none, 0, 0, default, rfl, Nat.zero_le _, fun i hi => by omega⟩
  · simp only [List.cons.injEq, and_true] at hcs
    subst hcs
    have hm' : m = cap' := by rw [hmm]; rfl
    subst hm'
    obtain ⟨o, ho⟩ := Go.Deep.choose_lt (α := Evt) (n := len') (p := fun i o => EvAt W (p.add (i * 3)) o) fun i hi => by
      obtain ⟨cs', h1, h2⟩ := hel i (by omega)
      rw [cellsEv] at h1
      obtain ⟨_, hlen, hcell⟩ := World.cells?_some h1
      obtain ⟨k, n, s, rfl⟩ := reads_ev h2
      have e0 := hcell 0 (by omega)
      have e1 := hcell 1 (by omega)
      have e2 := hcell 2 (by omega)
      refine ⟨⟨k, n, s⟩, ?_, ?_, ?_⟩
      · simpa [Addr.add] using e0
      · exact e1
      · exact e2
    exact ⟨some p, len', m, o, rfl, by omega, fun i hi => ⟨p, rfl, ho i hi⟩⟩
set_option maxRecDepth 100000 in
theorem reads_out {base : Nat} {v : Value} {d : DataW H} {p : List MemPlace} (hv : Value.okWide Tryz.prog W .any base 24 v) (h : DataW.Trod enc Tryz.prog W 0 (fun _ => true) true 24 v d p) :
    ∃ t a len cap o s f, v = .agg #[.string t, .slice a len cap, .int .i64 s, .int .i64 f] ∧ EvsAt W a len o := by
  obtain ⟨f0, f1, f2, f3, hu, hone, t0, t1, t2, t3⟩ : ∃ f0 f1 f2 f3, Tryz.prog.underlying 24 = some (.struct #[f0, f1, f2, f3]) ∧ Go.Deep.oneCellFields Tryz.prog #[f0, f1, f2, f3] = true ∧ f0.type = 9 ∧ f1.type = 22 ∧ f2.type = 3 ∧ f3.type = 3 := by
    refine ⟨_, _, _, _, Tryz.underlying24, ?_, ?_, ?_, ?_, ?_⟩ <;> kernel_rfl
  obtain ⟨v0, v1, v2, v3, y0, y1, y2, y3, n, rfl, _, _, h0, h1, h2, h3⟩ := Go.Joins.open_agg4 hu hone cellsOut hv h
  rw [t0] at h0
  rw [t1] at h1
  rw [t2] at h2
  rw [t3] at h3
  obtain ⟨t, e0, _⟩ := DataW.trod_string Tryz.underlying9 h0
  obtain ⟨a, len, cap, o, e1, ho⟩ := reads_evs h1
  obtain ⟨s, e2, _⟩ := DataW.trod_int Tryz.underlying3 h2
  obtain ⟨f, e3, _⟩ := DataW.trod_int Tryz.underlying3 h3
  simp only [List.cons.injEq, and_true] at e0 e2 e3
  subst e0 e1 e2 e3
  exact ⟨t, a, len, cap, o, s, f, rfl, ho⟩
end
end Go.Clo
namespace Go.Clo
open Go.RowKit Go.Proofs

theorem evt_ne {a b : Evt} (h : ¬ a = b) : ¬ a.k = b.k ∨ (a.k = b.k ∧ ¬ a.n = b.n) ∨ (a.k = b.k ∧ a.n = b.n ∧ ¬ a.s.toList = b.s.toList) := by
  by_cases h1 : a.k = b.k
  · by_cases h2 : a.n = b.n
    · refine .inr (.inr ⟨h1, h2, fun h3 => h ?_⟩)
      obtain ⟨k, n, ⟨s⟩⟩ := a
      obtain ⟨k', n', ⟨s'⟩⟩ := b
      have h1 : k = k' := h1
      have h2 : n = n' := h2
      rw [str_bytes, str_bytes] at h3
      have h3 : s = s' := Array.toList_inj.1 h3
      rw [h1, h2, h3]
    · exact .inr (.inl ⟨h1, h2⟩)
  · exact .inl h1
theorem Chg.drewN {F : Nat → Prop} {a b : World} (h : Chg F a b) (n : Nat) : Chg F a (b.drewN n) := ⟨h.os, h.tape, h.output, h.size, h.block⟩
set_option maxRecDepth 100000 in
set_option maxHeartbeats 1000000 in
theorem sameEvents_any (w : World) (a a' : Option Addr) (n c n' c' : Nat) (o o' : Nat → Evt) (h : EvsAt w a n o) (h' : EvsAt w a' n' o') :
    Calls Tryz.prog 18 #[.slice a n c, .slice a' n' c'] w fun e w' => ∃ b, e = .returned (.bool b) ∧ (b = true ↔ n = n' ∧ ∀ i, i < n → o i = o' i) ∧ Chg (fun _ => False) w w' := by
  refine ret_k fun K hK => ?_
  have HK := Lib.hid hK
  have HC1 : Hid (∀ j, j < n → ∀ w', Chg (fun _ => False) w w' → ∃ x, a = some x ∧ EvAt w' (x.add (j * 3)) (o j)) := fun j hj w' hC => (h.chg hC).2 j hj
  have HC2 : Hid (∀ j, j < n' → ∀ w', Chg (fun _ => False) w w' → ∃ x, a' = some x ∧ EvAt w' (x.add (j * 3)) (o' j)) := fun j hj w' hC => (h'.chg hC).2 j hj
  have HMx : Hid (n ≤ 9223372036854775807) := by have := h.1; unfold maxLen at this; exact (by omega : n ≤ 9223372036854775807)
  clear hK h h'
  by_cases hne : n = n'
  · subst hne
    go_enter Tryz.func18, Tryz.ntmps18
    go_wp2
    go_loopw [5] (fun i wr => ∃ j : Nat, j ≤ n ∧ i = .int .i64 j ∧ Hid (∀ k, k < j → o k = o' k) ∧ Hid (Chg (fun _ => False) w wr)) (fun i _ => n - (intOf i).toNat)
    case atStart => exact ⟨0, by omega, rfl, Lib.hid (fun k hk => by omega), Lib.hid (Chg.refl _ _)⟩
    case round =>
      obtain ⟨j, hj, rfl, HE, HC⟩ := hrel
      by_cases hlt : j < n
      · obtain ⟨x, e1, ⟨k0, k1, k2⟩⟩ := HC1.out j hlt wr HC.out
        obtain ⟨x', e2, ⟨q0, q1, q2⟩⟩ := HC2.out j hlt wr HC.out
        subst e1 e2
        have hl2 : (j : Int) < (n : Int) := by omega
        have hwj : IntKind.i64.wrap ((j : Int) + 1) = (j : Int) + 1 := IntWalk.i64_in _ (by have := HMx.out; omega)
        by_cases hq : o j = o' j
        · have HE2 : Hid (∀ k, k < j + 1 → o k = o' k) := fun k hk => by
            by_cases h : k = j
            · rw [h]; exact hq
            · exact HE.out k (by omega)
          rw [← hq] at q0 q1 q2
          clear hq
          generalize o j = z at *
          obtain ⟨zk, zn, zs⟩ := z
          go_wp2
          go_region
          have HC3 : Hid (∀ k, Chg (fun _ => False) w (wr.drewN k)) := fun k => HC.out.drewN k
          go_wp2
          go_roundw
          case rel => exact ⟨j + 1, by omega, by go_num, HE2, Lib.hid (by first | exact HC3.out _ | exact HC.out.drew | exact HC.out)⟩
          case measure => simp [intOf]; omega
        · have HZ : Hid (∀ k, Post K (.returned (.bool false)) (wr.drewN k)) := fun k => HK.out _ _ ⟨false, rfl, by simp; exact ⟨j, hlt, hq⟩, HC.out.drewN k⟩
          have hq2 := evt_ne hq
          clear hq
          generalize o j = z at *
          generalize o' j = z' at *
          obtain ⟨zk, zn, zs⟩ := z
          obtain ⟨yk, yn, ys⟩ := z'
          rcases hq2 with hq | ⟨hq, hr⟩ | ⟨hq, hr, ht⟩
          all_goals
            go_wp2
            go_region
            go_wp2
            go_ret
            exact HZ.out _
      · obtain rfl : j = n := by omega
        have HZ := Lib.hid (HK.out _ _ ⟨true, rfl, by simpa using HE.out, HC.out⟩)
        clear HC1 HC2 HK HE
        go_wp2
        go_ret
        exact HZ.out
  · have HZ := Lib.hid (HK.out _ _ ⟨false, rfl, by simp [hne], Chg.refl _ _⟩)
    have hne' : ¬ ((n : Int) = (n' : Int)) := by omega
    go_enter Tryz.func18, Tryz.ntmps18
    go_wp2
    go_ret
    exact HZ.out
end Go.Clo
namespace Go.Clo
open Go.RowKit Go.Proofs

theorem str_inj {s s' : ByteArray} (h : s.toList = s'.toList) : s = s' := by
  obtain ⟨⟨s⟩⟩ := s
  obtain ⟨⟨s'⟩⟩ := s'
  rw [str_bytes, str_bytes] at h
  have h : s = s' := h
  rw [h]
set_option maxRecDepth 100000 in
set_option maxHeartbeats 1000000 in
theorem equal_any (w : World) (a a' : Option Addr) (n c n' c' : Nat) (o o' : Nat → Evt) (h : EvsAt w a n o) (h' : EvsAt w a' n' o') :
    Calls Tryz.prog 19 #[.slice a n c, .slice a' n' c'] w fun e w' => ∃ b, e = .returned (.bool b) ∧ (b = true ↔ n = n' ∧ ∀ i, i < n → o i = o' i) ∧ Chg (fun _ => False) w w' := by
  refine ret_k fun K hK => ?_
  have HK := Lib.hid hK
  have HC1 : Hid (∀ j, j < n → ∀ w', Chg (fun _ => False) w w' → ∃ x, a = some x ∧ EvAt w' (x.add (j * 3)) (o j)) := fun j hj w' hC => (h.chg hC).2 j hj
  have HC2 : Hid (∀ j, j < n' → ∀ w', Chg (fun _ => False) w w' → ∃ x, a' = some x ∧ EvAt w' (x.add (j * 3)) (o' j)) := fun j hj w' hC => (h'.chg hC).2 j hj
  have HMx : Hid (n ≤ 9223372036854775807) := by have := h.1; unfold maxLen at this; exact (by omega : n ≤ 9223372036854775807)
  clear hK h h'
  by_cases hne : n = n'
  · subst hne
    go_enter Tryz.func19, Tryz.ntmps19
    go_wp2
    go_loopw [13] (fun i wr => ∃ j : Nat, j ≤ n ∧ i = .int .i64 j ∧ Hid (∀ k, k < j → o k = o' k) ∧ Hid (Chg (fun _ => False) w wr)) (fun i _ => n - (intOf i).toNat)
    case atStart => exact ⟨0, by omega, rfl, Lib.hid (fun k hk => by omega), Lib.hid (Chg.refl _ _)⟩
    case round =>
      obtain ⟨j, hj, rfl, HE, HC⟩ := hrel
      by_cases hlt : j < n
      · obtain ⟨x, e1, ⟨k0, k1, k2⟩⟩ := HC1.out j hlt wr HC.out
        obtain ⟨x', e2, ⟨q0, q1, q2⟩⟩ := HC2.out j hlt wr HC.out
        subst e1 e2
        have hl2 : (j : Int) < (n : Int) := by omega
        have hwj : IntKind.i64.wrap ((j : Int) + 1) = (j : Int) + 1 := IntWalk.i64_in _ (by have := HMx.out; omega)
        by_cases hq : o j = o' j
        · have HE2 : Hid (∀ k, k < j + 1 → o k = o' k) := fun k hk => by
            by_cases h : k = j
            · rw [h]; exact hq
            · exact HE.out k (by omega)
          rw [← hq] at q0 q1 q2
          clear hq
          generalize o j = z at *
          obtain ⟨zk, zn, zs⟩ := z
          go_wp2
          go_region
          have HC3 : Hid (∀ k, Chg (fun _ => False) w (wr.drewN k)) := fun k => HC.out.drewN k
          go_wp2
          go_roundw
          case rel => exact ⟨j + 1, by omega, by go_num, HE2, Lib.hid (by first | exact HC3.out _ | exact HC.out.drew | exact HC.out)⟩
          case measure => simp [intOf]; omega
        · have HZ : Hid (∀ k, Post K (.returned (.bool false)) (wr.drewN k)) := fun k => HK.out _ _ ⟨false, rfl, by simp; exact ⟨j, hlt, hq⟩, HC.out.drewN k⟩
          have hq2 := evt_ne hq
          clear hq
          generalize o j = z at *
          generalize o' j = z' at *
          obtain ⟨zk, zn, zs⟩ := z
          obtain ⟨yk, yn, ys⟩ := z'
          rcases hq2 with hq | ⟨hq, hr⟩ | ⟨hq, hr, ht⟩
          all_goals
            go_wp2
            go_region
            go_wp2
            go_ret
            exact HZ.out _
      · obtain rfl : j = n := by omega
        have HZ := Lib.hid (HK.out _ _ ⟨true, rfl, by simpa using HE.out, HC.out⟩)
        clear HC1 HC2 HK HE
        go_wp2
        go_ret
        exact HZ.out
  · have HZ := Lib.hid (HK.out _ _ ⟨false, rfl, by simp [hne], Chg.refl _ _⟩)
    have hne' : ¬ ((n : Int) = (n' : Int)) := by omega
    go_enter Tryz.func19, Tryz.ntmps19
    go_wp2
    go_ret
    exact HZ.out

set_option maxRecDepth 100000 in
set_option maxHeartbeats 1000000 in
theorem rsame_any (w : World) (t t' : ByteArray) (a a' : Option Addr) (n c n' c' : Nat) (s f s' f' : Int) (o o' : Nat → Evt) (h : EvsAt w a n o) (h' : EvsAt w a' n' o') :
    Calls Tryz.prog 6 #[.agg #[.string t, .slice a n c, .int .i64 s, .int .i64 f], .agg #[.string t', .slice a' n' c', .int .i64 s', .int .i64 f']] w fun e w' => ∃ b, e = .returned (.bool b) ∧ (b = true ↔ t = t' ∧ f = f' ∧ n = n' ∧ ∀ i, i < n → o i = o' i) ∧ Chg (fun _ => False) w w' := by
  have hA : ∀ x y, Chg (fun _ => False) w ((w.alloc x).alloc y) := fun x y => Chg.alloc (Chg.alloc (Chg.refl _ _) _) _
  have HA := Lib.hid hA
  have HS : Hid (∀ x y, Calls Tryz.prog 18 #[.slice a n c, .slice a' n' c'] ((w.alloc x).alloc y) fun e w' => ∃ b, e = .returned (.bool b) ∧ (b = true ↔ n = n' ∧ ∀ i, i < n → o i = o' i) ∧ Chg (fun _ => False) ((w.alloc x).alloc y) w') := fun x y => sameEvents_any _ a a' n c n' c' o o' (h.chg (hA _ _)) (h'.chg (hA _ _))
  clear h h' hA
  by_cases ht : t = t'
  · subst ht
    by_cases hf : f = f'
    · subst hf
      go_enter Tryz.func6, Tryz.ntmps6
      go_wp2_with (go_at_call 18; refine (HS.out _ _).mono ?_; rintro e w3 ⟨b, rfl, hb, hC⟩)
      go_ret
      exact ⟨b, rfl, by simpa using hb, (HA.out _ _).trans hC fun _ _ h => h⟩
    · go_enter Tryz.func6, Tryz.ntmps6
      go_wp2
      go_ret
      exact ⟨false, rfl, by simp [hf], HA.out _ _⟩
  · have ht2 : ¬ t.toList = t'.toList := fun h => ht (str_inj h)
    go_enter Tryz.func6, Tryz.ntmps6
    go_wp2
    go_ret
    exact ⟨false, rfl, by simp [ht], HA.out _ _⟩

set_option maxRecDepth 100000 in
set_option maxHeartbeats 1000000 in
theorem esame_any (w : World) (t t' : ByteArray) (a a' : Option Addr) (n c n' c' : Nat) (s f s' f' : Int) (o o' : Nat → Evt) (h : EvsAt w a n o) (h' : EvsAt w a' n' o') :
    Calls Tryz.prog 7 #[.agg #[.string t, .slice a n c, .int .i64 s, .int .i64 f], .agg #[.string t', .slice a' n' c', .int .i64 s', .int .i64 f']] w fun e w' => ∃ b, e = .returned (.bool b) ∧ (b = true ↔ t = t' ∧ f = f' ∧ n = n' ∧ ∀ i, i < n → o i = o' i) ∧ Chg (fun _ => False) w w' := by
  have hA : ∀ x y, Chg (fun _ => False) w ((w.alloc x).alloc y) := fun x y => Chg.alloc (Chg.alloc (Chg.refl _ _) _) _
  have HA := Lib.hid hA
  have HS : Hid (∀ x y, Calls Tryz.prog 19 #[.slice a n c, .slice a' n' c'] ((w.alloc x).alloc y) fun e w' => ∃ b, e = .returned (.bool b) ∧ (b = true ↔ n = n' ∧ ∀ i, i < n → o i = o' i) ∧ Chg (fun _ => False) ((w.alloc x).alloc y) w') := fun x y => equal_any _ a a' n c n' c' o o' (h.chg (hA _ _)) (h'.chg (hA _ _))
  clear h h' hA
  by_cases ht : t = t'
  · subst ht
    by_cases hf : f = f'
    · subst hf
      go_enter Tryz.func7, Tryz.ntmps7
      go_wp2_with (go_at_call 19; refine (HS.out _ _).mono ?_; rintro e w3 ⟨b, rfl, hb, hC⟩)
      go_ret
      exact ⟨b, rfl, by simpa using hb, (HA.out _ _).trans hC fun _ _ h => h⟩
    · go_enter Tryz.func7, Tryz.ntmps7
      go_wp2
      go_ret
      exact ⟨false, rfl, by simp [hf], HA.out _ _⟩
  · have ht2 : ¬ t.toList = t'.toList := fun h => ht (str_inj h)
    go_enter Tryz.func7, Tryz.ntmps7
    go_wp2
    go_ret
    exact ⟨false, rfl, by simp [ht], HA.out _ _⟩
end Go.Clo
namespace Go.Clo
open Go.RowKit Go.Proofs

theorem Chg.low {w w' : World} (hC : Chg (fun _ => False) w w') : Below w.heap.size w w' := ⟨hC.os, hC.tape, hC.output, hC.size, fun k hk => hC.block k hk fun h => h⟩
theorem chg_of {w w' : World} (h : Below w.heap.size w w') : Chg (fun _ => False) w w' := ⟨h.os, h.tape, h.output, h.size, fun k hk _ => h.block k hk⟩
theorem block_chg {w w' : World} (hC : Chg (fun _ => False) w w') {b : Nat} {o : Obj} (h : w.heap[b]? = some o) : w'.heap[b]? = some o := by rw [hC.block b (lt_of_block h) fun h => h]; exact h

def Out4 (w : World) (b : Nat) (t : ByteArray) (a : Option Addr) (n c : Nat) (s f : Int) : Prop :=
  w.cell? ⟨b, 0, none⟩ = some (.string t) ∧ w.cell? ⟨b, 1, none⟩ = some (.slice a n c) ∧ w.cell? ⟨b, 2, none⟩ = some (.int .i64 s) ∧ w.cell? ⟨b, 3, none⟩ = some (.int .i64 f)
theorem out4_of {w : World} {b : Nat} {t : ByteArray} {a : Option Addr} {n c : Nat} {s f : Int} (h : w.heap[b]? = some (.cells #[.string t, .slice a n c, .int .i64 s, .int .i64 f] 24)) : Out4 w b t a n c s f := by
  refine ⟨?_, ?_, ?_, ?_⟩ <;> simp [World.cell?, h]

set_option maxRecDepth 100000 in
set_option maxHeartbeats 2000000 in
theorem evalSame_any (w : World) (t t' : ByteArray) (a a' : Option Addr) (n c n' c' : Nat) (s f s' f' : Int) (o o' : Nat → Evt) (h : EvsAt w a n o) (h' : EvsAt w a' n' o') :
    Calls Tryz.prog 3 #[.agg #[.string t, .slice a n c, .int .i64 s, .int .i64 f], .agg #[.string t', .slice a' n' c', .int .i64 s', .int .i64 f']] w fun e w' => e = .returned (.bool true) ∧ Below w.heap.size w w' := by
  refine ret_k fun K hK => ?_
  have HK : Hid (∀ w', Chg (fun _ => False) w w' → Post K (.returned (.bool true)) w') := fun w' hC => hK _ _ ⟨rfl, hC.low⟩
  obtain ⟨p, hp⟩ : ∃ p : Bool, p = true ↔ (t = t' ∧ f = f' ∧ n = n' ∧ ∀ i, i < n → o i = o' i) := by
    by_cases hh : (t = t' ∧ f = f' ∧ n = n' ∧ ∀ i, i < n → o i = o' i)
    · exact ⟨true, by simp only [true_iff]; exact hh⟩
    · exact ⟨false, by simp only [Bool.false_eq_true, false_iff]; exact hh⟩
  have hp' : p = true ↔ (t' = t ∧ f' = f ∧ n' = n ∧ ∀ i, i < n' → o' i = o i) := by
    rw [hp]
    constructor
    · rintro ⟨h1, h2, h3, h4⟩
      exact ⟨h1.symm, h2.symm, h3.symm, fun i hi => (h4 i (by omega)).symm⟩
    · rintro ⟨h1, h2, h3, h4⟩
      exact ⟨h1.symm, h2.symm, h3.symm, fun i hi => (h4 i (by omega)).symm⟩
  obtain ⟨wb, hwb⟩ : ∃ wb, wb = (w.alloc (.cells #[.string t, .slice a n c, .int .i64 s, .int .i64 f] 24)).alloc (.cells #[.string t', .slice a' n' c', .int .i64 s', .int .i64 f'] 24) := ⟨_, rfl⟩
  have hA : Chg (fun _ => False) w wb := by rw [hwb]; exact Chg.alloc (Chg.alloc (Chg.refl _ _) _) _
  have HT : Hid (∀ wx, Chg (fun _ => False) wb wx → Out4 wx w.heap.size t a n c s f ∧ Out4 wx (w.heap.size + 1) t' a' n' c' s' f') := fun wx hC => by
    refine ⟨out4_of (block_chg hC ?_), out4_of (block_chg hC ?_)⟩
    · rw [hwb, Go.heap_alloc_old _ _ (by simp)]
      exact Go.heap_alloc_new _ _
    · rw [hwb]
      have := Go.heap_alloc_new (w.alloc (.cells #[.string t, .slice a n c, .int .i64 s, .int .i64 f] 24)) (.cells #[.string t', .slice a' n' c', .int .i64 s', .int .i64 f'] 24)
      simpa using this
  have HR : Hid (∀ wx, Chg (fun _ => False) wb wx → Calls Tryz.prog 6 #[.agg #[.string t, .slice a n c, .int .i64 s, .int .i64 f], .agg #[.string t', .slice a' n' c', .int .i64 s', .int .i64 f']] wx fun e w' => e = .returned (.bool p) ∧ Chg (fun _ => False) wb w') := fun wx hC => by
    refine (rsame_any wx t t' a a' n c n' c' s f s' f' o o' (h.chg (hA.trans hC fun _ _ h => h)) (h'.chg (hA.trans hC fun _ _ h => h))).mono ?_
    rintro e w' ⟨b, rfl, hb, hC'⟩
    refine ⟨?_, hC.trans hC' fun _ _ h => h⟩
    rw [show b = p from Bool.eq_iff_iff.2 (hb.trans hp.symm)]
  have HE1 : Hid (∀ wx, Chg (fun _ => False) wb wx → Calls Tryz.prog 7 #[.agg #[.string t, .slice a n c, .int .i64 s, .int .i64 f], .agg #[.string t', .slice a' n' c', .int .i64 s', .int .i64 f']] wx fun e w' => e = .returned (.bool p) ∧ Chg (fun _ => False) wb w') := fun wx hC => by
    refine (esame_any wx t t' a a' n c n' c' s f s' f' o o' (h.chg (hA.trans hC fun _ _ h => h)) (h'.chg (hA.trans hC fun _ _ h => h))).mono ?_
    rintro e w' ⟨b, rfl, hb, hC'⟩
    refine ⟨?_, hC.trans hC' fun _ _ h => h⟩
    rw [show b = p from Bool.eq_iff_iff.2 (hb.trans hp.symm)]
  have HE2 : Hid (∀ wx, Chg (fun _ => False) wb wx → Calls Tryz.prog 7 #[.agg #[.string t', .slice a' n' c', .int .i64 s', .int .i64 f'], .agg #[.string t, .slice a n c, .int .i64 s, .int .i64 f]] wx fun e w' => e = .returned (.bool p) ∧ Chg (fun _ => False) wb w') := fun wx hC => by
    refine (esame_any wx t' t a' a n' c' n c s' f' s f o' o (h'.chg (hA.trans hC fun _ _ h => h)) (h.chg (hA.trans hC fun _ _ h => h))).mono ?_
    rintro e w' ⟨b, rfl, hb, hC'⟩
    refine ⟨?_, hC.trans hC' fun _ _ h => h⟩
    rw [show b = p from Bool.eq_iff_iff.2 (hb.trans hp'.symm)]
  have HE3 : Hid (∀ wx, Chg (fun _ => False) wb wx → Calls Tryz.prog 7 #[.agg #[.string t, .slice a n c, .int .i64 s, .int .i64 f], .agg #[.string t, .slice a n c, .int .i64 s, .int .i64 f]] wx fun e w' => e = .returned (.bool true) ∧ Chg (fun _ => False) wb w') := fun wx hC => by
    refine (esame_any wx t t a a n c n c s f s f o o (h.chg (hA.trans hC fun _ _ h => h)) (h.chg (hA.trans hC fun _ _ h => h))).mono ?_
    rintro e w' ⟨b, rfl, hb, hC'⟩
    refine ⟨?_, hC.trans hC' fun _ _ h => h⟩
    rw [hb.2 ⟨rfl, rfl, rfl, fun _ _ => rfl⟩]
  have HE4 : Hid (∀ wx, Chg (fun _ => False) wb wx → Calls Tryz.prog 7 #[.agg #[.string t', .slice a' n' c', .int .i64 s', .int .i64 f'], .agg #[.string t', .slice a' n' c', .int .i64 s', .int .i64 f']] wx fun e w' => e = .returned (.bool true) ∧ Chg (fun _ => False) wb w') := fun wx hC => by
    refine (esame_any wx t' t' a' a' n' c' n' c' s' f' s' f' o' o' (h'.chg (hA.trans hC fun _ _ h => h)) (h'.chg (hA.trans hC fun _ _ h => h))).mono ?_
    rintro e w' ⟨b, rfl, hb, hC'⟩
    refine ⟨?_, hC.trans hC' fun _ _ h => h⟩
    rw [hb.2 ⟨rfl, rfl, rfl, fun _ _ => rfl⟩]
  have HZ : Hid (∀ wx, Chg (fun _ => False) wb wx → Post K (.returned (.bool true)) wx) := fun wx hC => HK.out _ (hA.trans hC fun _ _ h => h)
  have HS : Hid (Calls Tryz.prog 5 #[] wb fun e w' => e = .returned (.bool true) ∧ Chg (fun _ => False) wb w') := by
    refine (sane_any wb).mono ?_
    rintro e w' ⟨rfl, hB⟩
    exact ⟨rfl, chg_of hB⟩
  clear h h' hp hp' hA hK HK
  have HW := Lib.hid hwb
  clear hwb

  cases p
  all_goals
    go_enter Tryz.func3, Tryz.ntmps3
    go_wp2_with fail
    rw [← HW.out]
    refine HS.out.mono ?_
    rintro e w1 ⟨rfl, hC⟩
    obtain ⟨⟨q0, q1, q2, q3⟩, ⟨q4, q5, q6, q7⟩⟩ := HT.out _ hC
    have HC := Lib.hid hC
    clear hC
    go_wp2_with fail
    refine (HR.out _ HC.out).mono ?_
    rintro e w2 ⟨rfl, hC⟩
    obtain ⟨⟨q0, q1, q2, q3⟩, ⟨q4, q5, q6, q7⟩⟩ := HT.out _ hC
    have HC := Lib.hid hC
    clear hC
    go_wp2_with fail
    refine (HE1.out _ HC.out).mono ?_
    rintro e w3 ⟨rfl, hC⟩
    obtain ⟨⟨q0, q1, q2, q3⟩, ⟨q4, q5, q6, q7⟩⟩ := HT.out _ hC
    have HC := Lib.hid hC
    clear hC
    go_wp2_with fail
    refine (HE2.out _ HC.out).mono ?_
    rintro e w4 ⟨rfl, hC⟩
    obtain ⟨⟨q0, q1, q2, q3⟩, ⟨q4, q5, q6, q7⟩⟩ := HT.out _ hC
    have HC := Lib.hid hC
    clear hC
    go_wp2_with fail
    refine (HE3.out _ HC.out).mono ?_
    rintro e w5 ⟨rfl, hC⟩
    obtain ⟨⟨q0, q1, q2, q3⟩, ⟨q4, q5, q6, q7⟩⟩ := HT.out _ hC
    have HC := Lib.hid hC
    clear hC
    go_wp2_with fail
    refine (HE4.out _ HC.out).mono ?_
    rintro e w6 ⟨rfl, hC⟩
    have HC := Lib.hid hC
    clear hC
    go_wp2
    go_ret
    exact HZ.out _ HC.out
end Go.Clo
