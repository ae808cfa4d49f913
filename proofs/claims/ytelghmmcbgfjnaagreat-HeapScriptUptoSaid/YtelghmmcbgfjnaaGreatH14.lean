/-
  add: what it makes, plainly; the walk. (A part of the proof, joined of: Xn, Xo, Xp, Xq; made smaller.)
-/
import Derived.Test.YtelghmmcbgfjnaaGreatH13
set_option maxHeartbeats 4000000
set_option maxRecDepth 100000
namespace Go.Proofs.YtelghmmcbgfjnaaGreat
variable {A A' A0 A1 : St} {a : Option Addr} {at_ er n name num : Int} {b c h0 i k lb m m' : Nat} {cs ws : List Wd} {g g0 g1 : Gh} {o : Ob} {old r table : Bool} {v : Value} {w w' w0 wx : World} {x : Wd}
open Go.RowKit
theorem noted_same (A : St) (n : Int) : A.noted n = { A with rem := (A.noted n).rem } := by
 unfold St.noted
 split
 · split
   · split <;> rfl
   · rfl
 · rfl
theorem FreeOk.congr (h : FreeOk A) (e1 : A'.free = A.free) (e2 : A'.next = A.next) (e3 : A'.handles = A.handles) : FreeOk A' :=
 ⟨by rw [e1]; exact h.ord, by rw [e1]; exact h.nod, by rw [e1, e2, e3]; exact h.mem, by rw [e2, e3]; exact h.key, by rw [e2]; exact h.next0, by rw [e2]; exact h.next9⟩
theorem lookup_append_new {l : List (Int × Ob)} (h : n ∉ l.map (·.1)) : (l ++ [(n, o)]).lookup n = some o := by
 induction l with
 | nil => simp
 | cons p l ih =>
   obtain ⟨a, x⟩ := p;simp only [List.map_cons, List.mem_cons, not_or] at h;have e2 : (n == a) = false := by simpa using h.1
   simp only [List.cons_append, List.lookup, e2];exact ih h.2
theorem lookup_append_old {l : List (Int × Ob)} {m : Int} (h : m ≠ n) : (l ++ [(n, o)]).lookup m = l.lookup m := by
 induction l with
 | nil =>
   have e2 : (m == n) = false := by simpa using h
   simp [List.lookup, e2]
 | cons p l ih =>
   obtain ⟨a, x⟩ := p;by_cases e : m = a
   · subst e; simp [List.lookup]
   · have e2 : (m == a) = false := by simpa using e
     simp only [List.cons_append, List.lookup, e2];exact ih
def St.newOb (A : St) (table old : Bool) (ws : List Wd) : Ob := ⟨table, ws.length - 1, old, (A.mem old).length, []⟩
def St.added (A : St) (table old : Bool) (ws : List Wd) : St :=
 ({ A.setMem old (A.mem old ++ ws) with names := A.names + 1 }.addOb A.names (A.newOb table old ws)).noted A.names
inductive MinoredOr (A : St) : St → Prop where
 | same : MinoredOr A A
 | minor {S : List Int} : Found1 A S → MinoredOr A (A.minored fun n => decide (n ∈ S))
theorem MinoredOr.sames (h : MinoredOr A A1) (hw : Wf k m A) : A1.names = A.names ∧ A1.young = A.young ∧ A1.handles = A.handles ∧ A1.reg = A.reg ∧ A1.queue = A.queue ∧ A1.free = A.free ∧ A1.next = A.next ∧ A1.full = A.full := by
 cases h with
 | same => exact ⟨rfl, rfl, rfl, rfl, rfl, rfl, rfl, rfl⟩
 | minor hS => exact (minored_I _ hw.fit).same
theorem MinoredOr.wf (h : MinoredOr A A1) (hw : Wf k m A) (hrem : RemOk A) (hm' : m' ≤ 100000000000) (hT : A.memT.length + 1001 * k ≤ m') (hmm : 1001 * k ≤ m') : Wf k m' A1 := by
 cases h with
 | same => exact ⟨hw.hk, hm', hmm, hw.fit, hw.closed, hw.roots, hw.regs, hw.shape, hw.big, hw.many, hw.memN, by omega, hw.below⟩
 | minor hS => exact hw.minored hrem hS hm' hT hmm
theorem MinoredOr.remOk (h : MinoredOr A A1) (hf : Fit A) (hrem : RemOk A) : RemOk A1 := by
 cases h with
 | same => exact hrem
 | minor hS => exact (minored_allOld hf).remOk
theorem MinoredOr.sim {I : IS} (h : MinoredOr A A1) (hf : Fit A) (hrem : RemOk A) (hs : Sim A I) : Sim A1 I := by
 cases h with
 | same => exact hs
 | minor hS => exact hs.minored hf hrem hS
theorem Wf.new_name (h : Wf k m A) : A.names ∉ A.objs.map (·.1) := by
 intro hn;obtain ⟨⟨a, o⟩, hm, e⟩ := List.mem_map.1 hn;have e' : a = A.names := e;subst e';have := h.below _ _ (lookup_of_mem h.fit.nodup hm);omega
structure AddI (w0 : World) (g0 : Gh) (A0 : St) (h0 : Nat) (b lb c : Nat) (ws : List Wd) (table : Bool) (A1 : St) (wx : World) (g1 : Gh) (old : Bool) (at_ : Int) : Prop where
 rep : Rep wx g1 A1
 step : Step w0 g0 A0 wx g1
 hb : g1.hb = h0
 blk : wx.heap[b]? = some (.cells #[.bool table, .int .i64 ((ws.length - 1 : Nat) : Int), .bool old, .int .i64 at_, .slice none 0 0] 110 (0, 0))
 own : g1.own b = none
 row : Row wx 113 2 (.slice (some ⟨lb, 0, none⟩) ws.length (c + 1)) ws.length (wdCells ws)
 rown : g1.own lb = none
theorem AddI.drewN (h : AddI w0 g0 A0 h0 b lb c ws table A1 wx g1 old at_) (n : Nat) : AddI w0 g0 A0 h0 b lb c ws table A1 (wx.drewN n) g1 old at_ :=
 ⟨h.rep.drewN n, { h.step with chg := h.step.chg.drewN n }, h.hb, h.blk, h.own, h.row.same fun _ _ => rfl, h.rown⟩
theorem AddI.set (h : AddI w0 g0 A0 h0 b lb c ws table A1 wx g1 old at_) (hb0 : w0.heap.size ≤ b) (hlb : lb ≠ b)
 {old' : Bool} {at' : Int} (hv : (#[Value.bool table, .int .i64 ((ws.length - 1 : Nat) : Int), .bool old, .int .i64 at_, .slice none 0 0] : Array Value).setIfInBounds i v = #[Value.bool table, .int .i64 ((ws.length - 1 : Nat) : Int), .bool old', .int .i64 at', .slice none 0 0]) :
 AddI w0 g0 A0 h0 b lb c ws table A1 (wx.setCell ⟨b, i, none⟩ v) g1 old' at' := by
 refine ⟨h.rep.frame (chg_set1 wx b i v) fun x hx => by rw [hx]; exact h.own, { h.step with chg := h.step.chg.setCell (fun hlt => ?_) v }, h.hb, by rw [heap_setCell h.blk, hv], h.own, h.row.same fun x hx => heap_setCell_ne (fun e => ?_) _, h.rown⟩
 · exact absurd hlt (by show ¬ b < w0.heap.size; omega)
 · simp only [rowBlk, Option.some.injEq] at hx;have e' : x = b := e;omega
theorem AddI.go (h : AddI w0 g0 A0 h0 b lb c ws table A1 wx g1 old at_) (hA : A0.names ≤ A1.names)
 {A2 : St} {w2 : World} {g2 : Gh} (hR : Rep w2 g2 A2) (hS : Step wx g1 A1 w2 g2) : AddI w0 g0 A0 h0 b lb c ws table A2 w2 g2 old at_ := by
 have h1 := hS.at h.blk h.own;obtain ⟨cur, hc⟩ := h.row.elem (g := lb) (by simp [rowBlk]);have h2 := hS.at hc h.rown;exact ⟨hR, h.step.trans hS hA, hS.hb.trans h.hb, h1.1, h1.2, h.row.same fun x hx => by
  simp only [rowBlk, Option.some.injEq] at hx;rw [← hx, h2.1, hc], h2.2⟩
theorem AddI.src (h : AddI w0 g0 A0 h0 b lb c ws table A1 wx g1 old at_) : Src' wx 2 (.slice (some ⟨lb, 0, none⟩) ws.length (c + 1)) ws.length (wdCells ws) := by
 have hp := h.row.part 0 ws.length (c + 1) (by omega);rw [List.take_of_length_le (by rw [List.length_drop, wdCells_length]; omega)] at hp;simpa using hp
theorem setMem_same (A : St) (old : Bool) (l : List Wd) : (A.setMem old l).names = A.names ∧ (A.setMem old l).young = A.young ∧ (A.setMem old l).handles = A.handles ∧ (A.setMem old l).reg = A.reg ∧ (A.setMem old l).queue = A.queue ∧ (A.setMem old l).free = A.free ∧ (A.setMem old l).next = A.next ∧ (A.setMem old l).full = A.full ∧ (A.setMem old l).objs = A.objs ∧ (A.setMem old l).rem = A.rem := by
 cases old <;> exact ⟨rfl, rfl, rfl, rfl, rfl, rfl, rfl, rfl, rfl, rfl⟩
theorem setMem_mem (A : St) (old : Bool) (l : List Wd) : (A.setMem old l).mem old = l := by cases old <;> rfl
theorem add_any (hR : Rep w g A) (hS : Step w0 g0 A0 w g) (hw : Wf k m A) (hrem : RemOk A) (hF : FreeOk A) (hA0 : A0.names ≤ A.names)
 (hm' : m' ≤ 100000000000) (hT : A.memT.length + 1001 * k ≤ m') (hmm : 1001 * k ≤ m') (hh : A.handles.length < 9000) (hnm : A.names ≤ 1000000 ∧ 0 ≤ A.names)
 (hws : 1 ≤ ws.length ∧ ws.length ≤ 201) (hb : w.heap[b]? = some (.cells #[.bool table, .int .i64 ((ws.length - 1 : Nat) : Int), .bool false, .int .i64 0, .slice none 0 0] 110 (0, 0))) (hbo : g.own b = none) (hb0 : w0.heap.size ≤ b)
 (hsrc : Row w 113 2 (.slice (some ⟨lb, 0, none⟩) ws.length (c + 1)) ws.length (wdCells ws)) (hlo : g.own lb = none) (hlb : lb ≠ b) :
 Calls Tryz.prog 62 #[.pointer (some ⟨g.hb, 0, none⟩), .pointer (some ⟨b, 0, none⟩), .slice (some ⟨lb, 0, none⟩) ws.length (c + 1)] w fun e w' => ∃ n, e = .returned (.int .i64 n) ∧
  Hid (∃ A1 old A2 g', MinoredOr A A1 ∧ (old = decide (A.young < (A1.memN.length : Int) + ws.length)) ∧ Granted (A1.added table old ws) A.names n A2 ∧ Rep w' g' A2 ∧ Step w0 g0 A0 w' g') := by
 refine ret_k fun K hK => ?_;have HK := Lib.hid hK;obtain ⟨va, vc, hv, hvle, _, _⟩ := hR.rN.row.slice;have c2 : w.cell? ⟨g.hb, 2, none⟩ = some (.slice va A.memN.length vc) := by rw [hR.c 2]; simp [hsCells, hv]
 have c4 : w.cell? ⟨g.hb, 4, none⟩ = some (.int .i64 A.young) := hR.c 4;have hmN := hw.memN;have hk9 := hw.hk;have HMin : Hid (∀ n, Calls Tryz.prog 33 #[.pointer (some ⟨g.hb, 0, none⟩)] (w.drewN n) fun e w1 => e = .returned (.tuple #[]) ∧ Hid (∃ A1 g1, MinoredOr A A1 ∧ A1.memN.length = 0 ∧ Rep w1 g1 A1 ∧ Step w g A w1 g1)) := by
  intro n;refine (minor_any (hR.drewN n) hw hrem.sub).mono ?_;rintro e w1 ⟨rfl, S, g1, hS1, hR1, hSt⟩;refine ⟨rfl, _, g1, .minor hS1, ?_, hR1, (Step.drewN w g A n).trans hSt (Int.le_refl _)⟩;have := (minored_I (fun n => decide (n ∈ S)) hw.fit).memN;show (A.minorTo _ A.sorted).memN.length = 0;rw [this]; rfl
 have HRest : Hid (∀ A1 g1 wx, MinoredOr A A1 → Rep wx g1 A1 → Step w g A wx g1 → Step w0 g0 A0 wx g1 ∧ (∃ va vc, wx.cell? ⟨g.hb, 2, none⟩ = some (.slice va A1.memN.length vc)) ∧ wx.cell? ⟨g.hb, 4, none⟩ = some (.int .i64 A.young) ∧
  wx.heap[b]? = some (.cells #[.bool table, .int .i64 ((ws.length - 1 : Nat) : Int), .bool false, .int .i64 0, .slice none 0 0] 110 (0, 0)) ∧ g1.own b = none ∧ A1.memN.length ≤ 1001 * k) := by
  intro A1 g1 wx hM hR1 hS1;obtain ⟨va, vc, hv, _, _, _⟩ := hR1.rN.row.slice;have h2 := hR1.c 2;have h4 := hR1.c 4;rw [hS1.hb] at h2 h4;have hat := hS1.at hb hbo;exact ⟨hS.trans hS1 hA0, ⟨va, vc, by rw [h2]; simp [hsCells, hv]⟩, by rw [h4, ← (hM.sames hw).2.1]; rfl, hat.1, hat.2, (hM.wf hw hrem hm' hT hmm).memN⟩
 clear hK hv hvle;obtain ⟨ml, hml⟩ : ∃ ml, ml = A.memN.length := ⟨_, rfl⟩;obtain ⟨yy, hyy⟩ : ∃ yy, yy = A.young := ⟨_, rfl⟩;obtain ⟨wl, hwl⟩ : ∃ wl, wl = ws.length := ⟨_, rfl⟩;have HRep := Lib.hid hR;have HEq := Lib.hid (And.intro hml (And.intro hyy hwl));rw [← hml] at c2 hmN;rw [← hyy] at c4 HRest;rw [← hwl] at hws ⊢;clear hml hyy hwl hR
 go_enter Tryz.func62, Tryz.ntmps62
 go_wp2
 go_quiet (fail)
 go_upto_if 23 with fail
 go_cut [] from 23 to 27 (fun wx => Hid (∃ A1 g1, MinoredOr A A1 ∧ Rep wx g1 A1 ∧ Step w g A wx g1))
 case first =>
  go_wp2_with (go_at_call 33; refine (HMin.out _).mono ?_; rintro e w1 ⟨rfl, hZ⟩)
  · go_meet
    obtain ⟨A1, g1, h1, h2, h3, h4⟩ := hZ.out;exact ⟨A1, g1, h1, h3, h4⟩
  · go_meet
    exact ⟨A, g, .same, HRep.out.drewN _, Step.drewN w g A _⟩
 case rest =>
  obtain ⟨A1, g1, hM, hR1, hS1⟩ := hcut.out;obtain ⟨hS01, ⟨va1, vc1, d2⟩, d4, hb1, hbo1, hm1⟩ := HRest.out A1 g1 wc hM hR1 hS1;obtain ⟨e1, e2, e3⟩ := HEq.out;have hgb : g1.hb = g.hb := hS1.hb;obtain ⟨cur, hc⟩ := hsrc.elem (g := lb) (by simp [rowBlk]);have hat := hS1.at hc hlo;have hI0 : AddI w0 g0 A0 g.hb b lb c ws table A1 wc g1 false 0 := ⟨hR1, hS01, hgb, hb1, hbo1, hsrc.same fun x hx => by
   simp only [rowBlk, Option.some.injEq] at hx;rw [← hx, hat.1, hc], hat.2⟩
  have hw1 := hM.wf hw hrem hm' hT hmm;have hs1 := hM.sames hw;have hF1 : FreeOk A1 := hF.congr hs1.2.2.2.2.2.1 hs1.2.2.2.2.2.2.1 hs1.2.2.1;have HI0 := Lib.hid hI0;have q2 : wc.cell? ⟨b, 2, none⟩ = some (.bool false) := cellAt hb1 2;have f2 : wc.frozen? ⟨b, 2, none⟩ = false := freeAt hb1 2;obtain ⟨m1, hm1e⟩ : ∃ m1, m1 = A1.memN.length := ⟨_, rfl⟩;obtain ⟨old, hold⟩ : ∃ old, decide (yy < (m1 : Int) + (wl : Int)) = old := ⟨_, rfl⟩;have HOld : Hid (old = decide (A.young < (A1.memN.length : Int) + ws.length)) := by rw [← e2, ← hm1e, ← e3]; exact hold.symm
  rw [← hm1e] at d2 hm1;have HM := Lib.hid (And.intro hM (And.intro hw1 (And.intro hs1 hF1)));have HEq3 := Lib.hid e3;clear hcut hI0 hc hat hsrc hS1 hR1 hm1e hM hw1 hs1 hF1 e1 e2 e3 HMin HRest HRep HEq hb1 hbo1 c2 c4 hb hbo hS01 hgb
  go_upto_region 3 with fail
  go_cut [] from 28 to 46 (fun wx => Hid (AddI w0 g0 A0 g.hb b lb c ws table A1 wx g1 old 0))
  case first =>
   go_region
   all_goals
    go_wp2
    go_meet
    exact (HI0.out.set hb0 hlb rfl).drewN 1
  case rest =>
   have hI1 := hcut.out;obtain ⟨hM, hw1, hs1, hF1⟩ := HM.out;have e3 := HEq3.out;have hmemb : (A1.mem old).length ≤ 100000000000 := by
    cases old
    · exact hw1.fit.memN
    · exact hw1.fit.memT
   obtain ⟨sp, hsp⟩ : ∃ sp : Int, sp = if old then 1 else 0 := ⟨_, rfl⟩;have HSp : Hid (∀ n, Calls Tryz.prog 89 #[.pointer (some ⟨b, 0, none⟩)] (wc.drewN n) fun e w' => e = .returned (.int .i64 sp) ∧ wc.drewN n = w') := by
    intro n;rw [hsp];exact space_any b old (wc.drewN n) (cellAt hI1.blk 2)
   have HPl : Hid (∀ n, Calls Tryz.prog 110 #[.pointer (some ⟨g.hb, 0, none⟩), .int .i64 sp, .slice (some ⟨lb, 0, none⟩) wl (c + 1)] (wc.drewN n) fun e w' => e = .returned (.int .i64 (A1.mem old).length) ∧ (w'.cell? ⟨b, 3, none⟩ = some (.int .i64 0) ∧ w'.frozen? ⟨b, 3, none⟩ = false) ∧
    Hid (∃ g2, AddI w0 g0 A0 g.hb b lb c ws table (A1.setMem old (A1.mem old ++ ws)) w' g2 old 0)) := by
    intro n;have hI2 := hI1.drewN n;have hp := place_any hI2.rep old hI2.src rfl (by omega) (by omega) (fun a c' h => by
     simp only [Value.slice.injEq, Option.some.injEq] at h;rw [← h.1];exact hI2.rown)
    rw [hI2.hb, ← hsp, ← e3] at hp;refine hp.mono ?_;rintro e w' ⟨g2, rfl, hR2, hS2, _, _⟩;have hg := hI2.go (by rw [hs1.1]; exact hA0) hR2 hS2;exact ⟨rfl, ⟨cellAt hg.blk 3, freeAt hg.blk 3⟩, g2, hg⟩
   clear hcut hI1 q2 f2 d2 d4 HI0 hsp hM hw1 hs1 hF1 e3
   go_upto_region 4 with fail
   go_cut [] from 47 to 56 (fun wx => Hid (∃ g2, AddI w0 g0 A0 g.hb b lb c ws table (A1.setMem old (A1.mem old ++ ws)) wx g2 old (A1.mem old).length))
   case first =>
    go_region_law (first | (go_simp; go_at_call 89; refine (HSp.out _).mono ?_; rintro e w1 ⟨rfl, rfl⟩) | (go_simp; go_at_call 110; refine (HPl.out _).mono ?_; rintro e w1 ⟨rfl, ⟨q3, f3⟩, hZ⟩))
    all_goals
     go_wp2
     go_meet
     obtain ⟨g2, hg2⟩ := hZ.out;exact ⟨g2, hg2.set hb0 hlb rfl⟩
   case rest =>
    obtain ⟨g2, hI2⟩ := hcut.out;obtain ⟨hM, hw1, hs1, hF1⟩ := HM.out;have e3 := HEq3.out;obtain ⟨A2, hA2⟩ : ∃ A2, A2 = A1.setMem old (A1.mem old ++ ws) := ⟨_, rfl⟩;have hsm := setMem_same A1 old (A1.mem old ++ ws);rw [← hA2] at hI2 hsm;have hnm2 : A2.names = A.names := hsm.1.trans hs1.1;have hnN : A.names ∉ A2.objs.map (·.1) := by rw [hsm.2.2.2.2.2.2.2.2.1, ← hs1.1]; exact hw1.new_name
    have c0 := hI2.rep.c 0;have c1 := hI2.rep.c 1;rw [hI2.hb] at c0 c1;have d0 : wc.cell? ⟨g.hb, 0, none⟩ = some (.map (some g2.mo)) := c0;have d1 : wc.cell? ⟨g.hb, 1, none⟩ = some (.int .i64 A.names) := by rw [← hnm2]; exact c1
    have f1 : wc.frozen? ⟨g.hb, 1, none⟩ = false := by rw [← hI2.hb]; exact freeAt hI2.rep.hs 1
    have hN := hI2.rep.setNums (w' := wc.setCell ⟨g.hb, 1, none⟩ (.int .i64 (A.names + 1))) (nm := A.names + 1) (nx := A2.next) (by rw [hI2.hb]; exact chg_set1 _ _ _ _) (by
     have := heap_setCell hI2.rep.hs 1 (.int .i64 (A.names + 1));rw [hI2.hb] at this ⊢;rw [this]; rfl)
    have hgo := hI2.go (by rw [hnm2]; exact hA0) hN.1 hN.2;obtain ⟨o', hrun, hMp⟩ := run_mapUpdate_map (P := Tryz.prog) hN.1.mo uMapO uInt A.names (.pointer (some ⟨b, 0, none⟩));have hput : putKV (kvsO g2 { A2 with names := A.names + 1, next := A2.next }) A.names (.pointer (some ⟨b, 0, none⟩)) = kvsO g2 { A2 with names := A.names + 1, next := A2.next } ++ [(A.names, .pointer (some ⟨b, 0, none⟩))] := by
     unfold putKV;rw [kvsO_lookup];have : A2.objs.lookup A.names = none := by
      cases hl : A2.objs.lookup A.names with
      | none => rfl
      | some x => exact absurd (List.mem_map.2 ⟨_, mem_of_lookup hl, rfl⟩) hnN
     show (if ((A2.objs.lookup A.names).map _).isSome then _ else _) = _;rw [this]; rfl
    rw [hput] at hMp;have hAdd := hN.1.addObj hgo.step (n := A.names) (o := A1.newOb table old ws) (b := b) hnN hA0 hgo.own hb0 rfl (chg_put1 _ _ _) hMp hgo.blk;have hfin : A1.added table old ws = (({ A2 with names := A.names + 1, next := A2.next } : St).addOb A.names (A1.newOb table old ws)).noted A.names := by
     unfold St.added;rw [hs1.1, ← hA2]
    have hlook : (({ A2 with names := A.names + 1, next := A2.next } : St).addOb A.names (A1.newOb table old ws)).objs.lookup A.names = some (A1.newOb table old ws) := lookup_append_new hnN;have hmem3 : (({ A2 with names := A.names + 1, next := A2.next } : St).addOb A.names (A1.newOb table old ws)).mem old = A1.mem old ++ ws := by
     show A2.mem old = _;rw [hA2, setMem_mem]
    have HNote : Hid (Calls Tryz.prog 64 #[.pointer (some ⟨g.hb, 0, none⟩), .int .i64 A.names] (World.put (wc.setCell ⟨g.hb, 1, none⟩ (.int .i64 (A.names + 1))) g2.mo o') fun e w5 => e = .returned (.tuple #[]) ∧
     Hid (Calls Tryz.prog 86 #[.pointer (some ⟨g.hb, 0, none⟩), .int .i64 A.names] w5 fun e w6 => ∃ n, e = .returned (.int .i64 n) ∧ Hid (Post K (.returned (.int .i64 n)) w6))) := by
     have hnt := note_any hAdd.1 hlook (by
      show (A1.mem old).length + 1 + (ws.length - 1) ≤ ((({ A2 with names := A.names + 1, next := A2.next } : St).addOb A.names (A1.newOb table old ws)).mem old).length;rw [hmem3, List.length_append]; omega) (by
      show ((({ A2 with names := A.names + 1, next := A2.next } : St).addOb A.names (A1.newOb table old ws)).mem old).length ≤ _;rw [hmem3, List.length_append]; omega) (by simp [St.newOb]) (by
      show ws.length - 1 + 2 * 0 ≤ _;omega)
     have hgb : (g2.addOb A.names b).hb = g.hb := hI2.hb;rw [hgb] at hnt;refine hnt.mono ?_;rintro e w5 ⟨rfl, hR5, hS5⟩;refine ⟨rfl, ?_⟩;have hh5 : (((({ A2 with names := A.names + 1, next := A2.next } : St).addOb A.names (A1.newOb table old ws)).noted A.names)).handles = A.handles := by
      rw [noted_same];show A2.handles = _;exact hsm.2.2.1.trans hs1.2.2.1
     have hF5 : FreeOk ((({ A2 with names := A.names + 1, next := A2.next } : St).addOb A.names (A1.newOb table old ws)).noted A.names) := by
      refine hF1.congr ?_ ?_ (hh5.trans hs1.2.2.1.symm)
      · rw [noted_same]; exact hsm.2.2.2.2.2.1
      · rw [noted_same]; exact hsm.2.2.2.2.2.2.1
     have hh := handle_any hR5 hF5 (by rw [hh5]; exact hh) A.names;rw [hgb] at hh;refine hh.mono ?_;rintro e w6 ⟨n, rfl, hZ⟩;obtain ⟨A6, g6, hG, hR6, hS6⟩ := hZ.out;refine ⟨n, rfl, HK.out _ _ ⟨n, rfl, A1, old, A6, g6, hM, HOld.out, by rw [hfin]; exact hG, hR6, ?_⟩⟩;refine (hAdd.2.trans hS5 ?_).trans hS6 ?_
     · show A0.names ≤ A.names + 1; omega
     · rw [noted_same]; show A0.names ≤ A.names + 1; omega
    clear hcut hI2 hM hw1 hs1 hF1 hsm hnm2 hnN c0 c1 hN hgo hMp hput hAdd hfin hlook hmem3 HM HOld HEq3 HSp HPl hmemb hold e3 hA2;obtain ⟨hnm1, hnm0⟩ := hnm;generalize A.names = nm at *
    go_wp2_with (first | (go_at_call 64; refine HNote.out.mono ?_; rintro e w5 ⟨rfl, HH⟩) | (go_at_call 86; refine HH.out.mono ?_; rintro e w6 ⟨n, rfl, hZ⟩))
    go_ret;exact hZ.out
theorem appW {xs : List Wd} (hrow : Row w 113 2 v xs.length (wdCells xs)) (c : Wd) (hT : xs.length < 8796093022208) :
 ∃ a cap w', (Builtin.append_ #[65, 65] 65 #[v, .slice (some ⟨w.heap.size, 0, none⟩) 1 1]).run Tryz.prog (w.alloc (.cells #[.bool c.ref, .int .i64 c.num] 113)) = .ok (.slice a (xs.length + 1) cap) w' ∧
   Row w' 113 2 (.slice a (xs.length + 1) cap) (xs ++ [c]).length (wdCells (xs ++ [c])) ∧ Chg (fun b => rowBlk v = some b) w w' ∧ (∀ b, rowBlk (.slice a (xs.length + 1) cap) = some b → rowBlk v = some b ∨ w.heap.size ≤ b) := by
 obtain ⟨i0, hi, hz0, hz1, hz2⟩ := info_parts iWord;have h1 : Row (w.alloc (.cells #[.bool c.ref, .int .i64 c.num] 113)) 113 2 v xs.length (wdCells xs) := hrow.same fun b hb => by rw [heap_alloc, if_neg (by have := hrow.lt hb; omega)]
 have hsrc : Src' (w.alloc (.cells #[.bool c.ref, .int .i64 c.num] 113)) 2 (.slice (some ⟨w.heap.size, 0, none⟩) 1 1) 1 [.bool c.ref, .int .i64 c.num] := src_block (heap_alloc_new _ _) (by simp) (by simp);obtain ⟨v3, w3, happ, hrow3, hC3, hloc3⟩ := run_append_row (P := Tryz.prog) 65 65 113 i0 _ 2 16 uWords hi hz0 hz1 hz2 rfl (by decide) h1 hsrc (by simp [Value.oneCell']) (by unfold maxLen; omega) (by omega);obtain ⟨a3, cap3, rfl, -⟩ := hrow3.slice;have hCa : Chg (fun b => rowBlk v = some b) w (w.alloc (.cells #[.bool c.ref, .int .i64 c.num] 113)) := (Chg.refl _ _).alloc _;refine ⟨a3, cap3, w3, happ, ?_, hCa.trans hC3 (fun _ _ h => h), ?_⟩
 · have e : wdCells (xs ++ [c]) = wdCells xs ++ [.bool c.ref, .int .i64 c.num] := by simp [wdCells, Wd.cells]
   rw [e, List.length_append, List.length_singleton];exact hrow3
 · intro b hb;rcases hloc3 b hb with h2 | h2
   · exact .inl h2
   · simp at h2; exact .inr (by omega)
structure CellsAt (w : World) (a : Option Addr) (n : Nat) (cs : List Wd) : Prop where
 len : cs.length = n
 cell : ∀ j c, cs[j]? = some c → ∃ x : Addr, a = some x ∧ w.cell? (x.add (j * 2)) = some (.bool c.ref) ∧ w.cell? (x.add (j * 2 + 1)) = some (.int .i64 c.num)
theorem CellsAt.of {n : Nat} (len : cs.length = n) (cell : ∀ j c, cs[j]? = some c → ∃ b o, a = some ⟨b, o, none⟩ ∧ w.cell? ⟨b, o + j * 2, none⟩ = some (.bool c.ref) ∧ w.cell? ⟨b, o + j * 2 + 1, none⟩ = some (.int .i64 c.num)) : CellsAt w a n cs :=
 ⟨len, fun j c hj => by
  obtain ⟨b, o, h1, h2, h3⟩ := cell j c hj;exact ⟨_, h1, by rw [Addr.add_lit]; exact h2, by rw [Addr.add_lit]; exact h3⟩⟩
theorem cell_chg {F : Nat → Prop} (h : Chg F w w') {a : Addr} (hc : w.cell? a = some v) (hn : ¬ F a.block) : w'.cell? a = some v := by
 have hlt := World.block_lt_of_cell? w a hc;rw [← hc];exact World.cell?_of_block (h.block a.block hlt hn)
theorem CellsAt.chg0 {n : Nat} (h : CellsAt w a n cs) (hC : Chg (fun _ => False) w w') : CellsAt w' a n cs :=
 ⟨h.len, fun j c hj => by
  obtain ⟨x, h1, h2, h3⟩ := h.cell j c hj;exact ⟨x, h1, cell_chg hC h2 (fun h => h), cell_chg hC h3 (fun h => h)⟩⟩
def St.okC (A : St) (c : Wd) : Bool := !c.ref || (A.handles.lookup c.num).isSome
def St.wordC (A : St) (c : Wd) : Wd := (A.inW c).1
theorem inW_ok {c : Wd} (h : A.okC c = true) : (A.inW c).2 = 0 := by
 unfold St.okC at h;unfold St.inW;cases hr : c.ref with
 | false => simp
 | true =>
   rw [hr] at h;cases hl : A.handles.lookup c.num with
   | none => rw [hl] at h; simp at h
   | some n => simp
theorem inW_bad {c : Wd} (h : A.okC c = false) : (A.inW c).2 = 221 := by
 unfold St.okC at h;unfold St.inW;cases hr : c.ref with
 | false => rw [hr] at h; simp at h
 | true =>
   rw [hr] at h;cases hl : A.handles.lookup c.num with
   | none => simp
   | some n => rw [hl] at h; simp at h
structure MkI (w : World) (A : St) (tag : Int) (cs : List Wd) (j : Nat) (v : Value) (wr : World) : Prop where
 row : Row wr 113 2 v (j + 1) (wdCells (⟨false, tag⟩ :: (cs.take j).map A.wordC))
 chg : Chg (fun _ => False) w wr
 new : ∀ b, rowBlk v = some b → w.heap.size ≤ b
 ok : ∀ c ∈ cs.take j, A.okC c = true
 le : j ≤ cs.length
def RoomR (A : St) (n : Int) (A' : St) (r : Bool) : Prop := (A' = A ∧ A.used + n ≤ A.full ∧ r = true) ∨ (A' = A.cleaned ∧ r = decide (A.cleaned.used + n ≤ A.full))
structure Good (k m : Nat) (A : St) : Prop where
 wf : Wf k m A
 rem : RemOk A
 free : FreeOk A
theorem RoomR.good (h : RoomR A n A' r) (hg : Good k m A) : Good k m A' := by
 rcases h with ⟨rfl, _⟩ | ⟨rfl, _⟩
 · exact hg
 · have hs := cleaned_same hg.wf;exact ⟨hg.wf.swept.settled, (settled_allOld hg.wf.swept.fit).remOk, hg.free.congr hs.2.2.2.2.2.1 hs.2.2.2.2.2.2.1 hs.2.2.1⟩
theorem RoomR.same (h : RoomR A n A' r) (hg : Good k m A) : A'.names = A.names ∧ A'.young = A.young ∧ A'.handles = A.handles ∧ A'.reg = A.reg ∧ A'.queue = A.queue ∧ A'.free = A.free ∧ A'.next = A.next ∧ A'.full = A.full := by
 rcases h with ⟨rfl, _⟩ | ⟨rfl, _⟩
 · exact ⟨rfl, rfl, rfl, rfl, rfl, rfl, rfl, rfl⟩
 · exact cleaned_same hg.wf
inductive AddSpec (A : St) (table : Bool) (ws : List Wd) : Int → Int → St → Prop
 | full {Ar : St} : RoomR A ws.length Ar false → AddSpec A table ws 0 220 Ar
 | made {Ar A1 A2 : St} {n : Int} : RoomR A ws.length Ar true → MinoredOr Ar A1 → Granted (A1.added table (decide (Ar.young < (A1.memN.length : Int) + ws.length)) ws) Ar.names n A2 → AddSpec A table ws n 0 A2
inductive MakeSpec (A : St) (tag : Int) (cs : List Wd) : Int → Int → St → Prop
 | bad : (∃ c ∈ cs, A.okC c = false) → MakeSpec A tag cs 0 221 A
 | arg : (∀ c ∈ cs, A.okC c = true) → (tag < 0 ∨ 200 < cs.length) → MakeSpec A tag cs 0 1 A
 | add {r e : Int} {A' : St} : (∀ c ∈ cs, A.okC c = true) → 0 ≤ tag → cs.length ≤ 200 → AddSpec A false (⟨false, tag⟩ :: cs.map A.wordC) r e A' → MakeSpec A tag cs r e A'
theorem make_any (hR : Rep w g A) (hg : Good k m A) (hm' : A.memT.length + 1001 * k ≤ 100000000000) (hh : A.handles.length < 9000) (hnm : A.names ≤ 1000000 ∧ 0 ≤ A.names) (hfull : A.full ≤ 60000)
 (tag : Int) {fa : Option Addr} {n fc : Nat} (hcs : CellsAt w fa n cs) (hn : n ≤ 8796093021952) :
 Calls Tryz.prog 23 #[.pointer (some ⟨g.hb, 0, none⟩), .int .i64 tag, .slice fa n fc] w fun e w' => ∃ r er, e = .returned (.tuple #[.int .i64 r, .int .i64 er]) ∧
  Hid (∃ A' g', MakeSpec A tag cs r er A' ∧ Rep w' g' A' ∧ Step w g A w' g') := by
 refine ret_k fun K hK => ?_;have HK := Lib.hid hK;have hob : ∀ n name, A.handles.lookup n = some name → (A.objs.lookup name).isSome := fun n name hl => hg.wf.roots name (mem_roots.2 (.inr ⟨_, look_mem hl, rfl⟩));have hlen := hcs.len;have hI0 : MkI w A tag cs 0 (.slice (some ⟨w.heap.size, 0, none⟩) 1 1) (w.alloc (.cells #[.bool false, .int .i64 tag] 113)) := by
  refine ⟨?_, (Chg.refl _ _).alloc _, ?_, by simp, Nat.zero_le _⟩
  · exact ⟨by simp [wdCells, Wd.cells], by unfold maxLen; omega, .inr ⟨w.heap.size, 0, _, rfl, heap_alloc_new _ _, by omega, by unfold maxLen; omega, by simp, by simp [wdCells, Wd.cells]⟩⟩
  · intro b hb; simp [rowBlk] at hb; omega
 have HRound : Hid (∀ (j : Nat) (cr : Bool) (cn : Int) (v : Value) (wr : World), j < n → cs[j]? = some ⟨cr, cn⟩ → MkI w A tag cs j v wr → ∃ (xr : Bool) (xn er : Int), (er = 0 ∨ er = 221) ∧ ∀ X, Calls Tryz.prog 59 #[.pointer (some ⟨g.hb, 0, none⟩), .agg #[.bool cr, .int .i64 cn]] (wr.alloc X) fun e w5 =>
  e = .returned (.tuple #[.agg #[.bool xr, .int .i64 xn], .int .i64 er]) ∧
  Hid (er = 221 → ∀ Y, Post K (.returned (.tuple #[.int .i64 0, .int .i64 221])) (w5.alloc Y)) ∧
  ∃ a cap w6, (Builtin.append_ #[65, 65] 65 #[v, .slice (some ⟨w5.heap.size + 1, 0, none⟩) 1 1]).run Tryz.prog ((w5.alloc (.cells #[.bool xr, .int .i64 xn] 113)).alloc (.cells #[.bool xr, .int .i64 xn] 113)) = .ok (.slice a (j + 2) cap) w6 ∧
    Hid (er = 0 → MkI w A tag cs (j + 1) (.slice a (j + 2) cap) w6)) := by
  intro j cr cn v wr hj hcj hI;refine ⟨(A.wordC ⟨cr, cn⟩).ref, (A.wordC ⟨cr, cn⟩).num, (A.inW ⟨cr, cn⟩).2, ?_, ?_⟩
  · cases ho : A.okC ⟨cr, cn⟩ with
    | true => exact .inl (inW_ok ho)
    | false => exact .inr (inW_bad ho)
  · intro X;have hin := in_any ((hR.chg0 hI.chg).alloc X) ⟨cr, cn⟩ hob;refine hin.mono ?_;rintro e w5 ⟨rfl, hC⟩;have hC5 : Chg (fun _ => False) w w5 := (hI.chg.alloc X).trans hC (fun _ _ h => h);refine ⟨rfl, fun he Y => ?_, ?_⟩
    · refine HK.out _ _ ⟨0, 221, rfl, A, g, .bad ⟨_, List.mem_of_getElem? hcj, ?_⟩, hR.chg0 (hC5.alloc Y), Step.chg0 g A (hC5.alloc Y)⟩;cases ho : A.okC ⟨cr, cn⟩ with
      | true => have := inW_ok ho; rw [this] at he; cases he
      | false => rfl
    · have hl2 : (⟨false, tag⟩ :: (cs.take j).map A.wordC : List Wd).length = j + 1 := by simp; omega
      have hrow : Row (w5.alloc (.cells #[.bool (A.wordC ⟨cr, cn⟩).ref, .int .i64 (A.wordC ⟨cr, cn⟩).num] 113)) 113 2 v (⟨false, tag⟩ :: (cs.take j).map A.wordC : List Wd).length (wdCells (⟨false, tag⟩ :: (cs.take j).map A.wordC)) := by
       rw [hl2];refine hI.row.same fun b hb => ?_;have hlt := hI.row.lt hb;have hc1 := hC.block b (by simp; omega) (fun h => h);rw [heap_alloc, if_neg (by have := hC.size; simp at this; omega), hc1, heap_alloc, if_neg (by omega)]
      obtain ⟨a, cap, w6, happ, hr6, hC6, hloc⟩ := appW hrow (A.wordC ⟨cr, cn⟩) (by rw [hl2]; omega);rw [hl2] at happ hr6 hloc;have hsz : (w5.alloc (.cells #[.bool (A.wordC ⟨cr, cn⟩).ref, .int .i64 (A.wordC ⟨cr, cn⟩).num] 113)).heap.size = w5.heap.size + 1 := by simp
      rw [hsz] at happ hloc;refine ⟨a, cap, w6, happ, fun he => ?_⟩;have ho : A.okC ⟨cr, cn⟩ = true := by
       cases ho : A.okC ⟨cr, cn⟩ with
       | true => rfl
       | false => have := inW_bad ho; rw [this] at he; cases he
      have htk : cs.take (j + 1) = cs.take j ++ [⟨cr, cn⟩] := by
       obtain ⟨hjl, he⟩ := List.getElem?_eq_some_iff.1 hcj;rw [List.take_succ_eq_append_getElem hjl, he]
      refine ⟨?_, ?_, ?_, ?_, by omega⟩
      · have e1 : (⟨false, tag⟩ :: (cs.take (j + 1)).map A.wordC : List Wd) = ⟨false, tag⟩ :: (cs.take j).map A.wordC ++ [A.wordC ⟨cr, cn⟩] := by rw [htk]; simp
        rw [e1];have e2 : (⟨false, tag⟩ :: (cs.take j).map A.wordC ++ [A.wordC ⟨cr, cn⟩] : List Wd).length = j + 1 + 1 := by simp; omega
        rw [e2] at hr6;exact hr6
      · exact (hC5.alloc _).trans hC6 (fun b hb hv => by have := hI.new b hv; omega)
      · intro b hb;rcases hloc b hb with h1 | h1
        · exact hI.new b h1
        · have := hC5.size; omega
      · intro c hc;rw [htk] at hc;rcases List.mem_append.1 hc with hc | hc
        · exact hI.ok c hc
        · simp at hc; rw [hc]; exact ho
 have HEnd : Hid (∀ (v : Value) (wr : World), MkI w A tag cs n v wr → ∃ lb c, v = .slice (some ⟨lb, 0, none⟩) (n + 1) (c + 1) ∧ Hid ((tag < 0 ∨ 200 < n) → Post K (.returned (.tuple #[.int .i64 0, .int .i64 1])) wr) ∧ Hid (0 ≤ tag → n ≤ 200 →
  Calls Tryz.prog 60 #[.pointer (some ⟨g.hb, 0, none⟩), .int .i64 1] wr (fun e w' => e = .returned (.bool true) ∧ wr = w') ∧
  Calls Tryz.prog 61 #[.pointer (some ⟨g.hb, 0, none⟩), .int .i64 (n + 1)] wr (fun e w6 => ∃ r, e = .returned (.bool r) ∧ Hid (r = false → Post K (.returned (.tuple #[.int .i64 0, .int .i64 220])) w6) ∧
   Hid (r = true → Calls Tryz.prog 62 #[.pointer (some ⟨g.hb, 0, none⟩), .pointer (some ⟨w6.heap.size, 0, none⟩), .slice (some ⟨lb, 0, none⟩) (n + 1) (c + 1)] (w6.alloc (.cells #[.bool false, .int .i64 n, .bool false, .int .i64 0, .slice none 0 0] 110)) fun e w7 => ∃ q, e = .returned (.int .i64 q) ∧ Hid (Post K (.returned (.tuple #[.int .i64 q, .int .i64 0])) w7))))) := by
  intro v wr hI;obtain ⟨a, cap, hv, hle, _, hcase⟩ := hI.row.slice;obtain ⟨lb, rfl, hb⟩ : ∃ b, a = some ⟨b, 0, none⟩ ∧ rowBlk v = some b := by
   rcases hcase with h | h
   · omega
   · exact h
  obtain ⟨c, rfl⟩ : ∃ c, cap = c + 1 := ⟨cap - 1, by omega⟩;have hall : ∀ c ∈ cs, A.okC c = true := by have := hI.ok; rwa [List.take_of_length_le (by omega)] at this
  have hRr := hR.chg0 hI.chg;have hrow := hI.row;rw [List.take_of_length_le (by omega), hv] at hrow;have hnew := hI.new lb hb;refine ⟨lb, c, hv, fun h => HK.out _ _ ⟨0, 1, rfl, A, g, .arg hall (by rw [hlen]; exact h), hRr, Step.chg0 g A hI.chg⟩, fun ht hn2 => ⟨spare_any hRr 1 (by omega) (by omega), ?_⟩⟩;refine (room_any hRr hg.wf ((n : Int) + 1) (by omega) hfull).mono ?_;rintro e w6 ⟨r, rfl, hZ⟩;obtain ⟨Ar, gr, hroom, hR6, hS6⟩ := hZ.out;have hwl : (⟨false, tag⟩ :: cs.map A.wordC : List Wd).length = n + 1 := by simp [hlen]
  have hroom' : RoomR A ((⟨false, tag⟩ :: cs.map A.wordC : List Wd).length : Nat) Ar r := by
   rw [hwl];exact hroom
  have hS : Step w g A w6 gr := (Step.chg0 g A hI.chg).trans hS6 (Int.le_refl _);have hsame := hroom'.same hg;have hgood := hroom'.good hg;refine ⟨r, rfl, fun hr => ?_, fun hr => ?_⟩
  · rw [hr] at hroom';exact HK.out _ _ ⟨0, 220, rfl, Ar, gr, .add hall ht (by omega) (.full hroom'), hR6, hS⟩
  · rw [hr] at hroom';obtain ⟨cur, hc⟩ := hrow.elem (g := lb) (by simp [rowBlk]);have hat := hS6.at hc (hR.none_of_ge hnew);have hlt6 := lt_of_block hat.1;have hmT : Ar.memT.length + 1001 * k ≤ 100000000000 := by
     rcases hroom with ⟨rfl, _⟩ | ⟨rfl, _⟩
     · exact hm'
     · have h1 := (settled_I hg.wf.swept.fit).memT;rw [sorted_length] at h1;have h2 := hg.wf.swept.many;have h3 := hg.wf.hk;have h4 : A.cleaned.memT.length ≤ 1001 * A.swept.objs.length := h1;omega
    have hadd := add_any (m' := 100000000000) (b := w6.heap.size) (table := false) (ws := ⟨false, tag⟩ :: cs.map A.wordC) (lb := lb) (c := c) (hR6.alloc (.cells #[.bool false, .int .i64 n, .bool false, .int .i64 0, .slice none 0 0] 110))
     (hS.trans (Step.alloc w6 gr Ar _) (by rw [hsame.1]; exact Int.le_refl _)) hgood.wf hgood.rem hgood.free (by rw [hsame.1]; exact Int.le_refl _) (Nat.le_refl _) hmT (by have := hg.wf.hk; omega) (by rw [hsame.2.2.1]; exact hh) (by rw [hsame.1]; exact hnm)
     (by rw [hwl]; omega) (by rw [hwl]; exact heap_alloc_new _ _) (hR6.none_of_ge (Nat.le_refl _)) hS.chg.size
     (by
      rw [hwl];refine hrow.same fun x hx => ?_;simp only [rowBlk, Option.some.injEq] at hx;rw [← hx, heap_alloc, if_neg (by omega), hat.1, hc]) hat.2 (by omega)
    have hgb : gr.hb = g.hb := hS6.hb;rw [hgb, hwl] at hadd;refine hadd.mono ?_;rintro e w7 ⟨q, rfl, hZ7⟩;obtain ⟨A1, old, A2, g7, hM, hold, hG, hR7, hS7⟩ := hZ7.out;refine ⟨q, rfl, HK.out _ _ ⟨q, 0, rfl, A2, g7, .add hall ht (by omega) (.made hroom' hM ?_), hR7, hS7⟩⟩;rw [hwl, ← hold];exact hG
 have HCs := Lib.hid hcs;have HI0 := Lib.hid hI0;have HLen := Lib.hid hlen;clear hI0 hcs hR hlen hob hK hg hm' hh hnm hfull HK
 go_enter Tryz.func23, Tryz.ntmps23
 go_wp2
 go_loopw [8, 20] (fun s8 s20 wr => ∃ (v : Value) (j : Nat), s8 = v ∧ s20 = .int .i64 j ∧ MkI w A tag cs j v wr) (fun _ s20 _ => n - (intOf s20).toNat)
 case atStart => exact ⟨_, 0, rfl, rfl, HI0.out⟩
 case round =>
  obtain ⟨v, j, rfl, rfl, hI⟩ := hrel;clear HI0;by_cases hlt : j < n
  · obtain ⟨⟨cr, cn⟩, hcl⟩ : ∃ c, cs[j]? = some c := ⟨_, List.getElem?_eq_getElem (by rw [HLen.out]; exact hlt)⟩;obtain ⟨fx, rfl, k1, k2⟩ := (HCs.out.chg0 hI.chg).cell j _ hcl;have k3 : wr.cell? ⟨(fx.add (j * 2)).block, (fx.add (j * 2)).off + 1, none⟩ = some (.int .i64 cn) := by
     show wr.cell? ((fx.add (j * 2)).add 1) = _;rw [Addr.add_add]; exact k2
    obtain ⟨xr, xn, er, her, hr⟩ := HRound.out j cr cn _ wr hlt hcl hI;have HR := Lib.hid hr;clear hcl hI hr HRound HEnd HCs HLen;rcases her with rfl | rfl
    · go_wp2_with (first | (go_at_call 59; refine (HR.out _).mono ?_; rintro e w5 ⟨rfl, HP, a, cap, w6, happ, HI6⟩) | (at_builtin; go_must (refine wpList_val rfl (exec_append rfl (by exact happ)) ?_)))
      go_roundw
      case rel => exact ⟨_, j + 1, rfl, by go_num, HI6.out trivial⟩
      case measure => simp [intOf]; omega
    · go_wp2_with (go_at_call 59; refine (HR.out _).mono ?_; rintro e w5 ⟨rfl, HP, a, cap, w6, happ, HI6⟩)
      go_ret2
      exact HP.out trivial _
  · obtain rfl : j = n := by have := hI.le; have := HLen.out; omega
    obtain ⟨lb, c, rfl, HA, HB⟩ := HEnd.out _ wr hI;clear hI HRound HEnd HCs HLen;by_cases ht : tag < 0
    · have HP := Lib.hid (HA.out (.inl ht));clear HA HB;go_wp2
      go_ret2
      exact HP.out
    · by_cases hn2 : 200 < j
      · have HP := Lib.hid (HA.out (.inr hn2));have hn3 : (200 : Int) < (j : Int) := by omega
        have ht0 : 0 ≤ tag := by omega
        clear HA HB ht hn2;go_wp2
        go_ret2
        exact HP.out
      · obtain ⟨hSp, hRm⟩ := HB.out (by omega) (by omega);have HSp := Lib.hid hSp;have HRm := Lib.hid hRm;have hn3 : ¬ ((200 : Int) < (j : Int)) := by omega
        clear HA HB hSp hRm
        go_wp2_with fail
        refine HSp.out.mono ?_;rintro e w5 ⟨rfl, rfl⟩
        go_wp2_with fail
        refine HRm.out.mono ?_;rintro e w6 ⟨r, rfl, HF, HAdd⟩;clear HSp HRm;cases r
        · have HP := Lib.hid (HF.out rfl);clear HF HAdd;go_wp2
          go_ret2
          exact HP.out
        · have HAd := Lib.hid (HAdd.out rfl);clear HF HAdd
          go_wp2_with fail
          refine HAd.out.mono ?_;rintro e w7 ⟨q, rfl, hZ⟩;go_wp2
          go_ret2
          exact hZ.out
theorem table_any (hR : Rep w g A) (hg : Good k m A) (hm' : A.memT.length + 1001 * k ≤ 100000000000) (hh : A.handles.length < 9000) (hnm : A.names ≤ 1000000 ∧ 0 ≤ A.names) (hfull : A.full ≤ 60000) :
 Calls Tryz.prog 24 #[.pointer (some ⟨g.hb, 0, none⟩)] w fun e w' => ∃ r er, e = .returned (.tuple #[.int .i64 r, .int .i64 er]) ∧
  Hid (∃ A' g', AddSpec A true [⟨false, 0⟩] r er A' ∧ Rep w' g' A' ∧ Step w g A w' g') := by
 refine ret_k fun K hK => ?_;have HK := Lib.hid hK;have HSp := Lib.hid (spare_any hR 1 (by omega) (by omega));have HRm : Hid (Calls Tryz.prog 61 #[.pointer (some ⟨g.hb, 0, none⟩), .int .i64 1] w (fun e w6 => ∃ r, e = .returned (.bool r) ∧ Hid (r = false → Post K (.returned (.tuple #[.int .i64 0, .int .i64 220])) w6) ∧
  Hid (r = true → Calls Tryz.prog 62 #[.pointer (some ⟨g.hb, 0, none⟩), .pointer (some ⟨w6.heap.size, 0, none⟩), .slice (some ⟨w6.heap.size + 1, 0, none⟩) 1 1] ((w6.alloc (.cells #[.bool true, .int .i64 0, .bool false, .int .i64 0, .slice none 0 0] 110)).alloc (.cells #[.bool false, .int .i64 0] 113)) fun e w7 => ∃ q, e = .returned (.int .i64 q) ∧ Hid (Post K (.returned (.tuple #[.int .i64 q, .int .i64 0])) w7)))) := by
  refine (room_any hR hg.wf 1 (by omega) hfull).mono ?_;rintro e w6 ⟨r, rfl, hZ⟩;obtain ⟨Ar, gr, hroom, hR6, hS⟩ := hZ.out;have hroom' : RoomR A (([⟨false, 0⟩] : List Wd).length : Nat) Ar r := hroom;have hsame := hroom'.same hg;have hgood := hroom'.good hg;refine ⟨r, rfl, fun hr => ?_, fun hr => ?_⟩
  · rw [hr] at hroom';exact HK.out _ _ ⟨0, 220, rfl, Ar, gr, .full hroom', hR6, hS⟩
  · rw [hr] at hroom';have hmT : Ar.memT.length + 1001 * k ≤ 100000000000 := by
     rcases hroom with ⟨rfl, _⟩ | ⟨rfl, _⟩
     · exact hm'
     · have h1 := (settled_I hg.wf.swept.fit).memT;rw [sorted_length] at h1;have h2 := hg.wf.swept.many;have h3 := hg.wf.hk;have h4 : A.cleaned.memT.length ≤ 1001 * A.swept.objs.length := h1;omega
    obtain ⟨W, hW⟩ : ∃ W, W = (w6.alloc (.cells #[.bool true, .int .i64 0, .bool false, .int .i64 0, .slice none 0 0] 110)).alloc (.cells #[.bool false, .int .i64 0] 113) := ⟨_, rfl⟩;have hCW : Chg (fun _ => False) w6 W := by rw [hW]; exact ((Chg.refl _ _).alloc _).alloc _
    have hbw : W.heap[w6.heap.size + 1]? = some (.cells #[.bool false, .int .i64 0] 113 (0, 0)) := by
     rw [hW];have := heap_alloc_new (w6.alloc (.cells #[.bool true, .int .i64 0, .bool false, .int .i64 0, .slice none 0 0] 110)) (.cells #[.bool false, .int .i64 0] 113);simpa using this
    have hadd := add_any (m' := 100000000000) (b := w6.heap.size) (table := true) (ws := [⟨false, 0⟩]) (lb := w6.heap.size + 1) (c := 0) (hR6.chg0 hCW)
     (hS.trans (Step.chg0 gr Ar hCW) (by rw [hsame.1]; exact Int.le_refl _)) hgood.wf hgood.rem hgood.free (by rw [hsame.1]; exact Int.le_refl _) (Nat.le_refl _) hmT (by have := hg.wf.hk; omega) (by rw [hsame.2.2.1]; exact hh) (by rw [hsame.1]; exact hnm)
     (by simp) (by rw [hW]; exact heap_alloc_old (heap_alloc_new _ _) _) (hR6.none_of_ge (Nat.le_refl _)) hS.chg.size
     ⟨by simp [wdCells, Wd.cells], by unfold maxLen; simp, .inr ⟨w6.heap.size + 1, 0, _, rfl, hbw, by simp, by unfold maxLen; omega, by simp, by simp [wdCells, Wd.cells]⟩⟩ (hR6.none_of_ge (by omega)) (by omega)
    have hgb : gr.hb = g.hb := hS.hb;rw [hgb, hW] at hadd;refine hadd.mono ?_;rintro e w7 ⟨q, rfl, hZ7⟩;obtain ⟨A1, old, A2, g7, hM, hold, hG, hR7, hS7⟩ := hZ7.out;refine ⟨q, rfl, HK.out _ _ ⟨q, 0, rfl, A2, g7, .made hroom' hM ?_, hR7, hS7⟩⟩;rw [← hold];exact hG
 clear hK HK hR hg hm' hh hnm hfull
 go_enter Tryz.func24, Tryz.ntmps24
 go_wp2_with fail
 refine HSp.out.mono ?_;rintro e w5 ⟨rfl, rfl⟩
 go_wp2_with fail
 refine HRm.out.mono ?_;rintro e w6 ⟨r, rfl, HF, HAdd⟩;clear HSp HRm;cases r
 · have HP := Lib.hid (HF.out rfl);clear HF HAdd;go_wp2
   go_ret2
   exact HP.out
 · have HAd := Lib.hid (HAdd.out rfl);clear HF HAdd
   go_wp2_with fail
   refine HAd.out.mono ?_;rintro e w7 ⟨q, rfl, hZ⟩;go_wp2
   go_ret2
   exact hZ.out
def St.fresh (young old : Int) : St := { objs := [], names := 0, memN := [], memT := [], young := young, handles := [], reg := [], queue := [], rem := [], free := [], next := 0, full := old }
def newW (w : World) (young old : Int) : World := (((((w.alloc (.cells #[] 3)).alloc (.cells #[.slice (some ⟨w.heap.size, 0, none⟩) 0 0] 63)).alloc
 (.cells #[.map (some (w.heap.size + 1 + 1 + 1)), .int .i64 0, .slice none 0 0, .slice none 0 0, .int .i64 young, .map (some (w.heap.size + 1 + 1 + 1 + 1)), .slice none 0 0, .slice none 0 0, .map (some (w.heap.size + 1 + 1 + 1 + 1 + 1)),
  .iface 62 (.pointer (some ⟨w.heap.size + 1, 0, none⟩)), .int .i64 0, .int .i64 old] 74)).alloc (.map #[] 0)).alloc (.map #[] 0)).alloc (.map #[] 0)
def newG (s : Nat) : Gh := { hb := s + 2, mo := s + 3, mh := s + 4, mr := s + 5, lb := s + 1, vN := .slice none 0 0, vT := .slice none 0 0, vR := .slice none 0 0, vQ := .slice none 0 0, vF := .slice (some ⟨s, 0, none⟩) 0 0, ob := fun _ => 0, vE := fun _ => .slice none 0 0, own := fun b => if b = s + 1 then some .lb else if b = s + 2 then some .hs else if b = s + 3 then some .mo else if b = s + 4 then some .mh else if b = s + 5 then some .mr else none }
theorem newW_chg (w : World) (young old : Int) : Chg (fun _ => False) w (newW w young old) := ((((((Chg.refl _ _).alloc _).alloc _).alloc _).alloc _).alloc _).alloc _
theorem newW_size (w : World) (young old : Int) : (newW w young old).heap.size = w.heap.size + 6 := by simp [newW]
theorem rowAt_nil {r : Role} {e : TypeId} {sz : Nat} : RowAt w g r e sz (.slice none 0 0) 0 [] := ⟨Row.nil _ _ _, fun b hb => by simp [rowBlk] at hb⟩
theorem newRep (w : World) (young old : Int) : Rep (newW w young old) (newG w.heap.size) (St.fresh young old) := by
 have at_ : ∀ (w : World) (x : Obj) (k : Nat), k = w.heap.size → (w.alloc x).heap[k]? = some x := fun w x k h => by rw [h]; exact heap_alloc_new w x
 have at2 : ∀ (w : World) (x : Obj) (k : Nat), k < w.heap.size → (w.alloc x).heap[k]? = w.heap[k]? := fun w x k h => by rw [heap_alloc, if_neg (by omega)]
 have hm : ∀ b, (newW w young old).heap[b]? = some (.map #[] 0) → MapAt (newW w young old) b [] := fun b hb => ⟨#[], 0, hb, by simp, by simp, by simp, by simp⟩;have e3 : (newW w young old).heap[w.heap.size + 3]? = some (.map #[] 0) := by
  unfold newW;rw [at2 _ _ _ (by simp), at2 _ _ _ (by simp), at_ _ _ _ (by simp)]
 have e4 : (newW w young old).heap[w.heap.size + 4]? = some (.map #[] 0) := by
  unfold newW;rw [at2 _ _ _ (by simp), at_ _ _ _ (by simp)]
 have e5 : (newW w young old).heap[w.heap.size + 5]? = some (.map #[] 0) := by
  unfold newW;rw [at_ _ _ _ (by simp)]
 have e1 : (newW w young old).heap[w.heap.size + 1]? = some (.cells #[.slice (some ⟨w.heap.size, 0, none⟩) 0 0] 63 (0, 0)) := by
  unfold newW;rw [at2 _ _ _ (by simp), at2 _ _ _ (by simp), at2 _ _ _ (by simp), at2 _ _ _ (by simp), at_ _ _ _ (by simp)]
 refine { lt := ?_, ohs := by simp [newG], omo := by simp [newG], omh := by simp [newG], omr := by simp [newG], olb := by simp [newG], hs := ?_, mo := hm _ e3, mh := hm _ e4, mr := hm _ e5, lb := e1, rF := ?_, rN := rowAt_nil, rT := rowAt_nil, rR := rowAt_nil, rQ := rowAt_nil, obj := fun n o h => by cases h }
 · intro b hb;rw [newW_size];simp only [newG] at hb
   split at hb
   · omega
   · split at hb
     · omega
     · split at hb
       · omega
       · split at hb
         · omega
         · split at hb
           · omega
           · cases hb
 · show (newW w young old).heap[w.heap.size + 2]? = _;unfold newW;rw [at2 _ _ _ (by simp), at2 _ _ _ (by simp), at2 _ _ _ (by simp), at_ _ _ _ (by simp)];rfl
 · refine ⟨⟨rfl, by unfold maxLen; simp [St.fresh], .inl ⟨rfl, _, rfl⟩⟩, fun b hb => ?_⟩;simp [newG, rowBlk] at hb
theorem fresh_good (young old : Int) : Good 9000 100000000000 (St.fresh young old) := by
 refine ⟨⟨Nat.le_refl _, Nat.le_refl _, by omega, ⟨fun n o h => (by cases h), fun n o h => (by cases h), fun n o h => (by cases h), by simp [St.fresh], by simp [St.fresh], by simp [St.fresh], by simp [St.fresh]⟩, fun n o h => (by cases h), ?_, ?_, fun n o h => (by cases h), by simp [St.fresh], by simp [St.fresh], by simp [St.fresh], by simp [St.fresh], fun n o h => (by cases h)⟩, ⟨?_, fun n o h => (by cases h)⟩, ⟨?_, ?_, ?_, ?_, ?_, ?_⟩⟩
 · intro n hn; simp [St.roots, St.fresh] at hn
 · intro n hn; simp [St.fresh] at hn
 · intro n hn; simp [St.fresh] at hn
 · intro i x y _ hx; simp [St.fresh] at hx
 · simp [St.fresh]
 · intro n; simp [St.fresh]; try omega
 · intro n hn; simp [St.fresh] at hn
 · exact Int.le_refl _
 · show (0 : Int) ≤ 9000; omega
theorem new_any (w : World) (young old : Int) (h : 4 ≤ young ∧ young ≤ 60000 ∧ 4 ≤ old ∧ old ≤ 60000) :
 Calls Tryz.prog 9 #[.int .i64 young, .int .i64 old] w fun e w' => e = .returned (.tuple #[.pointer (some ⟨w.heap.size + 2, 0, none⟩), .int .i64 0]) ∧ w' = newW w young old := by
 have hmm := @run_makeMap Tryz.prog;obtain ⟨h1, h2, h3, h4⟩ := h;have k1 : ¬ young < 4 := by omega
 have k2 : ¬ 60000 < young := by omega
 have k3 : ¬ old < 4 := by omega
 have k4 : ¬ 60000 < old := by omega
 go_enter Tryz.func9, Tryz.ntmps9
 go_wp2
 go_ret2
 exact ⟨rfl, rfl⟩
theorem plain_none (hR : Rep w g A) (hl : A.handles.lookup n = none) :
 Calls Tryz.prog 67 #[.pointer (some ⟨g.hb, 0, none⟩), .int .i64 n] w fun e w' => e = .returned (.tuple #[.pointer none, .int .i64 0, .int .i64 221]) ∧ w = w' := by
 have HO := Lib.hid (of_none hR hl);clear hR hl
 go_enter Tryz.func67, Tryz.ntmps67
 go_wp2_with (go_at_call 56; refine HO.out.mono ?_; rintro e w1 ⟨rfl, rfl⟩)
 go_ret3
 exact ⟨rfl, rfl⟩
theorem plain_some (hR : Rep w g A) (hl : A.handles.lookup n = some name) (ho : A.objs.lookup name = some o) :
 Calls Tryz.prog 67 #[.pointer (some ⟨g.hb, 0, none⟩), .int .i64 n] w fun e w' => e = .returned (.tuple #[.pointer (some ⟨g.ob name, 0, none⟩), .int .i64 name, .int .i64 (if o.table then 223 else 0)]) ∧ w = w' := by
 have HO := Lib.hid (of_some hR hl ho);have c0 : w.cell? ⟨g.ob name, 0, none⟩ = some (.bool o.table) := (hR.obj name o (mem_of_lookup ho)).c 0;clear hR hl ho;generalize o.table = t at *;cases t
 all_goals
  go_enter Tryz.func67, Tryz.ntmps67
  go_wp2_with (go_at_call 56; refine HO.out.mono ?_; rintro e w1 ⟨rfl, rfl⟩)
  go_ret3
  exact ⟨rfl, rfl⟩
theorem weak_none (hR : Rep w g A) (hl : A.handles.lookup n = none) :
 Calls Tryz.prog 70 #[.pointer (some ⟨g.hb, 0, none⟩), .int .i64 n] w fun e w' => e = .returned (.tuple #[.pointer none, .int .i64 0, .int .i64 221]) ∧ w = w' := by
 have HO := Lib.hid (of_none hR hl);clear hR hl
 go_enter Tryz.func70, Tryz.ntmps70
 go_wp2_with (go_at_call 56; refine HO.out.mono ?_; rintro e w1 ⟨rfl, rfl⟩)
 go_ret3
 exact ⟨rfl, rfl⟩
theorem weak_some (hR : Rep w g A) (hl : A.handles.lookup n = some name) (ho : A.objs.lookup name = some o) :
 Calls Tryz.prog 70 #[.pointer (some ⟨g.hb, 0, none⟩), .int .i64 n] w fun e w' => e = .returned (.tuple #[.pointer (some ⟨g.ob name, 0, none⟩), .int .i64 name, .int .i64 (if o.table then 0 else 223)]) ∧ w = w' := by
 have HO := Lib.hid (of_some hR hl ho);have c0 : w.cell? ⟨g.ob name, 0, none⟩ = some (.bool o.table) := (hR.obj name o (mem_of_lookup ho)).c 0;clear hR hl ho;generalize o.table = t at *;cases t
 all_goals
  go_enter Tryz.func70, Tryz.ntmps70
  go_wp2_with (go_at_call 56; refine HO.out.mono ?_; rintro e w1 ⟨rfl, rfl⟩)
  go_ret3
  exact ⟨rfl, rfl⟩
theorem tag_err (her : er = 221 ∨ er = 223) (n : Int) 
 (hp : Calls Tryz.prog 67 #[.pointer (some ⟨g.hb, 0, none⟩), .int .i64 n] w fun e w' => e = .returned (.tuple #[v, .int .i64 name, .int .i64 er]) ∧ w = w') :
 Calls Tryz.prog 47 #[.pointer (some ⟨g.hb, 0, none⟩), .int .i64 n] w fun e w' => e = .returned (.tuple #[.int .i64 0, .int .i64 0, .int .i64 er]) ∧ w = w' := by
 have HO := Lib.hid hp;clear hp;rcases her with rfl | rfl
 all_goals
  go_enter Tryz.func47, Tryz.ntmps47
  go_wp2_with (go_at_call 67; refine HO.out.mono ?_; rintro e w1 ⟨rfl, rfl⟩)
  go_ret3
  exact ⟨rfl, rfl⟩
theorem Rep.memCell (hR : Rep w g A) (old : Bool) (hx : (A.mem old)[k]? = some x) :
 ∃ b c, g.vM old = .slice (some ⟨b, 0, none⟩) (A.mem old).length c ∧ rowBlk (g.vM old) = some b ∧ w.cell? ⟨b, k * 2, none⟩ = some (.bool x.ref) ∧ w.cell? ⟨b, k * 2 + 1, none⟩ = some (.int .i64 x.num) := by
 have hrow := (hR.rM old).row;obtain ⟨hk, he⟩ := List.getElem?_eq_some_iff.1 hx;obtain ⟨a, cap, hv, hle, hcm, hcase⟩ := hrow.slice;rw [hv] at hrow;obtain ⟨b, rfl, hb', hc⟩ := hrow.cells (by omega);have := wdCells_get (A.mem old) k hk;rw [he] at this;exact ⟨b, cap, hv, by rw [hv]; exact hb', hc _ _ this.1, hc _ _ this.2⟩
theorem tag_some (hR : Rep w g A) (hl : A.handles.lookup n = some name) (ho : A.objs.lookup name = some o) (ht : o.table = false) (hx : (A.mem o.old)[o.at_]? = some x) (_hbig : (A.mem o.old).length ≤ 1000000000000) :
 Calls Tryz.prog 47 #[.pointer (some ⟨g.hb, 0, none⟩), .int .i64 n] w fun e w' => e = .returned (.tuple #[.int .i64 x.num, .int .i64 o.size, .int .i64 0]) ∧ ∃ m, w' = w.drewN m := by
 have hp := plain_some hR hl ho;rw [ht] at hp;have HO := Lib.hid hp;have hob := hR.obj name o (mem_of_lookup ho);have c1 : w.cell? ⟨g.ob name, 1, none⟩ = some (.int .i64 o.size) := hob.c 1;have c2 : w.cell? ⟨g.ob name, 2, none⟩ = some (.bool o.old) := hob.c 2;have c3 : w.cell? ⟨g.ob name, 3, none⟩ = some (.int .i64 o.at_) := hob.c 3;have hk := (List.getElem?_eq_some_iff.1 hx).1;obtain ⟨b, c, hv, _, d0, d1⟩ := hR.memCell o.old hx;have cm : w.cell? ⟨g.hb, 2 + (if o.old then 1 else 0), none⟩ = some (.slice (some ⟨b, 0, none⟩) (A.mem o.old).length c) := by
  rw [← hv];cases o.old
  · exact hR.c 2
  · exact hR.c 3
 have hlt : (o.at_ : Int) < ((A.mem o.old).length : Int) := by omega
 clear hp hR hob ho hl ht hx hv;generalize (A.mem o.old).length = len at *;generalize o.size = s at *;generalize o.at_ = p at *;generalize o.old = old at *;cases old
 · have cm' : w.cell? ⟨g.hb, 2, none⟩ = some (.slice (some ⟨b, 0, none⟩) len c) := cm;clear cm
   go_enter Tryz.func47, Tryz.ntmps47
   go_wp2_with (go_at_call 67; refine HO.out.mono ?_; rintro e w1 ⟨rfl, rfl⟩)
   go_quiet ((go_at_call 89; exact q_same (space_any _ false _ c2)))
   go_wp2
   go_ret3
   exact ⟨rfl, _, rfl⟩
 · have cm' : w.cell? ⟨g.hb, 3, none⟩ = some (.slice (some ⟨b, 0, none⟩) len c) := cm;clear cm
   go_enter Tryz.func47, Tryz.ntmps47
   go_wp2_with (go_at_call 67; refine HO.out.mono ?_; rintro e w1 ⟨rfl, rfl⟩)
   go_quiet ((go_at_call 89; exact q_same (space_any _ true _ c2)))
   go_wp2
   go_ret3
   exact ⟨rfl, _, rfl⟩
theorem get_err (her : er = 221 ∨ er = 223) (n i : Int) 
 (hp : ∀ X, Calls Tryz.prog 67 #[.pointer (some ⟨g.hb, 0, none⟩), .int .i64 n] (w.alloc X) fun e w' => e = .returned (.tuple #[v, .int .i64 name, .int .i64 er]) ∧ w.alloc X = w') :
 Calls Tryz.prog 32 #[.pointer (some ⟨g.hb, 0, none⟩), .int .i64 n, .int .i64 i] w fun e w' => e = .returned (.tuple #[.agg #[.bool false, .int .i64 0], .int .i64 er]) ∧ Chg (fun _ => False) w w' := by
 have HO := Lib.hid hp;clear hp;rcases her with rfl | rfl
 · go_enter Tryz.func32, Tryz.ntmps32
   go_wp2_with (go_at_call 67; refine (HO.out _).mono ?_; rintro e w1 ⟨rfl, rfl⟩)
   refine bodyPost_ret (v := .tuple #[.agg #[.bool false, .int .i64 0], .int .i64 221]) (by simp [results, Tryz.results32, go_sem]) rfl ⟨rfl, ?_⟩;exact (Chg.refl _ _).alloc _
 · go_enter Tryz.func32, Tryz.ntmps32
   go_wp2_with (go_at_call 67; refine (HO.out _).mono ?_; rintro e w1 ⟨rfl, rfl⟩)
   refine bodyPost_ret (v := .tuple #[.agg #[.bool false, .int .i64 0], .int .i64 223]) (by simp [results, Tryz.results32, go_sem]) rfl ⟨rfl, ?_⟩;exact (Chg.refl _ _).alloc _
theorem get_index (hR : Rep w g A) (hl : A.handles.lookup n = some name) (ho : A.objs.lookup name = some o) (ht : o.table = false) (i : Int) (hi : i < 0 ∨ (o.size : Int) ≤ i) :
 Calls Tryz.prog 32 #[.pointer (some ⟨g.hb, 0, none⟩), .int .i64 n, .int .i64 i] w fun e w' => e = .returned (.tuple #[.agg #[.bool false, .int .i64 0], .int .i64 222]) ∧ Chg (fun _ => False) w w' := by
 have HO := Lib.hid fun X => by
  have := plain_some (hR.alloc X) hl ho;rw [ht] at this;exact this
 have c1 : ∀ X, (w.alloc X).cell? ⟨g.ob name, 1, none⟩ = some (.int .i64 o.size) := fun X => ((hR.alloc X).obj name o (mem_of_lookup ho)).c 1;clear hR hl ho ht;generalize o.size = s at *;by_cases h0 : i < 0
 · clear hi
   go_enter Tryz.func32, Tryz.ntmps32
   go_wp2_with (go_at_call 67; refine (HO.out _).mono ?_; rintro e w1 ⟨rfl, rfl⟩)
   refine bodyPost_ret (v := .tuple #[.agg #[.bool false, .int .i64 0], .int .i64 222]) (by simp [results, Tryz.results32, go_sem]) rfl ⟨rfl, ?_⟩;exact (Chg.refl _ _).alloc _
 · have h1 : (s : Int) ≤ i := by omega
   clear hi
   go_enter Tryz.func32, Tryz.ntmps32
   go_wp2_with (go_at_call 67; refine (HO.out _).mono ?_; rintro e w1 ⟨rfl, rfl⟩)
   refine bodyPost_ret (v := .tuple #[.agg #[.bool false, .int .i64 0], .int .i64 222]) (by simp [results, Tryz.results32, go_sem]) rfl ⟨rfl, ?_⟩;exact (Chg.refl _ _).alloc _
theorem Chg.store2 {w1 : World} (h : Chg (fun _ => False) w w1) (hb : w.heap.size ≤ b) (x y : Value) : Chg (fun _ => False) w ((w1.setCell ⟨b, 0, none⟩ x).setCell ⟨b, 1, none⟩ y) :=
 (h.setCell (p := ⟨b, 0, none⟩) (fun hlt => absurd hlt (by show ¬ b < w.heap.size; omega)) x).setCell (p := ⟨b, 1, none⟩) (fun hlt => absurd hlt (by show ¬ b < w.heap.size; omega)) y
theorem get_way (hR : Rep w g A) (hl : A.handles.lookup n = some name) (ho : A.objs.lookup name = some o) (ht : o.table = false) (hx : (A.fields o)[i]? = some x)
 (hin : o.at_ + 1 + o.size ≤ (A.mem o.old).length) (hbig : (A.mem o.old).length ≤ 1000000000000) :
 (∀ X, Calls Tryz.prog 67 #[.pointer (some ⟨g.hb, 0, none⟩), .int .i64 n] (w.alloc X) fun e w' => e = .returned (.tuple #[.pointer (some ⟨g.ob name, 0, none⟩), .int .i64 name, .int .i64 0]) ∧ w.alloc X = w') ∧
 (∀ X, Calls Tryz.prog 68 #[.pointer (some ⟨g.hb, 0, none⟩), .pointer (some ⟨g.ob name, 0, none⟩)] (w.alloc X) fun e w1 => ∃ b c k, e = .returned (.slice (some ⟨b, (o.at_ + 1) * 2, none⟩) o.size c) ∧ w1 = (w.alloc X).drewN k ∧
  ((w.alloc X).cell? ⟨b, (o.at_ + 1) * 2 + i * 2, none⟩ = some (.bool x.ref) ∧ (w.alloc X).cell? ⟨b, (o.at_ + 1) * 2 + i * 2 + 1, none⟩ = some (.int .i64 x.num))) ∧
 (∀ X, (w.alloc X).cell? ⟨g.ob name, 1, none⟩ = some (.int .i64 o.size)) ∧ i < o.size := by
 have hfl := mem_fields_length hin;have hik := (List.getElem?_eq_some_iff.1 hx).1;have hie := (List.getElem?_eq_some_iff.1 hx).2;refine ⟨fun X => ?_, fun X => ?_, fun X => ((hR.alloc X).obj name o (mem_of_lookup ho)).c 1, by omega⟩
 · have := plain_some (hR.alloc X) hl ho;rw [ht] at this;exact this
 · refine (fields_any (hR.alloc X) ho hin hbig).mono ?_;rintro e w1 ⟨v, k, rfl, rfl, h⟩;rcases h with ⟨h0, a, c, rfl⟩ | ⟨b, c, hb, rfl⟩
   · omega
   · have := (hR.alloc X).fieldCell hin hb i hik;rw [hie] at this;exact ⟨b, c, k, rfl, rfl, this⟩
theorem get_num (hR : Rep w g A) (hl : A.handles.lookup n = some name) (ho : A.objs.lookup name = some o) (ht : o.table = false) (hx : (A.fields o)[i]? = some ⟨false, num⟩)
 (hin : o.at_ + 1 + o.size ≤ (A.mem o.old).length) (hbig : (A.mem o.old).length ≤ 1000000000000) :
 Calls Tryz.prog 32 #[.pointer (some ⟨g.hb, 0, none⟩), .int .i64 n, .int .i64 i] w fun e w' => e = .returned (.tuple #[.agg #[.bool false, .int .i64 num], .int .i64 0]) ∧ Chg (fun _ => False) w w' := by
 obtain ⟨hO, hFd, c1, hik⟩ := get_way hR hl ho ht hx hin hbig;have HO := Lib.hid hO;have HFd := Lib.hid hFd;have HOut : Hid (∀ k Y, Calls Tryz.prog 66 #[.pointer (some ⟨g.hb, 0, none⟩), .agg #[.bool false, .int .i64 num]] (((w.alloc (.cells #[.bool false, .int .i64 0] 54)).drewN k).alloc Y) fun e w1 => e = .returned (.agg #[.bool false, .int .i64 num]) ∧
  (w1.cell? ⟨w.heap.size, 0, none⟩ = some (.bool false) ∧ w1.cell? ⟨w.heap.size, 1, none⟩ = some (.int .i64 0) ∧ w1.frozen? ⟨w.heap.size, 0, none⟩ = false ∧ w1.frozen? ⟨w.heap.size, 1, none⟩ = false) ∧
  Hid (∀ x y, Chg (fun _ => False) w ((w1.setCell ⟨w.heap.size, 0, none⟩ x).setCell ⟨w.heap.size, 1, none⟩ y))) := by
  intro k Y;refine (out_num _ _ num).mono ?_;rintro e w1 ⟨rfl, hC⟩;have hb : w1.heap[w.heap.size]? = some (.cells #[.bool false, .int .i64 0] 54 (0, 0)) := hC.at (heap_alloc_old (show ((w.alloc (.cells #[.bool false, .int .i64 0] 54)).drewN k).heap[w.heap.size]? = _ from heap_alloc_new w _) Y) (fun h => h);refine ⟨rfl, ⟨cellAt hb 0, cellAt hb 1, freeAt hb 0, freeAt hb 1⟩, fun x y => ?_⟩;exact ((((Chg.refl _ _).alloc _).drewN k).alloc Y |>.trans hC (fun _ _ h => h)).store2 (Nat.le_refl _) x y
 have h1 : (i : Int) < (o.size : Int) := by omega
 have h0 : ¬ ((i : Int) < 0) := by omega
 have hfl := mem_fields_length hin;have hbd : o.size ≤ 1000000000000 := by omega
 clear hR hl ho ht hx hO hFd hin hbig hik hfl;generalize (o.at_ + 1) * 2 = p at *;generalize o.size = s at *
 go_enter Tryz.func32, Tryz.ntmps32
 go_wp2_with (first | (go_at_call 67; refine (HO.out _).mono ?_; rintro e w1 ⟨rfl, rfl⟩) | (go_at_call 68; refine (HFd.out _).mono ?_; rintro e w1 ⟨b, c, k, rfl, rfl, d0, d1⟩) | (go_at_call 66; refine (HOut.out _ _).mono ?_; rintro e w2 ⟨rfl, ⟨q0, q1, q2, q3⟩, hZ⟩))
 refine bodyPost_ret (v := .tuple #[.agg #[.bool false, .int .i64 num], .int .i64 0]) (by simp [results, Tryz.results32, go_sem, q0, q1]) rfl ⟨rfl, ?_⟩;exact hZ.out _ _
theorem get_ref (hR : Rep w g A) (hF : FreeOk A) (hh : A.handles.length < 9000) (hl : A.handles.lookup n = some name) (ho : A.objs.lookup name = some o) (ht : o.table = false) (hx : (A.fields o)[i]? = some ⟨true, num⟩)
 (hin : o.at_ + 1 + o.size ≤ (A.mem o.old).length) (hbig : (A.mem o.old).length ≤ 1000000000000) :
 Calls Tryz.prog 32 #[.pointer (some ⟨g.hb, 0, none⟩), .int .i64 n, .int .i64 i] w fun e w' => ∃ q, e = .returned (.tuple #[.agg #[.bool true, .int .i64 q], .int .i64 0]) ∧ Hid (∃ A' g', Granted A num q A' ∧ Rep w' g' A' ∧ Step w g A w' g') := by
 obtain ⟨hO, hFd, c1, hik⟩ := get_way hR hl ho ht hx hin hbig;have HO := Lib.hid hO;have HFd := Lib.hid hFd;have HSp : Hid (∀ X k Y, Calls Tryz.prog 60 #[.pointer (some ⟨g.hb, 0, none⟩), .int .i64 1] (((w.alloc X).drewN k).alloc Y) fun e w1 => e = .returned (.bool true) ∧ (((w.alloc X).drewN k).alloc Y) = w1) := fun X k Y => spare_any (((hR.alloc X).drewN k).alloc Y) 1 (by omega) (by omega);have HOut : Hid (∀ k Y, Calls Tryz.prog 66 #[.pointer (some ⟨g.hb, 0, none⟩), .agg #[.bool true, .int .i64 num]] (((w.alloc (.cells #[.bool false, .int .i64 0] 54)).drewN k).alloc Y) fun e w1 => ∃ q, e = .returned (.agg #[.bool true, .int .i64 q]) ∧
  (w1.cell? ⟨w.heap.size, 0, none⟩ = some (.bool false) ∧ w1.cell? ⟨w.heap.size, 1, none⟩ = some (.int .i64 0) ∧ w1.frozen? ⟨w.heap.size, 0, none⟩ = false ∧ w1.frozen? ⟨w.heap.size, 1, none⟩ = false) ∧
  Hid (∀ x y, ∃ A' g', Granted A num q A' ∧ Rep ((w1.setCell ⟨w.heap.size, 0, none⟩ x).setCell ⟨w.heap.size, 1, none⟩ y) g' A' ∧ Step w g A ((w1.setCell ⟨w.heap.size, 0, none⟩ x).setCell ⟨w.heap.size, 1, none⟩ y) g')) := by
  intro k Y;have hR3 := ((hR.alloc (.cells #[.bool false, .int .i64 0] 54)).drewN k).alloc Y;refine (out_ref hR3 hF hh num).mono ?_;rintro e w1 ⟨q, rfl, hZ⟩;obtain ⟨A', g', hG, hR', hS⟩ := hZ.out;have hat := hS.at (heap_alloc_old (show ((w.alloc (.cells #[.bool false, .int .i64 0] 54)).drewN k).heap[w.heap.size]? = _ from heap_alloc_new w _) Y) (hR.none_of_ge (Nat.le_refl _));have hb := hat.1;have hC0 : Chg (fun _ => False) w (((w.alloc (.cells #[.bool false, .int .i64 0] 54)).drewN k).alloc Y) := (((Chg.refl _ _).alloc _).drewN k).alloc Y;have hS1 := (Step.chg0 g A hC0).trans hS (Int.le_refl _)
  refine ⟨q, rfl, ⟨cellAt hb 0, cellAt hb 1, freeAt hb 0, freeAt hb 1⟩, fun x y => ⟨A', g', hG, ?_, ?_⟩⟩
  · refine hR'.frame (F := fun b => b = w.heap.size) (((Chg.refl (fun b => b = w.heap.size) w1).setCell (p := ⟨w.heap.size, 0, none⟩) (fun _ => rfl) _).setCell (p := ⟨w.heap.size, 1, none⟩) (fun _ => rfl) _) fun b hb => ?_;rw [hb]; exact hat.2
  · refine { hS1 with chg := ?_ };refine (hS1.chg.setCell (p := ⟨w.heap.size, 0, none⟩) (fun h => ?_) _).setCell (p := ⟨w.heap.size, 1, none⟩) (fun h => ?_) _
    · exact absurd h (by simp)
    · exact absurd h (by simp)
 have h1 : (i : Int) < (o.size : Int) := by omega
 have h0 : ¬ ((i : Int) < 0) := by omega
 have hfl := mem_fields_length hin;have hbd : o.size ≤ 1000000000000 := by omega
 clear hR hl ho ht hx hO hFd hin hbig hik hfl hF hh;generalize (o.at_ + 1) * 2 = p at *;generalize o.size = s at *
 go_enter Tryz.func32, Tryz.ntmps32
 go_wp2_with (first | (go_at_call 67; refine (HO.out _).mono ?_; rintro e w1 ⟨rfl, rfl⟩) | (go_at_call 68; refine (HFd.out _).mono ?_; rintro e w1 ⟨b, c, k, rfl, rfl, d0, d1⟩) | (go_at_call 60; refine (HSp.out _ _ _).mono ?_; rintro e w1 ⟨rfl, rfl⟩) | (go_at_call 66; refine (HOut.out _ _).mono ?_; rintro e w2 ⟨q, rfl, ⟨q0, q1, q2, q3⟩, hZ⟩))
 refine bodyPost_ret (v := .tuple #[.agg #[.bool true, .int .i64 q], .int .i64 0]) (by simp [results, Tryz.results32, go_sem, q0, q1]) rfl ⟨q, rfl, ?_⟩;exact hZ.out _ _
end Go.Proofs.YtelghmmcbgfjnaaGreat
