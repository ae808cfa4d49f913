/-
  The walk of move. (A part of the proof, joined of: Wc, Wd, We, Wf, Wg, Wh, Wi; made smaller.)
-/
import Derived.Test.YtelghmmcbgfjnaaGreatH04
import Derived.BigRegion
set_option maxHeartbeats 1000000
set_option maxRecDepth 100000
namespace Go.Proofs.YtelghmmcbgfjnaaGreat
variable {A : St} {S T Tb from_ l l0 : List Int} {a : Option Addr} {b ms wb : Nat} {captured first : Array Value} {g : Gh} {m n : Int} {o : Ob} {v vtb : Value} {w w' w0 wr : World} {x : En}
open Go.RowKit
def St.setOb (A : St) (n : Int) (o : Ob) : St := { A with objs := A.objs.map fun p => if p.1 = n then (n, o) else p }
theorem kvsO_setOb (g : Gh) (A : St) (n : Int) (o : Ob) : kvsO g (A.setOb n o) = kvsO g A := by
 simp only [kvsO, St.setOb, List.map_map];apply List.map_congr_left;intro p _;simp only [Function.comp]
 split
 · rename_i h; simp [h]
 · rfl
theorem mem_setOb {x : Ob} (h : (m, x) ∈ (A.setOb n o).objs) : (m = n ∧ x = o) ∨ (m ≠ n ∧ (m, x) ∈ A.objs) := by
 simp only [St.setOb, List.mem_map] at h;obtain ⟨p, hp, he⟩ := h
 split at he
 · simp only [Prod.mk.injEq] at he; exact .inl ⟨he.1.symm, he.2.symm⟩
 · rename_i hne
   subst he;exact .inr ⟨hne, hp⟩
theorem Rep.setOb (hR : Rep w g A) {o' : Ob} (hm : A.objs.lookup n = some o) (he : o'.ents = o.ents) (hC : Chg (fun b => b = g.ob n) w w')
 (hb : w'.heap[g.ob n]? = some (.cells (obCells g n o') 110 (0, 0))) : Rep w' g (A.setOb n o') ∧ Step w g A w' g := by
 have ho := hR.obj n o (mem_of_lookup hm);have hCR : ChgR g (fun r => r = .obj n) w w' := hC.mono fun b _ hb r hr => by rw [hb, ho.own] at hr; simpa using hr.symm
 refine ⟨hR.move hCR (fun b hb => Nat.lt_of_lt_of_le (hR.lt b hb) hC.size) (mo := .inl ⟨by simp, kvsO_setOb g A n o'⟩) (mh := .inl ⟨by simp, rfl⟩) (mr := .inl ⟨by simp, rfl⟩) (obj := ?_), ⟨hC.mono fun b _ hb => by rw [hb, ho.own]; rfl, fun _ _ _ => rfl, rfl, rfl, rfl, rfl, rfl, fun _ _ => rfl⟩⟩;intro m x hx;rcases mem_setOb hx with ⟨rfl, rfl⟩ | ⟨hne, hx⟩
 · right;refine ⟨ho.own, hb, ?_, ho.rown⟩;rw [he];refine ho.row.same fun b hb => hC.block b (ho.row.lt hb) ?_;intro e;have h1 := ho.rown b hb;rw [e, ho.own] at h1;cases h1
 · left;exact ⟨hx, rfl, rfl, by simpa using hne, by simp⟩
def St.moved (A : St) (n : Int) (o : Ob) (old : Bool) (l : List Wd) : St :=
 (A.setMem old (A.mem old ++ l)).setOb n { o with at_ := (A.mem old).length, old := old }
theorem setMem_objs (A : St) (old : Bool) (l : List Wd) : (A.setMem old l).objs = A.objs := by cases old <;> rfl
theorem setMem_names (A : St) (old : Bool) (l : List Wd) : (A.setMem old l).names = A.names := by cases old <;> rfl
theorem wdCells_drop (l : List Wd) (k : Nat) : (wdCells l).drop (k * 2) = wdCells (l.drop k) := by
 induction l generalizing k with
 | nil => simp [wdCells]
 | cons x l ih =>
   cases k with
   | zero => simp
   | succ k =>
     have := ih k;simp only [wdCells, List.flatMap_cons, List.drop_succ_cons] at *;rw [← this, show (k + 1) * 2 = k * 2 + 1 + 1 from by omega];simp [Wd.cells]
theorem wdCells_take (l : List Wd) (k : Nat) : (wdCells l).take (k * 2) = wdCells (l.take k) := by
 induction l generalizing k with
 | nil => simp [wdCells]
 | cons x l ih =>
   cases k with
   | zero => simp [wdCells]
   | succ k =>
     have := ih k;simp only [wdCells, List.flatMap_cons, List.take_succ_cons] at *;rw [← this, show (k + 1) * 2 = k * 2 + 1 + 1 from by omega];simp [Wd.cells]
theorem move_any (hR : Rep w g A) (hm : A.objs.lookup n = some o) (old : Bool) {fw : List Wd} (hf : Row w 113 2 v fw.length (wdCells fw))
 (hfo : ∀ b, rowBlk v = some b → g.own b = none) (hin : o.at_ + 1 + o.size ≤ fw.length) (hbf : fw.length ≤ 1000000000000) (hbig : (A.mem old).length + (1 + o.size) ≤ 1000000000000) :
 Calls Tryz.prog 79 #[.pointer (some ⟨g.hb, 0, none⟩), .pointer (some ⟨g.ob n, 0, none⟩), v, .int .i64 (if old then 1 else 0)] w fun e w' =>
  e = .returned (.tuple #[]) ∧ ∃ g', Rep w' g' (A.moved n o old ((fw.drop o.at_).take (1 + o.size))) ∧ Step w g A w' g' := by
 have ho := hR.obj n o (mem_of_lookup hm);obtain ⟨a, fcap, rfl, hle, hcm, hcase⟩ := hf.slice;obtain ⟨fb, rfl, hfb⟩ : ∃ b, a = some ⟨b, 0, none⟩ ∧ rowBlk (.slice a fw.length fcap) = some b := by
  rcases hcase with h | h
  · omega
  · exact h
 obtain ⟨area, harea⟩ : ∃ l, l = (fw.drop o.at_).take (1 + o.size) := ⟨_, rfl⟩;have hal : area.length = 1 + o.size := by rw [harea, List.length_take, List.length_drop]; omega
 have hsrc : Src' w.drew 2 (.slice (some ⟨fb, o.at_ * 2, none⟩) (o.at_ + 1 + o.size - o.at_) (fcap - o.at_)) (o.at_ + 1 + o.size - o.at_) (wdCells area) := by
  have h := hf.part o.at_ (1 + o.size) (fcap - o.at_) (by omega);rw [wdCells_drop, wdCells_take, ← harea] at h;rw [show o.at_ + 1 + o.size - o.at_ = 1 + o.size from by omega];exact h
 have hP := place_any (w := w.drew) (hR.drewN 1) old hsrc (by rw [hal]; omega) (by omega) (by omega) (fun a c h => by
  simp only [Value.slice.injEq, Option.some.injEq] at h;rw [← h.1];exact hfo fb hfb)
 refine ret_k fun K hK => ?_;have hP2 : Calls Tryz.prog 110 #[.pointer (some ⟨g.hb, 0, none⟩), .int .i64 (if old then 1 else 0), .slice (some ⟨fb, o.at_ * 2, none⟩) (o.at_ + 1 + o.size - o.at_) (fcap - o.at_)] w.drew fun e w1 =>
  e = .returned (.int .i64 (A.mem old).length) ∧ (w1.cell? ⟨g.ob n, 3, none⟩ = some (.int .i64 o.at_) ∧ w1.frozen? ⟨g.ob n, 3, none⟩ = false ∧ w1.cell? ⟨g.ob n, 2, none⟩ = some (.bool o.old) ∧ w1.frozen? ⟨g.ob n, 2, none⟩ = false) ∧
  Hid (∀ w', w' = (w1.setCell ⟨g.ob n, 3, none⟩ (.int .i64 (A.mem old).length)).setCell ⟨g.ob n, 2, none⟩ (.bool old) → Post K (.returned (.tuple #[])) w') := by
  refine hP.mono ?_;rintro e w1 ⟨g1, rfl, hR1, hS1, e1, e2⟩;have hm1 : (A.setMem old (A.mem old ++ area)).objs.lookup n = some o := by rw [setMem_objs]; exact hm
  have ho1 := hR1.obj n o (mem_of_lookup hm1);have hbl := ho1.blk;rw [e1] at hbl;refine ⟨rfl, ⟨by rw [cellAt hbl]; rfl, freeAt hbl _, by rw [cellAt hbl]; rfl, freeAt hbl _⟩, ?_⟩;intro w' hw';have hb2 := heap_setCell (heap_setCell hbl 3 (.int .i64 (A.mem old).length)) 2 (.bool old);have hfin := hR1.setOb (w' := w') (o' := { o with at_ := (A.mem old).length, old := old }) hm1 rfl (by
   rw [e1, hw'];exact ((Chg.refl (fun b => b = g.ob n) w1).setCell (p := ⟨g.ob n, 3, none⟩) (fun _ => rfl) _).setCell (p := ⟨g.ob n, 2, none⟩) (fun _ => rfl) _) (by rw [e1, hw', hb2]; rfl)
  refine hK _ _ ⟨rfl, g1, ?_, ?_⟩
  · rw [← harea]; exact hfin.1
  · exact (Step.drewN w g A 1).trans (hS1.trans hfin.2 (by rw [setMem_names]; exact Int.le_refl _)) (Int.le_refl _)
 have HP := Lib.hid hP2;have c1 : w.cell? ⟨g.ob n, 1, none⟩ = some (.int .i64 o.size) := ho.c 1;have c3 : w.cell? ⟨g.ob n, 3, none⟩ = some (.int .i64 o.at_) := ho.c 3;clear hP2 hP hsrc harea hal hcase hfb hf hfo hm ho hR hK;generalize (A.mem old).length = len at *;generalize o.size = s at *;generalize o.at_ = p at *;generalize o.old = oo at *;generalize fw.length = fl at *;have hpos : ¬ (fcap = p) := by omega
 have s1 : IntKind.i64.wrap ((p : Int) + 1) = (p : Int) + 1 := IntWalk.i64_in _ (by omega);have s2 : IntKind.i64.wrap ((p : Int) + 1 + (s : Int)) = (p : Int) + 1 + (s : Int) := IntWalk.i64_in _ (by omega);have s3 : (0 : Int) ≤ (p : Int) + 1 + (s : Int) := by omega
 have s4 : ((p : Int) + 1 + (s : Int)).toNat = p + 1 + s := by omega
 have s5 : (p : Int) + 1 + (s : Int) ≤ (fcap : Int) := by omega
 have s6 : p ≤ p + 1 + s := by omega
 cases old
 · simp only [Bool.false_eq_true, if_false] at HP ⊢
   go_enter Tryz.func79, Tryz.ntmps79
   go_wp2
   go_region_law (go_simp; go_at_call 110; refine HP.out.mono ?_; rintro e w1 ⟨rfl, ⟨g3, f3, g2, f2⟩, hZ⟩)
   all_goals
    clear s1 s2 s3 s4 s5 s6;go_wp2
    go_end0
    exact hZ.out _ rfl
 · simp only [if_true] at HP ⊢
   go_enter Tryz.func79, Tryz.ntmps79
   go_wp2
   go_region_law (go_simp; go_at_call 110; refine HP.out.mono ?_; rintro e w1 ⟨rfl, ⟨g3, f3, g2, f2⟩, hZ⟩)
   all_goals
    clear s1 s2 s3 s4 s5 s6;go_wp2
    go_end0
    exact hZ.out _ rfl
structure WkG where
 wb : Nat
 ms : Nat
 vt : Value
structure Wk (w : World) (k : WkG) (S T : List Int) : Prop where
 wb : w.heap[k.wb]? = some (.cells #[.map (some k.ms), k.vt] 128 (0, 0))
 ms : MapAt w k.ms (S.map fun n => (n, .bool true))
 row : Row w 3 1 k.vt T.length (intCells T)
def WkG.blk (k : WkG) (b : Nat) : Prop := b = k.wb ∨ b = k.ms ∨ rowBlk k.vt = some b
theorem Row.elem {e : TypeId} {sz : Nat} {n : Nat} {xs : List Value} (h : Row w e sz v n xs) {g : Nat} (hg : rowBlk v = some g) : ∃ cur, w.heap[g]? = some (.cells cur e (0, 0)) := by
 obtain ⟨h1, h2, ⟨_, a, rfl⟩ | ⟨g', cap, cur, rfl, h4, h5⟩⟩ := h
 · cases a <;> simp [rowBlk] at hg
 · simp only [rowBlk, Option.some.injEq] at hg; subst hg; exact ⟨cur, h4⟩
theorem Wk.wbms {k : WkG} (h : Wk w k S T) : k.wb ≠ k.ms := by
 intro e;obtain ⟨es, c, h1, _⟩ := h.ms;rw [← e, h.wb] at h1;simp at h1
theorem Wk.rowms {k : WkG} (h : Wk w k S T) (hb : rowBlk k.vt = some b) : b ≠ k.ms := by
 intro e;obtain ⟨es, c, h1, _⟩ := h.ms;obtain ⟨cur, h2⟩ := h.row.elem hb;rw [← e, h2] at h1;simp at h1
theorem Wk.rowwb {k : WkG} (h : Wk w k S T) (hb : rowBlk k.vt = some b) : b ≠ k.wb := by
 intro e;obtain ⟨cur, h2⟩ := h.row.elem hb;rw [e, h.wb] at h2;simp at h2
theorem Wk.lt {k : WkG} (h : Wk w k S T) (hb : k.blk b) : b < w.heap.size := by
 rcases hb with rfl | rfl | hb
 · exact lt_of_block h.wb
 · exact h.ms.lt
 · exact h.row.lt hb
theorem Wk.same {k : WkG} (h : Wk w k S T) (hw : ∀ b, k.blk b → w'.heap[b]? = w.heap[b]?) : Wk w' k S T :=
 ⟨by rw [hw _ (.inl rfl)]; exact h.wb, h.ms.same (hw _ (.inr (.inl rfl))), h.row.same fun b hb => hw b (.inr (.inr hb))⟩
theorem Wk.chg {k : WkG} (h : Wk w k S T) {F : Nat → Prop} (hC : Chg F w w') (hF : ∀ b, k.blk b → ¬ F b) : Wk w' k S T :=
 h.same fun b hb => hC.block b (h.lt hb) (hF b hb)
def seeS (S : List Int) (n : Int) : List Int := if n ∈ S then S else S ++ [n]
def seeT (S T : List Int) (n : Int) : List Int := if n ∈ S then T else T ++ [n]
theorem lookup_set (S : List Int) (n : Int) : (S.map fun m => (m, Value.bool true)).lookup n = if n ∈ S then some (.bool true) else none := by
 induction S with
 | nil => rfl
 | cons a S ih =>
   by_cases e : n = a
   · subst e; simp
   · have e2 : (n == a) = false := by simpa using e
     simp only [List.map_cons, List.lookup, e2, ih, List.mem_cons, e, false_or]
structure WkStep (w : World) (k : WkG) (w' : World) (k' : WkG) : Prop where
 chg : Chg k.blk w w'
 wb : k'.wb = k.wb
 ms : k'.ms = k.ms
 loc : ∀ b, k'.blk b → k.blk b ∨ w.heap.size ≤ b
theorem WkStep.refl (w : World) (k : WkG) : WkStep w k w k := ⟨Chg.refl _ _, rfl, rfl, fun _ h => .inl h⟩
theorem WkStep.trans {w'' : World} {k k' k'' : WkG} (h : WkStep w k w' k') (l : WkStep w' k' w'' k'') : WkStep w k w'' k'' :=
 ⟨h.chg.trans l.chg (fun j hj hk => (h.loc j hk).resolve_right (by omega)), l.wb.trans h.wb, l.ms.trans h.ms, fun b hb => by
  rcases l.loc b hb with h1 | h1
  · exact h.loc b h1
  · exact .inr (Nat.le_trans h.chg.size h1)⟩
theorem see_any {k : WkG} (h : Wk w k S T) (n : Int) (hT : T.length < 1000000000000) :
 Calls Tryz.prog 73 #[.pointer (some ⟨k.wb, 0, none⟩), .int .i64 n] w fun e w' =>
  e = .returned (.tuple #[]) ∧ ∃ k', Wk w' k' (seeS S n) (seeT S T n) ∧ WkStep w k w' k' := by
 have c0 : w.cell? ⟨k.wb, 0, none⟩ = some (.map (some k.ms)) := cellAt h.wb 0;have c1 : w.cell? ⟨k.wb, 1, none⟩ = some k.vt := cellAt h.wb 1;have hl := run_lookup_map (P := Tryz.prog) h.ms uMapB uInt zBool n false;rw [lookup_set] at hl;by_cases hn : n ∈ S
 · simp only [hn, if_true, Option.getD_some, Bool.false_eq_true, if_false] at hl;refine ret_k fun K hK => ?_;have HK : Hid (Post K (.returned (.tuple #[])) w) := hK _ _ ⟨rfl, k, by simpa [seeS, seeT, hn] using h, WkStep.refl _ _⟩;clear hn h hT hK
   go_enter Tryz.func73, Tryz.ntmps73
   go_wp2
   go_end0
   exact HK.out
 · simp only [hn, if_false, Option.getD_none, Bool.false_eq_true] at hl;obtain ⟨o', hup, hM1⟩ := run_mapUpdate_map (P := Tryz.prog) h.ms uMapB uInt n (.bool true);have hput : putKV (S.map fun n => (n, Value.bool true)) n (.bool true) = (S ++ [n]).map fun n => (n, .bool true) := by
    unfold putKV;rw [lookup_set, if_neg hn];simp
   rw [hput] at hM1;obtain ⟨i0, hi, hz0, hz1, hz2⟩ := info_parts iInt;obtain ⟨w1, hw1⟩ : ∃ w1, w1 = World.put w k.ms o' := ⟨_, rfl⟩;rw [← hw1] at hup hM1;have hC1 : Chg k.blk w w1 := by rw [hw1]; exact (Chg.refl _ _).put (fun _ => .inr (.inl rfl)) _
   have hwb1 : w1.heap[k.wb]? = some (.cells #[.map (some k.ms), k.vt] 128 (0, 0)) := by rw [hw1, heap_put_ne h.wbms]; exact h.wb
   have hrow1 : Row w1 3 1 k.vt T.length (intCells T) := h.row.same fun b hb => by rw [hw1, heap_put_ne (h.rowms hb)]
   have hsz1 : w1.heap.size = w.heap.size := by rw [hw1, size_put]
   obtain ⟨w2, hw2⟩ : ∃ w2, w2 = w1.alloc (.cells #[.int .i64 n] 3) := ⟨_, rfl⟩;have hrow2 : Row w2 3 1 k.vt T.length (intCells T) := hrow1.same fun b hb => by rw [hw2, heap_alloc, if_neg (by have := hrow1.lt hb; omega)]
   have hsrc2 : Src' w2 1 (.slice (some ⟨w1.heap.size, 0, none⟩) 1 1) 1 [.int .i64 n] := src_block (by rw [hw2]; exact heap_alloc_new _ _) (by simp) (by simp);obtain ⟨v3, w3, happ, hrow3, hC3, hloc3⟩ := run_append_row (P := Tryz.prog) 23 23 3 i0 _ 1 8 uInts hi hz0 hz1 hz2 rfl (by decide) hrow2 hsrc2 (by simp [Value.oneCell']) (by unfold maxLen; omega) (by omega);obtain ⟨a3, cap3, rfl, -⟩ := hrow3.slice;have hwb2 : w2.heap[k.wb]? = some (.cells #[.map (some k.ms), k.vt] 128 (0, 0)) := by rw [hw2]; exact heap_alloc_old hwb1 _
   have hwb3 := hC3.at hwb2 (fun hb => h.rowwb hb rfl);have d0 : w1.cell? ⟨k.wb, 0, none⟩ = some (.map (some k.ms)) := cellAt hwb1 0;have d1 : w1.cell? ⟨k.wb, 1, none⟩ = some k.vt := cellAt hwb1 1;have d3 : w3.cell? ⟨k.wb, 1, none⟩ = some k.vt := cellAt hwb3 1;have f3 : w3.frozen? ⟨k.wb, 1, none⟩ = false := freeAt hwb3 1;refine ret_k fun K hK => ?_;have HK : Hid (Post K (.returned (.tuple #[])) (w3.setCell ⟨k.wb, 1, none⟩ (.slice a3 (T.length + 1) cap3))) := by
    have hC2 : Chg k.blk w w2 := by rw [hw2]; exact hC1.alloc _
    have hC3' : Chg k.blk w w3 := hC2.trans hC3 (fun j hj hb => .inr (.inr hb));have hC4 : Chg k.blk w (w3.setCell ⟨k.wb, 1, none⟩ (.slice a3 (T.length + 1) cap3)) := hC3'.setCell (fun _ => .inl rfl) _;have hne3 : ∀ b, rowBlk (.slice a3 (T.length + 1) cap3) = some b → b ≠ k.wb := by
     intro b hb e;obtain ⟨cur, h2⟩ := hrow3.elem hb;rw [e, hwb3] at h2;simp at h2
    have hms3 : w3.heap[k.ms]? = w1.heap[k.ms]? := by
     have hlt := hM1.lt;rw [hC3.block k.ms (by rw [hw2]; simp; omega) (fun hb => h.rowms hb rfl), hw2, heap_alloc, if_neg (by omega)]
    refine hK _ _ ⟨rfl, { k with vt := .slice a3 (T.length + 1) cap3 }, ⟨?_, ?_, ?_⟩, hC4, rfl, rfl, ?_⟩
    · exact heap_setCell hwb3 1 _
    · simp only [seeS, if_neg hn];exact hM1.same (by rw [heap_setCell_ne (fun e => h.wbms e.symm)]; exact hms3)
    · simp only [seeT, if_neg hn, List.length_append, List.length_singleton];have : intCells (T ++ [n]) = intCells T ++ [.int .i64 n] := by simp [intCells]
      rw [this];exact hrow3.same fun b hb => heap_setCell_ne (hne3 b hb) _
    · intro b hb;rcases hb with rfl | rfl | hb
      · exact .inl (.inl rfl)
      · exact .inl (.inr (.inl rfl))
      · rcases hloc3 b hb with h1 | h1
        · exact .inl (.inr (.inr h1))
        · rw [hw2] at h1; simp at h1; exact .inr (by omega)
   subst hw2;obtain ⟨vt, hvt⟩ : ∃ vt, vt = k.vt := ⟨_, rfl⟩;rw [← hvt] at c1 d1 d3 happ;generalize T.length = tl at *;clear hn h hT hK hput hM1 hw1 hC1 hwb1 hrow1 hrow2 hsrc2 hrow3 hC3 hloc3 hwb2 hwb3 hvt hsz1
   go_enter Tryz.func73, Tryz.ntmps73
   go_wp2_with (at_builtin; go_must (refine wpList_val rfl (exec_append rfl happ) ?_))
   go_end0
   exact HK.out
def refsW (l : List Wd) : List Int := (l.filter (·.ref)).map (·.num)
def refsE (l : List En) : List Int := l.flatMap fun x => if x.val.ref then [x.key, x.val.num] else [x.key]
structure Found (g : Gh) (A : St) (ff : FuncId) (first captured : Array Value) (I : (Nat → Obj → Prop) → List Int → World → Prop) : Prop where
 call : ∀ args w, (callFunc ff args).run Tryz.prog w = .ok (.enter ff args) w
 step : ∀ S l n w, l.length < 500000000000 → I S l w → Calls Tryz.prog ff (first ++ #[.int .i64 n] ++ captured) w fun e w' => e = .returned (.tuple #[]) ∧ I S (l ++ [n]) w'
 rep : ∀ S l w, I S l w → Rep w g A
 hold : ∀ S l w b x, I S l w → S b x → w.heap[b]? = some x
 alloc : ∀ S l o w, I S l w → I (fun b x => S b x ∨ (b = w.heap.size ∧ x = o)) l (w.alloc o)
 drew : ∀ S l n w, I S l w → I S l (w.drewN n)
 weak : ∀ S S' l w, I S l w → (∀ b x, S' b x → S b x) → I S' l w
theorem refsW_len (l : List Wd) : (refsW l).length ≤ l.length := by simp only [refsW, List.length_map]; exact List.length_filter_le _ _
theorem refsW_take_len (l : List Wd) (k : Nat) : (refsW (l.take k)).length ≤ k := Nat.le_trans (refsW_len _) (List.length_take_le _ _)
theorem refsE_len (l : List En) : (refsE l).length ≤ 2 * l.length := by
 induction l with
 | nil => simp [refsE]
 | cons x l ih =>
   have e : refsE (x :: l) = (if x.val.ref then [x.key, x.val.num] else [x.key]) ++ refsE l := by simp [refsE]
   rw [e, List.length_append, List.length_cons]
   split <;> simp only [List.length_cons, List.length_nil] <;> omega
theorem refsE_take_len (l : List En) (k : Nat) : (refsE (l.take k)).length ≤ 2 * k := by
 have := refsE_len (l.take k);have := List.length_take_le k l;omega
theorem refsW_take_succ (l : List Wd) (k : Nat) (hk : k < l.length) : refsW (l.take (k + 1)) = refsW (l.take k) ++ (if (l[k]).ref then [(l[k]).num] else []) := by
 rw [List.take_succ_eq_append_getElem hk];simp only [refsW, List.filter_append, List.map_append]
 congr 1
 by_cases h : (l[k]).ref <;> simp [h]
theorem wdCells_get (l : List Wd) (k : Nat) (hk : k < l.length) : (wdCells l)[k * 2]? = some (.bool (l[k]).ref) ∧ (wdCells l)[k * 2 + 1]? = some (.int .i64 (l[k]).num) := by
 induction l generalizing k with
 | nil => simp at hk
 | cons x l ih =>
   cases k with
   | zero => simp [wdCells, Wd.cells]
   | succ k =>
     have := ih k (by simpa using hk);simp only [wdCells, List.flatMap_cons, List.getElem_cons_succ] at *;rw [show (k + 1) * 2 = k * 2 + 1 + 1 from by omega];simpa [Wd.cells] using this
theorem mem_fields_length (hin : o.at_ + 1 + o.size ≤ (A.mem o.old).length) : (A.fields o).length = o.size := by
 simp only [St.fields, List.length_take, List.length_drop]; omega
theorem Rep.fieldCell (hR : Rep w g A) (hin : o.at_ + 1 + o.size ≤ (A.mem o.old).length) (hb : rowBlk (g.vM o.old) = some b) (k : Nat) (hk : k < (A.fields o).length) :
 w.cell? ⟨b, (o.at_ + 1) * 2 + k * 2, none⟩ = some (.bool ((A.fields o)[k]).ref) ∧ w.cell? ⟨b, (o.at_ + 1) * 2 + k * 2 + 1, none⟩ = some (.int .i64 ((A.fields o)[k]).num) := by
 have hrow := (hR.rM o.old).row;obtain ⟨a, cap, hv, hle, hcm, hcase⟩ := hrow.slice;rw [hv] at hrow;have hl := mem_fields_length hin;obtain ⟨g', hg', hb', hc⟩ := hrow.cells (by omega);rw [hv, hb'] at hb;simp only [Option.some.injEq] at hb;subst hb;have hkm : o.at_ + 1 + k < (A.mem o.old).length := by omega
 have hget : (A.fields o)[k] = (A.mem o.old)[o.at_ + 1 + k] := by simp [St.fields]
 have := wdCells_get (A.mem o.old) (o.at_ + 1 + k) hkm;rw [hget];refine ⟨hc _ _ ?_, hc _ _ ?_⟩
 · rw [show (o.at_ + 1) * 2 + k * 2 = (o.at_ + 1 + k) * 2 from by omega]; exact this.1
 · rw [show (o.at_ + 1) * 2 + k * 2 + 1 = (o.at_ + 1 + k) * 2 + 1 from by omega]; exact this.2
theorem refs_any {ff : FuncId} {I : (Nat → Obj → Prop) → List Int → World → Prop} (hF : Found g A ff first captured I) {S : Nat → Obj → Prop} (hI : I S l0 w)
 (hm : A.objs.lookup n = some o) (hin : o.at_ + 1 + o.size ≤ (A.mem o.old).length) (hbig : (A.mem o.old).length ≤ 1000000000000) (hl0 : l0.length + o.size ≤ 500000000000) :
 Calls Tryz.prog 76 #[.pointer (some ⟨g.hb, 0, none⟩), .pointer (some ⟨g.ob n, 0, none⟩), .func (.func ff) first captured] w fun e w' =>
  e = .returned (.tuple #[]) ∧ I S (l0 ++ refsW (A.fields o)) w' := by
 have hR := hF.rep _ _ _ hI;have hfl := mem_fields_length hin;refine ret_k fun K hK => ?_;have hfields : Calls Tryz.prog 68 #[.pointer (some ⟨g.hb, 0, none⟩), .pointer (some ⟨g.ob n, 0, none⟩)] w fun e w1 =>
  ∃ a c, e = .returned (.slice a (A.fields o).length c) ∧ I S l0 w1 ∧ (0 < (A.fields o).length → ∃ b, a = some ⟨b, (o.at_ + 1) * 2, none⟩ ∧ rowBlk (g.vM o.old) = some b) := by
  refine (fields_any hR hm hin hbig).mono ?_;rintro e w1 ⟨v, k, rfl, rfl, h⟩;rcases h with ⟨h0, a, c, rfl⟩ | ⟨b, c, hb, rfl⟩
  · exact ⟨a, c, by rw [hfl, h0], hF.drew _ _ _ _ hI, fun h => by omega⟩
  · exact ⟨_, c, by rw [hfl], hF.drew _ _ _ _ hI, fun _ => ⟨b, rfl, hb⟩⟩
 have hcall := hF.call;have HS := Lib.hid (fun l n w hl h => hF.step S l n w hl h);have hlen : (A.fields o).length ≤ 1000000000000 := by omega
 have hl0' : l0.length + (A.fields o).length ≤ 500000000000 := by omega
 have HC := Lib.hid (fun (l : List Int) (wr : World) (h : I S l wr) (b : Nat) (hb : rowBlk (g.vM o.old) = some b) => (hF.rep _ l wr h).fieldCell hin hb);have HK : Hid (∀ w', I S (l0 ++ refsW ((A.fields o).take (A.fields o).length)) w' → Post K (.returned (.tuple #[])) w') := fun w' h => hK _ _ ⟨rfl, by rw [List.take_length] at h; exact h⟩;have HFd := Lib.hid hfields;clear hfields hK hR hm hfl hin hbig hl0
 go_enter Tryz.func76, Tryz.ntmps76
 go_wp2_with (go_at_call 68; refine HFd.out.mono ?_; rintro e w1 ⟨a, c, rfl, hI1, hab⟩)
 clear HFd hI;have HAB := Lib.hid hab;clear hab
 go_loopw [12] (fun i wr => ∃ k : Nat, k ≤ (A.fields o).length ∧ i = .int .i64 k ∧ I S (l0 ++ refsW ((A.fields o).take k)) wr) (fun i _ => (A.fields o).length - (intOf i).toNat)
 case atStart => exact ⟨0, Nat.zero_le _, rfl, by simpa [refsW] using hI1⟩
 case round =>
  obtain ⟨k, hk, rfl, hIk⟩ := hrel;clear hI1;by_cases hlt : k < (A.fields o).length
  · obtain ⟨b, rfl, hb⟩ := HAB.out (by omega);obtain ⟨c0, c1⟩ := HC.out _ _ hIk _ hb k hlt;have hsucc := refsW_take_succ (A.fields o) k hlt;have hIa := hF.weak _ S _ _ (hF.alloc S _ (.cells #[.bool ((A.fields o)[k]).ref, .int .i64 ((A.fields o)[k]).num] 113) _ hIk) (fun _ _ h => .inl h);cases hr : ((A.fields o)[k]).ref with
    | true =>
      have hstep := HS.out _ ((A.fields o)[k]).num _ (by have := refsW_take_len (A.fields o) k; rw [List.length_append]; omega) hIa;rw [hr] at c0 hstep hsucc;simp only [if_true] at hsucc;generalize ((A.fields o)[k]).num = m at *;have HSt := Lib.hid hstep;have HSu := Lib.hid hsucc;clear hstep hsucc hIa hIk hr hb
      go_wp2_with (refine HSt.out.mono ?_; rintro e w2 ⟨rfl, hI2⟩)
      go_roundw
      case rel => exact ⟨k + 1, by omega, by go_num, by rw [HSu.out, ← List.append_assoc]; exact hI2⟩
      case measure => simp [intOf]; omega
    | false =>
      rw [hr] at c0 hsucc hIa;generalize ((A.fields o)[k]).num = m at *;simp only [Bool.false_eq_true, if_false, List.append_nil] at hsucc;have HSu := Lib.hid hsucc;have HIa := Lib.hid hIa;clear hsucc hIk hr hb hIa;go_wp2
      go_roundw
      case rel => exact ⟨k + 1, by omega, by go_num, by rw [HSu.out]; exact HIa.out⟩
      case measure => simp [intOf]; omega
  · have hke : k = (A.fields o).length := by omega
    subst hke;have HI := Lib.hid hIk;clear hIk HAB HC;go_wp2
    go_end0
    exact HK.out _ HI.out
theorem refsE_take_succ (l : List En) (k : Nat) (hk : k < l.length) : refsE (l.take (k + 1)) = refsE (l.take k) ++ (if (l[k]).val.ref then [(l[k]).key, (l[k]).val.num] else [(l[k]).key]) := by
 rw [List.take_succ_eq_append_getElem hk];simp only [refsE, List.flatMap_append, List.flatMap_cons, List.flatMap_nil, List.append_nil]
theorem enCells_length (l : List En) : (enCells l).length = l.length * 3 := by
 induction l with
 | nil => rfl
 | cons x l ih => simp only [enCells, List.flatMap_cons, List.length_append, List.length_cons] at *; rw [ih]; simp [En.cells]; omega
theorem enCells_get (l : List En) (k : Nat) (hk : k < l.length) : (enCells l)[k * 3]? = some (.int .i64 (l[k]).key) ∧ (enCells l)[k * 3 + 1]? = some (.bool (l[k]).val.ref) ∧ (enCells l)[k * 3 + 2]? = some (.int .i64 (l[k]).val.num) := by
 induction l generalizing k with
 | nil => simp at hk
 | cons x l ih =>
   cases k with
   | zero => simp [enCells, En.cells]
   | succ k =>
     have := ih k (by simpa using hk);simp only [enCells, List.flatMap_cons, List.getElem_cons_succ] at *;rw [show (k + 1) * 3 = k * 3 + 1 + 1 + 1 from by omega];simpa [En.cells] using this
theorem ObAt.entCell (ho : ObAt w g n o) {c : Nat} (hv : g.vE n = .slice a o.ents.length c) (k : Nat) (hk : k < o.ents.length) :
 ∃ b, a = some ⟨b, 0, none⟩ ∧ g.own b = some (.ents n) ∧ w.cell? ⟨b, k * 3, none⟩ = some (.int .i64 (o.ents[k]).key) ∧ w.cell? ⟨b, k * 3 + 1, none⟩ = some (.bool (o.ents[k]).val.ref) ∧ w.cell? ⟨b, k * 3 + 2, none⟩ = some (.int .i64 (o.ents[k]).val.num) := by
 have hrow := ho.row;have hro := ho.rown;rw [hv] at hrow hro;obtain ⟨b, rfl, hb, hc⟩ := hrow.cells (by omega);have := enCells_get o.ents k hk;exact ⟨b, rfl, hro b hb, hc _ _ this.1, hc _ _ this.2.1, hc _ _ this.2.2⟩
theorem all_any {ff : FuncId} {I : (Nat → Obj → Prop) → List Int → World → Prop} (hF : Found g A ff first captured I) {S : Nat → Obj → Prop} (hI : I S l0 w)
 (hm : A.objs.lookup n = some o) (hin : o.at_ + 1 + o.size ≤ (A.mem o.old).length) (hbig : (A.mem o.old).length ≤ 1000000000000) (hbe : o.ents.length ≤ 1000000000000) (hl0 : l0.length + o.size + 2 * o.ents.length ≤ 500000000000) :
 Calls Tryz.prog 75 #[.pointer (some ⟨g.hb, 0, none⟩), .pointer (some ⟨g.ob n, 0, none⟩), .func (.func ff) first captured] w fun e w' =>
  e = .returned (.tuple #[]) ∧ I S (l0 ++ refsW (A.fields o) ++ refsE o.ents) w' := by
 have ho0 := (hF.rep _ _ _ hI).obj n o (mem_of_lookup hm);obtain ⟨a, cap, hv, hle, hcm, hcase⟩ := ho0.row.slice;have hrefs : Calls Tryz.prog 76 #[.pointer (some ⟨g.hb, 0, none⟩), .pointer (some ⟨g.ob n, 0, none⟩), .func (.func ff) first captured] w fun e w1 =>
  e = .returned (.tuple #[]) ∧ I S (l0 ++ refsW (A.fields o)) w1 ∧ w1.cell? ⟨g.ob n, 4, none⟩ = some (.slice a o.ents.length cap) := by
  refine (refs_any hF hI hm hin hbig (by omega)).mono ?_;rintro e w1 ⟨rfl, h1⟩;refine ⟨rfl, h1, ?_⟩;rw [← hv];exact ((hF.rep _ _ _ h1).obj n o (mem_of_lookup hm)).c 4
 refine ret_k fun K hK => ?_;have hcall := hF.call;have HS := Lib.hid (fun S l n w hl h => hF.step S l n w hl h);have HC := Lib.hid (fun (l : List Int) (wr : World) (h : I S l wr) (k : Nat) (hk : k < o.ents.length) => ((hF.rep _ l wr h).obj n o (mem_of_lookup hm)).entCell hv k hk);obtain ⟨L, hL⟩ : ∃ L, L = l0 ++ refsW (A.fields o) := ⟨_, rfl⟩;have hLl : L.length + 2 * o.ents.length ≤ 500000000000 := by
  have := refsW_len (A.fields o);have := mem_fields_length hin;rw [hL, List.length_append]; omega
 rw [← hL] at hrefs hK;have HK : Hid (∀ w', I S (L ++ refsE (o.ents.take o.ents.length)) w' → Post K (.returned (.tuple #[])) w') := fun w' h => hK _ _ ⟨rfl, by rw [List.take_length] at h; exact h⟩;have HFd := Lib.hid hrefs;clear hrefs hK hm hin hbig ho0 hv hcase hI hL hl0
 go_enter Tryz.func75, Tryz.ntmps75
 go_wp2_with (go_at_call 76; refine HFd.out.mono ?_; rintro e w1 ⟨rfl, hI1, hc4⟩)
 clear HFd
 go_loopw [17] (fun i wr => ∃ k : Nat, k ≤ o.ents.length ∧ i = .int .i64 k ∧ I S (L ++ refsE (o.ents.take k)) wr) (fun i _ => o.ents.length - (intOf i).toNat)
 case atStart => exact ⟨0, Nat.zero_le _, rfl, by simpa [refsE] using hI1⟩
 case round =>
  obtain ⟨k, hk, rfl, hIk⟩ := hrel;clear hI1 hc4;by_cases hlt : k < o.ents.length
  · obtain ⟨b, rfl, _, c0, c1, c2⟩ := HC.out _ _ hIk k hlt;have hsucc := refsE_take_succ o.ents k hlt;have hIa := hF.alloc S _ (.cells #[.int .i64 (o.ents[k]).key, .bool (o.ents[k]).val.ref, .int .i64 (o.ents[k]).val.num] 120) _ hIk;have hstep := HS.out _ _ (o.ents[k]).key _ (by have := refsE_take_len o.ents k; rw [List.length_append]; omega) hIa;have hstep1 : Calls Tryz.prog ff (first ++ #[.int .i64 (o.ents[k]).key] ++ captured) (wr.alloc (.cells #[.int .i64 (o.ents[k]).key, .bool (o.ents[k]).val.ref, .int .i64 (o.ents[k]).val.num] 120)) fun e w' =>
     e = .returned (.tuple #[]) ∧ I S (L ++ refsE (o.ents.take k) ++ [(o.ents[k]).key]) w' ∧ w'.cell? ⟨wr.heap.size, 1, none⟩ = some (.bool (o.ents[k]).val.ref) ∧ w'.cell? ⟨wr.heap.size, 2, none⟩ = some (.int .i64 (o.ents[k]).val.num) := by
     refine hstep.mono ?_;rintro e w' ⟨rfl, h⟩;have hh := hF.hold _ _ _ _ _ h (.inr ⟨rfl, rfl⟩);exact ⟨rfl, hF.weak _ S _ _ h (fun _ _ h => .inl h), cellAt hh 1, cellAt hh 2⟩
    cases hr : (o.ents[k]).val.ref with
    | true =>
      rw [hr] at c1 hstep1 hsucc;simp only [if_true] at hsucc;generalize (o.ents[k]).val.num = m at *;generalize (o.ents[k]).key = q at *;have HSt := Lib.hid hstep1;have HSu := Lib.hid hsucc;have hln : (L ++ refsE (o.ents.take k) ++ [q]).length < 500000000000 := by have := refsE_take_len o.ents k; simp only [List.length_append, List.length_singleton]; omega
      have HLn := Lib.hid hln;clear hstep1 hstep hsucc hIa hIk hr hln
      go_wp2_with (first | (refine HSt.out.mono ?_; rintro e w2 ⟨rfl, hI2, d1, d2⟩) | (refine (HS.out _ _ _ _ HLn.out hI2).mono ?_; rintro e w3 ⟨rfl, hI3⟩))
      go_roundw
      case rel => exact ⟨k + 1, by omega, by go_num, by rw [HSu.out]; simpa using hI3⟩
      case measure => simp [intOf]; omega
    | false =>
      rw [hr] at c1 hstep1 hsucc;simp only [Bool.false_eq_true, if_false] at hsucc;generalize (o.ents[k]).val.num = m at *;generalize (o.ents[k]).key = q at *;have HSt := Lib.hid hstep1;have HSu := Lib.hid hsucc;clear hstep1 hstep hsucc hIa hIk hr
      go_wp2_with (refine HSt.out.mono ?_; rintro e w2 ⟨rfl, hI2, d1, d2⟩)
      go_roundw
      case rel => exact ⟨k + 1, by omega, by go_num, by rw [HSu.out, ← List.append_assoc]; exact hI2⟩
      case measure => simp [intOf]; omega
  · have hke : k = o.ents.length := by omega
    subst hke;have HI := Lib.hid hIk;clear hIk HC;go_wp2
    go_end0
    exact HK.out _ HI.out
theorem call_note1 (args : Array Value) (w : World) : (callFunc 113 args).run Tryz.prog w = .ok (.enter 113 args) w := by kernel_rfl
structure NoteI (w0 : World) (g : Gh) (A : St) (ib cb : Nat) (S : Nat → Obj → Prop) (l : List Int) (w : World) : Prop where
 rep : Rep w g A
 hold : ∀ b x, S b x → w.heap[b]? = some x
 hi : w.heap[ib]? = some (.cells #[.bool (l.any A.isYoung)] 4 (0, 0))
 hc : w.heap[cb]? = some (.cells #[.pointer (some ⟨g.hb, 0, none⟩)] 125 (0, 0))
 oib : g.own ib = none
 chg : Chg (fun b => b = ib) w0 w
 free : ∀ x, ¬ S ib x
theorem note1_any {ib cb : Nat} {S : Nat → Obj → Prop} (h : NoteI w0 g A ib cb S l w) (n : Int) :
 Calls Tryz.prog 113 (#[] ++ #[.int .i64 n] ++ #[.pointer (some ⟨ib, 0, none⟩), .pointer (some ⟨cb, 0, none⟩)]) w fun e w' => e = .returned (.tuple #[]) ∧ NoteI w0 g A ib cb S (l ++ [n]) w' := by
 have hne : cb ≠ ib := by
  intro e;have h1 := h.hc;rw [e, h.hi] at h1;simp at h1
 have ci : w.cell? ⟨ib, 0, none⟩ = some (.bool (l.any A.isYoung)) := cellAt h.hi 0;have fi : w.frozen? ⟨ib, 0, none⟩ = false := freeAt h.hi 0;have cc : w.cell? ⟨cb, 0, none⟩ = some (.pointer (some ⟨g.hb, 0, none⟩)) := cellAt h.hc 0;refine ret_k fun K hK => ?_;have HK : Hid (∀ x, x = (l ++ [n]).any A.isYoung → Post K (.returned (.tuple #[])) (w.setCell ⟨ib, 0, none⟩ (.bool x))) := by
  rintro x rfl;have hC : Chg (fun b => b = ib) w (w.setCell ⟨ib, 0, none⟩ (.bool ((l ++ [n]).any A.isYoung))) := (Chg.refl (fun b => b = ib) w).setCell (p := ⟨ib, 0, none⟩) (fun _ => rfl) _;exact hK _ _ ⟨rfl, h.rep.frame hC (fun b hb => by rw [hb]; exact h.oib), fun b x hb => hC.at (h.hold b x hb) (fun e => h.free x (e ▸ hb)), heap_setCell h.hi 0 _, hC.at h.hc hne, h.oib, h.chg.trans hC (fun _ _ h => h), h.free⟩
 have HY := Lib.hid (isYoung_any h.rep n);have HX : Hid ((l ++ [n]).any A.isYoung = (l.any A.isYoung || A.isYoung n)) := by show _ = _; simp
 generalize A.isYoung n = y at *;clear hK hne h;cases hb : l.any A.isYoung with
 | true =>
   rw [hb] at ci HX
   go_enter Tryz.func113, Tryz.ntmps113
   go_wp2_with (go_at_call 72; refine HY.out.mono ?_; rintro e w1 ⟨rfl, rfl⟩)
   go_end0
   exact HK.out _ (by rw [HX.out]; simp)
 | false =>
   rw [hb] at ci HX
   go_enter Tryz.func113, Tryz.ntmps113
   go_wp2_with (go_at_call 72; refine HY.out.mono ?_; rintro e w1 ⟨rfl, rfl⟩)
   go_end0
   exact HK.out _ (by rw [HX.out]; simp)
theorem note_found (ib cb : Nat) : Found g A 113 #[] #[.pointer (some ⟨ib, 0, none⟩), .pointer (some ⟨cb, 0, none⟩)] (NoteI w0 g A ib cb) where
 call := call_note1
 step := fun S l n w _ h => note1_any h n
 rep := fun S l w h => h.rep
 hold := fun S l w b x h hb => h.hold b x hb
 alloc := fun S l o w h => ⟨h.rep.alloc o, fun b x hb => by
  rcases hb with hb | ⟨rfl, rfl⟩
  · exact heap_alloc_old (h.hold b x hb) o
  · exact heap_alloc_new w _, heap_alloc_old h.hi o, heap_alloc_old h.hc o, h.oib, h.chg.alloc o, fun x hx => by
  rcases hx with hx | ⟨hx, _⟩
  · exact h.free x hx
  · have := lt_of_block h.hi; omega⟩
 drew := fun S l n w h => ⟨h.rep.drewN n, h.hold, h.hi, h.hc, h.oib, h.chg.drewN n, h.free⟩
 weak := fun S S' l w h hs => ⟨h.rep, fun b x hb => h.hold b x (hs b x hb), h.hi, h.hc, h.oib, h.chg, fun x hx => h.free x (hs _ _ hx)⟩
def St.refs (A : St) (o : Ob) : List Int := refsW (A.fields o) ++ refsE o.ents
def St.noted (A : St) (n : Int) : St := match A.objs.lookup n with
 | some o => if o.old && (A.refs o).any A.isYoung then (if n ∈ A.rem then A else { A with rem := A.rem ++ [n] }) else { A with rem := A.rem.filter (fun m => decide (m ≠ n)) }
 | none => A
theorem kvsR_put (A : St) (n : Int) : putKV (kvsR A) n (.bool true) = kvsR (if n ∈ A.rem then A else { A with rem := A.rem ++ [n] }) := by
 unfold putKV;have hl : (kvsR A).lookup n = if n ∈ A.rem then some (.bool true) else none := lookup_set A.rem n;rw [hl];by_cases h : n ∈ A.rem
 · simp only [h, if_true, Option.isSome_some, kvsR, List.map_map];apply List.map_congr_left;intro m _;simp only [Function.comp]
   split
   · rename_i e; rw [e]
   · rfl
 · simp [h, kvsR]
theorem kvsR_del (A : St) (n : Int) : delKV (kvsR A) n = kvsR { A with rem := A.rem.filter (fun m => decide (m ≠ n)) } := by
 simp only [delKV, kvsR, List.filter_map];rfl
theorem Rep.setRem (hR : Rep w g A) (hC : Chg (fun b => b = g.mr) w w') (hM : MapAt w' g.mr (l.map fun n => (n, .bool true))) :
 Rep w' g { A with rem := l } ∧ Step w g A w' g := by
 have hCR : ChgR g (fun r => r = .mr) w w' := hC.mono fun b _ hb r hr => by rw [hb, hR.omr] at hr; simpa using hr.symm
 exact ⟨hR.move hCR (fun b hb => Nat.lt_of_lt_of_le (hR.lt b hb) hC.size) (mh := .inl ⟨by simp, rfl⟩) (mr := .inr hM) (obj := fun n o h => .inl ⟨h, rfl, rfl, by simp, by simp⟩),
  ⟨hC.mono fun b _ hb => by rw [hb, hR.omr]; rfl, fun _ _ _ => rfl, rfl, rfl, rfl, rfl, rfl, fun _ _ => rfl⟩⟩
theorem note_any (hR : Rep w g A) (hm : A.objs.lookup n = some o) (hin : o.at_ + 1 + o.size ≤ (A.mem o.old).length) (hbig : (A.mem o.old).length ≤ 1000000000000) (hbe : o.ents.length ≤ 1000000000000) (hl0 : o.size + 2 * o.ents.length ≤ 500000000000) :
 Calls Tryz.prog 64 #[.pointer (some ⟨g.hb, 0, none⟩), .int .i64 n] w fun e w' => e = .returned (.tuple #[]) ∧ Rep w' g (A.noted n) ∧ Step w g A w' g := by
 obtain ⟨w1, hw1⟩ : ∃ w1, w1 = w.alloc (.cells #[.pointer (some ⟨g.hb, 0, none⟩)] 125) := ⟨_, rfl⟩;have hR1 : Rep w1 g A := by rw [hw1]; exact hR.alloc _
 have hlk := lookO_some hR1 hm;obtain ⟨w2, hw2⟩ : ∃ w2, w2 = w1.alloc (.cells #[.bool false] 4) := ⟨_, rfl⟩;have hs1 : w1.heap.size = w.heap.size + 1 := by rw [hw1]; simp
 have hR2 : Rep w2 g A := by rw [hw2]; exact hR1.alloc _
 have own0 : ∀ b, w.heap.size ≤ b → g.own b = none := fun b hb => by
  cases h : g.own b with
  | none => rfl
  | some r => have := hR.lt b (by rw [h]; rfl); omega
 have hI : NoteI w2 g A w1.heap.size w.heap.size (fun _ _ => False) [] w2 := by
  refine ⟨hR2, fun _ _ h => h.elim, ?_, ?_, own0 _ (by omega), Chg.refl _ _, fun _ h => h.elim⟩
  · rw [hw2]; exact heap_alloc_new _ _
  · rw [hw2, hw1]; exact heap_alloc_old (heap_alloc_new _ _) _
 rw [hs1] at hI;have hall := all_any (note_found (w.heap.size + 1) w.heap.size) hI hm hin hbig hbe (by simpa using hl0);have hC2 : Chg (fun _ => False) w w2 := by rw [hw2, hw1]; exact ((Chg.refl _ _).alloc _).alloc _
 have c1 : w1.cell? ⟨g.hb, 0, none⟩ = some (.map (some g.mo)) := hR1.c 0;refine ret_k fun K hK => ?_;have hall2 : Calls Tryz.prog 75 #[.pointer (some ⟨g.hb, 0, none⟩), .pointer (some ⟨g.ob n, 0, none⟩), .func (.func 113) #[] #[.pointer (some ⟨w.heap.size + 1, 0, none⟩), .pointer (some ⟨w.heap.size, 0, none⟩)]] w2 fun e w3 =>
  e = .returned (.tuple #[]) ∧ (w3.cell? ⟨w.heap.size + 1, 0, none⟩ = some (.bool ((A.refs o).any A.isYoung)) ∧ w3.cell? ⟨w.heap.size, 0, none⟩ = some (.pointer (some ⟨g.hb, 0, none⟩)) ∧ w3.cell? ⟨g.hb, 8, none⟩ = some (.map (some g.mr)) ∧ w3.cell? ⟨g.ob n, 2, none⟩ = some (.bool o.old)) ∧
  Hid (∃ w4, (Instr.mapUpdate 68 (.map (some g.mr)) (.int .i64 n) (.bool true)).run Tryz.prog w3 = .ok () w4 ∧ ((o.old && (A.refs o).any A.isYoung) = true → Post K (.returned (.tuple #[])) w4)) ∧
  Hid (∃ w4, (Builtin.delete_ #[68, 3] 0 #[.map (some g.mr), .int .i64 n]).run Tryz.prog w3 = .ok (.tuple #[]) w4 ∧ ((o.old && (A.refs o).any A.isYoung) = false → Post K (.returned (.tuple #[])) w4)) := by
  refine hall.mono ?_;rintro e w3 ⟨rfl, h3⟩;have hC3 : Chg (fun _ => False) w w3 := hC2.trans h3.chg (fun j hj hb => by omega);have ho3 := h3.rep.obj n o (mem_of_lookup hm);have hrefs : ([] ++ refsW (A.fields o) ++ refsE o.ents) = A.refs o := rfl;have hi3 := h3.hi;rw [hrefs] at hi3;refine ⟨rfl, ⟨cellAt hi3 0, cellAt h3.hc 0, h3.rep.c 8, ho3.c 2⟩, ?_, ?_⟩
  · obtain ⟨o', hrun, hM⟩ := run_mapUpdate_map (P := Tryz.prog) h3.rep.mr uMapB uInt n (.bool true);rw [kvsR_put] at hM;refine ⟨_, hrun, fun hb => ?_⟩;have hs := h3.rep.setRem (l := (if n ∈ A.rem then A else { A with rem := A.rem ++ [n] }).rem) (chg_put1 _ _ _) hM;refine hK _ _ ⟨rfl, ?_, ?_⟩
    · have : A.noted n = { A with rem := (if n ∈ A.rem then A else { A with rem := A.rem ++ [n] }).rem } := by
       simp only [St.noted, hm, hb, if_true]
       split <;> rfl
      rw [this]; exact hs.1
    · exact Step.trans (A' := A) ⟨hC3.mono fun _ _ h => h.elim, fun _ _ _ => rfl, rfl, rfl, rfl, rfl, rfl, fun _ _ => rfl⟩ hs.2 (Int.le_refl _)
  · obtain ⟨es, clock, hes, hrun, hM⟩ := run_delete_map (P := Tryz.prog) h3.rep.mr uMapB uInt 0 n;rw [kvsR_del] at hM;refine ⟨_, hrun, fun hb => ?_⟩;have hs := h3.rep.setRem (l := A.rem.filter (fun m => decide (m ≠ n))) (chg_put1 _ _ _) hM;refine hK _ _ ⟨rfl, ?_, ?_⟩
    · have : A.noted n = { A with rem := A.rem.filter (fun m => decide (m ≠ n)) } := by simp [St.noted, hm, hb]
      rw [this]; exact hs.1
    · exact Step.trans (A' := A) ⟨hC3.mono fun _ _ h => h.elim, fun _ _ _ => rfl, rfl, rfl, rfl, rfl, rfl, fun _ _ => rfl⟩ hs.2 (Int.le_refl _)
 have HA := Lib.hid hall2;clear hall hall2 hI hK hR hR1 hm hin hbig hbe hC2 own0 hR2;generalize (A.refs o).any A.isYoung = y at *;generalize o.old = od at *;subst hw2;subst hw1;cases y <;> cases od
 all_goals
  go_enter Tryz.func64, Tryz.ntmps64
  go_wp2_with (go_at_call 75; refine HA.out.mono ?_; rintro e w3 ⟨rfl, ⟨d1, d2, d3, d4⟩, hU, hD⟩; obtain ⟨w4, hrunU, hpU⟩ := hU.out; obtain ⟨w5, hrunD, hpD⟩ := hD.out; have HpU := Lib.hid hpU; have HpD := Lib.hid hpD; clear hpU hpD)
  go_end0
  first | exact HpU.out rfl | exact HpD.out rfl
theorem call_see (args : Array Value) (w : World) : (callFunc 73 args).run Tryz.prog w = .ok (.enter 73 args) w := by kernel_rfl
def seeL (p : List Int × List Int) (l : List Int) : List Int × List Int := l.foldl (fun p n => (seeS p.1 n, seeT p.1 p.2 n)) p
theorem seeL_snoc (p : List Int × List Int) (l : List Int) (n : Int) : seeL p (l ++ [n]) = (seeS (seeL p l).1 n, seeT (seeL p l).1 (seeL p l).2 n) := by simp [seeL]
theorem seeT_len (S T : List Int) (n : Int) : (seeT S T n).length ≤ T.length + 1 := by unfold seeT; split <;> simp
theorem seeL_len (p : List Int × List Int) (l : List Int) : (seeL p l).2.length ≤ p.2.length + l.length := by
 induction l generalizing p with
 | nil => simp [seeL]
 | cons n l ih =>
   have := ih (seeS p.1 n, seeT p.1 p.2 n);have := seeT_len p.1 p.2 n;simp only [seeL, List.foldl_cons, List.length_cons] at *;omega
structure SeeI (w0 : World) (k0 : WkG) (S0 T0 : List Int) (g : Gh) (A : St) (X : Nat → Obj → Prop) (l : List Int) (w : World) (k : WkG) : Prop where
 wk : Wk w k (seeL (S0, T0) l).1 (seeL (S0, T0) l).2
 st : WkStep w0 k0 w k
 rep : Rep w g A
 hold : ∀ b x, X b x → w.heap[b]? = some x
 off : ∀ b x, X b x → ¬ k.blk b
 own : ∀ b, k.blk b → g.own b = none
theorem Rep.own_new (hR : Rep w g A) (hb : w.heap.size ≤ b) : g.own b = none := by
 cases h : g.own b with
 | none => rfl
 | some r => have := hR.lt b (by rw [h]; rfl); omega
theorem see_found (w0 : World) (k0 : WkG) (S0 T0 : List Int) (hT0 : T0.length ≤ 400000000000) (g : Gh) (A : St) :
 Found g A 73 #[.pointer (some ⟨k0.wb, 0, none⟩)] #[] (fun X l w => ∃ k, SeeI w0 k0 S0 T0 g A X l w k) where
 call := call_see
 step := fun X l n w hl ⟨k, h⟩ => by
  have hlen := seeL_len (S0, T0) l;simp only at hlen;have hs := see_any h.wk n (by omega);rw [h.st.wb] at hs;refine hs.mono ?_;rintro e w' ⟨rfl, k', hk, hst⟩;refine ⟨rfl, k', ?_, h.st.trans hst, h.rep.frame hst.chg h.own, fun b x hb => hst.chg.at (h.hold b x hb) (h.off b x hb), ?_, ?_⟩
  · rw [seeL_snoc]; exact hk
  · intro b x hb hkb;rcases hst.loc b hkb with h1 | h1
    · exact h.off b x hb h1
    · have := lt_of_block (h.hold b x hb); omega
  · intro b hb;rcases hst.loc b hb with h1 | h1
    · exact h.own b h1
    · exact h.rep.own_new h1
 rep := fun X l w ⟨k, h⟩ => h.rep
 hold := fun X l w b x ⟨k, h⟩ hb => h.hold b x hb
 alloc := fun X l o w ⟨k, h⟩ => ⟨k, h.wk.chg (F := fun _ => False) ((Chg.refl _ _).alloc o) (fun _ _ h => h), ⟨h.st.chg.alloc o, h.st.wb, h.st.ms, h.st.loc⟩, h.rep.alloc o, fun b x hb => by
  rcases hb with hb | ⟨rfl, rfl⟩
  · exact heap_alloc_old (h.hold b x hb) o
  · exact heap_alloc_new w _, fun b x hb hkb => by
  rcases hb with hb | ⟨rfl, rfl⟩
  · exact h.off b x hb hkb
  · have := h.wk.lt hkb; omega, h.own⟩
 drew := fun X l n w ⟨k, h⟩ => ⟨k, h.wk.same (fun _ _ => rfl), ⟨h.st.chg.drewN n, h.st.wb, h.st.ms, h.st.loc⟩, h.rep.drewN n, h.hold, h.off, h.own⟩
 weak := fun X X' l w ⟨k, h⟩ hs => ⟨k, h.wk, h.st, h.rep, fun b x hb => h.hold b x (hs b x hb), fun b x hb => h.off b x (hs b x hb), h.own⟩
inductive Reach (A : St) (from_ : List Int) : Int → Prop
 | root {n : Int} : n ∈ from_ → Reach A from_ n
 | field {n m : Int} {o : Ob} : Reach A from_ n → A.objs.lookup n = some o → o.table = false → m ∈ refsW (A.fields o) → Reach A from_ m
 | entry {t : Int} {o : Ob} {x : En} : Reach A from_ t → A.objs.lookup t = some o → o.table = true → x ∈ o.ents → Reach A from_ x.key → x.val.ref = true → Reach A from_ x.val.num
def Closed (A : St) : Prop := ∀ n o, A.objs.lookup n = some o → ∀ m ∈ A.refs o, (A.objs.lookup m).isSome
structure Fit (A : St) : Prop where
 inn : ∀ n o, A.objs.lookup n = some o → o.at_ + 1 + o.size ≤ (A.mem o.old).length
 size : ∀ n o, A.objs.lookup n = some o → o.size ≤ 1000
 ents : ∀ n o, A.objs.lookup n = some o → o.ents.length ≤ 1000
 memN : A.memN.length ≤ 100000000000
 memT : A.memT.length ≤ 100000000000
 many : A.objs.length ≤ 1000000000
 nodup : (A.objs.map (·.1)).Nodup
theorem mem_seeS : m ∈ seeS S n ↔ m ∈ S ∨ m = n := by
 unfold seeS
 split
 · rename_i h
   constructor
   · exact fun h => .inl h
   · rintro (h1 | rfl)
     · exact h1
     · exact h
 · simp
theorem mem_seeL (p : List Int × List Int) (l : List Int) (m : Int) : m ∈ (seeL p l).1 ↔ m ∈ p.1 ∨ m ∈ l := by
 induction l generalizing p with
 | nil => simp [seeL]
 | cons n l ih =>
   have := ih (seeS p.1 n, seeT p.1 p.2 n);simp only [seeL, List.foldl_cons, List.mem_cons] at *;rw [this, mem_seeS, or_assoc]
theorem nodup_seeS (h : S.Nodup) (n : Int) : (seeS S n).Nodup := by
 unfold seeS
 split
 · exact h
 · rename_i hn
   rw [List.nodup_append];refine ⟨h, by simp, ?_⟩;intro a ha b hb;simp only [List.mem_singleton] at hb;subst hb;intro e;exact hn (e ▸ ha)
theorem nodup_seeL {p : List Int × List Int} (h : p.1.Nodup) (l : List Int) : (seeL p l).1.Nodup := by
 induction l generalizing p with
 | nil => simpa [seeL] using h
 | cons n l ih =>
   have := ih (p := (seeS p.1 n, seeT p.1 p.2 n)) (nodup_seeS h n);simpa only [seeL, List.foldl_cons] using this
theorem seeL_grow (p : List Int × List Int) (l : List Int) : ∃ N, (seeL p l).1 = p.1 ++ N ∧ (seeL p l).2 = p.2 ++ N := by
 induction l generalizing p with
 | nil => exact ⟨[], by simp [seeL]⟩
 | cons n l ih =>
   obtain ⟨N, h1, h2⟩ := ih (seeS p.1 n, seeT p.1 p.2 n);simp only [seeL, List.foldl_cons] at *;by_cases hn : n ∈ p.1
   · exact ⟨N, by rw [h1]; simp [seeS, hn], by rw [h2]; simp [seeT, hn]⟩
   · exact ⟨n :: N, by rw [h1]; simp [seeS, hn], by rw [h2]; simp [seeT, hn]⟩
theorem length_le_of_subset {l' : List Int} (h : l.Nodup) (hs : ∀ x ∈ l, x ∈ l') : l.length ≤ l'.length := by
 induction l generalizing l' with
 | nil => simp
 | cons a l ih =>
   have ha := List.nodup_cons.1 h;have hin := hs a (by simp);have := ih (l' := l'.erase a) ha.2 (fun x hx => (List.mem_erase_of_ne (fun e => ha.1 (by rw [← e]; exact hx))).2 (hs x (by simp [hx])));rw [List.length_erase_of_mem hin] at this;have : 0 < l'.length := List.length_pos_of_mem hin;simp only [List.length_cons];omega
structure PI (A : St) (from_ S T Tb : List Int) : Prop where
 nod : S.Nodup
 sub : ∀ n ∈ S, Reach A from_ n
 dom : ∀ n ∈ S, (A.objs.lookup n).isSome
 root : ∀ n ∈ from_, n ∈ S
 todo : ∀ n ∈ T, n ∈ S
 done : ∀ n ∈ S, n ∉ T → ∀ o, A.objs.lookup n = some o → (o.table = true → n ∈ Tb) ∧ (o.table = false → ∀ m ∈ refsW (A.fields o), m ∈ S)
 tabs : ∀ t ∈ Tb, t ∈ S ∧ ∃ o, A.objs.lookup t = some o ∧ o.table = true
 len : Tb.length + T.length ≤ S.length
theorem refs_field (h : m ∈ refsW (A.fields o)) : m ∈ A.refs o := List.mem_append_left _ h
theorem refs_val (h : x ∈ o.ents) (hr : x.val.ref = true) : x.val.num ∈ A.refs o := by
 refine List.mem_append_right _ ?_;simp only [refsE, List.mem_flatMap];exact ⟨x, h, by simp [hr]⟩
theorem PI.start (hd : ∀ n ∈ from_, (A.objs.lookup n).isSome) : PI A from_ (seeL ([], []) from_).1 (seeL ([], []) from_).2 [] := by
 obtain ⟨N, h1, h2⟩ := seeL_grow ([], []) from_;simp only [List.nil_append] at h1 h2;have hm : ∀ m, m ∈ N ↔ m ∈ from_ := fun m => by
  have := mem_seeL ([], []) from_ m;rw [h1] at this;simpa using this
 rw [h2];refine ⟨nodup_seeL (by simp) _, ?_, ?_, ?_, ?_, ?_, by simp, by rw [h1]; simp⟩ <;> rw [h1]
 · exact fun n hn => .root ((hm n).1 hn)
 · exact fun n hn => hd n ((hm n).1 hn)
 · exact fun n hn => (hm n).2 hn
 · exact fun n hn => hn
 · exact fun n hn hnt => absurd hn hnt
theorem PI.bound (h : PI A from_ S T Tb) : S.length ≤ A.objs.length := by
 have := length_le_of_subset (l' := A.objs.map (·.1)) h.nod (fun n hn => by
  obtain ⟨o, ho⟩ := Option.isSome_iff_exists.1 (h.dom n hn);exact List.mem_map.2 ⟨_, mem_of_lookup ho, rfl⟩)
 simpa using this
theorem PI.table (h : PI A from_ S (T ++ [n]) Tb) (ho : A.objs.lookup n = some o) (ht : o.table = true) : PI A from_ S T (Tb ++ [n]) := by
 refine ⟨h.nod, h.sub, h.dom, h.root, fun m hm => h.todo m (by simp [hm]), ?_, ?_, ?_⟩
 · intro m hm hnt o' ho';by_cases e : m = n
   · subst e;rw [ho] at ho';simp only [Option.some.injEq] at ho';subst ho';exact ⟨fun _ => by simp, fun h => by rw [ht] at h; cases h⟩
   · have := h.done m hm (by simp [hnt, e]) o' ho';exact ⟨fun h => by simp [this.1 h], this.2⟩
 · intro t htb;simp only [List.mem_append, List.mem_singleton] at htb;rcases htb with htb | rfl
   · exact h.tabs t htb
   · exact ⟨h.todo t (by simp), o, ho, ht⟩
 · have := h.len;simp only [List.length_append, List.length_singleton] at *;omega
theorem PI.fields (hcl : Closed A) (h : PI A from_ S (T ++ [n]) Tb) (ho : A.objs.lookup n = some o) (ht : o.table = false) :
 PI A from_ (seeL (S, T) (refsW (A.fields o))).1 (seeL (S, T) (refsW (A.fields o))).2 Tb := by
 obtain ⟨N, h1, h2⟩ := seeL_grow (S, T) (refsW (A.fields o));have hm : ∀ m, m ∈ (seeL (S, T) (refsW (A.fields o))).1 ↔ m ∈ S ∨ m ∈ refsW (A.fields o) := fun m => mem_seeL (S, T) _ m;have hnS : n ∈ S := h.todo n (by simp);have hN : ∀ m ∈ N, m ∈ S ∨ m ∈ refsW (A.fields o) := fun m hm' => (hm m).1 (by rw [h1]; simp [hm']);refine ⟨nodup_seeL h.nod _, ?_, ?_, ?_, ?_, ?_, ?_, ?_⟩
 · intro m hm';rcases (hm m).1 hm' with h' | h'
   · exact h.sub m h'
   · exact .field (h.sub n hnS) ho ht h'
 · intro m hm';rcases (hm m).1 hm' with h' | h'
   · exact h.dom m h'
   · exact hcl n o ho m (refs_field h')
 · exact fun m hm' => (hm m).2 (.inl (h.root m hm'))
 · intro m hm';rw [h2] at hm';rw [h1];simp only [List.mem_append] at *;rcases hm' with h' | h'
   · exact .inl (h.todo m (by simp [h']))
   · exact .inr h'
 · intro m hm' hnt o' ho';rw [h2] at hnt;rw [h1] at hm';simp only [List.mem_append, not_or] at hnt hm';have hmS : m ∈ S := hm'.resolve_right hnt.2;by_cases e : m = n
   · subst e;rw [ho] at ho';simp only [Option.some.injEq] at ho';subst ho';exact ⟨fun h => (by rw [ht] at h; cases h), fun _ q hq => (hm q).2 (.inr hq)⟩
   · have := h.done m hmS (by simp [hnt.1, e]) o' ho';exact ⟨this.1, fun hf q hq => (hm q).2 (.inl (this.2 hf q hq))⟩
 · intro t htb;obtain ⟨a, b⟩ := h.tabs t htb;exact ⟨(hm t).2 (.inl a), b⟩
 · have := h.len;rw [h1, h2];simp only [List.length_append, List.length_singleton] at *;omega
theorem PI.see (hcl : Closed A) (h : PI A from_ S T Tb) {t : Int} (htb : t ∈ Tb) (ho : A.objs.lookup t = some o) (hx : x ∈ o.ents) (hk : x.key ∈ S) (hr : x.val.ref = true) :
 PI A from_ (seeS S x.val.num) (seeT S T x.val.num) Tb := by
 obtain ⟨htS, o', ho', htt⟩ := h.tabs t htb;rw [ho] at ho';simp only [Option.some.injEq] at ho';subst ho';have hreach : Reach A from_ x.val.num := .entry (h.sub t htS) ho htt hx (h.sub _ hk) hr;have hdom := hcl t o ho _ (refs_val hx hr);by_cases hin : x.val.num ∈ S
 · simpa [seeS, seeT, hin] using h
 · refine ⟨nodup_seeS h.nod _, ?_, ?_, ?_, ?_, ?_, ?_, ?_⟩ <;> simp only [seeS, seeT, if_neg hin]
   · intro m hm;simp only [List.mem_append, List.mem_singleton] at hm;rcases hm with hm | rfl
     · exact h.sub m hm
     · exact hreach
   · intro m hm;simp only [List.mem_append, List.mem_singleton] at hm;rcases hm with hm | rfl
     · exact h.dom m hm
     · exact hdom
   · exact fun m hm => by simp [h.root m hm]
   · intro m hm;simp only [List.mem_append, List.mem_singleton] at *;exact hm.imp (h.todo m) id
   · intro m hm hnt o' ho';simp only [List.mem_append, List.mem_singleton, not_or] at hm hnt;have := h.done m (hm.resolve_right hnt.2) hnt.1 o' ho';exact ⟨this.1, fun hf q hq => by simp [this.2 hf q hq]⟩
   · intro t' ht';obtain ⟨a, b⟩ := h.tabs t' ht';exact ⟨by simp [a], b⟩
   · have := h.len;simp only [List.length_append, List.length_singleton] at *;omega
theorem PI.closed (h : PI A from_ S [] Tb) (hc : ∀ t ∈ Tb, ∀ o, A.objs.lookup t = some o → ∀ x ∈ o.ents, x.key ∈ S → x.val.ref = true → x.val.num ∈ S) (n : Int) : n ∈ S ↔ Reach A from_ n := by
 refine ⟨h.sub n, fun hr => ?_⟩
 induction hr with
 | root hn => exact h.root _ hn
 | field _ ho ht hm ih => exact (h.done _ ih (by simp) _ ho).2 ht _ hm
 | entry _ ho ht hx _ hr ih1 ih2 => exact hc _ ((h.done _ ih1 (by simp) _ ho).1 ht) _ ho _ hx ih2 hr
structure RI (w : World) (g : Gh) (A : St) (wb ms : Nat) (wr : World) (kg : WkG) (vtb : Value) (S T Tb : List Int) : Prop where
 wk : Wk wr kg S T
 kwb : kg.wb = wb
 kms : kg.ms = ms
 rep : Rep wr g A
 old : Chg (fun _ => False) w wr
 new : ∀ b, kg.blk b → w.heap.size ≤ b
 tb : Row wr 3 1 vtb Tb.length (intCells Tb)
 tbn : ∀ b, rowBlk vtb = some b → w.heap.size ≤ b ∧ ¬ kg.blk b
theorem RI.alloc {kg : WkG} (h : RI w g A wb ms wr kg vtb S T Tb) (o : Obj) : RI w g A wb ms (wr.alloc o) kg vtb S T Tb :=
 ⟨h.wk.chg (F := fun _ => False) ((Chg.refl _ _).alloc o) (fun _ _ h => h), h.kwb, h.kms, h.rep.alloc o, h.old.alloc o, h.new, h.tb.same fun b hb => by rw [heap_alloc, if_neg (by have := h.tb.lt hb; omega)], h.tbn⟩
theorem RI.drewN {kg : WkG} (h : RI w g A wb ms wr kg vtb S T Tb) (n : Nat) : RI w g A wb ms (wr.drewN n) kg vtb S T Tb :=
 ⟨h.wk.same (fun _ _ => rfl), h.kwb, h.kms, h.rep.drewN n, h.old.drewN n, h.new, h.tb.same (fun _ _ => rfl), h.tbn⟩
theorem RI.own (hR : Rep w g A) {kg : WkG} (h : RI w g A wb ms wr kg vtb S T Tb) (b : Nat) (hb : kg.blk b) : g.own b = none :=
 hR.own_new (h.new b hb)
theorem RI.see (hR : Rep w g A) {kg : WkG} (h : RI w g A wb ms wr kg vtb S T Tb) (n : Int) (hT : T.length < 1000000000000) :
 Calls Tryz.prog 73 #[.pointer (some ⟨wb, 0, none⟩), .int .i64 n] wr fun e w' => e = .returned (.tuple #[]) ∧ ∃ kg', RI w g A wb ms w' kg' vtb (seeS S n) (seeT S T n) Tb := by
 have hs := see_any h.wk n hT;rw [h.kwb] at hs;refine hs.mono ?_;rintro e w' ⟨rfl, k', hk, hst⟩;refine ⟨rfl, k', hk, hst.wb.trans h.kwb, hst.ms.trans h.kms, h.rep.frame hst.chg (h.own hR), h.old.trans hst.chg (fun j hj hb => by have := h.new j hb; omega), ?_, ?_, ?_⟩
 · intro b hb;rcases hst.loc b hb with h1 | h1
   · exact h.new b h1
   · exact Nat.le_trans h.old.size h1
 · exact h.tb.same fun b hb => hst.chg.block b (h.tb.lt hb) (h.tbn b hb).2
 · intro b hb;refine ⟨(h.tbn b hb).1, fun hkb => ?_⟩;rcases hst.loc b hkb with h1 | h1
   · exact (h.tbn b hb).2 h1
   · have := h.tb.lt hb; omega
theorem RI.refs (hR : Rep w g A) {kg : WkG} (h : RI w g A wb ms wr kg vtb S T Tb) (hT : T.length ≤ 400000000000) (hf : Fit A) (hm : A.objs.lookup n = some o) :
 Calls Tryz.prog 76 #[.pointer (some ⟨g.hb, 0, none⟩), .pointer (some ⟨g.ob n, 0, none⟩), .func (.func 73) #[.pointer (some ⟨wb, 0, none⟩)] #[]] wr fun e w' =>
  e = .returned (.tuple #[]) ∧ ∃ kg', RI w g A wb ms w' kg' vtb (seeL (S, T) (refsW (A.fields o))).1 (seeL (S, T) (refsW (A.fields o))).2 Tb := by
 have hF := see_found wr kg S T hT g A;rw [h.kwb] at hF;have h0 : ∃ k, SeeI wr kg S T g A (fun b x => wr.heap[b]? = some x ∧ rowBlk vtb = some b) [] wr k :=
  ⟨kg, by simpa [seeL] using h.wk, WkStep.refl _ _, h.rep, fun b x hb => hb.1, fun b x hb => (h.tbn b hb.2).2, h.own hR⟩
 have hi := hf.inn n o hm;have hs := hf.size n o hm;have hmm : (A.mem o.old).length ≤ 100000000000 := by
  unfold St.mem
  split
  · exact hf.memT
  · exact hf.memN
 refine (refs_any hF h0 hm hi (by omega) (by simp; omega)).mono ?_;rintro e w' ⟨rfl, k, hk⟩;simp only [List.nil_append] at hk;refine ⟨rfl, k, hk.wk, hk.st.wb.trans h.kwb, hk.st.ms.trans h.kms, hk.rep, h.old.trans hk.st.chg (fun j hj hb => by have := h.new j hb; omega), ?_, ?_, ?_⟩
 · intro b hb;rcases hk.st.loc b hb with h1 | h1
   · exact h.new b h1
   · exact Nat.le_trans h.old.size h1
 · exact h.tb.same fun b hb => hk.st.chg.block b (h.tb.lt hb) (h.tbn b hb).2
 · intro b hb;refine ⟨(h.tbn b hb).1, fun hkb => ?_⟩;rcases hk.st.loc b hkb with h1 | h1
   · exact (h.tbn b hb).2 h1
   · have := h.tb.lt hb; omega
theorem RI.pop (hR : Rep w g A) {kg : WkG} (h : RI w g A wb ms wr kg vtb S (T ++ [n]) Tb) {cap : Nat} (hv : kg.vt = .slice a (T.length + 1) cap) :
 RI w g A wb ms (wr.setCell ⟨wb, 1, none⟩ (.slice a T.length cap)) { kg with vt := .slice a T.length cap } vtb S T Tb := by
 have hC : Chg (fun b => b = wb) wr (wr.setCell ⟨wb, 1, none⟩ (.slice a T.length cap)) := chg_set1 _ _ _ _;have hwbk : kg.blk wb := .inl h.kwb.symm;have hrow := h.wk.row;rw [hv, List.length_append, List.length_singleton] at hrow;have hsh := hrow.shrink T.length (by omega);have e1 : (intCells (T ++ [n])).take (T.length * 1) = intCells T := by simp [intCells]
 rw [e1] at hsh;have hrb : ∀ b, rowBlk (.slice a T.length cap) = some b → rowBlk kg.vt = some b := fun b hb => by
  rw [hv];cases a <;> cases cap <;> simp [rowBlk] at hb ⊢
  exact hb
 have hblk : ∀ b, ({ kg with vt := .slice a T.length cap } : WkG).blk b → kg.blk b := fun b hb => by
  rcases hb with h1 | h1 | h1
  · exact .inl h1
  · exact .inr (.inl h1)
  · exact .inr (.inr (hrb b h1))
 have hne : ∀ b, rowBlk (.slice a T.length cap) = some b → b ≠ wb := fun b hb => by
  rw [← h.kwb]; exact h.wk.rowwb (hrb b hb)
 refine ⟨⟨?_, ?_, ?_⟩, h.kwb, h.kms, h.rep.frame hC (fun b hb => by rw [hb]; exact h.own hR _ hwbk), h.old.trans hC (fun j hj hb => by subst hb; have := h.new _ hwbk; omega), fun b hb => h.new b (hblk b hb), ?_, fun b hb => ⟨(h.tbn b hb).1, fun hk => (h.tbn b hb).2 (hblk b hk)⟩⟩
 · have := heap_setCell h.wk.wb 1 (.slice a T.length cap);rw [h.kwb] at this ⊢;exact this
 · exact h.wk.ms.same (heap_setCell_ne (by rw [← h.kwb]; exact fun e => h.wk.wbms e.symm) _)
 · exact hsh.same fun b hb => heap_setCell_ne (hne b hb) _
 · exact h.tb.same fun b hb => heap_setCell_ne (fun e => (h.tbn b hb).2 (by have e' : b = wb := e; rw [e']; exact hwbk)) _
theorem RI.push (hR : Rep w g A) {kg : WkG} (h : RI w g A wb ms wr kg vtb S T Tb) (n : Int) (hT : Tb.length < 1000000000000) :
 ∃ a cap w', (Builtin.append_ #[23, 23] 23 #[vtb, .slice (some ⟨wr.heap.size, 0, none⟩) 1 1]).run Tryz.prog (wr.alloc (.cells #[.int .i64 n] 3)) = .ok (.slice a (Tb.length + 1) cap) w' ∧
   RI w g A wb ms w' kg (.slice a (Tb.length + 1) cap) S T (Tb ++ [n]) := by
 obtain ⟨i0, hi, hz0, hz1, hz2⟩ := info_parts iInt;have h1 := h.alloc (.cells #[.int .i64 n] 3);have hsrc : Src' (wr.alloc (.cells #[.int .i64 n] 3)) 1 (.slice (some ⟨wr.heap.size, 0, none⟩) 1 1) 1 [.int .i64 n] := src_block (heap_alloc_new _ _) (by simp) (by simp);obtain ⟨v3, w3, happ, hrow3, hC3, hloc3⟩ := run_append_row (P := Tryz.prog) 23 23 3 i0 _ 1 8 uInts hi hz0 hz1 hz2 rfl (by decide) h1.tb hsrc (by simp [Value.oneCell']) (by unfold maxLen; omega) (by omega);obtain ⟨a3, cap3, rfl, -⟩ := hrow3.slice
 refine ⟨a3, cap3, w3, happ, h1.wk.chg hC3 (fun b hb h2 => (h1.tbn b h2).2 hb), h1.kwb, h1.kms, h1.rep.frame hC3 (fun b hb => hR.own_new (h1.tbn b hb).1), h1.old.trans hC3 (fun j hj hb => by have := (h1.tbn j hb).1; omega), h1.new, ?_, ?_⟩
 · rw [List.length_append, List.length_singleton];have : intCells (Tb ++ [n]) = intCells Tb ++ [.int .i64 n] := by simp [intCells]
   rw [this];exact hrow3
 · intro b hb;rcases hloc3 b hb with h2 | h2
   · exact h1.tbn b h2
   · exact ⟨Nat.le_trans h1.old.size h2, fun hk => by have := h1.wk.lt hk; omega⟩
theorem Wk.look {k : WkG} (h : Wk w k S T) (n : Int) : (Instr.lookup 68 (.map (some k.ms)) (.int .i64 n) false).run Tryz.prog w = .ok (.bool (decide (n ∈ S))) w := by
 have hl := run_lookup_map (P := Tryz.prog) h.ms uMapB uInt zBool n false;rw [lookup_set] at hl;rw [hl];by_cases hn : n ∈ S <;> simp [hn]
end Go.Proofs.YtelghmmcbgfjnaaGreat
