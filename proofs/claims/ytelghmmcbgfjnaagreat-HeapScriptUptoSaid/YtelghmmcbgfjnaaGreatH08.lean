/-
  An object's entries turned; the walk of forget. (A part of the proof, joined of: Wq, Wr; made smaller.)
-/
import Derived.Test.YtelghmmcbgfjnaaGreatH07
set_option maxHeartbeats 2000000
set_option maxRecDepth 100000
namespace Go.Proofs.YtelghmmcbgfjnaaGreat
variable {A : St} {cb r : Nat} {g : Gh} {k : Int} {o : Ob} {p : Int → Bool} {v1 : Value} {w w' wr : World}
open Go.RowKit
theorem lab0_chg2 {vQ : Value} {r rx : Role} {x : Nat} (hx : g.own x = some rx) (hrow : ∀ b, rowBlk vQ = some b → g.own b = some r) (hloc : ∀ b, rowBlk v1 = some b → g.own b = some r ∨ g.own b = none)
 (hC : Chg (fun b => b = x ∨ rowBlk vQ = some b) w w') : ChgR { g with own := fun b => if b < w.heap.size then g.lab v1 r b else none } (fun y => y = rx ∨ y = r) w w' ∧ Chg (fun b => (g.own b).isSome) w w' := by
 constructor
 · refine hC.mono fun b hb h y hy => ?_;simp only [if_pos hb] at hy;have hk : ∀ z, g.own b = some z → z = y := fun z hz => by
    unfold Gh.lab at hy
    split at hy
    · rename_i h2
      rcases hloc b h2 with h' | h'
      · rw [h'] at hz; simp only [Option.some.injEq] at hz hy; rw [← hz, hy]
      · rw [h'] at hz; cases hz
    · rw [hz] at hy; simpa using hy
   rcases h with rfl | h
   · exact .inl (hk _ hx).symm
   · exact .inr (hk _ (hrow b h)).symm
 · refine hC.mono fun b _ h => ?_;rcases h with rfl | h
   · rw [hx]; rfl
   · rw [hrow b h]; rfl
def Gh.setE (g : Gh) (n : Int) (v : Value) : Gh := { g with vE := fun m => if m = n then v else g.vE m, own := g.lab v (.ents n) }
theorem Rep.setEnts {w0 : World} {g0 : Gh} {A0 : St} (hR : Rep w g A) (hS : Step w0 g0 A0 w g) {n : Int} (hm : A.objs.lookup n = some o) {l : List En} 
 (hC : Chg (fun b => b = g.ob n ∨ rowBlk (g.vE n) = some b) w w')
 (hb : w'.heap[g.ob n]? = some (.cells ((obCells g n o).setIfInBounds 4 v1) 110 (0, 0)))
 (hrow : Row w' 120 3 v1 l.length (enCells l)) (hloc : ∀ b, rowBlk v1 = some b → g.own b = some (.ents n) ∨ (g.own b = none ∧ w0.heap.size ≤ b)) :
 Rep w' (g.setE n v1) (A.setOb n { o with ents := l }) ∧ Step w0 g0 A0 w' (g.setE n v1) := by
 have ho := hR.obj n o (mem_of_lookup hm);have hloc' : ∀ b, rowBlk v1 = some b → g.own b = some (.ents n) ∨ g.own b = none := fun b hb => (hloc b hb).imp id (·.1);obtain ⟨h1, h2⟩ := lab0_chg2 ho.own ho.rown hloc' hC;refine ⟨?_, hS.fin h2 hloc rfl rfl rfl rfl rfl rfl rfl⟩;refine (hR.lab0 hloc').move h1 (lab_lt hR hC.size (fun b hb => hrow.lt hb)) (fun b hb => by simp [if_pos hb, Gh.setE]) (mo := .inl ⟨by simp, kvsO_setOb _ A n _⟩) (mh := .inl ⟨by simp, rfl⟩) (mr := .inl ⟨by simp, rfl⟩) (obj := ?_);intro m x hx;rcases mem_setOb hx with ⟨rfl, rfl⟩ | ⟨hne, hx⟩
 · right;refine ⟨?_, ?_, ?_, ?_⟩
   · show g.lab v1 (.ents m) (g.ob m) = _;unfold Gh.lab
     split
     · rename_i h
       rcases hloc _ h with h' | ⟨h', _⟩
       · rw [ho.own] at h'; cases h'
       · rw [ho.own] at h'; cases h'
     · exact ho.own
   · show w'.heap[g.ob m]? = _;rw [hb];simp [obCells, Gh.setE]
   · show Row w' _ 3 (if m = m then v1 else g.vE m) _ _;rw [if_pos rfl]; exact hrow
   · intro b hb';have hb2 : rowBlk (if m = m then v1 else g.vE m) = some b := hb';rw [if_pos rfl] at hb2;show g.lab v1 (.ents m) b = _;simp [Gh.lab, hb2]
 · left;exact ⟨hx, rfl, by simp [Gh.setE, hne], by simpa using hne, by simpa using hne⟩
structure FgI (g : Gh) (A : St) (cb : Nat) (w : World) : Prop where
 cb : w.heap[cb]? = some (.cells #[.pointer (some ⟨g.hb, 0, none⟩)] 125 (0, 0))
 hs : w.cell? ⟨g.hb, 0, none⟩ = some (.map (some g.mo))
 hl : g.hb < w.heap.size
 mo : MapAt w g.mo (kvsO g A)
theorem forget1_any (h : FgI g A cb w) (x : En) :
 Calls Tryz.prog 116 #[En.value x, .pointer (some ⟨cb, 0, none⟩)] w fun e w' => e = .returned (.bool (A.objs.lookup x.key).isNone) ∧ Chg (fun _ => False) w w' := by
 obtain ⟨W, hW⟩ : ∃ W, W = w.alloc (.cells #[.int .i64 x.key, .bool x.val.ref, .int .i64 x.val.num] 120) := ⟨_, rfl⟩;have hC : Chg (fun _ => False) w W := by rw [hW]; exact (Chg.refl _ _).alloc _
 have hcb := h.cb;have c0 : W.cell? ⟨cb, 0, none⟩ = some (.pointer (some ⟨g.hb, 0, none⟩)) := cellAt (hC.at hcb (fun h => h)) 0;have c1 : W.cell? ⟨g.hb, 0, none⟩ = some (.map (some g.mo)) := by
  have := h.hs;unfold World.cell? at this ⊢;rw [hC.block g.hb h.hl (fun h => h)];exact this
 have c2 : W.cell? ⟨w.heap.size, 0, none⟩ = some (.int .i64 x.key) := by rw [hW]; exact cellAt (heap_alloc_new _ _) 0
 have hmo : MapAt W g.mo (kvsO g A) := h.mo.same (hC.block g.mo h.mo.lt (fun h => h));have hlk : ∀ k, (Instr.lookup 64 (.map (some g.mo)) (.int .i64 x.key) false).run Tryz.prog (W.drewN k) = .ok (if (A.objs.lookup x.key).isNone then .pointer none else .pointer (some ⟨g.ob x.key, 0, none⟩)) (W.drewN k) := fun k => by
  rw [run_lookup_map (hmo.same rfl : MapAt (W.drewN k) g.mo (kvsO g A)) uMapO uInt zObj x.key false, kvsO_lookup];cases A.objs.lookup x.key <;> simp
 have HC := Lib.hid hC;unfold En.value;generalize hxr : x.val.ref = xr at *;generalize x.val.num = xn at *;generalize x.key = xk at *;generalize hy : (A.objs.lookup xk).isNone = y at *;clear h hmo hcb hC hy hxr;cases y
 all_goals
  simp only [if_true, if_false, Bool.false_eq_true] at hlk;subst hW
  go_enter Tryz.func116, Tryz.ntmps116
  go_wp2
  go_quiet (fail)
  go_wp2;go_ret;exact ⟨rfl, HC.out.drewN _⟩
def Ob.forgot (A : St) (o : Ob) : Ob := { o with ents := o.ents.filter (fun x => !(A.objs.lookup x.key).isNone) }
def St.forgotTo (A : St) (L : List Int) : St := { A with objs := A.objs.map fun p => if p.1 ∈ L then p else (p.1, p.2.forgot A) }
def St.forgot (A : St) : St := { A with objs := A.objs.map fun p => (p.1, p.2.forgot A) }
theorem forgotTo_nil (A : St) : A.forgotTo [] = A.forgot := by simp [St.forgotTo, St.forgot]
theorem forgotTo_all (A : St) : A.forgotTo (A.objs.map (·.1)) = A := by
 have : (A.objs.map fun p => if p.1 ∈ A.objs.map (·.1) then p else (p.1, p.2.forgot A)) = A.objs := by
  conv => rhs; rw [← List.map_id A.objs]
  apply List.map_congr_left;intro p hp;rw [if_pos (List.mem_map.2 ⟨p, hp, rfl⟩)]; rfl
 simp only [St.forgotTo, this]
theorem eq_of_key (hn : (A.objs.map (·.1)).Nodup) {o' : Ob} (h : (k, o) ∈ A.objs) (h' : (k, o') ∈ A.objs) : o = o' := by
 obtain ⟨i, hi, e⟩ := List.getElem_of_mem h;obtain ⟨j, hj, e'⟩ := List.getElem_of_mem h';have := idx_of_key hn hi hj (by rw [e, e']);subst this;rw [e] at e';simpa using e'
theorem forgotTo_step (hn : (A.objs.map (·.1)).Nodup) {left : List (Int × Ob)} (hk : (k, o) ∈ A.objs) :
 (A.forgotTo (left.map (·.1))).setOb k (o.forgot A) = A.forgotTo ((delO left k).map (·.1)) := by
 simp only [St.forgotTo, St.setOb, List.map_map, St.mk.injEq, and_true];apply List.map_congr_left;rintro ⟨m, x⟩ hp;have hm : m ∈ (delO left k).map (·.1) ↔ m ∈ left.map (·.1) ∧ m ≠ k := by
  simp only [List.mem_map];constructor
  · rintro ⟨⟨a, y⟩, h1, rfl⟩;have := mem_delO.1 h1;exact ⟨⟨_, this.1, rfl⟩, this.2⟩
  · rintro ⟨⟨⟨a, y⟩, h1, rfl⟩, h2⟩;exact ⟨_, mem_delO.2 ⟨h1, h2⟩, rfl⟩
 simp only [Function.comp];by_cases e : m = k
 · subst e;have hx := eq_of_key hn hp hk;subst hx;rw [if_neg (show ¬ m ∈ (delO left m).map (·.1) from fun h => (hm.1 h).2 rfl)]
   split <;> simp
 · by_cases h : m ∈ left.map (·.1)
   · rw [if_pos h, if_neg (by exact e), if_pos (hm.2 ⟨h, e⟩)]
   · rw [if_neg h, if_neg (by exact e), if_neg (fun h' => h (hm.1 h').1)]
theorem lookup_of_mem {l : List (Int × Ob)} (hn : (l.map (·.1)).Nodup) (h : (k, o) ∈ l) : l.lookup k = some o := by
 induction l with
 | nil => cases h
 | cons p l ih =>
   simp only [List.map_cons, List.nodup_cons] at hn;rcases List.mem_cons.1 h with rfl | h
   · simp [List.lookup]
   · have hne : (k == p.1) = false := by
      simp only [beq_eq_false_iff_ne, ne_eq];intro e;exact hn.1 (List.mem_map.2 ⟨_, h, e⟩)
     simp only [List.lookup, hne];exact ih hn.2 h
theorem forgotTo_keys (A : St) (L : List Int) : (A.forgotTo L).objs.map (·.1) = A.objs.map (·.1) := by
 simp only [St.forgotTo, List.map_map];apply List.map_congr_left;intro p _;simp only [Function.comp]
 split <;> rfl
structure FgL (w : World) (g : Gh) (A : St) (cb r : Nat) (left : List (Int × Ob)) (wr : World) (gr : Gh) : Prop where
 rep : Rep wr gr (A.forgotTo (left.map (·.1)))
 step : Step w g A wr gr
 it : IterAt wr r g.mo (kvsO g A) (kvO g left)
 sub : left.Sublist A.objs
 hcb : wr.heap[cb]? = some (.cells #[.pointer (some ⟨g.hb, 0, none⟩)] 125 (0, 0))
 cbn : gr.own cb = none
 rn : gr.own r = none
 ob : gr.ob = g.ob
 ne : cb ≠ r
 rw0 : w.heap.size ≤ r
theorem call_forget1 (args : Array Value) (w : World) : (callFunc 116 args).run Tryz.prog w = .ok (.enter 116 args) w := by kernel_rfl
theorem forget_pred (g : Gh) (A : St) (cb : Nat) : PredK 116 #[] #[.pointer (some ⟨cb, 0, none⟩)] (fun x => (A.objs.lookup x.key).isNone) (fun b => b = cb ∨ b = g.hb ∨ b = g.mo) (FgI g A cb) where
 call := call_forget1
 step := fun w x h => forget1_any h x
 keep := fun F w w' h hC hF => by
  refine ⟨hC.at h.cb (hF _ (.inl rfl)), ?_, Nat.lt_of_lt_of_le h.hl hC.size, h.mo.same (hC.block _ h.mo.lt (hF _ (.inr (.inr rfl))))⟩;have := h.hs;unfold World.cell? at this ⊢;rw [hC.block g.hb h.hl (hF _ (.inr (.inl rfl)))];exact this
theorem FgL.round {left : List (Int × Ob)} {gr : Gh} (h : FgL w g A cb r left wr gr) (hl : left ≠ []) (hn : (A.objs.map (·.1)).Nodup) (hents : ∀ n o, (n, o) ∈ A.objs → o.ents.length ≤ 1000000000000) :
 ∃ k w2 ea en ec, (Instr.next (.pointer (some ⟨r, 0, none⟩)) false 0).run Tryz.prog wr = .ok (.tuple #[.bool true, .int .i64 k, .pointer (some ⟨g.ob k, 0, none⟩)]) w2 ∧
   (Instr.entry (.pointer (some ⟨r, 0, none⟩))).run Tryz.prog w2 = .ok (.tuple #[.int .i64 k, .pointer (some ⟨g.ob k, 0, none⟩)]) w2 ∧ w2.cell? ⟨g.ob k, 4, none⟩ = some (.slice ea en ec) ∧ w2.cell? ⟨cb, 0, none⟩ = some (.pointer (some ⟨g.hb, 0, none⟩)) ∧
   (delO left k).length + 1 = left.length ∧
   Calls Tryz.prog 115 #[.slice ea en ec, .func (.func 116) #[] #[.pointer (some ⟨cb, 0, none⟩)]] w2 fun e w3 =>
    ∃ va vn vc, e = .returned (.slice va vn vc) ∧ (∃ x, w3.cell? ⟨g.ob k, 4, none⟩ = some x) ∧ w3.frozen? ⟨g.ob k, 4, none⟩ = false ∧ Hid (∃ gr', FgL w g A cb r (delO left k) (w3.setCell ⟨g.ob k, 4, none⟩ (.slice va vn vc)) gr') := by
 obtain ⟨k, o, w2, hin, hnext, hit2, hent, hC2⟩ := iterO_more (P := Tryz.prog) h.it hl;have hnd := kvO_nodup h.it.nodup;have hoA : (k, o) ∈ A.objs := h.sub.subset hin;have hR2 : Rep w2 gr (A.forgotTo (left.map (·.1))) := h.rep.frame hC2 (fun b hb => by rw [hb]; exact h.rn);have hmem : (k, o) ∈ (A.forgotTo (left.map (·.1))).objs := List.mem_map.2 ⟨(k, o), hoA, by rw [if_pos (List.mem_map.2 ⟨_, hin, rfl⟩)]⟩;have hob := hR2.obj k o hmem;have hlk : (A.forgotTo (left.map (·.1))).objs.lookup k = some o := lookup_of_mem (by rw [forgotTo_keys]; exact hn) hmem;obtain ⟨ea, ec, hev, _, _, _⟩ := hob.row.slice
 have c4 : w2.cell? ⟨g.ob k, 4, none⟩ = some (.slice ea o.ents.length ec) := by rw [← hev, ← h.ob]; exact hob.c 4
 have hhb : gr.hb = g.hb := h.step.hb;have hmo : gr.mo = g.mo := h.step.mo;have hI : FgI g A cb w2 := by
  refine ⟨hC2.at h.hcb h.ne, ?_, ?_, hit2.map⟩
  · have := hR2.c 0;rw [hhb] at this;rw [this];simp [hsCells, hmo]
  · rw [← hhb]; exact hR2.lt _ (by rw [hR2.ohs]; rfl)
 have hC02 : Chg (fun b => (g.own b).isSome) w w2 := h.step.chg.trans hC2 (fun j hj hjr => by have := h.rw0; omega);have hS2 : Step w g A w2 gr := ⟨hC02, h.step.own, h.step.hb, h.step.mo, h.step.mh, h.step.mr, h.step.lb, h.step.ob⟩;have hrb : ∀ b, rowBlk (gr.vE k) = some b → b ≠ cb ∧ b ≠ g.hb ∧ b ≠ g.mo ∧ b ≠ r ∧ b ≠ gr.ob k := fun b hb => by
  have ho := hob.rown b hb;refine ⟨?_, ?_, ?_, ?_, ?_⟩
  · rintro rfl; rw [h.cbn] at ho; cases ho
  · rintro rfl; rw [← hhb, hR2.ohs] at ho; cases ho
  · rintro rfl; rw [← hmo, hR2.omo] at ho; cases ho
  · rintro rfl; rw [h.rn] at ho; cases ho
  · rintro rfl; rw [hob.own] at ho; cases ho
 have hdf := deleteFunc_any (forget_pred g A cb) hI hob.row (hents _ _ hoA) (fun b hb hr => by
  have := hrb b hr;rcases hb with rfl | rfl | rfl
  · exact this.1 rfl
  · exact this.2.1 rfl
  · exact this.2.2.1 rfl)
 rw [hev] at hdf;refine ⟨k, w2, ea, _, ec, hnext, hent, c4, cellAt hI.cb 0, length_delO hnd hin, ?_⟩;refine hdf.mono ?_;rintro e w3 ⟨v', rfl, hrow, hsub, hC3⟩;rw [← hev] at hsub hC3;obtain ⟨va, vc, rfl, _, _, _⟩ := hrow.slice;have hbl : w3.heap[gr.ob k]? = some (.cells (obCells gr k o) 110 (0, 0)) := hC3.at hob.blk (fun hb => (hrb _ hb).2.2.2.2 rfl);have hset := hR2.setEnts hS2 hlk (w' := w3.setCell ⟨gr.ob k, 4, none⟩ (.slice va (o.ents.filter (fun x => !(A.objs.lookup x.key).isNone)).length vc)) (v1 := .slice va (o.ents.filter (fun x => !(A.objs.lookup x.key).isNone)).length vc) (l := o.ents.filter (fun x => !(A.objs.lookup x.key).isNone))
  ((hC3.mono (fun _ _ hb => .inr hb)).setCell (fun _ => .inl rfl) _) (heap_setCell hbl 4 _)
  (hrow.same fun b hb => heap_setCell_ne (fun e => (hrb _ (hsub b hb)).2.2.2.2 e) _) (fun b hb => .inl (hob.rown b (hsub b hb)))
 have hob' : gr.ob k = g.ob k := by rw [h.ob]
 rw [← hob'];refine ⟨va, _, vc, rfl, ⟨_, by rw [cellAt hbl]; rfl⟩, freeAt hbl _, gr.setE k (.slice va (o.ents.filter (fun x => !(A.objs.lookup x.key).isNone)).length vc), ?_⟩;have hlab : ∀ b, gr.own b = none → gr.lab (.slice va (o.ents.filter (fun x => !(A.objs.lookup x.key).isNone)).length vc) (.ents k) b = none := fun b hb => Gh.lab_none hb (fun e => by have := hob.rown b (hsub b e); rw [hb] at this; cases this);have hkeep : ∀ b, b ≠ gr.ob k → rowBlk (gr.vE k) ≠ some b → b < w2.heap.size → (w3.setCell ⟨gr.ob k, 4, none⟩ (.slice va (o.ents.filter (fun x => !(A.objs.lookup x.key).isNone)).length vc)).heap[b]? = w2.heap[b]? := fun b hb1 hb2 hlt => by
  rw [heap_setCell_ne hb1]; exact hC3.block b hlt hb2
 have hne : ∀ b, gr.own b = none → b ≠ gr.ob k := fun b hb e => by rw [e, hob.own] at hb; cases hb
 have hmn : ∀ b, gr.own b = none → rowBlk (gr.vE k) ≠ some b := fun b hb e => by have := hob.rown b e; rw [hb] at this; cases this
 have hrlt : r < w2.heap.size := by
  obtain ⟨_, es, clock, seen, g1, g2, g3⟩ := hit2;exact lt_of_block g2
 refine ⟨?_, hset.2, ?_, List.filter_sublist.trans h.sub, ?_, hlab _ h.cbn, hlab _ h.rn, h.ob, h.ne, h.rw0⟩
 · rw [← forgotTo_step hn hoA]; exact hset.1
 · refine hit2.same (hkeep _ ?_ ?_ hit2.map.lt) (hkeep r (hne _ h.rn) (hmn _ h.rn) hrlt)
   · intro e;have h1 := hR2.omo;rw [hmo, e, hob.own] at h1; cases h1
   · intro e; exact (hrb _ e).2.2.1 rfl
 · rw [hkeep cb (hne _ h.cbn) (hmn _ h.cbn) (lt_of_block hI.cb)];exact hI.cb
theorem forget_any (hR : Rep w g A) (hents : ∀ n o, (n, o) ∈ A.objs → o.ents.length ≤ 1000000000000) :
 Calls Tryz.prog 80 #[.pointer (some ⟨g.hb, 0, none⟩)] w fun e w' => e = .returned (.tuple #[]) ∧ ∃ g', Rep w' g' A.forgot ∧ Step w g A w' g' := by
 refine ret_k fun K hK => ?_;have hn := hR.nodup;obtain ⟨w1, hw1⟩ : ∃ w1, w1 = w.alloc (.cells #[.pointer (some ⟨g.hb, 0, none⟩)] 125) := ⟨_, rfl⟩;have hR1 : Rep w1 g A := by rw [hw1]; exact hR.alloc _
 have hs1 : w1.heap.size = w.heap.size + 1 := by rw [hw1]; simp
 have hcb : w1.heap[w.heap.size]? = some (.cells #[.pointer (some ⟨g.hb, 0, none⟩)] 125 (0, 0)) := by rw [hw1]; exact heap_alloc_new _ _
 have c0 : w1.cell? ⟨g.hb, 0, none⟩ = some (.map (some g.mo)) := hR1.c 0;have c1 : w1.cell? ⟨w.heap.size, 0, none⟩ = some (.pointer (some ⟨g.hb, 0, none⟩)) := cellAt hcb 0;obtain ⟨o', hrun, hit⟩ := run_range_map (P := Tryz.prog) hR1.mo uMapO;have hst : FgL w g A w.heap.size w1.heap.size A.objs (w1.alloc o') g := by
  refine ⟨?_, ⟨?_, fun _ _ _ => rfl, rfl, rfl, rfl, rfl, rfl, fun _ _ => rfl⟩, hit, List.Sublist.refl _, heap_alloc_old hcb _, hR.none_of_ge (Nat.le_refl _), hR.none_of_ge (by omega), rfl, by omega, by omega⟩
  · rw [forgotTo_all]; exact hR1.alloc _
  · rw [hw1]; exact ((Chg.refl _ _).alloc _).alloc _
 have HSt := Lib.hid hst;have HK := Lib.hid hK;have HN := Lib.hid hn;have HE := Lib.hid hents;clear hst hK hn hents hR hR1 hcb hit;rw [hs1] at hrun HSt;subst hw1;clear hs1
 go_enter Tryz.func80, Tryz.ntmps80
 go_wp2_with (at_range; go_must (refine wpList_val rfl (exec_range rfl hrun) ?_))
 go_frame
 go_loopg [] (A.objs.length) (fun num wr => ∃ (left : List (Int × Ob)) (gr : Gh), FgL w g A w.heap.size (w.heap.size + 1) left wr gr ∧ left.length ≤ num)
 case atStart => exact ⟨A.objs, g, HSt.out, Nat.le_refl _⟩
 case round =>
  obtain ⟨left, gr, hI, hnum⟩ := hrel;clear HSt;cases left with
  | nil =>
    have hrun2 := fun ty => run_next_over (P := Tryz.prog) hI.it ty;have HF := Lib.hid (HK.out _ _ ⟨rfl, gr, by rw [← forgotTo_nil]; exact hI.rep, hI.step⟩);clear hI
    go_wp2_with (at_next; go_must (refine wpList_val rfl (exec_next rfl (by exact hrun2 _)) ?_))
    go_end0
    exact HF.out
  | cons p left =>
    obtain ⟨k, w2, ea, en, ec, hnext, hent, c4, cb, hlen, hdf⟩ := hI.round (by simp) HN.out HE.out;have hpos : 1 ≤ gk := by simp only [List.length_cons] at hnum; omega
    have hle : (delO (p :: left) k).length ≤ gk - 1 := by omega
    have HDf := Lib.hid hdf;have HLe := Lib.hid hle;clear hdf hI hlen hle;generalize g.ob k = okb at *
    go_wp2_with (first | (at_next; go_must (refine wpList_val rfl (exec_next rfl (by exact hnext)) ?_)) | (go_at_call 115; refine HDf.out.mono ?_; rintro e w3 ⟨va, vn, vc, rfl, ⟨x4, d4⟩, f4, HI3⟩))
    go_roundg (gk - 1)
    case measure => omega
    case rel =>
     obtain ⟨gr', hI3⟩ := HI3.out;exact ⟨_, gr', hI3, HLe.out⟩
theorem iter_delete {b : Nat} {kvs left : List (Int × Value)} (h : IterAt w r b kvs left) {es : Array MapEntry} {clock : Nat} (hes : w.heap[b]? = some (.map es clock)) (k : Int)
 (hM : MapAt (World.put w b (.map (es.filter fun e => decide (kint e.key ≠ k)) clock)) b (delKV kvs k)) : IterAt (World.put w b (.map (es.filter fun e => decide (kint e.key ≠ k)) clock)) r b (delKV kvs k) (delKV left k) := by
 have hne := h.ne;obtain ⟨h0, es', clock', seen, h1, h2, h3, h4⟩ := h;rw [hes] at h1;simp only [Option.some.injEq, Obj.map.injEq] at h1;obtain ⟨rfl, rfl⟩ := h1;refine ⟨hM, _, clock, seen, heap_put hes _, by rw [heap_put_ne hne, h2], ?_, List.Sublist.filter _ h4⟩;rw [Array.toList_filter, List.filter_filter];have := filter_kvs k h3;rw [List.filter_filter] at this;rw [← this]
 congr 1
 apply List.filter_congr;intro e _;rw [Bool.and_comm]
theorem Rep.delOb (hR : Rep w g A) (hC : Chg (fun b => b = g.mo) w w') (hM : MapAt w' g.mo (delKV (kvsO g A) k)) :
 Rep w' g { A with objs := delO A.objs k } ∧ Step w g A w' g := by
 have hCR : ChgR g (fun r => r = .mo) w w' := hC.mono fun b _ hb r hr => by rw [hb, hR.omo] at hr; simpa using hr.symm
 refine ⟨hR.move hCR (fun b hb => Nat.lt_of_lt_of_le (hR.lt b hb) hC.size) (mo := .inr ?_) (mh := .inl ⟨by simp, rfl⟩) (mr := .inl ⟨by simp, rfl⟩) (obj := fun n o h => .inl ⟨(mem_delO.1 h).1, rfl, rfl, by simp, by simp⟩),
  ⟨hC.mono fun b _ hb => by rw [hb, hR.omo]; rfl, fun _ _ _ => rfl, rfl, rfl, rfl, rfl, rfl, fun _ _ => rfl⟩⟩
 have : delKV (kvsO g A) k = kvsO g { A with objs := delO A.objs k } := delKV_kvO g A.objs k;rw [← this]; exact hM
def St.keepTo (A : St) (p : Int → Bool) (L : List Int) : St := { A with objs := A.objs.filter fun q => decide (q.1 ∈ L) || p q.1 }
def St.keep (A : St) (p : Int → Bool) : St := { A with objs := A.objs.filter fun q => p q.1 }
theorem keepTo_nil (A : St) (p : Int → Bool) : A.keepTo p [] = A.keep p := by simp [St.keepTo, St.keep]
theorem keepTo_all (A : St) (p : Int → Bool) : A.keepTo p (A.objs.map (·.1)) = A := by
 have : (A.objs.filter fun q => decide (q.1 ∈ A.objs.map (·.1)) || p q.1) = A.objs := by
  rw [List.filter_eq_self];intro q hq;simp only [Bool.or_eq_true, decide_eq_true_eq];exact .inl (List.mem_map.2 ⟨q, hq, rfl⟩)
 simp only [St.keepTo, this]
theorem mem_keys_delO {left : List (Int × Ob)} {m : Int} : m ∈ (delO left k).map (·.1) ↔ m ∈ left.map (·.1) ∧ m ≠ k := by
 simp only [List.mem_map];constructor
 · rintro ⟨⟨a, y⟩, h1, rfl⟩;have := mem_delO.1 h1;exact ⟨⟨_, this.1, rfl⟩, this.2⟩
 · rintro ⟨⟨⟨a, y⟩, h1, rfl⟩, h2⟩;exact ⟨_, mem_delO.2 ⟨h1, h2⟩, rfl⟩
theorem dec_keys_delO (left : List (Int × Ob)) (k m : Int) : decide (m ∈ (delO left k).map (·.1)) = (decide (m ∈ left.map (·.1)) && decide (m ≠ k)) := by
 rw [← Bool.decide_and];exact decide_eq_decide.2 mem_keys_delO
theorem keepTo_kept {left : List (Int × Ob)} (hp : p k = true) : A.keepTo p ((delO left k).map (·.1)) = A.keepTo p (left.map (·.1)) := by
 have : (A.objs.filter fun q => decide (q.1 ∈ (delO left k).map (·.1)) || p q.1) = (A.objs.filter fun q => decide (q.1 ∈ left.map (·.1)) || p q.1) := by
  apply List.filter_congr;intro q _;rw [dec_keys_delO];by_cases e : q.1 = k
  · rw [e, hp]; simp
  · simp [e]
 simp only [St.keepTo, this]
theorem keepTo_gone {left : List (Int × Ob)} (hp : p k = false) : A.keepTo p ((delO left k).map (·.1)) = { A.keepTo p (left.map (·.1)) with objs := delO (A.keepTo p (left.map (·.1))).objs k } := by
 have : (A.objs.filter fun q => decide (q.1 ∈ (delO left k).map (·.1)) || p q.1) = delO (A.objs.filter fun q => decide (q.1 ∈ left.map (·.1)) || p q.1) k := by
  unfold delO;rw [List.filter_filter];apply List.filter_congr;intro q _;have hm := dec_keys_delO left k q.1;unfold delO at hm;rw [hm];by_cases e : q.1 = k
  · rw [e, hp]; simp
  · simp [e]
 simp only [St.keepTo, this]
theorem delO_idem (l : List (Int × Ob)) (k : Int) : delO (delO l k) k = delO l k := by
 unfold delO;rw [List.filter_filter];simp
structure SwL (w : World) (g : Gh) (A : St) (p : Int → Bool) (m : Nat) (S : List Int) (r : Nat) (left : List (Int × Ob)) (wr : World) : Prop where
 rep : Rep wr g (A.keepTo p (left.map (·.1)))
 step : Step w g A wr g
 it : IterAt wr r g.mo (kvsO g (A.keepTo p (left.map (·.1)))) (kvO g left)
 sub : left.Sublist A.objs
 map : MapAt wr m (S.map fun n => (n, .bool true))
 mn : g.own m = none
 rn : g.own r = none
 ne : m ≠ r
 rw0 : w.heap.size ≤ r
theorem SwL.round {m : Nat} {S : List Int} {left : List (Int × Ob)} (h : SwL w g A p m S r left wr) (hS : ∀ n, decide (n ∈ S) = p n) (hl : left ≠ []) :
 ∃ k v w2, (Instr.next (.pointer (some ⟨r, 0, none⟩)) false 0).run Tryz.prog wr = .ok (.tuple #[.bool true, .int .i64 k, v]) w2 ∧
   (Instr.entry (.pointer (some ⟨r, 0, none⟩))).run Tryz.prog w2 = .ok (.tuple #[.int .i64 k, v]) w2 ∧ (delO left k).length + 1 = left.length ∧
   (Instr.lookup 68 (.map (some m)) (.int .i64 k) false).run Tryz.prog w2 = .ok (.bool (p k)) w2 ∧ w2.cell? ⟨g.hb, 0, none⟩ = some (.map (some g.mo)) ∧
   (p k = true → SwL w g A p m S r (delO left k) w2) ∧
   (p k = false → ∃ w3, (Builtin.delete_ #[64, 3] 0 #[.map (some g.mo), .int .i64 k]).run Tryz.prog w2 = .ok (.tuple #[]) w3 ∧ SwL w g A p m S r (delO left k) w3) := by
 obtain ⟨k, o, w2, hin, hnext, hit2, hent, hC2⟩ := iterO_more (P := Tryz.prog) h.it hl;have hnd := kvO_nodup h.it.nodup;have hR2 : Rep w2 g (A.keepTo p (left.map (·.1))) := h.rep.frame hC2 (fun b hb => by rw [hb]; exact h.rn);have hmap2 : MapAt w2 m (S.map fun n => (n, .bool true)) := h.map.same (hC2.block m h.map.lt h.ne);have hC02 : Chg (fun b => (g.own b).isSome) w w2 := h.step.chg.trans hC2 (fun j hj hjr => by have := h.rw0; omega);have hS2 : Step w g A w2 g := ⟨hC02, fun _ _ _ => rfl, rfl, rfl, rfl, rfl, rfl, fun _ _ => rfl⟩;have hlk := look_set hmap2 k;rw [hS k] at hlk;refine ⟨k, _, w2, hnext, hent, length_delO hnd hin, hlk, hR2.c 0, ?_, ?_⟩
 · intro hp;exact ⟨by rw [keepTo_kept hp]; exact hR2, hS2, by rw [keepTo_kept hp]; exact hit2, List.filter_sublist.trans h.sub, hmap2, h.mn, h.rn, h.ne, h.rw0⟩
 · intro hp;obtain ⟨es, clock, hes, hrun, hM⟩ := run_delete_map (P := Tryz.prog) hR2.mo uMapO uInt 0 k;have hit3 := iter_delete hit2 hes k hM;rw [delKV_kvO, delO_idem] at hit3;have hd := hR2.delOb (chg_put1 _ _ _) hM;have e : delKV (kvsO g (A.keepTo p (left.map (·.1)))) k = kvsO g (A.keepTo p ((delO left k).map (·.1))) := by
    rw [keepTo_gone hp]; exact delKV_kvO g _ k
   rw [e] at hit3;refine ⟨_, hrun, by rw [keepTo_gone hp]; exact hd.1, ?_, hit3, List.filter_sublist.trans h.sub, ?_, h.mn, h.rn, h.ne, h.rw0⟩
   · have := hS2.trans (A' := A) ⟨hd.2.chg, hd.2.own, hd.2.hb, hd.2.mo, hd.2.mh, hd.2.mr, hd.2.lb, fun _ _ => rfl⟩ (Int.le_refl _);exact this
   · exact hmap2.same (heap_put_ne (fun e => by have := hR2.omo; rw [← e, h.mn] at this; cases this) _)
noncomputable def St.live (A : St) (n : Int) : Bool := dec (Reach A (A.roots ++ A.reg) n)
noncomputable def St.swept (A : St) : St := (A.keep A.live).forgot
theorem append_rows {v v2 : Value} {xs ys : List Int} (h1 : Row w 3 1 v xs.length (intCells xs)) (h2 : Row w 3 1 v2 ys.length (intCells ys)) (hb : xs.length + ys.length ≤ 1000000000000) :
 ∃ a cap w', (Builtin.append_ #[23, 23] 23 #[v, v2]).run Tryz.prog w = .ok (.slice a (xs.length + ys.length) cap) w' ∧
   Row w' 3 1 (.slice a (xs.length + ys.length) cap) (xs ++ ys).length (intCells (xs ++ ys)) ∧ Chg (fun b => rowBlk v = some b) w w' ∧ (∀ b, rowBlk (.slice a (xs.length + ys.length) cap) = some b → rowBlk v = some b ∨ w.heap.size ≤ b) := by
 obtain ⟨i0, hi, hz0, hz1, hz2⟩ := info_parts iInt;obtain ⟨v3, w3, happ, hrow3, hC3, hloc3⟩ := run_append_row (P := Tryz.prog) 23 23 3 i0 _ 1 8 uInts hi hz0 hz1 hz2 rfl (by decide) h1 h2.src (by intro u hu; simp [intCells] at hu; obtain ⟨x, _, rfl⟩ := hu; rfl) (by unfold maxLen; omega) (by omega);obtain ⟨a3, cap3, rfl, -⟩ := hrow3.slice;refine ⟨a3, cap3, w3, happ, ?_, hC3, hloc3⟩;have e : intCells (xs ++ ys) = intCells xs ++ intCells ys := by simp [intCells]
 rw [e, List.length_append];exact hrow3
theorem sweep_any (hR : Rep w g A) (hf : Fit A) (hcl : Closed A) (hd : ∀ n ∈ A.roots, (A.objs.lookup n).isSome) (hd2 : ∀ n ∈ A.reg, (A.objs.lookup n).isSome)
 (hbig : A.queue.length + A.handles.length + A.reg.length < 100000000000) :
 Calls Tryz.prog 83 #[.pointer (some ⟨g.hb, 0, none⟩)] w fun e w' => e = .returned (.tuple #[]) ∧ ∃ g', Rep w' g' A.swept ∧ Step w g A w' g' := by
 refine ret_k fun K hK => ?_;obtain ⟨ra, rc, hrv, _, _, _⟩ := hR.rR.row.slice;have c6 : w.drewN 0 = w := rfl;have hro : ∀ n, Calls Tryz.prog 74 #[.pointer (some ⟨g.hb, 0, none⟩)] (w.drewN n) fun e w1 => ∃ (va : Option Addr) (vn vc : Nat), e = .returned (.slice va vn vc) ∧ w1.cell? ⟨g.hb, 6, none⟩ = some (.slice ra A.reg.length rc) ∧
  ∃ (a : Option Addr) (k c : Nat) (w2 : World), ((Builtin.append_ #[23, 23] 23 #[.slice va vn vc, .slice ra A.reg.length rc]).run Tryz.prog w1 = .ok (.slice a k c) w2) ∧ Hid (Calls Tryz.prog 117 #[.pointer (some ⟨g.hb, 0, none⟩), .slice a k c] w2 fun e w' =>
    ∃ (m : Nat) (S : List Int), e = .returned (.map (some m)) ∧ w'.cell? ⟨g.hb, 0, none⟩ = some (.map (some g.mo)) ∧ Hid (MapAt w' m (S.map fun n => (n, .bool true)) ∧ (∀ n, decide (n ∈ S) = A.live n) ∧ w.heap.size ≤ m ∧ Chg (fun _ => False) w w')) := by
  intro n;refine (roots_any (hR.drewN n) (by omega)).mono ?_;rintro e w1 ⟨v, l, rfl, hrow, hmem, hlen, hC, hfr⟩;have hml : ∀ n, n ∈ l ↔ n ∈ A.roots := fun n => (hmem n).trans mem_roots.symm;have hC' : Chg (fun _ => False) w w1 := ((Chg.refl _ _).drewN n).trans hC (fun _ _ h => h);have hR1 := hR.frame hC' (fun _ h => h.elim);obtain ⟨va, vc, rfl, _, _, _⟩ := hrow.slice;refine ⟨va, _, vc, rfl, by rw [hR1.c 6]; simp [hsCells, hrv], ?_⟩;have hrow2 := hR1.rR.row;rw [hrv] at hrow2;obtain ⟨a, c, w2, happ, hrowA, hCA, -⟩ := append_rows hrow hrow2 (by omega);refine ⟨a, _, c, w2, happ, ?_⟩;have hC2 : Chg (fun _ => False) w w2 := hC'.trans hCA (fun j hj hb => absurd (hfr j hb) (by simp; omega))
  have hR2 := hR.frame hC2 (fun _ h => h.elim);have hmm : ∀ n, n ∈ l ++ A.reg ↔ n ∈ A.roots ++ A.reg := fun n => by simp only [List.mem_append, hml n]
  have hre := reached_any hR2 hf hcl hrowA (fun n hn => by
   rcases List.mem_append.1 hn with h | h
   · exact hd n ((hml n).1 h)
   · exact hd2 n h) (by rw [List.length_append]; omega)
  refine hre.mono ?_;rintro e w4 ⟨mm, S, rfl, h1, h2, h3, h4⟩;have hC4 := hC2.trans h4 (fun _ _ h => h);refine ⟨mm, S, rfl, (hR.frame hC4 (fun _ h => h.elim)).c 0, h1, fun n => decide_dec ((h2 n).trans (Reach.congr_iff hmm n)), Nat.le_trans hC2.size h3, hC4⟩
 have HRo := Lib.hid hro;have c60 : w.cell? ⟨g.hb, 6, none⟩ = some (.slice ra A.reg.length rc) := by rw [hR.c 6]; simp [hsCells, hrv]
 have HR := Lib.hid hR;have HK := Lib.hid hK;have HF := Lib.hid hf;clear hR hK hrv hro hcl hd hd2 hf c6
 go_enter Tryz.func83, Tryz.ntmps83
 go_wp2
 go_region_law (first | (refine step_val rfl (exec_append rfl happ) ?_) | (go_simp; go_at_call 74; refine (HRo.out _).mono ?_; rintro e w1 ⟨va, vn, vc, rfl, d6, a, k, c, w2, happ, HRe⟩) | (go_simp; go_at_call 117; refine HRe.out.mono ?_; rintro e w3 ⟨m, S, rfl, d0, HS⟩))
 all_goals
  obtain ⟨hmS, hS, hmw, hC3⟩ := HS.out;have hR3 := HR.out.frame hC3 (fun _ h => h.elim);obtain ⟨o', hrun, hit⟩ := run_range_map (P := Tryz.prog) hR3.mo uMapO;have hs3 := hC3.size;have HSt : Hid (SwL w g A A.live m S w3.heap.size A.objs (w3.alloc o')) := by
   have hml : m < w3.heap.size := hmS.lt;refine ⟨by rw [keepTo_all]; exact hR3.alloc _, ⟨(hC3.mono fun _ _ h => h.elim).alloc _, fun _ _ _ => rfl, rfl, rfl, rfl, rfl, rfl, fun _ _ => rfl⟩, by rw [keepTo_all]; exact hit, List.Sublist.refl _, hmS.same (by rw [heap_alloc, if_neg (by omega)]), HR.out.none_of_ge hmw, HR.out.none_of_ge hs3, by omega, hs3⟩
  have HSS := Lib.hid hS;clear hmS hS hmw hC3 hR3 hit HS HRe HRo happ d6
  go_wp2_with (at_range; go_must (refine wpList_val rfl (exec_range rfl hrun) ?_))
  go_frame
  go_loopg [] (A.objs.length) (fun num wr => ∃ (left : List (Int × Ob)), SwL w g A A.live m S w3.heap.size left wr ∧ left.length ≤ num)
  case atStart => exact ⟨A.objs, HSt.out, Nat.le_refl _⟩
  case round =>
   obtain ⟨left, hI, hnum⟩ := hrel;clear HSt;cases left with
   | nil =>
     have hrun2 := fun ty => run_next_over (P := Tryz.prog) hI.it ty;have hrep := hI.rep;simp only [List.map_nil] at hrep;rw [keepTo_nil] at hrep;have hfg := forget_any hrep (fun n o hm => by
      have hm' : (n, o) ∈ A.objs := (List.mem_filter.1 hm).1;have := HF.out.ents n o (lookup_of_mem HF.out.nodup hm');omega)
     have HFg : Hid (Calls Tryz.prog 80 #[.pointer (some ⟨g.hb, 0, none⟩)] wr fun e w' => e = .returned (.tuple #[]) ∧ Post K (.returned (.tuple #[])) w') := by
      refine hfg.mono ?_;rintro e w' ⟨rfl, g', h1, h2⟩;exact ⟨rfl, HK.out _ _ ⟨rfl, g', h1, hI.step.trans (A' := A.keep A.live) h2 (Int.le_refl _)⟩⟩
     clear hI hrep hfg
     go_wp2_with (first | (at_next; go_must (refine wpList_val rfl (exec_next rfl (by exact hrun2 _)) ?_)) | (go_at_call 80; refine HFg.out.mono ?_; rintro e w5 ⟨rfl, hPost⟩))
     go_end0
     exact hPost
   | cons p left =>
     obtain ⟨k, v, w4, hnext, hent, hlen, hlk, d0', hkeep, hgone⟩ := hI.round HSS.out (by simp);have hpos : 1 ≤ gk := by simp only [List.length_cons] at hnum; omega
     have hle : (delO (p :: left) k).length ≤ gk - 1 := by omega
     have HLe := Lib.hid hle;clear hI hlen hle;cases hp : A.live k with
     | true =>
       have HI2 := Lib.hid (hkeep hp);rw [hp] at hlk;clear hkeep hgone hp
       go_wp2_with (at_next; go_must (refine wpList_val rfl (exec_next rfl (by exact hnext)) ?_))
       go_roundg (gk - 1)
       case measure => omega
       case rel => exact ⟨_, HI2.out, HLe.out⟩
     | false =>
       obtain ⟨w5, hdel, hI2⟩ := hgone hp;have HI2 := Lib.hid hI2;rw [hp] at hlk;clear hkeep hgone hp hI2
       go_wp2_with (first | (at_next; go_must (refine wpList_val rfl (exec_next rfl (by exact hnext)) ?_)) | (at_builtin; go_must (refine wpList_val rfl (exec_delete rfl (by exact hdel)) ?_)))
       go_roundg (gk - 1)
       case measure => omega
       case rel => exact ⟨_, HI2.out, HLe.out⟩
end Go.Proofs.YtelghmmcbgfjnaaGreat
