/-
  Put. (A part of the proof, joined of: Xw, Xx, Xy, Yd; made smaller.)
-/
import Derived.Test.YtelghmmcbgfjnaaGreatH15
set_option maxHeartbeats 4000000
set_option maxRecDepth 100000
namespace Go.Proofs.YtelghmmcbgfjnaaGreat
variable {A A' : St} {b old table : Bool} {er n name : Int} {g : Gh} {k m : Nat} {l : List En} {o : Ob} {v : Value} {w : World} {ws : List Wd} {xs : List Int}
open Go.RowKit
inductive PutSpec (A : St) (t key : Int) (c : Wd) : Int → St → Prop
 | none : A.handles.lookup t = none → PutSpec A t key c 221 A
 | nokey {name : Int} : A.handles.lookup t = some name → A.handles.lookup key = none → PutSpec A t key c 221 A
 | bad {name kn : Int} : A.handles.lookup t = some name → A.handles.lookup key = some kn → A.okC c = false → PutSpec A t key c 221 A
 | kind {name kn : Int} {o : Ob} : A.handles.lookup t = some name → A.handles.lookup key = some kn → A.okC c = true → A.objs.lookup name = some o → o.table = false → PutSpec A t key c 223 A
 | turn {name kn : Int} {o : Ob} {j : Nat} {x : En} : A.okC c = true → TabAt A t key name kn o → o.ents[j]? = some x → KeyIs kn x = true → PutSpec A t key c 0 (A.setTab name o (o.ents.set j ⟨x.key, A.wordC c⟩))
 | full {name kn : Int} {o : Ob} {Ar : St} : A.okC c = true → TabAt A t key name kn o → (∀ x ∈ o.ents, KeyIs kn x = false) → RoomR A 3 Ar false → PutSpec A t key c 220 Ar
 | add {name kn : Int} {o or' : Ob} {Ar : St} : A.okC c = true → TabAt A t key name kn o → (∀ x ∈ o.ents, KeyIs kn x = false) → RoomR A 3 Ar true → Ar.objs.lookup name = some or' → PutSpec A t key c 0 (Ar.setTab name or' (or'.ents ++ [⟨kn, A.wordC c⟩]))
theorem appE {xs : List En} (hrow : Row w 120 3 v xs.length (enCells xs)) (x : En) (hT : xs.length < 1000000000000) :
 ∃ a cap w', (Builtin.append_ #[108, 108] 108 #[v, .slice (some ⟨w.heap.size, 0, none⟩) 1 1]).run Tryz.prog (w.alloc (.cells #[.int .i64 x.key, .bool x.val.ref, .int .i64 x.val.num] 120)) = .ok (.slice a (xs.length + 1) cap) w' ∧
   Row w' 120 3 (.slice a (xs.length + 1) cap) (xs ++ [x]).length (enCells (xs ++ [x])) ∧ Chg (fun b => rowBlk v = some b) w w' ∧ (∀ b, rowBlk (.slice a (xs.length + 1) cap) = some b → rowBlk v = some b ∨ w.heap.size ≤ b) := by
 obtain ⟨i0, hi, hz0, hz1, hz2⟩ := info_parts iEntry;have h1 : Row (w.alloc (.cells #[.int .i64 x.key, .bool x.val.ref, .int .i64 x.val.num] 120)) 120 3 v xs.length (enCells xs) := hrow.same fun b hb => by rw [heap_alloc, if_neg (by have := hrow.lt hb; omega)]
 have hsrc : Src' (w.alloc (.cells #[.int .i64 x.key, .bool x.val.ref, .int .i64 x.val.num] 120)) 3 (.slice (some ⟨w.heap.size, 0, none⟩) 1 1) 1 [.int .i64 x.key, .bool x.val.ref, .int .i64 x.val.num] := src_block (heap_alloc_new _ _) (by simp) (by simp);obtain ⟨v3, w3, happ, hrow3, hC3, hloc3⟩ := run_append_row (P := Tryz.prog) 108 108 120 i0 _ 3 24 uEnts hi hz0 hz1 hz2 rfl (by decide) h1 hsrc (by simp [Value.oneCell']) (by unfold maxLen; omega) (by omega);obtain ⟨a3, cap3, rfl, -⟩ := hrow3.slice;have hCa : Chg (fun b => rowBlk v = some b) w (w.alloc (.cells #[.int .i64 x.key, .bool x.val.ref, .int .i64 x.val.num] 120)) := (Chg.refl _ _).alloc _
 refine ⟨a3, cap3, w3, happ, ?_, hCa.trans hC3 (fun _ _ h => h), ?_⟩
 · have e : enCells (xs ++ [x]) = enCells xs ++ [.int .i64 x.key, .bool x.val.ref, .int .i64 x.val.num] := by simp [enCells, En.cells]
   rw [e, List.length_append, List.length_singleton];exact hrow3
 · intro b hb;rcases hloc3 b hb with h2 | h2
   · exact .inl h2
   · simp at h2; exact .inr (by omega)
theorem RoomR.look {r : Bool} (h : RoomR A n A' r) (hw : Wf k m A) {t : Int} (hl : A.handles.lookup t = some name) (ho : A.objs.lookup name = some o) : ∃ o', A'.objs.lookup name = some o' ∧ o'.table = o.table ∧ o'.ents.length ≤ o.ents.length := by
 rcases h with ⟨rfl, _⟩ | ⟨rfl, _⟩
 · exact ⟨o, ho, rfl, Nat.le_refl _⟩
 · have hlive : A.live name = true := live_iff.2 (.root (List.mem_append_left _ (mem_roots.2 (.inr ⟨_, look_mem hl, rfl⟩))));have h1 := swept_of hlive ho;obtain ⟨p, h2⟩ := settled_of hw.swept.fit h1;exact ⟨_, h2, rfl, List.length_filter_le _ _⟩
theorem setTabHere_any {w1 : World} (hR : Rep w g A) (hw : Wf k m A) (hm : A.objs.lookup name = some o) (hll : l.length ≤ 1000)
 (hC : Chg (fun b => rowBlk (g.vE name) = some b) w w1) (hrow : Row w1 120 3 (g.vE name) l.length (enCells l)) (k2 : Nat) :
 Calls Tryz.prog 64 #[.pointer (some ⟨g.hb, 0, none⟩), .int .i64 name] (w1.drewN k2) fun e w2 => e = .returned (.tuple #[]) ∧ ∃ g', Rep w2 g' (A.setTab name o l) ∧ Step w g A w2 g' := by
 have hob := hR.obj name o (mem_of_lookup hm);have hne : rowBlk (g.vE name) ≠ some (g.ob name) := fun h => by have := hob.rown _ h; rw [hob.own] at this; cases this
 have hb1 : w1.heap[g.ob name]? = some (.cells (obCells g name o) 110 (0, 0)) := hC.at hob.blk hne;have hset := hR.setEnts (w' := w1) (Step.refl w g A) hm (v1 := g.vE name) (l := l) (hC.mono fun _ _ h => .inr h) (by rw [hb1]; rfl) hrow (fun b hb => .inl (hob.rown b hb));have hlk : (A.setOb name { o with ents := l }).objs.lookup name = some { o with ents := l } := lookup_setOb_self A name _ o hm;have hin := hw.fit.inn name o hm;have hmb : (A.mem o.old).length ≤ 100000000000 := by
  cases o.old
  · exact hw.fit.memN
  · exact hw.fit.memT
 have hsz := hw.fit.size name o hm;have hnt := note_any (hset.1.drewN k2) hlk hin (show (A.mem o.old).length ≤ _ by omega) (show l.length ≤ _ by omega) (show o.size + 2 * l.length ≤ _ by omega);have hgb : (g.setE name (g.vE name)).hb = g.hb := rfl;rw [hgb] at hnt;refine hnt.mono ?_;rintro e w2 ⟨rfl, hR2, hS2⟩;exact ⟨rfl, _, hR2, (hset.2.trans (Step.drewN _ _ A k2) (Int.le_refl _)).trans hS2 (Int.le_refl _)⟩
theorem put_any (hR : Rep w g A) (hg : Good k m A) (hfull : A.full ≤ 60000) (hfew : ∀ name o, A.objs.lookup name = some o → o.ents.length < 200) (t key : Int) (c : Wd) :
 Calls Tryz.prog 25 #[.pointer (some ⟨g.hb, 0, none⟩), .int .i64 t, .int .i64 key, c.agg] w fun e w' => ∃ er, e = .returned (.int .i64 er) ∧ Hid (∃ A' g', PutSpec A t key c er A' ∧ Rep w' g' A' ∧ Step w g A w' g') := by
 refine ret_k fun K hK => ?_;have HK := Lib.hid hK;have hob := hg.wf.hob;have HOf : Hid (∀ (h : Int) (w' : World), Chg (fun _ => False) w w' → (A.handles.lookup h = none → Calls Tryz.prog 56 #[.pointer (some ⟨g.hb, 0, none⟩), .int .i64 h] w' fun e w'' => e = .returned (.tuple #[.pointer none, .int .i64 0, .int .i64 221]) ∧ w' = w'') ∧
  (∀ name, A.handles.lookup h = some name → ∃ p, Calls Tryz.prog 56 #[.pointer (some ⟨g.hb, 0, none⟩), .int .i64 h] w' fun e w'' => e = .returned (.tuple #[p, .int .i64 name, .int .i64 0]) ∧ w' = w'')) := by
  intro h w' hC;refine ⟨fun hl => of_none (hR.chg0 hC) hl, fun name hl => ?_⟩;obtain ⟨o, ho⟩ := Option.isSome_iff_exists.1 (hob h name hl);exact ⟨_, of_some (hR.chg0 hC) hl ho⟩
 have HE1 : Hid (A.handles.lookup t = none → ∀ w', Chg (fun _ => False) w w' → Post K (.returned (.int .i64 221)) w') := fun h w' hC => HK.out _ _ ⟨221, rfl, A, g, .none h, hR.chg0 hC, Step.chg0 g A hC⟩;have HE2 : Hid (∀ name, A.handles.lookup t = some name → A.handles.lookup key = none → ∀ w', Chg (fun _ => False) w w' → Post K (.returned (.int .i64 221)) w') := fun name h h2 w' hC => HK.out _ _ ⟨221, rfl, A, g, .nokey h h2, hR.chg0 hC, Step.chg0 g A hC⟩;obtain ⟨cr, cn⟩ := c;obtain ⟨⟨⟨xr, xn⟩, xe⟩, hxx⟩ : ∃ xx, xx = A.inW ⟨cr, cn⟩ := ⟨_, rfl⟩;have hwd : A.wordC ⟨cr, cn⟩ = ⟨xr, xn⟩ := by unfold St.wordC; rw [← hxx]
 have HIn : Hid (∀ w', Chg (fun _ => False) w w' → Calls Tryz.prog 59 #[.pointer (some ⟨g.hb, 0, none⟩), .agg #[.bool cr, .int .i64 cn]] w' fun e w'' => e = .returned (.tuple #[.agg #[.bool xr, .int .i64 xn], .int .i64 xe]) ∧ Chg (fun _ => False) w w'') := by
  intro w' hC;refine (in_any (hR.chg0 hC) ⟨cr, cn⟩ hob).mono ?_;rintro e w'' ⟨rfl, hC'⟩;rw [← hxx];exact ⟨rfl, hC.trans hC' (fun _ _ h => h)⟩
 have HBad : Hid (∀ name kn, A.handles.lookup t = some name → A.handles.lookup key = some kn → A.okC ⟨cr, cn⟩ = false → ∀ w', Chg (fun _ => False) w w' → Post K (.returned (.int .i64 221)) w') := fun name kn h h2 h3 w' hC => HK.out _ _ ⟨221, rfl, A, g, .bad h h2 h3, hR.chg0 hC, Step.chg0 g A hC⟩;have hxe1 : A.okC ⟨cr, cn⟩ = true → xe = 0 := fun h => by have := inW_ok h; rw [← hxx] at this; exact this
 have hxe0 : A.okC ⟨cr, cn⟩ = false → xe = 221 := fun h => by have := inW_bad h; rw [← hxx] at this; exact this
 have HKind : Hid (∀ name kn o, A.handles.lookup t = some name → A.handles.lookup key = some kn → A.okC ⟨cr, cn⟩ = true → A.objs.lookup name = some o → o.table = false → ∀ w', Chg (fun _ => False) w w' →
  Calls Tryz.prog 63 #[.pointer (some ⟨g.hb, 0, none⟩), .int .i64 t, .int .i64 key] w' fun e w'' => e = .returned (.tuple #[.pointer none, .int .i64 0, .int .i64 0, .int .i64 0, .int .i64 223]) ∧ Hid (Post K (.returned (.int .i64 223)) w'')) := by
  intro name kn o h1 h2 h3 h4 h5 w' hC;refine (entry_err (hR.chg0 hC) hob (.kind h1 h2 h4 h5)).mono ?_;rintro e w'' ⟨rfl, hC'⟩;have hC2 := hC.trans hC' (fun _ _ h => h);exact ⟨rfl, HK.out _ _ ⟨223, rfl, A, g, .kind h1 h2 h3 h4 h5, hR.chg0 hC2, Step.chg0 g A hC2⟩⟩
 have HTurn : Hid (∀ name kn o (j : Nat) x, A.okC ⟨cr, cn⟩ = true → TabAt A t key name kn o → o.ents[j]? = some x → KeyIs kn x = true → idxOf (KeyIs kn) o.ents = j → ∀ w', Chg (fun _ => False) w w' → Calls Tryz.prog 63 #[.pointer (some ⟨g.hb, 0, none⟩), .int .i64 t, .int .i64 key] w' fun e w5 => e = .returned (.tuple #[.pointer (some ⟨g.ob name, 0, none⟩), .int .i64 name, .int .i64 kn, .int .i64 j, .int .i64 0]) ∧ Chg (fun _ => False) w' w5 ∧
  (∃ b cap v1 v2, w5.cell? ⟨g.ob name, 4, none⟩ = some (.slice (some ⟨b, 0, none⟩) o.ents.length cap) ∧ w5.cell? ⟨b, j * 3 + 1, none⟩ = some v1 ∧ w5.cell? ⟨b, j * 3 + 1 + 1, none⟩ = some v2 ∧ w5.frozen? ⟨b, j * 3 + 1, none⟩ = false ∧ w5.frozen? ⟨b, j * 3 + 1 + 1, none⟩ = false ∧
   Hid (∀ W, (∃ k2, W = ((w5.setCell ⟨b, j * 3 + 1, none⟩ (.bool xr)).setCell ⟨b, j * 3 + 1 + 1, none⟩ (.int .i64 xn)).drewN k2) → Calls Tryz.prog 64 #[.pointer (some ⟨g.hb, 0, none⟩), .int .i64 name] W fun e w7 => e = .returned (.tuple #[]) ∧ Hid (Post K (.returned (.int .i64 0)) w7)))) := by
  intro name kn o j x hok hT hj hp hi w' hC;obtain ⟨ok, hokk⟩ := Option.isSome_iff_exists.1 (hob key kn hT.h2);have hents := hg.wf.fit.ents name o hT.h3;obtain ⟨hjl, hje⟩ := List.getElem?_eq_some_iff.1 hj;have hen := entry_ok (hR.chg0 hC) hT.h1 hT.h2 hT.h3 hT.h4 hokk (by omega);rw [hi] at hen;refine hen.mono ?_;rintro e w5 ⟨rfl, hC5⟩;have hC05 := hC.trans hC5 (fun _ _ h => h);have hR5 := hR.chg0 hC05;have hobj := hR5.obj name o (mem_of_lookup hT.h3);obtain ⟨a, cap, hv, _, _, _⟩ := hobj.row.slice;have hrow := hobj.row;rw [hv] at hrow;obtain ⟨b, rfl, hbk, d0, d1, d2⟩ := hrow.entCell j hjl;have hfr := fun q => hrow.free hbk q;have hbv : rowBlk (g.vE name) = some b := by rw [hv]; exact hbk
  have hbne : b ≠ g.ob name := fun e => by have := hobj.rown b hbv; rw [e, hobj.own] at this; cases this
  refine ⟨rfl, hC5, b, cap, _, _, by rw [← hv]; exact hobj.c 4, d1, d2, hfr _, hfr _, ?_⟩;rintro W ⟨k2, rfl⟩;have hrow2 := (hobj.row.setCell hbv (j * 3 + 1) (.bool xr)).setCell hbv (j * 3 + 1 + 1) (.int .i64 xn);have hset : ((enCells o.ents).set (j * 3 + 1) (.bool xr)).set (j * 3 + 1 + 1) (.int .i64 xn) = enCells (o.ents.set j ⟨x.key, A.wordC ⟨cr, cn⟩⟩) := by
   rw [← enCells_set o.ents j hjl, hwd];have h0 := (enCells_get o.ents j hjl).1;rw [hje] at h0;have h1 : (enCells o.ents).set (j * 3) (.int .i64 x.key) = enCells o.ents := by
    obtain ⟨hq, he⟩ := List.getElem?_eq_some_iff.1 h0;rw [← he, List.set_getElem_self]
   show _ = (((enCells o.ents).set (j * 3) (.int .i64 x.key)).set (j * 3 + 1) (.bool xr)).set (j * 3 + 2) (.int .i64 xn);rw [h1]
  rw [hset] at hrow2;have hC6 : Chg (fun y => rowBlk (g.vE name) = some y) w5 ((w5.setCell ⟨b, j * 3 + 1, none⟩ (.bool xr)).setCell ⟨b, j * 3 + 1 + 1, none⟩ (.int .i64 xn)) := ((Chg.refl (fun y => rowBlk (g.vE name) = some y) w5).setCell (p := ⟨b, j * 3 + 1, none⟩) (fun _ => hbv) _).setCell (p := ⟨b, j * 3 + 1 + 1, none⟩) (fun _ => hbv) _;have hll : (o.ents.set j ⟨x.key, A.wordC ⟨cr, cn⟩⟩).length = o.ents.length := List.length_set;refine (setTabHere_any hR5 hg.wf hT.h3 (l := o.ents.set j ⟨x.key, A.wordC ⟨cr, cn⟩⟩) (by rw [hll]; omega) hC6 (by rw [hll]; exact hrow2) k2).mono ?_;rintro e w7 ⟨rfl, g', hR7, hS7⟩
  exact ⟨rfl, HK.out _ _ ⟨0, rfl, _, g', .turn hok hT hj hp, hR7, (Step.chg0 g A hC05).trans hS7 (Int.le_refl _)⟩⟩
 have HAdd : Hid (∀ name kn o, A.okC ⟨cr, cn⟩ = true → TabAt A t key name kn o → (∀ x ∈ o.ents, KeyIs kn x = false) → o.ents.length < 200 ∧ ∀ w', Chg (fun _ => False) w w' → Calls Tryz.prog 63 #[.pointer (some ⟨g.hb, 0, none⟩), .int .i64 t, .int .i64 key] w' fun e w5 => e = .returned (.tuple #[.pointer (some ⟨g.ob name, 0, none⟩), .int .i64 name, .int .i64 kn, .int .i64 (-1), .int .i64 0]) ∧ Chg (fun _ => False) w' w5 ∧
  (∃ a cap, w5.cell? ⟨g.ob name, 4, none⟩ = some (.slice a o.ents.length cap)) ∧
  Hid (Calls Tryz.prog 61 #[.pointer (some ⟨g.hb, 0, none⟩), .int .i64 3] w5 fun e w6 => ∃ r, e = .returned (.bool r) ∧ (∀ b x, w5.heap[b]? = some x → w.heap.size ≤ b → w6.heap[b]? = some x) ∧ Hid (r = false → Post K (.returned (.int .i64 220)) w6) ∧
   Hid (r = true → ∃ a n cap, w6.cell? ⟨g.ob name, 4, none⟩ = some (.slice a n cap) ∧ ∀ kk, ∃ a2 cap2 w7, (Builtin.append_ #[108, 108] 108 #[.slice a n cap, .slice (some ⟨w6.heap.size, 0, none⟩) 1 1]).run Tryz.prog ((w6.drewN kk).alloc (.cells #[.int .i64 kn, .bool xr, .int .i64 xn] 120)) = .ok (.slice a2 (n + 1) cap2) w7 ∧
    (∃ v, w7.cell? ⟨g.ob name, 4, none⟩ = some v) ∧ w7.frozen? ⟨g.ob name, 4, none⟩ = false ∧
    Hid (∀ W, (∃ k2, W = (w7.setCell ⟨g.ob name, 4, none⟩ (.slice a2 (n + 1) cap2)).drewN k2) → Calls Tryz.prog 64 #[.pointer (some ⟨g.hb, 0, none⟩), .int .i64 name] W fun e w8 => e = .returned (.tuple #[]) ∧ Hid (Post K (.returned (.int .i64 0)) w8))))) := by
  intro name kn o hok hT hno;obtain ⟨ok, hokk⟩ := Option.isSome_iff_exists.1 (hob key kn hT.h2);have hents := hfew name o hT.h3;refine ⟨hents, fun w' hC => ?_⟩;have hen := entry_ok (hR.chg0 hC) hT.h1 hT.h2 hT.h3 hT.h4 hokk (by omega);rw [idxOf_none hno] at hen;refine hen.mono ?_;rintro e w5 ⟨rfl, hC5⟩;have hC05 := hC.trans hC5 (fun _ _ h => h);have hR5 := hR.chg0 hC05;have hobj := hR5.obj name o (mem_of_lookup hT.h3);obtain ⟨a0, cap0, hv0, _, _, _⟩ := hobj.row.slice;refine ⟨rfl, hC5, ⟨a0, cap0, by rw [← hv0]; exact hobj.c 4⟩, ?_⟩;refine (room_any hR5 hg.wf 3 (by omega) hfull).mono ?_;rintro e w6 ⟨r, rfl, hZ⟩;obtain ⟨Ar, gr, hroom, hR6, hS6⟩ := hZ.out;have hroom' : RoomR A 3 Ar r := hroom
  have hS : Step w g A w6 gr := (Step.chg0 g A hC05).trans hS6 (Int.le_refl _);refine ⟨r, rfl, fun b x hx hb => (hS6.at hx (hR.none_of_ge hb)).1, fun hr => ?_, fun hr => ?_⟩
  · rw [hr] at hroom';exact HK.out _ _ ⟨220, rfl, Ar, gr, .full hok hT hno hroom', hR6, hS⟩
  · rw [hr] at hroom';obtain ⟨or', hor, htab, hle⟩ := hroom'.look hg.wf hT.h1 hT.h3;have hgood := hroom'.good hg;have hob6 : gr.ob name = g.ob name := hS.ob name (hg.wf.below name o hT.h3);have hhb : gr.hb = g.hb := hS.hb;have hobj6 := hR6.obj name or' (mem_of_lookup hor);obtain ⟨a, cap, hv, _, _, _⟩ := hobj6.row.slice;refine ⟨a, or'.ents.length, cap, by rw [← hv, ← hob6]; exact hobj6.c 4, fun kk => ?_⟩;have hRk := hR6.drewN kk;have hrow := (hRk.obj name or' (mem_of_lookup hor)).row;rw [hv] at hrow;obtain ⟨a2, cap2, w7, happ, hr7, hC7, hloc7⟩ := appE hrow ⟨kn, A.wordC ⟨cr, cn⟩⟩ (by omega);rw [hwd] at happ;rw [← hv] at hC7 hloc7
    have hll : (or'.ents ++ [(⟨kn, A.wordC ⟨cr, cn⟩⟩ : En)]).length = or'.ents.length + 1 := by simp
    obtain ⟨h1, h2, h3⟩ := setTab_any hRk hgood.wf hor (l := or'.ents ++ [⟨kn, A.wordC ⟨cr, cn⟩⟩]) (by rw [hll]; omega) hC7 hr7 hloc7;rw [hob6] at h1 h2 h3;rw [hhb] at h3;refine ⟨a2, cap2, w7, happ, h1, h2, ?_⟩;rintro W ⟨k2, rfl⟩;refine (h3 k2).mono ?_;rintro e w8 ⟨rfl, g8, hR8, hS8⟩;have hsame := hroom'.same hg;exact ⟨rfl, HK.out _ _ ⟨0, rfl, _, g8, .add hok hT hno hroom' hor, hR8, (hS.trans (Step.drewN w6 gr Ar kk) (by rw [hsame.1]; exact Int.le_refl _)).trans hS8 (by rw [hsame.1]; exact Int.le_refl _)⟩⟩
 have HSit : Hid (∀ name kn, A.handles.lookup t = some name → A.handles.lookup key = some kn → ∃ o, A.objs.lookup name = some o) := fun name kn h1 h2 => Option.isSome_iff_exists.1 (hob t name h1);have HXe := Lib.hid (And.intro hxe1 hxe0);have hC0 : ∀ X Y, Chg (fun _ => False) w ((w.alloc X).alloc Y) := fun X Y => ((Chg.refl _ _).alloc X).alloc Y;have HC0 := Lib.hid hC0;clear hxe1 hxe0 hxx hwd hob hK HK hR hg hfull hfew hC0;unfold Wd.agg
 go_enter Tryz.func25, Tryz.ntmps25
 go_wp2
 go_loopw [26] (fun s26 wr => ∃ j : Nat, s26 = .int .i64 j ∧ wr = (w.alloc (.cells #[.bool cr, .int .i64 cn] 54)).alloc (.cells #[.int .i64 t, .int .i64 key] 3) ∧ (j = 0 ∨ (j = 1 ∧ A.handles.lookup t ≠ none) ∨ (j = 2 ∧ A.handles.lookup t ≠ none ∧ A.handles.lookup key ≠ none))) (fun s26 _ => 2 - (intOf s26).toNat)
 case atStart => exact ⟨0, rfl, rfl, .inl rfl⟩
 case round =>
  obtain ⟨j, rfl, rfl, hj⟩ := hrel;have hC1 := HC0.out (.cells #[.bool cr, .int .i64 cn] 54) (.cells #[.int .i64 t, .int .i64 key] 3);rcases hj with rfl | ⟨rfl, ht⟩ | ⟨rfl, ht, hk⟩
  · obtain ⟨h1, h2⟩ := HOf.out t _ hC1;cases hl : A.handles.lookup t with
    | none =>
      have HF := Lib.hid (h1 hl);have HP := Lib.hid (HE1.out hl _ hC1);clear h1 h2 hl hC1
      go_wp2_with (go_at_call 56; refine HF.out.mono ?_; rintro e w1 ⟨rfl, rfl⟩)
      go_ret;exact HP.out
    | some name =>
      obtain ⟨p, h3⟩ := h2 name hl;have HF := Lib.hid h3;have HL := Lib.hid hl;clear h1 h2 h3 hl hC1
      go_wp2_with (go_at_call 56; refine HF.out.mono ?_; rintro e w1 ⟨rfl, rfl⟩)
      go_roundw
      case rel => exact ⟨1, by first | rfl | trivial, by first | rfl | trivial, .inr (.inl ⟨by first | rfl | trivial, by simp⟩)⟩
      case measure => simp [intOf]
  · obtain ⟨h1, h2⟩ := HOf.out key _ hC1;have HT := Lib.hid ht;clear ht;cases hl : A.handles.lookup key with
    | none =>
      obtain ⟨name, hn⟩ := Option.ne_none_iff_exists'.1 HT.out;have HF := Lib.hid (h1 hl);have HP := Lib.hid (HE2.out name hn hl _ hC1);clear h1 h2 hl hC1 hn
      go_wp2_with (go_at_call 56; refine HF.out.mono ?_; rintro e w1 ⟨rfl, rfl⟩)
      go_ret;exact HP.out
    | some name =>
      obtain ⟨p, h3⟩ := h2 name hl;have HF := Lib.hid h3;have HL := Lib.hid hl;clear h1 h2 h3 hl hC1
      go_wp2_with (go_at_call 56; refine HF.out.mono ?_; rintro e w1 ⟨rfl, rfl⟩)
      go_roundw
      case rel => exact ⟨2, by first | rfl | trivial, by first | rfl | trivial, .inr (.inr ⟨by first | rfl | trivial, HT.out, by simp⟩)⟩
      case measure => simp [intOf]
  · obtain ⟨name, hn⟩ := Option.ne_none_iff_exists'.1 ht;obtain ⟨kn, hkn⟩ := Option.ne_none_iff_exists'.1 hk;obtain ⟨o, ho⟩ := HSit.out name kn hn hkn;have HIn1 := Lib.hid (HIn.out _ hC1);clear HIn HOf HE1 HE2 ht hk hC1;cases hok : A.okC ⟨cr, cn⟩ with
    | false =>
      have hxe := HXe.out.2 hok;have HP := Lib.hid (HBad.out name kn hn hkn hok);subst hxe;clear hn hkn ho hok
      go_wp2_with (go_at_call 59; refine HIn1.out.mono ?_; rintro e w1 ⟨rfl, hC⟩)
      go_ret;exact HP.out _ (hC.alloc _)
    | true =>
      have hxe := HXe.out.1 hok;subst hxe;cases htab : o.table with
      | false =>
        have HP := Lib.hid (HKind.out name kn o hn hkn hok ho htab);clear hn hkn ho hok htab
        go_wp2_with fail
        refine HIn1.out.mono ?_; rintro e w1 ⟨rfl, hC⟩;have HE := Lib.hid fun Y => HP.out _ (hC.alloc Y);clear hC
        go_wp2_with fail
        refine (HE.out _).mono ?_; rintro e w5 ⟨rfl, hZ⟩;go_wp2;go_ret;exact hZ.out
      | true =>
        have hT : TabAt A t key name kn o := ⟨hn, hkn, ho, htab⟩;rcases idxOf_cases (KeyIs kn) o.ents with ⟨hi, hno⟩ | ⟨j, x, hj, hp, hi⟩
        · obtain ⟨hlt, hA⟩ := HAdd.out name kn o hok hT hno;have HA := Lib.hid hA;have hlt2 : ¬ ((200 : Int) ≤ (o.ents.length : Int)) := by omega
          clear hA hn hkn ho hok htab hT hi hno HAdd HTurn HKind HBad HSit;generalize o.ents.length = len at *
          go_wp2_with fail
          refine HIn1.out.mono ?_; rintro e w1 ⟨rfl, hC⟩;have HE := Lib.hid fun Y => HA.out _ (hC.alloc Y);have hsz := hC.size;clear hC HA
          go_wp2_with fail
          refine (HE.out _).mono ?_; rintro e w5 ⟨rfl, hC5, ⟨a, cap, d4⟩, HRm⟩;have hb5 := hC5.at (heap_alloc_new w1 (.cells #[.bool xr, .int .i64 xn] 113)) (fun h => h);have HB5 := Lib.hid (And.intro hb5 hsz);clear hC5 hb5 HE hsz
          go_wp2_with fail
          refine HRm.out.mono ?_; rintro e w6 ⟨r, rfl, hkeep, HF, HT⟩;clear HRm;cases r
          · have HP := Lib.hid (HF.out rfl);clear HF HT hkeep;go_wp2;go_ret;exact HP.out
          · obtain ⟨a6, n6, cap6, d5, hap⟩ := HT.out rfl;have hb6 := hkeep _ _ HB5.out.1 HB5.out.2;have e0 := cellAt hb6 0;have e1 := cellAt hb6 1;have d5' : ∀ X, (w6.alloc X).cell? ⟨g.ob name, 4, none⟩ = some (.slice a6 n6 cap6) := fun X => cell_chg ((Chg.refl (fun _ => False) w6).alloc X) d5 (fun h => h);obtain ⟨a2, cap2, w7, happ, ⟨v7, d7⟩, d8, HN⟩ := hap 1;clear HF HT hkeep hap hb6 HB5 d4
            go_upto_region 26 with fail
            go_region_law (refine step_val rfl (exec_append rfl happ) ?_)
            all_goals
             go_wp2_with fail
             refine (HN.out _ ⟨0, rfl⟩).mono ?_;rintro e w8 ⟨rfl, hZ⟩;go_wp2;go_ret;exact hZ.out
        · have hA := HTurn.out name kn o j x hok hT hj hp hi;have HA := Lib.hid hA;have hjl := (List.getElem?_eq_some_iff.1 hj).1;have hj0 : ¬ ((j : Int) < 0) := by omega
          have hj1 : (0 : Int) ≤ (j : Int) := by omega
          have hj2 : (j : Int) < (o.ents.length : Int) := by omega
          clear hA hn hkn ho hok htab hT hi hp hj HAdd HTurn HKind HBad HSit;generalize o.ents.length = len at *
          go_wp2_with fail
          refine HIn1.out.mono ?_; rintro e w1 ⟨rfl, hC⟩;have HE := Lib.hid fun Y => HA.out _ (hC.alloc Y);clear hC HA
          go_wp2_with fail
          refine (HE.out _).mono ?_; rintro e w5 ⟨rfl, hC5, b, cap, v1, v2, d4, d5, d6, d7, d8, HN⟩;have hb5 := hC5.at (heap_alloc_new w1 (.cells #[.bool xr, .int .i64 xn] 113)) (fun h => h);have e0 := cellAt hb5 0;have e1 := cellAt hb5 1;clear hC5 hb5 HE
          go_upto_region 17 with fail
          go_region
          all_goals
           go_wp2_with fail
           refine (HN.out _ ⟨1, rfl⟩).mono ?_;rintro e w8 ⟨rfl, hZ⟩;go_wp2;go_ret;exact hZ.out
def delH (l : List (Int × Int)) (n : Int) : List (Int × Int) := l.filter fun p => p.1 ≠ n
theorem delKV_kvsH (A : St) (n : Int) : delKV (kvsH A) n = kvsI (delH A.handles n) := by
 simp [delKV, kvsH, kvsI, delH, List.filter_map, Function.comp_def]
inductive DropSpec (A : St) (n : Int) : Int → St → Prop
 | none : A.handles.lookup n = none → DropSpec A n 221 A
 | ok {name : Int} {F : List Int} : A.handles.lookup n = some name → FreeOk { A with handles := delH A.handles n, free := F } → DropSpec A n 0 { A with handles := delH A.handles n, free := F }
theorem mem_keys_delH {l : List (Int × Int)} {m : Int} : m ∈ (delH l n).map (·.1) ↔ m ∈ l.map (·.1) ∧ m ≠ n := by
 simp only [delH, List.mem_map, List.mem_filter, decide_eq_true_eq];constructor
 · rintro ⟨p, ⟨hp, hne⟩, rfl⟩; exact ⟨⟨p, hp, rfl⟩, hne⟩
 · rintro ⟨⟨p, hp, rfl⟩, hne⟩; exact ⟨p, ⟨hp, hne⟩, rfl⟩
theorem FreeOk.dropped (h : FreeOk A) (hl : A.handles.lookup n = some name) {F : List Int} (hp : F.Perm (A.free ++ [n])) (ho : HeapOrd F) : FreeOk { A with handles := delH A.handles n, free := F } := by
 have hk : n ∈ A.handles.map (·.1) := List.mem_map.2 ⟨_, look_mem hl, rfl⟩;have hkn := h.key n hk;have hnf : n ∉ A.free := fun hm => ((h.mem n).1 hm).2.2 hk;refine ⟨ho, ?_, fun m => ?_, fun m hm => h.key m (mem_keys_delH.1 hm).1, h.next0, h.next9⟩
 · refine hp.nodup_iff.2 ?_;rw [List.nodup_append];refine ⟨h.nod, by simp, fun a ha b hb e => ?_⟩;simp only [List.mem_singleton] at hb;rw [e, hb] at ha;exact hnf ha
 · show m ∈ F ↔ (0 ≤ m ∧ m < A.next ∧ m ∉ (delH A.handles n).map (·.1));rw [hp.mem_iff, List.mem_append, h.mem, mem_keys_delH];simp only [List.mem_singleton];constructor
   · rintro (⟨a, b, c⟩ | rfl)
     · exact ⟨a, b, fun hh => c hh.1⟩
     · exact ⟨hkn.1, hkn.2, fun hh => hh.2 rfl⟩
   · rintro ⟨a, b, c⟩;by_cases e : m = n
     · exact .inr e
     · exact .inl ⟨a, b, fun hh => c ⟨hh, e⟩⟩
theorem drop_any (hR : Rep w g A) (hg : Good k m A) (n : Int) :
 Calls Tryz.prog 30 #[.pointer (some ⟨g.hb, 0, none⟩), .int .i64 n] w fun e w' => ∃ er, e = .returned (.int .i64 er) ∧ Hid (∃ A' g', DropSpec A n er A' ∧ Rep w' g' A' ∧ Step w g A w' g') := by
 refine ret_k fun K hK => ?_;cases hl : A.handles.lookup n with
 | none =>
   have HO := Lib.hid (of_none hR hl);have HP := Lib.hid (hK _ _ ⟨221, rfl, A, g, .none hl, hR, Step.refl w g A⟩);clear hK hR hg hl
   go_enter Tryz.func30, Tryz.ntmps30
   go_wp2_with (go_at_call 56; refine HO.out.mono ?_; rintro e w1 ⟨rfl, rfl⟩)
   go_ret;exact HP.out
 | some name =>
   obtain ⟨o, ho⟩ := Option.isSome_iff_exists.1 (hg.wf.hob n name hl);have HO := Lib.hid (of_some hR hl ho);have c5 : w.cell? ⟨g.hb, 5, none⟩ = some (.map (some g.mh)) := hR.c 5;obtain ⟨es, clock, hes, hrun, hM⟩ := run_delete_map (P := Tryz.prog) hR.mh uMapI uInt 0 n;rw [delKV_kvsH] at hM;have hH := hR.setH (chg_put1 _ _ _) hM;have d9 := hH.1.c 9;have hFA : FreeAt (World.put w g.mh (.map (es.filter fun e => decide (kint e.key ≠ n)) clock)) g.lb g.vF A.free := ⟨hH.1.rF.row, hH.1.lb, fun b hb e => (by have := hR.rF.own b hb; rw [e, hR.olb] at this; cases this), hg.free.ord⟩
   have HPush : Hid (Calls Tryz.prog 69 #[.iface 62 (.pointer (some ⟨g.lb, 0, none⟩)), .iface 3 (.int .i64 n)] (World.put w g.mh (.map (es.filter fun e => decide (kint e.key ≠ n)) clock)) fun e w3 => e = .returned (.tuple #[]) ∧ Hid (Post K (.returned (.int .i64 0)) w3)) := by
    refine (heapPush_any hFA (by have := hg.free.len; omega) n).mono ?_;rintro e w3 ⟨rfl, v', ys, hp, hF', hC, hloc⟩;have hS := hH.1.setF (Step.refl _ g A) (v1 := v') (l := ys) hC hF'.cell hF'.row (fun b hb => by
     rcases hloc b hb with h | h
     · exact .inl (hH.1.rF.own b h)
     · exact .inr ⟨hH.1.none_of_ge h, h⟩)
    refine ⟨rfl, hK _ _ ⟨0, rfl, _, _, .ok (F := ys) hl (hg.free.dropped hl hp hF'.ord), hS.1, hH.2.trans hS.2 (Int.le_refl _)⟩⟩
   have d9' : (World.put w g.mh (.map (es.filter fun e => decide (kint e.key ≠ n)) clock)).cell? ⟨g.hb, 9, none⟩ = some (.iface 62 (.pointer (some ⟨g.lb, 0, none⟩))) := d9;obtain ⟨W, hW⟩ : ∃ W, W = World.put w g.mh (.map (es.filter fun e => decide (kint e.key ≠ n)) clock) := ⟨_, rfl⟩;rw [← hW] at hrun HPush d9';clear hK hR hg hl ho hM hH d9 hFA hes hW
   go_enter Tryz.func30, Tryz.ntmps30
   go_wp2_with (first | (go_at_call 56; refine HO.out.mono ?_; rintro e w1 ⟨rfl, rfl⟩) | (go_at_call 69; refine HPush.out.mono ?_; rintro e w3 ⟨rfl, hZ⟩))
   go_ret;exact hZ.out
theorem index_any (hrow : Row w 3 1 v xs.length (intCells xs)) (hb : xs.length ≤ 1000000000) (n : Int) :
 Calls Tryz.prog 119 #[v, .int .i64 n] w fun e w' => ∃ i : Int, e = .returned (.int .i64 i) ∧ (0 ≤ i ↔ n ∈ xs) ∧ w = w' := by
 obtain ⟨a, c, rfl, _, _, _⟩ := hrow.slice;refine ret_k fun K hK => ?_;have HK := Lib.hid hK;have HRow := Lib.hid hrow;clear hK hrow
 go_enter Tryz.func119, Tryz.ntmps119
 go_wp2
 go_loopw [8] (fun i wr => ∃ k : Nat, k ≤ xs.length ∧ i = .int .i64 k ∧ n ∉ xs.take k ∧ wr = w) (fun i _ => xs.length - (intOf i).toNat)
 case atStart => exact ⟨0, Nat.zero_le _, rfl, by simp, rfl⟩
 case round =>
  obtain ⟨k, hk, rfl, hno, hw⟩ := hrel;subst hw;by_cases hlt : k < xs.length
  · obtain ⟨b, rfl, _, hc⟩ := HRow.out.cells (by omega);have c0 : wr.cell? ⟨b, k, none⟩ = some (.int .i64 (xs[k])) := hc _ _ (by simp [intCells, hlt]);have w1 : IntKind.i64.wrap ((k : Int) + 1) = ((k + 1 : Nat) : Int) := by rw [IntWalk.i64_in _ (by omega)]; omega
    by_cases he : n = xs[k]
    · have HF := Lib.hid (HK.out _ _ ⟨(k : Int), rfl, ⟨fun _ => by rw [he]; exact List.getElem_mem hlt, fun _ => by omega⟩, rfl⟩);have he2 : (n == xs[k]) = true := by simpa using he
      clear hc hno HK HRow he;generalize xs[k] = xk at *;go_wp2;go_ret;exact HF.out
    · have he2 : (n == xs[k]) = false := by simpa using he
      have hno2 : n ∉ xs.take (k + 1) := by
       rw [List.take_succ_eq_append_getElem hlt];simp only [List.mem_append, List.mem_singleton];exact fun h => h.elim hno he
      have HNo := Lib.hid hno2;clear hc hno he hno2;generalize xs[k] = xk at *;go_wp2
      go_roundw
      case rel => exact ⟨k + 1, by omega, by go_num, HNo.out, by first | rfl | trivial⟩
      case measure => simp [intOf]; omega
  · have hke : k = xs.length := by omega
    subst hke;rw [List.take_length] at hno;have HF := Lib.hid (HK.out _ _ ⟨-1, rfl, ⟨fun h => by omega, fun h => absurd h hno⟩, rfl⟩);clear hno HK HRow;go_wp2;go_ret;exact HF.out
theorem contains_any (hrow : Row w 3 1 v xs.length (intCells xs)) (hb : xs.length ≤ 1000000000) (n : Int) :
 Calls Tryz.prog 87 #[v, .int .i64 n] w fun e w' => e = .returned (.bool (decide (n ∈ xs))) ∧ w = w' := by
 have hI : Calls Tryz.prog 119 #[v, .int .i64 n] w fun e w' => ∃ i : Int, e = .returned (.int .i64 i) ∧ decide (0 ≤ i) = decide (n ∈ xs) ∧ w = w' := by
  refine (index_any hrow hb n).mono ?_;rintro e w' ⟨i, rfl, h, rfl⟩;exact ⟨i, rfl, by simp [h], rfl⟩
 have HI := Lib.hid hI;clear hI hrow;generalize decide (n ∈ xs) = r at *;refine ret_k fun K hK => ?_;have HK := Lib.hid hK;clear hK
 go_enter Tryz.func87, Tryz.ntmps87
 go_wp2_with fail
 refine HI.out.mono ?_; rintro e w1 ⟨i, rfl, hd, rfl⟩;have hd2 := Lib.hid hd;clear hd;go_wp2;go_ret;rw [hd2.out];exact HK.out _ _ ⟨rfl, rfl⟩
inductive FinSpec (A : St) (n : Int) : Bool → Int → St → Prop
 | none : A.handles.lookup n = none → FinSpec A n false 221 A
 | again {name : Int} : A.handles.lookup n = some name → name ∈ A.reg → FinSpec A n false 0 A
 | new {name : Int} : A.handles.lookup n = some name → name ∉ A.reg → FinSpec A n true 0 { A with reg := A.reg ++ [name] }
theorem fin_any (hR : Rep w g A) (hg : Good k m A) (n : Int) :
 Calls Tryz.prog 45 #[.pointer (some ⟨g.hb, 0, none⟩), .int .i64 n] w fun e w' => ∃ b er, e = .returned (.tuple #[.bool b, .int .i64 er]) ∧ Hid (∃ A' g', FinSpec A n b er A' ∧ Rep w' g' A' ∧ Step w g A w' g') := by
 refine ret_k fun K hK => ?_;have hbig := hg.wf.big;have hk9 := hg.wf.hk;cases hl : A.handles.lookup n with
 | none =>
   have HO := Lib.hid (of_none hR hl);have HP := Lib.hid (hK _ _ ⟨false, 221, rfl, A, g, .none hl, hR, Step.refl w g A⟩);clear hK hR hg hl hbig
   go_enter Tryz.func45, Tryz.ntmps45
   go_wp2_with (go_at_call 56; refine HO.out.mono ?_; rintro e w1 ⟨rfl, rfl⟩)
   go_ret2
   exact HP.out
 | some name =>
   obtain ⟨o, ho⟩ := Option.isSome_iff_exists.1 (hg.wf.hob n name hl);have HO := Lib.hid (of_some hR hl ho);obtain ⟨a0, c0, hv, _, _, _⟩ := hR.rR.row.slice;have d6 : w.cell? ⟨g.hb, 6, none⟩ = some (.slice a0 A.reg.length c0) := by rw [hR.c 6]; simp [hsCells, hv]
   have hrow := hR.rR.row;rw [hv] at hrow;by_cases hin : name ∈ A.reg
   · have hCt := contains_any hrow (by omega) name;rw [decide_eq_true hin] at hCt;have HCt := Lib.hid hCt;have HP := Lib.hid (hK _ _ ⟨false, 0, rfl, A, g, .again hl hin, hR, Step.refl w g A⟩);clear hK hR hg hl hbig hCt hrow hin hv ho;generalize A.reg.length = rl at *
     go_enter Tryz.func45, Tryz.ntmps45
     go_wp2_with (first | (go_at_call 56; refine HO.out.mono ?_; rintro e w1 ⟨rfl, rfl⟩) | (go_at_call 87; refine HCt.out.mono ?_; rintro e w1 ⟨rfl, rfl⟩))
     go_ret2
     exact HP.out
   · have hCt := contains_any hrow (by omega) name;rw [decide_eq_false hin] at hCt;have HCt := Lib.hid hCt;obtain ⟨a, cap, w3, happ, hrow3, hC, hloc⟩ := app1 hrow name (by omega);have hhb : rowBlk g.vR ≠ some g.hb := fun h => by have := hR.rR.own _ h; rw [hR.ohs] at this; cases this
     rw [← hv] at hC hloc;have hhs : w3.heap[g.hb]? = some (.cells (hsCells g A) 74 (0, 0)) := hC.at hR.hs hhb;have hne : ∀ b, rowBlk (.slice a (A.reg.length + 1) cap) = some b → b ≠ g.hb := fun b hb e => by
      rcases hloc b hb with h | h
      · exact hhb (by rw [h, e])
      · have := hR.lt g.hb (by rw [hR.ohs]; rfl); omega
     have hS := hR.setR (Step.refl w g A) (v1 := .slice a (A.reg.length + 1) cap) (l := A.reg ++ [name]) ((hC.mono (fun _ _ h => .inr h)).setCell (fun _ => .inl rfl) _) (heap_setCell hhs 6 _) (hrow3.same fun b hb => heap_setCell_ne (hne b hb) _)
      (fun b hb => by
       rcases hloc b hb with h | h
       · exact .inl (hR.rR.own b h)
       · exact .inr ⟨hR.none_of_ge h, h⟩)
     have HP := Lib.hid (hK _ _ ⟨true, 0, rfl, _, _, .new hl hin, hS.1, hS.2⟩);have e6 : ∃ v, w3.cell? ⟨g.hb, 6, none⟩ = some v := ⟨_, by rw [cellAt hhs]; rfl⟩;obtain ⟨v6, e6⟩ := e6;have f6 : w3.frozen? ⟨g.hb, 6, none⟩ = false := freeAt hhs 6;clear hK hR hg hl hbig hCt hrow hin hv ho hrow3 hC hloc hhs hne hS hhb;generalize A.reg.length = rl at *
     go_enter Tryz.func45, Tryz.ntmps45
     go_wp2_with (first | (go_at_call 56; refine HO.out.mono ?_; rintro e w1 ⟨rfl, rfl⟩) | (go_at_call 87; refine HCt.out.mono ?_; rintro e w1 ⟨rfl, rfl⟩) | (at_builtin; go_must (refine wpList_val rfl (exec_append rfl (by exact happ)) ?_)))
     go_ret2
     exact HP.out
theorem clonePart_any {ad : Addr} {cap n : Nat} (hn : xs.length = n) (hsrc : ∀ w1, Chg (fun _ => False) w w1 → Src' w1 1 (.slice (some ad) n cap) n (intCells xs)) (hT : xs.length < 1000000000000) :
 Calls Tryz.prog 88 #[.slice (some ad) n cap] w fun e w' => ∃ v', e = .returned v' ∧ Row w' 3 1 v' xs.length (intCells xs) ∧ Chg (fun _ => False) w w' ∧ (∀ b, rowBlk v' = some b → w.heap.size ≤ b) := by
 have hq : ∀ (w : World) (a : Option Addr) (n c n' c' : Nat), (binOp .eql 23 (.slice a n c) (.slice none n' c')).run Tryz.prog w = .ok (.bool a.isNone) w := fun w a n c n' c' => Lib.run_eql_slice_nil w _ _ a n c n' c' uInts;refine ret_k fun K hK => ?_;obtain ⟨i0, hi, hz0, hz1, hz2⟩ := info_parts iInt;obtain ⟨w1, hw1⟩ : ∃ w1, w1 = w.alloc (.cells #[] 3) := ⟨_, rfl⟩;have hC1 : Chg (fun _ => False) w w1 := by rw [hw1]; exact (Chg.refl _ _).alloc _
 have h0 : Row w1 3 1 (.slice (some ⟨w.heap.size, 0, none⟩) 0 0) 0 [] := ⟨by simp, by simp, .inl ⟨rfl, _, rfl⟩⟩;obtain ⟨v3, w3, happ, hrow3, hC3, hloc3⟩ := run_append_row (P := Tryz.prog) 23 23 3 i0 _ 1 8 uInts hi hz0 hz1 hz2 rfl (by decide) h0 (hsrc w1 hC1) (by intro u hu; simp [intCells] at hu; obtain ⟨x, _, rfl⟩ := hu; rfl) (by unfold maxLen; omega) (by omega);simp only [Nat.zero_add, List.nil_append] at hrow3;have HF : Hid (Post K (.returned v3) w3) := hK _ _ ⟨v3, rfl, by rw [hn]; exact hrow3, hC1.trans hC3 (fun j hj hb => by simp [rowBlk] at hb), fun b hb => by
  rcases hloc3 b hb with h2 | h2
  · simp [rowBlk] at h2
  · exact Nat.le_trans hC1.size h2⟩
 clear hrow3 hC3 hloc3 hC1 h0 hK hsrc hn;subst hw1
 go_enter Tryz.func88, Tryz.ntmps88
 go_wp2_with (at_builtin; go_must (refine wpList_val rfl (exec_append rfl happ) ?_))
 go_ret;exact HF.out
inductive NextSpec (A : St) : Int → Bool → Int → St → Prop
 | none : A.queue = [] → NextSpec A 0 false 0 A
 | some {n q : Int} {l : List Int} {A1 : St} : A.queue = n :: l → Granted A n q A1 → NextSpec A q true 0 { A1 with queue := l }
theorem next_any (hR : Rep w g A) (hg : Good k m A) (hh : A.handles.length < 9000) :
 Calls Tryz.prog 46 #[.pointer (some ⟨g.hb, 0, none⟩)] w fun e w' => ∃ q b er, e = .returned (.tuple #[.int .i64 q, .bool b, .int .i64 er]) ∧ Hid (∃ A' g', NextSpec A q b er A' ∧ Rep w' g' A' ∧ Step w g A w' g') := by
 refine ret_k fun K hK => ?_;have hbig := hg.wf.big;have hk9 := hg.wf.hk;obtain ⟨a0, c0, hv, hle, _, hcase⟩ := hR.rQ.row.slice;have d7 : w.cell? ⟨g.hb, 7, none⟩ = some (.slice a0 A.queue.length c0) := by rw [hR.c 7]; simp [hsCells, hv]
 cases hq : A.queue with
 | nil =>
   have HP := Lib.hid (hK _ _ ⟨0, false, 0, rfl, A, g, .none hq, hR, Step.refl w g A⟩);rw [hq] at d7;clear hK hR hg hh hbig hv hle hcase hq
   go_enter Tryz.func46, Tryz.ntmps46
   go_wp2
   go_ret3
   exact HP.out
 | cons n l =>
   have HSp := Lib.hid (spare_any hR 1 (by omega) (by omega));obtain ⟨b, rfl, hbk⟩ : ∃ b, a0 = some ⟨b, 0, none⟩ ∧ rowBlk g.vQ = some b := by
    rcases hcase with h | h
    · rw [hq] at h; simp at h
    · exact h
   have hrow := hR.rQ.row;rw [hv] at hrow;obtain ⟨b', hb', _, hc⟩ := hrow.cells (by rw [hq]; simp);simp only [Option.some.injEq, Addr.mk.injEq, and_true] at hb';subst hb';have e0 : w.cell? ⟨b, 0, none⟩ = some (.int .i64 n) := hc 0 _ (by simp [intCells, hq]);have hlen : A.queue.length = l.length + 1 := by rw [hq]; simp
   rw [hlen] at d7 hle;have HH : Hid (Calls Tryz.prog 86 #[.pointer (some ⟨g.hb, 0, none⟩), .int .i64 n] w fun e w1 => ∃ q, e = .returned (.int .i64 q) ∧ ∃ b c, l.length + 1 ≤ c ∧ w1.cell? ⟨g.hb, 7, none⟩ = some (.slice (some ⟨b, 0, none⟩) (l.length + 1) c) ∧
    Hid (∀ a, (c = 1 → a = ⟨b, 0, none⟩) → (c ≠ 1 → a = ⟨b, 1, none⟩) → Calls Tryz.prog 88 #[.slice (some a) l.length (c - 1)] w1 fun e w2 => ∃ v', e = .returned v' ∧ (∃ x, w2.cell? ⟨g.hb, 7, none⟩ = some x) ∧ w2.frozen? ⟨g.hb, 7, none⟩ = false ∧ (∃ a n c, v' = .slice a n c) ∧
     Hid (Post K (.returned (.tuple #[.int .i64 q, .bool true, .int .i64 0])) (w2.setCell ⟨g.hb, 7, none⟩ v')))) := by
    refine (handle_any hR hg.free hh n).mono ?_;rintro e w1 ⟨q, rfl, hZ⟩;obtain ⟨A1, g1, hG, hR1, hS1⟩ := hZ.out;have hq1 : A1.queue = A.queue := by obtain ⟨F, nx, rfl⟩ := hG.eq; rfl
    obtain ⟨a1, c1, hv1, hle1, _, hcase1⟩ := hR1.rQ.row.slice;rw [hq1, hlen] at hv1 hle1 hcase1;obtain ⟨b1, rfl, hbk1⟩ : ∃ b, a1 = some ⟨b, 0, none⟩ ∧ rowBlk g1.vQ = some b := by
     rcases hcase1 with h | h
     · omega
     · exact h
    have c7 := hR1.c 7;rw [hS1.hb] at c7;refine ⟨q, rfl, b1, c1, hle1, by rw [c7]; simp [hsCells, hv1], ?_⟩;intro a ha1 ha2;have hrow1 := hR1.rQ.row;rw [hq1, hlen, hv1] at hrow1;have hsrc : ∀ w2, Chg (fun _ => False) w1 w2 → Src' w2 1 (.slice (some a) l.length (c1 - 1)) l.length (intCells l) := by
     intro w2 hC2;have hr2 : Row w2 3 1 (.slice (some ⟨b1, 0, none⟩) (l.length + 1) c1) (l.length + 1) (intCells A.queue) := hrow1.same fun x hx => hC2.block x (hrow1.lt hx) (fun h => h);by_cases hc1 : c1 = 1
     · have hl0 : l.length = 0 := by omega
       rw [ha1 hc1, hl0, List.eq_nil_of_length_eq_zero hl0];exact ⟨by simp [intCells], .inr ⟨rfl, _, _, rfl⟩⟩
     · have hp := hr2.part 1 l.length (c1 - 1) (by omega);rw [ha2 hc1];have e1 : ((intCells A.queue).drop (1 * 1)).take (l.length * 1) = intCells l := by
        rw [hq];simp only [intCells, List.map_cons, Nat.mul_one, List.drop_succ_cons, List.drop_zero];exact List.take_of_length_le (by simp)
       rw [e1] at hp;exact hp
    refine (clonePart_any rfl hsrc (by omega)).mono ?_;rintro e w2 ⟨v', rfl, hr', hC2, hfr⟩;have hR2 := hR1.chg0 hC2;have hhs2 := hR2.hs;rw [hS1.hb] at hhs2;have hne : ∀ x, rowBlk v' = some x → x ≠ g.hb := fun x hx e => by
     have := hfr x hx;have h2 := hR1.lt g1.hb (by rw [hR1.ohs]; rfl);rw [hS1.hb] at h2;omega
    have hset := hR2.setQ ((hS1.trans (Step.chg0 g1 A1 hC2) (by obtain ⟨F, nx, rfl⟩ := hG.eq; exact Int.le_refl _)) : Step w g A w2 g1) (w' := w2.setCell ⟨g.hb, 7, none⟩ v') (v1 := v') (l := l) (by rw [hS1.hb]; exact (Chg.refl _ _).setCell (fun _ => .inl rfl) _) (by rw [hS1.hb]; exact heap_setCell hhs2 7 _) (hr'.same fun x hx => heap_setCell_ne (hne x hx) _) (fun x hx => by
     have := hfr x hx;exact .inr ⟨hR1.none_of_ge this, Nat.le_trans hS1.chg.size this⟩)
    obtain ⟨a', c', hv', _, _, _⟩ := hr'.slice;exact ⟨v', rfl, ⟨_, by rw [cellAt hhs2]; rfl⟩, freeAt hhs2 7, ⟨_, _, _, hv'⟩, hK _ _ ⟨q, true, 0, rfl, _, _, .some hq hG, hset.1, hset.2⟩⟩
   have hlb : l.length ≤ 9000 := by omega
   clear hK hR hg hh hbig hv hcase hq hrow hc hbk;clear hlen;generalize l.length = ln at *
   go_enter Tryz.func46, Tryz.ntmps46
   go_wp2_with fail
   refine HSp.out.mono ?_; rintro e w1 ⟨rfl, rfl⟩
   go_wp2_with fail
   refine HH.out.mono ?_; rintro e w1 ⟨q, rfl, b1, c1, hle1, d8, HC⟩;have s1 : (1 : Int) ≤ (ln : Int) + 1 := by omega
   by_cases hc1 : c1 = 1
   · have HC2 := Lib.hid (HC.out ⟨b1, 0, none⟩ (fun _ => rfl) (fun h => absurd hc1 h));subst hc1;obtain rfl : ln = 0 := by omega
     rw [show (1 : Nat) - 1 = 0 from rfl] at HC2;clear HC HH
     go_wp2_with fail
     refine HC2.out.mono ?_; rintro e w2 ⟨v', rfl, ⟨x, d9⟩, d10, ⟨a', n', c', rfl⟩, hZ⟩;go_wp2
     go_ret3
     exact hZ.out
   · have HC2 := Lib.hid (HC.out ⟨b1, 1, none⟩ (fun h => absurd h hc1) (fun _ => rfl));clear HC HH
     go_wp2_with fail
     refine HC2.out.mono ?_; rintro e w2 ⟨v', rfl, ⟨x, d9⟩, d10, ⟨a', n', c', rfl⟩, hZ⟩;go_wp2
     go_ret3
     exact hZ.out
theorem minorM_any (hR : Rep w g A) (hg : Good k m A) :
 Calls Tryz.prog 11 #[.pointer (some ⟨g.hb, 0, none⟩)] w fun e w' => e = .returned (.tuple #[]) ∧ Hid (∃ S g', Found1 A S ∧ Rep w' g' (A.minored (fun n => decide (n ∈ S))) ∧ Step w g A w' g') := by
 have HM := Lib.hid (minor_any hR hg.wf hg.rem.sub);clear hR hg
 go_enter Tryz.func11, Tryz.ntmps11
 go_wp2_with fail
 refine HM.out.mono ?_; rintro e w1 ⟨rfl, hZ⟩;have HZ := Lib.hid hZ;clear hZ;go_wp2
 go_end0
 exact ⟨rfl, HZ⟩
theorem majorM_any (hR : Rep w g A) (hg : Good k m A) :
 Calls Tryz.prog 12 #[.pointer (some ⟨g.hb, 0, none⟩)] w fun e w' => e = .returned (.tuple #[]) ∧ Hid (∃ g', Rep w' g' A.majored ∧ Step w g A w' g') := by
 have HM := Lib.hid (major_any hR hg.wf);clear hR hg
 go_enter Tryz.func12, Tryz.ntmps12
 go_wp2_with fail
 refine HM.out.mono ?_; rintro e w1 ⟨rfl, hZ⟩;have HZ := Lib.hid hZ;clear hZ;go_wp2
 go_end0
 exact ⟨rfl, HZ⟩
theorem usedM_any (hR : Rep w g A) (hw : Wf k m A) :
 Calls Tryz.prog 20 #[.pointer (some ⟨g.hb, 0, none⟩)] w fun e w' => e = .returned (.int .i64 A.used) ∧ Hid (Rep w' g A ∧ Step w g A w' g) := by
 have HM := Lib.hid (used_q hR (by have := hw.used_small; omega) 0);clear hR hw
 go_enter Tryz.func20, Tryz.ntmps20
 go_wp2_with fail
 refine HM.out.mono ?_; rintro e w1 ⟨rfl, h, hZ⟩;go_wp2;go_ret;exact ⟨rfl, hZ⟩
theorem Wf.congr (h : Wf k m A) (e1 : A'.objs = A.objs) (e2 : A'.names = A.names) (e3 : A'.memN = A.memN) (e4 : A'.memT = A.memT) (hro : ∀ n ∈ A'.roots, (A.objs.lookup n).isSome) (hre : ∀ n ∈ A'.reg, (A.objs.lookup n).isSome)
 (hb : A'.queue.length + A'.handles.length + A'.reg.length ≤ k) : Wf k m A' := by
 have em : ∀ old, A'.mem old = A.mem old := fun old => by unfold St.mem; rw [e3, e4]
 have ef : ∀ o, A'.fields o = A.fields o := fun o => by unfold St.fields; rw [em]
 have er : ∀ o, A'.refs o = A.refs o := fun o => by unfold St.refs; rw [ef]
 refine ⟨h.hk, h.hm, h.hkm, ⟨fun n o ho => ?_, fun n o ho => ?_, fun n o ho => ?_, by rw [e3]; exact h.fit.memN, by rw [e4]; exact h.fit.memT, by rw [e1]; exact h.fit.many, by rw [e1]; exact h.fit.nodup⟩, fun n o ho x hx => ?_, fun n hn => ?_, fun n hn => ?_, fun n o ho => ?_, hb, by rw [e1]; exact h.many, by rw [e3]; exact h.memN, by rw [e4]; exact h.memT, fun n o ho => ?_⟩
 · rw [e1] at ho; rw [em]; exact h.fit.inn n o ho
 · rw [e1] at ho; exact h.fit.size n o ho
 · rw [e1] at ho; exact h.fit.ents n o ho
 · rw [e1] at ho ⊢; rw [er] at hx; exact h.closed n o ho x hx
 · rw [e1]; exact hro n hn
 · rw [e1]; exact hre n hn
 · rw [e1] at ho; exact h.shape n o ho
 · rw [e1] at ho; rw [e2]; exact h.below n o ho
theorem Wf.noted (h : Wf k m A) (n : Int) : Wf k m (A.noted n) := by
 rw [noted_same];exact h.congr rfl rfl rfl rfl h.roots h.regs h.big
theorem remOk_noted (h1 : ∀ n ∈ A.rem, (A.objs.lookup n).isSome) (h2 : ∀ n o, n ≠ name → A.objs.lookup n = some o → o.old = true → ∀ m ∈ A.refs o, A.isYoung m = true → n ∈ A.rem) (hn : (A.objs.lookup name).isSome) : RemOk (A.noted name) := by
 obtain ⟨o, ho⟩ := Option.isSome_iff_exists.1 hn;have e : A.noted name = if o.old && (A.refs o).any A.isYoung then (if name ∈ A.rem then A else { A with rem := A.rem ++ [name] }) else { A with rem := A.rem.filter (fun m => decide (m ≠ name)) } := by unfold St.noted; rw [ho]
 have hrem : ∀ n, n ∈ (A.noted name).rem ↔ (n = name ∧ (o.old && (A.refs o).any A.isYoung) = true) ∨ (n ≠ name ∧ n ∈ A.rem) := by
  intro n;rw [e];by_cases hc : (o.old && (A.refs o).any A.isYoung) = true
  · rw [if_pos hc];by_cases hm : name ∈ A.rem
    · rw [if_pos hm];constructor
      · intro hn;by_cases en : n = name
        · exact .inl ⟨en, hc⟩
        · exact .inr ⟨en, hn⟩
      · rintro (⟨rfl, _⟩ | ⟨_, h⟩)
        · exact hm
        · exact h
    · rw [if_neg hm];show n ∈ A.rem ++ [name] ↔ _;rw [List.mem_append, List.mem_singleton];constructor
      · rintro (h | h)
        · exact .inr ⟨fun en => hm (en ▸ h), h⟩
        · exact .inl ⟨h, hc⟩
      · rintro (⟨h, _⟩ | ⟨_, h⟩)
        · exact .inr h
        · exact .inl h
  · rw [if_neg hc];show n ∈ A.rem.filter (fun m => decide (m ≠ name)) ↔ _;rw [List.mem_filter, decide_eq_true_eq];constructor
    · rintro ⟨h, hne⟩; exact .inr ⟨hne, h⟩
    · rintro (⟨_, h⟩ | ⟨hne, h⟩)
      · exact absurd h hc
      · exact ⟨h, hne⟩
 have es := noted_same A name;have hobj : (A.noted name).objs = A.objs := by rw [es]
 have hyo : ∀ m, (A.noted name).isYoung m = A.isYoung m := fun m => by unfold St.isYoung; rw [hobj]
 have hrf : ∀ o, (A.noted name).refs o = A.refs o := fun o => by
  rw [es]; rfl
 refine ⟨fun n hn' => ?_, fun n x hx hold m hm hy => ?_⟩
 · rw [hobj];rcases (hrem n).1 hn' with ⟨rfl, _⟩ | ⟨_, h⟩
   · exact hn
   · exact h1 n h
 · rw [hobj] at hx;rw [hrf] at hm;rw [hyo] at hy;rw [hrem];by_cases en : n = name
   · subst en;rw [ho] at hx;simp only [Option.some.injEq] at hx;subst hx;left;refine ⟨rfl, ?_⟩;rw [hold, Bool.true_and, List.any_eq_true];exact ⟨m, hm, hy⟩
   · exact .inr ⟨en, h2 n x en hx hold m hm hy⟩
theorem RemOk.congr (h : RemOk A) (e1 : A'.objs = A.objs) (e2 : A'.rem = A.rem) (e3 : A'.memN = A.memN) (e4 : A'.memT = A.memT) : RemOk A' := by
 have em : ∀ old, A'.mem old = A.mem old := fun old => by unfold St.mem; rw [e3, e4]
 have er : ∀ o, A'.refs o = A.refs o := fun o => by unfold St.refs St.fields; rw [em]
 have ey : ∀ n, A'.isYoung n = A.isYoung n := fun n => by unfold St.isYoung; rw [e1]
 exact ⟨fun n hn => by rw [e2] at hn; rw [e1]; exact h.sub n hn, fun n o ho hold m hm hy => by rw [e1] at ho; rw [er] at hm; rw [ey] at hy; rw [e2]; exact h.all n o ho hold m hm hy⟩
theorem Good.granted (h : Good k m A) (hG : Granted A name n A') (hn : (A.objs.lookup name).isSome) (hb : A.queue.length + A.handles.length + A.reg.length + 1 ≤ k) : Good k m A' := by
 obtain ⟨F, nx, rfl⟩ := hG.eq;refine ⟨h.wf.congr rfl rfl rfl rfl ?_ h.wf.regs ?_, h.rem.congr rfl rfl rfl rfl, hG.ok⟩
 · intro x hx;rcases mem_roots.1 hx with hx | ⟨p, hp, rfl⟩
   · exact h.wf.roots x (mem_roots.2 (.inl hx))
   · have hp' : p ∈ A.handles ++ [(n, name)] := hp;rcases List.mem_append.1 hp' with hp' | hp'
     · exact h.wf.roots _ (mem_roots.2 (.inr ⟨p, hp', rfl⟩))
     · simp at hp'; subst hp'; exact hn
 · show A.queue.length + (A.handles ++ [(n, name)]).length + A.reg.length ≤ k;rw [List.length_append, List.length_singleton]; omega
theorem Good.dropped (h : Good k m A) (hD : DropSpec A n er A') : Good k m A' := by
 cases hD with
 | none _ => exact h
 | @ok name F hl hF =>
   refine ⟨h.wf.congr rfl rfl rfl rfl ?_ h.wf.regs ?_, h.rem.congr rfl rfl rfl rfl, hF⟩
   · intro x hx;rcases mem_roots.1 hx with hx | ⟨p, hp, rfl⟩
     · exact h.wf.roots x (mem_roots.2 (.inl hx))
     · exact h.wf.roots _ (mem_roots.2 (.inr ⟨p, (List.mem_filter.1 hp).1, rfl⟩))
   · have h1 := h.wf.big;have h2 : (delH A.handles n).length ≤ A.handles.length := List.length_filter_le _ _;show A.queue.length + (delH A.handles n).length + A.reg.length ≤ k;omega
theorem Good.fin (h : Good k m A) (hD : FinSpec A n b er A') (hb : A.queue.length + A.handles.length + A.reg.length + 1 ≤ k) : Good k m A' := by
 cases hD with
 | none _ => exact h
 | again _ _ => exact h
 | @new name hl _ =>
   refine ⟨h.wf.congr rfl rfl rfl rfl (fun x hx => h.wf.roots x hx) ?_ ?_, h.rem.congr rfl rfl rfl rfl, h.free.congr rfl rfl rfl⟩
   · intro x hx;have hx' : x ∈ A.reg ++ [name] := hx;rcases List.mem_append.1 hx' with hx' | hx'
     · exact h.wf.regs x hx'
     · simp at hx'; subst hx'; exact h.wf.hob n x hl
   · show A.queue.length + A.handles.length + (A.reg ++ [name]).length ≤ k;rw [List.length_append, List.length_singleton]; omega
theorem Good.next {q : Int} (h : Good k m A) (hD : NextSpec A q b er A') : Good k m A' := by
 cases hD with
 | none _ => exact h
 | @some n q l A1 hq hG =>
   obtain ⟨F, nx, rfl⟩ := hG.eq;have hn : (A.objs.lookup n).isSome := h.wf.roots n (mem_roots.2 (.inl (by rw [hq]; simp)));refine ⟨h.wf.congr rfl rfl rfl rfl ?_ h.wf.regs ?_, h.rem.congr rfl rfl rfl rfl, hG.ok.congr rfl rfl rfl⟩
   · intro x hx;rcases mem_roots.1 hx with hx | ⟨p, hp, rfl⟩
     · exact h.wf.roots x (mem_roots.2 (.inl (by rw [hq]; exact List.mem_cons_of_mem _ hx)))
     · have hp' : p ∈ A.handles ++ [(q, n)] := hp;rcases List.mem_append.1 hp' with hp' | hp'
       · exact h.wf.roots _ (mem_roots.2 (.inr ⟨p, hp', rfl⟩))
       · simp at hp'; subst hp'; exact hn
   · have h1 := h.wf.big;rw [hq] at h1;show l.length + (A.handles ++ [(q, n)]).length + A.reg.length ≤ k;rw [List.length_append, List.length_singleton];simp only [List.length_cons] at h1;omega
theorem area_grow (A : St) (old : Bool) (ws : List Wd) (o : Ob) (hin : o.at_ + 1 + o.size ≤ (A.mem o.old).length) : (A.setMem old (A.mem old ++ ws)).area o = A.area o := by
 unfold St.area;by_cases e : o.old = old
 · subst e;rw [setMem_mem, List.drop_append_of_le_length (by omega), List.take_append_of_le_length (by rw [List.length_drop]; omega)]
 · have : (A.setMem old (A.mem old ++ ws)).mem o.old = A.mem o.old := by
    cases ho : o.old <;> cases old <;> simp [ho] at e <;> rfl
   rw [this]
theorem mem_grow (A : St) (old : Bool) (ws : List Wd) (o : Bool) : (A.mem o).length ≤ ((A.setMem old (A.mem old ++ ws)).mem o).length := by
 by_cases e : o = old
 · subst e;rw [setMem_mem, List.length_append]; omega
 · have : (A.setMem old (A.mem old ++ ws)).mem o = A.mem o := by
    cases ho : o <;> cases old <;> simp [ho] at e <;> rfl
   rw [this]; exact Nat.le_refl _
def St.bare (A : St) (table old : Bool) (ws : List Wd) : St := { A.setMem old (A.mem old ++ ws) with names := A.names + 1 }.addOb A.names (A.newOb table old ws)
theorem bare_lookup_new (h : Wf k m A) (table old : Bool) (ws : List Wd) : (A.bare table old ws).objs.lookup A.names = some (A.newOb table old ws) := by
 show ((A.setMem old (A.mem old ++ ws)).objs ++ [(A.names, A.newOb table old ws)]).lookup A.names = _;rw [setMem_objs];exact lookup_append_new h.new_name
theorem bare_lookup_old (A : St) (table old : Bool) (ws : List Wd) (hn : n ≠ A.names) : (A.bare table old ws).objs.lookup n = A.objs.lookup n := by
 show ((A.setMem old (A.mem old ++ ws)).objs ++ [(A.names, A.newOb table old ws)]).lookup n = _;rw [setMem_objs];exact lookup_append_old hn
theorem bare_lookup (h : Wf k m A) (table old : Bool) (ws : List Wd) (ho : (A.bare table old ws).objs.lookup n = some o) : (n = A.names ∧ o = A.newOb table old ws) ∨ (n ≠ A.names ∧ A.objs.lookup n = some o) := by
 by_cases e : n = A.names
 · subst e;rw [bare_lookup_new h] at ho;simp only [Option.some.injEq] at ho;exact .inl ⟨rfl, ho.symm⟩
 · rw [bare_lookup_old _ _ _ _ e] at ho;exact .inr ⟨e, ho⟩
theorem bare_area (h : Wf k m A) (table old : Bool) (ws : List Wd) (ho : A.objs.lookup n = some o) : (A.bare table old ws).area o = A.area o := area_grow A old ws o (h.fit.inn n o ho)
theorem bare_area_new (A : St) (table old : Bool) (ws : List Wd) (hws : 1 ≤ ws.length) : (A.bare table old ws).area (A.newOb table old ws) = ws := by
 show (((A.setMem old (A.mem old ++ ws)).mem old).drop (A.mem old).length).take (1 + (ws.length - 1)) = ws;rw [setMem_mem, List.drop_left, List.take_of_length_le (by omega)]
theorem bare_refs (h : Wf k m A) (table old : Bool) (ws : List Wd) (ho : A.objs.lookup n = some o) : (A.bare table old ws).refs o = A.refs o := by
 unfold St.refs;rw [fields_area, fields_area, bare_area h _ _ _ ho]
theorem bare_refs_new (A : St) (table old : Bool) (ws : List Wd) (hws : 1 ≤ ws.length) : (A.bare table old ws).refs (A.newOb table old ws) = refsW (ws.drop 1) := by
 unfold St.refs;rw [fields_area, bare_area_new _ _ _ _ hws];simp [St.newOb, refsE]
theorem Wf.bare (h : Wf k m A) (hws : 1 ≤ ws.length ∧ ws.length ≤ 201) (hrefs : ∀ x ∈ refsW (ws.drop 1), (A.objs.lookup x).isSome) (htab : table = true → ws.length = 1)
 (hk : A.objs.length + 1 ≤ k) (hN : old = false → A.memN.length + ws.length ≤ 1001 * k) (hT : old = true → A.memT.length + ws.length ≤ m) : Wf k m (A.bare table old ws) := by
 have hk9 := h.hk;have hm := h.hm;have some_old : ∀ n, (A.objs.lookup n).isSome → ((A.bare table old ws).objs.lookup n).isSome := fun n hn => by
  by_cases e : n = A.names
  · subst e; rw [bare_lookup_new h]; rfl
  · rw [bare_lookup_old _ _ _ _ e]; exact hn
 have hlen : (A.bare table old ws).objs.length = A.objs.length + 1 := by
  show ((A.setMem old (A.mem old ++ ws)).objs ++ [_]).length = _;rw [setMem_objs]; simp
 have hmN : (A.bare table old ws).memN.length ≤ 1001 * k := by
  show (A.setMem old (A.mem old ++ ws)).memN.length ≤ _;cases old with
  | true => exact h.memN
  | false =>
    show (A.memN ++ ws).length ≤ _;rw [List.length_append]; exact hN rfl
 have hmT : (A.bare table old ws).memT.length ≤ m := by
  show (A.setMem old (A.mem old ++ ws)).memT.length ≤ _;cases old with
  | true =>
    show (A.memT ++ ws).length ≤ _;rw [List.length_append]; exact hT rfl
  | false => exact h.memT
 refine ⟨h.hk, h.hm, h.hkm, ⟨fun n o ho => ?_, fun n o ho => ?_, fun n o ho => ?_, by omega, by omega, by omega, ?_⟩, fun n o ho x hx => ?_, fun n hn => ?_, fun n hn => ?_, fun n o ho => ?_, ?_, by omega, hmN, hmT, fun n o ho => ?_⟩
 · rcases bare_lookup h _ _ _ ho with ⟨_, rfl⟩ | ⟨_, ho'⟩
   · show (A.mem old).length + 1 + (ws.length - 1) ≤ ((A.setMem old (A.mem old ++ ws)).mem old).length;rw [setMem_mem, List.length_append]; omega
   · exact Nat.le_trans (h.fit.inn n o ho') (mem_grow A old ws o.old)
 · rcases bare_lookup h _ _ _ ho with ⟨_, rfl⟩ | ⟨_, ho'⟩
   · show ws.length - 1 ≤ 1000; omega
   · exact h.fit.size n o ho'
 · rcases bare_lookup h _ _ _ ho with ⟨_, rfl⟩ | ⟨_, ho'⟩
   · show (0 : Nat) ≤ 1000; omega
   · exact h.fit.ents n o ho'
 · show (((A.setMem old (A.mem old ++ ws)).objs ++ [(A.names, A.newOb table old ws)]).map (·.1)).Nodup;rw [setMem_objs, List.map_append, List.nodup_append];refine ⟨h.fit.nodup, by simp, fun a ha b hb e => ?_⟩;simp only [List.map_cons, List.map_nil, List.mem_singleton] at hb;rw [e, hb] at ha;exact h.new_name ha
 · rcases bare_lookup h _ _ _ ho with ⟨_, rfl⟩ | ⟨_, ho'⟩
   · rw [bare_refs_new _ _ _ _ hws.1] at hx;exact some_old x (hrefs x hx)
   · rw [bare_refs h _ _ _ ho'] at hx;exact some_old x (h.closed n o ho' x hx)
 · have e : (A.bare table old ws).roots = A.roots := by
    unfold St.roots;show (A.setMem old (A.mem old ++ ws)).queue ++ (A.setMem old (A.mem old ++ ws)).handles.map (·.2) = _;have hs := setMem_same A old (A.mem old ++ ws);rw [hs.2.2.2.2.1, hs.2.2.1]
   rw [e] at hn;exact some_old n (h.roots n hn)
 · have e : (A.bare table old ws).reg = A.reg := (setMem_same A old (A.mem old ++ ws)).2.2.2.1;rw [e] at hn;exact some_old n (h.regs n hn)
 · rcases bare_lookup h _ _ _ ho with ⟨_, rfl⟩ | ⟨_, ho'⟩
   · exact ⟨fun ht => by have := htab ht; show ws.length - 1 = 0; omega, fun _ => rfl⟩
   · exact h.shape n o ho'
 · have hs := setMem_same A old (A.mem old ++ ws);show (A.setMem old (A.mem old ++ ws)).queue.length + (A.setMem old (A.mem old ++ ws)).handles.length + (A.setMem old (A.mem old ++ ws)).reg.length ≤ k;rw [hs.2.2.2.2.1, hs.2.2.1, hs.2.2.2.1]; exact h.big
 · show n < A.names + 1;rcases bare_lookup h _ _ _ ho with ⟨rfl, _⟩ | ⟨_, ho'⟩
   · omega
   · have := h.below n o ho'; omega
theorem added_eq (A : St) (table old : Bool) (ws : List Wd) : A.added table old ws = (A.bare table old ws).noted A.names := rfl
theorem remOk_added (h : Wf k m A) (hr : RemOk A) : RemOk (A.added table old ws) := by
 rw [added_eq];have hs := setMem_same A old (A.mem old ++ ws);have hrem : (A.bare table old ws).rem = A.rem := hs.2.2.2.2.2.2.2.2.2;have hnew := bare_lookup_new h table old ws;refine remOk_noted (fun n hn => ?_) (fun n o hne ho hold x hx hy => ?_) (by rw [hnew]; rfl)
 · rw [hrem] at hn;have := hr.sub n hn;by_cases e : n = A.names
   · rw [e, hnew]; rfl
   · rw [bare_lookup_old _ _ _ _ e]; exact this
 · rw [bare_lookup_old _ _ _ _ hne] at ho;rw [hrem];rw [bare_refs h _ _ _ ho] at hx;refine hr.all n o ho hold x hx ?_;have hxs := h.closed n o ho x hx;obtain ⟨xo, hxo⟩ := Option.isSome_iff_exists.1 hxs;have hxn : x ≠ A.names := fun e => by have := h.below x xo hxo; omega
   unfold St.isYoung at hy ⊢;rw [bare_lookup_old _ _ _ _ hxn] at hy;exact hy
theorem setTab_lookup (hm : A.objs.lookup name = some o) (l : List En) {o' : Ob} (h : (A.setOb name { o with ents := l }).objs.lookup n = some o') : (n = name ∧ o' = { o with ents := l }) ∨ (n ≠ name ∧ A.objs.lookup n = some o') := by
 by_cases e : n = name
 · subst e;rw [lookup_setOb_self A n _ o hm] at h;simp only [Option.some.injEq] at h;exact .inl ⟨rfl, h.symm⟩
 · rw [lookup_setOb _ _ _ _ e] at h;exact .inr ⟨e, h⟩
theorem setOb_isSome {o1 : Ob} (hm : A.objs.lookup name = some o) (n : Int) : ((A.setOb name o1).objs.lookup n).isSome = (A.objs.lookup n).isSome := by
 by_cases e : n = name
 · subst e; rw [lookup_setOb_self A n _ o hm, hm]; rfl
 · rw [lookup_setOb _ _ _ _ e]
theorem Wf.setTab (h : Wf k m A) (hm : A.objs.lookup name = some o) (ht : o.table = true) (hl : l.length ≤ 1000) (hin : ∀ x ∈ refsE l, (A.objs.lookup x).isSome) : Wf k m (A.setOb name { o with ents := l }) := by
 have hkeys := setOb_keys A name { o with ents := l };have hlen : (A.setOb name { o with ents := l }).objs.length = A.objs.length := by simp [St.setOb]
 refine ⟨h.hk, h.hm, h.hkm, ⟨fun n o' ho => ?_, fun n o' ho => ?_, fun n o' ho => ?_, h.fit.memN, h.fit.memT, by rw [hlen]; exact h.fit.many, by rw [hkeys]; exact h.fit.nodup⟩, fun n o' ho x hx => ?_, fun n hn => ?_, fun n hn => ?_, fun n o' ho => ?_, h.big, by rw [hlen]; exact h.many, h.memN, h.memT, fun n o' ho => ?_⟩
 · rcases setTab_lookup hm l ho with ⟨_, rfl⟩ | ⟨_, ho'⟩
   · exact h.fit.inn name o hm
   · exact h.fit.inn n o' ho'
 · rcases setTab_lookup hm l ho with ⟨_, rfl⟩ | ⟨_, ho'⟩
   · exact h.fit.size name o hm
   · exact h.fit.size n o' ho'
 · rcases setTab_lookup hm l ho with ⟨_, rfl⟩ | ⟨_, ho'⟩
   · exact hl
   · exact h.fit.ents n o' ho'
 · rw [setOb_isSome hm];rcases setTab_lookup hm l ho with ⟨_, rfl⟩ | ⟨_, ho'⟩
   · have hx' : x ∈ refsW (A.fields o) ++ refsE l := hx;rcases List.mem_append.1 hx' with hx' | hx'
     · rw [fields_nil ((h.shape name o hm).1 ht)] at hx';simp [refsW] at hx'
     · exact hin x hx'
   · exact h.closed n o' ho' x hx
 · rw [setOb_isSome hm]; exact h.roots n hn
 · rw [setOb_isSome hm]; exact h.regs n hn
 · rcases setTab_lookup hm l ho with ⟨_, rfl⟩ | ⟨_, ho'⟩
   · exact ⟨(h.shape name o hm).1, fun hf => by rw [ht] at hf; cases hf⟩
   · exact h.shape n o' ho'
 · rcases setTab_lookup hm l ho with ⟨rfl, _⟩ | ⟨_, ho'⟩
   · exact h.below _ o hm
   · exact h.below n o' ho'
theorem remOk_setTab (hr : RemOk A) (hm : A.objs.lookup name = some o) : RemOk (A.setTab name o l) := by
 unfold St.setTab;refine remOk_noted (fun n hn => ?_) (fun n o' hne ho hold x hx hy => ?_) ?_
 · rw [setOb_isSome hm]; exact hr.sub n hn
 · rw [lookup_setOb _ _ _ _ hne] at ho;refine hr.all n o' ho hold x hx ?_;unfold St.isYoung at hy ⊢;by_cases e : x = name
   · subst e;rw [lookup_setOb_self A x _ o hm] at hy;rw [hm]; exact hy
   · rw [lookup_setOb _ _ _ _ e] at hy;exact hy
 · rw [setOb_isSome hm, hm]; rfl
theorem Good.setTab (h : Good k m A) (hm : A.objs.lookup name = some o) (ht : o.table = true) (hl : l.length ≤ 1000) (hin : ∀ x ∈ refsE l, (A.objs.lookup x).isSome) : Good k m (A.setTab name o l) := by
 refine ⟨(h.wf.setTab hm ht hl hin).noted name, remOk_setTab h.rem hm, h.free.congr ?_ ?_ ?_⟩
 · unfold St.setTab; rw [noted_same]; rfl
 · unfold St.setTab; rw [noted_same]; rfl
 · unfold St.setTab; rw [noted_same]; rfl
end Go.Proofs.YtelghmmcbgfjnaaGreat
