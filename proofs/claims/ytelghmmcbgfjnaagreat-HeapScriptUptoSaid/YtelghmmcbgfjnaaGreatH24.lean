/-
  value, read and put of the reference's graph. (A part of the proof, joined of: Vq, Vr, Vs, Vt, Vu, Vv; made smaller.)
-/
import Derived.Test.YtelghmmcbgfjnaaGreatH23
set_option maxHeartbeats 4000000
set_option maxRecDepth 100000
namespace Go.Proofs.YtelghmmcbgfjnaaGreat
variable {G : GS} {I : IS} {Lg : List Nat} {a er node : Int} {b bb hb k n pb : Nat} {c : Wd} {c0 c1 c2 c3 u v : Value} {cs : Array Value} {e : En} {l : List Int} {lab : Nat → Nat} {w wx : World} {x y : GL}
open Go.RowKit
theorem results_cell_tmp_row {P : Program} {fn : Func} {p u : Tmp} {ty : TypeId} (h : fn.results = #[.cell p ty, .tmp u]) (tmps : Array Value) (w : World) (g : Nat) (t : TypeId) (cs : Array Value) (fr : Nat × Nat) (d : TypeDesc)
 (hp : tmps.getD p undef = .pointer (some ⟨g, 0, none⟩)) (hg : w.heap[g]? = some (.cells cs t fr))
 (hu : P.underlying ty = some d) (hd : (match d with | .struct _ | .array _ _ => true | _ => false) = true) (hi : (P.info? ty).map (·.size) = some cs.size) :
 (results fn tmps).run P w = .ok (.tuple #[.agg cs, tmps.getD u undef]) w := by
 rw [results_cell_tmp h, hp];simp [asAddr, run_loadVar_row w g t ty cs fr d hg hu hd hi]
theorem sLink : (Tryz.prog.underlying 144).map (fun d => match d with | .struct _ => true | _ => false) = some true := by kernel_rfl
theorem zLink : (Tryz.prog.info? 144).map (·.size) = some 5 := by kernel_rfl
theorem store4 {t : TypeId} (h : w.heap[b]? = some (.cells #[c0, c1, c2, c3] t (0, 0))) (v0 v1 v2 v3 : Value) :
 ((((w.setCell ⟨b, 0, none⟩ v0).setCell ⟨b, 1, none⟩ v1).setCell ⟨b, 2, none⟩ v2).setCell ⟨b, 3, none⟩ v3).heap[b]? = some (.cells #[v0, v1, v2, v3] t (0, 0)) ∧
 Chg (fun x => x = b) w ((((w.setCell ⟨b, 0, none⟩ v0).setCell ⟨b, 1, none⟩ v1).setCell ⟨b, 2, none⟩ v2).setCell ⟨b, 3, none⟩ v3) :=
 ⟨by rw [heap_setCell (heap_setCell (heap_setCell (heap_setCell h 0 _) 1 _) 2 _) 3 _]; rfl,
  ((((Chg.refl (fun x => x = b) w).setCell (p := ⟨b, 0, none⟩) (fun _ => rfl) _).setCell (p := ⟨b, 1, none⟩) (fun _ => rfl) _).setCell (p := ⟨b, 2, none⟩) (fun _ => rfl) _).setCell (p := ⟨b, 3, none⟩) (fun _ => rfl) _⟩
theorem value_g (hR : GRep w pb hb Lg G) (r : Bool) (n : Int) :
 Calls Tryz.prog 121 #[.pointer (some ⟨pb, 1, none⟩), .agg #[.bool r, .int .i64 n]] w fun e w' => e = .returned (.tuple #[.agg #[.int .i64 0, .int .i64 0, .int .i64 (-1), .bool r, .int .i64 (if r then G.of n else n)], .bool (!r || decide (0 ≤ G.of n))]) ∧ Chg (fun _ => False) w w' := by
 refine ret_k fun K hK => ?_;have HK := Lib.hid hK;have HR := Lib.hid hR;clear hK hR;obtain ⟨fs, hfs⟩ := structOf sLink;have HFs := Lib.hid hfs;clear hfs;cases r with
 | false =>
   have hb := heap_alloc2_new w (.cells #[.bool false, .int .i64 n] 54) (.cells #[.int .i64 0, .int .i64 0, .int .i64 (-1), .bool false, .int .i64 n] 144);have hC : Chg (fun _ => False) w ((w.alloc (.cells #[.bool false, .int .i64 n] 54)).alloc (.cells #[.int .i64 0, .int .i64 0, .int .i64 (-1), .bool false, .int .i64 n] 144)) := ((Chg.refl _ w).alloc _).alloc _;have HB := Lib.hid (⟨hb, hC⟩ : _ ∧ _);clear hb hC
   go_enter Tryz.func121, Tryz.ntmps121
   go_wp2;refine bodyPost_ret (results_cell_tmp_row rfl _ _ (w.heap.size + 1) 144 _ (0, 0) _ rfl HB.out.1 HFs.out rfl zLink) rfl ?_;exact HK.out _ _ ⟨by simp, HB.out.2⟩
 | true =>
   have hC : Chg (fun _ => False) w ((w.alloc (.cells #[.bool true, .int .i64 n] 54)).alloc (.cells #[.int .i64 0, .int .i64 0, .int .i64 0, .bool false, .int .i64 0] 144)) := ((Chg.refl _ w).alloc _).alloc _;have HO := Lib.hid (of_g (HR.out.still hC) n);have HC := Lib.hid hC;clear hC;have hd : (!true || decide (0 ≤ G.of n)) = decide (0 ≤ G.of n) := by simp
   rw [hd] at HK;clear hd;generalize G.of n = y at *
   go_enter Tryz.func121, Tryz.ntmps121
   go_wp2_with (go_at_call 103; refine HO.out.mono ?_; rintro e w1 ⟨rfl, rfl⟩)
   have hb := heap_alloc2_new w (.cells #[.bool true, .int .i64 n] 54) (.cells #[.int .i64 0, .int .i64 0, .int .i64 (-1), .bool true, .int .i64 y] 144);refine bodyPost_ret (results_cell_tmp_row rfl _ _ (w.heap.size + 1) 144 _ (0, 0) _ rfl hb HFs.out rfl zLink) rfl ?_;exact HK.out _ _ ⟨rfl, ((Chg.refl _ w).alloc _).alloc _⟩
theorem told_into {w3 : World} (hb : w.heap[bb]? = some (.cells #[c0, c1, c2, c3] 101 (0, 0))) (hC : Chg (fun _ => False) w w3) (er : Int) (h : Row w3 3 1 v l.length (intCells l)) (hl : l.length ≤ 100000) :
 Calls Tryz.prog 100 #[.int .i64 er, v] w3 fun e w' => ∃ na nn nc, e = .returned (.agg #[.slice na nn nc, .bool false, .int .i64 0, .int .i64 0]) ∧
  ((∃ u, w'.cell? ⟨bb, 0, none⟩ = some u) ∧ (∃ u, w'.cell? ⟨bb, 1, none⟩ = some u) ∧ (∃ u, w'.cell? ⟨bb, 2, none⟩ = some u) ∧ (∃ u, w'.cell? ⟨bb, 3, none⟩ = some u)) ∧
  (w'.frozen? ⟨bb, 0, none⟩ = false ∧ w'.frozen? ⟨bb, 1, none⟩ = false ∧ w'.frozen? ⟨bb, 2, none⟩ = false ∧ w'.frozen? ⟨bb, 3, none⟩ = false) ∧
  Hid (∀ W, W = ((((w'.setCell ⟨bb, 0, none⟩ (.slice na nn nc)).setCell ⟨bb, 1, none⟩ (.bool false)).setCell ⟨bb, 2, none⟩ (.int .i64 0)).setCell ⟨bb, 3, none⟩ (.int .i64 0)) →
   W.heap[bb]? = some (.cells #[.slice na nn nc, .bool false, .int .i64 0, .int .i64 0] 101 (0, 0)) ∧ IRow W w3.heap.size (.slice na nn nc) (l ++ [er]) ∧ Chg (fun b => b = bb) w3 W) := by
 have hb3 := hC.at hb fun h => h;refine (told_g w3 er h hl).mono ?_;rintro e w' ⟨u, rfl, ⟨nv, rfl, hI⟩, hC'⟩;have hb' := hC'.at hb3 fun h => h;obtain ⟨na, nc, rfl, _⟩ := hI.row.slice;refine ⟨na, _, nc, rfl, ⟨⟨_, cellAt hb' 0⟩, ⟨_, cellAt hb' 1⟩, ⟨_, cellAt hb' 2⟩, ⟨_, cellAt hb' 3⟩⟩, ⟨freeAt hb' 0, freeAt hb' 1, freeAt hb' 2, freeAt hb' 3⟩, Lib.hid fun W hW => ?_⟩;obtain ⟨s1, s2⟩ := store4 hb' (.slice na (l ++ [er]).length nc) (.bool false) (.int .i64 0) (.int .i64 0);rw [← hW] at s1 s2;exact ⟨s1, hI.chg s2 fun b hb e => by have := hI.new b hb; have := lt_of_block hb3; omega, (hC'.mono fun _ _ h => h.elim).trans s2 fun _ _ h => h⟩
theorem two_app (w : World) (x y : Int) (h : Row w 3 1 v l.length (intCells l)) (hl : l.length ≤ 1000) :
 ∃ a c w3, (Builtin.append_ #[23, 23] 23 #[.slice (some ⟨w.heap.size, 0, none⟩) 2 2, v]).run Tryz.prog (w.alloc (.cells #[.int .i64 x, .int .i64 y] 3)) = .ok (.slice a (2 + l.length) c) w3 ∧
   Row w3 3 1 (.slice a (2 + l.length) c) ([x, y] ++ l).length (intCells ([x, y] ++ l)) ∧ Chg (fun _ => False) w w3 := by
 have hB := (IRow.block w (l := [x, y]) (by simp) (by simp [maxLen])).row;have hC : Chg (fun _ => False) w (w.alloc (.cells ([x, y].map (Value.int .i64)).toArray 3)) := (Chg.refl _ _).alloc _;obtain ⟨a, c, w3, h1, h2, h3, _⟩ := append_rows hB (h.same fun b hb => hC.block b (h.lt hb) fun h => h) (by simp; omega);exact ⟨a, c, w3, h1, h2, hC.trans h3 fun b hb e => by simp [rowBlk] at e; omega⟩
theorem GGot.wrap {w2 wg W : World} (hL : ∀ b ∈ Lg, b < w.heap.size) (hC1 : Chg (fun _ => False) w w2) (hG : GGot w2 pb hb Lg G wg) {F : Nat → Prop} (hC3 : Chg F wg W) (hF : ∀ b, F b → w.heap.size ≤ b ∧ b < w2.heap.size) : GGot w pb hb Lg G W := by
 have h1 := hC1.size;have h2 := hG.chg.size;have h3 := hC3.size;have hlgs := hG.rep.lgs;refine ⟨(hG.rep.frame hC3 fun b hb hf => ?_).more (fun b hb => ?_) (fun b hb => ?_), ((hC1.mono fun _ _ h => h.elim).trans hG.chg fun _ _ h => h).trans hC3 fun b hb hf => ?_⟩
 · have h4 := hF b hf;rcases List.mem_append.1 hb with hb | hb
   · have := hL b hb; omega
   · have := (mem_since.1 hb).1; omega
 · rcases List.mem_append.1 hb with hb | hb
   · exact List.mem_append_left _ hb
   · have := mem_since.1 hb;exact List.mem_append_right _ (mem_since.2 ⟨by omega, by omega⟩)
 · rcases List.mem_append.1 hb with hb | hb
   · have := hL b hb; omega
   · exact (mem_since.1 hb).2
 · have := (hF b hf).1; omega
theorem read_g (hR : GRep w pb hb Lg G) (hl : G.roots.length < 20000) (hn : ∀ p ∈ G.roots, 0 ≤ p.2) (l : GL) {is : List Int} (hrow : Row w 3 1 v is.length (intCells is)) (hv : ∀ b, rowBlk v = some b → b ∉ Lg) (his : is.length ≤ 10) :
 Calls Tryz.prog 125 #[.pointer (some ⟨pb, 1, none⟩), .agg #[.int .i64 l.frm, .int .i64 l.slot, .int .i64 l.key, .bool l.ref, .int .i64 l.num], v] w fun e w' => ∃ u, e = .returned u ∧ ToldAt w.heap.size w' u ((if l.ref then [1, G.fresh] else [0, l.num]) ++ is ++ [0]) ∧ GGot w pb hb Lg (if l.ref then G.grant l.num else G) w' := by
 refine ret_k fun K hK => ?_;have HK := Lib.hid hK;have HR := Lib.hid hR;clear hK hR;obtain ⟨fs, hfs⟩ := structOf sTold;have HFs := Lib.hid hfs;clear hfs;obtain ⟨lf, ls, lk, lr, ln⟩ := l;cases lr with
 | false =>
   obtain ⟨w2, hw2⟩ : ∃ w2, w2 = (w.alloc (.cells #[.int .i64 lf, .int .i64 ls, .int .i64 lk, .bool false, .int .i64 ln] 144)).alloc (.cells #[.slice none 0 0, .bool false, .int .i64 0, .int .i64 0] 101) := ⟨_, rfl⟩;have hC2 : Chg (fun _ => False) w w2 := by rw [hw2]; exact ((Chg.refl _ w).alloc _).alloc _
   have hb2 : w2.heap[w.heap.size + 1]? = some (.cells #[.slice none 0 0, .bool false, .int .i64 0, .int .i64 0] 101 (0, 0)) := by rw [hw2]; exact heap_alloc2_new _ _ _
   have hb0 : w2.heap[w.heap.size]? = some (.cells #[.int .i64 lf, .int .i64 ls, .int .i64 lk, .bool false, .int .i64 ln] 144 (0, 0)) := by rw [hw2]; exact heap_alloc2_old _ _ _
   have hrow2 := hrow.same fun b hb => hC2.block b (hrow.lt hb) fun h => h;obtain ⟨a3, c3, w3, happ, hrow3, hC3⟩ := two_app w2 0 ln hrow2 (by omega);have HT := Lib.hid (told_into hb2 hC3 0 hrow3 (by simp; omega));have k3 := cellAt hb0 3;have k4 := cellAt hb0 4;have HC2 := Lib.hid hC2;have HC3 := Lib.hid hC3;clear hrow hrow2 hrow3 hC2 hC3 hb0 hb2 hl hn his
   go_enter Tryz.func125, Tryz.ntmps125
   go_upto_region 1 with fail
   rw [← hw2];clear hw2;obtain ⟨bb, hbb⟩ : ∃ bb, bb = w.heap.size + 1 := ⟨_, rfl⟩;have HBB := Lib.hid hbb;rw [← hbb] at HT ⊢;clear hbb
   go_wp2_with (first | (at_builtin; go_must (refine wpList_val rfl (exec_append rfl happ) ?_)) | (go_at_call 100; refine HT.out.mono ?_; rintro e w5 ⟨na, nn, nc, rfl, ⟨⟨_, u0⟩, ⟨_, u1⟩, ⟨_, u2⟩, ⟨_, u3⟩⟩, ⟨f0, f1, f2, f3⟩, hZ⟩))
   obtain ⟨s1, s2, s3⟩ := hZ.out _ rfl;refine bodyPost_ret (results_cell_row rfl _ _ bb 101 _ (0, 0) _ rfl s1 HFs.out rfl zTold) rfl ?_;have hsz := HC2.out.size;have hsz3 := HC3.out.size;have hCC : Chg (fun _ => False) w _ := ((HC2.out.trans HC3.out fun _ _ h => h).trans s3 fun b hb e => by have := HBB.out; omega);exact HK.out _ _ ⟨_, rfl, ⟨_, rfl, s2.low (by omega)⟩, HR.out.same hCC⟩
 | true =>
   obtain ⟨w2, hw2⟩ : ∃ w2, w2 = (w.alloc (.cells #[.int .i64 lf, .int .i64 ls, .int .i64 lk, .bool true, .int .i64 ln] 144)).alloc (.cells #[.slice none 0 0, .bool false, .int .i64 0, .int .i64 0] 101) := ⟨_, rfl⟩;have hC2 : Chg (fun _ => False) w w2 := by rw [hw2]; exact ((Chg.refl _ w).alloc _).alloc _
   have hb2 : w2.heap[w.heap.size + 1]? = some (.cells #[.slice none 0 0, .bool false, .int .i64 0, .int .i64 0] 101 (0, 0)) := by rw [hw2]; exact heap_alloc2_new _ _ _
   have hb0 : w2.heap[w.heap.size]? = some (.cells #[.int .i64 lf, .int .i64 ls, .int .i64 lk, .bool true, .int .i64 ln] 144 (0, 0)) := by rw [hw2]; exact heap_alloc2_old _ _ _
   have hrow2 := hrow.same fun b hb => hC2.block b (hrow.lt hb) fun h => h;have hR2 := HR.out.still hC2;have HMany := Lib.hid (many_g hR2 hl);have HGr := Lib.hid (grant_g hR2 hl hn ln);have HL := Lib.hid HR.out.lgs;have HTk : Hid (∀ wg, GGot w2 pb hb Lg (G.grant ln) wg → wg.heap[w.heap.size + 1]? = some (.cells #[.slice none 0 0, .bool false, .int .i64 0, .int .i64 0] 101 (0, 0)) ∧ Row wg 3 1 v is.length (intCells is)) := fun wg hG =>
    ⟨hG.chg.at hb2 fun hb => by have := HL.out _ hb; omega, hrow2.same fun b hb => hG.chg.block b (hrow2.lt hb) (hv b hb)⟩
   have HIs : Hid (is.length ≤ 10) := his;have k3 := cellAt hb0 3;have k4 := cellAt hb0 4;have HC2 := Lib.hid hC2;have HS2 : Hid (w.heap.size + 1 < w2.heap.size) := lt_of_block hb2;clear hrow hrow2 hC2 hb0 hb2 hl hn his hv hR2
   go_enter Tryz.func125, Tryz.ntmps125
   go_upto_region 1 with fail
   rw [← hw2];clear hw2;obtain ⟨bb, hbb⟩ : ∃ bb, bb = w.heap.size + 1 := ⟨_, rfl⟩;have HBB := Lib.hid hbb;rw [← hbb] at HTk HS2 ⊢;clear hbb
   go_wp2_with fail
   refine HMany.out.mono ?_; rintro e w8 ⟨rfl, rfl⟩
   go_wp2_with fail
   refine HGr.out.mono ?_; rintro e wg ⟨rfl, hG⟩;obtain ⟨hbg, hrowg⟩ := HTk.out wg hG;have HG := Lib.hid hG;obtain ⟨a3, c3, w3, happ, hrow3, hC3⟩ := two_app wg 1 G.fresh hrowg (by have := HIs.out; omega);have HT := Lib.hid (told_into hbg hC3 0 hrow3 (by have := HIs.out; simp; omega));have HC3 := Lib.hid hC3;have HFr : Hid (∃ fr, fr = G.fresh) := ⟨_, rfl⟩;clear hbg hrowg hrow3 hC3 HMany HGr HTk k3 k4 hG
   go_wp2_with (first | (at_builtin; go_must (refine wpList_val rfl (exec_append rfl happ) ?_)) | (go_at_call 100; refine HT.out.mono ?_; rintro e w5 ⟨na, nn, nc, rfl, ⟨⟨_, u0⟩, ⟨_, u1⟩, ⟨_, u2⟩, ⟨_, u3⟩⟩, ⟨f0, f1, f2, f3⟩, hZ⟩))
   obtain ⟨s1, s2, s3⟩ := hZ.out _ rfl;refine bodyPost_ret (results_cell_row rfl _ _ bb 101 _ (0, 0) _ rfl s1 HFs.out rfl zTold) rfl ?_;have hsz := HC2.out.size;have hszg := HG.out.chg.size;have hsz3 := HC3.out.size;have hW := GGot.wrap HL.out HC2.out HG.out (HC3.out.mono (F' := fun b => b = bb) (fun _ _ h => h.elim) |>.trans s3 fun _ _ h => h) (fun b hb => by have := HBB.out; have := HS2.out; omega);exact HK.out _ _ ⟨_, rfl, ⟨_, rfl, s2.low (by omega)⟩, hW⟩
theorem glCells_ref (l : List GL) (k : Nat) (x : GL) (hx : l[k]? = some x) (r : Bool) : (glCells l).set (k * 5 + 3) (.bool r) = glCells (l.set k { x with ref := r }) := by
 induction l generalizing k with
 | nil => simp at hx
 | cons y l ih =>
   cases k with
   | zero =>
     simp only [List.getElem?_cons_zero, Option.some.injEq] at hx;subst hx;simp [glCells, GL.cells]
   | succ k =>
     rw [List.getElem?_cons_succ] at hx;have := ih k hx;simp only [glCells, List.flatMap_cons, List.set_cons_succ] at *;rw [← this, show (k + 1) * 5 = k * 5 + 1 + 1 + 1 + 1 + 1 from by omega];simp [GL.cells]
theorem glCells_num (l : List GL) (k : Nat) (x : GL) (hx : l[k]? = some x) (n : Int) : (glCells l).set (k * 5 + 4) (.int .i64 n) = glCells (l.set k { x with num := n }) := by
 induction l generalizing k with
 | nil => simp at hx
 | cons y l ih =>
   cases k with
   | zero =>
     simp only [List.getElem?_cons_zero, Option.some.injEq] at hx;subst hx;simp [glCells, GL.cells]
   | succ k =>
     rw [List.getElem?_cons_succ] at hx;have := ih k hx;simp only [glCells, List.flatMap_cons, List.set_cons_succ] at *;rw [← this, show (k + 1) * 5 = k * 5 + 1 + 1 + 1 + 1 + 1 from by omega];simp [GL.cells]
structure PutS (w wx : World) (pb hb : Nat) (Lg : List Nat) (lab : Nat → Nat) (v : Nat → Value) (G : GS) (bb : Nat) (cs : Array Value) : Prop where
 g : GR wx pb hb Lg lab v G
 box : wx.heap[bb]? = some (.cells cs 144 (0, 0))
 bnew : bb ∉ Lg
 chg : Chg (fun b => b ∈ Lg) w wx
theorem PutS.still {wy : World} {v : Nat → Value} (h : PutS w wx pb hb Lg lab v G bb cs) (hC : Chg (fun _ => False) wx wy) : PutS w wy pb hb Lg lab v G bb cs :=
 ⟨h.g.frame hC fun _ _ h => h, hC.at h.box fun h => h, h.bnew, h.chg.trans hC fun _ _ h => h.elim⟩
theorem GR.linkBlk {v : Nat → Value} (h : GR w pb hb Lg lab v G) (hx : G.links[k]? = some x) : ∃ b c cur, v 1 = .slice (some ⟨b, 0, none⟩) G.links.length c ∧ rowBlk (v 1) = some b ∧ w.heap[b]? = some (.cells cur 144 (0, 0)) ∧ b ∈ Lg ∧ b ≠ pb := by
 obtain ⟨a, c, ev, _, c3, hcell⟩ := h.links;obtain ⟨b, rfl, k0, k1, k2, k3, k4⟩ := hcell k x hx;have hkl : k < G.links.length := (List.getElem?_eq_some_iff.1 hx).1;have hrb : rowBlk (v 1) = some b := by
  obtain ⟨b', e1, e2, _⟩ := (by have := h.r1; rw [ev] at this; exact this.cells (by omega));simp only [Option.some.injEq, Addr.mk.injEq, and_true] at e1;rw [ev, e2, e1]
 have hlb := h.vlab 1 b (by omega) hrb;obtain ⟨_, _, ⟨_, a', e⟩ | ⟨g', cap, cur, e, h4, _⟩⟩ := h.r1
 · rw [e] at hrb; cases a' <;> simp [rowBlk] at hrb
 · have e' := e;rw [e] at hrb; simp only [rowBlk, Option.some.injEq] at hrb; subst hrb;exact ⟨g', c, cur, ev, by rw [e]; rfl, h4, hlb.2, fun e => by rw [e, h.plab] at hlb; omega⟩
theorem PutS.put {v : Nat → Value} (h : PutS w wx pb hb Lg lab v G bb cs) (hx : G.links[k]? = some x) {c : Nat} (hv : v 1 = .slice (some ⟨b, 0, none⟩) G.links.length c) {j : Nat} (hset : (glCells G.links).set (k * 5 + j) u = glCells (G.links.set k y)) :
 PutS w (wx.setCell ⟨b, k * 5 + j, none⟩ u) pb hb Lg lab v { G with links := G.links.set k y } bb cs := by
 obtain ⟨b', c', cur, e1, e2, e3, e4, e5⟩ := h.g.linkBlk hx;rw [hv] at e1;simp only [Value.slice.injEq, Option.some.injEq, Addr.mk.injEq, and_true] at e1;obtain ⟨rfl, -, -⟩ := e1;have hC : Chg (fun y => y = b) wx (wx.setCell ⟨b, k * 5 + j, none⟩ u) := chg_set1 _ _ _ _;have hne : ∀ i z, i < 5 → i ≠ 1 → rowBlk (v i) = some z → z ≠ b := fun i z hi h1 hz e => by
  have h2 := (h.g.vlab i z hi hz).1;have h3 := (h.g.vlab 1 b (by omega) e2).1;rw [e] at h2; omega
 refine ⟨{ h.g with
  at_ := hC.at h.g.at_ fun e => e5 e.symm
  lgs := fun z hz => Nat.lt_of_lt_of_le (h.g.lgs z hz) hC.size
  r0 := h.g.r0.same fun z hz => hC.block z (h.g.r0.lt hz) (hne 0 z (by omega) (by omega) hz)
  r1 := ?_
  r2 := h.g.r2.same fun z hz => hC.block z (h.g.r2.lt hz) (hne 2 z (by omega) (by omega) hz)
  r3 := h.g.r3.same fun z hz => hC.block z (h.g.r3.lt hz) (hne 3 z (by omega) (by omega) hz)
  r4 := h.g.r4.same fun z hz => hC.block z (h.g.r4.lt hz) (hne 4 z (by omega) (by omega) hz) }, hC.at h.box (fun e => h.bnew (e ▸ e4)), h.bnew, h.chg.trans hC fun z _ e => e ▸ e4⟩
 have h1 := h.g.r1.setCell e2 (k * 5 + j) u;rw [hset] at h1;show Row _ _ _ _ (G.links.set k y).length _;rw [List.length_set];exact h1
theorem put_g (hR : GRep w pb hb Lg G) (hx : G.links[k]? = some x) (f s ky : Int) (r : Bool) (n : Int) :
 Calls Tryz.prog 126 #[.pointer (some ⟨pb, 1, none⟩), .int .i64 k, .agg #[.int .i64 f, .int .i64 s, .int .i64 ky, .bool r, .int .i64 n]] w fun e w' => e = .returned (.tuple #[]) ∧ GGot w pb hb Lg { G with links := G.links.set k { x with ref := r, num := n } } w' := by
 refine ret_k fun K hK => ?_;have HK := Lib.hid hK;have HLg := Lib.hid hR.lgs;obtain ⟨lab, v, hG⟩ := hR;have hP0 : PutS w (w.alloc (.cells #[.int .i64 f, .int .i64 s, .int .i64 ky, .bool r, .int .i64 n] 144)) pb hb Lg lab v G w.heap.size #[.int .i64 f, .int .i64 s, .int .i64 ky, .bool r, .int .i64 n] :=
  ⟨hG.frame ((Chg.refl (fun _ => False) w).alloc _) fun _ _ h => h, heap_alloc_new _ _, fun h => by have := HLg.out _ h; omega, (Chg.refl _ w).alloc _⟩
 obtain ⟨b, c, cur, ev, _⟩ := hG.linkBlk hx;have hkl : k < G.links.length := (List.getElem?_eq_some_iff.1 hx).1;have hx1 : (G.links.set k { x with ref := r })[k]? = some { x with ref := r } := by rw [List.getElem?_set_self hkl]
 have HX := Lib.hid hx;have HA : Hid (∀ wx, PutS w wx pb hb Lg lab v G w.heap.size #[.int .i64 f, .int .i64 s, .int .i64 ky, .bool r, .int .i64 n] → wx.cell? ⟨pb, 3, none⟩ = some (.slice (some ⟨b, 0, none⟩) G.links.length c) ∧ wx.cell? ⟨w.heap.size, 3, none⟩ = some (.bool r) ∧ (∃ u, wx.cell? ⟨b, k * 5 + 3, none⟩ = some u) ∧ wx.frozen? ⟨b, k * 5 + 3, none⟩ = false) := fun wx h => by
  obtain ⟨a', c', e1, _, e3, e4⟩ := h.g.links;rw [ev] at e1;simp only [Value.slice.injEq] at e1;obtain ⟨rfl, -, rfl⟩ := e1;obtain ⟨b', e5, _, _, _, e6, _⟩ := e4 k x HX.out;simp only [Option.some.injEq, Addr.mk.injEq, and_true] at e5;subst e5;obtain ⟨b2, c2, cur2, f1, f2, f3, _⟩ := h.g.linkBlk HX.out;rw [ev] at f1;simp only [Value.slice.injEq, Option.some.injEq, Addr.mk.injEq, and_true] at f1;obtain ⟨rfl, -, -⟩ := f1;exact ⟨e3, cellAt h.box 3, ⟨_, e6⟩, freeAt f3 _⟩
 have HX1 := Lib.hid hx1;have HA2 : Hid (∀ wx, PutS w wx pb hb Lg lab v { G with links := G.links.set k { x with ref := r } } w.heap.size #[.int .i64 f, .int .i64 s, .int .i64 ky, .bool r, .int .i64 n] → wx.cell? ⟨pb, 3, none⟩ = some (.slice (some ⟨b, 0, none⟩) G.links.length c) ∧ wx.cell? ⟨w.heap.size, 4, none⟩ = some (.int .i64 n) ∧ (∃ u, wx.cell? ⟨b, k * 5 + 4, none⟩ = some u) ∧ wx.frozen? ⟨b, k * 5 + 4, none⟩ = false) := fun wx h => by
  obtain ⟨a', c', e1, _, e3, e4⟩ := h.g.links;rw [ev] at e1;simp only [Value.slice.injEq] at e1;obtain ⟨rfl, -, rfl⟩ := e1;obtain ⟨b', e5, _, _, _, _, e6⟩ := e4 k _ HX1.out;simp only [Option.some.injEq, Addr.mk.injEq, and_true] at e5;subst e5;obtain ⟨b2, c2, cur2, f1, f2, f3, _⟩ := h.g.linkBlk HX1.out;rw [ev] at f1;simp only [Value.slice.injEq, Option.some.injEq, Addr.mk.injEq, and_true] at f1;obtain ⟨rfl, -, -⟩ := f1;simp only [List.length_set] at e3;exact ⟨e3, cellAt h.box 4, ⟨_, e6⟩, freeAt f3 _⟩
 have HEv := Lib.hid ev;have HEv1 : Hid (v 1 = .slice (some ⟨b, 0, none⟩) (G.links.set k { x with ref := r }).length c) := Lib.hid (by rw [List.length_set]; exact ev);have HP0 := Lib.hid hP0;have hk' : (k : Int) < (G.links.length : Int) := by omega
 obtain ⟨len, hlen⟩ : ∃ len, len = G.links.length := ⟨_, rfl⟩;rw [← hlen] at HA HA2 hk';clear hK hG hx1 hx ev hP0 hlen hkl
 go_enter Tryz.func126, Tryz.ntmps126
 go_upto_region 1 with fail
 generalize w.alloc (.cells #[.int .i64 f, .int .i64 s, .int .i64 ky, .bool r, .int .i64 n] 144) = w1 at HP0 ⊢;obtain ⟨bb, hbb⟩ : ∃ bb, bb = w.heap.size := ⟨_, rfl⟩;rw [← hbb] at HA HA2 HP0 ⊢;obtain ⟨c3, b3, ⟨u, k3⟩, f3⟩ := HA.out w1 HP0.out;clear hbb
 go_cut [] from 6 to 14 (fun wx => Hid (PutS w wx pb hb Lg lab v { G with links := G.links.set k { x with ref := r } } bb #[.int .i64 f, .int .i64 s, .int .i64 ky, .bool r, .int .i64 n]))
 case first =>
  go_region
  go_wp2
  go_meet
  exact Lib.hid ((HP0.out.put HX.out HEv.out (glCells_ref G.links k x HX.out r)).still ((Chg.refl _ _).drewN 1))
 case rest =>
  have HP1 := hcut;clear c3 b3 k3 f3 HP0 HA;obtain ⟨c3, b3, ⟨u, k3⟩, f3⟩ := HA2.out wc HP1.out;have HFin : Hid (∀ wx, Chg (fun _ => False) (wc.setCell ⟨b, k * 5 + 4, none⟩ (.int .i64 n)) wx → Post K (.returned (.tuple #[])) wx) := fun wx hC => by
   have h2 := (HP1.out.put HX1.out HEv1.out (glCells_num _ k _ HX1.out n)).still hC;refine HK.out _ _ ⟨rfl, ⟨⟨lab, v, ?_⟩, h2.chg⟩⟩;have h3 := h2.g;rw [List.set_set] at h3;have hsz := h2.chg.size;exact { h3 with
    lgs := fun z hz => (List.mem_append.1 hz).elim (fun hz => h3.lgs z hz) fun hz => (mem_since.1 hz).2
    pin := List.mem_append_left _ h3.pin
    vlab := fun i z hi hz => ⟨(h3.vlab i z hi hz).1, List.mem_append_left _ (h3.vlab i z hi hz).2⟩ }
  clear HK HP1 HX HX1 HEv HEv1 HA2 HLg
  go_upto_region 2 with fail
  go_region
  go_end0
  exact HFin.out _ ((Chg.refl _ _).drewN 1)
inductive FieldIs (G : GS) (I : IS) (a b : Int) : Nat → Int → Prop
 | none : I.hs.lookup a = none → FieldIs G I a b 0 221
 | tab {x : Int} {d : Nd} : I.hs.lookup a = some x → I.nd x = some d → d.table = true → FieldIs G I a b 0 223
 | index {x : Int} {d : Nd} : I.hs.lookup a = some x → I.nd x = some d → d.table = false → (b < 0 ∨ (d.flds.length : Int) ≤ b) → FieldIs G I a b 0 222
 | ok {x : Int} {d : Nd} {c : Wd} {k : Nat} : I.hs.lookup a = some x → I.nd x = some d → d.gone = false → d.table = false → 0 ≤ b → d.flds[b.toNat]? = some c → G.links[k]? = some ⟨x, b, -1, c.ref, c.num⟩ → FieldIs G I a b k 0
theorem field_g (hR : GRep w pb hb Lg G) (hS : GSim G I) (hO : IOk I) (hbig : G.links.length ≤ 1000000) (kd a b : Int) (xc : Option Addr) (xn xm : Nat) :
 Calls Tryz.prog 124 #[.pointer (some ⟨pb, 1, none⟩), .agg #[.int .i64 kd, .int .i64 a, .int .i64 b, .slice xc xn xm]] w fun e w' => ∃ k er, e = .returned (.tuple #[.int .i64 (k : Nat), .int .i64 er]) ∧ FieldIs G I a b k er ∧ Chg (fun _ => False) w w' := by
 refine ret_k fun K hK => ?_;have HK := Lib.hid hK;have HR := Lib.hid hR;have HS := Lib.hid hS;have HO := Lib.hid hO;obtain ⟨w1, hw1⟩ : ∃ w1, w1 = w.alloc (.cells #[.int .i64 kd, .int .i64 a, .int .i64 b, .slice xc xn xm] 33) := ⟨_, rfl⟩;have hC1 : Chg (fun _ => False) w w1 := by rw [hw1]; exact (Chg.refl _ w).alloc _
 have hbx : w1.heap[w.heap.size]? = some (.cells #[.int .i64 kd, .int .i64 a, .int .i64 b, .slice xc xn xm] 33 (0, 0)) := by rw [hw1]; exact heap_alloc_new _ _
 have hOf := of_g (hR.still hC1) a;rw [hS.of] at hOf;have HOf := Lib.hid hOf;have HC1 := Lib.hid hC1;have HBx := Lib.hid hbx;have b1 := cellAt hbx 1;clear hOf hK hR hS hO hC1;cases hl : I.hs.lookup a with
 | none =>
   rw [hl] at HOf;have HZ := Lib.hid (HK.out _ _ ⟨0, 221, rfl, .none hl, HC1.out⟩);clear hbx HK hl
   go_enter Tryz.func124, Tryz.ntmps124
   go_upto_region 1 with fail
   rw [← hw1];clear hw1
   go_wp2_with (go_at_call 103; refine HOf.out.mono ?_; rintro e w2 ⟨rfl, rfl⟩)
   go_ret2
   exact HZ.out
 | some x =>
   rw [hl] at HOf;obtain ⟨d, hd, hg⟩ := HO.out.held hl;obtain ⟨hx0, _, _⟩ := IS.nd_nat hd;have hnode := HS.out.nodeAt hd;obtain ⟨q, rfl⟩ : ∃ q : Nat, x = q := ⟨x.toNat, (Int.toNat_of_nonneg hx0).symm⟩;rw [Int.toNat_natCast] at hnode;obtain ⟨lab, v, hG⟩ := HR.out.still HC1.out;obtain ⟨an, cn, _, c2, hcn⟩ := hG.nodesC;obtain ⟨bn, rfl, n0, _⟩ := hcn q _ hnode;have hqn : (q : Int) < (G.nodes.length : Int) := by have := (List.getElem?_eq_some_iff.1 hnode).1; omega
   obtain ⟨al, cl, _, _, c3, hcl⟩ := hG.links;have hq0 : ¬ ((q : Int) < 0) := by omega
   have n0' : w1.cell? ⟨bn, q * 4, none⟩ = some (.bool d.table) := n0;have e4 : (Option.some (q : Int)).getD (-1) = (q : Int) := rfl;rw [e4] at HOf;have HD := Lib.hid (⟨hl, hd, hg⟩ : _ ∧ _ ∧ _);have HCl := Lib.hid hcl;cases ht : d.table with
   | true =>
     rw [ht] at n0';have HZ := Lib.hid (HK.out _ _ ⟨0, 223, rfl, .tab hl hd ht, HC1.out⟩);clear hbx HK hl hd hnode hG hcn hcl n0 ht e4 hx0 hg;generalize G.nodes.length = nn at *
     go_enter Tryz.func124, Tryz.ntmps124
     go_upto_region 1 with fail
     rw [← hw1];clear hw1
     go_wp2_with (go_at_call 103; refine HOf.out.mono ?_; rintro e w2 ⟨rfl, rfl⟩)
     go_ret2
     exact HZ.out
   | false =>
     rw [ht] at n0';have HT : Hid (d.table = false) := ht;obtain ⟨len, hlen⟩ : ∃ len, len = G.links.length := ⟨_, rfl⟩;have HLen : Hid (len = G.links.length ∧ len ≤ 1000000) := ⟨hlen, by rw [hlen]; exact hbig⟩;rw [← hlen] at c3;have b2 := cellAt hbx 2;clear hbx hl hd hnode hG hcn hcl n0 ht e4 hx0 hg hlen hbig;generalize G.nodes.length = nn at *
     go_enter Tryz.func124, Tryz.ntmps124
     go_upto_region 1 with fail
     rw [← hw1];obtain ⟨bb, hbb⟩ : ∃ bb, bb = w.heap.size := ⟨_, rfl⟩;rw [← hbb] at b1 b2 ⊢;clear hw1 hbb
     go_wp2_with (go_at_call 103; refine HOf.out.mono ?_; rintro e w2 ⟨rfl, rfl⟩)
     clear n0' c2 hqn hq0 b1
     go_loopw [7] (fun k wx => ∃ i : Nat, i ≤ len ∧ k = .int .i64 i ∧ Hid (Chg (fun _ => False) w1 wx) ∧ Hid (∀ m y, m < i → G.links[m]? = some y → ¬ (y.frm = (q : Int) ∧ y.slot = b))) (fun k _ => len - (intOf k).toNat)
     case atStart => exact ⟨0, by omega, rfl, Lib.hid (Chg.refl _ _), Lib.hid fun m y hm _ => absurd hm (by omega)⟩
     case round =>
      obtain ⟨i, hi, rfl, HCr, HI⟩ := hrel;have c3r := cell_chg HCr.out c3 fun h => h;have b2r := cell_chg HCr.out b2 fun h => h;by_cases hlt : i < len
      · have hlt' : (i : Int) < (len : Int) := by omega
        have hwi : IntKind.i64.wrap ((i : Int) + 1) = (i : Int) + 1 := IntWalk.i64_in _ (by have := HLen.out.2; omega);obtain ⟨y, hy⟩ : ∃ y, G.links[i]? = some y := ⟨_, List.getElem?_eq_getElem (by rw [← HLen.out.1]; exact hlt)⟩;obtain ⟨bl, e1, k0, k1, _⟩ := HCl.out i y hy;subst e1;have k0r := cell_chg HCr.out k0 fun h => h;have k1r := cell_chg HCr.out k1 fun h => h;have HY := Lib.hid hy;have HC3 := Lib.hid c3;have HB2 := Lib.hid b2;clear k0 k1 c3 b2 hy hlt;obtain ⟨yf, ys, yk, yr, yn⟩ := y;simp only at k0r k1r;by_cases hf : yf = (q : Int) ∧ ys = b
        · obtain ⟨rfl, rfl⟩ := hf;have hfin : FieldIs G I a ys i 0 := by
           have hm := List.mem_of_getElem? HY.out;by_cases hk : 0 ≤ yk
           · obtain ⟨d', e, h1, _, h3, _⟩ := HS.out.ent_of hm hk;rw [show (⟨q, ys, yk, yr, yn⟩ : GL).frm = (q : Int) from rfl, HD.out.2.1] at h1;simp only [Option.some.injEq] at h1;rw [← h1, HO.out.sh.obj _ d HD.out.2.1 HT.out] at h3;cases h3
           · obtain ⟨d', j, c, h1, _, h3, h4⟩ := HS.out.fld_of hm (by show yk < 0; omega);rw [show (⟨q, ys, yk, yr, yn⟩ : GL).frm = (q : Int) from rfl, HD.out.2.1] at h1;simp only [Option.some.injEq] at h1;subst h1;simp only [GL.mk.injEq] at h4;obtain ⟨-, rfl, rfl, rfl, rfl⟩ := h4;exact .ok HD.out.1 HD.out.2.1 HD.out.2.2 HT.out (by omega) (by rw [Int.toNat_natCast]; exact h3) HY.out
          have HZ : Hid (∀ wx, Chg (fun _ => False) wr wx → Post K (.returned (.tuple #[.int .i64 i, .int .i64 0])) wx) := fun wx hC => HK.out _ _ ⟨i, 0, rfl, hfin, (HC1.out.trans HCr.out fun _ _ h => h).trans hC fun _ _ h => h⟩;clear hfin HK
          go_upto_region 9 with fail
          go_cut [53] from 31 to 52 (fun s53 wx => s53 = .bool true ∧ Hid (Chg (fun _ => False) wr wx))
          case first =>
           go_quiet (fail)
           all_goals (go_wp2; go_meet; exact ⟨rfl, Lib.hid (by first | exact Chg.refl _ _ | exact (Chg.refl _ _).drewN _ | exact (Chg.refl _ _).drew)⟩)
          case rest =>
           obtain ⟨rfl, HCx⟩ := hcut;have HZ2 := Lib.hid (HZ.out _ HCx.out);clear HZ HCx;go_wp2
           go_ret2
           exact HZ2.out
        · have HI2 : Hid (∀ m y, m < i + 1 → G.links[m]? = some y → ¬ (y.frm = (q : Int) ∧ y.slot = b)) := fun m y hm hy => by
           by_cases e : m = i
           · subst e; rw [HY.out] at hy; simp only [Option.some.injEq] at hy; rw [← hy]; exact hf
           · exact HI.out m y (by omega) hy
          go_upto_region 9 with fail
          go_cut [53] from 31 to 52 (fun s53 wx => s53 = .bool false ∧ Hid (Chg (fun _ => False) wr wx))
          case first =>
           by_cases h1 : yf = (q : Int)
           · have h3 : ¬ (ys = b) := fun h => hf ⟨h1, h⟩;have h2 : decide (ys = b) = false := decide_eq_false h3;have h4 : (ys == b) = false := by simpa using h3
             subst h1;clear hf
             go_quiet (fail)
             all_goals (go_wp2; go_meet; exact ⟨by first | rfl | simp [h2] | simp [h4] | simpa using h3, Lib.hid (by first | exact Chg.refl _ _ | exact (Chg.refl _ _).drewN _ | exact (Chg.refl _ _).drew)⟩)
           · have h2 : decide (yf = (q : Int)) = false := decide_eq_false h1;have h4 : (yf == (q : Int)) = false := by simpa using h1
             clear hf
             go_quiet (fail)
             all_goals (go_wp2; go_meet; exact ⟨by first | rfl | simp [h2] | simp [h4] | simpa using h3, Lib.hid (by first | exact Chg.refl _ _ | exact (Chg.refl _ _).drewN _ | exact (Chg.refl _ _).drew)⟩)
          case rest =>
           obtain ⟨rfl, HCx⟩ := hcut;clear hf;go_wp2
           go_roundw
           case rel => exact ⟨i + 1, by omega, by go_num, Lib.hid (HCr.out.trans HCx.out fun _ _ h => h), HI2⟩
           case measure => simp [intOf]; omega
      · obtain rfl : i = len := by omega
        have hfin : FieldIs G I a b 0 222 := by
         refine .index HD.out.1 HD.out.2.1 HT.out ?_;by_cases hb0 : b < 0
         · exact .inl hb0
         · refine .inr ?_;refine Int.not_lt.1 fun hlt => ?_;obtain ⟨c, hc⟩ : ∃ c, d.flds[b.toNat]? = some c := ⟨_, List.getElem?_eq_getElem (by omega)⟩;have hm := HS.out.of_fld HD.out.2.1 HD.out.2.2 hc;obtain ⟨m, hm1, hm2⟩ := List.getElem_of_mem hm;exact HI.out m _ (by rw [HLen.out.1]; exact hm1) (by rw [List.getElem?_eq_getElem hm1, hm2]) ⟨rfl, by show ((b.toNat : Nat) : Int) = b; omega⟩
        have HZ := Lib.hid (HK.out _ _ ⟨0, 222, rfl, hfin, HC1.out.trans HCr.out fun _ _ h => h⟩);clear hfin HK HI;go_wp2
        go_ret2
        exact HZ.out
theorem isEnt_iff {o : Option GL} : isEnt node o = true ↔ ∃ y, o = some y ∧ y.frm = node ∧ 0 ≤ y.key := by
 cases o with
 | none => simp [isEnt]
 | some y => simp [isEnt]
theorem entIdx_mem {z : Int} : z ∈ G.entIdx node n ↔ ∃ j : Nat, z = j ∧ j < n ∧ ∃ y, G.links[j]? = some y ∧ y.frm = node ∧ 0 ≤ y.key := by
 unfold GS.entIdx;rw [List.mem_map];constructor
 · rintro ⟨j, hj, rfl⟩;obtain ⟨h1, h2⟩ := List.mem_filter.1 hj;exact ⟨j, rfl, List.mem_range.1 h1, isEnt_iff.1 h2⟩
 · rintro ⟨j, rfl, hj, hy⟩;exact ⟨j, List.mem_filter.2 ⟨List.mem_range.2 hj, isEnt_iff.2 hy⟩, rfl⟩
theorem entIdx_get {i : Nat} (hi : i < (G.entIdx node n).length) : ∃ (j : Nat) (y : GL), (G.entIdx node n).getD i 0 = j ∧ j < n ∧ G.links[j]? = some y ∧ y.frm = node ∧ 0 ≤ y.key := by
 have hm : (G.entIdx node n).getD i 0 ∈ G.entIdx node n := by rw [List.getD_eq_getElem?_getD, List.getElem?_eq_getElem hi]; exact List.getElem_mem hi
 obtain ⟨j, h1, h2, y, h3, h4⟩ := entIdx_mem.1 hm;exact ⟨j, y, h1, h2, h3, h4⟩
inductive EntryIs (G : GS) (I : IS) (a b : Int) : Int → Int → Prop
 | err {er : Int} : I.tab a b = .inl er → er ≠ 0 → EntryIs G I a b (-1) er
 | miss {x kn : Int} {d : Nd} : I.tab a b = .inr (x, kn, d) → d.gone = false → d.ents.find? (KeyIs kn) = none → EntryIs G I a b (-1) 0
 | ok {x kn : Int} {d : Nd} {e : En} {k : Nat} : I.tab a b = .inr (x, kn, d) → d.gone = false → d.ents.find? (KeyIs kn) = some e → e.key = kn → G.links[k]? = some (gent x e) → EntryIs G I a b k 0
theorem gfind_key {l : List En} {kn : Int} (h : l.find? (KeyIs kn) = some e) : e ∈ l ∧ e.key = kn := by
 have h1 := List.find?_some h;exact ⟨List.mem_of_find?_eq_some h, by simpa [KeyIs] using h1⟩
theorem gfind_uniq {l : List En} (hu : (l.map (·.key)).Nodup) (he : e ∈ l) : l.find? (KeyIs e.key) = some e := by
 cases h : l.find? (KeyIs e.key) with
 | none =>
   have := List.find?_eq_none.1 h e he;simp [KeyIs] at this
 | some e' =>
   obtain ⟨h1, h2⟩ := gfind_key h;obtain ⟨i, hi, rfl⟩ := List.getElem_of_mem he;obtain ⟨j, hj, rfl⟩ := List.getElem_of_mem h1;unfold List.Nodup at hu;rw [List.pairwise_map, List.pairwise_iff_getElem] at hu;rcases Nat.lt_trichotomy i j with hlt | rfl | hlt
   · exact absurd h2.symm (hu i j hi hj hlt)
   · rfl
   · exact absurd h2 (hu j i hj hi hlt)
theorem entry_g (hR : GRep w pb hb Lg G) (hS : GSim G I) (hO : IOk I) (hbig : G.links.length ≤ 1000000) (kd a b : Int) (xc : Option Addr) (xn xm : Nat) :
 Calls Tryz.prog 127 #[.pointer (some ⟨pb, 1, none⟩), .agg #[.int .i64 kd, .int .i64 a, .int .i64 b, .slice xc xn xm]] w fun e w' => ∃ k er, e = .returned (.tuple #[.int .i64 k, .int .i64 er]) ∧ EntryIs G I a b k er ∧ Chg (fun _ => False) w w' := by
 refine ret_k fun K hK => ?_;have HK := Lib.hid hK;have HR := Lib.hid hR;have HS := Lib.hid hS;have HO := Lib.hid hO;obtain ⟨w1, hw1⟩ : ∃ w1, w1 = w.alloc (.cells #[.int .i64 kd, .int .i64 a, .int .i64 b, .slice xc xn xm] 33) := ⟨_, rfl⟩;have hC1 : Chg (fun _ => False) w w1 := by rw [hw1]; exact (Chg.refl _ w).alloc _
 have hbx : w1.heap[w.heap.size]? = some (.cells #[.int .i64 kd, .int .i64 a, .int .i64 b, .slice xc xn xm] 33 (0, 0)) := by rw [hw1]; exact heap_alloc_new _ _
 have hOf := of_g (hR.still hC1) a;have hOf2 := of_g (hR.still hC1) b;rw [hS.of] at hOf hOf2;have HOf := Lib.hid hOf;have HOf2 := Lib.hid hOf2;have HC1 := Lib.hid hC1;have b1 := cellAt hbx 1;have b2 := cellAt hbx 2;clear hOf hOf2 hK hR hS hO hC1 hbx;have hge : ∀ n, (I.hs.lookup n = none ∧ (I.hs.lookup n).getD (-1) = -1) ∨ (∃ x d, I.hs.lookup n = some x ∧ (I.hs.lookup n).getD (-1) = x ∧ 0 ≤ x ∧ I.nd x = some d ∧ d.gone = false) := fun n => by
  cases hl : I.hs.lookup n with
  | none => exact .inl ⟨rfl, rfl⟩
  | some x =>
    obtain ⟨d, hd, hg⟩ := HO.out.held hl;exact .inr ⟨x, d, rfl, rfl, (IS.nd_nat hd).1, hd, hg⟩
 have HGe := Lib.hid hge;by_cases hbad : I.hs.lookup a = none ∨ I.hs.lookup b = none
 · have hft : I.tab a b = .inl 221 := by
    unfold IS.tab;rcases hbad with h | h
    · rw [h]
    · rw [h]; cases I.hs.lookup a <;> rfl
   have hcond : ((I.hs.lookup a).getD (-1) < 0) ∨ (¬ ((I.hs.lookup a).getD (-1) < 0) ∧ (I.hs.lookup b).getD (-1) < 0) := by
    rcases hge a with h | ⟨x, d, h1, h2, h3, _⟩
    · exact .inl (by rw [h.2]; omega)
    · rcases hge b with h | ⟨x', d', h1', h2', h3', _⟩
      · exact .inr ⟨by rw [h2]; omega, by rw [h.2]; omega⟩
      · rcases hbad with h | h
        · rw [h] at h1; cases h1
        · rw [h] at h1'; cases h1'
   have HZ := Lib.hid (HK.out _ _ ⟨-1, 221, rfl, .err hft (by omega), HC1.out⟩);clear hbad hft hge HK HGe;generalize (I.hs.lookup a).getD (-1) = y1 at *;generalize (I.hs.lookup b).getD (-1) = y2 at *;rcases hcond with h1 | ⟨h1, h2⟩
   all_goals
    go_enter Tryz.func127, Tryz.ntmps127
    go_upto_region 1 with fail
    rw [← hw1];clear hw1
    go_wp2_with fail
    refine HOf.out.mono ?_; rintro e w2 ⟨rfl, rfl⟩
    go_wp2_with fail
    refine HOf2.out.mono ?_; rintro e w2 ⟨rfl, rfl⟩;go_wp2
    go_ret2
    exact HZ.out
 · obtain ⟨x, d, hla, hx, hx0, hd, hg⟩ := (hge a).resolve_left fun h => hbad (.inl h.1);obtain ⟨kn, dk, hlb, hkn, hkn0, hdk, hgk⟩ := (hge b).resolve_left fun h => hbad (.inr h.1);rw [hx] at HOf;rw [hkn] at HOf2;have hnode := HS.out.nodeAt hd;obtain ⟨q, rfl⟩ : ∃ q : Nat, x = q := ⟨x.toNat, (Int.toNat_of_nonneg hx0).symm⟩;rw [Int.toNat_natCast] at hnode;obtain ⟨lab, v, hG⟩ := HR.out.still HC1.out;obtain ⟨an, cn, _, c2, hcn⟩ := hG.nodesC;obtain ⟨bn, rfl, n0, _⟩ := hcn q _ hnode;have hqn : (q : Int) < (G.nodes.length : Int) := by have := (List.getElem?_eq_some_iff.1 hnode).1; omega
   have n0' : w1.cell? ⟨bn, q * 4, none⟩ = some (.bool d.table) := n0;have hq0 : ¬ ((q : Int) < 0) := by omega
   have hk0 : ¬ (kn < 0) := by omega
   have htab : I.tab a b = if d.table then .inr ((q : Int), kn, d) else .inl 223 := by unfold IS.tab; rw [hla, hlb]; simp only [hd]
   cases ht : d.table with
   | false =>
     rw [ht] at n0' htab;have HZ := Lib.hid (HK.out _ _ ⟨-1, 223, rfl, .err (er := 223) htab (by omega), HC1.out⟩);clear hbad hge HK HGe hla hx hd hg hlb hkn hdk hgk hnode hG hcn n0 htab hx0 hkn0;generalize G.nodes.length = nn at *
     go_enter Tryz.func127, Tryz.ntmps127
     go_upto_region 1 with fail
     rw [← hw1];clear hw1
     go_wp2_with fail
     refine HOf.out.mono ?_; rintro e w2 ⟨rfl, rfl⟩
     go_wp2_with fail
     refine HOf2.out.mono ?_; rintro e w2 ⟨rfl, rfl⟩;go_wp2
     go_ret2
     exact HZ.out
   | true =>
     rw [ht] at n0' htab;have htab' : I.tab a b = .inr ((q : Int), kn, d) := htab;have HT := Lib.hid (⟨htab', hd, hg, here_of hdk hgk, hkn0⟩ : _ ∧ _ ∧ _ ∧ _ ∧ _);have HEn := Lib.hid (entries_g (HR.out.still HC1.out) hbig (q : Int));obtain ⟨len, hlen⟩ : ∃ len, len = G.links.length := ⟨_, rfl⟩;have HLen : Hid (len = G.links.length ∧ len ≤ 1000000) := ⟨hlen, by rw [hlen]; exact hbig⟩;rw [← hlen] at HEn;have HC3 : Hid (∀ wx, Chg (fun _ => False) w1 wx → ∃ al cl, wx.cell? ⟨pb, 3, none⟩ = some (.slice al len cl) ∧ ∀ i y, G.links[i]? = some y → ∃ b, al = some ⟨b, 0, none⟩ ∧ wx.cell? ⟨b, i * 5 + 2, none⟩ = some (.int .i64 y.key)) := fun wx hC => by
      obtain ⟨lab', v', hG'⟩ := (HR.out.still HC1.out).still hC;obtain ⟨al, cl, _, _, c3, hcl⟩ := hG'.links;refine ⟨al, cl, by rw [hlen]; exact c3, fun i y hy => ?_⟩;obtain ⟨b, e1, _, _, e2, _⟩ := hcl i y hy;exact ⟨b, e1, e2⟩
     clear hbad hge HGe hla hx hd hg hlb hkn hdk hgk hnode hG hcn n0 htab htab' hx0 hkn0 ht hlen hbig;generalize G.nodes.length = nn at *
     go_enter Tryz.func127, Tryz.ntmps127
     go_upto_region 1 with fail
     rw [← hw1];clear hw1
     go_wp2_with fail
     refine HOf.out.mono ?_; rintro e w2 ⟨rfl, rfl⟩
     go_wp2_with fail
     refine HOf2.out.mono ?_; rintro e w2 ⟨rfl, rfl⟩
     go_wp2_with fail
     refine HEn.out.mono ?_; rintro e w3 ⟨u, rfl, hI3, hC3⟩;have HI3 := Lib.hid hI3;have HCw := Lib.hid hC3;obtain ⟨ua, uc, rfl, _, _, _⟩ := hI3.row.slice;have hrow := hI3.row;obtain ⟨ln, hln⟩ : ∃ ln, ln = (G.entIdx (q : Int) len).length := ⟨_, rfl⟩;have HLn : Hid (ln = (G.entIdx (q : Int) len).length ∧ ln ≤ 1000000) := ⟨hln, by rw [hln]; exact Nat.le_trans (entIdx_len _ _ _) HLen.out.2⟩;have HRow := Lib.hid hrow;rw [← hln];clear hI3 hC3 hrow hln n0' c2 b1 b2 hqn hq0 hk0 HEn HOf HOf2;go_wp2
     go_loopw [9] (fun k wx => ∃ i : Nat, i ≤ ln ∧ k = .int .i64 i ∧ Hid (Chg (fun _ => False) w3 wx) ∧ Hid (∀ m : Nat, m < i → ∀ (j : Nat) y, (G.entIdx (q : Int) len).getD m 0 = j → G.links[j]? = some y → y.key ≠ kn)) (fun k _ => ln - (intOf k).toNat)
     case atStart => exact ⟨0, by omega, rfl, Lib.hid (Chg.refl _ _), Lib.hid fun m hm => absurd hm (by omega)⟩
     case round =>
      obtain ⟨i, hi, rfl, HCr, HI⟩ := hrel;by_cases hlt : i < ln
      · have hlt' : (i : Int) < (ln : Int) := by omega
        have hwi : IntKind.i64.wrap ((i : Int) + 1) = (i : Int) + 1 := IntWalk.i64_in _ (by have := HLn.out.2; omega);obtain ⟨j, y, hj, hjn, hy, hyf, hyk⟩ := entIdx_get (G := G) (node := (q : Int)) (n := len) (i := i) (by rw [← HLn.out.1]; exact hlt);obtain ⟨al, cl, c3, hcl⟩ := HC3.out wr (HCw.out.trans HCr.out fun _ _ h => h);obtain ⟨bl, rfl, k2⟩ := hcl j y hy;have hjl : (j : Int) < (len : Int) := by omega
        obtain ⟨ub, e1, _, hcu⟩ := HRow.out.cells (by rw [← HLn.out.1]; omega);subst e1;have u0 := hcu i (.int .i64 j) (by
         have h1 : i < (G.entIdx (q : Int) len).length := by rw [← HLn.out.1]; exact hlt
         have h2 : (G.entIdx (q : Int) len)[i]? = some (j : Int) := by rw [← hj, List.getD_eq_getElem?_getD, List.getElem?_eq_getElem h1]; rfl
         unfold intCells;rw [List.getElem?_map, h2]; rfl)
        have u0r := cell_chg HCr.out u0 fun h => h;have HJ := Lib.hid (⟨hj, hy, hyf, hyk⟩ : _ ∧ _ ∧ _ ∧ _);obtain ⟨yf, ys, yk, yr, yn⟩ := y;simp only at k2;clear hcl u0 hcu hj hy hyf hyk hlt hjn
        go_upto_region 11 with fail
        by_cases hke : yk = kn
        · have hfin : EntryIs G I a b j 0 := by
           obtain ⟨d', e, h1, _, h3, _, h5⟩ := HS.out.ent_of (List.mem_of_getElem? HJ.out.2.1) HJ.out.2.2.2;rw [HJ.out.2.2.1] at h1 h5;rw [HT.out.2.1] at h1;simp only [Option.some.injEq] at h1;subst h1;have hek : e.key = kn := by
            have : (⟨yf, ys, yk, yr, yn⟩ : GL).key = e.key := by rw [h5]; rfl
            simp only at this;omega
           exact .ok HT.out.1 HT.out.2.2.1 (by rw [← hek]; exact gfind_uniq (HO.out.uniq _ _ HT.out.2.1) h3) hek (by rw [← h5]; exact HJ.out.2.1)
          have HZ : Hid (∀ wx, Chg (fun _ => False) wr wx → Post K (.returned (.tuple #[.int .i64 j, .int .i64 0])) wx) := fun wx hC => HK.out _ _ ⟨j, 0, rfl, hfin, ((HC1.out.trans HCw.out fun _ _ h => h).trans HCr.out fun _ _ h => h).trans hC fun _ _ h => h⟩;have HU := Lib.hid u0r;subst hke;clear hfin HK
          go_cut [54] from 42 to 54 (fun s54 wx => s54 = .bool true ∧ Hid (Chg (fun _ => False) wr wx))
          case first =>
           go_quiet (fail)
           all_goals (go_wp2; go_meet; exact ⟨by first | rfl | simp, Lib.hid (by first | exact Chg.refl _ _ | exact (Chg.refl _ _).drewN _ | exact (Chg.refl _ _).drew)⟩)
          case rest =>
           obtain ⟨rfl, HCx⟩ := hcut;have HZ2 := Lib.hid (HZ.out _ HCx.out);have u0x := cell_chg HCx.out u0r fun h => h;clear HZ HCx u0r c3 k2;go_wp2
           go_ret2
           exact HZ2.out
        · have HI2 : Hid (∀ m : Nat, m < i + 1 → ∀ (j : Nat) y, (G.entIdx (q : Int) len).getD m 0 = j → G.links[j]? = some y → y.key ≠ kn) := fun m hm j2 y2 hj2 hy2 => by
           by_cases e : m = i
           · subst e;rw [HJ.out.1] at hj2;have : j = j2 := by omega
             subst this;rw [HJ.out.2.1] at hy2;simp only [Option.some.injEq] at hy2;rw [← hy2]; exact hke
           · exact HI.out m (by omega) j2 y2 hj2 hy2
          have h2 : decide (yk = kn) = false := decide_eq_false hke;have h4 : (yk == kn) = false := by simpa using hke
          go_cut [54] from 42 to 54 (fun s54 wx => s54 = .bool false ∧ Hid (Chg (fun _ => False) wr wx))
          case first =>
           go_quiet (fail)
           all_goals (go_wp2; go_meet; exact ⟨by first | rfl | simpa using hke | simp [h2] | simp [h4], Lib.hid (by first | exact Chg.refl _ _ | exact (Chg.refl _ _).drewN _ | exact (Chg.refl _ _).drew)⟩)
          case rest =>
           obtain ⟨rfl, HCx⟩ := hcut;clear h2 h4 c3 k2 u0r;go_wp2
           go_roundw
           case rel => exact ⟨i + 1, by omega, by go_num, Lib.hid (HCr.out.trans HCx.out fun _ _ h => h), HI2⟩
           case measure => simp [intOf]; omega
      · obtain rfl : i = ln := by omega
        have hfin : EntryIs G I a b (-1) 0 := by
         refine .miss HT.out.1 HT.out.2.2.1 ?_;rw [List.find?_eq_none];intro e he hk;have hek : e.key = kn := by simpa [KeyIs] using hk
         have hm := HS.out.of_ent HT.out.2.1 HT.out.2.2.1 he (by rw [hek]; exact HT.out.2.2.2.1);obtain ⟨j, hj, hje⟩ := List.getElem_of_mem hm;have hz : (j : Int) ∈ G.entIdx (q : Int) len := entIdx_mem.2 ⟨j, rfl, by rw [HLen.out.1]; exact hj, _, List.getElem?_eq_getElem hj, by rw [hje]; rfl, by rw [hje]; show 0 ≤ e.key; rw [hek]; exact HT.out.2.2.2.2⟩;obtain ⟨m, hm1, hm2⟩ := List.getElem_of_mem hz;refine HI.out m (by rw [HLn.out.1]; exact hm1) j _ ?_ (List.getElem?_eq_getElem hj) (by rw [hje]; exact hek);rw [List.getD_eq_getElem?_getD, List.getElem?_eq_getElem hm1, hm2]; rfl
        have HZ := Lib.hid (HK.out _ _ ⟨-1, 0, rfl, hfin, (HC1.out.trans HCw.out fun _ _ h => h).trans HCr.out fun _ _ h => h⟩);clear hfin HK HI;go_wp2
        go_ret2
        exact HZ.out
def DoQ (w : World) (pb hb : Nat) (Lg : List Nat) (G : GS) (I' : IS) (l : List Int) (u : Value) (w' : World) : Prop :=
 ToldAt w.heap.size w' u l ∧ ∃ G', GGot w pb hb Lg G' w' ∧ GSim G' I' ∧ G'.links.length ≤ G.links.length + 200
theorem ToldAt.into {B : Nat} {w' : World} (h : ToldAt B w' u l) (hb : w'.heap[bb]? = some (.cells #[c0, c1, c2, c3] 101 (0, 0))) (hbB : bb < B) :
 ∃ na nn nc, u = .agg #[.slice na nn nc, .bool false, .int .i64 0, .int .i64 0] ∧
   ((∃ u, w'.cell? ⟨bb, 0, none⟩ = some u) ∧ (∃ u, w'.cell? ⟨bb, 1, none⟩ = some u) ∧ (∃ u, w'.cell? ⟨bb, 2, none⟩ = some u) ∧ (∃ u, w'.cell? ⟨bb, 3, none⟩ = some u)) ∧
   (w'.frozen? ⟨bb, 0, none⟩ = false ∧ w'.frozen? ⟨bb, 1, none⟩ = false ∧ w'.frozen? ⟨bb, 2, none⟩ = false ∧ w'.frozen? ⟨bb, 3, none⟩ = false) ∧
   Hid (∀ W, W = ((((w'.setCell ⟨bb, 0, none⟩ (.slice na nn nc)).setCell ⟨bb, 1, none⟩ (.bool false)).setCell ⟨bb, 2, none⟩ (.int .i64 0)).setCell ⟨bb, 3, none⟩ (.int .i64 0)) →
    W.heap[bb]? = some (.cells #[.slice na nn nc, .bool false, .int .i64 0, .int .i64 0] 101 (0, 0)) ∧ IRow W B (.slice na nn nc) l ∧ Chg (fun b => b = bb) w' W) := by
 obtain ⟨nv, rfl, hI⟩ := h;obtain ⟨na, nc, rfl, _⟩ := hI.row.slice;refine ⟨na, _, nc, rfl, ⟨⟨_, cellAt hb 0⟩, ⟨_, cellAt hb 1⟩, ⟨_, cellAt hb 2⟩, ⟨_, cellAt hb 3⟩⟩, ⟨freeAt hb 0, freeAt hb 1, freeAt hb 2, freeAt hb 3⟩, Lib.hid fun W hW => ?_⟩;obtain ⟨s1, s2⟩ := store4 hb (.slice na l.length nc) (.bool false) (.int .i64 0) (.int .i64 0);rw [← hW] at s1 s2;exact ⟨s1, hI.chg s2 fun b hb e => by have := hI.new b hb; omega, s2⟩
theorem told_nums {w1 : World} (er : Int) (h0 : 0 < l.length) (hl : l.length ≤ 1000) :
 Calls Tryz.prog 100 #[.int .i64 er, .slice (some ⟨w1.heap.size, 0, none⟩) l.length l.length] (w1.alloc (.cells (l.map (Value.int .i64)).toArray 3)) fun e w' => ∃ u, e = .returned u ∧ ToldAt w1.heap.size w' u (l ++ [er]) ∧ Chg (fun _ => False) w1 w' := by
 have hB := (IRow.block w1 h0 (by unfold maxLen; omega)).row;refine (told_g _ er hB (by omega)).mono ?_;rintro e w' ⟨u, rfl, h1, h2⟩;exact ⟨u, rfl, h1.low (by simp), ((Chg.refl _ w1).alloc _).trans h2 fun _ _ h => h⟩
theorem FieldIs.get {b : Int} (h : FieldIs G I a b k er) (he : er ≠ 0) : I.get a b = (⟨false, 0⟩, er, I) := by
 unfold IS.get;cases h with
 | none hl => rw [hl]
 | tab hl hd ht => rw [hl]; simp only [hd, ht, if_true]
 | index hl hd ht hb =>
   rw [hl]; simp only [hd, ht, Bool.false_eq_true, if_false];by_cases h0 : b < 0
   · rw [if_pos h0]
   · rw [if_neg h0]
     rename_i d
     have : d.flds[b.toNat]? = Option.none := List.getElem?_eq_none (by omega);rw [this]
 | ok => exact absurd rfl he
theorem GSim.rootsN (h : GSim G I) (ho : IOk I) : ∀ p ∈ G.roots, 0 ≤ p.2 := fun p hp => by
 rw [h.roots] at hp;have : I.kept p.2 := .root (List.mem_append_left _ (List.mem_append_right _ (List.mem_map.2 ⟨p, hp, rfl⟩)));obtain ⟨d, hd, _⟩ := ho.kept _ this;exact (IS.nd_nat hd).1
theorem got_g (hR : GRep w pb hb Lg G) (hS : GSim G I) (hO : IOk I) (hl : G.roots.length < 20000) (hbig : G.links.length ≤ 1000000) (kd a b : Int) (xc : Option Addr) (xn xm : Nat) :
 Calls Tryz.prog 93 #[.pointer (some ⟨pb, 1, none⟩), .agg #[.int .i64 kd, .int .i64 a, .int .i64 b, .slice xc xn xm]] w fun e w' => ∃ u, e = .returned u ∧ DoQ w pb hb Lg G (I.get a b).2.2 [bitI (I.get a b).1.ref, (I.get a b).1.num, (I.get a b).2.1] u w' := by
 refine ret_k fun K hK => ?_;have HK := Lib.hid hK;have HR := Lib.hid hR;have HS := Lib.hid hS;have HO := Lib.hid hO;have HL := Lib.hid hR.lgs;obtain ⟨fs, hfs⟩ := structOf sTold;have HFs := Lib.hid hfs;obtain ⟨w2, hw2⟩ : ∃ w2, w2 = (w.alloc (.cells #[.int .i64 kd, .int .i64 a, .int .i64 b, .slice xc xn xm] 33)).alloc (.cells #[.slice none 0 0, .bool false, .int .i64 0, .int .i64 0] 101) := ⟨_, rfl⟩;have hC2 : Chg (fun _ => False) w w2 := by rw [hw2]; exact ((Chg.refl _ w).alloc _).alloc _
 have hb2 : w2.heap[w.heap.size + 1]? = some (.cells #[.slice none 0 0, .bool false, .int .i64 0, .int .i64 0] 101 (0, 0)) := by rw [hw2]; exact heap_alloc2_new _ _ _
 have hb0 : w2.heap[w.heap.size]? = some (.cells #[.int .i64 kd, .int .i64 a, .int .i64 b, .slice xc xn xm] 33 (0, 0)) := by rw [hw2]; exact heap_alloc2_old _ _ _
 have HFd := Lib.hid (field_g (hR.still hC2) hS hO hbig kd a b xc xn xm);have HC2 := Lib.hid hC2;have HB2 := Lib.hid hb2;have HLn : Hid (G.roots.length < 20000 ∧ G.links.length ≤ 1000000) := ⟨hl, hbig⟩;have q0 := cellAt hb0 0;have q1 := cellAt hb0 1;have q2 := cellAt hb0 2;have q3 := cellAt hb0 3;clear hK hR hS hO hfs hC2 hb2 hb0 hl hbig
 go_enter Tryz.func93, Tryz.ntmps93
 go_upto_region 1 with fail
 rw [← hw2];obtain ⟨bb, hbb⟩ : ∃ bb, bb = w.heap.size + 1 := ⟨_, rfl⟩;have HBB := Lib.hid hbb;rw [← hbb] at HB2 ⊢;obtain ⟨b0, hb0⟩ : ∃ b0, b0 = w.heap.size := ⟨_, rfl⟩;rw [← hb0] at q0 q1 q2 q3 ⊢;clear hw2 hbb hb0
 go_upto_region 2 with (go_at_call 124; refine HFd.out.mono ?_; rintro e w3 ⟨k, er, rfl, hF, hC3⟩)
 have HC3 := Lib.hid hC3;have HF := Lib.hid hF;clear HFd q0 q1 q2 q3;by_cases he : er = 0
 · subst he;cases hF with
   | @ok x d c _ h1 h2 h3 h4 h5 h6 h7 =>
     have hGet : I.get a b = if c.ref then (⟨true, I.fresh⟩, 0, I.grant c.num) else (⟨false, c.num⟩, 0, I) := by
      unfold IS.get;rw [h1]; simp only [h2, h4, Bool.false_eq_true, if_false];rw [if_neg (by omega), h6]
     have HGet := Lib.hid hGet;have hR3 := (HR.out.still HC2.out).still HC3.out;have hRd := read_g hR3 HLn.out.1 (HS.out.rootsN HO.out) ⟨x, b, -1, c.ref, c.num⟩ (v := .slice none 0 0) (is := []) (Row.nil _ _ _) (fun b hb => by simp [rowBlk] at hb) (by simp);have HRd := Lib.hid hRd;obtain ⟨lab, v, hG⟩ := hR3;obtain ⟨al, cl, _, _, c3, hcl⟩ := hG.links;obtain ⟨bl, rfl, k0, k1, k2, k3, k4⟩ := hcl k _ h7;have hkl : (k : Int) < (G.links.length : Int) := by have := (List.getElem?_eq_some_iff.1 h7).1; omega
     have HC3' := Lib.hid hC3;simp only at k0 k1 k2 k3 k4;clear hG hcl hC3 hRd hGet h1 h2 h3 h4 h5 h6 h7;generalize G.links.length = len at *
     go_wp2_with fail
     refine HRd.out.mono ?_; rintro e wg ⟨u, rfl, hTo, hGG⟩;have hb3 := HC3.out.at HB2.out fun h => h;have hbg := hGG.chg.at hb3 fun hb => by have := HL.out _ hb; have := HBB.out; omega
     have hlt3 := lt_of_block hb3;obtain ⟨na, nn, nc, rfl, ⟨⟨_, u0⟩, ⟨_, u1⟩, ⟨_, u2⟩, ⟨_, u3⟩⟩, ⟨f0, f1, f2, f3⟩, hZ⟩ := hTo.into hbg hlt3;have HGG := Lib.hid hGG;have HLt := Lib.hid hlt3;clear hTo hGG hb3 hbg hlt3 HRd c3 k0 k1 k2 k3 k4;go_wp2;obtain ⟨s1, s2, s3⟩ := hZ.out _ rfl;refine bodyPost_ret (results_cell_row rfl _ _ bb 101 _ (0, 0) _ rfl s1 HFs.out rfl zTold) rfl ?_;have h2s := HC2.out.size;have h3s := HC3.out.size;have hW := GGot.wrap HL.out (HC2.out.trans HC3.out fun _ _ h => h) HGG.out s3 (fun b hb => by have := HBB.out; have := HLt.out; omega);refine HK.out _ _ ⟨_, rfl, ⟨_, rfl, ?_⟩, _, hW, ?_, ?_⟩
     · refine IRow.low ?_ (B := w3.heap.size) (by omega);rw [HGet.out, ← HS.out.fresh];have e : [bitI (if c.ref = true then ((⟨true, G.fresh⟩, 0, I.grant c.num) : Wd × Int × IS) else (⟨false, c.num⟩, 0, I)).1.ref, (if c.ref = true then ((⟨true, G.fresh⟩, 0, I.grant c.num) : Wd × Int × IS) else (⟨false, c.num⟩, 0, I)).1.num, (if c.ref = true then ((⟨true, G.fresh⟩, 0, I.grant c.num) : Wd × Int × IS) else (⟨false, c.num⟩, 0, I)).2.1] = (if c.ref = true then [1, G.fresh] else [0, c.num]) ++ [] ++ [0] := by cases c.ref <;> simp [bitI]
       rw [e]; exact s2
     · rw [HGet.out];cases c.ref
       · exact HS.out
       · exact HS.out.grant _
     · cases c.ref
       · exact Nat.le_add_right _ _
       · exact Nat.le_add_right _ _
 · have HGet := Lib.hid (hF.get he);have HTo := Lib.hid (told_nums (w1 := w3) er (l := [0, 0]) (by simp) (by simp));have HEr : Hid (er ≠ 0) := he;clear hF hC3 HF
   go_wp2_with fail
   refine HTo.out.mono ?_; rintro e wg ⟨u, rfl, hTo, hCg⟩;have hb3 := HC3.out.at HB2.out fun h => h;have hbg := hCg.at hb3 fun h => h;have hlt3 := lt_of_block hb3;obtain ⟨na, nn, nc, rfl, ⟨⟨_, u0⟩, ⟨_, u1⟩, ⟨_, u2⟩, ⟨_, u3⟩⟩, ⟨f0, f1, f2, f3⟩, hZ⟩ := hTo.into hbg hlt3;have HCg := Lib.hid hCg;have HLt := Lib.hid hlt3;clear hTo hCg hb3 hbg hlt3 HTo;go_wp2;obtain ⟨s1, s2, s3⟩ := hZ.out _ rfl;refine bodyPost_ret (results_cell_row rfl _ _ bb 101 _ (0, 0) _ rfl s1 HFs.out rfl zTold) rfl ?_;have h2s := HC2.out.size;have h3s := HC3.out.size
   have hW := GGot.wrap HL.out (HC2.out.trans HC3.out fun _ _ h => h) (((HR.out.still HC2.out).still HC3.out).same HCg.out) s3 (fun b hb => by have := HBB.out; have := HLt.out; omega);refine HK.out _ _ ⟨_, rfl, ⟨_, rfl, ?_⟩, _, hW, ?_, Nat.le_add_right _ _⟩
   · refine IRow.low ?_ (B := w3.heap.size) (by omega);rw [HGet.out];exact s2
   · rw [HGet.out];exact HS.out
theorem GSim.okC (h : GSim G I) (ho : IOk I) (c : Wd) : (!c.ref || decide (0 ≤ G.of c.num)) = I.okC c := by
 unfold IS.okC
 congr 1
 rw [h.of];cases hl : I.hs.lookup c.num with
 | none => rfl
 | some x =>
   obtain ⟨d, hd, _⟩ := ho.held hl;have := (IS.nd_nat hd).1;simp [this]
theorem GSim.wordC (h : GSim G I) (hc : I.okC c = true) : I.wordC c = ⟨c.ref, if c.ref then G.of c.num else c.num⟩ := by
 unfold IS.wordC;cases hr : c.ref with
 | false => rfl
 | true =>
   unfold IS.okC at hc;rw [hr] at hc;simp only [Bool.not_true, Bool.false_or] at hc;obtain ⟨x, hx⟩ := Option.isSome_iff_exists.1 hc;rw [h.of, hx]; rfl
theorem IOk.wordC (h : IOk I) (hc : I.okC c = true) : (I.wordC c).ref = true → (I.nd (I.wordC c).num).isSome := by
 unfold IS.wordC;cases hr : c.ref with
 | false => intro h; cases h
 | true =>
   intro _;unfold IS.okC at hc;rw [hr] at hc;simp only [Bool.not_true, Bool.false_or] at hc;obtain ⟨x, hx⟩ := Option.isSome_iff_exists.1 hc;obtain ⟨d, hd, _⟩ := h.held hx;show (I.nd ((I.hs.lookup c.num).getD 0)).isSome = true;rw [hx];show (I.nd x).isSome = true;rw [hd]; rfl
theorem set_putL {L : List GL} (hn : (L.map GL.id).Nodup) (hy : L[k]? = some y) (c : Wd) : L.set k { y with ref := c.ref, num := c.num } = putL L y.id c := by
 refine List.ext_getElem? fun j => ?_;unfold putL;rw [List.getElem?_set, List.getElem?_map];have hk := (List.getElem?_eq_some_iff.1 hy).1;by_cases e : k = j
 · subst e;rw [hy]; simp [hk]
 · rw [if_neg e];cases hj : L[j]? with
   | none => rfl
   | some z =>
     have hne : z.id ≠ y.id := fun he => by
      obtain ⟨hjl, hz⟩ := List.getElem?_eq_some_iff.1 hj;obtain ⟨_, hy'⟩ := List.getElem?_eq_some_iff.1 hy;unfold List.Nodup at hn;rw [List.pairwise_map, List.pairwise_iff_getElem] at hn;rcases Nat.lt_trichotomy k j with h | h | h
      · exact hn k j hk hjl h (by rw [hy', hz]; exact he.symm)
      · exact e h
      · exact hn j k hjl hk h (by rw [hy', hz]; exact he)
     simp [hne]
theorem FieldIs.set {b : Int} (h : FieldIs G I a b k er) (he : er ≠ 0) (ha : ∃ x, I.hs.lookup a = some x) (hc : I.okC c = true) : I.set a b c = (er, I) := by
 unfold IS.set;cases h with
 | none hl => obtain ⟨x, hx⟩ := ha; rw [hx] at hl; cases hl
 | tab hl hd ht => rw [hl]; simp only [hc, hd, ht, if_true]
 | index hl hd ht hb => rw [hl]; simp only [hc, hd, ht, Bool.false_eq_true, if_false, if_true]; rw [if_pos hb]
 | ok => exact absurd rfl he
theorem told_er (w : World) (er : Int) : Calls Tryz.prog 100 #[.int .i64 er, .slice none 0 0] w fun e w' => ∃ u, e = .returned u ∧ ToldAt w.heap.size w' u [er] ∧ Chg (fun _ => False) w w' :=
 told_g w er (l := []) (Row.nil _ _ _) (by simp)
theorem changed_g (hR : GRep w pb hb Lg G) (hS : GSim G I) (hO : IOk I) (hbig : G.links.length ≤ 1000000) (kd a b : Int) {xc : Option Addr} {xn : Nat} (xm : Nat) {cs : List Wd} (hcs : CellsAt w xc xn cs) :
 Calls Tryz.prog 94 #[.pointer (some ⟨pb, 1, none⟩), .agg #[.int .i64 kd, .int .i64 a, .int .i64 b, .slice xc xn xm]] w fun e w' => ∃ u, e = .returned u ∧ DoQ w pb hb Lg G (I.set a b (opCell b cs)).2 [(I.set a b (opCell b cs)).1] u w' := by
 refine ret_k fun K hK => ?_;have HK := Lib.hid hK;have HR := Lib.hid hR;have HS := Lib.hid hS;have HO := Lib.hid hO;have HL := Lib.hid hR.lgs;obtain ⟨fs, hfs⟩ := structOf sTold;have HFs := Lib.hid hfs;obtain ⟨w2, hw2⟩ : ∃ w2, w2 = (w.alloc (.cells #[.int .i64 kd, .int .i64 a, .int .i64 b, .slice xc xn xm] 33)).alloc (.cells #[.slice none 0 0, .bool false, .int .i64 0, .int .i64 0] 101) := ⟨_, rfl⟩;have hC2 : Chg (fun _ => False) w w2 := by rw [hw2]; exact ((Chg.refl _ w).alloc _).alloc _
 have hb2 : w2.heap[w.heap.size + 1]? = some (.cells #[.slice none 0 0, .bool false, .int .i64 0, .int .i64 0] 101 (0, 0)) := by rw [hw2]; exact heap_alloc2_new _ _ _
 have hb0 : w2.heap[w.heap.size]? = some (.cells #[.int .i64 kd, .int .i64 a, .int .i64 b, .slice xc xn xm] 33 (0, 0)) := by rw [hw2]; exact heap_alloc2_old _ _ _
 obtain ⟨c, hc⟩ : ∃ c, c = opCell b cs := ⟨_, rfl⟩;have HCl := Lib.hid (opCell_any w2 kd a b xc xn xm cs (hcs.chg0 hC2));rw [← hc] at HCl HK;obtain ⟨cv, hcv⟩ : ∃ cv : Wd, cv = ⟨c.ref, if c.ref then G.of c.num else c.num⟩ := ⟨_, rfl⟩;have HCv := Lib.hid hcv;have HVl : Hid (∀ wx, Chg (fun _ => False) w2 wx → Calls Tryz.prog 121 #[.pointer (some ⟨pb, 1, none⟩), c.agg] wx fun e w' => e = .returned (.tuple #[.agg #[.int .i64 0, .int .i64 0, .int .i64 (-1), .bool cv.ref, .int .i64 cv.num], .bool (I.okC c)]) ∧ Chg (fun _ => False) wx w') := fun wx hC => by
  rw [hcv];have := value_g ((HR.out.still hC2).still hC) c.ref c.num;rw [HS.out.okC HO.out c] at this;exact this
 have HC2 := Lib.hid hC2;have HB2 := Lib.hid hb2;have HQ : Hid (∀ wx, Chg (fun _ => False) w2 wx → wx.cell? ⟨w.heap.size, 0, none⟩ = some (.int .i64 kd) ∧ wx.cell? ⟨w.heap.size, 1, none⟩ = some (.int .i64 a) ∧ wx.cell? ⟨w.heap.size, 2, none⟩ = some (.int .i64 b) ∧ wx.cell? ⟨w.heap.size, 3, none⟩ = some (.slice xc xn xm)) := fun wx hC => by
  have h := hC.at hb0 fun h => h;exact ⟨cellAt h 0, cellAt h 1, cellAt h 2, cellAt h 3⟩
 have HBig : Hid (G.links.length ≤ 1000000) := hbig;clear hK hR hS hO hfs hC2 hb2 hb0 hbig hcs hc hcv
 go_enter Tryz.func94, Tryz.ntmps94
 go_upto_region 1 with fail
 rw [← hw2];obtain ⟨bb, hbb⟩ : ∃ bb, bb = w.heap.size + 1 := ⟨_, rfl⟩;have HBB := Lib.hid hbb;rw [← hbb] at HB2 ⊢;obtain ⟨b0, hb0⟩ : ∃ b0, b0 = w.heap.size := ⟨_, rfl⟩;rw [← hb0] at HQ ⊢;clear hw2 hbb hb0;obtain ⟨q0, q1, q2, q3⟩ := HQ.out w2 (Chg.refl _ _)
 go_wp2_with fail
 refine HCl.out.mono ?_; rintro e w3 ⟨rfl, hC3⟩;have hV3 := HVl.out w3 hC3;have HC3 := Lib.hid hC3;clear hC3 q0 q1 q2 q3 HCl
 go_upto_region 2 with (go_at_call 121; refine hV3.mono ?_; rintro e w4 ⟨rfl, hC4⟩)
 clear hV3 HVl;have hC25 : Chg (fun _ => False) w2 (w4.alloc (.cells #[.int .i64 0, .int .i64 0, .int .i64 (-1), .bool cv.ref, .int .i64 cv.num] 144)) := (HC3.out.trans hC4 fun _ _ h => h).alloc _;have hbl := heap_alloc_new w4 (.cells #[.int .i64 0, .int .i64 0, .int .i64 (-1), .bool cv.ref, .int .i64 cv.num] 144);generalize w4.alloc (.cells #[.int .i64 0, .int .i64 0, .int .i64 (-1), .bool cv.ref, .int .i64 cv.num] 144) = w5 at hC25 hbl ⊢;generalize w4.heap.size = bl at hbl ⊢;have HC5 := Lib.hid hC25;have HBl := Lib.hid hbl;obtain ⟨q0, q1, q2, q3⟩ := HQ.out w5 hC25;have hOf := of_g (HR.out.still HC2.out |>.still hC25) a;rw [HS.out.of] at hOf;clear hC25 hbl hC4 HC3
 have HEnd : Hid (∀ (I' : IS) (er : Int) (wg wt : World) (u : Value) (G' : GS), I.set a b c = (er, I') → GGot w5 pb hb Lg G' wg → GSim G' I' → G'.links.length ≤ G.links.length + 200 → ToldAt wg.heap.size wt u [er] → Chg (fun _ => False) wg wt →
  ∃ na nn nc, u = .agg #[.slice na nn nc, .bool false, .int .i64 0, .int .i64 0] ∧ ((∃ u, wt.cell? ⟨bb, 0, none⟩ = some u) ∧ (∃ u, wt.cell? ⟨bb, 1, none⟩ = some u) ∧ (∃ u, wt.cell? ⟨bb, 2, none⟩ = some u) ∧ (∃ u, wt.cell? ⟨bb, 3, none⟩ = some u)) ∧
  (wt.frozen? ⟨bb, 0, none⟩ = false ∧ wt.frozen? ⟨bb, 1, none⟩ = false ∧ wt.frozen? ⟨bb, 2, none⟩ = false ∧ wt.frozen? ⟨bb, 3, none⟩ = false) ∧
  Hid (∀ W, W = ((((wt.setCell ⟨bb, 0, none⟩ (.slice na nn nc)).setCell ⟨bb, 1, none⟩ (.bool false)).setCell ⟨bb, 2, none⟩ (.int .i64 0)).setCell ⟨bb, 3, none⟩ (.int .i64 0)) →
   W.heap[bb]? = some (.cells #[.slice na nn nc, .bool false, .int .i64 0, .int .i64 0] 101 (0, 0)) ∧ Post K (.returned (.agg #[.slice na nn nc, .bool false, .int .i64 0, .int .i64 0])) W)) := fun I' er wg wt u G' hset hGG hSim hlen hTo hCt => by
  have hb5 := HC5.out.at HB2.out fun h => h;have hbg := hGG.chg.at hb5 fun hb => by have := HL.out _ hb; have := HBB.out; omega
  have hbt := hCt.at hbg fun h => h;obtain ⟨na, nn, nc, rfl, h1, h2, hZ⟩ := hTo.into hbt (lt_of_block hbg);refine ⟨na, nn, nc, rfl, h1, h2, Lib.hid fun W hW => ?_⟩;obtain ⟨s1, s2, s3⟩ := hZ.out W hW;have hsz2 := HC2.out.size;have hsz5 := HC5.out.size;have hszg := hGG.chg.size;have hlt := lt_of_block hb5;have hGW := GGot.wrap HL.out (HC2.out.trans HC5.out fun _ _ h => h) hGG ((hCt.mono fun _ _ h => h.elim).trans s3 fun _ _ h => h) (fun b hb => by have := HBB.out; omega);refine ⟨s1, HK.out _ _ ⟨_, rfl, ⟨_, rfl, ?_⟩, G', hGW, ?_, hlen⟩⟩
  · rw [hset]; exact s2.low (by omega)
  · rw [hset]; exact hSim
 clear HK;cases hl : I.hs.lookup a with
 | none =>
   have hset : I.set a b c = (221, I) := by unfold IS.set; rw [hl]
   rw [hl] at hOf;have HSet := Lib.hid hset;have HTe := Lib.hid (told_er w5 221);have e0 : (Option.none : Option Int).getD (-1) = -1 := rfl;rw [e0] at hOf;clear hl hset
   go_upto_region 3 with (go_at_call 103; refine hOf.mono ?_; rintro e w6 ⟨rfl, rfl⟩)
   go_wp2_with (go_at_call 100; refine HTe.out.mono ?_; rintro e w7 ⟨u, rfl, hTo, hC7⟩; obtain ⟨na, nn, nc, rfl, ⟨⟨_, u0⟩, ⟨_, u1⟩, ⟨_, u2⟩, ⟨_, u3⟩⟩, ⟨f0, f1, f2, f3⟩, hZ⟩ := HEnd.out I 221 w5 w7 u G HSet.out (((HR.out.still HC2.out).still HC5.out).same (Chg.refl _ _)) HS.out (Nat.le_add_right _ _) hTo hC7; clear hTo hC7)
   obtain ⟨s1, s2⟩ := hZ.out _ rfl;exact bodyPost_ret (results_cell_row rfl _ _ bb 101 _ (0, 0) _ rfl s1 HFs.out rfl zTold) rfl s2
 | some x =>
   obtain ⟨d, hd, hg⟩ := HO.out.held hl;have hx0 := (IS.nd_nat hd).1;rw [hl] at hOf;have e0 : (Option.some x : Option Int).getD (-1) = x := rfl;rw [e0] at hOf;have hx0' : ¬ (x < 0) := by omega
   have HX : Hid (∃ x, I.hs.lookup a = some x) := ⟨x, hl⟩;have hok0 : ∃ ok, ok = I.okC c := ⟨_, rfl⟩;obtain ⟨ok, hok⟩ := hok0;have HOk := Lib.hid hok;rw [← hok];cases ok with
   | false =>
     have hset : I.set a b c = (221, I) := by unfold IS.set; rw [hl]; simp only [← hok, Bool.false_eq_true, if_false]
     have HSet := Lib.hid hset;have HTe := Lib.hid (told_er w5 221);clear hl hset hd hg hx0 hok
     go_upto_region 3 with (go_at_call 103; refine hOf.mono ?_; rintro e w6 ⟨rfl, rfl⟩)
     go_wp2_with (go_at_call 100; refine HTe.out.mono ?_; rintro e w7 ⟨u, rfl, hTo, hC7⟩; obtain ⟨na, nn, nc, rfl, ⟨⟨_, u0⟩, ⟨_, u1⟩, ⟨_, u2⟩, ⟨_, u3⟩⟩, ⟨f0, f1, f2, f3⟩, hZ⟩ := HEnd.out I 221 w5 w7 u G HSet.out (((HR.out.still HC2.out).still HC5.out).same (Chg.refl _ _)) HS.out (Nat.le_add_right _ _) hTo hC7; clear hTo hC7)
     obtain ⟨s1, s2⟩ := hZ.out _ rfl;exact bodyPost_ret (results_cell_row rfl _ _ bb 101 _ (0, 0) _ rfl s1 HFs.out rfl zTold) rfl s2
   | true =>
     have HFd := Lib.hid (field_g ((HR.out.still HC2.out).still HC5.out) HS.out HO.out HBig.out kd a b xc xn xm);clear hl hd hg hx0 hok
     go_upto_region 5 with (first | (go_at_call 103; refine hOf.mono ?_; rintro e w6 ⟨rfl, rfl⟩) | (go_at_call 124; refine HFd.out.mono ?_; rintro e w6 ⟨k, er, rfl, hF, hC6⟩))
     have HC6 := Lib.hid hC6;have HF := Lib.hid hF;clear hF hC6 HFd hOf q0 q1 q2 q3;by_cases he : er = 0
     · subst he;have hF := HF.out;cases hF with
       | @ok x' d' c' _ h1 h2 h3 h4 h5 h6 h7 =>
         have hcv : I.wordC c = cv := by rw [HS.out.wordC HOk.out.symm, HCv.out]
         have hset : I.set a b c = (0, I.setFld x' b.toNat cv) := by
          unfold IS.set;rw [h1]; simp only [← HOk.out, h2, h4, Bool.false_eq_true, if_false, if_true];have hlt := (List.getElem?_eq_some_iff.1 h6).1;rw [if_neg (by omega), hcv]
         have HSet := Lib.hid hset;have hR6 := ((HR.out.still HC2.out).still HC5.out).still HC6.out;have hPut := put_g hR6 h7 0 0 (-1) cv.ref cv.num;have hsp := set_putL HS.out.nodup h7 cv;have hid : (⟨x', b, -1, c'.ref, c'.num⟩ : GL).id = (x', ((b.toNat : Nat) : Int), -1) := by simp only [GL.id, Int.toNat_of_nonneg h5]
         rw [hid] at hsp;simp only at hsp hPut;rw [hsp] at hPut;have HPut := Lib.hid hPut;have HSim : Hid (GSim { G with links := putL G.links (x', ((b.toNat : Nat) : Int), -1) cv } (I.setFld x' b.toNat cv)) := HS.out.setFld h2 h3 (by rw [← hcv]; exact HO.out.wordC HOk.out.symm);have hbl6 := HC6.out.at HBl.out fun h => h;have l0 := cellAt hbl6 0;have l1 := cellAt hbl6 1;have l2 := cellAt hbl6 2;have l3 := cellAt hbl6 3;have l4 := cellAt hbl6 4;have HLg5 : Hid (∀ b ∈ Lg, b < w5.heap.size) := fun b hb => by have := HL.out b hb; have := HC2.out.size; have := HC5.out.size; omega
         clear HF h1 h2 h3 h4 h5 h6 h7 hcv hset hR6 hPut hsp hid hbl6
         go_wp2_with (first
          | (go_at_call 126; refine HPut.out.mono ?_; rintro e wg ⟨rfl, hGG⟩; have HGG := Lib.hid hGG; have HTe := Lib.hid (told_er wg 0); clear hGG)
          | (go_at_call 100; refine HTe.out.mono ?_; rintro e w7 ⟨u, rfl, hTo, hC7⟩; obtain ⟨na, nn, nc, rfl, ⟨⟨_, u0⟩, ⟨_, u1⟩, ⟨_, u2⟩, ⟨_, u3⟩⟩, ⟨f0, f1, f2, f3⟩, hZ⟩ := HEnd.out _ 0 wg w7 u _ HSet.out (GGot.wrap HLg5.out HC6.out HGG.out (Chg.refl (fun _ => False) wg) (fun _ h => h.elim)) HSim.out (by simp [putL]) hTo hC7; clear hTo hC7))
         obtain ⟨s1, s2⟩ := hZ.out _ rfl;exact bodyPost_ret (results_cell_row rfl _ _ bb 101 _ (0, 0) _ rfl s1 HFs.out rfl zTold) rfl s2
     · have HSet := Lib.hid (HF.out.set he HX.out HOk.out.symm);have HTe := Lib.hid (told_er w6 er)
       go_wp2_with (go_at_call 100; refine HTe.out.mono ?_; rintro e w7 ⟨u, rfl, hTo, hC7⟩; obtain ⟨na, nn, nc, rfl, ⟨⟨_, u0⟩, ⟨_, u1⟩, ⟨_, u2⟩, ⟨_, u3⟩⟩, ⟨f0, f1, f2, f3⟩, hZ⟩ := HEnd.out I er w6 w7 u G HSet.out (((HR.out.still HC2.out).still HC5.out).same HC6.out) HS.out (Nat.le_add_right _ _) hTo hC7; clear hTo hC7)
       obtain ⟨s1, s2⟩ := hZ.out _ rfl;exact bodyPost_ret (results_cell_row rfl _ _ bb 101 _ (0, 0) _ rfl s1 HFs.out rfl zTold) rfl s2
end Go.Proofs.YtelghmmcbgfjnaaGreat
