/-
  found of the reference's graph; how an operation of the reference ends. (A part of the proof, joined of: Vw, Vx, Vy, Vz, Sa, Sb; made smaller.)
-/
import Derived.Test.YtelghmmcbgfjnaaGreatH24
set_option maxHeartbeats 4000000
set_option maxRecDepth 100000
namespace Go.Proofs.YtelghmmcbgfjnaaGreat
variable {A : St} {G : GS} {I J : IS} {L : List GL} {Lg : List Nat} {W W' w5 : World} {a b er k : Int} {d : Nd} {f : Nat → Bool} {hb i j pb : Nat} {l : List En} {y z : GL}
open Go.RowKit
theorem do_end {w wb wg wt : World} {bb : Nat} {G' : GS} {I' : IS} {l : List Int} {K : Ending → World → Prop} {u c0 c1 c2 c3 : Value} {B : Nat} 
 (hK : ∀ e w', (∃ u, e = .returned u ∧ DoQ w pb hb Lg G I' l u w') → Post K e w') (hL : ∀ b ∈ Lg, b < w.heap.size) (hCb : Chg (fun _ => False) w wb)
 (hbb : wb.heap[bb]? = some (.cells #[c0, c1, c2, c3] 101 (0, 0))) (hbw : w.heap.size ≤ bb)
 (hGG : GGot wb pb hb Lg G' wg) (hSim : GSim G' I') (hlen : G'.links.length ≤ G.links.length + 200) (hTo : ToldAt B wt u l) (hB : bb < B) (hCt : Chg (fun _ => False) wg wt) :
 ∃ na nn nc, u = .agg #[.slice na nn nc, .bool false, .int .i64 0, .int .i64 0] ∧ ((∃ u, wt.cell? ⟨bb, 0, none⟩ = some u) ∧ (∃ u, wt.cell? ⟨bb, 1, none⟩ = some u) ∧ (∃ u, wt.cell? ⟨bb, 2, none⟩ = some u) ∧ (∃ u, wt.cell? ⟨bb, 3, none⟩ = some u)) ∧
   (wt.frozen? ⟨bb, 0, none⟩ = false ∧ wt.frozen? ⟨bb, 1, none⟩ = false ∧ wt.frozen? ⟨bb, 2, none⟩ = false ∧ wt.frozen? ⟨bb, 3, none⟩ = false) ∧
   Hid (∀ W, W = ((((wt.setCell ⟨bb, 0, none⟩ (.slice na nn nc)).setCell ⟨bb, 1, none⟩ (.bool false)).setCell ⟨bb, 2, none⟩ (.int .i64 0)).setCell ⟨bb, 3, none⟩ (.int .i64 0)) →
    W.heap[bb]? = some (.cells #[.slice na nn nc, .bool false, .int .i64 0, .int .i64 0] 101 (0, 0)) ∧ Post K (.returned (.agg #[.slice na nn nc, .bool false, .int .i64 0, .int .i64 0])) W) := by
 have hlt := lt_of_block hbb;have hbg := hGG.chg.at hbb fun hb => by have := hL _ hb; omega
 have hbt := hCt.at hbg fun h => h;obtain ⟨na, nn, nc, rfl, h1, h2, hZ⟩ := hTo.into hbt hB;refine ⟨na, nn, nc, rfl, h1, h2, Lib.hid fun W hW => ?_⟩;obtain ⟨s1, s2, s3⟩ := hZ.out W hW;have hGW := GGot.wrap hL hCb hGG ((hCt.mono fun _ _ h => h.elim).trans s3 fun _ _ h => h) (fun b hb => by omega);exact ⟨s1, hK _ _ ⟨_, rfl, ⟨_, rfl, s2.low (by omega)⟩, G', hGW, hSim, hlen⟩⟩
theorem EntryIs.find (h : EntryIs G I a b k er) (hk : k < 0) : I.find a b = (⟨false, 0⟩, false, er, I) := by
 unfold IS.find;cases h with
 | err h _ => rw [h]
 | miss h _ hf => rw [h]; simp only [hf]
 | ok => omega
theorem EntryIs.remove (h : EntryIs G I a b k er) (hk : k < 0) : I.remove a b = (false, er, I) := by
 unfold IS.remove;cases h with
 | err h _ => rw [h]
 | miss h _ hf => rw [h]; simp only [hf]
 | ok => omega
theorem found_g {w : World} (hR : GRep w pb hb Lg G) (hS : GSim G I) (hO : IOk I) (hl : G.roots.length < 20000) (hbig : G.links.length ≤ 1000000) (kd a b : Int) (xc : Option Addr) (xn xm : Nat) :
 Calls Tryz.prog 96 #[.pointer (some ⟨pb, 1, none⟩), .agg #[.int .i64 kd, .int .i64 a, .int .i64 b, .slice xc xn xm]] w fun e w' => ∃ u, e = .returned u ∧ DoQ w pb hb Lg G (I.find a b).2.2.2 [bitI (I.find a b).1.ref, (I.find a b).1.num, bitI (I.find a b).2.1, (I.find a b).2.2.1] u w' := by
 refine ret_k fun K hK => ?_;have HK := Lib.hid hK;have HR := Lib.hid hR;have HS := Lib.hid hS;have HO := Lib.hid hO;have HL := Lib.hid hR.lgs;obtain ⟨fs, hfs⟩ := structOf sTold;have HFs := Lib.hid hfs;obtain ⟨w2, hw2⟩ : ∃ w2, w2 = (w.alloc (.cells #[.int .i64 kd, .int .i64 a, .int .i64 b, .slice xc xn xm] 33)).alloc (.cells #[.slice none 0 0, .bool false, .int .i64 0, .int .i64 0] 101) := ⟨_, rfl⟩;have hC2 : Chg (fun _ => False) w w2 := by rw [hw2]; exact ((Chg.refl _ w).alloc _).alloc _
 have hb2 : w2.heap[w.heap.size + 1]? = some (.cells #[.slice none 0 0, .bool false, .int .i64 0, .int .i64 0] 101 (0, 0)) := by rw [hw2]; exact heap_alloc2_new _ _ _
 have hb0 : w2.heap[w.heap.size]? = some (.cells #[.int .i64 kd, .int .i64 a, .int .i64 b, .slice xc xn xm] 33 (0, 0)) := by rw [hw2]; exact heap_alloc2_old _ _ _
 have HEy := Lib.hid (entry_g (hR.still hC2) hS hO hbig kd a b xc xn xm);have HC2 := Lib.hid hC2;have HB2 := Lib.hid hb2;have HLn : Hid (G.roots.length < 20000 ∧ G.links.length ≤ 1000000) := ⟨hl, hbig⟩;have q0 := cellAt hb0 0;have q1 := cellAt hb0 1;have q2 := cellAt hb0 2;have q3 := cellAt hb0 3;clear hK hR hS hO hfs hC2 hb2 hb0 hl hbig
 go_enter Tryz.func96, Tryz.ntmps96
 go_upto_region 1 with fail
 rw [← hw2];obtain ⟨bb, hbb⟩ : ∃ bb, bb = w.heap.size + 1 := ⟨_, rfl⟩;have HBB : Hid (w.heap.size ≤ bb) := by show _ ≤ _; omega
 rw [← hbb] at HB2 ⊢;obtain ⟨b0, hb0⟩ : ∃ b0, b0 = w.heap.size := ⟨_, rfl⟩;rw [← hb0] at q0 q1 q2 q3 ⊢;clear hw2 hbb hb0
 go_upto_region 2 with (go_at_call 127; refine HEy.out.mono ?_; rintro e w3 ⟨k, er, rfl, hF, hC3⟩)
 have HC3 := Lib.hid hC3;have HF := Lib.hid hF;clear HEy q0 q1 q2 q3 hF hC3;by_cases hk : k < 0
 · rw [HF.out.find hk] at HK;rcases (Decidable.em (er = 0)) with rfl | he
   all_goals
    have HTo := Lib.hid (fun er : Int => told_nums (w1 := w3) er (l := [0, 0, 0]) (by simp) (by simp));clear HF
    go_wp2_with fail
    refine (HTo.out _).mono ?_; rintro e wg ⟨u, rfl, hTo, hCg⟩;have hb3 := HC3.out.at HB2.out fun h => h;obtain ⟨na, nn, nc, rfl, ⟨⟨_, u0⟩, ⟨_, u1⟩, ⟨_, u2⟩, ⟨_, u3⟩⟩, ⟨f0, f1, f2, f3⟩, hZ⟩ := do_end HK.out HL.out (HC2.out.trans HC3.out fun _ _ h => h) hb3 HBB.out (((HR.out.still HC2.out).still HC3.out).same (Chg.refl _ _)) HS.out (Nat.le_add_right _ _) hTo (lt_of_block hb3) hCg;clear hTo hCg hb3 HTo HK;go_wp2;obtain ⟨s1, s2⟩ := hZ.out _ rfl;exact bodyPost_ret (results_cell_row rfl _ _ bb 101 _ (0, 0) _ rfl s1 HFs.out rfl zTold) rfl s2
 · have hF := HF.out;cases hF with
   | err h1 h2 => omega
   | miss h1 h2 h3 => omega
   | @ok x kn d e j h1 h2 h3 h4 h5 =>
     have hFind : I.find a b = if e.val.ref then (⟨true, I.fresh⟩, true, 0, I.grant e.val.num) else (⟨false, e.val.num⟩, true, 0, I) := by
      unfold IS.find;rw [h1]; simp only [h3]
     rw [hFind] at HK;have hR3 := (HR.out.still HC2.out).still HC3.out;have hCA : Chg (fun _ => False) w3 (w3.alloc (.cells #[.int .i64 1] 3)) := (Chg.refl _ _).alloc _;have hrow : Row (w3.alloc (.cells #[.int .i64 1] 3)) 3 1 (.slice (some ⟨w3.heap.size, 0, none⟩) 1 1) ([1] : List Int).length (intCells [1]) := (IRow.block w3 (l := [1]) (by simp) (by simp [maxLen])).row;have hRd := read_g (hR3.still hCA) HLn.out.1 (HS.out.rootsN HO.out) (gent x e) hrow (fun b hb hin => by
      simp only [rowBlk, Option.some.injEq] at hb;have := hR3.lgs b hin;omega) (by simp)
     have HRd := Lib.hid hRd;have HCA := Lib.hid hCA;obtain ⟨lab, v, hG⟩ := hR3;obtain ⟨al, cl, _, _, c3, hcl⟩ := hG.links;obtain ⟨bl, rfl, k0, k1, k2, k3, k4⟩ := hcl j _ h5;have hkl : (j : Int) < (G.links.length : Int) := by have := (List.getElem?_eq_some_iff.1 h5).1; omega
     simp only [gent] at k0 k1 k2 k3 k4 HRd;have HSim : Hid (GSim (if e.val.ref then G.grant e.val.num else G) (if e.val.ref then I.grant e.val.num else I)) := by
      cases e.val.ref
      · exact HS.out
      · exact HS.out.grant _
     clear hG hcl hRd hFind h1 h2 h3 h4 h5 hrow hCA HF;generalize G.links.length = len at *
     go_wp2_with fail
     refine HRd.out.mono ?_; rintro e' wg ⟨u, rfl, hTo, hGG⟩;have hb3 := (HC3.out.trans HCA.out fun _ _ h => h).at HB2.out fun h => h;obtain ⟨na, nn, nc, rfl, ⟨⟨_, u0⟩, ⟨_, u1⟩, ⟨_, u2⟩, ⟨_, u3⟩⟩, ⟨f0, f1, f2, f3⟩, hZ⟩ := do_end (I' := if e.val.ref then I.grant e.val.num else I) (l := (if e.val.ref then [1, G.fresh] else [0, e.val.num]) ++ [1] ++ [0]) (fun e1 w1 h => HK.out e1 w1 (by
      rw [HS.out.fresh] at h
      revert h
      cases e.val.ref
      · exact fun h => h
      · exact fun h => h)) HL.out ((HC2.out.trans HC3.out fun _ _ h => h).trans HCA.out fun _ _ h => h) hb3 HBB.out hGG HSim.out ((show ∀ c : Bool, (if c = true then G.grant e.val.num else G).links.length ≤ G.links.length + 200 from fun c => by cases c <;> exact Nat.le_add_right _ _) _) hTo (lt_of_block hb3) (Chg.refl _ _)
     clear hTo hGG hb3 HRd c3 k0 k1 k2 k3 k4 HK;go_wp2;obtain ⟨s1, s2⟩ := hZ.out _ rfl;exact bodyPost_ret (results_cell_row rfl _ _ bb 101 _ (0, 0) _ rfl s1 HFs.out rfl zTold) rfl s2
theorem links_store {w w6 : World} {v' : Value} (hR : GRep w pb hb Lg G) (hrow : Row w6 144 5 v' L.length (glCells L)) (hnew : ∀ b, rowBlk v' = some b → w.heap.size ≤ b) (hC : Chg (fun _ => False) w w6) :
 (∃ u, w6.cell? ⟨pb, 3, none⟩ = some u) ∧ w6.frozen? ⟨pb, 3, none⟩ = false ∧ GGot w pb hb Lg { G with links := L } (w6.setCell ⟨pb, 3, none⟩ v') := by
 obtain ⟨lab, v, hG⟩ := hR;have h6 := hC.at hG.at_ fun h => h;have hpb := lt_of_block hG.at_;refine ⟨⟨_, cellAt h6 3⟩, freeAt h6 3, ?_⟩;have hne : ∀ b, rowBlk v' = some b → b ≠ pb := fun b hb e => by have := hnew b hb; omega
 refine hG.set 1 (by omega) (v1 := v') ((hC.mono fun _ _ h => h.elim).setCell (fun _ => .inr rfl) _) rfl ?_ (fun b hb => ⟨?_, .inr (hnew b hb)⟩) rfl ?_ rfl rfl rfl
 · rw [heap_setCell h6]; rfl
 · have := hrow.lt hb; simpa using this
 · show Row _ _ _ _ _ _;exact hrow.same fun b hb => heap_setCell_ne (hne b hb) _
theorem ids_at (hn : (L.map GL.id).Nodup) (hi : L[i]? = some y) (hj : L[j]? = some z) (he : y.id = z.id) : i = j := by
 obtain ⟨hi1, hi2⟩ := List.getElem?_eq_some_iff.1 hi;obtain ⟨hj1, hj2⟩ := List.getElem?_eq_some_iff.1 hj;unfold List.Nodup at hn;rw [List.pairwise_map, List.pairwise_iff_getElem] at hn;rcases Nat.lt_trichotomy i j with h | h | h
 · exact absurd (by rw [hi2, hj2]; exact he) (hn i j hi1 hj1 h)
 · exact h
 · exact absurd (by rw [hi2, hj2]; exact he.symm) (hn j i hj1 hi1 h)
theorem keepL_one (hn : (L.map GL.id).Nodup) (hj : L[j]? = some z) : keepL L (updM (fun _ => false) j) L.length = L.filter fun l => decide (l.id ≠ z.id) := by
 rw [keepL_filter (P := fun l => decide (l.id = z.id))]
 · exact List.filter_congr fun l _ => by simp
 · intro i y hi;unfold updM;by_cases e : i = j
   · subst e;rw [hi] at hj;simp only [Option.some.injEq] at hj;subst hj;simp
   · have : ¬ (y.id = z.id) := fun h => e (ids_at hn hi hj h);simp [e, this]
theorem IS.tab_some {t key name kn : Int} (h : I.tab t key = .inr (name, kn, d)) (ho : IOk I) : I.nd name = some d ∧ 0 ≤ kn := by
 refine ⟨IS.tab_nd h, ?_⟩;unfold IS.tab at h
 split at h
 · cases h
 · split at h
   · cases h
   · rename_i k hk
     obtain ⟨d', hd, _⟩ := ho.held hk;have := (IS.nd_nat hd).1
     split at h
     · cases h
     · split at h
       · simp only [Sum.inr.injEq, Prod.mk.injEq] at h;omega
       · cases h
theorem removed_g {w : World} (hR : GRep w pb hb Lg G) (hS : GSim G I) (hO : IOk I) (hbig : G.links.length ≤ 1000000) (kd a b : Int) (xc : Option Addr) (xn xm : Nat) :
 Calls Tryz.prog 97 #[.pointer (some ⟨pb, 1, none⟩), .agg #[.int .i64 kd, .int .i64 a, .int .i64 b, .slice xc xn xm]] w fun e w' => ∃ u, e = .returned u ∧ DoQ w pb hb Lg G (I.remove a b).2.2 [bitI (I.remove a b).1, (I.remove a b).2.1] u w' := by
 refine ret_k fun K hK => ?_;have HK := Lib.hid hK;have HR := Lib.hid hR;have HS := Lib.hid hS;have HO := Lib.hid hO;have HL := Lib.hid hR.lgs;obtain ⟨fs, hfs⟩ := structOf sTold;have HFs := Lib.hid hfs;obtain ⟨w2, hw2⟩ : ∃ w2, w2 = (w.alloc (.cells #[.int .i64 kd, .int .i64 a, .int .i64 b, .slice xc xn xm] 33)).alloc (.cells #[.slice none 0 0, .bool false, .int .i64 0, .int .i64 0] 101) := ⟨_, rfl⟩;have hC2 : Chg (fun _ => False) w w2 := by rw [hw2]; exact ((Chg.refl _ w).alloc _).alloc _
 have hb2 : w2.heap[w.heap.size + 1]? = some (.cells #[.slice none 0 0, .bool false, .int .i64 0, .int .i64 0] 101 (0, 0)) := by rw [hw2]; exact heap_alloc2_new _ _ _
 have hb0 : w2.heap[w.heap.size]? = some (.cells #[.int .i64 kd, .int .i64 a, .int .i64 b, .slice xc xn xm] 33 (0, 0)) := by rw [hw2]; exact heap_alloc2_old _ _ _
 have HEy := Lib.hid (entry_g (hR.still hC2) hS hO hbig kd a b xc xn xm);have HC2 := Lib.hid hC2;have HB2 := Lib.hid hb2;have HBig : Hid (G.links.length ≤ 1000000) := hbig;have q0 := cellAt hb0 0;have q1 := cellAt hb0 1;have q2 := cellAt hb0 2;have q3 := cellAt hb0 3;clear hK hR hS hO hfs hC2 hb2 hb0 hbig
 go_enter Tryz.func97, Tryz.ntmps97
 go_upto_region 1 with fail
 rw [← hw2];obtain ⟨bb, hbb⟩ : ∃ bb, bb = w.heap.size + 1 := ⟨_, rfl⟩;have HBB : Hid (w.heap.size ≤ bb) := by show _ ≤ _; omega
 rw [← hbb] at HB2 ⊢;obtain ⟨b0, hb0⟩ : ∃ b0, b0 = w.heap.size := ⟨_, rfl⟩;rw [← hb0] at q0 q1 q2 q3 ⊢;clear hw2 hbb hb0
 go_upto_region 2 with (go_at_call 127; refine HEy.out.mono ?_; rintro e w3 ⟨k, er, rfl, hF, hC3⟩)
 have HC3 := Lib.hid hC3;have HF := Lib.hid hF;clear HEy q0 q1 q2 q3 hF hC3;by_cases hk : k < 0
 · rw [HF.out.remove hk] at HK;rcases (Decidable.em (er = 0)) with rfl | he
   all_goals
    have HTo := Lib.hid (fun er : Int => told_nums (w1 := w3) er (l := [0]) (by simp) (by simp));clear HF
    go_wp2_with fail
    refine (HTo.out _).mono ?_; rintro e wg ⟨u, rfl, hTo, hCg⟩;have hb3 := HC3.out.at HB2.out fun h => h;obtain ⟨na, nn, nc, rfl, ⟨⟨_, u0⟩, ⟨_, u1⟩, ⟨_, u2⟩, ⟨_, u3⟩⟩, ⟨f0, f1, f2, f3⟩, hZ⟩ := do_end HK.out HL.out (HC2.out.trans HC3.out fun _ _ h => h) hb3 HBB.out (((HR.out.still HC2.out).still HC3.out).same (Chg.refl _ _)) HS.out (Nat.le_add_right _ _) hTo (lt_of_block hb3) hCg;clear hTo hCg hb3 HTo HK;go_wp2;obtain ⟨s1, s2⟩ := hZ.out _ rfl;exact bodyPost_ret (results_cell_row rfl _ _ bb 101 _ (0, 0) _ rfl s1 HFs.out rfl zTold) rfl s2
 · have hF := HF.out;cases hF with
   | err h1 h2 => omega
   | miss h1 h2 h3 => omega
   | @ok x kn d e j h1 h2 h3 h4 h5 =>
     have hRem : I.remove a b = (true, 0, I.setEnts x fun l => l.filter fun e => !KeyIs kn e) := by
      unfold IS.remove;rw [h1]; simp only [h3]
     rw [hRem] at HK;obtain ⟨hd, hkn⟩ := IS.tab_some h1 HO.out;have hSim := HS.out.remE hd h2 hkn;have hR3 := (HR.out.still HC2.out).still HC3.out;obtain ⟨len, hlen⟩ : ∃ len, len = G.links.length := ⟨_, rfl⟩;have hjl : j < len := by rw [hlen]; exact (List.getElem?_eq_some_iff.1 h5).1
     have hjl' : (j : Int) < (len : Int) := by omega
     obtain ⟨X, hmk, hM0⟩ := make_marks w3 len (by rw [hlen]; exact HBig.out);have hC5 : Chg (fun _ => False) w3 ((w3.alloc X).setCell ⟨w3.heap.size, j, none⟩ (.bool true)) := ((Chg.refl _ w3).alloc X).setCell (p := ⟨w3.heap.size, j, none⟩) (fun h => by simp only at h; omega) _;have hM5 := hM0.put hjl;have hR5 := hR3.still hC5;have hkeep := keepL_one HS.out.nodup h5;have hid : (gent x e).id = (x, -1, kn) := by rw [← h4]; rfl
     rw [hid] at hkeep;have m4 := hM0.cell hjl;have m5 := hM0.free j;obtain ⟨lab, v, hG⟩ := hR3;obtain ⟨al, cl, hv1, _, c3, _⟩ := hG.links;have hWo : Calls Tryz.prog 128 #[.slice al len cl, .slice (some ⟨w3.heap.size, 0, none⟩) len len] ((w3.alloc X).setCell ⟨w3.heap.size, j, none⟩ (.bool true)) fun e w6 => ∃ va vn vc, e = .returned (.slice va vn vc) ∧ (∃ u, w6.cell? ⟨pb, 3, none⟩ = some u) ∧ w6.frozen? ⟨pb, 3, none⟩ = false ∧
      Hid (GGot ((w3.alloc X).setCell ⟨w3.heap.size, j, none⟩ (.bool true)) pb hb Lg { G with links := G.links.filter fun l => decide (l.id ≠ (x, -1, kn)) } (w6.setCell ⟨pb, 3, none⟩ (.slice va vn vc))) := by
      have hrow : Row ((w3.alloc X).setCell ⟨w3.heap.size, j, none⟩ (.bool true)) 144 5 (.slice al len cl) G.links.length (glCells G.links) := by
       rw [hlen, ← hv1];exact hG.r1.same fun b hb => hC5.block b (hG.r1.lt hb) fun h => h
      have := without_g hrow (by rw [← hlen]; exact hM5) HBig.out;rw [← hlen] at this;refine this.mono ?_;rintro e w6 ⟨v', rfl, hrow', hnew, hC6⟩;rw [hlen, hkeep] at hrow';obtain ⟨g1, g2, g3⟩ := links_store hR5 hrow' hnew hC6;obtain ⟨va, vc, rfl, _⟩ := hrow'.slice;exact ⟨va, _, vc, rfl, g1, g2, Lib.hid g3⟩
     have c3r : (w3.cell? ⟨pb, 3, none⟩) = some (.slice al len cl) := by rw [hlen]; exact c3
     have c3w : ((w3.alloc X).setCell ⟨w3.heap.size, j, none⟩ (.bool true)).cell? ⟨pb, 3, none⟩ = some (.slice al len cl) := cell_chg hC5 c3r fun h => h;have HC5 := Lib.hid hC5;have HWo := Lib.hid hWo;have HSim := Lib.hid hSim;have HTo := Lib.hid (fun w1 : World => told_nums (w1 := w1) 0 (l := [1]) (by simp) (by simp));clear h1 h2 h3 h4 h5 hRem hd hkn hSim hkeep hid hR5 hM5 hM0 hC5 hWo hG hv1 c3 HF hlen
     go_upto_region 5 with (first | (at_make; go_must (refine wpList_val rfl (exec_makeSlice rfl (by exact hmk)) ?_)))
     clear hmk c3r;generalize w3.alloc X = w4 at *;generalize w3.heap.size = sb at m4 m5 c3w HC5 HWo ⊢
     go_upto_region 6 with fail
     generalize w4.setCell ⟨sb, j, none⟩ (.bool true) = w5 at *;clear m4 m5
     go_upto_region 7 with (go_at_call 128; refine HWo.out.mono ?_; rintro e w6 ⟨va, vn, vc, rfl, ⟨_, g0⟩, g1, hGG⟩)
     clear c3w HWo;generalize w6.setCell ⟨pb, 3, none⟩ (.slice va vn vc) = w7 at hGG ⊢
     go_wp2_with fail
     refine (HTo.out w7).mono ?_; rintro e wg ⟨u, rfl, hTo, hCg⟩;have hb3 := (HC3.out.trans HC5.out fun _ _ h => h).at HB2.out fun h => h;have hlt := hGG.out.chg.size;have hlt3 := lt_of_block hb3;obtain ⟨na, nn, nc, rfl, ⟨⟨_, u0⟩, ⟨_, u1⟩, ⟨_, u2⟩, ⟨_, u3⟩⟩, ⟨f0, f1, f2, f3⟩, hZ⟩ := do_end HK.out HL.out ((HC2.out.trans HC3.out fun _ _ h => h).trans HC5.out fun _ _ h => h) hb3 HBB.out hGG.out HSim.out (Nat.le_trans (List.length_filter_le _ _) (Nat.le_add_right _ _)) hTo (Nat.lt_of_lt_of_le hlt3 hlt) hCg;clear hTo hCg hb3 hlt hlt3 HTo HK hGG;go_wp2;obtain ⟨s1, s2⟩ := hZ.out _ rfl;exact bodyPost_ret (results_cell_row rfl _ _ bb 101 _ (0, 0) _ rfl s1 HFs.out rfl zTold) rfl s2
noncomputable def IS.bounds (I : IS) (a : Int) : Int ⊕ (Nat × Nat) := match I.hs.lookup a with
 | none => .inl 221
 | some x => match I.nd x with
   | none => .inl 0
   | some d => if d.table then .inr ((d.ents.filter fun e => I.live e.key).length, (d.ents.filter fun e => I.here e.key).length) else .inl 223
def GL.nul : GL := ⟨0, 0, 0, false, 0⟩
theorem entIdx_links (G : GS) (node : Int) : ∀ n, n ≤ G.links.length → (G.entIdx node n).map (fun z => G.links[z.toNat]?.getD GL.nul) = (G.links.take n).filter (isEn node)
 | 0, _ => by simp [GS.entIdx]
 | n + 1, h => by
   obtain ⟨x, hx⟩ : ∃ x, G.links[n]? = some x := ⟨_, List.getElem?_eq_getElem (by omega)⟩;have e : isEnt node (some x) = isEn node x := rfl;rw [entIdx_next, List.map_append, entIdx_links G node n (by omega), List.take_add_one, hx, List.filter_append, e]
   congr 1
   cases hb : isEn node x with
   | false => simp [hb]
   | true => simp [hb, hx]
theorem entIdx_at {node : Int} (hi : i < (G.entIdx node G.links.length).length) : ∃ (j : Nat) (y : GL), (G.entIdx node G.links.length).getD i 0 = j ∧ j < G.links.length ∧ G.links[j]? = some y ∧ (G.links.filter (isEn node))[i]? = some y := by
 obtain ⟨j, y, h1, h2, h3, _, _⟩ := entIdx_get hi;have h4 := entIdx_links G node G.links.length (Nat.le_refl _);rw [List.take_length] at h4;refine ⟨j, y, h1, h2, h3, ?_⟩;have h5 : (G.entIdx node G.links.length)[i]? = some (j : Int) := by rw [← h1, List.getD_eq_getElem?_getD, List.getElem?_eq_getElem hi]; rfl
 rw [← h4, List.getElem?_map, h5];simp [h3]
theorem entIdx_length (G : GS) (node : Int) : (G.entIdx node G.links.length).length = (G.links.filter (isEn node)).length := by
 have h4 := entIdx_links G node G.links.length (Nat.le_refl _);rw [List.take_length] at h4;rw [← h4, List.length_map]
def cntE (l : List GL) (f : Nat → Bool) (i : Nat) : Nat := ((l.take i).filter fun y => f y.key.toNat).length
theorem cntE_next {l : List GL} (hy : l[i]? = some y) : cntE l f (i + 1) = cntE l f i + if f y.key.toNat then 1 else 0 := by
 unfold cntE;rw [List.take_add_one, hy, List.filter_append, List.length_append];cases h : f y.key.toNat <;> simp [h]
theorem cntE_le (l : List GL) (f : Nat → Bool) (i : Nat) : cntE l f i ≤ i := by
 unfold cntE;have h1 := List.length_filter_le (fun y : GL => f y.key.toNat) (l.take i);have h2 := List.length_take_le i l;omega
theorem GSim.cnt (h : GSim G I) (ho : IOk I) {x : Int} (hd : I.nd x = some d) (hg : d.gone = false) (hf : ∀ j : Nat, f j = I.live j) :
 cntE (G.links.filter (isEn x)) f (G.links.filter (isEn x)).length = (d.ents.filter fun e => I.live e.key).length ∧ (G.links.filter (isEn x)).length = (d.ents.filter fun e => I.here e.key).length := by
 unfold cntE;rw [List.take_length, h.ents x d hd hg];refine ⟨?_, by rw [List.length_map]⟩;rw [List.filter_map, List.length_map, List.filter_filter]
 congr 1
 refine List.filter_congr fun e he => ?_;have hk := ho.sh.key x d hd e he;show (f e.key.toNat && I.here e.key) = I.live e.key;rw [hf, Int.toNat_of_nonneg hk];cases hl : I.live e.key with
 | false => rfl
 | true =>
   obtain ⟨d', h1, h2⟩ := ho.kept _ (IS.live_iff.1 hl);rw [here_of h1 h2]; rfl
theorem GSim.gok (h : GSim G I) (ho : IOk I) (hf : I.nodes.length ≤ 9000 ∧ I.hs.length ≤ 9000 ∧ I.queue.length ≤ 9000 ∧ I.reg.length ≤ 9000 ∧ G.links.length ≤ 1000000) : GOk G := by
 have hlen : G.nodes.length = I.nodes.length := by rw [h.nodes, List.length_map]
 have hin : ∀ n, I.kept n → 0 ≤ n ∧ n < G.nodes.length := fun n hn => by
  obtain ⟨d, hd, _⟩ := ho.kept n hn;obtain ⟨h1, h2, _⟩ := IS.nd_nat hd;rw [hlen]; omega
 have hnum : ∀ n, (I.nd n).isSome → 0 ≤ n ∧ n < G.nodes.length := fun n hn => by
  obtain ⟨d, hd⟩ := Option.isSome_iff_exists.1 hn;obtain ⟨h1, h2, _⟩ := IS.nd_nat hd;rw [hlen]; omega
 refine ⟨fun l hl => ⟨?_, ?_, fun hr => hnum _ (h.num l hl hr)⟩, fun p hp => ?_, fun n hn => ?_, fun n hn => ?_, ?_⟩
 · obtain ⟨d, hd, _⟩ := h.dead l hl;exact hnum _ (by rw [hd]; rfl)
 · by_cases hk : l.key < 0
   · exact .inl hk
   · obtain ⟨d, x, h1, h2, h3, h4, h5⟩ := h.ent_of hl (by omega);obtain ⟨d', h6, _⟩ := of_here h4;have e : l.key = x.key := by rw [h5]; rfl
     rw [e];exact .inr (hnum _ (by rw [h6]; rfl))
 · rw [h.roots] at hp;exact hin _ (.root (List.mem_append_left _ (List.mem_append_right _ (List.mem_map.2 ⟨p, hp, rfl⟩))))
 · rw [h.queue] at hn;exact hin _ (.root (List.mem_append_left _ (List.mem_append_left _ hn)))
 · rw [h.wanted] at hn;exact hin _ (.root (List.mem_append_right _ hn))
 · rw [hlen, h.roots, h.queue, h.wanted];exact ⟨hf.1, hf.2.1, hf.2.2.1, hf.2.2.2.1, hf.2.2.2.2⟩
def CountQ (w : World) (I : IS) (a : Int) (u : Value) (w' : World) : Prop := match I.bounds a with
 | .inl er => ToldAt w.heap.size w' u [0, er]
 | .inr (lo, hi) => u = .agg #[.slice none 0 0, .bool true, .int .i64 lo, .int .i64 hi]
theorem counted_g {w : World} (hR : GRep w pb hb Lg G) (hS : GSim G I) (hO : IOk I) (hG : GOk G) (kd a b : Int) (xc : Option Addr) (xn xm : Nat) :
 Calls Tryz.prog 90 #[.pointer (some ⟨pb, 1, none⟩), .agg #[.int .i64 kd, .int .i64 a, .int .i64 b, .slice xc xn xm]] w fun e w' => ∃ u, e = .returned u ∧ CountQ w I a u w' ∧ Chg (fun _ => False) w w' := by
 refine ret_k fun K hK => ?_;have HK := Lib.hid hK;have HR := Lib.hid hR;have HS := Lib.hid hS;have HO := Lib.hid hO;have HG := Lib.hid hG;obtain ⟨fs, hfs⟩ := structOf sTold;have HFs := Lib.hid hfs;obtain ⟨w2, hw2⟩ : ∃ w2, w2 = (w.alloc (.cells #[.int .i64 kd, .int .i64 a, .int .i64 b, .slice xc xn xm] 33)).alloc (.cells #[.slice none 0 0, .bool false, .int .i64 0, .int .i64 0] 101) := ⟨_, rfl⟩;have hC2 : Chg (fun _ => False) w w2 := by rw [hw2]; exact ((Chg.refl _ w).alloc _).alloc _
 have hb2 : w2.heap[w.heap.size + 1]? = some (.cells #[.slice none 0 0, .bool false, .int .i64 0, .int .i64 0] 101 (0, 0)) := by rw [hw2]; exact heap_alloc2_new _ _ _
 have hb0 : w2.heap[w.heap.size]? = some (.cells #[.int .i64 kd, .int .i64 a, .int .i64 b, .slice xc xn xm] 33 (0, 0)) := by rw [hw2]; exact heap_alloc2_old _ _ _
 have hOf := of_g (hR.still hC2) a;rw [hS.of] at hOf;have HOf := Lib.hid hOf;have HC2 := Lib.hid hC2;have HB2 := Lib.hid hb2;have q1 := cellAt hb0 1;have hsz : w2.heap.size = w.heap.size + 2 := by rw [hw2]; simp
 have HSz := Lib.hid hsz;clear hK hR hS hO hG hfs hb2 hb0 hOf hC2 hsz;have HEnd : Hid (∀ (er : Int) (wt : World) (u : Value), I.bounds a = .inl er → ToldAt w2.heap.size wt u [0, er] → Chg (fun _ => False) w2 wt →
  ∃ na nn nc, u = .agg #[.slice na nn nc, .bool false, .int .i64 0, .int .i64 0] ∧ ((∃ u, wt.cell? ⟨w.heap.size + 1, 0, none⟩ = some u) ∧ (∃ u, wt.cell? ⟨w.heap.size + 1, 1, none⟩ = some u) ∧ (∃ u, wt.cell? ⟨w.heap.size + 1, 2, none⟩ = some u) ∧ (∃ u, wt.cell? ⟨w.heap.size + 1, 3, none⟩ = some u)) ∧
  (wt.frozen? ⟨w.heap.size + 1, 0, none⟩ = false ∧ wt.frozen? ⟨w.heap.size + 1, 1, none⟩ = false ∧ wt.frozen? ⟨w.heap.size + 1, 2, none⟩ = false ∧ wt.frozen? ⟨w.heap.size + 1, 3, none⟩ = false) ∧
  Hid (∀ W, W = ((((wt.setCell ⟨w.heap.size + 1, 0, none⟩ (.slice na nn nc)).setCell ⟨w.heap.size + 1, 1, none⟩ (.bool false)).setCell ⟨w.heap.size + 1, 2, none⟩ (.int .i64 0)).setCell ⟨w.heap.size + 1, 3, none⟩ (.int .i64 0)) →
   W.heap[w.heap.size + 1]? = some (.cells #[.slice na nn nc, .bool false, .int .i64 0, .int .i64 0] 101 (0, 0)) ∧ Post K (.returned (.agg #[.slice na nn nc, .bool false, .int .i64 0, .int .i64 0])) W)) := fun er wt u hB hTo hC => by
  have hbt := hC.at HB2.out fun h => h;have hsz := HSz.out;obtain ⟨na, nn, nc, rfl, h1, h2, hZ⟩ := hTo.into hbt (by omega);refine ⟨na, nn, nc, rfl, h1, h2, Lib.hid fun W hW => ?_⟩;obtain ⟨s1, s2, s3⟩ := hZ.out W hW;refine ⟨s1, HK.out _ _ ⟨_, rfl, ?_, (HC2.out.trans hC fun _ _ h => h).trans s3 fun k hk e => by omega⟩⟩;unfold CountQ;rw [hB];exact ⟨_, rfl, s2.low (by omega)⟩
 obtain ⟨bb, hbb⟩ : ∃ bb, bb = w.heap.size + 1 := ⟨_, rfl⟩;have HBB : Hid (w.heap.size ≤ bb ∧ bb < w2.heap.size) := ⟨by omega, by have := HSz.out; omega⟩;rw [← hbb] at HB2 HEnd;cases hl : I.hs.lookup a with
 | none =>
   have hB : I.bounds a = .inl 221 := by unfold IS.bounds; rw [hl]
   have HBd := Lib.hid hB;rw [hl] at HOf;have e0 : (Option.none : Option Int).getD (-1) = -1 := rfl;rw [e0] at HOf;have HTo := Lib.hid (told_nums (w1 := w2) 221 (l := [0]) (by simp) (by simp));clear hl hB
   go_enter Tryz.func90, Tryz.ntmps90
   go_upto_region 1 with fail
   rw [← hw2, ← hbb];generalize w.heap.size = b0 at q1 ⊢;clear hw2 hbb
   go_upto_region 2 with (go_at_call 103; refine HOf.out.mono ?_; rintro e w3 ⟨rfl, rfl⟩)
   go_wp2_with fail
   refine HTo.out.mono ?_; rintro e w7 ⟨u, rfl, hTo, hC7⟩;obtain ⟨na, nn, nc, rfl, ⟨⟨_, u0⟩, ⟨_, u1⟩, ⟨_, u2⟩, ⟨_, u3⟩⟩, ⟨f0, f1, f2, f3⟩, hZ⟩ := HEnd.out 221 w7 u HBd.out hTo hC7;clear hTo hC7 HEnd HTo;go_wp2;obtain ⟨s1, s2⟩ := hZ.out _ rfl;exact bodyPost_ret (results_cell_row rfl _ _ bb 101 _ (0, 0) _ rfl s1 HFs.out rfl zTold) rfl s2
 | some x =>
   obtain ⟨d, hd, hg⟩ := HO.out.held hl;have hx0 := (IS.nd_nat hd).1;have hnode := HS.out.nodeAt hd;rw [hl] at HOf;have e0 : (Option.some x : Option Int).getD (-1) = x := rfl;rw [e0] at HOf;obtain ⟨q, rfl⟩ : ∃ q : Nat, x = q := ⟨x.toNat, (Int.toNat_of_nonneg hx0).symm⟩;rw [Int.toNat_natCast] at hnode;have hqn : (q : Int) < (G.nodes.length : Int) := by have := (List.getElem?_eq_some_iff.1 hnode).1; omega
   have hq0 : ¬ ((q : Int) < 0) := by omega
   obtain ⟨lab, v, hGr⟩ := HR.out.still HC2.out;obtain ⟨an, cn, _, c2, hcn⟩ := hGr.nodesC;obtain ⟨bn, rfl, n0, _⟩ := hcn q _ hnode;have n0' : w2.cell? ⟨bn, q * 4, none⟩ = some (.bool d.table) := n0;obtain ⟨n, hn⟩ : ∃ n, n = G.nodes.length := ⟨_, rfl⟩;have HN : Hid (n = G.nodes.length ∧ n ≤ 9000) := ⟨hn, by rw [hn]; exact HG.out.few.1⟩;rw [← hn] at c2 hqn;cases ht : d.table with
   | false =>
     have hB : I.bounds a = .inl 223 := by unfold IS.bounds; rw [hl]; simp only [hd, ht, Bool.false_eq_true, if_false]
     have HBd := Lib.hid hB;rw [ht] at n0';have HTo := Lib.hid (told_nums (w1 := w2) 223 (l := [0]) (by simp) (by simp));clear hl hB ht hd hg hx0 hnode hGr hcn n0 hn e0
     go_enter Tryz.func90, Tryz.ntmps90
     go_upto_region 1 with fail
     rw [← hw2, ← hbb];generalize w.heap.size = b0 at q1 ⊢;clear hw2 hbb
     go_upto_region 2 with (go_at_call 103; refine HOf.out.mono ?_; rintro e w3 ⟨rfl, rfl⟩)
     go_wp2_with fail
     refine HTo.out.mono ?_; rintro e w7 ⟨u, rfl, hTo, hC7⟩;obtain ⟨na, nn, nc, rfl, ⟨⟨_, u0⟩, ⟨_, u1⟩, ⟨_, u2⟩, ⟨_, u3⟩⟩, ⟨f0, f1, f2, f3⟩, hZ⟩ := HEnd.out 223 w7 u HBd.out hTo hC7;clear hTo hC7 HEnd HTo n0' c2;go_wp2;obtain ⟨s1, s2⟩ := hZ.out _ rfl;exact bodyPost_ret (results_cell_row rfl _ _ bb 101 _ (0, 0) _ rfl s1 HFs.out rfl zTold) rfl s2
   | true =>
     have hB : I.bounds a = .inr ((d.ents.filter fun e => I.live e.key).length, (d.ents.filter fun e => I.here e.key).length) := by unfold IS.bounds; rw [hl]; simp only [hd, ht, if_true]
     have HBd := Lib.hid hB;rw [ht] at n0';have HKp := Lib.hid (kept_g (HR.out.still HC2.out) HG.out);rw [← hn] at HKp;have HCn := Lib.hid (HS.out.cnt HO.out hd hg (f := fun j => dec (SReach G.links G.keptP (j : Int))) fun j => HS.out.keptM HO.out j);obtain ⟨len, hlen⟩ : ∃ len, len = G.links.length := ⟨_, rfl⟩;have HLen : Hid (len = G.links.length ∧ len ≤ 1000000) := ⟨hlen, by rw [hlen]; exact HG.out.few.2.2.2.2⟩;have HC3 : Hid (∀ wx, Chg (fun _ => False) w2 wx → ∃ al cl, wx.cell? ⟨pb, 3, none⟩ = some (.slice al len cl) ∧ ∀ i y, G.links[i]? = some y → ∃ b, al = some ⟨b, 0, none⟩ ∧ wx.cell? ⟨b, i * 5 + 2, none⟩ = some (.int .i64 y.key)) := fun wx hC => by
      obtain ⟨lab', v', hG'⟩ := (HR.out.still HC2.out).still hC;obtain ⟨al, cl, _, _, c3, hcl⟩ := hG'.links;refine ⟨al, cl, by rw [hlen]; exact c3, fun i y hy => ?_⟩;obtain ⟨b, e1, _, _, e2, _⟩ := hcl i y hy;exact ⟨b, e1, e2⟩
     have HEn : Hid (∀ wx, Chg (fun _ => False) w2 wx → Calls Tryz.prog 120 #[.pointer (some ⟨pb, 1, none⟩), .int .i64 q] wx fun e w' => ∃ v, e = .returned v ∧ IRow w' wx.heap.size v (G.entIdx q len) ∧ Chg (fun _ => False) wx w') := fun wx hC => by
      have := entries_g ((HR.out.still HC2.out).still hC) (by rw [← hlen]; exact HLen.out.2) (q : Int);rw [← hlen] at this;exact this
     clear hl hB ht hd hg hx0 hnode hGr hcn n0 hn e0 hlen HEnd
     go_enter Tryz.func90, Tryz.ntmps90
     go_upto_region 1 with fail
     rw [← hw2, ← hbb];generalize w.heap.size = b0 at q1 ⊢;clear hw2 hbb
     go_upto_region 2 with (go_at_call 103; refine HOf.out.mono ?_; rintro e w3 ⟨rfl, rfl⟩)
     go_upto_region 7 with (go_at_call 54; refine HKp.out.mono ?_; rintro e w4 ⟨sb, rfl, hsb, hM, hC4⟩)
     have HM := Lib.hid hM;have HC4 := Lib.hid hC4;have hEn4 := HEn.out w4 hC4;clear hsb hM hC4 HKp HOf n0' c2 q1 hqn HEn
     go_upto_region 8 with (go_at_call 120; refine hEn4.mono ?_; rintro e w5 ⟨ve, rfl, hI5, hC5⟩)
     obtain ⟨ua, uc, rfl, _, _, _⟩ := hI5.row.slice;have HRow := Lib.hid hI5.row;have HC5 := Lib.hid hC5;obtain ⟨ln, hln⟩ : ∃ ln, ln = (G.entIdx (q : Int) len).length := ⟨_, rfl⟩;have HLn : Hid (ln = (G.entIdx (q : Int) len).length ∧ ln ≤ 1000000) := ⟨hln, by rw [hln]; exact Nat.le_trans (entIdx_len _ _ _) HLen.out.2⟩;rw [← hln];have HM5 := Lib.hid (HM.out.same (hC5.block sb HM.out.lt fun h => h));have HC25 := Lib.hid (HC4.out.trans hC5 fun _ _ h => h);obtain ⟨EL, hEL⟩ : ∃ EL, EL = G.links.filter (isEn (q : Int)) := ⟨_, rfl⟩;have HEL := Lib.hid hEL;clear hI5 hC5 hEn4 hln HM hEL;go_wp2
     go_loopw [8, 9] (fun c k wx => ∃ i : Nat, i ≤ ln ∧ k = .int .i64 i ∧ c = .int .i64 (cntE EL (fun j => dec (SReach G.links G.keptP (j : Int))) i) ∧ Hid (Chg (fun _ => False) w5 wx)) (fun _ k _ => ln - (intOf k).toNat)
     case atStart => exact ⟨0, by omega, rfl, by simp [cntE], Lib.hid (Chg.refl _ _)⟩
     case round =>
      obtain ⟨i, hi, rfl, rfl, HCr⟩ := hrel;by_cases hlt : i < ln
      · have hlt' : (i : Int) < (ln : Int) := by omega
        have hwi : IntKind.i64.wrap ((i : Int) + 1) = (i : Int) + 1 := IntWalk.i64_in _ (by have := HLn.out.2; omega);obtain ⟨j, y, hj, hjn, hy, hye⟩ := entIdx_at (G := G) (node := (q : Int)) (i := i) (by rw [← HLen.out.1, ← HLn.out.1]; exact hlt);rw [← HLen.out.1] at hj hjn;rw [← HEL.out] at hye;obtain ⟨al, cl, c3, hcl⟩ := HC3.out wr (HC25.out.trans HCr.out fun _ _ h => h);obtain ⟨bl, rfl, k2⟩ := hcl j y hy;have hjl : (j : Int) < (len : Int) := by omega
        obtain ⟨ub, e1, _, hcu⟩ := HRow.out.cells (by rw [← HLn.out.1]; omega);subst e1;have u0 := hcu i (.int .i64 j) (by
         have h1 : i < (G.entIdx (q : Int) len).length := by rw [← HLn.out.1]; exact hlt
         have h2 : (G.entIdx (q : Int) len)[i]? = some (j : Int) := by rw [← hj, List.getD_eq_getElem?_getD, List.getElem?_eq_getElem h1]; rfl
         unfold intCells;rw [List.getElem?_map, h2]; rfl)
        have u0r := cell_chg HCr.out u0 fun h => h;have hyk : 0 ≤ y.key ∧ y.key < n := by
         have hm := List.mem_of_getElem? hye;rw [HEL.out] at hm;have h0 : 0 ≤ y.key := by
          have := (List.mem_filter.1 hm).2;unfold isEn at this;simp only [Bool.and_eq_true, decide_eq_true_eq] at this;exact this.2
         have := (HG.out.in_ y (List.mem_filter.1 hm).1).2.1;rw [HN.out.1]; omega
        have hnx := cntE_next (f := fun j => dec (SReach G.links G.keptP (j : Int))) hye;have hcle := cntE_le EL (fun j => dec (SReach G.links G.keptP (j : Int))) i;obtain ⟨yf, ys, yk, yr, yn⟩ := y;simp only at k2 hyk hnx;obtain ⟨kq, rfl⟩ : ∃ kq : Nat, yk = kq := ⟨yk.toNat, (Int.toNat_of_nonneg hyk.1).symm⟩;have hkn : kq < n := by omega
        have hkn' : (kq : Int) < (n : Int) := by omega
        have m4 := (HM5.out.same (HCr.out.block sb HM5.out.lt fun h => h)).cell hkn;rw [Int.toNat_natCast] at hnx;generalize cntE EL (fun j => dec (SReach G.links G.keptP (j : Int))) i = c0 at *;generalize dec (SReach G.links G.keptP (kq : Int)) = z at *;have hwc : IntKind.i64.wrap ((c0 : Int) + 1) = (c0 : Int) + 1 := IntWalk.i64_in _ (by have := HLn.out.2; omega);have HNx := Lib.hid hnx;clear hcl u0 hcu hj hy hye hyk hlt hjn hkn hnx hcle
        go_upto_region 12 with fail
        cases z with
        | true =>
          go_cut [53] from 40 to 53 (fun s53 wx => s53 = .bool true ∧ Hid (Chg (fun _ => False) wr wx))
          case first =>
           go_quiet (fail)
           all_goals (go_wp2; go_meet; exact ⟨by first | rfl | simp, Lib.hid (by first | exact Chg.refl _ _ | exact (Chg.refl _ _).drewN _ | exact (Chg.refl _ _).drew)⟩)
          case rest =>
           obtain ⟨rfl, HCx⟩ := hcut;clear c3 k2 u0r m4;go_wp2
           go_roundw
           case rel => exact ⟨i + 1, by omega, by go_num, by rw [HNx.out]; go_num, Lib.hid (HCr.out.trans HCx.out fun _ _ h => h)⟩
           case measure => simp [intOf]; omega
        | false =>
          go_cut [53] from 40 to 53 (fun s53 wx => s53 = .bool false ∧ Hid (Chg (fun _ => False) wr wx))
          case first =>
           go_quiet (fail)
           all_goals (go_wp2; go_meet; exact ⟨by first | rfl | simp, Lib.hid (by first | exact Chg.refl _ _ | exact (Chg.refl _ _).drewN _ | exact (Chg.refl _ _).drew)⟩)
          case rest =>
           obtain ⟨rfl, HCx⟩ := hcut;clear c3 k2 u0r m4;go_wp2
           go_roundw
           case rel => exact ⟨i + 1, by omega, by go_num, by rw [HNx.out]; rfl, Lib.hid (HCr.out.trans HCx.out fun _ _ h => h)⟩
           case measure => simp [intOf]; omega
      · obtain rfl : i = ln := by omega
        have hi' : (i : Int) = ((d.ents.filter fun e => I.here e.key).length : Nat) := by
         rw [← HCn.out.2, HLn.out.1, HLen.out.1, entIdx_length]
        have hc' : cntE EL (fun j => dec (SReach G.links G.keptP (j : Int))) i = (d.ents.filter fun e => I.live e.key).length := by
         rw [← HCn.out.1, HEL.out, ← entIdx_length, ← HLen.out.1, ← HLn.out.1]
        have hb6 := (HC25.out.trans HCr.out fun _ _ h => h).at HB2.out fun h => h;have u0 := cellAt hb6 0;have u1 := cellAt hb6 1;have u2 := cellAt hb6 2;have u3 := cellAt hb6 3;have f0 := freeAt hb6 0;have f1 := freeAt hb6 1;have f2 := freeAt hb6 2;have f3 := freeAt hb6 3;obtain ⟨s1, s2⟩ := store4 hb6 (.slice none 0 0) (.bool true) (.int .i64 (cntE EL (fun j => dec (SReach G.links G.keptP (j : Int))) i)) (.int .i64 i);have HS1 := Lib.hid s1
        have HZ : Hid (Post K (.returned (.agg #[.slice none 0 0, .bool true, .int .i64 (cntE EL (fun j => dec (SReach G.links G.keptP (j : Int))) i), .int .i64 i])) ((((wr.setCell ⟨bb, 0, none⟩ (.slice none 0 0)).setCell ⟨bb, 1, none⟩ (.bool true)).setCell ⟨bb, 2, none⟩ (.int .i64 (cntE EL (fun j => dec (SReach G.links G.keptP (j : Int))) i))).setCell ⟨bb, 3, none⟩ (.int .i64 i))) := by
         refine HK.out _ _ ⟨_, rfl, ?_, ((HC2.out.trans HC25.out fun _ _ h => h).trans HCr.out fun _ _ h => h).trans s2 fun k hk e => by have := HBB.out; omega⟩;unfold CountQ;rw [HBd.out, hc', hi']
        clear s1 s2 hb6 hi' hc' HK;generalize cntE EL (fun j => dec (SReach G.links G.keptP (j : Int))) i = c0 at *;go_wp2;exact bodyPost_ret (results_cell_row rfl _ _ bb 101 _ (0, 0) _ rfl HS1.out HFs.out rfl zTold) rfl HZ.out
noncomputable def IS.sure (I : IS) (a : Int) : Bool := match I.bounds a with
 | .inl _ => true
 | .inr (lo, hi) => decide (lo = hi)
theorem sure_g {w : World} (hR : GRep w pb hb Lg G) (hS : GSim G I) (hO : IOk I) (hG : GOk G) (a : Int) (hmany : ∀ lo hi, I.bounds a = .inr (lo, hi) → G.roots.length + 2 * hi ≤ 20000) :
 Calls Tryz.prog 49 #[.pointer (some ⟨pb, 1, none⟩), .int .i64 a] w fun e w' => e = .returned (.bool (I.sure a)) ∧ Chg (fun _ => False) w w' := by
 refine ret_k fun K hK => ?_;have HK := Lib.hid hK;have hCt := counted_g hR hS hO hG 0 a 0 none 0 0;have HR := Lib.hid hR;clear hK hR;cases hB : I.bounds a with
 | inl er =>
   have hs : I.sure a = true := by unfold IS.sure; rw [hB]
   rw [hs] at HK;have HCt : Hid (Calls Tryz.prog 90 #[.pointer (some ⟨pb, 1, none⟩), .agg #[.int .i64 0, .int .i64 a, .int .i64 0, .slice none 0 0]] w fun e w' => ∃ na nn nc, e = .returned (.agg #[.slice na nn nc, .bool false, .int .i64 0, .int .i64 0]) ∧ Chg (fun _ => False) w w') := by
    refine hCt.mono ?_;rintro e w' ⟨u, rfl, hQ, hC⟩;unfold CountQ at hQ;rw [hB] at hQ;obtain ⟨nv, rfl, hI⟩ := hQ;obtain ⟨na, nc, rfl, _⟩ := hI.row.slice;exact ⟨_, _, _, rfl, hC⟩
   clear hCt hmany hs hB hS hO hG HR
   go_enter Tryz.func49, Tryz.ntmps49
   go_upto_region 2 with (go_at_call 90; refine HCt.out.mono ?_; rintro e w1 ⟨na, nn, nc, rfl, hC1⟩)
   have HZ : Hid (∀ k, Post K (.returned (.bool true)) ((w1.alloc (.cells #[.slice na nn nc, .bool false, .int .i64 0, .int .i64 0] 101)).drewN k)) := fun k => HK.out _ _ ⟨rfl, (hC1.alloc _).drewN k⟩;clear HK HCt hC1
   go_quiet (fail)
   all_goals
    go_wp2;go_ret;exact HZ.out _
 | inr p =>
   obtain ⟨lo, hi⟩ := p;have hs : I.sure a = decide (lo = hi) := by unfold IS.sure; rw [hB]
   rw [hs] at HK;have hm := hmany lo hi hB;have HCt : Hid (Calls Tryz.prog 90 #[.pointer (some ⟨pb, 1, none⟩), .agg #[.int .i64 0, .int .i64 a, .int .i64 0, .slice none 0 0]] w fun e w' => e = .returned (.agg #[.slice none 0 0, .bool true, .int .i64 lo, .int .i64 hi]) ∧ Chg (fun _ => False) w w') := by
    refine hCt.mono ?_;rintro e w' ⟨u, rfl, hQ, hC⟩;unfold CountQ at hQ;rw [hB] at hQ;exact ⟨by rw [hQ], hC⟩
   have HC4 : Hid (∀ wx, Chg (fun _ => False) w wx → ∃ al cl, wx.cell? ⟨pb, 4, none⟩ = some (.slice al G.roots.length cl)) := fun wx hC => by
    obtain ⟨lab, v, hG'⟩ := HR.out.still hC;obtain ⟨al, cl, _, _, c4, _⟩ := hG'.roots;exact ⟨al, cl, c4⟩
   clear hCt hmany hs hB hS hO hG HR;generalize G.roots.length = nr at *;by_cases e : lo = hi
   · subst e;have e1 : decide (lo = lo) = true := by simp
     rw [e1] at HK;clear e1
     go_enter Tryz.func49, Tryz.ntmps49
     go_upto_region 2 with (go_at_call 90; refine HCt.out.mono ?_; rintro e w1 ⟨rfl, hC1⟩)
     have HZ : Hid (∀ k, Post K (.returned (.bool true)) ((w1.alloc (.cells #[.slice none 0 0, .bool true, .int .i64 lo, .int .i64 lo] 101)).drewN k)) := fun k => HK.out _ _ ⟨rfl, (hC1.alloc _).drewN k⟩;obtain ⟨al, cl, c4⟩ := HC4.out _ (hC1.alloc (.cells #[.slice none 0 0, .bool true, .int .i64 lo, .int .i64 lo] 101));have hw1 : IntKind.i64.wrap (2 * (lo : Int)) = 2 * (lo : Int) := IntWalk.i64_in _ (by omega);have hw2 : IntKind.i64.wrap ((nr : Int) + 2 * (lo : Int)) = (nr : Int) + 2 * (lo : Int) := IntWalk.i64_in _ (by omega);have hle : (nr : Int) + 2 * (lo : Int) ≤ 20000 := by omega
     have hle2 : decide ((nr : Int) + 2 * (lo : Int) ≤ 20000) = true := decide_eq_true hle;clear HK HCt hC1 HC4
     go_quiet (fail)
     all_goals
      go_wp2;go_ret;exact HZ.out _
   · have e1 : decide (lo = hi) = false := decide_eq_false e;rw [e1] at HK;have e2 : decide ((lo : Int) = (hi : Int)) = false := decide_eq_false (by omega);have e3 : ((lo : Int) == (hi : Int)) = false := beq_eq_false_iff_ne.2 (by omega);clear e1
     go_enter Tryz.func49, Tryz.ntmps49
     go_upto_region 2 with (go_at_call 90; refine HCt.out.mono ?_; rintro e w1 ⟨rfl, hC1⟩)
     have HZ : Hid (∀ k, Post K (.returned (.bool false)) ((w1.alloc (.cells #[.slice none 0 0, .bool true, .int .i64 lo, .int .i64 hi] 101)).drewN k)) := fun k => HK.out _ _ ⟨rfl, (hC1.alloc _).drewN k⟩;clear HK HCt hC1 HC4
     go_quiet (fail)
     all_goals
      go_wp2;go_ret;exact HZ.out _
noncomputable def IS.list1 (r : List En × IS) (x : En) : List En × IS :=
 if x.val.ref then (r.1 ++ [⟨r.2.fresh, ⟨true, (r.2.grant x.key).fresh⟩⟩], (r.2.grant x.key).grant x.val.num) else (r.1 ++ [⟨r.2.fresh, ⟨false, x.val.num⟩⟩], r.2.grant x.key)
noncomputable def IS.listE (I : IS) (l : List En) : List En × IS := l.foldl IS.list1 ([], I)
theorem IS.listE_snoc (I : IS) (l : List En) (x : En) : I.listE (l ++ [x]) = IS.list1 (I.listE l) x := by unfold IS.listE; rw [List.foldl_append]; rfl
noncomputable def IS.listOf (I : IS) (a : Int) : List Int × IS := match I.hs.lookup a with
 | none => ([221], I)
 | some x => match I.nd x with
   | none => ([0], I)
   | some d => if d.table then (flatE (I.listE (d.ents.filter fun e => I.here e.key)).1 ++ [0], (I.listE (d.ents.filter fun e => I.here e.key)).2) else ([223], I)
theorem snoc_ind {α : Type} {M : List α → Prop} (h0 : M []) (h1 : ∀ l x, M l → M (l ++ [x])) (l : List α) : M l := by
 have h : ∀ r : List α, M r.reverse := fun r => by
  induction r with
  | nil => exact h0
  | cons x r ih => rw [List.reverse_cons]; exact h1 _ _ ih
 have h2 := h l.reverse
 rwa [List.reverse_reverse] at h2
structure Lst (I J : IS) (n : Nat) (out : List En) : Prop where
 nodes : J.nodes = I.nodes
 room : J.room = I.room
 queue : J.queue = I.queue
 reg : J.reg = I.reg
 hs : J.hs.length ≤ I.hs.length + 2 * n
 out : out.length = n
theorem IS.listE_lst (I : IS) (l : List En) : Lst I (I.listE l).2 l.length (I.listE l).1 := by
 refine snoc_ind (M := fun l => Lst I (I.listE l).2 l.length (I.listE l).1) ?_ (fun l x ih => ?_) l
 · exact ⟨rfl, rfl, rfl, rfl, by simp [IS.listE], rfl⟩
 · obtain ⟨h1, h2, h3, h4, h5, h6⟩ := ih;rw [IS.listE_snoc, List.length_append, List.length_singleton];unfold IS.list1
   split
   · refine ⟨h1, h2, h3, h4, ?_, by simp [h6]⟩;show (((I.listE l).2.hs ++ [_]) ++ [_]).length ≤ _;simp only [List.length_append, List.length_singleton]; omega
   · refine ⟨h1, h2, h3, h4, ?_, by simp [h6]⟩;show ((I.listE l).2.hs ++ [_]).length ≤ _;simp only [List.length_append, List.length_singleton]; omega
theorem HS.listedIs {A' : St} {out : List En} (hL : Listed A l out A') : ∀ {I : IS} {m : Nat}, HS A I m → (∀ x ∈ l, (A.objs.lookup x.key).isSome ∧ (x.val.ref = true → (A.objs.lookup x.val.num).isSome)) → I.queue.length + I.hs.length + I.reg.length + 2 * l.length ≤ 9000 →
 out = (I.listE l).1 ∧ HS A' (I.listE l).2 m := by
 induction hL with
 | nil => exact fun {I m} h _ _ => ⟨rfl, h⟩
 | @num l out A1 A2 x q hL hG hr ih =>
   intro I m h hp hb;rw [List.length_append, List.length_singleton] at hb;obtain ⟨rfl, h1⟩ := ih h (fun y hy => hp y (List.mem_append_left _ hy)) (by omega);have hS := I.listE_lst l;have hob := hL.keeps.1;obtain ⟨rfl, h2⟩ := h1.grant hG (by rw [hob]; exact (hp x (by simp)).1) (by rw [hS.queue, hS.reg]; have := hS.hs; omega);rw [IS.listE_snoc];unfold IS.list1;rw [hr];exact ⟨rfl, h2⟩
 | @ref l out A1 A2 A3 x q r hL hG hG2 hr ih =>
   intro I m h hp hb;rw [List.length_append, List.length_singleton] at hb;obtain ⟨rfl, h1⟩ := ih h (fun y hy => hp y (List.mem_append_left _ hy)) (by omega);have hS := I.listE_lst l;have hob := hL.keeps.1;have hhs := hS.hs;obtain ⟨rfl, h2⟩ := h1.grant hG (by rw [hob]; exact (hp x (by simp)).1) (by rw [hS.queue, hS.reg]; omega);obtain ⟨F, nx, eA⟩ := hG.eq;have hob2 : A2.objs = A1.objs := by rw [eA]
   obtain ⟨rfl, h3⟩ := h2.grant hG2 (by rw [hob2, hob]; exact (hp x (by simp)).2 hr) (by
    show (I.listE l).2.queue.length + ((I.listE l).2.hs ++ [_]).length + (I.listE l).2.reg.length + 1 ≤ 9000;rw [hS.queue, hS.reg]; simp only [List.length_append, List.length_singleton]; omega)
   rw [IS.listE_snoc];unfold IS.list1;rw [hr];exact ⟨rfl, h3⟩
theorem filter_len_eq {α : Type} {p q : α → Bool} : ∀ {l : List α}, (∀ x ∈ l, p x = true → q x = true) → (l.filter p).length = (l.filter q).length → ∀ x ∈ l, q x = true → p x = true
 | [], _, _, _, h, _ => by cases h
 | y :: l, hpq, hl, x, hx, hq => by
   have hpq' : ∀ x ∈ l, p x = true → q x = true := fun x hx => hpq x (List.mem_cons_of_mem _ hx);have hle := filter_length_le (p := p) (q := q) (l := l) hpq';have hy := hpq y (List.mem_cons_self ..);rw [List.filter_cons, List.filter_cons] at hl;cases hp : p y with
   | true =>
     rw [hp, hy hp] at hl;simp only [if_true, List.length_cons] at hl;rcases List.mem_cons.1 hx with rfl | hx
     · exact hp
     · exact filter_len_eq hpq' (by omega) x hx hq
   | false =>
     rw [hp] at hl;cases hqy : q y with
     | true =>
       rw [hqy] at hl;simp only [if_true, Bool.false_eq_true, if_false, List.length_cons] at hl;omega
     | false =>
       rw [hqy] at hl;simp only [Bool.false_eq_true, if_false] at hl;rcases List.mem_cons.1 hx with rfl | hx
       · rw [hqy] at hq; cases hq
       · exact filter_len_eq hpq' hl x hx hq
theorem Sim.here (h : Sim A I) {n : Int} (hn : (A.objs.lookup n).isSome = true) : I.here n = true := by
 obtain ⟨o, ho⟩ := Option.isSome_iff_exists.1 hn;obtain ⟨d, h1, _, _, _, _, h6⟩ := h.obj n o ho;unfold IS.here;rw [h1]; simp [h6]
theorem HP.entriesIs {w : World} {L : List Nat} {m : Nat} (h : HP w hb L I m) (t : Int) (hs : I.sure t = true) (hl : I.queue.length + I.hs.length + I.reg.length ≤ 8000) (he : ∀ n d, I.nd n = some d → d.ents.length ≤ 300) :
 Calls Tryz.prog 41 #[.pointer (some ⟨hb, 0, none⟩), .int .i64 t] w fun e w' => ∃ v er out, e = .returned (.tuple #[v, .int .i64 er]) ∧ Hid (Got w hb L (I.listOf t).2 m w') ∧ Hid (Row w' 84 3 v out.length (enCells out) ∧ out.length ≤ 1000) ∧ flatE out ++ [er] = (I.listOf t).1 := by
 obtain ⟨g, A, h1, h2, rfl, h4⟩ := h;have hents : ∀ name o, A.objs.lookup name = some o → o.ents.length ≤ 300 := fun name o ho => by
  obtain ⟨d, g1, _, _, _, g5, _⟩ := h2.sim.obj _ _ ho;have := he _ _ g1;have h6 : o.ents.length ≤ d.ents.length := by rw [g5]; exact List.length_filter_le _ _
  omega
 refine (entries_any h1 h2.good t fun name o ho => ?_).mono ?_
 · have := hents name o ho;rw [h2.sim.hs]; omega
 · rintro e w' ⟨v, er, rfl, out, A', g', hE, hR', hStep, hrow, hown⟩;cases hE with
   | none hl0 =>
     have e0 : I.listOf t = ([221], I) := by unfold IS.listOf; rw [← h2.sim.hs, hl0]
     rw [e0];exact ⟨v, _, [], rfl, Lib.hid (.of h4 hR' hStep h2), Lib.hid ⟨hrow, by simp⟩, rfl⟩
   | kind hl0 ho ht =>
     obtain ⟨d, g1, g2, _⟩ := h2.sim.obj _ _ ho;have e0 : I.listOf t = ([223], I) := by unfold IS.listOf; rw [← h2.sim.hs, hl0]; simp only [g1]; rw [if_neg (by rw [← g2, ht]; simp)]
     rw [e0];exact ⟨v, _, [], rfl, Lib.hid (.of h4 hR' hStep h2), Lib.hid ⟨hrow, by simp⟩, rfl⟩
   | ok hl0 ho ht hL =>
     obtain ⟨d, g1, g2, _, _, g5, _⟩ := h2.sim.obj _ _ ho;have htd : d.table = true := by rw [← g2]; exact ht
     have hlen := hents _ _ ho;have hB : I.bounds t = .inr ((d.ents.filter fun e => I.live e.key).length, (d.ents.filter fun e => I.here e.key).length) := by unfold IS.bounds; rw [← h2.sim.hs, hl0]; simp only [g1, htd, if_true]
     have hlohi : (d.ents.filter fun e => I.live e.key).length = (d.ents.filter fun e => I.here e.key).length := by
      unfold IS.sure at hs;rw [hB] at hs;simpa using hs
     have hlive : ∀ x ∈ d.ents, I.live x.key = true → I.here x.key = true := fun x _ hx => h2.sim.here (h2.sim.keep _ (IS.live_iff.1 hx));have hall := filter_len_eq hlive hlohi;have hoe : _ = d.ents.filter fun e => I.here e.key := g5.trans (List.filter_congr fun x hx => by
      cases hh : I.here x.key with
      | true => exact h2.sim.keep _ (IS.live_iff.1 (hall x hx hh))
      | false =>
        cases ho : (A.objs.lookup x.key).isSome with
        | false => rfl
        | true => rw [h2.sim.here ho] at hh; cases hh)
     obtain ⟨rfl, h3⟩ := h2.listedIs hL (fun x hx => ⟨h2.good.wf.closed _ _ ho _ (mem_refs.2 (.inr ⟨x, hx, .inl rfl⟩)), fun hr => h2.good.wf.closed _ _ ho _ (mem_refs.2 (.inr ⟨x, hx, .inr ⟨hr, rfl⟩⟩))⟩) (by omega);rw [hoe] at h3 hrow hL;have e0 : I.listOf t = (flatE (I.listE (d.ents.filter fun e => I.here e.key)).1 ++ [0], (I.listE (d.ents.filter fun e => I.here e.key)).2) := by unfold IS.listOf; rw [← h2.sim.hs, hl0]; simp only [g1, htd, if_true]
     rw [e0];have hlst := (I.listE_lst (d.ents.filter fun e => I.here e.key)).out;refine ⟨v, _, _, rfl, Lib.hid (.of h4 hR' hStep h3), Lib.hid ⟨hrow, ?_⟩, rfl⟩;rw [hlst];have := List.length_filter_le (fun e : En => I.here e.key) d.ents;have := he _ _ g1;omega
def ToldW (B : Nat) (w' : World) (u : Value) (l : List Int) : Prop := ∃ nv, u = .agg #[nv, .bool false, .int .i64 0, .int .i64 0] ∧ QRow w' nv l ∧ ∀ b, rowBlk nv = some b → B ≤ b
def DoW (w : World) (pb hb : Nat) (Lg : List Nat) (G : GS) (I' : IS) (l : List Int) (u : Value) (w' : World) : Prop :=
 ToldW w.heap.size w' u l ∧ ∃ G', GGot w pb hb Lg G' w' ∧ GSim G' I' ∧ G'.links.length ≤ G.links.length + 200
theorem DoQ.w {w : World} {pb hb : Nat} {Lg : List Nat} {G : GS} {I' : IS} {l : List Int} {u : Value} {w' : World} (h : DoQ w pb hb Lg G I' l u w') : DoW w pb hb Lg G I' l u w' := by
 obtain ⟨⟨nv, rfl, hI⟩, h2⟩ := h;exact ⟨⟨nv, rfl, hI.row.q, hI.new⟩, h2⟩
structure LsG (w5 W : World) (pb hb : Nat) (Lg : List Nat) (G : GS) (J : IS) (P : Nat → Prop) : Prop where
 ex : ∃ Li Gi, GRep W pb hb Li Gi ∧ (∀ b ∈ Li, b ∈ Lg ∨ w5.heap.size ≤ b) ∧ GSim Gi J ∧ Gi.links = G.links ∧ ∀ b ∈ Li, ¬ P b
 chg : Chg (fun b => b ∈ Lg) w5 W
 new : ∀ b, P b → w5.heap.size ≤ b
theorem LsG.turn {P P' : Nat → Prop} (h : LsG w5 W pb hb Lg G J P) (hC : Chg P W W') (hP : ∀ b, P' b → P b ∨ W.heap.size ≤ b) : LsG w5 W' pb hb Lg G J P' := by
 obtain ⟨Li, Gi, h1, h2, h3, h4, h5⟩ := h.ex;refine ⟨⟨Li, Gi, h1.frame hC h5, h2, h3, h4, fun b hb hp => ?_⟩, h.chg.trans hC fun b hb hp => by have := h.new b hp; omega, fun b hp => ?_⟩
 · rcases hP b hp with h6 | h6
   · exact h5 b hb h6
   · have := h1.lgs b hb; omega
 · rcases hP b hp with h6 | h6
   · exact h.new b h6
   · have := h.chg.size; omega
theorem LsG.still {P : Nat → Prop} (h : LsG w5 W pb hb Lg G J P) (hC : Chg (fun _ => False) W W') : LsG w5 W' pb hb Lg G J P := h.turn (hC.mono fun _ _ h => h.elim) fun _ h => .inl h
theorem LsG.got {J' : IS} {P : Nat → Prop} {Li : List Nat} {Gi : GS} (h2 : ∀ b ∈ Li, b ∈ Lg ∨ w5.heap.size ≤ b) (h5 : ∀ b ∈ Li, ¬ P b) (hc : Chg (fun b => b ∈ Lg) w5 W) (hn : ∀ b, P b → w5.heap.size ≤ b)
 (hPW : ∀ b, P b → b < W.heap.size) (hG : GGot W pb hb Li Gi W') (hS : GSim Gi J') (hl : Gi.links = G.links) : LsG w5 W' pb hb Lg G J' P ∧ ∀ b, P b → W'.heap[b]? = W.heap[b]? := by
 refine ⟨⟨⟨_, Gi, hG.rep, fun b hb => ?_, hS, hl, fun b hb hp => ?_⟩, hc.trans hG.chg fun b hb hi => ?_, hn⟩, fun b hp => hG.chg.block b (hPW b hp) fun hi => h5 b hi hp⟩
 · rcases List.mem_append.1 hb with hb | hb
   · exact h2 b hb
   · have := mem_since.1 hb;have := hc.size;exact .inr (by omega)
 · rcases List.mem_append.1 hb with hb | hb
   · exact h5 b hb hp
   · have := mem_since.1 hb;have := hPW b hp;omega
 · exact (h2 b hi).resolve_right (by omega)
theorem LsG.grant {P : Nat → Prop} (h : LsG w5 W pb hb Lg G J P) (hPW : ∀ b, P b → b < W.heap.size) (hl : J.hs.length < 20000) (hN : ∀ p ∈ J.hs, 0 ≤ p.2) (n : Int) :
 Calls Tryz.prog 123 #[.pointer (some ⟨pb, 1, none⟩), .int .i64 n] W fun e W' => e = .returned (.int .i64 J.fresh) ∧ Hid (LsG w5 W' pb hb Lg G (J.grant n) P ∧ (∀ b, P b → W'.heap[b]? = W.heap[b]?) ∧ W.heap.size ≤ W'.heap.size) := by
 obtain ⟨Li, Gi, h1, h2, h3, h4, h5⟩ := h.ex;refine (grant_g h1 (by rw [h3.roots]; exact hl) (by rw [h3.roots]; exact hN) n).mono ?_;rintro e W' ⟨rfl, hG⟩;obtain ⟨k1, k2⟩ := LsG.got h2 h5 h.chg h.new hPW hG (h3.grant n) h4;exact ⟨by rw [h3.fresh], Lib.hid ⟨k1, k2, hG.chg.size⟩⟩
theorem LsG.read {P : Nat → Prop} (h : LsG w5 W pb hb Lg G J P) (hPW : ∀ b, P b → b < W.heap.size) (hl : J.hs.length < 20000) (hN : ∀ p ∈ J.hs, 0 ≤ p.2) (x : Int) (y : En) :
 Calls Tryz.prog 125 #[.pointer (some ⟨pb, 1, none⟩), .agg #[.int .i64 x, .int .i64 (-1), .int .i64 y.key, .bool y.val.ref, .int .i64 y.val.num], .slice none 0 0] W fun e W' => ∃ bn c, e = .returned (.agg #[.slice (some ⟨bn, 0, none⟩) 3 c, .bool false, .int .i64 0, .int .i64 0]) ∧
  W.heap.size ≤ bn ∧ W'.cell? ⟨bn, 0, none⟩ = some (.int .i64 (bitI y.val.ref)) ∧ W'.cell? ⟨bn, 1, none⟩ = some (.int .i64 (if y.val.ref then J.fresh else y.val.num)) ∧
  Hid (LsG w5 W' pb hb Lg G (if y.val.ref then J.grant y.val.num else J) P ∧ (∀ b, P b → W'.heap[b]? = W.heap[b]?) ∧ W.heap.size ≤ W'.heap.size) := by
 obtain ⟨Li, Gi, h1, h2, h3, h4, h5⟩ := h.ex;refine (read_g h1 (by rw [h3.roots]; exact hl) (by rw [h3.roots]; exact hN) (gent x y) (v := .slice none 0 0) (is := []) (Row.nil _ _ _) (fun b hb => by simp [rowBlk] at hb) (by simp)).mono ?_;rintro e W' ⟨u, rfl, ⟨nv, rfl, hI⟩, hG⟩;have hSim : GSim (if (gent x y).ref then Gi.grant (gent x y).num else Gi) (if y.val.ref then J.grant y.val.num else J) := by
  show GSim (if y.val.ref then Gi.grant y.val.num else Gi) (if y.val.ref then J.grant y.val.num else J);cases y.val.ref
  · exact h3
  · exact h3.grant _
 obtain ⟨k1, k2⟩ := LsG.got h2 h5 h.chg h.new hPW hG hSim (by cases (gent x y).ref <;> exact h4);have e3 : ((if (gent x y).ref = true then [1, Gi.fresh] else [0, (gent x y).num]) ++ [] ++ [0] : List Int) = [bitI y.val.ref, if y.val.ref then J.fresh else y.val.num, 0] := by
  rw [← h3.fresh];show ((if y.val.ref = true then [1, Gi.fresh] else [0, y.val.num]) ++ [] ++ [0] : List Int) = _;cases y.val.ref <;> simp [bitI]
 rw [e3] at hI;have hrow := hI.row;obtain ⟨a, c, rfl, _, _, _⟩ := hrow.slice;obtain ⟨bn, rfl, hbn, hc⟩ := hrow.cells (by simp);exact ⟨bn, c, rfl, hI.new bn hbn, hc 0 _ rfl, hc 1 _ rfl, Lib.hid ⟨k1, k2, hG.chg.size⟩⟩
theorem appTwo {w : World} {v : Value} {xs : List Int} (hrow : Row w 3 1 v xs.length (intCells xs)) (x y : Int) (hT : xs.length < 100000) (hW : Chg (fun _ => False) (w.alloc (.cells #[.int .i64 x, .int .i64 y] 3)) W) :
 ∃ a n cap w', (Builtin.append_ #[23, 23] 23 #[v, .slice (some ⟨w.heap.size, 0, none⟩) 2 2]).run Tryz.prog W = .ok (.slice a n cap) w' ∧
   Hid (Row w' 3 1 (.slice a n cap) (xs ++ [x, y]).length (intCells (xs ++ [x, y])) ∧ Chg (fun b => rowBlk v = some b) w w' ∧ (∀ b, rowBlk (.slice a n cap) = some b → rowBlk v = some b ∨ w.heap.size ≤ b)) := by
 have hB := (IRow.block w (l := [x, y]) (by simp) (by simp [maxLen])).row;have hC0 : Chg (fun _ => False) w (w.alloc (.cells #[.int .i64 x, .int .i64 y] 3)) := (Chg.refl _ _).alloc _;have hC := hC0.trans hW fun _ _ h => h;have hB' : Row W 3 1 (.slice (some ⟨w.heap.size, 0, none⟩) 2 2) ([x, y] : List Int).length (intCells [x, y]) := hB.same fun b hb => hW.block b (hB.lt hb) fun h => h;obtain ⟨a, c, w3, h1, h2, h3, h4⟩ := append_rows (hrow.same fun b hb => hC.block b (hrow.lt hb) fun h => h) hB' (by simp; omega);refine ⟨a, _, c, w3, h1, Lib.hid ⟨h2, (hC.mono fun _ _ h => h.elim).trans h3 fun _ _ h => h, fun b hb => ?_⟩⟩;rcases h4 b hb with h5 | h5
 · exact .inl h5
 · exact .inr (by have := hC.size; omega)
theorem IS.listE_num (h : ∀ p ∈ I.hs, 0 ≤ p.2) (hl : ∀ x ∈ l, 0 ≤ x.key ∧ (x.val.ref = true → 0 ≤ x.val.num)) : ∀ p ∈ (I.listE l).2.hs, 0 ≤ p.2 := by
 revert hl
 refine snoc_ind (M := fun l => (∀ x ∈ l, 0 ≤ x.key ∧ (x.val.ref = true → 0 ≤ x.val.num)) → ∀ p ∈ (I.listE l).2.hs, 0 ≤ p.2) ?_ (fun l x ih hl => ?_) l
 · exact fun _ => h
 · have ih' := ih fun y hy => hl y (List.mem_append_left _ hy);obtain ⟨h1, h2⟩ := hl x (by simp);rw [IS.listE_snoc];unfold IS.list1
   split
   · rename_i hr
     intro p hp;have hp' : p ∈ ((I.listE l).2.hs ++ [((I.listE l).2.fresh, x.key)]) ++ [(((I.listE l).2.grant x.key).fresh, x.val.num)] := hp;simp only [List.mem_append, List.mem_singleton] at hp';rcases hp' with (hp' | rfl) | rfl
     · exact ih' p hp'
     · exact h1
     · exact h2 hr
   · intro p hp;have hp' : p ∈ (I.listE l).2.hs ++ [((I.listE l).2.fresh, x.key)] := hp;simp only [List.mem_append, List.mem_singleton] at hp';rcases hp' with hp' | rfl
     · exact ih' p hp'
     · exact h1
theorem flatE_list1 (I : IS) (l : List En) (x : En) : flatE (I.listE (l ++ [x])).1 = flatE (I.listE l).1 ++ [(I.listE l).2.fresh] ++ [bitI x.val.ref, if x.val.ref then ((I.listE l).2.grant x.key).fresh else x.val.num] ∧ (I.listE (l ++ [x])).2 = if x.val.ref then ((I.listE l).2.grant x.key).grant x.val.num else (I.listE l).2.grant x.key := by
 rw [IS.listE_snoc];unfold IS.list1;cases x.val.ref <;> simp [flatE, bitI]
end Go.Proofs.YtelghmmcbgfjnaaGreat
