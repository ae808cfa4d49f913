/-
  entered of the reference's graph. (A part of the proof, joined of: Sl, Sm, Sn; made smaller.)
-/
import Derived.Test.YtelghmmcbgfjnaaGreatH28
set_option maxHeartbeats 40000000
set_option maxRecDepth 100000
namespace Go.Proofs.YtelghmmcbgfjnaaGreat
variable {G : GS} {I J : IS} {Lg : List Nat} {a b kd kn x : Int} {bb hb j pb xm xn : Nat} {c : Wd} {c0 c1 c2 c3 u : Value} {d : Nd} {l : List Int} {w : World} {xc : Option Addr}
open Go.RowKit
theorem IS.put_no (hc : I.okC c = false) : I.put a b c = (221, I) := by
 unfold IS.put;cases I.hs.lookup a with
 | none => rfl
 | some x =>
   simp only;cases I.hs.lookup b with
   | none => rfl
   | some y => simp only [hc, Bool.false_eq_true, if_false]
theorem IS.put_err {er : Int} (hc : I.okC c = true) (h : I.tab a b = .inl er) : I.put a b c = (er, I) := by
 unfold IS.tab at h;unfold IS.put;cases hl : I.hs.lookup a with
 | none => rw [hl] at h; simp only [Sum.inl.injEq] at h; subst h; rfl
 | some x =>
   rw [hl] at h;simp only at h ⊢;cases hl2 : I.hs.lookup b with
   | none => rw [hl2] at h; simp only [Sum.inl.injEq] at h; subst h; rfl
   | some y =>
     rw [hl2] at h;simp only [hc, if_true] at h ⊢;cases hd : I.nd x with
     | none => rw [hd] at h; simp only [Sum.inl.injEq] at h; subst h; rfl
     | some d =>
       rw [hd] at h;simp only at h ⊢;cases ht : d.table with
       | true => rw [ht] at h; simp at h
       | false => rw [ht] at h; simp only [Bool.false_eq_true, if_false, Sum.inl.injEq] at h ⊢; subst h; rfl
theorem IS.tab_all (h : I.tab a b = .inr (x, kn, d)) : I.hs.lookup a = some x ∧ I.hs.lookup b = some kn ∧ I.nd x = some d ∧ d.table = true := by
 unfold IS.tab at h;cases hl : I.hs.lookup a with
 | none => rw [hl] at h; simp at h
 | some x' =>
   rw [hl] at h;simp only at h;cases hl2 : I.hs.lookup b with
   | none => rw [hl2] at h; simp at h
   | some y =>
     rw [hl2] at h;simp only at h;cases hd : I.nd x' with
     | none => rw [hd] at h; simp at h
     | some d' =>
       rw [hd] at h;simp only at h;cases ht : d'.table with
       | false => rw [ht] at h; simp at h
       | true =>
         rw [ht] at h;simp only [if_true, Sum.inr.injEq, Prod.mk.injEq] at h;obtain ⟨rfl, rfl, rfl⟩ := h;exact ⟨rfl, rfl, hd, ht⟩
theorem IS.put_tab (hc : I.okC c = true) (h : I.tab a b = .inr (x, kn, d)) : I.put a b c = match d.ents.find? (KeyIs kn) with
 | some _ => (0, I.setEnts x fun l => l.map fun y => if KeyIs kn y then ⟨y.key, I.wordC c⟩ else y)
 | none => if (I.words I.live : Int) + 3 ≤ I.room then (0, I.setEnts x fun l => l ++ [⟨kn, I.wordC c⟩]) else (220, I) := by
 obtain ⟨h1, h2, h3, h4⟩ := IS.tab_all h;unfold IS.put;rw [h1]; simp only [h2, hc, h3, h4, if_true];cases List.find? (KeyIs kn) d.ents <;> rfl
theorem store3 {b : Nat} {t : TypeId} {c4 : Value} (h : w.heap[b]? = some (.cells #[c0, c1, c2, c3, c4] t (0, 0))) (v0 v1 v2 : Value) :
 (((w.setCell ⟨b, 0, none⟩ v0).setCell ⟨b, 1, none⟩ v1).setCell ⟨b, 2, none⟩ v2).heap[b]? = some (.cells #[v0, v1, v2, c3, c4] t (0, 0)) ∧ Chg (fun x => x = b) w (((w.setCell ⟨b, 0, none⟩ v0).setCell ⟨b, 1, none⟩ v1).setCell ⟨b, 2, none⟩ v2) := by
 have e1 := heap_setCell h 0 v0;have e2 := heap_setCell e1 1 v1;have e3 := heap_setCell e2 2 v2;exact ⟨e3, (((Chg.refl (fun x => x = b) w).setCell (p := ⟨b, 0, none⟩) (fun _ => rfl) _).setCell (p := ⟨b, 1, none⟩) (fun _ => rfl) _).setCell (p := ⟨b, 2, none⟩) (fun _ => rfl) _⟩
theorem entered_g (hR : GRep w pb hb Lg G) (hS : GSim G I) (hO : IOk I) (hG : GOk G) (hsz : ∀ x ∈ G.nodes, x.size ≤ 1000) (hents : ∀ n d, I.nd n = some d → d.ents.length ≤ 150) (kd a b : Int) (xm : Nat) {cs : List Wd} (hcs : CellsAt w xc xn cs) :
 Calls Tryz.prog 95 #[.pointer (some ⟨pb, 1, none⟩), .agg #[.int .i64 kd, .int .i64 a, .int .i64 b, .slice xc xn xm]] w fun e w' => ∃ u, e = .returned u ∧ DoQ w pb hb Lg G (I.put a b (opCell b cs)).2 [(I.put a b (opCell b cs)).1] u w' := by
 refine ret_k fun K hK => ?_;have HK := Lib.hid hK;have HR := Lib.hid hR;have HS := Lib.hid hS;have HO := Lib.hid hO;have HL := Lib.hid hR.lgs;obtain ⟨fs, hfs⟩ := structOf sTold;have HFs := Lib.hid hfs;obtain ⟨w2, hw2⟩ : ∃ w2, w2 = (w.alloc (.cells #[.int .i64 kd, .int .i64 a, .int .i64 b, .slice xc xn xm] 33)).alloc (.cells #[.slice none 0 0, .bool false, .int .i64 0, .int .i64 0] 101) := ⟨_, rfl⟩;have hC2 : Chg (fun _ => False) w w2 := by rw [hw2]; exact ((Chg.refl _ w).alloc _).alloc _
 have hb2 : w2.heap[w.heap.size + 1]? = some (.cells #[.slice none 0 0, .bool false, .int .i64 0, .int .i64 0] 101 (0, 0)) := by rw [hw2]; exact heap_alloc2_new _ _ _
 have hb0 : w2.heap[w.heap.size]? = some (.cells #[.int .i64 kd, .int .i64 a, .int .i64 b, .slice xc xn xm] 33 (0, 0)) := by rw [hw2]; exact heap_alloc2_old _ _ _
 obtain ⟨c, hc⟩ : ∃ c, c = opCell b cs := ⟨_, rfl⟩;have HCl := Lib.hid (opCell_any w2 kd a b xc xn xm cs (hcs.chg0 hC2));rw [← hc] at HCl HK;obtain ⟨cv, hcv⟩ : ∃ cv : Wd, cv = ⟨c.ref, if c.ref then G.of c.num else c.num⟩ := ⟨_, rfl⟩;have HCv := Lib.hid hcv;have HVl : Hid (∀ wx, Chg (fun _ => False) w2 wx → Calls Tryz.prog 121 #[.pointer (some ⟨pb, 1, none⟩), c.agg] wx fun e w' => e = .returned (.tuple #[.agg #[.int .i64 0, .int .i64 0, .int .i64 (-1), .bool cv.ref, .int .i64 cv.num], .bool (I.okC c)]) ∧ Chg (fun _ => False) wx w') := fun wx hC => by
  rw [hcv];have := value_g ((HR.out.still hC2).still hC) c.ref c.num;rw [HS.out.okC HO.out c] at this;exact this
 have HC2 := Lib.hid hC2;have HB2 := Lib.hid hb2;have HQ : Hid (∀ wx, Chg (fun _ => False) w2 wx → wx.cell? ⟨w.heap.size, 0, none⟩ = some (.int .i64 kd) ∧ wx.cell? ⟨w.heap.size, 1, none⟩ = some (.int .i64 a) ∧ wx.cell? ⟨w.heap.size, 2, none⟩ = some (.int .i64 b) ∧ wx.cell? ⟨w.heap.size, 3, none⟩ = some (.slice xc xn xm)) := fun wx hC => by
  have h := hC.at hb0 fun h => h;exact ⟨cellAt h 0, cellAt h 1, cellAt h 2, cellAt h 3⟩
 have HBig : Hid (G.links.length ≤ 1000000) := hG.few.2.2.2.2;have HG := Lib.hid hG;have HSz := Lib.hid hsz;have HEnts := Lib.hid hents;clear hK hR hS hO hfs hC2 hb2 hb0 hG hsz hents hcs hc hcv
 go_enter Tryz.func95, Tryz.ntmps95
 go_upto_region 1 with fail
 rw [← hw2];obtain ⟨bb, hbb⟩ : ∃ bb, bb = w.heap.size + 1 := ⟨_, rfl⟩;have HBB := Lib.hid hbb;rw [← hbb] at HB2 ⊢;obtain ⟨b0, hb0⟩ : ∃ b0, b0 = w.heap.size := ⟨_, rfl⟩;rw [← hb0] at HQ ⊢;clear hw2 hbb hb0;obtain ⟨q0, q1, q2, q3⟩ := HQ.out w2 (Chg.refl _ _)
 go_wp2_with fail
 refine HCl.out.mono ?_; rintro e w3 ⟨rfl, hC3⟩;have hV3 := HVl.out w3 hC3;have HC3 := Lib.hid hC3;clear hC3 q0 q1 q2 q3 HCl
 go_upto_region 2 with (go_at_call 121; refine hV3.mono ?_; rintro e w4 ⟨rfl, hC4⟩)
 clear hV3 HVl;have hC25 : Chg (fun _ => False) w2 (w4.alloc (.cells #[.int .i64 0, .int .i64 0, .int .i64 (-1), .bool cv.ref, .int .i64 cv.num] 144)) := (HC3.out.trans hC4 fun _ _ h => h).alloc _;have hbl := heap_alloc_new w4 (.cells #[.int .i64 0, .int .i64 0, .int .i64 (-1), .bool cv.ref, .int .i64 cv.num] 144);generalize w4.alloc (.cells #[.int .i64 0, .int .i64 0, .int .i64 (-1), .bool cv.ref, .int .i64 cv.num] 144) = w5 at hC25 hbl ⊢;have hblS : w2.heap.size ≤ w4.heap.size := (HC3.out.trans hC4 fun _ _ h => h).size;generalize w4.heap.size = bl at hbl hblS ⊢;have HBlS := Lib.hid hblS;clear hblS;have HC5 := Lib.hid hC25;have HBl := Lib.hid hbl;obtain ⟨q0, q1, q2, q3⟩ := HQ.out w5 hC25
 clear hC25 hbl hC4 HC3;have HEnd : Hid (∀ (I' : IS) (er : Int) (wg wt : World) (u : Value) (G' : GS), I.put a b c = (er, I') → GGot w5 pb hb Lg G' wg → GSim G' I' → G'.links.length ≤ G.links.length + 200 → ToldAt wg.heap.size wt u [er] → Chg (fun _ => False) wg wt →
  ∃ na nn nc, u = .agg #[.slice na nn nc, .bool false, .int .i64 0, .int .i64 0] ∧ ((∃ u, wt.cell? ⟨bb, 0, none⟩ = some u) ∧ (∃ u, wt.cell? ⟨bb, 1, none⟩ = some u) ∧ (∃ u, wt.cell? ⟨bb, 2, none⟩ = some u) ∧ (∃ u, wt.cell? ⟨bb, 3, none⟩ = some u)) ∧
  (wt.frozen? ⟨bb, 0, none⟩ = false ∧ wt.frozen? ⟨bb, 1, none⟩ = false ∧ wt.frozen? ⟨bb, 2, none⟩ = false ∧ wt.frozen? ⟨bb, 3, none⟩ = false) ∧
  Hid (∀ W, W = ((((wt.setCell ⟨bb, 0, none⟩ (.slice na nn nc)).setCell ⟨bb, 1, none⟩ (.bool false)).setCell ⟨bb, 2, none⟩ (.int .i64 0)).setCell ⟨bb, 3, none⟩ (.int .i64 0)) →
   W.heap[bb]? = some (.cells #[.slice na nn nc, .bool false, .int .i64 0, .int .i64 0] 101 (0, 0)) ∧ Post K (.returned (.agg #[.slice na nn nc, .bool false, .int .i64 0, .int .i64 0])) W)) := fun I' er wg wt u G' hset hGG hSim hlen hTo hCt => by
  have hb5 := HC5.out.at HB2.out fun h => h;have hlt := lt_of_block hb5;exact do_end (fun e w' ⟨u, h1, h2⟩ => HK.out e w' ⟨u, h1, by rw [hset]; exact h2⟩) HL.out (HC2.out.trans HC5.out fun _ _ h => h) hb5 (by have := HBB.out; omega) hGG hSim hlen hTo (Nat.lt_of_lt_of_le hlt hGG.chg.size) hCt
 have HEnd2 : Hid (∀ (I' : IS) (er : Int) (wg wt : World) (u : Value) (G' : GS), I.put a b c = (er, I') → GGot w2 pb hb Lg G' wg → GSim G' I' → G'.links.length ≤ G.links.length + 200 → ToldAt wg.heap.size wt u [er] → Chg (fun _ => False) wg wt →
  ∃ na nn nc, u = .agg #[.slice na nn nc, .bool false, .int .i64 0, .int .i64 0] ∧ ((∃ u, wt.cell? ⟨bb, 0, none⟩ = some u) ∧ (∃ u, wt.cell? ⟨bb, 1, none⟩ = some u) ∧ (∃ u, wt.cell? ⟨bb, 2, none⟩ = some u) ∧ (∃ u, wt.cell? ⟨bb, 3, none⟩ = some u)) ∧
  (wt.frozen? ⟨bb, 0, none⟩ = false ∧ wt.frozen? ⟨bb, 1, none⟩ = false ∧ wt.frozen? ⟨bb, 2, none⟩ = false ∧ wt.frozen? ⟨bb, 3, none⟩ = false) ∧
  Hid (∀ W, W = ((((wt.setCell ⟨bb, 0, none⟩ (.slice na nn nc)).setCell ⟨bb, 1, none⟩ (.bool false)).setCell ⟨bb, 2, none⟩ (.int .i64 0)).setCell ⟨bb, 3, none⟩ (.int .i64 0)) →
   W.heap[bb]? = some (.cells #[.slice na nn nc, .bool false, .int .i64 0, .int .i64 0] 101 (0, 0)) ∧ Post K (.returned (.agg #[.slice na nn nc, .bool false, .int .i64 0, .int .i64 0])) W)) := fun I' er wg wt u G' hset hGG hSim hlen hTo hCt =>
  do_end (fun e w' ⟨u, h1, h2⟩ => HK.out e w' ⟨u, h1, by rw [hset]; exact h2⟩) HL.out HC2.out HB2.out (by have := HBB.out; omega) hGG hSim hlen hTo (Nat.lt_of_lt_of_le (lt_of_block HB2.out) hGG.chg.size) hCt
 clear HK;have HEy := Lib.hid (entry_g ((HR.out.still HC2.out).still HC5.out) HS.out HO.out HBig.out kd a b xc xn xm)
 go_upto_region 3 with (go_at_call 127; refine HEy.out.mono ?_; rintro e w6 ⟨k, er, rfl, hF, hC6⟩)
 have HC6 := Lib.hid hC6;have HF := Lib.hid hF;clear hF hC6 HEy q0 q1 q2 q3;obtain ⟨ok, hok⟩ : ∃ ok, ok = I.okC c := ⟨_, rfl⟩;have HOk := Lib.hid hok;rw [← hok];clear hok;cases ok with
 | false =>
   have HSet := Lib.hid (IS.put_no (a := a) (b := b) HOk.out.symm);have HTe := Lib.hid (told_er w6 221);clear HF
   go_wp2_with (go_at_call 100; refine HTe.out.mono ?_; rintro e w7 ⟨u, rfl, hTo, hC7⟩; obtain ⟨na, nn, nc, rfl, ⟨⟨_, u0⟩, ⟨_, u1⟩, ⟨_, u2⟩, ⟨_, u3⟩⟩, ⟨f0, f1, f2, f3⟩, hZ⟩ := HEnd.out I 221 w6 w7 u G HSet.out (((HR.out.still HC2.out).still HC5.out).same HC6.out) HS.out (Nat.le_add_right _ _) hTo hC7; clear hTo hC7)
   obtain ⟨s1, s2⟩ := hZ.out _ rfl;exact bodyPost_ret (results_cell_row rfl _ _ bb 101 _ (0, 0) _ rfl s1 HFs.out rfl zTold) rfl s2
 | true =>
   by_cases he : er = 0
   · subst he;have hF := HF.out;cases hF with
     | err h1 h2 => exact absurd rfl h2
     | @ok x kn d e j h1 h2 h3 h4 h5 =>
       have hcv : I.wordC c = cv := by rw [HS.out.wordC HOk.out.symm, HCv.out]
       obtain ⟨hd, hkn⟩ := IS.tab_some h1 HO.out;have hset : I.put a b c = (0, I.setEnts x fun l => l.map fun y => if KeyIs kn y then ⟨y.key, cv⟩ else y) := by
        rw [IS.put_tab HOk.out.symm h1, h3, hcv]
       have HSet := Lib.hid hset;have hR6 := ((HR.out.still HC2.out).still HC5.out).still HC6.out;have hPut := put_g hR6 h5 0 0 (-1) cv.ref cv.num;have hsp := set_putL HS.out.nodup h5 cv;have hid : (gent x e).id = (x, -1, kn) := by rw [← h4]; rfl
       rw [hid] at hsp;rw [hsp] at hPut;have HPut := Lib.hid hPut;have HSim : Hid (GSim { G with links := putL G.links (x, -1, kn) cv } (I.setEnts x fun l => l.map fun y => if KeyIs kn y then ⟨y.key, cv⟩ else y)) := HS.out.putE hd h2 hkn (by rw [← hcv]; exact HO.out.wordC HOk.out.symm);have hbl6 := HC6.out.at HBl.out fun h => h;have l0 := cellAt hbl6 0;have l1 := cellAt hbl6 1;have l2 := cellAt hbl6 2;have l3 := cellAt hbl6 3;have l4 := cellAt hbl6 4;have HLg5 : Hid (∀ b ∈ Lg, b < w5.heap.size) := fun b hb => by have := HL.out b hb; have := HC2.out.size; have := HC5.out.size; omega
       have hj0 : (0 : Int) ≤ (j : Int) := by omega
       clear HF h1 h2 h3 h4 h5 hcv hset hR6 hPut hsp hid hbl6 hd hkn
       go_wp2_with (first
        | (go_at_call 126; refine HPut.out.mono ?_; rintro e wg ⟨rfl, hGG⟩; have HGG := Lib.hid hGG; have HTe := Lib.hid (told_er wg 0); clear hGG)
        | (go_at_call 100; refine HTe.out.mono ?_; rintro e w7 ⟨u, rfl, hTo, hC7⟩; obtain ⟨na, nn, nc, rfl, ⟨⟨_, u0⟩, ⟨_, u1⟩, ⟨_, u2⟩, ⟨_, u3⟩⟩, ⟨f0, f1, f2, f3⟩, hZ⟩ := HEnd.out _ 0 wg w7 u _ HSet.out (GGot.wrap HLg5.out HC6.out HGG.out (Chg.refl (fun _ => False) wg) (fun _ h => h.elim)) HSim.out (by simp [putL]) hTo hC7; clear hTo hC7))
       obtain ⟨s1, s2⟩ := hZ.out _ rfl;exact bodyPost_ret (results_cell_row rfl _ _ bb 101 _ (0, 0) _ rfl s1 HFs.out rfl zTold) rfl s2
     | @miss x kn d h1 h2 h3 =>
       obtain ⟨hla, hlb, hd, ht⟩ := IS.tab_all h1;obtain ⟨dk, hdk, hgk⟩ := HO.out.held hlb;have hcv : I.wordC c = cv := by rw [HS.out.wordC HOk.out.symm, HCv.out]
       have hx0 := (IS.nd_nat hd).1;have hkn0 := (IS.nd_nat hdk).1;obtain ⟨q, rfl⟩ : ∃ q : Nat, x = q := ⟨x.toNat, (Int.toNat_of_nonneg hx0).symm⟩;obtain ⟨kq, rfl⟩ : ∃ kq : Nat, kn = kq := ⟨kn.toNat, (Int.toNat_of_nonneg hkn0).symm⟩;obtain ⟨kw, hkw⟩ : ∃ kw, kw = I.words I.live := ⟨_, rfl⟩;have hset : I.put a b c = if (kw : Int) + 3 ≤ I.room then (0, I.setEnts q fun l => l ++ [⟨kq, cv⟩]) else (220, I) := by
        rw [IS.put_tab HOk.out.symm h1, h3, hcv, hkw]
       have hno : ∀ e ∈ d.ents, e.key ≠ (kq : Int) := fun e he hk => by
        have := List.find?_eq_none.1 h3 e he;simp [KeyIs, hk] at this
       have hSimA : GSim { G with links := G.links ++ [gent q ⟨kq, cv⟩] } (I.setEnts q fun l => l ++ [⟨kq, cv⟩]) := HS.out.appE hd h2 hkn0 (here_of hdk hgk) (by rw [← hcv]; exact HO.out.wordC HOk.out.symm) hno;have hR6 := ((HR.out.still HC2.out).still HC5.out).still HC6.out;have hs5 := HC5.out.size;have hbl6 := HC6.out.at HBl.out fun h => h;have HRb : Hid (∀ W, Chg (fun b => b = bl) w6 W → GRep W pb hb Lg G) := fun W hC => hR6.frame hC fun b hb e => by
        have := HL.out b hb;have := HBlS.out;have := HC2.out.size;omega
       have HOfa : Hid (∀ W, Chg (fun b => b = bl) w6 W → Calls Tryz.prog 103 #[.pointer (some ⟨pb, 1, none⟩), .int .i64 a] W fun e w' => e = .returned (.int .i64 q) ∧ W = w') := fun W hC => by
        have := of_g (HRb.out W hC) a;rw [HS.out.of, hla] at this;exact this
       have HOfb : Hid (∀ W, Chg (fun b => b = bl) w6 W → Calls Tryz.prog 103 #[.pointer (some ⟨pb, 1, none⟩), .int .i64 b] W fun e w' => e = .returned (.int .i64 kq) ∧ W = w') := fun W hC => by
        have := of_g (HRb.out W hC) b;rw [HS.out.of, hlb] at this;exact this
       have HQb : Hid (∀ W, Chg (fun b => b = bl) w6 W → W.cell? ⟨b0, 1, none⟩ = some (.int .i64 a) ∧ W.cell? ⟨b0, 2, none⟩ = some (.int .i64 b)) := fun W hC => by
        obtain ⟨g0, g1, g2, g3⟩ := HQ.out w6 (HC5.out.trans HC6.out fun _ _ h => h);have hlt : b0 < w2.heap.size := by
         obtain ⟨g0, _⟩ := HQ.out w2 (Chg.refl _ _);exact World.block_lt_of_cell? w2 _ g0
        have hne : ¬ (b0 = bl) := by have := HBlS.out; omega
        exact ⟨cell_chg hC g1 hne, cell_chg hC g2 hne⟩
       have HEn : Hid (∀ W, Chg (fun _ => False) w6 W → Calls Tryz.prog 120 #[.pointer (some ⟨pb, 1, none⟩), .int .i64 q] W fun e w' => ∃ va ne vc, e = .returned (.slice va ne vc) ∧ ¬ ((200 : Int) ≤ (ne : Int)) ∧ Chg (fun _ => False) w6 w') := fun W hC => by
        have := entries_g (hR6.still hC) HBig.out (q : Int);refine this.mono ?_;rintro e w' ⟨v, rfl, hI, hC'⟩;obtain ⟨va, vc, rfl, _⟩ := hI.row.slice;refine ⟨va, _, vc, rfl, ?_, hC.trans hC' fun _ _ h => h⟩;rw [entIdx_length, HS.out.ents _ d hd h2, List.length_map];have h5 := List.length_filter_le (fun e : En => I.here e.key) d.ents;have := HEnts.out _ d hd;omega
       have hwN : G.wordsN (fun j => dec (SReach G.links G.keptP (j : Int))) = kw := by
        rw [hkw];exact HS.out.words HO.out.sh (fun j => HS.out.keptM HO.out j) fun n hn => by
         obtain ⟨d', h1, h2⟩ := HO.out.kept _ (IS.live_iff.1 hn);exact here_of h1 h2
       have hkwle : kw ≤ 13000000 := by rw [← hwN]; exact wordsN_le HG.out HSz.out _
       obtain ⟨n, hn⟩ : ∃ n, n = G.nodes.length := ⟨_, rfl⟩;have HKp : Hid (∀ W, Chg (fun _ => False) w6 W → Calls Tryz.prog 54 #[.pointer (some ⟨pb, 1, none⟩)] W fun e w' => ∃ sb, e = .returned (.slice (some ⟨sb, 0, none⟩) n n) ∧ Hid (Chg (fun _ => False) w6 w' ∧ MarkAt w' sb n (fun j => dec (SReach G.links G.keptP (j : Int))))) := fun W hC => by
        have := kept_g (hR6.still hC) HG.out;rw [← hn] at this;refine this.mono ?_;rintro e w' ⟨sb, rfl, _, hM, hC'⟩;exact ⟨sb, rfl, Lib.hid ⟨hC.trans hC' fun _ _ h => h, hM⟩⟩
       have HWd : Hid (∀ W sb, (Chg (fun _ => False) w6 W ∧ MarkAt W sb n (fun j => dec (SReach G.links G.keptP (j : Int)))) → Calls Tryz.prog 53 #[.pointer (some ⟨pb, 1, none⟩), .slice (some ⟨sb, 0, none⟩) n n] W fun e w' => e = .returned (.int .i64 kw) ∧ Hid (Chg (fun _ => False) w6 w')) := fun W sb h => by
        have := words_g (hR6.still h.1) HG.out HSz.out (sb := sb) (by rw [← hn]; exact h.2);rw [← hn, hwN] at this;refine this.mono ?_;rintro e w' ⟨rfl, hC'⟩;exact ⟨rfl, Lib.hid (h.1.trans hC' fun _ _ h => h)⟩
       obtain ⟨room, hroom⟩ : ∃ room, room = G.room := ⟨_, rfl⟩;have HCe : Hid (∀ W, Chg (fun _ => False) w6 W → W.cell? ⟨pb, 1, none⟩ = some (.int .i64 room)) := fun W hC => by
        obtain ⟨lab, v, hGr⟩ := hR6.still hC;rw [hroom];exact cellAt hGr.at_ 1
       have hroomI : I.room = room := by rw [hroom]; exact HS.out.room.symm
       rw [hroomI] at hset;have HSet := Lib.hid hset;have HSimA := Lib.hid hSimA;have HBl6 := Lib.hid hbl6;have hwr : IntKind.i64.wrap ((kw : Int) + 3) = (kw : Int) + 3 := IntWalk.i64_in _ (by omega);obtain ⟨q1, q2⟩ := HQb.out w6 (Chg.refl _ _);have hOfa := HOfa.out w6 (Chg.refl _ _);have HFar : Hid (∀ W, Chg (fun b => b = bl) w6 W → Chg (fun b => b ∈ Lg) w2 W) := fun W hC => (((HC5.out.trans HC6.out fun _ _ h => h).mono fun _ _ h => h.elim).trans hC fun b hb e => by have := HBlS.out; omega);clear HF h1 h2 h3 hla hlb hd ht hdk hgk hcv hx0 hkn0 hset hno hSimA hR6 hs5 hbl6 hwN hkwle hn hroom hroomI hkw;have hneg : ¬ ((0 : Int) ≤ -1) := by omega
       go_wp2_with fail
       refine hOfa.mono ?_; rintro e w9 ⟨rfl, rfl⟩;have hEn6 := HEn.out w6 (Chg.refl _ _);clear hOfa
       go_wp2_with fail
       refine hEn6.mono ?_; rintro e w7 ⟨va, ne, vc, rfl, hne, hC7⟩;have hA : Hid (Chg (fun _ => False) w6 w7) := hC7;have p1 := HCe.out w7 hC7;clear hEn6 hC7 q1 q2 HEn;by_cases hfit : (kw : Int) + 3 ≤ room
       · have hgt : ¬ (room < (kw : Int) + 3) := by omega
         have hgt2 : decide (room < (kw : Int) + 3) = false := decide_eq_false hgt;rw [if_pos hfit] at HSet;clear hfit
         go_upto_region 12 with fail
         go_cut [53] from 44 to 53 (fun s53 wx => s53 = .bool false ∧ Hid (Chg (fun _ => False) w6 wx))
         case first =>
          go_region_held3 (fun W => W.cell? ⟨pb, 1, none⟩ = some (.int .i64 room))
           (first | exact p1 | exact HCe.out _ hA.out | exact HCe.out _ (hA.out.drew) | exact HCe.out _ (hA.out.drewN _))
           (first
            | (go_at_call 53; refine (HWd.out _ _ hB.out).mono ?_; rintro e wn ⟨rfl, hA⟩; clear hB)
            | (go_at_call 54; refine (HKp.out _ hA.out).mono ?_; rintro e wn ⟨sb, rfl, hB⟩; have hA : Hid (Chg (fun _ => False) w6 wn) := hB.out.1)
            | (go_at_call 54; refine (HKp.out _ hA.out.drew).mono ?_; rintro e wn ⟨sb, rfl, hB⟩; have hA : Hid (Chg (fun _ => False) w6 wn) := hB.out.1))
          all_goals (go_wp2; go_meet; exact ⟨by first | rfl | simp [hgt2], hA⟩)
         case rest =>
          obtain ⟨rfl, HCx⟩ := hcut;clear hA p1 hgt hgt2 hwr HKp HWd HCe hne;have hb8 := HCx.out.at HBl6.out fun h => h;obtain ⟨hst, hCs⟩ := store3 hb8 (.int .i64 q) (.int .i64 (-1)) (.int .i64 kq);have hC68 : ∀ W, Chg (fun b => b = bl) wc W → Chg (fun b => b = bl) w6 W := fun W hC => (HCx.out.mono fun _ _ h => h.elim).trans hC fun _ _ h => h;obtain ⟨q1, q2⟩ := HQb.out wc (hC68 wc (Chg.refl _ _));have hOfa := HOfa.out wc (hC68 wc (Chg.refl _ _));have l0 := cellAt hb8 0;have l1 := cellAt hb8 1;have l2 := cellAt hb8 2;have f0 := freeAt hb8 0;have f1 := freeAt hb8 1;have f2 := freeAt hb8 2
          have hC14 : Chg (fun b => b = bl) wc ((wc.setCell ⟨bl, 0, none⟩ (.int .i64 q)).setCell ⟨bl, 1, none⟩ (.int .i64 (-1))) := ((Chg.refl (fun x => x = bl) wc).setCell (p := ⟨bl, 0, none⟩) (fun _ => rfl) _).setCell (p := ⟨bl, 1, none⟩) (fun _ => rfl) _;have hOfb := HOfb.out _ (hC68 _ hC14);obtain ⟨_, q2s⟩ := HQb.out _ (hC68 _ hC14);have hR9 := HRb.out _ (hC68 _ hCs);have HCs := Lib.hid (hC68 _ hCs);clear hC14 hCs hC68 hb8
          go_wp2_with fail
          refine hOfa.mono ?_; rintro e w9 ⟨rfl, rfl⟩;clear hOfa
          go_wp2_with fail
          refine hOfb.mono ?_; rintro e w9 ⟨rfl, rfl⟩;clear hOfb q1 q2 q2s
          go_upto_region 17 with fail
          generalize ((wc.setCell ⟨bl, 0, none⟩ (.int .i64 q)).setCell ⟨bl, 1, none⟩ (.int .i64 (-1))).setCell ⟨bl, 2, none⟩ (.int .i64 kq) = w9 at *;clear l0 l1 l2 f0 f1 f2;have hdw : Chg (fun _ => False) w9 (w9.drewN 1) := (Chg.refl _ _).drewN 1;obtain ⟨a5, c5, a6, c6, w11, p3, happ, ⟨_, g0⟩, g1, hGG⟩ := links_app (hR9.still hdw) HBig.out (gent q ⟨kq, cv⟩);have p3c : w9.cell? ⟨pb, 3, none⟩ = some (.slice a5 G.links.length c5) := p3;have hA : ∀ X, Chg (fun _ => False) w9 (w9.alloc X) := fun X => (Chg.refl _ w9).alloc X;have p3A := fun X => cell_chg (hA X) p3c fun h => h;have l0 := cellAt hst 0;have l1 := cellAt hst 1;have l2 := cellAt hst 2;have l3 := cellAt hst 3;have l4 := cellAt hst 4
          have l0A := fun X => cell_chg (hA X) l0 fun h => h;have l1A := fun X => cell_chg (hA X) l1 fun h => h;have l2A := fun X => cell_chg (hA X) l2 fun h => h;have l3A := fun X => cell_chg (hA X) l3 fun h => h;have l4A := fun X => cell_chg (hA X) l4 fun h => h;have hGG2 : GGot w2 pb hb Lg { G with links := G.links ++ [gent q ⟨kq, cv⟩] } (w11.setCell ⟨pb, 3, none⟩ (.slice a6 (G.links.length + 1) c6)) := by
           have h29 := (HFar.out _ HCs.out).trans hdw fun _ _ h => h.elim;refine ⟨hGG.rep.more (fun b hb => ?_) fun b hb => ?_, h29.trans hGG.chg fun _ _ h => h⟩
           · rcases List.mem_append.1 hb with hb | hb
             · exact List.mem_append_left _ hb
             · have := mem_since.1 hb;have := h29.size;exact List.mem_append_right _ (mem_since.2 ⟨by omega, by omega⟩)
           · rcases List.mem_append.1 hb with hb | hb
             · have := HL.out b hb;have := HC2.out.size;have := h29.size;have := hGG.chg.size;omega
             · exact (mem_since.1 hb).2
          have HGG2 := Lib.hid hGG2;have happ' : (Builtin.append_ #[90, 90] 90 #[.slice a5 G.links.length c5, .slice (some ⟨(w9.drewN 1).heap.size, 0, none⟩) 1 1]).run Tryz.prog ((w9.drewN 1).alloc (.cells #[.int .i64 q, .int .i64 (-1), .int .i64 kq, .bool cv.ref, .int .i64 cv.num] 144)) = .ok (.slice a6 (G.links.length + 1) c6) w11 := happ;have HLk : Hid ((G.links ++ [gent q ⟨kq, cv⟩]).length ≤ G.links.length + 200) := by show _ ≤ _; simp
          clear hGG hGG2 hA hdw p3 happ hst hR9;generalize G.links.length = ll at p3c p3A happ' HGG2
          go_cut [] from 66 to 75 (fun wx => Hid (GGot w2 pb hb Lg { G with links := G.links ++ [gent q ⟨kq, cv⟩] } wx))
          case first =>
           go_region_law (refine step_val rfl (exec_append rfl happ') ?_)
           all_goals (go_wp2; go_meet; exact HGG2)
          case rest =>
           have HG3 := hcut;clear HGG2 happ' p3c p3A l0 l1 l2 l3 l4 l0A l1A l2A l3A l4A g0 g1;have HTe := Lib.hid (told_er wc 0)
           go_wp2_with (go_at_call 100; refine HTe.out.mono ?_; rintro e w7 ⟨u, rfl, hTo, hC7⟩; obtain ⟨na, nn, nc, rfl, ⟨⟨_, u0⟩, ⟨_, u1⟩, ⟨_, u2⟩, ⟨_, u3⟩⟩, ⟨f0, f1, f2, f3⟩, hZ⟩ := HEnd2.out _ 0 _ w7 u _ HSet.out HG3.out HSimA.out HLk.out hTo hC7; clear hTo hC7)
           obtain ⟨s1, s2⟩ := hZ.out _ rfl;exact bodyPost_ret (results_cell_row rfl _ _ bb 101 _ (0, 0) _ rfl s1 HFs.out rfl zTold) rfl s2
       · have hgt : room < (kw : Int) + 3 := by omega
         have hgt2 : decide (room < (kw : Int) + 3) = true := decide_eq_true hgt;rw [if_neg hfit] at HSet;clear hfit
         go_upto_region 12 with fail
         go_cut [53] from 44 to 53 (fun s53 wx => s53 = .bool true ∧ Hid (Chg (fun _ => False) w6 wx))
         case first =>
          go_region_held3 (fun W => W.cell? ⟨pb, 1, none⟩ = some (.int .i64 room))
           (first | exact p1 | exact HCe.out _ hA.out | exact HCe.out _ (hA.out.drew) | exact HCe.out _ (hA.out.drewN _))
           (first
            | (go_at_call 53; refine (HWd.out _ _ hB.out).mono ?_; rintro e wn ⟨rfl, hA⟩; clear hB)
            | (go_at_call 54; refine (HKp.out _ hA.out).mono ?_; rintro e wn ⟨sb, rfl, hB⟩; have hA : Hid (Chg (fun _ => False) w6 wn) := hB.out.1)
            | (go_at_call 54; refine (HKp.out _ hA.out.drew).mono ?_; rintro e wn ⟨sb, rfl, hB⟩; have hA : Hid (Chg (fun _ => False) w6 wn) := hB.out.1))
          all_goals (go_wp2; go_meet; exact ⟨by first | rfl | simp [hgt2], hA⟩)
         case rest =>
          obtain ⟨rfl, HCx⟩ := hcut;clear hA p1 hgt hgt2 hwr HKp HWd HCe hne;have HTe := Lib.hid (told_er wc 220)
          go_wp2_with (go_at_call 100; refine HTe.out.mono ?_; rintro e w7 ⟨u, rfl, hTo, hC7⟩; obtain ⟨na, nn, nc, rfl, ⟨⟨_, u0⟩, ⟨_, u1⟩, ⟨_, u2⟩, ⟨_, u3⟩⟩, ⟨f0, f1, f2, f3⟩, hZ⟩ := HEnd2.out I 220 _ w7 u G HSet.out ((HR.out.still HC2.out).same ((HC5.out.trans HC6.out fun _ _ h => h).trans HCx.out fun _ _ h => h)) HS.out (Nat.le_add_right _ _) hTo hC7; clear hTo hC7)
          obtain ⟨s1, s2⟩ := hZ.out _ rfl;exact bodyPost_ret (results_cell_row rfl _ _ bb 101 _ (0, 0) _ rfl s1 HFs.out rfl zTold) rfl s2
   · have hk : k < 0 := by
      have hF := HF.out;cases hF with
      | err h1 h2 => omega
      | miss h1 h2 h3 => exact absurd rfl he
      | ok => exact absurd rfl he
     have HSet : Hid (I.put a b c = (er, I)) := by
      have hF := HF.out;cases hF with
      | err h1 h2 => exact IS.put_err HOk.out.symm h1
      | miss h1 h2 h3 => exact absurd rfl he
      | ok => exact absurd rfl he
     have HTe := Lib.hid (told_er w6 er);clear HF
     go_wp2_with (go_at_call 100; refine HTe.out.mono ?_; rintro e w7 ⟨u, rfl, hTo, hC7⟩; obtain ⟨na, nn, nc, rfl, ⟨⟨_, u0⟩, ⟨_, u1⟩, ⟨_, u2⟩, ⟨_, u3⟩⟩, ⟨f0, f1, f2, f3⟩, hZ⟩ := HEnd.out I er w6 w7 u G HSet.out (((HR.out.still HC2.out).still HC5.out).same HC6.out) HS.out (Nat.le_add_right _ _) hTo hC7; clear hTo hC7)
     obtain ⟨s1, s2⟩ := hZ.out _ rfl;exact bodyPost_ret (results_cell_row rfl _ _ bb 101 _ (0, 0) _ rfl s1 HFs.out rfl zTold) rfl s2
theorem ToldW.into {B : Nat} {w' : World} (h : ToldW B w' u l) (hb : w'.heap[bb]? = some (.cells #[c0, c1, c2, c3] 101 (0, 0))) (hbB : bb < B) :
 ∃ na nn nc, u = .agg #[.slice na nn nc, .bool false, .int .i64 0, .int .i64 0] ∧
   ((∃ u, w'.cell? ⟨bb, 0, none⟩ = some u) ∧ (∃ u, w'.cell? ⟨bb, 1, none⟩ = some u) ∧ (∃ u, w'.cell? ⟨bb, 2, none⟩ = some u) ∧ (∃ u, w'.cell? ⟨bb, 3, none⟩ = some u)) ∧
   (w'.frozen? ⟨bb, 0, none⟩ = false ∧ w'.frozen? ⟨bb, 1, none⟩ = false ∧ w'.frozen? ⟨bb, 2, none⟩ = false ∧ w'.frozen? ⟨bb, 3, none⟩ = false) ∧
   Hid (∀ W, W = ((((w'.setCell ⟨bb, 0, none⟩ (.slice na nn nc)).setCell ⟨bb, 1, none⟩ (.bool false)).setCell ⟨bb, 2, none⟩ (.int .i64 0)).setCell ⟨bb, 3, none⟩ (.int .i64 0)) →
    W.heap[bb]? = some (.cells #[.slice na nn nc, .bool false, .int .i64 0, .int .i64 0] 101 (0, 0)) ∧ (QRow W (.slice na nn nc) l ∧ ∀ b, rowBlk (.slice na nn nc) = some b → B ≤ b) ∧ Chg (fun b => b = bb) w' W) := by
 obtain ⟨nv, rfl, hI, hN⟩ := h;obtain ⟨na, nc, rfl, _⟩ := hI.slice;refine ⟨na, _, nc, rfl, ⟨⟨_, cellAt hb 0⟩, ⟨_, cellAt hb 1⟩, ⟨_, cellAt hb 2⟩, ⟨_, cellAt hb 3⟩⟩, ⟨freeAt hb 0, freeAt hb 1, freeAt hb 2, freeAt hb 3⟩, Lib.hid fun W hW => ?_⟩;obtain ⟨s1, s2⟩ := store4 hb (.slice na l.length nc) (.bool false) (.int .i64 0) (.int .i64 0);rw [← hW] at s1 s2;exact ⟨s1, ⟨hI.same fun b hb => s2.block b (hI.lt hb) fun e => by have := hN b hb; omega, hN⟩, s2⟩
theorem dow_end {w3 wt : World} {I' : IS} {K : Ending → World → Prop} 
 (hK : ∀ e w', (∃ u, e = .returned u ∧ DoW w pb hb Lg G I' l u w') → Post K e w') (hL : ∀ b ∈ Lg, b < w.heap.size) (hC : Chg (fun _ => False) w w3)
 (hbb : w3.heap[bb]? = some (.cells #[c0, c1, c2, c3] 101 (0, 0))) (hbw : w.heap.size ≤ bb) (h : DoW w3 pb hb Lg G I' l u wt) :
 ∃ na nn nc, u = .agg #[.slice na nn nc, .bool false, .int .i64 0, .int .i64 0] ∧ ((∃ u, wt.cell? ⟨bb, 0, none⟩ = some u) ∧ (∃ u, wt.cell? ⟨bb, 1, none⟩ = some u) ∧ (∃ u, wt.cell? ⟨bb, 2, none⟩ = some u) ∧ (∃ u, wt.cell? ⟨bb, 3, none⟩ = some u)) ∧
   (wt.frozen? ⟨bb, 0, none⟩ = false ∧ wt.frozen? ⟨bb, 1, none⟩ = false ∧ wt.frozen? ⟨bb, 2, none⟩ = false ∧ wt.frozen? ⟨bb, 3, none⟩ = false) ∧
   Hid (∀ W, W = ((((wt.setCell ⟨bb, 0, none⟩ (.slice na nn nc)).setCell ⟨bb, 1, none⟩ (.bool false)).setCell ⟨bb, 2, none⟩ (.int .i64 0)).setCell ⟨bb, 3, none⟩ (.int .i64 0)) →
    W.heap[bb]? = some (.cells #[.slice na nn nc, .bool false, .int .i64 0, .int .i64 0] 101 (0, 0)) ∧ Post K (.returned (.agg #[.slice na nn nc, .bool false, .int .i64 0, .int .i64 0])) W) := by
 obtain ⟨hTo, G', hGG, hSim, hlen⟩ := h;have hlt := lt_of_block hbb;have hbt := hGG.chg.at hbb fun hb => by have := hL _ hb; omega
 obtain ⟨na, nn, nc, rfl, h1, h2, hZ⟩ := hTo.into hbt hlt;refine ⟨na, nn, nc, rfl, h1, h2, Lib.hid fun W hW => ?_⟩;obtain ⟨s1, s2, s3⟩ := hZ.out W hW;have hGW := GGot.wrap hL hC hGG s3 (fun b hb => by omega);have hs := hC.size;exact ⟨s1, hK _ _ ⟨_, rfl, ⟨_, rfl, s2.1, fun b hb => by have := s2.2 b hb; omega⟩, G', hGW, hSim, hlen⟩⟩
noncomputable def IS.did (I : IS) (q : Nat) (a b : Int) (cs : List Wd) : List Int × IS := match q with
 | 8 => I.listOf a
 | 14 => ([I.next.1, bitI I.next.2.1, I.next.2.2.1], I.next.2.2.2)
 | 15 => ([0], I)
 | 16 => ([0], I.majored)
 | _ => I.tell q a b cs
def doRows (pb : Nat) (kd a b : Int) (xc : Option Addr) (xn xm : Nat) : List (Int × Nat × Array Value) := [(0, 91, #[.pointer (some ⟨pb, 1, none⟩), .agg #[.int .i64 kd, .int .i64 a, .int .i64 b, .slice xc xn xm]]), (2, 93, #[.pointer (some ⟨pb, 1, none⟩), .agg #[.int .i64 kd, .int .i64 a, .int .i64 b, .slice xc xn xm]]), (3, 94, #[.pointer (some ⟨pb, 1, none⟩), .agg #[.int .i64 kd, .int .i64 a, .int .i64 b, .slice xc xn xm]]), (4, 95, #[.pointer (some ⟨pb, 1, none⟩), .agg #[.int .i64 kd, .int .i64 a, .int .i64 b, .slice xc xn xm]]), (5, 96, #[.pointer (some ⟨pb, 1, none⟩), .agg #[.int .i64 kd, .int .i64 a, .int .i64 b, .slice xc xn xm]]), (6, 97, #[.pointer (some ⟨pb, 1, none⟩), .agg #[.int .i64 kd, .int .i64 a, .int .i64 b, .slice xc xn xm]]), (8, 98, #[.pointer (some ⟨pb, 1, none⟩), .agg #[.int .i64 kd, .int .i64 a, .int .i64 b, .slice xc xn xm]]), (9, 102, #[.pointer (some ⟨pb, 1, none⟩), .agg #[.int .i64 kd, .int .i64 a, .int .i64 b, .slice xc xn xm]]), (10, 102, #[.pointer (some ⟨pb, 1, none⟩), .agg #[.int .i64 kd, .int .i64 a, .int .i64 b, .slice xc xn xm]]), (11, 102, #[.pointer (some ⟨pb, 1, none⟩), .agg #[.int .i64 kd, .int .i64 a, .int .i64 b, .slice xc xn xm]]), (12, 102, #[.pointer (some ⟨pb, 1, none⟩), .agg #[.int .i64 kd, .int .i64 a, .int .i64 b, .slice xc xn xm]]), (13, 99, #[.pointer (some ⟨pb, 1, none⟩), .agg #[.int .i64 kd, .int .i64 a, .int .i64 b, .slice xc xn xm]]), (14, 99, #[.pointer (some ⟨pb, 1, none⟩), .agg #[.int .i64 kd, .int .i64 a, .int .i64 b, .slice xc xn xm]]), (17, 102, #[.pointer (some ⟨pb, 1, none⟩), .agg #[.int .i64 kd, .int .i64 a, .int .i64 b, .slice xc xn xm]]), (1, 92, #[.pointer (some ⟨pb, 1, none⟩), .agg #[.bool true, .int .i64 0, .int .i64 0, .bool false], .slice none 0 0])]
theorem do_call (hR : GRep w pb hb Lg G) {q : Int} {f : Nat} {args : Array Value} (hq : kd % 18 = q) (hqf : (q, f, args) ∈ doRows pb kd a b xc xn xm) (hSub : ∀ W, Chg (fun _ => False) w W → Calls Tryz.prog f args W fun e w' => ∃ u, e = .returned u ∧ DoW W pb hb Lg G J l u w') :
 Calls Tryz.prog 51 #[.pointer (some ⟨pb, 1, none⟩), .agg #[.int .i64 kd, .int .i64 a, .int .i64 b, .slice xc xn xm]] w fun e w' => ∃ u, e = .returned u ∧ DoW w pb hb Lg G J l u w' := by
 simp only [doRows, List.mem_cons, Prod.mk.injEq, List.not_mem_nil, or_false] at hqf;rcases hqf with ⟨rfl, rfl, rfl⟩ | ⟨rfl, rfl, rfl⟩ | ⟨rfl, rfl, rfl⟩ | ⟨rfl, rfl, rfl⟩ | ⟨rfl, rfl, rfl⟩ | ⟨rfl, rfl, rfl⟩ | ⟨rfl, rfl, rfl⟩ | ⟨rfl, rfl, rfl⟩ | ⟨rfl, rfl, rfl⟩ | ⟨rfl, rfl, rfl⟩ | ⟨rfl, rfl, rfl⟩ | ⟨rfl, rfl, rfl⟩ | ⟨rfl, rfl, rfl⟩ | ⟨rfl, rfl, rfl⟩ | ⟨rfl, rfl, rfl⟩
 all_goals
  refine ret_k fun K hK => ?_;have HK := Lib.hid hK;have HR := Lib.hid hR;have HL := Lib.hid hR.lgs;have HSub := Lib.hid hSub;obtain ⟨fs, hfs⟩ := structOf sTold;have HFs := Lib.hid hfs;obtain ⟨w2, hw2⟩ : ∃ w2, w2 = (w.alloc (.cells #[.int .i64 kd, .int .i64 a, .int .i64 b, .slice xc xn xm] 33)).alloc (.cells #[.slice none 0 0, .bool false, .int .i64 0, .int .i64 0] 101) := ⟨_, rfl⟩;have hC2 : Chg (fun _ => False) w w2 := by rw [hw2]; exact ((Chg.refl _ w).alloc _).alloc _
  have hb2 : w2.heap[w.heap.size + 1]? = some (.cells #[.slice none 0 0, .bool false, .int .i64 0, .int .i64 0] 101 (0, 0)) := by rw [hw2]; exact heap_alloc2_new _ _ _
  have hb0 : w2.heap[w.heap.size]? = some (.cells #[.int .i64 kd, .int .i64 a, .int .i64 b, .slice xc xn xm] 33 (0, 0)) := by rw [hw2]; exact heap_alloc2_old _ _ _
  have hWh := which_any w2 kd a b xc xn xm;rw [hq] at hWh;have HWh := Lib.hid hWh;have HC2 := Lib.hid hC2;have HB2 := Lib.hid hb2;have HQ : Hid (∀ wx, Chg (fun _ => False) w2 wx → wx.cell? ⟨w.heap.size, 0, none⟩ = some (.int .i64 kd) ∧ wx.cell? ⟨w.heap.size, 1, none⟩ = some (.int .i64 a) ∧ wx.cell? ⟨w.heap.size, 2, none⟩ = some (.int .i64 b) ∧ wx.cell? ⟨w.heap.size, 3, none⟩ = some (.slice xc xn xm)) := fun wx hC => by
   have h := hC.at hb0 fun h => h;exact ⟨cellAt h 0, cellAt h 1, cellAt h 2, cellAt h 3⟩
  clear hK hR hSub hfs hC2 hb2 hb0 hWh hq
  go_enter Tryz.func51, Tryz.ntmps51
  go_upto_region 1 with fail
  rw [← hw2];obtain ⟨bb, hbb⟩ : ∃ bb, bb = w.heap.size + 1 := ⟨_, rfl⟩;have HBB : Hid (w.heap.size ≤ bb) := by show _ ≤ _; omega
  rw [← hbb] at HB2 ⊢;obtain ⟨b0, hb0⟩ : ∃ b0, b0 = w.heap.size := ⟨_, rfl⟩;rw [← hb0] at HQ ⊢;clear hw2 hbb hb0;obtain ⟨q0, q1, q2, q3⟩ := HQ.out w2 (Chg.refl _ _)
  go_wp2_with fail
  refine HWh.out.mono ?_; rintro e w3 ⟨rfl, hC3⟩;have HC3 := Lib.hid hC3;have HC03 := Lib.hid (HC2.out.trans hC3 fun _ _ h => h);clear q0 q1 q2 q3 hC3 HWh;obtain ⟨q0, q1, q2, q3⟩ := HQ.out w3 HC3.out;have hS3 := HSub.out w3 HC03.out;clear HSub
  go_wp2_with fail
  refine hS3.mono ?_; rintro e wt ⟨u, rfl, hDo⟩;have hb3 := HC3.out.at HB2.out fun h => h;obtain ⟨na, nn, nc, rfl, ⟨⟨_, u0⟩, ⟨_, u1⟩, ⟨_, u2⟩, ⟨_, u3⟩⟩, ⟨f0, f1, f2, f3⟩, hZ⟩ := dow_end HK.out HL.out HC03.out hb3 HBB.out hDo;clear hS3 hb3 q0 q1 q2 q3;clear hDo HK;go_wp2;obtain ⟨s1, s2⟩ := hZ.out _ rfl;exact bodyPost_ret (results_cell_row rfl _ _ bb 101 _ (0, 0) _ rfl s1 HFs.out rfl zTold) rfl s2
theorem do_15 (hR : GRep w pb hb Lg G) (hq : kd % 18 = 15) (hSub : GSim G J) :
 Calls Tryz.prog 51 #[.pointer (some ⟨pb, 1, none⟩), .agg #[.int .i64 kd, .int .i64 a, .int .i64 b, .slice xc xn xm]] w fun e w' => ∃ u, e = .returned u ∧ DoW w pb hb Lg G J [0] u w' := by
 refine ret_k fun K hK => ?_;have HK := Lib.hid hK;have HR := Lib.hid hR;have HL := Lib.hid hR.lgs;have HSub := Lib.hid hSub;obtain ⟨fs, hfs⟩ := structOf sTold;have HFs := Lib.hid hfs;obtain ⟨w2, hw2⟩ : ∃ w2, w2 = (w.alloc (.cells #[.int .i64 kd, .int .i64 a, .int .i64 b, .slice xc xn xm] 33)).alloc (.cells #[.slice none 0 0, .bool false, .int .i64 0, .int .i64 0] 101) := ⟨_, rfl⟩;have hC2 : Chg (fun _ => False) w w2 := by rw [hw2]; exact ((Chg.refl _ w).alloc _).alloc _
 have hb2 : w2.heap[w.heap.size + 1]? = some (.cells #[.slice none 0 0, .bool false, .int .i64 0, .int .i64 0] 101 (0, 0)) := by rw [hw2]; exact heap_alloc2_new _ _ _
 have hb0 : w2.heap[w.heap.size]? = some (.cells #[.int .i64 kd, .int .i64 a, .int .i64 b, .slice xc xn xm] 33 (0, 0)) := by rw [hw2]; exact heap_alloc2_old _ _ _
 have hWh := which_any w2 kd a b xc xn xm;rw [hq] at hWh;have HWh := Lib.hid hWh;have HC2 := Lib.hid hC2;have HB2 := Lib.hid hb2;have HQ : Hid (∀ wx, Chg (fun _ => False) w2 wx → wx.cell? ⟨w.heap.size, 0, none⟩ = some (.int .i64 kd) ∧ wx.cell? ⟨w.heap.size, 1, none⟩ = some (.int .i64 a) ∧ wx.cell? ⟨w.heap.size, 2, none⟩ = some (.int .i64 b) ∧ wx.cell? ⟨w.heap.size, 3, none⟩ = some (.slice xc xn xm)) := fun wx hC => by
  have h := hC.at hb0 fun h => h;exact ⟨cellAt h 0, cellAt h 1, cellAt h 2, cellAt h 3⟩
 clear hK hR hSub hfs hC2 hb2 hb0 hWh hq
 go_enter Tryz.func51, Tryz.ntmps51
 go_upto_region 1 with fail
 rw [← hw2];obtain ⟨bb, hbb⟩ : ∃ bb, bb = w.heap.size + 1 := ⟨_, rfl⟩;have HBB : Hid (w.heap.size ≤ bb) := by show _ ≤ _; omega
 rw [← hbb] at HB2 ⊢;obtain ⟨b0, hb0⟩ : ∃ b0, b0 = w.heap.size := ⟨_, rfl⟩;rw [← hb0] at HQ ⊢;clear hw2 hbb hb0;obtain ⟨q0, q1, q2, q3⟩ := HQ.out w2 (Chg.refl _ _)
 go_wp2_with fail
 refine HWh.out.mono ?_; rintro e w3 ⟨rfl, hC3⟩;have HC3 := Lib.hid hC3;have HC03 := Lib.hid (HC2.out.trans hC3 fun _ _ h => h);clear q0 q1 q2 q3 hC3 HWh;obtain ⟨q0, q1, q2, q3⟩ := HQ.out w3 HC3.out;have hS3 := told_er w3 0
 go_wp2_with fail
 refine hS3.mono ?_; rintro e wt ⟨u, rfl, hTo, hCt⟩;have hb3 := HC3.out.at HB2.out fun h => h;have hDo : DoW w3 pb hb Lg G J [0] u wt := DoQ.w ⟨hTo, G, ((HR.out.still HC03.out).same hCt), HSub.out, Nat.le_add_right _ _⟩;obtain ⟨na, nn, nc, rfl, ⟨⟨_, u0⟩, ⟨_, u1⟩, ⟨_, u2⟩, ⟨_, u3⟩⟩, ⟨f0, f1, f2, f3⟩, hZ⟩ := dow_end HK.out HL.out HC03.out hb3 HBB.out hDo;clear hS3 hb3 q0 q1 q2 q3 hTo hCt HSub;clear hDo HK;go_wp2;obtain ⟨s1, s2⟩ := hZ.out _ rfl;exact bodyPost_ret (results_cell_row rfl _ _ bb 101 _ (0, 0) _ rfl s1 HFs.out rfl zTold) rfl s2
theorem do_16 (hR : GRep w pb hb Lg G) (hq : kd % 18 = 16) (hSub : ∀ W, Chg (fun _ => False) w W → Calls Tryz.prog 101 #[.pointer (some ⟨pb, 1, none⟩)] W fun e w' => e = .returned (.tuple #[]) ∧ ∃ G', GGot W pb hb Lg G' w' ∧ GSim G' J ∧ G'.links.length ≤ G.links.length) :
 Calls Tryz.prog 51 #[.pointer (some ⟨pb, 1, none⟩), .agg #[.int .i64 kd, .int .i64 a, .int .i64 b, .slice xc xn xm]] w fun e w' => ∃ u, e = .returned u ∧ DoW w pb hb Lg G J [0] u w' := by
 refine ret_k fun K hK => ?_;have HK := Lib.hid hK;have HR := Lib.hid hR;have HL := Lib.hid hR.lgs;have HSub := Lib.hid hSub;obtain ⟨fs, hfs⟩ := structOf sTold;have HFs := Lib.hid hfs;obtain ⟨w2, hw2⟩ : ∃ w2, w2 = (w.alloc (.cells #[.int .i64 kd, .int .i64 a, .int .i64 b, .slice xc xn xm] 33)).alloc (.cells #[.slice none 0 0, .bool false, .int .i64 0, .int .i64 0] 101) := ⟨_, rfl⟩;have hC2 : Chg (fun _ => False) w w2 := by rw [hw2]; exact ((Chg.refl _ w).alloc _).alloc _
 have hb2 : w2.heap[w.heap.size + 1]? = some (.cells #[.slice none 0 0, .bool false, .int .i64 0, .int .i64 0] 101 (0, 0)) := by rw [hw2]; exact heap_alloc2_new _ _ _
 have hb0 : w2.heap[w.heap.size]? = some (.cells #[.int .i64 kd, .int .i64 a, .int .i64 b, .slice xc xn xm] 33 (0, 0)) := by rw [hw2]; exact heap_alloc2_old _ _ _
 have hWh := which_any w2 kd a b xc xn xm;rw [hq] at hWh;have HWh := Lib.hid hWh;have HC2 := Lib.hid hC2;have HB2 := Lib.hid hb2;have HQ : Hid (∀ wx, Chg (fun _ => False) w2 wx → wx.cell? ⟨w.heap.size, 0, none⟩ = some (.int .i64 kd) ∧ wx.cell? ⟨w.heap.size, 1, none⟩ = some (.int .i64 a) ∧ wx.cell? ⟨w.heap.size, 2, none⟩ = some (.int .i64 b) ∧ wx.cell? ⟨w.heap.size, 3, none⟩ = some (.slice xc xn xm)) := fun wx hC => by
  have h := hC.at hb0 fun h => h;exact ⟨cellAt h 0, cellAt h 1, cellAt h 2, cellAt h 3⟩
 clear hK hR hSub hfs hC2 hb2 hb0 hWh hq
 go_enter Tryz.func51, Tryz.ntmps51
 go_upto_region 1 with fail
 rw [← hw2];obtain ⟨bb, hbb⟩ : ∃ bb, bb = w.heap.size + 1 := ⟨_, rfl⟩;have HBB : Hid (w.heap.size ≤ bb) := by show _ ≤ _; omega
 rw [← hbb] at HB2 ⊢;obtain ⟨b0, hb0⟩ : ∃ b0, b0 = w.heap.size := ⟨_, rfl⟩;rw [← hb0] at HQ ⊢;clear hw2 hbb hb0;obtain ⟨q0, q1, q2, q3⟩ := HQ.out w2 (Chg.refl _ _)
 go_wp2_with fail
 refine HWh.out.mono ?_; rintro e w3 ⟨rfl, hC3⟩;have HC3 := Lib.hid hC3;have HC03 := Lib.hid (HC2.out.trans hC3 fun _ _ h => h);clear q0 q1 q2 q3 hC3 HWh;obtain ⟨q0, q1, q2, q3⟩ := HQ.out w3 HC3.out;have hS3 := HSub.out w3 HC03.out;clear HSub
 go_wp2_with fail
 refine hS3.mono ?_; rintro e w4 ⟨rfl, HG4⟩;have HG4 := Lib.hid HG4;have hS4 := told_er w4 0;clear hS3 q0 q1 q2 q3
 go_wp2_with fail
 refine hS4.mono ?_; rintro e wt ⟨u, rfl, hTo, hCt⟩;have hb3 := HC3.out.at HB2.out fun h => h;have hDo : DoW w3 pb hb Lg G J [0] u wt := by
  obtain ⟨G', hGG, hSim, hlen⟩ := HG4.out;refine DoQ.w ⟨hTo.low hGG.chg.size, G', ⟨(hGG.rep.still hCt).more (fun b hb => ?_) fun b hb => ?_, hGG.chg.trans hCt fun _ _ h => h.elim⟩, hSim, by omega⟩
  · rcases List.mem_append.1 hb with hb | hb
    · exact List.mem_append_left _ hb
    · have := mem_since.1 hb;have := hCt.size;exact List.mem_append_right _ (mem_since.2 ⟨by omega, by omega⟩)
  · rcases List.mem_append.1 hb with hb | hb
    · exact Nat.lt_of_lt_of_le (hGG.rep.lgs b (List.mem_append_left _ hb)) hCt.size
    · exact (mem_since.1 hb).2
 obtain ⟨na, nn, nc, rfl, ⟨⟨_, u0⟩, ⟨_, u1⟩, ⟨_, u2⟩, ⟨_, u3⟩⟩, ⟨f0, f1, f2, f3⟩, hZ⟩ := dow_end HK.out HL.out HC03.out hb3 HBB.out hDo;clear hS4 hb3 hTo hCt;clear hDo HK;go_wp2;obtain ⟨s1, s2⟩ := hZ.out _ rfl;exact bodyPost_ret (results_cell_row rfl _ _ bb 101 _ (0, 0) _ rfl s1 HFs.out rfl zTold) rfl s2
theorem do_7 (hR : GRep w pb hb Lg G) (hq : kd % 18 = 7) (hSub : ∀ W, Chg (fun _ => False) w W → Calls Tryz.prog 90 #[.pointer (some ⟨pb, 1, none⟩), .agg #[.int .i64 kd, .int .i64 a, .int .i64 b, .slice xc xn xm]] W fun e w' => ∃ u, e = .returned u ∧ CountQ W I a u w' ∧ Chg (fun _ => False) W w') :
 Calls Tryz.prog 51 #[.pointer (some ⟨pb, 1, none⟩), .agg #[.int .i64 kd, .int .i64 a, .int .i64 b, .slice xc xn xm]] w fun e w' => ∃ u, e = .returned u ∧ CountQ w I a u w' ∧ Chg (fun _ => False) w w' := by
 refine ret_k fun K hK => ?_;have HK := Lib.hid hK;have HR := Lib.hid hR;have HL := Lib.hid hR.lgs;have HSub := Lib.hid hSub;obtain ⟨fs, hfs⟩ := structOf sTold;have HFs := Lib.hid hfs;obtain ⟨w2, hw2⟩ : ∃ w2, w2 = (w.alloc (.cells #[.int .i64 kd, .int .i64 a, .int .i64 b, .slice xc xn xm] 33)).alloc (.cells #[.slice none 0 0, .bool false, .int .i64 0, .int .i64 0] 101) := ⟨_, rfl⟩;have hC2 : Chg (fun _ => False) w w2 := by rw [hw2]; exact ((Chg.refl _ w).alloc _).alloc _
 have hb2 : w2.heap[w.heap.size + 1]? = some (.cells #[.slice none 0 0, .bool false, .int .i64 0, .int .i64 0] 101 (0, 0)) := by rw [hw2]; exact heap_alloc2_new _ _ _
 have hb0 : w2.heap[w.heap.size]? = some (.cells #[.int .i64 kd, .int .i64 a, .int .i64 b, .slice xc xn xm] 33 (0, 0)) := by rw [hw2]; exact heap_alloc2_old _ _ _
 have hWh := which_any w2 kd a b xc xn xm;rw [hq] at hWh;have HWh := Lib.hid hWh;have HC2 := Lib.hid hC2;have HB2 := Lib.hid hb2;have HQ : Hid (∀ wx, Chg (fun _ => False) w2 wx → wx.cell? ⟨w.heap.size, 0, none⟩ = some (.int .i64 kd) ∧ wx.cell? ⟨w.heap.size, 1, none⟩ = some (.int .i64 a) ∧ wx.cell? ⟨w.heap.size, 2, none⟩ = some (.int .i64 b) ∧ wx.cell? ⟨w.heap.size, 3, none⟩ = some (.slice xc xn xm)) := fun wx hC => by
  have h := hC.at hb0 fun h => h;exact ⟨cellAt h 0, cellAt h 1, cellAt h 2, cellAt h 3⟩
 clear hK hR hSub hfs hC2 hb2 hb0 hWh hq
 go_enter Tryz.func51, Tryz.ntmps51
 go_upto_region 1 with fail
 rw [← hw2];obtain ⟨bb, hbb⟩ : ∃ bb, bb = w.heap.size + 1 := ⟨_, rfl⟩;have HBB : Hid (w.heap.size ≤ bb) := by show _ ≤ _; omega
 rw [← hbb] at HB2 ⊢;obtain ⟨b0, hb0⟩ : ∃ b0, b0 = w.heap.size := ⟨_, rfl⟩;rw [← hb0] at HQ ⊢;clear hw2 hbb hb0;obtain ⟨q0, q1, q2, q3⟩ := HQ.out w2 (Chg.refl _ _)
 go_wp2_with fail
 refine HWh.out.mono ?_; rintro e w3 ⟨rfl, hC3⟩;have HC3 := Lib.hid hC3;have HC03 := Lib.hid (HC2.out.trans hC3 fun _ _ h => h);clear q0 q1 q2 q3 hC3 HWh;obtain ⟨q0, q1, q2, q3⟩ := HQ.out w3 HC3.out;have hS3 := HSub.out w3 HC03.out;clear HSub
 go_wp2_with fail
 refine hS3.mono ?_; rintro e wt ⟨u, rfl, hQ, hCt⟩;have hb3 := HC3.out.at HB2.out fun h => h;have hlt3 := lt_of_block hb3;have hbt := hCt.at hb3 fun h => h;clear hS3 q0 q1 q2 q3;have u0 := cellAt hbt 0;have u1 := cellAt hbt 1;have u2 := cellAt hbt 2;have u3 := cellAt hbt 3;have f0 := freeAt hbt 0;have f1 := freeAt hbt 1;have f2 := freeAt hbt 2;have f3 := freeAt hbt 3;have hu : ∃ na nn nc o lo hi, u = .agg #[.slice na nn nc, .bool o, .int .i64 lo, .int .i64 hi] := by
  unfold CountQ at hQ;cases hB : I.bounds a with
  | inl er =>
    rw [hB] at hQ;obtain ⟨nv, rfl, hI⟩ := hQ;obtain ⟨na, nc, rfl, _⟩ := hI.row.slice;exact ⟨_, _, _, _, _, _, rfl⟩
  | inr p =>
    rw [hB] at hQ;exact ⟨_, _, _, _, _, _, hQ⟩
 obtain ⟨na, nn, nc, o, lo, hi, rfl⟩ := hu;obtain ⟨s1, s2⟩ := store4 hbt (.slice na nn nc) (.bool o) (.int .i64 lo) (.int .i64 hi);have HS1 := Lib.hid s1;have HZ : Hid (Post K (.returned (.agg #[.slice na nn nc, .bool o, .int .i64 lo, .int .i64 hi])) ((((wt.setCell ⟨bb, 0, none⟩ (.slice na nn nc)).setCell ⟨bb, 1, none⟩ (.bool o)).setCell ⟨bb, 2, none⟩ (.int .i64 lo)).setCell ⟨bb, 3, none⟩ (.int .i64 hi))) := by
  refine HK.out _ _ ⟨_, rfl, ?_, (HC03.out.trans hCt fun _ _ h => h).trans s2 fun b hb e => by have := HBB.out; omega⟩;unfold CountQ at hQ ⊢;cases hB : I.bounds a with
  | inl er =>
    rw [hB] at hQ;obtain ⟨nv, e, hI⟩ := hQ;refine ⟨nv, e, (hI.chg s2 fun b hb e => ?_).low HC03.out.size⟩;have := hI.new b hb; omega
  | inr p =>
    rw [hB] at hQ;exact hQ
 clear s1 s2 hbt hQ hCt hb3 hlt3 HK;go_wp2;exact bodyPost_ret (results_cell_row rfl _ _ bb 101 _ (0, 0) _ rfl HS1.out HFs.out rfl zTold) rfl HZ.out
theorem ISh.same (h : ISh I) (hn : J.nodes = I.nodes) : ISh J := by
 have e : ∀ n d, J.nd n = some d → I.nd n = some d := fun n d hd => by unfold IS.nd at hd ⊢; rw [← hn]; exact hd
 exact ⟨fun n d hd => h.tab n d (e n d hd), fun n d hd => h.obj n d (e n d hd), fun n d hd => h.len n d (e n d hd), fun n d hd => h.key n d (e n d hd)⟩
theorem ISh.add (h : ISh I) (h1 : d.table = true → d.flds = []) (h2 : d.ents = []) (h3 : d.flds.length ≤ 200) : ISh (I.add d) := by
 refine ⟨fun n x hx ht => ?_, fun n x hx ht => ?_, fun n x hx => ?_, fun n x hx y hy => ?_⟩
 · rcases IS.nd_add_cases hx with ⟨_, rfl⟩ | hx
   · exact h1 ht
   · exact h.tab n x hx ht
 · rcases IS.nd_add_cases hx with ⟨_, rfl⟩ | hx
   · exact h2
   · exact h.obj n x hx ht
 · rcases IS.nd_add_cases hx with ⟨_, rfl⟩ | hx
   · exact h3
   · exact h.len n x hx
 · rcases IS.nd_add_cases hx with ⟨_, rfl⟩ | hx
   · rw [h2] at hy; cases hy
   · exact h.key n x hx y hy
theorem ISh.adds (h : ISh I) (n : Nat) (h1 : d.table = true → d.flds = []) (h2 : d.ents = []) (h3 : d.flds.length ≤ 200) : ISh (I.adds n d).2.2 := by
 unfold IS.adds
 split
 · exact (h.add h1 h2 h3).same rfl
 · exact h
theorem ISh.setFld (h : ISh I) (hd : I.nd x = some d) (i : Nat) (c : Wd) : ISh (I.setFld x i c) := by
 refine ⟨fun n y hy ht => ?_, fun n y hy ht => ?_, fun n y hy => ?_, fun n y hy z hz => ?_⟩
 · rcases IS.nd_fld_cases hd hy with ⟨_, rfl⟩ | ⟨_, hy⟩
   · show d.flds.set i c = [];rw [h.tab _ d hd ht]; rfl
   · exact h.tab n y hy ht
 · rcases IS.nd_fld_cases hd hy with ⟨_, rfl⟩ | ⟨_, hy⟩
   · exact h.obj _ d hd ht
   · exact h.obj n y hy ht
 · rcases IS.nd_fld_cases hd hy with ⟨_, rfl⟩ | ⟨_, hy⟩
   · show (d.flds.set i c).length ≤ 200;rw [List.length_set]; exact h.len _ d hd
   · exact h.len n y hy
 · rcases IS.nd_fld_cases hd hy with ⟨_, rfl⟩ | ⟨_, hy⟩
   · exact h.key _ d hd z hz
   · exact h.key n y hy z hz
theorem ISh.setEnts (h : ISh I) (hd : I.nd x = some d) (ht : d.table = true) (f : List En → List En) (hf : ∀ y ∈ f d.ents, 0 ≤ y.key) : ISh (I.setEnts x f) := by
 obtain ⟨h0, _, _⟩ := IS.nd_nat hd;have hcase : ∀ n y, (I.setEnts x f).nd n = some y → (n = x ∧ y = { d with ents := f d.ents }) ∨ I.nd n = some y := fun n y hy => by
  by_cases e : n = x
  · subst e;rw [IS.nd_set hd] at hy;simp only [Option.some.injEq] at hy;exact .inl ⟨rfl, hy.symm⟩
  · rw [IS.nd_set_ne f h0 e] at hy;exact .inr hy
 refine ⟨fun n y hy hy2 => ?_, fun n y hy hy2 => ?_, fun n y hy => ?_, fun n y hy z hz => ?_⟩
 · rcases hcase n y hy with ⟨_, rfl⟩ | hy
   · exact h.tab _ d hd ht
   · exact h.tab n y hy hy2
 · rcases hcase n y hy with ⟨_, rfl⟩ | hy
   · rw [show ({ d with ents := f d.ents } : Nd).table = d.table from rfl, ht] at hy2; cases hy2
   · exact h.obj n y hy hy2
 · rcases hcase n y hy with ⟨_, rfl⟩ | hy
   · exact h.len _ d hd
   · exact h.len n y hy
 · rcases hcase n y hy with ⟨_, rfl⟩ | hy
   · exact hf z hz
   · exact h.key n y hy z hz
theorem ISh.major (h : ISh I) : ISh I.majored := by
 refine ⟨fun n y hy => ?_, fun n y hy => ?_, fun n y hy => ?_, fun n y hy => ?_⟩
 all_goals obtain ⟨d, hd, rfl⟩ := IS.nd_majored_some hy
 · exact h.tab n d hd
 · exact h.obj n d hd
 · exact h.len n d hd
 · exact h.key n d hd
theorem ISh.start (room : Int) : ISh (IS.start room) := by
 have e : ∀ n d, (IS.start room).nd n = some d → False := fun n d hd => by
  unfold IS.nd IS.start at hd
  split at hd
  · simp at hd
  · cases hd
 exact ⟨fun n d hd => (e n d hd).elim, fun n d hd => (e n d hd).elim, fun n d hd => (e n d hd).elim, fun n d hd => (e n d hd).elim⟩
theorem ISh.put (h : ISh I) (ho : IOk I) (t key : Int) (c : Wd) : ISh (I.put t key c).2 := by
 unfold IS.put
 split
 · exact h
 · split
   · exact h
   · rename_i kn hk
     obtain ⟨dk, hdk, _⟩ := ho.held hk;have hkn := (IS.nd_nat hdk).1
     split
     · split
       · exact h
       · rename_i d hd
         split
         · rename_i ht
           split
           · refine h.setEnts hd ht _ fun y hy => ?_;obtain ⟨z, hz, rfl⟩ := List.mem_map.1 hy;have := h.key _ d hd z hz
             split <;> exact this
           · split
             · dsimp only;refine h.setEnts hd ht _ fun y hy => ?_;rcases List.mem_append.1 hy with hy | hy
               · exact h.key _ d hd y hy
               · simp only [List.mem_singleton] at hy;subst hy; exact hkn
             · exact h
         · exact h
     · exact h
theorem ISh.tell (h : ISh I) (ho : IOk I) (q : Nat) (a b : Int) (cs : List Wd) : ISh (I.tell q a b cs).2 := by
 unfold IS.tell
 split
 · show ISh (I.make a cs).2.2;unfold IS.make
   split
   · split
     · exact h
     · rename_i hb
       exact h.adds _ (fun h => by cases h) rfl (by show (cs.map I.wordC).length ≤ 200; rw [List.length_map]; omega)
   · exact h
 · exact h.adds _ (fun _ => rfl) rfl (by simp)
 · show ISh (I.get a b).2.2;unfold IS.get
   split
   · exact h
   · split
     · exact h
     · split
       · exact h
       · split
         · exact h
         · split
           · exact h
           · split
             · exact h.same rfl
             · exact h
 · show ISh (I.set a b (opCell b cs)).2;unfold IS.set
   split
   · exact h
   · split
     · split
       · exact h
       · rename_i hd
         split
         · exact h
         · split
           · exact h
           · exact h.setFld hd _ _
     · exact h
 · exact h.put ho a b _
 · show ISh (I.find a b).2.2.2;unfold IS.find
   split
   · exact h
   · split
     · exact h
     · split
       · exact h.same rfl
       · exact h
 · show ISh (I.remove a b).2.2;unfold IS.remove
   split
   · exact h
   · rename_i ht
     split
     · exact h
     · obtain ⟨_, _, hd, htt⟩ := IS.tab_all ht;exact h.setEnts hd htt _ fun y hy => h.key _ _ hd y (List.mem_filter.1 hy).1
 · exact h
 · exact h
 · show ISh (I.dup a).2.2;unfold IS.dup
   split
   · exact h
   · exact h.same rfl
 · show ISh (I.drop a).2;unfold IS.drop
   split
   · exact h
   · exact h.same rfl
 · show ISh (I.fin a).2.2;unfold IS.fin
   split
   · exact h
   · split
     · exact h
     · exact h.same rfl
 · exact h
 · exact h
theorem listOf_lst (I : IS) (a : Int) (he : ∀ n d, I.nd n = some d → d.ents.length ≤ j) : (I.listOf a).2.nodes = I.nodes ∧ (I.listOf a).2.queue = I.queue ∧ (I.listOf a).2.reg = I.reg ∧ (I.listOf a).2.hs.length ≤ I.hs.length + 2 * j := by
 unfold IS.listOf
 split
 · exact ⟨rfl, rfl, rfl, by show I.hs.length ≤ _; omega⟩
 · split
   · exact ⟨rfl, rfl, rfl, by show I.hs.length ≤ _; omega⟩
   · rename_i d hd
     split
     · have h := I.listE_lst (d.ents.filter fun e => I.here e.key);refine ⟨h.nodes, h.queue, h.reg, Nat.le_trans h.hs ?_⟩;have h2 := List.length_filter_le (fun e : En => I.here e.key) d.ents;have := he _ d hd;omega
     · exact ⟨rfl, rfl, rfl, by show I.hs.length ≤ _; omega⟩
theorem ISh.did (h : ISh I) (ho : IOk I) (q : Nat) (a b : Int) (cs : List Wd) : ISh (I.did q a b cs).2 := by
 unfold IS.did
 split
 · exact h.same (listOf_lst I a (j := I.nodes.length + 100000000000) fun n d hd => by
    have h1 := ho.uniq n d hd;have h2 := length_range (l := d.ents.map (·.key)) (m := I.nodes.length) h1 fun k hk => by
     obtain ⟨e, he, rfl⟩ := List.mem_map.1 hk;exact ⟨h.key n d hd e he, ho.keys n d hd e he⟩
    rw [List.length_map] at h2;omega).1
 · unfold IS.next
   split
   · exact h
   · exact h.same rfl
 · exact h
 · exact h.major
 · exact h.tell ho q a b cs
theorem SmT.did {T : Nat} (h : SmT I j T) (q : Nat) (a b : Int) (cs : List Wd) : SmT (I.did q a b cs).2 (j + 1) (T + 2 * j + 1) := by
 have h1 : SmT I (j + 1) (T + 2 * j + 1) := h.more (by omega) (by omega);unfold IS.did
 split
 · obtain ⟨g1, g2, g3, g4⟩ := listOf_lst I a h.ents;refine ⟨by show (I.listOf a).2.nodes.length ≤ _; rw [g1]; have := h.nodes; omega, ?_, fun n d hd => ?_⟩
   · show (I.listOf a).2.queue.length + (I.listOf a).2.hs.length + (I.listOf a).2.reg.length ≤ _;rw [g2, g3];have := h.hs; omega
   · have hd' : I.nd n = some d := by unfold IS.nd at hd ⊢; rw [← g1]; exact hd
     have := h.ents n d hd'; omega
 · exact h.next.more (by omega) (by omega)
 · exact h1
 · exact h1.major
 · exact (h.tell q a b cs).more (by omega) (by omega)
theorem IS.major_words (I : IS) : I.majored.words I.majored.here ≤ I.majored.words I.majored.live := by
 refine IS.words_le fun n hn => ?_;obtain ⟨d, h1, h2⟩ := of_here hn;obtain ⟨d0, h3, rfl⟩ := IS.nd_majored_some h1;have hl : I.live n = true := by simpa using h2
 exact IS.live_iff.2 ((IS.majored_kept n).2 (IS.live_iff.1 hl))
end Go.Proofs.YtelghmmcbgfjnaaGreat
