/-
  listed of the reference's graph. (A part of the proof, joined of: Sc, Sd, Se; made smaller.)
-/
import Derived.Test.YtelghmmcbgfjnaaGreatH25
set_option maxHeartbeats 8000000
set_option maxRecDepth 100000
namespace Go.Proofs.YtelghmmcbgfjnaaGreat
variable {G : GS} {I : IS} {Lg : List Nat} {hb pb : Nat} {w : World}
open Go.RowKit
theorem listed_g (hR : GRep w pb hb Lg G) (hS : GSim G I) (hO : IOk I) (hG : GOk G) (hfew : I.hs.length ≤ 8000) (hents : ∀ n d, I.nd n = some d → d.ents.length ≤ 300) (kd a b : Int) (xc : Option Addr) (xn xm : Nat) :
 Calls Tryz.prog 98 #[.pointer (some ⟨pb, 1, none⟩), .agg #[.int .i64 kd, .int .i64 a, .int .i64 b, .slice xc xn xm]] w fun e w' => ∃ u, e = .returned u ∧ DoW w pb hb Lg G (I.listOf a).2 (I.listOf a).1 u w' := by
 refine ret_k fun K hK => ?_;have HK := Lib.hid hK;have HR := Lib.hid hR;have HS := Lib.hid hS;have HO := Lib.hid hO;have HG := Lib.hid hG;have HL := Lib.hid hR.lgs;obtain ⟨fs, hfs⟩ := structOf sTold;have HFs := Lib.hid hfs;obtain ⟨w2, hw2⟩ : ∃ w2, w2 = (w.alloc (.cells #[.int .i64 kd, .int .i64 a, .int .i64 b, .slice xc xn xm] 33)).alloc (.cells #[.slice none 0 0, .bool false, .int .i64 0, .int .i64 0] 101) := ⟨_, rfl⟩;have hC2 : Chg (fun _ => False) w w2 := by rw [hw2]; exact ((Chg.refl _ w).alloc _).alloc _
 have hb2 : w2.heap[w.heap.size + 1]? = some (.cells #[.slice none 0 0, .bool false, .int .i64 0, .int .i64 0] 101 (0, 0)) := by rw [hw2]; exact heap_alloc2_new _ _ _
 have hb0 : w2.heap[w.heap.size]? = some (.cells #[.int .i64 kd, .int .i64 a, .int .i64 b, .slice xc xn xm] 33 (0, 0)) := by rw [hw2]; exact heap_alloc2_old _ _ _
 have hCt := counted_g (hR.still hC2) hS hO hG kd a b xc xn xm;have HC2 := Lib.hid hC2;have HB2 := Lib.hid hb2;have HB0 := Lib.hid hb0;have q0 := cellAt hb0 0;have q1 := cellAt hb0 1;have q2 := cellAt hb0 2;have q3 := cellAt hb0 3;clear hK hR hS hO hG hfs hC2 hb2 hb0;obtain ⟨bb, hbb⟩ : ∃ bb, bb = w.heap.size + 1 := ⟨_, rfl⟩;have HBB : Hid (w.heap.size ≤ bb) := by show _ ≤ _; omega
 rw [← hbb] at HB2;cases hB : I.bounds a with
 | inl er =>
   have hList : I.listOf a = ([er], I) := by
    unfold IS.bounds at hB;unfold IS.listOf;cases hl : I.hs.lookup a with
    | none => rw [hl] at hB; simp only [Sum.inl.injEq] at hB; subst hB; rfl
    | some x =>
      rw [hl] at hB;simp only at hB ⊢;cases hd : I.nd x with
      | none => rw [hd] at hB; simp only [Sum.inl.injEq] at hB; subst hB; rfl
      | some d =>
        rw [hd] at hB;simp only at hB ⊢;cases ht : d.table with
        | true => rw [ht] at hB; simp at hB
        | false => rw [ht] at hB; simp only [Bool.false_eq_true, if_false, Sum.inl.injEq] at hB ⊢; subst hB; rfl
   rw [hList] at HK;have HCt : Hid (Calls Tryz.prog 90 #[.pointer (some ⟨pb, 1, none⟩), .agg #[.int .i64 kd, .int .i64 a, .int .i64 b, .slice xc xn xm]] w2 fun e w3 => ∃ g nc, e = .returned (.agg #[.slice (some ⟨g, 0, none⟩) 2 nc, .bool false, .int .i64 0, .int .i64 0]) ∧ ¬ (nc = 1) ∧ Chg (fun _ => False) w2 w3 ∧
    Hid (QRow w3 (.slice (some ⟨g, 1, none⟩) 1 (nc - 1)) [er] ∧ w2.heap.size ≤ g ∧ rowBlk (.slice (some ⟨g, 1, none⟩) 1 (nc - 1)) = some g)) := by
    refine hCt.mono ?_;rintro e w' ⟨u, rfl, hQ, hC⟩;unfold CountQ at hQ;rw [hB] at hQ;obtain ⟨nv, rfl, hI⟩ := hQ;obtain ⟨h1, h2, ⟨h3, _⟩ | ⟨g, cap, cur, rfl, h4, h5, h6, h7, h8⟩⟩ := hI.row
    · simp at h3
    · have hnew := hI.new g rfl;simp only [List.length_cons, List.length_nil] at h5 h8;refine ⟨g, cap + 1, rfl, by omega, hC, Lib.hid ⟨⟨by simp [maxLen], .inr ⟨g, 1, cap - 1, cur, ?_, h4, ?_, ?_, ?_, ?_⟩⟩, hnew, ?_⟩⟩
      · have e1 : cap + 1 - 1 = cap - 1 + 1 := by omega
        rw [e1]; rfl
      · simp only [List.length_cons, List.length_nil]; omega
      · omega
      · omega
      · have h9 := congrArg (fun l : List Value => l.drop 1) h8;simp only [List.drop_take] at h9;simpa [intCells] using h9
      · have e1 : cap + 1 - 1 = cap - 1 + 1 := by omega
        rw [e1]; rfl
   clear hCt hB hList
   go_enter Tryz.func98, Tryz.ntmps98
   go_upto_region 1 with fail
   rw [← hw2, ← hbb];generalize w.heap.size = b0 at q0 q1 q2 q3 HB0 ⊢;clear hw2 hbb
   go_upto_region 2 with (go_at_call 90; refine HCt.out.mono ?_; rintro e w3 ⟨g, nc, rfl, hnc, hC3, HQ⟩)
   obtain ⟨w4, hw4⟩ : ∃ w4, w4 = w3.alloc (.cells #[.slice (some ⟨g, 0, none⟩) 2 nc, .bool false, .int .i64 0, .int .i64 0] 101) := ⟨_, rfl⟩;have hC4 : Chg (fun _ => False) w3 w4 := by rw [hw4]; exact (Chg.refl _ w3).alloc _
   have hb4 : w4.heap[w3.heap.size]? = some (.cells #[.slice (some ⟨g, 0, none⟩) 2 nc, .bool false, .int .i64 0, .int .i64 0] 101 (0, 0)) := by rw [hw4]; exact heap_alloc_new _ _
   rw [← hw4];have r0 := cellAt hb4 0;have r1 := cellAt hb4 1;have hC24 := hC3.trans hC4 fun _ _ h => h;have hbR := hC24.at HB2.out fun h => h;have u0 := cellAt hbR 0;have u1 := cellAt hbR 1;have u2 := cellAt hbR 2;have u3 := cellAt hbR 3;have f0 := freeAt hbR 0;have f1 := freeAt hbR 1;have f2 := freeAt hbR 2;have f3 := freeAt hbR 3;obtain ⟨s1, s2⟩ := store4 hbR (.slice (some ⟨g, 1, none⟩) 1 (nc - 1)) (.bool false) (.int .i64 0) (.int .i64 0);have HS1 := Lib.hid s1
   have HZ : Hid (Post K (.returned (.agg #[.slice (some ⟨g, 1, none⟩) 1 (nc - 1), .bool false, .int .i64 0, .int .i64 0])) ((((w4.setCell ⟨bb, 0, none⟩ (.slice (some ⟨g, 1, none⟩) 1 (nc - 1))).setCell ⟨bb, 1, none⟩ (.bool false)).setCell ⟨bb, 2, none⟩ (.int .i64 0)).setCell ⟨bb, 3, none⟩ (.int .i64 0))) := by
    have hlt := lt_of_block HB2.out;have hC2s := HC2.out.size;have hcc : Chg (fun _ => False) w ((((w4.setCell ⟨bb, 0, none⟩ (.slice (some ⟨g, 1, none⟩) 1 (nc - 1))).setCell ⟨bb, 1, none⟩ (.bool false)).setCell ⟨bb, 2, none⟩ (.int .i64 0)).setCell ⟨bb, 3, none⟩ (.int .i64 0)) :=
     (HC2.out.trans hC24 fun _ _ h => h).trans s2 fun k hk e => by have := HBB.out; omega
    refine HK.out _ _ ⟨_, rfl, ⟨_, rfl, ?_, fun b hb => ?_⟩, G, HR.out.same hcc, HS.out, Nat.le_add_right _ _⟩
    · refine HQ.out.1.same fun x hx => ?_;obtain rfl : g = x := Option.some.inj (HQ.out.2.2.symm.trans hx);have hgl : g < w3.heap.size := HQ.out.1.lt HQ.out.2.2;exact (s2.block g (by have := hC4.size; omega) (by have := HQ.out.2.1; omega)).trans (hC4.block g hgl fun h => h)
    · obtain rfl : g = b := Option.some.inj (HQ.out.2.2.symm.trans hb);have := HQ.out.2.1;omega
   clear s1 s2 hbR hC24 hC4 hC3 hb4 HK HQ HCt q0 q1 q2 q3 HB0;generalize w3.heap.size = b5 at r0 r1 ⊢;clear hw4;go_wp2;exact bodyPost_ret (results_cell_row rfl _ _ bb 101 _ (0, 0) _ rfl HS1.out HFs.out rfl zTold) rfl HZ.out
 | inr p =>
   obtain ⟨lo, hi⟩ := p;have HCt : Hid (Calls Tryz.prog 90 #[.pointer (some ⟨pb, 1, none⟩), .agg #[.int .i64 kd, .int .i64 a, .int .i64 b, .slice xc xn xm]] w2 fun e w3 => e = .returned (.agg #[.slice none 0 0, .bool true, .int .i64 lo, .int .i64 hi]) ∧ Chg (fun _ => False) w2 w3) := by
    refine hCt.mono ?_;rintro e w' ⟨u, rfl, hQ, hC⟩;unfold CountQ at hQ;rw [hB] at hQ;exact ⟨by rw [hQ], hC⟩
   obtain ⟨x, d, hl, hd, ht⟩ : ∃ x d, I.hs.lookup a = some x ∧ I.nd x = some d ∧ d.table = true := by
    unfold IS.bounds at hB;cases hl : I.hs.lookup a with
    | none => rw [hl] at hB; simp at hB
    | some x =>
      rw [hl] at hB;simp only at hB;cases hd : I.nd x with
      | none => rw [hd] at hB; simp at hB
      | some d =>
        rw [hd] at hB;simp only at hB;cases ht : d.table with
        | true => exact ⟨x, d, rfl, hd, ht⟩
        | false => rw [ht] at hB; simp at hB
   obtain ⟨d', hd', hg⟩ := HO.out.held hl;rw [hd] at hd';simp only [Option.some.injEq] at hd';subst hd';have hx0 := (IS.nd_nat hd).1;obtain ⟨q, rfl⟩ : ∃ q : Nat, x = q := ⟨x.toNat, (Int.toNat_of_nonneg hx0).symm⟩;have hOf : ∀ wx, Chg (fun _ => False) w2 wx → Calls Tryz.prog 103 #[.pointer (some ⟨pb, 1, none⟩), .int .i64 a] wx fun e w' => e = .returned (.int .i64 q) ∧ wx = w' := fun wx hC => by
    have := of_g ((HR.out.still HC2.out).still hC) a;rw [HS.out.of, hl] at this;exact this
   have HOf := Lib.hid hOf;obtain ⟨E, hE⟩ : ∃ E, E = d.ents.filter fun e => I.here e.key := ⟨_, rfl⟩;have hList : I.listOf a = (flatE (I.listE E).1 ++ [0], (I.listE E).2) := by unfold IS.listOf; rw [hl]; simp only [hd, ht, if_true, hE]
   rw [hList] at HK;have HEL : Hid (G.links.filter (isEn (q : Int)) = E.map (gent (q : Int))) := by rw [hE]; exact HS.out.ents _ d hd hg
   have HE : Hid (E.length ≤ 300 ∧ ∀ y ∈ E, 0 ≤ y.key ∧ (y.val.ref = true → 0 ≤ y.val.num)) := by
    refine ⟨by rw [hE]; exact Nat.le_trans (List.length_filter_le _ _) (hents _ _ hd), fun y hy => ?_⟩;have hm : gent (q : Int) y ∈ G.links := by
     have : gent (q : Int) y ∈ G.links.filter (isEn (q : Int)) := by rw [HEL.out]; exact List.mem_map.2 ⟨y, hy, rfl⟩
     exact (List.mem_filter.1 this).1
    rw [hE] at hy;refine ⟨HO.out.sh.key _ d hd y (List.mem_filter.1 hy).1, fun hr => ?_⟩;obtain ⟨d', h1⟩ := Option.isSome_iff_exists.1 (HS.out.num _ hm hr);exact (IS.nd_nat h1).1
   have HFew : Hid (I.hs.length ≤ 8000) := hfew;obtain ⟨len, hlen⟩ : ∃ len, len = G.links.length := ⟨_, rfl⟩;have HLen : Hid (len = G.links.length ∧ len ≤ 1000000) := ⟨hlen, by rw [hlen]; exact HG.out.few.2.2.2.2⟩;have HEn : Hid (∀ wx, Chg (fun _ => False) w2 wx → Calls Tryz.prog 120 #[.pointer (some ⟨pb, 1, none⟩), .int .i64 q] wx fun e w' => ∃ v, e = .returned v ∧ IRow w' wx.heap.size v (G.entIdx q len) ∧ Chg (fun _ => False) wx w') := fun wx hC => by
    have := entries_g ((HR.out.still HC2.out).still hC) (by rw [← hlen]; exact HLen.out.2) (q : Int);rw [← hlen] at this;exact this
   clear hCt hB hList hOf hl hd ht hg hx0 hE hents hfew hlen
   go_enter Tryz.func98, Tryz.ntmps98
   go_upto_region 1 with fail
   rw [← hw2, ← hbb];obtain ⟨b0, hb0⟩ : ∃ b0, b0 = w.heap.size := ⟨_, rfl⟩;rw [← hb0] at q0 q1 q2 q3 HB0;rw [← hb0];clear hw2 hbb hb0
   go_upto_region 2 with (go_at_call 90; refine HCt.out.mono ?_; rintro e w3 ⟨rfl, hC3⟩)
   obtain ⟨w4, hw4⟩ : ∃ w4, w4 = w3.alloc (.cells #[.slice none 0 0, .bool true, .int .i64 lo, .int .i64 hi] 101) := ⟨_, rfl⟩;have hC4 : Chg (fun _ => False) w3 w4 := by rw [hw4]; exact (Chg.refl _ w3).alloc _
   have hb4 : w4.heap[w3.heap.size]? = some (.cells #[.slice none 0 0, .bool true, .int .i64 lo, .int .i64 hi] 101 (0, 0)) := by rw [hw4]; exact heap_alloc_new _ _
   rw [← hw4];have hC24 := hC3.trans hC4 fun _ _ h => h;have r1 := cellAt hb4 1;have hq4 := hC24.at HB0.out fun h => h;have q1 := cellAt hq4 1;have hOf4 := HOf.out w4 hC24;have hEn4 := HEn.out w4 hC24;have HC24 := Lib.hid hC24;clear hC24 hC4 hC3 hb4 hq4 HCt HOf HEn q0 q2 q3 HB0;generalize w3.heap.size = b5 at r1 ⊢;clear hw4
   go_upto_region 6 with (first | (go_at_call 103; refine hOf4.mono ?_; rintro e w9 ⟨rfl, rfl⟩) | (go_at_call 120; refine hEn4.mono ?_; rintro e w5 ⟨ve, rfl, hI5, hC5⟩))
   obtain ⟨ua, uc, rfl, _, _, _⟩ := hI5.row.slice;have HRow := Lib.hid hI5.row;have hC25 := HC24.out.trans hC5 fun _ _ h => h;have HC25 := Lib.hid hC25;obtain ⟨ln, hln⟩ : ∃ ln, ln = (G.entIdx (q : Int) len).length := ⟨_, rfl⟩;have HLn : Hid (ln = (G.entIdx (q : Int) len).length ∧ ln ≤ 300 ∧ ln = E.length) := by
    have e1 : ln = E.length := by rw [hln, HLen.out.1, entIdx_length, HEL.out, List.length_map]
    exact ⟨hln, by have := HE.out.1; omega, e1⟩
   rw [← hln];have HOwn : Hid (∀ W, Chg (fun b => b ∈ Lg) w5 W → (∀ b, rowBlk (.slice ua (G.entIdx (q : Int) len).length uc) = some b → W.heap[b]? = w5.heap[b]?) ∧ W.heap[bb]? = w5.heap[bb]?) := fun W hC => by
    have hs2 := HC2.out.size;have hs4 := HC24.out.size;have hb2 := lt_of_block HB2.out;have hs5 := hC25.size;refine ⟨fun b hb => hC.block b (HRow.out.lt hb) fun hi => ?_, hC.block bb (by omega) fun hi => ?_⟩
    · have := hI5.new b hb;have := HL.out b hi;omega
    · have := HL.out bb hi;have := HBB.out;omega
   have HG5 : Hid (LsG w5 w5 pb hb Lg G (I.listE (E.take 0)).2 (fun _ => False)) := ⟨⟨Lg, G, (HR.out.still HC2.out).still hC25, fun _ h => .inl h, HS.out, rfl, fun _ _ h => h⟩, Chg.refl _ _, fun _ h => h.elim⟩;have HB5 := Lib.hid (hC25.at HB2.out fun h => h);clear hI5 hC5 hC25 hEn4 hOf4 hln r1 q1 HC24;go_wp2
   go_loopw [6, 8] (fun s6 s8 wr => ∃ (v : Value) (i : Nat), v = s6 ∧ i ≤ ln ∧ s8 = .int .i64 i ∧ Hid (LsG w5 wr pb hb Lg G (I.listE (E.take i)).2 (fun b => rowBlk v = some b) ∧ Row wr 3 1 v (flatE (I.listE (E.take i)).1).length (intCells (flatE (I.listE (E.take i)).1)))) (fun _ s8 _ => ln - (intOf s8).toNat)
   case atStart => exact ⟨_, 0, rfl, by omega, rfl, Lib.hid ⟨HG5.out.turn (Chg.refl _ _) (fun b hb => by simp [rowBlk] at hb), Row.nil _ _ _⟩⟩
   case round =>
    obtain ⟨v, i, rfl, hi, rfl, HI⟩ := hrel;obtain ⟨hG6, hRow6⟩ := HI.out;obtain ⟨va, vc, rfl, _, _, _⟩ := hRow6.slice;by_cases hlt : i < ln
    · have hlt' : (i : Int) < (ln : Int) := by omega
      have hwi : IntKind.i64.wrap ((i : Int) + 1) = (i : Int) + 1 := IntWalk.i64_in _ (by have := HLn.out.2.1; omega);obtain ⟨j, y, hj, hjn, hy, hye⟩ := entIdx_at (G := G) (node := (q : Int)) (i := i) (by rw [← HLen.out.1, ← HLn.out.1]; exact hlt);rw [← HLen.out.1] at hj hjn;rw [HEL.out, List.getElem?_map] at hye;obtain ⟨x, hx, rfl⟩ := Option.map_eq_some_iff.1 hye;have hjl : (j : Int) < (len : Int) := by omega
      obtain ⟨Li, Gi, hRi, _, _, hlinks, _⟩ := hG6.ex;obtain ⟨lab, vv, hGr⟩ := hRi;obtain ⟨al, cl, _, _, c3, hcl⟩ := hGr.links;rw [hlinks] at c3 hcl;rw [← HLen.out.1] at c3;obtain ⟨bl, rfl, k0, k1, k2, k3, k4⟩ := hcl j _ hy;simp only [gent] at k0 k1 k2 k3 k4;obtain ⟨ub, e1, hub, hcu⟩ := HRow.out.cells (by rw [← HLn.out.1]; omega);subst e1;have u0 := hcu i (.int .i64 j) (by
       have h1 : i < (G.entIdx (q : Int) len).length := by rw [← HLn.out.1]; exact hlt
       have h2 : (G.entIdx (q : Int) len)[i]? = some (j : Int) := by rw [← hj, List.getD_eq_getElem?_getD, List.getElem?_eq_getElem h1]; rfl
       unfold intCells;rw [List.getElem?_map, h2]; rfl)
      have u0r : wr.cell? ⟨ub, i, none⟩ = some (.int .i64 j) := by
       have hsame := (HOwn.out wr hG6.chg).1 ub hub;rw [← u0]; simp only [World.cell?, hsame]
      have hfl : (flatE (I.listE (E.take i)).1).length ≤ 900 := by
       rw [flatE_len, (I.listE_lst _).out, List.length_take];have := HLn.out; omega
      have htk : E.take (i + 1) = E.take i ++ [x] := by rw [List.take_add_one, hx]; rfl
      have hf1 := flatE_list1 I (E.take i) x;rw [← htk] at hf1;have hhs : (I.listE (E.take i)).2.hs.length ≤ 8600 := by
       have := (I.listE_lst (E.take i)).hs;rw [List.length_take] at this;have := HFew.out;have := HLn.out;omega
      have hmemx := List.mem_of_getElem? hx;have hnum := IS.listE_num (I := I) (l := E.take i) (fun p hp => HS.out.rootsN HO.out p (by rw [HS.out.roots]; exact hp)) fun z hz => HE.out.2 z (List.mem_of_mem_take hz);have HF1 := Lib.hid hf1;have HNx : Hid (0 ≤ x.key ∧ (x.val.ref = true → 0 ≤ x.val.num)) := HE.out.2 x hmemx;have HJ : Hid ((I.listE (E.take i)).2.hs.length ≤ 8600 ∧ ∀ p ∈ (I.listE (E.take i)).2.hs, 0 ≤ p.2) := ⟨hhs, hnum⟩;have HFl : Hid ((flatE (I.listE (E.take i)).1).length ≤ 900) := hfl;have hRowLt : ∀ b, rowBlk (.slice va (flatE (I.listE (E.take i)).1).length vc) = some b → b < wr.heap.size := fun b hb => hRow6.lt hb;have HRow6 := Lib.hid hRow6;have HG6 := Lib.hid hG6
      have HRowLt := Lib.hid hRowLt;clear hf1 htk hfl hhs hnum hmemx hGr hcl hlinks hcu hub u0 hj hy hye hx hlt hjn hRow6 hG6 hRowLt HI HG5;generalize (I.listE (E.take i)).2 = J at *;generalize flatE (I.listE (E.take i)).1 = fl at *;obtain ⟨xk, xv⟩ := x;obtain ⟨xr, xn'⟩ := xv;simp only at k0 k1 k2 k3 k4;have hA : ∀ X, Chg (fun _ => False) wr (wr.alloc X) := fun X => (Chg.refl _ wr).alloc X;have c3A := fun X => cell_chg (hA X) c3 fun h => h;have u0A := fun X => cell_chg (hA X) u0r fun h => h;have k0A := fun X => cell_chg (hA X) k0 fun h => h;have k1A := fun X => cell_chg (hA X) k1 fun h => h;have k2A := fun X => cell_chg (hA X) k2 fun h => h;have k3A := fun X => cell_chg (hA X) k3 fun h => h
      have k4A := fun X => cell_chg (hA X) k4 fun h => h;clear hA
      go_upto_region 9 with fail
      go_cut [9] from 33 to 42 (fun s9 wx => ∃ b9, s9 = .pointer (some ⟨b9, 0, none⟩) ∧ wx.heap[b9]? = some (.cells #[.int .i64 q, .int .i64 (-1), .int .i64 xk, .bool xr, .int .i64 xn'] 144 (0, 0)) ∧ Hid (wr.heap.size ≤ b9 ∧ Chg (fun _ => False) wr wx))
      case first =>
       generalize len = len9 at *
       go_region
       all_goals (go_wp2; go_meet; exact ⟨_, rfl, by exact heap_alloc_new wr _, Lib.hid ⟨by simp, by first | exact ((Chg.refl _ _).alloc _).drewN _ | exact ((Chg.refl _ _).alloc _).drew | exact ((Chg.refl _ _).alloc _)⟩⟩)
      case rest =>
       obtain ⟨b9, rfl, hb9, HC9⟩ := hcut;have hP1 : LsG w5 wc pb hb Lg G J (fun b => rowBlk (.slice va fl.length vc) = some b ∨ b = b9) := HG6.out.turn (HC9.out.2.mono fun _ _ h => h.elim) fun b hb => hb.elim .inl fun e => .inr (by rw [e]; exact HC9.out.1);have hRow9 : Row wc 3 1 (.slice va fl.length vc) fl.length (intCells fl) := HRow6.out.same fun b hb => HC9.out.2.block b (HRow6.out.lt hb) fun h => h;have HGr := Lib.hid (hP1.grant (fun b hb => hb.elim (fun h => hRow9.lt h) fun e => e ▸ lt_of_block hb9) (by have := HJ.out.1; omega) HJ.out.2 xk);obtain ⟨fr, hfr⟩ : ∃ fr, fr = J.fresh := ⟨_, rfl⟩;rw [← hfr] at HGr;have HFr := Lib.hid hfr;have HRow9 := Lib.hid hRow9;have HB9 := Lib.hid hb9
       have HRowLt9 : Hid (∀ b, rowBlk (.slice va fl.length vc) = some b → b ≠ b9) := fun b hb e => by have := HRowLt.out b hb; have := HC9.out.1; omega
       have r2 := cellAt hb9 2;clear hP1 hRow9 hfr hb9 c3 k0 k1 k2 k3 k4 u0r c3A u0A k0A k1A k2A k3A k4A HRow6 HG6 HRowLt hjl
       go_wp2_with fail
       refine HGr.out.mono ?_; rintro e w6 ⟨rfl, H6⟩;have hRow6 : Row w6 3 1 (.slice va fl.length vc) fl.length (intCells fl) := HRow9.out.same fun b hb => H6.out.2.1 b (.inl hb);obtain ⟨a7, c7, w7, happ, hr7, hC7, hl7⟩ := appOne hRow6 fr (by have := HFl.out; omega);have h7 : LsG w5 w7 pb hb Lg G (J.grant xk) (fun b => rowBlk (.slice a7 (fl.length + 1) c7) = some b ∨ b = b9) := H6.out.1.turn (hC7.mono fun _ _ h => .inl h) fun b hb => by
        rcases hb with hb | hb
        · rcases hl7 b hb with h | h
          · exact .inl (.inl h)
          · exact .inr h
        · exact .inl (.inr hb)
       have hb6 : w6.heap[b9]? = some (.cells #[.int .i64 q, .int .i64 (-1), .int .i64 xk, .bool xr, .int .i64 xn'] 144 (0, 0)) := (H6.out.2.1 b9 (.inr rfl)).trans HB9.out;have hb7 := hC7.at hb6 fun h => HRowLt9.out b9 h rfl;have r0 := cellAt hb7 0;have r1 := cellAt hb7 1;have r2 := cellAt hb7 2;have r3 := cellAt hb7 3;have r4 := cellAt hb7 4;have HRd := Lib.hid (h7.read (fun b hb => hb.elim (fun h => hr7.lt h) fun e => e ▸ lt_of_block hb7) (by
        show (J.hs ++ [_]).length < 20000;have := HJ.out.1;simp only [List.length_append, List.length_singleton]; omega) (fun p hp => by
        have hp' : p ∈ J.hs ++ [(J.fresh, xk)] := hp;rcases List.mem_append.1 hp' with hp' | hp'
        · exact HJ.out.2 p hp'
        · simp only [List.mem_singleton] at hp';subst hp';exact HNx.out.1) (q : Int) ⟨xk, ⟨xr, xn'⟩⟩)
       have HR7 : Hid (Row w7 3 1 (.slice a7 (fl.length + 1) c7) (fl ++ [fr]).length (intCells (fl ++ [fr]))) := hr7;clear hRow6 hr7 hC7 hl7 h7 hb6 hb7 HGr HB9 HRow9 HRowLt9
       go_upto_region 11 with (at_builtin; go_must (refine wpList_val rfl (exec_append rfl (by exact happ)) ?_))
       clear happ
       go_wp2_with fail
       refine HRd.out.mono ?_; rintro e w8 ⟨bn, cn, rfl, hbn, n0, n1, H8⟩;have HBn := Lib.hid hbn;clear hbn;clear r0 r1 r2 r3 r4
       go_upto_region 12 with fail
       obtain ⟨w10, hw10⟩ : ∃ w10, w10 = w8.alloc (.cells #[.slice (some ⟨bn, 0, none⟩) 3 cn, .bool false, .int .i64 0, .int .i64 0] 101) := ⟨_, rfl⟩;have hC10 : Chg (fun _ => False) w8 w10 := by rw [hw10]; exact (Chg.refl _ w8).alloc _
       have hb10 : w10.heap[w8.heap.size]? = some (.cells #[.slice (some ⟨bn, 0, none⟩) 3 cn, .bool false, .int .i64 0, .int .i64 0] 101 (0, 0)) := by rw [hw10]; exact heap_alloc_new _ _
       obtain ⟨b10, hb10e⟩ : ∃ b10, b10 = w8.heap.size := ⟨_, rfl⟩;rw [← hb10e] at hb10;have n0' := cell_chg hC10 n0 fun h => h;have n1' := cell_chg hC10 n1 fun h => h;have HCg : Hid (∀ wx, Chg (fun _ => False) w10 wx → wx.cell? ⟨b10, 0, none⟩ = some (.slice (some ⟨bn, 0, none⟩) 3 cn) ∧ wx.cell? ⟨bn, 0, none⟩ = some (.int .i64 (bitI xr)) ∧ wx.cell? ⟨bn, 1, none⟩ = some (.int .i64 (if xr then (J.grant xk).fresh else xn'))) := fun wx hC => ⟨cellAt (hC.at hb10 fun h => h) 0, cell_chg hC n0' fun h => h, cell_chg hC n1' fun h => h⟩;have hRow8 : Row w8 3 1 (.slice a7 (fl.length + 1) c7) (fl ++ [fr]).length (intCells (fl ++ [fr])) := HR7.out.same fun b hb => H8.out.2.1 b (.inl hb)
       have hRow10 : Row w10 3 1 (.slice a7 (fl.length + 1) c7) (fl ++ [fr]).length (intCells (fl ++ [fr])) := hRow8.same fun b hb => hC10.block b (hRow8.lt hb) fun h => h;have HA : Hid (∀ W, Chg (fun _ => False) (w10.alloc (.cells #[.int .i64 (bitI xr), .int .i64 (if xr then (J.grant xk).fresh else xn')] 3)) W → ∃ a1 L1 cap1 w11, (Builtin.append_ #[23, 23] 23 #[.slice a7 (fl.length + 1) c7, .slice (some ⟨w10.heap.size, 0, none⟩) 2 2]).run Tryz.prog W = .ok (.slice a1 L1 cap1) w11 ∧
        Hid (LsG w5 w11 pb hb Lg G (I.listE (E.take (i + 1))).2 (fun b => rowBlk (.slice a1 L1 cap1) = some b) ∧ Row w11 3 1 (.slice a1 L1 cap1) (flatE (I.listE (E.take (i + 1))).1).length (intCells (flatE (I.listE (E.take (i + 1))).1))) ∧ w11.cell? ⟨b10, 0, none⟩ = some (.slice (some ⟨bn, 0, none⟩) 3 cn) ∧ w11.cell? ⟨bn, 0, none⟩ = some (.int .i64 (bitI xr)) ∧ w11.cell? ⟨bn, 1, none⟩ = some (.int .i64 (if xr then (J.grant xk).fresh else xn'))) := fun W hW => by
        obtain ⟨a1, L1, cap1, w11, happ, HH⟩ := appTwo hRow10 (bitI xr) (if xr then (J.grant xk).fresh else xn') (by have := HFl.out; simp; omega) hW;obtain ⟨g1, g2, g3⟩ := HH.out;have hne : ∀ b, w7.heap.size ≤ b → ¬ (rowBlk (.slice a7 (fl.length + 1) c7) = some b) := fun b hb e => by have := HR7.out.lt e; omega
        have hs8 := H8.out.2.2;obtain ⟨p0, p1, p2⟩ := HCg.out w10 (Chg.refl _ _);refine ⟨a1, L1, cap1, w11, happ, Lib.hid ⟨?_, ?_⟩, cell_chg g2 p0 (hne b10 (by omega)), cell_chg g2 p1 (hne bn HBn.out), cell_chg g2 p2 (hne bn HBn.out)⟩
        · rw [HF1.out.2];refine (H8.out.1.still hC10).turn (g2.mono fun b _ hb => .inl hb) fun b hb => ?_;rcases g3 b hb with h | h
          · exact .inl (.inl h)
          · exact .inr h
        · rw [HF1.out.1, ← HFr.out];exact g1
       have hCw : Hid (Chg (fun _ => False) w10 w10) := Chg.refl _ _;obtain ⟨q0, q1, q2⟩ := HCg.out w10 (Chg.refl _ _);rw [← hw10, ← hb10e];clear hw10 hb10e hC10 hb10 n0 n1 n0' n1' hRow8 hRow10 HRd HR7 H8 H6 HF1 HFr HJ HFl HNx;generalize (if xr = true then (J.grant xk).fresh else xn') = nn at *;generalize fl.length + 1 = L0 at *;generalize bitI xr = br at *
       go_region_held3 (fun wx => wx.cell? ⟨b10, 0, none⟩ = some (.slice (some ⟨bn, 0, none⟩) 3 cn) ∧ wx.cell? ⟨bn, 0, none⟩ = some (.int .i64 br) ∧ wx.cell? ⟨bn, 1, none⟩ = some (.int .i64 nn))
        (first | exact ⟨q0, q1, q2⟩ | exact HCg.out _ (hCw.out.drew) | exact HCg.out _ (hCw.out.drewN _) | exact HCg.out _ ((hCw.out.alloc _).drew) | exact HCg.out _ ((hCw.out.alloc _)) | exact HCg.out _ (hCw.out.drew.alloc _) | exact HCg.out _ ((hCw.out.alloc _).drewN _))
        (first
         | (obtain ⟨a1, L1, cap1, w11, happ, HI', q0, q1, q2⟩ := HA.out _ ((Chg.refl _ _).drew); refine step_val rfl (exec_append rfl happ) ?_)
         | (obtain ⟨a1, L1, cap1, w11, happ, HI', q0, q1, q2⟩ := HA.out _ ((Chg.refl _ _).drewN _); refine step_val rfl (exec_append rfl happ) ?_)
         | (obtain ⟨a1, L1, cap1, w11, happ, HI', q0, q1, q2⟩ := HA.out _ ((Chg.refl _ _)); refine step_val rfl (exec_append rfl happ) ?_))
       all_goals
        go_wp2
        go_roundw
        case rel => exact ⟨_, i + 1, rfl, by omega, by go_num, HI'⟩
        case measure => simp [intOf]; omega
    · obtain rfl : i = ln := by omega
      rw [List.take_of_length_le (by have := HLn.out; omega)] at HI hRow6 hG6;obtain ⟨Li, Gi, hRi, h2, hSim, hlinks, _⟩ := hG6.ex;have hGG : GGot w5 pb hb Lg Gi wr := ⟨hRi.more (fun b hb => (h2 b hb).elim (List.mem_append_left _) fun h => List.mem_append_right _ (mem_since.2 ⟨h, hRi.lgs b hb⟩)) (fun b hb => (List.mem_append.1 hb).elim (fun hb => by
       have := HL.out b hb;have := HC2.out.size;have := HC25.out.size;have := hG6.chg.size;omega) fun hb => (mem_since.1 hb).2), hG6.chg⟩
      have HTo := Lib.hid (told_g wr 0 hRow6 (by
       rw [flatE_len, (I.listE_lst _).out];have := HE.out.1;omega))
      have HGG := Lib.hid hGG;have HSim := Lib.hid hSim;have HLk : Hid (Gi.links.length ≤ G.links.length + 200) := by show _ ≤ _; rw [hlinks]; omega
      clear hGG hRi h2 hSim hlinks hG6 hRow6 HI HG5 HEL HRow;rw [List.take_of_length_le (by have := HLn.out; omega)] at *;generalize (flatE (I.listE E).1).length = fn at *
      go_wp2_with fail
      refine HTo.out.mono ?_; rintro e wt ⟨u, rfl, hTo, hCt⟩;obtain ⟨na, nn, nc, rfl, ⟨⟨_, u0⟩, ⟨_, u1⟩, ⟨_, u2⟩, ⟨_, u3⟩⟩, ⟨f0, f1, f2, f3⟩, hZ⟩ := do_end (fun e w' ⟨u, h1, h2⟩ => HK.out e w' ⟨u, h1, h2.w⟩) HL.out (HC2.out.trans HC25.out fun _ _ h => h) HB5.out HBB.out HGG.out HSim.out HLk.out hTo (Nat.lt_of_lt_of_le (lt_of_block HB5.out) HGG.out.chg.size) hCt;clear hTo hCt HK HTo;go_wp2;obtain ⟨s1, s2⟩ := hZ.out _ rfl;exact bodyPost_ret (results_cell_row rfl _ _ bb 101 _ (0, 0) _ rfl s1 HFs.out rfl zTold) rfl s2
theorem rbit_any (w : World) (b : Bool) : Calls Tryz.prog 129 #[.bool b] w fun e w' => e = .returned (.int .i64 (bitI b)) ∧ w = w' := by
 cases b
 all_goals
  go_enter Tryz.func129, Tryz.ntmps129
  go_wp2;go_ret;exact ⟨rfl, rfl⟩
theorem GSim.ofH (h : GSim G I) (ho : IOk I) (n : Int) : (I.hs.lookup n = none ∧ G.of n = -1) ∨ ∃ (q : Nat) (d : Nd), I.hs.lookup n = some (q : Int) ∧ G.of n = q ∧ I.nd q = some d ∧ d.gone = false := by
 rw [h.of];cases hl : I.hs.lookup n with
 | none => exact .inl ⟨rfl, rfl⟩
 | some x =>
   obtain ⟨d, hd, hg⟩ := ho.held hl;have hx0 := (IS.nd_nat hd).1;obtain ⟨q, rfl⟩ : ∃ q : Nat, x = q := ⟨x.toNat, (Int.toNat_of_nonneg hx0).symm⟩;exact .inr ⟨q, d, rfl, rfl, hd, hg⟩
theorem GRep.nodeC (hR : GRep w pb hb Lg G) (hS : GSim G I) {q : Nat} {d : Nd} (hd : I.nd q = some d) :
 ∃ bn cn, (q : Int) < (G.nodes.length : Int) ∧ w.cell? ⟨pb, 2, none⟩ = some (.slice (some ⟨bn, 0, none⟩) G.nodes.length cn) ∧ w.cell? ⟨bn, q * 4, none⟩ = some (.bool d.table) ∧ w.cell? ⟨bn, q * 4 + 1, none⟩ = some (.int .i64 d.tag) ∧ w.cell? ⟨bn, q * 4 + 2, none⟩ = some (.int .i64 d.flds.length) := by
 have hnode := hS.nodeAt hd;rw [Int.toNat_natCast] at hnode;obtain ⟨lab, v, hGr⟩ := hR;obtain ⟨an, cn, _, c2, hcn⟩ := hGr.nodesC;obtain ⟨bn, rfl, n0, n1, n2, _⟩ := hcn q _ hnode;exact ⟨bn, cn, by have := (List.getElem?_eq_some_iff.1 hnode).1; omega, c2, n0, n1, n2⟩
theorem roots_store {w6 : World} {L : List (Int × Int)} {v' : Value} (hR : GRep w pb hb Lg G) (hrow : Row w6 170 2 v' L.length (rtsCells L)) (hnew : ∀ b, rowBlk v' = some b → w.heap.size ≤ b) (hC : Chg (fun _ => False) w w6) :
 (∃ u, w6.cell? ⟨pb, 4, none⟩ = some u) ∧ w6.frozen? ⟨pb, 4, none⟩ = false ∧ GGot w pb hb Lg { G with roots := L } (w6.setCell ⟨pb, 4, none⟩ v') := by
 obtain ⟨lab, v, hG⟩ := hR;have h6 := hC.at hG.at_ fun h => h;have hpb := lt_of_block hG.at_;refine ⟨⟨_, cellAt h6 4⟩, freeAt h6 4, ?_⟩;have hne : ∀ b, rowBlk v' = some b → b ≠ pb := fun b hb e => by have := hnew b hb; omega
 refine hG.set 2 (by omega) (v1 := v') ((hC.mono fun _ _ h => h.elim).setCell (fun _ => .inr rfl) _) rfl ?_ (fun b hb => ⟨?_, .inr (hnew b hb)⟩) rfl rfl ?_ rfl rfl
 · rw [heap_setCell h6]; rfl
 · have := hrow.lt hb; simpa using this
 · show Row _ _ _ _ _ _;exact hrow.same fun b hb => heap_setCell_ne (hne b hb) _
theorem handles_isTable (hR : GRep w pb hb Lg G) (hS : GSim G I) (hO : IOk I) (kd a b : Int) (xc : Option Addr) (xn xm : Nat) (hq : kd % 18 = 9) :
 Calls Tryz.prog 102 #[.pointer (some ⟨pb, 1, none⟩), .agg #[.int .i64 kd, .int .i64 a, .int .i64 b, .slice xc xn xm]] w fun e w' => ∃ u, e = .returned u ∧ DoQ w pb hb Lg G I [bitI (I.isTable a).1, (I.isTable a).2] u w' := by
 refine ret_k fun K hK => ?_;have HK := Lib.hid hK;have HR := Lib.hid hR;have HS := Lib.hid hS;have HO := Lib.hid hO;have HL := Lib.hid hR.lgs;obtain ⟨fs, hfs⟩ := structOf sTold;have HFs := Lib.hid hfs;obtain ⟨w2, hw2⟩ : ∃ w2, w2 = (w.alloc (.cells #[.int .i64 kd, .int .i64 a, .int .i64 b, .slice xc xn xm] 33)).alloc (.cells #[.slice none 0 0, .bool false, .int .i64 0, .int .i64 0] 101) := ⟨_, rfl⟩;have hC2 : Chg (fun _ => False) w w2 := by rw [hw2]; exact ((Chg.refl _ w).alloc _).alloc _
 have hb2 : w2.heap[w.heap.size + 1]? = some (.cells #[.slice none 0 0, .bool false, .int .i64 0, .int .i64 0] 101 (0, 0)) := by rw [hw2]; exact heap_alloc2_new _ _ _
 have hb0 : w2.heap[w.heap.size]? = some (.cells #[.int .i64 kd, .int .i64 a, .int .i64 b, .slice xc xn xm] 33 (0, 0)) := by rw [hw2]; exact heap_alloc2_old _ _ _
 have HOf : Hid (∀ n wx, Chg (fun _ => False) w2 wx → Calls Tryz.prog 103 #[.pointer (some ⟨pb, 1, none⟩), .int .i64 n] wx fun e w' => e = .returned (.int .i64 (G.of n)) ∧ wx = w') := fun n wx hC => of_g ((HR.out.still hC2).still hC) n;have hWh := which_any w2 kd a b xc xn xm;rw [hq] at hWh;have HWh := Lib.hid hWh;have HC2 := Lib.hid hC2;have HB2 := Lib.hid hb2;have HQ : Hid (∀ wx, Chg (fun _ => False) w2 wx → wx.cell? ⟨w.heap.size, 0, none⟩ = some (.int .i64 kd) ∧ wx.cell? ⟨w.heap.size, 1, none⟩ = some (.int .i64 a) ∧ wx.cell? ⟨w.heap.size, 2, none⟩ = some (.int .i64 b) ∧ wx.cell? ⟨w.heap.size, 3, none⟩ = some (.slice xc xn xm)) := fun wx hC => by
  have h := hC.at hb0 fun h => h;exact ⟨cellAt h 0, cellAt h 1, cellAt h 2, cellAt h 3⟩
 clear hK hR hS hO hfs hC2 hb2 hb0 hWh hq
 go_enter Tryz.func102, Tryz.ntmps102
 go_upto_region 1 with fail
 rw [← hw2];obtain ⟨bb, hbb⟩ : ∃ bb, bb = w.heap.size + 1 := ⟨_, rfl⟩;have HBB : Hid (w.heap.size ≤ bb) := by show _ ≤ _; omega
 rw [← hbb] at HB2 ⊢;obtain ⟨b0, hb0⟩ : ∃ b0, b0 = w.heap.size := ⟨_, rfl⟩;rw [← hb0] at HQ ⊢;clear hw2 hbb hb0;obtain ⟨q0, q1, q2, q3⟩ := HQ.out w2 (Chg.refl _ _);have hOfa := HOf.out a w2 (Chg.refl _ _)
 go_wp2_with fail
 refine hOfa.mono ?_; rintro e w9 ⟨rfl, rfl⟩;clear hOfa
 go_wp2_with fail
 refine HWh.out.mono ?_; rintro e w3 ⟨rfl, hC3⟩;have HC3 := Lib.hid hC3;clear q0 q1 q2 q3 hC3 HWh;obtain ⟨q0, q1, q2, q3⟩ := HQ.out w3 HC3.out;rcases HS.out.ofH HO.out a with ⟨hl, ho⟩ | ⟨q, d, hl, ho, hd, hg⟩
 · have e0 : I.isTable a = (false, 221) := by unfold IS.isTable; rw [hl]
   rw [e0] at HK;rw [ho];clear hl ho e0;have HTo := Lib.hid (told_nums (w1 := w3) 221 (l := [0]) (by simp) (by simp))
   go_wp2_with fail
   refine HTo.out.mono ?_; rintro e wg ⟨u, rfl, hTo, hCg⟩;have hb3 := HC3.out.at HB2.out fun h => h;obtain ⟨na, nn, nc, rfl, ⟨⟨_, u0⟩, ⟨_, u1⟩, ⟨_, u2⟩, ⟨_, u3⟩⟩, ⟨f0, f1, f2, f3⟩, hZ⟩ := do_end HK.out HL.out (HC2.out.trans HC3.out fun _ _ h => h) hb3 HBB.out (((HR.out.still HC2.out).still HC3.out).same (Chg.refl _ _)) HS.out (Nat.le_add_right _ _) hTo (lt_of_block hb3) hCg;clear hTo hCg hb3 HTo HK;go_wp2;obtain ⟨s1, s2⟩ := hZ.out _ rfl;exact bodyPost_ret (results_cell_row rfl _ _ bb 101 _ (0, 0) _ rfl s1 HFs.out rfl zTold) rfl s2
 · have e0 : I.isTable a = (d.table, 0) := by unfold IS.isTable; rw [hl]; simp only [hd]; rfl
   rw [e0] at HK;rw [ho];obtain ⟨bn, cn, hqn, c2, n0, _, _⟩ := ((HR.out.still HC2.out).still HC3.out).nodeC HS.out hd;have hq0 : ¬ ((q : Int) < 0) := by omega
   have HBt := Lib.hid (rbit_any w3 d.table);clear hl ho e0 hd hg;generalize G.nodes.length = nl at *;generalize d.table = dt at *
   go_wp2_with fail
   refine HBt.out.mono ?_; rintro e w9 ⟨rfl, rfl⟩;have HTo := Lib.hid (told_nums (w1 := w3) 0 (l := [bitI dt]) (by simp) (by simp))
   go_wp2_with fail
   refine HTo.out.mono ?_; rintro e wg ⟨u, rfl, hTo, hCg⟩;have hb3 := HC3.out.at HB2.out fun h => h;obtain ⟨na, nn, nc, rfl, ⟨⟨_, u0⟩, ⟨_, u1⟩, ⟨_, u2⟩, ⟨_, u3⟩⟩, ⟨f0, f1, f2, f3⟩, hZ⟩ := do_end HK.out HL.out (HC2.out.trans HC3.out fun _ _ h => h) hb3 HBB.out (((HR.out.still HC2.out).still HC3.out).same (Chg.refl _ _)) HS.out (Nat.le_add_right _ _) hTo (lt_of_block hb3) hCg;clear hTo hCg hb3 HTo HK;go_wp2;obtain ⟨s1, s2⟩ := hZ.out _ rfl;exact bodyPost_ret (results_cell_row rfl _ _ bb 101 _ (0, 0) _ rfl s1 HFs.out rfl zTold) rfl s2
theorem handles_same (hR : GRep w pb hb Lg G) (hS : GSim G I) (hO : IOk I) (kd a b : Int) (xc : Option Addr) (xn xm : Nat) (hq : kd % 18 = 10) :
 Calls Tryz.prog 102 #[.pointer (some ⟨pb, 1, none⟩), .agg #[.int .i64 kd, .int .i64 a, .int .i64 b, .slice xc xn xm]] w fun e w' => ∃ u, e = .returned u ∧ DoQ w pb hb Lg G I [bitI (I.same a b).1, (I.same a b).2] u w' := by
 refine ret_k fun K hK => ?_;have HK := Lib.hid hK;have HR := Lib.hid hR;have HS := Lib.hid hS;have HO := Lib.hid hO;have HL := Lib.hid hR.lgs;obtain ⟨fs, hfs⟩ := structOf sTold;have HFs := Lib.hid hfs;obtain ⟨w2, hw2⟩ : ∃ w2, w2 = (w.alloc (.cells #[.int .i64 kd, .int .i64 a, .int .i64 b, .slice xc xn xm] 33)).alloc (.cells #[.slice none 0 0, .bool false, .int .i64 0, .int .i64 0] 101) := ⟨_, rfl⟩;have hC2 : Chg (fun _ => False) w w2 := by rw [hw2]; exact ((Chg.refl _ w).alloc _).alloc _
 have hb2 : w2.heap[w.heap.size + 1]? = some (.cells #[.slice none 0 0, .bool false, .int .i64 0, .int .i64 0] 101 (0, 0)) := by rw [hw2]; exact heap_alloc2_new _ _ _
 have hb0 : w2.heap[w.heap.size]? = some (.cells #[.int .i64 kd, .int .i64 a, .int .i64 b, .slice xc xn xm] 33 (0, 0)) := by rw [hw2]; exact heap_alloc2_old _ _ _
 have HOf : Hid (∀ n wx, Chg (fun _ => False) w2 wx → Calls Tryz.prog 103 #[.pointer (some ⟨pb, 1, none⟩), .int .i64 n] wx fun e w' => e = .returned (.int .i64 (G.of n)) ∧ wx = w') := fun n wx hC => of_g ((HR.out.still hC2).still hC) n;have hWh := which_any w2 kd a b xc xn xm;rw [hq] at hWh;have HWh := Lib.hid hWh;have HC2 := Lib.hid hC2;have HB2 := Lib.hid hb2;have HQ : Hid (∀ wx, Chg (fun _ => False) w2 wx → wx.cell? ⟨w.heap.size, 0, none⟩ = some (.int .i64 kd) ∧ wx.cell? ⟨w.heap.size, 1, none⟩ = some (.int .i64 a) ∧ wx.cell? ⟨w.heap.size, 2, none⟩ = some (.int .i64 b) ∧ wx.cell? ⟨w.heap.size, 3, none⟩ = some (.slice xc xn xm)) := fun wx hC => by
  have h := hC.at hb0 fun h => h;exact ⟨cellAt h 0, cellAt h 1, cellAt h 2, cellAt h 3⟩
 clear hK hR hS hO hfs hC2 hb2 hb0 hWh hq
 go_enter Tryz.func102, Tryz.ntmps102
 go_upto_region 1 with fail
 rw [← hw2];obtain ⟨bb, hbb⟩ : ∃ bb, bb = w.heap.size + 1 := ⟨_, rfl⟩;have HBB : Hid (w.heap.size ≤ bb) := by show _ ≤ _; omega
 rw [← hbb] at HB2 ⊢;obtain ⟨b0, hb0⟩ : ∃ b0, b0 = w.heap.size := ⟨_, rfl⟩;rw [← hb0] at HQ ⊢;clear hw2 hbb hb0;obtain ⟨q0, q1, q2, q3⟩ := HQ.out w2 (Chg.refl _ _);have hOfa := HOf.out a w2 (Chg.refl _ _)
 go_wp2_with fail
 refine hOfa.mono ?_; rintro e w9 ⟨rfl, rfl⟩;clear hOfa
 go_wp2_with fail
 refine HWh.out.mono ?_; rintro e w3 ⟨rfl, hC3⟩;have HC3 := Lib.hid hC3;clear q0 q1 q2 q3 hC3 HWh;obtain ⟨q0, q1, q2, q3⟩ := HQ.out w3 HC3.out;rcases HS.out.ofH HO.out a with ⟨hl, ho⟩ | ⟨q, d, hl, ho, hd, hg⟩
 · have e0 : I.same a b = (false, 221) := by unfold IS.same; rw [hl]
   rw [e0] at HK;rw [ho];clear hl ho e0;have HTo := Lib.hid (told_nums (w1 := w3) 221 (l := [0]) (by simp) (by simp))
   go_wp2_with fail
   refine HTo.out.mono ?_; rintro e wg ⟨u, rfl, hTo, hCg⟩;have hb3 := HC3.out.at HB2.out fun h => h;obtain ⟨na, nn, nc, rfl, ⟨⟨_, u0⟩, ⟨_, u1⟩, ⟨_, u2⟩, ⟨_, u3⟩⟩, ⟨f0, f1, f2, f3⟩, hZ⟩ := do_end HK.out HL.out (HC2.out.trans HC3.out fun _ _ h => h) hb3 HBB.out (((HR.out.still HC2.out).still HC3.out).same (Chg.refl _ _)) HS.out (Nat.le_add_right _ _) hTo (lt_of_block hb3) hCg;clear hTo hCg hb3 HTo HK;go_wp2;obtain ⟨s1, s2⟩ := hZ.out _ rfl;exact bodyPost_ret (results_cell_row rfl _ _ bb 101 _ (0, 0) _ rfl s1 HFs.out rfl zTold) rfl s2
 · rw [ho];have hq0 : ¬ ((q : Int) < 0) := by omega
   have hOfb := HOf.out b w3 HC3.out;rcases HS.out.ofH HO.out b with ⟨hl2, ho2⟩ | ⟨q', d', hl2, ho2, hd2, hg2⟩
   · have e0 : I.same a b = (false, 221) := by unfold IS.same; rw [hl]; simp only [hl2]
     rw [e0] at HK;rw [ho2] at hOfb;clear hl ho e0 hd hg hl2 ho2
     go_wp2_with fail
     refine hOfb.mono ?_; rintro e w9 ⟨rfl, rfl⟩;have HTo := Lib.hid (told_nums (w1 := w3) 221 (l := [0]) (by simp) (by simp))
     go_wp2_with fail
     refine HTo.out.mono ?_; rintro e wg ⟨u, rfl, hTo, hCg⟩;have hb3 := HC3.out.at HB2.out fun h => h;obtain ⟨na, nn, nc, rfl, ⟨⟨_, u0⟩, ⟨_, u1⟩, ⟨_, u2⟩, ⟨_, u3⟩⟩, ⟨f0, f1, f2, f3⟩, hZ⟩ := do_end HK.out HL.out (HC2.out.trans HC3.out fun _ _ h => h) hb3 HBB.out (((HR.out.still HC2.out).still HC3.out).same (Chg.refl _ _)) HS.out (Nat.le_add_right _ _) hTo (lt_of_block hb3) hCg;clear hTo hCg hb3 HTo HK;go_wp2;obtain ⟨s1, s2⟩ := hZ.out _ rfl;exact bodyPost_ret (results_cell_row rfl _ _ bb 101 _ (0, 0) _ rfl s1 HFs.out rfl zTold) rfl s2
   · have e0 : I.same a b = (decide ((q : Int) = (q' : Int)), 0) := by unfold IS.same; rw [hl]; simp only [hl2]
     rw [e0] at HK;rw [ho2] at hOfb;have hq1 : ¬ ((q' : Int) < 0) := by omega
     have HBt := Lib.hid (fun c => rbit_any w3 c);clear hl ho e0 hd hg hl2 ho2 hd2 hg2;by_cases hqq : q = q'
     · subst hqq;have e1 : decide ((q : Int) = (q : Int)) = true := by simp
       rw [e1] at HK;clear e1
       go_wp2_with fail
       refine hOfb.mono ?_; rintro e w9 ⟨rfl, rfl⟩
       go_wp2_with fail
       refine hOfb.mono ?_; rintro e w9 ⟨rfl, rfl⟩
       go_wp2_with fail
       refine (HBt.out true).mono ?_; rintro e w9 ⟨rfl, rfl⟩;have HTo := Lib.hid (told_nums (w1 := w3) 0 (l := [bitI true]) (by simp) (by simp))
       go_wp2_with fail
       refine HTo.out.mono ?_; rintro e wg ⟨u, rfl, hTo, hCg⟩;have hb3 := HC3.out.at HB2.out fun h => h;obtain ⟨na, nn, nc, rfl, ⟨⟨_, u0⟩, ⟨_, u1⟩, ⟨_, u2⟩, ⟨_, u3⟩⟩, ⟨f0, f1, f2, f3⟩, hZ⟩ := do_end HK.out HL.out (HC2.out.trans HC3.out fun _ _ h => h) hb3 HBB.out (((HR.out.still HC2.out).still HC3.out).same (Chg.refl _ _)) HS.out (Nat.le_add_right _ _) hTo (lt_of_block hb3) hCg;clear hTo hCg hb3 HTo HK;go_wp2;obtain ⟨s1, s2⟩ := hZ.out _ rfl;exact bodyPost_ret (results_cell_row rfl _ _ bb 101 _ (0, 0) _ rfl s1 HFs.out rfl zTold) rfl s2
     · have e1 : decide ((q : Int) = (q' : Int)) = false := decide_eq_false (by omega);rw [e1] at HK;have e2 : ((q : Int) == (q' : Int)) = false := beq_eq_false_iff_ne.2 (by omega);have e3 : ¬ ((q : Int) = (q' : Int)) := by omega
       clear e1
       go_wp2_with fail
       refine hOfb.mono ?_; rintro e w9 ⟨rfl, rfl⟩
       go_wp2_with fail
       refine hOfb.mono ?_; rintro e w9 ⟨rfl, rfl⟩
       go_wp2_with fail
       refine (HBt.out false).mono ?_; rintro e w9 ⟨rfl, rfl⟩;have HTo := Lib.hid (told_nums (w1 := w3) 0 (l := [bitI false]) (by simp) (by simp))
       go_wp2_with fail
       refine HTo.out.mono ?_; rintro e wg ⟨u, rfl, hTo, hCg⟩;have hb3 := HC3.out.at HB2.out fun h => h;obtain ⟨na, nn, nc, rfl, ⟨⟨_, u0⟩, ⟨_, u1⟩, ⟨_, u2⟩, ⟨_, u3⟩⟩, ⟨f0, f1, f2, f3⟩, hZ⟩ := do_end HK.out HL.out (HC2.out.trans HC3.out fun _ _ h => h) hb3 HBB.out (((HR.out.still HC2.out).still HC3.out).same (Chg.refl _ _)) HS.out (Nat.le_add_right _ _) hTo (lt_of_block hb3) hCg;clear hTo hCg hb3 HTo HK;go_wp2;obtain ⟨s1, s2⟩ := hZ.out _ rfl;exact bodyPost_ret (results_cell_row rfl _ _ bb 101 _ (0, 0) _ rfl s1 HFs.out rfl zTold) rfl s2
theorem handles_dup (hR : GRep w pb hb Lg G) (hS : GSim G I) (hO : IOk I) (hroots : G.roots.length < 20000) (kd a b : Int) (xc : Option Addr) (xn xm : Nat) (hq : kd % 18 = 11) :
 Calls Tryz.prog 102 #[.pointer (some ⟨pb, 1, none⟩), .agg #[.int .i64 kd, .int .i64 a, .int .i64 b, .slice xc xn xm]] w fun e w' => ∃ u, e = .returned u ∧ DoQ w pb hb Lg G (I.dup a).2.2 [(I.dup a).1, (I.dup a).2.1] u w' := by
 refine ret_k fun K hK => ?_;have HRt : Hid (G.roots.length < 20000) := hroots;have HK := Lib.hid hK;have HR := Lib.hid hR;have HS := Lib.hid hS;have HO := Lib.hid hO;have HL := Lib.hid hR.lgs;obtain ⟨fs, hfs⟩ := structOf sTold;have HFs := Lib.hid hfs;obtain ⟨w2, hw2⟩ : ∃ w2, w2 = (w.alloc (.cells #[.int .i64 kd, .int .i64 a, .int .i64 b, .slice xc xn xm] 33)).alloc (.cells #[.slice none 0 0, .bool false, .int .i64 0, .int .i64 0] 101) := ⟨_, rfl⟩;have hC2 : Chg (fun _ => False) w w2 := by rw [hw2]; exact ((Chg.refl _ w).alloc _).alloc _
 have hb2 : w2.heap[w.heap.size + 1]? = some (.cells #[.slice none 0 0, .bool false, .int .i64 0, .int .i64 0] 101 (0, 0)) := by rw [hw2]; exact heap_alloc2_new _ _ _
 have hb0 : w2.heap[w.heap.size]? = some (.cells #[.int .i64 kd, .int .i64 a, .int .i64 b, .slice xc xn xm] 33 (0, 0)) := by rw [hw2]; exact heap_alloc2_old _ _ _
 have HOf : Hid (∀ n wx, Chg (fun _ => False) w2 wx → Calls Tryz.prog 103 #[.pointer (some ⟨pb, 1, none⟩), .int .i64 n] wx fun e w' => e = .returned (.int .i64 (G.of n)) ∧ wx = w') := fun n wx hC => of_g ((HR.out.still hC2).still hC) n;have hWh := which_any w2 kd a b xc xn xm;rw [hq] at hWh;have HWh := Lib.hid hWh;have HC2 := Lib.hid hC2;have HB2 := Lib.hid hb2;have HQ : Hid (∀ wx, Chg (fun _ => False) w2 wx → wx.cell? ⟨w.heap.size, 0, none⟩ = some (.int .i64 kd) ∧ wx.cell? ⟨w.heap.size, 1, none⟩ = some (.int .i64 a) ∧ wx.cell? ⟨w.heap.size, 2, none⟩ = some (.int .i64 b) ∧ wx.cell? ⟨w.heap.size, 3, none⟩ = some (.slice xc xn xm)) := fun wx hC => by
  have h := hC.at hb0 fun h => h;exact ⟨cellAt h 0, cellAt h 1, cellAt h 2, cellAt h 3⟩
 clear hK hR hS hO hfs hC2 hb2 hb0 hWh hq
 go_enter Tryz.func102, Tryz.ntmps102
 go_upto_region 1 with fail
 rw [← hw2];obtain ⟨bb, hbb⟩ : ∃ bb, bb = w.heap.size + 1 := ⟨_, rfl⟩;have HBB : Hid (w.heap.size ≤ bb) := by show _ ≤ _; omega
 rw [← hbb] at HB2 ⊢;obtain ⟨b0, hb0⟩ : ∃ b0, b0 = w.heap.size := ⟨_, rfl⟩;rw [← hb0] at HQ ⊢;clear hw2 hbb hb0;obtain ⟨q0, q1, q2, q3⟩ := HQ.out w2 (Chg.refl _ _);have hOfa := HOf.out a w2 (Chg.refl _ _)
 go_wp2_with fail
 refine hOfa.mono ?_; rintro e w9 ⟨rfl, rfl⟩;clear hOfa
 go_wp2_with fail
 refine HWh.out.mono ?_; rintro e w3 ⟨rfl, hC3⟩;have HC3 := Lib.hid hC3;clear q0 q1 q2 q3 hC3 HWh;obtain ⟨q0, q1, q2, q3⟩ := HQ.out w3 HC3.out;clear hroots;rcases HS.out.ofH HO.out a with ⟨hl, ho⟩ | ⟨q, d, hl, ho, hd, hg⟩
 · have e0 : I.dup a = (0, 221, I) := by unfold IS.dup; rw [hl]
   rw [e0] at HK;rw [ho];clear hl ho e0;have HTo := Lib.hid (told_nums (w1 := w3) 221 (l := [0]) (by simp) (by simp))
   go_wp2_with fail
   refine HTo.out.mono ?_; rintro e wg ⟨u, rfl, hTo, hCg⟩;have hb3 := HC3.out.at HB2.out fun h => h;obtain ⟨na, nn, nc, rfl, ⟨⟨_, u0⟩, ⟨_, u1⟩, ⟨_, u2⟩, ⟨_, u3⟩⟩, ⟨f0, f1, f2, f3⟩, hZ⟩ := do_end HK.out HL.out (HC2.out.trans HC3.out fun _ _ h => h) hb3 HBB.out (((HR.out.still HC2.out).still HC3.out).same (Chg.refl _ _)) HS.out (Nat.le_add_right _ _) hTo (lt_of_block hb3) hCg;clear hTo hCg hb3 HTo HK;go_wp2;obtain ⟨s1, s2⟩ := hZ.out _ rfl;exact bodyPost_ret (results_cell_row rfl _ _ bb 101 _ (0, 0) _ rfl s1 HFs.out rfl zTold) rfl s2
 · have e0 : I.dup a = (I.fresh, 0, I.grant q) := by unfold IS.dup; rw [hl]
   rw [e0] at HK;rw [ho];have hq0 : ¬ ((q : Int) < 0) := by omega
   have hR3 := (HR.out.still HC2.out).still HC3.out;have HMany := Lib.hid (many_g hR3 HRt.out);have hGr := grant_g hR3 HRt.out (HS.out.rootsN HO.out) (q : Int);rw [HS.out.fresh] at hGr;have HGr := Lib.hid hGr;clear hl ho e0 hd hg hR3 hGr
   go_wp2_with fail
   refine HMany.out.mono ?_; rintro e w9 ⟨rfl, rfl⟩
   go_wp2_with fail
   refine HGr.out.mono ?_; rintro e w9 ⟨rfl, hGG⟩;have HGG := Lib.hid hGG;have HSim := Lib.hid (HS.out.grant (q : Int));have HLt9 : Hid (w3.heap.size ≤ w9.heap.size) := hGG.chg.size;clear hGG;have HTo := Lib.hid (told_nums (w1 := w9) 0 (l := [I.fresh]) (by simp) (by simp))
   go_wp2_with fail
   refine HTo.out.mono ?_; rintro e wg ⟨u, rfl, hTo, hCg⟩;have hb3 := HC3.out.at HB2.out fun h => h;obtain ⟨na, nn, nc, rfl, ⟨⟨_, u0⟩, ⟨_, u1⟩, ⟨_, u2⟩, ⟨_, u3⟩⟩, ⟨f0, f1, f2, f3⟩, hZ⟩ := do_end HK.out HL.out (HC2.out.trans HC3.out fun _ _ h => h) hb3 HBB.out HGG.out HSim.out (Nat.le_add_right _ _) hTo (Nat.lt_of_lt_of_le (lt_of_block hb3) HLt9.out) hCg;clear hTo hCg hb3 HTo HK;go_wp2;obtain ⟨s1, s2⟩ := hZ.out _ rfl;exact bodyPost_ret (results_cell_row rfl _ _ bb 101 _ (0, 0) _ rfl s1 HFs.out rfl zTold) rfl s2
theorem handles_tag (hR : GRep w pb hb Lg G) (hS : GSim G I) (hO : IOk I) (kd a b : Int) (xc : Option Addr) (xn xm : Nat) (hq : kd % 18 = 17) :
 Calls Tryz.prog 102 #[.pointer (some ⟨pb, 1, none⟩), .agg #[.int .i64 kd, .int .i64 a, .int .i64 b, .slice xc xn xm]] w fun e w' => ∃ u, e = .returned u ∧ DoQ w pb hb Lg G I [(I.tagOf a).1, (I.tagOf a).2.1, (I.tagOf a).2.2] u w' := by
 refine ret_k fun K hK => ?_;have HK := Lib.hid hK;have HR := Lib.hid hR;have HS := Lib.hid hS;have HO := Lib.hid hO;have HL := Lib.hid hR.lgs;obtain ⟨fs, hfs⟩ := structOf sTold;have HFs := Lib.hid hfs;obtain ⟨w2, hw2⟩ : ∃ w2, w2 = (w.alloc (.cells #[.int .i64 kd, .int .i64 a, .int .i64 b, .slice xc xn xm] 33)).alloc (.cells #[.slice none 0 0, .bool false, .int .i64 0, .int .i64 0] 101) := ⟨_, rfl⟩;have hC2 : Chg (fun _ => False) w w2 := by rw [hw2]; exact ((Chg.refl _ w).alloc _).alloc _
 have hb2 : w2.heap[w.heap.size + 1]? = some (.cells #[.slice none 0 0, .bool false, .int .i64 0, .int .i64 0] 101 (0, 0)) := by rw [hw2]; exact heap_alloc2_new _ _ _
 have hb0 : w2.heap[w.heap.size]? = some (.cells #[.int .i64 kd, .int .i64 a, .int .i64 b, .slice xc xn xm] 33 (0, 0)) := by rw [hw2]; exact heap_alloc2_old _ _ _
 have HOf : Hid (∀ n wx, Chg (fun _ => False) w2 wx → Calls Tryz.prog 103 #[.pointer (some ⟨pb, 1, none⟩), .int .i64 n] wx fun e w' => e = .returned (.int .i64 (G.of n)) ∧ wx = w') := fun n wx hC => of_g ((HR.out.still hC2).still hC) n;have hWh := which_any w2 kd a b xc xn xm;rw [hq] at hWh;have HWh := Lib.hid hWh;have HC2 := Lib.hid hC2;have HB2 := Lib.hid hb2;have HQ : Hid (∀ wx, Chg (fun _ => False) w2 wx → wx.cell? ⟨w.heap.size, 0, none⟩ = some (.int .i64 kd) ∧ wx.cell? ⟨w.heap.size, 1, none⟩ = some (.int .i64 a) ∧ wx.cell? ⟨w.heap.size, 2, none⟩ = some (.int .i64 b) ∧ wx.cell? ⟨w.heap.size, 3, none⟩ = some (.slice xc xn xm)) := fun wx hC => by
  have h := hC.at hb0 fun h => h;exact ⟨cellAt h 0, cellAt h 1, cellAt h 2, cellAt h 3⟩
 clear hK hR hS hO hfs hC2 hb2 hb0 hWh hq
 go_enter Tryz.func102, Tryz.ntmps102
 go_upto_region 1 with fail
 rw [← hw2];obtain ⟨bb, hbb⟩ : ∃ bb, bb = w.heap.size + 1 := ⟨_, rfl⟩;have HBB : Hid (w.heap.size ≤ bb) := by show _ ≤ _; omega
 rw [← hbb] at HB2 ⊢;obtain ⟨b0, hb0⟩ : ∃ b0, b0 = w.heap.size := ⟨_, rfl⟩;rw [← hb0] at HQ ⊢;clear hw2 hbb hb0;obtain ⟨q0, q1, q2, q3⟩ := HQ.out w2 (Chg.refl _ _);have hOfa := HOf.out a w2 (Chg.refl _ _)
 go_wp2_with fail
 refine hOfa.mono ?_; rintro e w9 ⟨rfl, rfl⟩;clear hOfa
 go_wp2_with fail
 refine HWh.out.mono ?_; rintro e w3 ⟨rfl, hC3⟩;have HC3 := Lib.hid hC3;clear q0 q1 q2 q3 hC3 HWh;obtain ⟨q0, q1, q2, q3⟩ := HQ.out w3 HC3.out;rcases HS.out.ofH HO.out a with ⟨hl, ho⟩ | ⟨q, d, hl, ho, hd, hg⟩
 · have e0 : I.tagOf a = (0, 0, 221) := by unfold IS.tagOf; rw [hl]
   rw [e0] at HK;rw [ho];clear hl ho e0;have HTo := Lib.hid (told_nums (w1 := w3) 221 (l := [0, 0]) (by simp) (by simp))
   go_wp2_with fail
   refine HTo.out.mono ?_; rintro e wg ⟨u, rfl, hTo, hCg⟩;have hb3 := HC3.out.at HB2.out fun h => h;obtain ⟨na, nn, nc, rfl, ⟨⟨_, u0⟩, ⟨_, u1⟩, ⟨_, u2⟩, ⟨_, u3⟩⟩, ⟨f0, f1, f2, f3⟩, hZ⟩ := do_end HK.out HL.out (HC2.out.trans HC3.out fun _ _ h => h) hb3 HBB.out (((HR.out.still HC2.out).still HC3.out).same (Chg.refl _ _)) HS.out (Nat.le_add_right _ _) hTo (lt_of_block hb3) hCg;clear hTo hCg hb3 HTo HK;go_wp2;obtain ⟨s1, s2⟩ := hZ.out _ rfl;exact bodyPost_ret (results_cell_row rfl _ _ bb 101 _ (0, 0) _ rfl s1 HFs.out rfl zTold) rfl s2
 · rw [ho];have hq0 : ¬ ((q : Int) < 0) := by omega
   obtain ⟨bn, cn, hqn, c2, n0, n1, n2⟩ := ((HR.out.still HC2.out).still HC3.out).nodeC HS.out hd;cases ht : d.table with
   | true =>
     have e0 : I.tagOf a = (0, 0, 223) := by unfold IS.tagOf; rw [hl]; simp only [hd, ht, if_true]
     rw [e0] at HK;rw [ht] at n0;clear hl ho e0 hd hg ht n1 n2;generalize G.nodes.length = nl at *;have HTo := Lib.hid (told_nums (w1 := w3) 223 (l := [0, 0]) (by simp) (by simp))
     go_wp2_with fail
     refine HTo.out.mono ?_; rintro e wg ⟨u, rfl, hTo, hCg⟩;have hb3 := HC3.out.at HB2.out fun h => h;obtain ⟨na, nn, nc, rfl, ⟨⟨_, u0⟩, ⟨_, u1⟩, ⟨_, u2⟩, ⟨_, u3⟩⟩, ⟨f0, f1, f2, f3⟩, hZ⟩ := do_end HK.out HL.out (HC2.out.trans HC3.out fun _ _ h => h) hb3 HBB.out (((HR.out.still HC2.out).still HC3.out).same (Chg.refl _ _)) HS.out (Nat.le_add_right _ _) hTo (lt_of_block hb3) hCg;clear hTo hCg hb3 HTo HK;go_wp2;obtain ⟨s1, s2⟩ := hZ.out _ rfl;exact bodyPost_ret (results_cell_row rfl _ _ bb 101 _ (0, 0) _ rfl s1 HFs.out rfl zTold) rfl s2
   | false =>
     have e0 : I.tagOf a = (d.tag, (d.flds.length : Int), 0) := by unfold IS.tagOf; rw [hl]; simp only [hd, ht, Bool.false_eq_true, if_false]
     rw [e0] at HK;rw [ht] at n0;have HCl : Hid (∀ wx, Chg (fun _ => False) w3 wx → wx.cell? ⟨pb, 2, none⟩ = some (.slice (some ⟨bn, 0, none⟩) G.nodes.length cn) ∧ wx.cell? ⟨bn, q * 4 + 1, none⟩ = some (.int .i64 d.tag) ∧ wx.cell? ⟨bn, q * 4 + 2, none⟩ = some (.int .i64 d.flds.length)) := fun wx hC => ⟨cell_chg hC c2 fun h => h, cell_chg hC n1 fun h => h, cell_chg hC n2 fun h => h⟩;have HPin : Hid (pb ∈ Lg) := by obtain ⟨lab, v, hGr⟩ := HR.out; exact hGr.pin
     have HBn : Hid (bn < w.heap.size) := by
      obtain ⟨lab, v, hGr⟩ := HR.out;obtain ⟨an, cn', _, c2', hcn'⟩ := hGr.nodesC;have hnode := HS.out.nodeAt hd;rw [Int.toNat_natCast] at hnode;obtain ⟨bn', rfl, m0, _⟩ := hcn' q _ hnode;have c2'' := cell_chg (HC2.out.trans HC3.out fun _ _ h => h) c2' fun h => h;rw [c2] at c2'';simp only [Option.some.injEq, Value.slice.injEq, Addr.mk.injEq, and_true, true_and] at c2'';obtain ⟨rfl, _⟩ := c2'';exact World.block_lt_of_cell? w _ m0
     have HTo : Hid (∀ W, Chg (fun _ => False) (w3.alloc (.cells #[.int .i64 d.tag, .int .i64 d.flds.length] 3)) W → Calls Tryz.prog 100 #[.int .i64 0, .slice (some ⟨w3.heap.size, 0, none⟩) 2 2] W fun e wt => ∃ na nn nc, e = .returned (.agg #[.slice na nn nc, .bool false, .int .i64 0, .int .i64 0]) ∧ (wt.cell? ⟨pb, 2, none⟩ = some (.slice (some ⟨bn, 0, none⟩) G.nodes.length cn) ∧ wt.cell? ⟨bn, q * 4 + 1, none⟩ = some (.int .i64 d.tag) ∧ wt.cell? ⟨bn, q * 4 + 2, none⟩ = some (.int .i64 d.flds.length)) ∧ ((∃ u, wt.cell? ⟨bb, 0, none⟩ = some u) ∧ (∃ u, wt.cell? ⟨bb, 1, none⟩ = some u) ∧ (∃ u, wt.cell? ⟨bb, 2, none⟩ = some u) ∧ (∃ u, wt.cell? ⟨bb, 3, none⟩ = some u)) ∧
      (wt.frozen? ⟨bb, 0, none⟩ = false ∧ wt.frozen? ⟨bb, 1, none⟩ = false ∧ wt.frozen? ⟨bb, 2, none⟩ = false ∧ wt.frozen? ⟨bb, 3, none⟩ = false) ∧
      Hid (∀ W, W = ((((wt.setCell ⟨bb, 0, none⟩ (.slice na nn nc)).setCell ⟨bb, 1, none⟩ (.bool false)).setCell ⟨bb, 2, none⟩ (.int .i64 0)).setCell ⟨bb, 3, none⟩ (.int .i64 0)) →
       W.heap[bb]? = some (.cells #[.slice na nn nc, .bool false, .int .i64 0, .int .i64 0] 101 (0, 0)) ∧ Post K (.returned (.agg #[.slice na nn nc, .bool false, .int .i64 0, .int .i64 0])) W ∧ (W.cell? ⟨pb, 2, none⟩ = some (.slice (some ⟨bn, 0, none⟩) G.nodes.length cn) ∧ W.cell? ⟨bn, q * 4 + 1, none⟩ = some (.int .i64 d.tag) ∧ W.cell? ⟨bn, q * 4 + 2, none⟩ = some (.int .i64 d.flds.length)))) := fun W hW => by
      have hCA : Chg (fun _ => False) w3 (w3.alloc (.cells #[.int .i64 d.tag, .int .i64 d.flds.length] 3)) := (Chg.refl _ _).alloc _;have hB := (IRow.block w3 (l := [d.tag, (d.flds.length : Int)]) (by simp) (by simp [maxLen])).row;refine (told_g W 0 (hB.same fun b hb => hW.block b (hB.lt hb) fun h => h) (by simp)).mono ?_;rintro e wt ⟨u, rfl, hTo, hCg⟩;have hWt := (hCA.trans hW fun _ _ h => h).trans hCg fun _ _ h => h;have hb3 := HC3.out.at HB2.out fun h => h;have hsz := (hCA.trans hW fun _ _ h => h).size;have hlt := lt_of_block hb3
      obtain ⟨na, nn, nc, rfl, h1, h2, hZ⟩ := do_end HK.out HL.out (HC2.out.trans HC3.out fun _ _ h => h) hb3 HBB.out (((HR.out.still HC2.out).still HC3.out).same (Chg.refl _ _)) HS.out (Nat.le_add_right _ _) hTo (by omega) hWt;refine ⟨na, nn, nc, rfl, HCl.out wt hWt, h1, h2, Lib.hid fun W hW => ⟨(hZ.out W hW).1, (hZ.out W hW).2, ?_⟩⟩;obtain ⟨p0, p1, p2⟩ := HCl.out wt hWt;have hCs : Chg (fun b => b = bb) wt W := by
       rw [hW];exact ((((Chg.refl (fun b => b = bb) wt).setCell (p := ⟨bb, 0, none⟩) (fun _ => rfl) _).setCell (p := ⟨bb, 1, none⟩) (fun _ => rfl) _).setCell (p := ⟨bb, 2, none⟩) (fun _ => rfl) _).setCell (p := ⟨bb, 3, none⟩) (fun _ => rfl) _
      have hpb := HL.out pb HPin.out;have hbn := HBn.out;have := HBB.out;exact ⟨cell_chg hCs p0 (fun e => by simp only at e; omega), cell_chg hCs p1 (fun e => by simp only at e; omega), cell_chg hCs p2 (fun e => by simp only at e; omega)⟩
     have hCw : Hid (Chg (fun _ => False) w3 w3) := Chg.refl _ _;clear hl ho e0 hd hg ht HK;generalize G.nodes.length = nl at *;generalize d.flds.length = dl at *;generalize d.tag = dt at *
     go_upto_region 32 with fail
     clear n0
     go_region_held3 (fun wx => wx.cell? ⟨pb, 2, none⟩ = some (.slice (some ⟨bn, 0, none⟩) nl cn) ∧ wx.cell? ⟨bn, q * 4 + 1, none⟩ = some (.int .i64 dt) ∧ wx.cell? ⟨bn, q * 4 + 2, none⟩ = some (.int .i64 dl))
      (first | exact ⟨c2, n1, n2⟩ | exact (hZ.out _ rfl).2.2 | exact HCl.out _ (hCw.out.drew) | exact HCl.out _ (hCw.out.drewN _) | exact HCl.out _ ((hCw.out.alloc _).drew) | exact HCl.out _ ((hCw.out.alloc _)) | exact HCl.out _ (hCw.out.drew.alloc _) | exact HCl.out _ ((hCw.out.alloc _).drewN _))
      (first
       | (go_at_call 100; refine (HTo.out _ ((Chg.refl _ _).drew)).mono ?_; rintro e wt ⟨na, nn, nc, rfl, ⟨c2, n1, n2⟩, ⟨⟨_, u0⟩, ⟨_, u1⟩, ⟨_, u2⟩, ⟨_, u3⟩⟩, ⟨f0, f1, f2, f3⟩, hZ⟩)
       | (go_at_call 100; refine (HTo.out _ ((Chg.refl _ _).drewN _)).mono ?_; rintro e wt ⟨na, nn, nc, rfl, ⟨c2, n1, n2⟩, ⟨⟨_, u0⟩, ⟨_, u1⟩, ⟨_, u2⟩, ⟨_, u3⟩⟩, ⟨f0, f1, f2, f3⟩, hZ⟩)
       | (go_at_call 100; refine (HTo.out _ (Chg.refl _ _)).mono ?_; rintro e wt ⟨na, nn, nc, rfl, ⟨c2, n1, n2⟩, ⟨⟨_, u0⟩, ⟨_, u1⟩, ⟨_, u2⟩, ⟨_, u3⟩⟩, ⟨f0, f1, f2, f3⟩, hZ⟩))
     all_goals
      go_wp2;obtain ⟨s1, s2, _⟩ := hZ.out _ rfl;exact bodyPost_ret (results_cell_row rfl _ _ bb 101 _ (0, 0) _ rfl s1 HFs.out rfl zTold) rfl s2
def keepR (l : List (Int × Int)) (a : Int) (i : Nat) : List (Int × Int) := (l.take i).filter fun p => p.1 ≠ a
theorem keepR_next {l : List (Int × Int)} {a : Int} {i : Nat} {p : Int × Int} (hp : l[i]? = some p) : keepR l a (i + 1) = keepR l a i ++ if p.1 = a then [] else [p] := by
 unfold keepR;rw [List.take_add_one, hp, List.filter_append];by_cases h : p.1 = a <;> simp [h]
theorem keepR_len (l : List (Int × Int)) (a : Int) (i : Nat) : (keepR l a i).length ≤ i := by
 have h1 := List.length_filter_le (fun p : Int × Int => decide (p.1 ≠ a)) (l.take i);have h2 := List.length_take_le i l;unfold keepR; omega
theorem handles_drop (hR : GRep w pb hb Lg G) (hS : GSim G I) (hO : IOk I) (hroots : G.roots.length < 20000) (kd a b : Int) (xc : Option Addr) (xn xm : Nat) (hq : kd % 18 = 12) :
 Calls Tryz.prog 102 #[.pointer (some ⟨pb, 1, none⟩), .agg #[.int .i64 kd, .int .i64 a, .int .i64 b, .slice xc xn xm]] w fun e w' => ∃ u, e = .returned u ∧ DoQ w pb hb Lg G (I.drop a).2 [(I.drop a).1] u w' := by
 refine ret_k fun K hK => ?_;have HRt : Hid (G.roots.length < 20000) := hroots;have HK := Lib.hid hK;have HR := Lib.hid hR;have HS := Lib.hid hS;have HO := Lib.hid hO;have HL := Lib.hid hR.lgs;obtain ⟨fs, hfs⟩ := structOf sTold;have HFs := Lib.hid hfs;obtain ⟨w2, hw2⟩ : ∃ w2, w2 = (w.alloc (.cells #[.int .i64 kd, .int .i64 a, .int .i64 b, .slice xc xn xm] 33)).alloc (.cells #[.slice none 0 0, .bool false, .int .i64 0, .int .i64 0] 101) := ⟨_, rfl⟩;have hC2 : Chg (fun _ => False) w w2 := by rw [hw2]; exact ((Chg.refl _ w).alloc _).alloc _
 have hb2 : w2.heap[w.heap.size + 1]? = some (.cells #[.slice none 0 0, .bool false, .int .i64 0, .int .i64 0] 101 (0, 0)) := by rw [hw2]; exact heap_alloc2_new _ _ _
 have hb0 : w2.heap[w.heap.size]? = some (.cells #[.int .i64 kd, .int .i64 a, .int .i64 b, .slice xc xn xm] 33 (0, 0)) := by rw [hw2]; exact heap_alloc2_old _ _ _
 have HOf : Hid (∀ n wx, Chg (fun _ => False) w2 wx → Calls Tryz.prog 103 #[.pointer (some ⟨pb, 1, none⟩), .int .i64 n] wx fun e w' => e = .returned (.int .i64 (G.of n)) ∧ wx = w') := fun n wx hC => of_g ((HR.out.still hC2).still hC) n;have hWh := which_any w2 kd a b xc xn xm;rw [hq] at hWh;have HWh := Lib.hid hWh;have HC2 := Lib.hid hC2;have HB2 := Lib.hid hb2;have HQ : Hid (∀ wx, Chg (fun _ => False) w2 wx → wx.cell? ⟨w.heap.size, 0, none⟩ = some (.int .i64 kd) ∧ wx.cell? ⟨w.heap.size, 1, none⟩ = some (.int .i64 a) ∧ wx.cell? ⟨w.heap.size, 2, none⟩ = some (.int .i64 b) ∧ wx.cell? ⟨w.heap.size, 3, none⟩ = some (.slice xc xn xm)) := fun wx hC => by
  have h := hC.at hb0 fun h => h;exact ⟨cellAt h 0, cellAt h 1, cellAt h 2, cellAt h 3⟩
 clear hK hR hS hO hfs hC2 hb2 hb0 hWh hq
 go_enter Tryz.func102, Tryz.ntmps102
 go_upto_region 1 with fail
 rw [← hw2];obtain ⟨bb, hbb⟩ : ∃ bb, bb = w.heap.size + 1 := ⟨_, rfl⟩;have HBB : Hid (w.heap.size ≤ bb) := by show _ ≤ _; omega
 rw [← hbb] at HB2 ⊢;obtain ⟨b0, hb0⟩ : ∃ b0, b0 = w.heap.size := ⟨_, rfl⟩;rw [← hb0] at HQ ⊢;clear hw2 hbb hb0;obtain ⟨q0, q1, q2, q3⟩ := HQ.out w2 (Chg.refl _ _);have hOfa := HOf.out a w2 (Chg.refl _ _)
 go_wp2_with fail
 refine hOfa.mono ?_; rintro e w9 ⟨rfl, rfl⟩;clear hOfa
 go_wp2_with fail
 refine HWh.out.mono ?_; rintro e w3 ⟨rfl, hC3⟩;have HC3 := Lib.hid hC3;clear q0 q1 q2 q3 hC3 HWh;obtain ⟨q0, q1, q2, q3⟩ := HQ.out w3 HC3.out;clear hroots;rcases HS.out.ofH HO.out a with ⟨hl, ho⟩ | ⟨q, d, hl, ho, hd, hg⟩
 · have e0 : I.drop a = (221, I) := by unfold IS.drop; rw [hl]
   rw [e0] at HK;rw [ho];have HTo := Lib.hid (told_er w3 221);clear hl ho e0
   go_wp2_with fail
   refine HTo.out.mono ?_; rintro e wg ⟨u, rfl, hTo, hCg⟩;have hb3 := HC3.out.at HB2.out fun h => h;obtain ⟨na, nn, nc, rfl, ⟨⟨_, u0⟩, ⟨_, u1⟩, ⟨_, u2⟩, ⟨_, u3⟩⟩, ⟨f0, f1, f2, f3⟩, hZ⟩ := do_end HK.out HL.out (HC2.out.trans HC3.out fun _ _ h => h) hb3 HBB.out (((HR.out.still HC2.out).still HC3.out).same (Chg.refl _ _)) HS.out (Nat.le_add_right _ _) hTo (lt_of_block hb3) hCg;clear hTo hCg hb3 HTo HK;go_wp2;obtain ⟨s1, s2⟩ := hZ.out _ rfl;exact bodyPost_ret (results_cell_row rfl _ _ bb 101 _ (0, 0) _ rfl s1 HFs.out rfl zTold) rfl s2
 · have e0 : I.drop a = (0, { I with hs := delH I.hs a }) := by unfold IS.drop; rw [hl]
   rw [e0] at HK;rw [ho];have hq0 : ¬ ((q : Int) < 0) := by omega
   have hR3 := (HR.out.still HC2.out).still HC3.out;obtain ⟨nr, hnr⟩ : ∃ nr, nr = G.roots.length := ⟨_, rfl⟩;have HNr : Hid (nr = G.roots.length ∧ nr < 20000) := ⟨hnr, by rw [hnr]; exact HRt.out⟩;have HC4 : Hid (∀ wx, Chg (fun _ => False) w3 wx → ∃ al cl, wx.cell? ⟨pb, 4, none⟩ = some (.slice al nr cl) ∧ ∀ i x, G.roots[i]? = some x → ∃ b, al = some ⟨b, 0, none⟩ ∧ wx.cell? ⟨b, i * 2, none⟩ = some (.int .i64 x.1) ∧ wx.cell? ⟨b, i * 2 + 1, none⟩ = some (.int .i64 x.2)) := fun wx hC => by
    obtain ⟨lab, v, hG⟩ := hR3.still hC;obtain ⟨al, cl, _, _, c4, hcl⟩ := hG.roots;exact ⟨al, cl, by rw [hnr]; exact c4, hcl⟩
   have HR3 := Lib.hid hR3;clear hl ho e0 hd hg hR3 hnr;go_wp2
   go_loopw [6, 7] (fun s6 s7 wr => ∃ (v : Value) (i : Nat), v = s6 ∧ i ≤ nr ∧ s7 = .int .i64 i ∧ Hid (Chg (fun _ => False) w3 wr ∧ Row wr 170 2 v (keepR G.roots a i).length (rtsCells (keepR G.roots a i)) ∧ ∀ b, rowBlk v = some b → w3.heap.size ≤ b)) (fun _ s7 _ => nr - (intOf s7).toNat)
   case atStart => exact ⟨_, 0, rfl, by omega, rfl, Lib.hid ⟨Chg.refl _ _, Row.nil _ _ _, fun b hb => by simp [rowBlk] at hb⟩⟩
   case round =>
    obtain ⟨v, i, rfl, hi, rfl, HI⟩ := hrel;obtain ⟨hCr, hRow, hnew⟩ := HI.out;obtain ⟨va, vc, rfl, _, _, _⟩ := hRow.slice;obtain ⟨al, cl, c4, hcl⟩ := HC4.out wr hCr;by_cases hlt : i < nr
    · have hlt' : (i : Int) < (nr : Int) := by omega
      have hwi : IntKind.i64.wrap ((i : Int) + 1) = (i : Int) + 1 := IntWalk.i64_in _ (by have := HNr.out.2; omega);obtain ⟨p, hp⟩ : ∃ p, G.roots[i]? = some p := ⟨_, List.getElem?_eq_getElem (by rw [← HNr.out.1]; exact hlt)⟩;obtain ⟨bl, rfl, k0, k1⟩ := hcl i p hp;have HNx := Lib.hid (keepR_next (a := a) hp);have HLe := Lib.hid (keepR_len G.roots a i);obtain ⟨_, q1r, _, _⟩ := HQ.out wr (HC3.out.trans hCr fun _ _ h => h);obtain ⟨p1, p2⟩ := p;simp only at k0 k1;by_cases hpa : p1 = a
      · subst hpa;have HI2 : Hid (∀ wx, Chg (fun _ => False) wr wx → Chg (fun _ => False) w3 wx ∧ Row wx 170 2 (.slice va (keepR G.roots p1 i).length vc) (keepR G.roots p1 (i + 1)).length (rtsCells (keepR G.roots p1 (i + 1))) ∧ ∀ b, rowBlk (.slice va (keepR G.roots p1 i).length vc) = some b → w3.heap.size ≤ b) := fun wx hC => by
         refine ⟨hCr.trans hC fun _ _ h => h, ?_, hnew⟩;have e : keepR G.roots p1 (i + 1) = keepR G.roots p1 i := by rw [HNx.out]; simp
         rw [e];exact hRow.same fun b hb => hC.block b (hRow.lt hb) fun h => h
        clear hcl hp hCr hRow hnew HI hlt q0 q1 q2 q3
        go_upto_region 24 with fail
        go_cut [92] from 82 to 92 (fun s92 wx => s92 = .bool false ∧ Hid (Chg (fun _ => False) wr wx))
        case first =>
         go_quiet (fail)
         all_goals (go_wp2; go_meet; exact ⟨by first | rfl | simp, Lib.hid (by first | exact Chg.refl _ _ | exact (Chg.refl _ _).drewN _ | exact (Chg.refl _ _).drew)⟩)
        case rest =>
         obtain ⟨rfl, HCx⟩ := hcut;have HI3 := Lib.hid (HI2.out _ HCx.out);clear c4 k0 k1 q1r HI2;go_wp2
         go_roundw
         case rel => exact ⟨_, i + 1, rfl, by omega, by go_num, HI3⟩
         case measure => simp [intOf]; omega
      · have h2 : decide (p1 = a) = false := decide_eq_false hpa;have h4 : (p1 == a) = false := beq_eq_false_iff_ne.2 hpa;have HA : Hid (∀ wx, Chg (fun _ => False) wr wx → ∃ a3 L3 c3 w3', (Builtin.append_ #[91, 91] 91 #[.slice va (keepR G.roots a i).length vc, .slice (some ⟨wx.heap.size, 0, none⟩) 1 1]).run Tryz.prog (wx.alloc (.cells #[.int .i64 p1, .int .i64 p2] 170)) = .ok (.slice a3 L3 c3) w3' ∧
         Hid (Chg (fun _ => False) w3 w3' ∧ Row w3' 170 2 (.slice a3 L3 c3) (keepR G.roots a (i + 1)).length (rtsCells (keepR G.roots a (i + 1))) ∧ ∀ b, rowBlk (.slice a3 L3 c3) = some b → w3.heap.size ≤ b)) := fun wx hC => by
         have hRx := hRow.same fun b hb => hC.block b (hRow.lt hb) fun h => h;obtain ⟨a3, c3, w3', happ, hrow3, hC3', hloc3⟩ := app_struct 91 170 2 16 _ uRoots iRoot rfl (by decide) (f := rtCells) (fun _ => rfl) (fun x u hu => by simp only [rtCells, List.mem_cons, List.not_mem_nil, or_false] at hu; rcases hu with rfl | rfl <;> rfl) hRx (p1, p2) (by have := HLe.out; have := HNr.out.2; omega) (by have := HLe.out; have := HNr.out.2; omega);have e : keepR G.roots a (i + 1) = keepR G.roots a i ++ [(p1, p2)] := by rw [HNx.out]; simp [hpa]
         have hs := (hCr.trans hC fun _ _ h => h).size;refine ⟨a3, _, c3, w3', happ, Lib.hid ⟨(hCr.trans hC fun _ _ h => h).trans hC3' fun b hb e => by have := hnew b e; omega, ?_, fun b hb => ?_⟩⟩
         · rw [e]; exact hrow3
         · rcases hloc3 b hb with h | h
           · exact hnew b h
           · omega
        have HHc : Hid (∀ wx, Chg (fun _ => False) wr wx → wx.cell? ⟨pb, 4, none⟩ = some (.slice (some ⟨bl, 0, none⟩) nr cl) ∧ wx.cell? ⟨bl, i * 2, none⟩ = some (.int .i64 p1) ∧ wx.cell? ⟨bl, i * 2 + 1, none⟩ = some (.int .i64 p2)) := fun wx hC => ⟨cell_chg hC c4 fun h => h, cell_chg hC k0 fun h => h, cell_chg hC k1 fun h => h⟩;clear hcl hp hCr hRow hnew HI hlt q0 q1 q2 q3
        go_upto_region 24 with fail
        go_cut [92] from 82 to 92 (fun s92 wx => s92 = .bool true ∧ Hid (Chg (fun _ => False) wr wx))
        case first =>
         go_quiet (fail)
         all_goals (go_wp2; go_meet; exact ⟨by first | rfl | simpa using hpa | simp [h2] | simp [h4], Lib.hid (by first | exact Chg.refl _ _ | exact (Chg.refl _ _).drewN _ | exact (Chg.refl _ _).drew)⟩)
        case rest =>
         obtain ⟨rfl, HCx⟩ := hcut;obtain ⟨a3, L3, c3, w3', happ, HI3⟩ := HA.out _ HCx.out;obtain ⟨c4x, k0x, k1x⟩ := HHc.out _ HCx.out;clear c4 k0 k1 q1r HA HHc h2 h4 hpa
         go_wp2_with (at_builtin; go_must (refine wpList_val rfl (exec_append rfl (by exact happ)) ?_))
         go_roundw
         case rel => exact ⟨_, i + 1, rfl, by omega, by go_num, HI3⟩
         case measure => simp [intOf]; omega
    · obtain rfl : i = nr := by omega
      have e : keepR G.roots a i = delH G.roots a := by
       unfold keepR delH;rw [List.take_of_length_le (by have := HNr.out.1; omega)]
      rw [e] at hRow hnew;obtain ⟨⟨_, g0⟩, g1, hGG⟩ := roots_store HR3.out hRow hnew hCr;have HGG := Lib.hid hGG;have HSim : Hid (GSim { G with roots := delH G.roots a } { I with hs := delH I.hs a }) := HS.out.same rfl rfl rfl HS.out.room (by show delH G.roots a = delH I.hs a; rw [HS.out.roots]) HS.out.wanted HS.out.queue;have HLt9 : Hid (w3.heap.size ≤ (wr.setCell ⟨pb, 4, none⟩ (.slice va (delH G.roots a).length vc)).heap.size) := hGG.chg.size;clear hGG hRow hnew hCr HI hcl;rw [e];clear e
      go_upto_region 27 with fail
      clear c4 g0 g1;generalize wr.setCell ⟨pb, 4, none⟩ (.slice va (delH G.roots a).length vc) = w9 at *;have HTo := Lib.hid (told_er w9 0)
      go_wp2_with fail
      refine HTo.out.mono ?_; rintro e wg ⟨u, rfl, hTo, hCg⟩;have hb3 := HC3.out.at HB2.out fun h => h;obtain ⟨na, nn, nc, rfl, ⟨⟨_, u0⟩, ⟨_, u1⟩, ⟨_, u2⟩, ⟨_, u3⟩⟩, ⟨f0, f1, f2, f3⟩, hZ⟩ := do_end HK.out HL.out (HC2.out.trans HC3.out fun _ _ h => h) hb3 HBB.out HGG.out HSim.out (Nat.le_add_right _ _) hTo (Nat.lt_of_lt_of_le (lt_of_block hb3) HLt9.out) hCg;clear hTo hCg hb3 HTo HK;go_wp2;obtain ⟨s1, s2⟩ := hZ.out _ rfl;exact bodyPost_ret (results_cell_row rfl _ _ bb 101 _ (0, 0) _ rfl s1 HFs.out rfl zTold) rfl s2
end Go.Proofs.YtelghmmcbgfjnaaGreat
