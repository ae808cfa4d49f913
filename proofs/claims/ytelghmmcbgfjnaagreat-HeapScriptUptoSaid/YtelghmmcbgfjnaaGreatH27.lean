/-
  last of the reference's graph: Finalize, Next. (A part of the proof, joined of: Sf, Sg, Sh, Si; made smaller.)
-/
import Derived.Test.YtelghmmcbgfjnaaGreatH26
set_option maxHeartbeats 8000000
set_option maxRecDepth 100000
namespace Go.Proofs.YtelghmmcbgfjnaaGreat
variable {F cs : List Wd} {G G' : GS} {I : IS} {Lg Li : List Nat} {W W' w w5 : World} {hb i pb vb : Nat} {l : List Int} {v : Value}
open Go.RowKit
theorem GRep.queueTail {x : Int} (hR : GRep w pb hb Lg G) (hq : G.queue = x :: l) :
 ∃ b off cap, w.cell? ⟨pb, 6, none⟩ = some (.slice (some ⟨b, off, none⟩) (l.length + 1) (cap + 1)) ∧ w.cell? ⟨b, off, none⟩ = some (.int .i64 x) ∧ w.frozen? ⟨pb, 6, none⟩ = false ∧
   ∀ a, (cap = 0 → a = ⟨b, off, none⟩) → (cap ≠ 0 → a = ⟨b, off + 1, none⟩) → GGot w pb hb Lg { G with queue := l } (w.setCell ⟨pb, 6, none⟩ (.slice (some a) l.length cap)) := by
 obtain ⟨lab, v, hG⟩ := hR;have hr4 := hG.r4;rw [hq] at hr4;obtain ⟨h1, ⟨h2, _⟩ | ⟨b, off, cap, cur, hv, h3, h4, h5, h6, h7⟩⟩ := hr4
 · cases h2
 · have hcells : w.cell? ⟨pb, 6, none⟩ = some (v 4) := cellAt hG.at_ 6;have hc0 : w.cell? ⟨b, off, none⟩ = some (.int .i64 x) := by
    rw [cellAt h3];have h8 := congrArg (fun l => l[0]?) h7;simp only [List.length_cons, List.getElem?_take_of_lt (Nat.succ_pos _), List.getElem?_drop, Nat.add_zero, Array.getElem?_toList] at h8;rw [h8]; rfl
   have hbpb : b ≠ pb := fun e => by
    subst e;have h8 := (hG.vlab 4 b (by omega) (by rw [hv]; rfl)).1;have := hG.plab;omega
   refine ⟨b, off, cap, by rw [hcells, hv]; rfl, hc0, freeAt hG.at_ 6, fun a ha0 ha1 => ?_⟩;have hset := heap_setCell hG.at_ 6 (.slice (some a) l.length cap);refine hG.set 4 (by omega) (v1 := .slice (some a) l.length cap) ((Chg.refl _ w).setCell (p := ⟨pb, 6, none⟩) (fun _ => .inr rfl) _) rfl (by rw [hset]; rfl) (fun b' hb' => ?_) rfl rfl rfl rfl ?_
   · cases cap with
     | zero => simp [rowBlk] at hb'
     | succ c =>
       rw [ha1 (by omega)] at hb';simp only [rowBlk, Option.some.injEq] at hb';subst hb';have := lt_of_block h3;exact ⟨by simpa using this, .inl (by rw [hv]; rfl)⟩
   · show QRow _ _ l;refine ⟨by simp only [List.length_cons] at h1; show l.length ≤ maxLen; omega, ?_⟩;simp only [List.length_cons] at h4 h7;cases cap with
     | zero =>
       have : l = [] := List.eq_nil_of_length_eq_zero (by omega);subst this;exact .inl ⟨rfl, some a, rfl⟩
     | succ c =>
       rw [ha1 (by omega)];refine .inr ⟨b, off + 1, c, cur, rfl, by rw [heap_setCell_ne hbpb]; exact h3, by omega, by omega, by omega, ?_⟩;have h8 := congrArg (fun l : List Value => l.drop 1) h7;simp only [List.drop_take, List.drop_drop] at h8;simpa [intCells] using h8
theorem wanted_app (hR : GRep w pb hb Lg G) (hl : G.wanted.length ≤ 100000) (x : Int) :
 ∃ a c a3 c3 w3, w.cell? ⟨pb, 5, none⟩ = some (.slice a G.wanted.length c) ∧
   (Builtin.append_ #[23, 23] 23 #[.slice a G.wanted.length c, .slice (some ⟨w.heap.size, 0, none⟩) 1 1]).run Tryz.prog (w.alloc (.cells #[.int .i64 x] 3)) = .ok (.slice a3 (G.wanted.length + 1) c3) w3 ∧
   (∃ u, w3.cell? ⟨pb, 5, none⟩ = some u) ∧ w3.frozen? ⟨pb, 5, none⟩ = false ∧
   GGot w pb hb Lg { G with wanted := G.wanted ++ [x] } (w3.setCell ⟨pb, 5, none⟩ (.slice a3 (G.wanted.length + 1) c3)) := by
 obtain ⟨lab, v, hG⟩ := hR;obtain ⟨a, c, ev, c4, _⟩ := hG.wantedC;obtain ⟨a3, c3, w3, happ, hrow3, hC3, hloc3⟩ := appOne hG.r3 x (by omega);have hpb : ¬ rowBlk (v 3) = some pb := fun e => by have := (hG.vlab 3 pb (by omega) e).1; have := hG.plab; omega
 have h3 := hC3.at hG.at_ hpb;rw [ev] at happ;refine ⟨a, c, a3, c3, w3, c4, happ, ⟨_, cellAt h3 5⟩, freeAt h3 5, ?_⟩;have hlt3 := lt_of_block h3;have hC4 : Chg (fun b => rowBlk (v 3) = some b ∨ b = pb) w (w3.setCell ⟨pb, 5, none⟩ (.slice a3 (G.wanted.length + 1) c3)) := (hC3.mono fun _ _ h => .inl h).setCell (fun _ => .inr rfl) _;have hother : ∀ b, b ≠ pb → (w3.setCell ⟨pb, 5, none⟩ (.slice a3 (G.wanted.length + 1) c3)).heap[b]? = w3.heap[b]? := fun b hb => heap_setCell_ne hb _;have hnpb : ∀ b, rowBlk (.slice a3 (G.wanted.length + 1) c3) = some b → b ≠ pb := fun b hb e => by
  subst e;rcases hloc3 b hb with h5 | h5
  · exact hpb h5
  · have := lt_of_block hG.at_; omega
 refine hG.set 3 (by omega) (v1 := .slice a3 (G.wanted.length + 1) c3) hC4 rfl ?_ (fun b hb => ⟨?_, hloc3 b hb⟩) rfl rfl rfl ?_ rfl
 · rw [heap_setCell h3]; rfl
 · have := hrow3.lt hb; simpa using this
 · show Row _ _ _ _ _ _;exact hrow3.same fun b hb => hother b (hnpb b hb)
theorem last_next (hR : GRep w pb hb Lg G) (hS : GSim G I) (hO : IOk I) (hroots : G.roots.length < 20000) (kd a b : Int) (xc : Option Addr) (xn xm : Nat) (hq : kd % 18 = 14) :
 Calls Tryz.prog 99 #[.pointer (some ⟨pb, 1, none⟩), .agg #[.int .i64 kd, .int .i64 a, .int .i64 b, .slice xc xn xm]] w fun e w' => ∃ u, e = .returned u ∧ DoQ w pb hb Lg G I.next.2.2.2 [I.next.1, bitI I.next.2.1, I.next.2.2.1] u w' := by
 refine ret_k fun K hK => ?_;have HRt : Hid (G.roots.length < 20000) := hroots;have HK := Lib.hid hK;have HR := Lib.hid hR;have HS := Lib.hid hS;have HO := Lib.hid hO;have HL := Lib.hid hR.lgs;obtain ⟨fs, hfs⟩ := structOf sTold;have HFs := Lib.hid hfs;obtain ⟨w2, hw2⟩ : ∃ w2, w2 = (w.alloc (.cells #[.int .i64 kd, .int .i64 a, .int .i64 b, .slice xc xn xm] 33)).alloc (.cells #[.slice none 0 0, .bool false, .int .i64 0, .int .i64 0] 101) := ⟨_, rfl⟩;have hC2 : Chg (fun _ => False) w w2 := by rw [hw2]; exact ((Chg.refl _ w).alloc _).alloc _
 have hb2 : w2.heap[w.heap.size + 1]? = some (.cells #[.slice none 0 0, .bool false, .int .i64 0, .int .i64 0] 101 (0, 0)) := by rw [hw2]; exact heap_alloc2_new _ _ _
 have hb0 : w2.heap[w.heap.size]? = some (.cells #[.int .i64 kd, .int .i64 a, .int .i64 b, .slice xc xn xm] 33 (0, 0)) := by rw [hw2]; exact heap_alloc2_old _ _ _
 have HOf : Hid (∀ n wx, Chg (fun _ => False) w2 wx → Calls Tryz.prog 103 #[.pointer (some ⟨pb, 1, none⟩), .int .i64 n] wx fun e w' => e = .returned (.int .i64 (G.of n)) ∧ wx = w') := fun n wx hC => of_g ((HR.out.still hC2).still hC) n;have hWh := which_any w2 kd a b xc xn xm;rw [hq] at hWh;have HWh := Lib.hid hWh;have HC2 := Lib.hid hC2;have HB2 := Lib.hid hb2;have HQ : Hid (∀ wx, Chg (fun _ => False) w2 wx → wx.cell? ⟨w.heap.size, 0, none⟩ = some (.int .i64 kd) ∧ wx.cell? ⟨w.heap.size, 1, none⟩ = some (.int .i64 a) ∧ wx.cell? ⟨w.heap.size, 2, none⟩ = some (.int .i64 b) ∧ wx.cell? ⟨w.heap.size, 3, none⟩ = some (.slice xc xn xm)) := fun wx hC => by
  have h := hC.at hb0 fun h => h;exact ⟨cellAt h 0, cellAt h 1, cellAt h 2, cellAt h 3⟩
 clear hK hR hS hO hfs hC2 hb2 hb0 hWh hq
 go_enter Tryz.func99, Tryz.ntmps99
 go_upto_region 1 with fail
 rw [← hw2];obtain ⟨bb, hbb⟩ : ∃ bb, bb = w.heap.size + 1 := ⟨_, rfl⟩;have HBB : Hid (w.heap.size ≤ bb) := by show _ ≤ _; omega
 rw [← hbb] at HB2 ⊢;obtain ⟨b0, hb0⟩ : ∃ b0, b0 = w.heap.size := ⟨_, rfl⟩;rw [← hb0] at HQ ⊢;clear hw2 hbb hb0;obtain ⟨q0, q1, q2, q3⟩ := HQ.out w2 (Chg.refl _ _)
 go_wp2_with fail
 refine HWh.out.mono ?_; rintro e w3 ⟨rfl, hC3⟩;have HC3 := Lib.hid hC3;clear q0 q1 q2 q3 hC3 HWh;obtain ⟨q0, q1, q2, q3⟩ := HQ.out w3 HC3.out;clear hroots;have hR3 := (HR.out.still HC2.out).still HC3.out;have HR3 := Lib.hid hR3;cases hqe : I.queue with
 | nil =>
   have e0 : I.next = (0, false, 0, I) := by unfold IS.next; rw [hqe]
   rw [e0] at HK;obtain ⟨lab, v, hG⟩ := hR3;obtain ⟨aq, cq, _, c6, _⟩ := hG.queueC;rw [HS.out.queue, hqe] at c6;have c6' : w3.cell? ⟨pb, 6, none⟩ = some (.slice aq 0 cq) := c6;clear hqe e0 hG c6;have HTo := Lib.hid (told_nums (w1 := w3) 0 (l := [0, 0]) (by simp) (by simp))
   go_wp2_with fail
   refine HTo.out.mono ?_; rintro e wg ⟨u, rfl, hTo, hCg⟩;have hb3 := HC3.out.at HB2.out fun h => h;obtain ⟨na, nn, nc, rfl, ⟨⟨_, u0⟩, ⟨_, u1⟩, ⟨_, u2⟩, ⟨_, u3⟩⟩, ⟨f0, f1, f2, f3⟩, hZ⟩ := do_end HK.out HL.out (HC2.out.trans HC3.out fun _ _ h => h) hb3 HBB.out (((HR.out.still HC2.out).still HC3.out).same (Chg.refl _ _)) HS.out (Nat.le_add_right _ _) hTo (lt_of_block hb3) hCg;clear hTo hCg hb3 HTo HK;go_wp2;obtain ⟨s1, s2⟩ := hZ.out _ rfl;exact bodyPost_ret (results_cell_row rfl _ _ bb 101 _ (0, 0) _ rfl s1 HFs.out rfl zTold) rfl s2
 | cons n l =>
   have e0 : I.next = (I.fresh, true, 0, { I.grant n with queue := l }) := by unfold IS.next; rw [hqe]
   rw [e0] at HK;obtain ⟨b, off, cap, c6, c7, f6, hGq⟩ := hR3.queueTail (x := n) (l := l) (by rw [HS.out.queue]; exact hqe);have HMany := Lib.hid (many_g hR3 HRt.out);have HS1 : Hid (GSim { G with queue := l } { I with queue := l }) := HS.out.same rfl rfl rfl HS.out.room HS.out.roots HS.out.wanted rfl;have HLg3 := Lib.hid hR3.lgs;have HRN := Lib.hid (HS.out.rootsN HO.out);have HGq := Lib.hid hGq;obtain ⟨ll, hll⟩ : ∃ ll, ll = l.length := ⟨_, rfl⟩;rw [← hll] at HGq c6;clear hqe e0 hR3 hGq hll;have hl0 : ¬ ((ll : Int) + 1 = 0) := by omega
   by_cases hcap : cap = 0
   · subst hcap;have HG1 := Lib.hid (HGq.out ⟨b, off, none⟩ (fun _ => rfl) (fun h => absurd rfl h));clear HGq
     go_wp2_with fail
     refine HMany.out.mono ?_; rintro e w9 ⟨rfl, rfl⟩
     go_upto_region 8 with fail
     generalize w3.setCell ⟨pb, 6, none⟩ (.slice (some ⟨b, off, none⟩) ll 0) = w6 at *;have hGr := grant_g HG1.out.rep HRt.out HRN.out n;have ef : ({ G with queue := l } : GS).fresh = I.fresh := HS1.out.fresh;rw [ef] at hGr;have HGr := Lib.hid hGr;clear hGr ef c6 c7 f6
     go_wp2_with fail
     refine HGr.out.mono ?_; rintro e w9 ⟨rfl, hGG⟩;have HGG := Lib.hid (HG1.out.trans hGG);have HSim : Hid (GSim (({ G with queue := l } : GS).grant n) { I.grant n with queue := l }) := HS1.out.grant n;have HLt9 : Hid (w3.heap.size ≤ w9.heap.size) := HGG.out.chg.size;clear hGG;have HTo := Lib.hid (told_nums (w1 := w9) 0 (l := [I.fresh, 1]) (by simp) (by simp))
     go_wp2_with fail
     refine HTo.out.mono ?_; rintro e wg ⟨u, rfl, hTo, hCg⟩;have hb3 := HC3.out.at HB2.out fun h => h;obtain ⟨na, nn, nc, rfl, ⟨⟨_, u0⟩, ⟨_, u1⟩, ⟨_, u2⟩, ⟨_, u3⟩⟩, ⟨f0, f1, f2, f3⟩, hZ⟩ := do_end HK.out HL.out (HC2.out.trans HC3.out fun _ _ h => h) hb3 HBB.out HGG.out HSim.out (Nat.le_add_right _ _) hTo (Nat.lt_of_lt_of_le (lt_of_block hb3) HLt9.out) hCg;clear hTo hCg hb3 HTo HK;go_wp2;obtain ⟨s1, s2⟩ := hZ.out _ rfl;exact bodyPost_ret (results_cell_row rfl _ _ bb 101 _ (0, 0) _ rfl s1 HFs.out rfl zTold) rfl s2
   · have HG1 := Lib.hid (HGq.out ⟨b, off + 1, none⟩ (fun h => absurd h hcap) (fun _ => rfl));have hcap1 : ¬ (cap + 1 = 1) := by omega
     clear HGq
     go_wp2_with fail
     refine HMany.out.mono ?_; rintro e w9 ⟨rfl, rfl⟩
     go_upto_region 8 with fail
     generalize w3.setCell ⟨pb, 6, none⟩ (.slice (some ⟨b, off + 1, none⟩) ll cap) = w6 at *;have hGr := grant_g HG1.out.rep HRt.out HRN.out n;have ef : ({ G with queue := l } : GS).fresh = I.fresh := HS1.out.fresh;rw [ef] at hGr;have HGr := Lib.hid hGr;clear hGr ef c6 c7 f6
     go_wp2_with fail
     refine HGr.out.mono ?_; rintro e w9 ⟨rfl, hGG⟩;have HGG := Lib.hid (HG1.out.trans hGG);have HSim : Hid (GSim (({ G with queue := l } : GS).grant n) { I.grant n with queue := l }) := HS1.out.grant n;have HLt9 : Hid (w3.heap.size ≤ w9.heap.size) := HGG.out.chg.size;clear hGG;have HTo := Lib.hid (told_nums (w1 := w9) 0 (l := [I.fresh, 1]) (by simp) (by simp))
     go_wp2_with fail
     refine HTo.out.mono ?_; rintro e wg ⟨u, rfl, hTo, hCg⟩;have hb3 := HC3.out.at HB2.out fun h => h;obtain ⟨na, nn, nc, rfl, ⟨⟨_, u0⟩, ⟨_, u1⟩, ⟨_, u2⟩, ⟨_, u3⟩⟩, ⟨f0, f1, f2, f3⟩, hZ⟩ := do_end HK.out HL.out (HC2.out.trans HC3.out fun _ _ h => h) hb3 HBB.out HGG.out HSim.out (Nat.le_add_right _ _) hTo (Nat.lt_of_lt_of_le (lt_of_block hb3) HLt9.out) hCg;clear hTo hCg hb3 HTo HK;go_wp2;obtain ⟨s1, s2⟩ := hZ.out _ rfl;exact bodyPost_ret (results_cell_row rfl _ _ bb 101 _ (0, 0) _ rfl s1 HFs.out rfl zTold) rfl s2
theorem last_fin (hR : GRep w pb hb Lg G) (hS : GSim G I) (hO : IOk I) (hfew : G.wanted.length ≤ 100000) (kd a b : Int) (xc : Option Addr) (xn xm : Nat) (hq : kd % 18 = 13) :
 Calls Tryz.prog 99 #[.pointer (some ⟨pb, 1, none⟩), .agg #[.int .i64 kd, .int .i64 a, .int .i64 b, .slice xc xn xm]] w fun e w' => ∃ u, e = .returned u ∧ DoQ w pb hb Lg G (I.fin a).2.2 [bitI (I.fin a).1, (I.fin a).2.1] u w' := by
 refine ret_k fun K hK => ?_;have HFew : Hid (G.wanted.length ≤ 100000) := hfew;have HK := Lib.hid hK;have HR := Lib.hid hR;have HS := Lib.hid hS;have HO := Lib.hid hO;have HL := Lib.hid hR.lgs;obtain ⟨fs, hfs⟩ := structOf sTold;have HFs := Lib.hid hfs;obtain ⟨w2, hw2⟩ : ∃ w2, w2 = (w.alloc (.cells #[.int .i64 kd, .int .i64 a, .int .i64 b, .slice xc xn xm] 33)).alloc (.cells #[.slice none 0 0, .bool false, .int .i64 0, .int .i64 0] 101) := ⟨_, rfl⟩;have hC2 : Chg (fun _ => False) w w2 := by rw [hw2]; exact ((Chg.refl _ w).alloc _).alloc _
 have hb2 : w2.heap[w.heap.size + 1]? = some (.cells #[.slice none 0 0, .bool false, .int .i64 0, .int .i64 0] 101 (0, 0)) := by rw [hw2]; exact heap_alloc2_new _ _ _
 have hb0 : w2.heap[w.heap.size]? = some (.cells #[.int .i64 kd, .int .i64 a, .int .i64 b, .slice xc xn xm] 33 (0, 0)) := by rw [hw2]; exact heap_alloc2_old _ _ _
 have HOf : Hid (∀ n wx, Chg (fun _ => False) w2 wx → Calls Tryz.prog 103 #[.pointer (some ⟨pb, 1, none⟩), .int .i64 n] wx fun e w' => e = .returned (.int .i64 (G.of n)) ∧ wx = w') := fun n wx hC => of_g ((HR.out.still hC2).still hC) n;have hWh := which_any w2 kd a b xc xn xm;rw [hq] at hWh;have HWh := Lib.hid hWh;have HC2 := Lib.hid hC2;have HB2 := Lib.hid hb2;have HQ : Hid (∀ wx, Chg (fun _ => False) w2 wx → wx.cell? ⟨w.heap.size, 0, none⟩ = some (.int .i64 kd) ∧ wx.cell? ⟨w.heap.size, 1, none⟩ = some (.int .i64 a) ∧ wx.cell? ⟨w.heap.size, 2, none⟩ = some (.int .i64 b) ∧ wx.cell? ⟨w.heap.size, 3, none⟩ = some (.slice xc xn xm)) := fun wx hC => by
  have h := hC.at hb0 fun h => h;exact ⟨cellAt h 0, cellAt h 1, cellAt h 2, cellAt h 3⟩
 clear hK hR hS hO hfs hC2 hb2 hb0 hWh hq
 go_enter Tryz.func99, Tryz.ntmps99
 go_upto_region 1 with fail
 rw [← hw2];obtain ⟨bb, hbb⟩ : ∃ bb, bb = w.heap.size + 1 := ⟨_, rfl⟩;have HBB : Hid (w.heap.size ≤ bb) := by show _ ≤ _; omega
 rw [← hbb] at HB2 ⊢;obtain ⟨b0, hb0⟩ : ∃ b0, b0 = w.heap.size := ⟨_, rfl⟩;rw [← hb0] at HQ ⊢;clear hw2 hbb hb0;obtain ⟨q0, q1, q2, q3⟩ := HQ.out w2 (Chg.refl _ _)
 go_wp2_with fail
 refine HWh.out.mono ?_; rintro e w3 ⟨rfl, hC3⟩;have HC3 := Lib.hid hC3;clear q0 q1 q2 q3 hC3 HWh;obtain ⟨q0, q1, q2, q3⟩ := HQ.out w3 HC3.out;clear hfew;have hOfa := HOf.out a w3 HC3.out;rcases HS.out.ofH HO.out a with ⟨hl, ho⟩ | ⟨q, d, hl, ho, hd, hg⟩
 · have e0 : I.fin a = (false, 221, I) := by unfold IS.fin; rw [hl]
   rw [e0] at HK;rw [ho] at hOfa;clear hl ho e0
   go_wp2_with fail
   refine hOfa.mono ?_; rintro e w9 ⟨rfl, rfl⟩;have HTo := Lib.hid (told_nums (w1 := w3) 221 (l := [0]) (by simp) (by simp))
   go_wp2_with fail
   refine HTo.out.mono ?_; rintro e wg ⟨u, rfl, hTo, hCg⟩;have hb3 := HC3.out.at HB2.out fun h => h;obtain ⟨na, nn, nc, rfl, ⟨⟨_, u0⟩, ⟨_, u1⟩, ⟨_, u2⟩, ⟨_, u3⟩⟩, ⟨f0, f1, f2, f3⟩, hZ⟩ := do_end HK.out HL.out (HC2.out.trans HC3.out fun _ _ h => h) hb3 HBB.out (((HR.out.still HC2.out).still HC3.out).same (Chg.refl _ _)) HS.out (Nat.le_add_right _ _) hTo (lt_of_block hb3) hCg;clear hTo hCg hb3 HTo HK;go_wp2;obtain ⟨s1, s2⟩ := hZ.out _ rfl;exact bodyPost_ret (results_cell_row rfl _ _ bb 101 _ (0, 0) _ rfl s1 HFs.out rfl zTold) rfl s2
 · have e0 : I.fin a = if (q : Int) ∈ I.reg then (false, 0, I) else (true, 0, { I with reg := I.reg ++ [(q : Int)] }) := by unfold IS.fin; rw [hl]
   rw [e0] at HK;rw [ho] at hOfa;have hq0 : ¬ ((q : Int) < 0) := by omega
   have hR3 := (HR.out.still HC2.out).still HC3.out;obtain ⟨a5, c5n, a3, c3n, w5, c5, happ, ⟨_, g0⟩, g1, hGG⟩ := wanted_app hR3 HFew.out (q : Int);obtain ⟨lab, v, hG⟩ := hR3;obtain ⟨a5', c5n', _, c5', hc5⟩ := hG.wantedC;rw [c5] at c5';simp only [Option.some.injEq, Value.slice.injEq, true_and] at c5';obtain ⟨rfl, rfl⟩ := c5';have HC5 := Lib.hid hc5;have HGG := Lib.hid hGG;obtain ⟨nw, hnw⟩ : ∃ nw, nw = G.wanted.length := ⟨_, rfl⟩;have HNw : Hid (nw = G.wanted.length ∧ nw ≤ 100000) := ⟨hnw, by rw [hnw]; exact HFew.out⟩;rw [← hnw] at c5 happ HGG;clear hl ho e0 hd hg hG hc5 hGG hnw
   go_wp2_with fail
   refine hOfa.mono ?_; rintro e w9 ⟨rfl, rfl⟩;clear hOfa;go_wp2
   go_loopw [7] (fun s7 wr => ∃ i : Nat, i ≤ nw ∧ s7 = .int .i64 i ∧ w3 = wr ∧ Hid (∀ m : Nat, m < i → G.wanted.getD m 0 ≠ (q : Int))) (fun s7 _ => nw - (intOf s7).toNat)
   case atStart => exact ⟨0, by omega, rfl, rfl, Lib.hid fun m hm => absurd hm (by omega)⟩
   case round =>
    obtain ⟨i, hi, rfl, rfl, HI⟩ := hrel;by_cases hlt : i < nw
    · have hlt' : (i : Int) < (nw : Int) := by omega
      have hwi : IntKind.i64.wrap ((i : Int) + 1) = (i : Int) + 1 := IntWalk.i64_in _ (by have := HNw.out.2; omega);obtain ⟨b5, e1, k5⟩ := HC5.out i (by rw [← HNw.out.1]; exact hlt);subst e1;obtain ⟨z, hz⟩ : ∃ z, z = G.wanted.getD i 0 := ⟨_, rfl⟩;rw [← hz] at k5;have HZ := Lib.hid hz;clear hz;by_cases hzq : z = (q : Int)
      · subst hzq;have hmem : (q : Int) ∈ I.reg := by
         rw [← HS.out.wanted, HZ.out, List.getD_eq_getElem?_getD, List.getElem?_eq_getElem (by rw [← HNw.out.1]; exact hlt)];exact List.getElem_mem _
        rw [if_pos hmem] at HK;clear hmem HZ g0 g1 happ HGG HI;have HTo := Lib.hid (told_nums (w1 := w3) 0 (l := [0]) (by simp) (by simp))
        go_wp2_with fail
        refine HTo.out.mono ?_; rintro e wg ⟨u, rfl, hTo, hCg⟩;have hb3 := HC3.out.at HB2.out fun h => h;obtain ⟨na, nn, nc, rfl, ⟨⟨_, u0⟩, ⟨_, u1⟩, ⟨_, u2⟩, ⟨_, u3⟩⟩, ⟨f0, f1, f2, f3⟩, hZ⟩ := do_end HK.out HL.out (HC2.out.trans HC3.out fun _ _ h => h) hb3 HBB.out (((HR.out.still HC2.out).still HC3.out).same (Chg.refl _ _)) HS.out (Nat.le_add_right _ _) hTo (lt_of_block hb3) hCg;clear hTo hCg hb3 HTo HK;go_wp2;obtain ⟨s1, s2⟩ := hZ.out _ rfl;exact bodyPost_ret (results_cell_row rfl _ _ bb 101 _ (0, 0) _ rfl s1 HFs.out rfl zTold) rfl s2
      · have HI2 : Hid (∀ m : Nat, m < i + 1 → G.wanted.getD m 0 ≠ (q : Int)) := fun m hm => by
         by_cases e : m = i
         · subst e; rw [← HZ.out]; exact hzq
         · exact HI.out m (by omega)
        clear HZ;go_wp2
        go_roundw
        case rel => exact ⟨i + 1, by omega, by go_num, by first | rfl | trivial, HI2⟩
        case measure => simp [intOf]; omega
    · obtain rfl : i = nw := by omega
      have hnot : ¬ ((q : Int) ∈ I.reg) := fun hm => by
       rw [← HS.out.wanted] at hm;obtain ⟨m, hm1, hm2⟩ := List.getElem_of_mem hm;exact HI.out m (by rw [HNw.out.1]; exact hm1) (by rw [List.getD_eq_getElem?_getD, List.getElem?_eq_getElem hm1]; exact hm2)
      rw [if_neg hnot] at HK;have HSim : Hid (GSim { G with wanted := G.wanted ++ [(q : Int)] } { I with reg := I.reg ++ [(q : Int)] }) := HS.out.same rfl rfl rfl HS.out.room HS.out.roots (by show G.wanted ++ _ = I.reg ++ _; rw [HS.out.wanted]) HS.out.queue;clear hnot HI
      go_upto_region 18 with (at_builtin; go_must (refine wpList_val rfl (exec_append rfl (by exact happ)) ?_))
      clear happ g0 g1 c5;generalize w5.setCell ⟨pb, 5, none⟩ (.slice a3 (i + 1) c3n) = w6 at *;have HLt9 : Hid (w3.heap.size ≤ w6.heap.size) := HGG.out.chg.size;have HTo := Lib.hid (told_nums (w1 := w6) 0 (l := [1]) (by simp) (by simp))
      go_wp2_with fail
      refine HTo.out.mono ?_; rintro e wg ⟨u, rfl, hTo, hCg⟩;have hb3 := HC3.out.at HB2.out fun h => h;obtain ⟨na, nn, nc, rfl, ⟨⟨_, u0⟩, ⟨_, u1⟩, ⟨_, u2⟩, ⟨_, u3⟩⟩, ⟨f0, f1, f2, f3⟩, hZ⟩ := do_end HK.out HL.out (HC2.out.trans HC3.out fun _ _ h => h) hb3 HBB.out HGG.out HSim.out (Nat.le_add_right _ _) hTo (Nat.lt_of_lt_of_le (lt_of_block hb3) HLt9.out) hCg;clear hTo hCg hb3 HTo HK;go_wp2;obtain ⟨s1, s2⟩ := hZ.out _ rfl;exact bodyPost_ret (results_cell_row rfl _ _ bb 101 _ (0, 0) _ rfl s1 HFs.out rfl zTold) rfl s2
theorem uNodes : Tryz.prog.underlying 89 = some (.slice 140) := by kernel_rfl
theorem iNode : (Tryz.prog.info? 140).map (fun i => (i.zero, i.size, i.bytes)) = some (some (.agg #[.bool false, .int .i64 0, .int .i64 0, .bool false]), 4, 32) := by kernel_rfl
theorem gnOne (x : GN) : ∀ u ∈ x.cells, u.oneCell' = true := by
 intro u hu;simp only [GN.cells, List.mem_cons, List.not_mem_nil, or_false] at hu;rcases hu with rfl | rfl | rfl | rfl <;> rfl
theorem nodes_app (hR : GRep w pb hb Lg G) (hl : G.nodes.length ≤ 9000) (x : GN) :
 ∃ a c a3 c3 w3, w.cell? ⟨pb, 2, none⟩ = some (.slice a G.nodes.length c) ∧
   (Builtin.append_ #[89, 89] 89 #[.slice a G.nodes.length c, .slice (some ⟨w.heap.size, 0, none⟩) 1 1]).run Tryz.prog (w.alloc (.cells #[.bool x.table, .int .i64 x.tag, .int .i64 x.size, .bool x.gone] 140)) = .ok (.slice a3 (G.nodes.length + 1) c3) w3 ∧
   (∃ u, w3.cell? ⟨pb, 2, none⟩ = some u) ∧ w3.frozen? ⟨pb, 2, none⟩ = false ∧
   GGot w pb hb Lg { G with nodes := G.nodes ++ [x] } (w3.setCell ⟨pb, 2, none⟩ (.slice a3 (G.nodes.length + 1) c3)) := by
 obtain ⟨lab, v, hG⟩ := hR;obtain ⟨a, c, ev, c4, _⟩ := hG.nodesC;obtain ⟨a3, c3, w3, happ, hrow3, hC3, hloc3⟩ := app_struct 89 140 4 32 _ uNodes iNode rfl (by decide) (f := GN.cells) (fun _ => rfl) gnOne hG.r0 x (by omega) (by omega);have hpb : ¬ rowBlk (v 0) = some pb := fun e => by have := (hG.vlab 0 pb (by omega) e).1; have := hG.plab; omega
 have h3 := hC3.at hG.at_ hpb;rw [ev] at happ;refine ⟨a, c, a3, c3, w3, c4, happ, ⟨_, cellAt h3 2⟩, freeAt h3 2, ?_⟩;have hC4 : Chg (fun b => rowBlk (v 0) = some b ∨ b = pb) w (w3.setCell ⟨pb, 2, none⟩ (.slice a3 (G.nodes.length + 1) c3)) := (hC3.mono fun _ _ h => .inl h).setCell (fun _ => .inr rfl) _;have hother : ∀ b, b ≠ pb → (w3.setCell ⟨pb, 2, none⟩ (.slice a3 (G.nodes.length + 1) c3)).heap[b]? = w3.heap[b]? := fun b hb => heap_setCell_ne hb _;have hnpb : ∀ b, rowBlk (.slice a3 (G.nodes.length + 1) c3) = some b → b ≠ pb := fun b hb e => by
  subst e;rcases hloc3 b hb with h5 | h5
  · exact hpb h5
  · have := lt_of_block hG.at_; omega
 refine hG.set 0 (by omega) (v1 := .slice a3 (G.nodes.length + 1) c3) hC4 rfl ?_ (fun b hb => ⟨?_, hloc3 b hb⟩) ?_ rfl rfl rfl rfl
 · rw [heap_setCell h3]; rfl
 · have := hrow3.lt hb; simpa using this
 · show Row _ _ _ _ _ _;exact hrow3.same fun b hb => hother b (hnpb b hb)
theorem links_app (hR : GRep w pb hb Lg G) (hl : G.links.length ≤ 1000000) (x : GL) :
 ∃ a c a3 c3 w3, w.cell? ⟨pb, 3, none⟩ = some (.slice a G.links.length c) ∧
   (Builtin.append_ #[90, 90] 90 #[.slice a G.links.length c, .slice (some ⟨w.heap.size, 0, none⟩) 1 1]).run Tryz.prog (w.alloc (.cells #[.int .i64 x.frm, .int .i64 x.slot, .int .i64 x.key, .bool x.ref, .int .i64 x.num] 144)) = .ok (.slice a3 (G.links.length + 1) c3) w3 ∧
   (∃ u, w3.cell? ⟨pb, 3, none⟩ = some u) ∧ w3.frozen? ⟨pb, 3, none⟩ = false ∧
   GGot w pb hb Lg { G with links := G.links ++ [x] } (w3.setCell ⟨pb, 3, none⟩ (.slice a3 (G.links.length + 1) c3)) := by
 obtain ⟨lab, v, hG⟩ := hR;obtain ⟨a, c, ev, _, c4, _⟩ := hG.links;obtain ⟨a3, c3, w3, happ, hrow3, hC3, hloc3⟩ := app_struct 90 144 5 40 _ uLinks iLink rfl (by decide) (f := GL.cells) (fun _ => rfl) glOne hG.r1 x (by omega) (by omega);have hpb : ¬ rowBlk (v 1) = some pb := fun e => by have := (hG.vlab 1 pb (by omega) e).1; have := hG.plab; omega
 have h3 := hC3.at hG.at_ hpb;rw [ev] at happ;refine ⟨a, c, a3, c3, w3, c4, happ, ⟨_, cellAt h3 3⟩, freeAt h3 3, ?_⟩;have hC4 : Chg (fun b => rowBlk (v 1) = some b ∨ b = pb) w (w3.setCell ⟨pb, 3, none⟩ (.slice a3 (G.links.length + 1) c3)) := (hC3.mono fun _ _ h => .inl h).setCell (fun _ => .inr rfl) _;have hother : ∀ b, b ≠ pb → (w3.setCell ⟨pb, 3, none⟩ (.slice a3 (G.links.length + 1) c3)).heap[b]? = w3.heap[b]? := fun b hb => heap_setCell_ne hb _;have hnpb : ∀ b, rowBlk (.slice a3 (G.links.length + 1) c3) = some b → b ≠ pb := fun b hb e => by
  subst e;rcases hloc3 b hb with h5 | h5
  · exact hpb h5
  · have := lt_of_block hG.at_; omega
 refine hG.set 1 (by omega) (v1 := .slice a3 (G.links.length + 1) c3) hC4 rfl ?_ (fun b hb => ⟨?_, hloc3 b hb⟩) rfl ?_ rfl rfl rfl
 · rw [heap_setCell h3]; rfl
 · have := hrow3.lt hb; simpa using this
 · show Row _ _ _ _ _ _;exact hrow3.same fun b hb => hother b (hnpb b hb)
structure LBlk (w : World) (vb : Nat) (F : List Wd) (i : Nat) : Prop where
 blk : ∃ cur, w.heap[vb]? = some (.cells cur 144 (0, 0)) ∧ F.length * 5 ≤ cur.size ∧ ∀ j c, i ≤ j → F[j]? = some c → cur[j * 5 + 2]? = some (.int .i64 (-1)) ∧ cur[j * 5 + 3]? = some (.bool c.ref) ∧ cur[j * 5 + 4]? = some (.int .i64 c.num)
theorem LBlk.same {w' : World} (h : LBlk w vb F i) (hw : w'.heap[vb]? = w.heap[vb]?) : LBlk w' vb F i := by
 obtain ⟨cur, h1, h2⟩ := h.blk;exact ⟨cur, by rw [hw]; exact h1, h2⟩
theorem LBlk.lt (h : LBlk w vb F i) : vb < w.heap.size := by
 obtain ⟨cur, h1, _⟩ := h.blk;exact lt_of_block h1
theorem LBlk.step (h : LBlk w vb F i) {c : Wd} (hc : F[i]? = some c) (n : Int) (hW : W = (w.setCell ⟨vb, i * 5, none⟩ (.int .i64 n)).setCell ⟨vb, i * 5 + 1, none⟩ (.int .i64 i)) :
 (∃ u, w.cell? ⟨vb, i * 5, none⟩ = some u) ∧ w.frozen? ⟨vb, i * 5, none⟩ = false ∧ (∃ u, (w.setCell ⟨vb, i * 5, none⟩ (.int .i64 n)).cell? ⟨vb, i * 5 + 1, none⟩ = some u) ∧ (w.setCell ⟨vb, i * 5, none⟩ (.int .i64 n)).frozen? ⟨vb, i * 5 + 1, none⟩ = false ∧
  LBlk W vb F (i + 1) ∧ Chg (fun b => b = vb) w W ∧ W.cell? ⟨vb, i * 5, none⟩ = some (.int .i64 n) ∧ W.cell? ⟨vb, i * 5 + 1, none⟩ = some (.int .i64 i) ∧ W.cell? ⟨vb, i * 5 + 2, none⟩ = some (.int .i64 (-1)) ∧ W.cell? ⟨vb, i * 5 + 3, none⟩ = some (.bool c.ref) ∧ W.cell? ⟨vb, i * 5 + 4, none⟩ = some (.int .i64 c.num) := by
 obtain ⟨cur, h1, h2, h3⟩ := h.blk;have hi := (List.getElem?_eq_some_iff.1 hc).1;have e1 := heap_setCell h1 (i * 5) (.int .i64 n);have e2 := heap_setCell e1 (i * 5 + 1) (.int .i64 i);rw [← hW] at e2;obtain ⟨k2, k3, k4⟩ := h3 i c (Nat.le_refl _) hc;have hz : i * 5 + 4 < cur.size := by omega
 refine ⟨⟨_, by rw [cellAt h1, Array.getElem?_eq_getElem (by omega : i * 5 < cur.size)]⟩, freeAt h1 _, ⟨_, by rw [cellAt e1, Array.getElem?_eq_getElem (by simp; omega : i * 5 + 1 < (cur.setIfInBounds (i * 5) (.int .i64 n)).size)]⟩, freeAt e1 _, ⟨_, e2, by simpa using h2, fun j c' hj hc' => ?_⟩, by rw [hW]; exact ((Chg.refl (fun b => b = vb) w).setCell (p := ⟨vb, i * 5, none⟩) (fun _ => rfl) _).setCell (p := ⟨vb, i * 5 + 1, none⟩) (fun _ => rfl) _, ?_, ?_, ?_, ?_, ?_⟩
 · obtain ⟨g2, g3, g4⟩ := h3 j c' (by omega) hc';refine ⟨?_, ?_, ?_⟩
   · rw [Array.getElem?_setIfInBounds_ne (by omega), Array.getElem?_setIfInBounds_ne (by omega)]; exact g2
   · rw [Array.getElem?_setIfInBounds_ne (by omega), Array.getElem?_setIfInBounds_ne (by omega)]; exact g3
   · rw [Array.getElem?_setIfInBounds_ne (by omega), Array.getElem?_setIfInBounds_ne (by omega)]; exact g4
 · rw [cellAt e2, Array.getElem?_setIfInBounds_ne (by omega), Array.getElem?_setIfInBounds_self_of_lt (by omega)]
 · rw [cellAt e2, Array.getElem?_setIfInBounds_self_of_lt (by simp; omega)]
 · rw [cellAt e2, Array.getElem?_setIfInBounds_ne (by omega), Array.getElem?_setIfInBounds_ne (by omega)]; exact k2
 · rw [cellAt e2, Array.getElem?_setIfInBounds_ne (by omega), Array.getElem?_setIfInBounds_ne (by omega)]; exact k3
 · rw [cellAt e2, Array.getElem?_setIfInBounds_ne (by omega), Array.getElem?_setIfInBounds_ne (by omega)]; exact k4
def AddQ (w : World) (pb hb : Nat) (Lg : List Nat) (G : GS) (I' : IS) (v : Value) (l : List Int) (u : Value) (w' : World) : Prop :=
 ToldAt w.heap.size w' u l ∧ ∃ G', GRep w' pb hb (Lg ++ since w w') G' ∧ Chg (fun b => b ∈ Lg ∨ rowBlk v = some b) w w' ∧ GSim G' I' ∧ G'.links.length ≤ G.links.length + 200
theorem add_end {wb wg wt : World} {bb : Nat} {I' : IS} {K : Ending → World → Prop} {u c0 c1 c2 c3 : Value} {B : Nat} 
 (hK : ∀ e w', (∃ u, e = .returned u ∧ AddQ w pb hb Lg G I' v l u w') → Post K e w') (hL : ∀ b ∈ Lg, b < w.heap.size) (hv : ∀ b, rowBlk v = some b → b < w.heap.size) (hCb : Chg (fun _ => False) w wb)
 (hbb : wb.heap[bb]? = some (.cells #[c0, c1, c2, c3] 101 (0, 0))) (hbw : w.heap.size ≤ bb)
 (hR : GRep wg pb hb Li G') (hLi : ∀ b ∈ Li, b ∈ Lg ∨ wb.heap.size ≤ b) (hC : Chg (fun b => b ∈ Lg ∨ rowBlk v = some b) wb wg) (hSim : GSim G' I') (hlen : G'.links.length ≤ G.links.length + 200) (hTo : ToldAt B wt u l) (hB : bb < B) (hCt : Chg (fun _ => False) wg wt) :
 ∃ na nn nc, u = .agg #[.slice na nn nc, .bool false, .int .i64 0, .int .i64 0] ∧ ((∃ u, wt.cell? ⟨bb, 0, none⟩ = some u) ∧ (∃ u, wt.cell? ⟨bb, 1, none⟩ = some u) ∧ (∃ u, wt.cell? ⟨bb, 2, none⟩ = some u) ∧ (∃ u, wt.cell? ⟨bb, 3, none⟩ = some u)) ∧
   (wt.frozen? ⟨bb, 0, none⟩ = false ∧ wt.frozen? ⟨bb, 1, none⟩ = false ∧ wt.frozen? ⟨bb, 2, none⟩ = false ∧ wt.frozen? ⟨bb, 3, none⟩ = false) ∧
   Hid (∀ W, W = ((((wt.setCell ⟨bb, 0, none⟩ (.slice na nn nc)).setCell ⟨bb, 1, none⟩ (.bool false)).setCell ⟨bb, 2, none⟩ (.int .i64 0)).setCell ⟨bb, 3, none⟩ (.int .i64 0)) →
    W.heap[bb]? = some (.cells #[.slice na nn nc, .bool false, .int .i64 0, .int .i64 0] 101 (0, 0)) ∧ Post K (.returned (.agg #[.slice na nn nc, .bool false, .int .i64 0, .int .i64 0])) W) := by
 have hlt := lt_of_block hbb;have hbg := hC.at hbb fun hb => by
  rcases hb with hb | hb
  · have := hL _ hb; omega
  · have := hv _ hb; omega
 have hbt := hCt.at hbg fun h => h;obtain ⟨na, nn, nc, rfl, h1, h2, hZ⟩ := hTo.into hbt hB;refine ⟨na, nn, nc, rfl, h1, h2, Lib.hid fun W hW => ?_⟩;obtain ⟨s1, s2, s3⟩ := hZ.out W hW;have hsb := hCb.size;have hsg := hC.size;have hst := hCt.size;have hsW := s3.size;have hnbb : ∀ b ∈ Li, ¬ (b = bb) := fun b hb e => by
  subst e;rcases hLi b hb with h | h
  · have := hL b h; omega
  · omega
 refine ⟨s1, hK _ _ ⟨_, rfl, ⟨_, rfl, s2.low (by omega)⟩, G', ?_, ?_, hSim, hlen⟩⟩
 · refine (((hR.still hCt).frame s3 hnbb).more (fun b hb => ?_) fun b hb => ?_)
   · rcases hLi b hb with h | h
     · exact List.mem_append_left _ h
     · have := hR.lgs b hb;exact List.mem_append_right _ (mem_since.2 ⟨by omega, by omega⟩)
   · rcases List.mem_append.1 hb with hb | hb
     · have := hL b hb; omega
     · exact (mem_since.1 hb).2
 · exact (((hCb.mono fun _ _ h => h.elim).trans hC fun _ _ h => h).trans hCt fun _ _ h => h.elim).trans s3 fun b hb e => by omega
structure AdG (w5 W : World) (pb hb : Nat) (Lg : List Nat) (G : GS) (P : Nat → Prop) : Prop where
 ex : ∃ Li, GRep W pb hb Li G ∧ (∀ b ∈ Li, b ∈ Lg ∨ w5.heap.size ≤ b) ∧ ∀ b, P b → b ∉ Li
 chg : Chg (fun b => b ∈ Lg ∨ P b) w5 W
theorem AdG.turn {P : Nat → Prop} (h : AdG w5 W pb hb Lg G P) (hC : Chg P W W') : AdG w5 W' pb hb Lg G P := by
 obtain ⟨Li, h1, h2, h3⟩ := h.ex;exact ⟨⟨Li, h1.frame hC fun b hb hp => h3 b hp hb, h2, h3⟩, h.chg.trans hC fun b _ hp => .inr hp⟩
theorem AdG.got {P : Nat → Prop} (h2 : ∀ b ∈ Li, b ∈ Lg ∨ w5.heap.size ≤ b) (h3 : ∀ b, P b → b ∉ Li) (hc : Chg (fun b => b ∈ Lg ∨ P b) w5 W) (hP : ∀ b, P b → b < W.heap.size) (hG : GGot W pb hb Li G' W') : AdG w5 W' pb hb Lg G' P ∧ ∀ b, P b → W'.heap[b]? = W.heap[b]? := by
 refine ⟨⟨⟨_, hG.rep, fun b hb => ?_, fun b hp hb => ?_⟩, hc.trans hG.chg fun b hb hi => ?_⟩, fun b hp => hG.chg.block b (hP b hp) (h3 b hp)⟩
 · rcases List.mem_append.1 hb with hb | hb
   · exact h2 b hb
   · have := mem_since.1 hb;have := hc.size;exact .inr (by omega)
 · rcases List.mem_append.1 hb with hb | hb
   · exact h3 b hp hb
   · have := mem_since.1 hb;have := hP b hp;omega
 · rcases h2 b hi with h | h
   · exact .inl h
   · omega
theorem wordsN_le (hO : GOk G) (hsz : ∀ x ∈ G.nodes, x.size ≤ 1000) (f : Nat → Bool) : G.wordsN f ≤ 13000000 := by
 have h1 := nodeSum_le hsz f G.nodes.length;have h2 := linkCnt_le G f G.links.length;have := hO.few;unfold GS.wordsN;omega
theorem added_g (hR : GRep w pb hb Lg G) (hS : GSim G I) (hO : IOk I) (hG : GOk G) (hroots : G.roots.length ≤ 9000) (hnodes : G.nodes.length ≤ 8000) (hlinks : G.links.length ≤ 900000) (hsz : ∀ x ∈ G.nodes, x.size ≤ 1000) {d : Nd} (hde : d.ents = []) (hdg : d.gone = false) (hdr : ∀ m ∈ refsW d.flds, (I.nd m).isSome) (hdf : d.flds.length ≤ 200) (hct : (gnode d).cost = d.flds.length + 1)
 {va : Option Addr} {vc : Nat} (hva : ∀ b, rowBlk (.slice va d.flds.length vc) = some b → b < w.heap.size ∧ b ∉ Lg) (hvb : 0 < d.flds.length → ∃ vb, va = some ⟨vb, 0, none⟩ ∧ rowBlk (.slice va d.flds.length vc) = some vb ∧ LBlk w vb d.flds 0) :
 Calls Tryz.prog 92 #[.pointer (some ⟨pb, 1, none⟩), .agg #[.bool d.table, .int .i64 d.tag, .int .i64 d.flds.length, .bool false], .slice va d.flds.length vc] w fun e w' => ∃ u, e = .returned u ∧ AddQ w pb hb Lg G (I.adds (d.flds.length + 1) d).2.2 (.slice va d.flds.length vc) [(I.adds (d.flds.length + 1) d).1, (I.adds (d.flds.length + 1) d).2.1] u w' := by
 refine ret_k fun K hK => ?_;have HK := Lib.hid hK;have HR := Lib.hid hR;have HS := Lib.hid hS;have HO := Lib.hid hO;have HG := Lib.hid hG;have HL := Lib.hid hR.lgs;have HSz := Lib.hid hsz;have HVa := Lib.hid hva;have HVb := Lib.hid hvb;obtain ⟨fs, hfs⟩ := structOf sTold;have HFs := Lib.hid hfs;obtain ⟨w2, hw2⟩ : ∃ w2, w2 = (w.alloc (.cells #[.bool d.table, .int .i64 d.tag, .int .i64 d.flds.length, .bool false] 140)).alloc (.cells #[.slice none 0 0, .bool false, .int .i64 0, .int .i64 0] 101) := ⟨_, rfl⟩;have hC2 : Chg (fun _ => False) w w2 := by rw [hw2]; exact ((Chg.refl _ w).alloc _).alloc _
 have hb2 : w2.heap[w.heap.size + 1]? = some (.cells #[.slice none 0 0, .bool false, .int .i64 0, .int .i64 0] 101 (0, 0)) := by rw [hw2]; exact heap_alloc2_new _ _ _
 have hb0 : w2.heap[w.heap.size]? = some (.cells #[.bool d.table, .int .i64 d.tag, .int .i64 d.flds.length, .bool false] 140 (0, 0)) := by rw [hw2]; exact heap_alloc2_old _ _ _
 have HMany := Lib.hid (many_g (hR.still hC2) (by omega));have HC2 := Lib.hid hC2;have HB2 := Lib.hid hb2;have HB0 := Lib.hid hb0;obtain ⟨kw, hkw⟩ : ∃ kw, kw = I.words I.live := ⟨_, rfl⟩;have hwN : G.wordsN (fun j => dec (SReach G.links G.keptP (j : Int))) = kw := by
  rw [hkw];exact hS.words hO.sh (fun j => hS.keptM hO j) fun n hn => by
   obtain ⟨d', h1, h2⟩ := hO.kept _ (IS.live_iff.1 hn);exact here_of h1 h2
 have hkwle : kw ≤ 13000000 := by rw [← hwN]; exact wordsN_le hG hsz _
 obtain ⟨n, hn⟩ : ∃ n, n = G.nodes.length := ⟨_, rfl⟩;obtain ⟨nf, hnf⟩ : ∃ nf, nf = d.flds.length := ⟨_, rfl⟩;have HKp : Hid (∀ W, Chg (fun _ => False) w2 W → Calls Tryz.prog 54 #[.pointer (some ⟨pb, 1, none⟩)] W fun e w' => ∃ sb, e = .returned (.slice (some ⟨sb, 0, none⟩) n n) ∧ Hid (Chg (fun _ => False) w2 w' ∧ MarkAt w' sb n (fun j => dec (SReach G.links G.keptP (j : Int))))) := fun W hC => by
  have := kept_g ((HR.out.still HC2.out).still hC) HG.out;rw [← hn] at this;refine this.mono ?_;rintro e w' ⟨sb, rfl, _, hM, hC'⟩;exact ⟨sb, rfl, Lib.hid ⟨hC.trans hC' fun _ _ h => h, hM⟩⟩
 have HWd : Hid (∀ W W0 sb, (Chg (fun _ => False) w2 W0 ∧ MarkAt W0 sb n (fun j => dec (SReach G.links G.keptP (j : Int)))) → Chg (fun _ => False) W0 W → Calls Tryz.prog 53 #[.pointer (some ⟨pb, 1, none⟩), .slice (some ⟨sb, 0, none⟩) n n] W fun e w' => e = .returned (.int .i64 kw) ∧ Hid (Chg (fun _ => False) w2 w')) := fun W W0 sb h hC => by
  have h2W := h.1.trans hC fun _ _ h => h;have := words_g ((HR.out.still HC2.out).still h2W) HG.out HSz.out (sb := sb) (by rw [← hn]; exact h.2.same (hC.block sb h.2.lt fun h => h));rw [← hn, hwN] at this;refine this.mono ?_;rintro e w' ⟨rfl, hC'⟩;exact ⟨rfl, Lib.hid (h2W.trans hC' fun _ _ h => h)⟩
 have HCo : Hid (∀ W W0, Chg (fun _ => False) w2 W0 → Chg (fun _ => False) W0 W → Calls Tryz.prog 104 #[.agg #[.bool d.table, .int .i64 d.tag, .int .i64 nf, .bool false]] W fun e w' => e = .returned (.int .i64 ((nf + 1 : Nat) : Int)) ∧ Hid (Chg (fun _ => False) w2 w' ∧ Chg (fun _ => False) W0 w')) := fun W W0 h hC => by
  have := cost_g W (gnode d) (by show d.flds.length ≤ 100000; omega);rw [hct, ← hnf] at this;have e : (gnode d).size = nf := hnf.symm;rw [e] at this;have eg : (gnode d).gone = false := hdg;rw [eg] at this;refine this.mono ?_;rintro e w' ⟨rfl, hC'⟩;have h2 := hC.trans hC' fun _ _ h => h;exact ⟨rfl, Lib.hid ⟨h.trans h2 fun _ _ h => h, h2⟩⟩
 have HCe : Hid (∀ W, Chg (fun _ => False) w2 W → W.cell? ⟨pb, 1, none⟩ = some (.int .i64 G.room) ∧ W.cell? ⟨w.heap.size, 0, none⟩ = some (.bool d.table) ∧ W.cell? ⟨w.heap.size, 1, none⟩ = some (.int .i64 d.tag) ∧ W.cell? ⟨w.heap.size, 2, none⟩ = some (.int .i64 nf) ∧ W.cell? ⟨w.heap.size, 3, none⟩ = some (.bool false)) := fun W hC => by
  obtain ⟨lab, v, hGr⟩ := (HR.out.still HC2.out).still hC;have h0 := hC.at HB0.out fun h => h;exact ⟨cellAt hGr.at_ 1, cellAt h0 0, cellAt h0 1, by rw [hnf]; exact cellAt h0 2, cellAt h0 3⟩
 have HD : Hid (d.ents = [] ∧ d.gone = false ∧ (∀ m ∈ refsW d.flds, (I.nd m).isSome) ∧ nf = d.flds.length ∧ nf ≤ 200 ∧ kw = I.words I.live ∧ kw ≤ 13000000 ∧ n = G.nodes.length ∧ n ≤ 8000 ∧ G.links.length ≤ 900000 ∧ G.roots.length ≤ 9000) := ⟨hde, hdg, hdr, hnf, by omega, hkw, hkwle, hn, by omega, hlinks, hroots⟩;rw [← hnf] at HK HVa HVb hw2 ⊢;clear hK hR hS hO hG hsz hva hvb hfs hC2 hb2 hb0 hwN hn hde hdg hdr hdf hct hroots hnodes hlinks;obtain ⟨room, hroom⟩ : ∃ room, room = G.room := ⟨_, rfl⟩;rw [← hroom] at HCe;have HRoom : Hid (room = I.room) := by show _ = _; rw [hroom]; exact HS.out.room
 have hadds : I.adds (nf + 1) d = if (kw : Int) + ((nf + 1 : Nat) : Int) ≤ room then (I.fresh, 0, (I.add d).grant I.nodes.length) else (0, 220, I) := by
  unfold IS.adds;rw [← hkw, HRoom.out]
 rw [hadds] at HK;clear hadds hkw hroom hkwle hnf;have hwr : IntKind.i64.wrap ((kw : Int) + ((nf + 1 : Nat) : Int)) = (kw : Int) + ((nf + 1 : Nat) : Int) := IntWalk.i64_in _ (by have := HD.out.2.2.2.2; omega)
 go_enter Tryz.func92, Tryz.ntmps92
 go_upto_region 1 with fail
 rw [← hw2];obtain ⟨bb, hbb⟩ : ∃ bb, bb = w.heap.size + 1 := ⟨_, rfl⟩;have HBB : Hid (w.heap.size ≤ bb) := by show _ ≤ _; omega
 rw [← hbb] at HB2 ⊢;obtain ⟨b4, hb4⟩ : ∃ b4, b4 = w.heap.size := ⟨_, rfl⟩;have HB4 := Lib.hid hb4;rw [← hb4] at HCe HB0 ⊢;clear hw2 hbb hb4
 go_wp2_with fail
 refine HMany.out.mono ?_; rintro e w9 ⟨rfl, rfl⟩;clear HMany;obtain ⟨q0, q1, q2, q3, q4⟩ := HCe.out w2 (Chg.refl _ _);have hA : Hid (Chg (fun _ => False) w2 w2) := Chg.refl _ _;generalize nf + 1 = nf1 at *;have hgn0 : gnode d = ⟨d.table, d.tag, nf, false⟩ := by unfold gnode; rw [← HD.out.2.2.2.1, HD.out.2.1]
 have HGn := Lib.hid hgn0;clear hgn0;generalize d.table = dt at *;generalize d.tag = dg at *;by_cases hfit : (kw : Int) + (nf1 : Int) ≤ room
 · rw [if_pos hfit] at HK;have hgt : ¬ (room < (kw : Int) + (nf1 : Int)) := by omega
   have hgt2 : decide (room < (kw : Int) + (nf1 : Int)) = false := decide_eq_false hgt;clear hfit
   go_upto_region 3 with fail
   go_cut [23] from 12 to 23 (fun s23 wx => s23 = .bool false ∧ Hid (Chg (fun _ => False) w2 wx))
   case first =>
    go_region_held3 (fun W => W.cell? ⟨pb, 1, none⟩ = some (.int .i64 room) ∧ W.cell? ⟨b4, 0, none⟩ = some (.bool dt) ∧ W.cell? ⟨b4, 1, none⟩ = some (.int .i64 dg) ∧ W.cell? ⟨b4, 2, none⟩ = some (.int .i64 nf) ∧ W.cell? ⟨b4, 3, none⟩ = some (.bool false))
     (first | exact ⟨q0, q1, q2, q3, q4⟩ | exact HCe.out _ hA.out | exact HCe.out _ (hA.out.drew) | exact HCe.out _ (hA.out.drewN _))
     (first
      | (go_at_call 53; refine (HWd.out _ _ _ hB.out (Chg.refl _ _)).mono ?_; rintro e wn ⟨rfl, hA⟩; clear hB)
      | (go_at_call 54; refine (HKp.out _ hA.out).mono ?_; rintro e wn ⟨sb, rfl, hB⟩; have hA : Hid (Chg (fun _ => False) w2 wn) := hB.out.1)
      | (go_at_call 54; refine (HKp.out _ hA.out.drew).mono ?_; rintro e wn ⟨sb, rfl, hB⟩; have hA : Hid (Chg (fun _ => False) w2 wn) := hB.out.1)
      | (go_at_call 104; refine (HCo.out _ _ hB.out.1 (Chg.refl _ _)).mono ?_; rintro e wn ⟨rfl, hE⟩; have hA : Hid (Chg (fun _ => False) w2 wn) := hE.out.1; have hB : Hid (Chg (fun _ => False) w2 wn ∧ MarkAt wn sb n (fun j => dec (SReach G.links G.keptP (j : Int)))) := ⟨hE.out.1, hB.out.2.same (hE.out.2.block sb hB.out.2.lt fun h => h)⟩)
      | (go_at_call 104; refine (HCo.out _ _ hA.out (Chg.refl _ _)).mono ?_; rintro e wn ⟨rfl, hE⟩; have hA : Hid (Chg (fun _ => False) w2 wn) := hE.out.1)
      | (go_at_call 104; refine (HCo.out _ _ hA.out.drew (Chg.refl _ _)).mono ?_; rintro e wn ⟨rfl, hE⟩; have hA : Hid (Chg (fun _ => False) w2 wn) := hE.out.1))
    all_goals (go_wp2; go_meet; exact ⟨by first | rfl | simp [hgt2], hA⟩)
   case rest =>
    obtain ⟨rfl, HCx⟩ := hcut;obtain ⟨P, hPdef⟩ : ∃ P : Nat → Prop, P = fun b => rowBlk (.slice va nf vc) = some b := ⟨_, rfl⟩;obtain ⟨G2, hG2⟩ : ∃ G2 : Nat → GS, G2 = fun i => { G with nodes := G.nodes ++ [gnode d], links := G.links ++ (gflds n d.flds).take i } := ⟨_, rfl⟩;have hRc := (HR.out.still HC2.out).still HCx.out;have hdw : Chg (fun _ => False) wc (wc.drewN 1) := (Chg.refl _ _).drewN 1;have hC2c := HCx.out.trans hdw fun _ _ h => h;obtain ⟨a5, c5, a6, c6, w6, p2, happ, ⟨_, g0⟩, g1, hGG⟩ := nodes_app (hRc.still hdw) (by have := HG.out.few; omega) (gnode d);have hgn : (gnode d).cells = [.bool dt, .int .i64 dg, .int .i64 nf, .bool false] := by
     have := HGn.out;rw [this]; rfl
    have happ' : (Builtin.append_ #[89, 89] 89 #[.slice a5 G.nodes.length c5, .slice (some ⟨(wc.drewN 1).heap.size, 0, none⟩) 1 1]).run Tryz.prog ((wc.drewN 1).alloc (.cells #[.bool dt, .int .i64 dg, .int .i64 nf, .bool false] 140)) = .ok (.slice a6 (G.nodes.length + 1) c6) w6 := by
     have e : (gnode d).cells.toArray = #[.bool dt, .int .i64 dg, .int .i64 nf, .bool false] := by rw [hgn]
     have e2 : (#[.bool (gnode d).table, .int .i64 (gnode d).tag, .int .i64 (gnode d).size, .bool (gnode d).gone] : Array Value) = (gnode d).cells.toArray := rfl;rw [e2, e] at happ;exact happ
    have hAd := AdG.got (w5 := w2) (P := P) (fun _ h => .inl h) (fun b hb => by rw [hPdef] at hb; exact (HVa.out b hb).2) (hC2c.mono fun _ _ h => h.elim) (fun b hb => by rw [hPdef] at hb; have := (HVa.out b hb).1; have := HC2.out.size; have := hC2c.size; omega) hGG;have HN : Hid (AdG w2 (w6.setCell ⟨pb, 2, none⟩ (.slice a6 (G.nodes.length + 1) c6)) pb hb Lg (G2 0) P ∧ ∀ vb, 0 < nf → rowBlk (.slice va nf vc) = some vb → LBlk (w6.setCell ⟨pb, 2, none⟩ (.slice a6 (G.nodes.length + 1) c6)) vb d.flds 0) := by
     refine ⟨?_, fun vb hp hvb => ?_⟩
     · have e : ({ G with nodes := G.nodes ++ [gnode d] } : GS) = G2 0 := by rw [hG2]; simp
       rw [← e]; exact hAd.1
     · obtain ⟨vb', _, h2, h3⟩ := HVb.out hp;rw [hvb] at h2;simp only [Option.some.injEq] at h2;subst h2;refine h3.same ?_;rw [hAd.2 vb (by rw [hPdef]; exact hvb)];exact (HC2.out.trans hC2c fun _ _ h => h).block vb h3.lt fun h => h
    have HNl : Hid (n = G.nodes.length) := HD.out.2.2.2.2.2.2.2.1;rw [← HNl.out] at p2 happ' HN;have p2c : wc.cell? ⟨pb, 2, none⟩ = some (.slice a5 n c5) := p2;have q0A := fun X => cell_chg ((Chg.refl (fun _ => False) wc).alloc X) p2c fun h => h;clear p2;have HCeA : Hid (∀ X, ((wc.alloc X).cell? ⟨b4, 0, none⟩ = some (.bool dt) ∧ (wc.alloc X).cell? ⟨b4, 1, none⟩ = some (.int .i64 dg) ∧ (wc.alloc X).cell? ⟨b4, 2, none⟩ = some (.int .i64 nf) ∧ (wc.alloc X).cell? ⟨b4, 3, none⟩ = some (.bool false))) := fun X => (HCe.out _ (HCx.out.alloc X)).2;have r0 := fun X => (HCeA.out X).1;have r1 := fun X => (HCeA.out X).2.1;have r2 := fun X => (HCeA.out X).2.2.1;have r3 := fun X => (HCeA.out X).2.2.2
    obtain ⟨_, s0, s1, s2, s3⟩ := HCe.out wc HCx.out;have HG2 := Lib.hid hG2;have HPd := Lib.hid hPdef;clear q0 q1 q2 q3 q4 hAd hGG happ hgn hRc hdw hC2c hA hG2 hPdef HCeA hgt hgt2
    go_upto_region 5 with fail
    go_cut [] from 26 to 33 (fun wx => Hid (AdG w2 wx pb hb Lg (G2 0) P ∧ ∀ vb, 0 < nf → rowBlk (.slice va nf vc) = some vb → LBlk wx vb d.flds 0))
    case first =>
     go_region_law (refine step_val rfl (exec_append rfl happ') ?_)
     all_goals (go_wp2; go_meet; exact HN)
    case rest =>
     have HN2 := hcut;clear HN happ' p2c q0A r0 r1 r2 r3 s0 s1 s2 s3 g0 g1;have hF : nf = d.flds.length := HD.out.2.2.2.1;have HF := Lib.hid hF;have HFl : Hid (nf ≤ 200 ∧ n ≤ 8000 ∧ G.links.length ≤ 900000 ∧ G.roots.length ≤ 9000) := ⟨HD.out.2.2.2.2.1, HD.out.2.2.2.2.2.2.2.2.1, HD.out.2.2.2.2.2.2.2.2.2.1, HD.out.2.2.2.2.2.2.2.2.2.2⟩;clear hF;go_wp2
     go_loopw [7] (fun s7 wr => ∃ i : Nat, i ≤ nf ∧ s7 = .int .i64 i ∧ Hid (AdG w2 wr pb hb Lg (G2 i) P ∧ ∀ vb, 0 < nf → rowBlk (.slice va nf vc) = some vb → LBlk wr vb d.flds i)) (fun s7 _ => nf - (intOf s7).toNat)
     case atStart => exact ⟨0, by omega, rfl, HN2⟩
     case round =>
      obtain ⟨i, hi, rfl, HI⟩ := hrel;clear HN2;have hwn : IntKind.i64.wrap (n : Int) = (n : Int) := IntWalk.i64_in _ (by have := HFl.out; omega);have hwn2 : IntKind.i64.wrap ((n : Int) + 1 - 1) = (n : Int) := by rw [show (n : Int) + 1 - 1 = (n : Int) by omega]; exact hwn
      obtain ⟨Li, hRi, hLi, hPi⟩ := HI.out.1.ex;have hnodesLen : (G2 i).nodes.length = n + 1 := by rw [HG2.out]; show (G.nodes ++ [gnode d]).length = _; rw [List.length_append, ← HNl.out]; rfl
      have p2 : ∃ a c, wr.cell? ⟨pb, 2, none⟩ = some (.slice a (n + 1) c) := by
       obtain ⟨lab, v, hGr⟩ := hRi;obtain ⟨a, c, _, c2, _⟩ := hGr.nodesC;rw [hnodesLen] at c2;exact ⟨a, c, c2⟩
      obtain ⟨a2, cc2, p2⟩ := p2;by_cases hlt : i < nf
      · have hlt' : (i : Int) < (nf : Int) := by omega
        have hwi : IntKind.i64.wrap ((i : Int) + 1) = (i : Int) + 1 := IntWalk.i64_in _ (by have := HFl.out; omega);obtain ⟨vb, rfl, hvb, _⟩ := HVb.out (by omega);obtain ⟨c, hc⟩ : ∃ c, d.flds[i]? = some c := ⟨_, List.getElem?_eq_getElem (by rw [← HF.out]; exact hlt)⟩;obtain ⟨⟨_, m0⟩, m1, ⟨_, m2⟩, m3, hL2, hCv, k0, k1, k2, k3, k4⟩ := (HI.out.2 vb (by omega) hvb).step hc (n : Int) rfl;have hvbP : P vb := by rw [HPd.out]; exact hvb
        have hAd := HI.out.1.turn (hCv.mono fun b _ e => e ▸ hvbP);obtain ⟨Lj, hRj, hLj, hPj⟩ := hAd.ex;have hlinks : (G2 i).links.length ≤ 1000000 := by
         rw [HG2.out];show (G.links ++ (gflds n d.flds).take i).length ≤ _;rw [List.length_append];have := List.length_take_le i (gflds n d.flds);have := HFl.out;omega
        generalize hwB : (wr.setCell ⟨vb, i * 5, none⟩ (.int .i64 n)).setCell ⟨vb, i * 5 + 1, none⟩ (.int .i64 i) = wB at *;have hdw : Chg (fun _ => False) wB (wB.drewN 1) := (Chg.refl _ _).drewN 1;obtain ⟨a5, c5, a6, c6, w6, p3, happ, ⟨_, g0⟩, g1, hGG⟩ := links_app (hRj.still hdw) hlinks ⟨n, i, -1, c.ref, c.num⟩;have hAd2 := AdG.got hLj hPj (hAd.chg.trans hdw fun _ _ h => h.elim) (fun b hb => by rw [HPd.out] at hb; have := (HVa.out b hb).1; have := HC2.out.size; have := hAd.chg.size; have := hdw.size; omega) hGG
        have HN : Hid (AdG w2 (w6.setCell ⟨pb, 3, none⟩ (.slice a6 ((G2 i).links.length + 1) c6)) pb hb Lg (G2 (i + 1)) P ∧ ∀ vb', 0 < nf → rowBlk (.slice (some ⟨vb, 0, none⟩) nf vc) = some vb' → LBlk (w6.setCell ⟨pb, 3, none⟩ (.slice a6 ((G2 i).links.length + 1) c6)) vb' d.flds (i + 1)) := by
         refine ⟨?_, fun vb' hp hvb' => ?_⟩
         · have e : ({ (G2 i) with links := (G2 i).links ++ [⟨n, i, -1, c.ref, c.num⟩] } : GS) = G2 (i + 1) := by
            rw [HG2.out];simp [List.take_add_one, gflds_get, hc]
           rw [← e]; exact hAd2.1
         · rw [hvb] at hvb';simp only [Option.some.injEq] at hvb';subst hvb';exact hL2.same ((hAd2.2 vb hvbP).trans (hdw.block vb hL2.lt fun h => h))
        have p3c : wB.cell? ⟨pb, 3, none⟩ = some (.slice a5 (G2 i).links.length c5) := p3;have hA : ∀ X, Chg (fun _ => False) wB (wB.alloc X) := fun X => (Chg.refl _ wB).alloc X;have p3A := fun X => cell_chg (hA X) p3c fun h => h;have k0A := fun X => cell_chg (hA X) k0 fun h => h;have k1A := fun X => cell_chg (hA X) k1 fun h => h;have k2A := fun X => cell_chg (hA X) k2 fun h => h;have k3A := fun X => cell_chg (hA X) k3 fun h => h;have k4A := fun X => cell_chg (hA X) k4 fun h => h;obtain ⟨cr, cn⟩ := c;simp only at k3 k4 k3A k4A happ;have HVbP := Lib.hid hvb;clear hA hAd hAd2 hGG hRj hLj hPj hL2 hCv hRi hLi hPi hdw hnodesLen hc hlinks p3 hvbP hvb HI hlt;generalize (G2 i).links.length = ll at *
        go_upto_region 11 with fail
        try rw [hwB]
        clear hwB p2 m0 m1 m2 m3 hwn hwn2
        go_region_law (refine step_val rfl (exec_append rfl happ) ?_)
        all_goals
         clear happ p3c p3A k0 k1 k2 k3 k4 k0A k1A k2A k3A k4A g0 g1;go_wp2
         go_roundw
         case rel => exact ⟨i + 1, by omega, by go_num, HN⟩
         case measure => simp [intOf]; omega
      · obtain rfl : i = nf := by omega
        have eG : G2 i = G.addN d := by
         rw [HG2.out];show ({ G with nodes := _, links := G.links ++ (gflds n d.flds).take i } : GS) = _;have hll : (gflds n d.flds).length = d.flds.length := by simp [gflds]
         rw [List.take_of_length_le (by have := HF.out; omega), HNl.out]; rfl
        have hSim1 : GSim (G.addN d) (I.add d) := HS.out.add HO.out.keys HD.out.1 HD.out.2.1 HD.out.2.2.1;have hGr := grant_g hRi (by rw [eG]; show G.roots.length < 20000; have := HFl.out; omega) (by rw [eG]; exact HS.out.rootsN HO.out) (n : Int);have efr : (G2 i).fresh = I.fresh := by rw [eG, hSim1.fresh]; rfl
        rw [efr] at hGr;have HGr := Lib.hid hGr;have HE : Hid (G2 i = G.addN d ∧ GSim ((G.addN d).grant n) ((I.add d).grant I.nodes.length) ∧ (G.addN d).links.length ≤ G.links.length + 200) := by
         refine ⟨eG, ?_, ?_⟩
         · have e : (I.nodes.length : Int) = (n : Int) := by rw [HNl.out, HS.out.nodes, List.length_map]
           rw [e]; exact hSim1.grant _
         · show (G.links ++ gflds G.nodes.length d.flds).length ≤ _;rw [List.length_append];have hll : (gflds G.nodes.length d.flds).length = d.flds.length := by simp [gflds]
           have := HFl.out;have := HF.out;omega
        have HLi : Hid ((∀ b ∈ Li, b ∈ Lg ∨ w2.heap.size ≤ b) ∧ (∀ b, P b → b ∉ Li)) := ⟨hLi, hPi⟩;have HIc := Lib.hid HI.out.1.chg;clear hRi hLi hPi hGr efr eG hSim1 hnodesLen HI
        go_upto_region 12 with fail
        go_wp2_with fail
        refine HGr.out.mono ?_; rintro e w9 ⟨rfl, hGG⟩;have hAd := AdG.got HLi.out.1 HLi.out.2 HIc.out (fun b hb => by rw [HPd.out] at hb; have := (HVa.out b hb).1; have := HC2.out.size; have := HIc.out.size; omega) hGG;have HAd := Lib.hid hAd.1;have HTo := Lib.hid (told_nums (w1 := w9) 0 (l := [I.fresh]) (by simp) (by simp));clear hAd hGG HGr p2
        go_wp2_with fail
        refine HTo.out.mono ?_; rintro e wt ⟨u, rfl, hTo, hCg⟩;obtain ⟨Lj, hRj, hLj, _⟩ := HAd.out.ex;rw [HE.out.1] at hRj;have hbc : bb < w9.heap.size := by have := lt_of_block HB2.out; have := HAd.out.chg.size; omega
        obtain ⟨na, nn, nc, rfl, ⟨⟨_, u0⟩, ⟨_, u1⟩, ⟨_, u2⟩, ⟨_, u3⟩⟩, ⟨f0, f1, f2, f3⟩, hZ⟩ := add_end HK.out HL.out (fun b hb => (HVa.out b hb).1) HC2.out HB2.out HBB.out hRj hLj (HAd.out.chg.mono fun b _ h => h.imp id fun hp => by rw [HPd.out] at hp; exact hp) HE.out.2.1 HE.out.2.2 hTo hbc hCg;clear hTo hCg HTo HK hbc hRj hLj;go_wp2;obtain ⟨s1, s2⟩ := hZ.out _ rfl;exact bodyPost_ret (results_cell_row rfl _ _ bb 101 _ (0, 0) _ rfl s1 HFs.out rfl zTold) rfl s2
 · rw [if_neg hfit] at HK;have hgt : room < (kw : Int) + (nf1 : Int) := by omega
   have hgt2 : decide (room < (kw : Int) + (nf1 : Int)) = true := decide_eq_true hgt;clear hfit
   go_upto_region 3 with fail
   go_cut [23] from 12 to 23 (fun s23 wx => s23 = .bool true ∧ Hid (Chg (fun _ => False) w2 wx))
   case first =>
    go_region_held3 (fun W => W.cell? ⟨pb, 1, none⟩ = some (.int .i64 room) ∧ W.cell? ⟨b4, 0, none⟩ = some (.bool dt) ∧ W.cell? ⟨b4, 1, none⟩ = some (.int .i64 dg) ∧ W.cell? ⟨b4, 2, none⟩ = some (.int .i64 nf) ∧ W.cell? ⟨b4, 3, none⟩ = some (.bool false))
     (first | exact ⟨q0, q1, q2, q3, q4⟩ | exact HCe.out _ hA.out | exact HCe.out _ (hA.out.drew) | exact HCe.out _ (hA.out.drewN _))
     (first
      | (go_at_call 53; refine (HWd.out _ _ _ hB.out (Chg.refl _ _)).mono ?_; rintro e wn ⟨rfl, hA⟩; clear hB)
      | (go_at_call 54; refine (HKp.out _ hA.out).mono ?_; rintro e wn ⟨sb, rfl, hB⟩; have hA : Hid (Chg (fun _ => False) w2 wn) := hB.out.1)
      | (go_at_call 54; refine (HKp.out _ hA.out.drew).mono ?_; rintro e wn ⟨sb, rfl, hB⟩; have hA : Hid (Chg (fun _ => False) w2 wn) := hB.out.1)
      | (go_at_call 104; refine (HCo.out _ _ hB.out.1 (Chg.refl _ _)).mono ?_; rintro e wn ⟨rfl, hE⟩; have hA : Hid (Chg (fun _ => False) w2 wn) := hE.out.1; have hB : Hid (Chg (fun _ => False) w2 wn ∧ MarkAt wn sb n (fun j => dec (SReach G.links G.keptP (j : Int)))) := ⟨hE.out.1, hB.out.2.same (hE.out.2.block sb hB.out.2.lt fun h => h)⟩)
      | (go_at_call 104; refine (HCo.out _ _ hA.out (Chg.refl _ _)).mono ?_; rintro e wn ⟨rfl, hE⟩; have hA : Hid (Chg (fun _ => False) w2 wn) := hE.out.1)
      | (go_at_call 104; refine (HCo.out _ _ hA.out.drew (Chg.refl _ _)).mono ?_; rintro e wn ⟨rfl, hE⟩; have hA : Hid (Chg (fun _ => False) w2 wn) := hE.out.1))
    all_goals (go_wp2; go_meet; exact ⟨by first | rfl | simp [hgt2], hA⟩)
   case rest =>
    obtain ⟨rfl, HCx⟩ := hcut;have HTo := Lib.hid (told_nums (w1 := wc) 220 (l := [0]) (by simp) (by simp));clear q0 q1 q2 q3 q4 hA hgt hgt2 hwr
    go_wp2_with fail
    refine HTo.out.mono ?_; rintro e wt ⟨u, rfl, hTo, hCg⟩;have hbc := lt_of_block (HCx.out.at HB2.out fun h => h);obtain ⟨na, nn, nc, rfl, ⟨⟨_, u0⟩, ⟨_, u1⟩, ⟨_, u2⟩, ⟨_, u3⟩⟩, ⟨f0, f1, f2, f3⟩, hZ⟩ := add_end HK.out HL.out (fun b hb => (HVa.out b hb).1) HC2.out HB2.out HBB.out ((HR.out.still HC2.out).still HCx.out) (fun _ h => .inl h) (HCx.out.mono fun _ _ h => h.elim) HS.out (Nat.le_add_right _ _) hTo hbc hCg;clear hTo hCg HTo HK hbc;go_wp2;obtain ⟨s1, s2⟩ := hZ.out _ rfl;exact bodyPost_ret (results_cell_row rfl _ _ bb 101 _ (0, 0) _ rfl s1 HFs.out rfl zTold) rfl s2
def vlinks (I : IS) (cs : List Wd) : List GL := cs.map fun c => ⟨0, 0, -1, (I.wordC c).ref, (I.wordC c).num⟩
theorem vlinks_get (I : IS) (cs : List Wd) (j : Nat) : (vlinks I cs)[j]? = (cs[j]?).map fun c => ⟨0, 0, -1, (I.wordC c).ref, (I.wordC c).num⟩ := by unfold vlinks; rw [List.getElem?_map]
theorem LBlk.of (h : Row w 144 5 v (vlinks I cs).length (glCells (vlinks I cs))) (h0 : 0 < cs.length) : ∃ vb c, v = .slice (some ⟨vb, 0, none⟩) cs.length (c + 1) ∧ rowBlk v = some vb ∧ LBlk w vb (cs.map I.wordC) 0 := by
 have hll : (vlinks I cs).length = cs.length := by simp [vlinks]
 obtain ⟨h1, h2, ⟨h3, _⟩ | ⟨g, cap, cur, rfl, h4, h5, h6, h7, h8⟩⟩ := h
 · omega
 · refine ⟨g, cap, by rw [hll], by rfl, ⟨cur, h4, by rw [List.length_map, h7]; omega, fun j c _ hc => ?_⟩⟩;rw [List.getElem?_map] at hc;obtain ⟨c0, hc0, rfl⟩ := Option.map_eq_some_iff.1 hc;have hj : (vlinks I cs)[j]? = some ⟨0, 0, -1, (I.wordC c0).ref, (I.wordC c0).num⟩ := by rw [vlinks_get, hc0]; rfl
   have hjl := (List.getElem?_eq_some_iff.1 hj).1;have hcell : ∀ k, k < 5 → cur[j * 5 + k]? = (GL.cells ⟨0, 0, -1, (I.wordC c0).ref, (I.wordC c0).num⟩)[k]? := fun k hk => by
    have h9 := flat_get (f := GL.cells) (k := 5) (fun _ => rfl) (vlinks I cs) j k _ hj hk;have h10 : (glCells (vlinks I cs))[j * 5 + k]? = _ := h9;rw [← h8, List.getElem?_take_of_lt (by omega), Array.getElem?_toList] at h10;exact h10
   exact ⟨hcell 2 (by omega), hcell 3 (by omega), hcell 4 (by omega)⟩
theorem made_g (hR : GRep w pb hb Lg G) (hS : GSim G I) (hO : IOk I) (hG : GOk G) (hroots : G.roots.length ≤ 9000) (hnodes : G.nodes.length ≤ 8000) (hlinks : G.links.length ≤ 900000) (hsz : ∀ x ∈ G.nodes, x.size ≤ 1000) (kd a b : Int) {xc : Option Addr} {xn : Nat} (xm : Nat) (hcs : CellsAt w xc xn cs) (hxn : xn ≤ 1000000) :
 Calls Tryz.prog 91 #[.pointer (some ⟨pb, 1, none⟩), .agg #[.int .i64 kd, .int .i64 a, .int .i64 b, .slice xc xn xm]] w fun e w' => ∃ u, e = .returned u ∧ DoQ w pb hb Lg G (I.make a cs).2.2 [(I.make a cs).1, (I.make a cs).2.1] u w' := by
 refine ret_k fun K hK => ?_;have HK := Lib.hid hK;have HR := Lib.hid hR;have HS := Lib.hid hS;have HO := Lib.hid hO;have HG := Lib.hid hG;have HL := Lib.hid hR.lgs;have HSz := Lib.hid hsz;have HLen : Hid (cs.length = xn ∧ xn ≤ 1000000 ∧ G.roots.length ≤ 9000 ∧ G.nodes.length ≤ 8000 ∧ G.links.length ≤ 900000) := ⟨hcs.len, hxn, hroots, hnodes, hlinks⟩;obtain ⟨fs, hfs⟩ := structOf sTold;have HFs := Lib.hid hfs;obtain ⟨w2, hw2⟩ : ∃ w2, w2 = (w.alloc (.cells #[.int .i64 kd, .int .i64 a, .int .i64 b, .slice xc xn xm] 33)).alloc (.cells #[.slice none 0 0, .bool false, .int .i64 0, .int .i64 0] 101) := ⟨_, rfl⟩
 have hC2 : Chg (fun _ => False) w w2 := by rw [hw2]; exact ((Chg.refl _ w).alloc _).alloc _
 have hb2 : w2.heap[w.heap.size + 1]? = some (.cells #[.slice none 0 0, .bool false, .int .i64 0, .int .i64 0] 101 (0, 0)) := by rw [hw2]; exact heap_alloc2_new _ _ _
 have hb0 : w2.heap[w.heap.size]? = some (.cells #[.int .i64 kd, .int .i64 a, .int .i64 b, .slice xc xn xm] 33 (0, 0)) := by rw [hw2]; exact heap_alloc2_old _ _ _
 have HCs := Lib.hid (hcs.chg0 hC2);have HC2 := Lib.hid hC2;have HB2 := Lib.hid hb2;have HQ : Hid (∀ wx, Chg (fun _ => False) w2 wx → wx.cell? ⟨w.heap.size, 1, none⟩ = some (.int .i64 a) ∧ wx.cell? ⟨w.heap.size, 3, none⟩ = some (.slice xc xn xm)) := fun wx hC => by
  have h := hC.at hb0 fun h => h;exact ⟨cellAt h 1, cellAt h 3⟩
 have HVl : Hid (∀ (c : Wd) wx, Chg (fun _ => False) w2 wx → Calls Tryz.prog 121 #[.pointer (some ⟨pb, 1, none⟩), c.agg] wx fun e w' => ∃ r n, e = .returned (.tuple #[.agg #[.int .i64 0, .int .i64 0, .int .i64 (-1), .bool r, .int .i64 n], .bool (I.okC c)]) ∧ (I.okC c = true → (⟨r, n⟩ : Wd) = I.wordC c) ∧ Chg (fun _ => False) wx w') := fun c wx hC => by
  have := value_g ((HR.out.still HC2.out).still hC) c.ref c.num;rw [HS.out.okC HO.out c] at this;refine this.mono ?_;rintro e w' ⟨rfl, hC'⟩;exact ⟨_, _, rfl, fun ho => (HS.out.wordC ho).symm, hC'⟩
 clear hK hR hS hO hG hsz hfs hC2 hb2 hb0 hcs hxn hroots hnodes hlinks
 go_enter Tryz.func91, Tryz.ntmps91
 go_upto_region 1 with fail
 rw [← hw2];obtain ⟨bb, hbb⟩ : ∃ bb, bb = w.heap.size + 1 := ⟨_, rfl⟩;have HBB : Hid (w.heap.size ≤ bb) := by show _ ≤ _; omega
 rw [← hbb] at HB2 ⊢;obtain ⟨b0, hb0⟩ : ∃ b0, b0 = w.heap.size := ⟨_, rfl⟩;rw [← hb0] at HQ ⊢;clear hw2 hbb hb0;go_wp2
 go_loopw [5, 6] (fun s5 s6 wr => ∃ (v : Value) (i : Nat), v = s5 ∧ i ≤ xn ∧ s6 = .int .i64 i ∧ Hid (Chg (fun _ => False) w2 wr ∧ Row wr 144 5 v (vlinks I (cs.take i)).length (glCells (vlinks I (cs.take i))) ∧ (∀ b, rowBlk v = some b → w2.heap.size ≤ b) ∧ ∀ c ∈ cs.take i, I.okC c = true)) (fun _ s6 _ => xn - (intOf s6).toNat)
 case atStart => exact ⟨_, 0, rfl, by omega, rfl, Lib.hid ⟨Chg.refl _ _, Row.nil _ _ _, fun b hb => by simp [rowBlk] at hb, fun c hc => by simp at hc⟩⟩
 case round =>
  obtain ⟨v, i, rfl, hi, rfl, HI⟩ := hrel;obtain ⟨hCr, hRow, hnew, hok⟩ := HI.out;obtain ⟨va, vc, rfl, _, _, _⟩ := hRow.slice;obtain ⟨q1, q3⟩ := HQ.out wr hCr;have hvl : (vlinks I (cs.take i)).length = i := by
   unfold vlinks;rw [List.length_map, List.length_take];have := HLen.out.1; omega
  by_cases hlt : i < xn
  · have hlt' : (i : Int) < (xn : Int) := by omega
    have hwi : IntKind.i64.wrap ((i : Int) + 1) = (i : Int) + 1 := IntWalk.i64_in _ (by have := HLen.out.2.1; omega);obtain ⟨⟨cr, cn⟩, hc⟩ : ∃ c, cs[i]? = some c := ⟨_, List.getElem?_eq_getElem (by rw [HLen.out.1]; exact hlt)⟩;obtain ⟨x, rfl, k1, k2⟩ := (HCs.out.chg0 hCr).cell i _ hc;have k3 : wr.cell? ⟨(x.add (i * 2)).block, (x.add (i * 2)).off + 1, none⟩ = some (.int .i64 cn) := by
     show wr.cell? ((x.add (i * 2)).add 1) = _;rw [Addr.add_add]; exact k2
    simp only at k1;have hVl := HVl.out ⟨cr, cn⟩ wr hCr;unfold Wd.agg at hVl;simp only at hVl;have HVw := Lib.hid hVl;have HRow := Lib.hid hRow;have HNw := Lib.hid hnew;have HOkT := Lib.hid hok;have HCr := Lib.hid hCr;have HCc := Lib.hid hc;have HVl' := Lib.hid hvl;obtain ⟨ok, hokc⟩ : ∃ ok, ok = I.okC ⟨cr, cn⟩ := ⟨_, rfl⟩;rw [← hokc] at HVw;have HOkc := Lib.hid hokc;rw [hvl];clear hCr hRow hnew hok hVl hc hvl hokc HI hlt k2
    go_upto_region 6 with (go_at_call 121; refine HVw.out.mono ?_; rintro e w3 ⟨r, nn, rfl, hwc, hC3⟩)
    have HWc := Lib.hid hwc;have hC4 : Chg (fun _ => False) wr (w3.alloc (.cells #[.int .i64 0, .int .i64 0, .int .i64 (-1), .bool r, .int .i64 nn] 144)) := hC3.alloc _;have hb7 := heap_alloc_new w3 (.cells #[.int .i64 0, .int .i64 0, .int .i64 (-1), .bool r, .int .i64 nn] 144);generalize w3.alloc (.cells #[.int .i64 0, .int .i64 0, .int .i64 (-1), .bool r, .int .i64 nn] 144) = w4 at hC4 hb7 ⊢;generalize w3.heap.size = b7 at hb7 ⊢;have HC4 := Lib.hid hC4;clear hwc hC3 hC4 HVw k1 k3 q1 q3;cases ok with
    | false =>
      have hmake : I.make a cs = (0, 221, I) := by
       unfold IS.make;rw [if_neg];rw [List.all_eq_true];intro h;have := h _ (List.mem_of_getElem? HCc.out);rw [← HOkc.out] at this;cases this
      rw [hmake] at HK;have HTo := Lib.hid (told_nums (w1 := w4) 221 (l := [0]) (by simp) (by simp));clear hmake hb7
      go_wp2_with fail
      refine HTo.out.mono ?_; rintro e wt ⟨u, rfl, hTo, hCg⟩;have hb4 := ((HCr.out.trans HC4.out fun _ _ h => h)).at HB2.out fun h => h;obtain ⟨na, nn', nc, rfl, ⟨⟨_, u0⟩, ⟨_, u1⟩, ⟨_, u2⟩, ⟨_, u3⟩⟩, ⟨f0, f1, f2, f3⟩, hZ⟩ := do_end HK.out HL.out HC2.out HB2.out HBB.out ((HR.out.still HC2.out).same (HCr.out.trans HC4.out fun _ _ h => h)) HS.out (Nat.le_add_right _ _) hTo (lt_of_block hb4) hCg;clear hTo hCg HTo HK hb4;go_wp2;obtain ⟨s1, s2⟩ := hZ.out _ rfl;exact bodyPost_ret (results_cell_row rfl _ _ bb 101 _ (0, 0) _ rfl s1 HFs.out rfl zTold) rfl s2
    | true =>
      have m0 := cellAt hb7 0;have m1 := cellAt hb7 1;have m2 := cellAt hb7 2;have m3 := cellAt hb7 3;have m4 := cellAt hb7 4;have hRow4 := HRow.out.same fun b hb => HC4.out.block b (HRow.out.lt hb) fun h => h;obtain ⟨a3, c3, w5, happ, hrow5, hC5, hloc5⟩ := app_struct 90 144 5 40 _ uLinks iLink rfl (by decide) (f := GL.cells) (fun _ => rfl) glOne hRow4 ⟨0, 0, -1, r, nn⟩ (by have := HVl'.out; have := HLen.out.2.1; omega) (by have := HVl'.out; have := HLen.out.2.1; omega);have e1 : vlinks I (cs.take (i + 1)) = vlinks I (cs.take i) ++ [⟨0, 0, -1, r, nn⟩] := by
       have := HWc.out rfl;unfold vlinks;rw [List.take_add_one, HCc.out, List.map_append];simp only [Option.toList_some, List.map_cons, List.map_nil, ← this]
      rw [HVl'.out] at happ hloc5;have HN : Hid (Chg (fun _ => False) w2 w5 ∧ Row w5 144 5 (.slice a3 (i + 1) c3) (vlinks I (cs.take (i + 1))).length (glCells (vlinks I (cs.take (i + 1)))) ∧ (∀ b, rowBlk (.slice a3 (i + 1) c3) = some b → w2.heap.size ≤ b) ∧ ∀ c ∈ cs.take (i + 1), I.okC c = true) := by
       have hsz4 := (HCr.out.trans HC4.out fun _ _ h => h).size;refine ⟨(HCr.out.trans HC4.out fun _ _ h => h).trans hC5 fun b hb e => by have := HNw.out b e; omega, ?_, fun b hb => ?_, fun c hcm => ?_⟩
       · rw [e1];rw [List.length_append, List.length_singleton, HVl'.out] at hrow5 ⊢;exact hrow5
       · rcases hloc5 b hb with h | h
         · have h' := HNw.out b (by rw [HVl'.out]; exact h);exact h'
         · omega
       · rw [List.take_add_one, HCc.out] at hcm;rcases List.mem_append.1 hcm with hcm | hcm
         · exact HOkT.out c hcm
         · simp only [Option.toList_some, List.mem_singleton] at hcm;subst hcm;exact HOkc.out.symm
      clear hRow4 hrow5 hC5 hloc5 e1 hb7 HRow HNw HOkT HWc HOkc HCc
      go_wp2_with (at_builtin; go_must (refine wpList_val rfl (exec_append rfl (by exact happ)) ?_))
      go_roundw
      case rel => exact ⟨_, i + 1, rfl, by omega, by go_num, HN⟩
      case measure => simp [intOf]; omega
  · obtain rfl : i = xn := by omega
    have htk : cs.take i = cs := List.take_of_length_le (by have := HLen.out.1; omega);rw [htk] at hRow hnew hok hvl;rw [htk, hvl];rw [hvl] at hRow hnew;have hall : cs.all I.okC = true := List.all_eq_true.2 hok;have hmk : I.make a cs = if a < 0 ∨ 200 < i then (0, 1, I) else I.adds (i + 1) ⟨false, a, cs.map I.wordC, [], false⟩ := by
     unfold IS.make;rw [if_pos hall, HLen.out.1]
    rw [hmk] at HK;have HCr := Lib.hid hCr;have HNw := Lib.hid hnew;have HRow := Lib.hid hRow;have HOk := Lib.hid hok;have HVlen := Lib.hid hvl;clear hmk hall htk hCr hnew hRow hok hvl HI;by_cases hbad : a < 0 ∨ 200 < i
    · rw [if_pos hbad] at HK;have HTo := Lib.hid (told_nums (w1 := wr) 1 (l := [0]) (by simp) (by simp));have hcase : a < 0 ∨ (¬ (a < 0) ∧ (200 : Int) < (i : Int)) := by omega
      clear hbad;rcases hcase with ha | ⟨ha, hi2⟩
      all_goals
       go_wp2_with fail
       refine HTo.out.mono ?_; rintro e wt ⟨u, rfl, hTo, hCg⟩;have hb4 := HCr.out.at HB2.out fun h => h;obtain ⟨na, nn', nc, rfl, ⟨⟨_, u0⟩, ⟨_, u1⟩, ⟨_, u2⟩, ⟨_, u3⟩⟩, ⟨f0, f1, f2, f3⟩, hZ⟩ := do_end HK.out HL.out HC2.out HB2.out HBB.out ((HR.out.still HC2.out).same HCr.out) HS.out (Nat.le_add_right _ _) hTo (lt_of_block hb4) hCg;clear hTo hCg HTo HK hb4;go_wp2;obtain ⟨s1, s2⟩ := hZ.out _ rfl;exact bodyPost_ret (results_cell_row rfl _ _ bb 101 _ (0, 0) _ rfl s1 HFs.out rfl zTold) rfl s2
    · rw [if_neg hbad] at HK;have ha : ¬ (a < 0) := by omega
      have hi2 : ¬ ((200 : Int) < (i : Int)) := by omega
      have hfl : (⟨false, a, cs.map I.wordC, [], false⟩ : Nd).flds.length = i := by show (cs.map I.wordC).length = i; rw [List.length_map]; exact HLen.out.1
      have hrow' : Row wr 144 5 (.slice va i vc) (vlinks I cs).length (glCells (vlinks I cs)) := by rw [HVlen.out]; exact HRow.out
      have hAdd := added_g ((HR.out.still HC2.out).still HCr.out) HS.out HO.out HG.out HLen.out.2.2.1 HLen.out.2.2.2.1 HLen.out.2.2.2.2 HSz.out (d := ⟨false, a, cs.map I.wordC, [], false⟩) rfl rfl (fun m hm => by
       obtain ⟨j, c, hj, hr, rfl⟩ := mem_refsW.1 hm;have hj' : (cs.map I.wordC)[j]? = some c := hj;rw [List.getElem?_map] at hj';obtain ⟨c0, hc0, rfl⟩ := Option.map_eq_some_iff.1 hj';exact HO.out.wordC (HOk.out c0 (List.mem_of_getElem? hc0)) hr) (by rw [hfl]; omega) (by show 1 + (cs.map I.wordC).length = (cs.map I.wordC).length + 1; omega) (va := va) (vc := vc) (by
       rw [hfl];intro b hb;refine ⟨hrow'.lt hb, fun hi => ?_⟩;have := HNw.out b hb;have := HL.out b hi;have := HC2.out.size;omega) (by
       rw [hfl];intro h0;obtain ⟨vb, c, h1, h2, h3⟩ := LBlk.of hrow' (by rw [HLen.out.1]; exact h0);simp only [Value.slice.injEq] at h1;exact ⟨vb, h1.1, h2, h3⟩)
      rw [hfl] at hAdd;have HAdd := Lib.hid hAdd;clear hAdd hfl hrow' hbad
      go_wp2_with fail
      refine HAdd.out.mono ?_; rintro e wt ⟨u, rfl, hTo, G', hR', hC', hSim', hlen'⟩;have hGG : GGot w2 pb hb Lg G' wt := by
       refine ⟨hR'.more (fun b hb => ?_) fun b hb => ?_, (HCr.out.mono fun _ _ h => h.elim).trans hC' fun b hb h => ?_⟩
       · rcases List.mem_append.1 hb with hb | hb
         · exact List.mem_append_left _ hb
         · have := mem_since.1 hb;have := HCr.out.size;exact List.mem_append_right _ (mem_since.2 ⟨by omega, by omega⟩)
       · rcases List.mem_append.1 hb with hb | hb
         · have := HL.out b hb;have := HC2.out.size;have := HCr.out.size;have := hC'.size;omega
         · exact (mem_since.1 hb).2
       · rcases h with h | h
         · exact h
         · have := HNw.out b h; omega
      have hb4 := HCr.out.at HB2.out fun h => h;obtain ⟨na, nn', nc, rfl, ⟨⟨_, u0⟩, ⟨_, u1⟩, ⟨_, u2⟩, ⟨_, u3⟩⟩, ⟨f0, f1, f2, f3⟩, hZ⟩ := do_end HK.out HL.out HC2.out HB2.out HBB.out hGG hSim' hlen' hTo (lt_of_block hb4) (Chg.refl _ _);clear hTo hGG hR' hC' hSim' hlen' HAdd HK hb4;go_wp2;obtain ⟨s1, s2⟩ := hZ.out _ rfl;exact bodyPost_ret (results_cell_row rfl _ _ bb 101 _ (0, 0) _ rfl s1 HFs.out rfl zTold) rfl s2
end Go.Proofs.YtelghmmcbgfjnaaGreat
