/-
  The walk of reached. (A part of the proof, joined of: Wj; made smaller.)
-/
import Derived.Test.YtelghmmcbgfjnaaGreatH05
import Derived.Deep.LoopGhost
set_option maxHeartbeats 4000000
set_option maxRecDepth 100000
namespace Go.Proofs.YtelghmmcbgfjnaaGreat
variable {A : St} {S' S'' Sa ts : List Int} {es : List En} {g : Gh} {w : World}
open Go.RowKit
theorem RI.start (hR : Rep w g A) :
 RI w g A (w.heap.size + 1) w.heap.size ((w.alloc (.map #[] 0)).alloc (.cells #[.map (some w.heap.size), .slice none 0 0] 128)) ⟨w.heap.size + 1, w.heap.size, .slice none 0 0⟩ (.slice none 0 0) [] [] [] := by
 have h1 : (w.alloc (.map #[] 0)).heap.size = w.heap.size + 1 := by simp
 refine ⟨⟨?_, ?_, Row.nil _ _ _⟩, rfl, rfl, (hR.alloc _).alloc _, ((Chg.refl _ _).alloc _).alloc _, ?_, Row.nil _ _ _, fun b hb => by simp [rowBlk] at hb⟩
 · have := heap_alloc_new (w.alloc (.map #[] 0)) (.cells #[.map (some w.heap.size), .slice none 0 0] 128);rw [h1] at this;exact this
 · exact (MapAt.made w).same (by rw [heap_alloc, if_neg (by omega)])
 · intro b hb;rcases hb with rfl | rfl | hb
   · show w.heap.size ≤ w.heap.size + 1; omega
   · exact Nat.le_refl _
   · simp [rowBlk] at hb
def EDone (Sa S' : List Int) (es : List En) : Prop := ∀ x ∈ es, x.key ∈ Sa → x.val.ref = true → x.val.num ∈ S'
def TDone (A : St) (Sa S' : List Int) (ts : List Int) : Prop := ∀ t ∈ ts, ∀ o, A.objs.lookup t = some o → EDone Sa S' o.ents
theorem EDone.mono (h : EDone Sa S' es) (hs : ∀ n ∈ S', n ∈ S'') : EDone Sa S'' es := fun x hx hk hr => hs _ (h x hx hk hr)
theorem TDone.mono (h : TDone A Sa S' ts) (hs : ∀ n ∈ S', n ∈ S'') : TDone A Sa S'' ts := fun t ht o ho => (h t ht o ho).mono hs
theorem EDone.snoc {q : Nat} (hq : q < es.length) (h : EDone Sa S' (es.take q)) (hx : (es[q]).key ∈ Sa → (es[q]).val.ref = true → (es[q]).val.num ∈ S') : EDone Sa S' (es.take (q + 1)) := by
 rw [List.take_succ_eq_append_getElem hq];intro x hm hk hr;simp only [List.mem_append, List.mem_singleton] at hm;rcases hm with hm | rfl
 · exact h x hm hk hr
 · exact hx hk hr
theorem TDone.snoc {j : Nat} (hj : j < ts.length) (h : TDone A Sa S' (ts.take j)) {o : Ob} (ho : A.objs.lookup (ts[j]) = some o) (hx : EDone Sa S' o.ents) : TDone A Sa S' (ts.take (j + 1)) := by
 rw [List.take_succ_eq_append_getElem hj];intro t hm o' ho';simp only [List.mem_append, List.mem_singleton] at hm;rcases hm with hm | rfl
 · exact h t hm o' ho'
 · rw [ho] at ho'; simp only [Option.some.injEq] at ho'; subst ho'; exact hx
theorem see_app (S N : List Int) (m : Int) : ∃ N', seeS (S ++ N) m = S ++ N' ∧ seeT (S ++ N) N m = N' ∧ (∀ n ∈ S ++ N, n ∈ S ++ N') ∧ m ∈ S ++ N' := by
 by_cases h : m ∈ S ++ N
 · exact ⟨N, by simp only [seeS, if_pos h], by simp only [seeT, if_pos h], fun _ h => h, h⟩
 · refine ⟨N ++ [m], by simp only [seeS, if_neg h, List.append_assoc], by simp only [seeT, if_neg h], ?_, by simp⟩;intro n hn;simp only [List.mem_append] at hn ⊢;rcases hn with hn | hn
   · exact .inl hn
   · exact .inr (.inl hn)
theorem reached_any (hR : Rep w g A) (hf : Fit A) (hcl : Closed A) {v : Value} {from_ : List Int} (hv : Row w 3 1 v from_.length (intCells from_)) (hd : ∀ n ∈ from_, (A.objs.lookup n).isSome)
 (hlen : from_.length ≤ 400000000000) :
 Calls Tryz.prog 117 #[.pointer (some ⟨g.hb, 0, none⟩), v] w fun e w' =>
  ∃ (m : Nat) (S : List Int), e = .returned (.map (some m)) ∧ MapAt w' m (S.map fun n => (n, .bool true)) ∧ (∀ n, n ∈ S ↔ Reach A from_ n) ∧ w.heap.size ≤ m ∧ Chg (fun _ => False) w w' := by
 obtain ⟨fa, fc, rfl, hle, hcm, hcase⟩ := hv.slice;have hmm := @run_makeMap Tryz.prog;have hst := RI.start hR;refine ret_k fun K hK => ?_;have HFrom := Lib.hid (fun (wr : World) (h : Chg (fun _ => False) w wr) (j : Nat) (hj : j < from_.length) => (show ∃ b, fa = some ⟨b, 0, none⟩ ∧ wr.cell? ⟨b, j, none⟩ = some (.int .i64 (from_[j])) by
  obtain ⟨b, hb, _, hc⟩ := hv.cells (by omega);refine ⟨b, hb, ?_⟩;have h1 := hc j (.int .i64 (from_[j])) (by simp [intCells, hj]);rw [← h1];exact World.cell?_of_block (h.block b (World.block_lt_of_cell? w _ h1) (fun h => h))))
 have HSee := Lib.hid (fun (wr : World) (kg : WkG) (vtb : Value) (S T Tb : List Int) (h : RI w g A (w.heap.size + 1) w.heap.size wr kg vtb S T Tb) (n : Int) (hT : T.length < 1000000000000) => RI.see hR h n hT);have HSt := Lib.hid hst;clear hst hv hcase
 go_enter Tryz.func117, Tryz.ntmps117
 go_wp2
 go_loopw [20] (fun i wr => ∃ (j : Nat) (kg : WkG), j ≤ from_.length ∧ i = .int .i64 j ∧ RI w g A (w.heap.size + 1) w.heap.size wr kg (.slice none 0 0) (seeL ([], []) (from_.take j)).1 (seeL ([], []) (from_.take j)).2 []) (fun i _ => from_.length - (intOf i).toNat)
 case atStart => exact ⟨0, _, Nat.zero_le _, rfl, by simpa [seeL] using HSt.out⟩
 case round =>
  obtain ⟨j, kg, hj, rfl, hI⟩ := hrel;by_cases hlt : j < from_.length
  · obtain ⟨fb, rfl, c0⟩ := HFrom.out _ hI.old j hlt;have hTl : (seeL ([], []) (from_.take j)).2.length < 1000000000000 := by
     have := seeL_len ([], []) (from_.take j);have := List.length_take_le j from_;simp only [List.length_nil] at *;omega
    have HS := Lib.hid (HSee.out _ _ _ _ _ _ hI (from_[j]) hTl);have HN : Hid (from_.take (j + 1) = from_.take j ++ [from_[j]]) := List.take_succ_eq_append_getElem hlt;generalize from_[j] = n at *;clear hI hTl
    go_wp2_with (go_at_call 73; refine HS.out.mono ?_; rintro e w2 ⟨rfl, kg2, hI2⟩)
    have HI2 := Lib.hid hI2
    go_roundw
    case rel => exact ⟨j + 1, kg2, by omega, by go_num, by rw [HN.out, seeL_snoc]; exact HI2.out⟩
    case measure => simp [intOf]; omega
  · have hje : j = from_.length := by omega
    subst hje;rw [List.take_length] at hI;have HI := Lib.hid hI;have HP := Lib.hid (PI.start (A := A) hd);clear hI HFrom HSt;go_wp2
    go_loopg [8] (A.objs.length) (fun num v8 wr => ∃ (kg : WkG) (S T Tb : List Int) (ta : Option Addr) (tc : Nat), v8 = .slice ta Tb.length tc ∧ RI w g A (w.heap.size + 1) w.heap.size wr kg (.slice ta Tb.length tc) S T Tb ∧ PI A from_ S T Tb ∧ A.objs.length ≤ num + S.length)
    case atStart => exact ⟨kg, _, _, [], none, 0, rfl, HI.out, HP.out, by omega⟩
    case round =>
     clear HI HP HSee;obtain ⟨kg, S, T, Tb, ta, tc, rfl, hI, hP, hnum⟩ := hrel;obtain ⟨wo, rfl⟩ : ∃ wo : World, wo = wr := ⟨_, rfl⟩;obtain ⟨go, rfl⟩ : ∃ go : Nat, go = gk := ⟨_, rfl⟩;have HI0 := Lib.hid hI;have HP0 := Lib.hid hP;clear hI hP;go_wp2
     go_loopg [8] (2 * A.objs.length + T.length) (fun num v8 wr => ∃ (kg : WkG) (S T Tb : List Int) (ta : Option Addr) (tc : Nat), v8 = .slice ta Tb.length tc ∧ RI w g A (w.heap.size + 1) w.heap.size wr kg (.slice ta Tb.length tc) S T Tb ∧ PI A from_ S T Tb ∧ A.objs.length ≤ go + S.length ∧ 2 * A.objs.length + T.length ≤ num + 2 * S.length)
     case atStart => exact ⟨kg, S, T, Tb, ta, tc, rfl, HI0.out, HP0.out, hnum, by omega⟩
     case round =>
      clear HI0 HP0 hnum;obtain ⟨kg, S, T, Tb, ta, tc, rfl, hI, hP, hnum, hnum2⟩ := hrel;obtain ⟨va, vc, hvt, hvle, _, hvcase⟩ := hI.wk.row.slice;have hwb := hI.wk.wb;rw [hI.kwb, hI.kms, hvt] at hwb;have c0 : wr.cell? ⟨w.heap.size + 1, 0, none⟩ = some (.map (some w.heap.size)) := cellAt hwb 0;have c1 : wr.cell? ⟨w.heap.size + 1, 1, none⟩ = some (.slice va T.length vc) := cellAt hwb 1;have f1 : wr.frozen? ⟨w.heap.size + 1, 1, none⟩ = false := freeAt hwb 1;clear hwb;rcases List.eq_nil_or_concat T with rfl | ⟨T', n, rfl⟩
      · have HI1 := Lib.hid hI;have HP1 := Lib.hid hP;have htab := hI.tb;have HTb := Lib.hid (fun (wr : World) (kg : WkG) (S T : List Int) (h : RI w g A (w.heap.size + 1) w.heap.size wr kg (.slice ta Tb.length tc) S T Tb) (j : Nat) (hj : j < Tb.length) => (show ∃ b, ta = some ⟨b, 0, none⟩ ∧ wr.cell? ⟨b, j, none⟩ = some (.int .i64 (Tb[j])) by
         obtain ⟨b, hb, _, hc⟩ := h.tb.cells (by omega);exact ⟨b, hb, hc j _ (by simp [intCells, hj])⟩))
        have hbT := hP.len;have hSb := hP.bound;have hmany := hf.many;simp only [List.length_nil] at c1 hnum2 hbT;clear hI hP hvt hvcase htab;go_wp2;clear c0 c1 f1
        go_loopw [81] (fun i wr => ∃ (j : Nat) (kg : WkG) (N : List Int), j ≤ Tb.length ∧ i = .int .i64 j ∧ RI w g A (w.heap.size + 1) w.heap.size wr kg (.slice ta Tb.length tc) (S ++ N) N Tb ∧ PI A from_ (S ++ N) N Tb ∧ TDone A S (S ++ N) (Tb.take j)) (fun i _ => Tb.length - (intOf i).toNat)
        case atStart => exact ⟨0, kg, [], Nat.zero_le _, rfl, by simpa using HI1.out, by simpa using HP1.out, fun t ht => by simp at ht⟩
        case round =>
         obtain ⟨j, kg2, N, hj, rfl, hI, hP, hD⟩ := hrel;clear HI1 HP1;obtain ⟨wo2, rfl⟩ : ∃ wo2 : World, wo2 = wr := ⟨_, rfl⟩;by_cases hlt : j < Tb.length
         · obtain ⟨tb, rfl, ct⟩ := HTb.out _ _ _ _ hI j hlt;obtain ⟨htS, o, ho, htt⟩ := hP.tabs (Tb[j]) (List.getElem_mem hlt);have hlk := lookO_some hI.rep ho;have hob := hI.rep.obj _ o (mem_of_lookup ho);obtain ⟨ea, ec, hev, hele, hecm, hecase⟩ := hob.row.slice;have d0 : wo2.cell? ⟨g.hb, 0, none⟩ = some (.map (some g.mo)) := hI.rep.c 0;have d4 : wo2.cell? ⟨g.ob (Tb[j]), 4, none⟩ = some (.slice ea o.ents.length ec) := by rw [← hev]; exact hob.c 4
           have hel := hf.ents _ o ho;have HEn := Lib.hid (fun (wr : World) (kg : WkG) (S T : List Int) (h : RI w g A (w.heap.size + 1) w.heap.size wr kg (.slice (some ⟨tb, 0, none⟩) Tb.length tc) S T Tb) (q : Nat) (hq : q < o.ents.length) => (h.rep.obj _ o (mem_of_lookup ho)).entCell hev q hq);have HI1 := Lib.hid hI;have HP1 := Lib.hid hP;have HD1 := Lib.hid hD;have HO := Lib.hid ho;have HMem : Hid (Tb[j] ∈ Tb) := List.getElem_mem hlt;have HDs := Lib.hid (fun (S' : List Int) (h : TDone A S S' (Tb.take j)) (hx : EDone S S' o.ents) => TDone.snoc hlt h ho hx);clear hI hP hD hob hev hecase htS htt;generalize Tb[j] = t at *;clear ho;go_wp2;clear hlk d0 d4 ct
           go_loopw [95] (fun i wr => ∃ (q : Nat) (kg : WkG) (N : List Int), q ≤ o.ents.length ∧ i = .int .i64 q ∧ RI w g A (w.heap.size + 1) w.heap.size wr kg (.slice (some ⟨tb, 0, none⟩) Tb.length tc) (S ++ N) N Tb ∧ PI A from_ (S ++ N) N Tb ∧ TDone A S (S ++ N) (Tb.take j) ∧ EDone S (S ++ N) (o.ents.take q)) (fun i _ => o.ents.length - (intOf i).toNat)
           case atStart => exact ⟨0, kg2, N, Nat.zero_le _, rfl, HI1.out, HP1.out, HD1.out, fun t ht => by simp at ht⟩
           case round =>
            obtain ⟨q, kg3, N', hq, rfl, hI, hP, hD, hE⟩ := hrel;clear HI1 HP1 HD1;by_cases hqlt : q < o.ents.length
            · obtain ⟨eb, rfl, _, e0, e1, e2⟩ := HEn.out _ _ _ _ hI q hqlt;obtain ⟨x, hx⟩ : ∃ x, x = o.ents[q] := ⟨_, rfl⟩;have hxm : x ∈ o.ents := by rw [hx]; exact List.getElem_mem hqlt
              have HEs := Lib.hid (fun (S' : List Int) (h : EDone S S' (o.ents.take q)) (hy : x.key ∈ S → x.val.ref = true → x.val.num ∈ S') => (show EDone S S' (o.ents.take (q + 1)) from h.snoc hqlt (by rw [← hx]; exact hy)));rw [← hx] at e0 e1 e2;obtain ⟨W, hW⟩ : ∃ W, W = wr.alloc (.cells #[.int .i64 x.key, .bool x.val.ref, .int .i64 x.val.num] 120) := ⟨_, rfl⟩;have hIa : RI w g A (w.heap.size + 1) w.heap.size W kg3 (.slice (some ⟨tb, 0, none⟩) Tb.length tc) (S ++ N') N' Tb := by rw [hW]; exact hI.alloc _
              have hwb := hIa.wk.wb;rw [hI.kwb, hI.kms] at hwb;have c0 : W.cell? ⟨w.heap.size + 1, 0, none⟩ = some (.map (some w.heap.size)) := cellAt hwb 0;have hlook : ∀ k, (Instr.lookup 68 (.map (some w.heap.size)) (.int .i64 x.key) false).run Tryz.prog (W.drewN k) = .ok (.bool (decide (x.key ∈ S ++ N'))) (W.drewN k) := fun k => by
               have := (hIa.drewN k).wk.look x.key;rw [hI.kms] at this;exact this
              have hN'l := hP.len;have hSb' := hP.bound;have HI2 := Lib.hid hIa;have HP2 := Lib.hid hP;have HD2 := Lib.hid hD;have HE2 := Lib.hid hE;clear hI hP hD hE hIa hx hwb;by_cases hkey : x.key ∈ S ++ N'
              · simp only [hkey, decide_true] at hlook;cases hr : x.val.ref with
                | true =>
                  obtain ⟨N2, hs1, hs2, hs3, hs4⟩ := see_app S N' x.val.num;have HPs := Lib.hid (HP2.out.see hcl HMem.out HO.out hxm hkey hr);have HSe := Lib.hid (fun k => (HI2.out.drewN k).see hR x.val.num (by simp only [List.length_append] at hN'l hSb'; omega));rw [hr] at e1 hW;rw [hs1, hs2] at HPs HSe;have HM := Lib.hid hs3;have HM4 := Lib.hid hs4;clear hs1 hs2 hs3 hs4 hr hkey hxm;generalize x.key = xk at *;generalize x.val.num = xn at *;subst hW;go_wp2
                  go_quiet (fail)
                  go_wp2_with (go_at_call 73; refine (HSe.out _).mono ?_; rintro e w4 ⟨rfl, kg4, hI4⟩)
                  have HI4 := Lib.hid hI4;clear hI4
                  go_roundw
                  case rel => exact ⟨q + 1, kg4, N2, by omega, by go_num, HI4.out, HPs.out, HD2.out.mono HM.out, HEs.out _ (HE2.out.mono HM.out) (fun _ _ => HM4.out)⟩
                  case measure => simp [intOf]; omega
                | false =>
                  rw [hr] at e1 hW;have HR := Lib.hid hr;clear hr hkey hxm;generalize x.key = xk at *;generalize x.val.num = xn at *;subst hW;go_wp2
                  go_quiet (fail)
                  go_wp2
                  go_roundw
                  case rel => exact ⟨q + 1, kg3, N', by omega, by go_num, HI2.out.drewN _, HP2.out, HD2.out, HEs.out _ HE2.out (fun _ h => by rw [HR.out] at h; cases h)⟩
                  case measure => simp [intOf]; omega
              · simp only [hkey, decide_false] at hlook;have HKy := Lib.hid hkey;clear hkey hxm;generalize x.key = xk at *;generalize x.val.num = xn at *;generalize x.val.ref = xr at *;subst hW;go_wp2
                go_quiet (fail)
                go_wp2
                go_roundw
                case rel => exact ⟨q + 1, kg3, N', by omega, by go_num, HI2.out.drewN _, HP2.out, HD2.out, HEs.out _ HE2.out (fun hk _ => absurd (List.mem_append_left _ hk) HKy.out)⟩
                case measure => simp [intOf]; omega
            · have hqe : q = o.ents.length := by omega
              subst hqe;rw [List.take_length] at hE;have HI2 := Lib.hid hI;have HP2 := Lib.hid hP;have HD2 := Lib.hid (HDs.out _ hD hE);clear hI hP hD hE;go_wp2
              go_roundw
              case rel => exact ⟨j + 1, kg3, N', by omega, by go_num, HI2.out, HP2.out, HD2.out⟩
              case measure => simp [intOf]; omega
         · have hje : j = Tb.length := by omega
           subst hje;rw [List.take_length] at hD;obtain ⟨vb, vd, hvt, _, _, _⟩ := hI.wk.row.slice;have hwb := hI.wk.wb;rw [hI.kwb, hI.kms, hvt] at hwb;have c0 : wo2.cell? ⟨w.heap.size + 1, 0, none⟩ = some (.map (some w.heap.size)) := cellAt hwb 0;have c1 : wo2.cell? ⟨w.heap.size + 1, 1, none⟩ = some (.slice vb N.length vd) := cellAt hwb 1;have hSb' := hP.bound;simp only [List.length_append] at hSb';cases N with
           | nil =>
             have hms := hI.wk.ms;rw [hI.kms] at hms;simp only [List.append_nil] at hms hP hD;have HFin : Hid (Post K (.returned (.map (some w.heap.size))) wo2) := hK _ _ ⟨_, S, rfl, hms, hP.closed (fun t ht o ho => hD t ht o ho), Nat.le_refl _, hI.old⟩;clear hI hP hD hwb hvt hms;simp only [List.length_nil] at c1;go_wp2;go_ret;exact HFin.out
           | cons a N =>
             have HI2 := Lib.hid hI;have HP2 := Lib.hid hP;simp only [List.length_cons] at c1 hSb';clear hI hP hD hwb hvt;go_wp2
             go_roundg (go - 1)
             case measure => omega
             case rel => exact ⟨_, S ++ a :: N, a :: N, Tb, ta, tc, rfl, HI2.out, HP2.out, by simp only [List.length_append, List.length_cons]; omega⟩
      · simp only [List.concat_eq_append] at *;obtain ⟨o, ho⟩ := Option.isSome_iff_exists.1 (hP.dom n (hP.todo n (by simp)));have hTl := hP.len;have hSb := hP.bound;have hmany := hf.many;simp only [List.length_append, List.length_singleton] at c1 hvt hTl hnum2;obtain ⟨rb, rfl, cn⟩ : ∃ rb, va = some ⟨rb, 0, none⟩ ∧ wr.cell? ⟨rb, T'.length, none⟩ = some (.int .i64 n) := by
         have hrow := hI.wk.row;rw [hvt, List.length_append, List.length_singleton] at hrow;obtain ⟨rb, h1, _, h2⟩ := hrow.cells (by omega);exact ⟨rb, h1, h2 _ _ (by simp [intCells])⟩
        have HI1 := Lib.hid hI;have HP1 := Lib.hid hP;have HV := Lib.hid hvt;have s1 : IntKind.i64.wrap ((T'.length : Int) + 1 - 1) = (T'.length : Int) := by rw [IntWalk.i64_in _ (by omega)]; omega
        have s2 : (0 : Int) ≤ (T'.length : Int) := by omega
        have s3 : IntKind.i64.wrap (T'.length : Int) = (T'.length : Int) := IntWalk.i64_in _ (by omega);have s4 : (T'.length : Int) ≤ (vc : Int) := by simp only [List.length_append, List.length_singleton] at hvle; omega
        clear hvcase hvt hI hP;go_wp2
        go_quiet (fail)
        go_wp2
        go_region_law (fail)
        all_goals
         clear s1 s2 s3 s4;obtain ⟨W1, hW1⟩ : ∃ W1, W1 = (wr.drewN (nq + 1)).setCell ⟨w.heap.size + 1, 1, none⟩ (.slice (some ⟨rb, 0, none⟩) T'.length vc) := ⟨_, rfl⟩;rw [← hW1];have hI2 := (HI1.out.drewN (nq + 1)).pop hR HV.out;rw [← hW1] at hI2;clear hW1 c0 c1 f1 cn;have hlk := lookO_some hI2.rep ho;have d0 : W1.cell? ⟨g.hb, 0, none⟩ = some (.map (some g.mo)) := hI2.rep.c 0;have d1 : W1.cell? ⟨g.ob n, 0, none⟩ = some (.bool o.table) := (hI2.rep.obj n o (mem_of_lookup ho)).c 0;cases ht : o.table with
         | true =>
           rw [ht] at d1;obtain ⟨pa, pc, W2, happ, hI3⟩ := hI2.push hR n (by omega);have HI3 := Lib.hid hI3;have HO := Lib.hid ho;have HT := Lib.hid ht;clear hI2 hI3 ho ht
           go_wp2_with (at_builtin; go_must (refine wpList_val rfl (exec_append rfl happ) ?_))
           go_roundg (gk - 1)
           case measure => omega
           case rel => exact ⟨_, S, T', Tb ++ [n], pa, pc, by simp, by rw [List.length_append, List.length_singleton]; exact HI3.out, HP1.out.table HO.out HT.out, hnum, by omega⟩
         | false =>
           rw [ht] at d1;have hrf := hI2.refs hR (by omega) hf ho;obtain ⟨N, hN1, hN2⟩ := seeL_grow (S, T') (refsW (A.fields o));have HPF := Lib.hid (HP1.out.fields hcl ho ht);have hl1 : (seeL (S, T') (refsW (A.fields o))).1.length = S.length + N.length := by rw [hN1]; simp
           have hl2 : (seeL (S, T') (refsW (A.fields o))).2.length = T'.length + N.length := by rw [hN2]; simp
           have HRf := Lib.hid hrf;generalize seeL (S, T') (refsW (A.fields o)) = sp at *;have HL1 := Lib.hid hl1;have HL2 := Lib.hid hl2;clear hI2 hrf ho ht hN1 hN2 hl1 hl2
           go_wp2_with (go_at_call 76; refine HRf.out.mono ?_; rintro e w2 ⟨rfl, kg2, hI3⟩)
           have HI3 := Lib.hid hI3;clear hI3
           go_roundg (gk - 1)
           case measure => omega
           case rel => exact ⟨kg2, sp.1, sp.2, Tb, ta, tc, rfl, HI3.out, HPF.out, by rw [HL1.out]; omega, by rw [HL1.out, HL2.out]; omega⟩
end Go.Proofs.YtelghmmcbgfjnaaGreat
