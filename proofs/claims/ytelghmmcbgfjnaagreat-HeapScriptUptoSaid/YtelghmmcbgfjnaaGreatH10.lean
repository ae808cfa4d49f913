/-
  The walk of values. (A part of the proof, joined of: Wz, Xa, Xb, Xb2, Ya, Yb; made smaller.)
-/
import Derived.Test.YtelghmmcbgfjnaaGreatH09
set_option maxHeartbeats 4000000
set_option maxRecDepth 100000
namespace Go.Proofs.YtelghmmcbgfjnaaGreat
variable {A B : St} {N R0 S S' S'' Sa T Tb l l' ts : List Int} {a : Option Addr} {cap cb j km m ms wb wp : Nat} {es : List En} {g : Gh} {k : WkG} {n : Int} {o : Ob} {p : Int → Bool} {v : Value} {w w' wr : World}
open Go.RowKit
structure VI (A : St) (S T N : List Int) : Prop where
 nod : (S ++ N).Nodup
 yng : ∀ n ∈ S ++ N, A.isYoung n = true
 tl : T.length ≤ S.length
theorem isYoung_isSome (h : A.isYoung n = true) : ∃ o, A.objs.lookup n = some o ∧ o.old = false := by
 unfold St.isYoung at h;cases ho : A.objs.lookup n with
 | none => rw [ho] at h; cases h
 | some o => rw [ho] at h; exact ⟨o, rfl, by simpa using h⟩
theorem young_bound (hn : S.Nodup) (hy : ∀ n ∈ S, A.isYoung n = true) : S.length ≤ A.objs.length := by
 have := length_le_of_subset (l' := A.objs.map (·.1)) hn (fun n hn => by
  obtain ⟨o, ho, _⟩ := isYoung_isSome (hy n hn);exact List.mem_map.2 ⟨_, mem_of_lookup ho, rfl⟩)
 simpa using this
theorem VI.see (h : VI A S T N) (n : Int) : ∃ N', seeY A (S ++ N, T ++ N) [n] = (S ++ N', T ++ N') ∧ VI A S T N' ∧ (∀ m ∈ S ++ N, m ∈ S ++ N') ∧ (A.isYoung n = true → n ∈ S ++ N') := by
 cases hy : A.isYoung n with
 | false => exact ⟨N, by simp [seeY, seeL, hy], h, fun _ h => h, fun h => by cases h⟩
 | true =>
   by_cases hm : n ∈ S ++ N
   · exact ⟨N, by simp only [seeY, seeL, List.filter_cons, hy, if_true, List.filter_nil, List.foldl_cons, List.foldl_nil, seeS, seeT, if_pos hm], h, fun _ h => h, fun _ => hm⟩
   · refine ⟨N ++ [n], by simp only [seeY, seeL, List.filter_cons, hy, if_true, List.filter_nil, List.foldl_cons, List.foldl_nil, seeS, seeT, if_neg hm, List.append_assoc], ⟨?_, ?_, h.tl⟩, ?_, fun _ => by simp⟩
     · rw [← List.append_assoc];exact List.nodup_append.2 ⟨h.nod, by simp, fun a ha b hb e => by simp at hb; subst hb; subst e; exact hm ha⟩
     · intro m hm';rw [← List.append_assoc] at hm';rcases List.mem_append.1 hm' with h1 | h1
       · exact h.yng m h1
       · simp at h1; rw [h1]; exact hy
     · intro m hm';rw [← List.append_assoc];exact List.mem_append_left _ hm'
def EY (A : St) (Sa S' : List Int) (es : List En) : Prop := ∀ x ∈ es, x.val.ref = true → (x.key ∈ Sa ∨ A.isYoung x.key = false) → A.isYoung x.val.num = true → x.val.num ∈ S'
def TY (A : St) (Sa S' ts : List Int) : Prop := ∀ t ∈ ts, ∀ o, A.objs.lookup t = some o → EY A Sa S' o.ents
theorem EY.mono (h : EY A Sa S' es) (hs : ∀ n ∈ S', n ∈ S'') : EY A Sa S'' es := fun x hx hr hk hy => hs _ (h x hx hr hk hy)
theorem TY.mono (h : TY A Sa S' ts) (hs : ∀ n ∈ S', n ∈ S'') : TY A Sa S'' ts := fun t ht o ho => (h t ht o ho).mono hs
theorem EY.snoc {q : Nat} (hq : q < es.length) (h : EY A Sa S' (es.take q)) (hx : (es[q]).val.ref = true → ((es[q]).key ∈ Sa ∨ A.isYoung (es[q]).key = false) → A.isYoung (es[q]).val.num = true → (es[q]).val.num ∈ S') : EY A Sa S' (es.take (q + 1)) := by
 rw [List.take_succ_eq_append_getElem hq];intro x hm hr hk hy;simp only [List.mem_append, List.mem_singleton] at hm;rcases hm with hm | rfl
 · exact h x hm hr hk hy
 · exact hx hr hk hy
theorem TY.snoc (hj : j < ts.length) (h : TY A Sa S' (ts.take j)) (ho : A.objs.lookup (ts[j]) = some o) (hx : EY A Sa S' o.ents) : TY A Sa S' (ts.take (j + 1)) := by
 rw [List.take_succ_eq_append_getElem hj];intro t hm o' ho';simp only [List.mem_append, List.mem_singleton] at hm;rcases hm with hm | rfl
 · exact h t hm o' ho'
 · rw [ho] at ho'; simp only [Option.some.injEq] at ho'; subst ho'; exact hx
theorem values_any {X : Nat → Obj → Prop} {wr0 : World} {k0 : WkG} (h0 : MI w g A wb ms cb wp X wr0 k0 S T) (hv0 : VI A S T []) (hf : Fit A) 
 (hrow : ∀ wr k S' T', MI w g A wb ms cb wp X wr k S' T' → Row wr 3 1 v Tb.length (intCells Tb)) (hTb : ∀ t ∈ Tb, (A.objs.lookup t).isSome) (hTl : Tb.length ≤ 1000000000) :
 Calls Tryz.prog 77 #[.pointer (some ⟨g.hb, 0, none⟩), v, .pointer (some ⟨wb, 0, none⟩), .func (.func 71) #[] #[.pointer (some ⟨cb, 0, none⟩), .pointer (some ⟨wp, 0, none⟩)]] wr0 fun e w' =>
  e = .returned (.tuple #[]) ∧ ∃ k' N, MI w g A wb ms cb wp X w' k' (S ++ N) (T ++ N) ∧ VI A S T N ∧ TY A S (S ++ N) Tb := by
 obtain ⟨ta, tc, rfl, _, _, _⟩ := (hrow _ _ _ _ h0).slice;refine ret_k fun K hK => ?_;have hcall := call_minor1;have HK := Lib.hid hK;have HRow := Lib.hid hrow;have HTb := Lib.hid hTb;have HF := Lib.hid hf;have H0 := Lib.hid h0;have HV0 := Lib.hid hv0;have hmany := hf.many;clear hK hrow hTb hf h0 hv0
 go_enter Tryz.func77, Tryz.ntmps77
 go_wp2
 go_loopw [14] (fun i wr => ∃ (j : Nat) (k : WkG) (N : List Int), j ≤ Tb.length ∧ i = .int .i64 j ∧ MI w g A wb ms cb wp X wr k (S ++ N) (T ++ N) ∧ VI A S T N ∧ TY A S (S ++ N) (Tb.take j)) (fun i _ => Tb.length - (intOf i).toNat)
 case atStart => exact ⟨0, k0, [], Nat.zero_le _, rfl, by simpa using H0.out, HV0.out, fun t ht => by simp at ht⟩
 case round =>
  obtain ⟨j, k, N, hj, rfl, hI, hV, hD⟩ := hrel;clear H0 HV0;by_cases hlt : j < Tb.length
  · obtain ⟨tb, rfl, _, htt⟩ := (HRow.out _ _ _ _ hI).cells (by omega);have ct := htt j (.int .i64 (Tb[j])) (by simp [intCells, hlt]);obtain ⟨o, ho⟩ := Option.isSome_iff_exists.1 (HTb.out _ (List.getElem_mem hlt));have hob := hI.rep.obj _ o (mem_of_lookup ho);obtain ⟨ea, ec, hev, _, _, _⟩ := hob.row.slice;have hlk := lookO_some hI.rep ho;have d0 : wr.cell? ⟨g.hb, 0, none⟩ = some (.map (some g.mo)) := hI.rep.c 0;have d4 : wr.cell? ⟨g.ob (Tb[j]), 4, none⟩ = some (.slice ea o.ents.length ec) := by rw [← hev]; exact hob.c 4
    have hel := HF.out.ents _ o ho;have HEn := Lib.hid (fun (wr : World) (k : WkG) (S' T' : List Int) (h : MI w g A wb ms cb wp X wr k S' T') (q : Nat) (hq : q < o.ents.length) => (h.rep.obj _ o (mem_of_lookup ho)).entCell hev q hq);have HI1 := Lib.hid hI;have HV1 := Lib.hid hV;have HD1 := Lib.hid hD;have HDs := Lib.hid (fun (S' : List Int) (h : TY A S S' (Tb.take j)) (hx : EY A S S' o.ents) => TY.snoc hlt h ho hx);clear hI hV hD hob hev htt;generalize Tb[j] = t at *;clear ho;go_wp2;clear hlk d0 d4 ct
    go_loopw [28] (fun i wr => ∃ (q : Nat) (k : WkG) (N : List Int), q ≤ o.ents.length ∧ i = .int .i64 q ∧ MI w g A wb ms cb wp X wr k (S ++ N) (T ++ N) ∧ VI A S T N ∧ TY A S (S ++ N) (Tb.take j) ∧ EY A S (S ++ N) (o.ents.take q)) (fun i _ => o.ents.length - (intOf i).toNat)
    case atStart => exact ⟨0, k, N, Nat.zero_le _, rfl, HI1.out, HV1.out, HD1.out, fun x hx => by simp at hx⟩
    case round =>
     obtain ⟨q, k3, N', hq, rfl, hI, hV, hD, hE⟩ := hrel;clear HI1 HV1 HD1;by_cases hqlt : q < o.ents.length
     · obtain ⟨eb, rfl, _, e0, e1, e2⟩ := HEn.out _ _ _ _ hI q hqlt;obtain ⟨x, hx⟩ : ∃ x, x = o.ents[q] := ⟨_, rfl⟩;have HEs := Lib.hid (fun (S' : List Int) (h : EY A S S' (o.ents.take q)) (hy : x.val.ref = true → (x.key ∈ S ∨ A.isYoung x.key = false) → A.isYoung x.val.num = true → x.val.num ∈ S') => (show EY A S S' (o.ents.take (q + 1)) from h.snoc hqlt (by rw [← hx]; exact hy)));rw [← hx] at e0 e1 e2;obtain ⟨W, hW⟩ : ∃ W, W = wr.alloc (.cells #[.int .i64 x.key, .bool x.val.ref, .int .i64 x.val.num] 120) := ⟨_, rfl⟩;have hIa : MI w g A wb ms cb wp X W k3 (S ++ N') (T ++ N') := by rw [hW]; exact hI.alloc _
       have hwb := hIa.wk.wb;rw [hI.kwb, hI.kms] at hwb;have c0 : W.cell? ⟨wb, 0, none⟩ = some (.map (some ms)) := cellAt hwb 0;have hlook : ∀ k, (Instr.lookup 68 (.map (some ms)) (.int .i64 x.key) false).run Tryz.prog (W.drewN k) = .ok (.bool (decide (x.key ∈ S ++ N'))) (W.drewN k) := fun k => by
        have := (hIa.drewN k).wk.look x.key;rw [hI.kms] at this;exact this
       have hyo : ∀ n, Calls Tryz.prog 72 #[.pointer (some ⟨g.hb, 0, none⟩), .int .i64 x.key] (W.drewN n) fun e w' => e = .returned (.bool (A.isYoung x.key)) ∧ ∃ m, w' = W.drewN m := fun n => q_same (isYoung_any (hIa.rep.drewN n) x.key);have hb1 := young_bound hV.nod hV.yng;have htl := hV.tl;simp only [List.length_append] at hb1;have HSee : Hid (∀ m, ∀ n, Calls Tryz.prog 71 #[.int .i64 n, .pointer (some ⟨cb, 0, none⟩), .pointer (some ⟨wp, 0, none⟩)] (W.drewN m) fun e w' => e = .returned (.tuple #[]) ∧ Hid (∃ k' N2, MI w g A wb ms cb wp X w' k' (S ++ N2) (T ++ N2) ∧ VI A S T N2 ∧ (∀ m ∈ S ++ N', m ∈ S ++ N2) ∧ (A.isYoung n = true → n ∈ S ++ N2))) := by
        intro m n;refine (minor1_any (hIa.drewN m) n (by rw [List.length_append]; omega)).mono ?_;rintro e w' ⟨rfl, k', hk⟩;obtain ⟨N2, h1, h2, h3, h4⟩ := hV.see n;rw [h1] at hk;exact ⟨rfl, k', N2, hk, h2, h3, h4⟩
       have HI2 := Lib.hid hIa;have HV2 := Lib.hid hV;have HD2 := Lib.hid hD;have HE2 := Lib.hid hE;have HYo := Lib.hid hyo;have HSub : Hid (x.key ∈ S → x.key ∈ S ++ N') := fun h => List.mem_append_left _ h;clear hI hV hD hE hIa hwb hyo hb1 htl hx;cases hr : x.val.ref with
       | false =>
         rw [hr] at e1 hW;have HR := Lib.hid hr;clear hr hlook;generalize x.key = xk at *;generalize x.val.num = xn at *;subst hW;go_wp2
         go_quiet (fail)
         go_wp2
         go_roundw
         case rel => exact ⟨q + 1, k3, N', by omega, by go_num, HI2.out.drewN _, HV2.out, HD2.out, HEs.out _ HE2.out (fun h => by rw [HR.out] at h; cases h)⟩
         case measure => simp [intOf]; omega
       | true =>
         rw [hr] at e1 hW;have HR := Lib.hid hr;clear hr;by_cases hkey : x.key ∈ S ++ N'
         · simp only [hkey, decide_true] at hlook;clear hkey;generalize x.key = xk at *;generalize x.val.num = xn at *;subst hW;go_wp2
           go_quiet (fail)
           go_wp2_with (refine (HSee.out _ _).mono ?_; rintro e w4 ⟨rfl, HM⟩)
           obtain ⟨k4, N2, h1, h2, h3, h4⟩ := HM.out;have H1 := Lib.hid h1;clear h1 HM
           go_roundw
           case rel => exact ⟨q + 1, k4, N2, by omega, by go_num, H1.out, h2, HD2.out.mono h3, HEs.out _ (HE2.out.mono h3) (fun _ _ hy => h4 hy)⟩
           case measure => simp [intOf]; omega
         · simp only [hkey, decide_false] at hlook;have HKy := Lib.hid hkey;clear hkey;cases hyk : A.isYoung x.key with
           | false =>
             rw [hyk] at HYo;clear hyk;generalize x.key = xk at *;generalize x.val.num = xn at *;subst hW;go_wp2
             go_quiet ((go_at_call 72; exact HYo.out _))
             go_wp2_with (refine (HSee.out _ _).mono ?_; rintro e w4 ⟨rfl, HM⟩)
             obtain ⟨k4, N2, h1, h2, h3, h4⟩ := HM.out;have H1 := Lib.hid h1;clear h1 HM
             go_roundw
             case rel => exact ⟨q + 1, k4, N2, by omega, by go_num, H1.out, h2, HD2.out.mono h3, HEs.out _ (HE2.out.mono h3) (fun _ _ hy => h4 hy)⟩
             case measure => simp [intOf]; omega
           | true =>
             have HNk : Hid (x.val.ref = true → (x.key ∈ S ∨ A.isYoung x.key = false) → A.isYoung x.val.num = true → x.val.num ∈ S ++ N') := fun _ h _ => by
              rcases h with h | h
              · exact absurd (HSub.out h) HKy.out
              · rw [hyk] at h; cases h
             rw [hyk] at HYo;clear hyk;generalize x.key = xk at *;generalize x.val.num = xn at *;subst hW;go_wp2
             go_quiet ((go_at_call 72; exact HYo.out _))
             go_wp2
             go_roundw
             case rel => exact ⟨q + 1, k3, N', by omega, by go_num, HI2.out.drewN _, HV2.out, HD2.out, HEs.out _ HE2.out HNk.out⟩
             case measure => simp [intOf]; omega
     · have hqe : q = o.ents.length := by omega
       subst hqe;rw [List.take_length] at hE;have HI2 := Lib.hid hI;have HV2 := Lib.hid hV;have HD2 := Lib.hid (HDs.out _ hD hE);clear hI hV hD hE;go_wp2
       go_roundw
       case rel => exact ⟨j + 1, k3, N', by omega, by go_num, HI2.out, HV2.out, HD2.out⟩
       case measure => simp [intOf]; omega
  · have hje : j = Tb.length := by omega
    subst hje;rw [List.take_length] at hD;have HFin := Lib.hid (HK.out _ _ ⟨rfl, k, N, hI, hV, hD⟩);clear hI hV hD;go_wp2
    go_end0
    exact HFin.out
theorem seeY_cons (A : St) (p : List Int × List Int) (n : Int) (l : List Int) : seeY A p (n :: l) = seeY A (seeY A p [n]) l := by
 rw [← seeY_append]; rfl
theorem VI.seeL {A : St} {S T : List Int} : ∀ (l : List Int) {N : List Int}, VI A S T N → ∃ N', seeY A (S ++ N, T ++ N) l = (S ++ N', T ++ N') ∧ VI A S T N' ∧ (∀ m ∈ S ++ N, m ∈ S ++ N') ∧ (∀ n ∈ l, A.isYoung n = true → n ∈ S ++ N')
 | [], N, h => ⟨N, rfl, h, fun _ h => h, fun n hn => by cases hn⟩
 | n :: l, N, h => by
   obtain ⟨N1, h1, h2, h3, h4⟩ := h.see n;obtain ⟨N2, k1, k2, k3, k4⟩ := VI.seeL l h2;refine ⟨N2, by rw [seeY_cons, h1, k1], k2, fun m hm => k3 m (h3 m hm), ?_⟩;intro m hm hy;rcases List.mem_cons.1 hm with rfl | hm
   · exact k3 _ (h4 hy)
   · exact k4 m hm hy
structure YJ (A : St) (R0 : List Int) (S T Tb : List Int) : Prop where
 nod : S.Nodup
 yng : ∀ n ∈ S, A.isYoung n = true
 root : ∀ n ∈ R0, A.isYoung n = true → n ∈ S
 remd : ∀ n ∈ A.rem, ∀ o, A.objs.lookup n = some o → ∀ m ∈ A.refs o, A.isYoung m = true → m ∈ S
 todo : ∀ n ∈ T, n ∈ S
 done : ∀ n ∈ S, n ∉ T → ∀ o, A.objs.lookup n = some o → (o.table = true → n ∈ Tb) ∧ (o.table = false → ∀ m ∈ refsW (A.fields o), A.isYoung m = true → m ∈ S)
 tabs : ∀ t ∈ Tb, (A.objs.lookup t).isSome
 len : Tb.length + T.length ≤ S.length
theorem YJ.bound (h : YJ A R0 S T Tb) : S.length ≤ A.objs.length := young_bound h.nod h.yng
theorem YJ.vi (h : YJ A R0 S T Tb) : VI A S T [] := ⟨by simpa using h.nod, by simpa using h.yng, by have := h.len; omega⟩
theorem YJ.grow (h : YJ A R0 S T Tb) (hv : VI A S T N) : YJ A R0 (S ++ N) (T ++ N) Tb := by
 refine ⟨hv.nod, hv.yng, fun n hn hy => List.mem_append_left _ (h.root n hn hy), fun n hn o ho m hm hy => List.mem_append_left _ (h.remd n hn o ho m hm hy), ?_, ?_, h.tabs, ?_⟩
 · intro n hn;rcases List.mem_append.1 hn with hn | hn
   · exact List.mem_append_left _ (h.todo n hn)
   · exact List.mem_append_right _ hn
 · intro n hn hnt o ho;have hnN : n ∉ N := fun h => hnt (List.mem_append_right _ h);have hnS : n ∈ S := (List.mem_append.1 hn).resolve_right hnN;obtain ⟨h1, h2⟩ := h.done n hnS (fun h => hnt (List.mem_append_left _ h)) o ho;exact ⟨h1, fun ht m hm hy => List.mem_append_left _ (h2 ht m hm hy)⟩
 · have := h.len;simp only [List.length_append]; omega
theorem YJ.table (h : YJ A R0 S (T ++ [n]) Tb) (ho : A.objs.lookup n = some o) (ht : o.table = true) : YJ A R0 S T (Tb ++ [n]) := by
 refine ⟨h.nod, h.yng, h.root, h.remd, fun m hm => h.todo m (by simp [hm]), ?_, ?_, ?_⟩
 · intro m hm hnt o' ho';by_cases e : m = n
   · subst e;rw [ho] at ho';simp only [Option.some.injEq] at ho';subst ho';exact ⟨fun _ => by simp, fun h => by rw [ht] at h; cases h⟩
   · have := h.done m hm (by simp [hnt, e]) o' ho';exact ⟨fun h => by simp [this.1 h], this.2⟩
 · intro t htb;rcases List.mem_append.1 htb with h1 | h1
   · exact h.tabs t h1
   · simp at h1; subst h1; rw [ho]; rfl
 · have := h.len;simp only [List.length_append, List.length_singleton] at *; omega
theorem YJ.fields (h : YJ A R0 S (T ++ [n]) Tb) (ho : A.objs.lookup n = some o) (ht : o.table = false) (hv : VI A S T N) (hs : ∀ m ∈ refsW (A.fields o), A.isYoung m = true → m ∈ S ++ N) : YJ A R0 (S ++ N) (T ++ N) Tb := by
 refine ⟨hv.nod, hv.yng, fun n hn hy => List.mem_append_left _ (h.root n hn hy), fun n hn o ho m hm hy => List.mem_append_left _ (h.remd n hn o ho m hm hy), ?_, ?_, h.tabs, ?_⟩
 · intro m hm;rcases List.mem_append.1 hm with hm | hm
   · exact List.mem_append_left _ (h.todo m (by simp [hm]))
   · exact List.mem_append_right _ hm
 · intro m hm hnt o' ho';have hnN : m ∉ N := fun h => hnt (List.mem_append_right _ h);have hnS : m ∈ S := (List.mem_append.1 hm).resolve_right hnN;have hnT : m ∉ T := fun h => hnt (List.mem_append_left _ h);by_cases e : m = n
   · subst e;rw [ho] at ho';simp only [Option.some.injEq] at ho';subst ho';exact ⟨fun h => (by rw [ht] at h; cases h), fun _ => hs⟩
   · have := h.done m hnS (by simp [hnT, e]) o' ho';exact ⟨this.1, fun ht m' hm' hy => List.mem_append_left _ (this.2 ht m' hm' hy)⟩
 · have := h.len;simp only [List.length_append, List.length_singleton] at *; omega
theorem YJ.start (hv : VI A [] [] N) (h1 : ∀ n ∈ R0, A.isYoung n = true → n ∈ N) (h2 : ∀ n ∈ A.rem, ∀ o, A.objs.lookup n = some o → ∀ m ∈ A.refs o, A.isYoung m = true → m ∈ N) : YJ A R0 N N [] :=
 ⟨by simpa using hv.nod, by simpa using hv.yng, h1, h2, fun _ h => h, fun n hn hnt => absurd hn hnt, fun t ht => (by cases ht), by simp⟩
structure Found1 (A : St) (S : List Int) : Prop where
 yng : ∀ n ∈ S, A.isYoung n = true
 root : ∀ n ∈ A.roots ++ A.reg, A.isYoung n = true → n ∈ S
 remd : ∀ n ∈ A.rem, ∀ o, A.objs.lookup n = some o → ∀ m ∈ A.refs o, A.isYoung m = true → m ∈ S
 field : ∀ n ∈ S, ∀ o, A.objs.lookup n = some o → o.table = false → ∀ m ∈ refsW (A.fields o), A.isYoung m = true → m ∈ S
 entry : ∀ n ∈ S, ∀ o, A.objs.lookup n = some o → o.table = true → ∀ x ∈ o.ents, x.val.ref = true → (x.key ∈ S ∨ A.isYoung x.key = false) → A.isYoung x.val.num = true → x.val.num ∈ S
theorem YJ.fin (h : YJ A R0 S [] Tb) (hR : ∀ n ∈ A.roots ++ A.reg, n ∈ R0) (hv : TY A S S Tb) : Found1 A S :=
 ⟨h.yng, fun n hn => h.root n (hR n hn), h.remd, fun n hn o ho ht => (h.done n hn (by simp) o ho).2 ht, fun n hn o ho ht x hx hr hk hy => hv n ((h.done n hn (by simp) o ho).1 ht) o ho x hx hr hk hy⟩
def minorStep (A : St) (p : Int → Bool) (B : St) (n : Int) : St := match B.objs.lookup n with
 | some o => if o.old then B else if p n then B.moved n o true ((A.memN.drop o.at_).take (1 + o.size)) else { B with objs := delO B.objs n }
 | none => B
def St.minorTo (A : St) (p : Int → Bool) (l : List Int) : St := l.foldl (minorStep A p) { A with memN := [] }
def St.minored (A : St) (p : Int → Bool) : St := { (A.minorTo p A.sorted).forgot with rem := [] }
theorem lookup_delO (l : List (Int × Ob)) (k n : Int) : (delO l k).lookup n = if n = k then none else l.lookup n := by
 have := lookup_filter_key (fun m => decide (m ≠ k)) n l;unfold delO;rw [this];by_cases e : n = k <;> simp [e]
theorem minorStep_lookup (A : St) (p : Int → Bool) (B : St) (n m : Int) (h : m ≠ n) : (minorStep A p B n).objs.lookup m = B.objs.lookup m := by
 unfold minorStep
 split
 · split
   · rfl
   · split
     · unfold St.moved;rw [lookup_setOb _ _ _ _ h, setMem_objs]
     · show (delO B.objs n).lookup m = _;rw [lookup_delO, if_neg h]
 · rfl
theorem minor_lookup (A : St) (p : Int → Bool) (m : Int) : ∀ (l : List Int) (B : St), m ∉ l → (l.foldl (minorStep A p) B).objs.lookup m = B.objs.lookup m
 | [], _, _ => rfl
 | n :: l, B, h => by
   rw [List.foldl_cons, minor_lookup A p m l _ (fun hm => h (List.mem_cons_of_mem _ hm)), minorStep_lookup _ _ _ _ _ (fun e => h (by simp [e]))]
theorem minorTo_lookup (A : St) (p : Int → Bool) (l : List Int) (m : Int) (h : m ∉ l) : (A.minorTo p l).objs.lookup m = A.objs.lookup m := minor_lookup A p m l _ h
theorem minorTo_append (A : St) (p : Int → Bool) (l : List Int) (n : Int) : A.minorTo p (l ++ [n]) = minorStep A p (A.minorTo p l) n := by simp [St.minorTo]
theorem minorStep_names (A : St) (p : Int → Bool) (B : St) (n : Int) : (minorStep A p B n).names = B.names := by
 unfold minorStep
 split
 · split
   · rfl
   · split <;> rfl
 · rfl
theorem minor_names (A : St) (p : Int → Bool) : ∀ (l : List Int) (B : St), (l.foldl (minorStep A p) B).names = B.names
 | [], _ => rfl
 | n :: l, B => by rw [List.foldl_cons, minor_names A p l, minorStep_names]
theorem minorTo_names (A : St) (p : Int → Bool) (l : List Int) : (A.minorTo p l).names = A.names := minor_names A p l _
theorem Rep.emptiedN (hR : Rep w g A) (hC : Chg (fun b => b = g.hb) w w') (hhs : w'.heap[g.hb]? = some (.cells ((hsCells g A).setIfInBounds 2 (.slice none 0 0)) 74 (0, 0))) :
 ∃ g', Rep w' g' { A with memN := [] } ∧ Step w g A w' g' ∧ g'.ob = g.ob ∧ (∀ b, g.own b = none ∨ g.own b = some .memN → g'.own b = none) := by
 have hCR : ChgR g (fun r => r = .hs ∨ r = .memN) w w' := hC.mono fun b _ hb r hr => by rw [hb, hR.ohs] at hr; left; simpa using hr.symm
 have h1 : Rep w' { g with vN := .slice none 0 0 } { A with memN := [] } :=
  hR.move hCR (fun b hb => Nat.lt_of_lt_of_le (hR.lt b hb) hC.size) (hs := .inr (by rw [hhs]; rfl)) (mo := .inl ⟨by simp, rfl⟩) (mh := .inl ⟨by simp, rfl⟩) (mr := .inl ⟨by simp, rfl⟩)
   (rN := .inr ⟨Row.nil _ _ _, fun b hb => by simp [rowBlk] at hb⟩) (obj := fun n o h => .inl ⟨h, rfl, rfl, by simp, by simp⟩)
 have h2 := h1.unlabel .memN (.inl ⟨rfl, rfl⟩);refine ⟨_, h2, ⟨hC.mono fun b _ hb => by rw [hb, hR.ohs]; rfl, ?_, rfl, rfl, rfl, rfl, rfl, fun _ _ => rfl⟩, rfl, ?_⟩
 · intro b _ hb;have hb' : (unl g.own .memN b).isSome := hb;exact unl_of hb'
 · intro b hb;exact unl_none hb
structure MnL (w : World) (g : Gh) (A : St) (p : Int → Bool) (w1 : World) (H : Nat → Prop) (l : List Int) (wr : World) (gr : Gh) : Prop where
 rep : Rep wr gr (A.minorTo p l)
 step : Step w g A wr gr
 hold : ∀ b, H b → wr.heap[b]? = w1.heap[b]? ∧ gr.own b = none ∧ b < w1.heap.size
 mem : (A.minorTo p l).memT.length ≤ A.memT.length + l.length * 1001
 low : w1.heap.size ≤ wr.heap.size
theorem MnL.round {w1 : World} {H : Nat → Prop} {gr : Gh} (h : MnL w g A p w1 H (A.sorted.take j) wr gr) (hf : Fit A) (hj : j < A.sorted.length) (hmany : A.memT.length + A.objs.length * 1001 ≤ 900000000000)
 (hHN : ∀ b, rowBlk g.vN = some b → H b) (hN : Row w1 113 2 g.vN A.memN.length (wdCells A.memN)) :
 ∃ old : Bool, wr.cell? ⟨g.hb, 0, none⟩ = some (.map (some g.mo)) ∧
   (Instr.lookup 64 (.map (some g.mo)) (.int .i64 (A.sorted[j])) false).run Tryz.prog wr = .ok (.pointer (some ⟨gr.ob (A.sorted[j]), 0, none⟩)) wr ∧
   wr.cell? ⟨gr.ob (A.sorted[j]), 2, none⟩ = some (.bool old) ∧
   (old = true → MnL w g A p w1 H (A.sorted.take (j + 1)) wr gr) ∧
   (old = false → p (A.sorted[j]) = true → Calls Tryz.prog 79 #[.pointer (some ⟨g.hb, 0, none⟩), .pointer (some ⟨gr.ob (A.sorted[j]), 0, none⟩), g.vN, .int .i64 1] wr fun e w' =>
    e = .returned (.tuple #[]) ∧ Hid (∃ g', MnL w g A p w1 H (A.sorted.take (j + 1)) w' g')) ∧
   (old = false → p (A.sorted[j]) = false → ∃ w3, (Builtin.delete_ #[64, 3] 0 #[.map (some g.mo), .int .i64 (A.sorted[j])]).run Tryz.prog wr = .ok (.tuple #[]) w3 ∧ MnL w g A p w1 H (A.sorted.take (j + 1)) w3 gr) := by
 have hnd := sorted_nodup hf.nodup;have hnin := not_mem_take hnd hj;obtain ⟨⟨n0, o⟩, hmem, hn0⟩ := List.mem_map.1 (mem_sorted.1 (List.getElem_mem hj));simp only at hn0;have hloA : A.objs.lookup (A.sorted[j]) = some o := lookup_of_mem hf.nodup (hn0 ▸ hmem);have hlo : (A.minorTo p (A.sorted.take j)).objs.lookup (A.sorted[j]) = some o := by rw [minorTo_lookup _ _ _ _ hnin]; exact hloA
 have hhb : gr.hb = g.hb := h.step.hb;have hmo : gr.mo = g.mo := h.step.mo;have hlk := lookO_some h.rep hlo;rw [hmo] at hlk;have c0 := h.rep.c 0;rw [hhb] at c0;have hin := hf.inn _ _ hloA;have hsz := hf.size _ _ hloA;have hmN := hf.memN;have hsl := sorted_length A;have hjl : (A.sorted.take j).length = j := by rw [List.length_take]; omega
 have hmemT := h.mem;rw [hjl] at hmemT;have hst : A.minorTo p (A.sorted.take (j + 1)) = minorStep A p (A.minorTo p (A.sorted.take j)) (A.sorted[j]) := by
  rw [List.take_succ_eq_append_getElem hj, minorTo_append]
 have hl1 : (A.sorted.take (j + 1)).length = j + 1 := by rw [List.length_take]; omega
 refine ⟨o.old, by rw [c0]; simp [hsCells, hmo], hlk, (h.rep.obj _ o (mem_of_lookup hlo)).c 2, ?_, ?_, ?_⟩
 · intro ho;have e : A.minorTo p (A.sorted.take (j + 1)) = A.minorTo p (A.sorted.take j) := by rw [hst]; simp only [minorStep, hlo, ho, if_true]
   exact ⟨by rw [e]; exact h.rep, h.step, h.hold, by rw [e, hl1, Nat.add_mul]; exact Nat.le_trans hmemT (Nat.add_le_add_left (Nat.le_add_right _ _) _), h.low⟩
 · intro ho hp;have e : A.minorTo p (A.sorted.take (j + 1)) = (A.minorTo p (A.sorted.take j)).moved (A.sorted[j]) o true ((A.memN.drop o.at_).take (1 + o.size)) := by rw [hst]; simp only [minorStep, hlo, ho, hp, if_true, Bool.false_eq_true, if_false]
   have hm : A.mem o.old = A.memN := by rw [ho]; rfl
   rw [hm] at hin;have hv : Row wr 113 2 g.vN A.memN.length (wdCells A.memN) := hN.same fun b hb => (h.hold b (hHN b hb)).1;have hmv := move_any h.rep hlo true hv (fun b hb => (h.hold b (hHN b hb)).2.1) hin (by omega) (by
    have e : ((A.minorTo p (A.sorted.take j)).mem true).length = (A.minorTo p (A.sorted.take j)).memT.length := rfl;rw [e]; omega)
   rw [hhb] at hmv;refine hmv.mono ?_;rintro e' w' ⟨rfl, g', hR', hS'⟩;refine ⟨rfl, g', by rw [e]; exact hR', h.step.trans hS' (by rw [minorTo_names]; exact Int.le_refl _), ?_, ?_, Nat.le_trans h.low hS'.chg.size⟩
   · intro b hb;obtain ⟨h1, h2, h3⟩ := h.hold b hb;have hlt : b < wr.heap.size := Nat.lt_of_lt_of_le h3 h.low;have := hS'.at (Array.getElem?_eq_getElem hlt) h2;exact ⟨by rw [this.1, ← h1, Array.getElem?_eq_getElem hlt], this.2, h3⟩
   · rw [e, moved_memT_len, List.length_take, List.length_drop, hl1];omega
 · intro ho hp;have e : A.minorTo p (A.sorted.take (j + 1)) = { A.minorTo p (A.sorted.take j) with objs := delO (A.minorTo p (A.sorted.take j)).objs (A.sorted[j]) } := by rw [hst]; simp only [minorStep, hlo, ho, hp, Bool.false_eq_true, if_false]
   have hmo' := h.rep.mo;obtain ⟨es, clock, hes, hrun, hM⟩ := run_delete_map (P := Tryz.prog) hmo' uMapO uInt 0 (A.sorted[j]);have hd := h.rep.delOb (chg_put1 _ _ _) hM;rw [hmo] at hrun;refine ⟨_, hrun, ?_⟩;rw [hmo] at hd;refine ⟨by rw [e]; exact hd.1, h.step.trans hd.2 (by rw [minorTo_names]; exact Int.le_refl _), ?_, by rw [e, hl1, Nat.add_mul]; exact Nat.le_trans hmemT (Nat.add_le_add_left (Nat.le_add_right _ _) _), Nat.le_trans h.low hd.2.chg.size⟩;intro b hb;obtain ⟨h1, h2, h3⟩ := h.hold b hb;have hlt : b < wr.heap.size := Nat.lt_of_lt_of_le h3 h.low;have := hd.2.at (Array.getElem?_eq_getElem hlt) h2;exact ⟨by rw [this.1, ← h1, Array.getElem?_eq_getElem hlt], this.2, h3⟩
theorem MI.pop {X : Nat → Obj → Prop} (h : MI w g A wb ms cb wp X wr k S (T ++ [n])) (hv : k.vt = .slice a (T.length + 1) cap) :
 MI w g A wb ms cb wp X (wr.setCell ⟨wb, 1, none⟩ (.slice a T.length cap)) { k with vt := .slice a T.length cap } S T := by
 have hC : Chg (fun b => b = wb) wr (wr.setCell ⟨wb, 1, none⟩ (.slice a T.length cap)) := chg_set1 _ _ _ _;have hwbk : k.blk wb := .inl h.kwb.symm;have hrow := h.wk.row;rw [hv, List.length_append, List.length_singleton] at hrow;have hsh := hrow.shrink T.length (by omega);have e1 : (intCells (T ++ [n])).take (T.length * 1) = intCells T := by simp [intCells]
 rw [e1] at hsh;have hrb : ∀ b, rowBlk (.slice a T.length cap) = some b → rowBlk k.vt = some b := fun b hb => by
  rw [hv];cases a <;> cases cap <;> simp [rowBlk] at hb ⊢
  exact hb
 have hblk : ∀ b, ({ k with vt := .slice a T.length cap } : WkG).blk b → k.blk b := fun b hb => by
  rcases hb with h1 | h1 | h1
  · exact .inl h1
  · exact .inr (.inl h1)
  · exact .inr (.inr (hrb b h1))
 have hne : ∀ b, rowBlk (.slice a T.length cap) = some b → b ≠ wb := fun b hb => by
  rw [← h.kwb]; exact h.wk.rowwb (hrb b hb)
 refine ⟨⟨?_, ?_, ?_⟩, h.kwb, h.kms, h.rep.frame hC (fun b hb => by rw [hb]; exact h.own _ (h.new _ hwbk)), h.own, h.old.trans hC (fun j hj hb => by subst hb; have := h.new _ hwbk; omega), fun b hb => h.new b (hblk b hb),
  hC.at h.hcb (fun e => h.cbn.2 (by have e' : cb = wb := e; rw [e']; exact hwbk)), hC.at h.hwp (fun e => h.wpn.2 (by have e' : wp = wb := e; rw [e']; exact hwbk)), ⟨h.cbn.1, fun hb => h.cbn.2 (hblk _ hb)⟩, ⟨h.wpn.1, fun hb => h.wpn.2 (hblk _ hb)⟩,
  fun b x hb => hC.at (h.hold b x hb) (fun e => h.off b x hb (by have e' : b = wb := e; rw [e']; exact hwbk)), fun b x hb hk => h.off b x hb (hblk b hk)⟩
 · have := heap_setCell h.wk.wb 1 (.slice a T.length cap);rw [h.kwb] at this ⊢;exact this
 · exact h.wk.ms.same (heap_setCell_ne (by rw [← h.kwb]; exact fun e => h.wk.wbms e.symm) _)
 · exact hsh.same fun b hb => heap_setCell_ne (hne b hb) _
def xNone : Nat → Obj → Prop := fun _ _ => False
theorem MI.keepX' {X : Nat → Obj → Prop} (h : MI w g A wb ms cb wp X wr k S T) (B : Nat → Prop) (hB : ∀ b, B b → ¬ k.blk b) : MI w g A wb ms cb wp (fun b x => B b ∧ wr.heap[b]? = some x) wr k S T :=
 h.weak fun b _ hb => ⟨hb.2, hB b hb.1⟩
structure M3 (w : World) (g : Gh) (A : St) (wr : World) (k : WkG) (S T Tb : List Int) (v : Value) : Prop where
 mi : MI w g A (w.heap.size + 2) (w.heap.size + 1) w.heap.size (w.heap.size + 3) xNone wr k S T
 row : Row wr 3 1 v Tb.length (intCells Tb)
 fr : ∀ b, rowBlk v = some b → w.heap.size ≤ b ∧ ¬ k.blk b ∧ b ≠ w.heap.size ∧ b ≠ w.heap.size + 3
theorem M3.drewN (h : M3 w g A wr k S T Tb v) (n : Nat) : M3 w g A (wr.drewN n) k S T Tb v :=
 ⟨h.mi.drewN n, h.row.same fun _ _ => rfl, h.fr⟩
theorem M3.pop (h : M3 w g A wr k S (T ++ [n]) Tb v) (hv : k.vt = .slice a (T.length + 1) cap) :
 M3 w g A (wr.setCell ⟨w.heap.size + 2, 1, none⟩ (.slice a T.length cap)) { k with vt := .slice a T.length cap } S T Tb v := by
 have hwb : k.blk (w.heap.size + 2) := .inl h.mi.kwb.symm;refine ⟨h.mi.pop hv, h.row.same fun b hb => heap_setCell_ne (fun e => (h.fr b hb).2.1 (by have e' : b = w.heap.size + 2 := e; rw [e']; exact hwb)) _, fun b hb => ⟨(h.fr b hb).1, fun hk => (h.fr b hb).2.1 ?_, (h.fr b hb).2.2⟩⟩;rcases hk with h1 | h1 | h1
 · exact .inl h1
 · exact .inr (.inl h1)
 · refine .inr (.inr ?_);rw [hv];cases a <;> cases cap <;> simp [rowBlk] at h1 ⊢
   exact h1
theorem M3.push (h : M3 w g A wr k S T Tb v) (n : Int) (hT : Tb.length < 1000000000000) :
 ∃ a cap w', (Builtin.append_ #[23, 23] 23 #[v, .slice (some ⟨wr.heap.size, 0, none⟩) 1 1]).run Tryz.prog (wr.alloc (.cells #[.int .i64 n] 3)) = .ok (.slice a (Tb.length + 1) cap) w' ∧ M3 w g A w' k S T (Tb ++ [n]) (.slice a (Tb.length + 1) cap) := by
 obtain ⟨a, cap, w3, happ, hrow, hC, hloc⟩ := app1 h.row n hT;refine ⟨a, cap, w3, happ, h.mi.move hC (fun b hb => ⟨(h.fr b hb).1, (h.fr b hb).2.1, (h.fr b hb).2.2.1, (h.fr b hb).2.2.2, fun x hx => hx.elim⟩), by simpa using hrow, fun b hb => ?_⟩;rcases hloc b hb with h1 | h1
 · exact h.fr b h1
 · have hc := lt_of_block h.mi.hcb;have hp := lt_of_block h.mi.hwp;exact ⟨Nat.le_trans h.mi.old.size h1, fun hk => by have := h.mi.wk.lt hk; omega, by omega, by omega⟩
theorem M3.back {k' : WkG} {T' : List Int} (h : M3 w g A wr k S T Tb v)
 (hm : MI w g A (w.heap.size + 2) (w.heap.size + 1) w.heap.size (w.heap.size + 3) (fun b x => rowBlk v = some b ∧ wr.heap[b]? = some x) w' k' S' T') : M3 w g A w' k' S' T' Tb v := by
 have hx : ∀ b, rowBlk v = some b → ∃ x, wr.heap[b]? = some x := fun b hb => ⟨_, Array.getElem?_eq_getElem (h.row.lt hb)⟩;refine ⟨hm.weak fun _ _ hb => hb.elim, h.row.same fun b hb => ?_, fun b hb => ?_⟩
 · obtain ⟨x, hx'⟩ := hx b hb;rw [hm.hold b x ⟨hb, hx'⟩, hx']
 · obtain ⟨x, hx'⟩ := hx b hb;exact ⟨(h.fr b hb).1, hm.off b x ⟨hb, hx'⟩, (h.fr b hb).2.2⟩
theorem M3.refs (hw : Wf km m A) (h : M3 w g A wr k S T Tb v) (hv : VI A S T []) (ho : A.objs.lookup n = some o) :
 Calls Tryz.prog 76 #[.pointer (some ⟨g.hb, 0, none⟩), .pointer (some ⟨g.ob n, 0, none⟩), .func (.func 71) #[] #[.pointer (some ⟨w.heap.size, 0, none⟩), .pointer (some ⟨w.heap.size + 3, 0, none⟩)]] wr fun e w' =>
  e = .returned (.tuple #[]) ∧ ∃ k' N, M3 w g A w' k' (S ++ N) (T ++ N) Tb v ∧ VI A S T N ∧ (∀ m ∈ refsW (A.fields o), A.isYoung m = true → m ∈ S ++ N) := by
 have hb1 := young_bound (A := A) (S := S) (by simpa using hv.nod) (by simpa using hv.yng);have htl := hv.tl;have hmany := hw.many;have hk9 := hw.hk;have hsz := hw.fit.size n o ho;have hm1 : (A.mem o.old).length ≤ 100000000000 := by
  cases o.old
  · exact hw.fit.memN
  · exact hw.fit.memT
 have hF := minor_found (w := w) (g := g) (A := A) (wb := w.heap.size + 2) (ms := w.heap.size + 1) (cb := w.heap.size) (wp := w.heap.size + 3) (S0 := S) (T0 := T) (by omega);have hkX := h.mi.keepX' (fun b => rowBlk v = some b) (fun b hb => (h.fr b hb).2.1);refine (refs_any hF (S := fun b x => rowBlk v = some b ∧ wr.heap[b]? = some x) (l0 := []) ⟨k, hkX⟩ ho (hw.fit.inn n o ho) (by omega) (by simp; omega)).mono ?_;rintro e w' ⟨rfl, k', hk'⟩;obtain ⟨N2, h1, h2, h3, h4⟩ := hv.seeL ([] ++ refsW (A.fields o));rw [List.append_nil, List.append_nil] at h1;rw [h1] at hk';exact ⟨rfl, k', N2, h.back hk', h2, fun m hm hy => h4 m (by simpa using hm) hy⟩
theorem M3.values (hw : Wf km m A) (h : M3 w g A wr k S T Tb v) (hv : VI A S T []) (hTb : ∀ t ∈ Tb, (A.objs.lookup t).isSome) (hTl : Tb.length ≤ 1000000000) :
 Calls Tryz.prog 77 #[.pointer (some ⟨g.hb, 0, none⟩), v, .pointer (some ⟨w.heap.size + 2, 0, none⟩), .func (.func 71) #[] #[.pointer (some ⟨w.heap.size, 0, none⟩), .pointer (some ⟨w.heap.size + 3, 0, none⟩)]] wr fun e w' =>
  e = .returned (.tuple #[]) ∧ ∃ k' N, M3 w g A w' k' (S ++ N) (T ++ N) Tb v ∧ VI A S T N ∧ TY A S (S ++ N) Tb := by
 have hkX := h.mi.keepX' (fun b => rowBlk v = some b) (fun b hb => (h.fr b hb).2.1);have hx : ∀ b, rowBlk v = some b → ∃ x, wr.heap[b]? = some x := fun b hb => ⟨_, Array.getElem?_eq_getElem (h.row.lt hb)⟩;refine (values_any hkX hv hw.fit (v := v) (Tb := Tb) (fun wr' k' S' T' hm => h.row.same fun b hb => by
  obtain ⟨x, hx'⟩ := hx b hb;rw [hm.hold b x ⟨hb, hx'⟩, hx']) hTb hTl).mono ?_
 rintro e w' ⟨rfl, k', N, hm, h1, h2⟩;exact ⟨rfl, k', N, h.back hm, h1, h2⟩
structure Nd where
 table : Bool
 tag : Int
 flds : List Wd
 ents : List En
 gone : Bool
structure IS where
 nodes : List Nd
 hs : List (Int × Int)
 reg : List Int
 queue : List Int
 room : Int
def IS.nd (I : IS) (n : Int) : Option Nd := if 0 ≤ n then I.nodes[n.toNat]? else none
inductive IReach (I : IS) (from_ : List Int) : Int → Prop
 | root {n : Int} : n ∈ from_ → IReach I from_ n
 | field {n m : Int} {d : Nd} : IReach I from_ n → I.nd n = some d → d.table = false → m ∈ refsW d.flds → IReach I from_ m
 | entry {t : Int} {d : Nd} {x : En} : IReach I from_ t → I.nd t = some d → d.table = true → x ∈ d.ents → IReach I from_ x.key → x.val.ref = true → IReach I from_ x.val.num
theorem IReach.congr {I : IS} (h : ∀ n, n ∈ l → n ∈ l') (hr : IReach I l n) : IReach I l' n := by
 induction hr with
 | root h1 => exact .root (h _ h1)
 | field _ ho ht hm ih => exact .field ih ho ht hm
 | entry _ ho ht hx _ hr ih1 ih2 => exact .entry ih1 ho ht hx ih2 hr
theorem IReach.closed {I : IS} (h : ∀ n, n ∈ l → IReach I l' n) (hr : IReach I l n) : IReach I l' n := by
 induction hr with
 | root h1 => exact h _ h1
 | field _ ho ht hm ih => exact .field ih ho ht hm
 | entry _ ho ht hx _ hr ih1 ih2 => exact .entry ih1 ho ht hx ih2 hr
def IS.roots (I : IS) : List Int := I.queue ++ I.hs.map (·.2)
def IS.kept (I : IS) (n : Int) : Prop := IReach I (I.roots ++ I.reg) n
noncomputable def IS.live (I : IS) (n : Int) : Bool := dec (I.kept n)
theorem IS.live_iff {I : IS} : I.live n = true ↔ I.kept n := dec_iff
def IS.cost (I : IS) (p : Int → Bool) (i : Nat) : Nat := match I.nodes[i]? with
 | some d => if p (i : Int) then 1 + d.flds.length + 3 * (d.ents.filter fun x => p x.key).length else 0
 | none => 0
def IS.words (I : IS) (p : Int → Bool) : Nat := ((List.range I.nodes.length).map (I.cost p)).sum
theorem sum_map_le {α : Type} {f g : α → Nat} : ∀ {l : List α}, (∀ x ∈ l, f x ≤ g x) → (l.map f).sum ≤ (l.map g).sum
 | [], _ => by simp
 | x :: l, h => by
   have h1 := h x (by simp);have h2 := sum_map_le (f := f) (g := g) (l := l) (fun y hy => h y (by simp [hy]));simp only [List.map_cons, List.sum_cons]; omega
theorem filter_length_le {α : Type} {p q : α → Bool} : ∀ {l : List α}, (∀ x ∈ l, p x = true → q x = true) → (l.filter p).length ≤ (l.filter q).length
 | [], _ => by simp
 | x :: l, h => by
   have h1 := h x (by simp);have h2 := filter_length_le (p := p) (q := q) (l := l) (fun y hy => h y (by simp [hy]));cases hp : p x <;> cases hq : q x <;> simp [hp, hq] at h1 ⊢ <;> omega
theorem IS.words_le {I : IS} {q : Int → Bool} (h : ∀ n, p n = true → q n = true) : I.words p ≤ I.words q := by
 refine sum_map_le fun i _ => ?_;unfold IS.cost;cases I.nodes[i]? with
 | none => exact Nat.le_refl _
 | some d =>
   have h2 := filter_length_le (l := d.ents) (p := fun x => p x.key) (q := fun x => q x.key) (fun x _ hx => h _ hx);cases hp : p (i : Int) with
   | false => simp
   | true => simp only [h _ hp, if_true]; omega
structure Sim (A : St) (I : IS) : Prop where
 names : A.names = I.nodes.length
 hs : A.handles = I.hs
 reg : A.reg = I.reg
 queue : A.queue = I.queue
 room : A.full = I.room
 obj : ∀ n o, A.objs.lookup n = some o → ∃ d, I.nd n = some d ∧ o.table = d.table ∧ o.size = d.flds.length ∧ A.area o = ⟨false, d.tag⟩ :: d.flds ∧ o.ents = d.ents.filter (fun x => (A.objs.lookup x.key).isSome) ∧ d.gone = false
 keep : ∀ n, I.kept n → (A.objs.lookup n).isSome
theorem Sim.roots {I : IS} (h : Sim A I) : A.roots = I.roots := by unfold St.roots IS.roots; rw [h.queue, h.hs]
theorem Sim.fields {I : IS} (_h : Sim A I) {d : Nd} (ha : A.area o = ⟨false, d.tag⟩ :: d.flds) : A.fields o = d.flds := by rw [fields_area, ha]; rfl
theorem Sim.reach_to {I : IS} (h : Sim A I) (hr : Reach A l n) : IReach I l n := by
 induction hr with
 | root h1 => exact .root h1
 | field _ ho ht hm ih =>
   obtain ⟨d, h1, h2, _, h4, _⟩ := h.obj _ _ ho;rw [h.fields h4] at hm;exact .field ih h1 (by rw [← h2]; exact ht) hm
 | entry _ ho ht hx _ hr ih1 ih2 =>
   obtain ⟨d, h1, h2, _, _, h5, _⟩ := h.obj _ _ ho;rw [h5] at hx;exact .entry ih1 h1 (by rw [← h2]; exact ht) (List.mem_filter.1 hx).1 ih2 hr
theorem Sim.reach_of {I : IS} (h : Sim A I) (hl : ∀ n ∈ l, I.kept n) (hr : IReach I l n) : Reach A l n := by
 have hk : ∀ {m}, IReach I l m → ∃ o, A.objs.lookup m = some o := fun {m} hm => by
  have := h.keep m (IReach.closed hl hm);exact Option.isSome_iff_exists.1 this
 induction hr with
 | root h1 => exact .root h1
 | field hp ho ht hm ih =>
   obtain ⟨o, hlo⟩ := hk hp;obtain ⟨d, h1, h2, _, h4, _⟩ := h.obj _ _ hlo;rw [ho] at h1;simp only [Option.some.injEq] at h1;subst h1;exact .field ih hlo (by rw [h2]; exact ht) (by rw [h.fields h4]; exact hm)
 | entry hp ho ht hx hkey hr ih1 ih2 =>
   obtain ⟨o, hlo⟩ := hk hp;obtain ⟨ko, hko⟩ := hk hkey;obtain ⟨d, h1, h2, _, _, h5, _⟩ := h.obj _ _ hlo;rw [ho] at h1;simp only [Option.some.injEq] at h1;subst h1;exact .entry ih1 hlo (by rw [h2]; exact ht) (by rw [h5]; exact List.mem_filter.2 ⟨hx, by rw [hko]; rfl⟩) ih2 hr
theorem Sim.kept_roots {I : IS} (h : n ∈ I.roots ++ I.reg) : I.kept n := .root h
theorem Sim.live {I : IS} (h : Sim A I) (n : Int) : A.live n = I.live n := by
 have e : A.roots ++ A.reg = I.roots ++ I.reg := by rw [h.roots, h.reg]
 have : Reach A (A.roots ++ A.reg) n ↔ I.kept n := by
  rw [e];exact ⟨h.reach_to, h.reach_of fun m hm => Sim.kept_roots hm⟩
 cases hl : I.live n with
 | true => exact dec_iff.2 (this.2 (dec_iff.1 hl))
 | false => exact dec_false.2 (fun hr => (dec_false.1 hl) (this.1 hr))
theorem Sim.wait {I : IS} (h : Sim A I) (n : Int) : dec (Reach A A.roots n) = dec (IReach I I.roots n) := by
 have : Reach A A.roots n ↔ IReach I I.roots n := by
  rw [h.roots];exact ⟨h.reach_to, h.reach_of fun m hm => Sim.kept_roots (List.mem_append_left _ hm)⟩
 cases hl : dec (IReach I I.roots n) with
 | true => exact dec_iff.2 (this.2 (dec_iff.1 hl))
 | false => exact dec_false.2 (fun hr => (dec_false.1 hl) (this.1 hr))
theorem Sim.swept {I : IS} (h : Sim A I) : Sim A.swept I := by
 refine ⟨h.names, h.hs, h.reg, h.queue, h.room, ?_, ?_⟩
 · intro n o' ho';obtain ⟨hl, o, ho, rfl⟩ := swept_some ho';obtain ⟨d, h1, h2, h3, h4, h5, h6⟩ := h.obj n o ho;refine ⟨d, h1, h2, h3, h4, ?_, h6⟩;have e1 : (o.forgot (A.keep A.live)).ents = o.ents.filter (fun x => !((A.keep A.live).objs.lookup x.key).isNone) := rfl;rw [e1, h5, List.filter_filter];apply List.filter_congr;intro x _;have h2 : (A.keep A.live).objs.lookup x.key = if A.live x.key then A.objs.lookup x.key else none := lookup_filter_key A.live x.key A.objs;rw [h2, swept_lookup];cases A.live x.key <;> cases A.objs.lookup x.key <;> simp
 · intro n hn;rw [swept_isSome];exact ⟨by rw [h.live]; exact IS.live_iff.2 hn, h.keep n hn⟩
theorem swept_is_live (h : (A.swept.objs.lookup n).isSome) : A.live n = true := (swept_isSome.1 h).1
theorem settled_same (hf : Fit A) : A.settled.names = A.names ∧ A.settled.young = A.young ∧ A.settled.handles = A.handles ∧ A.settled.reg = A.reg ∧ A.settled.queue = A.queue ∧ A.settled.free = A.free ∧ A.settled.next = A.next ∧ A.settled.full = A.full := by
 obtain ⟨h1, h2, h3, h4, h5, h6, h7, h8, _⟩ := (settled_I hf).same;exact ⟨h1, h2, h3, h4, h5, h6, h7, h8⟩
theorem Sim.settled {I : IS} (h : Sim A I) (hf : Fit A) : Sim A.settled I := by
 obtain ⟨s1, _, s3, s4, s5, _, _, s8⟩ := settled_same hf;refine ⟨by rw [s1]; exact h.names, by rw [s3]; exact h.hs, by rw [s4]; exact h.reg, by rw [s5]; exact h.queue, by rw [s8]; exact h.room, ?_, ?_⟩
 · intro n o' ho';obtain ⟨o, p, ho, rfl, h1, h2⟩ := settled_some hf ho';obtain ⟨d, g1, g2, g3, g4, g5, g6⟩ := h.obj n o ho;refine ⟨d, g1, g2, g3, by rw [h2]; exact g4, ?_, g6⟩;show o.ents = _;rw [g5];exact List.filter_congr fun x _ => (settled_isSome hf x.key).symm
 · intro n hn;rw [settled_isSome hf]; exact h.keep n hn
theorem Sim.cleaned {k : Nat} {I : IS} (h : Sim A I) (hw : Wf k m A) : Sim A.cleaned I := h.swept.settled hw.swept.fit
noncomputable def IS.awaited (I : IS) : IS :=
 { I with queue := I.queue ++ I.reg.filter (fun n => !dec (IReach I I.roots n)), reg := I.reg.filter (fun n => dec (IReach I I.roots n)) }
theorem IReach.nodes {I J : IS} (h : ∀ n, J.nd n = I.nd n) (hr : IReach I l n) : IReach J l n := by
 induction hr with
 | root h1 => exact .root h1
 | field _ ho ht hm ih => exact .field ih ((h _).trans ho) ht hm
 | entry _ ho ht hx _ hr ih1 ih2 => exact .entry ih1 ((h _).trans ho) ht hx ih2 hr
theorem IReach.same {I J : IS} (h : ∀ n, J.nd n = I.nd n) (hl : ∀ n, n ∈ l ↔ n ∈ l') (n : Int) : IReach I l n ↔ IReach J l' n :=
 ⟨fun hr => (hr.nodes h).congr fun n hn => (hl n).1 hn, fun hr => (hr.nodes (fun n => (h n).symm)).congr fun n hn => (hl n).2 hn⟩
theorem IS.awaited_mem {I : IS} (n : Int) : n ∈ I.awaited.roots ++ I.awaited.reg ↔ n ∈ I.roots ++ I.reg := by
 unfold IS.awaited IS.roots;simp only [List.mem_append, List.mem_filter, Bool.not_eq_true', dec_iff, dec_false];constructor
 · rintro (((h | h) | h) | h)
   · exact .inl (.inl h)
   · exact .inr h.1
   · exact .inl (.inr h)
   · exact .inr h.1
 · rintro ((h | h) | h)
   · exact .inl (.inl (.inl h))
   · exact .inl (.inr h)
   · by_cases hr : IReach I (I.queue ++ I.hs.map (·.2)) n
     · exact .inr ⟨h, hr⟩
     · exact .inl (.inl (.inr ⟨h, hr⟩))
theorem IS.awaited_kept {I : IS} (n : Int) : I.awaited.kept n ↔ I.kept n := (IReach.same (I := I) (J := I.awaited) (fun _ => rfl) (fun m => (IS.awaited_mem m).symm) n).symm
theorem Sim.awaited {I : IS} (h : Sim A I) : Sim A.awaited I.awaited := by
 have e1 : A.awaited.queue = I.awaited.queue := by
  show A.queue ++ A.reg.filter (fun n => !dec (Reach A A.roots n)) = I.queue ++ I.reg.filter (fun n => !dec (IReach I I.roots n));rw [h.queue, h.reg];simp only [h.wait]
 have e2 : A.awaited.reg = I.awaited.reg := by
  show A.reg.filter (fun n => dec (Reach A A.roots n)) = I.reg.filter (fun n => dec (IReach I I.roots n));rw [h.reg];simp only [h.wait]
 exact ⟨h.names, h.hs, e2, e1, h.room, h.obj, fun n hn => h.keep n ((IS.awaited_kept n).1 hn)⟩
noncomputable def IS.majored (I : IS) : IS :=
 { I.awaited with nodes := (List.range I.nodes.length).map fun i => { I.nodes[i]?.getD ⟨false, 0, [], [], false⟩ with gone := !I.live (i : Int) } }
theorem IS.nd_majored (I : IS) (n : Int) : I.majored.nd n = (I.nd n).map fun d => { d with gone := !I.live n } := by
 unfold IS.nd
 split
 · rename_i h
   have e : ((n.toNat : Nat) : Int) = n := Int.toNat_of_nonneg h;show ((List.range I.nodes.length).map fun i => ({ I.nodes[i]?.getD ⟨false, 0, [], [], false⟩ with gone := !I.live (i : Int) } : Nd))[n.toNat]? = _;rw [List.getElem?_map];by_cases hl : n.toNat < I.nodes.length
   · rw [List.getElem?_range hl];simp [e, List.getElem?_eq_getElem hl]
   · rw [List.getElem?_eq_none (by simpa using hl), List.getElem?_eq_none (by simpa using hl)];rfl
 · rfl
theorem IReach.nodes2 {I J : IS} (h : ∀ n d, I.nd n = some d → ∃ d', J.nd n = some d' ∧ d'.table = d.table ∧ d'.flds = d.flds ∧ d'.ents = d.ents) (hr : IReach I l n) : IReach J l n := by
 induction hr with
 | root h1 => exact .root h1
 | field _ ho ht hm ih =>
   obtain ⟨d', h1, h2, h3, _⟩ := h _ _ ho;exact .field ih h1 (by rw [h2]; exact ht) (by rw [h3]; exact hm)
 | entry _ ho ht hx _ hr ih1 ih2 =>
   obtain ⟨d', h1, h2, _, h4⟩ := h _ _ ho;exact .entry ih1 h1 (by rw [h2]; exact ht) (by rw [h4]; exact hx) ih2 hr
theorem IS.majored_kept {I : IS} (n : Int) : I.majored.kept n ↔ I.kept n := by
 rw [← IS.awaited_kept (I := I)];have e : I.majored.roots ++ I.majored.reg = I.awaited.roots ++ I.awaited.reg := rfl;unfold IS.kept;rw [e];constructor
 · refine IReach.nodes2 fun n d hd => ?_;rw [IS.nd_majored] at hd;cases hn : I.nd n with
   | none => rw [hn] at hd; cases hd
   | some d0 =>
     rw [hn] at hd;simp only [Option.map_some, Option.some.injEq] at hd;subst hd;exact ⟨d0, hn, rfl, rfl, rfl⟩
 · refine IReach.nodes2 fun n d hd => ?_;have hd' : I.nd n = some d := hd;rw [IS.nd_majored, hd'];exact ⟨_, rfl, rfl, rfl, rfl⟩
theorem Sim.majored {k : Nat} {I : IS} (h : Sim A I) (hw : Wf k m A) : Sim A.majored I.majored := by
 have h1 := h.awaited.swept.settled hw.awaited.swept.fit;have hlen : I.majored.nodes.length = I.nodes.length := by simp [IS.majored]
 refine ⟨by rw [hlen]; exact h1.names, h1.hs, h1.reg, h1.queue, h1.room, ?_, ?_⟩
 · intro n o ho;obtain ⟨d, g1, g2, g3, g4, g5, _⟩ := h1.obj n o ho;have g1' : I.nd n = some d := g1;refine ⟨{ d with gone := !I.live n }, by rw [IS.nd_majored, g1']; rfl, g2, g3, g4, g5, ?_⟩;have hs : (A.awaited.swept.settled.objs.lookup n).isSome := by
    have : A.majored.objs.lookup n = some o := ho;show (A.majored.objs.lookup n).isSome;rw [this]; rfl
   rw [settled_isSome hw.awaited.swept.fit] at hs;have hl := swept_is_live hs;rw [h.awaited.live] at hl;have : I.live n = true := dec_iff.2 ((IS.awaited_kept n).1 (dec_iff.1 hl));simp [this]
 · intro n hn;exact h1.keep n ((IS.awaited_kept n).2 ((IS.majored_kept n).1 hn))
structure RemOk (A : St) : Prop where
 sub : ∀ n ∈ A.rem, (A.objs.lookup n).isSome
 all : ∀ n o, A.objs.lookup n = some o → o.old = true → ∀ m ∈ A.refs o, A.isYoung m = true → n ∈ A.rem
structure MinI (A : St) (p : Int → Bool) (l : List Int) (B : St) : Prop where
 keys : (B.objs.map (·.1)).Sublist (A.objs.map (·.1))
 old : ∀ n o, A.objs.lookup n = some o → o.old = true → B.objs.lookup n = some o
 done : ∀ n ∈ l, ∀ o, A.objs.lookup n = some o → o.old = false → p n = true → ∃ q, B.objs.lookup n = some { o with at_ := q, old := true } ∧ q + 1 + o.size ≤ B.memT.length ∧ (B.memT.drop q).take (1 + o.size) = A.area o
 gone : ∀ n ∈ l, ∀ o, A.objs.lookup n = some o → o.old = false → p n = false → B.objs.lookup n = none
 rest : ∀ n, n ∉ l → B.objs.lookup n = A.objs.lookup n
 none : ∀ n, A.objs.lookup n = none → B.objs.lookup n = none
 pre : ∃ t, B.memT = A.memT ++ t
 memT : B.memT.length ≤ A.memT.length + 1001 * l.length
 memN : B.memN = []
 same : B.names = A.names ∧ B.young = A.young ∧ B.handles = A.handles ∧ B.reg = A.reg ∧ B.queue = A.queue ∧ B.free = A.free ∧ B.next = A.next ∧ B.full = A.full
theorem MinI.start (A : St) (p : Int → Bool) : MinI A p [] { A with memN := [] } :=
 ⟨List.Sublist.refl _, fun _ _ h _ => h, by simp, by simp, fun _ _ => rfl, fun _ h => h, ⟨[], by simp⟩, by simp, rfl, rfl, rfl, rfl, rfl, rfl, rfl, rfl, rfl⟩
theorem delO_keys_sub (l : List (Int × Ob)) (k : Int) : ((delO l k).map (·.1)).Sublist (l.map (·.1)) := List.Sublist.map _ List.filter_sublist
theorem MinI.step (h : MinI A p l B) (hf : Fit A) (hn : n ∉ l) : MinI A p (l ++ [n]) (minorStep A p B n) := by
 have hl := h.rest n hn;have hlen : (l ++ [n]).length = l.length + 1 := by simp
 unfold minorStep;rw [hl];cases ho : A.objs.lookup n with
 | none =>
   refine ⟨h.keys, h.old, ?_, ?_, fun m hm => h.rest m (fun hm' => hm (List.mem_append_left _ hm')), h.none, h.pre, ?_, h.memN, h.same⟩
   · intro m hm o' ho';rcases List.mem_append.1 hm with hm | hm
     · exact h.done m hm o' ho'
     · simp at hm; subst hm; rw [ho] at ho'; cases ho'
   · intro m hm o' ho';rcases List.mem_append.1 hm with hm | hm
     · exact h.gone m hm o' ho'
     · simp at hm; subst hm; rw [ho] at ho'; cases ho'
   · have := h.memT; show B.memT.length ≤ _; omega
 | some o =>
   simp only [];cases hold : o.old with
   | true =>
     simp only [if_true];refine ⟨h.keys, h.old, ?_, ?_, fun m hm => h.rest m (fun hm' => hm (List.mem_append_left _ hm')), h.none, h.pre, ?_, h.memN, h.same⟩
     · intro m hm o' ho' hy;rcases List.mem_append.1 hm with hm | hm
       · exact h.done m hm o' ho' hy
       · simp at hm; subst hm; rw [ho] at ho'; simp only [Option.some.injEq] at ho'; subst ho'; rw [hold] at hy; cases hy
     · intro m hm o' ho' hy;rcases List.mem_append.1 hm with hm | hm
       · exact h.gone m hm o' ho' hy
       · simp at hm; subst hm; rw [ho] at ho'; simp only [Option.some.injEq] at ho'; subst ho'; rw [hold] at hy; cases hy
     · have := h.memT; show B.memT.length ≤ _; omega
   | false =>
     simp only [Bool.false_eq_true, if_false];have hB : B.objs.lookup n = some o := by rw [hl, ho]
     have hsz := hf.size n o ho;have hin := hf.inn n o ho;have hmm : A.mem o.old = A.memN := by rw [hold]; rfl
     have harea : (A.memN.drop o.at_).take (1 + o.size) = A.area o := by unfold St.area; rw [hmm]
     have hal : (A.area o).length = 1 + o.size := by
      unfold St.area;rw [List.length_take, List.length_drop]; omega
     cases hp : p n with
     | true =>
       simp only [if_true];rw [harea];have hmT : (B.moved n o true (A.area o)).memT = B.memT ++ A.area o := rfl;have hobj : (B.moved n o true (A.area o)).objs = (B.setOb n { o with at_ := B.memT.length, old := true }).objs := rfl;refine ⟨?_, ?_, ?_, ?_, ?_, ?_, ?_, ?_, h.memN, h.same⟩
       · rw [hobj, setOb_keys]; exact h.keys
       · intro m o' ho' hm;have e : m ≠ n := fun e => by subst e; rw [ho] at ho'; simp only [Option.some.injEq] at ho'; subst ho'; rw [hold] at hm; cases hm
         rw [hobj, lookup_setOb _ _ _ _ e];exact h.old m o' ho' hm
       · intro m hm o' ho' hy hpm;by_cases e : m = n
         · subst e;rw [ho] at ho'; simp only [Option.some.injEq] at ho'; subst ho';refine ⟨B.memT.length, by rw [hobj]; exact lookup_setOb_self B m _ _ hB, by rw [hmT, List.length_append, hal]; omega, ?_⟩;rw [hmT, List.drop_left, List.take_of_length_le (by rw [hal]; exact Nat.le_refl _)]
         · have hm' : m ∈ l := by
            rcases List.mem_append.1 hm with hm | hm
            · exact hm
            · simp at hm; exact absurd hm e
           obtain ⟨q, h1, h2, h3⟩ := h.done m hm' o' ho' hy hpm;refine ⟨q, by rw [hobj, lookup_setOb _ _ _ _ e]; exact h1, by rw [hmT, List.length_append]; omega, ?_⟩;rw [hmT, List.drop_append_of_le_length (by omega), List.take_append_of_le_length (by rw [List.length_drop]; omega)];exact h3
       · intro m hm o' ho' hy hpm;have e : m ≠ n := fun e => by subst e; rw [hp] at hpm; cases hpm
         have hm' : m ∈ l := by
          rcases List.mem_append.1 hm with hm | hm
          · exact hm
          · simp at hm; exact absurd hm e
         rw [hobj, lookup_setOb _ _ _ _ e];exact h.gone m hm' o' ho' hy hpm
       · intro m hm;have e : m ≠ n := fun e => hm (by simp [e]);rw [hobj, lookup_setOb _ _ _ _ e];exact h.rest m (fun hm' => hm (List.mem_append_left _ hm'))
       · intro m hm;have e : m ≠ n := fun e => by subst e; rw [ho] at hm; cases hm
         rw [hobj, lookup_setOb _ _ _ _ e];exact h.none m hm
       · obtain ⟨t, ht⟩ := h.pre;exact ⟨t ++ A.area o, by rw [hmT, ht, List.append_assoc]⟩
       · have := h.memT;rw [hmT, List.length_append, hal, hlen];omega
     | false =>
       simp only [Bool.false_eq_true, if_false];refine ⟨(delO_keys_sub _ _).trans h.keys, ?_, ?_, ?_, ?_, ?_, h.pre, ?_, h.memN, h.same⟩
       · intro m o' ho' hm;have e : m ≠ n := fun e => by subst e; rw [ho] at ho'; simp only [Option.some.injEq] at ho'; subst ho'; rw [hold] at hm; cases hm
         show (delO B.objs n).lookup m = _;rw [lookup_delO, if_neg e];exact h.old m o' ho' hm
       · intro m hm o' ho' hy hpm;have e : m ≠ n := fun e => by subst e; rw [hp] at hpm; cases hpm
         have hm' : m ∈ l := by
          rcases List.mem_append.1 hm with hm | hm
          · exact hm
          · simp at hm; exact absurd hm e
         obtain ⟨q, h1, h2, h3⟩ := h.done m hm' o' ho' hy hpm;refine ⟨q, ?_, h2, h3⟩;show (delO B.objs n).lookup m = _;rw [lookup_delO, if_neg e];exact h1
       · intro m hm o' ho' hy hpm;show (delO B.objs n).lookup m = _;rw [lookup_delO];by_cases e : m = n
         · rw [if_pos e]
         · rw [if_neg e];have hm' : m ∈ l := by
            rcases List.mem_append.1 hm with hm | hm
            · exact hm
            · simp at hm; exact absurd hm e
           exact h.gone m hm' o' ho' hy hpm
       · intro m hm;have e : m ≠ n := fun e => hm (by simp [e]);show (delO B.objs n).lookup m = _;rw [lookup_delO, if_neg e];exact h.rest m (fun hm' => hm (List.mem_append_left _ hm'))
       · intro m hm;show (delO B.objs n).lookup m = _;rw [lookup_delO]
         split
         · rfl
         · exact h.none m hm
       · have := h.memT;show B.memT.length ≤ _;omega
theorem minor_minI {A : St} {p : Int → Bool} (hf : Fit A) : ∀ (l l0 : List Int) (B : St), (l0 ++ l).Nodup → MinI A p l0 B → MinI A p (l0 ++ l) (l.foldl (minorStep A p) B)
 | [], l0, B, _, h => by simpa using h
 | n :: l, l0, B, hn, h => by
   have hn0 : n ∉ l0 := fun hm => by
    have := (List.nodup_append.1 hn).2.2 n hm n (by simp);exact this rfl
   have := minor_minI hf l (l0 ++ [n]) _ (by simpa using hn) (h.step hf hn0);simpa using this
theorem minored_I (p : Int → Bool) (hf : Fit A) : MinI A p A.sorted (A.minorTo p A.sorted) := by
 have := minor_minI (p := p) hf A.sorted [] { A with memN := [] } (by simpa using sorted_nodup hf.nodup) (MinI.start A p);rw [List.nil_append] at this;exact this
theorem mem_sorted_of (h : A.objs.lookup n = some o) : n ∈ A.sorted := mem_sorted.2 (List.mem_map.2 ⟨_, mem_of_lookup h, rfl⟩)
theorem minored_lookup (A : St) (p : Int → Bool) (n : Int) : (A.minored p).objs.lookup n = ((A.minorTo p A.sorted).objs.lookup n).map (Ob.forgot (A.minorTo p A.sorted)) :=
 lookup_map_key (fun _ o => Ob.forgot (A.minorTo p A.sorted) o) n (A.minorTo p A.sorted).objs
theorem minorTo_isSome (hf : Fit A) (n : Int) : ((A.minorTo p A.sorted).objs.lookup n).isSome ↔ ∃ o, A.objs.lookup n = some o ∧ (o.old = true ∨ p n = true) := by
 have hI := minored_I p hf;cases ho : A.objs.lookup n with
 | none => rw [hI.none n ho]; simp
 | some o =>
   cases hold : o.old with
   | true =>
     rw [hI.old n o ho hold];simp [hold]
   | false =>
     cases hp : p n with
     | true =>
       obtain ⟨q, h1, _⟩ := hI.done n (mem_sorted_of ho) o ho hold hp;rw [h1]; simp
     | false =>
       rw [hI.gone n (mem_sorted_of ho) o ho hold hp];simp [hold]
theorem minored_isSome (hf : Fit A) (n : Int) : ((A.minored p).objs.lookup n).isSome ↔ ∃ o, A.objs.lookup n = some o ∧ (o.old = true ∨ p n = true) := by
 rw [minored_lookup, Option.isSome_map]; exact minorTo_isSome hf n
theorem area_app {t : List Wd} (hold : o.old = true) (hin : o.at_ + 1 + o.size ≤ B.memT.length) {C : St} (h : C.memT = B.memT ++ t) : C.area o = B.area o := by
 unfold St.area St.mem;rw [hold, if_pos rfl, if_pos rfl, h, List.drop_append_of_le_length (by omega), List.take_append_of_le_length (by rw [List.length_drop]; omega)]
theorem minored_some (hf : Fit A) {o' : Ob} (h : (A.minored p).objs.lookup n = some o') :
 ∃ o, A.objs.lookup n = some o ∧ (o.old = true ∨ p n = true) ∧ o'.table = o.table ∧ o'.size = o.size ∧ o'.old = true ∧ o'.ents = o.ents.filter (fun x => ((A.minored p).objs.lookup x.key).isSome) ∧
   o'.at_ + 1 + o'.size ≤ (A.minored p).memT.length ∧ (A.minored p).area o' = A.area o := by
 have hI := minored_I p hf;have hs : ((A.minored p).objs.lookup n).isSome := by rw [h]; rfl
 obtain ⟨o, ho, hor⟩ := (minored_isSome hf n).1 hs;rw [minored_lookup] at h;have hents : ∀ x : Ob, (x.forgot (A.minorTo p A.sorted)).ents = x.ents.filter (fun x => ((A.minored p).objs.lookup x.key).isSome) := by
  intro x;unfold Ob.forgot;refine List.filter_congr fun y _ => ?_;rw [minored_lookup, Option.isSome_map];cases (A.minorTo p A.sorted).objs.lookup y.key <;> rfl
 obtain ⟨t, ht⟩ := hI.pre;have hin := hf.inn n o ho;refine ⟨o, ho, hor, ?_⟩;cases hold : o.old with
 | true =>
   rw [hI.old n o ho hold] at h;simp only [Option.map_some, Option.some.injEq] at h;subst h;have hin2 : o.at_ + 1 + o.size ≤ A.memT.length := by unfold St.mem at hin; rw [hold] at hin; exact hin
   refine ⟨rfl, rfl, hold, hents o, ?_, ?_⟩
   · have : (A.minored p).memT.length = A.memT.length + t.length := by
      show (A.minorTo p A.sorted).memT.length = _;rw [ht, List.length_append]
     show o.at_ + 1 + o.size ≤ _;omega
   · show (A.minored p).area o = _;exact area_app hold hin2 ht
 | false =>
   have hp : p n = true := by
    rcases hor with h1 | h1
    · rw [hold] at h1; cases h1
    · exact h1
   obtain ⟨q, h1, h2, h3⟩ := hI.done n (mem_sorted_of ho) o ho hold hp;rw [h1] at h;simp only [Option.map_some, Option.some.injEq] at h;subst h;exact ⟨rfl, rfl, rfl, hents _, h2, h3⟩
theorem isYoung_of (h : A.objs.lookup n = some o) : A.isYoung n = !o.old := by unfold St.isYoung; rw [h]
theorem Sim.seen {I : IS} (h : Sim A I) (hrem : RemOk A) (hS : Found1 A S) (hk : I.kept n) : ∀ o, A.objs.lookup n = some o → o.old = true ∨ n ∈ S := by
 have young : ∀ {m : Int} {o : Ob}, A.objs.lookup m = some o → (A.isYoung m = true → m ∈ S) → o.old = true ∨ m ∈ S := fun {m o} ho hy => by
  cases hold : o.old with
  | true => exact .inl rfl
  | false => exact .inr (hy (by rw [isYoung_of ho, hold]; rfl))
 have refsIn : ∀ {p : Int} {po : Ob}, A.objs.lookup p = some po → ∀ m ∈ refsW (A.fields po), m ∈ A.refs po := fun _ m hm => mem_refs.2 (.inl hm)
 induction hk with
 | root h1 =>
   intro o ho;refine young ho fun hy => ?_;refine hS.root _ ?_ hy;rw [h.roots, h.reg]; exact h1
 | @field p m d hp hd ht hm ih =>
   intro o ho;refine young ho fun hy => ?_;obtain ⟨po, hpo⟩ := Option.isSome_iff_exists.1 (h.keep p hp);obtain ⟨d', g1, g2, _, g4, _⟩ := h.obj p po hpo;rw [hd] at g1;simp only [Option.some.injEq] at g1;subst g1;have hm' : m ∈ refsW (A.fields po) := by rw [h.fields g4]; exact hm
   rcases ih po hpo with hold | hin
   · exact hS.remd p (hrem.all p po hpo hold m (refsIn hpo m hm') hy) po hpo m (refsIn hpo m hm') hy
   · exact hS.field p hin po hpo (by rw [g2]; exact ht) m hm' hy
 | @entry t d x hp hd ht hx hkey hr ih1 ih2 =>
   intro o ho;refine young ho fun hy => ?_;obtain ⟨po, hpo⟩ := Option.isSome_iff_exists.1 (h.keep t hp);obtain ⟨ko, hko⟩ := Option.isSome_iff_exists.1 (h.keep x.key hkey);obtain ⟨d', g1, g2, _, _, g5, _⟩ := h.obj t po hpo;rw [hd] at g1;simp only [Option.some.injEq] at g1;subst g1;have hx' : x ∈ po.ents := by rw [g5]; exact List.mem_filter.2 ⟨hx, by rw [hko]; rfl⟩
   have hmr : x.val.num ∈ A.refs po := mem_refs.2 (.inr ⟨x, hx', .inr ⟨hr, rfl⟩⟩);rcases ih1 po hpo with hold | hin
   · exact hS.remd t (hrem.all t po hpo hold _ hmr hy) po hpo _ hmr hy
   · refine hS.entry t hin po hpo (by rw [g2]; exact ht) x hx' hr ?_ hy;rcases ih2 ko hko with h1 | h1
     · right; rw [isYoung_of hko, h1]; rfl
     · exact .inl h1
theorem Sim.minored {I : IS} (h : Sim A I) (hf : Fit A) (hrem : RemOk A) (hS : Found1 A S) : Sim (A.minored (fun n => decide (n ∈ S))) I := by
 have hI := minored_I (fun n => decide (n ∈ S)) hf;obtain ⟨s1, _, s3, s4, s5, _, _, s8⟩ := hI.same;refine ⟨s1.trans h.names, s3.trans h.hs, s4.trans h.reg, s5.trans h.queue, s8.trans h.room, ?_, ?_⟩
 · intro n o' ho';obtain ⟨o, ho, hor, e1, e2, e3, e4, e5, e6⟩ := minored_some hf ho';obtain ⟨d, g1, g2, g3, g4, g5, g6⟩ := h.obj n o ho;refine ⟨d, g1, e1.trans g2, e2.trans g3, e6.trans g4, ?_, g6⟩;rw [e4, g5, List.filter_filter];refine List.filter_congr fun x _ => ?_;have hi := minored_isSome (p := fun n => decide (n ∈ S)) hf x.key;cases hx : A.objs.lookup x.key with
   | some y => simp
   | none =>
     rw [hx] at hi;cases hy : (A.minored (fun n => decide (n ∈ S))).objs.lookup x.key with
     | none => rfl
     | some z =>
       rw [hy] at hi;obtain ⟨_, h1, _⟩ := hi.1 rfl;cases h1
 · intro n hn;rw [minored_isSome hf];obtain ⟨o, ho⟩ := Option.isSome_iff_exists.1 (h.keep n hn);refine ⟨o, ho, ?_⟩;rcases h.seen hrem hS hn o ho with h1 | h1
   · exact .inl h1
   · exact .inr (by simpa using h1)
theorem minored_length (hf : Fit A) : (A.minored p).objs.length ≤ A.objs.length := by
 have h := (minored_I p hf).keys.length_le;rw [List.length_map, List.length_map] at h;show ((A.minorTo p A.sorted).objs.map _).length ≤ _;rw [List.length_map]; exact h
theorem minored_keys (hf : Fit A) : ((A.minored p).objs.map (·.1)).Sublist (A.objs.map (·.1)) := by
 have h := (minored_I p hf).keys;have e : (A.minored p).objs.map (·.1) = (A.minorTo p A.sorted).objs.map (·.1) := by
  show ((A.minorTo p A.sorted).objs.map _).map _ = _;rw [List.map_map]; rfl
 rw [e]; exact h
theorem Wf.minored {k : Nat} (h : Wf k m A) (hrem : RemOk A) (hS : Found1 A S) {m' : Nat} (hm' : m' ≤ 100000000000) (hT : A.memT.length + 1001 * k ≤ m') (hmm : 1001 * k ≤ m') : Wf k m' (A.minored (fun n => decide (n ∈ S))) := by
 have hf := h.fit;have hI := minored_I (fun n => decide (n ∈ S)) hf;obtain ⟨s1, _, s3, s4, s5, _, _, s8⟩ := hI.same;have hro : (A.minored (fun n => decide (n ∈ S))).roots = A.roots := by
  unfold St.roots;show (A.minorTo _ A.sorted).queue ++ (A.minorTo _ A.sorted).handles.map (·.2) = _;rw [s5, s3]
 have hre : (A.minored (fun n => decide (n ∈ S))).reg = A.reg := s4;have hN : (A.minored (fun n => decide (n ∈ S))).memN = [] := hI.memN;have hTl : (A.minored (fun n => decide (n ∈ S))).memT.length ≤ A.memT.length + 1001 * A.objs.length := by
  have := hI.memT;rw [sorted_length] at this;exact this
 have hmany := h.many;have hin : ∀ n, (A.objs.lookup n).isSome → (A.isYoung n = true → n ∈ S) → ((A.minored (fun n => decide (n ∈ S))).objs.lookup n).isSome := by
  intro n hn hy;obtain ⟨o, ho⟩ := Option.isSome_iff_exists.1 hn;rw [minored_isSome hf];refine ⟨o, ho, ?_⟩;cases hold : o.old with
  | true => exact .inl rfl
  | false => exact .inr (by simpa using hy (by rw [isYoung_of ho, hold]; rfl))
 refine ⟨h.hk, hm', hmm, ⟨?_, ?_, ?_, by rw [hN]; simp, by omega, Nat.le_trans (minored_length hf) h.fit.many, List.Nodup.sublist (minored_keys hf) h.fit.nodup⟩, ?_, ?_, ?_, ?_, ?_, Nat.le_trans (minored_length hf) h.many, by rw [hN]; simp, by omega, ?_⟩
 · intro n o' ho';obtain ⟨o, ho, hor, e1, e2, e3, e4, e5, e6⟩ := minored_some hf ho';unfold St.mem;rw [e3, if_pos rfl]; exact e5
 · intro n o' ho';obtain ⟨o, ho, hor, e1, e2, _⟩ := minored_some hf ho';rw [e2]; exact h.fit.size n o ho
 · intro n o' ho';obtain ⟨o, ho, hor, e1, e2, e3, e4, _⟩ := minored_some hf ho';rw [e4];exact Nat.le_trans (List.length_filter_le _ _) (h.fit.ents n o ho)
 · intro n o' ho' x hx;obtain ⟨o, ho, hor, e1, e2, e3, e4, e5, e6⟩ := minored_some hf ho';rw [mem_refs, fields_area, e6, ← fields_area] at hx;rcases hx with hx | ⟨y, hy, hk⟩
   · have hxr : x ∈ A.refs o := mem_refs.2 (.inl hx);refine hin x (h.closed n o ho x hxr) fun hyo => ?_;cases hold : o.old with
     | true => exact hS.remd n (hrem.all n o ho hold x hxr hyo) o ho x hxr hyo
     | false =>
       have hnS : n ∈ S := by
        rcases hor with h1 | h1
        · rw [hold] at h1; cases h1
        · simpa using h1
       cases ht : o.table with
       | true =>
         rw [fields_nil ((h.shape n o ho).1 ht)] at hx;simp [refsW] at hx
       | false => exact hS.field n hnS o ho ht x hx hyo
   · rw [e4, List.mem_filter] at hy;obtain ⟨hy1, hy2⟩ := hy;rcases hk with rfl | ⟨hr, rfl⟩
     · exact hy2
     · have hxr : y.val.num ∈ A.refs o := mem_refs.2 (.inr ⟨y, hy1, .inr ⟨hr, rfl⟩⟩);refine hin _ (h.closed n o ho _ hxr) fun hyo => ?_;cases hold : o.old with
       | true => exact hS.remd n (hrem.all n o ho hold _ hxr hyo) o ho _ hxr hyo
       | false =>
         have hnS : n ∈ S := by
          rcases hor with h1 | h1
          · rw [hold] at h1; cases h1
          · simpa using h1
         have ht : o.table = true := by
          cases ht : o.table with
          | true => rfl
          | false => rw [(h.shape n o ho).2 ht] at hy1; cases hy1
         refine hS.entry n hnS o ho ht y hy1 hr ?_ hyo;obtain ⟨ko, hko, hkor⟩ := (minored_isSome (p := fun n => decide (n ∈ S)) hf y.key).1 hy2;rcases hkor with h1 | h1
         · right; rw [isYoung_of hko, h1]; rfl
         · left; simpa using h1
 · intro n hn;rw [hro] at hn;exact hin n (h.roots n hn) fun hy => hS.root n (List.mem_append_left _ hn) hy
 · intro n hn;rw [hre] at hn;exact hin n (h.regs n hn) fun hy => hS.root n (List.mem_append_right _ hn) hy
 · intro n o' ho';obtain ⟨o, ho, hor, e1, e2, e3, e4, _⟩ := minored_some hf ho';rw [e1, e2, e4];refine ⟨(h.shape n o ho).1, fun ht => ?_⟩;rw [(h.shape n o ho).2 ht]; rfl
 · show (A.minorTo _ A.sorted).queue.length + (A.minorTo _ A.sorted).handles.length + (A.minorTo _ A.sorted).reg.length ≤ k;rw [s5, s3, s4]; exact h.big
 · intro n o' ho';obtain ⟨o, ho, _⟩ := minored_some hf ho';have := h.below n o ho;show n < (A.minorTo _ A.sorted).names;rw [s1]; exact this
structure AllOld (A : St) : Prop where
 old : ∀ n o, A.objs.lookup n = some o → o.old = true
 rem : A.rem = []
 memN : A.memN = []
theorem AllOld.remOk (h : AllOld A) : RemOk A := by
 refine ⟨by rw [h.rem]; simp, fun n o ho _ m _ hy => ?_⟩;unfold St.isYoung at hy;cases hm : A.objs.lookup m with
 | none => rw [hm] at hy; cases hy
 | some x => rw [hm] at hy; simp [h.old m x hm] at hy
theorem minored_allOld (hf : Fit A) : AllOld (A.minored p) :=
 ⟨fun _ _ ho' => by obtain ⟨_, _, _, _, _, e3, _⟩ := minored_some hf ho'; exact e3, rfl, (minored_I p hf).memN⟩
theorem settled_allOld (hf : Fit A) : AllOld A.settled :=
 ⟨fun _ _ ho' => by obtain ⟨_, _, _, rfl, _⟩ := settled_some hf ho'; rfl, rfl, (settled_I hf).memN⟩
end Go.Proofs.YtelghmmcbgfjnaaGreat
