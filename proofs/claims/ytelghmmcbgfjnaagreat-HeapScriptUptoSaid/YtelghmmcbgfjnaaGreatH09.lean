/-
  slices.Sort at []int by the shelf's contract; the walk of sorted. (A part of the proof, joined of: Ws, Wt, Wu, Wv, Wx, Wy; made smaller.)
-/
import Derived.Test.YtelghmmcbgfjnaaGreatH08
import Derived.Ground.NamesProg
import Derived.Test.YtelghmmcbgfjnaaGreatLay
import Derived.Shelf.Sort.Plain
import Derived.Sort.OwnSortedInts
import Derived.Laws.MakeOwn
set_option maxHeartbeats 2000000
set_option maxRecDepth 100000
namespace Go.Proofs.YtelghmmcbgfjnaaGreat
variable {A B : St} {S T l : List Int} {b cb j k m ms pb wb wp : Nat} {g gr : Gh} {n : Int} {o o' : Ob} {r : Role} {w w' wr : World}
open Go.RowKit Go.Shelf
def sortI (l : List Int) : List Int := l.mergeSort fun x y => decide (x ≤ y)
theorem sortI_perm (l : List Int) : (sortI l).Perm l := List.mergeSort_perm l _
theorem sortI_of_perm {l' : List Int} (h : l.Perm l') : sortI l = sortI l' := by
 have tr : ∀ a b c : Int, decide (a ≤ b) = true → decide (b ≤ c) = true → decide (a ≤ c) = true := fun a b c h1 h2 => by simp only [decide_eq_true_eq] at *; exact Int.le_trans h1 h2
 have to : ∀ a b : Int, (decide (a ≤ b) || decide (b ≤ a)) = true := fun a b => by simp only [Bool.or_eq_true, decide_eq_true_eq]; exact Int.le_total a b
 refine List.Perm.eq_of_pairwise (le := fun a b => decide (a ≤ b) = true) (fun a b _ _ h1 h2 => ?_) (List.pairwise_mergeSort tr to l) (List.pairwise_mergeSort tr to l') (((List.mergeSort_perm l _).trans h).trans (List.mergeSort_perm l' _).symm);simp only [decide_eq_true_eq] at h1 h2;exact Int.le_antisymm h1 h2
theorem sort_any {c : Nat} {xs : List Int} (hrow : Row w 3 1 (.slice (some ⟨b, 0, none⟩) xs.length c) xs.length (intCells xs)) (hb : b < w.heap.size) (hl : xs.length ≤ 1000000000000) :
 Calls Tryz.prog 58 #[.slice (some ⟨b, 0, none⟩) xs.length c] w fun e w' => e = .returned (.tuple #[]) ∧ Row w' 3 1 (.slice (some ⟨b, 0, none⟩) xs.length c) (sortI xs).length (intCells (sortI xs)) ∧ Chg (fun x => x = b) w w' := by
 have hsl : (sortI xs).length = xs.length := (sortI_perm xs).length_eq;have hH : Go.Sort.Holds (Value.int .i64) w b 0 xs.toArray := by
  obtain ⟨h1, h2, ⟨h0, a, h3⟩ | ⟨g', cap', cur, h3, h4, h5, h6, h7, h8⟩⟩ := hrow
  · intro j hj; simp at hj; omega
  · simp only [Value.slice.injEq, Option.some.injEq, Addr.mk.injEq] at h3;obtain ⟨⟨rfl, -, -⟩, -, rfl⟩ := h3;exact holds_of_blockI h4 (by simpa [intCells] using h8)
 have h := Any.slices_Sort_int laysSort b 0 c xs w hH hb (by omega);change Calls Tryz.prog 58 _ _ _ at h;refine h.mono ?_;rintro e w' ⟨rfl, n, os, rfl⟩;refine ⟨rfl, ?_, (grownBy_chg (grownBy_sortedI _)).mono fun j _ hj => by simpa using hj.symm⟩;rw [hsl];obtain ⟨h1, h2, ⟨h0, a, h3⟩ | ⟨g', cap', cur, h3, h4, h5, h6, h7, h8⟩⟩ := hrow
 · simp only [Value.slice.injEq] at h3;obtain ⟨rfl, h0, rfl⟩ := h3;rw [h0];refine ⟨by simp [intCells, hsl, h0], by simp, .inl ⟨rfl, _, rfl⟩⟩
 · simp only [Value.slice.injEq, Option.some.injEq, Addr.mk.injEq] at h3;obtain ⟨⟨rfl, -, -⟩, -, rfl⟩ := h3;exact Row.of_owns (ownsRow_sortedI (base := 0) hsl (Nat.zero_le _) h4 h5 h6 h7) h2
theorem perm_delO {k : Int} {o : Ob} : ∀ {l : List (Int × Ob)}, (l.map (·.1)).Nodup → (k, o) ∈ l → (l.map (·.1)).Perm (k :: (delO l k).map (·.1))
 | [], _, h => by cases h
 | p :: l, hn, h => by
   simp only [List.map_cons, List.nodup_cons] at hn;rcases List.mem_cons.1 h with rfl | h
   · have e : delO ((k, o) :: l) k = l := by
      simp only [delO, List.filter_cons, ne_eq, not_true_eq_false, decide_false, Bool.false_eq_true, if_false];rw [List.filter_eq_self];intro p hp;simp only [decide_not, Bool.not_eq_true', decide_eq_false_iff_not];intro e;exact hn.1 (List.mem_map.2 ⟨p, hp, e⟩)
     rw [e]; exact List.Perm.refl _
   · have hne : p.1 ≠ k := fun e => hn.1 (List.mem_map.2 ⟨_, h, e.symm⟩);have e : delO (p :: l) k = p :: delO l k := by simp [delO, hne]
     rw [e, List.map_cons, List.map_cons];exact ((perm_delO hn.2 h).cons p.1).trans (List.Perm.swap _ _ _)
theorem exec_makeSlice {P : Program} {o : Oper} {a : Act} {T : TypeId} {x y : Operand} (hop : o.op = Op.makeSlice T x y) {v : Value} 
 (hrun : (Instr.makeSlice T (a.eval x) (a.eval y)).run P w = .ok v w') : (execOp a.eval o).run P w = .ok (.value v) w' := by
 simp only [execOp, hop, Sem.run_bind, Sem.run_pure, Result.andThen_ok, hrun]
def St.sorted (A : St) : List Int := sortI (A.objs.map (·.1))
theorem sorted_any (hR : Rep w g A) (hl : A.objs.length ≤ 1000000000000) :
 Calls Tryz.prog 78 #[.pointer (some ⟨g.hb, 0, none⟩)] w fun e w' => ∃ v, e = .returned v ∧ Row w' 3 1 v A.sorted.length (intCells A.sorted) ∧ Chg (fun _ => False) w w' ∧ (∀ b, rowBlk v = some b → w.heap.size ≤ b) := by
 refine ret_k fun K hK => ?_;obtain ⟨i0, hi, hz0, hz1, hz2⟩ := info_parts iInt;obtain ⟨w1, hmk, hown1, hgr1⟩ := run_make_own (P := Tryz.prog) (w := w) 0 23 3 i0 _ 1 uInts hi hz0 hz1 .i64 .i64 A.objs.length (by rw [hz2]; omega) (by unfold maxLen; omega) (Nat.zero_le _);have hC1 : Chg (fun _ => False) w w1 := (grownBy_chg hgr1).mono fun _ _ h => by cases h
 have hrow1 : Row w1 3 1 (.slice (some ⟨w.heap.size, 0, none⟩) 0 A.objs.length) 0 [] := Row.of_owns hown1 (by simp);have hR1 := hR.frame hC1 (fun _ h => h.elim);obtain ⟨o', hrun, hit⟩ := run_range_map (P := Tryz.prog) hR1.mo uMapO;have c0 : w.cell? ⟨g.hb, 0, none⟩ = some (.map (some g.mo)) := hR.c 0;have c01 : w1.cell? ⟨g.hb, 0, none⟩ = some (.map (some g.mo)) := hR1.c 0;have hlen := fun ty => run_len_map' (P := Tryz.prog) hR.mo uMapO ty;have hkl : (kvsO g A).length = A.objs.length := by simp [kvsO]
 rw [hkl] at hlen;have hnod := hR.nodup;have HSt : Hid (Row (w1.alloc o') 3 1 (.slice (some ⟨w.heap.size, 0, none⟩) 0 A.objs.length) 0 [] ∧ IterAt (w1.alloc o') w1.heap.size g.mo (kvsO g A) (kvO g A.objs) ∧ Chg (fun _ => False) w (w1.alloc o') ∧ w.heap.size < w1.heap.size) := by
  have hlt : w.heap.size < w1.heap.size := by
   rcases hown1.2 with ⟨h, _⟩ | ⟨g', cap, cur, hv, _, hb, _⟩
   · cases h
   · cases hv; exact lt_of_block hb
  exact ⟨hrow1.same fun b hb => by rw [heap_alloc, if_neg (by have := hrow1.lt hb; omega)], hit, hC1.alloc _, hlt⟩
 have HR := Lib.hid hR;have HK := Lib.hid hK;have HN := Lib.hid hnod;clear hR hK hnod hit hrow1 hown1 hgr1 hC1 hR1 hi hz0 hz1 hz2 hkl
 go_enter Tryz.func78, Tryz.ntmps78
 go_wp2_with (first | (at_builtin; go_must (refine wpList_val rfl (exec_len rfl (by exact hlen _)) ?_)) | (at_make; go_must (refine wpList_val rfl (exec_makeSlice rfl (by exact hmk)) ?_)) | (at_range; go_must (refine wpList_val rfl (exec_range rfl hrun) ?_)))
 go_frame
 go_loopg [3] (A.objs.length) (fun num v3 wr => ∃ (left : List (Int × Ob)) (ks : List Int) (b c : Nat), v3 = .slice (some ⟨b, 0, none⟩) ks.length c ∧ Row wr 3 1 (.slice (some ⟨b, 0, none⟩) ks.length c) ks.length (intCells ks) ∧ IterAt wr w1.heap.size g.mo (kvsO g A) (kvO g left) ∧ left.Sublist A.objs ∧
  (ks ++ left.map (·.1)).Perm (A.objs.map (·.1)) ∧ Chg (fun _ => False) w wr ∧ w.heap.size ≤ b ∧ b < wr.heap.size ∧ b ≠ w1.heap.size ∧ left.length ≤ num)
 case atStart =>
  obtain ⟨h1, h2, h3, h4⟩ := HSt.out;exact ⟨A.objs, [], w.heap.size, A.objs.length, rfl, by simpa [intCells] using h1, h2, List.Sublist.refl _, List.Perm.refl _, h3, Nat.le_refl _, by simp; omega, by omega, Nat.le_refl _⟩
 case round =>
  obtain ⟨left, ks, b, c, rfl, hrow, hit, hsub, hperm, hC, hbw, hbl, hbn, hnum⟩ := hrel;have hkl : ks.length + left.length = A.objs.length := by have := hperm.length_eq; simpa using this
  have hw1 := HSt.out.2.2.2;clear HSt;cases left with
  | nil =>
    have hrun2 := fun ty => run_next_over (P := Tryz.prog) hit ty;have hso : sortI ks = A.sorted := sortI_of_perm (by simpa using hperm);have hs := sort_any hrow hbl (by simp at hkl; omega);rw [hso] at hs;have hln : A.sorted.length = ks.length := by rw [← hso]; exact (sortI_perm ks).length_eq
    have HSo : Hid (Calls Tryz.prog 58 #[.slice (some ⟨b, 0, none⟩) ks.length c] wr fun e w' => e = .returned (.tuple #[]) ∧ Post K (.returned (.slice (some ⟨b, 0, none⟩) ks.length c)) w') := by
     refine hs.mono ?_;rintro e w' ⟨rfl, h1, h2⟩;refine ⟨rfl, HK.out _ _ ⟨_, rfl, by rw [hln] at h1 ⊢; exact h1, hC.trans h2 (fun j hj e => absurd hbw (by omega)), fun b' hb' => ?_⟩⟩;cases c with
     | zero => simp [rowBlk] at hb'
     | succ c => simp [rowBlk] at hb'; omega
    clear hs hso hln hrow hit hperm hC
    go_wp2_with (first | (at_next; go_must (refine wpList_val rfl (exec_next rfl (by exact hrun2 _)) ?_)) | (go_at_call 58; refine HSo.out.mono ?_; rintro e w5 ⟨rfl, hPost⟩))
    go_ret;exact hPost
  | cons p left =>
    obtain ⟨k, o, w2, hin, hnext, hit2, hent, hC2⟩ := iterO_more (P := Tryz.prog) hit (by simp);have hnd := kvO_nodup hit.nodup;have hd := length_delO hnd hin;have hpos : 1 ≤ gk := by simp only [List.length_cons] at hnum; omega
    have hrow2 : Row w2 3 1 (.slice (some ⟨b, 0, none⟩) ks.length c) ks.length (intCells ks) := hrow.same fun b' hb => hC2.block b' (hrow.lt hb) (by
     cases c with
     | zero => simp [rowBlk] at hb
     | succ c => simp [rowBlk] at hb; omega)
    obtain ⟨a3, c3, w3, happ, hrow3, hC3, hloc3⟩ := app1 hrow2 k (by omega);obtain ⟨b3, rfl, hb3, _⟩ := (show Row w3 3 1 (.slice a3 (ks.length + 1) c3) (ks.length + 1) (intCells (ks ++ [k])) by simpa using hrow3).cells (by omega);have hrbb : ∀ b', rowBlk (.slice (some ⟨b, 0, none⟩) ks.length c) = some b' → b' = b := fun b' h => by
     cases c with
     | zero => simp [rowBlk] at h
     | succ c => simp [rowBlk] at h; omega
    have hs2 : w1.heap.size < w2.heap.size := by
     obtain ⟨_, es, clock, seen, g1, g2, g3⟩ := hit2;exact lt_of_block g2
    have hmo : g.mo < w.heap.size := HR.out.lt _ (by rw [HR.out.omo]; rfl);have hsz := hC.size;have hsz2 := hC2.size;have hit3 : IterAt w3 w1.heap.size g.mo (kvsO g A) (kvO g (delO (p :: left) k)) := hit2.same (hC3.block _ hit2.map.lt (fun h => by have := hrbb _ h; omega)) (hC3.block _ hs2 (fun h => by have := hrbb _ h; omega));have HF : Hid (∃ (left' : List (Int × Ob)) (ks' : List Int) (b' c' : Nat), Value.slice (some ⟨b3, 0, none⟩) (ks.length + 1) c3 = .slice (some ⟨b', 0, none⟩) ks'.length c' ∧ Row w3 3 1 (.slice (some ⟨b', 0, none⟩) ks'.length c') ks'.length (intCells ks') ∧ IterAt w3 w1.heap.size g.mo (kvsO g A) (kvO g left') ∧ left'.Sublist A.objs ∧
     (ks' ++ left'.map (·.1)).Perm (A.objs.map (·.1)) ∧ Chg (fun _ => False) w w3 ∧ w.heap.size ≤ b' ∧ b' < w3.heap.size ∧ b' ≠ w1.heap.size ∧ left'.length ≤ gk - 1) := by
     refine ⟨delO (p :: left) k, ks ++ [k], b3, c3, by simp, by simpa using hrow3, hit3, List.filter_sublist.trans hsub, ?_, (hC.trans hC2 (fun j hj h => absurd h (by omega))).trans hC3 (fun j hj h => by have := hrbb _ h; omega), ?_, hrow3.lt hb3, ?_, by omega⟩
     · refine List.Perm.trans ?_ hperm;rw [List.append_assoc];exact List.Perm.append_left ks (by simpa using (perm_delO hnd hin).symm)
     · rcases hloc3 _ hb3 with h | h
       · have := hrbb _ h; omega
       · omega
     · rcases hloc3 _ hb3 with h | h
       · have := hrbb _ h; omega
       · omega
    clear hrow hit hperm hC hrow2 hrow3 hit2 hit3 hin hC2 hC3 hloc3 hrbb hnd hd hsub hs2 hmo hsz hsz2 hw1
    go_wp2_with (first | (at_next; go_must (refine wpList_val rfl (exec_next rfl (by exact hnext)) ?_)) | (at_builtin; go_must (refine wpList_val rfl (exec_append rfl happ) ?_)))
    go_roundg (gk - 1)
    case measure => omega
    case rel => exact HF.out
open Go.RowKit
def unl (own : Nat → Option Role) (r : Role) (b : Nat) : Option Role := if own b = some r then none else own b
theorem unl_of {own : Nat → Option Role} (h : (unl own r b).isSome) : unl own r b = own b := by
 unfold unl at h ⊢;by_cases e : own b = some r
 · rw [if_pos e] at h; cases h
 · rw [if_neg e]
theorem unl_none {own : Nat → Option Role} (h : own b = none ∨ own b = some r) : unl own r b = none := by
 unfold unl;by_cases e : own b = some r
 · rw [if_pos e]
 · rw [if_neg e];rcases h with h | h
   · exact h
   · exact absurd h e
theorem Rep.unlabel (hR : Rep w g A) (r : Role) (h : (r = .memN ∧ rowBlk g.vN = none) ∨ (r = .memT ∧ rowBlk g.vT = none)) : Rep w { g with own := unl g.own r } A := by
 have keep : ∀ b x, g.own b = some x → x ≠ r → unl g.own r b = some x := fun b x hb hx => by
  unfold unl;rw [if_neg (by rw [hb]; simpa using hx), hb]
 have rw' : ∀ {x e sz v n xs}, RowAt w g x e sz v n xs → (x ≠ r ∨ rowBlk v = none) → RowAt w { g with own := unl g.own r } x e sz v n xs := fun k hx => ⟨k.row, fun b hb => by
  rcases hx with hx | hx
  · exact keep b _ (k.own b hb) hx
  · rw [hx] at hb; cases hb⟩
 have hne : ∀ x : Role, x ≠ .memN → x ≠ .memT → x ≠ r := fun x h1 h2 e => by
  rcases h with ⟨h, _⟩ | ⟨h, _⟩
  · exact h1 (e.trans h)
  · exact h2 (e.trans h)
 exact { lt := fun b hb => hR.lt b (by have hb' : (unl g.own r b).isSome := hb; rw [unl_of hb'] at hb'; exact hb'),
         ohs := keep _ _ hR.ohs (hne _ (by simp) (by simp)), omo := keep _ _ hR.omo (hne _ (by simp) (by simp)), omh := keep _ _ hR.omh (hne _ (by simp) (by simp)), omr := keep _ _ hR.omr (hne _ (by simp) (by simp)), olb := keep _ _ hR.olb (hne _ (by simp) (by simp)),
         hs := hR.hs, mo := hR.mo, mh := hR.mh, mr := hR.mr, lb := hR.lb,
         rF := rw' hR.rF (.inl (hne _ (by simp) (by simp))),
         rN := rw' hR.rN (by
          rcases h with ⟨h1, h2⟩ | ⟨h1, _⟩
          · exact .inr h2
          · exact .inl (by rw [h1]; simp)),
         rT := rw' hR.rT (by
          rcases h with ⟨h1, _⟩ | ⟨h1, h2⟩
          · exact .inl (by rw [h1]; simp)
          · exact .inr h2),
         rR := rw' hR.rR (.inl (hne _ (by simp) (by simp))), rQ := rw' hR.rQ (.inl (hne _ (by simp) (by simp))),
         obj := fun n o hm => let k := hR.obj n o hm; ⟨keep _ _ k.own (hne _ (by simp) (by simp)), k.blk, k.row, fun b hb => keep _ _ (k.rown b hb) (hne _ (by simp) (by simp))⟩ }
theorem Rep.emptied (hR : Rep w g A) (hC : Chg (fun b => b = g.hb) w w') (hhs : w'.heap[g.hb]? = some (.cells (((hsCells g A).setIfInBounds 2 (.slice none 0 0)).setIfInBounds 3 (.slice none 0 0)) 74 (0, 0))) :
 ∃ g', Rep w' g' { A with memN := [], memT := [] } ∧ Step w g A w' g' ∧ g'.ob = g.ob ∧ (∀ b, g.own b = none ∨ g.own b = some .memN ∨ g.own b = some .memT → g'.own b = none) := by
 have hCR : ChgR g (fun r => r = .hs ∨ r = .memN ∨ r = .memT) w w' := hC.mono fun b _ hb r hr => by rw [hb, hR.ohs] at hr; left; simpa using hr.symm
 have h1 : Rep w' { g with vN := .slice none 0 0, vT := .slice none 0 0 } { A with memN := [], memT := [] } :=
  hR.move hCR (fun b hb => Nat.lt_of_lt_of_le (hR.lt b hb) hC.size) (hs := .inr (by rw [hhs]; rfl)) (mo := .inl ⟨by simp, rfl⟩) (mh := .inl ⟨by simp, rfl⟩) (mr := .inl ⟨by simp, rfl⟩)
   (rN := .inr ⟨Row.nil _ _ _, fun b hb => by simp [rowBlk] at hb⟩) (rT := .inr ⟨Row.nil _ _ _, fun b hb => by simp [rowBlk] at hb⟩) (obj := fun n o h => .inl ⟨h, rfl, rfl, by simp, by simp⟩)
 have h2 := (h1.unlabel .memN (.inl ⟨rfl, rfl⟩)).unlabel .memT (.inr ⟨rfl, rfl⟩);refine ⟨_, h2, ⟨hC.mono fun b _ hb => by rw [hb, hR.ohs]; rfl, ?_, rfl, rfl, rfl, rfl, rfl, fun _ _ => rfl⟩, rfl, ?_⟩
 · intro b _ hb;have hb' : (unl (unl g.own .memN) .memT b).isSome := hb;have e := unl_of hb';rw [e] at hb';show unl (unl g.own .memN) .memT b = g.own b;rw [e, unl_of hb']
 · intro b hb;show unl (unl g.own .memN) .memT b = none;rcases hb with hb | hb | hb
   · exact unl_none (.inl (unl_none (.inl hb)))
   · exact unl_none (.inl (unl_none (.inr hb)))
   · refine unl_none (.inr ?_);unfold unl;rw [if_neg (by rw [hb]; simp), hb]
def settleStep (A B : St) (n : Int) : St := match B.objs.lookup n with
 | some o => B.moved n o true (((A.mem o.old).drop o.at_).take (1 + o.size))
 | none => B
def St.settleTo (A : St) (l : List Int) : St := l.foldl (settleStep A) { A with memN := [], memT := [] }
def St.settled (A : St) : St := { A.settleTo A.sorted with rem := [] }
theorem lookup_setOb (B : St) (n m : Int) (o : Ob) (h : m ≠ n) : (B.setOb n o).objs.lookup m = B.objs.lookup m := by
 unfold St.setOb;simp only
 induction B.objs with
 | nil => rfl
 | cons p l ih =>
   simp only [List.map_cons];by_cases e : p.1 = n
   · rw [if_pos e];have h1 : (m == n) = false := by simpa using h
     have h2 : (m == p.1) = false := by rw [e]; exact h1
     simp [List.lookup, h1, h2, ih]
   · rw [if_neg e];obtain ⟨a, x⟩ := p;simp only [List.lookup];cases m == a
     · exact ih
     · rfl
theorem lookup_setOb_self (B : St) (n : Int) (o x : Ob) (h : B.objs.lookup n = some x) : (B.setOb n o).objs.lookup n = some o := by
 unfold St.setOb;simp only
 revert h
 induction B.objs with
 | nil => intro h; simp at h
 | cons p l ih =>
   intro h;simp only [List.map_cons];by_cases e : p.1 = n
   · rw [if_pos e]; simp [List.lookup]
   · rw [if_neg e];obtain ⟨a, y⟩ := p;have h1 : (n == a) = false := by simp only [beq_eq_false_iff_ne, ne_eq]; exact fun h => e h.symm
     simp only [List.lookup, h1] at h ⊢;exact ih h
theorem settleStep_lookup (A B : St) (n m : Int) (h : m ≠ n) : (settleStep A B n).objs.lookup m = B.objs.lookup m := by
 unfold settleStep
 split
 · unfold St.moved;rw [lookup_setOb _ _ _ _ h, setMem_objs]
 · rfl
theorem settleTo_append (A : St) (l : List Int) (n : Int) : A.settleTo (l ++ [n]) = settleStep A (A.settleTo l) n := by simp [St.settleTo]
theorem settle_lookup (A : St) (m : Int) : ∀ (l : List Int) (B : St), m ∉ l → (l.foldl (settleStep A) B).objs.lookup m = B.objs.lookup m
 | [], _, _ => rfl
 | n :: l, B, h => by
   rw [List.foldl_cons, settle_lookup A m l _ (fun hm => h (List.mem_cons_of_mem _ hm)), settleStep_lookup _ _ _ _ (fun e => h (by simp [e]))]
theorem settleTo_lookup (A : St) (l : List Int) (m : Int) (h : m ∉ l) : (A.settleTo l).objs.lookup m = A.objs.lookup m := settle_lookup A m l _ h
theorem moved_memT_len (B : St) (n : Int) (o : Ob) (l : List Wd) : (B.moved n o true l).memT.length = B.memT.length + l.length := by simp [St.moved, St.setOb, St.setMem, St.mem]
theorem settleStep_names (A B : St) (n : Int) : (settleStep A B n).names = B.names := by
 unfold settleStep
 split <;> rfl
theorem settle_names (A : St) : ∀ (l : List Int) (B : St), (l.foldl (settleStep A) B).names = B.names
 | [], _ => rfl
 | n :: l, B => by rw [List.foldl_cons, settle_names A l, settleStep_names]
theorem settleTo_names (A : St) (l : List Int) : (A.settleTo l).names = A.names := settle_names A l _
structure SeL (w : World) (g : Gh) (A : St) (w1 : World) (H : Nat → Prop) (l : List Int) (wr : World) (gr : Gh) : Prop where
 rep : Rep wr gr (A.settleTo l)
 step : Step w g A wr gr
 hold : ∀ b, H b → wr.heap[b]? = w1.heap[b]? ∧ gr.own b = none ∧ b < w1.heap.size
 mem : (A.settleTo l).memT.length ≤ l.length * 1001
 low : w1.heap.size ≤ wr.heap.size
theorem sorted_nodup (h : (A.objs.map (·.1)).Nodup) : A.sorted.Nodup := (sortI_perm _).nodup_iff.2 h
theorem mem_sorted : n ∈ A.sorted ↔ n ∈ A.objs.map (·.1) := (sortI_perm _).mem_iff
theorem sorted_length (A : St) : A.sorted.length = A.objs.length := by have := (sortI_perm (A.objs.map (·.1))).length_eq; simpa [St.sorted] using this
theorem not_mem_take (h : l.Nodup) (hj : j < l.length) : l[j] ∉ l.take j := by
 intro hm;obtain ⟨i, hi, e⟩ := List.mem_take_iff_getElem.1 hm;have := (List.nodup_iff_pairwise_ne.1 h);have h2 := List.pairwise_iff_getElem.1 this i j (by omega) hj (by omega);exact h2 e
theorem SeL.round {w1 : World} {H : Nat → Prop} (h : SeL w g A w1 H (A.sorted.take j) wr gr) (hf : Fit A) (hj : j < A.sorted.length) (hmany : A.objs.length ≤ 100000000)
 (hHN : ∀ b, rowBlk g.vN = some b → H b) (hHT : ∀ b, rowBlk g.vT = some b → H b)
 (hN : Row w1 113 2 g.vN A.memN.length (wdCells A.memN)) (hT : Row w1 113 2 g.vT A.memT.length (wdCells A.memT)) :
 ∃ old : Bool, wr.cell? ⟨g.hb, 0, none⟩ = some (.map (some g.mo)) ∧
   (Instr.lookup 64 (.map (some g.mo)) (.int .i64 (A.sorted[j])) false).run Tryz.prog wr = .ok (.pointer (some ⟨gr.ob (A.sorted[j]), 0, none⟩)) wr ∧
   wr.cell? ⟨gr.ob (A.sorted[j]), 2, none⟩ = some (.bool old) ∧
   Calls Tryz.prog 79 #[.pointer (some ⟨g.hb, 0, none⟩), .pointer (some ⟨gr.ob (A.sorted[j]), 0, none⟩), (if old then g.vT else g.vN), .int .i64 1] wr fun e w' =>
    e = .returned (.tuple #[]) ∧ Hid (∃ g', SeL w g A w1 H (A.sorted.take (j + 1)) w' g') := by
 have hnd := sorted_nodup hf.nodup;have hnin := not_mem_take hnd hj;obtain ⟨⟨n0, o⟩, hmem, hn0⟩ := List.mem_map.1 (mem_sorted.1 (List.getElem_mem hj));simp only at hn0;have hloA : A.objs.lookup (A.sorted[j]) = some o := lookup_of_mem hf.nodup (hn0 ▸ hmem);have hlo : (A.settleTo (A.sorted.take j)).objs.lookup (A.sorted[j]) = some o := by rw [settleTo_lookup _ _ _ hnin]; exact hloA
 have hhb : gr.hb = g.hb := h.step.hb;have hmo : gr.mo = g.mo := h.step.mo;have hlk := lookO_some h.rep hlo;rw [hmo] at hlk;have c0 := h.rep.c 0;rw [hhb] at c0;have hin := hf.inn _ _ hloA;have hsz := hf.size _ _ hloA;have hmN := hf.memN;have hmT := hf.memT;have hml : (A.mem o.old).length ≤ 100000000000 := by cases o.old <;> assumption
 have hsl := sorted_length A;have hjl : (A.sorted.take j).length = j := by rw [List.length_take]; omega
 have hmemT := h.mem;rw [hjl] at hmemT;have hv : Row wr 113 2 (if o.old then g.vT else g.vN) (A.mem o.old).length (wdCells (A.mem o.old)) := by
  cases o.old
  · exact hN.same fun b hb => (h.hold b (hHN b hb)).1
  · exact hT.same fun b hb => (h.hold b (hHT b hb)).1
 have hvn : ∀ b, rowBlk (if o.old then g.vT else g.vN) = some b → gr.own b = none := fun b hb => by
  cases ho : o.old
  · rw [ho] at hb; exact (h.hold b (hHN b hb)).2.1
  · rw [ho] at hb; exact (h.hold b (hHT b hb)).2.1
 have hmv := move_any h.rep hlo true hv hvn hin (by omega) (by
  have e : ((A.settleTo (A.sorted.take j)).mem true).length = (A.settleTo (A.sorted.take j)).memT.length := rfl;rw [e]; omega)
 rw [hhb] at hmv;refine ⟨o.old, by rw [c0]; simp [hsCells, hmo], hlk, (h.rep.obj _ o (mem_of_lookup hlo)).c 2, ?_⟩;refine hmv.mono ?_;rintro e w' ⟨rfl, g', hR', hS'⟩;have hst : A.settleTo (A.sorted.take (j + 1)) = (A.settleTo (A.sorted.take j)).moved (A.sorted[j]) o true (((A.mem o.old).drop o.at_).take (1 + o.size)) := by
  rw [List.take_succ_eq_append_getElem hj, settleTo_append];simp only [settleStep, hlo]
 refine ⟨rfl, g', by rw [hst]; exact hR', h.step.trans hS' (by rw [settleTo_names]; exact Int.le_refl _), ?_, ?_, Nat.le_trans h.low hS'.chg.size⟩
 · intro b hb;obtain ⟨h1, h2, h3⟩ := h.hold b hb;have hlt : b < wr.heap.size := Nat.lt_of_lt_of_le h3 h.low;have := hS'.at (Array.getElem?_eq_getElem hlt) h2;exact ⟨by rw [this.1, ← h1, Array.getElem?_eq_getElem hlt], this.2, h3⟩
 · rw [hst, moved_memT_len, List.length_take, List.length_take, List.length_drop];omega
theorem settle_any (hR : Rep w g A) (hf : Fit A) (hmany : A.objs.length ≤ 100000000) :
 Calls Tryz.prog 84 #[.pointer (some ⟨g.hb, 0, none⟩)] w fun e w' => e = .returned (.tuple #[]) ∧ ∃ g', Rep w' g' A.settled ∧ Step w g A w' g' := by
 obtain ⟨na, nc, hnv, _, _, _⟩ := hR.rN.row.slice;obtain ⟨ta, tc, htv, _, _, _⟩ := hR.rT.row.slice;have c2 : w.cell? ⟨g.hb, 2, none⟩ = some (.slice na A.memN.length nc) := by rw [← hnv]; exact hR.c 2
 have c3 : w.cell? ⟨g.hb, 3, none⟩ = some (.slice ta A.memT.length tc) := by rw [← htv]; exact hR.c 3
 have f2 : w.frozen? ⟨g.hb, 2, none⟩ = false := freeAt hR.hs 2;have f3 : w.frozen? ⟨g.hb, 3, none⟩ = false := freeAt hR.hs 3;have hlt : g.hb < w.heap.size := hR.lt _ (by rw [hR.ohs]; rfl);refine ret_k fun K hK => ?_;obtain ⟨w1, hw1⟩ : ∃ w1, w1 = ((w.setCell ⟨g.hb, 2, none⟩ (.slice none 0 0)).setCell ⟨g.hb, 3, none⟩ (.slice none 0 0)).alloc (.cells #[.slice na A.memN.length nc, .slice ta A.memT.length tc] 66) := ⟨_, rfl⟩;have hse : ((w.setCell ⟨g.hb, 2, none⟩ (.slice none 0 0)).setCell ⟨g.hb, 3, none⟩ (.slice none 0 0)).heap.size = w.heap.size := by simp
 have hC1 : Chg (fun b => b = g.hb) w w1 := by
  rw [hw1];exact (((Chg.refl (fun b => b = g.hb) w).setCell (p := ⟨g.hb, 2, none⟩) (fun _ => rfl) _).setCell (p := ⟨g.hb, 3, none⟩) (fun _ => rfl) _).alloc _
 have hhs1 : w1.heap[g.hb]? = some (.cells (((hsCells g A).setIfInBounds 2 (.slice none 0 0)).setIfInBounds 3 (.slice none 0 0)) 74 (0, 0)) := by
  rw [hw1];exact heap_alloc_old (heap_setCell (heap_setCell hR.hs 2 _) 3 _) _
 have hfb : w1.heap[w.heap.size]? = some (.cells #[.slice na A.memN.length nc, .slice ta A.memT.length tc] 66 (0, 0)) := by
  rw [hw1];have := heap_alloc_new ((w.setCell ⟨g.hb, 2, none⟩ (.slice none 0 0)).setCell ⟨g.hb, 3, none⟩ (.slice none 0 0)) (.cells #[.slice na A.memN.length nc, .slice ta A.memT.length tc] 66);rw [hse] at this;exact this
 obtain ⟨g1, hR1, hS1, hob1, hun1⟩ := hR.emptied hC1 hhs1;have hso := sorted_any hR1 (by show A.objs.length ≤ _; omega);rw [hS1.hb] at hso;have hNn : ∀ b, rowBlk g.vN = some b → g1.own b = none ∧ b < w.heap.size ∧ b ≠ g.hb := fun b hb => ⟨hun1 b (.inr (.inl (hR.rN.own b hb))), hR.rN.row.lt hb, fun e => by have := hR.rN.own b hb; rw [e, hR.ohs] at this; cases this⟩;have hTn : ∀ b, rowBlk g.vT = some b → g1.own b = none ∧ b < w.heap.size ∧ b ≠ g.hb := fun b hb => ⟨hun1 b (.inr (.inr (hR.rT.own b hb))), hR.rT.row.lt hb, fun e => by have := hR.rT.own b hb; rw [e, hR.ohs] at this; cases this⟩
 have hso2 : Calls Tryz.prog 78 #[.pointer (some ⟨g.hb, 0, none⟩)] w1 fun e w2 => ∃ (sa : Option Addr) (sc : Nat) (H : Nat → Prop), e = .returned (.slice sa A.sorted.length sc) ∧
  Hid (SeL w g A w2 H (A.sorted.take 0) w2 g1 ∧ (∀ b, rowBlk g.vN = some b → H b) ∧ (∀ b, rowBlk g.vT = some b → H b) ∧ Row w2 113 2 g.vN A.memN.length (wdCells A.memN) ∧ Row w2 113 2 g.vT A.memT.length (wdCells A.memT) ∧
   H w.heap.size ∧ w2.heap[w.heap.size]? = some (.cells #[.slice na A.memN.length nc, .slice ta A.memT.length tc] 66 (0, 0)) ∧ (∀ b, rowBlk (.slice sa A.sorted.length sc) = some b → H b) ∧ Row w2 3 1 (.slice sa A.sorted.length sc) A.sorted.length (intCells A.sorted)) := by
  refine hso.mono ?_;rintro e w2 ⟨v, rfl, hrow, hC2, hfr⟩;have hrow' : Row w2 3 1 v A.sorted.length (intCells A.sorted) := hrow;obtain ⟨sa, sc, rfl, _, _, _⟩ := hrow'.slice;have hs1 : w.heap.size < w1.heap.size := lt_of_block hfb;refine ⟨sa, sc, fun b => b = w.heap.size ∨ rowBlk g.vN = some b ∨ rowBlk g.vT = some b ∨ rowBlk (.slice sa A.sorted.length sc) = some b, rfl, ⟨?_, ?_, ?_, ?_, Nat.le_refl _⟩, fun b hb => .inr (.inl hb), fun b hb => .inr (.inr (.inl hb)), ?_, ?_, .inl rfl, hC2.at hfb (fun h => h), fun b hb => .inr (.inr (.inr hb)), hrow'⟩
  · exact hR1.frame hC2 (fun _ h => h.elim)
  · exact hS1.trans (A' := A) ⟨hC2.mono fun _ _ h => h.elim, fun _ _ _ => rfl, rfl, rfl, rfl, rfl, rfl, fun _ _ => rfl⟩ (Int.le_refl _)
  · intro b hb;refine ⟨rfl, ?_, ?_⟩
    · rcases hb with rfl | hb | hb | hb
      · exact hun1 _ (.inl (hR.none_of_ge (Nat.le_refl _)))
      · exact (hNn b hb).1
      · exact (hTn b hb).1
      · exact hR1.none_of_ge (hfr b hb)
    · rcases hb with rfl | hb | hb | hb
      · exact Nat.lt_of_lt_of_le hs1 hC2.size
      · exact Nat.lt_of_lt_of_le (hNn b hb).2.1 (Nat.le_trans hC1.size hC2.size)
      · exact Nat.lt_of_lt_of_le (hTn b hb).2.1 (Nat.le_trans hC1.size hC2.size)
      · exact hrow.lt hb
  · simp [St.settleTo]
  · exact hR.rN.row.same fun b hb => by rw [hC2.block b (Nat.lt_of_lt_of_le (hNn b hb).2.1 hC1.size) (fun h => h), hC1.block b (hNn b hb).2.1 (hNn b hb).2.2]
  · exact hR.rT.row.same fun b hb => by rw [hC2.block b (Nat.lt_of_lt_of_le (hTn b hb).2.1 hC1.size) (fun h => h), hC1.block b (hTn b hb).2.1 (hTn b hb).2.2]
 have HSo := Lib.hid hso2;have HK := Lib.hid hK;have HF := Lib.hid hf;have hsl := sorted_length A;clear hso2 hso hK hf hR hR1 hS1 hob1 hun1 hNn hTn hC1 hhs1 hfb;subst hw1;clear hse
 go_enter Tryz.func84, Tryz.ntmps84
 go_wp2_with (go_at_call 78; refine HSo.out.mono ?_; rintro e w2 ⟨sa, sc, H, rfl, HI⟩)
 clear HSo
 go_loopw [17] (fun i wr => ∃ (j : Nat) (gr : Gh), j ≤ A.sorted.length ∧ i = .int .i64 j ∧ SeL w g A w2 H (A.sorted.take j) wr gr) (fun i _ => A.sorted.length - (intOf i).toNat)
 case atStart => exact ⟨0, g1, Nat.zero_le _, rfl, HI.out.1⟩
 case round =>
  obtain ⟨j, gr, hj, rfl, hI⟩ := hrel;by_cases hlt2 : j < A.sorted.length
  · obtain ⟨-, hHN, hHT, hN, hT, hHf, hfb, hHs, hrow⟩ := HI.out;obtain ⟨old, c0, hlk, co, hmv⟩ := hI.round HF.out hlt2 hmany hHN hHT hN hT;obtain ⟨sb, rfl, cs⟩ : ∃ sb, sa = some ⟨sb, 0, none⟩ ∧ wr.cell? ⟨sb, j, none⟩ = some (.int .i64 (A.sorted[j])) := by
     have hrow2 : Row wr 3 1 (.slice sa A.sorted.length sc) A.sorted.length (intCells A.sorted) := hrow.same fun b hb => (hI.hold b (hHs b hb)).1;obtain ⟨sb, h1, _, h2⟩ := hrow2.cells (by omega);exact ⟨sb, h1, h2 _ _ (by simp [intCells, hlt2])⟩
    have hfb2 : wr.heap[w.heap.size]? = some (.cells #[.slice na A.memN.length nc, .slice ta A.memT.length tc] 66 (0, 0)) := by rw [(hI.hold _ hHf).1]; exact hfb
    have fb0 : wr.cell? ⟨w.heap.size, 0, none⟩ = some (.slice na A.memN.length nc) := cellAt hfb2 0;have fb1 : wr.cell? ⟨w.heap.size, 1, none⟩ = some (.slice ta A.memT.length tc) := cellAt hfb2 1;have hsp := space_any (gr.ob (A.sorted[j])) old wr co;have hvv : (if old then g.vT else g.vN) = (if old then .slice ta A.memT.length tc else .slice na A.memN.length nc) := by rw [hnv, htv]
    rw [hvv] at hmv;have HMv := Lib.hid hmv;have HSp := Lib.hid hsp;clear hmv hsp hI hHN hHT hN hT hHf hfb hHs hrow hfb2 hvv hnv htv c2 c3 f2 f3;generalize gr.ob (A.sorted[j]) = okb at *;generalize A.sorted[j] = nn at *;cases old
    all_goals
     simp only [if_true, if_false, Bool.false_eq_true] at HMv HSp
     go_wp2_with (first | (go_at_call 89; refine HSp.out.mono ?_; rintro e w3 ⟨rfl, rfl⟩) | (go_at_call 79; refine HMv.out.mono ?_; rintro e w4 ⟨rfl, HI4⟩))
     go_roundw
     case rel =>
      obtain ⟨g', hI4⟩ := HI4.out;exact ⟨j + 1, g', by omega, by go_num, hI4⟩
     case measure => simp [intOf]; omega
  · have hje : j = A.sorted.length := by omega
    subst hje;have hrep := hI.rep;rw [List.take_length] at hrep;have hhb : gr.hb = g.hb := hI.step.hb;have hmr : gr.mr = g.mr := hI.step.mr;have c8 : wr.cell? ⟨g.hb, 8, none⟩ = some (.map (some g.mr)) := by rw [← hhb, hrep.c 8]; simp [hsCells, hmr]
    have hmrm := hrep.mr;rw [hmr] at hmrm;obtain ⟨o', hrun, hM⟩ := run_clear_map' (P := Tryz.prog) hmrm uMapB 0;have hs := hrep.setRem (l := []) (w' := World.put wr g.mr o') (by rw [hmr]; exact chg_put1 _ _ _) (by rw [hmr]; exact hM);have HFin := Lib.hid (HK.out _ _ ⟨rfl, gr, hs.1, hI.step.trans (A' := A.settleTo A.sorted) hs.2 (by rw [settleTo_names]; exact Int.le_refl _)⟩);clear hI hrep hmrm hM hs
    go_wp2_with (at_builtin; go_must (refine wpList_val rfl (exec_clear rfl (by exact hrun)) ?_))
    go_end0
    exact HFin.out
structure Wf (k m : Nat) (A : St) : Prop where
 hk : k ≤ 9000
 hm : m ≤ 100000000000
 hkm : 1001 * k ≤ m
 fit : Fit A
 closed : Closed A
 roots : ∀ n ∈ A.roots, (A.objs.lookup n).isSome
 regs : ∀ n ∈ A.reg, (A.objs.lookup n).isSome
 shape : ∀ n o, A.objs.lookup n = some o → (o.table = true → o.size = 0) ∧ (o.table = false → o.ents = [])
 big : A.queue.length + A.handles.length + A.reg.length ≤ k
 many : A.objs.length ≤ k
 memN : A.memN.length ≤ 1001 * k
 memT : A.memT.length ≤ m
 below : ∀ n o, A.objs.lookup n = some o → n < A.names
theorem filter_two_length (l : List Int) (p : Int → Bool) : (l.filter (fun n => !p n)).length + (l.filter p).length = l.length := by
 induction l with
 | nil => rfl
 | cons a l ih =>
   cases h : p a <;> simp [h] <;> omega
theorem Wf.awaited (h : Wf k m A) : Wf k m A.awaited := by
 have hl := filter_two_length A.reg (fun n => dec (Reach A A.roots n));refine ⟨h.hk, h.hm, h.hkm, ⟨h.fit.inn, h.fit.size, h.fit.ents, h.fit.memN, h.fit.memT, h.fit.many, h.fit.nodup⟩, h.closed, ?_, ?_, h.shape, ?_, h.many, h.memN, h.memT, h.below⟩
 · intro n hn;rcases mem_roots.1 hn with hq | hq
   · have hq' : n ∈ A.queue ++ A.reg.filter (fun n => !dec (Reach A A.roots n)) := hq;rcases List.mem_append.1 hq' with hq' | hq'
     · exact h.roots n (mem_roots.2 (.inl hq'))
     · exact h.regs n (List.mem_filter.1 hq').1
   · exact h.roots n (mem_roots.2 (.inr hq))
 · intro n hn;exact h.regs n (List.mem_filter.1 hn).1
 · have := h.big;show (A.queue ++ A.reg.filter (fun n => !dec (Reach A A.roots n))).length + A.handles.length + (A.reg.filter (fun n => dec (Reach A A.roots n))).length ≤ _;rw [List.length_append];omega
theorem lookup_filter_key (p : Int → Bool) (n : Int) : ∀ l : List (Int × Ob), (l.filter fun q => p q.1).lookup n = if p n then l.lookup n else none
 | [] => by simp
 | q :: l => by
   have ih := lookup_filter_key p n l;obtain ⟨a, x⟩ := q;by_cases e : n = a
   · subst e;cases h : p n <;> simp [h, List.lookup, ih]
   · have e2 : (n == a) = false := by simpa using e
     cases h : p a <;> simp [h, List.lookup, e2, ih]
theorem swept_lookup (A : St) (n : Int) : A.swept.objs.lookup n = if A.live n then (A.objs.lookup n).map (Ob.forgot (A.keep A.live)) else none := by
 have h1 : A.swept.objs.lookup n = ((A.keep A.live).objs.lookup n).map (Ob.forgot (A.keep A.live)) := lookup_map_key (fun _ o => Ob.forgot (A.keep A.live) o) n (A.keep A.live).objs;rw [h1];have h2 : (A.keep A.live).objs.lookup n = if A.live n then A.objs.lookup n else none := lookup_filter_key A.live n A.objs;rw [h2]
 split <;> rfl
theorem swept_some (h : A.swept.objs.lookup n = some o') : A.live n = true ∧ ∃ o, A.objs.lookup n = some o ∧ o' = o.forgot (A.keep A.live) := by
 rw [swept_lookup] at h
 split at h
 · rename_i hl
   cases ho : A.objs.lookup n with
   | none => rw [ho] at h; cases h
   | some o => rw [ho] at h; simp only [Option.map_some, Option.some.injEq] at h; exact ⟨hl, o, rfl, h.symm⟩
 · cases h
theorem swept_of (hl : A.live n = true) (h : A.objs.lookup n = some o) : A.swept.objs.lookup n = some (o.forgot (A.keep A.live)) := by
 rw [swept_lookup, if_pos hl, h]; rfl
theorem live_iff : A.live n = true ↔ Reach A (A.roots ++ A.reg) n := dec_iff
theorem swept_isSome : (A.swept.objs.lookup n).isSome ↔ A.live n = true ∧ (A.objs.lookup n).isSome := by
 rw [swept_lookup]
 split
 · rename_i h; simp [h]
 · rename_i h; simp [h]
theorem mem_forgot_ents {x : En} : x ∈ (o.forgot (A.keep A.live)).ents ↔ x ∈ o.ents ∧ A.live x.key = true ∧ (A.objs.lookup x.key).isSome := by
 have h2 : (A.keep A.live).objs.lookup x.key = if A.live x.key then A.objs.lookup x.key else none := lookup_filter_key A.live x.key A.objs;simp only [Ob.forgot, List.mem_filter, h2];by_cases hl : A.live x.key
 · simp only [hl, if_true, true_and];cases A.objs.lookup x.key <;> simp
 · simp [hl]
theorem mem_refs {m : Int} : m ∈ A.refs o ↔ m ∈ refsW (A.fields o) ∨ ∃ x ∈ o.ents, x.key = m ∨ (x.val.ref = true ∧ x.val.num = m) := by
 unfold St.refs;simp only [List.mem_append, refsE, List.mem_flatMap];refine or_congr Iff.rfl (exists_congr fun x => and_congr Iff.rfl ?_);cases hx : x.val.ref <;> simp [eq_comm]
theorem fields_nil (h : o.size = 0) : A.fields o = [] := by simp [St.fields, h]
theorem length_filter_objs (A : St) : A.swept.objs.length ≤ A.objs.length := by
 show ((A.objs.filter fun q => A.live q.1).map _).length ≤ _;rw [List.length_map]; exact List.length_filter_le _ _
theorem swept_keys_sub (A : St) : (A.swept.objs.map (·.1)).Sublist (A.objs.map (·.1)) := by
 have e : A.swept.objs.map (·.1) = (A.objs.filter fun q => A.live q.1).map (·.1) := by
  show ((A.objs.filter fun q => A.live q.1).map _).map _ = _;rw [List.map_map]; rfl
 rw [e];exact List.Sublist.map _ List.filter_sublist
theorem Wf.swept (h : Wf k m A) : Wf k m A.swept := by
 have hro : ∀ n ∈ A.roots ++ A.reg, (A.objs.lookup n).isSome := fun n hn => by
  rcases List.mem_append.1 hn with hn | hn
  · exact h.roots n hn
  · exact h.regs n hn
 refine ⟨h.hk, h.hm, h.hkm, ⟨?_, ?_, ?_, h.fit.memN, h.fit.memT, Nat.le_trans (length_filter_objs A) h.fit.many, List.Nodup.sublist (swept_keys_sub A) h.fit.nodup⟩, ?_, ?_, ?_, ?_, h.big, Nat.le_trans (length_filter_objs A) h.many, h.memN, h.memT, ?_⟩
 · intro n o' ho';obtain ⟨_, o, ho, rfl⟩ := swept_some ho';exact h.fit.inn n o ho
 · intro n o' ho';obtain ⟨_, o, ho, rfl⟩ := swept_some ho';exact h.fit.size n o ho
 · intro n o' ho';obtain ⟨_, o, ho, rfl⟩ := swept_some ho';exact Nat.le_trans (List.length_filter_le _ _) (h.fit.ents n o ho)
 · intro n o' ho' m hm;obtain ⟨hl, o, ho, rfl⟩ := swept_some ho';rw [swept_isSome];rcases mem_refs.1 hm with hm | ⟨x, hx, hk⟩
   · have hm' : m ∈ refsW (A.fields o) := hm;cases ht : o.table with
     | true =>
       rw [fields_nil ((h.shape n o ho).1 ht)] at hm';simp [refsW] at hm'
     | false =>
       exact ⟨live_iff.2 (.field (live_iff.1 hl) ho ht hm'), h.closed n o ho m (refs_field hm')⟩
   · obtain ⟨hx1, hx2, hx3⟩ := mem_forgot_ents.1 hx;rcases hk with rfl | ⟨hr, rfl⟩
     · exact ⟨hx2, hx3⟩
     · have ht : o.table = true := by
        cases ht : o.table with
        | true => rfl
        | false => rw [(h.shape n o ho).2 ht] at hx1; cases hx1
       exact ⟨live_iff.2 (.entry (live_iff.1 hl) ho ht hx1 (live_iff.1 hx2) hr), h.closed n o ho _ (refs_val hx1 hr)⟩
 · intro n hn;rw [swept_isSome];exact ⟨live_iff.2 (.root (List.mem_append_left _ hn)), h.roots n hn⟩
 · intro n hn;rw [swept_isSome];exact ⟨live_iff.2 (.root (List.mem_append_right _ hn)), h.regs n hn⟩
 · intro n o' ho';obtain ⟨_, o, ho, rfl⟩ := swept_some ho';refine ⟨(h.shape n o ho).1, fun ht => ?_⟩;have := (h.shape n o ho).2 ht;simp [Ob.forgot, this]
 · intro n o' ho';obtain ⟨_, o, ho, rfl⟩ := swept_some ho';exact h.below n o ho
def St.area (A : St) (o : Ob) : List Wd := ((A.mem o.old).drop o.at_).take (1 + o.size)
theorem fields_area (A : St) (o : Ob) : A.fields o = (A.area o).drop 1 := by
 unfold St.fields St.area;rw [List.drop_take, List.drop_drop]
 congr 1
 omega
structure SetI (A : St) (l : List Int) (B : St) : Prop where
 keys : B.objs.map (·.1) = A.objs.map (·.1)
 done : ∀ n ∈ l, ∀ o, A.objs.lookup n = some o → ∃ p, B.objs.lookup n = some { o with at_ := p, old := true } ∧ p + 1 + o.size ≤ B.memT.length ∧ (B.memT.drop p).take (1 + o.size) = A.area o
 rest : ∀ n, n ∉ l → B.objs.lookup n = A.objs.lookup n
 memT : B.memT.length ≤ 1001 * l.length
 memN : B.memN = []
 same : B.names = A.names ∧ B.young = A.young ∧ B.handles = A.handles ∧ B.reg = A.reg ∧ B.queue = A.queue ∧ B.free = A.free ∧ B.next = A.next ∧ B.full = A.full ∧ B.rem = A.rem
theorem setOb_keys (B : St) (n : Int) (o : Ob) : (B.setOb n o).objs.map (·.1) = B.objs.map (·.1) := by
 simp only [St.setOb, List.map_map];apply List.map_congr_left;intro p _;simp only [Function.comp]
 split
 · rename_i h; exact h.symm
 · rfl
theorem SetI.start (A : St) : SetI A [] { A with memN := [], memT := [] } := ⟨rfl, by simp, fun _ _ => rfl, by simp, rfl, rfl, rfl, rfl, rfl, rfl, rfl, rfl, rfl, rfl⟩
theorem SetI.step (h : SetI A l B) (hf : Fit A) (hn : n ∉ l) : SetI A (l ++ [n]) (settleStep A B n) := by
 have hl := h.rest n hn;unfold settleStep;rw [hl];cases ho : A.objs.lookup n with
 | none =>
   refine ⟨h.keys, ?_, ?_, ?_, h.memN, h.same⟩
   · intro m hm o' ho';rcases List.mem_append.1 hm with hm | hm
     · exact h.done m hm o' ho'
     · simp at hm; subst hm; rw [ho] at ho'; cases ho'
   · intro m hm;exact h.rest m (fun hm' => hm (List.mem_append_left _ hm'))
   · have := h.memT;show B.memT.length ≤ _;simp; omega
 | some o =>
   have hB : B.objs.lookup n = some o := by rw [hl, ho]
   have hsz := hf.size n o ho;have hin := hf.inn n o ho;have hal : (A.area o).length = 1 + o.size := by
    unfold St.area;rw [List.length_take, List.length_drop]; omega
   have hmT : (B.moved n o true (A.area o)).memT = B.memT ++ A.area o := rfl;have hobj : (B.moved n o true (A.area o)).objs = (B.setOb n { o with at_ := B.memT.length, old := true }).objs := rfl;show SetI A (l ++ [n]) (B.moved n o true (A.area o));refine ⟨?_, ?_, ?_, ?_, h.memN, h.same⟩
   · rw [hobj, setOb_keys]; exact h.keys
   · intro m hm o' ho';by_cases e : m = n
     · subst e;rw [ho] at ho'; simp only [Option.some.injEq] at ho'; subst ho';refine ⟨B.memT.length, by rw [hobj]; exact lookup_setOb_self B m _ _ hB, by rw [hmT, List.length_append, hal]; omega, ?_⟩;rw [hmT, List.drop_left, List.take_of_length_le (by rw [hal]; exact Nat.le_refl _)]
     · have hm' : m ∈ l := by
        rcases List.mem_append.1 hm with hm | hm
        · exact hm
        · simp at hm; exact absurd hm e
       obtain ⟨p, h1, h2, h3⟩ := h.done m hm' o' ho';refine ⟨p, by rw [hobj, lookup_setOb _ _ _ _ e]; exact h1, by rw [hmT, List.length_append]; omega, ?_⟩;rw [hmT, List.drop_append_of_le_length (by omega), List.take_append_of_le_length (by rw [List.length_drop]; omega)];exact h3
   · intro m hm;have e : m ≠ n := fun e => hm (by simp [e]);rw [hobj, lookup_setOb _ _ _ _ e];exact h.rest m (fun hm' => hm (List.mem_append_left _ hm'))
   · have := h.memT;rw [hmT, List.length_append, hal, List.length_append];simp; omega
theorem settle_setI {A : St} (hf : Fit A) : ∀ (l l0 : List Int) (B : St), (l0 ++ l).Nodup → SetI A l0 B → SetI A (l0 ++ l) (l.foldl (settleStep A) B)
 | [], l0, B, _, h => by simpa using h
 | n :: l, l0, B, hn, h => by
   have hn0 : n ∉ l0 := fun hm => by
    have := (List.nodup_append.1 hn).2.2 n hm n (by simp);exact this rfl
   have := settle_setI hf l (l0 ++ [n]) _ (by simpa using hn) (h.step hf hn0);simpa using this
theorem settled_I (hf : Fit A) : SetI A A.sorted (A.settleTo A.sorted) := by
 have := settle_setI hf A.sorted [] { A with memN := [], memT := [] } (by simpa using sorted_nodup hf.nodup) (SetI.start A);rw [List.nil_append] at this;exact this
theorem settled_some (hf : Fit A) (h : A.settled.objs.lookup n = some o') : ∃ o p, A.objs.lookup n = some o ∧ o' = { o with at_ := p, old := true } ∧ p + 1 + o.size ≤ A.settled.memT.length ∧ A.settled.area o' = A.area o := by
 have hI := settled_I hf;have h' : (A.settleTo A.sorted).objs.lookup n = some o' := h;by_cases hn : n ∈ A.sorted
 · have hk : n ∈ A.objs.map (·.1) := mem_sorted.1 hn;obtain ⟨⟨a, o⟩, hm, rfl⟩ := List.mem_map.1 hk;have ho := lookup_of_mem hf.nodup hm;obtain ⟨p, h1, h2, h3⟩ := hI.done _ hn o ho;rw [h'] at h1;simp only [Option.some.injEq] at h1;subst h1;exact ⟨o, p, ho, rfl, h2, h3⟩
 · rw [hI.rest n hn] at h';exact absurd (mem_sorted.2 (List.mem_map.2 ⟨_, mem_of_lookup h', rfl⟩)) hn
theorem settled_of (hf : Fit A) (ho : A.objs.lookup n = some o) : ∃ p, A.settled.objs.lookup n = some { o with at_ := p, old := true } := by
 obtain ⟨p, h1, _⟩ := (settled_I hf).done n (mem_sorted.2 (List.mem_map.2 ⟨_, mem_of_lookup ho, rfl⟩)) o ho;exact ⟨p, h1⟩
theorem settled_isSome (hf : Fit A) (n : Int) : (A.settled.objs.lookup n).isSome = (A.objs.lookup n).isSome := by
 cases ho : A.objs.lookup n with
 | some o => obtain ⟨p, h⟩ := settled_of hf ho; rw [h]; rfl
 | none =>
   cases h : A.settled.objs.lookup n with
   | none => rfl
   | some o' => obtain ⟨o, p, h1, _⟩ := settled_some hf h; rw [ho] at h1; cases h1
theorem Wf.settled (h : Wf k m A) : Wf k m A.settled := by
 have hI := settled_I h.fit;have hsame := hI.same;have hlen : A.settled.objs.length = A.objs.length := by
  have := congrArg List.length hI.keys;rw [List.length_map, List.length_map] at this;exact this
 have hT : A.settled.memT.length ≤ 1001 * A.objs.length := by have := hI.memT; rw [sorted_length] at this; exact this
 have hmany := h.many;have hkm := h.hkm;have hk := h.hk;have hN : A.settled.memN = [] := hI.memN;have hro : A.settled.roots = A.roots := by
  show (A.settleTo A.sorted).queue ++ (A.settleTo A.sorted).handles.map (·.2) = _;rw [hsame.2.2.2.2.1, hsame.2.2.1]; rfl
 have hre : A.settled.reg = A.reg := hsame.2.2.2.1;refine ⟨h.hk, h.hm, h.hkm, ⟨?_, ?_, ?_, by rw [hN]; simp, by omega, by rw [hlen]; exact h.fit.many, ?_⟩, ?_, ?_, ?_, ?_, ?_, by rw [hlen]; exact hmany, by rw [hN]; simp, by omega, ?_⟩
 · intro n o' ho';obtain ⟨o, p, ho, rfl, h1, _⟩ := settled_some h.fit ho';exact h1
 · intro n o' ho';obtain ⟨o, p, ho, rfl, h1, _⟩ := settled_some h.fit ho';exact h.fit.size n o ho
 · intro n o' ho';obtain ⟨o, p, ho, rfl, h1, _⟩ := settled_some h.fit ho';exact h.fit.ents n o ho
 · have e : A.settled.objs.map (·.1) = A.objs.map (·.1) := hI.keys;rw [e]; exact h.fit.nodup
 · intro n o' ho' x hx;obtain ⟨o, p, ho, rfl, h1, h2⟩ := settled_some h.fit ho';rw [settled_isSome h.fit];refine h.closed n o ho x ?_;rw [mem_refs] at hx ⊢;rw [fields_area, h2, ← fields_area] at hx;exact hx
 · intro n hn;rw [hro] at hn;rw [settled_isSome h.fit]; exact h.roots n hn
 · intro n hn;rw [hre] at hn;rw [settled_isSome h.fit]; exact h.regs n hn
 · intro n o' ho';obtain ⟨o, p, ho, rfl, h1, h2⟩ := settled_some h.fit ho';exact h.shape n o ho
 · show (A.settleTo A.sorted).queue.length + (A.settleTo A.sorted).handles.length + (A.settleTo A.sorted).reg.length ≤ k;rw [hsame.2.2.2.2.1, hsame.2.2.1, hsame.2.2.2.1]; exact h.big
 · intro n o' ho';obtain ⟨o, p, ho, rfl, h1, h2⟩ := settled_some h.fit ho';have := h.below n o ho;show n < (A.settleTo A.sorted).names;rw [hsame.1]; exact this
theorem run_any {recv rc : Value} {fs : List FuncId} {J : Nat → World → Prop} (hl : fs.length ≤ 1000)
 (hcell : ∀ i w (hi : i < fs.length), J i w → w.cell? ⟨pb, i, none⟩ = some (.func (.func fs[i]) #[rc] #[]))
 (hcall : ∀ i (hi : i < fs.length) args w, (callFunc fs[i] args).run Tryz.prog w = .ok (.enter fs[i] args) w)
 (hstep : ∀ i w (hi : i < fs.length), J i w → Calls Tryz.prog fs[i] #[rc] w fun e w' => e = .returned (.tuple #[]) ∧ J (i + 1) w') (h0 : J 0 w) :
 Calls Tryz.prog 81 #[recv, .slice (some ⟨pb, 0, none⟩) fs.length fs.length] w fun e w' => e = .returned (.tuple #[]) ∧ J fs.length w' := by
 refine ret_k fun K hK => ?_;have HK := Lib.hid hK;have HC := Lib.hid hcell;have HCa := Lib.hid hcall;have HS := Lib.hid hstep;clear hK hcell hcall hstep
 go_enter Tryz.func81, Tryz.ntmps81
 go_wp2
 go_loopw [8] (fun i wr => ∃ j : Nat, j ≤ fs.length ∧ i = .int .i64 j ∧ J j wr) (fun i _ => fs.length - (intOf i).toNat)
 case atStart => exact ⟨0, Nat.zero_le _, rfl, h0⟩
 case round =>
  obtain ⟨j, hj, rfl, hI⟩ := hrel;clear h0;by_cases hlt : j < fs.length
  · have c := HC.out j wr hlt hI;have hcall := HCa.out j hlt;have hst := HS.out j wr hlt hI;have HSt : Hid (Calls Tryz.prog fs[j] #[rc] wr fun e w' => e = .returned (.tuple #[]) ∧ Hid (J (j + 1) w')) := hst;clear hst hI;generalize fs[j] = fj at *
    go_wp2_with (refine HSt.out.mono ?_; rintro e w2 ⟨rfl, HI2⟩)
    go_roundw
    case rel => exact ⟨j + 1, by omega, by go_num, HI2.out⟩
    case measure => simp [intOf]; omega
  · have hje : j = fs.length := by omega
    subst hje;have HF := Lib.hid (HK.out _ _ ⟨rfl, hI⟩);clear hI;go_wp2
    go_end0
    exact HF.out
theorem call_await (args : Array Value) (w : World) : (callFunc 82 args).run Tryz.prog w = .ok (.enter 82 args) w := by kernel_rfl
theorem call_sweep (args : Array Value) (w : World) : (callFunc 83 args).run Tryz.prog w = .ok (.enter 83 args) w := by kernel_rfl
theorem call_settle (args : Array Value) (w : World) : (callFunc 84 args).run Tryz.prog w = .ok (.enter 84 args) w := by kernel_rfl
theorem Wf.await_any (h : Wf k m A) (hR : Rep w g A) : Calls Tryz.prog 82 #[.pointer (some ⟨g.hb, 0, none⟩)] w fun e w' => e = .returned (.tuple #[]) ∧ ∃ g', Rep w' g' A.awaited ∧ Step w g A w' g' :=
 Go.Proofs.YtelghmmcbgfjnaaGreat.await_any hR h.fit h.closed h.roots (by have := h.big; have := h.hk; omega)
theorem Wf.sweep_any (h : Wf k m A) (hR : Rep w g A) : Calls Tryz.prog 83 #[.pointer (some ⟨g.hb, 0, none⟩)] w fun e w' => e = .returned (.tuple #[]) ∧ ∃ g', Rep w' g' A.swept ∧ Step w g A w' g' :=
 Go.Proofs.YtelghmmcbgfjnaaGreat.sweep_any hR h.fit h.closed h.roots h.regs (by have := h.big; have := h.hk; omega)
theorem Wf.settle_any (h : Wf k m A) (hR : Rep w g A) : Calls Tryz.prog 84 #[.pointer (some ⟨g.hb, 0, none⟩)] w fun e w' => e = .returned (.tuple #[]) ∧ ∃ g', Rep w' g' A.settled ∧ Step w g A w' g' :=
 Go.Proofs.YtelghmmcbgfjnaaGreat.settle_any hR h.fit (by have := h.many; have := h.hk; omega)
theorem phase_any {C : St} {f : FuncId} {x : Obj} (hp : ∀ {wr gr}, Rep wr gr B → Calls Tryz.prog f #[.pointer (some ⟨gr.hb, 0, none⟩)] wr fun e w' => e = .returned (.tuple #[]) ∧ ∃ g', Rep w' g' C ∧ Step wr gr B w' g')
 (hAB : A.names ≤ B.names) (hR : Rep wr gr B) (hS : Step w g A wr gr) (hx : wr.heap[pb]? = some x) (hn : gr.own pb = none) :
 Calls Tryz.prog f #[.pointer (some ⟨g.hb, 0, none⟩)] wr fun e w' => e = .returned (.tuple #[]) ∧ ∃ g', Rep w' g' C ∧ Step w g A w' g' ∧ w'.heap[pb]? = some x ∧ g'.own pb = none := by
 have := hp hR;rw [hS.hb] at this;refine this.mono ?_;rintro e w' ⟨rfl, g', hR', hS'⟩;have ha := hS'.at hx hn;exact ⟨rfl, g', hR', hS.trans hS' hAB, ha.1, ha.2⟩
noncomputable def St.cleaned (A : St) : St := A.swept.settled
noncomputable def St.majored (A : St) : St := A.awaited.swept.settled
theorem clean_any (hR : Rep w g A) (hw : Wf k m A) :
 Calls Tryz.prog 65 #[.pointer (some ⟨g.hb, 0, none⟩)] w fun e w' => e = .returned (.tuple #[]) ∧ ∃ g', Rep w' g' A.cleaned ∧ Step w g A w' g' := by
 obtain ⟨x, hx⟩ : ∃ x, x = Obj.cells #[.func (.func 83) #[.pointer (some ⟨g.hb, 0, none⟩)] #[], .func (.func 84) #[.pointer (some ⟨g.hb, 0, none⟩)] #[]] 1 (0, 0) := ⟨_, rfl⟩;have hrun := run_any (w := w.alloc x) (recv := .pointer (some ⟨g.hb, 0, none⟩)) (rc := .pointer (some ⟨g.hb, 0, none⟩)) (fs := [83, 84]) (pb := w.heap.size)
  (J := fun i wr => ∃ gr B, ((i = 0 ∧ B = A) ∨ (i = 1 ∧ B = A.swept) ∨ (i = 2 ∧ B = A.cleaned)) ∧ Rep wr gr B ∧ Step w g A wr gr ∧ wr.heap[w.heap.size]? = some x ∧ gr.own w.heap.size = none) (by simp)
  (by
   rintro i wr hi ⟨gr, B, -, -, -, h3, -⟩;rw [hx] at h3;rw [cellAt h3]
   match i, hi with
   | 0, _ => rfl
   | 1, _ => rfl)
  (by
   intro i hi args w
   match i, hi with
   | 0, _ => exact call_sweep args w
   | 1, _ => exact call_settle args w)
  (by
   rintro i wr hi ⟨gr, B, hB, h1, h2, h3, h4⟩;rcases hB with ⟨rfl, hB⟩ | ⟨rfl, hB⟩ | ⟨rfl, hB⟩ <;> try rw [hB] at h1
   · refine (phase_any (A := A) (B := A) (C := A.swept) (fun hR => hw.sweep_any hR) (Int.le_refl _) h1 h2 h3 h4).mono ?_;rintro e w' ⟨rfl, g', h⟩;exact ⟨rfl, g', _, .inr (.inl ⟨rfl, rfl⟩), h⟩
   · refine (phase_any (A := A) (B := A.swept) (C := A.cleaned) (fun hR => hw.swept.settle_any hR) (show A.names ≤ A.swept.names from Int.le_refl _) h1 h2 h3 h4).mono ?_;rintro e w' ⟨rfl, g', h⟩;exact ⟨rfl, g', _, .inr (.inr ⟨rfl, rfl⟩), h⟩
   · simp at hi)
  ⟨g, A, .inl ⟨rfl, rfl⟩, hR.alloc _, ⟨(Chg.refl _ _).alloc _, fun _ _ _ => rfl, rfl, rfl, rfl, rfl, rfl, fun _ _ => rfl⟩, heap_alloc_new _ _, hR.none_of_ge (Nat.le_refl _)⟩
 refine ret_k fun K hK => ?_;have HRun : Hid (Calls Tryz.prog 81 #[.pointer (some ⟨g.hb, 0, none⟩), .slice (some ⟨w.heap.size, 0, none⟩) 2 2] (w.alloc x) fun e w' => e = .returned (.tuple #[]) ∧ Post K (.returned (.tuple #[])) w') := by
  refine hrun.mono ?_;rintro e w' ⟨rfl, gr, B, hB, h1, h2, _, _⟩;rcases hB with ⟨h, _⟩ | ⟨h, _⟩ | ⟨_, rfl⟩
  · cases h
  · cases h
  · exact ⟨rfl, hK _ _ ⟨rfl, gr, h1, h2⟩⟩
 clear hrun hK hw hR;subst hx
 go_enter Tryz.func65, Tryz.ntmps65
 go_wp2_with (go_at_call 81; refine HRun.out.mono ?_; rintro e w1 ⟨rfl, hP⟩)
 go_end0
 exact hP
theorem major_any (hR : Rep w g A) (hw : Wf k m A) :
 Calls Tryz.prog 34 #[.pointer (some ⟨g.hb, 0, none⟩)] w fun e w' => e = .returned (.tuple #[]) ∧ ∃ g', Rep w' g' A.majored ∧ Step w g A w' g' := by
 obtain ⟨x, hx⟩ : ∃ x, x = Obj.cells #[.func (.func 82) #[.pointer (some ⟨g.hb, 0, none⟩)] #[], .func (.func 83) #[.pointer (some ⟨g.hb, 0, none⟩)] #[], .func (.func 84) #[.pointer (some ⟨g.hb, 0, none⟩)] #[]] 1 (0, 0) := ⟨_, rfl⟩;have hrun := run_any (w := w.alloc x) (recv := .pointer (some ⟨g.hb, 0, none⟩)) (rc := .pointer (some ⟨g.hb, 0, none⟩)) (fs := [82, 83, 84]) (pb := w.heap.size)
  (J := fun i wr => ∃ gr B, ((i = 0 ∧ B = A) ∨ (i = 1 ∧ B = A.awaited) ∨ (i = 2 ∧ B = A.awaited.swept) ∨ (i = 3 ∧ B = A.majored)) ∧ Rep wr gr B ∧ Step w g A wr gr ∧ wr.heap[w.heap.size]? = some x ∧ gr.own w.heap.size = none) (by simp)
  (by
   rintro i wr hi ⟨gr, B, -, -, -, h3, -⟩;rw [hx] at h3;rw [cellAt h3]
   match i, hi with
   | 0, _ => rfl
   | 1, _ => rfl
   | 2, _ => rfl)
  (by
   intro i hi args w
   match i, hi with
   | 0, _ => exact call_await args w
   | 1, _ => exact call_sweep args w
   | 2, _ => exact call_settle args w)
  (by
   rintro i wr hi ⟨gr, B, hB, h1, h2, h3, h4⟩;rcases hB with ⟨rfl, hB⟩ | ⟨rfl, hB⟩ | ⟨rfl, hB⟩ | ⟨rfl, hB⟩ <;> try rw [hB] at h1
   · refine (phase_any (A := A) (B := A) (C := A.awaited) (fun hR => hw.await_any hR) (Int.le_refl _) h1 h2 h3 h4).mono ?_;rintro e w' ⟨rfl, g', h⟩;exact ⟨rfl, g', _, .inr (.inl ⟨rfl, rfl⟩), h⟩
   · refine (phase_any (A := A) (B := A.awaited) (C := A.awaited.swept) (fun hR => hw.awaited.sweep_any hR) (show A.names ≤ A.awaited.names from Int.le_refl _) h1 h2 h3 h4).mono ?_;rintro e w' ⟨rfl, g', h⟩;exact ⟨rfl, g', _, .inr (.inr (.inl ⟨rfl, rfl⟩)), h⟩
   · refine (phase_any (A := A) (B := A.awaited.swept) (C := A.majored) (fun hR => hw.awaited.swept.settle_any hR) (show A.names ≤ A.awaited.swept.names from Int.le_refl _) h1 h2 h3 h4).mono ?_;rintro e w' ⟨rfl, g', h⟩;exact ⟨rfl, g', _, .inr (.inr (.inr ⟨rfl, rfl⟩)), h⟩
   · simp at hi)
  ⟨g, A, .inl ⟨rfl, rfl⟩, hR.alloc _, ⟨(Chg.refl _ _).alloc _, fun _ _ _ => rfl, rfl, rfl, rfl, rfl, rfl, fun _ _ => rfl⟩, heap_alloc_new _ _, hR.none_of_ge (Nat.le_refl _)⟩
 refine ret_k fun K hK => ?_;have HRun : Hid (Calls Tryz.prog 81 #[.pointer (some ⟨g.hb, 0, none⟩), .slice (some ⟨w.heap.size, 0, none⟩) 3 3] (w.alloc x) fun e w' => e = .returned (.tuple #[]) ∧ Post K (.returned (.tuple #[])) w') := by
  refine hrun.mono ?_;rintro e w' ⟨rfl, gr, B, hB, h1, h2, _, _⟩;rcases hB with ⟨h, _⟩ | ⟨h, _⟩ | ⟨h, _⟩ | ⟨_, rfl⟩
  · cases h
  · cases h
  · cases h
  · exact ⟨rfl, hK _ _ ⟨rfl, gr, h1, h2⟩⟩
 clear hrun hK hw hR;subst hx
 go_enter Tryz.func34, Tryz.ntmps34
 go_wp2_with (go_at_call 81; refine HRun.out.mono ?_; rintro e w1 ⟨rfl, hP⟩)
 go_end0
 exact hP
structure MI (w : World) (g : Gh) (A : St) (wb ms cb wp : Nat) (X : Nat → Obj → Prop) (wr : World) (k : WkG) (S T : List Int) : Prop where
 wk : Wk wr k S T
 kwb : k.wb = wb
 kms : k.ms = ms
 rep : Rep wr g A
 own : ∀ b, w.heap.size ≤ b → g.own b = none
 old : Chg (fun _ => False) w wr
 new : ∀ b, k.blk b → w.heap.size ≤ b
 hcb : wr.heap[cb]? = some (.cells #[.pointer (some ⟨g.hb, 0, none⟩)] 125 (0, 0))
 hwp : wr.heap[wp]? = some (.cells #[.pointer (some ⟨wb, 0, none⟩)] 126 (0, 0))
 cbn : w.heap.size ≤ cb ∧ ¬ k.blk cb
 wpn : w.heap.size ≤ wp ∧ ¬ k.blk wp
 hold : ∀ b x, X b x → wr.heap[b]? = some x
 off : ∀ b x, X b x → ¬ k.blk b
theorem MI.move {X : Nat → Obj → Prop} {k : WkG} (h : MI w g A wb ms cb wp X wr k S T) {F : Nat → Prop} (hC : Chg F wr w')
 (hF : ∀ b, F b → w.heap.size ≤ b ∧ ¬ k.blk b ∧ b ≠ cb ∧ b ≠ wp ∧ ∀ x, ¬ X b x) : MI w g A wb ms cb wp X w' k S T :=
 ⟨h.wk.chg hC (fun b hb hf => (hF b hf).2.1 hb), h.kwb, h.kms, h.rep.frame hC (fun b hb => h.own b (hF b hb).1), h.own, h.old.trans hC (fun j hj hf => by have := (hF j hf).1; omega), h.new,
  hC.at h.hcb (fun hf => (hF _ hf).2.2.1 rfl), hC.at h.hwp (fun hf => (hF _ hf).2.2.2.1 rfl), h.cbn, h.wpn, fun b x hb => hC.at (h.hold b x hb) (fun hf => (hF _ hf).2.2.2.2 x hb), h.off⟩
theorem MI.drewN {X : Nat → Obj → Prop} {k : WkG} (h : MI w g A wb ms cb wp X wr k S T) (n : Nat) : MI w g A wb ms cb wp X (wr.drewN n) k S T :=
 h.move (F := fun _ => False) ((Chg.refl _ _).drewN n) (fun _ h => h.elim)
theorem MI.alloc {X : Nat → Obj → Prop} {k : WkG} (h : MI w g A wb ms cb wp X wr k S T) (o : Obj) : MI w g A wb ms cb wp X (wr.alloc o) k S T :=
 h.move (F := fun _ => False) ((Chg.refl _ _).alloc o) (fun _ h => h.elim)
theorem MI.weak {X X' : Nat → Obj → Prop} {k : WkG} (h : MI w g A wb ms cb wp X wr k S T) (hs : ∀ b x, X' b x → wr.heap[b]? = some x ∧ ¬ k.blk b) : MI w g A wb ms cb wp X' wr k S T :=
 ⟨h.wk, h.kwb, h.kms, h.rep, h.own, h.old, h.new, h.hcb, h.hwp, h.cbn, h.wpn, fun b x hb => (hs b x hb).1, fun b x hb => (hs b x hb).2⟩
def seeY (A : St) (p : List Int × List Int) (l : List Int) : List Int × List Int := seeL p (l.filter A.isYoung)
theorem seeY_append (A : St) (p : List Int × List Int) (l l' : List Int) : seeY A p (l ++ l') = seeY A (seeY A p l) l' := by
 simp [seeY, seeL, List.filter_append]
theorem seeY_len (A : St) (p : List Int × List Int) (l : List Int) : (seeY A p l).2.length ≤ p.2.length + l.length := by
 have := seeL_len p (l.filter A.isYoung);have := List.length_filter_le A.isYoung l;unfold seeY;omega
theorem call_minor1 (args : Array Value) (w : World) : (callFunc 71 args).run Tryz.prog w = .ok (.enter 71 args) w := by kernel_rfl
theorem minor1_any {X : Nat → Obj → Prop} {k : WkG} (h : MI w g A wb ms cb wp X wr k S T) (n : Int) (hT : T.length < 1000000000000) :
 Calls Tryz.prog 71 #[.int .i64 n, .pointer (some ⟨cb, 0, none⟩), .pointer (some ⟨wp, 0, none⟩)] wr fun e w' => e = .returned (.tuple #[]) ∧ ∃ k', MI w g A wb ms cb wp X w' k' (seeY A (S, T) [n]).1 (seeY A (S, T) [n]).2 := by
 have cc : wr.cell? ⟨cb, 0, none⟩ = some (.pointer (some ⟨g.hb, 0, none⟩)) := cellAt h.hcb 0;have cw : wr.cell? ⟨wp, 0, none⟩ = some (.pointer (some ⟨wb, 0, none⟩)) := cellAt h.hwp 0;have HY := Lib.hid (isYoung_any h.rep n);have hs := see_any h.wk n hT;rw [h.kwb] at hs;refine ret_k fun K hK => ?_;have HS : Hid (A.isYoung n = true → Calls Tryz.prog 73 #[.pointer (some ⟨wb, 0, none⟩), .int .i64 n] wr fun e w' => e = .returned (.tuple #[]) ∧ Post K (.returned (.tuple #[])) w') := by
  intro hy;refine hs.mono ?_;rintro e w' ⟨rfl, k', hk, hst⟩;refine ⟨rfl, hK _ _ ⟨rfl, k', ?_⟩⟩;have e1 : seeY A (S, T) [n] = (seeS S n, seeT S T n) := by simp [seeY, seeL, hy]
  rw [e1];have hnb : ∀ {b : Nat} {x : Obj}, wr.heap[b]? = some x → ¬ k.blk b → ¬ k'.blk b := fun hx hn hb => by
   rcases hst.loc _ hb with h1 | h1
   · exact hn h1
   · have := lt_of_block hx; omega
  refine ⟨hk, hst.wb.trans h.kwb, hst.ms.trans h.kms, h.rep.frame hst.chg (fun b hb => h.own b (h.new b hb)), h.own, h.old.trans hst.chg (fun j hj hb => by have := h.new j hb; omega), ?_, hst.chg.at h.hcb h.cbn.2, hst.chg.at h.hwp h.wpn.2,
   ⟨h.cbn.1, hnb h.hcb h.cbn.2⟩, ⟨h.wpn.1, hnb h.hwp h.wpn.2⟩, fun b x hb => hst.chg.at (h.hold b x hb) (h.off b x hb), fun b x hb => hnb (h.hold b x hb) (h.off b x hb)⟩
  intro b hb;rcases hst.loc b hb with h1 | h1
  · exact h.new b h1
  · exact Nat.le_trans h.old.size h1
 have HN : Hid (A.isYoung n = false → Post K (.returned (.tuple #[])) wr) := by
  intro hy;refine hK _ _ ⟨rfl, k, ?_⟩;have e1 : seeY A (S, T) [n] = (S, T) := by simp [seeY, seeL, hy]
  rw [e1]; exact h
 clear hs hK h hT;generalize A.isYoung n = y at *;cases y
 all_goals
  go_enter Tryz.func71, Tryz.ntmps71
  go_wp2_with (first | (go_at_call 72; refine HY.out.mono ?_; rintro e w1 ⟨rfl, rfl⟩) | (go_at_call 73; refine (HS.out (by trivial)).mono ?_; rintro e w2 ⟨rfl, hP⟩))
  go_end0
  first | exact HN.out (by trivial) | exact hP
theorem minor_found {S0 T0 : List Int} (hT0 : T0.length ≤ 400000000000) :
 Found g A 71 #[] #[.pointer (some ⟨cb, 0, none⟩), .pointer (some ⟨wp, 0, none⟩)] (fun X l wr => ∃ k, MI w g A wb ms cb wp X wr k (seeY A (S0, T0) l).1 (seeY A (S0, T0) l).2) where
 call := call_minor1
 step := fun X l n wr hl ⟨k, h⟩ => by
  have hlen := seeY_len A (S0, T0) l;simp only at hlen;refine (minor1_any h n (by omega)).mono ?_;rintro e w' ⟨rfl, k', hk⟩;refine ⟨rfl, k', ?_⟩;rw [seeY_append]; exact hk
 rep := fun X l wr ⟨k, h⟩ => h.rep
 hold := fun X l wr b x ⟨k, h⟩ hb => h.hold b x hb
 alloc := fun X l o wr ⟨k, h⟩ => ⟨k, (h.alloc o).weak fun b x hb => by
  rcases hb with hb | ⟨rfl, rfl⟩
  · exact ⟨heap_alloc_old (h.hold b x hb) o, h.off b x hb⟩
  · exact ⟨heap_alloc_new wr _, fun hkb => by have := h.wk.lt hkb; omega⟩⟩
 drew := fun X l n wr ⟨k, h⟩ => ⟨k, h.drewN n⟩
 weak := fun X X' l wr ⟨k, h⟩ hs => ⟨k, h.weak fun b x hb => ⟨h.hold b x (hs b x hb), h.off b x (hs b x hb)⟩⟩
end Go.Proofs.YtelghmmcbgfjnaaGreat
