/-
  The walks of slices.Clone at []int, of roots, and of used. (A part of the proof, joined of: Wk, Wl, Wm, Wn, Wo, Wp; made smaller.)
-/
import Derived.Test.YtelghmmcbgfjnaaGreatH06
import Derived.Lib.SliceRun
set_option maxHeartbeats 2000000
set_option maxRecDepth 100000
namespace Go.Proofs.YtelghmmcbgfjnaaGreat
variable {A A0 : St} {P : Program} {S l l' xs : List Int} {a sa : Option Addr} {b c i j m sc : Nat} {captured first : Array Value} {es : List En} {g g0 gr : Gh} {k n : Int} {o : Ob} {p : Int → Bool} {r : Role} {v v1 : Value} {w w' w0 wr : World}
open Go.RowKit
theorem app1 (hrow : Row w 3 1 v xs.length (intCells xs)) (n : Int) (hT : xs.length < 1000000000000) :
 ∃ a cap w', (Builtin.append_ #[23, 23] 23 #[v, .slice (some ⟨w.heap.size, 0, none⟩) 1 1]).run Tryz.prog (w.alloc (.cells #[.int .i64 n] 3)) = .ok (.slice a (xs.length + 1) cap) w' ∧
   Row w' 3 1 (.slice a (xs.length + 1) cap) (xs ++ [n]).length (intCells (xs ++ [n])) ∧ Chg (fun b => rowBlk v = some b) w w' ∧ (∀ b, rowBlk (.slice a (xs.length + 1) cap) = some b → rowBlk v = some b ∨ w.heap.size ≤ b) := by
 obtain ⟨i0, hi, hz0, hz1, hz2⟩ := info_parts iInt;have h1 : Row (w.alloc (.cells #[.int .i64 n] 3)) 3 1 v xs.length (intCells xs) := hrow.same fun b hb => by rw [heap_alloc, if_neg (by have := hrow.lt hb; omega)]
 have hsrc : Src' (w.alloc (.cells #[.int .i64 n] 3)) 1 (.slice (some ⟨w.heap.size, 0, none⟩) 1 1) 1 [.int .i64 n] := src_block (heap_alloc_new _ _) (by simp) (by simp);obtain ⟨v3, w3, happ, hrow3, hC3, hloc3⟩ := run_append_row (P := Tryz.prog) 23 23 3 i0 _ 1 8 uInts hi hz0 hz1 hz2 rfl (by decide) h1 hsrc (by simp [Value.oneCell']) (by unfold maxLen; omega) (by omega);obtain ⟨a3, cap3, rfl, -⟩ := hrow3.slice;have hCa : Chg (fun b => rowBlk v = some b) w (w.alloc (.cells #[.int .i64 n] 3)) := (Chg.refl _ _).alloc _;refine ⟨a3, cap3, w3, happ, ?_, hCa.trans hC3 (fun _ _ h => h), ?_⟩
 · have e : intCells (xs ++ [n]) = intCells xs ++ [.int .i64 n] := by simp [intCells]
   rw [e, List.length_append, List.length_singleton];exact hrow3
 · intro b hb;rcases hloc3 b hb with h2 | h2
   · exact .inl h2
   · simp at h2; exact .inr (by omega)
theorem clone_any (hrow : Row w 3 1 v xs.length (intCells xs)) (hT : xs.length < 1000000000000) :
 Calls Tryz.prog 88 #[v] w fun e w' => ∃ v', e = .returned v' ∧ Row w' 3 1 v' xs.length (intCells xs) ∧ Chg (fun _ => False) w w' ∧ (∀ b, rowBlk v' = some b → w.heap.size ≤ b) := by
 obtain ⟨a, cap, rfl, hle, hcm, hcase⟩ := hrow.slice;have hq : ∀ (w : World) (a : Option Addr) (n c n' c' : Nat), (binOp .eql 23 (.slice a n c) (.slice none n' c')).run Tryz.prog w = .ok (.bool a.isNone) w := fun w a n c n' c' => Lib.run_eql_slice_nil w _ _ a n c n' c' uInts;refine ret_k fun K hK => ?_;cases a with
 | none =>
   have hn0 : xs.length = 0 := by
    rcases hcase with h | ⟨g, h, _⟩
    · exact h
    · cases h
   have HF : Hid (Post K (.returned (.slice none 0 0)) w) := hK _ _ ⟨_, rfl, by rw [List.eq_nil_of_length_eq_zero hn0]; exact Row.nil _ _ _, Chg.refl _ _, fun b hb => by simp [rowBlk] at hb⟩;clear hK hrow hcase
   go_enter Tryz.func88, Tryz.ntmps88
   go_wp2;go_ret;exact HF.out
 | some ad =>
   obtain ⟨i0, hi, hz0, hz1, hz2⟩ := info_parts iInt;obtain ⟨w1, hw1⟩ : ∃ w1, w1 = w.alloc (.cells #[] 3) := ⟨_, rfl⟩;have hC1 : Chg (fun _ => False) w w1 := by rw [hw1]; exact (Chg.refl _ _).alloc _
   have hrow1 : Row w1 3 1 (.slice (some ad) xs.length cap) xs.length (intCells xs) := hrow.same fun b hb => hC1.block b (hrow.lt hb) (fun h => h);have h0 : Row w1 3 1 (.slice (some ⟨w.heap.size, 0, none⟩) 0 0) 0 [] := ⟨by simp, by simp, .inl ⟨rfl, _, rfl⟩⟩;obtain ⟨v3, w3, happ, hrow3, hC3, hloc3⟩ := run_append_row (P := Tryz.prog) 23 23 3 i0 _ 1 8 uInts hi hz0 hz1 hz2 rfl (by decide) h0 hrow1.src (by intro u hu; simp [intCells] at hu; obtain ⟨x, _, rfl⟩ := hu; rfl) (by unfold maxLen; omega) (by omega);simp only [Nat.zero_add, List.nil_append] at hrow3;have HF : Hid (Post K (.returned v3) w3) := hK _ _ ⟨v3, rfl, hrow3, hC1.trans hC3 (fun j hj hb => by simp [rowBlk] at hb), fun b hb => by
    rcases hloc3 b hb with h2 | h2
    · simp [rowBlk] at h2
    · exact Nat.le_trans hC1.size h2⟩
   clear hrow3 hC3 hloc3 hC1 hrow1 h0 hK hrow hcase;subst hw1
   go_enter Tryz.func88, Tryz.ntmps88
   go_wp2_with (at_builtin; go_must (refine wpList_val rfl (exec_append rfl happ) ?_))
   go_ret;exact HF.out
theorem length_delKV {kvs : List (Int × Value)} (hn : (kvs.map (·.1)).Nodup) (h : (k, v) ∈ kvs) : (delKV kvs k).length + 1 = kvs.length := by
 obtain ⟨j, hj, he⟩ := List.getElem_of_mem h;rw [delKV_eraseIdx hn hj (by rw [he]), List.length_eraseIdx_of_lt hj];omega
theorem mem_delKV {kvs : List (Int × Value)} {j : Int} : (j, v) ∈ delKV kvs k ↔ (j, v) ∈ kvs ∧ j ≠ k := by
 simp [delKV]
theorem IterAt.nodup {r : Nat} {kvs left : List (Int × Value)} (h : IterAt w r b kvs left) : (left.map (·.1)).Nodup := by
 have hn := h.map.nodup;obtain ⟨h0, es, clock, seen, h1, h2, h3, h4⟩ := h;exact List.Nodup.sublist (List.Sublist.map _ h4) hn
theorem IterAt.sub {r : Nat} {kvs left : List (Int × Value)} (h : IterAt w r b kvs left) {p : Int × Value} (hp : p ∈ left) : p ∈ kvs := by
 obtain ⟨h0, es, clock, seen, h1, h2, h3, h4⟩ := h;exact h4.subset hp
theorem iter_more {r : Nat} {kvs left : List (Int × Value)} (h : IterAt w r b kvs left) (hl : left ≠ []) (ty : TypeId) :
 ∃ k v w', (k, v) ∈ left ∧ (Instr.next (.pointer (some ⟨r, 0, none⟩)) false ty).run P w = .ok (.tuple #[.bool true, .int .i64 k, v]) w' ∧ IterAt w' r b kvs (delKV left k) ∧
   (Instr.entry (.pointer (some ⟨r, 0, none⟩))).run P w' = .ok (.tuple #[.int .i64 k, v]) w' ∧ Chg (fun x => x = r) w w' := by
 obtain ⟨k, v, n, o', h1, h2, h3, h4⟩ := run_next_more (P := P) h hl ty;have hr : ∃ x, (w.drewN n).heap[r]? = some x := by
  obtain ⟨h0, es, clock, seen, g1, g2, g3⟩ := h;exact ⟨_, g2⟩
 obtain ⟨x, hx⟩ := hr;refine ⟨k, v, _, h1, h2, h3, h4 _ (by rw [heap_put_ne h.ne.symm]; rfl) (heap_put hx _), ?_⟩;exact ((Chg.refl (fun x => x = r) w).drewN n).trans (chg_put1 _ _ _) (fun _ _ h => h)
def RootsOf (A : St) (left : List (Int × Value)) (l : List Int) : Prop := ∀ n, n ∈ l ↔ n ∈ A.queue ∨ ∃ p ∈ A.handles, p.2 = n ∧ (p.1, Value.int .i64 p.2) ∉ left
theorem mem_kvsH : (k, v) ∈ kvsH A ↔ ∃ x, v = .int .i64 x ∧ (k, x) ∈ A.handles := by
 simp only [kvsH, List.mem_map, Prod.mk.injEq];constructor
 · rintro ⟨p, hp, rfl, rfl⟩; exact ⟨p.2, rfl, hp⟩
 · rintro ⟨x, rfl, hx⟩; exact ⟨_, hx, rfl, rfl⟩
theorem RootsOf.step {left : List (Int × Value)} (h : RootsOf A left l) {x : Int} (hin : (k, Value.int .i64 x) ∈ left) (hk : (k, x) ∈ A.handles) (hn : (A.handles.map (·.1)).Nodup) : RootsOf A (delKV left k) (l ++ [x]) := by
 intro n;simp only [List.mem_append, List.mem_singleton];rw [h n];constructor
 · rintro ((hq | ⟨p, hp, rfl, hp2⟩) | rfl)
   · exact .inl hq
   · exact .inr ⟨p, hp, rfl, fun hd => hp2 (mem_delKV.1 hd).1⟩
   · exact .inr ⟨_, hk, rfl, fun hd => (mem_delKV.1 hd).2 rfl⟩
 · rintro (hq | ⟨p, hp, rfl, hp2⟩)
   · exact .inl (.inl hq)
   · by_cases he : p.1 = k
     · right;obtain ⟨i, hi, hpi⟩ := List.getElem_of_mem hp;obtain ⟨j, hj, hpj⟩ := List.getElem_of_mem hk;have : i = j := idx_of_key hn hi hj (by rw [hpi, hpj, he]);subst this;rw [hpi] at hpj;rw [hpj]
     · left; right;exact ⟨p, hp, rfl, fun hd => hp2 (mem_delKV.2 ⟨hd, he⟩)⟩
theorem roots_any (hR : Rep w g A) (hb : A.queue.length + A.handles.length < 100000000000) :
 Calls Tryz.prog 74 #[.pointer (some ⟨g.hb, 0, none⟩)] w fun e w' => ∃ (v : Value) (l : List Int), e = .returned v ∧ Row w' 3 1 v l.length (intCells l) ∧
  (∀ n, n ∈ l ↔ n ∈ A.queue ∨ ∃ p ∈ A.handles, p.2 = n) ∧ l.length = A.queue.length + A.handles.length ∧ Chg (fun _ => False) w w' ∧ (∀ b, rowBlk v = some b → w.heap.size ≤ b) := by
 obtain ⟨qa, qc, hqv, _, _, _⟩ := hR.rQ.row.slice;have c6 : w.cell? ⟨g.hb, 7, none⟩ = some (.slice qa A.queue.length qc) := by rw [← hqv]; exact hR.c 7
 have hcl := clone_any (hR.rQ.row) (by omega);rw [hqv] at hcl;have hnod : (A.handles.map (·.1)).Nodup := by
  have := hR.mh.nodup;simpa [kvsH, List.map_map, Function.comp_def] using this
 refine ret_k fun K hK => ?_;have hcl2 : Calls Tryz.prog 88 #[.slice qa A.queue.length qc] w fun e w1 => ∃ va vc, e = .returned (.slice va A.queue.length vc) ∧ Row w1 3 1 (.slice va A.queue.length vc) A.queue.length (intCells A.queue) ∧ Chg (fun _ => False) w w1 ∧
  (∀ b, rowBlk (.slice va A.queue.length vc) = some b → w.heap.size ≤ b) ∧ w1.cell? ⟨g.hb, 5, none⟩ = some (.map (some g.mh)) ∧ Rep w1 g A := by
  refine hcl.mono ?_;rintro e w1 ⟨v', rfl, h1, h2, h3⟩;obtain ⟨va, vc, rfl, _⟩ := h1.slice;have hR1 := hR.frame h2 (fun _ h => h.elim);exact ⟨va, vc, rfl, h1, h2, h3, hR1.c 5, hR1⟩
 have HCl := Lib.hid hcl2;clear hcl hcl2 hqv
 go_enter Tryz.func74, Tryz.ntmps74
 go_wp2_with (first | (go_at_call 88; refine HCl.out.mono ?_; rintro e w1 ⟨va, vc, rfl, hrow1, hC1, hn1, c5, hR1⟩; have HRow := Lib.hid hrow1; have HC := Lib.hid hC1; have HN := Lib.hid hn1; clear hrow1 hC1 hn1) | (at_range; obtain ⟨o', hrun, hit⟩ := run_range_map (P := Tryz.prog) hR1.mh uMapI; refine wpList_val rfl (exec_range rfl hrun) ?_))
 have HIt := Lib.hid hit;have hs1 := HC.out.size;clear hit hrun;have HNod := Lib.hid hnod;have HK := Lib.hid hK;have hmh : g.mh < w.heap.size := hR.lt _ (by rw [hR.omh]; rfl);have hs0 := HC.out.size;clear hnod hK hR hR1 c6 c5 HCl
 go_frame
 go_loopg [3] (A.handles.length) (fun num v3 wr => ∃ (left : List (Int × Value)) (l : List Int) (a : Option Addr) (c : Nat), v3 = .slice a l.length c ∧ Row wr 3 1 (.slice a l.length c) l.length (intCells l) ∧ IterAt wr w1.heap.size g.mh (kvsH A) left ∧ RootsOf A left l ∧ l.length + left.length = A.queue.length + A.handles.length ∧ Chg (fun _ => False) w wr ∧ (∀ b, rowBlk (.slice a l.length c) = some b → w.heap.size ≤ b ∧ b ≠ w1.heap.size) ∧ left.length ≤ num)
 case atStart =>
  refine ⟨kvsH A, A.queue, va, vc, rfl, HRow.out.same fun b hb => by rw [heap_alloc, if_neg (by have := HRow.out.lt hb; omega)], HIt.out, ?_, by simp [kvsH], HC.out.alloc _, fun b hb => ⟨HN.out b hb, by have := HRow.out.lt hb; omega⟩, by simp [kvsH]⟩;intro n;constructor
  · exact .inl
  · rintro (h | ⟨p, hp, rfl, h⟩)
    · exact h
    · exact absurd (mem_kvsH.2 ⟨_, rfl, hp⟩) h
 case round =>
  obtain ⟨left, l, a, c, rfl, hrow, hit, hro, hlen, hC, hn, hnum⟩ := hrel;clear HIt HRow HC HN;have hs2 := hC.size;cases left with
  | nil =>
    have hrun := fun ty => run_next_over (P := Tryz.prog) hit ty;have HF := Lib.hid (HK.out _ _ ⟨_, l, rfl, hrow, fun n => (hro n).trans (or_congr Iff.rfl (exists_congr fun p => and_congr Iff.rfl (by simp))), by simpa using hlen, hC, fun b hb => (hn b hb).1⟩);clear hrow hro hlen hC hn hit
    go_wp2_with (at_next; go_must (refine wpList_val rfl (exec_next rfl (by exact hrun _)) ?_))
    go_ret;exact HF.out
  | cons p left =>
    obtain ⟨k, v, w2, hin, hrun, hit2, hent, hC2⟩ := iter_more (P := Tryz.prog) hit (by simp) 0;obtain ⟨x, rfl, hx⟩ := mem_kvsH.1 (hit.sub hin);have hd := length_delKV hit.nodup hin;have hrt : w1.heap.size < w2.heap.size := by
     obtain ⟨h0, es, clock, seen, g1, g2, g3⟩ := hit2;exact lt_of_block g2
    have hrow2 : Row w2 3 1 (.slice a l.length c) l.length (intCells l) := hrow.same fun b hb => hC2.block b (hrow.lt hb) (hn b hb).2;obtain ⟨a3, c3, w3, happ, hrow3, hC3, hloc3⟩ := app1 hrow2 x (by simp only [List.length_cons] at hlen; omega);have hit3 : IterAt w3 w1.heap.size g.mh (kvsH A) (delKV (p :: left) k) := hit2.same (hC3.block _ (Nat.lt_of_lt_of_le hmh (Nat.le_trans hs2 hC2.size)) (fun h => absurd (hn _ h).1 (by omega))) (hC3.block _ hrt (fun h => (hn _ h).2 rfl));have hro2 := hro.step hin hx HNod.out
    have HF : Hid (∃ (left : List (Int × Value)) (l' : List Int) (a' : Option Addr) (c' : Nat), (Value.slice a3 (l.length + 1) c3) = .slice a' l'.length c' ∧ Row w3 3 1 (.slice a' l'.length c') l'.length (intCells l') ∧ IterAt w3 w1.heap.size g.mh (kvsH A) left ∧ RootsOf A left l' ∧ l'.length + left.length = A.queue.length + A.handles.length ∧ Chg (fun _ => False) w w3 ∧ (∀ b, rowBlk (.slice a' l'.length c') = some b → w.heap.size ≤ b ∧ b ≠ w1.heap.size) ∧ left.length ≤ gk - 1) := by
     refine ⟨delKV (p :: left) k, l ++ [x], a3, c3, by simp, ?_, hit3, hro2, by simp only [List.length_append, List.length_singleton]; omega, (hC.trans hC2 (fun j hj h => absurd h (by omega))).trans hC3 (fun j hj h => absurd (hn j h).1 (by omega)), ?_, by omega⟩
     · rw [List.length_append, List.length_singleton] at hrow3 ⊢;exact hrow3
     · intro b hb;rw [List.length_append, List.length_singleton] at hb;rcases hloc3 b hb with h | h
       · exact hn b h
       · omega
    have Hhrun := Lib.hid hrun;clear hrow hro hlen hC hn hit hrow2 hrow3 hit2 hit3 hro2 hin hx hC2 hC3 hloc3
    go_wp2_with (first | (at_next; go_must (refine wpList_val rfl (exec_next rfl (by exact hrun)) ?_)) | (at_builtin; go_must (refine wpList_val rfl (exec_append rfl happ) ?_)))
    go_roundg (gk - 1)
    case measure => omega
    case rel => exact HF.out
def kvO (g : Gh) (l : List (Int × Ob)) : List (Int × Value) := l.map fun p => (p.1, .pointer (some ⟨g.ob p.1, 0, none⟩))
def delO (l : List (Int × Ob)) (k : Int) : List (Int × Ob) := l.filter fun p => p.1 ≠ k
theorem delKV_kvO (g : Gh) (l : List (Int × Ob)) (k : Int) : delKV (kvO g l) k = kvO g (delO l k) := by
 simp [delKV, kvO, delO, List.filter_map, Function.comp_def]
theorem kvO_nodup {l : List (Int × Ob)} (h : ((kvO g l).map (·.1)).Nodup) : (l.map (·.1)).Nodup := by
 simpa [kvO, List.map_map, Function.comp_def] using h
theorem Rep.nodup (h : Rep w g A) : (A.objs.map (·.1)).Nodup := kvO_nodup (g := g) h.mo.nodup
theorem mem_kvO {l : List (Int × Ob)} : (k, v) ∈ kvO g l ↔ ∃ o, v = .pointer (some ⟨g.ob k, 0, none⟩) ∧ (k, o) ∈ l := by
 simp only [kvO, List.mem_map, Prod.mk.injEq];constructor
 · rintro ⟨p, hp, rfl, rfl⟩; exact ⟨p.2, rfl, hp⟩
 · rintro ⟨x, rfl, hx⟩; exact ⟨_, hx, rfl, rfl⟩
theorem iterO_more {r : Nat} {kvs : List (Int × Value)} {left : List (Int × Ob)} (h : IterAt w r b kvs (kvO g left)) (hl : left ≠ []) :
 ∃ k o w', (k, o) ∈ left ∧ (Instr.next (.pointer (some ⟨r, 0, none⟩)) false 0).run P w = .ok (.tuple #[.bool true, .int .i64 k, .pointer (some ⟨g.ob k, 0, none⟩)]) w' ∧ IterAt w' r b kvs (kvO g (delO left k)) ∧
   (Instr.entry (.pointer (some ⟨r, 0, none⟩))).run P w' = .ok (.tuple #[.int .i64 k, .pointer (some ⟨g.ob k, 0, none⟩)]) w' ∧ Chg (fun x => x = r) w w' := by
 obtain ⟨k, v, w', h1, h2, h3, h4, h5⟩ := iter_more (P := P) h (by simpa [kvO] using hl) 0;obtain ⟨o, rfl, ho⟩ := mem_kvO.1 h1;rw [delKV_kvO] at h3;exact ⟨k, o, w', ho, h2, h3, h4, h5⟩
theorem length_delO {l : List (Int × Ob)} (hn : (l.map (·.1)).Nodup) (h : (k, o) ∈ l) : (delO l k).length + 1 = l.length := by
 have := length_delKV (kvs := l.map fun p => (p.1, Value.int .i64 p.1)) (by simpa [List.map_map, Function.comp_def] using hn) (k := k) (v := .int .i64 k) (List.mem_map.2 ⟨_, h, rfl⟩);have e : (delKV (l.map fun p => (p.1, Value.int .i64 p.1)) k).length = (delO l k).length := by simp [delKV, delO, List.filter_map, Function.comp_def]
 rw [e] at this;simpa using this
theorem sum_delO (f : Int × Ob → Nat) {k : Int} {o : Ob} : ∀ {l : List (Int × Ob)}, (l.map (·.1)).Nodup → (k, o) ∈ l → ((delO l k).map f).sum + f (k, o) = (l.map f).sum
 | [], _, h => by cases h
 | p :: l, hn, h => by
   simp only [List.map_cons, List.nodup_cons] at hn;rcases List.mem_cons.1 h with rfl | h
   · have e : delO ((k, o) :: l) k = l := by
      simp only [delO, List.filter_cons, ne_eq, not_true_eq_false, decide_false, Bool.false_eq_true, if_false];rw [List.filter_eq_self];intro p hp;simp only [decide_not, Bool.not_eq_true', decide_eq_false_iff_not];intro e;exact hn.1 (List.mem_map.2 ⟨p, hp, e⟩)
     rw [e]; simp; omega
   · have hne : p.1 ≠ k := fun e => hn.1 (List.mem_map.2 ⟨_, h, e.symm⟩);have e : delO (p :: l) k = p :: delO l k := by simp [delO, hne]
     have := sum_delO f hn.2 h;rw [e]; simp; omega
theorem mem_delO {l : List (Int × Ob)} {j : Int} : (j, o) ∈ delO l k ↔ (j, o) ∈ l ∧ j ≠ k := by simp [delO]
def Ob.words (o : Ob) : Nat := 1 + o.size + 3 * o.ents.length
def objsWords (l : List (Int × Ob)) : Nat := (l.map fun p => p.2.words).sum
def St.used (A : St) : Nat := objsWords A.objs
theorem objsWords_mem {l : List (Int × Ob)} (h : (k, o) ∈ l) : o.words ≤ objsWords l := by
 unfold objsWords
 induction l with
 | nil => cases h
 | cons p l ih =>
   rcases List.mem_cons.1 h with rfl | h
   · simp
   · have := ih h; simp; omega
theorem used_any (hR : Rep w g A) (hb : A.used ≤ 1000000000000) :
 Calls Tryz.prog 57 #[.pointer (some ⟨g.hb, 0, none⟩)] w fun e w' => e = .returned (.int .i64 A.used) ∧ Chg (fun _ => False) w w' := by
 refine ret_k fun K hK => ?_;have c0 : w.cell? ⟨g.hb, 0, none⟩ = some (.map (some g.mo)) := hR.c 0;have HR := Lib.hid hR;have HK := Lib.hid hK;clear hK
 go_enter Tryz.func57, Tryz.ntmps57
 go_wp2_with (at_range; obtain ⟨o', hrun, hit⟩ := run_range_map (P := Tryz.prog) hR.mo uMapO; refine wpList_val rfl (exec_range rfl hrun) ?_)
 have HIt := Lib.hid hit;clear hit hrun hR c0
 go_frame
 go_loopg [3] (A.objs.length) (fun num v3 wr => ∃ (left : List (Int × Ob)) (n : Nat), v3 = .int .i64 n ∧ IterAt wr w.heap.size g.mo (kvsO g A) (kvO g left) ∧ left.Sublist A.objs ∧ n + objsWords left = A.used ∧ Chg (fun _ => False) w wr ∧ left.length ≤ num)
 case atStart => exact ⟨A.objs, 0, rfl, HIt.out, List.Sublist.refl _, by simp [St.used], (Chg.refl _ _).alloc _, Nat.le_refl _⟩
 case round =>
  obtain ⟨left, n, rfl, hit, hsub, hsum, hC, hnum⟩ := hrel;clear HIt;cases left with
  | nil =>
    have hrun := fun ty => run_next_over (P := Tryz.prog) hit ty;have e : n = A.used := by simpa [objsWords] using hsum
    subst e;have HF := Lib.hid (HK.out _ _ ⟨rfl, hC⟩);clear hit hC hsum hsub
    go_wp2_with (at_next; go_must (refine wpList_val rfl (exec_next rfl (by exact hrun _)) ?_))
    go_ret;exact HF.out
  | cons p left =>
    obtain ⟨k, o, w2, hin, hrun, hit2, hent, hC2⟩ := iterO_more (P := Tryz.prog) hit (by simp);have hnd := kvO_nodup hit.nodup;have hd := length_delO hnd hin;have hd2 : objsWords (delO (p :: left) k) + o.words = objsWords (p :: left) := sum_delO (fun p => p.2.words) hnd hin;have hpos : 1 ≤ gk := by simp only [List.length_cons] at hnum; omega
    have hsub2 : (delO (p :: left) k).Sublist A.objs := List.filter_sublist.trans hsub;have hC3 : Chg (fun _ => False) w w2 := hC.trans hC2 (fun j hj h => absurd h (by omega));have hle := objsWords_mem hin;have hwd := words_any ((HR.out.frame hC3 (fun _ h => h.elim)).obj k o (hsub.subset hin)) (by unfold Ob.words at hle; omega) (by unfold Ob.words at hle; omega);have hww : (1 + (o.size : Int) + 3 * (o.ents.length : Int)) = (o.words : Int) := by unfold Ob.words; omega
    rw [hww] at hwd;clear hww;have w1 : IntKind.i64.wrap ((n : Int) + (o.words : Int)) = ((n + o.words : Nat) : Int) := by rw [IntWalk.i64_in _ (by omega)]; omega
    have HF : Hid (∀ k', ∃ (left : List (Int × Ob)) (m : Nat), Value.int .i64 ((n + o.words : Nat) : Int) = .int .i64 (m : Int) ∧ IterAt (w2.drewN k') w.heap.size g.mo (kvsO g A) (kvO g left) ∧ left.Sublist A.objs ∧ m + objsWords left = A.used ∧ Chg (fun _ => False) w (w2.drewN k') ∧ left.length ≤ gk - 1) :=
     fun k' => ⟨_, n + o.words, rfl, hit2.same rfl rfl, hsub2, by unfold objsWords at *; omega, hC3.drewN k', by omega⟩
    have HW := Lib.hid hwd;clear hwd hit hit2 hC hC2 hC3 hsub hsub2 hin hle hd hd2 hsum hnd
    go_wp2_with (first | (at_next; go_must (refine wpList_val rfl (exec_next rfl (by exact hrun)) ?_)) | (go_at_call 107; refine HW.out.mono ?_; rintro e w4 ⟨rfl, k', rfl⟩))
    go_roundg (gk - 1)
    case measure => omega
    case rel => exact HF.out k'
theorem Rep.relabel (hR : Rep w g A) (own' : Nat → Option Role) (h : ∀ b r, g.own b = some r → own' b = some r) (hlt : ∀ b, (own' b).isSome → b < w.heap.size) : Rep w { g with own := own' } A := by
 have rw' : ∀ {r e sz v n xs}, RowAt w g r e sz v n xs → RowAt w { g with own := own' } r e sz v n xs := fun k => ⟨k.row, fun b hb => h b _ (k.own b hb)⟩
 exact { lt := hlt, ohs := h _ _ hR.ohs, omo := h _ _ hR.omo, omh := h _ _ hR.omh, omr := h _ _ hR.omr, olb := h _ _ hR.olb, hs := hR.hs, mo := hR.mo, mh := hR.mh, mr := hR.mr, lb := hR.lb,
         rF := rw' hR.rF, rN := rw' hR.rN, rT := rw' hR.rT, rR := rw' hR.rR, rQ := rw' hR.rQ,
         obj := fun n o hm => let k := hR.obj n o hm; ⟨h _ _ k.own, k.blk, k.row, fun b hb => h _ _ (k.rown b hb)⟩ }
def Gh.lab (g : Gh) (v : Value) (r : Role) (b : Nat) : Option Role := if rowBlk v = some b then some r else g.own b
theorem Gh.lab_none (h : g.own b = none) (hv : rowBlk v ≠ some b) : g.lab v r b = none := by simp [Gh.lab, h, hv]
theorem Step.fin {g' : Gh} (hS : Step w0 g0 A0 w g) (hC : Chg (fun b => (g.own b).isSome) w w') 
 (hloc : ∀ b, rowBlk v1 = some b → g.own b = some r ∨ (g.own b = none ∧ w0.heap.size ≤ b)) (ho : g'.own = g.lab v1 r)
 (e1 : g'.hb = g.hb) (e2 : g'.mo = g.mo) (e3 : g'.mh = g.mh) (e4 : g'.mr = g.mr) (e5 : g'.lb = g.lb) (e6 : g'.ob = g.ob) : Step w0 g0 A0 w' g' := by
 refine ⟨hS.chg.trans hC (fun j hj hh => by rw [hS.own j hj hh] at hh; exact hh), ?_, e1.trans hS.hb, e2.trans hS.mo, e3.trans hS.mh, e4.trans hS.mr, e5.trans hS.lb, fun n hn => by rw [e6]; exact hS.ob n hn⟩;intro b hb hs;rw [ho] at hs ⊢;unfold Gh.lab at hs ⊢
 split
 · rename_i h
   rcases hloc b h with h' | ⟨_, h'⟩
   · have := hS.own b hb (by rw [h']; rfl);rw [← this, h']
   · omega
 · rename_i h
   rw [if_neg h] at hs;exact hS.own b hb hs
theorem Rep.lab0 (hR : Rep w g A) (hloc : ∀ b, rowBlk v1 = some b → g.own b = some r ∨ g.own b = none) :
 Rep w { g with own := fun b => if b < w.heap.size then g.lab v1 r b else none } A := by
 refine hR.relabel _ ?_ ?_
 · intro b x hb;rw [if_pos (hR.lt b (by rw [hb]; rfl))];unfold Gh.lab
   split
   · rename_i h
     rcases hloc b h with h' | h'
     · rw [h'] at hb; exact hb
     · rw [h'] at hb; cases hb
   · exact hb
 · intro b hb
   split at hb
   · assumption
   · cases hb
theorem lab_lt (hR : Rep w g A) (hs : w.heap.size ≤ w'.heap.size) (hv : ∀ b, rowBlk v1 = some b → b < w'.heap.size) : ∀ b, (g.lab v1 r b).isSome → b < w'.heap.size := by
 intro b hb;unfold Gh.lab at hb
 split at hb
 · rename_i h; exact hv b h
 · exact Nat.lt_of_lt_of_le (hR.lt b hb) hs
theorem lab0_chg (hR : Rep w g A) {vQ : Value} (hrow : ∀ b, rowBlk vQ = some b → g.own b = some r) (hloc : ∀ b, rowBlk v1 = some b → g.own b = some r ∨ g.own b = none)
 (hC : Chg (fun b => b = g.hb ∨ rowBlk vQ = some b) w w') : ChgR { g with own := fun b => if b < w.heap.size then g.lab v1 r b else none } (fun x => x = .hs ∨ x = r) w w' ∧ Chg (fun b => (g.own b).isSome) w w' := by
 constructor
 · refine hC.mono fun b hb h x hx => ?_;simp only [if_pos hb] at hx;have hk : ∀ y, g.own b = some y → y = x := fun y hy => by
    unfold Gh.lab at hx
    split at hx
    · rename_i h2
      rcases hloc b h2 with h' | h'
      · rw [h'] at hy; simp only [Option.some.injEq] at hy hx; rw [← hy, hx]
      · rw [h'] at hy; cases hy
    · rw [hy] at hx; simpa using hx
   rcases h with rfl | h
   · exact .inl (hk _ hR.ohs).symm
   · exact .inr (hk _ (hrow b h)).symm
 · refine hC.mono fun b _ h => ?_;rcases h with rfl | h
   · rw [hR.ohs]; rfl
   · rw [hrow b h]; rfl
theorem Rep.setQ (hR : Rep w g A) (hS : Step w0 g0 A0 w g) (hC : Chg (fun b => b = g.hb ∨ rowBlk g.vQ = some b) w w')
 (hhs : w'.heap[g.hb]? = some (.cells ((hsCells g A).setIfInBounds 7 v1) 74 (0, 0)))
 (hrow : Row w' 3 1 v1 l.length (intCells l)) (hloc : ∀ b, rowBlk v1 = some b → g.own b = some .queue ∨ (g.own b = none ∧ w0.heap.size ≤ b)) :
 Rep w' { g with vQ := v1, own := g.lab v1 .queue } { A with queue := l } ∧ Step w0 g0 A0 w' { g with vQ := v1, own := g.lab v1 .queue } := by
 have hloc' : ∀ b, rowBlk v1 = some b → g.own b = some .queue ∨ g.own b = none := fun b hb => (hloc b hb).imp id (·.1);obtain ⟨h1, h2⟩ := lab0_chg (r := .queue) hR hR.rQ.own hloc' hC;refine ⟨?_, hS.fin h2 hloc rfl rfl rfl rfl rfl rfl rfl⟩;exact (hR.lab0 hloc').move h1 (lab_lt hR hC.size (fun b hb => hrow.lt hb)) (fun b hb => by simp [if_pos hb]) (hs := .inr hhs) (mh := .inl ⟨by simp, rfl⟩) (mr := .inl ⟨by simp, rfl⟩)
  (rQ := .inr ⟨hrow, fun b hb => by simp [Gh.lab, hb]⟩) (obj := fun n o h => .inl ⟨h, rfl, rfl, by simp, by simp⟩)
theorem Rep.setR (hR : Rep w g A) (hS : Step w0 g0 A0 w g) (hC : Chg (fun b => b = g.hb ∨ rowBlk g.vR = some b) w w')
 (hhs : w'.heap[g.hb]? = some (.cells ((hsCells g A).setIfInBounds 6 v1) 74 (0, 0)))
 (hrow : Row w' 3 1 v1 l.length (intCells l)) (hloc : ∀ b, rowBlk v1 = some b → g.own b = some .reg ∨ (g.own b = none ∧ w0.heap.size ≤ b)) :
 Rep w' { g with vR := v1, own := g.lab v1 .reg } { A with reg := l } ∧ Step w0 g0 A0 w' { g with vR := v1, own := g.lab v1 .reg } := by
 have hloc' : ∀ b, rowBlk v1 = some b → g.own b = some .reg ∨ g.own b = none := fun b hb => (hloc b hb).imp id (·.1);obtain ⟨h1, h2⟩ := lab0_chg (r := .reg) hR hR.rR.own hloc' hC;refine ⟨?_, hS.fin h2 hloc rfl rfl rfl rfl rfl rfl rfl⟩;exact (hR.lab0 hloc').move h1 (lab_lt hR hC.size (fun b hb => hrow.lt hb)) (fun b hb => by simp [if_pos hb]) (hs := .inr hhs) (mh := .inl ⟨by simp, rfl⟩) (mr := .inl ⟨by simp, rfl⟩)
  (rR := .inr ⟨hrow, fun b hb => by simp [Gh.lab, hb]⟩) (obj := fun n o h => .inl ⟨h, rfl, rfl, by simp, by simp⟩)
theorem Rep.none_of_ge (hR : Rep w g A) (h : w.heap.size ≤ b) : g.own b = none := by
 cases hb : g.own b with
 | none => rfl
 | some r => have := hR.lt b (by rw [hb]; rfl); omega
theorem Rep.pushQ (hR : Rep w g A) (hS : Step w0 g0 A0 w g) (n : Int) (hT : A.queue.length < 1000000000000) :
 ∃ a0 c0 a cap w3, g.vQ = .slice a0 A.queue.length c0 ∧ (Builtin.append_ #[23, 23] 23 #[.slice a0 A.queue.length c0, .slice (some ⟨w.heap.size, 0, none⟩) 1 1]).run Tryz.prog (w.alloc (.cells #[.int .i64 n] 3)) = .ok (.slice a (A.queue.length + 1) cap) w3 ∧
   (∃ x, w3.cell? ⟨g.hb, 7, none⟩ = some x) ∧ w3.frozen? ⟨g.hb, 7, none⟩ = false ∧
   Rep (w3.setCell ⟨g.hb, 7, none⟩ (.slice a (A.queue.length + 1) cap)) { g with vQ := .slice a (A.queue.length + 1) cap, own := g.lab (.slice a (A.queue.length + 1) cap) .queue } { A with queue := A.queue ++ [n] } ∧
   Step w0 g0 A0 (w3.setCell ⟨g.hb, 7, none⟩ (.slice a (A.queue.length + 1) cap)) { g with vQ := .slice a (A.queue.length + 1) cap, own := g.lab (.slice a (A.queue.length + 1) cap) .queue } ∧
   (∀ b, b < w.heap.size → g.lab (.slice a (A.queue.length + 1) cap) .queue b = g.own b) := by
 obtain ⟨a0, c0, hv, _, _, _⟩ := hR.rQ.row.slice;obtain ⟨a, cap, w3, happ, hrow, hC, hloc⟩ := app1 hR.rQ.row n hT;rw [hv] at happ;have hhb : rowBlk g.vQ ≠ some g.hb := fun h => by have := hR.rQ.own _ h; rw [hR.ohs] at this; cases this
 have hhs : w3.heap[g.hb]? = some (.cells (hsCells g A) 74 (0, 0)) := hC.at hR.hs hhb;have hC2 : Chg (fun b => b = g.hb ∨ rowBlk g.vQ = some b) w (w3.setCell ⟨g.hb, 7, none⟩ (.slice a (A.queue.length + 1) cap)) := (hC.mono (fun _ _ h => .inr h)).setCell (fun _ => .inl rfl) _;have hne : ∀ b, rowBlk (.slice a (A.queue.length + 1) cap) = some b → b ≠ g.hb := fun b hb e => by
  rcases hloc b hb with h | h
  · exact hhb (by rw [h, e])
  · have := hR.lt g.hb (by rw [hR.ohs]; rfl); omega
 have hq := hR.setQ hS (v1 := .slice a (A.queue.length + 1) cap) (l := A.queue ++ [n]) hC2 (heap_setCell hhs 7 _) (hrow.same fun b hb => heap_setCell_ne (hne b hb) _)
  (fun b hb => by
   rcases hloc b hb with h | h
   · exact .inl (hR.rQ.own b h)
   · exact .inr ⟨hR.none_of_ge h, Nat.le_trans hS.chg.size h⟩)
 refine ⟨a0, c0, a, cap, w3, hv, happ, ⟨_, by rw [cellAt hhs]; rfl⟩, freeAt hhs _, hq.1, hq.2, ?_⟩;intro b hb;unfold Gh.lab
 split
 · rename_i h
   rcases hloc b h with h' | h'
   · exact (hR.rQ.own b h').symm
   · omega
 · rfl
noncomputable def dec (p : Prop) : Bool := @decide p (Classical.propDecidable p)
theorem dec_iff {p : Prop} : dec p = true ↔ p := by unfold dec; simp
theorem dec_false {p : Prop} : dec p = false ↔ ¬ p := by unfold dec; simp
theorem decide_dec {p q : Prop} [Decidable p] (h : p ↔ q) : decide p = dec q := by
 by_cases hp : p
 · rw [decide_eq_true hp, dec_iff.2 (h.1 hp)]
 · rw [decide_eq_false hp, dec_false.2 (fun hq => hp (h.2 hq))]
def St.roots (A : St) : List Int := A.queue ++ A.handles.map (·.2)
theorem mem_roots : n ∈ A.roots ↔ n ∈ A.queue ∨ ∃ p ∈ A.handles, p.2 = n := by simp [St.roots]
theorem Reach.congr (h : ∀ n, n ∈ l → n ∈ l') (hr : Reach A l n) : Reach A l' n := by
 induction hr with
 | root h1 => exact .root (h _ h1)
 | field _ ho ht hm ih => exact .field ih ho ht hm
 | entry _ ho ht hx _ hr ih1 ih2 => exact .entry ih1 ho ht hx ih2 hr
theorem Reach.congr_iff (h : ∀ n, n ∈ l ↔ n ∈ l') (n : Int) : Reach A l n ↔ Reach A l' n := ⟨Reach.congr fun n hn => (h n).1 hn, Reach.congr fun n hn => (h n).2 hn⟩
noncomputable def St.awaited (A : St) : St :=
 { A with queue := A.queue ++ A.reg.filter (fun n => !dec (Reach A A.roots n)), reg := A.reg.filter (fun n => dec (Reach A A.roots n)) }
theorem look_set (h : MapAt w m (S.map fun n => (n, .bool true))) (n : Int) : (Instr.lookup 68 (.map (some m)) (.int .i64 n) false).run Tryz.prog w = .ok (.bool (decide (n ∈ S))) w := by
 have hl := run_lookup_map (P := Tryz.prog) h uMapB uInt zBool n false;rw [lookup_set] at hl;rw [hl];by_cases hn : n ∈ S <;> simp [hn]
theorem filter_take_succ {k : Nat} (p : Int → Bool) (hk : k < l.length) : (l.take (k + 1)).filter p = (l.take k).filter p ++ (if p (l[k]) then [l[k]] else []) := by
 rw [List.take_succ_eq_append_getElem hk, List.filter_append, List.filter_cons, List.filter_nil]
structure AwI (w : World) (g : Gh) (A : St) (m : Nat) (S : List Int) (p : Int → Bool) (wr : World) (gr : Gh) (k : Nat) (v : Value) : Prop where
 rep : Rep wr gr { A with queue := A.queue ++ (A.reg.take k).filter (fun n => !p n) }
 step : Step w g A wr gr
 vR : gr.vR = g.vR
 map : MapAt wr m (S.map fun n => (n, .bool true))
 mo : gr.own m = none
 row : Row wr 3 1 v ((A.reg.take k).filter p).length (intCells ((A.reg.take k).filter p))
 fresh : ∀ b, rowBlk v = some b → w.heap.size ≤ b ∧ gr.own b = none ∧ b ≠ m
theorem AwI.keep {k : Nat} 
 (h : AwI w g A m S p wr gr k (.slice sa ((A.reg.take k).filter p).length sc)) (hk : k < A.reg.length) (hp : p (A.reg[k]) = true) (hT : A.reg.length < 1000000000000) :
 ∃ a cap w', (Builtin.append_ #[23, 23] 23 #[.slice sa ((A.reg.take k).filter p).length sc, .slice (some ⟨wr.heap.size, 0, none⟩) 1 1]).run Tryz.prog (wr.alloc (.cells #[.int .i64 (A.reg[k])] 3)) = .ok (.slice a ((A.reg.take (k + 1)).filter p).length cap) w' ∧
   AwI w g A m S p w' gr (k + 1) (.slice a ((A.reg.take (k + 1)).filter p).length cap) := by
 have e : (A.reg.take (k + 1)).filter p = (A.reg.take k).filter p ++ [A.reg[k]] := by rw [filter_take_succ _ hk]; simp [hp]
 have e2 : (A.reg.take (k + 1)).filter (fun n => !p n) = (A.reg.take k).filter (fun n => !p n) := by rw [filter_take_succ _ hk]; simp [hp]
 have hle : ((A.reg.take k).filter p).length ≤ A.reg.length := Nat.le_trans (List.length_filter_le _ _) (List.length_take_le' _ _);obtain ⟨a, cap, w3, happ, hrow, hC, hloc⟩ := app1 h.row (A.reg[k]) (by omega);rw [e, List.length_append, List.length_singleton];refine ⟨a, cap, w3, happ, ?_, ?_, h.vR, ?_, h.mo, ?_, ?_⟩
 · rw [e2]; exact h.rep.frame hC (fun b hb => (h.fresh b hb).2.1)
 · exact ⟨h.step.chg.trans hC (fun j hj hb => absurd (h.fresh j hb).1 (by omega)), h.step.own, h.step.hb, h.step.mo, h.step.mh, h.step.mr, h.step.lb, h.step.ob⟩
 · exact h.map.same (hC.block m h.map.lt (fun hb => (h.fresh m hb).2.2 rfl))
 · rw [e]; simpa using hrow
 · intro b hb;rcases hloc b hb with h1 | h1
   · exact h.fresh b h1
   · exact ⟨Nat.le_trans h.step.chg.size h1, h.rep.none_of_ge h1, fun e => by have := h.map.lt; omega⟩
theorem AwI.drop {k : Nat} 
 (h : AwI w g A m S p wr gr k (.slice sa ((A.reg.take k).filter p).length sc)) (hk : k < A.reg.length) (hp : p (A.reg[k]) = false) (hT : A.queue.length + A.reg.length < 1000000000000) :
 ∃ q0 c0 n0 a n1 cap w3 gr', wr.cell? ⟨g.hb, 7, none⟩ = some (.slice q0 n0 c0) ∧ (Builtin.append_ #[23, 23] 23 #[.slice q0 n0 c0, .slice (some ⟨wr.heap.size, 0, none⟩) 1 1]).run Tryz.prog (wr.alloc (.cells #[.int .i64 (A.reg[k])] 3)) = .ok (.slice a n1 cap) w3 ∧
   (∃ x, w3.cell? ⟨g.hb, 7, none⟩ = some x) ∧ w3.frozen? ⟨g.hb, 7, none⟩ = false ∧
   AwI w g A m S p (w3.setCell ⟨g.hb, 7, none⟩ (.slice a n1 cap)) gr' (k + 1) (.slice sa ((A.reg.take (k + 1)).filter p).length sc) := by
 have e : (A.reg.take (k + 1)).filter p = (A.reg.take k).filter p := by rw [filter_take_succ _ hk]; simp [hp]
 have e2 : (A.reg.take (k + 1)).filter (fun n => !p n) = (A.reg.take k).filter (fun n => !p n) ++ [A.reg[k]] := by rw [filter_take_succ _ hk]; simp [hp]
 have hle : ((A.reg.take k).filter (fun n => !p n)).length ≤ A.reg.length := Nat.le_trans (List.length_filter_le _ _) (List.length_take_le' _ _);have hhb : gr.hb = g.hb := h.step.hb;obtain ⟨a0, c0, a, cap, w3, hv, happ, hx, hf, hR, hS, hl⟩ := h.rep.pushQ (Step.refl wr gr _) (A.reg[k]) (by simp only [List.length_append]; omega);rw [← hhb];refine ⟨a0, c0, _, a, _, cap, w3, { gr with vQ := .slice a ((A.queue ++ (A.reg.take k).filter (fun n => !p n)).length + 1) cap, own := gr.lab (.slice a ((A.queue ++ (A.reg.take k).filter (fun n => !p n)).length + 1) cap) .queue }, ?_, happ, hx, hf, ⟨?_, h.step.trans (A' := A) ?_ (Int.le_refl _), h.vR, ?_, ?_, ?_, ?_⟩⟩
 · rw [h.rep.c 7];simp [hsCells, hv]
 · rw [e2, ← List.append_assoc]; exact hR
 · exact ⟨hS.chg, hS.own, hS.hb, hS.mo, hS.mh, hS.mr, hS.lb, hS.ob⟩
 · exact h.map.same (hS.chg.block m h.map.lt (by rw [h.mo]; simp))
 · show gr.lab _ _ m = none;rw [hl m h.map.lt]; exact h.mo
 · rw [e];exact h.row.same fun b hb => hS.chg.block b (h.row.lt hb) (by rw [(h.fresh b hb).2.1]; simp)
 · rw [e];intro b hb;refine ⟨(h.fresh b hb).1, ?_, (h.fresh b hb).2.2⟩;show gr.lab _ _ b = none;rw [hl b (h.row.lt hb)]; exact (h.fresh b hb).2.1
theorem AwI.fin 
 (h : AwI w g A m S p wr gr A.reg.length v) : ∃ g', (∃ x, wr.cell? ⟨g.hb, 6, none⟩ = some x) ∧ wr.frozen? ⟨g.hb, 6, none⟩ = false ∧
  Rep (wr.setCell ⟨g.hb, 6, none⟩ v) g' { A with queue := A.queue ++ A.reg.filter (fun n => !p n), reg := A.reg.filter p } ∧ Step w g A (wr.setCell ⟨g.hb, 6, none⟩ v) g' := by
 have hrep := h.rep;have hrow := h.row;rw [List.take_length] at hrep hrow;have hhb : gr.hb = g.hb := h.step.hb;have hq := hrep.setR h.step (v1 := v) (l := A.reg.filter p) (w' := wr.setCell ⟨g.hb, 6, none⟩ v) ((Chg.refl _ _).setCell (fun _ => .inl hhb.symm) _) (by rw [hhb]; exact heap_setCell (by rw [← hhb]; exact hrep.hs) 6 _)
  (hrow.same fun b hb => heap_setCell_ne (fun e => by have h1 := (h.fresh b hb).2.1; have := hrep.ohs; rw [hhb] at this; rw [e] at h1; simp only [this] at h1; cases h1) _)
  (fun b hb => .inr ⟨(h.fresh b hb).2.1, (h.fresh b hb).1⟩)
 have hs := hrep.hs;rw [hhb] at hs;exact ⟨_, ⟨_, by rw [cellAt hs]; rfl⟩, freeAt hs _, hq.1, hq.2⟩
theorem await_any (hR : Rep w g A) (hf : Fit A) (hcl : Closed A) (hd : ∀ n ∈ A.roots, (A.objs.lookup n).isSome)
 (hbig : A.queue.length + A.handles.length + A.reg.length < 100000000000) :
 Calls Tryz.prog 82 #[.pointer (some ⟨g.hb, 0, none⟩)] w fun e w' => e = .returned (.tuple #[]) ∧ ∃ g', Rep w' g' A.awaited ∧ Step w g A w' g' := by
 refine ret_k fun K hK => ?_;have hro := roots_any hR (by omega);have hro2 : Calls Tryz.prog 74 #[.pointer (some ⟨g.hb, 0, none⟩)] w fun e w1 => ∃ (v : Value), e = .returned v ∧ Hid (Chg (fun _ => False) w w1) ∧
  Hid (Calls Tryz.prog 117 #[.pointer (some ⟨g.hb, 0, none⟩), v] w1 fun e w' =>
   ∃ (m : Nat) (S : List Int), e = .returned (.map (some m)) ∧ MapAt w' m (S.map fun n => (n, .bool true)) ∧ (∀ n, n ∈ S ↔ Reach A A.roots n) ∧ w1.heap.size ≤ m ∧ Chg (fun _ => False) w1 w') := by
  refine hro.mono ?_;rintro e w1 ⟨v, l, rfl, hrow, hmem, hlen, hC, -⟩;have hml : ∀ n, n ∈ l ↔ n ∈ A.roots := fun n => (hmem n).trans mem_roots.symm;refine ⟨v, rfl, hC, ?_⟩;refine (reached_any (hR.frame hC (fun _ h => h.elim)) hf hcl hrow (fun n hn => hd n ((hml n).1 hn)) (by omega)).mono ?_;rintro e w2 ⟨m, S, rfl, h1, h2, h3, h4⟩;exact ⟨m, S, rfl, h1, fun n => (h2 n).trans (Reach.congr_iff hml n), h3, h4⟩
 have HRo := Lib.hid hro2;clear hro hro2 hf hcl hd;obtain ⟨ra, rc, hrv, _, _, _⟩ := hR.rR.row.slice;have HRv := Lib.hid hrv;have HR := Lib.hid hR;have HK := Lib.hid hK;clear hR hK hrv
 go_enter Tryz.func82, Tryz.ntmps82
 go_wp2_with (go_at_call 74; refine HRo.out.mono ?_; rintro e w1 ⟨v, rfl, HC1, HRe⟩)
 have hreach : Calls Tryz.prog 117 #[.pointer (some ⟨g.hb, 0, none⟩), v] w1 fun e w' => ∃ (m : Nat) (S : List Int), e = .returned (.map (some m)) ∧ w'.cell? ⟨g.hb, 6, none⟩ = some (.slice ra A.reg.length rc) ∧
  Hid (AwI w g A m S (fun n => dec (Reach A A.roots n)) w' g 0 (.slice none 0 0) ∧ ∀ n, decide (n ∈ S) = dec (Reach A A.roots n)) := by
  refine HRe.out.mono ?_;rintro e w2 ⟨m, S, rfl, h1, h2, h3, h4⟩;have hC : Chg (fun _ => False) w w2 := HC1.out.trans h4 (fun _ _ h => h);have hR2 := HR.out.frame hC (fun _ h => h.elim);refine ⟨m, S, rfl, ?_, ⟨⟨?_, ⟨hC.mono fun _ _ h => h.elim, fun _ _ _ => rfl, rfl, rfl, rfl, rfl, rfl, fun _ _ => rfl⟩, rfl, h1, ?_, Row.nil _ _ _, fun b hb => by simp [rowBlk] at hb⟩, fun n => decide_dec (h2 n)⟩⟩
  · rw [hR2.c 6]; simp [hsCells, HRv.out]
  · simpa using hR2
  · exact HR.out.none_of_ge (Nat.le_trans HC1.out.size h3)
 have HRe2 := Lib.hid hreach;clear hreach HRe HRo HC1
 go_wp2_with (go_at_call 117; refine HRe2.out.mono ?_; rintro e w2 ⟨m, S, rfl, c6, HI⟩)
 go_loopw [3, 15] (fun v3 i wr => ∃ (k : Nat) (gr : Gh) (sa : Option Addr) (sc : Nat), k ≤ A.reg.length ∧ i = .int .i64 k ∧ v3 = .slice sa ((A.reg.take k).filter (fun n => dec (Reach A A.roots n))).length sc ∧
  AwI w g A m S (fun n => dec (Reach A A.roots n)) wr gr k (.slice sa ((A.reg.take k).filter (fun n => dec (Reach A A.roots n))).length sc)) (fun _ i _ => A.reg.length - (intOf i).toNat)
 case atStart => exact ⟨0, g, none, 0, Nat.zero_le _, rfl, by simp, by simpa using HI.out.1⟩
 case round =>
  obtain ⟨k, gr, sa, sc, hk, rfl, rfl, hI⟩ := hrel;by_cases hlt : k < A.reg.length
  · obtain ⟨rb, rfl, cn⟩ : ∃ rb, ra = some ⟨rb, 0, none⟩ ∧ wr.cell? ⟨rb, k, none⟩ = some (.int .i64 (A.reg[k])) := by
     have hrow := hI.rep.rR.row;rw [hI.vR, HRv.out] at hrow;obtain ⟨rb, h1, _, h2⟩ := hrow.cells (by omega);exact ⟨rb, h1, h2 _ _ (by simp [intCells, hlt])⟩
    have hlook := look_set hI.map (A.reg[k]);rw [HI.out.2] at hlook;cases hp : dec (Reach A A.roots (A.reg[k])) with
    | true =>
      rw [hp] at hlook;obtain ⟨a, cap, w3, happ, hI3⟩ := hI.keep hlt hp (by omega);have HI3 := Lib.hid hI3;clear hI hI3 hp HI;generalize A.reg[k] = rk at *
      go_wp2_with (at_builtin; go_must (refine wpList_val rfl (exec_append rfl happ) ?_))
      go_roundw
      case rel => exact ⟨k + 1, gr, a, cap, by omega, by go_num, rfl, HI3.out⟩
      case measure => simp [intOf]; omega
    | false =>
      rw [hp] at hlook;obtain ⟨q0, c0, n0, a, n1, cap, w3, gr', c7, happ, ⟨x7, c7'⟩, f7, hI3⟩ := hI.drop hlt hp (by omega);have HI3 := Lib.hid hI3;have HE : Hid ((A.reg.take (k + 1)).filter (fun n => dec (Reach A A.roots n)) = (A.reg.take k).filter (fun n => dec (Reach A A.roots n))) := by
       show _ = _;rw [filter_take_succ _ hlt]; simp [hp]
      clear hI hI3 hp HI;generalize A.reg[k] = rk at *
      go_wp2_with (at_builtin; go_must (refine wpList_val rfl (exec_append rfl happ) ?_))
      go_roundw
      case rel => exact ⟨k + 1, gr', sa, sc, by omega, by go_num, by rw [HE.out], HI3.out⟩
      case measure => simp [intOf]; omega
  · have hke : k = A.reg.length := by omega
    subst hke;obtain ⟨g', ⟨x6, c6'⟩, f6, hR', hS'⟩ := hI.fin;have hF := HK.out _ _ ⟨rfl, g', hR', hS'⟩;simp only [List.take_length] at hF;have HF := Lib.hid hF;clear hI hR' hS' HI hF;go_wp2
    go_end0
    exact HF.out
theorem chg_setCells (g : Nat) : ∀ (vs : List Value) (o : Nat) (w : World), Chg (fun b => b = g) w (w.setCells g o vs)
 | [], _, w => Chg.refl _ w
 | v :: r, o, w => (chg_set1 w g o v).trans (chg_setCells g r (o + 1) _) (fun _ _ h => h)
theorem Row.setCells_keep {e : TypeId} {sz : Nat} {v : Value} {n : Nat} {xs : List Value} {g : Nat} (hg : rowBlk v = some g) : ∀ (vs : List Value) (o : Nat) (w : World), n * sz ≤ o → Row w e sz v n xs → Row (w.setCells g o vs) e sz v n xs
 | [], _, _, _, h => h
 | u :: r, o, w, ho, h => by
   refine Row.setCells_keep hg r (o + 1) _ (by omega) ?_;have := h.setCell hg o u
   rwa [List.set_eq_of_length_le (by rw [h.len]; exact ho)] at this
theorem run_clear_row {t e : TypeId} (ty : TypeId) {i : TypeInfo} {z : Value} {sz : Nat} (ht : P.underlying t = some (.slice e)) (hi : P.info? e = some i) (hz : i.zero = some z)
 (hzc : z.cells.size = sz) (hone : ∀ u ∈ z.cells.toList, u.oneCell' = true) (b o n c : Nat) (hc : ∀ j, j < n * sz → (w.cell? ⟨b, o + j, none⟩).isSome = true) (hf : ∀ j, w.frozen? ⟨b, o + j, none⟩ = false) :
 (Builtin.clear_ #[t] ty #[.slice (some ⟨b, o, none⟩) n c]).run P w = .ok (.tuple #[]) (w.setCells b o (Builtin.zeroCells z.cells n).toList) := by
 cases n with
 | zero =>
   have e0 : (Builtin.zeroCells z.cells 0).toList = [] := by simp [Builtin.zeroCells]
   rw [e0];simp [Builtin.clear_, run_underlying ht, World.setCells]
 | succ m =>
   have hl : (Builtin.zeroCells z.cells (m + 1)).toList.length = (m + 1) * sz := by simp [Builtin.zeroCells, hzc]
   have hst := run_storeCells_cells (P := P) b o (Builtin.zeroCells z.cells (m + 1)).toList 0 w (fun j hj => by rw [Nat.add_zero]; exact hc j (by omega)) (fun j _ => by rw [Nat.add_zero]; exact hf j) (by
    intro u hu;simp only [Builtin.zeroCells, Array.toList_map, Array.toList_range, List.mem_map, List.mem_range] at hu;obtain ⟨k, hk, rfl⟩ := hu;have hpos : 0 < z.cells.size := by
     rcases Nat.eq_zero_or_pos z.cells.size with h | h
     · rw [h, Nat.mul_zero] at hk; omega
     · exact h
    have hlt := Nat.mod_lt k hpos;rw [getElem!_pos z.cells _ hlt];exact hone _ (by simp))
   rw [Nat.add_zero] at hst;have hzv : ∀ w, (zeroValue e).run P w = .ok z w := fun w => by simp [zeroValue, typeInfo, hi, hz]
   simp [Builtin.clear_, run_underlying ht, hzv, hst]
def En.value (x : En) : Value := .agg #[.int .i64 x.key, .bool x.val.ref, .int .i64 x.val.num]
structure PredK (ff : FuncId) (first captured : Array Value) (p : En → Bool) (P : Nat → Prop) (I : World → Prop) : Prop where
 call : ∀ args w, (callFunc ff args).run Tryz.prog w = .ok (.enter ff args) w
 step : ∀ w x, I w → Calls Tryz.prog ff (first ++ #[En.value x] ++ captured) w fun e w' => e = .returned (.bool (p x)) ∧ Chg (fun _ => False) w w'
 keep : ∀ F w w', I w → Chg F w w' → (∀ b, P b → ¬ F b) → I w'
theorem Row.entCell (hrow : Row w 120 3 (.slice a es.length c) es.length (enCells es)) (k : Nat) (hk : k < es.length) :
 ∃ b, a = some ⟨b, 0, none⟩ ∧ rowBlk (.slice a es.length c) = some b ∧ w.cell? ⟨b, k * 3, none⟩ = some (.int .i64 (es[k]).key) ∧ w.cell? ⟨b, k * 3 + 1, none⟩ = some (.bool (es[k]).val.ref) ∧ w.cell? ⟨b, k * 3 + 2, none⟩ = some (.int .i64 (es[k]).val.num) := by
 obtain ⟨b, rfl, hb, hc⟩ := hrow.cells (by omega);have := enCells_get es k hk;exact ⟨b, rfl, hb, hc _ _ this.1, hc _ _ this.2.1, hc _ _ this.2.2⟩
def idxOf (p : En → Bool) (es : List En) : Int := match es.findIdx? p with
 | some i => i
 | none => -1
theorem idxOf_none {p : En → Bool} (h : ∀ x ∈ es, p x = false) : idxOf p es = -1 := by
 have : es.findIdx? p = none := List.findIdx?_eq_none_iff.2 (fun x hx => by rw [h x hx]);simp [idxOf, this]
theorem idxOf_some {p : En → Bool} {k : Nat} (hk : k < es.length) (h : ∀ x ∈ es.take k, p x = false) (hp : p (es[k]) = true) : idxOf p es = k := by
 have : es.findIdx? p = some k := by
  rw [List.findIdx?_eq_some_iff_getElem];refine ⟨hk, hp, fun j hj => ?_⟩;have := h (es[j]) (List.mem_take_iff_getElem.2 ⟨j, by omega, rfl⟩);simp [this]
 simp [idxOf, this]
theorem indexFunc_any {ff : FuncId} {p : En → Bool} {P : Nat → Prop} {I : World → Prop} (hP : PredK ff first captured p P I) (hI : I w) 
 (hrow : Row w 120 3 v es.length (enCells es)) (hb : es.length ≤ 1000000000000) :
 Calls Tryz.prog 111 #[v, .func (.func ff) first captured] w fun e w' => e = .returned (.int .i64 (idxOf p es)) ∧ Chg (fun _ => False) w w' := by
 obtain ⟨a, c, rfl, _, _, _⟩ := hrow.slice;refine ret_k fun K hK => ?_;have hcall := hP.call;have HK := Lib.hid hK;have HP := Lib.hid hP;have HI := Lib.hid hI;have HRow := Lib.hid hrow;clear hK hP hI hrow
 go_enter Tryz.func111, Tryz.ntmps111
 go_wp2
 go_loopw [8] (fun i wr => ∃ k : Nat, k ≤ es.length ∧ i = .int .i64 k ∧ (∀ x ∈ es.take k, p x = false) ∧ Chg (fun _ => False) w wr) (fun i _ => es.length - (intOf i).toNat)
 case atStart => exact ⟨0, Nat.zero_le _, rfl, by simp, Chg.refl _ _⟩
 case round =>
  obtain ⟨k, hk, rfl, hno, hC⟩ := hrel;by_cases hlt : k < es.length
  · have hrow2 : Row wr 120 3 (.slice a es.length c) es.length (enCells es) := HRow.out.same fun b hb => hC.block b (HRow.out.lt hb) (fun h => h);obtain ⟨b, rfl, _, c0, c1, c2⟩ := hrow2.entCell k hlt;have hstep := HP.out.step wr (es[k]) (HP.out.keep _ _ _ HI.out hC (fun _ _ h => h));have HSt : Hid (Calls Tryz.prog ff (first ++ #[.agg #[.int .i64 (es[k]).key, .bool (es[k]).val.ref, .int .i64 (es[k]).val.num]] ++ captured) wr fun e w' => e = .returned (.bool (p (es[k]))) ∧ Hid (Chg (fun _ => False) w w')) :=
     hstep.mono fun e w' ⟨h1, h2⟩ => ⟨h1, hC.trans h2 (fun _ _ h => h)⟩
    have HNo := Lib.hid hno;clear hstep hrow2 hC hno;cases hp : p (es[k]) with
    | true =>
      have HI2 : Hid (idxOf p es = k) := idxOf_some hlt HNo.out hp;rw [hp] at HSt;clear hp;generalize (es[k]).val.ref = xr at *;generalize (es[k]).val.num = xn at *;generalize (es[k]).key = xk at *
      go_wp2_with (refine HSt.out.mono ?_; rintro e w2 ⟨rfl, HC2⟩)
      go_ret;exact HK.out _ _ ⟨by rw [HI2.out]; rfl, HC2.out⟩
    | false =>
      rw [hp] at HSt;have HNo2 : Hid (∀ x ∈ es.take (k + 1), p x = false) := by
       intro x hx;rw [List.take_succ_eq_append_getElem hlt] at hx;simp only [List.mem_append, List.mem_singleton] at hx;rcases hx with hx | rfl
       · exact HNo.out x hx
       · exact hp
      clear hp HNo;generalize (es[k]).val.ref = xr at *;generalize (es[k]).val.num = xn at *;generalize (es[k]).key = xk at *
      go_wp2_with (refine HSt.out.mono ?_; rintro e w2 ⟨rfl, HC2⟩)
      go_roundw
      case rel => exact ⟨k + 1, by omega, by go_num, HNo2.out, HC2.out⟩
      case measure => simp [intOf]; omega
  · have hke : k = es.length := by omega
    subst hke;rw [List.take_length] at hno;have HF := Lib.hid (HK.out _ _ ⟨by rw [idxOf_none hno], hC⟩);clear hno hC;go_wp2;go_ret;exact HF.out
theorem enCells_append (l m : List En) : enCells (l ++ m) = enCells l ++ enCells m := by simp [enCells]
theorem enCells_set (l : List En) (k : Nat) (hk : k < l.length) (x : En) : (((enCells l).set (k * 3) (.int .i64 x.key)).set (k * 3 + 1) (.bool x.val.ref)).set (k * 3 + 2) (.int .i64 x.val.num) = enCells (l.set k x) := by
 induction l generalizing k with
 | nil => simp at hk
 | cons y l ih =>
   cases k with
   | zero => simp [enCells, En.cells]
   | succ k =>
     have := ih k (by simpa using hk);simp only [enCells, List.flatMap_cons, List.set_cons_succ] at *;rw [← this, show (k + 1) * 3 = k * 3 + 1 + 1 + 1 from by omega];simp [En.cells]
theorem enCells_take (l : List En) (k : Nat) : (enCells l).take (k * 3) = enCells (l.take k) := by
 induction l generalizing k with
 | nil => simp [enCells]
 | cons x l ih =>
   cases k with
   | zero => simp [enCells]
   | succ k =>
     have := ih k;simp only [enCells, List.flatMap_cons, List.take_succ_cons] at *;rw [← this, show (k + 1) * 3 = k * 3 + 1 + 1 + 1 from by omega];simp [En.cells]
structure DelI (w : World) (p : En → Bool) (es : List En) (a : Option Addr) (c : Nat) (i j : Nat) (wr : World) : Prop where
 row : ∃ l : List En, l.length = es.length ∧ l.take i = (es.take j).filter (fun x => !p x) ∧ l.drop j = es.drop j ∧ Row wr 120 3 (.slice a es.length c) es.length (enCells l)
 ie : i = ((es.take j).filter (fun x => !p x)).length
 lt : i < j
 le : j ≤ es.length
 chg : Chg (fun b => rowBlk (.slice a es.length c) = some b) w wr
theorem filterE_take_succ {l : List En} {k : Nat} (p : En → Bool) (hk : k < l.length) : (l.take (k + 1)).filter p = (l.take k).filter p ++ (if p (l[k]) then [l[k]] else []) := by
 rw [List.take_succ_eq_append_getElem hk, List.filter_append, List.filter_cons, List.filter_nil]
theorem DelI.move {p : En → Bool} (h : DelI w p es a c i j wr) (hC : Chg (fun _ => False) wr w') : DelI w p es a c i j w' := by
 obtain ⟨⟨l, h1, h2, h3, h4⟩, h5, h6, h7, h8⟩ := h;exact ⟨⟨l, h1, h2, h3, h4.same fun b hb => hC.block b (h4.lt hb) (fun h => h)⟩, h5, h6, h7, h8.trans hC (fun _ _ h => h.elim)⟩
theorem DelI.cells {p : En → Bool} (h : DelI w p es a c i j wr) (hj : j < es.length) :
 ∃ b, a = some ⟨b, 0, none⟩ ∧ rowBlk (.slice a es.length c) = some b ∧ (wr.cell? ⟨b, j * 3, none⟩ = some (.int .i64 (es[j]).key) ∧ wr.cell? ⟨b, j * 3 + 1, none⟩ = some (.bool (es[j]).val.ref) ∧ wr.cell? ⟨b, j * 3 + 2, none⟩ = some (.int .i64 (es[j]).val.num)) := by
 obtain ⟨⟨l, h1, h2, h3, h4⟩, h5, h6, h7, h8⟩ := h;have hjl : j < l.length := by omega
 rw [← h1] at h4;obtain ⟨b, hb, hr, hc⟩ := h4.entCell j hjl;have he : l[j] = es[j] := by
  have := congrArg (fun l => l[0]?) h3;simp [hj, hjl] at this;exact this
 rw [he] at hc;rw [← h1];exact ⟨b, hb, hr, hc⟩
theorem DelI.slot {p : En → Bool} (h : DelI w p es a c i j wr) (hb : a = some ⟨b, 0, none⟩) :
 (∃ x, wr.cell? ⟨b, i * 3, none⟩ = some x) ∧ (∃ x, wr.cell? ⟨b, i * 3 + 1, none⟩ = some x) ∧ (∃ x, wr.cell? ⟨b, i * 3 + 2, none⟩ = some x) ∧ (∀ q, wr.frozen? ⟨b, q, none⟩ = false) := by
 obtain ⟨⟨l, h1, h2, h3, h4⟩, h5, h6, h7, h8⟩ := h;have hil : i < l.length := by omega
 rw [← h1] at h4;obtain ⟨b', hb', hr, hc0, hc1, hc2⟩ := h4.entCell i hil;rw [hb] at hb';cases hb'
 exact ⟨⟨_, hc0⟩, ⟨_, hc1⟩, ⟨_, hc2⟩, fun q => h4.free hr q⟩
theorem DelI.skip {p : En → Bool} (h : DelI w p es a c i j wr) (hj : j < es.length) (hp : p (es[j]) = true) : DelI w p es a c i (j + 1) wr := by
 obtain ⟨⟨l, h1, h2, h3, h4⟩, h5, h6, h7, h8⟩ := h;have e : (es.take (j + 1)).filter (fun x => !p x) = (es.take j).filter (fun x => !p x) := by rw [filterE_take_succ _ hj]; simp [hp]
 refine ⟨⟨l, h1, by rw [e]; exact h2, ?_, h4⟩, by rw [e]; exact h5, by omega, by omega, h8⟩;rw [← List.drop_drop, ← List.drop_drop, h3]
theorem DelI.put {p : En → Bool} (h : DelI w p es a c i j wr) (hj : j < es.length) (hp : p (es[j]) = false) (hr : rowBlk (.slice a es.length c) = some b) :
 DelI w p es a c (i + 1) (j + 1) (((wr.setCell ⟨b, i * 3, none⟩ (.int .i64 (es[j]).key)).setCell ⟨b, i * 3 + 1, none⟩ (.bool (es[j]).val.ref)).setCell ⟨b, i * 3 + 2, none⟩ (.int .i64 (es[j]).val.num)) := by
 obtain ⟨⟨l, h1, h2, h3, h4⟩, h5, h6, h7, h8⟩ := h;have hil : i < l.length := by omega
 have e : (es.take (j + 1)).filter (fun x => !p x) = (es.take j).filter (fun x => !p x) ++ [es[j]] := by rw [filterE_take_succ _ hj]; simp [hp]
 have hrow := ((h4.setCell hr (i * 3) (.int .i64 (es[j]).key)).setCell hr (i * 3 + 1) (.bool (es[j]).val.ref)).setCell hr (i * 3 + 2) (.int .i64 (es[j]).val.num);rw [enCells_set l i hil] at hrow;refine ⟨⟨l.set i (es[j]), by simpa using h1, ?_, ?_, hrow⟩, by rw [e, List.length_append, ← h5]; rfl, by omega, by omega, ?_⟩
 · rw [e, ← h2, List.take_succ_eq_append_getElem (by simpa using hil), List.getElem_set_self, List.take_set, List.set_eq_of_length_le (by rw [List.length_take]; omega)]
 · rw [List.drop_set_of_lt (by omega), ← List.drop_drop, ← List.drop_drop, h3]
 · exact ((h8.setCell (fun _ => hr) _).setCell (fun _ => hr) _).setCell (fun _ => hr) _
theorem DelI.fin {p : En → Bool} (h : DelI w p es (some ⟨b, 0, none⟩) c i es.length wr) :
 ∃ W, (∀ ty c', (Builtin.clear_ #[108] ty #[.slice (some ⟨b, i * 3, none⟩) (es.length - i) c']).run Tryz.prog wr = .ok (.tuple #[]) W) ∧
   Row W 120 3 (.slice (some ⟨b, 0, none⟩) i c) (es.filter (fun x => !p x)).length (enCells (es.filter (fun x => !p x))) ∧ Chg (fun b' => rowBlk (.slice (some ⟨b, 0, none⟩) es.length c) = some b') w W := by
 obtain ⟨⟨l, h1, h2, h3, h4⟩, h5, h6, h7, h8⟩ := h;rw [List.take_length] at h2 h5;obtain ⟨b', hb', hr, hc⟩ := h4.cells (by omega);cases hb'
 obtain ⟨i0, hi, hz0, hz1, hz2⟩ := info_parts iEntry;refine ⟨_, fun ty c' => run_clear_row (sz := 3) ty uEnts hi hz0 rfl (by intro u hu; simp [Value.cells] at hu; rcases hu with rfl | rfl | rfl <;> rfl) b (i * 3) (es.length - i) c' ?_ (fun j => h4.free hr _), ?_, ?_⟩
 · intro j hj;have hlt : i * 3 + j < (enCells l).length := by rw [enCells_length]; omega
   rw [hc (i * 3 + j) _ (List.getElem?_eq_getElem hlt)];rfl
 · have hs := h4.shrink i (by omega);rw [enCells_take, h2] at hs;rw [← h5];have hrb : ∀ n, rowBlk (.slice (some ⟨b, 0, none⟩) n c) = rowBlk (.slice (some ⟨b, 0, none⟩) es.length c) := fun n => by cases c <;> rfl
   exact Row.setCells_keep (by rw [hrb]; exact hr) _ _ _ (Nat.le_refl _) hs
 · exact h8.trans (chg_setCells b _ _ wr) (fun j _ hj => by rw [hj]; exact hr)
theorem DelI.start {p : En → Bool} {k : Nat} {w1 : World} (hrow : Row w 120 3 (.slice a es.length c) es.length (enCells es)) (hC : Chg (fun _ => False) w w1) (hk : k < es.length)
 (hp : p (es[k]) = true) (hno : ∀ j (hj : j < k), p (es[j]) = false) : DelI w p es a c k (k + 1) w1 := by
 have e0 : (es.take k).filter (fun x => !p x) = es.take k := by
  rw [List.filter_eq_self];intro x hx;obtain ⟨j, hj, rfl⟩ := List.mem_take_iff_getElem.1 hx;simp [hno j (by omega)]
 have e : (es.take (k + 1)).filter (fun x => !p x) = es.take k := by rw [filterE_take_succ _ hk, e0]; simp [hp]
 refine ⟨⟨es, rfl, e.symm, rfl, hrow.same fun b hb => hC.block b (hrow.lt hb) (fun h => h)⟩, by rw [e, List.length_take]; omega, by omega, by omega, hC.mono fun _ _ h => h.elim⟩
theorem deleteFunc_any {ff : FuncId} {p : En → Bool} {P : Nat → Prop} {I : World → Prop} (hP : PredK ff first captured p P I) (hI : I w) 
 (hrow : Row w 120 3 v es.length (enCells es)) (hb : es.length ≤ 1000000000000) (hd : ∀ b, P b → rowBlk v ≠ some b) :
 Calls Tryz.prog 115 #[v, .func (.func ff) first captured] w fun e w' => ∃ v', e = .returned v' ∧
  Row w' 120 3 v' (es.filter (fun x => !p x)).length (enCells (es.filter (fun x => !p x))) ∧ (∀ b, rowBlk v' = some b → rowBlk v = some b) ∧ Chg (fun b => rowBlk v = some b) w w' := by
 have hidx := indexFunc_any hP hI hrow hb;obtain ⟨a, c, rfl, hle, hcm, hcase⟩ := hrow.slice;refine ret_k fun K hK => ?_;have hcall := hP.call;have HK := Lib.hid hK;have HP := Lib.hid hP;have HI := Lib.hid hI;have HRow := Lib.hid hrow;have HIx := Lib.hid hidx;have HD := Lib.hid hd;clear hK hP hI hrow hidx hd hcase;cases hf : es.findIdx? p with
 | none =>
   have hall : es.filter (fun x => !p x) = es := by
    rw [List.filter_eq_self];intro x hx;simp [List.findIdx?_eq_none_iff.1 hf x hx]
   have hi : idxOf p es = -1 := by simp [idxOf, hf]
   rw [hi] at HIx;rw [hall] at HK;clear hf hall hi
   go_enter Tryz.func115, Tryz.ntmps115
   go_wp2_with (go_at_call 111; refine HIx.out.mono ?_; rintro e w1 ⟨rfl, hC⟩; have HC := Lib.hid hC; clear hC)
   go_ret;exact HK.out _ _ ⟨_, rfl, HRow.out.same fun b hb => HC.out.block b (HRow.out.lt hb) (fun h => h), fun _ h => h, HC.out.mono fun _ _ h => h.elim⟩
 | some k =>
   have hi : idxOf p es = k := by simp [idxOf, hf]
   rw [hi] at HIx;obtain ⟨hk, hpk, hno⟩ := List.findIdx?_eq_some_iff_getElem.1 hf;have HSta := Lib.hid (fun (w1 : World) (hC : Chg (fun _ => False) w w1) => DelI.start HRow.out hC hk hpk (fun j hj => by simpa using hno j hj));have hi0 : (k : Int) ≠ -1 := by omega
   have w0 : IntKind.i64.wrap ((k : Int) + 1) = ((k + 1 : Nat) : Int) := by rw [IntWalk.i64_in _ (by omega)]; omega
   clear hf hi hno hpk
   go_enter Tryz.func115, Tryz.ntmps115
   go_wp2_with (go_at_call 111; refine HIx.out.mono ?_; rintro e w1 ⟨rfl, hC⟩; have HC := Lib.hid hC; clear hC)
   go_loopw [5, 6] (fun i j wr => ∃ (ki kj : Nat), i = .int .i64 ki ∧ j = .int .i64 kj ∧ DelI w p es a c ki kj wr) (fun _ j _ => es.length - (intOf j).toNat)
   case atStart => exact ⟨k, k + 1, rfl, by go_num, HSta.out _ HC.out⟩
   case round =>
    obtain ⟨ki, kj, rfl, rfl, hI⟩ := hrel;have hki := hI.lt;have hkj := hI.le;by_cases hlt : kj < es.length
    · obtain ⟨b, rfl, hr, c0, c1, c2⟩ := hI.cells hlt;have hIw : I (wr.alloc (.cells #[.int .i64 (es[kj]).key, .bool (es[kj]).val.ref, .int .i64 (es[kj]).val.num] 120)) :=
       HP.out.keep _ _ _ HI.out (hI.chg.alloc _) (fun b hb h => HD.out b hb h)
      have hstep : Calls Tryz.prog ff (first ++ #[.agg #[.int .i64 (es[kj]).key, .bool (es[kj]).val.ref, .int .i64 (es[kj]).val.num]] ++ captured) (wr.alloc (.cells #[.int .i64 (es[kj]).key, .bool (es[kj]).val.ref, .int .i64 (es[kj]).val.num] 120)) fun e w' =>
       e = .returned (.bool (p (es[kj]))) ∧ Hid (DelI w p es (some ⟨b, 0, none⟩) c ki kj w') ∧ (w'.cell? ⟨wr.heap.size, 0, none⟩ = some (.int .i64 (es[kj]).key) ∧ w'.cell? ⟨wr.heap.size, 1, none⟩ = some (.bool (es[kj]).val.ref) ∧ w'.cell? ⟨wr.heap.size, 2, none⟩ = some (.int .i64 (es[kj]).val.num)) ∧
       ((∃ x, w'.cell? ⟨b, ki * 3, none⟩ = some x) ∧ (∃ x, w'.cell? ⟨b, ki * 3 + 1, none⟩ = some x) ∧ (∃ x, w'.cell? ⟨b, ki * 3 + 2, none⟩ = some x) ∧ (w'.frozen? ⟨b, ki * 3, none⟩ = false ∧ w'.frozen? ⟨b, ki * 3 + 1, none⟩ = false ∧ w'.frozen? ⟨b, ki * 3 + 2, none⟩ = false)) := by
       refine (HP.out.step _ (es[kj]) hIw).mono ?_;rintro e w' ⟨rfl, hC⟩;have hI2 := hI.move (((Chg.refl (fun _ => False) wr).alloc _).trans hC (fun _ _ h => h));have hn := hC.at (heap_alloc_new wr _) (fun h => h);obtain ⟨s0, s1, s2, s3⟩ := hI2.slot rfl;exact ⟨rfl, hI2, ⟨cellAt hn 0, cellAt hn 1, cellAt hn 2⟩, s0, s1, s2, s3 _, s3 _, s3 _⟩
      have HSt := Lib.hid hstep;have w1' : IntKind.i64.wrap ((kj : Int) + 1) = ((kj + 1 : Nat) : Int) := by rw [IntWalk.i64_in _ (by omega)]; omega
      have w2' : IntKind.i64.wrap ((ki : Int) + 1) = ((ki + 1 : Nat) : Int) := by rw [IntWalk.i64_in _ (by omega)]; omega
      clear hI HC HSta hstep hIw;cases hp : p (es[kj]) with
      | true =>
        have HSk := Lib.hid (fun (w' : World) (h : DelI w p es (some ⟨b, 0, none⟩) c ki kj w') => h.skip hlt hp);rw [hp] at HSt;clear hp;generalize (es[kj]).val.ref = xr at *;generalize (es[kj]).val.num = xn at *;generalize (es[kj]).key = xk at *
        go_wp2_with (refine HSt.out.mono ?_; rintro e w2 ⟨rfl, HI2, ⟨d0, d1, d2⟩, ⟨x0, s0⟩, ⟨x1, s1⟩, ⟨x2, s2⟩, s3, s4, s5⟩)
        go_roundw
        case rel => exact ⟨_, _, _, _, _, _, _, _, _, _, _, _, _, _, _, _, _, _, _, _, _, _, _, ⟨ki, kj + 1, rfl, by go_num, HSk.out _ HI2.out⟩, rfl⟩
        case measure => simp [intOf]; omega
      | false =>
        have HSk := Lib.hid (fun (w' : World) (h : DelI w p es (some ⟨b, 0, none⟩) c ki kj w') => h.put hlt hp hr);rw [hp] at HSt;clear hp;generalize (es[kj]).val.ref = xr at *;generalize (es[kj]).val.num = xn at *;generalize (es[kj]).key = xk at *
        go_wp2_with (refine HSt.out.mono ?_; rintro e w2 ⟨rfl, HI2, ⟨d0, d1, d2⟩, ⟨x0, s0⟩, ⟨x1, s1⟩, ⟨x2, s2⟩, s3, s4, s5⟩)
        go_roundw
        case rel => exact ⟨_, _, _, _, _, _, _, _, _, _, _, _, _, _, _, _, _, _, _, _, _, _, _, ⟨ki + 1, kj + 1, by go_num, by go_num, HSk.out _ HI2.out⟩, rfl⟩
        case measure => simp [intOf]; omega
    · have hke : kj = es.length := by omega
      subst hke;obtain ⟨b, rfl, hr⟩ : ∃ b, a = some ⟨b, 0, none⟩ ∧ rowBlk (.slice a es.length c) = some b := by
       obtain ⟨b, h1, h2, _⟩ := HRow.out.cells (by omega);exact ⟨b, h1, h2⟩
      obtain ⟨W, hclear, hrow', hC'⟩ := hI.fin;have hki2 : ki ≤ es.length := by omega
      clear hI HC HSta;have hrb : ∀ b', rowBlk (.slice (some ⟨b, 0, none⟩) ki c) = some b' → rowBlk (.slice (some ⟨b, 0, none⟩) es.length c) = some b' := fun b' h => by
       rw [← h]; cases c <;> rfl
      have HF := Lib.hid (HK.out _ _ ⟨_, rfl, hrow', hrb, hC'⟩);have s1 : (ki : Int) ≤ (es.length : Int) := by omega
      have s2 : (es.length : Int) ≤ (c : Int) := by omega
      clear hrow' hrb hC'
      go_wp2_with (at_builtin; go_must (refine wpList_val rfl (exec_clear rfl (by exact hclear _ _)) ?_))
      go_ret;exact HF.out
end Go.Proofs.YtelghmmcbgfjnaaGreat
