/-
  The walk of minor. (A part of the proof, joined of: Xc, Xd, Xe, Xg, Xi, Xf; made smaller.)
-/
import Derived.Test.YtelghmmcbgfjnaaGreatH11
import Derived.Deep.CutRange
set_option maxHeartbeats 4000000
set_option maxRecDepth 100000
namespace Go.Proofs.YtelghmmcbgfjnaaGreat
variable {A A0 : St} {S T l l0 xs : List Int} {b c cb i j km lb m ms n wb wp : Nat} {g g0 : Gh} {k : WkG} {v : Value} {w w' w0 wr : World} {x y : Int}
open Go.RowKit
theorem MI.noX {X : Nat → Obj → Prop} (h : MI w g A wb ms cb wp X wr k S T) : MI w g A wb ms cb wp xNone wr k S T := h.weak fun _ _ hb => hb.elim
theorem MI.keepX {X : Nat → Obj → Prop} (h : MI w g A wb ms cb wp X wr k S T) (B : Nat → Prop) (hB : ∀ b, B b → ¬ k.blk b) : MI w g A wb ms cb wp (fun b x => B b ∧ wr.heap[b]? = some x) wr k S T :=
 h.weak fun b _ hb => ⟨hb.2, hB b hb.1⟩
theorem MI.start (hR : Rep w g A) :
 MI w g A (w.heap.size + 2) (w.heap.size + 1) w.heap.size (w.heap.size + 3) xNone
  ((((w.alloc (.cells #[.pointer (some ⟨g.hb, 0, none⟩)] 125)).alloc (.map #[] 0)).alloc (.cells #[.map (some (w.heap.size + 1)), .slice none 0 0] 128)).alloc (.cells #[.pointer (some ⟨w.heap.size + 2, 0, none⟩)] 126))
  ⟨w.heap.size + 2, w.heap.size + 1, .slice none 0 0⟩ [] [] := by
 obtain ⟨w1, hw1⟩ : ∃ w1, w1 = w.alloc (.cells #[.pointer (some ⟨g.hb, 0, none⟩)] 125) := ⟨_, rfl⟩;have hs1 : w1.heap.size = w.heap.size + 1 := by rw [hw1]; simp
 have hb1 : w1.heap[w.heap.size]? = some (.cells #[.pointer (some ⟨g.hb, 0, none⟩)] 125 (0, 0)) := by rw [hw1]; exact heap_alloc_new _ _
 obtain ⟨w2, hw2⟩ : ∃ w2, w2 = w1.alloc (.map #[] 0) := ⟨_, rfl⟩;have hs2 : w2.heap.size = w.heap.size + 2 := by rw [hw2]; simp [hs1]
 have hm2 : MapAt w2 (w.heap.size + 1) [] := by rw [hw2, ← hs1]; exact MapAt.made w1
 obtain ⟨w3, hw3⟩ : ∃ w3, w3 = w2.alloc (.cells #[.map (some (w.heap.size + 1)), .slice none 0 0] 128) := ⟨_, rfl⟩;have hs3 : w3.heap.size = w.heap.size + 3 := by rw [hw3]; simp [hs2]
 have hb3 : w3.heap[w.heap.size + 2]? = some (.cells #[.map (some (w.heap.size + 1)), .slice none 0 0] 128 (0, 0)) := by rw [hw3, ← hs2]; exact heap_alloc_new _ _
 rw [← hw1, ← hw2, ← hw3];obtain ⟨w4, hw4⟩ : ∃ w4, w4 = w3.alloc (.cells #[.pointer (some ⟨w.heap.size + 2, 0, none⟩)] 126) := ⟨_, rfl⟩;have hb4 : w4.heap[w.heap.size + 3]? = some (.cells #[.pointer (some ⟨w.heap.size + 2, 0, none⟩)] 126 (0, 0)) := by rw [hw4, ← hs3]; exact heap_alloc_new _ _
 rw [← hw4];have hC : Chg (fun _ => False) w w4 := by rw [hw4, hw3, hw2, hw1]; exact ((((Chg.refl _ _).alloc _).alloc _).alloc _).alloc _
 have hnb : ∀ b, (⟨w.heap.size + 2, w.heap.size + 1, .slice none 0 0⟩ : WkG).blk b → b = w.heap.size + 2 ∨ b = w.heap.size + 1 := fun b hb => by
  rcases hb with h | h | h
  · exact .inl h
  · exact .inr h
  · simp [rowBlk] at h
 refine ⟨⟨by rw [hw4]; exact heap_alloc_old hb3 _, ?_, Row.nil _ _ _⟩, rfl, rfl, hR.frame hC (fun _ h => h.elim), fun b hb => hR.none_of_ge hb, hC, fun b hb => by rcases hnb b hb with h | h <;> omega, ?_, hb4, ⟨Nat.le_refl _, fun hb => by rcases hnb _ hb with h | h <;> omega⟩, ⟨by omega, fun hb => by rcases hnb _ hb with h | h <;> omega⟩, fun _ _ h => h.elim, fun _ _ h => h.elim⟩
 · refine hm2.same ?_;show w4.heap[w.heap.size + 1]? = w2.heap[w.heap.size + 1]?;rw [hw4, heap_alloc, if_neg (by omega), hw3, heap_alloc, if_neg (by omega)]
 · rw [hw4, hw3, hw2]; exact heap_alloc_old (heap_alloc_old (heap_alloc_old hb1 _) _) _
theorem mem_kvsR {k : Int} : (k, v) ∈ kvsR A ↔ v = .bool true ∧ k ∈ A.rem := by
 simp only [kvsR, List.mem_map, Prod.mk.injEq];constructor
 · rintro ⟨p, hp, rfl, rfl⟩; exact ⟨rfl, hp⟩
 · rintro ⟨rfl, hx⟩; exact ⟨_, hx, rfl, rfl⟩
structure M2 (w : World) (g : Gh) (A : St) (r : Nat) (left : List (Int × Value)) (wr : World) (k : WkG) (N : List Int) : Prop where
 mi : MI w g A (w.heap.size + 2) (w.heap.size + 1) w.heap.size (w.heap.size + 3) xNone wr k ([] ++ N) ([] ++ N)
 vi : VI A [] [] N
 root : ∀ n ∈ A.roots ++ A.reg, A.isYoung n = true → n ∈ N
 it : IterAt wr r g.mr (kvsR A) left
 rn : w.heap.size ≤ r ∧ ¬ k.blk r ∧ r ≠ w.heap.size ∧ r ≠ w.heap.size + 3
 done : ∀ n ∈ A.rem, (n, Value.bool true) ∉ left → ∀ o, A.objs.lookup n = some o → ∀ m ∈ A.refs o, A.isYoung m = true → m ∈ N
theorem M2.round (hR : Rep w g A) (hw : Wf km m A) (hrem : ∀ n ∈ A.rem, (A.objs.lookup n).isSome) {r : Nat} {left : List (Int × Value)} {N : List Int} (h : M2 w g A r left wr k N) (hl : left ≠ []) :
 ∃ n v w2, (Instr.next (.pointer (some ⟨r, 0, none⟩)) false 0).run Tryz.prog wr = .ok (.tuple #[.bool true, .int .i64 n, v]) w2 ∧
   (Instr.entry (.pointer (some ⟨r, 0, none⟩))).run Tryz.prog w2 = .ok (.tuple #[.int .i64 n, v]) w2 ∧ (delKV left n).length + 1 = left.length ∧
   w2.cell? ⟨w.heap.size, 0, none⟩ = some (.pointer (some ⟨g.hb, 0, none⟩)) ∧ w2.cell? ⟨g.hb, 0, none⟩ = some (.map (some g.mo)) ∧
   (∀ q, (Instr.lookup 64 (.map (some g.mo)) (.int .i64 n) false).run Tryz.prog (w2.drewN q) = .ok (.pointer (some ⟨g.ob n, 0, none⟩)) (w2.drewN q)) ∧
   (∀ q, Calls Tryz.prog 75 #[.pointer (some ⟨g.hb, 0, none⟩), .pointer (some ⟨g.ob n, 0, none⟩), .func (.func 71) #[] #[.pointer (some ⟨w.heap.size, 0, none⟩), .pointer (some ⟨w.heap.size + 3, 0, none⟩)]] (w2.drewN q) fun e w' =>
    e = .returned (.tuple #[]) ∧ Hid (∃ k' N', M2 w g A r (delKV left n) w' k' N')) := by
 obtain ⟨n, v, w2, hin, hnext, hit2, hent, hC2⟩ := iter_more (P := Tryz.prog) h.it hl 0;obtain ⟨rfl, hnr⟩ := mem_kvsR.1 (h.it.sub hin);obtain ⟨o, ho⟩ := Option.isSome_iff_exists.1 (hrem n hnr);have hmi2 := h.mi.move hC2 (fun b hb => by
  have hb' : b = r := hb;subst hb';exact ⟨h.rn.1, h.rn.2.1, h.rn.2.2.1, h.rn.2.2.2, fun x hx => hx.elim⟩)
 have hr2 : ∃ x, w2.heap[r]? = some x := by
  obtain ⟨_, es, clock, seen, g1, g2, g3⟩ := hit2;exact ⟨_, g2⟩
 obtain ⟨x, hx⟩ := hr2;refine ⟨n, _, w2, hnext, hent, length_delKV h.it.nodup hin, cellAt hmi2.hcb 0, hmi2.rep.c 0, fun q => lookO_some (hmi2.rep.drewN q) ho, fun q => ?_⟩;have hb1 := young_bound h.vi.nod h.vi.yng;have hmany := hw.many;have hk9 := hw.hk;have hmX : MI w g A (w.heap.size + 2) (w.heap.size + 1) w.heap.size (w.heap.size + 3) (fun b y => b = r ∧ y = x) (w2.drewN q) k ([] ++ N) ([] ++ N) :=
  (hmi2.drewN q).weak fun b y hb => by
   obtain ⟨rfl, rfl⟩ := hb;exact ⟨hx, h.rn.2.1⟩
 have hm1 : (A.mem o.old).length ≤ 100000000000 := by
  cases o.old
  · exact hw.fit.memN
  · exact hw.fit.memT
 have hsz := hw.fit.size n o ho;have hes := hw.fit.ents n o ho;have hF := minor_found (w := w) (g := g) (A := A) (wb := w.heap.size + 2) (ms := w.heap.size + 1) (cb := w.heap.size) (wp := w.heap.size + 3) (S0 := [] ++ N) (T0 := [] ++ N) (by simp only [List.nil_append] at hb1 ⊢; omega);have hall := all_any hF (S := fun b y => b = r ∧ y = x) (l0 := []) ⟨k, hmX⟩ ho (hw.fit.inn n o ho) (by omega) (by omega) (by simp; omega);refine hall.mono ?_;rintro e w' ⟨rfl, k', hk'⟩;obtain ⟨N2, h1, h2, h3, h4⟩ := h.vi.seeL ([] ++ refsW (A.fields o) ++ refsE o.ents);rw [h1] at hk';have hrx := hk'.hold r x ⟨rfl, rfl⟩;have hmr : g.mr < w.heap.size := hR.lt _ (by rw [hR.omr]; rfl)
 refine ⟨rfl, k', N2, hk'.weak fun _ _ hb => hb.elim, h2, fun n hn hy => by simpa using h3 n (by simpa using h.root n hn hy), ?_, ⟨h.rn.1, hk'.off r x ⟨rfl, rfl⟩, h.rn.2.2⟩, ?_⟩
 · refine hit2.same ?_ (by rw [hrx, hx]);rw [hk'.old.block _ hmr (fun h => h), hmi2.old.block _ hmr (fun h => h)]
 · intro n' hn' hnl o' ho' mm hm hy;by_cases e : n' = n
   · subst e;rw [ho] at ho';simp only [Option.some.injEq] at ho';subst ho';simpa using h4 mm (by simpa [St.refs] using hm) hy
   · have hnl' : (n', Value.bool true) ∉ left := fun hd => hnl (mem_delKV.2 ⟨hd, e⟩);simpa using h3 mm (by simpa using h.done n' hn' hnl' o' ho' mm hm hy)
theorem minorStep_ents {p : Int → Bool} {B : St} {n : Int} {K : Nat} (h : ∀ m x, (m, x) ∈ B.objs → x.ents.length ≤ K) : ∀ m x, (m, x) ∈ (minorStep A p B n).objs → x.ents.length ≤ K := by
 intro m x hx;unfold minorStep at hx;cases ho : B.objs.lookup n with
 | none => rw [ho] at hx; exact h m x hx
 | some o =>
   rw [ho] at hx;simp only at hx;by_cases h1 : o.old = true
   · rw [if_pos h1] at hx; exact h m x hx
   · rw [if_neg h1] at hx;by_cases h2 : p n = true
     · rw [if_pos h2] at hx;rcases mem_setOb hx with ⟨rfl, rfl⟩ | ⟨_, hx⟩
       · exact h m o (mem_of_lookup ho)
       · rw [setMem_objs] at hx; exact h m x hx
     · rw [if_neg h2] at hx;exact h m x (mem_delO.1 hx).1
theorem minor_ents {A : St} {p : Int → Bool} {K : Nat} : ∀ (l : List Int) (B : St), (∀ m x, (m, x) ∈ B.objs → x.ents.length ≤ K) → ∀ m x, (m, x) ∈ (l.foldl (minorStep A p) B).objs → x.ents.length ≤ K
 | [], _, h => h
 | n :: l, B, h => by rw [List.foldl_cons]; exact minor_ents l _ (minorStep_ents h)
theorem minor_any (hR : Rep w g A) (hw : Wf km m A) (hrem : ∀ n ∈ A.rem, (A.objs.lookup n).isSome) :
 Calls Tryz.prog 33 #[.pointer (some ⟨g.hb, 0, none⟩)] w fun e w' => e = .returned (.tuple #[]) ∧ ∃ S g', Found1 A S ∧ Rep w' g' (A.minored (fun n => decide (n ∈ S))) ∧ Step w g A w' g' := by
 refine ret_k fun K hK => ?_;have hmm := @run_makeMap Tryz.prog;have hst := MI.start hR;have hbig := hw.big;have hmany := hw.many;have hk9 := hw.hk;obtain ⟨ra, rc, hrv, _, _, _⟩ := hR.rR.row.slice;obtain ⟨w4, hw4⟩ : ∃ w4, w4 = ((((w.alloc (.cells #[.pointer (some ⟨g.hb, 0, none⟩)] 125)).alloc (.map #[] 0)).alloc (.cells #[.map (some (w.heap.size + 1)), .slice none 0 0] 128)).alloc (.cells #[.pointer (some ⟨w.heap.size + 2, 0, none⟩)] 126)) := ⟨_, rfl⟩;rw [← hw4] at hst
 have hro : ∀ n, Calls Tryz.prog 74 #[.pointer (some ⟨g.hb, 0, none⟩)] (w4.drewN n) fun e w5 => ∃ (va : Option Addr) (vn vc : Nat), e = .returned (.slice va vn vc) ∧ (w5.cell? ⟨g.hb, 6, none⟩ = some (.slice ra A.reg.length rc) ∧ w5.cell? ⟨w.heap.size, 0, none⟩ = some (.pointer (some ⟨g.hb, 0, none⟩))) ∧
  ∃ (a : Option Addr) (c : Nat) (L : List Int) (w6 : World), ((Builtin.append_ #[23, 23] 23 #[.slice va vn vc, .slice ra A.reg.length rc]).run Tryz.prog w5 = .ok (.slice a L.length c) w6) ∧
    Hid (MI w g A (w.heap.size + 2) (w.heap.size + 1) w.heap.size (w.heap.size + 3) (fun b x => rowBlk (.slice a L.length c) = some b ∧ w6.heap[b]? = some x) w6 ⟨w.heap.size + 2, w.heap.size + 1, .slice none 0 0⟩ [] [] ∧ (∀ n, n ∈ L ↔ n ∈ A.roots ++ A.reg) ∧ L.length ≤ 9000 ∧
     Row w6 3 1 (.slice a L.length c) L.length (intCells L)) := by
  intro n;have hR4 := hst.rep;refine (roots_any (hR4.drewN n) (by omega)).mono ?_;rintro e w5 ⟨v, l, rfl, hrow, hmem, hlen, hC, hfr⟩;have hml : ∀ n, n ∈ l ↔ n ∈ A.roots := fun n => (hmem n).trans mem_roots.symm;have hI5 := (hst.drewN n).move hC (fun _ h => h.elim);obtain ⟨va, vc, rfl, _, _, _⟩ := hrow.slice;have hrow2 := hI5.rep.rR.row;rw [hrv] at hrow2;obtain ⟨a, c, w6, happ, hrowA, hCA, hlocA⟩ := append_rows hrow hrow2 (by omega);have hlen2 : (l ++ A.reg).length = l.length + A.reg.length := List.length_append;have hsz4 : (w4.drewN n).heap.size = w4.heap.size := rfl;have hkb : ∀ b, (⟨w.heap.size + 2, w.heap.size + 1, .slice none 0 0⟩ : WkG).blk b → b < w4.heap.size := fun b hb => hst.wk.lt hb
  have hcb4 := lt_of_block hst.hcb;have hwp4 := lt_of_block hst.hwp;have hge := hst.old.size;have hI6 := hI5.move hCA (fun b hb => by
   have h1 := hfr b hb;rw [hsz4] at h1;exact ⟨by omega, fun hk => by have := hkb b hk; omega, by omega, by omega, fun x hx => hx.elim⟩)
  have d6 : w5.cell? ⟨g.hb, 6, none⟩ = some (.slice ra A.reg.length rc) := by
   rw [hI5.rep.c 6]; simp [hsCells, hrv]
  refine ⟨va, _, vc, rfl, ⟨d6, cellAt hI5.hcb 0⟩, a, c, l ++ A.reg, w6, by rw [hlen2]; exact happ, ?_, fun n => by simp only [List.mem_append, hml n], by rw [hlen2]; omega, by rw [hlen2]; rw [hlen2] at hrowA; exact hrowA⟩;refine hI6.keepX _ fun b hb hk => ?_;have h1 := hkb b hk;rw [hlen2] at hb;rcases hlocA b hb with h2 | h2
  · have := hfr b h2; rw [hsz4] at this; omega
  · have := hC.size; rw [hsz4] at this; omega
 have HRo := Lib.hid hro;have c60 : w4.cell? ⟨g.hb, 6, none⟩ = some (.slice ra A.reg.length rc) := by rw [hst.rep.c 6]; simp [hsCells, hrv]
 have c00 : w4.cell? ⟨w.heap.size, 0, none⟩ = some (.pointer (some ⟨g.hb, 0, none⟩)) := cellAt hst.hcb 0;have HR := Lib.hid hR;have HK := Lib.hid hK;have HW := Lib.hid hw;have HRem := Lib.hid hrem;clear hR hK hrv hro hw hrem hst;subst hw4
 go_enter Tryz.func33, Tryz.ntmps33
 go_upto_region 3 with fail
 go_cut [24, 25, 26] from 18 to 23 (fun s24 s25 s26 wx => ∃ (a : Option Addr) (c : Nat) (L : List Int), s24 = .slice a L.length c ∧ s25 = .int .i64 L.length ∧ s26 = .int .i64 0 ∧
  Hid (MI w g A (w.heap.size + 2) (w.heap.size + 1) w.heap.size (w.heap.size + 3) (fun b x => rowBlk (.slice a L.length c) = some b ∧ wx.heap[b]? = some x) wx ⟨w.heap.size + 2, w.heap.size + 1, .slice none 0 0⟩ [] [] ∧ (∀ n, n ∈ L ↔ n ∈ A.roots ++ A.reg) ∧ L.length ≤ 9000 ∧
   Row wx 3 1 (.slice a L.length c) L.length (intCells L)))
 case first =>
  go_region_law (first | (refine step_val rfl (exec_append rfl happ) ?_) | (go_simp; go_at_call 74; refine (HRo.out _).mono ?_; rintro e w5 ⟨va, vn, vc, rfl, ⟨d6, d0⟩, a, c, L, w6, happ, HI⟩))
  all_goals (go_wp2; go_meet; exact ⟨a, c, L, rfl, rfl, rfl, HI⟩)
 case rest =>
  obtain ⟨a, c, L, rfl, rfl, rfl, HI⟩ := hcut;clear HRo c60 c00 hmm;obtain ⟨hI0, hL, hL9, hrowL⟩ := HI.out;have HX := Lib.hid (fun (wr : World) (k : WkG) (S T : List Int) (h : MI w g A (w.heap.size + 2) (w.heap.size + 1) w.heap.size (w.heap.size + 3) (fun b x => rowBlk (.slice a L.length c) = some b ∧ wc.heap[b]? = some x) wr k S T) =>
   (show Row wr 3 1 (.slice a L.length c) L.length (intCells L) from hrowL.same fun b hb => by
    have hlt := hrowL.lt hb;rw [h.hold b _ ⟨hb, Array.getElem?_eq_getElem hlt⟩, Array.getElem?_eq_getElem hlt]))
  have HL := Lib.hid hL;have HI0 := Lib.hid hI0;clear hI0 hL hrowL HI;have hcall := call_minor1;go_wp2
  go_loopw [26] (fun i wr => ∃ (j : Nat) (k : WkG) (N : List Int), j ≤ L.length ∧ i = .int .i64 j ∧ MI w g A (w.heap.size + 2) (w.heap.size + 1) w.heap.size (w.heap.size + 3) (fun b x => rowBlk (.slice a L.length c) = some b ∧ wc.heap[b]? = some x) wr k ([] ++ N) ([] ++ N) ∧ VI A [] [] N ∧ (∀ n ∈ L.take j, A.isYoung n = true → n ∈ [] ++ N)) (fun i _ => L.length - (intOf i).toNat)
  case atStart => exact ⟨0, _, [], Nat.zero_le _, rfl, HI0.out, ⟨by simp, by simp, by simp⟩, by simp⟩
  case round =>
   obtain ⟨j, k, N, hj, rfl, hI, hV, hD⟩ := hrel;clear HI0;by_cases hlt : j < L.length
   · obtain ⟨tb, rfl, _, htt⟩ := (HX.out _ _ _ _ hI).cells (by omega);have ct := htt j (.int .i64 (L[j])) (by simp [intCells, hlt]);have hcw : wr.cell? ⟨w.heap.size, 0, none⟩ = some (.pointer (some ⟨g.hb, 0, none⟩)) := cellAt hI.hcb 0;have hb1 := young_bound hV.nod hV.yng;simp only [List.length_append] at hb1
     have HSee : Hid (Calls Tryz.prog 71 #[.int .i64 (L[j]), .pointer (some ⟨w.heap.size, 0, none⟩), .pointer (some ⟨w.heap.size + 3, 0, none⟩)] wr fun e w' => e = .returned (.tuple #[]) ∧ Hid (∃ k' N2, MI w g A (w.heap.size + 2) (w.heap.size + 1) w.heap.size (w.heap.size + 3) (fun b x => rowBlk (.slice (some ⟨tb, 0, none⟩) L.length c) = some b ∧ wc.heap[b]? = some x) w' k' ([] ++ N2) ([] ++ N2) ∧ VI A [] [] N2 ∧ (∀ n ∈ L.take (j + 1), A.isYoung n = true → n ∈ [] ++ N2))) := by
      refine (minor1_any hI (L[j]) (by simp only [List.nil_append] at hb1 ⊢; simp at hb1; omega)).mono ?_;rintro e w' ⟨rfl, k', hk⟩;obtain ⟨N2, h1, h2, h3, h4⟩ := hV.see (L[j]);rw [h1] at hk;refine ⟨rfl, k', N2, hk, h2, ?_⟩;intro n hn hy;rw [List.take_succ_eq_append_getElem hlt] at hn;rcases List.mem_append.1 hn with hn | hn
      · exact h3 n (hD n hn hy)
      · simp only [List.mem_singleton] at hn; rw [hn] at hy ⊢; exact h4 hy
     clear hI hV hD htt hb1;generalize L[j] = nn at *
     go_wp2_with (refine HSee.out.mono ?_; rintro e w4 ⟨rfl, HM⟩)
     obtain ⟨k4, N2, h1, h2, h3⟩ := HM.out;have H1 := Lib.hid h1;clear h1 HM
     go_roundw
     case rel => exact ⟨j + 1, k4, N2, by omega, by go_num, H1.out, h2, h3⟩
     case measure => simp [intOf]; omega
   · have hje : j = L.length := by omega
     subst hje;rw [List.take_length] at hD;have HI1 := Lib.hid hI.noX;have hR1 : ∀ n ∈ A.roots ++ A.reg, A.isYoung n = true → n ∈ N := fun n hn hy => by simpa using hD n ((HL.out n).2 hn) hy
     have HR1 := Lib.hid hR1;have hmr := hI.rep.mr;have c8 : wr.cell? ⟨g.hb, 8, none⟩ = some (.map (some g.mr)) := hI.rep.c 8;have ccb : wr.cell? ⟨w.heap.size, 0, none⟩ = some (.pointer (some ⟨g.hb, 0, none⟩)) := cellAt hI.hcb 0;clear hI hD hR1 HX HL;obtain ⟨wo, rfl⟩ : ∃ wo : World, wo = wr := ⟨_, rfl⟩;obtain ⟨o', hrun, hit⟩ := run_range_map (P := Tryz.prog) hmr uMapB;have HIt := Lib.hid hit;have HV1 := Lib.hid hV;clear hit hmr hV;have HM2 : Hid (M2 w g A wo.heap.size (kvsR A) (wo.alloc o') k N) := by
      have hI2 := HI1.out.alloc o';refine ⟨hI2, HV1.out, HR1.out, HIt.out, ⟨HI1.out.old.size, fun hb => by have := HI1.out.wk.lt hb; omega, ?_, ?_⟩, ?_⟩
      · have := lt_of_block HI1.out.hcb; omega
      · have := lt_of_block HI1.out.hwp; omega
      · intro n hn hnl;exact absurd (mem_kvsR.2 ⟨rfl, hn⟩) hnl
     clear HIt HI1 HV1 HR1;have hkl : (kvsR A).length = A.rem.length := by simp [kvsR]
     go_wp2_with (at_range; go_must (refine wpList_val rfl (exec_range rfl hrun) ?_))
     go_frame
     go_loopg [] (A.rem.length) (fun num wr => ∃ (left : List (Int × Value)) (k : WkG) (N : List Int), M2 w g A wo.heap.size left wr k N ∧ left.length ≤ num)
     case atStart => exact ⟨_, _, _, HM2.out, by rw [hkl]; exact Nat.le_refl _⟩
     case round =>
      obtain ⟨left, k2, N2, hI, hnum⟩ := hrel;clear HM2;obtain ⟨wo2, rfl⟩ : ∃ wo2 : World, wo2 = wr := ⟨_, rfl⟩;cases left with
      | nil =>
        have hrun2 := fun ty => run_next_over (P := Tryz.prog) hI.it ty;have HYJ : Hid (YJ A (A.roots ++ A.reg) N2 N2 []) := YJ.start hI.vi hI.root (fun n hn => hI.done n hn (by simp));have hmi := hI.mi;simp only [List.nil_append] at hmi;have HMI := Lib.hid hmi;clear hI hmi
        go_wp2_with (at_next; go_must (refine wpList_val rfl (exec_next rfl (by exact hrun2 _)) ?_))
        have HM3 : Hid (M3 w g A wo2 k2 N2 N2 [] (.slice none 0 0)) := ⟨HMI.out, by simpa [intCells] using Row.nil wo2 3 1, fun b hb => by simp [rowBlk] at hb⟩;clear HMI
        go_loopg [7] (A.objs.length) (fun num v7 wr => ∃ (k : WkG) (S T Tb : List Int) (ta : Option Addr) (tc : Nat), v7 = .slice ta Tb.length tc ∧ M3 w g A wr k S T Tb (.slice ta Tb.length tc) ∧ YJ A (A.roots ++ A.reg) S T Tb ∧ (T = [] → TY A S S Tb) ∧ A.objs.length + T.length ≤ num + S.length)
        case atStart => exact ⟨k2, N2, N2, [], none, 0, rfl, HM3.out, HYJ.out, fun _ t ht => by simp at ht, by omega⟩
        case round =>
         obtain ⟨k3, S, T, Tb, ta, tc, rfl, hI, hY, hTY, hnum⟩ := hrel;clear HM3 HYJ;obtain ⟨wo3, rfl⟩ : ∃ wo3 : World, wo3 = wr := ⟨_, rfl⟩;have hbd := hY.bound;have hlen := hY.len;obtain ⟨va, vc, hvt, hvle, _, hvcase⟩ := hI.mi.wk.row.slice;have hwb := hI.mi.wk.wb;rw [hI.mi.kwb, hI.mi.kms, hvt] at hwb;have cw : wo3.cell? ⟨w.heap.size + 1 + 1 + 1, 0, none⟩ = some (.pointer (some ⟨w.heap.size + 2, 0, none⟩)) := cellAt hI.mi.hwp 0;have ccb : wo3.cell? ⟨w.heap.size, 0, none⟩ = some (.pointer (some ⟨g.hb, 0, none⟩)) := cellAt hI.mi.hcb 0;have c0 : wo3.cell? ⟨w.heap.size + 2, 0, none⟩ = some (.map (some (w.heap.size + 1))) := cellAt hwb 0
         have c1 : wo3.cell? ⟨w.heap.size + 2, 1, none⟩ = some (.slice va T.length vc) := cellAt hwb 1;have f1 : wo3.frozen? ⟨w.heap.size + 2, 1, none⟩ = false := freeAt hwb 1;rcases List.eq_nil_or_concat T with rfl | ⟨T', n, rfl⟩
         · have HFo : Hid (Found1 A S) := hY.fin (fun n hn => hn) (hTY rfl);have HI3 := Lib.hid hI;have HY3 := Lib.hid hY;simp only [List.length_nil] at c1;clear hI hY hTY hwb hvt hvcase;obtain ⟨na, nc, hnv, _, _, _⟩ := HR.out.rN.row.slice;have hR3 := HI3.out.mi.rep;have c2 : wo3.cell? ⟨g.hb, 2, none⟩ = some (.slice na A.memN.length nc) := by rw [← hnv]; exact hR3.c 2
           have f2 : wo3.frozen? ⟨g.hb, 2, none⟩ = false := freeAt hR3.hs 2;have hcw : g.hb ≠ w.heap.size := by have := HR.out.lt g.hb (by rw [HR.out.ohs]; rfl); omega
           obtain ⟨W1, hW1⟩ : ∃ W1, W1 = wo3.setCell ⟨g.hb, 2, none⟩ (.slice none 0 0) := ⟨_, rfl⟩;have hC1 : Chg (fun b => b = g.hb) wo3 W1 := by rw [hW1]; exact chg_set1 _ _ _ _
           obtain ⟨g1, hR1, hS1, hob1, hun1⟩ := hR3.emptiedN hC1 (by rw [hW1]; exact heap_setCell hR3.hs 2 _);have hso := sorted_any hR1 (by show A.objs.length ≤ _; omega);rw [hS1.hb] at hso;have ccb1 : W1.cell? ⟨w.heap.size, 0, none⟩ = some (.pointer (some ⟨g.hb, 0, none⟩)) := cellAt (hC1.at HI3.out.mi.hcb (fun e => hcw e.symm)) 0;have hso2 : Calls Tryz.prog 78 #[.pointer (some ⟨g.hb, 0, none⟩)] W1 fun e w7 => ∃ (sa : Option Addr) (sc : Nat) (H : Nat → Prop), e = .returned (.slice sa A.sorted.length sc) ∧
            Hid (MnL w g A (fun n => decide (n ∈ S)) w7 H (A.sorted.take 0) w7 g1 ∧ (∀ b, rowBlk g.vN = some b → H b) ∧ Row w7 113 2 g.vN A.memN.length (wdCells A.memN) ∧
             (H w.heap.size ∧ w7.heap[w.heap.size]? = some (.cells #[.pointer (some ⟨g.hb, 0, none⟩)] 125 (0, 0))) ∧
             (H (w.heap.size + 3) ∧ w7.heap[w.heap.size + 3]? = some (.cells #[.pointer (some ⟨w.heap.size + 2, 0, none⟩)] 126 (0, 0))) ∧
             (H (w.heap.size + 2) ∧ w7.cell? ⟨w.heap.size + 2, 0, none⟩ = some (.map (some (w.heap.size + 1)))) ∧
             (H (w.heap.size + 1) ∧ MapAt w7 (w.heap.size + 1) (S.map fun n => (n, .bool true))) ∧
             (∀ b, rowBlk (.slice sa A.sorted.length sc) = some b → H b) ∧ Row w7 3 1 (.slice sa A.sorted.length sc) A.sorted.length (intCells A.sorted)) := by
            refine hso.mono ?_;rintro e w7 ⟨v, rfl, hrow, hC7, hfr⟩;have hrow' : Row w7 3 1 v A.sorted.length (intCells A.sorted) := hrow;obtain ⟨sa, sc, rfl, _, _, _⟩ := hrow'.slice;have hmi := HI3.out.mi;have hge := hmi.old.size;have hghb : g.hb < w.heap.size := HR.out.lt g.hb (by rw [HR.out.ohs]; rfl);have hc17 : Chg (fun b => b = g.hb) wo3 w7 := hC1.trans hC7 (fun _ _ h => h.elim);have hlw : w.heap.size < wo3.heap.size := lt_of_block hmi.hcb;have hlp : w.heap.size + 3 < wo3.heap.size := lt_of_block hmi.hwp;have hwb7 : w7.heap[w.heap.size + 2]? = some (.cells #[.map (some (w.heap.size + 1)), k3.vt] 128 (0, 0)) := by
             have h1 := hmi.wk.wb;rw [hmi.kwb, hmi.kms] at h1;exact hc17.at h1 (by omega)
            have hms7 : MapAt w7 (w.heap.size + 1) (S.map fun n => (n, .bool true)) := by
             have h1 := hmi.wk.ms;rw [hmi.kms] at h1;exact h1.same (hc17.block _ h1.lt (by omega))
            have hvn : ∀ b, rowBlk g.vN = some b → b < w.heap.size ∧ b ≠ g.hb ∧ g1.own b = none := fun b hb => ⟨HR.out.rN.row.lt hb, fun e => (by have := HR.out.rN.own b hb; rw [e, HR.out.ohs] at this; cases this), hun1 b (.inr (HR.out.rN.own b hb))⟩;have hnew : ∀ b, w.heap.size ≤ b → g1.own b = none := fun b hb => hun1 b (.inl (hmi.own b hb))
            refine ⟨sa, sc, fun b => (w.heap.size ≤ b ∧ b ≤ w.heap.size + 3) ∨ rowBlk g.vN = some b ∨ rowBlk (.slice sa A.sorted.length sc) = some b, rfl, ⟨?_, ?_, ?_, ?_, Nat.le_refl _⟩, fun b hb => .inr (.inl hb), ?_, ⟨.inl (by omega), hc17.at hmi.hcb (by omega)⟩, ⟨.inl (by omega), hc17.at hmi.hwp (by omega)⟩, ⟨.inl (by omega), cellAt hwb7 0⟩, ⟨.inl (by omega), hms7⟩, fun b hb => .inr (.inr hb), hrow'⟩
            · exact hR1.frame hC7 (fun _ h => h.elim)
            · have hSa : Step w g A wo3 g := ⟨hmi.old.mono fun _ _ h => h.elim, fun _ _ _ => rfl, rfl, rfl, rfl, rfl, rfl, fun _ _ => rfl⟩;have hSb := hSa.trans hS1 (Int.le_refl _);exact hSb.trans (A' := A) ⟨hC7.mono fun _ _ h => h.elim, fun _ _ _ => rfl, rfl, rfl, rfl, rfl, rfl, fun _ _ => rfl⟩ (Int.le_refl _)
            · intro b hb;refine ⟨rfl, ?_, ?_⟩
              · rcases hb with hb | hb | hb
                · exact hnew b hb.1
                · exact (hvn b hb).2.2
                · exact hR1.none_of_ge (hfr b hb)
              · rcases hb with hb | hb | hb
                · have := hc17.size; omega
                · have := hc17.size; have := (hvn b hb).1; omega
                · exact hrow.lt hb
            · simp [St.minorTo]
            · exact HR.out.rN.row.same fun b hb => by
               rw [hc17.block b (by have := (hvn b hb).1; omega) (hvn b hb).2.1, hmi.old.block b (hvn b hb).1 (fun h => h)]
           have HSo := Lib.hid hso2;clear hso2 hso hR1 hS1 hob1 hun1 hC1 hR3;subst hW1;have hsl := sorted_length A
           go_wp2_with (go_at_call 78; refine HSo.out.mono ?_; rintro e w7 ⟨sa, sc, H, rfl, HMn⟩)
           clear HSo
           go_loopw [125] (fun i wr => ∃ (j : Nat) (gr : Gh), j ≤ A.sorted.length ∧ i = .int .i64 j ∧ MnL w g A (fun n => decide (n ∈ S)) w7 H (A.sorted.take j) wr gr) (fun i _ => A.sorted.length - (intOf i).toNat)
           case atStart => exact ⟨0, g1, Nat.zero_le _, rfl, HMn.out.1⟩
           case round =>
            obtain ⟨j, gr, hj, rfl, hI⟩ := hrel;by_cases hlt2 : j < A.sorted.length
            · obtain ⟨-, hHN, hN, ⟨hHc, hbc⟩, ⟨hHw, hbw⟩, ⟨hHb, hcb2⟩, ⟨hHm, hms⟩, hHs, hrow⟩ := HMn.out;obtain ⟨old, d0, hlk, co, hA, hB, hD⟩ := hI.round HW.out.fit hlt2 (by have := HW.out.memT; have := HW.out.hm; omega) hHN hN;obtain ⟨sb, rfl, cs⟩ : ∃ sb, sa = some ⟨sb, 0, none⟩ ∧ wr.cell? ⟨sb, j, none⟩ = some (.int .i64 (A.sorted[j])) := by
               have hrow2 : Row wr 3 1 (.slice sa A.sorted.length sc) A.sorted.length (intCells A.sorted) := hrow.same fun b hb => (hI.hold b (hHs b hb)).1;obtain ⟨sb, h1, _, h2⟩ := hrow2.cells (by omega);exact ⟨sb, h1, h2 _ _ (by simp [intCells, hlt2])⟩
              have e1 : wr.cell? ⟨w.heap.size, 0, none⟩ = some (.pointer (some ⟨g.hb, 0, none⟩)) := cellAt (by rw [(hI.hold _ hHc).1]; exact hbc) 0;have e2 : wr.cell? ⟨w.heap.size + 1 + 1 + 1, 0, none⟩ = some (.pointer (some ⟨w.heap.size + 2, 0, none⟩)) := cellAt (by have := (hI.hold _ hHw).1; rw [hbw] at this; exact this) 0;have e3 : wr.cell? ⟨w.heap.size + 2, 0, none⟩ = some (.map (some (w.heap.size + 1))) := by
               unfold World.cell? at hcb2 ⊢;rw [(hI.hold _ hHb).1]; exact hcb2
              have hlook := look_set (hms.same (hI.hold _ hHm).1) (A.sorted[j]);rw [hnv] at hB;have HA := Lib.hid hA;have HB := Lib.hid hB;have HD := Lib.hid hD;clear hA hB hD hI hHN hN hHc hbc hHw hbw hHb hcb2 hHm hms hHs hrow hnv c2 f2;generalize gr.ob (A.sorted[j]) = okb at *;generalize A.sorted[j] = nn at *;cases old with
              | true =>
                go_wp2
                go_roundw
                case rel => exact ⟨j + 1, gr, by omega, by go_num, HA.out (by trivial)⟩
                case measure => simp [intOf]; omega
              | false =>
                by_cases hS : nn ∈ S
                · simp only [hS, decide_true] at hlook HB
                  go_wp2_with (go_at_call 79; refine (HB.out (by trivial) (by trivial)).mono ?_; rintro e w9 ⟨rfl, HM9⟩)
                  go_roundw
                  case rel =>
                   obtain ⟨g9, hM9⟩ := HM9.out;exact ⟨j + 1, g9, by omega, by go_num, hM9⟩
                  case measure => simp [intOf]; omega
                · simp only [hS, decide_false] at hlook HD;obtain ⟨w9, hdel, hM9⟩ := HD.out (by trivial) (by trivial);have HM9 := Lib.hid hM9;clear hM9
                  go_wp2_with (at_builtin; go_must (refine wpList_val rfl (exec_delete rfl (by exact hdel)) ?_))
                  go_roundw
                  case rel => exact ⟨j + 1, gr, by omega, by go_num, HM9.out⟩
                  case measure => simp [intOf]; omega
            · have hje : j = A.sorted.length := by omega
              subst hje;obtain ⟨-, -, -, ⟨hHc, hbc⟩, -⟩ := HMn.out;have hrep := hI.rep;rw [List.take_length] at hrep;have hents := minor_ents (A := A) (p := fun n => decide (n ∈ S)) (K := 1000000000000) A.sorted { A with memN := [] } (fun m x hx => by
               have := HW.out.fit.ents m x (lookup_of_mem HW.out.fit.nodup hx);omega)
              have hfg := forget_any hrep hents;rw [hI.step.hb] at hfg;have hcbw : wr.heap[w.heap.size]? = some (.cells #[.pointer (some ⟨g.hb, 0, none⟩)] 125 (0, 0)) := by rw [(hI.hold _ hHc).1]; exact hbc
              have hcbn := (hI.hold _ hHc).2.1;have e1 : wr.cell? ⟨w.heap.size, 0, none⟩ = some (.pointer (some ⟨g.hb, 0, none⟩)) := cellAt hcbw 0;have HFg : Hid (Calls Tryz.prog 80 #[.pointer (some ⟨g.hb, 0, none⟩)] wr fun e w8 => e = .returned (.tuple #[]) ∧ w8.cell? ⟨w.heap.size, 0, none⟩ = some (.pointer (some ⟨g.hb, 0, none⟩)) ∧ w8.cell? ⟨g.hb, 8, none⟩ = some (.map (some g.mr)) ∧
               Hid (∃ w9, (Builtin.clear_ #[68] 0 #[.map (some g.mr)]).run Tryz.prog w8 = .ok (.tuple #[]) w9 ∧ Post K (.returned (.tuple #[])) w9)) := by
               refine hfg.mono ?_;rintro e w8 ⟨rfl, g8, h8, hS8⟩;have hS : Step w g A w8 g8 := hI.step.trans hS8 (by rw [minorTo_names]; exact Int.le_refl _);have hmr : g8.mr = g.mr := hS.mr;have h88 := h8.c 8;rw [hS.hb] at h88;have hmrm := h8.mr;rw [hmr] at hmrm;obtain ⟨o9, hrun9, hM9⟩ := run_clear_map' (P := Tryz.prog) hmrm uMapB 0;have hs9 := h8.setRem (l := []) (w' := World.put w8 g.mr o9) (by rw [hmr]; exact chg_put1 _ _ _) (by rw [hmr]; exact hM9);refine ⟨rfl, cellAt (hS8.at hcbw hcbn).1 0, by rw [h88]; simp [hsCells, hmr], _, hrun9, HK.out _ _ ⟨rfl, S, g8, HFo.out, hs9.1, hS.trans (A' := (A.minorTo (fun n => decide (n ∈ S)) A.sorted).forgot) hs9.2 ?_⟩⟩
               show A.names ≤ (A.minorTo (fun n => decide (n ∈ S)) A.sorted).names;rw [minorTo_names]; exact Int.le_refl _
              clear hI hrep hents hfg hcbw hcbn hbc hHc
              go_wp2_with (first | (go_at_call 80; refine HFg.out.mono ?_; rintro e w8 ⟨rfl, k1, k2, HP⟩; obtain ⟨w9, hclr, hP9⟩ := HP.out) | (at_builtin; go_must (refine wpList_val rfl (exec_clear rfl (by exact hclr)) ?_)))
              go_end0
              exact hP9
         · simp only [List.concat_eq_append] at *;obtain ⟨o, ho, hyo⟩ := isYoung_isSome (hY.yng n (hY.todo n (by simp)));simp only [List.length_append, List.length_singleton] at c1 hvt hlen hnum;obtain ⟨rb, rfl, cn⟩ : ∃ rb, va = some ⟨rb, 0, none⟩ ∧ wo3.cell? ⟨rb, T'.length, none⟩ = some (.int .i64 n) := by
            have hrow := hI.mi.wk.row;rw [hvt, List.length_append, List.length_singleton] at hrow;obtain ⟨rb, h1, _, h2⟩ := hrow.cells (by omega);exact ⟨rb, h1, h2 _ _ (by simp [intCells])⟩
           have HI3 := Lib.hid hI;have HY3 := Lib.hid hY;have HV := Lib.hid hvt;have s1 : IntKind.i64.wrap ((T'.length : Int) + 1 - 1) = (T'.length : Int) := by rw [IntWalk.i64_in _ (by omega)]; omega
           have s2 : (0 : Int) ≤ (T'.length : Int) := by omega
           have s3 : IntKind.i64.wrap (T'.length : Int) = (T'.length : Int) := IntWalk.i64_in _ (by omega);have s4 : (T'.length : Int) ≤ (vc : Int) := by simp only [List.length_append, List.length_singleton] at hvle; omega
           clear hvcase hvt hI hY hTY hwb;go_wp2
           go_quiet (fail)
           go_wp2
           go_region
           all_goals
            clear s1 s2 s3 s4;obtain ⟨W1, hW1⟩ : ∃ W1, W1 = (wo3.drewN (nq + 1)).setCell ⟨w.heap.size + 2, 1, none⟩ (.slice (some ⟨rb, 0, none⟩) T'.length vc) := ⟨_, rfl⟩;rw [← hW1];have hI2 := (HI3.out.drewN (nq + 1)).pop HV.out;rw [← hW1] at hI2;clear hW1 c0 c1 f1 cn cw ccb;have hlk := lookO_some hI2.mi.rep ho;have d0 : W1.cell? ⟨g.hb, 0, none⟩ = some (.map (some g.mo)) := hI2.mi.rep.c 0;have d1 : W1.cell? ⟨g.ob n, 0, none⟩ = some (.bool o.table) := (hI2.mi.rep.obj n o (mem_of_lookup ho)).c 0;have ccb : W1.cell? ⟨w.heap.size, 0, none⟩ = some (.pointer (some ⟨g.hb, 0, none⟩)) := cellAt hI2.mi.hcb 0;have htl : T'.length ≤ S.length := by omega
            have hvi : VI A S T' [] := ⟨HY3.out.vi.nod, HY3.out.vi.yng, htl⟩;cases ht : o.table with
            | true =>
              rw [ht] at d1;obtain ⟨pa, pc, W2, happ, hI3⟩ := hI2.push n (by omega);have hY4 := HY3.out.table ho ht;have hlen4 := hY4.len;simp only [List.length_append, List.length_singleton] at hlen4;have hwb2 := hI3.mi.wk.wb;rw [hI3.mi.kwb, hI3.mi.kms] at hwb2;have cw2 : W2.cell? ⟨w.heap.size + 1 + 1 + 1, 0, none⟩ = some (.pointer (some ⟨w.heap.size + 2, 0, none⟩)) := cellAt hI3.mi.hwp 0;have ccb2 : W2.cell? ⟨w.heap.size, 0, none⟩ = some (.pointer (some ⟨g.hb, 0, none⟩)) := cellAt hI3.mi.hcb 0;have c12 : W2.cell? ⟨w.heap.size + 2, 1, none⟩ = some (.slice (some ⟨rb, 0, none⟩) T'.length vc) := cellAt hwb2 1
              have hvals := hI3.values HW.out hvi hY4.tabs (by simp only [List.length_append, List.length_singleton]; omega);have HI4 := Lib.hid hI3;have HY4 := Lib.hid hY4;have HVl : Hid (Calls Tryz.prog 77 #[.pointer (some ⟨g.hb, 0, none⟩), .slice pa (Tb.length + 1) pc, .pointer (some ⟨w.heap.size + 2, 0, none⟩), .func (.func 71) #[] #[.pointer (some ⟨w.heap.size, 0, none⟩), .pointer (some ⟨w.heap.size + 1 + 1 + 1, 0, none⟩)]] W2 _) := hvals;clear hI2 hI3 hY4 hvals hwb2 hvi;cases T' with
              | nil =>
                simp only [List.length_nil] at c12 happ ⊢
                go_wp2_with (first | (at_builtin; go_must (refine wpList_val rfl (exec_append rfl happ) ?_)) | (go_at_call 77; refine HVl.out.mono ?_; rintro e w5 ⟨rfl, k5, N5, hM5, hV5, hT5⟩))
                have HM5 := Lib.hid hM5;clear hM5
                go_roundg (gk - 1)
                case measure => omega
                case rel => exact ⟨k5, S ++ N5, [] ++ N5, Tb ++ [n], pa, pc, by simp, by rw [List.length_append, List.length_singleton]; exact HM5.out, HY4.out.grow hV5, fun h => by
                 have hN : N5 = [] := by simpa using h
                 subst hN;simpa using hT5, by simp only [List.length_append, List.length_nil] at *; omega⟩
              | cons t1 T1 =>
                simp only [List.length_cons] at c12
                go_wp2_with (at_builtin; go_must (refine wpList_val rfl (exec_append rfl happ) ?_))
                go_roundg (gk - 1)
                case measure => simp only [List.length_cons] at *; omega
                case rel => exact ⟨_, S, t1 :: T1, Tb ++ [n], pa, pc, by simp, by rw [List.length_append, List.length_singleton]; exact HI4.out, HY4.out, fun h => (by cases h), by simp only [List.length_cons] at *; omega⟩
            | false =>
              rw [ht] at d1;have hrf := hI2.refs HW.out hvi ho;have HRf : Hid (Calls Tryz.prog 76 #[.pointer (some ⟨g.hb, 0, none⟩), .pointer (some ⟨g.ob n, 0, none⟩), .func (.func 71) #[] #[.pointer (some ⟨w.heap.size, 0, none⟩), .pointer (some ⟨w.heap.size + 1 + 1 + 1, 0, none⟩)]] W1 fun e w5 =>
               e = .returned (.tuple #[]) ∧ ∃ (k5 : WkG) (N5 : List Int) (va5 : Option Addr) (vc5 : Nat), (w5.cell? ⟨w.heap.size + 1 + 1 + 1, 0, none⟩ = some (.pointer (some ⟨w.heap.size + 2, 0, none⟩)) ∧ w5.cell? ⟨w.heap.size, 0, none⟩ = some (.pointer (some ⟨g.hb, 0, none⟩)) ∧ w5.cell? ⟨w.heap.size + 2, 1, none⟩ = some (.slice va5 (T' ++ N5).length vc5)) ∧
                 Hid (M3 w g A w5 k5 (S ++ N5) (T' ++ N5) Tb (.slice ta Tb.length tc) ∧ YJ A (A.roots ++ A.reg) (S ++ N5) (T' ++ N5) Tb)) := by
               refine hrf.mono ?_;rintro e w5 ⟨rfl, k5, N5, hM, hV, hs⟩;obtain ⟨va5, vc5, hvt5, _, _, _⟩ := hM.mi.wk.row.slice;have hwb5 := hM.mi.wk.wb;rw [hM.mi.kwb, hM.mi.kms, hvt5] at hwb5;exact ⟨rfl, k5, N5, va5, vc5, ⟨cellAt hM.mi.hwp 0, cellAt hM.mi.hcb 0, cellAt hwb5 1⟩, hM, HY3.out.fields ho ht hV hs⟩
              clear hI2 hrf hvi
              go_upto_region 20 with (go_at_call 76; refine HRf.out.mono ?_; rintro e w5 ⟨rfl, k5, N5, va5, vc5, ⟨cw5, ccb5, c15⟩, HM5⟩)
              obtain ⟨hM5, hY5⟩ := HM5.out;clear HM5 HRf;have hln5 := hY5.len;have hbd5 := hY5.bound;have hm5 : A.objs.length + (T' ++ N5).length ≤ gk - 1 + (S ++ N5).length := by simp only [List.length_append] at *; omega
              have hgk : 1 ≤ gk := by omega
              rcases hTN : T' ++ N5 with _ | ⟨x5, l5⟩
              · rw [hTN] at hM5 hY5 c15 hln5 hm5;have hvals := hM5.values HW.out hY5.vi hY5.tabs (by omega);have HVl : Hid (Calls Tryz.prog 77 #[.pointer (some ⟨g.hb, 0, none⟩), .slice ta Tb.length tc, .pointer (some ⟨w.heap.size + 2, 0, none⟩), .func (.func 71) #[] #[.pointer (some ⟨w.heap.size, 0, none⟩), .pointer (some ⟨w.heap.size + 1 + 1 + 1, 0, none⟩)]] w5 _) := hvals;have HY5 := Lib.hid hY5;simp only [List.length_nil] at c15;clear hM5 hY5 hvals hTN hln5 hbd5
                go_wp2_with (go_at_call 77; refine HVl.out.mono ?_; rintro e w6 ⟨rfl, k6, N6, hM6, hV6, hT6⟩)
                have HM6 := Lib.hid hM6;clear hM6
                go_roundg (gk - 1)
                case measure => omega
                case rel => exact ⟨k6, S ++ N5 ++ N6, [] ++ N6, Tb, ta, tc, rfl, HM6.out, HY5.out.grow hV6, fun h => by
                 have hN : N6 = [] := by simpa using h
                 subst hN;simpa using hT6, by simp only [List.length_append, List.length_nil] at *; omega⟩
              · rw [hTN] at hM5 hY5 c15 hln5 hm5;have HM5 := Lib.hid hM5;have HY5 := Lib.hid hY5;simp only [List.length_cons] at c15;clear hM5 hY5 hTN hln5 hbd5;go_wp2
                go_roundg (gk - 1)
                case measure => omega
                case rel => exact ⟨k5, S ++ N5, x5 :: l5, Tb, ta, tc, rfl, HM5.out, HY5.out, fun h => (by cases h), hm5⟩
      | cons p left =>
        obtain ⟨n, v, w2, hnext, hent, hlen, ccb2, c02, hlk2, hall⟩ := hI.round HR.out HW.out HRem.out (by simp);have hpos : 1 ≤ gk := by simp only [List.length_cons] at hnum; omega
        have hle : (delKV (p :: left) n).length ≤ gk - 1 := by omega
        have HLe := Lib.hid hle;have HAll := Lib.hid hall;clear hI hall hlen hle;generalize g.ob n = okb at *;have hlk3 : (Instr.lookup 64 (.map (some g.mo)) (.int .i64 n) false).run Tryz.prog w2.drew = .ok (.pointer (some ⟨okb, 0, none⟩)) w2.drew := hlk2 1;clear hlk2
        go_wp2_with (at_next; go_must (refine wpList_val rfl (exec_next rfl (by exact hnext)) ?_))
        go_region_law ((go_simp; go_at_call 75; refine (HAll.out 1).mono ?_; rintro e w3 ⟨rfl, HM3⟩))
        all_goals
         go_wp2
         go_roundg (gk - 1)
         case measure => omega
         case rel =>
          obtain ⟨k', N', hM3⟩ := HM3.out;exact ⟨_, k', N', hM3, HLe.out⟩
theorem leastLen_any (w : World) (a : Option Addr) (n c : Nat) : Calls Tryz.prog 165 #[.slice a n c] w fun e w' => e = .returned (.int .i64 n) ∧ w = w' := by
 go_enter Tryz.func165, Tryz.ntmps165
 go_wp2;go_ret;exact ⟨rfl, rfl⟩
theorem leastEmpty_any (w : World) (a : Option Addr) (n c : Nat) : Calls Tryz.prog 170 #[.slice a n c] w fun e w' => e = .returned (.bool (decide (n = 0))) ∧ w = w' := by
 cases n with
 | zero =>
   go_enter Tryz.func170, Tryz.ntmps170
   go_wp2;go_ret;exact ⟨rfl, rfl⟩
 | succ n =>
   go_enter Tryz.func170, Tryz.ntmps170
   go_wp2;go_ret;exact ⟨rfl, rfl⟩
theorem leastLess_any {k : Nat} (hi : i < n) (hk : k < n) (hn : n ≤ 1000000000000) (hx : w.cell? ⟨b, i, none⟩ = some (.int .i64 x)) (hy : w.cell? ⟨b, k, none⟩ = some (.int .i64 y)) :
 Calls Tryz.prog 166 #[.slice (some ⟨b, 0, none⟩) n c, .int .i64 i, .int .i64 k] w fun e w' => e = .returned (.bool (decide (x < y))) ∧ ∃ m, w' = w.drewN m := by
 have h1 : IntKind.i64.wrap (i : Int) = (i : Int) := IntWalk.i64_in _ (by omega);have h2 : IntKind.i64.wrap (k : Int) = (k : Int) := IntWalk.i64_in _ (by omega)
 go_enter Tryz.func166, Tryz.ntmps166
 go_wp2
 go_quiet (fail)
 go_wp2;go_ret;exact ⟨rfl, _, rfl⟩
theorem cell_set (w : World) (b i k : Nat) (v u : Value) (hi : w.cell? ⟨b, i, none⟩ = some u) (hk : ∃ z, w.cell? ⟨b, k, none⟩ = some z) : ∃ z, (w.setCell ⟨b, i, none⟩ v).cell? ⟨b, k, none⟩ = some z := by
 obtain ⟨z, hz⟩ := hk;by_cases e : i = k
 · subst e;exact ⟨v, World.cell?_setCell_same w _ _ hi⟩
 · exact ⟨z, by rw [World.cell?_setCell_other w _ _ _ (by intro h; cases h; exact e rfl)]; exact hz⟩
theorem leastSwap_any {k : Nat} (hi : i < n) (hk : k < n) (hn : n ≤ 1000000000000) (hx : w.cell? ⟨b, i, none⟩ = some (.int .i64 x)) (hy : w.cell? ⟨b, k, none⟩ = some (.int .i64 y)) (hf : ∀ q, w.frozen? ⟨b, q, none⟩ = false) :
 Calls Tryz.prog 169 #[.slice (some ⟨b, 0, none⟩) n c, .int .i64 i, .int .i64 k] w fun e w' => e = .returned (.tuple #[]) ∧ ∃ m, w' = ((w.drewN m).setCell ⟨b, i, none⟩ (.int .i64 y)).setCell ⟨b, k, none⟩ (.int .i64 x) := by
 have h1 : IntKind.i64.wrap (i : Int) = (i : Int) := IntWalk.i64_in _ (by omega);have h2 : IntKind.i64.wrap (k : Int) = (k : Int) := IntWalk.i64_in _ (by omega);have f1 := hf i;have f2 := hf k;obtain ⟨z, hz⟩ := cell_set w b i k (.int .i64 y) _ hx ⟨_, hy⟩
 go_enter Tryz.func169, Tryz.ntmps169
 go_wp2
 go_region
 all_goals
  go_wp2
  go_end0
  exact ⟨rfl, _, rfl⟩
theorem assert_int (x : Int) (w : World) : (Instr.typeAssert (.iface 3 (.int .i64 x)) 20 3 false).run Tryz.prog w = .ok (.int .i64 x) w := by kernel_rfl
structure Pushed (w : World) (lb : Nat) (v : Value) (xs : List Int) (x : Int) (w' : World) (v' : Value) : Prop where
 row : Row w' 3 1 v' (xs ++ [x]).length (intCells (xs ++ [x]))
 cell : w'.heap[lb]? = some (.cells #[v'] 63 (0, 0))
 chg : Chg (fun b => b = lb ∨ rowBlk v = some b) w w'
 loc : ∀ b, rowBlk v' = some b → rowBlk v = some b ∨ w.heap.size ≤ b
theorem leastPush_any (hrow : Row w 3 1 v xs.length (intCells xs)) (hlb : w.heap[lb]? = some (.cells #[v] 63 (0, 0))) (hne : ∀ b, rowBlk v = some b → b ≠ lb) (hT : xs.length < 1000000000000) (x : Int) :
 Calls Tryz.prog 168 #[.pointer (some ⟨lb, 0, none⟩), .iface 3 (.int .i64 x)] w fun e w' => e = .returned (.tuple #[]) ∧ ∃ v', Pushed w lb v xs x w' v' := by
 obtain ⟨a, cap, rfl, _, _, _⟩ := hrow.slice;have hrow1 : Row (w.drewN 1) 3 1 (.slice a xs.length cap) xs.length (intCells xs) := hrow.same fun _ _ => rfl;obtain ⟨a3, c3, w3, happ, hrow3, hC3, hloc3⟩ := app1 hrow1 x hT;have hC : Chg (fun b => rowBlk (.slice a xs.length cap) = some b) w w3 := ((Chg.refl _ _).drewN 1).trans hC3 (fun _ _ h => h);have h3 : w3.heap[lb]? = some (.cells #[.slice a xs.length cap] 63 (0, 0)) := hC.at hlb (fun h => hne lb h rfl);have c0 : w.cell? ⟨lb, 0, none⟩ = some (.slice a xs.length cap) := cellAt hlb 0;have d0 : w3.cell? ⟨lb, 0, none⟩ = some (.slice a xs.length cap) := cellAt h3 0;have d1 : w3.frozen? ⟨lb, 0, none⟩ = false := freeAt h3 0
 refine ret_k fun K hK => ?_;have HF : Hid (Post K (.returned (.tuple #[])) (w3.setCell ⟨lb, 0, none⟩ (.slice a3 (xs.length + 1) c3))) := by
  refine hK _ _ ⟨rfl, _, ?_, ?_, ?_, hloc3⟩
  · refine hrow3.same fun b hb => heap_setCell_ne (fun e => ?_) _;rcases hloc3 b hb with h | h
    · exact hne b h e
    · have e' : b = lb := e;have := lt_of_block hlb;have hs : (w.drewN 1).heap.size = w.heap.size := rfl;omega
  · have := heap_setCell h3 0 (.slice a3 (xs.length + 1) c3);simpa using this
  · exact (hC.mono fun _ _ h => .inr h).setCell (fun _ => .inl rfl) _
 have has := assert_int x;have a0 : (w.alloc (.cells #[.int .i64 x] 3)).cell? ⟨lb, 0, none⟩ = some (.slice a xs.length cap) := cellAt (heap_alloc_old hlb _) 0;clear hK hrow hrow1 hrow3 hC hC3 hloc3 h3 hlb hne
 go_enter Tryz.func168, Tryz.ntmps168
 go_wp2
 go_region_law (refine step_val rfl (exec_append rfl happ) ?_)
 all_goals
  go_wp2
  go_end0
  exact HF.out
theorem leastPop_any (hrow : Row w 3 1 v (xs ++ [x]).length (intCells (xs ++ [x]))) (hlb : w.heap[lb]? = some (.cells #[v] 63 (0, 0))) (hne : ∀ b, rowBlk v = some b → b ≠ lb) (hT : xs.length < 1000000000000) :
 Calls Tryz.prog 167 #[.pointer (some ⟨lb, 0, none⟩)] w fun e w' => e = .returned (.iface 3 (.int .i64 x)) ∧ ∃ v', Row w' 3 1 v' xs.length (intCells xs) ∧ w'.heap[lb]? = some (.cells #[v'] 63 (0, 0)) ∧ Chg (fun b => b = lb) w w' ∧ (∀ b, rowBlk v' = some b → rowBlk v = some b) := by
 obtain ⟨a, cap, rfl, hle, _, _⟩ := hrow.slice;rw [List.length_append, List.length_singleton] at hrow hle hlb hne ⊢;obtain ⟨b, rfl, hb, hc⟩ := hrow.cells (by omega);have cx : w.cell? ⟨b, xs.length, none⟩ = some (.int .i64 x) := hc _ _ (by simp [intCells]);have c0 : w.cell? ⟨lb, 0, none⟩ = some (.slice (some ⟨b, 0, none⟩) (xs.length + 1) cap) := cellAt hlb 0;have f0 : w.frozen? ⟨lb, 0, none⟩ = false := freeAt hlb 0;have hbl := hne b hb;refine ret_k fun K hK => ?_;have HF : Hid (Post K (.returned (.iface 3 (.int .i64 x))) (w.setCell ⟨lb, 0, none⟩ (.slice (some ⟨b, 0, none⟩) xs.length cap))) := by
  refine hK _ _ ⟨rfl, .slice (some ⟨b, 0, none⟩) xs.length cap, ?_, ?_, chg_set1 _ _ _ _, fun b' h => ?_⟩
  · have h := hrow.shrink xs.length (by omega);have e1 : (intCells (xs ++ [x])).take (xs.length * 1) = intCells xs := by simp [intCells]
    rw [e1] at h;refine h.same fun b' hb' => heap_setCell_ne (fun e => ?_) _;have e' : b' = lb := e;cases cap with
    | zero => simp [rowBlk] at hb'
    | succ c => simp only [rowBlk, Option.some.injEq] at hb'; omega
  · have := heap_setCell hlb 0 (.slice (some ⟨b, 0, none⟩) xs.length cap);simpa using this
  · cases cap with
    | zero => simp [rowBlk] at h
    | succ c => simpa [rowBlk] using h
 have s1 : IntKind.i64.wrap ((xs.length : Int) + 1 - 1) = (xs.length : Int) := by rw [IntWalk.i64_in _ (by omega)]; omega
 have s3 : IntKind.i64.wrap (xs.length : Int) = (xs.length : Int) := IntWalk.i64_in _ (by omega);have s4 : (xs.length : Int) ≤ (cap : Int) := by omega
 clear hK hrow hlb hne hc;generalize xs.length = n at *
 go_enter Tryz.func167, Tryz.ntmps167
 go_wp2;go_ret;exact HF.out
def kvsI (l : List (Int × Int)) : List (Int × Value) := l.map fun p => (p.1, .int .i64 p.2)
theorem Rep.setH (hR : Rep w g A) {l : List (Int × Int)} (hC : Chg (fun b => b = g.mh) w w') (hM : MapAt w' g.mh (kvsI l)) :
 Rep w' g { A with handles := l } ∧ Step w g A w' g := by
 have hCR : ChgR g (fun r => r = .mh) w w' := hC.mono fun b _ hb r hr => by rw [hb, hR.omh] at hr; simpa using hr.symm
 exact ⟨hR.move hCR (fun b hb => Nat.lt_of_lt_of_le (hR.lt b hb) hC.size) (mh := .inr hM) (obj := fun n o h => .inl ⟨h, rfl, rfl, by simp, by simp⟩),
  ⟨hC.mono fun b _ hb => by rw [hb, hR.omh]; rfl, fun _ _ _ => rfl, rfl, rfl, rfl, rfl, rfl, fun _ _ => rfl⟩⟩
theorem Rep.setNums (hR : Rep w g A) {nm nx : Int} (hC : Chg (fun b => b = g.hb) w w') (hb : w'.heap[g.hb]? = some (.cells (hsCells g { A with names := nm, next := nx }) 74 (0, 0))) :
 Rep w' g { A with names := nm, next := nx } ∧ Step w g A w' g := by
 have hCR : ChgR g (fun r => r = .hs) w w' := hC.mono fun b _ hb r hr => by rw [hb, hR.ohs] at hr; simpa using hr.symm
 exact ⟨hR.move hCR (fun b hb => Nat.lt_of_lt_of_le (hR.lt b hb) hC.size) (hs := .inr hb) (mh := .inl ⟨by simp, rfl⟩) (mr := .inl ⟨by simp, rfl⟩) (obj := fun n o h => .inl ⟨h, rfl, rfl, by simp, by simp⟩),
  ⟨hC.mono fun b _ hb => by rw [hb, hR.ohs]; rfl, fun _ _ _ => rfl, rfl, rfl, rfl, rfl, rfl, fun _ _ => rfl⟩⟩
theorem Rep.setF (hR : Rep w g A) (hS : Step w0 g0 A0 w g) {v1 : Value} (hC : Chg (fun b => b = g.lb ∨ rowBlk g.vF = some b) w w')
 (hlb : w'.heap[g.lb]? = some (.cells #[v1] 63 (0, 0)))
 (hrow : Row w' 3 1 v1 l.length (intCells l)) (hloc : ∀ b, rowBlk v1 = some b → g.own b = some .la ∨ (g.own b = none ∧ w0.heap.size ≤ b)) :
 Rep w' { g with vF := v1, own := g.lab v1 .la } { A with free := l } ∧ Step w0 g0 A0 w' { g with vF := v1, own := g.lab v1 .la } := by
 have hloc' : ∀ b, rowBlk v1 = some b → g.own b = some .la ∨ g.own b = none := fun b hb => (hloc b hb).imp id (·.1);obtain ⟨h1, h2⟩ := lab0_chg2 hR.olb hR.rF.own hloc' hC;refine ⟨?_, hS.fin h2 hloc rfl rfl rfl rfl rfl rfl rfl⟩;exact (hR.lab0 hloc').move h1 (lab_lt hR hC.size (fun b hb => hrow.lt hb)) (fun b hb => by simp [if_pos hb]) (mh := .inl ⟨by simp, rfl⟩) (mr := .inl ⟨by simp, rfl⟩)
  (lb := .inr hlb) (rF := .inr ⟨hrow, fun b hb => by simp [Gh.lab, hb]⟩) (obj := fun n o h => .inl ⟨h, rfl, rfl, by simp, by simp⟩)
theorem Rep.setWords (hR : Rep w g A) (old : Bool) {l : List Wd} (hC : Chg (fun b => rowBlk (g.vM old) = some b) w w') (hrow : Row w' 113 2 (g.vM old) l.length (wdCells l)) :
 Rep w' g (A.setMem old l) ∧ Step w g A w' g := by
 have hM := hR.rM old;have hCR : ChgR g (fun r => r = memRole old) w w' := hC.mono fun b _ hb r hr => by rw [hM.own b hb] at hr; simpa using hr.symm
 have hS : Step w g A w' g := ⟨hC.mono fun b _ hb => by rw [hM.own b hb]; rfl, fun _ _ _ => rfl, rfl, rfl, rfl, rfl, rfl, fun _ _ => rfl⟩;refine ⟨?_, hS⟩;cases old with
 | true =>
   exact hR.move hCR (fun b hb => Nat.lt_of_lt_of_le (hR.lt b hb) hC.size) (hs := .inl ⟨by simp [memRole], rfl⟩) (mo := .inl ⟨by simp [memRole], rfl⟩) (mh := .inl ⟨by simp [memRole], rfl⟩) (mr := .inl ⟨by simp [memRole], rfl⟩) (lb := .inl ⟨by simp [memRole], rfl⟩)
    (rF := .inl ⟨by simp [memRole], rfl, rfl⟩) (rN := .inl ⟨by simp [memRole], rfl, rfl⟩) (rT := .inr ⟨hrow, hR.rT.own⟩) (rR := .inl ⟨by simp [memRole], rfl, rfl⟩) (rQ := .inl ⟨by simp [memRole], rfl, rfl⟩)
    (obj := fun n o h => .inl ⟨h, rfl, rfl, by simp [memRole], by simp [memRole]⟩)
 | false =>
   exact hR.move hCR (fun b hb => Nat.lt_of_lt_of_le (hR.lt b hb) hC.size) (hs := .inl ⟨by simp [memRole], rfl⟩) (mo := .inl ⟨by simp [memRole], rfl⟩) (mh := .inl ⟨by simp [memRole], rfl⟩) (mr := .inl ⟨by simp [memRole], rfl⟩) (lb := .inl ⟨by simp [memRole], rfl⟩)
    (rF := .inl ⟨by simp [memRole], rfl, rfl⟩) (rN := .inr ⟨hrow, hR.rN.own⟩) (rT := .inl ⟨by simp [memRole], rfl, rfl⟩) (rR := .inl ⟨by simp [memRole], rfl, rfl⟩) (rQ := .inl ⟨by simp [memRole], rfl, rfl⟩)
    (obj := fun n o h => .inl ⟨h, rfl, rfl, by simp [memRole], by simp [memRole]⟩)
def St.addOb (A : St) (n : Int) (o : Ob) : St := { A with objs := A.objs ++ [(n, o)] }
def Gh.addOb (g : Gh) (n : Int) (b : Nat) : Gh := { g with ob := fun m => if m = n then b else g.ob m, vE := fun m => if m = n then .slice none 0 0 else g.vE m, own := fun x => if x = b then some (.obj n) else g.own x }
theorem Rep.addObj (hR : Rep w g A) (hS : Step w0 g0 A0 w g) {n : Int} {o : Ob} (hn : n ∉ A.objs.map (·.1)) (hn0 : A0.names ≤ n) (hb : g.own b = none) (hb0 : w0.heap.size ≤ b) (he : o.ents = [])
 (hC : Chg (fun x => x = g.mo) w w') (hM : MapAt w' g.mo (kvsO g A ++ [(n, .pointer (some ⟨b, 0, none⟩))])) (hblk : w.heap[b]? = some (.cells #[.bool o.table, .int .i64 o.size, .bool o.old, .int .i64 o.at_, .slice none 0 0] 110 (0, 0))) :
 Rep w' (g.addOb n b) (A.addOb n o) ∧ Step w0 g0 A0 w' (g.addOb n b) := by
 have hbl := lt_of_block hblk;have hbne : b ≠ g.mo := fun e => by rw [e, hR.omo] at hb; cases hb
 have hlab := hR.relabel (fun x => if x = b then some (.obj n) else g.own x) (fun x r hx => by
  show (if x = b then _ else _) = _;rw [if_neg (fun e => by rw [e, hb] at hx; cases hx)]; exact hx) (fun x hx => by
  by_cases e : x = b
  · rw [e]; exact hbl
  · rw [if_neg e] at hx; exact hR.lt x hx)
 have hCR : ChgR { g with own := fun x => if x = b then some (.obj n) else g.own x } (fun r => r = .mo) w w' := hC.mono fun x _ hx r hr => by
  have hr' : (if x = b then some (.obj n) else g.own x) = some r := hr;rw [hx, if_neg (fun e => hbne e.symm), hR.omo] at hr';simpa using hr'.symm
 refine ⟨?_, ?_⟩
 · refine hlab.move (g' := g.addOb n b) hCR (fun x hx => ?_) (hown := fun _ _ => rfl) (mo := .inr ?_) (mh := .inl ⟨by simp, rfl⟩) (mr := .inl ⟨by simp, rfl⟩) (obj := ?_)
   · by_cases e : x = b
     · rw [e]; exact Nat.lt_of_lt_of_le hbl hC.size
     · have hx' : (if x = b then some (.obj n) else g.own x : Option Role).isSome := hx;rw [if_neg e] at hx';exact Nat.lt_of_lt_of_le (hR.lt x hx') hC.size
   · have e : kvsO (g.addOb n b) (A.addOb n o) = kvsO g A ++ [(n, .pointer (some ⟨b, 0, none⟩))] := by
      simp only [kvsO, St.addOb, Gh.addOb, List.map_append, List.map_cons, List.map_nil, if_true]
      congr 1
      refine List.map_congr_left fun p hp => ?_;rw [if_neg (fun e => hn (List.mem_map.2 ⟨p, hp, e⟩))]
     rw [e]; exact hM
   · intro m x hx;have hx' : (m, x) ∈ A.objs ++ [(n, o)] := hx;rcases List.mem_append.1 hx' with hx' | hx'
     · left;have hne : m ≠ n := fun e => hn (List.mem_map.2 ⟨_, hx', e⟩);exact ⟨hx', by simp [Gh.addOb, hne], by simp [Gh.addOb, hne], by simp, by simp⟩
     · right;simp only [List.mem_singleton, Prod.mk.injEq] at hx';obtain ⟨rfl, rfl⟩ := hx';refine ⟨by simp [Gh.addOb], ?_, ?_, ?_⟩
       · have : (g.addOb m b).ob m = b := by simp [Gh.addOb]
         rw [this, hC.at hblk hbne];simp [obCells, Gh.addOb]
       · have : (g.addOb m b).vE m = .slice none 0 0 := by simp [Gh.addOb]
         rw [this, he];exact Row.nil _ _ _
       · have : (g.addOb m b).vE m = .slice none 0 0 := by simp [Gh.addOb]
         rw [this];intro y hy;simp [rowBlk] at hy
 · refine ⟨hS.chg.trans (hC.mono (F' := fun x => (g.own x).isSome) fun x _ hx => by rw [hx, hR.omo]; rfl) (fun j hj hh => by rw [hS.own j hj hh] at hh; exact hh), ?_, hS.hb, hS.mo, hS.mh, hS.mr, hS.lb, fun m hm => ?_⟩
   · intro x hx hs;have hs' : (if x = b then some (.obj n) else g.own x : Option Role).isSome := hs;show (if x = b then some (.obj n) else g.own x : Option Role) = _;rw [if_neg (by omega)] at hs' ⊢;exact hS.own x hx hs'
   · show (if m = n then b else g.ob m) = _;rw [if_neg (by omega)];exact hS.ob m hm
noncomputable def withVal (F : FuncId) (lb : Nat) (w : World) : Result (FuncId × Value) := match w.cell? ⟨lb, 0, none⟩ with
 | some v => .ok (F, v) w
 | none => match w.farLoad Tryz.prog ⟨lb, 0, none⟩ false with
   | .ok (v, _) => .ok (F, v) w
   | .error h => .halt h w
theorem withVal_some {F : FuncId} (h : w.cell? ⟨lb, 0, none⟩ = some v) : withVal F lb w = .ok (F, v) w := by unfold withVal; rw [h]
theorem meth_Len0 (lb : Nat) (w : World) : (method 310 62 (.pointer (some ⟨lb, 0, none⟩)) "Len").run Tryz.prog w = withVal 165 lb w := by kernel_rfl
theorem meth_Less0 (lb : Nat) (w : World) : (method 310 62 (.pointer (some ⟨lb, 0, none⟩)) "Less").run Tryz.prog w = withVal 166 lb w := by kernel_rfl
theorem meth_Swap0 (lb : Nat) (w : World) : (method 310 62 (.pointer (some ⟨lb, 0, none⟩)) "Swap").run Tryz.prog w = withVal 169 lb w := by kernel_rfl
theorem meth_empty0 (lb : Nat) (w : World) : (method 310 62 (.pointer (some ⟨lb, 0, none⟩)) "skerry/heap.empty").run Tryz.prog w = withVal 170 lb w := by kernel_rfl
theorem meth_Len (h : w.cell? ⟨lb, 0, none⟩ = some v) : (method 310 62 (.pointer (some ⟨lb, 0, none⟩)) "Len").run Tryz.prog w = .ok (165, v) w := by rw [meth_Len0, withVal_some h]
theorem meth_Less (h : w.cell? ⟨lb, 0, none⟩ = some v) : (method 310 62 (.pointer (some ⟨lb, 0, none⟩)) "Less").run Tryz.prog w = .ok (166, v) w := by rw [meth_Less0, withVal_some h]
theorem meth_Swap (h : w.cell? ⟨lb, 0, none⟩ = some v) : (method 310 62 (.pointer (some ⟨lb, 0, none⟩)) "Swap").run Tryz.prog w = .ok (169, v) w := by rw [meth_Swap0, withVal_some h]
theorem meth_empty (h : w.cell? ⟨lb, 0, none⟩ = some v) : (method 310 62 (.pointer (some ⟨lb, 0, none⟩)) "skerry/heap.empty").run Tryz.prog w = .ok (170, v) w := by rw [meth_empty0, withVal_some h]
theorem meth_Push (lb : Nat) (w : World) : (method 310 62 (.pointer (some ⟨lb, 0, none⟩)) "Push").run Tryz.prog w = .ok (168, .pointer (some ⟨lb, 0, none⟩)) w := by kernel_rfl
theorem meth_Pop (lb : Nat) (w : World) : (method 310 62 (.pointer (some ⟨lb, 0, none⟩)) "Pop").run Tryz.prog w = .ok (167, .pointer (some ⟨lb, 0, none⟩)) w := by kernel_rfl
theorem call_Len (args : Array Value) (w : World) : (callFunc 165 args).run Tryz.prog w = .ok (.enter 165 args) w := by kernel_rfl
theorem call_Less (args : Array Value) (w : World) : (callFunc 166 args).run Tryz.prog w = .ok (.enter 166 args) w := by kernel_rfl
theorem call_Swap (args : Array Value) (w : World) : (callFunc 169 args).run Tryz.prog w = .ok (.enter 169 args) w := by kernel_rfl
theorem call_empty (args : Array Value) (w : World) : (callFunc 170 args).run Tryz.prog w = .ok (.enter 170 args) w := by kernel_rfl
theorem call_Push (args : Array Value) (w : World) : (callFunc 168 args).run Tryz.prog w = .ok (.enter 168 args) w := by kernel_rfl
theorem call_Pop (args : Array Value) (w : World) : (callFunc 167 args).run Tryz.prog w = .ok (.enter 167 args) w := by kernel_rfl
def HeapOrd (l : List Int) : Prop := ∀ i x y, 0 < i → l[(i - 1) / 2]? = some x → l[i]? = some y → x ≤ y
structure UpI (l : List Int) (j : Nat) : Prop where
 ord : ∀ i x y, 0 < i → i ≠ j → l[(i - 1) / 2]? = some x → l[i]? = some y → x ≤ y
 kid : ∀ i x y, 0 < i → (i - 1) / 2 = j → 0 < j → l[(j - 1) / 2]? = some x → l[i]? = some y → x ≤ y
theorem UpI.top (h : UpI l 0) : HeapOrd l := fun i x y hi hx hy => h.ord i x y hi (by omega) hx hy
theorem UpI.stop (h : UpI l j) (hj : 0 < j) (hx : l[(j - 1) / 2]? = some x) (hy : l[j]? = some y) (hle : ¬ y < x) : HeapOrd l := by
 intro i u v hi hu hv;by_cases e : i = j
 · subst e;rw [hx] at hu; rw [hy] at hv;simp only [Option.some.injEq] at hu hv;omega
 · exact h.ord i u v hi e hu hv
theorem UpI.swap (h : UpI l j) (hj : 0 < j) (hjl : j < l.length) (hx : l[(j - 1) / 2]? = some x) (hy : l[j]? = some y) (hlt : y < x) : UpI ((l.set ((j - 1) / 2) y).set j x) ((j - 1) / 2) := by
 have hpj : (j - 1) / 2 ≠ j := by omega
 have hpl : (j - 1) / 2 < l.length := by omega
 have get : ∀ i, ((l.set ((j - 1) / 2) y).set j x)[i]? = if i = j then some x else if i = (j - 1) / 2 then some y else l[i]? := by
  intro i;rw [List.getElem?_set, List.getElem?_set];by_cases e1 : i = j
  · subst e1; simp [hjl]
  · rw [if_neg (fun e => e1 e.symm), if_neg e1];by_cases e2 : i = (j - 1) / 2
    · subst e2; simp [hpl]
    · rw [if_neg (fun e => e2 e.symm), if_neg e2]
 constructor
 · intro i u v hi hne hu hv;rw [get] at hu hv;by_cases e1 : i = j
   · subst e1;rw [if_neg hpj, if_pos rfl] at hu;rw [if_pos rfl] at hv;simp only [Option.some.injEq] at hu hv;omega
   · rw [if_neg e1, if_neg hne] at hv;by_cases e2 : (i - 1) / 2 = j
     · rw [e2, if_pos rfl] at hu;simp only [Option.some.injEq] at hu;subst hu;exact h.kid i _ v hi e2 hj hx hv
     · rw [if_neg e2] at hu;by_cases e3 : (i - 1) / 2 = (j - 1) / 2
       · rw [if_pos e3] at hu;simp only [Option.some.injEq] at hu;subst hu;have := h.ord i x v hi e1 (by rw [e3]; exact hx) hv;omega
       · rw [if_neg e3] at hu;exact h.ord i u v hi e1 hu hv
 · intro i u v hi hpar hp0 hu hv;rw [get] at hu hv;have e0 : ((j - 1) / 2 - 1) / 2 ≠ j := by omega
   have e0' : ((j - 1) / 2 - 1) / 2 ≠ (j - 1) / 2 := by omega
   rw [if_neg e0, if_neg e0'] at hu;have hux := h.ord ((j - 1) / 2) u x hp0 hpj hu hx;by_cases e1 : i = j
   · rw [if_pos e1] at hv;simp only [Option.some.injEq] at hv;omega
   · rw [if_neg e1] at hv;by_cases e2 : i = (j - 1) / 2
     · omega
     · rw [if_neg e2] at hv;have := h.ord i x v hi e1 (by rw [hpar]; exact hx) hv;omega
theorem Row.intCell (hrow : Row w 3 1 (.slice (some ⟨b, 0, none⟩) n c) n (intCells l)) (hn : l.length = n) (hi : i < n) : w.cell? ⟨b, i, none⟩ = some (.int .i64 (l[i]'(by omega))) := by
 obtain ⟨b', hb', _, hc⟩ := hrow.cells (by omega);cases hb'
 exact hc _ _ (by simp [intCells, hn, hi])
theorem Row.swapped (hrow : Row w 3 1 (.slice (some ⟨b, 0, none⟩) n c) n (intCells l)) {g : Nat} (hg : rowBlk (.slice (some ⟨b, 0, none⟩) n c) = some g) (i k : Nat) (x y : Int) (m : Nat) :
 Row (((w.drewN m).setCell ⟨g, i, none⟩ (.int .i64 y)).setCell ⟨g, k, none⟩ (.int .i64 x)) 3 1 (.slice (some ⟨b, 0, none⟩) n c) n (intCells ((l.set i y).set k x)) := by
 have h1 : Row (w.drewN m) 3 1 (.slice (some ⟨b, 0, none⟩) n c) n (intCells l) := hrow.same fun _ _ => rfl;have := (h1.setCell hg i (.int .i64 y)).setCell hg k (.int .i64 x);simpa [intCells, List.map_set] using this
structure UpL (w : World) (lb b n c : Nat) (l0 l : List Int) (j : Nat) (wr : World) : Prop where
 row : Row wr 3 1 (.slice (some ⟨b, 0, none⟩) n c) n (intCells l)
 blk : rowBlk (.slice (some ⟨b, 0, none⟩) n c) = some b
 len : l.length = n
 lbc : wr.heap[lb]? = some (.cells #[.slice (some ⟨b, 0, none⟩) n c] 63 (0, 0))
 ne : b ≠ lb
 perm : l.Perm l0
 jn : j < n
 chg : Chg (fun x => x = b) w wr
theorem UpL.drewN (h : UpL w lb b n c l0 l j wr) (m : Nat) : UpL w lb b n c l0 l j (wr.drewN m) :=
 ⟨h.row.same fun _ _ => rfl, h.blk, h.len, h.lbc, h.ne, h.perm, h.jn, h.chg.drewN m⟩
theorem perm_swap (hi : i < l.length) (hj : j < l.length) (hne : i ≠ j) : ((l.set i (l[j])).set j (l[i])).Perm l := by
 rw [List.perm_iff_count];intro a;have hj2 : j < (l.set i (l[j])).length := by simpa using hj
 rw [List.count_set hj2, List.count_set hi, List.getElem_set_ne hne];have h1 : (if (l[i] == a) = true then 1 else 0) ≤ l.count a := by
  split
  · rename_i h
    have : l[i] = a := by simpa using h
    exact List.count_pos_iff.2 (this ▸ List.getElem_mem hi)
  · omega
 split <;> split <;> simp_all <;> omega
theorem up_any {j0 : Nat} (h0 : UpL w lb b n c l0 l0 j0 w) (hU : UpI l0 j0) (hn : n ≤ 1000000000000) :
 Calls Tryz.prog 114 #[.iface 62 (.pointer (some ⟨lb, 0, none⟩)), .int .i64 j0] w fun e w' => e = .returned (.tuple #[]) ∧ ∃ l, UpL w lb b n c l0 l 0 w' ∧ HeapOrd l := by
 refine ret_k fun K hK => ?_;have HK := Lib.hid hK;have H0 := Lib.hid h0;have HU := Lib.hid hU;clear hK h0 hU
 go_enter Tryz.func114, Tryz.ntmps114
 go_wp2
 go_loopw [1] (fun jv wr => ∃ (l : List Int) (j : Nat), jv = .int .i64 j ∧ UpL w lb b n c l0 l j wr ∧ UpI l j) (fun jv _ => (intOf jv).toNat)
 case atStart => exact ⟨l0, j0, rfl, H0.out, HU.out⟩
 case round =>
  obtain ⟨l, j, rfl, hI, hu⟩ := hrel;clear H0 HU;have hjn := hI.jn;cases j with
  | zero =>
    have HF := Lib.hid (HK.out _ _ ⟨rfl, l, hI, hu.top⟩);clear hI hu;go_wp2
    go_end0
    exact HF.out
  | succ j =>
    obtain ⟨p, hpj⟩ : ∃ p, p = j / 2 := ⟨_, rfl⟩;have hp : p < n := by omega
    have hcj' := hI.row.intCell hI.len hjn;have hcp' := hI.row.intCell hI.len hp;obtain ⟨x, hx⟩ : ∃ x, x = l[j + 1]'(by rw [hI.len]; exact hjn) := ⟨_, rfl⟩;obtain ⟨y, hy⟩ : ∃ y, y = l[p]'(by rw [hI.len]; exact hp) := ⟨_, rfl⟩;have hcj : wr.cell? ⟨b, j + 1, none⟩ = some (.int .i64 x) := by rw [hx]; exact hcj'
    have hcp : wr.cell? ⟨b, p, none⟩ = some (.int .i64 y) := by rw [hy]; exact hcp'
    have hgx : l[j + 1]? = some x := by rw [hx]; exact List.getElem?_eq_getElem _
    have hgy : l[p]? = some y := by rw [hy]; exact List.getElem?_eq_getElem _
    have hpe : (j + 1 - 1) / 2 = p := by omega
    have hfr := fun m q => (hI.row.same (w' := wr.drewN m) fun _ _ => rfl).free hI.blk q;have hSw := fun m => leastSwap_any (w := wr.drewN m) (c := c) hp hjn hn (by exact hcp) (by exact hcj) (hfr m);have hLe := leastLess_any (w := wr) (c := c) hjn hp hn hcj hcp;have ej : ((j + 1 : Nat) : Int) = (j : Int) + 1 := by omega
    rw [ej] at hLe;have hme := meth_Less (lb := lb) (cellAt hI.lbc 0);have hms := fun m => meth_Swap (lb := lb) (w := wr.drewN m) (cellAt hI.lbc 0);have hc1 := call_Less;have hc2 := call_Swap;have w2 : ((j : Int).tdiv 2) = (p : Int) := by rw [Int.tdiv_eq_ediv_of_nonneg (by omega)]; omega
    have w3 : ((j : Int) / 2) = (p : Int) := by omega
    have w4 : ((p : Int) == (j : Int) + 1) = false := by simp; omega
    by_cases hxy : x < y
    · have HK2 : Hid (∀ m1 m2, Calls Tryz.prog 169 #[.slice (some ⟨b, 0, none⟩) n c, .int .i64 p, .int .i64 ((j : Int) + 1)] (wr.drewN m1) fun e w' => e = .returned (.tuple #[]) ∧ Hid (∃ (l : List Int) (k : Nat), Value.int .i64 (p : Int) = .int .i64 (k : Int) ∧ UpL w lb b n c l0 l k (w'.drewN m2) ∧ UpI l k)) := by
       refine fun m1 m2 => ?_;have h1 := hSw m1;rw [ej] at h1;refine h1.mono ?_;rintro e w' ⟨rfl, m3, rfl⟩;have hu2 := hu.swap (by omega) (by rw [hI.len]; exact hjn) (by rw [hpe]; exact hgy) hgx hxy;rw [hpe] at hu2;refine ⟨rfl, (l.set p x).set (j + 1) y, p, rfl, ⟨?_, hI.blk, by simpa using hI.len, ?_, hI.ne, ?_, hp, ?_⟩, hu2⟩
       · exact (hI.row.swapped hI.blk p (j + 1) y x (m1 + m3)).same fun _ _ => rfl
       · show ((((wr.drewN m1).drewN m3).setCell ⟨b, p, none⟩ (.int .i64 x)).setCell ⟨b, j + 1, none⟩ (.int .i64 y)).heap[lb]? = _;rw [heap_setCell_ne (fun e => hI.ne (by have e' : lb = b := e; exact e'.symm)), heap_setCell_ne (fun e => hI.ne (by have e' : lb = b := e; exact e'.symm))];exact hI.lbc
       · refine List.Perm.trans ?_ hI.perm;rw [hx, hy];exact perm_swap _ _ (by omega)
       · exact ((((hI.chg.drewN m1).drewN m3).setCell (p := ⟨b, p, none⟩) (fun _ => rfl) _).setCell (p := ⟨b, j + 1, none⟩) (fun _ => rfl) _).drewN m2
      rw [decide_eq_true hxy] at hLe;have HLe := Lib.hid hLe;clear hI hu hcj hcp hcj' hcp' hgx hgy hx hy hfr hSw hLe HK hpj hpe
      go_wp2_with (first | (go_at_call 166; refine HLe.out.mono ?_; rintro e w5 ⟨rfl, m1, rfl⟩) | (go_at_call 169; refine (HK2.out _ 0).mono ?_; rintro e w6 ⟨rfl, HZ⟩))
      go_roundw
      case rel => exact HZ.out
      case measure => simp [intOf]; omega
    · have HStop : Hid (∀ m, Post K (.returned (.tuple #[])) (wr.drewN m)) := Lib.hid fun m =>
       HK.out _ _ ⟨rfl, l, ⟨(hI.drewN m).row, hI.blk, hI.len, hI.lbc, hI.ne, hI.perm, by omega, hI.chg.drewN m⟩, hu.stop (by omega) (by rw [hpe]; exact hgy) hgx hxy⟩
      rw [decide_eq_false hxy] at hLe;have HLe := Lib.hid hLe;clear hI hu hcj hcp hcj' hcp' hgx hgy hx hy hfr hSw hLe HK hpj hpe hms
      go_wp2_with (go_at_call 166; refine HLe.out.mono ?_; rintro e w5 ⟨rfl, m1, rfl⟩)
      go_end0
      exact HStop.out _
end Go.Proofs.YtelghmmcbgfjnaaGreat
