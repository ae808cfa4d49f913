/-
  The walks of the small functions of the collector: space, words, fields, isYoung. (A part of the proof, joined of: Wa, Wb; made smaller.)
-/
import Derived.Test.YtelghmmcbgfjnaaGreatH03
import Derived.Deep.QuietTactic
import Derived.BigQuiet
import Derived.Deep.RegionLaw
import Derived.Outline
import Derived.Lib.Hide
set_option maxHeartbeats 1000000
set_option maxRecDepth 100000
namespace Go.Proofs.YtelghmmcbgfjnaaGreat
variable {A : St} {P : Program} {args : Array Value} {g : Gh} {n : Int} {o : Ob} {w : World}
open Go.RowKit
theorem uWords : Tryz.prog.underlying 65 = some (.slice 113) := by kernel_rfl
theorem uEnts : Tryz.prog.underlying 108 = some (.slice 120) := by kernel_rfl
theorem uInts : Tryz.prog.underlying 23 = some (.slice 3) := by kernel_rfl
theorem uInt : Tryz.prog.underlying 3 = some (.int .i64) := by kernel_rfl
theorem uMapO : Tryz.prog.underlying 64 = some (.map 3 105) := by kernel_rfl
theorem uMapI : Tryz.prog.underlying 67 = some (.map 3 3) := by kernel_rfl
theorem uMapB : Tryz.prog.underlying 68 = some (.map 3 4) := by kernel_rfl
theorem iWord : (Tryz.prog.info? 113).map (fun i => (i.zero, i.size, i.bytes)) = some (some (.agg #[.bool false, .int .i64 0]), 2, 16) := by kernel_rfl
theorem iEntry : (Tryz.prog.info? 120).map (fun i => (i.zero, i.size, i.bytes)) = some (some (.agg #[.int .i64 0, .bool false, .int .i64 0]), 3, 24) := by kernel_rfl
theorem iInt : (Tryz.prog.info? 3).map (fun i => (i.zero, i.size, i.bytes)) = some (some (.int .i64 0), 1, 8) := by kernel_rfl
theorem zObj (w : World) : (zeroValue 105).run Tryz.prog w = .ok (.pointer none) w := by kernel_rfl
theorem zBool (w : World) : (zeroValue 4).run Tryz.prog w = .ok (.bool false) w := by kernel_rfl
theorem zInt (w : World) : (zeroValue 3).run Tryz.prog w = .ok (.int .i64 0) w := by kernel_rfl
def Post (K : Ending → World → Prop) (e : Ending) (w : World) : Prop := K e w
theorem ret_k {f : FuncId} {R : Ending → World → Prop} (h : ∀ K : Ending → World → Prop, (∀ e w', R e w' → Post K e w') → Calls P f args w (Post K)) : Calls P f args w R := h R (fun _ _ h => h)
theorem slice_len {a : Option Addr} {n n' c : Nat} (h : n = n') : Value.slice a n c = .slice a n' c := by rw [h]
theorem q_same {f : FuncId} {n : Nat} {v : Value} (h : Calls P f args (w.drewN n) fun e w' => e = .returned v ∧ w.drewN n = w') :
 Calls P f args (w.drewN n) fun e w'' => e = .returned v ∧ ∃ m, w'' = w.drewN m := h.mono fun _ _ ⟨he, hm⟩ => ⟨he, n, hm.symm⟩
theorem space_any (b : Nat) (old : Bool) (w : World) (hc : w.cell? ⟨b, 2, none⟩ = some (.bool old)) :
 Calls Tryz.prog 89 #[.pointer (some ⟨b, 0, none⟩)] w fun e w' => e = .returned (.int .i64 (if old then 1 else 0)) ∧ w = w' := by
 cases old
 all_goals
  go_enter Tryz.func89, Tryz.ntmps89
  go_wp2;go_ret;exact ⟨rfl, rfl⟩
theorem ObAt.c (h : ObAt w g n o) (i : Nat) : w.cell? ⟨g.ob n, i, none⟩ = (obCells g n o)[i]? := cellAt h.blk i
theorem Rep.c (h : Rep w g A) (i : Nat) : w.cell? ⟨g.hb, i, none⟩ = (hsCells g A)[i]? := cellAt h.hs i
theorem words_any (ho : ObAt w g n o) (hs : o.size ≤ 1000000000000) (he : o.ents.length ≤ 1000000000000) :
 Calls Tryz.prog 107 #[.pointer (some ⟨g.ob n, 0, none⟩)] w fun e w' => e = .returned (.int .i64 (1 + o.size + 3 * o.ents.length)) ∧ ∃ k, w' = w.drewN k := by
 obtain ⟨a, cap, hv, hle, hcm, hcase⟩ := ho.row.slice;have c1 : w.cell? ⟨g.ob n, 1, none⟩ = some (.int .i64 o.size) := ho.c 1;have c4 : w.cell? ⟨g.ob n, 4, none⟩ = some (.slice a o.ents.length cap) := by rw [← hv]; exact ho.c 4
 generalize o.ents.length = m at *;generalize o.size = s at *;clear hcase hv hle hcm ho
 go_enter Tryz.func107, Tryz.ntmps107
 go_wp2
 go_quiet (fail)
 go_wp2;go_ret;exact ⟨rfl, _, rfl⟩
theorem lookup_map_key {α β : Type} (f : Int → α → β) (n : Int) : ∀ l : List (Int × α), (l.map fun p => (p.1, f p.1 p.2)).lookup n = (l.lookup n).map (f n)
 | [] => rfl
 | (a, x) :: l => by
   by_cases e : n = a
   · subst e; simp [List.lookup]
   · have e2 : (n == a) = false := by simpa using e
     simp [List.lookup, e2, lookup_map_key f n l]
theorem mem_of_lookup {α : Type} {n : Int} {x : α} : ∀ {l : List (Int × α)}, l.lookup n = some x → (n, x) ∈ l
 | [], h => by simp at h
 | (a, y) :: l, h => by
   by_cases e : n = a
   · subst e;simp [List.lookup] at h;simp [h]
   · have e2 : (n == a) = false := by simpa using e
     simp only [List.lookup, e2] at h;exact List.mem_cons_of_mem _ (mem_of_lookup h)
theorem kvsO_lookup (g : Gh) (A : St) (n : Int) : (kvsO g A).lookup n = (A.objs.lookup n).map fun _ => .pointer (some ⟨g.ob n, 0, none⟩) :=
 lookup_map_key (fun m _ => Value.pointer (some ⟨g.ob m, 0, none⟩)) n A.objs
theorem lookO_some (hR : Rep w g A) (h : A.objs.lookup n = some o) :
 (Instr.lookup 64 (.map (some g.mo)) (.int .i64 n) false).run Tryz.prog w = .ok (.pointer (some ⟨g.ob n, 0, none⟩)) w := by
 rw [run_lookup_map hR.mo uMapO uInt zObj n false, kvsO_lookup, h];simp
theorem lookO_none (hR : Rep w g A) (h : A.objs.lookup n = none) :
 (Instr.lookup 64 (.map (some g.mo)) (.int .i64 n) false).run Tryz.prog w = .ok (.pointer none) w := by
 rw [run_lookup_map hR.mo uMapO uInt zObj n false, kvsO_lookup, h];simp
def St.isYoung (A : St) (n : Int) : Bool := match A.objs.lookup n with
 | some o => !o.old
 | none => false
theorem isYoung_any (hR : Rep w g A) (n : Int) :
 Calls Tryz.prog 72 #[.pointer (some ⟨g.hb, 0, none⟩), .int .i64 n] w fun e w' => e = .returned (.bool (A.isYoung n)) ∧ w = w' := by
 have c0 : w.cell? ⟨g.hb, 0, none⟩ = some (.map (some g.mo)) := hR.c 0;cases hl : A.objs.lookup n with
 | none =>
   have hlk := lookO_none hR hl;have hy : A.isYoung n = false := by simp [St.isYoung, hl]
   rw [hy];clear hR hl hy
   go_enter Tryz.func72, Tryz.ntmps72
   go_wp2;go_ret;exact ⟨rfl, rfl⟩
 | some o =>
   have hlk := lookO_some hR hl;have c2 : w.cell? ⟨g.ob n, 2, none⟩ = some (.bool o.old) := (hR.obj n o (mem_of_lookup hl)).c 2;have hy : A.isYoung n = !o.old := by simp [St.isYoung, hl]
   rw [hy];generalize o.old = b at *;clear hR hl hy
   go_enter Tryz.func72, Tryz.ntmps72
   go_wp2;go_ret;exact ⟨rfl, rfl⟩
def Gh.vM (g : Gh) (old : Bool) : Value := if old then g.vT else g.vN
def memRole (old : Bool) : Role := if old then .memT else .memN
theorem Rep.rM (h : Rep w g A) (old : Bool) : RowAt w g (memRole old) 113 2 (g.vM old) (A.mem old).length (wdCells (A.mem old)) := by
 cases old
 · exact h.rN
 · exact h.rT
def FieldsV (g : Gh) (o : Ob) (v : Value) : Prop :=
 (o.size = 0 ∧ ∃ a c, v = .slice a 0 c) ∨ (∃ b c, rowBlk (g.vM o.old) = some b ∧ v = .slice (some ⟨b, (o.at_ + 1) * 2, none⟩) o.size c)
theorem fields_any (hR : Rep w g A) (hm : A.objs.lookup n = some o) (hin : o.at_ + 1 + o.size ≤ (A.mem o.old).length) (hbig : (A.mem o.old).length ≤ 1000000000000) :
 Calls Tryz.prog 68 #[.pointer (some ⟨g.hb, 0, none⟩), .pointer (some ⟨g.ob n, 0, none⟩)] w fun e w' => ∃ v k, e = .returned v ∧ w' = w.drewN k ∧ FieldsV g o v := by
 have ho := hR.obj n o (mem_of_lookup hm);have c1 : w.cell? ⟨g.ob n, 1, none⟩ = some (.int .i64 o.size) := ho.c 1;have c2 : w.cell? ⟨g.ob n, 2, none⟩ = some (.bool o.old) := ho.c 2;have c3 : w.cell? ⟨g.ob n, 3, none⟩ = some (.int .i64 o.at_) := ho.c 3;obtain ⟨a, cap, hv, hle, hcm, hcase⟩ := (hR.rM o.old).row.slice;obtain ⟨b, rfl, hb⟩ : ∃ b, a = some ⟨b, 0, none⟩ ∧ rowBlk (g.vM o.old) = some b := by
  rcases hcase with h | h
  · omega
  · exact h
 have cm : w.cell? ⟨g.hb, 2 + (if o.old then 1 else 0), none⟩ = some (.slice (some ⟨b, 0, none⟩) (A.mem o.old).length cap) := by
  rw [← hv];cases o.old
  · exact hR.c 2
  · exact hR.c 3
 have HV : Hid (∀ v, (o.size = 0 ∧ ∃ a c, v = .slice a 0 c) ∨ (∃ c, v = .slice (some ⟨b, (o.at_ + 1) * 2, none⟩) o.size c) → FieldsV g o v) := fun v h =>
  h.imp id fun ⟨c, hc⟩ => ⟨b, c, hb, hc⟩
 generalize FieldsV g o = FV at *;generalize (A.mem o.old).length = len at *;generalize o.size = s at *;generalize o.at_ = p at *;generalize o.old = old at *;have hcl : len ≤ cap := hle;clear hv hle hcase hb ho hR hm;refine ret_k fun K hK => ?_;by_cases hcap : cap = p + 1
 · obtain rfl : s = 0 := by omega
   subst hcap;cases old
   · have cm' : w.cell? ⟨g.hb, 2, none⟩ = some (.slice (some ⟨b, 0, none⟩) len (p + 1)) := cm;clear cm
     go_enter Tryz.func68, Tryz.ntmps68
     go_wp2
     go_quiet ((go_at_call 89; exact q_same (space_any _ false _ c2)))
     go_wp2;go_ret;exact hK _ _ ⟨_, _, rfl, rfl, HV.out _ (.inl ⟨trivial, _, _, slice_len (by omega)⟩)⟩
   · have cm' : w.cell? ⟨g.hb, 3, none⟩ = some (.slice (some ⟨b, 0, none⟩) len (p + 1)) := cm;clear cm
     go_enter Tryz.func68, Tryz.ntmps68
     go_wp2
     go_quiet ((go_at_call 89; exact q_same (space_any _ true _ c2)))
     go_wp2;go_ret;exact hK _ _ ⟨_, _, rfl, rfl, HV.out _ (.inl ⟨trivial, _, _, slice_len (by omega)⟩)⟩
 · have hc1 : ¬ (cap = p + 1) := hcap;cases old
   · have cm' : w.cell? ⟨g.hb, 2, none⟩ = some (.slice (some ⟨b, 0, none⟩) len cap) := cm;clear cm
     go_enter Tryz.func68, Tryz.ntmps68
     go_wp2
     go_quiet ((go_at_call 89; exact q_same (space_any _ false _ c2)))
     go_wp2;go_ret;exact hK _ _ ⟨_, _, rfl, rfl, HV.out _ (.inr ⟨_, slice_len (by omega)⟩)⟩
   · have cm' : w.cell? ⟨g.hb, 3, none⟩ = some (.slice (some ⟨b, 0, none⟩) len cap) := cm;clear cm
     go_enter Tryz.func68, Tryz.ntmps68
     go_wp2
     go_quiet ((go_at_call 89; exact q_same (space_any _ true _ c2)))
     go_wp2;go_ret;exact hK _ _ ⟨_, _, rfl, rfl, HV.out _ (.inr ⟨_, slice_len (by omega)⟩)⟩
def St.setMem (A : St) (old : Bool) (l : List Wd) : St := if old then { A with memT := l } else { A with memN := l }
theorem Rep.setMem {w' : World} (hR : Rep w g A) (old : Bool) {v1 : Value} {l : List Wd} (hC : Chg (fun b => b = g.hb ∨ rowBlk (g.vM old) = some b) w w')
 (hhs : w'.heap[g.hb]? = some (.cells ((hsCells g A).setIfInBounds (2 + if old then 1 else 0) v1) 74 (0, 0)))
 (hrow : Row w' 113 2 v1 l.length (wdCells l)) (hloc : ∀ b, rowBlk v1 = some b → rowBlk (g.vM old) = some b ∨ w.heap.size ≤ b) :
 ∃ g', Rep w' g' (A.setMem old l) ∧ Step w g A w' g' ∧ g'.ob = g.ob ∧ g'.vE = g.vE := by
 have hM := hR.rM old;have hown : ∀ b, b < w.heap.size → (if rowBlk v1 = some b then some (memRole old) else g.own b) = g.own b := by
  intro b hb
  split
  · rename_i h
    rcases hloc b h with h' | h'
    · exact (hM.own b h').symm
    · omega
  · rfl
 have hlt : ∀ b, (if rowBlk v1 = some b then some (memRole old) else g.own b).isSome → b < w'.heap.size := by
  intro b hb
  split at hb
  · rename_i h; exact hrow.lt h
  · exact Nat.lt_of_lt_of_le (hR.lt b hb) hC.size
 have hCR : ChgR g (fun r => r = .hs ∨ r = memRole old) w w' := hC.mono fun b _ hb r hr => by
  rcases hb with rfl | hb
  · rw [hR.ohs] at hr; left; simpa using hr.symm
  · rw [hM.own b hb] at hr; right; simpa using hr.symm
 have hCS : Chg (fun b => (g.own b).isSome) w w' := hC.mono fun b _ hb => by
  rcases hb with rfl | hb
  · rw [hR.ohs]; rfl
  · rw [hM.own b hb]; rfl
 cases old with
 | true =>
   refine ⟨{ g with vT := v1, own := fun b => if rowBlk v1 = some b then some .memT else g.own b }, ?_, ⟨hCS, fun b hb _ => hown b hb, rfl, rfl, rfl, rfl, rfl, fun _ _ => rfl⟩, rfl, rfl⟩;exact hR.move hCR hlt hown (hs := .inr hhs) (mo := .inl ⟨by simp [memRole], rfl⟩) (mh := .inl ⟨by simp [memRole], rfl⟩) (mr := .inl ⟨by simp [memRole], rfl⟩) (lb := .inl ⟨by simp [memRole], rfl⟩)
    (rF := .inl ⟨by simp [memRole], rfl, rfl⟩) (rN := .inl ⟨by simp [memRole], rfl, rfl⟩) (rT := .inr ⟨hrow, fun b hb => by simp [hb]⟩) (rR := .inl ⟨by simp [memRole], rfl, rfl⟩) (rQ := .inl ⟨by simp [memRole], rfl, rfl⟩)
    (obj := fun n o h => .inl ⟨h, rfl, rfl, by simp [memRole], by simp [memRole]⟩)
 | false =>
   refine ⟨{ g with vN := v1, own := fun b => if rowBlk v1 = some b then some .memN else g.own b }, ?_, ⟨hCS, fun b hb _ => hown b hb, rfl, rfl, rfl, rfl, rfl, fun _ _ => rfl⟩, rfl, rfl⟩;exact hR.move hCR hlt hown (hs := .inr hhs) (mo := .inl ⟨by simp [memRole], rfl⟩) (mh := .inl ⟨by simp [memRole], rfl⟩) (mr := .inl ⟨by simp [memRole], rfl⟩) (lb := .inl ⟨by simp [memRole], rfl⟩)
    (rF := .inl ⟨by simp [memRole], rfl, rfl⟩) (rN := .inr ⟨hrow, fun b hb => by simp [hb]⟩) (rT := .inl ⟨by simp [memRole], rfl, rfl⟩) (rR := .inl ⟨by simp [memRole], rfl, rfl⟩) (rQ := .inl ⟨by simp [memRole], rfl, rfl⟩)
    (obj := fun n o h => .inl ⟨h, rfl, rfl, by simp [memRole], by simp [memRole]⟩)
theorem wdCells_length (l : List Wd) : (wdCells l).length = l.length * 2 := by
 induction l with
 | nil => rfl
 | cons x l ih => simp only [wdCells, List.flatMap_cons, List.length_append, List.length_cons] at *; rw [ih]; simp [Wd.cells]; omega
theorem wdCells_append (l l' : List Wd) : wdCells (l ++ l') = wdCells l ++ wdCells l' := by simp [wdCells]
theorem wdCells_one (l : List Wd) : ∀ u ∈ wdCells l, u.oneCell' = true := by
 intro u hu;simp only [wdCells, List.mem_flatMap] at hu;obtain ⟨x, _, hx⟩ := hu;simp only [Wd.cells, List.mem_cons, List.not_mem_nil, or_false] at hx;rcases hx with rfl | rfl <;> rfl
theorem place_any (hR : Rep w g A) (old : Bool) {x : Value} {m : Nat} {news : List Wd} (hx : Src' w 2 x m (wdCells news)) (hm : m = news.length) (hm1 : 1 ≤ m) (hbig : (A.mem old).length + m ≤ 1000000000000)
 (hself : ∀ a c, x = .slice (some a) m c → g.own a.block = none) :
 Calls Tryz.prog 110 #[.pointer (some ⟨g.hb, 0, none⟩), .int .i64 (if old then 1 else 0), x] w fun e w' =>
  ∃ g', e = .returned (.int .i64 (A.mem old).length) ∧ Rep w' g' (A.setMem old (A.mem old ++ news)) ∧ Step w g A w' g' ∧ g'.ob = g.ob ∧ g'.vE = g.vE := by
 obtain ⟨la, lc, rfl, hxc⟩ : ∃ la lc, x = .slice (some la) m lc ∧ ∀ j u, (wdCells news)[j]? = some u → w.cell? (la.add j) = some u := by
  rcases hx.2 with ⟨a, c, rfl, h⟩ | ⟨h, _⟩
  · exact ⟨_, _, rfl, h⟩
  · omega
 obtain ⟨i0, hi, hz0, hz1, hz2⟩ := info_parts iWord;have hrow := (hR.rM old).row;have hMown := (hR.rM old).own;have hself : rowBlk (g.vM old) ≠ some la.block ∧ g.hb ≠ la.block := by
  have h0 := hself la lc rfl;refine ⟨fun h => ?_, fun h => ?_⟩
  · rw [hMown _ h] at h0; cases h0
  · rw [← h, hR.ohs] at h0; cases h0
 obtain ⟨a0, cap, hv, hle, hcm, hcase⟩ := hrow.slice;obtain ⟨v1, w1, hrun, hrow1, hchg1, hloc1⟩ := run_append_zeros_row (P := Tryz.prog) (w := w.drew) 65 3 65 113 i0 _ 2 16 uWords uInt hi hz0 hz1 hz2 rfl (by decide)
  (by intro u hu; simp [Value.cells] at hu; rcases hu with rfl | rfl <;> rfl) (show Row w.drew _ 2 _ _ _ from hrow) m (by unfold maxLen; omega) (by omega)
 obtain ⟨a1, cap1, hv1, hle1, hcm1, hcase1⟩ := hrow1.slice;obtain ⟨b1, rfl, hb1⟩ : ∃ b, a1 = some ⟨b, 0, none⟩ ∧ rowBlk v1 = some b := by
  rcases hcase1 with h | h
  · omega
  · exact h
 have hbne : g.hb ≠ b1 := by
  intro e;rcases hloc1 b1 hb1 with h | h
  · have := hMown b1 h; rw [← e, hR.ohs] at this; cases old <;> simp [memRole] at this
  · have := lt_of_block hR.hs; simp at h; omega
 have hhs1 : w1.heap[g.hb]? = some (.cells (hsCells g A) 74 (0, 0)) := hchg1.at (show w.drew.heap[g.hb]? = _ from hR.hs) (by
  intro h;have := hMown g.hb h; rw [hR.ohs] at this; cases old <;> simp [memRole] at this)
 have hcw1 := fun i => cellAt hhs1 i;have hfw1 := fun i => freeAt hhs1 i;have hhs2 := heap_setCell hhs1 (2 + if old then 1 else 0) v1;have hrow2 : Row (w1.setCell ⟨g.hb, 2 + (if old then 1 else 0), none⟩ v1) 113 2 v1 ((A.mem old).length + m) _ := hrow1.same fun b hb => by
  rw [hb1] at hb;simp only [Option.some.injEq] at hb;subst hb;exact heap_setCell_ne (fun e => hbne e.symm) _
 obtain ⟨cur, hcb, hcs, htk⟩ : ∃ cur, (w1.setCell ⟨g.hb, 2 + (if old then 1 else 0), none⟩ v1).heap[b1]? = some (.cells cur 113 (0, 0)) ∧ cur.size = cap1 * 2 ∧ cur.toList.take (((A.mem old).length + m) * 2) = wdCells (A.mem old) ++ (Builtin.zeroCells (Value.agg #[Value.bool false, Value.int IntKind.i64 0]).cells m).toList := by
  obtain ⟨_, _, ⟨h, _⟩ | ⟨g', cap', cur, h3, h4, h5, h6, h7, h8⟩⟩ := hrow2
  · omega
  · rw [hv1] at h3;simp only [Value.slice.injEq, Option.some.injEq, Addr.mk.injEq, and_true] at h3;obtain ⟨rfl, -, rfl⟩ := h3;exact ⟨cur, h4, h7, h8⟩
 have hnl : (wdCells news).length = m * 2 := by rw [wdCells_length, ← hm]
 have hxs : (wdCells (A.mem old)).length = (A.mem old).length * 2 := wdCells_length _;have hlab : la.block ≠ b1 := by
  intro e;rcases hloc1 b1 hb1 with h | h
  · rw [← e] at h; exact hself.1 h
  · have hne : 0 < (wdCells news).length := by omega
    have := hxc 0 _ (List.getElem?_eq_getElem hne);have := World.block_lt_of_cell? w _ this;rw [Addr.add_zero'] at this;simp at h;omega
 have hsrc2 : Src' (w1.setCell ⟨g.hb, 2 + (if old then 1 else 0), none⟩ v1) 2 (.slice (some la) m lc) m (wdCells news) := by
  refine ⟨hnl, .inl ⟨la, lc, rfl, ?_⟩⟩;intro j u hj;rw [← hxc j u hj];have hbl : (la.add j).block = la.block := by unfold Addr.add; split <;> rfl
  refine World.cell?_of_block ?_;rw [hbl, heap_setCell_ne (fun e => hself.2 e.symm)];have hlt : la.block < w.heap.size := by
   have := World.block_lt_of_cell? w _ (hxc j u hj);rw [hbl] at this; exact this
  exact hchg1.block _ hlt (fun h => hself.1 h)
 have hcopy := run_copy_at (P := Tryz.prog) 65 65 3 113 i0 2 uWords hi hz1 hcb ((A.mem old).length * 2) m (cap1 - (A.mem old).length) hsrc2 rfl (wdCells_one news) (by rw [hnl, hcs]; omega);obtain ⟨C, hC⟩ : ∃ C, C = (cur.toList.take ((A.mem old).length * 2) ++ wdCells news ++ cur.toList.drop ((A.mem old).length * 2 + (wdCells news).length)).toArray := ⟨_, rfl⟩;rw [← hC] at hcopy;have HF : Hid (∃ g', Rep ((w1.setCell ⟨g.hb, 2 + (if old then 1 else 0), none⟩ v1).setRow b1 C) g' (A.setMem old (A.mem old ++ news)) ∧ Step w g A ((w1.setCell ⟨g.hb, 2 + (if old then 1 else 0), none⟩ v1).setRow b1 C) g' ∧ g'.ob = g.ob ∧ g'.vE = g.vE) := by
  refine hR.setMem old (v1 := v1) ?_ ?_ ?_ ?_
  · have hd : Chg (fun b => b = g.hb ∨ rowBlk (g.vM old) = some b) w w1 := ⟨hchg1.os, hchg1.tape, hchg1.output, hchg1.size, fun k hk hn => hchg1.block k hk (fun h => hn (.inr h))⟩;refine chg_setRow (hd.setCell (fun _ => .inl rfl) v1) (fun hlt => ?_) C;rcases hloc1 b1 hb1 with h | h
    · exact .inr h
    · simp at h; omega
  · rw [setRow_other _ _ _ _ hbne]; exact hhs2
  · have hb := setRow_heap _ b1 cur C _ _ hcb;refine ⟨?_, ?_, .inr ⟨b1, cap1 - 1, C, ?_, hb, ?_, ?_, ?_, ?_⟩⟩
    · rw [wdCells_length]
    · simp only [List.length_append, ← hm, maxLen]; omega
    · rw [hv1, List.length_append, ← hm, show cap1 - 1 + 1 = cap1 from by omega]
    · rw [List.length_append, ← hm]; omega
    · omega
    · rw [hC]; simp only [List.size_toArray, List.length_append, List.length_take, List.length_drop, Array.length_toList, hnl, hcs]; omega
    · rw [hC];have e1 : cur.toList.take ((A.mem old).length * 2) = wdCells (A.mem old) := by
       have := congrArg (List.take ((A.mem old).length * 2)) htk;rw [List.take_take, Nat.min_eq_left (by omega), List.take_left' hxs] at this;exact this
      simp only [];rw [e1, wdCells_append, List.length_append, ← hm, List.take_left' (by rw [List.length_append, hxs, hnl]; omega)]
  · intro b hb;rcases hloc1 b hb with h | h
    · exact .inl h
    · right; simpa using h
 have cm : w.cell? ⟨g.hb, 2 + (if old then 1 else 0), none⟩ = some (.slice a0 (A.mem old).length cap) := by
  rw [← hv];cases old
  · exact hR.c 2
  · exact hR.c 3
 have cm1 : w1.cell? ⟨g.hb, 2 + (if old then 1 else 0), none⟩ = some (.slice a0 (A.mem old).length cap) := by
  rw [← hv];cases old
  · exact hcw1 2
  · exact hcw1 3
 have cf1 := hfw1 (2 + (if old then 1 else 0));rw [hv] at hrun;refine ret_k fun K hK => ?_;have HK : Hid (∀ w', w' = (w1.setCell ⟨g.hb, 2 + (if old then 1 else 0), none⟩ v1).setRow b1 C → Post K (.returned (.int .i64 (A.mem old).length)) w') := by
  intro w' hw';obtain ⟨g', h1, h2⟩ := HF.out;rw [hw'];exact hK _ _ ⟨g', rfl, h1, h2⟩
 clear hsrc2 hC htk hcs hcb hhs2 hrow2 hlab hxs hnl hbne hchg1 hloc1 hrow1 hrow hMown hself hxc hx hhs1 hcase1 hcase hm hK HF hfw1 hcw1 hb1;generalize g.vM old = vm at *;generalize (A.mem old).length = n at *;clear hv hR;subst hv1;have hpos : ¬ (cap1 = n) := by omega
 cases old
 · have cm' : w.cell? ⟨g.hb, 2, none⟩ = some (.slice a0 n cap) := cm;have cm1' : w1.cell? ⟨g.hb, 2, none⟩ = some (.slice a0 n cap) := cm1;have cf1' : w1.frozen? ⟨g.hb, 2, none⟩ = false := cf1;have hcopy' : (Builtin.copy_ #[65, 65] 3 #[.slice (some ⟨b1, n * 2, none⟩) m (cap1 - n), .slice (some la) m lc]).run Tryz.prog (w1.setCell ⟨g.hb, 2, none⟩ (.slice (some ⟨b1, 0, none⟩) (n + m) cap1)) = _ := hcopy;clear cm cm1 cf1 hcopy
   go_enter Tryz.func110, Tryz.ntmps110
   go_wp2
   go_region_law (refine step_val rfl (exec_append rfl hrun) ?_)
   go_wp2_with (with_reducible refine wpList_val rfl (exec_copy (o := ⟨some 38, _, _, _, _, _⟩) rfl hcopy') ?_)
   go_ret;exact HK.out _ rfl
 · have cm' : w.cell? ⟨g.hb, 3, none⟩ = some (.slice a0 n cap) := cm;have cm1' : w1.cell? ⟨g.hb, 3, none⟩ = some (.slice a0 n cap) := cm1;have cf1' : w1.frozen? ⟨g.hb, 3, none⟩ = false := cf1;have hcopy' : (Builtin.copy_ #[65, 65] 3 #[.slice (some ⟨b1, n * 2, none⟩) m (cap1 - n), .slice (some la) m lc]).run Tryz.prog (w1.setCell ⟨g.hb, 3, none⟩ (.slice (some ⟨b1, 0, none⟩) (n + m) cap1)) = _ := hcopy;clear cm cm1 cf1 hcopy
   go_enter Tryz.func110, Tryz.ntmps110
   go_wp2
   go_region_law (refine step_val rfl (exec_append rfl hrun) ?_)
   go_wp2_with (with_reducible refine wpList_val rfl (exec_copy (o := ⟨some 38, _, _, _, _, _⟩) rfl hcopy') ?_)
   go_ret;exact HK.out _ rfl
end Go.Proofs.YtelghmmcbgfjnaaGreat
