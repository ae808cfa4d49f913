/-
  Mod, num and ref walked. (A part of the proof, joined of: Yj, Td, Tf, Tg; made smaller.)
-/
import Derived.Test.YtelghmmcbgfjnaaGreatH18
import Derived.IntWalk
set_option maxHeartbeats 1000000
set_option maxRecDepth 100000
namespace Go.Proofs.YtelghmmcbgfjnaaGreat
variable {B hb m : Nat} {I : IS} {L : List Nat} {l : List Int} {v : Value} {w w' : World}
open Go.RowKit
theorem tmod_emod {a b : Int} (hb : 0 < b) : (if a.tmod b < 0 then a.tmod b + b else a.tmod b) = a % b := by
 rcases Int.le_total 0 a with h | h
 · have h1 := Int.tmod_eq_emod_of_nonneg (b := b) h;have h2 := Int.emod_nonneg a (show b ≠ 0 by omega);rw [h1, if_neg (by omega)]
 · have h1 := Int.tmod_eq_emod (a := a) (b := b);have h2 := Int.emod_nonneg a (show b ≠ 0 by omega);have h3 := Int.emod_lt_of_pos a hb;by_cases hd : b ∣ a
   · have h4 : a % b = 0 := Int.emod_eq_zero_of_dvd hd;rw [if_pos (.inr hd), h4] at h1;rw [h1, h4]; simp
   · by_cases h0 : 0 ≤ a
     · rw [if_pos (.inl h0)] at h1;rw [h1, if_neg (by omega)]; omega
     · rw [if_neg (by simp [h0, hd])] at h1;rw [h1, if_pos (by omega)]; omega
theorem num_any (w : World) (n : Int) :
 Calls Tryz.prog 26 #[.int .i64 n] w fun e w' => e = .returned (Wd.agg ⟨false, n⟩) ∧ Chg (fun _ => False) w w' := by
 go_enter Tryz.func26, Tryz.ntmps26
 go_wp2;refine bodyPost_ret (v := .agg #[.bool false, .int .i64 n]) (by simp [results, Tryz.results26, go_sem]) rfl ⟨rfl, ?_⟩;exact (Chg.refl _ _).alloc _
theorem ref_any (w : World) (n : Int) :
 Calls Tryz.prog 29 #[.int .i64 n] w fun e w' => e = .returned (Wd.agg ⟨true, n⟩) ∧ Chg (fun _ => False) w w' := by
 go_enter Tryz.func29, Tryz.ntmps29
 go_wp2;refine bodyPost_ret (v := .agg #[.bool true, .int .i64 n]) (by simp [results, Tryz.results29, go_sem]) rfl ⟨rfl, ?_⟩;exact (Chg.refl _ _).alloc _
theorem which_any (w : World) (k a b : Int) (x : Option Addr) (n c : Nat) :
 Calls Tryz.prog 35 #[.agg #[.int .i64 k, .int .i64 a, .int .i64 b, .slice x n c]] w fun e w' => e = .returned (.int .i64 (k % 18)) ∧ Chg (fun _ => False) w w' := by
 have he := tmod_emod (a := k) (b := 18) (by omega);have h1 : (k.tmod 18).natAbs < 18 := by
  rw [Int.natAbs_tmod];exact Nat.mod_lt _ (by decide)
 have hw : IntKind.i64.wrap (k.tmod 18) = k.tmod 18 := IntWalk.i64_in _ (by omega);have hw2 : IntKind.i64.wrap (k.tmod 18 + 18) = k.tmod 18 + 18 := IntWalk.i64_in _ (by omega);have HC : Hid (Chg (fun _ => False) w (w.alloc (.cells #[.int .i64 k, .int .i64 a, .int .i64 b, .slice x n c] 33))) := (Chg.refl _ _).alloc _
 go_enter Tryz.func35, Tryz.ntmps35
 by_cases hlt : k.tmod 18 < 0
 · rw [if_pos hlt] at he;go_wp2;go_ret;exact ⟨rfl, HC.out⟩
 · rw [if_neg hlt] at he;go_wp2;go_ret;exact ⟨by first | rfl | rw [← he]; rfl, HC.out⟩
def bitI (b : Bool) : Int := if b then 1 else 0
theorem bit_any (w : World) (b : Bool) : Calls Tryz.prog 39 #[.bool b] w fun e w' => e = .returned (.int .i64 (bitI b)) ∧ w = w' := by
 cases b
 all_goals
  go_enter Tryz.func39, Tryz.ntmps39
  go_wp2;go_ret;exact ⟨rfl, rfl⟩
def opCell (b : Int) (cs : List Wd) : Wd := cs.head?.getD ⟨false, b⟩
theorem opCell_any (w : World) (k a b : Int) (x : Option Addr) (n c : Nat) (cs : List Wd) (hcs : CellsAt w x n cs) :
 Calls Tryz.prog 38 #[.agg #[.int .i64 k, .int .i64 a, .int .i64 b, .slice x n c]] w fun e w' => e = .returned (opCell b cs).agg ∧ Chg (fun _ => False) w w' := by
 have hlen := hcs.len;have HC : Hid (∀ X Y, Chg (fun _ => False) w ((w.alloc X).alloc Y)) := fun X Y => ((Chg.refl (fun _ => False) w).alloc X).alloc Y;cases cs with
 | nil =>
   obtain rfl : n = 0 := by simpa using hlen.symm
   clear hcs hlen
   go_enter Tryz.func38, Tryz.ntmps38
   go_wp2;refine bodyPost_ret (v := .agg #[.bool false, .int .i64 b]) (by simp [results, Tryz.results38, go_sem]) rfl ⟨rfl, ?_⟩;exact HC.out _ _
 | cons d cs =>
   obtain ⟨x, rfl, k1, k2⟩ := hcs.cell 0 d rfl;obtain ⟨dr, dn⟩ := d;have b1 := World.block_lt_of_cell? w _ k1;have b2 := World.block_lt_of_cell? w _ k2;have hC0 : ∀ X Y, Chg (fun _ => False) w ((w.alloc X).alloc Y) := fun X Y => ((Chg.refl (fun _ => False) w).alloc X).alloc Y;have k3 : ∀ X Y, ((w.alloc X).alloc Y).cell? x = some (.bool dr) := fun X Y => by
    have := cell_chg (hC0 X Y) k1 (fun h => h);simpa [Addr.add] using this
   have k4 : ∀ X Y, ((w.alloc X).alloc Y).cell? ⟨x.block, x.off + 1, none⟩ = some (.int .i64 dn) := fun X Y => by
    have := cell_chg (hC0 X Y) k2 (fun h => h);exact this
   have hn : (0 : Int) < (n : Int) := by simp at hlen; omega
   clear hcs hlen b1 b2 hC0 k1 k2
   go_enter Tryz.func38, Tryz.ntmps38
   go_wp2;refine bodyPost_ret (v := .agg #[.bool dr, .int .i64 dn]) (by simp [results, Tryz.results38, go_sem]) rfl ⟨rfl, ?_⟩;exact HC.out _ _
structure IRow (w : World) (B : Nat) (v : Value) (l : List Int) : Prop where
 row : Row w 3 1 v l.length (intCells l)
 new : ∀ b, rowBlk v = some b → B ≤ b
theorem IRow.chg {F : Nat → Prop} (h : IRow w B v l) (hC : Chg F w w') (hF : ∀ b, rowBlk v = some b → ¬ F b) : IRow w' B v l :=
 ⟨h.row.same fun b hb => hC.block b (h.row.lt hb) (hF b hb), h.new⟩
theorem IRow.chg0 (h : IRow w B v l) (hC : Chg (fun _ => False) w w') : IRow w' B v l := h.chg hC fun _ _ h => h
theorem IRow.low {B' : Nat} (h : IRow w B v l) (hb : B' ≤ B) : IRow w B' v l := ⟨h.row, fun b hv => Nat.le_trans hb (h.new b hv)⟩
theorem IRow.block (w : World) (hl : 0 < l.length) (hm : l.length ≤ maxLen) : IRow (w.alloc (.cells (l.map (Value.int .i64)).toArray 3)) w.heap.size (.slice (some ⟨w.heap.size, 0, none⟩) l.length l.length) l := by
 obtain ⟨c, hc⟩ : ∃ c, l.length = c + 1 := ⟨l.length - 1, by omega⟩;refine ⟨⟨by simp [intCells], hm, .inr ⟨w.heap.size, c, _, by rw [hc], heap_alloc_new _ _, by omega, by omega, by simp [hc], by simp [intCells, hc, List.take_of_length_le]⟩⟩, fun b hb => ?_⟩;rw [hc] at hb;simp [rowBlk] at hb;omega
theorem appOne {xs : List Int} (hrow : Row w 3 1 v xs.length (intCells xs)) (x : Int) (hT : xs.length < 1000000000000) :
 ∃ a cap w', (Builtin.append_ #[23, 23] 23 #[v, .slice (some ⟨w.heap.size, 0, none⟩) 1 1]).run Tryz.prog (w.alloc (.cells #[.int .i64 x] 3)) = .ok (.slice a (xs.length + 1) cap) w' ∧
   Row w' 3 1 (.slice a (xs.length + 1) cap) (xs ++ [x]).length (intCells (xs ++ [x])) ∧ Chg (fun b => rowBlk v = some b) w w' ∧ (∀ b, rowBlk (.slice a (xs.length + 1) cap) = some b → rowBlk v = some b ∨ w.heap.size ≤ b) := by
 obtain ⟨i0, hi, hz0, hz1, hz2⟩ := info_parts iInt;have h1 : Row (w.alloc (.cells #[.int .i64 x] 3)) 3 1 v xs.length (intCells xs) := hrow.same fun b hb => by rw [heap_alloc, if_neg (by have := hrow.lt hb; omega)]
 have hsrc : Src' (w.alloc (.cells #[.int .i64 x] 3)) 1 (.slice (some ⟨w.heap.size, 0, none⟩) 1 1) 1 [.int .i64 x] := src_block (heap_alloc_new _ _) (by simp) (by simp);obtain ⟨v3, w3, happ, hrow3, hC3, hloc3⟩ := run_append_row (P := Tryz.prog) 23 23 3 i0 _ 1 8 uInts hi hz0 hz1 hz2 rfl (by decide) h1 hsrc (by simp [Value.oneCell']) (by unfold maxLen; omega) (by omega);obtain ⟨a3, cap3, rfl, -⟩ := hrow3.slice;have hCa : Chg (fun b => rowBlk v = some b) w (w.alloc (.cells #[.int .i64 x] 3)) := (Chg.refl _ _).alloc _;refine ⟨a3, cap3, w3, happ, ?_, hCa.trans hC3 (fun _ _ h => h), ?_⟩
 · have e : intCells (xs ++ [x]) = intCells xs ++ [.int .i64 x] := by simp [intCells]
   rw [e, List.length_append, List.length_singleton];exact hrow3
 · intro b hb;rcases hloc3 b hb with h2 | h2
   · exact .inl h2
   · simp at h2; exact .inr (by omega)
theorem nums_any (w : World) (er : Int) (h : Row w 3 1 v l.length (intCells l)) (hl : l.length ≤ 100000) :
 Calls Tryz.prog 36 #[.int .i64 er, v] w fun e w' => ∃ v', e = .returned v' ∧ IRow w' w.heap.size v' (l ++ [er]) ∧ Chg (fun _ => False) w w' := by
 refine ret_k fun K hK => ?_;have h0 : Row (w.alloc (.cells #[] 3)) 3 1 (.slice (some ⟨w.heap.size, 0, none⟩) 0 0) ([] : List Int).length (intCells []) := ⟨by simp [intCells], by simp, .inl ⟨rfl, _, rfl⟩⟩;have h1 : Row (w.alloc (.cells #[] 3)) 3 1 v l.length (intCells l) := h.same fun b hb => by rw [heap_alloc, if_neg (by have := h.lt hb; omega)]
 obtain ⟨a2, c2, w2, happ, hr2, hC2, hloc2⟩ := append_rows h0 h1 (by simp; omega);obtain ⟨a3, c3, w3, happ3, hr3, hC3, hloc3⟩ := appOne hr2 er (by simp; omega);have hs1 : (w.alloc (.cells #[] 3)).heap.size = w.heap.size + 1 := by simp
 have hs2 := hC2.size;have hC : Chg (fun _ => False) w w3 := (((Chg.refl (fun _ => False) w).alloc _).trans hC2 (fun b _ hb => by simp [rowBlk] at hb)).trans hC3 fun b hb hv => by
  rcases hloc2 b hv with h4 | h4
  · simp [rowBlk] at h4
  · omega
 have HZ := Lib.hid (hK _ _ ⟨_, rfl, ⟨hr3, fun b hb => by
  rcases hloc3 b hb with h4 | h4
  · rcases hloc2 b h4 with h5 | h5
    · simp [rowBlk] at h5
    · omega
  · omega⟩, hC⟩)
 simp only [List.length_nil, Nat.zero_add, List.nil_append] at happ happ3 HZ;clear h0 h1 hr2 hC2 hloc2 hr3 hC3 hloc3 hs1 hs2 hC hK h
 go_enter Tryz.func36, Tryz.ntmps36
 go_wp2_with (first | (at_builtin; go_must (first | (refine wpList_val rfl (exec_append rfl (by exact happ)) ?_) | (refine wpList_val rfl (exec_append rfl (by exact happ3)) ?_))))
 go_ret;exact HZ.out
theorem cell_any (w : World) (r : Bool) (n : Int) :
 Calls Tryz.prog 37 #[.agg #[.bool r, .int .i64 n]] w fun e w' => ∃ v', e = .returned v' ∧ IRow w' w.heap.size v' [bitI r, n] ∧ Chg (fun _ => False) w w' := by
 refine ret_k fun K hK => ?_;have HZ : Hid (∀ X, Post K (.returned (.slice (some ⟨w.heap.size + 1, 0, none⟩) 2 2)) ((w.alloc X).alloc (.cells #[.int .i64 (bitI r), .int .i64 n] 3)).drew) := fun X => by
  have h1 := IRow.block (w.alloc X) (l := [bitI r, n]) (by simp) (by simp [maxLen]);have hs : (w.alloc X).heap.size = w.heap.size + 1 := by simp
  rw [hs] at h1;exact hK _ _ ⟨_, rfl, (h1.low (Nat.le_succ _)).chg0 ((Chg.refl _ _).drew), (((Chg.refl (fun _ => False) w).alloc X).alloc _).drew⟩
 have HB := Lib.hid fun w => bit_any w r;clear hK
 go_enter Tryz.func37, Tryz.ntmps37
 go_upto_region 1 with fail
 go_region_with (go_at_call 39; refine (HB.out _).mono ?_; rintro e w9 ⟨rfl, rfl⟩)
 all_goals
  go_wp2;go_ret;exact HZ.out _
def IS.isTable (I : IS) (h : Int) : Bool × Int := match I.hs.lookup h with
 | none => (false, 221)
 | some n => (((I.nd n).map (·.table)).getD false, 0)
def IS.same (I : IS) (a b : Int) : Bool × Int := match I.hs.lookup a with
 | none => (false, 221)
 | some n => match I.hs.lookup b with
   | none => (false, 221)
   | some m => (decide (n = m), 0)
noncomputable def IS.dup (I : IS) (h : Int) : Int × Int × IS := match I.hs.lookup h with
 | none => (0, 221, I)
 | some n => (I.fresh, 0, I.grant n)
def IS.tagOf (I : IS) (h : Int) : Int × Int × Int := match I.hs.lookup h with
 | none => (0, 0, 221)
 | some n => match I.nd n with
   | none => (0, 0, 0)
   | some d => if d.table then (0, 0, 223) else (d.tag, d.flds.length, 0)
noncomputable def IS.get (I : IS) (h i : Int) : Wd × Int × IS := match I.hs.lookup h with
 | none => (⟨false, 0⟩, 221, I)
 | some n => match I.nd n with
   | none => (⟨false, 0⟩, 0, I)
   | some d => if d.table then (⟨false, 0⟩, 223, I) else if i < 0 then (⟨false, 0⟩, 222, I) else match d.flds[i.toNat]? with
     | none => (⟨false, 0⟩, 222, I)
     | some x => if x.ref then (⟨true, I.fresh⟩, 0, I.grant x.num) else (⟨false, x.num⟩, 0, I)
theorem HP.isTable (h : HP w hb L I m) (n : Int) :
 Calls Tryz.prog 42 #[.pointer (some ⟨hb, 0, none⟩), .int .i64 n] w fun e w' => e = .returned (.tuple #[.bool (I.isTable n).1, .int .i64 (I.isTable n).2]) ∧ Hid (Got w hb L I m w') := by
 obtain ⟨g, A, h1, h2, rfl, h4⟩ := h;unfold IS.isTable;cases hl : I.hs.lookup n with
 | none =>
   refine (isTable_none h1 (by rw [h2.sim.hs]; exact hl)).mono ?_;rintro e w' ⟨rfl, rfl⟩;exact ⟨rfl, Lib.hid (HP.same ⟨g, A, h1, h2, rfl, h4⟩)⟩
 | some name =>
   obtain ⟨o, d, g0, g1, g2, _⟩ := h2.ent hl;refine (isTable_some h1 (by rw [h2.sim.hs]; exact hl) g0).mono ?_;rintro e w' ⟨rfl, hC⟩;exact ⟨by simp only [g1, g2, Option.map_some, Option.getD_some], Lib.hid (HP.got ⟨g, A, h1, h2, rfl, h4⟩ hC)⟩
theorem HP.sameH (h : HP w hb L I m) (n k : Int) :
 Calls Tryz.prog 43 #[.pointer (some ⟨hb, 0, none⟩), .int .i64 n, .int .i64 k] w fun e w' => e = .returned (.tuple #[.bool (I.same n k).1, .int .i64 (I.same n k).2]) ∧ Hid (Got w hb L I m w') := by
 obtain ⟨g, A, h1, h2, rfl, h4⟩ := h;unfold IS.same;cases hl : I.hs.lookup n with
 | none =>
   refine (same_none h1 (by rw [h2.sim.hs]; exact hl)).mono ?_;rintro e w' ⟨rfl, rfl⟩;exact ⟨rfl, Lib.hid (HP.same ⟨g, A, h1, h2, rfl, h4⟩)⟩
 | some name =>
   obtain ⟨o, d, g0, _⟩ := h2.ent hl;cases hl2 : I.hs.lookup k with
   | none =>
     refine (same_no h1 (by rw [h2.sim.hs]; exact hl) g0 (by rw [h2.sim.hs]; exact hl2)).mono ?_;rintro e w' ⟨rfl, hC⟩;exact ⟨rfl, Lib.hid (HP.got ⟨g, A, h1, h2, rfl, h4⟩ hC)⟩
   | some name2 =>
     obtain ⟨o2, d2, k0, _⟩ := h2.ent hl2;refine (same_some h1 (by rw [h2.sim.hs]; exact hl) g0 (by rw [h2.sim.hs]; exact hl2) k0).mono ?_;rintro e w' ⟨rfl, hC⟩;exact ⟨rfl, Lib.hid (HP.got ⟨g, A, h1, h2, rfl, h4⟩ hC)⟩
theorem HP.dup (h : HP w hb L I m) (ha : Ample I m) (n : Int) :
 Calls Tryz.prog 44 #[.pointer (some ⟨hb, 0, none⟩), .int .i64 n] w fun e w' => e = .returned (.tuple #[.int .i64 (I.dup n).1, .int .i64 (I.dup n).2.1]) ∧ Hid (Got w hb L (I.dup n).2.2 (m + 1) w') := by
 obtain ⟨g, A, h1, h2, rfl, h4⟩ := h;unfold IS.dup;cases hl : I.hs.lookup n with
 | none =>
   refine (dup_none h1 (by rw [h2.sim.hs]; exact hl)).mono ?_;rintro e w' ⟨rfl, rfl⟩;exact ⟨rfl, Lib.hid (HP.same ⟨g, A, h1, h2.more (by omega), rfl, h4⟩)⟩
 | some name =>
   obtain ⟨o, d, g0, _⟩ := h2.ent hl;refine (dup_some h1 h2.good.free (h2.facts ha).2.1 (by rw [h2.sim.hs]; exact hl) g0).mono ?_;rintro e w' ⟨q, rfl, A', g', hG, hR', hStep⟩;obtain ⟨rfl, h5⟩ := h2.grant hG (by rw [g0]; rfl) ha.hs;exact ⟨rfl, Lib.hid (.of h4 hR' hStep (h5.more (by omega)))⟩
theorem HP.tagOf (h : HP w hb L I m) (n : Int) :
 Calls Tryz.prog 47 #[.pointer (some ⟨hb, 0, none⟩), .int .i64 n] w fun e w' => e = .returned (.tuple #[.int .i64 (I.tagOf n).1, .int .i64 (I.tagOf n).2.1, .int .i64 (I.tagOf n).2.2]) ∧ Hid (Got w hb L I m w') := by
 obtain ⟨g, A, h1, h2, rfl, h4⟩ := h;unfold IS.tagOf;cases hl : I.hs.lookup n with
 | none =>
   refine (tag_err (g := g) (.inl rfl) n (plain_none h1 (by rw [h2.sim.hs]; exact hl))).mono ?_;rintro e w' ⟨rfl, rfl⟩;exact ⟨rfl, Lib.hid (HP.same ⟨g, A, h1, h2, rfl, h4⟩)⟩
 | some name =>
   obtain ⟨o, d, g0, g1, g2, g3, g4, g5, g6⟩ := h2.ent hl;have hl' : A.handles.lookup n = some name := by rw [h2.sim.hs]; exact hl
   simp only [g1];cases ht : d.table with
   | true =>
     have hp := plain_some h1 hl' g0;rw [g2, ht] at hp;refine (tag_err (g := g) (.inr rfl) n hp).mono ?_;rintro e w' ⟨rfl, rfl⟩;exact ⟨by simp, Lib.hid (HP.same ⟨g, A, h1, h2, rfl, h4⟩)⟩
   | false =>
     rw [ht] at g2;obtain ⟨f1, f2, f3⟩ := h2.field g0 g4;have hx : (A.mem o.old)[o.at_]? = some ⟨false, d.tag⟩ := by
      have h5 : ((A.mem o.old).drop o.at_).take (1 + o.size) = ⟨false, d.tag⟩ :: d.flds := g4;have h6 := congrArg (fun l : List Wd => l[0]?) h5;simp only [List.getElem?_cons_zero] at h6;rw [List.getElem?_take_of_lt (by omega), List.getElem?_drop] at h6;exact h6
     have hT := tag_some h1 hl' g0 g2 hx f3;rw [g3] at hT;refine hT.mono ?_;rintro e w' ⟨rfl, q, rfl⟩;exact ⟨by simp, Lib.hid (HP.got ⟨g, A, h1, h2, rfl, h4⟩ ((Chg.refl _ _).drewN q))⟩
theorem HP.get (h : HP w hb L I m) (ha : Ample I m) (n i : Int) :
 Calls Tryz.prog 32 #[.pointer (some ⟨hb, 0, none⟩), .int .i64 n, .int .i64 i] w fun e w' => e = .returned (.tuple #[(I.get n i).1.agg, .int .i64 (I.get n i).2.1]) ∧ Hid (Got w hb L (I.get n i).2.2 (m + 1) w') := by
 have h0 := h;obtain ⟨g, A, h1, h2, rfl, h4⟩ := h;have hx : ∀ X, Rep (w.alloc X) g A := fun X => h1.alloc X;unfold IS.get;cases hl : I.hs.lookup n with
 | none =>
   refine (get_err (g := g) (.inl rfl) n i (fun X => plain_none (hx X) (by rw [h2.sim.hs]; exact hl))).mono ?_;rintro e w' ⟨rfl, hC⟩;exact ⟨rfl, Lib.hid (HP.got ⟨g, A, h1, h2.more (by omega), rfl, h4⟩ hC)⟩
 | some name =>
   obtain ⟨o, d, g0, g1, g2, g3, g4, g5, g6⟩ := h2.ent hl;have hl' : A.handles.lookup n = some name := by rw [h2.sim.hs]; exact hl
   simp only [g1];cases ht : d.table with
   | true =>
     refine (get_err (g := g) (.inr rfl) n i (fun X => by
      have hp := plain_some (hx X) hl' g0;rw [g2, ht] at hp;exact hp)).mono ?_
     rintro e w' ⟨rfl, hC⟩;exact ⟨by simp [Wd.agg], Lib.hid (HP.got ⟨g, A, h1, h2.more (by omega), rfl, h4⟩ hC)⟩
   | false =>
     rw [ht] at g2;simp only [Bool.false_eq_true, if_false];by_cases hi : i < 0
     · rw [if_pos hi];refine (get_index h1 hl' g0 g2 i (.inl hi)).mono ?_;rintro e w' ⟨rfl, hC⟩;exact ⟨by simp [Wd.agg], Lib.hid (HP.got ⟨g, A, h1, h2.more (by omega), rfl, h4⟩ hC)⟩
     · rw [if_neg hi];have ei : i = (i.toNat : Int) := by omega
       cases hf : d.flds[i.toNat]? with
       | none =>
         have := List.getElem?_eq_none_iff.1 hf;refine (get_index h1 hl' g0 g2 i (.inr (by omega))).mono ?_;rintro e w' ⟨rfl, hC⟩;exact ⟨by simp [Wd.agg], Lib.hid (HP.got ⟨g, A, h1, h2.more (by omega), rfl, h4⟩ hC)⟩
       | some x =>
         obtain ⟨xr, xn⟩ := x;cases xr with
         | false =>
           have := h0.get_num hl g1 ht (i := i.toNat) hf;rw [← ei] at this;refine this.mono ?_;rintro e w' ⟨rfl, hG⟩;exact ⟨by simp [Wd.agg], Lib.hid ⟨hG.out.hp.more (by omega), hG.out.chg⟩⟩
         | true =>
           have := h0.get_ref ha hl g1 ht (i := i.toNat) hf;rw [← ei] at this;refine this.mono ?_;rintro e w' ⟨rfl, hG⟩;exact ⟨by simp [Wd.agg], hG⟩
def IS.held (I : IS) : List Int := I.hs.map (·.2)
theorem held_of {h n : Int} (hl : I.hs.lookup h = some n) : n ∈ I.held := List.mem_map.2 ⟨_, look_mem hl, rfl⟩
end Go.Proofs.YtelghmmcbgfjnaaGreat
