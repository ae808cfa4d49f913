/-
  Mod, num and ref walked. (A part of the proof, joined of: Yj, Td, Tf, Tg.)
-/
import Derived.Test.YtelghmmcbgfjnaaGreatH18
import Derived.IntWalk
/-! Mod, num and ref walked. -/
namespace Go.Proofs.YtelghmmcbgfjnaaGreat
open Go.RowKit

theorem tmod_emod {a b : Int} (hb : 0 < b) : (if a.tmod b < 0 then a.tmod b + b else a.tmod b) = a % b := by
  rcases Int.le_total 0 a with h | h
  · have h1 := Int.tmod_eq_emod_of_nonneg (b := b) h
    have h2 := Int.emod_nonneg a (show b ≠ 0 by omega)
    rw [h1, if_neg (by omega)]
  · have h1 := Int.tmod_eq_emod (a := a) (b := b)
    have h2 := Int.emod_nonneg a (show b ≠ 0 by omega)
    have h3 := Int.emod_lt_of_pos a hb
    by_cases hd : b ∣ a
    · have h4 : a % b = 0 := Int.emod_eq_zero_of_dvd hd
      rw [if_pos (.inr hd), h4] at h1
      rw [h1, h4]; simp
    · by_cases h0 : 0 ≤ a
      · rw [if_pos (.inl h0)] at h1
        rw [h1, if_neg (by omega)]; omega
      · rw [if_neg (by simp [h0, hd])] at h1
        rw [h1, if_pos (by omega)]; omega

theorem mod_any (w : World) (a b : Int) (hb : 0 < b ∧ b ≤ 1000000) :
    Calls Tryz.prog 10 #[.int .i64 a, .int .i64 b] w fun e w' => e = .returned (.int .i64 (a % b)) ∧ w = w' := by
  have he := tmod_emod (a := a) hb.1
  have hz : ¬ b = 0 := by omega
  have h1 : (a.tmod b).natAbs < b.natAbs := by
    rw [Int.natAbs_tmod]
    exact Nat.mod_lt _ (by omega)
  have hw : IntKind.i64.wrap (a.tmod b) = a.tmod b := IntWalk.i64_in _ (by omega)
  have hw2 : IntKind.i64.wrap (a.tmod b + b) = a.tmod b + b := IntWalk.i64_in _ (by omega)
  go_enter Tryz.func10, Tryz.ntmps10
  by_cases hlt : a.tmod b < 0
  · rw [if_pos hlt] at he
    go_wp2
    go_ret
    exact ⟨rfl, rfl⟩
  · rw [if_neg hlt] at he
    go_wp2
    go_ret
    exact ⟨by first | rfl | rw [← he]; rfl, rfl⟩

theorem num_any (w : World) (n : Int) :
    Calls Tryz.prog 26 #[.int .i64 n] w fun e w' => e = .returned (Wd.agg ⟨false, n⟩) ∧ Chg (fun _ => False) w w' := by
  go_enter Tryz.func26, Tryz.ntmps26
  go_wp2
  refine bodyPost_ret (v := .agg #[.bool false, .int .i64 n]) (by simp [results, Tryz.results26, go_sem]) rfl ⟨rfl, ?_⟩
  exact (Chg.refl _ _).alloc _
theorem ref_any (w : World) (n : Int) :
    Calls Tryz.prog 29 #[.int .i64 n] w fun e w' => e = .returned (Wd.agg ⟨true, n⟩) ∧ Chg (fun _ => False) w w' := by
  go_enter Tryz.func29, Tryz.ntmps29
  go_wp2
  refine bodyPost_ret (v := .agg #[.bool true, .int .i64 n]) (by simp [results, Tryz.results29, go_sem]) rfl ⟨rfl, ?_⟩
  exact (Chg.refl _ _).alloc _

end Go.Proofs.YtelghmmcbgfjnaaGreat

/-! What the laws tell as numbers: Which, Cell, bit, cell, nums, SameInts. -/
namespace Go.Proofs.YtelghmmcbgfjnaaGreat
open Go.RowKit

theorem which_any (w : World) (k a b : Int) (x : Option Addr) (n c : Nat) :
    Calls Tryz.prog 35 #[.agg #[.int .i64 k, .int .i64 a, .int .i64 b, .slice x n c]] w fun e w' => e = .returned (.int .i64 (k % 18)) ∧ Chg (fun _ => False) w w' := by
  have he := tmod_emod (a := k) (b := 18) (by omega)
  have h1 : (k.tmod 18).natAbs < 18 := by
    rw [Int.natAbs_tmod]
    exact Nat.mod_lt _ (by decide)
  have hw : IntKind.i64.wrap (k.tmod 18) = k.tmod 18 := IntWalk.i64_in _ (by omega)
  have hw2 : IntKind.i64.wrap (k.tmod 18 + 18) = k.tmod 18 + 18 := IntWalk.i64_in _ (by omega)
  have HC : Hid (Chg (fun _ => False) w (w.alloc (.cells #[.int .i64 k, .int .i64 a, .int .i64 b, .slice x n c] 33))) := (Chg.refl _ _).alloc _
  go_enter Tryz.func35, Tryz.ntmps35
  by_cases hlt : k.tmod 18 < 0
  · rw [if_pos hlt] at he
    go_wp2
    go_ret
    exact ⟨rfl, HC.out⟩
  · rw [if_neg hlt] at he
    go_wp2
    go_ret
    exact ⟨by first | rfl | rw [← he]; rfl, HC.out⟩

def bitI (b : Bool) : Int := if b then 1 else 0
theorem bit_any (w : World) (b : Bool) : Calls Tryz.prog 39 #[.bool b] w fun e w' => e = .returned (.int .i64 (bitI b)) ∧ w = w' := by
  cases b
  all_goals
    go_enter Tryz.func39, Tryz.ntmps39
    go_wp2
    go_ret
    exact ⟨rfl, rfl⟩

/-- The cell of an operation. -/
def opCell (b : Int) (cs : List Wd) : Wd := cs.head?.getD ⟨false, b⟩

theorem opCell_any (w : World) (k a b : Int) (x : Option Addr) (n c : Nat) (cs : List Wd) (hcs : CellsAt w x n cs) :
    Calls Tryz.prog 38 #[.agg #[.int .i64 k, .int .i64 a, .int .i64 b, .slice x n c]] w fun e w' => e = .returned (opCell b cs).agg ∧ Chg (fun _ => False) w w' := by
  have hlen := hcs.len
  have HC : Hid (∀ X Y, Chg (fun _ => False) w ((w.alloc X).alloc Y)) := fun X Y => ((Chg.refl (fun _ => False) w).alloc X).alloc Y
  cases cs with
  | nil =>
    obtain rfl : n = 0 := by simpa using hlen.symm
    clear hcs hlen
    go_enter Tryz.func38, Tryz.ntmps38
    go_wp2
    refine bodyPost_ret (v := .agg #[.bool false, .int .i64 b]) (by simp [results, Tryz.results38, go_sem]) rfl ⟨rfl, ?_⟩
    exact HC.out _ _
  | cons d cs =>
    obtain ⟨x, rfl, k1, k2⟩ := hcs.cell 0 d rfl
    obtain ⟨dr, dn⟩ := d
    have b1 := World.block_lt_of_cell? w _ k1
    have b2 := World.block_lt_of_cell? w _ k2
    have hC0 : ∀ X Y, Chg (fun _ => False) w ((w.alloc X).alloc Y) := fun X Y => ((Chg.refl (fun _ => False) w).alloc X).alloc Y
    have k3 : ∀ X Y, ((w.alloc X).alloc Y).cell? x = some (.bool dr) := fun X Y => by
      have := cell_chg (hC0 X Y) k1 (fun h => h)
      simpa [Addr.add] using this
    have k4 : ∀ X Y, ((w.alloc X).alloc Y).cell? ⟨x.block, x.off + 1, none⟩ = some (.int .i64 dn) := fun X Y => by
      have := cell_chg (hC0 X Y) k2 (fun h => h)
      exact this
    have hn : (0 : Int) < (n : Int) := by simp at hlen; omega
    clear hcs hlen b1 b2 hC0 k1 k2
    go_enter Tryz.func38, Tryz.ntmps38
    go_wp2
    refine bodyPost_ret (v := .agg #[.bool dr, .int .i64 dn]) (by simp [results, Tryz.results38, go_sem]) rfl ⟨rfl, ?_⟩
    exact HC.out _ _

/-- A row of numbers, made since the world had B blocks. -/
structure IRow (w : World) (B : Nat) (v : Value) (l : List Int) : Prop where
  row : Row w 3 1 v l.length (intCells l)
  new : ∀ b, rowBlk v = some b → B ≤ b
theorem IRow.chg {F : Nat → Prop} {w w' : World} {B : Nat} {v : Value} {l : List Int} (h : IRow w B v l) (hC : Chg F w w') (hF : ∀ b, rowBlk v = some b → ¬ F b) : IRow w' B v l :=
  ⟨h.row.same fun b hb => hC.block b (h.row.lt hb) (hF b hb), h.new⟩
theorem IRow.chg0 {w w' : World} {B : Nat} {v : Value} {l : List Int} (h : IRow w B v l) (hC : Chg (fun _ => False) w w') : IRow w' B v l := h.chg hC fun _ _ h => h
theorem IRow.low {w : World} {B B' : Nat} {v : Value} {l : List Int} (h : IRow w B v l) (hb : B' ≤ B) : IRow w B' v l := ⟨h.row, fun b hv => Nat.le_trans hb (h.new b hv)⟩
theorem IRow.block (w : World) {l : List Int} (hl : 0 < l.length) (hm : l.length ≤ maxLen) : IRow (w.alloc (.cells (l.map (Value.int .i64)).toArray 3)) w.heap.size (.slice (some ⟨w.heap.size, 0, none⟩) l.length l.length) l := by
  obtain ⟨c, hc⟩ : ∃ c, l.length = c + 1 := ⟨l.length - 1, by omega⟩
  refine ⟨⟨by simp [intCells], hm, .inr ⟨w.heap.size, c, _, by rw [hc], heap_alloc_new _ _, by omega, by omega, by simp [hc], by simp [intCells, hc, List.take_of_length_le]⟩⟩, fun b hb => ?_⟩
  rw [hc] at hb
  simp [rowBlk] at hb
  omega

/-- One number more behind a slice of numbers. -/
theorem appOne {w : World} {v : Value} {xs : List Int} (hrow : Row w 3 1 v xs.length (intCells xs)) (x : Int) (hT : xs.length < 1000000000000) :
    ∃ a cap w', (Builtin.append_ #[23, 23] 23 #[v, .slice (some ⟨w.heap.size, 0, none⟩) 1 1]).run Tryz.prog (w.alloc (.cells #[.int .i64 x] 3)) = .ok (.slice a (xs.length + 1) cap) w' ∧
      Row w' 3 1 (.slice a (xs.length + 1) cap) (xs ++ [x]).length (intCells (xs ++ [x])) ∧ Chg (fun b => rowBlk v = some b) w w' ∧ (∀ b, rowBlk (.slice a (xs.length + 1) cap) = some b → rowBlk v = some b ∨ w.heap.size ≤ b) := by
  obtain ⟨i0, hi, hz0, hz1, hz2⟩ := info_parts iInt
  have h1 : Row (w.alloc (.cells #[.int .i64 x] 3)) 3 1 v xs.length (intCells xs) := hrow.same fun b hb => by rw [heap_alloc, if_neg (by have := hrow.lt hb; omega)]
  have hsrc : Src' (w.alloc (.cells #[.int .i64 x] 3)) 1 (.slice (some ⟨w.heap.size, 0, none⟩) 1 1) 1 [.int .i64 x] := src_block (heap_alloc_new _ _) (by simp) (by simp)
  obtain ⟨v3, w3, happ, hrow3, hC3, hloc3⟩ := run_append_row (P := Tryz.prog) 23 23 3 i0 _ 1 8 uInts hi hz0 hz1 hz2 rfl (by decide) h1 hsrc (by simp [Value.oneCell']) (by unfold maxLen; omega) (by omega)
  obtain ⟨a3, cap3, rfl, -⟩ := hrow3.slice
  have hCa : Chg (fun b => rowBlk v = some b) w (w.alloc (.cells #[.int .i64 x] 3)) := (Chg.refl _ _).alloc _
  refine ⟨a3, cap3, w3, happ, ?_, hCa.trans hC3 (fun _ _ h => h), ?_⟩
  · have e : intCells (xs ++ [x]) = intCells xs ++ [.int .i64 x] := by simp [intCells]
    rw [e, List.length_append, List.length_singleton]
    exact hrow3
  · intro b hb
    rcases hloc3 b hb with h2 | h2
    · exact .inl h2
    · simp at h2; exact .inr (by omega)

set_option maxRecDepth 100000 in
set_option maxHeartbeats 1000000 in
theorem nums_any (w : World) (er : Int) {v : Value} {l : List Int} (h : Row w 3 1 v l.length (intCells l)) (hl : l.length ≤ 100000) :
    Calls Tryz.prog 36 #[.int .i64 er, v] w fun e w' => ∃ v', e = .returned v' ∧ IRow w' w.heap.size v' (l ++ [er]) ∧ Chg (fun _ => False) w w' := by
  refine ret_k fun K hK => ?_
  have h0 : Row (w.alloc (.cells #[] 3)) 3 1 (.slice (some ⟨w.heap.size, 0, none⟩) 0 0) ([] : List Int).length (intCells []) := ⟨by simp [intCells], by simp, .inl ⟨rfl, _, rfl⟩⟩
  have h1 : Row (w.alloc (.cells #[] 3)) 3 1 v l.length (intCells l) := h.same fun b hb => by rw [heap_alloc, if_neg (by have := h.lt hb; omega)]
  obtain ⟨a2, c2, w2, happ, hr2, hC2, hloc2⟩ := append_rows h0 h1 (by simp; omega)
  obtain ⟨a3, c3, w3, happ3, hr3, hC3, hloc3⟩ := appOne hr2 er (by simp; omega)
  have hs1 : (w.alloc (.cells #[] 3)).heap.size = w.heap.size + 1 := by simp
  have hs2 := hC2.size
  have hC : Chg (fun _ => False) w w3 := (((Chg.refl (fun _ => False) w).alloc _).trans hC2 (fun b _ hb => by simp [rowBlk] at hb)).trans hC3 fun b hb hv => by
    rcases hloc2 b hv with h4 | h4
    · simp [rowBlk] at h4
    · omega
  have HZ := Lib.hid (hK _ _ ⟨_, rfl, ⟨hr3, fun b hb => by
    rcases hloc3 b hb with h4 | h4
    · rcases hloc2 b h4 with h5 | h5
      · simp [rowBlk] at h5
      · omega
    · omega⟩, hC⟩)
  simp only [List.length_nil, Nat.zero_add, List.nil_append] at happ happ3 HZ
  clear h0 h1 hr2 hC2 hloc2 hr3 hC3 hloc3 hs1 hs2 hC hK h
  go_enter Tryz.func36, Tryz.ntmps36
  go_wp2_with (first | (at_builtin; go_must (first | (refine wpList_val rfl (exec_append rfl (by exact happ)) ?_) | (refine wpList_val rfl (exec_append rfl (by exact happ3)) ?_))))
  go_ret
  exact HZ.out

set_option maxRecDepth 100000 in
set_option maxHeartbeats 1000000 in
theorem cell_any (w : World) (r : Bool) (n : Int) :
    Calls Tryz.prog 37 #[.agg #[.bool r, .int .i64 n]] w fun e w' => ∃ v', e = .returned v' ∧ IRow w' w.heap.size v' [bitI r, n] ∧ Chg (fun _ => False) w w' := by
  refine ret_k fun K hK => ?_
  have HZ : Hid (∀ X, Post K (.returned (.slice (some ⟨w.heap.size + 1, 0, none⟩) 2 2)) ((w.alloc X).alloc (.cells #[.int .i64 (bitI r), .int .i64 n] 3)).drew) := fun X => by
    have h1 := IRow.block (w.alloc X) (l := [bitI r, n]) (by simp) (by simp [maxLen])
    have hs : (w.alloc X).heap.size = w.heap.size + 1 := by simp
    rw [hs] at h1
    exact hK _ _ ⟨_, rfl, (h1.low (Nat.le_succ _)).chg0 ((Chg.refl _ _).drew), (((Chg.refl (fun _ => False) w).alloc X).alloc _).drew⟩
  have HB := Lib.hid fun w => bit_any w r
  clear hK
  go_enter Tryz.func37, Tryz.ntmps37
  go_upto_region 1 with fail
  go_region_with (go_at_call 39; refine (HB.out _).mono ?_; rintro e w9 ⟨rfl, rfl⟩)
  all_goals
    go_wp2
    go_ret
    exact HZ.out _

end Go.Proofs.YtelghmmcbgfjnaaGreat

/-! IsTable, Same, Dup, Tag, Get at the ideal heap. -/
namespace Go.Proofs.YtelghmmcbgfjnaaGreat
open Go.RowKit

def IS.isTable (I : IS) (h : Int) : Bool × Int := match I.hs.lookup h with
  | none => (false, 221)
  | some n => (((I.nd n).map (·.table)).getD false, 0)
def IS.same (I : IS) (a b : Int) : Bool × Int := match I.hs.lookup a with
  | none => (false, 221)
  | some n => match I.hs.lookup b with
    | none => (false, 221)
    | some m => (decide (n = m), 0)
noncomputable def IS.dup (I : IS) (h : Int) : Int × Int × IS := match I.hs.lookup h with
  | none => (0, 221, I)
  | some n => (I.fresh, 0, I.grant n)
def IS.tagOf (I : IS) (h : Int) : Int × Int × Int := match I.hs.lookup h with
  | none => (0, 0, 221)
  | some n => match I.nd n with
    | none => (0, 0, 0)
    | some d => if d.table then (0, 0, 223) else (d.tag, d.flds.length, 0)
noncomputable def IS.get (I : IS) (h i : Int) : Wd × Int × IS := match I.hs.lookup h with
  | none => (⟨false, 0⟩, 221, I)
  | some n => match I.nd n with
    | none => (⟨false, 0⟩, 0, I)
    | some d => if d.table then (⟨false, 0⟩, 223, I) else if i < 0 then (⟨false, 0⟩, 222, I) else match d.flds[i.toNat]? with
      | none => (⟨false, 0⟩, 222, I)
      | some x => if x.ref then (⟨true, I.fresh⟩, 0, I.grant x.num) else (⟨false, x.num⟩, 0, I)

theorem HP.isTable {w : World} {hb : Nat} {L : List Nat} {I : IS} {m : Nat} (h : HP w hb L I m) (n : Int) :
    Calls Tryz.prog 42 #[.pointer (some ⟨hb, 0, none⟩), .int .i64 n] w fun e w' => e = .returned (.tuple #[.bool (I.isTable n).1, .int .i64 (I.isTable n).2]) ∧ Hid (Got w hb L I m w') := by
  obtain ⟨g, A, h1, h2, rfl, h4⟩ := h
  unfold IS.isTable
  cases hl : I.hs.lookup n with
  | none =>
    refine (isTable_none h1 (by rw [h2.sim.hs]; exact hl)).mono ?_
    rintro e w' ⟨rfl, rfl⟩
    exact ⟨rfl, Lib.hid (HP.same ⟨g, A, h1, h2, rfl, h4⟩)⟩
  | some name =>
    obtain ⟨o, d, g0, g1, g2, _⟩ := h2.ent hl
    refine (isTable_some h1 (by rw [h2.sim.hs]; exact hl) g0).mono ?_
    rintro e w' ⟨rfl, hC⟩
    exact ⟨by simp only [g1, g2, Option.map_some, Option.getD_some], Lib.hid (HP.got ⟨g, A, h1, h2, rfl, h4⟩ hC)⟩

theorem HP.sameH {w : World} {hb : Nat} {L : List Nat} {I : IS} {m : Nat} (h : HP w hb L I m) (n k : Int) :
    Calls Tryz.prog 43 #[.pointer (some ⟨hb, 0, none⟩), .int .i64 n, .int .i64 k] w fun e w' => e = .returned (.tuple #[.bool (I.same n k).1, .int .i64 (I.same n k).2]) ∧ Hid (Got w hb L I m w') := by
  obtain ⟨g, A, h1, h2, rfl, h4⟩ := h
  unfold IS.same
  cases hl : I.hs.lookup n with
  | none =>
    refine (same_none h1 (by rw [h2.sim.hs]; exact hl)).mono ?_
    rintro e w' ⟨rfl, rfl⟩
    exact ⟨rfl, Lib.hid (HP.same ⟨g, A, h1, h2, rfl, h4⟩)⟩
  | some name =>
    obtain ⟨o, d, g0, _⟩ := h2.ent hl
    cases hl2 : I.hs.lookup k with
    | none =>
      refine (same_no h1 (by rw [h2.sim.hs]; exact hl) g0 (by rw [h2.sim.hs]; exact hl2)).mono ?_
      rintro e w' ⟨rfl, hC⟩
      exact ⟨rfl, Lib.hid (HP.got ⟨g, A, h1, h2, rfl, h4⟩ hC)⟩
    | some name2 =>
      obtain ⟨o2, d2, k0, _⟩ := h2.ent hl2
      refine (same_some h1 (by rw [h2.sim.hs]; exact hl) g0 (by rw [h2.sim.hs]; exact hl2) k0).mono ?_
      rintro e w' ⟨rfl, hC⟩
      exact ⟨rfl, Lib.hid (HP.got ⟨g, A, h1, h2, rfl, h4⟩ hC)⟩

theorem HP.dup {w : World} {hb : Nat} {L : List Nat} {I : IS} {m : Nat} (h : HP w hb L I m) (ha : Ample I m) (n : Int) :
    Calls Tryz.prog 44 #[.pointer (some ⟨hb, 0, none⟩), .int .i64 n] w fun e w' => e = .returned (.tuple #[.int .i64 (I.dup n).1, .int .i64 (I.dup n).2.1]) ∧ Hid (Got w hb L (I.dup n).2.2 (m + 1) w') := by
  obtain ⟨g, A, h1, h2, rfl, h4⟩ := h
  unfold IS.dup
  cases hl : I.hs.lookup n with
  | none =>
    refine (dup_none h1 (by rw [h2.sim.hs]; exact hl)).mono ?_
    rintro e w' ⟨rfl, rfl⟩
    exact ⟨rfl, Lib.hid (HP.same ⟨g, A, h1, h2.more (by omega), rfl, h4⟩)⟩
  | some name =>
    obtain ⟨o, d, g0, _⟩ := h2.ent hl
    refine (dup_some h1 h2.good.free (h2.facts ha).2.1 (by rw [h2.sim.hs]; exact hl) g0).mono ?_
    rintro e w' ⟨q, rfl, A', g', hG, hR', hStep⟩
    obtain ⟨rfl, h5⟩ := h2.grant hG (by rw [g0]; rfl) ha.hs
    exact ⟨rfl, Lib.hid (.of h4 hR' hStep (h5.more (by omega)))⟩

theorem HP.tagOf {w : World} {hb : Nat} {L : List Nat} {I : IS} {m : Nat} (h : HP w hb L I m) (n : Int) :
    Calls Tryz.prog 47 #[.pointer (some ⟨hb, 0, none⟩), .int .i64 n] w fun e w' => e = .returned (.tuple #[.int .i64 (I.tagOf n).1, .int .i64 (I.tagOf n).2.1, .int .i64 (I.tagOf n).2.2]) ∧ Hid (Got w hb L I m w') := by
  obtain ⟨g, A, h1, h2, rfl, h4⟩ := h
  unfold IS.tagOf
  cases hl : I.hs.lookup n with
  | none =>
    refine (tag_err (g := g) (.inl rfl) n (plain_none h1 (by rw [h2.sim.hs]; exact hl))).mono ?_
    rintro e w' ⟨rfl, rfl⟩
    exact ⟨rfl, Lib.hid (HP.same ⟨g, A, h1, h2, rfl, h4⟩)⟩
  | some name =>
    obtain ⟨o, d, g0, g1, g2, g3, g4, g5, g6⟩ := h2.ent hl
    have hl' : A.handles.lookup n = some name := by rw [h2.sim.hs]; exact hl
    simp only [g1]
    cases ht : d.table with
    | true =>
      have hp := plain_some h1 hl' g0
      rw [g2, ht] at hp
      refine (tag_err (g := g) (.inr rfl) n hp).mono ?_
      rintro e w' ⟨rfl, rfl⟩
      exact ⟨by simp, Lib.hid (HP.same ⟨g, A, h1, h2, rfl, h4⟩)⟩
    | false =>
      rw [ht] at g2
      obtain ⟨f1, f2, f3⟩ := h2.field g0 g4
      have hx : (A.mem o.old)[o.at_]? = some ⟨false, d.tag⟩ := by
        have h5 : ((A.mem o.old).drop o.at_).take (1 + o.size) = ⟨false, d.tag⟩ :: d.flds := g4
        have h6 := congrArg (fun l : List Wd => l[0]?) h5
        simp only [List.getElem?_cons_zero] at h6
        rw [List.getElem?_take_of_lt (by omega), List.getElem?_drop] at h6
        exact h6
      have hT := tag_some h1 hl' g0 g2 hx f3
      rw [g3] at hT
      refine hT.mono ?_
      rintro e w' ⟨rfl, q, rfl⟩
      exact ⟨by simp, Lib.hid (HP.got ⟨g, A, h1, h2, rfl, h4⟩ ((Chg.refl _ _).drewN q))⟩

theorem HP.get {w : World} {hb : Nat} {L : List Nat} {I : IS} {m : Nat} (h : HP w hb L I m) (ha : Ample I m) (n i : Int) :
    Calls Tryz.prog 32 #[.pointer (some ⟨hb, 0, none⟩), .int .i64 n, .int .i64 i] w fun e w' => e = .returned (.tuple #[(I.get n i).1.agg, .int .i64 (I.get n i).2.1]) ∧ Hid (Got w hb L (I.get n i).2.2 (m + 1) w') := by
  have h0 := h
  obtain ⟨g, A, h1, h2, rfl, h4⟩ := h
  have hx : ∀ X, Rep (w.alloc X) g A := fun X => h1.alloc X
  unfold IS.get
  cases hl : I.hs.lookup n with
  | none =>
    refine (get_err (g := g) (.inl rfl) n i (fun X => plain_none (hx X) (by rw [h2.sim.hs]; exact hl))).mono ?_
    rintro e w' ⟨rfl, hC⟩
    exact ⟨rfl, Lib.hid (HP.got ⟨g, A, h1, h2.more (by omega), rfl, h4⟩ hC)⟩
  | some name =>
    obtain ⟨o, d, g0, g1, g2, g3, g4, g5, g6⟩ := h2.ent hl
    have hl' : A.handles.lookup n = some name := by rw [h2.sim.hs]; exact hl
    simp only [g1]
    cases ht : d.table with
    | true =>
      refine (get_err (g := g) (.inr rfl) n i (fun X => by
        have hp := plain_some (hx X) hl' g0
        rw [g2, ht] at hp
        exact hp)).mono ?_
      rintro e w' ⟨rfl, hC⟩
      exact ⟨by simp [Wd.agg], Lib.hid (HP.got ⟨g, A, h1, h2.more (by omega), rfl, h4⟩ hC)⟩
    | false =>
      rw [ht] at g2
      simp only [Bool.false_eq_true, if_false]
      by_cases hi : i < 0
      · rw [if_pos hi]
        refine (get_index h1 hl' g0 g2 i (.inl hi)).mono ?_
        rintro e w' ⟨rfl, hC⟩
        exact ⟨by simp [Wd.agg], Lib.hid (HP.got ⟨g, A, h1, h2.more (by omega), rfl, h4⟩ hC)⟩
      · rw [if_neg hi]
        have ei : i = (i.toNat : Int) := by omega
        cases hf : d.flds[i.toNat]? with
        | none =>
          have := List.getElem?_eq_none_iff.1 hf
          refine (get_index h1 hl' g0 g2 i (.inr (by omega))).mono ?_
          rintro e w' ⟨rfl, hC⟩
          exact ⟨by simp [Wd.agg], Lib.hid (HP.got ⟨g, A, h1, h2.more (by omega), rfl, h4⟩ hC)⟩
        | some x =>
          obtain ⟨xr, xn⟩ := x
          cases xr with
          | false =>
            have := h0.get_num hl g1 ht (i := i.toNat) hf
            rw [← ei] at this
            refine this.mono ?_
            rintro e w' ⟨rfl, hG⟩
            exact ⟨by simp [Wd.agg], Lib.hid ⟨hG.out.hp.more (by omega), hG.out.chg⟩⟩
          | true =>
            have := h0.get_ref ha hl g1 ht (i := i.toNat) hf
            rw [← ei] at this
            refine this.mono ?_
            rintro e w' ⟨rfl, hG⟩
            exact ⟨by simp [Wd.agg], hG⟩

end Go.Proofs.YtelghmmcbgfjnaaGreat

/-! Two ideal heaps, one with collections and one without: what operations tell of handles and objects is the same. -/
namespace Go.Proofs.YtelghmmcbgfjnaaGreat
open Go.RowKit

structure Known (I : IS) : Prop where
  queue : ∀ n ∈ I.queue, n < I.nodes.length
  keys : ∀ n d, I.nd n = some d → ∀ x ∈ d.ents, x.key < I.nodes.length

theorem HP.known {w : World} {hb : Nat} {L : List Nat} {I : IS} {m : Nat} (h : HP w hb L I m) : Known I := by
  obtain ⟨g, A, h1, h2, _, h4⟩ := h
  refine ⟨fun n hn => ?_, h2.keys⟩
  have hr : n ∈ A.roots := mem_roots.2 (.inl (by rw [h2.sim.queue]; exact hn))
  obtain ⟨o, ho⟩ := Option.isSome_iff_exists.1 (h2.good.wf.roots n hr)
  obtain ⟨d, hd, _⟩ := h2.sim.obj _ _ ho
  obtain ⟨k1, k2, _⟩ := IS.nd_nat hd
  omega

def IS.held (I : IS) : List Int := I.hs.map (·.2)
theorem held_of {I : IS} {h n : Int} (hl : I.hs.lookup h = some n) : n ∈ I.held := List.mem_map.2 ⟨_, look_mem hl, rfl⟩

theorem IReach.hsOnly {I' I : IS} {l : List Int} {n : Int} (h : IReach I' l n) (e : I'.nodes = I.nodes) : IReach I l n :=
  IReach.nodes2 (fun n d hd => ⟨d, by unfold IS.nd at hd ⊢; rw [← e]; exact hd, rfl, rfl, rfl⟩) h

/-- J: the same with collections behind it. -/
structure Tw (I J : IS) : Prop where
  len : I.nodes.length = J.nodes.length
  nd : ∀ n d, I.nd n = some d → ∃ g, J.nd n = some { d with gone := g }
  hs : I.hs = J.hs
  room : I.room = J.room
  queue : I.queue = []
  reg : ∀ n, n ∈ I.reg ↔ n ∈ J.queue ∨ n ∈ J.reg
  far : ∀ n ∈ J.queue, ¬ IReach I I.held n

theorem Tw.none {I J : IS} (h : Tw I J) {n : Int} (hn : I.nd n = none) : J.nd n = none := by
  cases hj : J.nd n with
  | none => rfl
  | some d =>
    obtain ⟨h0, hl, _⟩ := IS.nd_nat hj
    rw [← h.len] at hl
    unfold IS.nd at hn
    rw [if_pos h0, List.getElem?_eq_getElem hl] at hn
    cases hn
theorem Tw.nd' {I J : IS} (h : Tw I J) {n : Int} {d : Nd} (hn : J.nd n = some d) : ∃ g, I.nd n = some { d with gone := g } := by
  cases hi : I.nd n with
  | none => rw [h.none hi] at hn; cases hn
  | some d0 =>
    obtain ⟨g, hg⟩ := h.nd n d0 hi
    rw [hg] at hn
    simp only [Option.some.injEq] at hn
    subst hn
    exact ⟨d0.gone, rfl⟩
theorem Tw.reach {I J : IS} (h : Tw I J) {l : List Int} {n : Int} : IReach I l n ↔ IReach J l n :=
  ⟨IReach.nodes2 fun n d hd => by obtain ⟨g, hg⟩ := h.nd n d hd; exact ⟨_, hg, rfl, rfl, rfl⟩,
   IReach.nodes2 fun n d hd => by obtain ⟨g, hg⟩ := h.nd' hd; exact ⟨_, hg, rfl, rfl, rfl⟩⟩
theorem Tw.kept {I J : IS} (h : Tw I J) {n : Int} : I.kept n ↔ J.kept n := by
  unfold IS.kept
  have hm : ∀ n, n ∈ I.roots ++ I.reg ↔ n ∈ J.roots ++ J.reg := fun n => by
    unfold IS.roots
    rw [h.queue, h.hs]
    simp only [List.nil_append, List.mem_append, h.reg n]
    constructor
    · rintro (h1 | h1 | h1)
      · exact .inl (.inr h1)
      · exact .inl (.inl h1)
      · exact .inr h1
    · rintro ((h1 | h1) | h1)
      · exact .inr (.inl h1)
      · exact .inl h1
      · exact .inr (.inr h1)
  exact ⟨fun hr => h.reach.1 (hr.congr fun m hm' => (hm m).1 hm'), fun hr => h.reach.2 (hr.congr fun m hm' => (hm m).2 hm')⟩
theorem Tw.live {I J : IS} (h : Tw I J) (n : Int) : I.live n = J.live n := by
  cases hj : J.live n with
  | true => exact IS.live_iff.2 (h.kept.2 (IS.live_iff.1 hj))
  | false =>
    cases hi : I.live n with
    | false => rfl
    | true => rw [IS.live_iff.2 (h.kept.1 (IS.live_iff.1 hi))] at hj; cases hj
theorem Tw.words {I J : IS} (h : Tw I J) : I.words I.live = J.words J.live := by
  have e : I.live = J.live := funext h.live
  unfold IS.words
  rw [h.len]
  congr 1
  refine List.map_congr_left fun j hj => ?_
  have hj' := List.mem_range.1 hj
  rw [← h.len] at hj'
  have hnd : I.nd (j : Int) = some I.nodes[j] := by
    unfold IS.nd
    rw [if_pos (by omega)]
    simp [List.getElem?_eq_getElem hj']
  obtain ⟨g, hg⟩ := h.nd _ _ hnd
  have hg' : J.nodes[j]? = some { I.nodes[j] with gone := g } := by
    unfold IS.nd at hg
    rw [if_pos (by omega)] at hg
    simpa using hg
  unfold IS.cost
  rw [List.getElem?_eq_getElem hj', hg', e]
theorem Tw.fresh {I J : IS} (h : Tw I J) : I.fresh = J.fresh := by unfold IS.fresh; rw [h.hs]
theorem Tw.okC {I J : IS} (h : Tw I J) (c : Wd) : I.okC c = J.okC c := by unfold IS.okC; rw [h.hs]
theorem Tw.wordC {I J : IS} (h : Tw I J) (c : Wd) : I.wordC c = J.wordC c := by unfold IS.wordC; rw [h.hs]
theorem Tw.held {I J : IS} (h : Tw I J) : I.held = J.held := by unfold IS.held; rw [h.hs]

/-- A change that hands out no more than what handles reached. -/
theorem Tw.by {I J I' J' : IS} (h : Tw I J) (hK : Known J) (len : I'.nodes.length = J'.nodes.length) (nd : ∀ n d, I'.nd n = some d → ∃ g, J'.nd n = some { d with gone := g }) (hs : I'.hs = J'.hs)
    (r1 : I'.room = I.room) (r2 : J'.room = J.room) (q1 : I'.queue = I.queue) (q2 : J'.queue = J.queue) (g1 : I'.reg = I.reg) (g2 : J'.reg = J.reg) (hG : ∀ n : Int, n < I.nodes.length → IReach I' I'.held n → IReach I I.held n) : Tw I' J' :=
  ⟨len, nd, hs, by rw [r1, r2]; exact h.room, by rw [q1]; exact h.queue, by rw [q2, g1, g2]; exact h.reg, fun n hn hr => by
    rw [q2] at hn
    exact h.far n hn (hG n (by rw [h.len]; exact hK.queue n hn) hr)⟩

/-! ### Minor and Major of the second -/

theorem Tw.major {I J : IS} (h : Tw I J) : Tw I J.majored := by
  have hr : ∀ n, IReach J J.roots n → n ∉ J.reg.filter (fun n => !dec (IReach J J.roots n)) := fun n hn hm => by
    have := (List.mem_filter.1 hm).2
    rw [dec_iff.2 hn] at this
    cases this
  refine ⟨by rw [h.len]; simp [IS.majored], fun n d hd => ?_, h.hs, h.room, h.queue, fun n => ?_, fun n hn hreach => ?_⟩
  · obtain ⟨g, hg⟩ := h.nd n d hd
    rw [IS.nd_majored, hg]
    exact ⟨_, rfl⟩
  · show n ∈ I.reg ↔ n ∈ J.queue ++ J.reg.filter (fun n => !dec (IReach J J.roots n)) ∨ n ∈ J.reg.filter (fun n => dec (IReach J J.roots n))
    rw [h.reg n, List.mem_append, List.mem_filter, List.mem_filter]
    cases dec (IReach J J.roots n) <;> simp
  · have hn' : n ∈ J.queue ++ J.reg.filter (fun n => !dec (IReach J J.roots n)) := hn
    rcases List.mem_append.1 hn' with hq | hq
    · exact h.far n hq hreach
    · refine hr n (h.reach.1 (hreach.congr fun m hm => ?_)) hq
      rw [h.held] at hm
      exact List.mem_append_right _ hm

/-! ### Handles -/

theorem Tw.grant {I J : IS} (h : Tw I J) (hK : Known J) {x : Int} (hx : IReach I I.held x) : Tw (I.grant x) (J.grant x) := by
  refine h.by hK h.len (fun n d hd => h.nd n d hd) (by show I.hs ++ _ = J.hs ++ _; rw [h.hs, h.fresh]) rfl rfl rfl rfl rfl rfl fun n _ hr => ?_
  have e : (I.grant x).held = I.held ++ [x] := by
    show (I.hs ++ [(I.fresh, x)]).map (·.2) = _
    rw [List.map_append]; rfl
  rw [e] at hr
  have hr' : IReach I (I.held ++ [x]) n := IReach.hsOnly hr rfl
  refine IReach.closed (fun m hm => ?_) hr'
  rcases List.mem_append.1 hm with hm | hm
  · exact .root hm
  · simp at hm; subst hm; exact hx
theorem Tw.dup {I J : IS} (h : Tw I J) (hK : Known J) (n : Int) : (I.dup n).1 = (J.dup n).1 ∧ (I.dup n).2.1 = (J.dup n).2.1 ∧ Tw (I.dup n).2.2 (J.dup n).2.2 := by
  unfold IS.dup
  rw [← h.hs]
  cases hl : I.hs.lookup n with
  | none => exact ⟨rfl, rfl, h⟩
  | some x => exact ⟨h.fresh, rfl, h.grant hK (.root (held_of hl))⟩
theorem Tw.drop {I J : IS} (h : Tw I J) (hK : Known J) (n : Int) : (I.drop n).1 = (J.drop n).1 ∧ Tw (I.drop n).2 (J.drop n).2 := by
  unfold IS.drop
  rw [← h.hs]
  cases hl : I.hs.lookup n with
  | none => exact ⟨rfl, h⟩
  | some x =>
    refine ⟨rfl, h.by hK h.len (fun n d hd => h.nd n d hd) rfl rfl rfl rfl rfl rfl rfl fun m _ hr => ?_⟩
    have hr' : IReach I ((delH I.hs n).map (·.2)) m := IReach.hsOnly hr rfl
    refine hr'.congr fun k hk => ?_
    obtain ⟨p, hp, rfl⟩ := List.mem_map.1 hk
    exact List.mem_map.2 ⟨p, (List.mem_filter.1 hp).1, rfl⟩
theorem Tw.fin {I J : IS} (h : Tw I J) (n : Int) : (I.fin n).1 = (J.fin n).1 ∧ (I.fin n).2.1 = (J.fin n).2.1 ∧ Tw (I.fin n).2.2 (J.fin n).2.2 := by
  unfold IS.fin
  rw [← h.hs]
  cases hl : I.hs.lookup n with
  | none => exact ⟨rfl, rfl, h⟩
  | some x =>
    have hx : x ∉ J.queue := fun hq => h.far x hq (.root (held_of hl))
    have hreg : x ∈ I.reg ↔ x ∈ J.reg := by
      rw [h.reg x]
      exact ⟨fun h1 => h1.resolve_left hx, .inr⟩
    simp only []
    by_cases hr : x ∈ I.reg
    · rw [if_pos hr, if_pos (hreg.1 hr)]; exact ⟨rfl, rfl, h⟩
    · rw [if_neg hr, if_neg fun h1 => hr (hreg.2 h1)]
      refine ⟨rfl, rfl, ⟨h.len, h.nd, rfl, h.room, h.queue, fun m => ?_, fun m hm hr => h.far m hm ?_⟩⟩
      · show m ∈ I.reg ++ [x] ↔ m ∈ J.queue ∨ m ∈ J.reg ++ [x]
        rw [List.mem_append, List.mem_append, h.reg m, or_assoc]
      · exact IReach.hsOnly hr rfl

theorem Tw.isTable {I J : IS} (h : Tw I J) (n : Int) : I.isTable n = J.isTable n := by
  unfold IS.isTable
  rw [← h.hs]
  cases hl : I.hs.lookup n with
  | none => rfl
  | some x =>
    simp only []
    cases hd : I.nd x with
    | none => rw [h.none hd]
    | some d => obtain ⟨g, hg⟩ := h.nd x d hd; rw [hg]; rfl
theorem Tw.same {I J : IS} (h : Tw I J) (n m : Int) : I.same n m = J.same n m := by unfold IS.same; rw [h.hs]
theorem Tw.tagOf {I J : IS} (h : Tw I J) (n : Int) : I.tagOf n = J.tagOf n := by
  unfold IS.tagOf
  rw [← h.hs]
  cases hl : I.hs.lookup n with
  | none => rfl
  | some x =>
    simp only []
    cases hd : I.nd x with
    | none => rw [h.none hd]
    | some d => obtain ⟨g, hg⟩ := h.nd x d hd; rw [hg]
theorem Tw.get {I J : IS} (h : Tw I J) (hK : Known J) (n i : Int) : (I.get n i).1 = (J.get n i).1 ∧ (I.get n i).2.1 = (J.get n i).2.1 ∧ Tw (I.get n i).2.2 (J.get n i).2.2 := by
  unfold IS.get
  rw [← h.hs]
  cases hl : I.hs.lookup n with
  | none => exact ⟨rfl, rfl, h⟩
  | some x =>
    simp only []
    cases hd : I.nd x with
    | none => rw [h.none hd]; exact ⟨rfl, rfl, h⟩
    | some d =>
      obtain ⟨g, hg⟩ := h.nd x d hd
      rw [hg]
      simp only []
      cases ht : d.table with
      | true => simp only [if_true]; exact ⟨trivial, trivial, h⟩
      | false =>
        simp only [Bool.false_eq_true, if_false]
        by_cases hi : i < 0
        · rw [if_pos hi, if_pos hi]; exact ⟨rfl, rfl, h⟩
        · rw [if_neg hi, if_neg hi]
          cases hf : d.flds[i.toNat]? with
          | none => exact ⟨rfl, rfl, h⟩
          | some c =>
            simp only []
            cases hc : c.ref with
            | false => simp only [Bool.false_eq_true, if_false]; exact ⟨trivial, trivial, h⟩
            | true =>
              simp only [if_true]
              refine ⟨by rw [h.fresh], trivial, h.grant hK ?_⟩
              refine .field (.root (held_of hl)) hd ht (List.mem_map.2 ⟨c, List.mem_filter.2 ⟨List.mem_of_getElem? hf, hc⟩, rfl⟩)

/-! ### Objects made -/

theorem Tw.adds {I J : IS} (h : Tw I J) (hK : Known J) (hKI : Known I) (n : Nat) {d : Nd} (he : d.ents = []) (hr : ∀ x ∈ refsW d.flds, x ∈ I.held) : (I.adds n d).1 = (J.adds n d).1 ∧ (I.adds n d).2.1 = (J.adds n d).2.1 ∧ Tw (I.adds n d).2.2 (J.adds n d).2.2 := by
  unfold IS.adds
  rw [← h.words, ← h.room]
  by_cases hw : (I.words I.live : Int) + n ≤ I.room
  · rw [if_pos hw, if_pos hw]
    refine ⟨h.fresh, rfl, h.by hK ?_ (fun m x hx => ?_) ?_ rfl rfl rfl rfl rfl rfl fun m hm hre => ?_⟩
    · show (I.nodes ++ [d]).length = (J.nodes ++ [d]).length
      rw [List.length_append, List.length_append, h.len]
    · have hx' : (I.add d).nd m = some x := hx
      show ∃ g, (J.add d).nd m = _
      rcases IS.nd_add_cases hx' with ⟨rfl, rfl⟩ | hx2
      · rw [h.len]; exact ⟨_, IS.nd_add_new J _⟩
      · obtain ⟨g, hg⟩ := h.nd m x hx2
        exact ⟨g, IS.nd_add d hg⟩
    · show I.hs ++ [(I.fresh, (I.nodes.length : Int))] = J.hs ++ [(J.fresh, (J.nodes.length : Int))]
      rw [h.hs, h.fresh, h.len]
    · have eh : ((I.add d).grant I.nodes.length).held = I.held ++ [(I.nodes.length : Int)] := by
        show (I.hs ++ [(I.fresh, (I.nodes.length : Int))]).map (·.2) = _
        rw [List.map_append]; rfl
      have hre' : IReach ((I.add d).grant I.nodes.length) (I.held ++ [(I.nodes.length : Int)]) m := by rw [← eh]; exact hre
      have key : ∀ {q}, IReach ((I.add d).grant I.nodes.length) (I.held ++ [(I.nodes.length : Int)]) q → q = I.nodes.length ∨ IReach I I.held q := fun {q} hq => by
        induction hq with
        | root h1 =>
          rcases List.mem_append.1 h1 with h1 | h1
          · exact .inr (.root h1)
          · simp at h1; exact .inl h1
        | @field a b y _ ho ht hmm ih =>
          have ho' : (I.add d).nd a = some y := ho
          rcases IS.nd_add_cases ho' with ⟨_, rfl⟩ | ho2
          · exact .inr (.root (hr _ hmm))
          · rcases ih with rfl | ih
            · obtain ⟨_, hlt, _⟩ := IS.nd_nat ho2; omega
            · exact .inr (.field ih ho2 ht hmm)
        | @entry t y x _ ho ht hx _ hrr ih1 ih2 =>
          have ho' : (I.add d).nd t = some y := ho
          rcases IS.nd_add_cases ho' with ⟨_, rfl⟩ | ho2
          · rw [he] at hx; cases hx
          · have hkl := hKI.keys _ _ ho2 _ hx
            rcases ih1 with rfl | ih1
            · obtain ⟨_, hlt, _⟩ := IS.nd_nat ho2; omega
            · rcases ih2 with e | ih2
              · omega
              · exact .inr (.entry ih1 ho2 ht hx ih2 hrr)
      rcases key hre' with rfl | hk
      · omega
      · exact hk
  · rw [if_neg hw, if_neg hw]; exact ⟨rfl, rfl, h⟩

theorem okC_held {I : IS} {c : Wd} (h : I.okC c = true) (hr : (I.wordC c).ref = true) : (I.wordC c).num ∈ I.held := by
  cases hc : c.ref with
  | false => rw [wordC_num hc, hc] at hr; cases hr
  | true =>
    obtain ⟨n, h1, h2, _⟩ := okC_root h hc
    rw [h2]; exact held_of h1

theorem Tw.make {I J : IS} (h : Tw I J) (hK : Known J) (hKI : Known I) (tag : Int) (cs : List Wd) : (I.make tag cs).1 = (J.make tag cs).1 ∧ (I.make tag cs).2.1 = (J.make tag cs).2.1 ∧ Tw (I.make tag cs).2.2 (J.make tag cs).2.2 := by
  unfold IS.make
  have e1 : cs.all I.okC = cs.all J.okC := by rw [funext h.okC]
  have e2 : cs.map I.wordC = cs.map J.wordC := by rw [funext h.wordC]
  rw [← e1, ← e2]
  by_cases ha : cs.all I.okC = true
  · rw [if_pos ha, if_pos ha]
    by_cases hb : tag < 0 ∨ 200 < cs.length
    · rw [if_pos hb, if_pos hb]; exact ⟨rfl, rfl, h⟩
    · rw [if_neg hb, if_neg hb]
      refine h.adds hK hKI _ rfl fun x hx => ?_
      obtain ⟨y, hy, rfl⟩ := List.mem_map.1 hx
      obtain ⟨hy1, hy2⟩ := List.mem_filter.1 hy
      obtain ⟨c, hc, rfl⟩ := List.mem_map.1 hy1
      exact okC_held (List.all_eq_true.1 ha c hc) hy2
  · rw [if_neg ha, if_neg ha]; exact ⟨rfl, rfl, h⟩
theorem Tw.table {I J : IS} (h : Tw I J) (hK : Known J) (hKI : Known I) : I.table.1 = J.table.1 ∧ I.table.2.1 = J.table.2.1 ∧ Tw I.table.2.2 J.table.2.2 :=
  h.adds hK hKI _ rfl fun x hx => by simp [refsW] at hx

/-! ### Fields and entries -/

theorem Tw.set {I J : IS} (h : Tw I J) (hK : Known J) (n i : Int) (c : Wd) : (I.set n i c).1 = (J.set n i c).1 ∧ Tw (I.set n i c).2 (J.set n i c).2 := by
  unfold IS.set
  rw [← h.hs, ← h.okC, ← h.wordC]
  cases hl : I.hs.lookup n with
  | none => exact ⟨rfl, h⟩
  | some x =>
    simp only []
    by_cases ho : I.okC c = true
    · rw [if_pos ho, if_pos ho]
      cases hd : I.nd x with
      | none => rw [h.none hd]; exact ⟨rfl, h⟩
      | some d =>
        obtain ⟨g, hg⟩ := h.nd x d hd
        rw [hg]
        simp only []
        cases ht : d.table with
        | true => simp only [if_true]; exact ⟨trivial, h⟩
        | false =>
          simp only [Bool.false_eq_true, if_false]
          by_cases hi : i < 0 ∨ (d.flds.length : Int) ≤ i
          · rw [if_pos hi, if_pos hi]; exact ⟨rfl, h⟩
          · rw [if_neg hi, if_neg hi]
            obtain ⟨h0, _, _⟩ := IS.nd_nat hd
            refine ⟨rfl, h.by hK (by rw [IS.fld_len, IS.fld_len]; exact h.len) (fun m y hy => ?_) h.hs rfl rfl rfl rfl rfl rfl fun m hlt hr => ?_⟩
            · rcases IS.nd_fld_cases hd hy with ⟨rfl, rfl⟩ | ⟨hne, hy'⟩
              · exact ⟨g, IS.nd_fld hg⟩
              · obtain ⟨g', hg'⟩ := h.nd m y hy'
                exact ⟨g', by rw [IS.nd_fld_ne _ _ h0 hne]; exact hg'⟩
            · have hr' : IReach (I.setFld x i.toNat (I.wordC c)) I.held m := hr
              clear hr hlt
              induction hr' with
              | root h1 => exact .root h1
              | field _ ho' ht' hm ih =>
                rcases IS.nd_fld_cases hd ho' with ⟨rfl, rfl⟩ | ⟨_, ho2⟩
                · rcases mem_refsW_set hm with hm' | ⟨hm1, rfl⟩
                  · exact .field ih hd ht' hm'
                  · exact .root (okC_held ho hm1)
                · exact .field ih ho2 ht' hm
              | entry _ ho' ht' hx _ hrr ih1 ih2 =>
                rcases IS.nd_fld_cases hd ho' with ⟨rfl, rfl⟩ | ⟨_, ho2⟩
                · exact .entry ih1 hd ht' hx ih2 hrr
                · exact .entry ih1 ho2 ht' hx ih2 hrr
    · rw [if_neg ho, if_neg ho]; exact ⟨rfl, h⟩

theorem Tw.setEnts {I J : IS} (h : Tw I J) (hK : Known J) {x : Int} {d : Nd} (hd : I.nd x = some d) (f : List En → List En) (hf : ∀ y ∈ f d.ents, y ∈ d.ents ∨ (y.val.ref = true → y.val.num ∈ I.held)) : Tw (I.setEnts x f) (J.setEnts x f) := by
  obtain ⟨h0, _, _⟩ := IS.nd_nat hd
  obtain ⟨g, hg⟩ := h.nd x d hd
  have hdef : ∀ {n d'}, (I.setEnts x f).nd n = some d' → (n = x ∧ d' = { d with ents := f d.ents }) ∨ (n ≠ x ∧ I.nd n = some d') := fun {n d'} hd' => by
    by_cases e : n = x
    · subst e
      rw [IS.nd_set hd] at hd'
      simp only [Option.some.injEq] at hd'
      exact .inl ⟨rfl, hd'.symm⟩
    · rw [IS.nd_set_ne f h0 e] at hd'
      exact .inr ⟨e, hd'⟩
  refine h.by hK (by rw [IS.set_len, IS.set_len]; exact h.len) (fun m y hy => ?_) h.hs rfl rfl rfl rfl rfl rfl fun m hlt hr => ?_
  · rcases hdef hy with ⟨rfl, rfl⟩ | ⟨hne, hy'⟩
    · exact ⟨g, IS.nd_set hg⟩
    · obtain ⟨g', hg'⟩ := h.nd m y hy'
      exact ⟨g', by rw [IS.nd_set_ne _ h0 hne]; exact hg'⟩
  · have hr' : IReach (I.setEnts x f) I.held m := hr
    clear hr hlt
    induction hr' with
    | root h1 => exact .root h1
    | field _ ho' ht' hm ih =>
      rcases hdef ho' with ⟨rfl, rfl⟩ | ⟨_, ho2⟩
      · exact .field ih hd ht' hm
      · exact .field ih ho2 ht' hm
    | entry _ ho' ht' hx _ hrr ih1 ih2 =>
      rcases hdef ho' with ⟨rfl, rfl⟩ | ⟨_, ho2⟩
      · rcases hf _ hx with hx' | hx'
        · exact .entry ih1 hd ht' hx' ih2 hrr
        · exact .root (hx' hrr)
      · exact .entry ih1 ho2 ht' hx ih2 hrr

theorem Tw.put {I J : IS} (h : Tw I J) (hK : Known J) (t key : Int) (c : Wd) : (I.put t key c).1 = (J.put t key c).1 ∧ Tw (I.put t key c).2 (J.put t key c).2 := by
  unfold IS.put
  rw [← h.hs, ← h.okC, ← h.wordC, ← h.words, ← h.room]
  cases hl : I.hs.lookup t with
  | none => exact ⟨rfl, h⟩
  | some x =>
    simp only []
    cases hl2 : I.hs.lookup key with
    | none => exact ⟨rfl, h⟩
    | some kn =>
      simp only []
      by_cases ho : I.okC c = true
      · rw [if_pos ho, if_pos ho]
        cases hd : I.nd x with
        | none => rw [h.none hd]; exact ⟨rfl, h⟩
        | some d =>
          obtain ⟨g, hg⟩ := h.nd x d hd
          rw [hg]
          simp only []
          cases ht : d.table with
          | false => simp only [Bool.false_eq_true, if_false]; exact ⟨trivial, h⟩
          | true =>
            simp only [if_true]
            cases hf : d.ents.find? (KeyIs kn) with
            | some e =>
              refine ⟨rfl, h.setEnts hK hd _ fun y hy => ?_⟩
              obtain ⟨z, hz, rfl⟩ := List.mem_map.1 hy
              by_cases hk : KeyIs kn z = true
              · rw [if_pos hk]; exact .inr fun hr => okC_held ho hr
              · rw [if_neg hk]; exact .inl hz
            | none =>
              simp only []
              by_cases hw : (I.words I.live : Int) + 3 ≤ I.room
              · rw [if_pos hw, if_pos hw]
                refine ⟨rfl, h.setEnts hK hd (fun l => l ++ [⟨kn, I.wordC c⟩]) fun y hy => ?_⟩
                rcases List.mem_append.1 hy with hy | hy
                · exact .inl hy
                · simp at hy; subst hy; exact .inr fun hr => okC_held ho hr
              · rw [if_neg hw, if_neg hw]; exact ⟨rfl, h⟩
      · rw [if_neg ho, if_neg ho]; exact ⟨rfl, h⟩

/-- What the lookup of an entry finds. -/
theorem Tw.tab {I J : IS} (h : Tw I J) (t key : Int) : (∃ er, I.tab t key = .inl er ∧ J.tab t key = .inl er) ∨ ∃ name kn d d', I.tab t key = .inr (name, kn, d) ∧ J.tab t key = .inr (name, kn, d') ∧ d'.ents = d.ents ∧ I.nd name = some d ∧ d.table = true ∧ name ∈ I.held ∧ kn ∈ I.held := by
  unfold IS.tab
  rw [← h.hs]
  cases hl : I.hs.lookup t with
  | none => exact .inl ⟨_, rfl, rfl⟩
  | some x =>
    simp only []
    cases hl2 : I.hs.lookup key with
    | none => exact .inl ⟨_, rfl, rfl⟩
    | some kn =>
      simp only []
      cases hd : I.nd x with
      | none => rw [h.none hd]; exact .inl ⟨_, rfl, rfl⟩
      | some d =>
        obtain ⟨g, hg⟩ := h.nd x d hd
        rw [hg]
        simp only []
        cases ht : d.table with
        | false => simp only [Bool.false_eq_true, if_false]; exact .inl ⟨_, rfl, rfl⟩
        | true => simp only [if_true]; exact .inr ⟨x, kn, d, _, rfl, rfl, rfl, hd, ht, held_of hl, held_of hl2⟩

theorem Tw.find {I J : IS} (h : Tw I J) (hK : Known J) (t key : Int) : (I.find t key).1 = (J.find t key).1 ∧ (I.find t key).2.1 = (J.find t key).2.1 ∧ (I.find t key).2.2.1 = (J.find t key).2.2.1 ∧ Tw (I.find t key).2.2.2 (J.find t key).2.2.2 := by
  unfold IS.find
  rcases h.tab t key with ⟨er, e1, e2⟩ | ⟨name, kn, d, d', e1, e2, he, hd, ht, hn, hk⟩
  · rw [e1, e2]; exact ⟨rfl, rfl, rfl, h⟩
  · rw [e1, e2]
    simp only [he]
    cases hf : d.ents.find? (KeyIs kn) with
    | none => exact ⟨rfl, rfl, rfl, h⟩
    | some x =>
      simp only []
      have hx := List.mem_of_find?_eq_some hf
      have hxk : x.key = kn := by have := List.find?_some hf; simpa [KeyIs] using this
      cases hr : x.val.ref with
      | false => simp only [Bool.false_eq_true, if_false]; exact ⟨trivial, trivial, trivial, h⟩
      | true =>
        simp only [if_true]
        exact ⟨by rw [h.fresh], trivial, trivial, h.grant hK (.entry (.root hn) hd ht hx (.root (by rw [hxk]; exact hk)) hr)⟩
theorem Tw.remove {I J : IS} (h : Tw I J) (hK : Known J) (t key : Int) : (I.remove t key).1 = (J.remove t key).1 ∧ (I.remove t key).2.1 = (J.remove t key).2.1 ∧ Tw (I.remove t key).2.2 (J.remove t key).2.2 := by
  unfold IS.remove
  rcases h.tab t key with ⟨er, e1, e2⟩ | ⟨name, kn, d, d', e1, e2, he, hd, ht, hn, hk⟩
  · rw [e1, e2]; exact ⟨rfl, rfl, h⟩
  · rw [e1, e2]
    simp only [he]
    cases hf : d.ents.find? (KeyIs kn) with
    | none => exact ⟨rfl, rfl, h⟩
    | some x =>
      simp only []
      exact ⟨trivial, trivial, h.setEnts hK hd _ fun y hy => .inl (List.mem_filter.1 hy).1⟩

theorem Tw.start (room : Int) : Tw (IS.start room) (IS.start room) := ⟨rfl, fun n d hd => ⟨d.gone, hd⟩, rfl, rfl, rfl, by simp [IS.start], by simp [IS.start]⟩

end Go.Proofs.YtelghmmcbgfjnaaGreat
