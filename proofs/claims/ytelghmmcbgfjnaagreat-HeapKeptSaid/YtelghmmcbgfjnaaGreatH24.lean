/-
  The methods on a nil heap. Written by gen_nil.py. (A part of the proof, joined of: Tl, Tm, Tn.)
-/
import Derived.Test.YtelghmmcbgfjnaaGreatH23
/-! The methods on a nil heap. Written by gen_nil.py. -/
namespace Go.Proofs.YtelghmmcbgfjnaaGreat
open Go.RowKit

set_option maxRecDepth 100000 in
set_option maxHeartbeats 1000000 in
theorem of_nil (w : World) (n : Int) : Calls Tryz.prog 56 #[.pointer none, .int .i64 n] w fun e w' => e = .returned (.tuple #[.pointer none, .int .i64 0, .int .i64 190]) ∧ w = w' := by
  go_enter Tryz.func56, Tryz.ntmps56
  go_wp2
  go_ret3
  exact ⟨rfl, rfl⟩

set_option maxRecDepth 100000 in
set_option maxHeartbeats 1000000 in
theorem plain_nil (w : World) (n : Int) : Calls Tryz.prog 67 #[.pointer none, .int .i64 n] w fun e w' => e = .returned (.tuple #[.pointer none, .int .i64 0, .int .i64 190]) ∧ w = w' := by
  go_enter Tryz.func67, Tryz.ntmps67
  go_wp2_with (go_at_call 56; refine (of_nil _ n).mono ?_; rintro e w1 ⟨rfl, rfl⟩)
  go_ret3
  exact ⟨rfl, rfl⟩

set_option maxRecDepth 100000 in
set_option maxHeartbeats 1000000 in
theorem weak_nil (w : World) (n : Int) : Calls Tryz.prog 70 #[.pointer none, .int .i64 n] w fun e w' => e = .returned (.tuple #[.pointer none, .int .i64 0, .int .i64 190]) ∧ w = w' := by
  go_enter Tryz.func70, Tryz.ntmps70
  go_wp2_with (go_at_call 56; refine (of_nil _ n).mono ?_; rintro e w1 ⟨rfl, rfl⟩)
  go_ret3
  exact ⟨rfl, rfl⟩

set_option maxRecDepth 100000 in
set_option maxHeartbeats 1000000 in
theorem make_nil (w : World) (n : Int) (v : Value) : Calls Tryz.prog 23 #[.pointer none, .int .i64 n, v] w fun e w' => e = .returned (.tuple #[.int .i64 0, .int .i64 190]) ∧ w = w' := by
  go_enter Tryz.func23, Tryz.ntmps23
  go_wp2
  go_ret2
  exact ⟨rfl, rfl⟩

set_option maxRecDepth 100000 in
set_option maxHeartbeats 1000000 in
theorem table_nil (w : World) : Calls Tryz.prog 24 #[.pointer none] w fun e w' => e = .returned (.tuple #[.int .i64 0, .int .i64 190]) ∧ w = w' := by
  go_enter Tryz.func24, Tryz.ntmps24
  go_wp2
  go_ret2
  exact ⟨rfl, rfl⟩

set_option maxRecDepth 100000 in
set_option maxHeartbeats 1000000 in
theorem get_nil (w : World) (n m : Int) : Calls Tryz.prog 32 #[.pointer none, .int .i64 n, .int .i64 m] w fun e w' => e = .returned (.tuple #[.agg #[.bool false, .int .i64 0], .int .i64 190]) ∧ Chg (fun _ => False) w w' := by
  have HC : Hid (Chg (fun _ => False) w w ∧ ∀ X, Chg (fun _ => False) w (w.alloc X)) := ⟨Chg.refl _ _, fun X => (Chg.refl _ _).alloc X⟩
  go_enter Tryz.func32, Tryz.ntmps32
  go_wp2_with (go_at_call 67; refine (plain_nil _ n).mono ?_; rintro e w1 ⟨rfl, rfl⟩)
  refine bodyPost_ret (v := .tuple #[.agg #[.bool false, .int .i64 0], .int .i64 190]) (by simp [results, Tryz.results32, go_sem]) rfl ⟨rfl, ?_⟩
  first | exact HC.out.2 _ | exact HC.out.1

set_option maxRecDepth 100000 in
set_option maxHeartbeats 1000000 in
theorem set_nil (w : World) (n m : Int) (r : Bool) (k : Int) : Calls Tryz.prog 28 #[.pointer none, .int .i64 n, .int .i64 m, .agg #[.bool r, .int .i64 k]] w fun e w' => e = .returned (.int .i64 190) ∧ Chg (fun _ => False) w w' := by
  have HC : Hid (Chg (fun _ => False) w w ∧ ∀ X, Chg (fun _ => False) w (w.alloc X)) := ⟨Chg.refl _ _, fun X => (Chg.refl _ _).alloc X⟩
  go_enter Tryz.func28, Tryz.ntmps28
  go_wp2_with (go_at_call 56; refine (of_nil _ n).mono ?_; rintro e w1 ⟨rfl, rfl⟩)
  go_ret
  exact ⟨rfl, (by first | exact HC.out.1 | exact HC.out.2 _)⟩

set_option maxRecDepth 100000 in
set_option maxHeartbeats 1000000 in
theorem put_nil (w : World) (n m : Int) (r : Bool) (k : Int) : Calls Tryz.prog 25 #[.pointer none, .int .i64 n, .int .i64 m, .agg #[.bool r, .int .i64 k]] w fun e w' => e = .returned (.int .i64 190) ∧ Chg (fun _ => False) w w' := by
  have HC : Hid (Chg (fun _ => False) w w ∧ ∀ X, Chg (fun _ => False) w (w.alloc X)) := ⟨Chg.refl _ _, fun X => (Chg.refl _ _).alloc X⟩
  go_enter Tryz.func25, Tryz.ntmps25
  go_wp2
  go_ret
  exact ⟨rfl, (by first | exact HC.out.1 | exact HC.out.2 _)⟩

set_option maxRecDepth 100000 in
set_option maxHeartbeats 1000000 in
theorem entry_nil (w : World) (n m : Int) : Calls Tryz.prog 63 #[.pointer none, .int .i64 n, .int .i64 m] w fun e w' => e = .returned (.tuple #[.pointer none, .int .i64 0, .int .i64 0, .int .i64 0, .int .i64 190]) ∧ Chg (fun _ => False) w w' := by
  have HC : Hid (Chg (fun _ => False) w w ∧ ∀ X, Chg (fun _ => False) w (w.alloc X)) := ⟨Chg.refl _ _, fun X => (Chg.refl _ _).alloc X⟩
  go_enter Tryz.func63, Tryz.ntmps63
  go_wp2_with (go_at_call 56; refine (of_nil _ n).mono ?_; rintro e w1 ⟨rfl, rfl⟩)
  refine bodyPost_ret (v := .tuple #[.pointer none, .int .i64 0, .int .i64 0, .int .i64 0, .int .i64 190]) (by simp [results, Tryz.results63, go_sem]) rfl ⟨rfl, ?_⟩
  first | exact HC.out.2 _ | exact HC.out.1

set_option maxRecDepth 100000 in
set_option maxHeartbeats 1000000 in
theorem count_nil (w : World) (n : Int) : Calls Tryz.prog 31 #[.pointer none, .int .i64 n] w fun e w' => e = .returned (.tuple #[.int .i64 0, .int .i64 190]) ∧ w = w' := by
  go_enter Tryz.func31, Tryz.ntmps31
  go_wp2_with (go_at_call 70; refine (weak_nil _ n).mono ?_; rintro e w1 ⟨rfl, rfl⟩)
  go_ret2
  exact ⟨rfl, rfl⟩

set_option maxRecDepth 100000 in
set_option maxHeartbeats 1000000 in
theorem entries_nil (w : World) (n : Int) : Calls Tryz.prog 41 #[.pointer none, .int .i64 n] w fun e w' => e = .returned (.tuple #[.slice none 0 0, .int .i64 190]) ∧ w = w' := by
  go_enter Tryz.func41, Tryz.ntmps41
  go_wp2_with (go_at_call 70; refine (weak_nil _ n).mono ?_; rintro e w1 ⟨rfl, rfl⟩)
  go_ret2
  exact ⟨rfl, rfl⟩

set_option maxRecDepth 100000 in
set_option maxHeartbeats 1000000 in
theorem isTable_nil (w : World) (n : Int) : Calls Tryz.prog 42 #[.pointer none, .int .i64 n] w fun e w' => e = .returned (.tuple #[.bool false, .int .i64 190]) ∧ w = w' := by
  go_enter Tryz.func42, Tryz.ntmps42
  go_wp2_with (go_at_call 56; refine (of_nil _ n).mono ?_; rintro e w1 ⟨rfl, rfl⟩)
  go_ret2
  exact ⟨rfl, rfl⟩

set_option maxRecDepth 100000 in
set_option maxHeartbeats 1000000 in
theorem same_nil (w : World) (n m : Int) : Calls Tryz.prog 43 #[.pointer none, .int .i64 n, .int .i64 m] w fun e w' => e = .returned (.tuple #[.bool false, .int .i64 190]) ∧ w = w' := by
  go_enter Tryz.func43, Tryz.ntmps43
  go_wp2_with (go_at_call 56; refine (of_nil _ n).mono ?_; rintro e w1 ⟨rfl, rfl⟩)
  go_ret2
  exact ⟨rfl, rfl⟩

set_option maxRecDepth 100000 in
set_option maxHeartbeats 1000000 in
theorem dup_nil (w : World) (n : Int) : Calls Tryz.prog 44 #[.pointer none, .int .i64 n] w fun e w' => e = .returned (.tuple #[.int .i64 0, .int .i64 190]) ∧ w = w' := by
  go_enter Tryz.func44, Tryz.ntmps44
  go_wp2_with (go_at_call 56; refine (of_nil _ n).mono ?_; rintro e w1 ⟨rfl, rfl⟩)
  go_ret2
  exact ⟨rfl, rfl⟩

set_option maxRecDepth 100000 in
set_option maxHeartbeats 1000000 in
theorem drop_nil (w : World) (n : Int) : Calls Tryz.prog 30 #[.pointer none, .int .i64 n] w fun e w' => e = .returned (.int .i64 190) ∧ w = w' := by
  go_enter Tryz.func30, Tryz.ntmps30
  go_wp2_with (go_at_call 56; refine (of_nil _ n).mono ?_; rintro e w1 ⟨rfl, rfl⟩)
  go_ret
  exact ⟨rfl, rfl⟩

set_option maxRecDepth 100000 in
set_option maxHeartbeats 1000000 in
theorem fin_nil (w : World) (n : Int) : Calls Tryz.prog 45 #[.pointer none, .int .i64 n] w fun e w' => e = .returned (.tuple #[.bool false, .int .i64 190]) ∧ w = w' := by
  go_enter Tryz.func45, Tryz.ntmps45
  go_wp2_with (go_at_call 56; refine (of_nil _ n).mono ?_; rintro e w1 ⟨rfl, rfl⟩)
  go_ret2
  exact ⟨rfl, rfl⟩

set_option maxRecDepth 100000 in
set_option maxHeartbeats 1000000 in
theorem next_nil (w : World) : Calls Tryz.prog 46 #[.pointer none] w fun e w' => e = .returned (.tuple #[.int .i64 0, .bool false, .int .i64 190]) ∧ w = w' := by
  go_enter Tryz.func46, Tryz.ntmps46
  go_wp2
  go_ret3
  exact ⟨rfl, rfl⟩

set_option maxRecDepth 100000 in
set_option maxHeartbeats 1000000 in
theorem minor_nil (w : World) : Calls Tryz.prog 11 #[.pointer none] w fun e w' => e = .returned (.tuple #[]) ∧ w = w' := by
  go_enter Tryz.func11, Tryz.ntmps11
  go_wp2
  go_end0
  exact ⟨rfl, rfl⟩

set_option maxRecDepth 100000 in
set_option maxHeartbeats 1000000 in
theorem major_nil (w : World) : Calls Tryz.prog 12 #[.pointer none] w fun e w' => e = .returned (.tuple #[]) ∧ w = w' := by
  go_enter Tryz.func12, Tryz.ntmps12
  go_wp2
  go_end0
  exact ⟨rfl, rfl⟩

set_option maxRecDepth 100000 in
set_option maxHeartbeats 1000000 in
theorem tag_nil (w : World) (n : Int) : Calls Tryz.prog 47 #[.pointer none, .int .i64 n] w fun e w' => e = .returned (.tuple #[.int .i64 0, .int .i64 0, .int .i64 190]) ∧ w = w' := by
  go_enter Tryz.func47, Tryz.ntmps47
  go_wp2_with (go_at_call 67; refine (plain_nil _ n).mono ?_; rintro e w1 ⟨rfl, rfl⟩)
  go_ret3
  exact ⟨rfl, rfl⟩

set_option maxRecDepth 100000 in
set_option maxHeartbeats 1000000 in
theorem old_nil (w : World) (n : Int) : Calls Tryz.prog 19 #[.pointer none, .int .i64 n] w fun e w' => e = .returned (.tuple #[.bool false, .int .i64 190]) ∧ w = w' := by
  go_enter Tryz.func19, Tryz.ntmps19
  go_wp2_with (go_at_call 56; refine (of_nil _ n).mono ?_; rintro e w1 ⟨rfl, rfl⟩)
  go_ret2
  exact ⟨rfl, rfl⟩

set_option maxRecDepth 100000 in
set_option maxHeartbeats 1000000 in
theorem used_nil (w : World) : Calls Tryz.prog 20 #[.pointer none] w fun e w' => e = .returned (.int .i64 0) ∧ w = w' := by
  go_enter Tryz.func20, Tryz.ntmps20
  go_wp2
  go_ret
  exact ⟨rfl, rfl⟩

set_option maxRecDepth 100000 in
set_option maxHeartbeats 1000000 in
theorem remembered_nil (w : World) : Calls Tryz.prog 21 #[.pointer none] w fun e w' => e = .returned (.int .i64 0) ∧ w = w' := by
  go_enter Tryz.func21, Tryz.ntmps21
  go_wp2
  go_ret
  exact ⟨rfl, rfl⟩

set_option maxRecDepth 100000 in
set_option maxHeartbeats 1000000 in
theorem handles_nil (w : World) : Calls Tryz.prog 22 #[.pointer none] w fun e w' => e = .returned (.slice none 0 0) ∧ w = w' := by
  go_enter Tryz.func22, Tryz.ntmps22
  go_wp2
  go_ret
  exact ⟨rfl, rfl⟩

set_option maxRecDepth 100000 in
set_option maxHeartbeats 1000000 in
theorem find_nil (w : World) (n m : Int) : Calls Tryz.prog 27 #[.pointer none, .int .i64 n, .int .i64 m] w fun e w' => e = .returned (.tuple #[.agg #[.bool false, .int .i64 0], .bool false, .int .i64 190]) ∧ Chg (fun _ => False) w w' := by
  have HE := Lib.hid fun w => entry_nil w n m
  have HC0 : Hid (∀ X, Chg (fun _ => False) w (w.alloc X)) := fun X => (Chg.refl _ _).alloc X
  go_enter Tryz.func27, Tryz.ntmps27
  go_wp2_with fail
  refine (HE.out _).mono ?_; rintro e w1 ⟨rfl, hC⟩
  have hb := hC.at (heap_alloc_new w (.cells #[.bool false, .int .i64 0] 54)) (fun h => h)
  have q0 := cellAt hb 0
  have q1 := cellAt hb 1
  have q2 := freeAt hb 0
  have q3 := freeAt hb 1
  have HZ : Hid (∀ x y, Chg (fun _ => False) w ((w1.setCell ⟨w.heap.size, 0, none⟩ x).setCell ⟨w.heap.size, 1, none⟩ y)) := fun x y => Chg.store2 ((HC0.out _).trans hC fun _ _ h => h) (Nat.le_refl _) x y
  have HZ0 : Hid (Chg (fun _ => False) w w1) := (HC0.out _).trans hC fun _ _ h => h
  clear hb hC HC0 HE
  simp at q0 q1
  go_wp2
  refine bodyPost_ret (v := .tuple #[.agg #[.bool false, .int .i64 0], .bool false, .int .i64 190]) (by simp [results, Tryz.results27, go_sem, q0, q1]) rfl ⟨rfl, ?_⟩
  first | exact HZ0.out | exact HZ.out _ _

set_option maxRecDepth 100000 in
set_option maxHeartbeats 1000000 in
theorem remove_nil (w : World) (n m : Int) : Calls Tryz.prog 40 #[.pointer none, .int .i64 n, .int .i64 m] w fun e w' => e = .returned (.tuple #[.bool false, .int .i64 190]) ∧ Chg (fun _ => False) w w' := by
  have HE := Lib.hid fun w => entry_nil w n m
  go_enter Tryz.func40, Tryz.ntmps40
  go_wp2_with fail
  refine (HE.out _).mono ?_; rintro e w1 ⟨rfl, hC⟩
  have HZ := Lib.hid hC
  clear hC HE
  go_wp2
  go_ret2
  exact ⟨rfl, HZ.out⟩

end Go.Proofs.YtelghmmcbgfjnaaGreat

/-! tell on a nil heap; begin. -/
namespace Go.Proofs.YtelghmmcbgfjnaaGreat
open Go.RowKit

def NilQ (w : World) (k : Int) (l : List Int) (w' : World) : Prop := (k % 18 = 15 ∨ k % 18 = 16 ∨ ∃ l0, l = l0 ++ [190]) ∧ Chg (fun _ => False) w w'
theorem nilQ_ok (w : World) (k : Int) : OkQ (NilQ w k) := fun _ _ _ h hC => ⟨h.1, h.2.trans hC fun _ _ h => h⟩

set_option maxRecDepth 100000 in
set_option maxHeartbeats 2000000 in
theorem tell_EntriesNil {w : World} {k a b : Int} {x : Option Addr} {n c : Nat} (hk : k % 18 = 8) : Tells w (.pointer none) k a b x n c (NilQ w k) := by
  refine ret_k fun K hK => ?_
  have HK := Lib.hid hK
  have hW := which_any (w.alloc (.cells #[.int .i64 k, .int .i64 a, .int .i64 b, .slice x n c] 33)) k a b x n c
  rw [hk] at hW
  have HW := Lib.hid hW
  have HB0 : Hid (BoxAt (w.alloc (.cells #[.int .i64 k, .int .i64 a, .int .i64 b, .slice x n c] 33)) w.heap.size k a b x n c) := ⟨heap_alloc_new _ _⟩
  have HA0 : Hid (Chg (fun _ => False) w (w.alloc (.cells #[.int .i64 k, .int .i64 a, .int .i64 b, .slice x n c] 33))) := (Chg.refl _ _).alloc _
  obtain ⟨b0, hb0⟩ : ∃ b0, b0 = w.heap.size := ⟨_, rfl⟩
  clear hK hW hk
  go_enter Tryz.func15, Tryz.ntmps15
  go_wp2_with fail
  refine HW.out.mono ?_; rintro e w1 ⟨rfl, hC1⟩
  obtain ⟨c0, c1, c2, c3⟩ := (HB0.out.chg hC1).cells
  have HC1 : Hid (Chg (fun _ => False) w w1) := HA0.out.trans hC1 fun _ _ h => h
  rw [← hb0] at c0 c1 c2 c3
  rw [← hb0]
  clear hb0 HW HB0 HA0 hC1
  have HE := Lib.hid (entries_nil w1 a)
  go_wp2_with fail
  refine HE.out.mono ?_; rintro e w2 ⟨rfl, rfl⟩
  clear HE c0 c1 c2 c3
  go_wp2
  go_loopw [20, 21] (fun s20 s21 wr => s20 = .slice none 0 0 ∧ s21 = .int .i64 0 ∧ Hid (Chg (fun _ => False) w wr)) (fun _ _ _ => 0)
  case atStart => exact ⟨rfl, rfl, HC1⟩
  case round =>
    obtain ⟨rfl, rfl, HC2⟩ := hrel
    clear HC1
    have HN := Lib.hid (nums_any wr 190 (l := []) (Row.nil _ _ _) (by simp))
    go_wp2_with fail
    refine HN.out.mono ?_; rintro e w4 ⟨v, rfl, hI, hC4⟩
    have HZ := Lib.hid (HK.out _ _ (tell_end (Q := NilQ w k) (nilQ_ok w k) (Nat.le_refl _) (w2 := w) (Lib.hid ⟨.inr (.inr ⟨[], rfl⟩), Chg.refl _ _⟩) HC2.out hI hC4))
    clear HN hI hC4 HK HC2
    go_wp2
    go_ret
    exact HZ.out

theorem tellsNil (w : World) (k a b : Int) {x : Option Addr} {n : Nat} (c : Nat) {cs : List Wd} (hcs : CellsAt w x n cs) : Tells w (.pointer none) k a b x n c (NilQ w k) := by
  have hok := nilQ_ok w k
  have last : ∀ {w1 : World} (l0 : List Int) {w2 : World}, Chg (fun _ => False) w w1 → Chg (fun _ => False) w1 w2 → Keep w.heap.size w1 w2 ∧ Hid (NilQ w k (l0 ++ [190]) w2) := by
    intro w1 l0 w2 h1 h2
    exact ⟨h2.keep _, Lib.hid ⟨.inr (.inr ⟨l0, rfl⟩), h1.trans h2 fun _ _ h => h⟩⟩
  have hk : k % 18 = 0 ∨ k % 18 = 1 ∨ k % 18 = 2 ∨ k % 18 = 3 ∨ k % 18 = 4 ∨ k % 18 = 5 ∨ k % 18 = 6 ∨ k % 18 = 7 ∨ k % 18 = 8 ∨ k % 18 = 9 ∨ k % 18 = 10 ∨ k % 18 = 11 ∨ k % 18 = 12 ∨ k % 18 = 13 ∨ k % 18 = 14 ∨ k % 18 = 15 ∨ k % 18 = 16 ∨ k % 18 = 17 := by omega
  rcases hk with hk | hk | hk | hk | hk | hk | hk | hk | hk | hk | hk | hk | hk | hk | hk | hk | hk | hk
  · exact tell_Make hk hok fun w1 hC => (make_nil w1 a _).mono fun e w2 ⟨h1, h2⟩ => (by subst h2; exact ⟨_, _, h1, last [0] hC (Chg.refl _ _)⟩)
  · exact tell_Table hk hok fun w1 hC => (table_nil w1).mono fun e w2 ⟨h1, h2⟩ => (by subst h2; exact ⟨_, _, h1, last [0] hC (Chg.refl _ _)⟩)
  · exact tell_Get hk hok fun w1 hC => (get_nil w1 a b).mono fun e w2 ⟨h1, h2⟩ => ⟨_, _, _, h1, last [bitI false, 0] hC h2⟩
  · exact tell_Set hk hok hcs fun w1 hC => (set_nil w1 a b _ _).mono fun e w2 ⟨h1, h2⟩ => ⟨_, h1, last [] hC h2⟩
  · exact tell_Put hk hok hcs fun w1 hC => (put_nil w1 a b _ _).mono fun e w2 ⟨h1, h2⟩ => ⟨_, h1, last [] hC h2⟩
  · exact tell_Find hk hok fun w1 hC => (find_nil w1 a b).mono fun e w2 ⟨h1, h2⟩ => ⟨_, _, _, _, h1, last [bitI false, 0, bitI false] hC h2⟩
  · exact tell_Remove hk hok fun w1 hC => (remove_nil w1 a b).mono fun e w2 ⟨h1, h2⟩ => ⟨_, _, h1, last [bitI false] hC h2⟩
  · exact tell_Count hk hok fun w1 hC => (count_nil w1 a).mono fun e w2 ⟨h1, h2⟩ => (by subst h2; exact ⟨_, _, h1, last [0] hC (Chg.refl _ _)⟩)
  · exact tell_EntriesNil hk
  · exact tell_IsTable hk hok fun w1 hC => (isTable_nil w1 a).mono fun e w2 ⟨h1, h2⟩ => (by subst h2; exact ⟨_, _, h1, last [bitI false] hC (Chg.refl _ _)⟩)
  · exact tell_Same hk hok fun w1 hC => (same_nil w1 a b).mono fun e w2 ⟨h1, h2⟩ => (by subst h2; exact ⟨_, _, h1, last [bitI false] hC (Chg.refl _ _)⟩)
  · exact tell_Dup hk hok fun w1 hC => (dup_nil w1 a).mono fun e w2 ⟨h1, h2⟩ => (by subst h2; exact ⟨_, _, h1, last [0] hC (Chg.refl _ _)⟩)
  · exact tell_Drop hk hok fun w1 hC => (drop_nil w1 a).mono fun e w2 ⟨h1, h2⟩ => (by subst h2; exact ⟨_, h1, last [] hC (Chg.refl _ _)⟩)
  · exact tell_Finalize hk hok fun w1 hC => (fin_nil w1 a).mono fun e w2 ⟨h1, h2⟩ => (by subst h2; exact ⟨_, _, h1, last [bitI false] hC (Chg.refl _ _)⟩)
  · exact tell_Next hk hok fun w1 hC => (next_nil w1).mono fun e w2 ⟨h1, h2⟩ => (by subst h2; exact ⟨_, _, _, h1, last [0, bitI false] hC (Chg.refl _ _)⟩)
  · exact tell_Minor hk hok fun w1 hC => (minor_nil w1).mono fun e w2 ⟨h1, h2⟩ => (by subst h2; exact ⟨h1, (Chg.refl _ _).keep _, Lib.hid ⟨.inl hk, hC⟩⟩)
  · exact tell_Major hk hok fun w1 hC => (major_nil w1).mono fun e w2 ⟨h1, h2⟩ => (by subst h2; exact ⟨h1, (Chg.refl _ _).keep _, Lib.hid ⟨.inr (.inl hk), hC⟩⟩)
  · exact tell_Tag hk hok fun w1 hC => (tag_nil w1 a).mono fun e w2 ⟨h1, h2⟩ => (by subst h2; exact ⟨_, _, _, h1, last [0, 0] hC (Chg.refl _ _)⟩)

/-! ### begin -/

theorem refNew_ok (w : World) (young old : Int) (h : 4 ≤ young ∧ young ≤ 60000 ∧ 4 ≤ old ∧ old ≤ 60000) :
    Calls Tryz.prog 48 #[.int .i64 young, .int .i64 old] w fun e w' => e = .returned (.tuple #[.agg #[.int .i64 old, .slice none 0 0, .slice none 0 0, .slice none 0 0, .slice none 0 0, .slice none 0 0], .int .i64 0]) ∧ Chg (fun _ => False) w w' := by
  have HC : Hid (∀ X, Chg (fun _ => False) w (w.alloc X)) := fun X => (Chg.refl _ _).alloc X
  have h1 : ¬ (young < 4) := by omega
  have h2 : ¬ (60000 < young) := by omega
  have h3 : ¬ (old < 4) := by omega
  have h4 : ¬ (60000 < old) := by omega
  clear h
  go_enter Tryz.func48, Tryz.ntmps48
  go_wp2
  refine bodyPost_ret (v := .tuple #[.agg #[.int .i64 old, .slice none 0 0, .slice none 0 0, .slice none 0 0, .slice none 0 0, .slice none 0 0], .int .i64 0]) (by simp [results, Tryz.results48, go_sem]) rfl ⟨rfl, ?_⟩
  exact HC.out _
theorem refNew_no (w : World) (young old : Int) (h : young < 4 ∨ 60000 < young ∨ old < 4 ∨ 60000 < old) :
    Calls Tryz.prog 48 #[.int .i64 young, .int .i64 old] w fun e w' => e = .returned (.tuple #[.agg #[.int .i64 0, .slice none 0 0, .slice none 0 0, .slice none 0 0, .slice none 0 0, .slice none 0 0], .int .i64 1]) ∧ Chg (fun _ => False) w w' := by
  have HC : Hid (∀ X, Chg (fun _ => False) w (w.alloc X)) := fun X => (Chg.refl _ _).alloc X
  by_cases h1 : young < 4
  case' neg =>
    by_cases h2 : 60000 < young
    case' neg =>
      by_cases h3 : old < 4
      case' neg => have h4 : 60000 < old := by omega
  all_goals
    clear h
    go_enter Tryz.func48, Tryz.ntmps48
    go_wp2
    refine bodyPost_ret (v := .tuple #[.agg #[.int .i64 0, .slice none 0 0, .slice none 0 0, .slice none 0 0, .slice none 0 0, .slice none 0 0], .int .i64 1]) (by simp [results, Tryz.results48, go_sem]) rfl ⟨rfl, ?_⟩
    exact HC.out _

end Go.Proofs.YtelghmmcbgfjnaaGreat

/-! The law of New, walked. -/
namespace Go.Proofs.YtelghmmcbgfjnaaGreat
open Go.RowKit

set_option maxRecDepth 100000 in
set_option maxHeartbeats 2000000 in
theorem begin_any (w : World) (young old : Int) :
    Calls Tryz.prog 16 #[.int .i64 young, .int .i64 old] w fun e w' => ∃ p, e = .returned (.tuple #[p, .bool true]) ∧ Chg (fun _ => False) w w' := by
  refine ret_k fun K hK => ?_
  have HK := Lib.hid hK
  clear hK
  by_cases h : 4 ≤ young ∧ young ≤ 60000 ∧ 4 ≤ old ∧ old ≤ 60000
  · have HN := Lib.hid (HB.new w young old h)
    have HR := Lib.hid fun w => refNew_ok w young old h
    clear h
    go_enter Tryz.func16, Tryz.ntmps16
    go_wp2_with fail
    refine HN.out.mono ?_; rintro e w1 ⟨hb, rfl, hG⟩
    go_wp2_with fail
    refine (HR.out _).mono ?_; rintro e w2 ⟨rfl, hC2⟩
    have HC : Hid (∀ X Y, Chg (fun _ => False) w ((w2.alloc X).alloc Y)) := fun X Y => ((hG.out.chg.trans hC2 fun _ _ h => h).alloc X).alloc Y
    clear HN HR hG hC2
    go_wp2
    go_ret2
    exact HK.out _ _ ⟨_, rfl, HC.out _ _⟩
  · have HN := Lib.hid (new_no w young old (by omega))
    have HR := Lib.hid fun w => refNew_no w young old (by omega)
    clear h
    go_enter Tryz.func16, Tryz.ntmps16
    go_wp2_with fail
    refine HN.out.mono ?_; rintro e w1 ⟨rfl, hC1⟩
    go_wp2_with fail
    refine (HR.out _).mono ?_; rintro e w2 ⟨rfl, hC2⟩
    have HC : Hid (∀ X, Chg (fun _ => False) w (w2.alloc X)) := fun X => (hC1.trans hC2 fun _ _ h => h).alloc X
    clear HN HR hC1 hC2
    go_wp2
    go_ret2
    exact HK.out _ _ ⟨_, rfl, HC.out _⟩

/-- The operation's box, and what is unchanged. -/
structure NewI (w wr : World) (b5 : Nat) (k a b : Int) (x : Option Addr) (n c : Nat) : Prop where
  low : w.heap.size ≤ b5
  chg : Chg (fun _ => False) w wr
  box : BoxAt wr b5 k a b x n c
theorem NewI.still {w wr w' : World} {b5 : Nat} {k a b : Int} {x : Option Addr} {n c : Nat} (h : NewI w wr b5 k a b x n c) (hC : Chg (fun _ => False) wr w') : NewI w w' b5 k a b x n c := ⟨h.low, h.chg.trans hC fun _ _ h => h, h.box.chg hC⟩
theorem NewI.set {w wr : World} {b5 : Nat} {k a b : Int} {x : Option Addr} {n c : Nat} (h : NewI w wr b5 k a b x n c) (k' : Int) : NewI w (wr.setCell ⟨b5, 0, none⟩ (.int .i64 k')) b5 k' a b x n c := by
  refine ⟨h.low, h.chg.trans (chg_set1 wr b5 0 (.int .i64 k')) fun j hj e => by have := h.low; omega, ⟨?_⟩⟩
  have := heap_setCell h.box.at_ 0 (.int .i64 k')
  exact this

/-- What the law looks at: the last number told. -/
theorem last_cell {w : World} {B : Nat} {v : Value} {l l0 : List Int} {z : Int} (h : IRow w B v l) (hl : l = l0 ++ [z]) : ∃ g c t len, v = .slice (some ⟨g, 0, none⟩) len c ∧ len = t + 1 ∧ t < 9223372036854775807 ∧ w.cell? ⟨g, t, none⟩ = some (.int .i64 z) := by
  obtain ⟨a, c, rfl, _, _, _⟩ := h.row.slice
  have hlen : l.length = l0.length + 1 := by rw [hl]; simp
  obtain ⟨g, rfl, _, hc⟩ := h.row.cells (by omega)
  have hmax := h.row.2.1
  unfold maxLen at hmax
  exact ⟨g, c, l0.length, l.length, rfl, hlen, by omega, hc l0.length _ (by simp [intCells, hl])⟩

set_option maxRecDepth 100000 in
set_option maxHeartbeats 4000000 in
theorem heapNew_any (w : World) (young old k a b : Int) {x : Option Addr} {n : Nat} (c : Nat) {cs : List Wd} (hcs : CellsAt w x n cs) :
    Calls Tryz.prog 6 #[.int .i64 young, .int .i64 old, .agg #[.int .i64 k, .int .i64 a, .int .i64 b, .slice x n c]] w fun e w' => e = .returned (.bool true) ∧ Chg (fun _ => False) w w' := by
  refine ret_k fun K hK => ?_
  have HK := Lib.hid hK
  have HCs := Lib.hid hcs
  obtain ⟨b5, hb5⟩ : ∃ b5, b5 = w.heap.size := ⟨_, rfl⟩
  obtain ⟨w0, hw0⟩ : ∃ w0, w0 = w.alloc (.cells #[.int .i64 k, .int .i64 a, .int .i64 b, .slice x n c] 33) := ⟨_, rfl⟩
  have HI0 : Hid (NewI w w0 b5 k a b x n c) := by
    rw [hw0, hb5]; exact ⟨Nat.le_refl _, (Chg.refl _ _).alloc _, ⟨heap_alloc_new _ _⟩⟩
  have HSane := Lib.hid fun w => sane_any w
  have HBeg := Lib.hid fun w => begin_any w young old
  clear hK hcs
  go_enter Tryz.func6, Tryz.ntmps6
  go_wp2_with fail
  refine (HSane.out _).mono ?_; rintro e w1 ⟨rfl, hC1⟩
  rw [← hw0] at hC1
  have HI1 := Lib.hid (HI0.out.still hC1)
  rw [← hb5]
  clear HSane hC1 HI0 hw0 hb5
  go_wp2_with fail
  refine (HBeg.out _).mono ?_; rintro e w2 ⟨p, rfl, hC2⟩
  have HI2 := Lib.hid (HI1.out.still hC2)
  clear HBeg hC2 HI1
  go_wp2
  go_loopw [11] (fun i wr => ∃ q : Nat, q ≤ 18 ∧ i = .int .i64 q ∧ Hid (∃ kk, NewI w wr b5 kk a b x n c)) (fun i _ => 18 - (intOf i).toNat)
  case atStart => exact ⟨0, by omega, rfl, Lib.hid ⟨_, HI2.out⟩⟩
  case round =>
    obtain ⟨q, hq, rfl, HI⟩ := hrel
    clear HI2
    obtain ⟨kk, hI⟩ := HI.out
    by_cases hlt : q < 18
    · have hql : (q : Int) < 18 := by omega
      obtain ⟨c0, c1, c2, c3⟩ := hI.box.cells
      have f0 := freeAt hI.box.at_ 0
      have hI3 := hI.set q
      obtain ⟨d0, d1, d2, d3⟩ := hI3.box.cells
      have HT := Lib.hid (tellsNil (wr.setCell ⟨b5, 0, none⟩ (.int .i64 q)) q a b c (HCs.out.chg0 hI3.chg))
      have HI3 := Lib.hid hI3
      clear hI HI hI3
      go_wp2_with fail
      refine HT.out.mono ?_; rintro e w4 ⟨v, l, rfl, hsz, hIR, hQ⟩
      obtain ⟨hor, hC4⟩ := hQ.out
      have HI4 : Hid (∃ kk, NewI w w4 b5 kk a b x n c) := ⟨_, HI3.out.still hC4⟩
      clear HT HI3 hC4 hQ hsz c0 c1 c2 c3 d0 d1 d2 d3 f0
      by_cases h15 : q = 15
      · subst h15
        clear hor hIR
        go_wp2
        go_roundw
        case rel => exact ⟨16, by omega, by go_num, HI4⟩
        case measure => simp [intOf]
      · by_cases h16 : q = 16
        · subst h16
          clear hor hIR
          go_wp2
          go_roundw
          case rel => exact ⟨17, by omega, by go_num, HI4⟩
          case measure => simp [intOf]
        · have hl : ∃ l0, l = l0 ++ [190] := by
            rcases hor with h | h | h
            · omega
            · omega
            · exact h
          obtain ⟨l0, hl0⟩ := hl
          obtain ⟨g, cp, t, len, rfl, hlen, htm, k1⟩ := last_cell hIR hl0
          have g15 : ¬ ((q : Int) = 15) := by omega
          have g16 : ¬ ((q : Int) = 16) := by omega
          have hwl : IntKind.i64.wrap ((len : Int) - 1) = (t : Int) := by
            rw [hlen, show ((t + 1 : Nat) : Int) - 1 = (t : Int) by omega]
            exact IntWalk.i64_in _ (by omega)
          have e15 : ((q : Int) == 15) = false := by simp [g15]
          have e16 : ((q : Int) == 16) = false := by simp [g16]
          have b15 : ((q : Int) != 15) = true := by simp [g15]
          have b16 : ((q : Int) != 16) = true := by simp [g16]
          have h0 : ¬ (len = 0) := by omega
          have h00 : ((len : Int) == 0) = false := by simp [h0]
          have h0' : ¬ ((len : Int) = 0) := by omega
          have htl : (t : Int) < (len : Int) := by omega
          clear hor hIR hl0 hlen htm h15 h16
          go_wp2
          clear hwl k1 h0 h0' h00 htl g15 g16 e15 e16 b15 b16
          go_roundw
          case rel => exact ⟨q + 1, by omega, by go_num, HI4⟩
          case measure => simp [intOf]; omega
    · have hql : ¬ ((q : Int) < 18) := by omega
      obtain ⟨c0, c1, c2, c3⟩ := hI.box.cells
      have HO := Lib.hid (old_nil wr a)
      have HU := Lib.hid (used_nil wr)
      have HRm := Lib.hid (remembered_nil wr)
      have HHs := Lib.hid (handles_nil wr)
      have HZ := Lib.hid (HK.out _ _ ⟨rfl, hI.chg⟩)
      clear hI HI HK
      go_wp2_with fail
      refine HO.out.mono ?_; rintro e w4 ⟨rfl, rfl⟩
      go_wp2_with fail
      refine HU.out.mono ?_; rintro e w4 ⟨rfl, rfl⟩
      go_wp2_with fail
      refine HRm.out.mono ?_; rintro e w4 ⟨rfl, rfl⟩
      go_wp2_with fail
      refine HHs.out.mono ?_; rintro e w4 ⟨rfl, rfl⟩
      go_wp2
      go_ret
      exact HZ.out

end Go.Proofs.YtelghmmcbgfjnaaGreat
