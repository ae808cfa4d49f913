/-
  tell, walked for each kind of operation: it tells the numbers that the method returns. Written by gen_tell.py. (A part of the proof, joined of: Te, Yk.)
-/
import Derived.Test.YtelghmmcbgfjnaaGreatH19
import Derived.Deep.RegionHeld3
/-! tell, walked for each kind of operation: it tells the numbers that the method returns. Written by gen_tell.py. -/
namespace Go.Proofs.YtelghmmcbgfjnaaGreat
open Go.RowKit

/-- The blocks from B on, that are there, stay. -/
structure Keep (B : Nat) (w1 w2 : World) : Prop where
  size : w1.heap.size ≤ w2.heap.size
  blk : ∀ b, B ≤ b → b < w1.heap.size → w2.heap[b]? = w1.heap[b]?
theorem Chg.keep {w1 w2 : World} (h : Chg (fun _ => False) w1 w2) (B : Nat) : Keep B w1 w2 := ⟨h.size, fun b _ hb => h.block b hb fun h => h⟩
theorem Keep.at_ {B : Nat} {w1 w2 : World} (h : Keep B w1 w2) {b : Nat} {X : Obj} (hb : B ≤ b) (hx : w1.heap[b]? = some X) : w2.heap[b]? = some X := by
  rw [h.blk b hb (lt_of_block hx)]; exact hx

/-- What is claimed of the numbers told stays when memory is made. -/
def OkQ (Q : List Int → World → Prop) : Prop := ∀ l w1 w2, Q l w1 → Chg (fun _ => False) w1 w2 → Q l w2

/-- tell tells numbers for which Q holds. -/
def Tells (w : World) (hv : Value) (k a b : Int) (x : Option Addr) (n c : Nat) (Q : List Int → World → Prop) : Prop :=
  Calls Tryz.prog 15 #[hv, .agg #[.int .i64 k, .int .i64 a, .int .i64 b, .slice x n c]] w fun e w' => ∃ v l, e = .returned v ∧ w.heap.size ≤ w'.heap.size ∧ IRow w' w.heap.size v l ∧ Hid (Q l w')

theorem row1 (w : World) (r : Int) : Row (w.alloc (.cells #[.int .i64 r] 3)) 3 1 (.slice (some ⟨w.heap.size, 0, none⟩) 1 1) ([r] : List Int).length (intCells [r]) :=
  (IRow.block w (l := [r]) (by simp) (by simp [maxLen])).row
theorem row2 (w : World) (r s : Int) : Row (w.alloc (.cells #[.int .i64 r, .int .i64 s] 3)) 3 1 (.slice (some ⟨w.heap.size, 0, none⟩) 2 2) ([r, s] : List Int).length (intCells [r, s]) :=
  (IRow.block w (l := [r, s]) (by simp) (by simp [maxLen])).row

/-- The box of an operation. -/
structure BoxAt (w : World) (b0 : Nat) (k a b : Int) (x : Option Addr) (n c : Nat) : Prop where
  at_ : w.heap[b0]? = some (.cells #[.int .i64 k, .int .i64 a, .int .i64 b, .slice x n c] 33 (0, 0))
theorem BoxAt.chg {w w' : World} {b0 : Nat} {k a b : Int} {x : Option Addr} {n c : Nat} (h : BoxAt w b0 k a b x n c) (hC : Chg (fun _ => False) w w') : BoxAt w' b0 k a b x n c := ⟨hC.at h.at_ fun h => h⟩
theorem BoxAt.cells {w : World} {b0 : Nat} {k a b : Int} {x : Option Addr} {n c : Nat} (h : BoxAt w b0 k a b x n c) : w.cell? ⟨b0, 0, none⟩ = some (.int .i64 k) ∧ w.cell? ⟨b0, 1, none⟩ = some (.int .i64 a) ∧ w.cell? ⟨b0, 2, none⟩ = some (.int .i64 b) ∧ w.cell? ⟨b0, 3, none⟩ = some (.slice x n c) :=
  ⟨cellAt h.at_ 0, cellAt h.at_ 1, cellAt h.at_ 2, cellAt h.at_ 3⟩

/-- The end of tell: what nums returned. -/
theorem tell_end {w w2 w3 w4 : World} {v : Value} {l : List Int} {Q : List Int → World → Prop} (hQ : OkQ Q) (h2 : w.heap.size ≤ w2.heap.size) (hQ2 : Hid (Q l w2)) (hC3 : Chg (fun _ => False) w2 w3) (hI : IRow w4 w3.heap.size v l) (hC4 : Chg (fun _ => False) w3 w4) :
    ∃ v' l', Ending.returned v = .returned v' ∧ w.heap.size ≤ w4.heap.size ∧ IRow w4 w.heap.size v' l' ∧ Hid (Q l' w4) := by
  have h3 := hC3.size
  have h4 := hC4.size
  exact ⟨v, l, rfl, by omega, hI.low (by omega), hQ _ _ _ hQ2 (hC3.trans hC4 fun _ _ h => h)⟩


set_option maxRecDepth 100000 in
set_option maxHeartbeats 2000000 in
theorem tell_Make {w : World} {hv : Value} {k a b : Int} {x : Option Addr} {n c : Nat} (hk : k % 18 = 0) {Q : List Int → World → Prop} (hQ : OkQ Q)
    (hM : ∀ w1, Chg (fun _ => False) w w1 → Calls Tryz.prog 23 #[hv, .int .i64 a, .slice x n c] w1 fun e w2 => ∃ r er, e = .returned (.tuple #[.int .i64 r, .int .i64 er]) ∧ Keep w.heap.size w1 w2 ∧ Hid (Q [r, er] w2)) : Tells w hv k a b x n c Q := by
  refine ret_k fun K hK => ?_
  have HK := Lib.hid hK
  have HM := Lib.hid hM
  have HQ := Lib.hid hQ
  have hW := which_any (w.alloc (.cells #[.int .i64 k, .int .i64 a, .int .i64 b, .slice x n c] 33)) k a b x n c
  rw [hk] at hW
  have HW := Lib.hid hW
  have HB0 : Hid (BoxAt (w.alloc (.cells #[.int .i64 k, .int .i64 a, .int .i64 b, .slice x n c] 33)) w.heap.size k a b x n c) := ⟨heap_alloc_new _ _⟩
  have HA0 : Hid (Chg (fun _ => False) w (w.alloc (.cells #[.int .i64 k, .int .i64 a, .int .i64 b, .slice x n c] 33))) := (Chg.refl _ _).alloc _
  obtain ⟨b0, hb0⟩ : ∃ b0, b0 = w.heap.size := ⟨_, rfl⟩
  have HL0 := Lib.hid hb0
  clear hK hM hQ hW hk
  go_enter Tryz.func15, Tryz.ntmps15
  go_wp2_with fail
  refine HW.out.mono ?_; rintro e w1 ⟨rfl, hC1⟩
  obtain ⟨c0, c1, c2, c3⟩ := (HB0.out.chg hC1).cells
  have HM1 := Lib.hid (HM.out w1 (HA0.out.trans hC1 fun _ _ h => h))
  have HS1 : Hid (w.heap.size ≤ w1.heap.size) := (HA0.out.trans hC1 fun _ _ h => h).size
  rw [← hb0] at c0 c1 c2 c3
  rw [← hb0]
  clear hb0 HW HB0 HA0 HM hC1
  go_wp2_with fail
  refine HM1.out.mono ?_; rintro e w2 ⟨r, er, rfl, hKp, hQ2⟩
  have HS2 : Hid (w.heap.size ≤ w2.heap.size) := Nat.le_trans HS1.out hKp.size
  clear HM1 c0 c1 c2 c3 hKp
  have HN := Lib.hid (nums_any (w2.alloc (.cells #[.int .i64 r] 3)) er (l := [r]) (row1 w2 r) (by simp))
  have HC2 : Hid (Chg (fun _ => False) w2 (w2.alloc (.cells #[.int .i64 r] 3))) := (Chg.refl _ _).alloc _
  go_wp2_with fail
  refine HN.out.mono ?_; rintro e w4 ⟨v, rfl, hI, hC4⟩
  have HZ := Lib.hid (HK.out _ _ (tell_end HQ.out HS2.out hQ2 HC2.out hI hC4))
  clear HN HC2 hI hC4 HK HQ hQ2 HS1 HS2
  go_wp2
  go_ret
  exact HZ.out

set_option maxRecDepth 100000 in
set_option maxHeartbeats 2000000 in
theorem tell_Table {w : World} {hv : Value} {k a b : Int} {x : Option Addr} {n c : Nat} (hk : k % 18 = 1) {Q : List Int → World → Prop} (hQ : OkQ Q)
    (hM : ∀ w1, Chg (fun _ => False) w w1 → Calls Tryz.prog 24 #[hv] w1 fun e w2 => ∃ r er, e = .returned (.tuple #[.int .i64 r, .int .i64 er]) ∧ Keep w.heap.size w1 w2 ∧ Hid (Q [r, er] w2)) : Tells w hv k a b x n c Q := by
  refine ret_k fun K hK => ?_
  have HK := Lib.hid hK
  have HM := Lib.hid hM
  have HQ := Lib.hid hQ
  have hW := which_any (w.alloc (.cells #[.int .i64 k, .int .i64 a, .int .i64 b, .slice x n c] 33)) k a b x n c
  rw [hk] at hW
  have HW := Lib.hid hW
  have HB0 : Hid (BoxAt (w.alloc (.cells #[.int .i64 k, .int .i64 a, .int .i64 b, .slice x n c] 33)) w.heap.size k a b x n c) := ⟨heap_alloc_new _ _⟩
  have HA0 : Hid (Chg (fun _ => False) w (w.alloc (.cells #[.int .i64 k, .int .i64 a, .int .i64 b, .slice x n c] 33))) := (Chg.refl _ _).alloc _
  obtain ⟨b0, hb0⟩ : ∃ b0, b0 = w.heap.size := ⟨_, rfl⟩
  have HL0 := Lib.hid hb0
  clear hK hM hQ hW hk
  go_enter Tryz.func15, Tryz.ntmps15
  go_wp2_with fail
  refine HW.out.mono ?_; rintro e w1 ⟨rfl, hC1⟩
  obtain ⟨c0, c1, c2, c3⟩ := (HB0.out.chg hC1).cells
  have HM1 := Lib.hid (HM.out w1 (HA0.out.trans hC1 fun _ _ h => h))
  have HS1 : Hid (w.heap.size ≤ w1.heap.size) := (HA0.out.trans hC1 fun _ _ h => h).size
  rw [← hb0] at c0 c1 c2 c3
  rw [← hb0]
  clear hb0 HW HB0 HA0 HM hC1
  go_wp2_with fail
  refine HM1.out.mono ?_; rintro e w2 ⟨r, er, rfl, hKp, hQ2⟩
  have HS2 : Hid (w.heap.size ≤ w2.heap.size) := Nat.le_trans HS1.out hKp.size
  clear HM1 c0 c1 c2 c3 hKp
  have HN := Lib.hid (nums_any (w2.alloc (.cells #[.int .i64 r] 3)) er (l := [r]) (row1 w2 r) (by simp))
  have HC2 : Hid (Chg (fun _ => False) w2 (w2.alloc (.cells #[.int .i64 r] 3))) := (Chg.refl _ _).alloc _
  go_wp2_with fail
  refine HN.out.mono ?_; rintro e w4 ⟨v, rfl, hI, hC4⟩
  have HZ := Lib.hid (HK.out _ _ (tell_end HQ.out HS2.out hQ2 HC2.out hI hC4))
  clear HN HC2 hI hC4 HK HQ hQ2 HS1 HS2
  go_wp2
  go_ret
  exact HZ.out

set_option maxRecDepth 100000 in
set_option maxHeartbeats 2000000 in
theorem tell_Dup {w : World} {hv : Value} {k a b : Int} {x : Option Addr} {n c : Nat} (hk : k % 18 = 11) {Q : List Int → World → Prop} (hQ : OkQ Q)
    (hM : ∀ w1, Chg (fun _ => False) w w1 → Calls Tryz.prog 44 #[hv, .int .i64 a] w1 fun e w2 => ∃ r er, e = .returned (.tuple #[.int .i64 r, .int .i64 er]) ∧ Keep w.heap.size w1 w2 ∧ Hid (Q [r, er] w2)) : Tells w hv k a b x n c Q := by
  refine ret_k fun K hK => ?_
  have HK := Lib.hid hK
  have HM := Lib.hid hM
  have HQ := Lib.hid hQ
  have hW := which_any (w.alloc (.cells #[.int .i64 k, .int .i64 a, .int .i64 b, .slice x n c] 33)) k a b x n c
  rw [hk] at hW
  have HW := Lib.hid hW
  have HB0 : Hid (BoxAt (w.alloc (.cells #[.int .i64 k, .int .i64 a, .int .i64 b, .slice x n c] 33)) w.heap.size k a b x n c) := ⟨heap_alloc_new _ _⟩
  have HA0 : Hid (Chg (fun _ => False) w (w.alloc (.cells #[.int .i64 k, .int .i64 a, .int .i64 b, .slice x n c] 33))) := (Chg.refl _ _).alloc _
  obtain ⟨b0, hb0⟩ : ∃ b0, b0 = w.heap.size := ⟨_, rfl⟩
  have HL0 := Lib.hid hb0
  clear hK hM hQ hW hk
  go_enter Tryz.func15, Tryz.ntmps15
  go_wp2_with fail
  refine HW.out.mono ?_; rintro e w1 ⟨rfl, hC1⟩
  obtain ⟨c0, c1, c2, c3⟩ := (HB0.out.chg hC1).cells
  have HM1 := Lib.hid (HM.out w1 (HA0.out.trans hC1 fun _ _ h => h))
  have HS1 : Hid (w.heap.size ≤ w1.heap.size) := (HA0.out.trans hC1 fun _ _ h => h).size
  rw [← hb0] at c0 c1 c2 c3
  rw [← hb0]
  clear hb0 HW HB0 HA0 HM hC1
  go_wp2_with fail
  refine HM1.out.mono ?_; rintro e w2 ⟨r, er, rfl, hKp, hQ2⟩
  have HS2 : Hid (w.heap.size ≤ w2.heap.size) := Nat.le_trans HS1.out hKp.size
  clear HM1 c0 c1 c2 c3 hKp
  have HN := Lib.hid (nums_any (w2.alloc (.cells #[.int .i64 r] 3)) er (l := [r]) (row1 w2 r) (by simp))
  have HC2 : Hid (Chg (fun _ => False) w2 (w2.alloc (.cells #[.int .i64 r] 3))) := (Chg.refl _ _).alloc _
  go_wp2_with fail
  refine HN.out.mono ?_; rintro e w4 ⟨v, rfl, hI, hC4⟩
  have HZ := Lib.hid (HK.out _ _ (tell_end HQ.out HS2.out hQ2 HC2.out hI hC4))
  clear HN HC2 hI hC4 HK HQ hQ2 HS1 HS2
  go_wp2
  go_ret
  exact HZ.out

set_option maxRecDepth 100000 in
set_option maxHeartbeats 2000000 in
theorem tell_Count {w : World} {hv : Value} {k a b : Int} {x : Option Addr} {n c : Nat} (hk : k % 18 = 7) {Q : List Int → World → Prop} (hQ : OkQ Q)
    (hM : ∀ w1, Chg (fun _ => False) w w1 → Calls Tryz.prog 31 #[hv, .int .i64 a] w1 fun e w2 => ∃ r er, e = .returned (.tuple #[.int .i64 r, .int .i64 er]) ∧ Keep w.heap.size w1 w2 ∧ Hid (Q [r, er] w2)) : Tells w hv k a b x n c Q := by
  refine ret_k fun K hK => ?_
  have HK := Lib.hid hK
  have HM := Lib.hid hM
  have HQ := Lib.hid hQ
  have hW := which_any (w.alloc (.cells #[.int .i64 k, .int .i64 a, .int .i64 b, .slice x n c] 33)) k a b x n c
  rw [hk] at hW
  have HW := Lib.hid hW
  have HB0 : Hid (BoxAt (w.alloc (.cells #[.int .i64 k, .int .i64 a, .int .i64 b, .slice x n c] 33)) w.heap.size k a b x n c) := ⟨heap_alloc_new _ _⟩
  have HA0 : Hid (Chg (fun _ => False) w (w.alloc (.cells #[.int .i64 k, .int .i64 a, .int .i64 b, .slice x n c] 33))) := (Chg.refl _ _).alloc _
  obtain ⟨b0, hb0⟩ : ∃ b0, b0 = w.heap.size := ⟨_, rfl⟩
  have HL0 := Lib.hid hb0
  clear hK hM hQ hW hk
  go_enter Tryz.func15, Tryz.ntmps15
  go_wp2_with fail
  refine HW.out.mono ?_; rintro e w1 ⟨rfl, hC1⟩
  obtain ⟨c0, c1, c2, c3⟩ := (HB0.out.chg hC1).cells
  have HM1 := Lib.hid (HM.out w1 (HA0.out.trans hC1 fun _ _ h => h))
  have HS1 : Hid (w.heap.size ≤ w1.heap.size) := (HA0.out.trans hC1 fun _ _ h => h).size
  rw [← hb0] at c0 c1 c2 c3
  rw [← hb0]
  clear hb0 HW HB0 HA0 HM hC1
  go_wp2_with fail
  refine HM1.out.mono ?_; rintro e w2 ⟨r, er, rfl, hKp, hQ2⟩
  have HS2 : Hid (w.heap.size ≤ w2.heap.size) := Nat.le_trans HS1.out hKp.size
  clear HM1 c0 c1 c2 c3 hKp
  have HN := Lib.hid (nums_any (w2.alloc (.cells #[.int .i64 r] 3)) er (l := [r]) (row1 w2 r) (by simp))
  have HC2 : Hid (Chg (fun _ => False) w2 (w2.alloc (.cells #[.int .i64 r] 3))) := (Chg.refl _ _).alloc _
  go_wp2_with fail
  refine HN.out.mono ?_; rintro e w4 ⟨v, rfl, hI, hC4⟩
  have HZ := Lib.hid (HK.out _ _ (tell_end HQ.out HS2.out hQ2 HC2.out hI hC4))
  clear HN HC2 hI hC4 HK HQ hQ2 HS1 HS2
  go_wp2
  go_ret
  exact HZ.out

set_option maxRecDepth 100000 in
set_option maxHeartbeats 2000000 in
theorem tell_Remove {w : World} {hv : Value} {k a b : Int} {x : Option Addr} {n c : Nat} (hk : k % 18 = 6) {Q : List Int → World → Prop} (hQ : OkQ Q)
    (hM : ∀ w1, Chg (fun _ => False) w w1 → Calls Tryz.prog 40 #[hv, .int .i64 a, .int .i64 b] w1 fun e w2 => ∃ q er, e = .returned (.tuple #[.bool q, .int .i64 er]) ∧ Keep w.heap.size w1 w2 ∧ Hid (Q [bitI q, er] w2)) : Tells w hv k a b x n c Q := by
  refine ret_k fun K hK => ?_
  have HK := Lib.hid hK
  have HM := Lib.hid hM
  have HQ := Lib.hid hQ
  have hW := which_any (w.alloc (.cells #[.int .i64 k, .int .i64 a, .int .i64 b, .slice x n c] 33)) k a b x n c
  rw [hk] at hW
  have HW := Lib.hid hW
  have HB0 : Hid (BoxAt (w.alloc (.cells #[.int .i64 k, .int .i64 a, .int .i64 b, .slice x n c] 33)) w.heap.size k a b x n c) := ⟨heap_alloc_new _ _⟩
  have HA0 : Hid (Chg (fun _ => False) w (w.alloc (.cells #[.int .i64 k, .int .i64 a, .int .i64 b, .slice x n c] 33))) := (Chg.refl _ _).alloc _
  obtain ⟨b0, hb0⟩ : ∃ b0, b0 = w.heap.size := ⟨_, rfl⟩
  have HL0 := Lib.hid hb0
  clear hK hM hQ hW hk
  go_enter Tryz.func15, Tryz.ntmps15
  go_wp2_with fail
  refine HW.out.mono ?_; rintro e w1 ⟨rfl, hC1⟩
  obtain ⟨c0, c1, c2, c3⟩ := (HB0.out.chg hC1).cells
  have HM1 := Lib.hid (HM.out w1 (HA0.out.trans hC1 fun _ _ h => h))
  have HS1 : Hid (w.heap.size ≤ w1.heap.size) := (HA0.out.trans hC1 fun _ _ h => h).size
  rw [← hb0] at c0 c1 c2 c3
  rw [← hb0]
  clear hb0 HW HB0 HA0 HM hC1
  go_wp2_with fail
  refine HM1.out.mono ?_; rintro e w2 ⟨q, er, rfl, hKp, hQ2⟩
  have HS2 : Hid (w.heap.size ≤ w2.heap.size) := Nat.le_trans HS1.out hKp.size
  clear HM1 c0 c1 c2 c3 hKp
  have HBt := Lib.hid (bit_any w2 q)
  go_wp2_with fail
  refine HBt.out.mono ?_; rintro e w9 ⟨rfl, rfl⟩
  have HN := Lib.hid (nums_any (w2.alloc (.cells #[.int .i64 (bitI q)] 3)) er (l := [bitI q]) (row1 w2 (bitI q)) (by simp))
  have HC2 : Hid (Chg (fun _ => False) w2 (w2.alloc (.cells #[.int .i64 (bitI q)] 3))) := (Chg.refl _ _).alloc _
  go_wp2_with fail
  refine HN.out.mono ?_; rintro e w4 ⟨v, rfl, hI, hC4⟩
  have HZ := Lib.hid (HK.out _ _ (tell_end HQ.out HS2.out hQ2 HC2.out hI hC4))
  clear HN HC2 hI hC4 HK HQ hQ2 HS1 HS2
  go_wp2
  go_ret
  exact HZ.out

set_option maxRecDepth 100000 in
set_option maxHeartbeats 2000000 in
theorem tell_IsTable {w : World} {hv : Value} {k a b : Int} {x : Option Addr} {n c : Nat} (hk : k % 18 = 9) {Q : List Int → World → Prop} (hQ : OkQ Q)
    (hM : ∀ w1, Chg (fun _ => False) w w1 → Calls Tryz.prog 42 #[hv, .int .i64 a] w1 fun e w2 => ∃ q er, e = .returned (.tuple #[.bool q, .int .i64 er]) ∧ Keep w.heap.size w1 w2 ∧ Hid (Q [bitI q, er] w2)) : Tells w hv k a b x n c Q := by
  refine ret_k fun K hK => ?_
  have HK := Lib.hid hK
  have HM := Lib.hid hM
  have HQ := Lib.hid hQ
  have hW := which_any (w.alloc (.cells #[.int .i64 k, .int .i64 a, .int .i64 b, .slice x n c] 33)) k a b x n c
  rw [hk] at hW
  have HW := Lib.hid hW
  have HB0 : Hid (BoxAt (w.alloc (.cells #[.int .i64 k, .int .i64 a, .int .i64 b, .slice x n c] 33)) w.heap.size k a b x n c) := ⟨heap_alloc_new _ _⟩
  have HA0 : Hid (Chg (fun _ => False) w (w.alloc (.cells #[.int .i64 k, .int .i64 a, .int .i64 b, .slice x n c] 33))) := (Chg.refl _ _).alloc _
  obtain ⟨b0, hb0⟩ : ∃ b0, b0 = w.heap.size := ⟨_, rfl⟩
  have HL0 := Lib.hid hb0
  clear hK hM hQ hW hk
  go_enter Tryz.func15, Tryz.ntmps15
  go_wp2_with fail
  refine HW.out.mono ?_; rintro e w1 ⟨rfl, hC1⟩
  obtain ⟨c0, c1, c2, c3⟩ := (HB0.out.chg hC1).cells
  have HM1 := Lib.hid (HM.out w1 (HA0.out.trans hC1 fun _ _ h => h))
  have HS1 : Hid (w.heap.size ≤ w1.heap.size) := (HA0.out.trans hC1 fun _ _ h => h).size
  rw [← hb0] at c0 c1 c2 c3
  rw [← hb0]
  clear hb0 HW HB0 HA0 HM hC1
  go_wp2_with fail
  refine HM1.out.mono ?_; rintro e w2 ⟨q, er, rfl, hKp, hQ2⟩
  have HS2 : Hid (w.heap.size ≤ w2.heap.size) := Nat.le_trans HS1.out hKp.size
  clear HM1 c0 c1 c2 c3 hKp
  have HBt := Lib.hid (bit_any w2 q)
  go_wp2_with fail
  refine HBt.out.mono ?_; rintro e w9 ⟨rfl, rfl⟩
  have HN := Lib.hid (nums_any (w2.alloc (.cells #[.int .i64 (bitI q)] 3)) er (l := [bitI q]) (row1 w2 (bitI q)) (by simp))
  have HC2 : Hid (Chg (fun _ => False) w2 (w2.alloc (.cells #[.int .i64 (bitI q)] 3))) := (Chg.refl _ _).alloc _
  go_wp2_with fail
  refine HN.out.mono ?_; rintro e w4 ⟨v, rfl, hI, hC4⟩
  have HZ := Lib.hid (HK.out _ _ (tell_end HQ.out HS2.out hQ2 HC2.out hI hC4))
  clear HN HC2 hI hC4 HK HQ hQ2 HS1 HS2
  go_wp2
  go_ret
  exact HZ.out

set_option maxRecDepth 100000 in
set_option maxHeartbeats 2000000 in
theorem tell_Same {w : World} {hv : Value} {k a b : Int} {x : Option Addr} {n c : Nat} (hk : k % 18 = 10) {Q : List Int → World → Prop} (hQ : OkQ Q)
    (hM : ∀ w1, Chg (fun _ => False) w w1 → Calls Tryz.prog 43 #[hv, .int .i64 a, .int .i64 b] w1 fun e w2 => ∃ q er, e = .returned (.tuple #[.bool q, .int .i64 er]) ∧ Keep w.heap.size w1 w2 ∧ Hid (Q [bitI q, er] w2)) : Tells w hv k a b x n c Q := by
  refine ret_k fun K hK => ?_
  have HK := Lib.hid hK
  have HM := Lib.hid hM
  have HQ := Lib.hid hQ
  have hW := which_any (w.alloc (.cells #[.int .i64 k, .int .i64 a, .int .i64 b, .slice x n c] 33)) k a b x n c
  rw [hk] at hW
  have HW := Lib.hid hW
  have HB0 : Hid (BoxAt (w.alloc (.cells #[.int .i64 k, .int .i64 a, .int .i64 b, .slice x n c] 33)) w.heap.size k a b x n c) := ⟨heap_alloc_new _ _⟩
  have HA0 : Hid (Chg (fun _ => False) w (w.alloc (.cells #[.int .i64 k, .int .i64 a, .int .i64 b, .slice x n c] 33))) := (Chg.refl _ _).alloc _
  obtain ⟨b0, hb0⟩ : ∃ b0, b0 = w.heap.size := ⟨_, rfl⟩
  have HL0 := Lib.hid hb0
  clear hK hM hQ hW hk
  go_enter Tryz.func15, Tryz.ntmps15
  go_wp2_with fail
  refine HW.out.mono ?_; rintro e w1 ⟨rfl, hC1⟩
  obtain ⟨c0, c1, c2, c3⟩ := (HB0.out.chg hC1).cells
  have HM1 := Lib.hid (HM.out w1 (HA0.out.trans hC1 fun _ _ h => h))
  have HS1 : Hid (w.heap.size ≤ w1.heap.size) := (HA0.out.trans hC1 fun _ _ h => h).size
  rw [← hb0] at c0 c1 c2 c3
  rw [← hb0]
  clear hb0 HW HB0 HA0 HM hC1
  go_wp2_with fail
  refine HM1.out.mono ?_; rintro e w2 ⟨q, er, rfl, hKp, hQ2⟩
  have HS2 : Hid (w.heap.size ≤ w2.heap.size) := Nat.le_trans HS1.out hKp.size
  clear HM1 c0 c1 c2 c3 hKp
  have HBt := Lib.hid (bit_any w2 q)
  go_wp2_with fail
  refine HBt.out.mono ?_; rintro e w9 ⟨rfl, rfl⟩
  have HN := Lib.hid (nums_any (w2.alloc (.cells #[.int .i64 (bitI q)] 3)) er (l := [bitI q]) (row1 w2 (bitI q)) (by simp))
  have HC2 : Hid (Chg (fun _ => False) w2 (w2.alloc (.cells #[.int .i64 (bitI q)] 3))) := (Chg.refl _ _).alloc _
  go_wp2_with fail
  refine HN.out.mono ?_; rintro e w4 ⟨v, rfl, hI, hC4⟩
  have HZ := Lib.hid (HK.out _ _ (tell_end HQ.out HS2.out hQ2 HC2.out hI hC4))
  clear HN HC2 hI hC4 HK HQ hQ2 HS1 HS2
  go_wp2
  go_ret
  exact HZ.out

set_option maxRecDepth 100000 in
set_option maxHeartbeats 2000000 in
theorem tell_Finalize {w : World} {hv : Value} {k a b : Int} {x : Option Addr} {n c : Nat} (hk : k % 18 = 13) {Q : List Int → World → Prop} (hQ : OkQ Q)
    (hM : ∀ w1, Chg (fun _ => False) w w1 → Calls Tryz.prog 45 #[hv, .int .i64 a] w1 fun e w2 => ∃ q er, e = .returned (.tuple #[.bool q, .int .i64 er]) ∧ Keep w.heap.size w1 w2 ∧ Hid (Q [bitI q, er] w2)) : Tells w hv k a b x n c Q := by
  refine ret_k fun K hK => ?_
  have HK := Lib.hid hK
  have HM := Lib.hid hM
  have HQ := Lib.hid hQ
  have hW := which_any (w.alloc (.cells #[.int .i64 k, .int .i64 a, .int .i64 b, .slice x n c] 33)) k a b x n c
  rw [hk] at hW
  have HW := Lib.hid hW
  have HB0 : Hid (BoxAt (w.alloc (.cells #[.int .i64 k, .int .i64 a, .int .i64 b, .slice x n c] 33)) w.heap.size k a b x n c) := ⟨heap_alloc_new _ _⟩
  have HA0 : Hid (Chg (fun _ => False) w (w.alloc (.cells #[.int .i64 k, .int .i64 a, .int .i64 b, .slice x n c] 33))) := (Chg.refl _ _).alloc _
  obtain ⟨b0, hb0⟩ : ∃ b0, b0 = w.heap.size := ⟨_, rfl⟩
  have HL0 := Lib.hid hb0
  clear hK hM hQ hW hk
  go_enter Tryz.func15, Tryz.ntmps15
  go_wp2_with fail
  refine HW.out.mono ?_; rintro e w1 ⟨rfl, hC1⟩
  obtain ⟨c0, c1, c2, c3⟩ := (HB0.out.chg hC1).cells
  have HM1 := Lib.hid (HM.out w1 (HA0.out.trans hC1 fun _ _ h => h))
  have HS1 : Hid (w.heap.size ≤ w1.heap.size) := (HA0.out.trans hC1 fun _ _ h => h).size
  rw [← hb0] at c0 c1 c2 c3
  rw [← hb0]
  clear hb0 HW HB0 HA0 HM hC1
  go_wp2_with fail
  refine HM1.out.mono ?_; rintro e w2 ⟨q, er, rfl, hKp, hQ2⟩
  have HS2 : Hid (w.heap.size ≤ w2.heap.size) := Nat.le_trans HS1.out hKp.size
  clear HM1 c0 c1 c2 c3 hKp
  have HBt := Lib.hid (bit_any w2 q)
  go_wp2_with fail
  refine HBt.out.mono ?_; rintro e w9 ⟨rfl, rfl⟩
  have HN := Lib.hid (nums_any (w2.alloc (.cells #[.int .i64 (bitI q)] 3)) er (l := [bitI q]) (row1 w2 (bitI q)) (by simp))
  have HC2 : Hid (Chg (fun _ => False) w2 (w2.alloc (.cells #[.int .i64 (bitI q)] 3))) := (Chg.refl _ _).alloc _
  go_wp2_with fail
  refine HN.out.mono ?_; rintro e w4 ⟨v, rfl, hI, hC4⟩
  have HZ := Lib.hid (HK.out _ _ (tell_end HQ.out HS2.out hQ2 HC2.out hI hC4))
  clear HN HC2 hI hC4 HK HQ hQ2 HS1 HS2
  go_wp2
  go_ret
  exact HZ.out

set_option maxRecDepth 100000 in
set_option maxHeartbeats 2000000 in
theorem tell_Next {w : World} {hv : Value} {k a b : Int} {x : Option Addr} {n c : Nat} (hk : k % 18 = 14) {Q : List Int → World → Prop} (hQ : OkQ Q)
    (hM : ∀ w1, Chg (fun _ => False) w w1 → Calls Tryz.prog 46 #[hv] w1 fun e w2 => ∃ r q er, e = .returned (.tuple #[.int .i64 r, .bool q, .int .i64 er]) ∧ Keep w.heap.size w1 w2 ∧ Hid (Q [r, bitI q, er] w2)) : Tells w hv k a b x n c Q := by
  refine ret_k fun K hK => ?_
  have HK := Lib.hid hK
  have HM := Lib.hid hM
  have HQ := Lib.hid hQ
  have hW := which_any (w.alloc (.cells #[.int .i64 k, .int .i64 a, .int .i64 b, .slice x n c] 33)) k a b x n c
  rw [hk] at hW
  have HW := Lib.hid hW
  have HB0 : Hid (BoxAt (w.alloc (.cells #[.int .i64 k, .int .i64 a, .int .i64 b, .slice x n c] 33)) w.heap.size k a b x n c) := ⟨heap_alloc_new _ _⟩
  have HA0 : Hid (Chg (fun _ => False) w (w.alloc (.cells #[.int .i64 k, .int .i64 a, .int .i64 b, .slice x n c] 33))) := (Chg.refl _ _).alloc _
  obtain ⟨b0, hb0⟩ : ∃ b0, b0 = w.heap.size := ⟨_, rfl⟩
  have HL0 := Lib.hid hb0
  clear hK hM hQ hW hk
  go_enter Tryz.func15, Tryz.ntmps15
  go_wp2_with fail
  refine HW.out.mono ?_; rintro e w1 ⟨rfl, hC1⟩
  obtain ⟨c0, c1, c2, c3⟩ := (HB0.out.chg hC1).cells
  have HM1 := Lib.hid (HM.out w1 (HA0.out.trans hC1 fun _ _ h => h))
  have HS1 : Hid (w.heap.size ≤ w1.heap.size) := (HA0.out.trans hC1 fun _ _ h => h).size
  rw [← hb0] at c0 c1 c2 c3
  rw [← hb0]
  clear hb0 HW HB0 HA0 HM hC1
  go_wp2_with fail
  refine HM1.out.mono ?_; rintro e w2 ⟨r, q, er, rfl, hKp, hQ2⟩
  have HS2 : Hid (w.heap.size ≤ w2.heap.size) := Nat.le_trans HS1.out hKp.size
  clear HM1 c0 c1 c2 c3 hKp
  have HBt := Lib.hid (bit_any w2 q)
  go_wp2_with fail
  refine HBt.out.mono ?_; rintro e w9 ⟨rfl, rfl⟩
  have HN := Lib.hid (nums_any (w2.alloc (.cells #[.int .i64 r, .int .i64 (bitI q)] 3)) er (l := [r, bitI q]) (row2 w2 r (bitI q)) (by simp))
  have HC2 : Hid (Chg (fun _ => False) w2 (w2.alloc (.cells #[.int .i64 r, .int .i64 (bitI q)] 3))) := (Chg.refl _ _).alloc _
  go_wp2_with fail
  refine HN.out.mono ?_; rintro e w4 ⟨v, rfl, hI, hC4⟩
  have HZ := Lib.hid (HK.out _ _ (tell_end HQ.out HS2.out hQ2 HC2.out hI hC4))
  clear HN HC2 hI hC4 HK HQ hQ2 HS1 HS2
  go_wp2
  go_ret
  exact HZ.out

set_option maxRecDepth 100000 in
set_option maxHeartbeats 2000000 in
theorem tell_Tag {w : World} {hv : Value} {k a b : Int} {x : Option Addr} {n c : Nat} (hk : k % 18 = 17) {Q : List Int → World → Prop} (hQ : OkQ Q)
    (hM : ∀ w1, Chg (fun _ => False) w w1 → Calls Tryz.prog 47 #[hv, .int .i64 a] w1 fun e w2 => ∃ r s er, e = .returned (.tuple #[.int .i64 r, .int .i64 s, .int .i64 er]) ∧ Keep w.heap.size w1 w2 ∧ Hid (Q [r, s, er] w2)) : Tells w hv k a b x n c Q := by
  refine ret_k fun K hK => ?_
  have HK := Lib.hid hK
  have HM := Lib.hid hM
  have HQ := Lib.hid hQ
  have hW := which_any (w.alloc (.cells #[.int .i64 k, .int .i64 a, .int .i64 b, .slice x n c] 33)) k a b x n c
  rw [hk] at hW
  have HW := Lib.hid hW
  have HB0 : Hid (BoxAt (w.alloc (.cells #[.int .i64 k, .int .i64 a, .int .i64 b, .slice x n c] 33)) w.heap.size k a b x n c) := ⟨heap_alloc_new _ _⟩
  have HA0 : Hid (Chg (fun _ => False) w (w.alloc (.cells #[.int .i64 k, .int .i64 a, .int .i64 b, .slice x n c] 33))) := (Chg.refl _ _).alloc _
  obtain ⟨b0, hb0⟩ : ∃ b0, b0 = w.heap.size := ⟨_, rfl⟩
  have HL0 := Lib.hid hb0
  clear hK hM hQ hW hk
  go_enter Tryz.func15, Tryz.ntmps15
  go_wp2_with fail
  refine HW.out.mono ?_; rintro e w1 ⟨rfl, hC1⟩
  obtain ⟨c0, c1, c2, c3⟩ := (HB0.out.chg hC1).cells
  have HM1 := Lib.hid (HM.out w1 (HA0.out.trans hC1 fun _ _ h => h))
  have HS1 : Hid (w.heap.size ≤ w1.heap.size) := (HA0.out.trans hC1 fun _ _ h => h).size
  rw [← hb0] at c0 c1 c2 c3
  rw [← hb0]
  clear hb0 HW HB0 HA0 HM hC1
  go_wp2_with fail
  refine HM1.out.mono ?_; rintro e w2 ⟨r, s, er, rfl, hKp, hQ2⟩
  have HS2 : Hid (w.heap.size ≤ w2.heap.size) := Nat.le_trans HS1.out hKp.size
  clear HM1 c0 c1 c2 c3 hKp
  have HN := Lib.hid (nums_any (w2.alloc (.cells #[.int .i64 r, .int .i64 s] 3)) er (l := [r, s]) (row2 w2 r s) (by simp))
  have HC2 : Hid (Chg (fun _ => False) w2 (w2.alloc (.cells #[.int .i64 r, .int .i64 s] 3))) := (Chg.refl _ _).alloc _
  go_wp2_with fail
  refine HN.out.mono ?_; rintro e w4 ⟨v, rfl, hI, hC4⟩
  have HZ := Lib.hid (HK.out _ _ (tell_end HQ.out HS2.out hQ2 HC2.out hI hC4))
  clear HN HC2 hI hC4 HK HQ hQ2 HS1 HS2
  go_wp2
  go_ret
  exact HZ.out

set_option maxRecDepth 100000 in
set_option maxHeartbeats 2000000 in
theorem tell_Drop {w : World} {hv : Value} {k a b : Int} {x : Option Addr} {n c : Nat} (hk : k % 18 = 12) {Q : List Int → World → Prop} (hQ : OkQ Q)
    (hM : ∀ w1, Chg (fun _ => False) w w1 → Calls Tryz.prog 30 #[hv, .int .i64 a] w1 fun e w2 => ∃ er, e = .returned (.int .i64 er) ∧ Keep w.heap.size w1 w2 ∧ Hid (Q [er] w2)) : Tells w hv k a b x n c Q := by
  refine ret_k fun K hK => ?_
  have HK := Lib.hid hK
  have HM := Lib.hid hM
  have HQ := Lib.hid hQ
  have hW := which_any (w.alloc (.cells #[.int .i64 k, .int .i64 a, .int .i64 b, .slice x n c] 33)) k a b x n c
  rw [hk] at hW
  have HW := Lib.hid hW
  have HB0 : Hid (BoxAt (w.alloc (.cells #[.int .i64 k, .int .i64 a, .int .i64 b, .slice x n c] 33)) w.heap.size k a b x n c) := ⟨heap_alloc_new _ _⟩
  have HA0 : Hid (Chg (fun _ => False) w (w.alloc (.cells #[.int .i64 k, .int .i64 a, .int .i64 b, .slice x n c] 33))) := (Chg.refl _ _).alloc _
  obtain ⟨b0, hb0⟩ : ∃ b0, b0 = w.heap.size := ⟨_, rfl⟩
  have HL0 := Lib.hid hb0
  clear hK hM hQ hW hk
  go_enter Tryz.func15, Tryz.ntmps15
  go_wp2_with fail
  refine HW.out.mono ?_; rintro e w1 ⟨rfl, hC1⟩
  obtain ⟨c0, c1, c2, c3⟩ := (HB0.out.chg hC1).cells
  have HM1 := Lib.hid (HM.out w1 (HA0.out.trans hC1 fun _ _ h => h))
  have HS1 : Hid (w.heap.size ≤ w1.heap.size) := (HA0.out.trans hC1 fun _ _ h => h).size
  rw [← hb0] at c0 c1 c2 c3
  rw [← hb0]
  clear hb0 HW HB0 HA0 HM hC1
  go_wp2_with fail
  refine HM1.out.mono ?_; rintro e w2 ⟨er, rfl, hKp, hQ2⟩
  have HS2 : Hid (w.heap.size ≤ w2.heap.size) := Nat.le_trans HS1.out hKp.size
  clear HM1 c0 c1 c2 c3 hKp
  have HN := Lib.hid (nums_any (w2) er (l := []) (Row.nil _ _ _) (by simp))
  have HC2 : Hid (Chg (fun _ => False) w2 (w2)) := Chg.refl _ _
  go_wp2_with fail
  refine HN.out.mono ?_; rintro e w4 ⟨v, rfl, hI, hC4⟩
  have HZ := Lib.hid (HK.out _ _ (tell_end HQ.out HS2.out hQ2 HC2.out hI hC4))
  clear HN HC2 hI hC4 HK HQ hQ2 HS1 HS2
  go_wp2
  go_ret
  exact HZ.out

set_option maxRecDepth 100000 in
set_option maxHeartbeats 2000000 in
theorem tell_Minor {w : World} {hv : Value} {k a b : Int} {x : Option Addr} {n c : Nat} (hk : k % 18 = 15) {Q : List Int → World → Prop} (hQ : OkQ Q)
    (hM : ∀ w1, Chg (fun _ => False) w w1 → Calls Tryz.prog 11 #[hv] w1 fun e w2 => e = .returned (.tuple #[]) ∧ Keep w.heap.size w1 w2 ∧ Hid (Q [0] w2)) : Tells w hv k a b x n c Q := by
  refine ret_k fun K hK => ?_
  have HK := Lib.hid hK
  have HM := Lib.hid hM
  have HQ := Lib.hid hQ
  have hW := which_any (w.alloc (.cells #[.int .i64 k, .int .i64 a, .int .i64 b, .slice x n c] 33)) k a b x n c
  rw [hk] at hW
  have HW := Lib.hid hW
  have HB0 : Hid (BoxAt (w.alloc (.cells #[.int .i64 k, .int .i64 a, .int .i64 b, .slice x n c] 33)) w.heap.size k a b x n c) := ⟨heap_alloc_new _ _⟩
  have HA0 : Hid (Chg (fun _ => False) w (w.alloc (.cells #[.int .i64 k, .int .i64 a, .int .i64 b, .slice x n c] 33))) := (Chg.refl _ _).alloc _
  obtain ⟨b0, hb0⟩ : ∃ b0, b0 = w.heap.size := ⟨_, rfl⟩
  have HL0 := Lib.hid hb0
  clear hK hM hQ hW hk
  go_enter Tryz.func15, Tryz.ntmps15
  go_wp2_with fail
  refine HW.out.mono ?_; rintro e w1 ⟨rfl, hC1⟩
  obtain ⟨c0, c1, c2, c3⟩ := (HB0.out.chg hC1).cells
  have HM1 := Lib.hid (HM.out w1 (HA0.out.trans hC1 fun _ _ h => h))
  have HS1 : Hid (w.heap.size ≤ w1.heap.size) := (HA0.out.trans hC1 fun _ _ h => h).size
  rw [← hb0] at c0 c1 c2 c3
  rw [← hb0]
  clear hb0 HW HB0 HA0 HM hC1
  go_wp2_with fail
  refine HM1.out.mono ?_; rintro e w2 ⟨rfl, hKp, hQ2⟩
  have HS2 : Hid (w.heap.size ≤ w2.heap.size) := Nat.le_trans HS1.out hKp.size
  clear HM1 c0 c1 c2 c3 hKp
  have HN := Lib.hid (nums_any (w2) 0 (l := []) (Row.nil _ _ _) (by simp))
  have HC2 : Hid (Chg (fun _ => False) w2 (w2)) := Chg.refl _ _
  go_wp2_with fail
  refine HN.out.mono ?_; rintro e w4 ⟨v, rfl, hI, hC4⟩
  have HZ := Lib.hid (HK.out _ _ (tell_end HQ.out HS2.out hQ2 HC2.out hI hC4))
  clear HN HC2 hI hC4 HK HQ hQ2 HS1 HS2
  go_wp2
  go_ret
  exact HZ.out

set_option maxRecDepth 100000 in
set_option maxHeartbeats 2000000 in
theorem tell_Major {w : World} {hv : Value} {k a b : Int} {x : Option Addr} {n c : Nat} (hk : k % 18 = 16) {Q : List Int → World → Prop} (hQ : OkQ Q)
    (hM : ∀ w1, Chg (fun _ => False) w w1 → Calls Tryz.prog 12 #[hv] w1 fun e w2 => e = .returned (.tuple #[]) ∧ Keep w.heap.size w1 w2 ∧ Hid (Q [0] w2)) : Tells w hv k a b x n c Q := by
  refine ret_k fun K hK => ?_
  have HK := Lib.hid hK
  have HM := Lib.hid hM
  have HQ := Lib.hid hQ
  have hW := which_any (w.alloc (.cells #[.int .i64 k, .int .i64 a, .int .i64 b, .slice x n c] 33)) k a b x n c
  rw [hk] at hW
  have HW := Lib.hid hW
  have HB0 : Hid (BoxAt (w.alloc (.cells #[.int .i64 k, .int .i64 a, .int .i64 b, .slice x n c] 33)) w.heap.size k a b x n c) := ⟨heap_alloc_new _ _⟩
  have HA0 : Hid (Chg (fun _ => False) w (w.alloc (.cells #[.int .i64 k, .int .i64 a, .int .i64 b, .slice x n c] 33))) := (Chg.refl _ _).alloc _
  obtain ⟨b0, hb0⟩ : ∃ b0, b0 = w.heap.size := ⟨_, rfl⟩
  have HL0 := Lib.hid hb0
  clear hK hM hQ hW hk
  go_enter Tryz.func15, Tryz.ntmps15
  go_wp2_with fail
  refine HW.out.mono ?_; rintro e w1 ⟨rfl, hC1⟩
  obtain ⟨c0, c1, c2, c3⟩ := (HB0.out.chg hC1).cells
  have HM1 := Lib.hid (HM.out w1 (HA0.out.trans hC1 fun _ _ h => h))
  have HS1 : Hid (w.heap.size ≤ w1.heap.size) := (HA0.out.trans hC1 fun _ _ h => h).size
  rw [← hb0] at c0 c1 c2 c3
  rw [← hb0]
  clear hb0 HW HB0 HA0 HM hC1
  go_wp2_with fail
  refine HM1.out.mono ?_; rintro e w2 ⟨rfl, hKp, hQ2⟩
  have HS2 : Hid (w.heap.size ≤ w2.heap.size) := Nat.le_trans HS1.out hKp.size
  clear HM1 c0 c1 c2 c3 hKp
  have HN := Lib.hid (nums_any (w2) 0 (l := []) (Row.nil _ _ _) (by simp))
  have HC2 : Hid (Chg (fun _ => False) w2 (w2)) := Chg.refl _ _
  go_wp2_with fail
  refine HN.out.mono ?_; rintro e w4 ⟨v, rfl, hI, hC4⟩
  have HZ := Lib.hid (HK.out _ _ (tell_end HQ.out HS2.out hQ2 HC2.out hI hC4))
  clear HN HC2 hI hC4 HK HQ hQ2 HS1 HS2
  go_wp2
  go_ret
  exact HZ.out

set_option maxRecDepth 100000 in
set_option maxHeartbeats 2000000 in
theorem tell_Get {w : World} {hv : Value} {k a b : Int} {x : Option Addr} {n c : Nat} (hk : k % 18 = 2) {Q : List Int → World → Prop} (hQ : OkQ Q)
    (hM : ∀ w1, Chg (fun _ => False) w w1 → Calls Tryz.prog 32 #[hv, .int .i64 a, .int .i64 b] w1 fun e w2 => ∃ cr cn er, e = .returned (.tuple #[.agg #[.bool cr, .int .i64 cn], .int .i64 er]) ∧ Keep w.heap.size w1 w2 ∧ Hid (Q [bitI cr, cn, er] w2)) : Tells w hv k a b x n c Q := by
  refine ret_k fun K hK => ?_
  have HK := Lib.hid hK
  have HM := Lib.hid hM
  have HQ := Lib.hid hQ
  have hW := which_any (w.alloc (.cells #[.int .i64 k, .int .i64 a, .int .i64 b, .slice x n c] 33)) k a b x n c
  rw [hk] at hW
  have HW := Lib.hid hW
  have HB0 : Hid (BoxAt (w.alloc (.cells #[.int .i64 k, .int .i64 a, .int .i64 b, .slice x n c] 33)) w.heap.size k a b x n c) := ⟨heap_alloc_new _ _⟩
  have HA0 : Hid (Chg (fun _ => False) w (w.alloc (.cells #[.int .i64 k, .int .i64 a, .int .i64 b, .slice x n c] 33))) := (Chg.refl _ _).alloc _
  obtain ⟨b0, hb0⟩ : ∃ b0, b0 = w.heap.size := ⟨_, rfl⟩
  have HL0 := Lib.hid hb0
  clear hK hM hQ hW hk
  go_enter Tryz.func15, Tryz.ntmps15
  go_wp2_with fail
  refine HW.out.mono ?_; rintro e w1 ⟨rfl, hC1⟩
  obtain ⟨c0, c1, c2, c3⟩ := (HB0.out.chg hC1).cells
  have HM1 := Lib.hid (HM.out w1 (HA0.out.trans hC1 fun _ _ h => h))
  have HS1 : Hid (w.heap.size ≤ w1.heap.size) := (HA0.out.trans hC1 fun _ _ h => h).size
  rw [← hb0] at c0 c1 c2 c3
  rw [← hb0]
  clear hb0 HW HB0 HA0 HM hC1
  go_wp2_with fail
  refine HM1.out.mono ?_; rintro e w2 ⟨cr, cn, er, rfl, hKp, hQ2⟩
  have HS2 : Hid (w.heap.size ≤ w2.heap.size) := Nat.le_trans HS1.out hKp.size
  clear HM1 c0 c1 c2 c3 hKp
  have HCe := Lib.hid (cell_any (w2.alloc (.cells #[.bool cr, .int .i64 cn] 54)) cr cn)
  go_wp2_with fail
  refine HCe.out.mono ?_; rintro e w9 ⟨v9, rfl, hI9, hC9⟩
  have HN := Lib.hid (nums_any (w9) er (l := [bitI cr, cn]) (hI9.row) (by simp))
  have HC2 : Hid (Chg (fun _ => False) w2 (w9)) := ((Chg.refl (fun _ => False) w2).alloc _).trans hC9 fun _ _ h => h
  go_wp2_with fail
  refine HN.out.mono ?_; rintro e w4 ⟨v, rfl, hI, hC4⟩
  have HZ := Lib.hid (HK.out _ _ (tell_end HQ.out HS2.out hQ2 HC2.out hI hC4))
  clear HN HC2 hI hC4 HK HQ hQ2 HS1 HS2
  go_wp2
  go_ret
  exact HZ.out

set_option maxRecDepth 100000 in
set_option maxHeartbeats 2000000 in
theorem tell_Find {w : World} {hv : Value} {k a b : Int} {x : Option Addr} {n c : Nat} (hk : k % 18 = 5) {Q : List Int → World → Prop} (hQ : OkQ Q)
    (hM : ∀ w1, Chg (fun _ => False) w w1 → Calls Tryz.prog 27 #[hv, .int .i64 a, .int .i64 b] w1 fun e w2 => ∃ cr cn q er, e = .returned (.tuple #[.agg #[.bool cr, .int .i64 cn], .bool q, .int .i64 er]) ∧ Keep w.heap.size w1 w2 ∧ Hid (Q [bitI cr, cn, bitI q, er] w2)) : Tells w hv k a b x n c Q := by
  refine ret_k fun K hK => ?_
  have HK := Lib.hid hK
  have HM := Lib.hid hM
  have HQ := Lib.hid hQ
  have hW := which_any (w.alloc (.cells #[.int .i64 k, .int .i64 a, .int .i64 b, .slice x n c] 33)) k a b x n c
  rw [hk] at hW
  have HW := Lib.hid hW
  have HB0 : Hid (BoxAt (w.alloc (.cells #[.int .i64 k, .int .i64 a, .int .i64 b, .slice x n c] 33)) w.heap.size k a b x n c) := ⟨heap_alloc_new _ _⟩
  have HA0 : Hid (Chg (fun _ => False) w (w.alloc (.cells #[.int .i64 k, .int .i64 a, .int .i64 b, .slice x n c] 33))) := (Chg.refl _ _).alloc _
  obtain ⟨b0, hb0⟩ : ∃ b0, b0 = w.heap.size := ⟨_, rfl⟩
  have HL0 := Lib.hid hb0
  clear hK hM hQ hW hk
  go_enter Tryz.func15, Tryz.ntmps15
  go_wp2_with fail
  refine HW.out.mono ?_; rintro e w1 ⟨rfl, hC1⟩
  obtain ⟨c0, c1, c2, c3⟩ := (HB0.out.chg hC1).cells
  have HM1 := Lib.hid (HM.out w1 (HA0.out.trans hC1 fun _ _ h => h))
  have HS1 : Hid (w.heap.size ≤ w1.heap.size) := (HA0.out.trans hC1 fun _ _ h => h).size
  rw [← hb0] at c0 c1 c2 c3
  rw [← hb0]
  clear hb0 HW HB0 HA0 HM hC1
  go_wp2_with fail
  refine HM1.out.mono ?_; rintro e w2 ⟨cr, cn, q, er, rfl, hKp, hQ2⟩
  have HS2 : Hid (w.heap.size ≤ w2.heap.size) := Nat.le_trans HS1.out hKp.size
  clear HM1 c0 c1 c2 c3 hKp
  have HCe := Lib.hid (cell_any (w2.alloc (.cells #[.bool cr, .int .i64 cn] 54)) cr cn)
  go_wp2_with fail
  refine HCe.out.mono ?_; rintro e w9 ⟨v9, rfl, hI9, hC9⟩
  have HBt := Lib.hid (bit_any w9 q)
  obtain ⟨a8, cap8, w8, happ, hr8, hC8, hloc8⟩ := appOne hI9.row (bitI q) (by simp)
  have HC8 : Hid (Chg (fun _ => False) w2 w8) := (((Chg.refl (fun _ => False) w2).alloc _).trans hC9 fun _ _ h => h).trans hC8 fun b hb hv => by
    have := hI9.new b hv
    simp at this; omega
  have HR8 := Lib.hid hr8
  clear hr8 hC8 hloc8 hI9 hC9 HCe
  go_wp2_with fail
  refine HBt.out.mono ?_; rintro e w7 ⟨rfl, rfl⟩
  have HN := Lib.hid (nums_any w8 er (l := [bitI cr, cn] ++ [bitI q]) HR8.out (by simp))
  go_wp2_with (first | (at_builtin; go_must (refine wpList_val rfl (exec_append rfl (by exact happ)) ?_)))
  refine HN.out.mono ?_; rintro e w4 ⟨v, rfl, hI, hC4⟩
  have HZ := Lib.hid (HK.out _ _ (tell_end HQ.out HS2.out hQ2 HC8.out hI hC4))
  clear HN HC8 hI hC4 HK HQ hQ2 HS1 HS2 happ HR8 HBt
  go_wp2
  go_ret
  exact HZ.out

/-! ### Set and Put: their statement draws its order -/

structure PreSet (w wx : World) (b0 : Nat) (k a b : Int) (x : Option Addr) (n c : Nat) : Prop where
  low : w.heap.size ≤ b0
  chg : Chg (fun _ => False) w wx
  box : BoxAt wx b0 k a b x n c
theorem PreSet.still {w wx w' : World} {b0 : Nat} {k a b : Int} {x : Option Addr} {n c : Nat} (h : PreSet w wx b0 k a b x n c) (hC : Chg (fun _ => False) wx w') : PreSet w w' b0 k a b x n c := ⟨h.low, h.chg.trans hC fun _ _ h => h, h.box.chg hC⟩
structure MidSet (w wx : World) (b0 : Nat) (k a b : Int) (x : Option Addr) (n c : Nat) (Q : List Int → World → Prop) (er : Int) : Prop where
  size : w.heap.size ≤ wx.heap.size
  box : BoxAt wx b0 k a b x n c
  q : Q [er] wx
/-- The cells of the box. -/
abbrev Box4 (wx : World) (b0 : Nat) (k a b : Int) (x : Option Addr) (n c : Nat) : Prop := wx.cell? ⟨b0, 0, none⟩ = some (.int .i64 k) ∧ wx.cell? ⟨b0, 1, none⟩ = some (.int .i64 a) ∧ wx.cell? ⟨b0, 2, none⟩ = some (.int .i64 b) ∧ wx.cell? ⟨b0, 3, none⟩ = some (.slice x n c)

theorem PreSet.cell {w wx : World} {b0 : Nat} {k a b : Int} {x : Option Addr} {n c : Nat} (h : PreSet w wx b0 k a b x n c) {cs : List Wd} (hcs : CellsAt w x n cs) :
    Calls Tryz.prog 38 #[.agg #[.int .i64 k, .int .i64 a, .int .i64 b, .slice x n c]] wx fun e w' => e = .returned (.agg #[.bool (opCell b cs).ref, .int .i64 (opCell b cs).num]) ∧ Box4 w' b0 k a b x n c ∧ Hid (PreSet w w' b0 k a b x n c) := by
  refine (opCell_any wx k a b x n c cs (hcs.chg0 h.chg)).mono ?_
  rintro e w' ⟨rfl, hC⟩
  exact ⟨rfl, (h.still hC).box.cells, Lib.hid (h.still hC)⟩
theorem MidSet.nums {w wx : World} {b0 : Nat} {k a b : Int} {x : Option Addr} {n c : Nat} {Q : List Int → World → Prop} {er : Int} (h : MidSet w wx b0 k a b x n c Q er) (hQ : OkQ Q) :
    Calls Tryz.prog 36 #[.int .i64 er, .slice none 0 0] wx fun e w' => ∃ v, e = .returned v ∧ Box4 w' b0 k a b x n c ∧ Hid (∃ v' l', Ending.returned v = .returned v' ∧ w.heap.size ≤ w'.heap.size ∧ IRow w' w.heap.size v' l' ∧ Hid (Q l' w')) := by
  refine (nums_any wx er (l := []) (Row.nil _ _ _) (by simp)).mono ?_
  rintro e w' ⟨v, rfl, hI, hC⟩
  exact ⟨v, rfl, (h.box.chg hC).cells, Lib.hid (tell_end hQ h.size (Lib.hid h.q) (Chg.refl _ _) hI hC)⟩


theorem PreSet.doSet {w wx : World} {b0 : Nat} {k a b : Int} {x : Option Addr} {n c : Nat} (h : PreSet w wx b0 k a b x n c) {hv : Value} {d : Wd} {Q : List Int → World → Prop}
    (hM : ∀ w1, Chg (fun _ => False) w w1 → Calls Tryz.prog 28 #[hv, .int .i64 a, .int .i64 b, d.agg] w1 fun e w2 => ∃ er, e = .returned (.int .i64 er) ∧ Keep w.heap.size w1 w2 ∧ Hid (Q [er] w2)) :
    Calls Tryz.prog 28 #[hv, .int .i64 a, .int .i64 b, .agg #[.bool d.ref, .int .i64 d.num]] wx fun e w' => ∃ er, e = .returned (.int .i64 er) ∧ Box4 w' b0 k a b x n c ∧ Hid (MidSet w w' b0 k a b x n c Q er) := by
  refine (hM wx h.chg).mono ?_
  rintro e w2 ⟨er, rfl, hK, hQ⟩
  have hb : BoxAt w2 b0 k a b x n c := ⟨hK.at_ h.low h.box.at_⟩
  exact ⟨er, rfl, hb.cells, Lib.hid ⟨Nat.le_trans h.chg.size hK.size, hb, hQ.out⟩⟩

set_option maxRecDepth 100000 in
set_option maxHeartbeats 4000000 in
theorem tell_Set {w : World} {hv : Value} {k a b : Int} {x : Option Addr} {n c : Nat} (hk : k % 18 = 3) {Q : List Int → World → Prop} (hQ : OkQ Q) {cs : List Wd} (hcs : CellsAt w x n cs)
    (hM : ∀ w1, Chg (fun _ => False) w w1 → Calls Tryz.prog 28 #[hv, .int .i64 a, .int .i64 b, (opCell b cs).agg] w1 fun e w2 => ∃ er, e = .returned (.int .i64 er) ∧ Keep w.heap.size w1 w2 ∧ Hid (Q [er] w2)) : Tells w hv k a b x n c Q := by
  refine ret_k fun K hK => ?_
  have HK := Lib.hid hK
  have HM := Lib.hid hM
  have HQ := Lib.hid hQ
  have HCs := Lib.hid hcs
  have hW := which_any (w.alloc (.cells #[.int .i64 k, .int .i64 a, .int .i64 b, .slice x n c] 33)) k a b x n c
  rw [hk] at hW
  have HW := Lib.hid hW
  obtain ⟨b0, hb0⟩ : ∃ b0, b0 = w.heap.size := ⟨_, rfl⟩
  have HP0 : Hid (PreSet w (w.alloc (.cells #[.int .i64 k, .int .i64 a, .int .i64 b, .slice x n c] 33)) b0 k a b x n c) := by
    rw [hb0]; exact ⟨Nat.le_refl _, (Chg.refl _ _).alloc _, ⟨heap_alloc_new _ _⟩⟩
  clear hK hM hQ hW hk hcs
  go_enter Tryz.func15, Tryz.ntmps15
  go_wp2_with fail
  refine HW.out.mono ?_; rintro e w1 ⟨rfl, hC1⟩
  have hP : Hid (PreSet w w1 b0 k a b x n c) := HP0.out.still hC1
  obtain ⟨q0, q1, q2, q3⟩ := hP.out.box.cells
  rw [← hb0]
  clear hb0 HW HP0 hC1
  obtain ⟨dr, hdr⟩ : ∃ dr, dr = (opCell b cs).ref := ⟨_, rfl⟩
  obtain ⟨dn, hdn⟩ : ∃ dn, dn = (opCell b cs).num := ⟨_, rfl⟩
  have HCe : Hid (∀ wx, PreSet w wx b0 k a b x n c → Calls Tryz.prog 38 #[.agg #[.int .i64 k, .int .i64 a, .int .i64 b, .slice x n c]] wx fun e w' => e = .returned (.agg #[.bool dr, .int .i64 dn]) ∧ Box4 w' b0 k a b x n c ∧ Hid (PreSet w w' b0 k a b x n c)) := fun wx h => by
    rw [hdr, hdn]; exact h.cell HCs.out
  have HDo : Hid (∀ wx, PreSet w wx b0 k a b x n c → Calls Tryz.prog 28 #[hv, .int .i64 a, .int .i64 b, .agg #[.bool dr, .int .i64 dn]] wx fun e w' => ∃ er, e = .returned (.int .i64 er) ∧ Box4 w' b0 k a b x n c ∧ Hid (MidSet w w' b0 k a b x n c Q er)) := fun wx h => by
    rw [hdr, hdn]; exact h.doSet HM.out
  clear hdr hdn HM HCs
  go_upto_region 12 with fail
  go_region_held3 (fun wx => wx.cell? ⟨b0, 0, none⟩ = some (.int .i64 k) ∧ wx.cell? ⟨b0, 1, none⟩ = some (.int .i64 a) ∧ wx.cell? ⟨b0, 2, none⟩ = some (.int .i64 b) ∧ wx.cell? ⟨b0, 3, none⟩ = some (.slice x n c))
    (first | exact ⟨q0, q1, q2, q3⟩ | exact (hP.out.still ((Chg.refl _ _).drewN _)).box.cells)
    (first
      | (go_at_call 38; refine (HCe.out _ (hP.out.still ((Chg.refl _ _).drewN _))).mono ?_; rintro e wn ⟨rfl, ⟨q0, q1, q2, q3⟩, hP⟩)
      | (go_at_call 38; refine (HCe.out _ hP.out).mono ?_; rintro e wn ⟨rfl, ⟨q0, q1, q2, q3⟩, hP⟩)
      | (go_at_call 28; refine (HDo.out _ hP.out).mono ?_; rintro e wn ⟨er, rfl, ⟨q0, q1, q2, q3⟩, hMi⟩)
      | (go_at_call 36; refine (hMi.out.nums HQ.out).mono ?_; rintro e wn ⟨v, rfl, ⟨q0, q1, q2, q3⟩, hE⟩))
  all_goals
    go_wp2
    go_ret
    exact HK.out _ _ hE.out

theorem PreSet.doPut {w wx : World} {b0 : Nat} {k a b : Int} {x : Option Addr} {n c : Nat} (h : PreSet w wx b0 k a b x n c) {hv : Value} {d : Wd} {Q : List Int → World → Prop}
    (hM : ∀ w1, Chg (fun _ => False) w w1 → Calls Tryz.prog 25 #[hv, .int .i64 a, .int .i64 b, d.agg] w1 fun e w2 => ∃ er, e = .returned (.int .i64 er) ∧ Keep w.heap.size w1 w2 ∧ Hid (Q [er] w2)) :
    Calls Tryz.prog 25 #[hv, .int .i64 a, .int .i64 b, .agg #[.bool d.ref, .int .i64 d.num]] wx fun e w' => ∃ er, e = .returned (.int .i64 er) ∧ Box4 w' b0 k a b x n c ∧ Hid (MidSet w w' b0 k a b x n c Q er) := by
  refine (hM wx h.chg).mono ?_
  rintro e w2 ⟨er, rfl, hK, hQ⟩
  have hb : BoxAt w2 b0 k a b x n c := ⟨hK.at_ h.low h.box.at_⟩
  exact ⟨er, rfl, hb.cells, Lib.hid ⟨Nat.le_trans h.chg.size hK.size, hb, hQ.out⟩⟩

set_option maxRecDepth 100000 in
set_option maxHeartbeats 4000000 in
theorem tell_Put {w : World} {hv : Value} {k a b : Int} {x : Option Addr} {n c : Nat} (hk : k % 18 = 4) {Q : List Int → World → Prop} (hQ : OkQ Q) {cs : List Wd} (hcs : CellsAt w x n cs)
    (hM : ∀ w1, Chg (fun _ => False) w w1 → Calls Tryz.prog 25 #[hv, .int .i64 a, .int .i64 b, (opCell b cs).agg] w1 fun e w2 => ∃ er, e = .returned (.int .i64 er) ∧ Keep w.heap.size w1 w2 ∧ Hid (Q [er] w2)) : Tells w hv k a b x n c Q := by
  refine ret_k fun K hK => ?_
  have HK := Lib.hid hK
  have HM := Lib.hid hM
  have HQ := Lib.hid hQ
  have HCs := Lib.hid hcs
  have hW := which_any (w.alloc (.cells #[.int .i64 k, .int .i64 a, .int .i64 b, .slice x n c] 33)) k a b x n c
  rw [hk] at hW
  have HW := Lib.hid hW
  obtain ⟨b0, hb0⟩ : ∃ b0, b0 = w.heap.size := ⟨_, rfl⟩
  have HP0 : Hid (PreSet w (w.alloc (.cells #[.int .i64 k, .int .i64 a, .int .i64 b, .slice x n c] 33)) b0 k a b x n c) := by
    rw [hb0]; exact ⟨Nat.le_refl _, (Chg.refl _ _).alloc _, ⟨heap_alloc_new _ _⟩⟩
  clear hK hM hQ hW hk hcs
  go_enter Tryz.func15, Tryz.ntmps15
  go_wp2_with fail
  refine HW.out.mono ?_; rintro e w1 ⟨rfl, hC1⟩
  have hP : Hid (PreSet w w1 b0 k a b x n c) := HP0.out.still hC1
  obtain ⟨q0, q1, q2, q3⟩ := hP.out.box.cells
  rw [← hb0]
  clear hb0 HW HP0 hC1
  obtain ⟨dr, hdr⟩ : ∃ dr, dr = (opCell b cs).ref := ⟨_, rfl⟩
  obtain ⟨dn, hdn⟩ : ∃ dn, dn = (opCell b cs).num := ⟨_, rfl⟩
  have HCe : Hid (∀ wx, PreSet w wx b0 k a b x n c → Calls Tryz.prog 38 #[.agg #[.int .i64 k, .int .i64 a, .int .i64 b, .slice x n c]] wx fun e w' => e = .returned (.agg #[.bool dr, .int .i64 dn]) ∧ Box4 w' b0 k a b x n c ∧ Hid (PreSet w w' b0 k a b x n c)) := fun wx h => by
    rw [hdr, hdn]; exact h.cell HCs.out
  have HDo : Hid (∀ wx, PreSet w wx b0 k a b x n c → Calls Tryz.prog 25 #[hv, .int .i64 a, .int .i64 b, .agg #[.bool dr, .int .i64 dn]] wx fun e w' => ∃ er, e = .returned (.int .i64 er) ∧ Box4 w' b0 k a b x n c ∧ Hid (MidSet w w' b0 k a b x n c Q er)) := fun wx h => by
    rw [hdr, hdn]; exact h.doPut HM.out
  clear hdr hdn HM HCs
  go_upto_region 14 with fail
  go_region_held3 (fun wx => wx.cell? ⟨b0, 0, none⟩ = some (.int .i64 k) ∧ wx.cell? ⟨b0, 1, none⟩ = some (.int .i64 a) ∧ wx.cell? ⟨b0, 2, none⟩ = some (.int .i64 b) ∧ wx.cell? ⟨b0, 3, none⟩ = some (.slice x n c))
    (first | exact ⟨q0, q1, q2, q3⟩ | exact (hP.out.still ((Chg.refl _ _).drewN _)).box.cells)
    (first
      | (go_at_call 38; refine (HCe.out _ (hP.out.still ((Chg.refl _ _).drewN _))).mono ?_; rintro e wn ⟨rfl, ⟨q0, q1, q2, q3⟩, hP⟩)
      | (go_at_call 38; refine (HCe.out _ hP.out).mono ?_; rintro e wn ⟨rfl, ⟨q0, q1, q2, q3⟩, hP⟩)
      | (go_at_call 25; refine (HDo.out _ hP.out).mono ?_; rintro e wn ⟨er, rfl, ⟨q0, q1, q2, q3⟩, hMi⟩)
      | (go_at_call 36; refine (hMi.out.nums HQ.out).mono ?_; rintro e wn ⟨v, rfl, ⟨q0, q1, q2, q3⟩, hE⟩))
  all_goals
    go_wp2
    go_ret
    exact HK.out _ _ hE.out

end Go.Proofs.YtelghmmcbgfjnaaGreat

/-! The chapter's examples: the function sane returns true. -/
namespace Go.Proofs.YtelghmmcbgfjnaaGreat
open Go.RowKit

/-- An ideal heap in a world that has grown out of w0; the blocks of w0 and of L are not its own. -/
structure HB (w0 w : World) (hb : Nat) (L : List Nat) (I : IS) (m : Nat) : Prop where
  hp : HP w hb (List.range w0.heap.size ++ L) I m
  chg : Chg (fun _ => False) w0 w

theorem HB.got {w0 w w' : World} {hb : Nat} {L : List Nat} {I I' : IS} {m m' : Nat} (h : HB w0 w hb L I m) (hG : Got w hb (List.range w0.heap.size ++ L) I' m' w') : HB w0 w' hb L I' m' :=
  ⟨hG.hp, h.chg.trans hG.chg fun _ hj hn => hn (List.mem_append_left _ (List.mem_range.2 hj))⟩
theorem HB.still {w0 w w' : World} {hb : Nat} {L : List Nat} {I : IS} {m : Nat} (h : HB w0 w hb L I m) (hC : Chg (fun _ => False) w w') : HB w0 w' hb L I m := ⟨h.hp.still hC, h.chg.trans hC fun _ _ h => h⟩
theorem HB.drewN {w0 w : World} {hb : Nat} {L : List Nat} {I : IS} {m : Nat} (h : HB w0 w hb L I m) (n : Nat) : HB w0 (w.drewN n) hb L I m := h.still ((Chg.refl _ _).drewN n)
theorem HB.sub {w0 w : World} {hb : Nat} {L L' : List Nat} {I : IS} {m : Nat} (h : HB w0 w hb L I m) (hs : ∀ b ∈ L', b ∈ L) : HB w0 w hb L' I m :=
  ⟨h.hp.sub fun b hb => by
    rcases List.mem_append.1 hb with hb | hb
    · exact List.mem_append_left _ hb
    · exact List.mem_append_right _ (hs b hb), h.chg⟩
theorem HB.alloc {w0 w : World} {hb : Nat} {L : List Nat} {I : IS} {m : Nat} (h : HB w0 w hb L I m) (X : Obj) : HB w0 (w.alloc X) hb (w.heap.size :: L) I m :=
  ⟨(h.hp.alloc X).sub fun b hb => by
    simp only [List.mem_append, List.mem_cons] at hb ⊢
    rcases hb with hb | hb | hb
    · exact .inr (.inl hb)
    · exact .inl hb
    · exact .inr (.inr hb), h.chg.alloc X⟩
/-- A block of the caller's own stays. -/
theorem HB.keeps {w0 w w' : World} {hb : Nat} {L : List Nat} {I : IS} {m : Nat} {I' : IS} {m' : Nat} (_h : HB w0 w hb L I m) (hG : Got w hb (List.range w0.heap.size ++ L) I' m' w') {b : Nat} (hb : b ∈ L) {x : Obj} (hx : w.heap[b]? = some x) : w'.heap[b]? = some x :=
  hG.chg.at hx (fun h => h (List.mem_append_right _ hb))

/-- The same, and a cell of the caller's own. -/
structure SP (w0 w : World) (hb b : Nat) (c : Wd) (I : IS) (m : Nat) : Prop where
  hp : HB w0 w hb [b] I m
  at_ : w.heap[b]? = some (.cells #[.bool c.ref, .int .i64 c.num] 54 (0, 0))

theorem SP.drewN {w0 w : World} {hb b : Nat} {c : Wd} {I : IS} {m : Nat} (h : SP w0 w hb b c I m) (n : Nat) : SP w0 (w.drewN n) hb b c I m := ⟨h.hp.drewN n, h.at_⟩
theorem SP.still {w0 w w' : World} {hb b : Nat} {c : Wd} {I : IS} {m : Nat} (h : SP w0 w hb b c I m) (hC : Chg (fun _ => False) w w') : SP w0 w' hb b c I m := ⟨h.hp.still hC, hC.at h.at_ (fun h => h)⟩
theorem SP.got {w0 w w' : World} {hb b : Nat} {c : Wd} {I I' : IS} {m m' : Nat} (h : SP w0 w hb b c I m) (hG : Got w hb (List.range w0.heap.size ++ [b]) I' m' w') : SP w0 w' hb b c I' m' := ⟨h.hp.got hG, h.hp.keeps hG (by simp) h.at_⟩
theorem SP.c0 {w0 w : World} {hb b : Nat} {c : Wd} {I : IS} {m : Nat} (h : SP w0 w hb b c I m) : w.cell? ⟨b, 0, none⟩ = some (.bool c.ref) ∧ w.cell? ⟨b, 1, none⟩ = some (.int .i64 c.num) := ⟨cellAt h.at_ 0, cellAt h.at_ 1⟩
theorem SP.make {w0 w : World} {hb : Nat} {L : List Nat} {I : IS} {m : Nat} (h : HB w0 w hb L I m) (c : Wd) : SP w0 (w.alloc (.cells #[.bool c.ref, .int .i64 c.num] 54)) hb w.heap.size c I m :=
  ⟨(h.alloc _).sub (by simp), heap_alloc_new w _⟩

theorem SP.num {w0 w : World} {hb b : Nat} {c : Wd} {I : IS} {m : Nat} (h : SP w0 w hb b c I m) (n : Int) :
    Calls Tryz.prog 26 #[.int .i64 n] w fun e w' => e = .returned (.agg #[.bool false, .int .i64 n]) ∧ (w'.cell? ⟨b, 0, none⟩ = some (.bool c.ref) ∧ w'.cell? ⟨b, 1, none⟩ = some (.int .i64 c.num)) ∧ Hid (SP w0 w' hb b c I m) := by
  refine (num_any w n).mono ?_
  rintro e w' ⟨rfl, hC⟩
  exact ⟨rfl, (h.still hC).c0, Lib.hid (h.still hC)⟩
theorem SP.ref {w0 w : World} {hb b : Nat} {c : Wd} {I : IS} {m : Nat} (h : SP w0 w hb b c I m) (n : Int) :
    Calls Tryz.prog 29 #[.int .i64 n] w fun e w' => e = .returned (.agg #[.bool true, .int .i64 n]) ∧ (w'.cell? ⟨b, 0, none⟩ = some (.bool c.ref) ∧ w'.cell? ⟨b, 1, none⟩ = some (.int .i64 c.num)) ∧ Hid (SP w0 w' hb b c I m) := by
  refine (ref_any w n).mono ?_
  rintro e w' ⟨rfl, hC⟩
  exact ⟨rfl, (h.still hC).c0, Lib.hid (h.still hC)⟩
theorem HB.num {w0 w : World} {hb : Nat} {L : List Nat} {I : IS} {m : Nat} (h : HB w0 w hb L I m) (n : Int) :
    Calls Tryz.prog 26 #[.int .i64 n] w fun e w' => e = .returned (.agg #[.bool false, .int .i64 n]) ∧ Hid (HB w0 w' hb L I m) := by
  refine (num_any w n).mono ?_
  rintro e w' ⟨rfl, hC⟩
  exact ⟨rfl, Lib.hid (h.still hC)⟩
theorem HB.ref {w0 w : World} {hb : Nat} {L : List Nat} {I : IS} {m : Nat} (h : HB w0 w hb L I m) (n : Int) :
    Calls Tryz.prog 29 #[.int .i64 n] w fun e w' => e = .returned (.agg #[.bool true, .int .i64 n]) ∧ Hid (HB w0 w' hb L I m) := by
  refine (ref_any w n).mono ?_
  rintro e w' ⟨rfl, hC⟩
  exact ⟨rfl, Lib.hid (h.still hC)⟩
theorem HB.used {w0 w : World} {hb : Nat} {L : List Nat} {I : IS} {m : Nat} (h : HB w0 w hb L I m) {u : Nat} (h1 : I.words I.live = u) (h2 : I.words I.here = u) :
    Calls Tryz.prog 20 #[.pointer (some ⟨hb, 0, none⟩)] w fun e w' => e = .returned (.int .i64 u) ∧ Hid (HB w0 w' hb L I m) := by
  refine (h.hp.used_eq h1 h2).mono ?_
  rintro e w' ⟨rfl, hG⟩
  exact ⟨rfl, Lib.hid (h.got hG)⟩

theorem SP.used {w0 w : World} {hb b : Nat} {c : Wd} {I : IS} {m : Nat} (h : SP w0 w hb b c I m) {u : Nat} (h1 : I.words I.live = u) (h2 : I.words I.here = u) :
    Calls Tryz.prog 20 #[.pointer (some ⟨hb, 0, none⟩)] w fun e w' => e = .returned (.int .i64 u) ∧ (w'.cell? ⟨b, 0, none⟩ = some (.bool c.ref) ∧ w'.cell? ⟨b, 1, none⟩ = some (.int .i64 c.num)) ∧ Hid (SP w0 w' hb b c I m) := by
  refine (h.hp.hp.used_eq h1 h2).mono ?_
  rintro e w' ⟨rfl, hG⟩
  exact ⟨rfl, (h.got hG).c0, Lib.hid (h.got hG)⟩

namespace Sane
/-- The calls of sane. -/
theorem c_make1 {w0 w : World} {hb : Nat} {L : List Nat} {m : Nat} (h : HB w0 w hb L (IS.start 40) m) (hm : m < 9000) :
    Calls Tryz.prog 23 #[.pointer (some ⟨hb, 0, none⟩), .int .i64 0, .slice none 0 0] w fun e w' => e = .returned (.tuple #[.int .i64 0, .int .i64 0]) ∧ Hid (HB w0 w' hb L I1 (m + 1)) := by
  refine (h.hp.make (ample hm (by simp [IS.start]) (by simp [IS.start]) (by simp [IS.start])) 0 (cs := []) (.of rfl fun j c hj => by simp at hj) (by simp)).mono ?_
  rw [make1]
  rintro e w' ⟨rfl, hG⟩
  exact ⟨rfl, Lib.hid (h.got hG)⟩
theorem c_table {w0 w : World} {hb : Nat} {L : List Nat} {m : Nat} (h : HB w0 w hb L I1 m) (hm : m < 9000) :
    Calls Tryz.prog 24 #[.pointer (some ⟨hb, 0, none⟩)] w fun e w' => e = .returned (.tuple #[.int .i64 1, .int .i64 0]) ∧ Hid (HB w0 w' hb L I2 (m + 1)) := by
  refine (h.hp.table (ample hm (by simp [I1, S]) (by simp [I1, S]) (by simp [I1, S, n0]))).mono ?_
  rw [Sane.table]
  rintro e w' ⟨rfl, hG⟩
  exact ⟨rfl, Lib.hid (h.got hG)⟩
theorem c_put {w0 w : World} {hb : Nat} {L : List Nat} {m : Nat} (h : HB w0 w hb L I2 m) (hm : m < 9000) :
    Calls Tryz.prog 25 #[.pointer (some ⟨hb, 0, none⟩), .int .i64 1, .int .i64 0, .agg #[.bool false, .int .i64 5]] w fun e w' => e = .returned (.int .i64 0) ∧ Hid (HB w0 w' hb L I3 (m + 1)) := by
  refine (h.hp.put (ample hm (by simp [I2, S]) (by simp [I2, S]) (by simp [I2, S, n0, nt])) 1 0 ⟨false, 5⟩).mono ?_
  rw [Sane.put]
  rintro e w' ⟨rfl, hG⟩
  exact ⟨rfl, Lib.hid (h.got hG)⟩
theorem c_find {w0 w : World} {hb : Nat} {L : List Nat} {m : Nat} (h : HB w0 w hb L I3 m) (hm : m < 9000) :
    Calls Tryz.prog 27 #[.pointer (some ⟨hb, 0, none⟩), .int .i64 1, .int .i64 0] w fun e w' => e = .returned (.tuple #[.agg #[.bool false, .int .i64 5], .bool true, .int .i64 0]) ∧ Hid (HB w0 w' hb L I3 (m + 1)) := by
  refine (h.hp.find (ample hm (by simp [I3, S]) (by simp [I3, S]) (by simp [I3, S, n0, nt])) 1 0).mono ?_
  rw [Sane.find]
  rintro e w' ⟨rfl, hG⟩
  exact ⟨rfl, Lib.hid (h.got hG)⟩
theorem c_set {w0 w : World} {hb b : Nat} {c : Wd} {m : Nat} (h : SP w0 w hb b c I3 m) :
    Calls Tryz.prog 28 #[.pointer (some ⟨hb, 0, none⟩), .int .i64 0, .int .i64 0, .agg #[.bool false, .int .i64 1]] w fun e w' => e = .returned (.int .i64 222) ∧ (w'.cell? ⟨b, 0, none⟩ = some (.bool c.ref) ∧ w'.cell? ⟨b, 1, none⟩ = some (.int .i64 c.num)) ∧ Hid (SP w0 w' hb b c I3 m) := by
  refine (h.hp.hp.set_index (n := 0) (name := 0) (d := n0) (c := ⟨false, 1⟩) (i := 0) rfl rfl rfl rfl (.inr (by simp [n0]))).mono ?_
  rintro e w' ⟨rfl, hG⟩
  exact ⟨rfl, (h.got hG).c0, Lib.hid (h.got hG)⟩
theorem c_make2 {w0 w : World} {hb : Nat} {L : List Nat} {m : Nat} (h : HB w0 w hb L I3 m) (hm : m < 9000) {b : Nat} (h0 : w.heap[b]? = some (.cells #[.bool true, .int .i64 0, .bool false, .int .i64 7] 54 (0, 0))) :
    Calls Tryz.prog 23 #[.pointer (some ⟨hb, 0, none⟩), .int .i64 1, .slice (some ⟨b, 0, none⟩) 2 2] w fun e w' => e = .returned (.tuple #[.int .i64 2, .int .i64 0]) ∧ Hid (HB w0 w' hb L I4 (m + 1)) := by
  refine (h.hp.make (ample hm (by simp [I3, S]) (by simp [I3, S]) (by simp [I3, S, n0, nt])) 1 (cs := [⟨true, 0⟩, ⟨false, 7⟩]) (.of rfl fun j c hj => ?_) (by simp)).mono ?_
  · match j, hj with
    | 0, hj => simp at hj; subst hj; exact ⟨b, 0, rfl, cellAt h0 0, cellAt h0 1⟩
    | 1, hj => simp at hj; subst hj; exact ⟨b, 0, rfl, cellAt h0 2, cellAt h0 3⟩
    | j + 2, hj => simp at hj
  rw [Sane.make2]
  rintro e w' ⟨rfl, hG⟩
  exact ⟨rfl, Lib.hid (h.got hG)⟩
theorem c_drop1 {w0 w : World} {hb : Nat} {L : List Nat} {m : Nat} (h : HB w0 w hb L I4 m) :
    Calls Tryz.prog 30 #[.pointer (some ⟨hb, 0, none⟩), .int .i64 0] w fun e w' => e = .returned (.int .i64 0) ∧ Hid (HB w0 w' hb L I5 (m + 1)) := by
  refine (h.hp.drop 0).mono ?_
  rw [Sane.drop1]
  rintro e w' ⟨rfl, hG⟩
  exact ⟨rfl, Lib.hid (h.got hG)⟩
theorem c_major1 {w0 w : World} {hb : Nat} {L : List Nat} {m : Nat} (h : HB w0 w hb L I5 m) :
    Calls Tryz.prog 12 #[.pointer (some ⟨hb, 0, none⟩)] w fun e w' => e = .returned (.tuple #[]) ∧ Hid (HB w0 w' hb L I5 (m + 1)) := by
  have := h.hp.major
  rw [Sane.major1] at this
  refine this.mono ?_
  rintro e w' ⟨rfl, hG⟩
  exact ⟨rfl, Lib.hid (h.got hG)⟩
theorem c_count1 {w0 w : World} {hb : Nat} {L : List Nat} {m : Nat} (h : HB w0 w hb L I5 m) :
    Calls Tryz.prog 31 #[.pointer (some ⟨hb, 0, none⟩), .int .i64 1] w fun e w' => e = .returned (.tuple #[.int .i64 1, .int .i64 0]) ∧ Hid (HB w0 w' hb L I5 m) := by
  refine (h.hp.count (t := 1) (name := 1) (d := nt [e5]) rfl rfl rfl).mono ?_
  rintro e w' ⟨u, rfl, ⟨h1, h2⟩, hG⟩
  have h3 : 1 ≤ u := by have := count1.2.1; simp only [nt] at h1; omega
  have h4 : u ≤ 1 := by have := count1.2.2; simp only [nt] at h2; omega
  have : u = 1 := by omega
  subst this
  exact ⟨rfl, Lib.hid (h.got hG)⟩
theorem c_get {w0 w : World} {hb : Nat} {L : List Nat} {m : Nat} (h : HB w0 w hb L I5 m) (hm : m < 9000) :
    Calls Tryz.prog 32 #[.pointer (some ⟨hb, 0, none⟩), .int .i64 2, .int .i64 0] w fun e w' => e = .returned (.tuple #[.agg #[.bool true, .int .i64 0], .int .i64 0]) ∧ Hid (HB w0 w' hb L I7 (m + 1)) := by
  refine (h.hp.get_ref (ample hm (by simp [I5, S]) (by simp [I5, S]) (by simp [I5, S, n0, nt, nb])) (n := 2) (name := 2) (d := nb) (i := 0) (x := 0) rfl rfl rfl rfl).mono ?_
  rw [fresh5, grant5]
  rintro e w' ⟨rfl, hG⟩
  exact ⟨rfl, Lib.hid (h.got hG)⟩
theorem c_drop2 {w0 w : World} {hb : Nat} {L : List Nat} {m : Nat} (h : HB w0 w hb L I7 m) :
    Calls Tryz.prog 30 #[.pointer (some ⟨hb, 0, none⟩), .int .i64 0] w fun e w' => e = .returned (.int .i64 0) ∧ Hid (HB w0 w' hb L I5 (m + 1)) := by
  refine (h.hp.drop 0).mono ?_
  rw [Sane.drop2]
  rintro e w' ⟨rfl, hG⟩
  exact ⟨rfl, Lib.hid (h.got hG)⟩
theorem c_drop3 {w0 w : World} {hb : Nat} {L : List Nat} {m : Nat} (h : HB w0 w hb L I5 m) :
    Calls Tryz.prog 30 #[.pointer (some ⟨hb, 0, none⟩), .int .i64 2] w fun e w' => e = .returned (.int .i64 0) ∧ Hid (HB w0 w' hb L I9 (m + 1)) := by
  refine (h.hp.drop 2).mono ?_
  rw [Sane.drop3]
  rintro e w' ⟨rfl, hG⟩
  exact ⟨rfl, Lib.hid (h.got hG)⟩
theorem c_major2 {w0 w : World} {hb : Nat} {L : List Nat} {m : Nat} (h : HB w0 w hb L I9 m) :
    Calls Tryz.prog 12 #[.pointer (some ⟨hb, 0, none⟩)] w fun e w' => e = .returned (.tuple #[]) ∧ Hid (HB w0 w' hb L I10 (m + 1)) := by
  have := h.hp.major
  rw [Sane.major2] at this
  refine this.mono ?_
  rintro e w' ⟨rfl, hG⟩
  exact ⟨rfl, Lib.hid (h.got hG)⟩
theorem c_count2 {w0 w : World} {hb : Nat} {L : List Nat} {m : Nat} (h : HB w0 w hb L I10 m) :
    Calls Tryz.prog 31 #[.pointer (some ⟨hb, 0, none⟩), .int .i64 1] w fun e w' => e = .returned (.tuple #[.int .i64 0, .int .i64 0]) ∧ Hid (HB w0 w' hb L I10 m) := by
  refine (h.hp.count (t := 1) (name := 1) (d := nt [e5]) rfl rfl rfl).mono ?_
  rintro e w' ⟨u, rfl, ⟨h1, h2⟩, hG⟩
  have h4 : u ≤ 0 := by have := count2.2; simp only [nt] at h2; omega
  have : u = 0 := by omega
  subst this
  exact ⟨rfl, Lib.hid (h.got hG)⟩
end Sane

end Go.Proofs.YtelghmmcbgfjnaaGreat
