/-
  tell, walked for each kind of operation: it tells the numbers that the method returns. Written by gen_tell.py. (A part of the proof, joined of: Te, Yk, Th, Ti, Yl; made smaller.)
-/
import Derived.Test.YtelghmmcbgfjnaaGreatH19
import Derived.Deep.RegionHeld3
set_option maxHeartbeats 8000000
set_option maxRecDepth 100000
namespace Go.Proofs.YtelghmmcbgfjnaaGreat
variable {I I' : IS} {L : List Nat} {a b k : Int} {args : Array Value} {b0 c f hb m m' n u : Nat} {cs : List Wd} {d : Wd} {hv v : Value} {l : List Int} {p : Addr} {w w' w0 w1 w2 wx : World} {x : Option Addr}
open Go.RowKit
structure Keep (B : Nat) (w1 w2 : World) : Prop where
 size : w1.heap.size ≤ w2.heap.size
 blk : ∀ b, B ≤ b → b < w1.heap.size → w2.heap[b]? = w1.heap[b]?
theorem Keep.at_ {B : Nat} (h : Keep B w1 w2) {b : Nat} {X : Obj} (hb : B ≤ b) (hx : w1.heap[b]? = some X) : w2.heap[b]? = some X := by
 rw [h.blk b hb (lt_of_block hx)]; exact hx
def OkQ (Q : List Int → World → Prop) : Prop := ∀ l w1 w2, Q l w1 → Chg (fun _ => False) w1 w2 → Q l w2
def Tells (w : World) (hv : Value) (k a b : Int) (x : Option Addr) (n c : Nat) (Q : List Int → World → Prop) : Prop :=
 Calls Tryz.prog 15 #[hv, .agg #[.int .i64 k, .int .i64 a, .int .i64 b, .slice x n c]] w fun e w' => ∃ v l, e = .returned v ∧ w.heap.size ≤ w'.heap.size ∧ IRow w' w.heap.size v l ∧ Hid (Q l w')
theorem row1 (w : World) (r : Int) : Row (w.alloc (.cells #[.int .i64 r] 3)) 3 1 (.slice (some ⟨w.heap.size, 0, none⟩) 1 1) ([r] : List Int).length (intCells [r]) :=
 (IRow.block w (l := [r]) (by simp) (by simp [maxLen])).row
theorem row2 (w : World) (r s : Int) : Row (w.alloc (.cells #[.int .i64 r, .int .i64 s] 3)) 3 1 (.slice (some ⟨w.heap.size, 0, none⟩) 2 2) ([r, s] : List Int).length (intCells [r, s]) :=
 (IRow.block w (l := [r, s]) (by simp) (by simp [maxLen])).row
structure BoxAt (w : World) (b0 : Nat) (k a b : Int) (x : Option Addr) (n c : Nat) : Prop where
 at_ : w.heap[b0]? = some (.cells #[.int .i64 k, .int .i64 a, .int .i64 b, .slice x n c] 33 (0, 0))
theorem BoxAt.chg (h : BoxAt w b0 k a b x n c) (hC : Chg (fun _ => False) w w') : BoxAt w' b0 k a b x n c := ⟨hC.at h.at_ fun h => h⟩
theorem BoxAt.cells (h : BoxAt w b0 k a b x n c) : w.cell? ⟨b0, 0, none⟩ = some (.int .i64 k) ∧ w.cell? ⟨b0, 1, none⟩ = some (.int .i64 a) ∧ w.cell? ⟨b0, 2, none⟩ = some (.int .i64 b) ∧ w.cell? ⟨b0, 3, none⟩ = some (.slice x n c) :=
 ⟨cellAt h.at_ 0, cellAt h.at_ 1, cellAt h.at_ 2, cellAt h.at_ 3⟩
theorem tell_end {w3 w4 : World} {Q : List Int → World → Prop} (hQ : OkQ Q) (h2 : w.heap.size ≤ w2.heap.size) (hQ2 : Hid (Q l w2)) (hC3 : Chg (fun _ => False) w2 w3) (hI : IRow w4 w3.heap.size v l) (hC4 : Chg (fun _ => False) w3 w4) :
 ∃ v' l', Ending.returned v = .returned v' ∧ w.heap.size ≤ w4.heap.size ∧ IRow w4 w.heap.size v' l' ∧ Hid (Q l' w4) := by
 have h3 := hC3.size;have h4 := hC4.size;exact ⟨v, l, rfl, by omega, hI.low (by omega), hQ _ _ _ hQ2 (hC3.trans hC4 fun _ _ h => h)⟩
def tell_g1Rows (hv : Value) (a : Int) (x : Option Addr) (n c : Nat) : List (Int × Nat × Array Value) := [(0, 23, #[hv, .int .i64 a, .slice x n c]), (1, 24, #[hv]), (11, 44, #[hv, .int .i64 a]), (7, 31, #[hv, .int .i64 a])]
theorem tell_g1 {q : Int} (hk : k % 18 = q) {Q : List Int → World → Prop} (hQ : OkQ Q) (hr : (q, f, args) ∈ tell_g1Rows hv a x n c)
 (hM : ∀ w1, Chg (fun _ => False) w w1 → Calls Tryz.prog f args w1 fun e w2 => ∃ r er, e = .returned (.tuple #[.int .i64 r, .int .i64 er]) ∧ Keep w.heap.size w1 w2 ∧ Hid (Q [r, er] w2)) : Tells w hv k a b x n c Q := by
 simp only [tell_g1Rows, List.mem_cons, Prod.mk.injEq, List.not_mem_nil, or_false] at hr;rcases hr with ⟨rfl, rfl, rfl⟩ | ⟨rfl, rfl, rfl⟩ | ⟨rfl, rfl, rfl⟩ | ⟨rfl, rfl, rfl⟩
 all_goals
  refine ret_k fun K hK => ?_;have HK := Lib.hid hK;have HM := Lib.hid hM;have HQ := Lib.hid hQ;have hW := which_any (w.alloc (.cells #[.int .i64 k, .int .i64 a, .int .i64 b, .slice x n c] 33)) k a b x n c;rw [hk] at hW;have HW := Lib.hid hW;have HB0 : Hid (BoxAt (w.alloc (.cells #[.int .i64 k, .int .i64 a, .int .i64 b, .slice x n c] 33)) w.heap.size k a b x n c) := ⟨heap_alloc_new _ _⟩;have HA0 : Hid (Chg (fun _ => False) w (w.alloc (.cells #[.int .i64 k, .int .i64 a, .int .i64 b, .slice x n c] 33))) := (Chg.refl _ _).alloc _;obtain ⟨b0, hb0⟩ : ∃ b0, b0 = w.heap.size := ⟨_, rfl⟩;have HL0 := Lib.hid hb0;clear hK hM hQ hW hk
  go_enter Tryz.func15, Tryz.ntmps15
  go_wp2_with fail
  refine HW.out.mono ?_; rintro e w1 ⟨rfl, hC1⟩;obtain ⟨c0, c1, c2, c3⟩ := (HB0.out.chg hC1).cells;have HM1 := Lib.hid (HM.out w1 (HA0.out.trans hC1 fun _ _ h => h));have HS1 : Hid (w.heap.size ≤ w1.heap.size) := (HA0.out.trans hC1 fun _ _ h => h).size;rw [← hb0] at c0 c1 c2 c3;rw [← hb0];clear hb0 HW HB0 HA0 HM hC1
  go_wp2_with fail
  refine HM1.out.mono ?_; rintro e w2 ⟨r, er, rfl, hKp, hQ2⟩;have HS2 : Hid (w.heap.size ≤ w2.heap.size) := Nat.le_trans HS1.out hKp.size;clear HM1 c0 c1 c2 c3 hKp;have HN := Lib.hid (nums_any (w2.alloc (.cells #[.int .i64 r] 3)) er (l := [r]) (row1 w2 r) (by simp));have HC2 : Hid (Chg (fun _ => False) w2 (w2.alloc (.cells #[.int .i64 r] 3))) := (Chg.refl _ _).alloc _
  go_wp2_with fail
  refine HN.out.mono ?_; rintro e w4 ⟨v, rfl, hI, hC4⟩;have HZ := Lib.hid (HK.out _ _ (tell_end HQ.out HS2.out hQ2 HC2.out hI hC4));clear HN HC2 hI hC4 HK HQ hQ2 HS1 HS2;go_wp2;go_ret;exact HZ.out
theorem tell_Make (hk : k % 18 = 0) {Q : List Int → World → Prop} (hQ : OkQ Q)
 (hM : ∀ w1, Chg (fun _ => False) w w1 → Calls Tryz.prog 23 #[hv, .int .i64 a, .slice x n c] w1 fun e w2 => ∃ r er, e = .returned (.tuple #[.int .i64 r, .int .i64 er]) ∧ Keep w.heap.size w1 w2 ∧ Hid (Q [r, er] w2)) : Tells w hv k a b x n c Q := tell_g1 hk hQ (by simp [tell_g1Rows]) hM
theorem tell_Table (hk : k % 18 = 1) {Q : List Int → World → Prop} (hQ : OkQ Q)
 (hM : ∀ w1, Chg (fun _ => False) w w1 → Calls Tryz.prog 24 #[hv] w1 fun e w2 => ∃ r er, e = .returned (.tuple #[.int .i64 r, .int .i64 er]) ∧ Keep w.heap.size w1 w2 ∧ Hid (Q [r, er] w2)) : Tells w hv k a b x n c Q := tell_g1 hk hQ (by simp [tell_g1Rows]) hM
theorem tell_Dup (hk : k % 18 = 11) {Q : List Int → World → Prop} (hQ : OkQ Q)
 (hM : ∀ w1, Chg (fun _ => False) w w1 → Calls Tryz.prog 44 #[hv, .int .i64 a] w1 fun e w2 => ∃ r er, e = .returned (.tuple #[.int .i64 r, .int .i64 er]) ∧ Keep w.heap.size w1 w2 ∧ Hid (Q [r, er] w2)) : Tells w hv k a b x n c Q := tell_g1 hk hQ (by simp [tell_g1Rows]) hM
theorem tell_Count (hk : k % 18 = 7) {Q : List Int → World → Prop} (hQ : OkQ Q)
 (hM : ∀ w1, Chg (fun _ => False) w w1 → Calls Tryz.prog 31 #[hv, .int .i64 a] w1 fun e w2 => ∃ r er, e = .returned (.tuple #[.int .i64 r, .int .i64 er]) ∧ Keep w.heap.size w1 w2 ∧ Hid (Q [r, er] w2)) : Tells w hv k a b x n c Q := tell_g1 hk hQ (by simp [tell_g1Rows]) hM
def tell_g2Rows (hv : Value) (a b : Int) : List (Int × Nat × Array Value) := [(6, 40, #[hv, .int .i64 a, .int .i64 b]), (9, 42, #[hv, .int .i64 a]), (10, 43, #[hv, .int .i64 a, .int .i64 b]), (13, 45, #[hv, .int .i64 a])]
theorem tell_g2 {q : Int} (hk : k % 18 = q) {Q : List Int → World → Prop} (hQ : OkQ Q) (hr : (q, f, args) ∈ tell_g2Rows hv a b)
 (hM : ∀ w1, Chg (fun _ => False) w w1 → Calls Tryz.prog f args w1 fun e w2 => ∃ q er, e = .returned (.tuple #[.bool q, .int .i64 er]) ∧ Keep w.heap.size w1 w2 ∧ Hid (Q [bitI q, er] w2)) : Tells w hv k a b x n c Q := by
 simp only [tell_g2Rows, List.mem_cons, Prod.mk.injEq, List.not_mem_nil, or_false] at hr;rcases hr with ⟨rfl, rfl, rfl⟩ | ⟨rfl, rfl, rfl⟩ | ⟨rfl, rfl, rfl⟩ | ⟨rfl, rfl, rfl⟩
 all_goals
  refine ret_k fun K hK => ?_;have HK := Lib.hid hK;have HM := Lib.hid hM;have HQ := Lib.hid hQ;have hW := which_any (w.alloc (.cells #[.int .i64 k, .int .i64 a, .int .i64 b, .slice x n c] 33)) k a b x n c;rw [hk] at hW;have HW := Lib.hid hW;have HB0 : Hid (BoxAt (w.alloc (.cells #[.int .i64 k, .int .i64 a, .int .i64 b, .slice x n c] 33)) w.heap.size k a b x n c) := ⟨heap_alloc_new _ _⟩;have HA0 : Hid (Chg (fun _ => False) w (w.alloc (.cells #[.int .i64 k, .int .i64 a, .int .i64 b, .slice x n c] 33))) := (Chg.refl _ _).alloc _;obtain ⟨b0, hb0⟩ : ∃ b0, b0 = w.heap.size := ⟨_, rfl⟩;have HL0 := Lib.hid hb0;clear hK hM hQ hW hk
  go_enter Tryz.func15, Tryz.ntmps15
  go_wp2_with fail
  refine HW.out.mono ?_; rintro e w1 ⟨rfl, hC1⟩;obtain ⟨c0, c1, c2, c3⟩ := (HB0.out.chg hC1).cells;have HM1 := Lib.hid (HM.out w1 (HA0.out.trans hC1 fun _ _ h => h));have HS1 : Hid (w.heap.size ≤ w1.heap.size) := (HA0.out.trans hC1 fun _ _ h => h).size;rw [← hb0] at c0 c1 c2 c3;rw [← hb0];clear hb0 HW HB0 HA0 HM hC1
  go_wp2_with fail
  refine HM1.out.mono ?_; rintro e w2 ⟨q, er, rfl, hKp, hQ2⟩;have HS2 : Hid (w.heap.size ≤ w2.heap.size) := Nat.le_trans HS1.out hKp.size;clear HM1 c0 c1 c2 c3 hKp;have HBt := Lib.hid (bit_any w2 q)
  go_wp2_with fail
  refine HBt.out.mono ?_; rintro e w9 ⟨rfl, rfl⟩;have HN := Lib.hid (nums_any (w2.alloc (.cells #[.int .i64 (bitI q)] 3)) er (l := [bitI q]) (row1 w2 (bitI q)) (by simp));have HC2 : Hid (Chg (fun _ => False) w2 (w2.alloc (.cells #[.int .i64 (bitI q)] 3))) := (Chg.refl _ _).alloc _
  go_wp2_with fail
  refine HN.out.mono ?_; rintro e w4 ⟨v, rfl, hI, hC4⟩;have HZ := Lib.hid (HK.out _ _ (tell_end HQ.out HS2.out hQ2 HC2.out hI hC4));clear HN HC2 hI hC4 HK HQ hQ2 HS1 HS2;go_wp2;go_ret;exact HZ.out
theorem tell_Remove (hk : k % 18 = 6) {Q : List Int → World → Prop} (hQ : OkQ Q)
 (hM : ∀ w1, Chg (fun _ => False) w w1 → Calls Tryz.prog 40 #[hv, .int .i64 a, .int .i64 b] w1 fun e w2 => ∃ q er, e = .returned (.tuple #[.bool q, .int .i64 er]) ∧ Keep w.heap.size w1 w2 ∧ Hid (Q [bitI q, er] w2)) : Tells w hv k a b x n c Q := tell_g2 hk hQ (by simp [tell_g2Rows]) hM
theorem tell_IsTable (hk : k % 18 = 9) {Q : List Int → World → Prop} (hQ : OkQ Q)
 (hM : ∀ w1, Chg (fun _ => False) w w1 → Calls Tryz.prog 42 #[hv, .int .i64 a] w1 fun e w2 => ∃ q er, e = .returned (.tuple #[.bool q, .int .i64 er]) ∧ Keep w.heap.size w1 w2 ∧ Hid (Q [bitI q, er] w2)) : Tells w hv k a b x n c Q := tell_g2 hk hQ (by simp [tell_g2Rows]) hM
theorem tell_Same (hk : k % 18 = 10) {Q : List Int → World → Prop} (hQ : OkQ Q)
 (hM : ∀ w1, Chg (fun _ => False) w w1 → Calls Tryz.prog 43 #[hv, .int .i64 a, .int .i64 b] w1 fun e w2 => ∃ q er, e = .returned (.tuple #[.bool q, .int .i64 er]) ∧ Keep w.heap.size w1 w2 ∧ Hid (Q [bitI q, er] w2)) : Tells w hv k a b x n c Q := tell_g2 hk hQ (by simp [tell_g2Rows]) hM
theorem tell_Finalize (hk : k % 18 = 13) {Q : List Int → World → Prop} (hQ : OkQ Q)
 (hM : ∀ w1, Chg (fun _ => False) w w1 → Calls Tryz.prog 45 #[hv, .int .i64 a] w1 fun e w2 => ∃ q er, e = .returned (.tuple #[.bool q, .int .i64 er]) ∧ Keep w.heap.size w1 w2 ∧ Hid (Q [bitI q, er] w2)) : Tells w hv k a b x n c Q := tell_g2 hk hQ (by simp [tell_g2Rows]) hM
theorem tell_Next (hk : k % 18 = 14) {Q : List Int → World → Prop} (hQ : OkQ Q)
 (hM : ∀ w1, Chg (fun _ => False) w w1 → Calls Tryz.prog 46 #[hv] w1 fun e w2 => ∃ r q er, e = .returned (.tuple #[.int .i64 r, .bool q, .int .i64 er]) ∧ Keep w.heap.size w1 w2 ∧ Hid (Q [r, bitI q, er] w2)) : Tells w hv k a b x n c Q := by
 refine ret_k fun K hK => ?_;have HK := Lib.hid hK;have HM := Lib.hid hM;have HQ := Lib.hid hQ;have hW := which_any (w.alloc (.cells #[.int .i64 k, .int .i64 a, .int .i64 b, .slice x n c] 33)) k a b x n c;rw [hk] at hW;have HW := Lib.hid hW;have HB0 : Hid (BoxAt (w.alloc (.cells #[.int .i64 k, .int .i64 a, .int .i64 b, .slice x n c] 33)) w.heap.size k a b x n c) := ⟨heap_alloc_new _ _⟩;have HA0 : Hid (Chg (fun _ => False) w (w.alloc (.cells #[.int .i64 k, .int .i64 a, .int .i64 b, .slice x n c] 33))) := (Chg.refl _ _).alloc _;obtain ⟨b0, hb0⟩ : ∃ b0, b0 = w.heap.size := ⟨_, rfl⟩;have HL0 := Lib.hid hb0;clear hK hM hQ hW hk
 go_enter Tryz.func15, Tryz.ntmps15
 go_wp2_with fail
 refine HW.out.mono ?_; rintro e w1 ⟨rfl, hC1⟩;obtain ⟨c0, c1, c2, c3⟩ := (HB0.out.chg hC1).cells;have HM1 := Lib.hid (HM.out w1 (HA0.out.trans hC1 fun _ _ h => h));have HS1 : Hid (w.heap.size ≤ w1.heap.size) := (HA0.out.trans hC1 fun _ _ h => h).size;rw [← hb0] at c0 c1 c2 c3;rw [← hb0];clear hb0 HW HB0 HA0 HM hC1
 go_wp2_with fail
 refine HM1.out.mono ?_; rintro e w2 ⟨r, q, er, rfl, hKp, hQ2⟩;have HS2 : Hid (w.heap.size ≤ w2.heap.size) := Nat.le_trans HS1.out hKp.size;clear HM1 c0 c1 c2 c3 hKp;have HBt := Lib.hid (bit_any w2 q)
 go_wp2_with fail
 refine HBt.out.mono ?_; rintro e w9 ⟨rfl, rfl⟩;have HN := Lib.hid (nums_any (w2.alloc (.cells #[.int .i64 r, .int .i64 (bitI q)] 3)) er (l := [r, bitI q]) (row2 w2 r (bitI q)) (by simp));have HC2 : Hid (Chg (fun _ => False) w2 (w2.alloc (.cells #[.int .i64 r, .int .i64 (bitI q)] 3))) := (Chg.refl _ _).alloc _
 go_wp2_with fail
 refine HN.out.mono ?_; rintro e w4 ⟨v, rfl, hI, hC4⟩;have HZ := Lib.hid (HK.out _ _ (tell_end HQ.out HS2.out hQ2 HC2.out hI hC4));clear HN HC2 hI hC4 HK HQ hQ2 HS1 HS2;go_wp2;go_ret;exact HZ.out
theorem tell_Tag (hk : k % 18 = 17) {Q : List Int → World → Prop} (hQ : OkQ Q)
 (hM : ∀ w1, Chg (fun _ => False) w w1 → Calls Tryz.prog 47 #[hv, .int .i64 a] w1 fun e w2 => ∃ r s er, e = .returned (.tuple #[.int .i64 r, .int .i64 s, .int .i64 er]) ∧ Keep w.heap.size w1 w2 ∧ Hid (Q [r, s, er] w2)) : Tells w hv k a b x n c Q := by
 refine ret_k fun K hK => ?_;have HK := Lib.hid hK;have HM := Lib.hid hM;have HQ := Lib.hid hQ;have hW := which_any (w.alloc (.cells #[.int .i64 k, .int .i64 a, .int .i64 b, .slice x n c] 33)) k a b x n c;rw [hk] at hW;have HW := Lib.hid hW;have HB0 : Hid (BoxAt (w.alloc (.cells #[.int .i64 k, .int .i64 a, .int .i64 b, .slice x n c] 33)) w.heap.size k a b x n c) := ⟨heap_alloc_new _ _⟩;have HA0 : Hid (Chg (fun _ => False) w (w.alloc (.cells #[.int .i64 k, .int .i64 a, .int .i64 b, .slice x n c] 33))) := (Chg.refl _ _).alloc _;obtain ⟨b0, hb0⟩ : ∃ b0, b0 = w.heap.size := ⟨_, rfl⟩;have HL0 := Lib.hid hb0;clear hK hM hQ hW hk
 go_enter Tryz.func15, Tryz.ntmps15
 go_wp2_with fail
 refine HW.out.mono ?_; rintro e w1 ⟨rfl, hC1⟩;obtain ⟨c0, c1, c2, c3⟩ := (HB0.out.chg hC1).cells;have HM1 := Lib.hid (HM.out w1 (HA0.out.trans hC1 fun _ _ h => h));have HS1 : Hid (w.heap.size ≤ w1.heap.size) := (HA0.out.trans hC1 fun _ _ h => h).size;rw [← hb0] at c0 c1 c2 c3;rw [← hb0];clear hb0 HW HB0 HA0 HM hC1
 go_wp2_with fail
 refine HM1.out.mono ?_; rintro e w2 ⟨r, s, er, rfl, hKp, hQ2⟩;have HS2 : Hid (w.heap.size ≤ w2.heap.size) := Nat.le_trans HS1.out hKp.size;clear HM1 c0 c1 c2 c3 hKp;have HN := Lib.hid (nums_any (w2.alloc (.cells #[.int .i64 r, .int .i64 s] 3)) er (l := [r, s]) (row2 w2 r s) (by simp));have HC2 : Hid (Chg (fun _ => False) w2 (w2.alloc (.cells #[.int .i64 r, .int .i64 s] 3))) := (Chg.refl _ _).alloc _
 go_wp2_with fail
 refine HN.out.mono ?_; rintro e w4 ⟨v, rfl, hI, hC4⟩;have HZ := Lib.hid (HK.out _ _ (tell_end HQ.out HS2.out hQ2 HC2.out hI hC4));clear HN HC2 hI hC4 HK HQ hQ2 HS1 HS2;go_wp2;go_ret;exact HZ.out
theorem tell_Drop (hk : k % 18 = 12) {Q : List Int → World → Prop} (hQ : OkQ Q)
 (hM : ∀ w1, Chg (fun _ => False) w w1 → Calls Tryz.prog 30 #[hv, .int .i64 a] w1 fun e w2 => ∃ er, e = .returned (.int .i64 er) ∧ Keep w.heap.size w1 w2 ∧ Hid (Q [er] w2)) : Tells w hv k a b x n c Q := by
 refine ret_k fun K hK => ?_;have HK := Lib.hid hK;have HM := Lib.hid hM;have HQ := Lib.hid hQ;have hW := which_any (w.alloc (.cells #[.int .i64 k, .int .i64 a, .int .i64 b, .slice x n c] 33)) k a b x n c;rw [hk] at hW;have HW := Lib.hid hW;have HB0 : Hid (BoxAt (w.alloc (.cells #[.int .i64 k, .int .i64 a, .int .i64 b, .slice x n c] 33)) w.heap.size k a b x n c) := ⟨heap_alloc_new _ _⟩;have HA0 : Hid (Chg (fun _ => False) w (w.alloc (.cells #[.int .i64 k, .int .i64 a, .int .i64 b, .slice x n c] 33))) := (Chg.refl _ _).alloc _;obtain ⟨b0, hb0⟩ : ∃ b0, b0 = w.heap.size := ⟨_, rfl⟩;have HL0 := Lib.hid hb0;clear hK hM hQ hW hk
 go_enter Tryz.func15, Tryz.ntmps15
 go_wp2_with fail
 refine HW.out.mono ?_; rintro e w1 ⟨rfl, hC1⟩;obtain ⟨c0, c1, c2, c3⟩ := (HB0.out.chg hC1).cells;have HM1 := Lib.hid (HM.out w1 (HA0.out.trans hC1 fun _ _ h => h));have HS1 : Hid (w.heap.size ≤ w1.heap.size) := (HA0.out.trans hC1 fun _ _ h => h).size;rw [← hb0] at c0 c1 c2 c3;rw [← hb0];clear hb0 HW HB0 HA0 HM hC1
 go_wp2_with fail
 refine HM1.out.mono ?_; rintro e w2 ⟨er, rfl, hKp, hQ2⟩;have HS2 : Hid (w.heap.size ≤ w2.heap.size) := Nat.le_trans HS1.out hKp.size;clear HM1 c0 c1 c2 c3 hKp;have HN := Lib.hid (nums_any (w2) er (l := []) (Row.nil _ _ _) (by simp));have HC2 : Hid (Chg (fun _ => False) w2 (w2)) := Chg.refl _ _
 go_wp2_with fail
 refine HN.out.mono ?_; rintro e w4 ⟨v, rfl, hI, hC4⟩;have HZ := Lib.hid (HK.out _ _ (tell_end HQ.out HS2.out hQ2 HC2.out hI hC4));clear HN HC2 hI hC4 HK HQ hQ2 HS1 HS2;go_wp2;go_ret;exact HZ.out
def tell_g3Rows (hv : Value) : List (Int × Nat × Array Value) := [(15, 11, #[hv]), (16, 12, #[hv])]
theorem tell_g3 {q : Int} (hk : k % 18 = q) {Q : List Int → World → Prop} (hQ : OkQ Q) (hr : (q, f, args) ∈ tell_g3Rows hv)
 (hM : ∀ w1, Chg (fun _ => False) w w1 → Calls Tryz.prog f args w1 fun e w2 => e = .returned (.tuple #[]) ∧ Keep w.heap.size w1 w2 ∧ Hid (Q [0] w2)) : Tells w hv k a b x n c Q := by
 simp only [tell_g3Rows, List.mem_cons, Prod.mk.injEq, List.not_mem_nil, or_false] at hr;rcases hr with ⟨rfl, rfl, rfl⟩ | ⟨rfl, rfl, rfl⟩
 all_goals
  refine ret_k fun K hK => ?_;have HK := Lib.hid hK;have HM := Lib.hid hM;have HQ := Lib.hid hQ;have hW := which_any (w.alloc (.cells #[.int .i64 k, .int .i64 a, .int .i64 b, .slice x n c] 33)) k a b x n c;rw [hk] at hW;have HW := Lib.hid hW;have HB0 : Hid (BoxAt (w.alloc (.cells #[.int .i64 k, .int .i64 a, .int .i64 b, .slice x n c] 33)) w.heap.size k a b x n c) := ⟨heap_alloc_new _ _⟩;have HA0 : Hid (Chg (fun _ => False) w (w.alloc (.cells #[.int .i64 k, .int .i64 a, .int .i64 b, .slice x n c] 33))) := (Chg.refl _ _).alloc _;obtain ⟨b0, hb0⟩ : ∃ b0, b0 = w.heap.size := ⟨_, rfl⟩;have HL0 := Lib.hid hb0;clear hK hM hQ hW hk
  go_enter Tryz.func15, Tryz.ntmps15
  go_wp2_with fail
  refine HW.out.mono ?_; rintro e w1 ⟨rfl, hC1⟩;obtain ⟨c0, c1, c2, c3⟩ := (HB0.out.chg hC1).cells;have HM1 := Lib.hid (HM.out w1 (HA0.out.trans hC1 fun _ _ h => h));have HS1 : Hid (w.heap.size ≤ w1.heap.size) := (HA0.out.trans hC1 fun _ _ h => h).size;rw [← hb0] at c0 c1 c2 c3;rw [← hb0];clear hb0 HW HB0 HA0 HM hC1
  go_wp2_with fail
  refine HM1.out.mono ?_; rintro e w2 ⟨rfl, hKp, hQ2⟩;have HS2 : Hid (w.heap.size ≤ w2.heap.size) := Nat.le_trans HS1.out hKp.size;clear HM1 c0 c1 c2 c3 hKp;have HN := Lib.hid (nums_any (w2) 0 (l := []) (Row.nil _ _ _) (by simp));have HC2 : Hid (Chg (fun _ => False) w2 (w2)) := Chg.refl _ _
  go_wp2_with fail
  refine HN.out.mono ?_; rintro e w4 ⟨v, rfl, hI, hC4⟩;have HZ := Lib.hid (HK.out _ _ (tell_end HQ.out HS2.out hQ2 HC2.out hI hC4));clear HN HC2 hI hC4 HK HQ hQ2 HS1 HS2;go_wp2;go_ret;exact HZ.out
theorem tell_Minor (hk : k % 18 = 15) {Q : List Int → World → Prop} (hQ : OkQ Q)
 (hM : ∀ w1, Chg (fun _ => False) w w1 → Calls Tryz.prog 11 #[hv] w1 fun e w2 => e = .returned (.tuple #[]) ∧ Keep w.heap.size w1 w2 ∧ Hid (Q [0] w2)) : Tells w hv k a b x n c Q := tell_g3 hk hQ (by simp [tell_g3Rows]) hM
theorem tell_Major (hk : k % 18 = 16) {Q : List Int → World → Prop} (hQ : OkQ Q)
 (hM : ∀ w1, Chg (fun _ => False) w w1 → Calls Tryz.prog 12 #[hv] w1 fun e w2 => e = .returned (.tuple #[]) ∧ Keep w.heap.size w1 w2 ∧ Hid (Q [0] w2)) : Tells w hv k a b x n c Q := tell_g3 hk hQ (by simp [tell_g3Rows]) hM
theorem tell_Get (hk : k % 18 = 2) {Q : List Int → World → Prop} (hQ : OkQ Q)
 (hM : ∀ w1, Chg (fun _ => False) w w1 → Calls Tryz.prog 32 #[hv, .int .i64 a, .int .i64 b] w1 fun e w2 => ∃ cr cn er, e = .returned (.tuple #[.agg #[.bool cr, .int .i64 cn], .int .i64 er]) ∧ Keep w.heap.size w1 w2 ∧ Hid (Q [bitI cr, cn, er] w2)) : Tells w hv k a b x n c Q := by
 refine ret_k fun K hK => ?_;have HK := Lib.hid hK;have HM := Lib.hid hM;have HQ := Lib.hid hQ;have hW := which_any (w.alloc (.cells #[.int .i64 k, .int .i64 a, .int .i64 b, .slice x n c] 33)) k a b x n c;rw [hk] at hW;have HW := Lib.hid hW;have HB0 : Hid (BoxAt (w.alloc (.cells #[.int .i64 k, .int .i64 a, .int .i64 b, .slice x n c] 33)) w.heap.size k a b x n c) := ⟨heap_alloc_new _ _⟩;have HA0 : Hid (Chg (fun _ => False) w (w.alloc (.cells #[.int .i64 k, .int .i64 a, .int .i64 b, .slice x n c] 33))) := (Chg.refl _ _).alloc _;obtain ⟨b0, hb0⟩ : ∃ b0, b0 = w.heap.size := ⟨_, rfl⟩;have HL0 := Lib.hid hb0;clear hK hM hQ hW hk
 go_enter Tryz.func15, Tryz.ntmps15
 go_wp2_with fail
 refine HW.out.mono ?_; rintro e w1 ⟨rfl, hC1⟩;obtain ⟨c0, c1, c2, c3⟩ := (HB0.out.chg hC1).cells;have HM1 := Lib.hid (HM.out w1 (HA0.out.trans hC1 fun _ _ h => h));have HS1 : Hid (w.heap.size ≤ w1.heap.size) := (HA0.out.trans hC1 fun _ _ h => h).size;rw [← hb0] at c0 c1 c2 c3;rw [← hb0];clear hb0 HW HB0 HA0 HM hC1
 go_wp2_with fail
 refine HM1.out.mono ?_; rintro e w2 ⟨cr, cn, er, rfl, hKp, hQ2⟩;have HS2 : Hid (w.heap.size ≤ w2.heap.size) := Nat.le_trans HS1.out hKp.size;clear HM1 c0 c1 c2 c3 hKp;have HCe := Lib.hid (cell_any (w2.alloc (.cells #[.bool cr, .int .i64 cn] 54)) cr cn)
 go_wp2_with fail
 refine HCe.out.mono ?_; rintro e w9 ⟨v9, rfl, hI9, hC9⟩;have HN := Lib.hid (nums_any (w9) er (l := [bitI cr, cn]) (hI9.row) (by simp));have HC2 : Hid (Chg (fun _ => False) w2 (w9)) := ((Chg.refl (fun _ => False) w2).alloc _).trans hC9 fun _ _ h => h
 go_wp2_with fail
 refine HN.out.mono ?_; rintro e w4 ⟨v, rfl, hI, hC4⟩;have HZ := Lib.hid (HK.out _ _ (tell_end HQ.out HS2.out hQ2 HC2.out hI hC4));clear HN HC2 hI hC4 HK HQ hQ2 HS1 HS2;go_wp2;go_ret;exact HZ.out
theorem tell_Find (hk : k % 18 = 5) {Q : List Int → World → Prop} (hQ : OkQ Q)
 (hM : ∀ w1, Chg (fun _ => False) w w1 → Calls Tryz.prog 27 #[hv, .int .i64 a, .int .i64 b] w1 fun e w2 => ∃ cr cn q er, e = .returned (.tuple #[.agg #[.bool cr, .int .i64 cn], .bool q, .int .i64 er]) ∧ Keep w.heap.size w1 w2 ∧ Hid (Q [bitI cr, cn, bitI q, er] w2)) : Tells w hv k a b x n c Q := by
 refine ret_k fun K hK => ?_;have HK := Lib.hid hK;have HM := Lib.hid hM;have HQ := Lib.hid hQ;have hW := which_any (w.alloc (.cells #[.int .i64 k, .int .i64 a, .int .i64 b, .slice x n c] 33)) k a b x n c;rw [hk] at hW;have HW := Lib.hid hW;have HB0 : Hid (BoxAt (w.alloc (.cells #[.int .i64 k, .int .i64 a, .int .i64 b, .slice x n c] 33)) w.heap.size k a b x n c) := ⟨heap_alloc_new _ _⟩;have HA0 : Hid (Chg (fun _ => False) w (w.alloc (.cells #[.int .i64 k, .int .i64 a, .int .i64 b, .slice x n c] 33))) := (Chg.refl _ _).alloc _;obtain ⟨b0, hb0⟩ : ∃ b0, b0 = w.heap.size := ⟨_, rfl⟩;have HL0 := Lib.hid hb0;clear hK hM hQ hW hk
 go_enter Tryz.func15, Tryz.ntmps15
 go_wp2_with fail
 refine HW.out.mono ?_; rintro e w1 ⟨rfl, hC1⟩;obtain ⟨c0, c1, c2, c3⟩ := (HB0.out.chg hC1).cells;have HM1 := Lib.hid (HM.out w1 (HA0.out.trans hC1 fun _ _ h => h));have HS1 : Hid (w.heap.size ≤ w1.heap.size) := (HA0.out.trans hC1 fun _ _ h => h).size;rw [← hb0] at c0 c1 c2 c3;rw [← hb0];clear hb0 HW HB0 HA0 HM hC1
 go_wp2_with fail
 refine HM1.out.mono ?_; rintro e w2 ⟨cr, cn, q, er, rfl, hKp, hQ2⟩;have HS2 : Hid (w.heap.size ≤ w2.heap.size) := Nat.le_trans HS1.out hKp.size;clear HM1 c0 c1 c2 c3 hKp;have HCe := Lib.hid (cell_any (w2.alloc (.cells #[.bool cr, .int .i64 cn] 54)) cr cn)
 go_wp2_with fail
 refine HCe.out.mono ?_; rintro e w9 ⟨v9, rfl, hI9, hC9⟩;have HBt := Lib.hid (bit_any w9 q);obtain ⟨a8, cap8, w8, happ, hr8, hC8, hloc8⟩ := appOne hI9.row (bitI q) (by simp);have HC8 : Hid (Chg (fun _ => False) w2 w8) := (((Chg.refl (fun _ => False) w2).alloc _).trans hC9 fun _ _ h => h).trans hC8 fun b hb hv => by
  have := hI9.new b hv;simp at this; omega
 have HR8 := Lib.hid hr8;clear hr8 hC8 hloc8 hI9 hC9 HCe
 go_wp2_with fail
 refine HBt.out.mono ?_; rintro e w7 ⟨rfl, rfl⟩;have HN := Lib.hid (nums_any w8 er (l := [bitI cr, cn] ++ [bitI q]) HR8.out (by simp))
 go_wp2_with (first | (at_builtin; go_must (refine wpList_val rfl (exec_append rfl (by exact happ)) ?_)))
 refine HN.out.mono ?_; rintro e w4 ⟨v, rfl, hI, hC4⟩;have HZ := Lib.hid (HK.out _ _ (tell_end HQ.out HS2.out hQ2 HC8.out hI hC4));clear HN HC8 hI hC4 HK HQ hQ2 HS1 HS2 happ HR8 HBt;go_wp2;go_ret;exact HZ.out
structure PreSet (w wx : World) (b0 : Nat) (k a b : Int) (x : Option Addr) (n c : Nat) : Prop where
 low : w.heap.size ≤ b0
 chg : Chg (fun _ => False) w wx
 box : BoxAt wx b0 k a b x n c
theorem PreSet.still (h : PreSet w wx b0 k a b x n c) (hC : Chg (fun _ => False) wx w') : PreSet w w' b0 k a b x n c := ⟨h.low, h.chg.trans hC fun _ _ h => h, h.box.chg hC⟩
structure MidSet (w wx : World) (b0 : Nat) (k a b : Int) (x : Option Addr) (n c : Nat) (Q : List Int → World → Prop) (er : Int) : Prop where
 size : w.heap.size ≤ wx.heap.size
 box : BoxAt wx b0 k a b x n c
 q : Q [er] wx
abbrev Box4 (wx : World) (b0 : Nat) (k a b : Int) (x : Option Addr) (n c : Nat) : Prop := wx.cell? ⟨b0, 0, none⟩ = some (.int .i64 k) ∧ wx.cell? ⟨b0, 1, none⟩ = some (.int .i64 a) ∧ wx.cell? ⟨b0, 2, none⟩ = some (.int .i64 b) ∧ wx.cell? ⟨b0, 3, none⟩ = some (.slice x n c)
theorem PreSet.cell (h : PreSet w wx b0 k a b x n c) (hcs : CellsAt w x n cs) :
 Calls Tryz.prog 38 #[.agg #[.int .i64 k, .int .i64 a, .int .i64 b, .slice x n c]] wx fun e w' => e = .returned (.agg #[.bool (opCell b cs).ref, .int .i64 (opCell b cs).num]) ∧ Box4 w' b0 k a b x n c ∧ Hid (PreSet w w' b0 k a b x n c) := by
 refine (opCell_any wx k a b x n c cs (hcs.chg0 h.chg)).mono ?_;rintro e w' ⟨rfl, hC⟩;exact ⟨rfl, (h.still hC).box.cells, Lib.hid (h.still hC)⟩
theorem MidSet.nums {Q : List Int → World → Prop} {er : Int} (h : MidSet w wx b0 k a b x n c Q er) (hQ : OkQ Q) :
 Calls Tryz.prog 36 #[.int .i64 er, .slice none 0 0] wx fun e w' => ∃ v, e = .returned v ∧ Box4 w' b0 k a b x n c ∧ Hid (∃ v' l', Ending.returned v = .returned v' ∧ w.heap.size ≤ w'.heap.size ∧ IRow w' w.heap.size v' l' ∧ Hid (Q l' w')) := by
 refine (nums_any wx er (l := []) (Row.nil _ _ _) (by simp)).mono ?_;rintro e w' ⟨v, rfl, hI, hC⟩;exact ⟨v, rfl, (h.box.chg hC).cells, Lib.hid (tell_end hQ h.size (Lib.hid h.q) (Chg.refl _ _) hI hC)⟩
theorem PreSet.doSet (h : PreSet w wx b0 k a b x n c) {Q : List Int → World → Prop} 
 (hM : ∀ w1, Chg (fun _ => False) w w1 → Calls Tryz.prog 28 #[hv, .int .i64 a, .int .i64 b, d.agg] w1 fun e w2 => ∃ er, e = .returned (.int .i64 er) ∧ Keep w.heap.size w1 w2 ∧ Hid (Q [er] w2)) :
 Calls Tryz.prog 28 #[hv, .int .i64 a, .int .i64 b, .agg #[.bool d.ref, .int .i64 d.num]] wx fun e w' => ∃ er, e = .returned (.int .i64 er) ∧ Box4 w' b0 k a b x n c ∧ Hid (MidSet w w' b0 k a b x n c Q er) := by
 refine (hM wx h.chg).mono ?_;rintro e w2 ⟨er, rfl, hK, hQ⟩;have hb : BoxAt w2 b0 k a b x n c := ⟨hK.at_ h.low h.box.at_⟩;exact ⟨er, rfl, hb.cells, Lib.hid ⟨Nat.le_trans h.chg.size hK.size, hb, hQ.out⟩⟩
theorem tell_Set (hk : k % 18 = 3) {Q : List Int → World → Prop} (hQ : OkQ Q) (hcs : CellsAt w x n cs)
 (hM : ∀ w1, Chg (fun _ => False) w w1 → Calls Tryz.prog 28 #[hv, .int .i64 a, .int .i64 b, (opCell b cs).agg] w1 fun e w2 => ∃ er, e = .returned (.int .i64 er) ∧ Keep w.heap.size w1 w2 ∧ Hid (Q [er] w2)) : Tells w hv k a b x n c Q := by
 refine ret_k fun K hK => ?_;have HK := Lib.hid hK;have HM := Lib.hid hM;have HQ := Lib.hid hQ;have HCs := Lib.hid hcs;have hW := which_any (w.alloc (.cells #[.int .i64 k, .int .i64 a, .int .i64 b, .slice x n c] 33)) k a b x n c;rw [hk] at hW;have HW := Lib.hid hW;obtain ⟨b0, hb0⟩ : ∃ b0, b0 = w.heap.size := ⟨_, rfl⟩;have HP0 : Hid (PreSet w (w.alloc (.cells #[.int .i64 k, .int .i64 a, .int .i64 b, .slice x n c] 33)) b0 k a b x n c) := by
  rw [hb0]; exact ⟨Nat.le_refl _, (Chg.refl _ _).alloc _, ⟨heap_alloc_new _ _⟩⟩
 clear hK hM hQ hW hk hcs
 go_enter Tryz.func15, Tryz.ntmps15
 go_wp2_with fail
 refine HW.out.mono ?_; rintro e w1 ⟨rfl, hC1⟩;have hP : Hid (PreSet w w1 b0 k a b x n c) := HP0.out.still hC1;obtain ⟨q0, q1, q2, q3⟩ := hP.out.box.cells;rw [← hb0];clear hb0 HW HP0 hC1;obtain ⟨dr, hdr⟩ : ∃ dr, dr = (opCell b cs).ref := ⟨_, rfl⟩;obtain ⟨dn, hdn⟩ : ∃ dn, dn = (opCell b cs).num := ⟨_, rfl⟩;have HCe : Hid (∀ wx, PreSet w wx b0 k a b x n c → Calls Tryz.prog 38 #[.agg #[.int .i64 k, .int .i64 a, .int .i64 b, .slice x n c]] wx fun e w' => e = .returned (.agg #[.bool dr, .int .i64 dn]) ∧ Box4 w' b0 k a b x n c ∧ Hid (PreSet w w' b0 k a b x n c)) := fun wx h => by
  rw [hdr, hdn]; exact h.cell HCs.out
 have HDo : Hid (∀ wx, PreSet w wx b0 k a b x n c → Calls Tryz.prog 28 #[hv, .int .i64 a, .int .i64 b, .agg #[.bool dr, .int .i64 dn]] wx fun e w' => ∃ er, e = .returned (.int .i64 er) ∧ Box4 w' b0 k a b x n c ∧ Hid (MidSet w w' b0 k a b x n c Q er)) := fun wx h => by
  rw [hdr, hdn]; exact h.doSet HM.out
 clear hdr hdn HM HCs
 go_upto_region 12 with fail
 go_region_held3 (fun wx => wx.cell? ⟨b0, 0, none⟩ = some (.int .i64 k) ∧ wx.cell? ⟨b0, 1, none⟩ = some (.int .i64 a) ∧ wx.cell? ⟨b0, 2, none⟩ = some (.int .i64 b) ∧ wx.cell? ⟨b0, 3, none⟩ = some (.slice x n c))
  (first | exact ⟨q0, q1, q2, q3⟩ | exact (hP.out.still ((Chg.refl _ _).drewN _)).box.cells)
  (first
   | (go_at_call 38; refine (HCe.out _ (hP.out.still ((Chg.refl _ _).drewN _))).mono ?_; rintro e wn ⟨rfl, ⟨q0, q1, q2, q3⟩, hP⟩)
   | (go_at_call 38; refine (HCe.out _ hP.out).mono ?_; rintro e wn ⟨rfl, ⟨q0, q1, q2, q3⟩, hP⟩)
   | (go_at_call 28; refine (HDo.out _ hP.out).mono ?_; rintro e wn ⟨er, rfl, ⟨q0, q1, q2, q3⟩, hMi⟩)
   | (go_at_call 36; refine (hMi.out.nums HQ.out).mono ?_; rintro e wn ⟨v, rfl, ⟨q0, q1, q2, q3⟩, hE⟩))
 all_goals
  go_wp2;go_ret;exact HK.out _ _ hE.out
theorem PreSet.doPut (h : PreSet w wx b0 k a b x n c) {Q : List Int → World → Prop} 
 (hM : ∀ w1, Chg (fun _ => False) w w1 → Calls Tryz.prog 25 #[hv, .int .i64 a, .int .i64 b, d.agg] w1 fun e w2 => ∃ er, e = .returned (.int .i64 er) ∧ Keep w.heap.size w1 w2 ∧ Hid (Q [er] w2)) :
 Calls Tryz.prog 25 #[hv, .int .i64 a, .int .i64 b, .agg #[.bool d.ref, .int .i64 d.num]] wx fun e w' => ∃ er, e = .returned (.int .i64 er) ∧ Box4 w' b0 k a b x n c ∧ Hid (MidSet w w' b0 k a b x n c Q er) := by
 refine (hM wx h.chg).mono ?_;rintro e w2 ⟨er, rfl, hK, hQ⟩;have hb : BoxAt w2 b0 k a b x n c := ⟨hK.at_ h.low h.box.at_⟩;exact ⟨er, rfl, hb.cells, Lib.hid ⟨Nat.le_trans h.chg.size hK.size, hb, hQ.out⟩⟩
theorem tell_Put (hk : k % 18 = 4) {Q : List Int → World → Prop} (hQ : OkQ Q) (hcs : CellsAt w x n cs)
 (hM : ∀ w1, Chg (fun _ => False) w w1 → Calls Tryz.prog 25 #[hv, .int .i64 a, .int .i64 b, (opCell b cs).agg] w1 fun e w2 => ∃ er, e = .returned (.int .i64 er) ∧ Keep w.heap.size w1 w2 ∧ Hid (Q [er] w2)) : Tells w hv k a b x n c Q := by
 refine ret_k fun K hK => ?_;have HK := Lib.hid hK;have HM := Lib.hid hM;have HQ := Lib.hid hQ;have HCs := Lib.hid hcs;have hW := which_any (w.alloc (.cells #[.int .i64 k, .int .i64 a, .int .i64 b, .slice x n c] 33)) k a b x n c;rw [hk] at hW;have HW := Lib.hid hW;obtain ⟨b0, hb0⟩ : ∃ b0, b0 = w.heap.size := ⟨_, rfl⟩;have HP0 : Hid (PreSet w (w.alloc (.cells #[.int .i64 k, .int .i64 a, .int .i64 b, .slice x n c] 33)) b0 k a b x n c) := by
  rw [hb0]; exact ⟨Nat.le_refl _, (Chg.refl _ _).alloc _, ⟨heap_alloc_new _ _⟩⟩
 clear hK hM hQ hW hk hcs
 go_enter Tryz.func15, Tryz.ntmps15
 go_wp2_with fail
 refine HW.out.mono ?_; rintro e w1 ⟨rfl, hC1⟩;have hP : Hid (PreSet w w1 b0 k a b x n c) := HP0.out.still hC1;obtain ⟨q0, q1, q2, q3⟩ := hP.out.box.cells;rw [← hb0];clear hb0 HW HP0 hC1;obtain ⟨dr, hdr⟩ : ∃ dr, dr = (opCell b cs).ref := ⟨_, rfl⟩;obtain ⟨dn, hdn⟩ : ∃ dn, dn = (opCell b cs).num := ⟨_, rfl⟩;have HCe : Hid (∀ wx, PreSet w wx b0 k a b x n c → Calls Tryz.prog 38 #[.agg #[.int .i64 k, .int .i64 a, .int .i64 b, .slice x n c]] wx fun e w' => e = .returned (.agg #[.bool dr, .int .i64 dn]) ∧ Box4 w' b0 k a b x n c ∧ Hid (PreSet w w' b0 k a b x n c)) := fun wx h => by
  rw [hdr, hdn]; exact h.cell HCs.out
 have HDo : Hid (∀ wx, PreSet w wx b0 k a b x n c → Calls Tryz.prog 25 #[hv, .int .i64 a, .int .i64 b, .agg #[.bool dr, .int .i64 dn]] wx fun e w' => ∃ er, e = .returned (.int .i64 er) ∧ Box4 w' b0 k a b x n c ∧ Hid (MidSet w w' b0 k a b x n c Q er)) := fun wx h => by
  rw [hdr, hdn]; exact h.doPut HM.out
 clear hdr hdn HM HCs
 go_upto_region 14 with fail
 go_region_held3 (fun wx => wx.cell? ⟨b0, 0, none⟩ = some (.int .i64 k) ∧ wx.cell? ⟨b0, 1, none⟩ = some (.int .i64 a) ∧ wx.cell? ⟨b0, 2, none⟩ = some (.int .i64 b) ∧ wx.cell? ⟨b0, 3, none⟩ = some (.slice x n c))
  (first | exact ⟨q0, q1, q2, q3⟩ | exact (hP.out.still ((Chg.refl _ _).drewN _)).box.cells)
  (first
   | (go_at_call 38; refine (HCe.out _ (hP.out.still ((Chg.refl _ _).drewN _))).mono ?_; rintro e wn ⟨rfl, ⟨q0, q1, q2, q3⟩, hP⟩)
   | (go_at_call 38; refine (HCe.out _ hP.out).mono ?_; rintro e wn ⟨rfl, ⟨q0, q1, q2, q3⟩, hP⟩)
   | (go_at_call 25; refine (HDo.out _ hP.out).mono ?_; rintro e wn ⟨er, rfl, ⟨q0, q1, q2, q3⟩, hMi⟩)
   | (go_at_call 36; refine (hMi.out.nums HQ.out).mono ?_; rintro e wn ⟨v, rfl, ⟨q0, q1, q2, q3⟩, hE⟩))
 all_goals
  go_wp2;go_ret;exact HK.out _ _ hE.out
structure HB (w0 w : World) (hb : Nat) (L : List Nat) (I : IS) (m : Nat) : Prop where
 hp : HP w hb (List.range w0.heap.size ++ L) I m
 chg : Chg (fun _ => False) w0 w
theorem HB.got (h : HB w0 w hb L I m) (hG : Got w hb (List.range w0.heap.size ++ L) I' m' w') : HB w0 w' hb L I' m' :=
 ⟨hG.hp, h.chg.trans hG.chg fun _ hj hn => hn (List.mem_append_left _ (List.mem_range.2 hj))⟩
theorem HB.still (h : HB w0 w hb L I m) (hC : Chg (fun _ => False) w w') : HB w0 w' hb L I m := ⟨h.hp.still hC, h.chg.trans hC fun _ _ h => h⟩
theorem HB.drewN (h : HB w0 w hb L I m) (n : Nat) : HB w0 (w.drewN n) hb L I m := h.still ((Chg.refl _ _).drewN n)
theorem HB.sub {L' : List Nat} (h : HB w0 w hb L I m) (hs : ∀ b ∈ L', b ∈ L) : HB w0 w hb L' I m :=
 ⟨h.hp.sub fun b hb => by
  rcases List.mem_append.1 hb with hb | hb
  · exact List.mem_append_left _ hb
  · exact List.mem_append_right _ (hs b hb), h.chg⟩
theorem HB.alloc (h : HB w0 w hb L I m) (X : Obj) : HB w0 (w.alloc X) hb (w.heap.size :: L) I m :=
 ⟨(h.hp.alloc X).sub fun b hb => by
  simp only [List.mem_append, List.mem_cons] at hb ⊢;rcases hb with hb | hb | hb
  · exact .inr (.inl hb)
  · exact .inl hb
  · exact .inr (.inr hb), h.chg.alloc X⟩
theorem HB.keeps (_h : HB w0 w hb L I m) (hG : Got w hb (List.range w0.heap.size ++ L) I' m' w') {b : Nat} (hb : b ∈ L) {x : Obj} (hx : w.heap[b]? = some x) : w'.heap[b]? = some x :=
 hG.chg.at hx (fun h => h (List.mem_append_right _ hb))
structure SP (w0 w : World) (hb b : Nat) (c : Wd) (I : IS) (m : Nat) : Prop where
 hp : HB w0 w hb [b] I m
 at_ : w.heap[b]? = some (.cells #[.bool c.ref, .int .i64 c.num] 54 (0, 0))
theorem SP.drewN {b : Nat} {c : Wd} (h : SP w0 w hb b c I m) (n : Nat) : SP w0 (w.drewN n) hb b c I m := ⟨h.hp.drewN n, h.at_⟩
theorem SP.still {b : Nat} {c : Wd} (h : SP w0 w hb b c I m) (hC : Chg (fun _ => False) w w') : SP w0 w' hb b c I m := ⟨h.hp.still hC, hC.at h.at_ (fun h => h)⟩
theorem SP.got {b : Nat} {c : Wd} (h : SP w0 w hb b c I m) (hG : Got w hb (List.range w0.heap.size ++ [b]) I' m' w') : SP w0 w' hb b c I' m' := ⟨h.hp.got hG, h.hp.keeps hG (by simp) h.at_⟩
theorem SP.c0 {b : Nat} {c : Wd} (h : SP w0 w hb b c I m) : w.cell? ⟨b, 0, none⟩ = some (.bool c.ref) ∧ w.cell? ⟨b, 1, none⟩ = some (.int .i64 c.num) := ⟨cellAt h.at_ 0, cellAt h.at_ 1⟩
theorem SP.make (h : HB w0 w hb L I m) (c : Wd) : SP w0 (w.alloc (.cells #[.bool c.ref, .int .i64 c.num] 54)) hb w.heap.size c I m :=
 ⟨(h.alloc _).sub (by simp), heap_alloc_new w _⟩
theorem SP.num {b : Nat} {c : Wd} (h : SP w0 w hb b c I m) (n : Int) :
 Calls Tryz.prog 26 #[.int .i64 n] w fun e w' => e = .returned (.agg #[.bool false, .int .i64 n]) ∧ (w'.cell? ⟨b, 0, none⟩ = some (.bool c.ref) ∧ w'.cell? ⟨b, 1, none⟩ = some (.int .i64 c.num)) ∧ Hid (SP w0 w' hb b c I m) := by
 refine (num_any w n).mono ?_;rintro e w' ⟨rfl, hC⟩;exact ⟨rfl, (h.still hC).c0, Lib.hid (h.still hC)⟩
theorem SP.ref {b : Nat} {c : Wd} (h : SP w0 w hb b c I m) (n : Int) :
 Calls Tryz.prog 29 #[.int .i64 n] w fun e w' => e = .returned (.agg #[.bool true, .int .i64 n]) ∧ (w'.cell? ⟨b, 0, none⟩ = some (.bool c.ref) ∧ w'.cell? ⟨b, 1, none⟩ = some (.int .i64 c.num)) ∧ Hid (SP w0 w' hb b c I m) := by
 refine (ref_any w n).mono ?_;rintro e w' ⟨rfl, hC⟩;exact ⟨rfl, (h.still hC).c0, Lib.hid (h.still hC)⟩
theorem HB.num (h : HB w0 w hb L I m) (n : Int) :
 Calls Tryz.prog 26 #[.int .i64 n] w fun e w' => e = .returned (.agg #[.bool false, .int .i64 n]) ∧ Hid (HB w0 w' hb L I m) := by
 refine (num_any w n).mono ?_;rintro e w' ⟨rfl, hC⟩;exact ⟨rfl, Lib.hid (h.still hC)⟩
theorem HB.ref (h : HB w0 w hb L I m) (n : Int) :
 Calls Tryz.prog 29 #[.int .i64 n] w fun e w' => e = .returned (.agg #[.bool true, .int .i64 n]) ∧ Hid (HB w0 w' hb L I m) := by
 refine (ref_any w n).mono ?_;rintro e w' ⟨rfl, hC⟩;exact ⟨rfl, Lib.hid (h.still hC)⟩
theorem HB.used (h : HB w0 w hb L I m) (h1 : I.words I.live = u) (h2 : I.words I.here = u) :
 Calls Tryz.prog 20 #[.pointer (some ⟨hb, 0, none⟩)] w fun e w' => e = .returned (.int .i64 u) ∧ Hid (HB w0 w' hb L I m) := by
 refine (h.hp.used_eq h1 h2).mono ?_;rintro e w' ⟨rfl, hG⟩;exact ⟨rfl, Lib.hid (h.got hG)⟩
theorem SP.used {b : Nat} {c : Wd} (h : SP w0 w hb b c I m) (h1 : I.words I.live = u) (h2 : I.words I.here = u) :
 Calls Tryz.prog 20 #[.pointer (some ⟨hb, 0, none⟩)] w fun e w' => e = .returned (.int .i64 u) ∧ (w'.cell? ⟨b, 0, none⟩ = some (.bool c.ref) ∧ w'.cell? ⟨b, 1, none⟩ = some (.int .i64 c.num)) ∧ Hid (SP w0 w' hb b c I m) := by
 refine (h.hp.hp.used_eq h1 h2).mono ?_;rintro e w' ⟨rfl, hG⟩;exact ⟨rfl, (h.got hG).c0, Lib.hid (h.got hG)⟩
namespace Sane
theorem c_make1 (h : HB w0 w hb L (IS.start 40) m) (hm : m < 9000) :
 Calls Tryz.prog 23 #[.pointer (some ⟨hb, 0, none⟩), .int .i64 0, .slice none 0 0] w fun e w' => e = .returned (.tuple #[.int .i64 0, .int .i64 0]) ∧ Hid (HB w0 w' hb L I1 (m + 1)) := by
 refine (h.hp.make (ample hm (by simp [IS.start]) (by simp [IS.start]) (by simp [IS.start])) 0 (cs := []) (.of rfl fun j c hj => by simp at hj) (by simp)).mono ?_;rw [make1];rintro e w' ⟨rfl, hG⟩;exact ⟨rfl, Lib.hid (h.got hG)⟩
theorem c_table (h : HB w0 w hb L I1 m) (hm : m < 9000) :
 Calls Tryz.prog 24 #[.pointer (some ⟨hb, 0, none⟩)] w fun e w' => e = .returned (.tuple #[.int .i64 1, .int .i64 0]) ∧ Hid (HB w0 w' hb L I2 (m + 1)) := by
 refine (h.hp.table (ample hm (by simp [I1, S]) (by simp [I1, S]) (by simp [I1, S, n0]))).mono ?_;rw [Sane.table];rintro e w' ⟨rfl, hG⟩;exact ⟨rfl, Lib.hid (h.got hG)⟩
theorem c_put (h : HB w0 w hb L I2 m) (hm : m < 9000) :
 Calls Tryz.prog 25 #[.pointer (some ⟨hb, 0, none⟩), .int .i64 1, .int .i64 0, .agg #[.bool false, .int .i64 5]] w fun e w' => e = .returned (.int .i64 0) ∧ Hid (HB w0 w' hb L I3 (m + 1)) := by
 refine (h.hp.put (ample hm (by simp [I2, S]) (by simp [I2, S]) (by simp [I2, S, n0, nt])) 1 0 ⟨false, 5⟩).mono ?_;rw [Sane.put];rintro e w' ⟨rfl, hG⟩;exact ⟨rfl, Lib.hid (h.got hG)⟩
theorem c_find (h : HB w0 w hb L I3 m) (hm : m < 9000) :
 Calls Tryz.prog 27 #[.pointer (some ⟨hb, 0, none⟩), .int .i64 1, .int .i64 0] w fun e w' => e = .returned (.tuple #[.agg #[.bool false, .int .i64 5], .bool true, .int .i64 0]) ∧ Hid (HB w0 w' hb L I3 (m + 1)) := by
 refine (h.hp.find (ample hm (by simp [I3, S]) (by simp [I3, S]) (by simp [I3, S, n0, nt])) 1 0).mono ?_;rw [Sane.find];rintro e w' ⟨rfl, hG⟩;exact ⟨rfl, Lib.hid (h.got hG)⟩
theorem c_set {b : Nat} {c : Wd} (h : SP w0 w hb b c I3 m) :
 Calls Tryz.prog 28 #[.pointer (some ⟨hb, 0, none⟩), .int .i64 0, .int .i64 0, .agg #[.bool false, .int .i64 1]] w fun e w' => e = .returned (.int .i64 222) ∧ (w'.cell? ⟨b, 0, none⟩ = some (.bool c.ref) ∧ w'.cell? ⟨b, 1, none⟩ = some (.int .i64 c.num)) ∧ Hid (SP w0 w' hb b c I3 m) := by
 refine (h.hp.hp.set_index (n := 0) (name := 0) (d := n0) (c := ⟨false, 1⟩) (i := 0) rfl rfl rfl rfl (.inr (by simp [n0]))).mono ?_;rintro e w' ⟨rfl, hG⟩;exact ⟨rfl, (h.got hG).c0, Lib.hid (h.got hG)⟩
theorem c_make2 (h : HB w0 w hb L I3 m) (hm : m < 9000) {b : Nat} (h0 : w.heap[b]? = some (.cells #[.bool true, .int .i64 0, .bool false, .int .i64 7] 54 (0, 0))) :
 Calls Tryz.prog 23 #[.pointer (some ⟨hb, 0, none⟩), .int .i64 1, .slice (some ⟨b, 0, none⟩) 2 2] w fun e w' => e = .returned (.tuple #[.int .i64 2, .int .i64 0]) ∧ Hid (HB w0 w' hb L I4 (m + 1)) := by
 refine (h.hp.make (ample hm (by simp [I3, S]) (by simp [I3, S]) (by simp [I3, S, n0, nt])) 1 (cs := [⟨true, 0⟩, ⟨false, 7⟩]) (.of rfl fun j c hj => ?_) (by simp)).mono ?_
 · match j, hj with
   | 0, hj => simp at hj; subst hj; exact ⟨b, 0, rfl, cellAt h0 0, cellAt h0 1⟩
   | 1, hj => simp at hj; subst hj; exact ⟨b, 0, rfl, cellAt h0 2, cellAt h0 3⟩
   | j + 2, hj => simp at hj
 rw [Sane.make2];rintro e w' ⟨rfl, hG⟩;exact ⟨rfl, Lib.hid (h.got hG)⟩
theorem c_drop1 (h : HB w0 w hb L I4 m) :
 Calls Tryz.prog 30 #[.pointer (some ⟨hb, 0, none⟩), .int .i64 0] w fun e w' => e = .returned (.int .i64 0) ∧ Hid (HB w0 w' hb L I5 (m + 1)) := by
 refine (h.hp.drop 0).mono ?_;rw [Sane.drop1];rintro e w' ⟨rfl, hG⟩;exact ⟨rfl, Lib.hid (h.got hG)⟩
theorem c_major1 (h : HB w0 w hb L I5 m) :
 Calls Tryz.prog 12 #[.pointer (some ⟨hb, 0, none⟩)] w fun e w' => e = .returned (.tuple #[]) ∧ Hid (HB w0 w' hb L I5 (m + 1)) := by
 have := h.hp.major;rw [Sane.major1] at this;refine this.mono ?_;rintro e w' ⟨rfl, hG⟩;exact ⟨rfl, Lib.hid (h.got hG)⟩
theorem c_count1 (h : HB w0 w hb L I5 m) :
 Calls Tryz.prog 31 #[.pointer (some ⟨hb, 0, none⟩), .int .i64 1] w fun e w' => e = .returned (.tuple #[.int .i64 1, .int .i64 0]) ∧ Hid (HB w0 w' hb L I5 m) := by
 refine (h.hp.count (t := 1) (name := 1) (d := nt [e5]) rfl rfl rfl).mono ?_;rintro e w' ⟨u, rfl, ⟨h1, h2⟩, hG⟩;have h3 : 1 ≤ u := by have := count1.2.1; simp only [nt] at h1; omega
 have h4 : u ≤ 1 := by have := count1.2.2; simp only [nt] at h2; omega
 have : u = 1 := by omega
 subst this;exact ⟨rfl, Lib.hid (h.got hG)⟩
theorem c_get (h : HB w0 w hb L I5 m) (hm : m < 9000) :
 Calls Tryz.prog 32 #[.pointer (some ⟨hb, 0, none⟩), .int .i64 2, .int .i64 0] w fun e w' => e = .returned (.tuple #[.agg #[.bool true, .int .i64 0], .int .i64 0]) ∧ Hid (HB w0 w' hb L I7 (m + 1)) := by
 refine (h.hp.get_ref (ample hm (by simp [I5, S]) (by simp [I5, S]) (by simp [I5, S, n0, nt, nb])) (n := 2) (name := 2) (d := nb) (i := 0) (x := 0) rfl rfl rfl rfl).mono ?_;rw [fresh5, grant5];rintro e w' ⟨rfl, hG⟩;exact ⟨rfl, Lib.hid (h.got hG)⟩
theorem c_drop2 (h : HB w0 w hb L I7 m) :
 Calls Tryz.prog 30 #[.pointer (some ⟨hb, 0, none⟩), .int .i64 0] w fun e w' => e = .returned (.int .i64 0) ∧ Hid (HB w0 w' hb L I5 (m + 1)) := by
 refine (h.hp.drop 0).mono ?_;rw [Sane.drop2];rintro e w' ⟨rfl, hG⟩;exact ⟨rfl, Lib.hid (h.got hG)⟩
theorem c_drop3 (h : HB w0 w hb L I5 m) :
 Calls Tryz.prog 30 #[.pointer (some ⟨hb, 0, none⟩), .int .i64 2] w fun e w' => e = .returned (.int .i64 0) ∧ Hid (HB w0 w' hb L I9 (m + 1)) := by
 refine (h.hp.drop 2).mono ?_;rw [Sane.drop3];rintro e w' ⟨rfl, hG⟩;exact ⟨rfl, Lib.hid (h.got hG)⟩
theorem c_major2 (h : HB w0 w hb L I9 m) :
 Calls Tryz.prog 12 #[.pointer (some ⟨hb, 0, none⟩)] w fun e w' => e = .returned (.tuple #[]) ∧ Hid (HB w0 w' hb L I10 (m + 1)) := by
 have := h.hp.major;rw [Sane.major2] at this;refine this.mono ?_;rintro e w' ⟨rfl, hG⟩;exact ⟨rfl, Lib.hid (h.got hG)⟩
theorem c_count2 (h : HB w0 w hb L I10 m) :
 Calls Tryz.prog 31 #[.pointer (some ⟨hb, 0, none⟩), .int .i64 1] w fun e w' => e = .returned (.tuple #[.int .i64 0, .int .i64 0]) ∧ Hid (HB w0 w' hb L I10 m) := by
 refine (h.hp.count (t := 1) (name := 1) (d := nt [e5]) rfl rfl rfl).mono ?_;rintro e w' ⟨u, rfl, ⟨h1, h2⟩, hG⟩;have h4 : u ≤ 0 := by have := count2.2; simp only [nt] at h2; omega
 have : u = 0 := by omega
 subst this;exact ⟨rfl, Lib.hid (h.got hG)⟩
end Sane
theorem HP.allNew (h : HP w hb L I m) (hC : Chg (fun b => b ∈ L) w w1) : HP w1 hb (L ++ (List.range w1.heap.size).filter fun b => decide (w.heap.size ≤ b)) I m := by
 obtain ⟨g, A, h1, h2, h3, h4⟩ := h;refine ⟨g, A, h1.frame hC fun b hb => (h4 b hb).2, h2, h3, fun b hb => ?_⟩;rcases List.mem_append.1 hb with hb | hb
 · exact ⟨Nat.lt_of_lt_of_le (h4 b hb).1 hC.size, (h4 b hb).2⟩
 · obtain ⟨k1, k2⟩ := List.mem_filter.1 hb;have k3 := List.mem_range.1 k1;have k4 := of_decide_eq_true k2;refine ⟨k3, ?_⟩;cases ho : g.own b with
   | none => rfl
   | some r => have := h1.lt b (by rw [ho]; rfl); omega
theorem Got.still (h : Got w hb L I m w1) (hC : Chg (fun _ => False) w1 w2) : Got w hb L I m w2 := ⟨h.hp.still hC, h.chg.trans hC fun _ _ h => h.elim⟩
theorem HP.step {J : IS} (h : HP w hb L I m) (hC : Chg (fun _ => False) w w1) {f : FuncId} {R : Ending → Prop} 
 (hcall : ∀ L', HP w1 hb L' I m → Calls Tryz.prog f args w1 fun e w2 => R e ∧ Hid (Got w1 hb L' J m' w2)) : Calls Tryz.prog f args w1 fun e w2 => R e ∧ Keep w.heap.size w1 w2 ∧ Hid (Got w hb L J m' w2) := by
 refine (hcall _ (h.allNew (hC.mono fun _ _ h => h.elim))).mono ?_;rintro e w2 ⟨he, hG⟩;refine ⟨he, ⟨hG.out.chg.size, fun b h1 h2 => hG.out.chg.block b h2 fun hn => hn (List.mem_append_right _ (List.mem_filter.2 ⟨List.mem_range.2 h2, decide_eq_true h1⟩))⟩, Lib.hid ⟨hG.out.hp.sub fun b hb => List.mem_append_left _ hb, (hC.mono fun _ _ h => h.elim).trans hG.out.chg fun b hb hn hl => hn (List.mem_append_left _ hl)⟩⟩
noncomputable def IS.tell (I : IS) (q : Nat) (a b : Int) (cs : List Wd) : List Int × IS := match q with
 | 0 => ([(I.make a cs).1, (I.make a cs).2.1], (I.make a cs).2.2)
 | 1 => ([I.table.1, I.table.2.1], I.table.2.2)
 | 2 => ([bitI (I.get a b).1.ref, (I.get a b).1.num, (I.get a b).2.1], (I.get a b).2.2)
 | 3 => ([(I.set a b (opCell b cs)).1], (I.set a b (opCell b cs)).2)
 | 4 => ([(I.put a b (opCell b cs)).1], (I.put a b (opCell b cs)).2)
 | 5 => ([bitI (I.find a b).1.ref, (I.find a b).1.num, bitI (I.find a b).2.1, (I.find a b).2.2.1], (I.find a b).2.2.2)
 | 6 => ([bitI (I.remove a b).1, (I.remove a b).2.1], (I.remove a b).2.2)
 | 9 => ([bitI (I.isTable a).1, (I.isTable a).2], I)
 | 10 => ([bitI (I.same a b).1, (I.same a b).2], I)
 | 11 => ([(I.dup a).1, (I.dup a).2.1], (I.dup a).2.2)
 | 12 => ([(I.drop a).1], (I.drop a).2)
 | 13 => ([bitI (I.fin a).1, (I.fin a).2.1], (I.fin a).2.2)
 | 17 => ([(I.tagOf a).1, (I.tagOf a).2.1, (I.tagOf a).2.2], I)
 | _ => ([], I)
def Shown (q : Nat) : Prop := q < 18 ∧ q ≠ 7 ∧ q ≠ 8 ∧ q ≠ 14 ∧ q ≠ 15 ∧ q ≠ 16
def TellQ (w : World) (hb : Nat) (L : List Nat) (r : List Int × IS) (m : Nat) (l : List Int) (w' : World) : Prop := l = r.1 ∧ Got w hb L r.2 m w'
theorem tellQ_ok (w : World) (hb : Nat) (L : List Nat) (r : List Int × IS) (m : Nat) : OkQ (TellQ w hb L r m) := fun _ _ _ h hC => ⟨h.1, h.2.still hC⟩
theorem HP.tells (h : HP w hb L I m) (ha : Ample I m) (k a b : Int) (c : Nat) (hcs : CellsAt w x n cs) (hn : n ≤ 8796093021952) {q : Nat} (hq : k % 18 = q) (hS : Shown q) :
 Tells w (.pointer (some ⟨hb, 0, none⟩)) k a b x n c (TellQ w hb L (I.tell q a b cs) (m + 1)) := by
 have hok := tellQ_ok w hb L (I.tell q a b cs) (m + 1);have more : ∀ {w w' : World} {L : List Nat} {J : IS}, Got w hb L J m w' → Got w hb L J (m + 1) w' := fun h => ⟨h.hp.more (by omega), h.chg⟩;obtain ⟨h18, h7, h8, h14, h15, h16⟩ := hS
 match q, h18, h7, h8, h14, h15, h16, hq, hok with
 | 0, _, _, _, _, _, _, hq, hok =>
   refine tell_Make hq hok fun w1 hC => ?_;refine (h.step hC fun L' h1 => h1.make ha a (hcs.chg0 hC) hn).mono ?_;rintro e w2 ⟨rfl, hK, hG⟩;exact ⟨_, _, rfl, hK, Lib.hid ⟨rfl, hG.out⟩⟩
 | 1, _, _, _, _, _, _, hq, hok =>
   refine tell_Table hq hok fun w1 hC => ?_;refine (h.step hC fun L' h1 => h1.table ha).mono ?_;rintro e w2 ⟨rfl, hK, hG⟩;exact ⟨_, _, rfl, hK, Lib.hid ⟨rfl, hG.out⟩⟩
 | 2, _, _, _, _, _, _, hq, hok =>
   refine tell_Get hq hok fun w1 hC => ?_;refine (h.step hC fun L' h1 => h1.get ha a b).mono ?_;rintro e w2 ⟨rfl, hK, hG⟩;exact ⟨_, _, _, rfl, hK, Lib.hid ⟨rfl, hG.out⟩⟩
 | 3, _, _, _, _, _, _, hq, hok =>
   refine tell_Set hq hok hcs fun w1 hC => ?_;refine (h.step hC fun L' h1 => h1.set a b (opCell b cs)).mono ?_;rintro e w2 ⟨rfl, hK, hG⟩;exact ⟨_, rfl, hK, Lib.hid ⟨rfl, more hG.out⟩⟩
 | 4, _, _, _, _, _, _, hq, hok =>
   refine tell_Put hq hok hcs fun w1 hC => ?_;refine (h.step hC fun L' h1 => h1.put ha a b (opCell b cs)).mono ?_;rintro e w2 ⟨rfl, hK, hG⟩;exact ⟨_, rfl, hK, Lib.hid ⟨rfl, hG.out⟩⟩
 | 5, _, _, _, _, _, _, hq, hok =>
   refine tell_Find hq hok fun w1 hC => ?_;refine (h.step hC fun L' h1 => h1.find ha a b).mono ?_;rintro e w2 ⟨rfl, hK, hG⟩;exact ⟨_, _, _, _, rfl, hK, Lib.hid ⟨rfl, hG.out⟩⟩
 | 6, _, _, _, _, _, _, hq, hok =>
   refine tell_Remove hq hok fun w1 hC => ?_;refine (h.step hC fun L' h1 => h1.remove a b).mono ?_;rintro e w2 ⟨rfl, hK, hG⟩;exact ⟨_, _, rfl, hK, Lib.hid ⟨rfl, hG.out⟩⟩
 | 9, _, _, _, _, _, _, hq, hok =>
   refine tell_IsTable hq hok fun w1 hC => ?_;refine (h.step hC fun L' h1 => h1.isTable a).mono ?_;rintro e w2 ⟨rfl, hK, hG⟩;exact ⟨_, _, rfl, hK, Lib.hid ⟨rfl, more hG.out⟩⟩
 | 10, _, _, _, _, _, _, hq, hok =>
   refine tell_Same hq hok fun w1 hC => ?_;refine (h.step hC fun L' h1 => h1.sameH a b).mono ?_;rintro e w2 ⟨rfl, hK, hG⟩;exact ⟨_, _, rfl, hK, Lib.hid ⟨rfl, more hG.out⟩⟩
 | 11, _, _, _, _, _, _, hq, hok =>
   refine tell_Dup hq hok fun w1 hC => ?_;refine (h.step hC fun L' h1 => h1.dup ha a).mono ?_;rintro e w2 ⟨rfl, hK, hG⟩;exact ⟨_, _, rfl, hK, Lib.hid ⟨rfl, hG.out⟩⟩
 | 12, _, _, _, _, _, _, hq, hok =>
   refine tell_Drop hq hok fun w1 hC => ?_;refine (h.step hC fun L' h1 => h1.drop a).mono ?_;rintro e w2 ⟨rfl, hK, hG⟩;exact ⟨_, rfl, hK, Lib.hid ⟨rfl, hG.out⟩⟩
 | 13, _, _, _, _, _, _, hq, hok =>
   refine tell_Finalize hq hok fun w1 hC => ?_;refine (h.step hC fun L' h1 => h1.fin ha a).mono ?_;rintro e w2 ⟨rfl, hK, hG⟩;exact ⟨_, _, rfl, hK, Lib.hid ⟨rfl, hG.out⟩⟩
 | 17, _, _, _, _, _, _, hq, hok =>
   refine tell_Tag hq hok fun w1 hC => ?_;refine (h.step hC fun L' h1 => h1.tagOf a).mono ?_;rintro e w2 ⟨rfl, hK, hG⟩;exact ⟨_, _, _, rfl, hK, Lib.hid ⟨rfl, more hG.out⟩⟩
 | 7, _, h7, _, _, _, _, _, _ => exact absurd rfl h7
 | 8, _, _, h8, _, _, _, _, _ => exact absurd rfl h8
 | 14, _, _, _, h, _, _, _, _ => exact absurd rfl h
 | 15, _, _, _, _, h, _, _, _ => exact absurd rfl h
 | 16, _, _, _, _, _, h, _, _ => exact absurd rfl h
 | q + 18, h18, _, _, _, _, _, _, _ => exact absurd h18 (by omega)
theorem filter_both (p : Int → Bool) : ∀ l : List Int, (l.filter p).length + (l.filter fun n => !p n).length = l.length
 | [] => rfl
 | x :: l => by
   have := filter_both p l;cases h : p x <;> simp [h] <;> omega
theorem IS.tab_nd {t key name kn : Int} {d : Nd} (h : I.tab t key = .inr (name, kn, d)) : I.nd name = some d := by
 unfold IS.tab at h
 split at h
 · cases h
 · split at h
   · cases h
   · split at h
     · cases h
     · split at h
       · rename_i hd _
         simp only [Sum.inr.injEq, Prod.mk.injEq] at h;obtain ⟨rfl, -, rfl⟩ := h;exact hd
       · cases h
structure OpV where
 kind : Int
 a : Int
 b : Int
 x : Option Addr
 n : Nat
 c : Nat
 cs : List Wd
def OpV.q (o : OpV) : Nat := (o.kind % 18).toNat
theorem OpV.q_eq (o : OpV) : o.kind % 18 = (o.q : Int) := by unfold OpV.q; omega
structure OpAt (w : World) (p : Addr) (o : OpV) : Prop where
 c0 : w.cell? p = some (.int .i64 o.kind)
 c1 : w.cell? ⟨p.block, p.off + 1, none⟩ = some (.int .i64 o.a)
 c2 : w.cell? ⟨p.block, p.off + 2, none⟩ = some (.int .i64 o.b)
 c3 : w.cell? ⟨p.block, p.off + 3, none⟩ = some (.slice o.x o.n o.c)
 cs : CellsAt w o.x o.n o.cs
 n : o.n ≤ 8796093021952
theorem OpAt.chg0 {o : OpV} (h : OpAt w p o) (hC : Chg (fun _ => False) w w') : OpAt w' p o :=
 ⟨cell_chg hC h.c0 fun h => h, cell_chg hC h.c1 fun h => h, cell_chg hC h.c2 fun h => h, cell_chg hC h.c3 fun h => h, h.cs.chg0 hC, h.n⟩
def OpsAt (w : World) (a : Option Addr) (n : Nat) (o : Nat → OpV) : Prop := ∀ i, i < n → ∃ x, a = some x ∧ OpAt w (x.add (i * 4)) (o i)
theorem OpsAt.chg0 {a : Option Addr} {o : Nat → OpV} (h : OpsAt w a n o) (hC : Chg (fun _ => False) w w') : OpsAt w' a n o := fun i hi => by
 obtain ⟨x, h1, h2⟩ := h i hi;exact ⟨x, h1, h2.chg0 hC⟩
abbrev Op4 (w : World) (p : Addr) (o : OpV) : Prop := w.cell? p = some (.int .i64 o.kind) ∧ w.cell? ⟨p.block, p.off + 1, none⟩ = some (.int .i64 o.a) ∧ w.cell? ⟨p.block, p.off + 2, none⟩ = some (.int .i64 o.b) ∧ w.cell? ⟨p.block, p.off + 3, none⟩ = some (.slice o.x o.n o.c)
theorem OpAt.op4 {o : OpV} (h : OpAt w p o) : Op4 w p o := ⟨h.c0, h.c1, h.c2, h.c3⟩
theorem sameInts_eq (w : World) {v' : Value} (h : Row w 3 1 v l.length (intCells l)) (h' : Row w 3 1 v' l.length (intCells l)) :
 Calls Tryz.prog 14 #[v, v'] w fun e w' => e = .returned (.bool true) ∧ Chg (fun _ => False) w w' := by
 refine ret_k fun K hK => ?_;have HK := Lib.hid hK;obtain ⟨a, c, rfl, _, hle, _⟩ := h.slice;obtain ⟨a', c', rfl, _, hle', _⟩ := h'.slice;have HC1 : Hid (∀ j, j < l.length → ∀ w', Chg (fun _ => False) w w' → ∃ g, a = some ⟨g, 0, none⟩ ∧ w'.cell? ⟨g, j, none⟩ = some (.int .i64 (l.getD j 0))) := fun j hj w' hC => by
  obtain ⟨g, h1, _, h2⟩ := h.cells (by omega);have hc := h2 j (.int .i64 (l.getD j 0)) (by simp [intCells, List.getElem?_eq_getElem hj, List.getD_eq_getElem?_getD]);exact ⟨g, h1, cell_chg hC hc fun h => h⟩
 have HC2 : Hid (∀ j, j < l.length → ∀ w', Chg (fun _ => False) w w' → ∃ g, a' = some ⟨g, 0, none⟩ ∧ w'.cell? ⟨g, j, none⟩ = some (.int .i64 (l.getD j 0))) := fun j hj w' hC => by
  obtain ⟨g, h1, _, h2⟩ := h'.cells (by omega);have hc := h2 j (.int .i64 (l.getD j 0)) (by simp [intCells, List.getElem?_eq_getElem hj, List.getD_eq_getElem?_getD]);exact ⟨g, h1, cell_chg hC hc fun h => h⟩
 have hmax : l.length ≤ 9223372036854775807 := by
  have := h.2.1;unfold maxLen at this;omega
 have HMx := Lib.hid hmax;clear hK h h' hle hle' hmax;obtain ⟨len, hlen⟩ : ∃ len, len = l.length := ⟨_, rfl⟩;rw [← hlen] at HC1 HC2 HMx ⊢;clear hlen
 go_enter Tryz.func14, Tryz.ntmps14
 go_wp2
 go_loopw [5] (fun i wr => ∃ j : Nat, j ≤ len ∧ i = .int .i64 j ∧ Hid (Chg (fun _ => False) w wr)) (fun i _ => len - (intOf i).toNat)
 case atStart => exact ⟨0, by omega, rfl, Lib.hid (Chg.refl _ _)⟩
 case round =>
  obtain ⟨j, hj, rfl, HC⟩ := hrel;by_cases hlt : j < len
  · obtain ⟨g, e1, k1⟩ := HC1.out j hlt wr HC.out;obtain ⟨g', e2, k2⟩ := HC2.out j hlt wr HC.out;subst e1 e2;have hl2 : (j : Int) < (len : Int) := by omega
    have hwj : IntKind.i64.wrap ((j : Int) + 1) = (j : Int) + 1 := IntWalk.i64_in _ (by have := HMx.out; omega);generalize l.getD j 0 = z at *
    go_upto_region 6 with fail
    go_region
    have HC3 : Hid (∀ k, Chg (fun _ => False) w (wr.drewN k)) := fun k => HC.out.drewN k;clear k1 k2;go_wp2
    go_roundw
    case rel => exact ⟨j + 1, by omega, by go_num, Lib.hid (by first | exact HC3.out _ | exact HC.out.drew | exact HC.out)⟩
    case measure => simp [intOf]; omega
  · obtain rfl : j = len := by omega
    have HZ := Lib.hid (HK.out _ _ ⟨rfl, HC.out⟩);clear HC1 HC2 HK;go_wp2;go_ret;exact HZ.out
theorem new_no (w : World) (young old : Int) (h : young < 4 ∨ 60000 < young ∨ old < 4 ∨ 60000 < old) :
 Calls Tryz.prog 9 #[.int .i64 young, .int .i64 old] w fun e w' => e = .returned (.tuple #[.pointer none, .int .i64 1]) ∧ Chg (fun _ => False) w w' := by
 have HC : Hid (Chg (fun _ => False) w w) := Chg.refl _ _;by_cases h1 : young < 4
 · clear h
   go_enter Tryz.func9, Tryz.ntmps9
   go_wp2
   go_ret2
   exact ⟨rfl, HC.out⟩
 · by_cases h2 : 60000 < young
   · clear h
     go_enter Tryz.func9, Tryz.ntmps9
     go_wp2
     go_ret2
     exact ⟨rfl, HC.out⟩
   · by_cases h3 : old < 4
     · clear h
       go_enter Tryz.func9, Tryz.ntmps9
       go_wp2
       go_ret2
       exact ⟨rfl, HC.out⟩
     · have h4 : 60000 < old := by omega
       clear h
       go_enter Tryz.func9, Tryz.ntmps9
       go_wp2
       go_ret2
       exact ⟨rfl, HC.out⟩
def since (w w' : World) : List Nat := (List.range w'.heap.size).filter fun b => decide (w.heap.size ≤ b)
theorem mem_since {k : Nat} : k ∈ since w w' ↔ w.heap.size ≤ k ∧ k < w'.heap.size := by
 unfold since;rw [List.mem_filter, List.mem_range, decide_eq_true_eq];exact And.comm
theorem wp_region_quiet_cls {P : Program} {id : Nat} {Q : Exit → Act → World → Prop} {a : Act} {l : List Oper} {C : World → Prop} (hm : P.follows .mixedOrders = true) (hB : Region.lexB .any l.toArray = true) (hC : C (w.drewN 1))
 (h : wpQuiet P l.toArray C (fun a' => ∀ w', C w' → Q .normal a' w') l a) : (Code.region id l.toArray true).wp P Q a w :=
 wp_region_quiet (C := C) hm hB hC (by simpa using h)
theorem HB.new (w : World) (young old : Int) (h : 4 ≤ young ∧ young ≤ 60000 ∧ 4 ≤ old ∧ old ≤ 60000) :
 Calls Tryz.prog 9 #[.int .i64 young, .int .i64 old] w fun e w' => ∃ hb, e = .returned (.tuple #[.pointer (some ⟨hb, 0, none⟩), .int .i64 0]) ∧ Hid (HB w w' hb [] (IS.start old) 0) := by
 refine (HP.new w young old h (L := List.range w.heap.size) (fun b hb => List.mem_range.1 hb)).mono ?_;rintro e w' ⟨hb, rfl, hG⟩;refine ⟨hb, rfl, Lib.hid ⟨hG.out.hp.sub (by simp), hG.out.chg.mono fun j hj hn => hn (List.mem_range.2 hj)⟩⟩
theorem sane_any (w : World) :
 Calls Tryz.prog 8 #[] w fun e w' => e = .returned (.bool true) ∧ Chg (fun _ => False) w w' := by
 refine ret_k fun K hK => ?_;have HK := Lib.hid hK;clear hK;have HNew := Lib.hid (HB.new w 20 40 (by omega))
 go_enter Tryz.func8, Tryz.ntmps8
 go_wp2_with fail
 refine HNew.out.mono ?_; rintro e w1 ⟨hb, rfl, hG1⟩;clear HNew;have H1 := Lib.hid (Sane.c_make1 hG1.out (by omega));clear hG1
 go_wp2_with fail
 refine H1.out.mono ?_; rintro e w2 ⟨rfl, hG2⟩;have H2 := Lib.hid (Sane.c_table hG2.out (by omega));clear H1 hG2
 go_wp2_with fail
 refine H2.out.mono ?_; rintro e w3 ⟨rfl, hG3⟩;have H3 := Lib.hid (HB.num hG3.out 5);clear H2 hG3
 go_wp2_with fail
 refine H3.out.mono ?_; rintro e w4 ⟨rfl, hG4⟩;have H4 := Lib.hid (Sane.c_put hG4.out (by omega));clear H3 hG4
 go_wp2_with fail
 refine H4.out.mono ?_; rintro e w5 ⟨rfl, hG5⟩;have H5 := Lib.hid (Sane.c_find hG5.out (by omega));clear H4 hG5
 go_wp2_with fail
 refine H5.out.mono ?_; rintro e w6 ⟨rfl, hG6⟩;have hS6 := Lib.hid (SP.make hG6.out ⟨false, 5⟩);clear H5 hG6;obtain ⟨b, hb0⟩ : ∃ b, b = w6.heap.size := ⟨_, rfl⟩;obtain ⟨W8, hW8⟩ : ∃ W8, W8 = w6.alloc (.cells #[.bool false, .int .i64 5] 54) := ⟨_, rfl⟩;rw [← hb0, ← hW8] at hS6;have hS := hS6;obtain ⟨q0, q1⟩ := hS6.out.c0;simp only [] at q0 q1;clear hS6
 go_upto_region 8 with fail
 rw [← hb0, ← hW8];clear hb0 hW8
 go_cut [84] from 50 to 83 (fun s84 wx => s84 = .bool false ∧ Hid (SP w wx hb b ⟨false, 5⟩ Sane.I3 4))
 case first =>
  go_region_held3 (fun wx => wx.cell? ⟨b, 0, none⟩ = some (.bool false) ∧ wx.cell? ⟨b, 1, none⟩ = some (.int .i64 5) ∧ Hid (SP w wx hb b ⟨false, 5⟩ Sane.I3 4))
   (first | exact ⟨q0, q1, hS⟩ | exact ⟨q0, q1, Lib.hid (hS.out.drewN _)⟩ | exact ⟨q0, q1, Lib.hid ((hS.out.drewN _).drewN _)⟩)
   (first
    | (go_at_call 26; refine (SP.num (SP.drewN hS.out _) _).mono ?_; rintro e wn ⟨rfl, ⟨q0, q1⟩, hS⟩)
    | (go_at_call 26; refine (SP.num hS.out _).mono ?_; rintro e wn ⟨rfl, ⟨q0, q1⟩, hS⟩)
    | (go_at_call 20; refine (SP.used hS.out Sane.I3_words Sane.I3_here).mono ?_; rintro e wn ⟨rfl, ⟨q0, q1⟩, hS⟩)
    | (go_at_call 28; refine (Sane.c_set hS.out).mono ?_; rintro e wn ⟨rfl, ⟨q0, q1⟩, hS⟩))
  all_goals (go_wp2; go_meet; exact ⟨rfl, hS⟩)
 case rest =>
  obtain ⟨rfl, hS9⟩ := hcut;clear hS q0 q1;have HA := Lib.hid (HB.ref hS9.out.hp 0)
  go_wp2_with fail
  refine HA.out.mono ?_; rintro e w9 ⟨rfl, hG9⟩;have HB1 := Lib.hid (HB.num hG9.out 7);clear HA hG9 hS9
  go_wp2_with fail
  refine HB1.out.mono ?_; rintro e w10 ⟨rfl, hG10⟩;clear HB1;have HC1 := Lib.hid (Sane.c_make2 (HB.alloc hG10.out (.cells #[.bool true, .int .i64 0, .bool false, .int .i64 7] 54)) (by omega) (heap_alloc_new w10 _));clear hG10
  go_wp2_with fail
  refine HC1.out.mono ?_; rintro e w11 ⟨rfl, hG11⟩;have HD1 := Lib.hid (Sane.c_drop1 hG11.out);clear HC1 hG11
  go_wp2_with fail
  refine HD1.out.mono ?_; rintro e w12 ⟨rfl, hG12⟩;have HE1 := Lib.hid (Sane.c_major1 hG12.out);clear HD1 hG12
  go_wp2_with fail
  refine HE1.out.mono ?_; rintro e w13 ⟨rfl, hG13⟩;have HF1 := Lib.hid (Sane.c_count1 hG13.out);clear HE1 hG13
  go_wp2_with fail
  refine HF1.out.mono ?_; rintro e w14 ⟨rfl, hG14⟩;have HG1 := Lib.hid (Sane.c_get hG14.out (by omega));clear HF1 hG14
  go_wp2_with fail
  refine HG1.out.mono ?_; rintro e w15 ⟨rfl, hG15⟩;clear HG1;have hS15 := Lib.hid (SP.make hG15.out ⟨true, 0⟩);clear hG15;obtain ⟨b2, hb2⟩ : ∃ b2, b2 = w15.heap.size := ⟨_, rfl⟩;obtain ⟨W15, hW15⟩ : ∃ W15, W15 = w15.alloc (.cells #[.bool true, .int .i64 0] 54) := ⟨_, rfl⟩;rw [← hb2, ← hW15] at hS15;have hS := hS15;obtain ⟨q0, q1⟩ := hS15.out.c0;simp only [] at q0 q1;clear hS15
  go_upto_region 15 with fail
  rw [← hb2, ← hW15];clear hb2 hW15
  go_cut [129] from 111 to 128 (fun s129 wx => s129 = .bool false ∧ Hid (∃ m, m < 9000 ∧ SP w wx hb b2 ⟨true, 0⟩ Sane.I7 m))
  case first =>
   go_region_held3 (fun wx => wx.cell? ⟨b2, 0, none⟩ = some (.bool true) ∧ wx.cell? ⟨b2, 1, none⟩ = some (.int .i64 0) ∧ Hid (SP w wx hb b2 ⟨true, 0⟩ Sane.I7 (4 + 1 + 1 + 1 + 1)))
    (first | exact ⟨q0, q1, hS⟩ | exact ⟨q0, q1, Lib.hid (hS.out.drewN _)⟩ | exact ⟨q0, q1, Lib.hid ((hS.out.drewN _).drewN _)⟩)
    (first
     | (go_at_call 29; refine (SP.ref (SP.drewN hS.out _) _).mono ?_; rintro e wn ⟨rfl, ⟨q0, q1⟩, hS⟩)
     | (go_at_call 29; refine (SP.ref hS.out _).mono ?_; rintro e wn ⟨rfl, ⟨q0, q1⟩, hS⟩))
   all_goals (go_wp2; go_meet; exact ⟨rfl, Lib.hid ⟨_, by omega, hS.out⟩⟩)
  case rest =>
   obtain ⟨rfl, hS16⟩ := hcut;clear hS q0 q1;obtain ⟨m, hm, hS17⟩ := hS16.out;have HA2 := Lib.hid (Sane.c_drop2 hS17.hp);clear hS16 hS17
   go_wp2_with fail
   refine HA2.out.mono ?_; rintro e w18 ⟨rfl, hG18⟩;have HB2 := Lib.hid (Sane.c_drop3 hG18.out);clear HA2 hG18
   go_wp2_with fail
   refine HB2.out.mono ?_; rintro e w19 ⟨rfl, hG19⟩;have HC2 := Lib.hid (Sane.c_major2 hG19.out);clear HB2 hG19
   go_wp2_with fail
   refine HC2.out.mono ?_; rintro e w20 ⟨rfl, hG20⟩;have HD2 := Lib.hid (Sane.c_count2 hG20.out);clear HC2 hG20
   go_wp2_with fail
   refine HD2.out.mono ?_; rintro e w21 ⟨rfl, hG21⟩;have HE2 := Lib.hid (HB.used hG21.out Sane.I10_words Sane.I10_here);clear HD2 hG21
   go_wp2_with fail
   refine HE2.out.mono ?_; rintro e w22 ⟨rfl, hG22⟩;have HZ := Lib.hid (HK.out _ _ ⟨rfl, hG22.out.chg⟩);clear HE2 hG22 HK;go_wp2;go_ret;exact HZ.out
end Go.Proofs.YtelghmmcbgfjnaaGreat
