/-
  The function sane returns true. (A part of the proof, joined of: Yl, Ym, Yn.)
-/
import Derived.Test.YtelghmmcbgfjnaaH18
import Derived.Deep.RegionHeld3
/-! The function sane returns true. -/
namespace Go.Proofs.Ytelghmmcbgfjnaa
open Go.RowKit

theorem HB.new (w : World) (young old : Int) (h : 4 ≤ young ∧ young ≤ 60000 ∧ 4 ≤ old ∧ old ≤ 60000) :
    Calls Try.prog 9 #[.int .i64 young, .int .i64 old] w fun e w' => ∃ hb, e = .returned (.tuple #[.pointer (some ⟨hb, 0, none⟩), .int .i64 0]) ∧ Hid (HB w w' hb [] (IS.start old) 0) := by
  refine (HP.new w young old h (L := List.range w.heap.size) (fun b hb => List.mem_range.1 hb)).mono ?_
  rintro e w' ⟨hb, rfl, hG⟩
  refine ⟨hb, rfl, Lib.hid ⟨hG.out.hp.sub (by simp), hG.out.chg.mono fun j hj hn => hn (List.mem_range.2 hj)⟩⟩

set_option maxRecDepth 100000 in
set_option maxHeartbeats 4000000 in
theorem sane_any (w : World) :
    Calls Try.prog 7 #[] w fun e w' => e = .returned (.bool true) ∧ Chg (fun _ => False) w w' := by
  refine ret_k fun K hK => ?_
  have HK := Lib.hid hK
  clear hK
  have HNew := Lib.hid (HB.new w 20 40 (by omega))
  go_enter Try.func7, Try.ntmps7
  go_wp2_with fail
  refine HNew.out.mono ?_; rintro e w1 ⟨hb, rfl, hG1⟩
  clear HNew
  have H1 := Lib.hid (Sane.c_make1 hG1.out (by omega))
  clear hG1
  go_wp2_with fail
  refine H1.out.mono ?_; rintro e w2 ⟨rfl, hG2⟩
  have H2 := Lib.hid (Sane.c_table hG2.out (by omega))
  clear H1 hG2
  go_wp2_with fail
  refine H2.out.mono ?_; rintro e w3 ⟨rfl, hG3⟩
  have H3 := Lib.hid (HB.num hG3.out 5)
  clear H2 hG3
  go_wp2_with fail
  refine H3.out.mono ?_; rintro e w4 ⟨rfl, hG4⟩
  have H4 := Lib.hid (Sane.c_put hG4.out (by omega))
  clear H3 hG4
  go_wp2_with fail
  refine H4.out.mono ?_; rintro e w5 ⟨rfl, hG5⟩
  have H5 := Lib.hid (Sane.c_find hG5.out (by omega))
  clear H4 hG5
  go_wp2_with fail
  refine H5.out.mono ?_; rintro e w6 ⟨rfl, hG6⟩
  have hS6 := Lib.hid (SP.make hG6.out ⟨false, 5⟩)
  clear H5 hG6
  obtain ⟨b, hb0⟩ : ∃ b, b = w6.heap.size := ⟨_, rfl⟩
  obtain ⟨W8, hW8⟩ : ∃ W8, W8 = w6.alloc (.cells #[.bool false, .int .i64 5] 36) := ⟨_, rfl⟩
  rw [← hb0, ← hW8] at hS6
  have hS := hS6
  obtain ⟨q0, q1⟩ := hS6.out.c0
  simp only [] at q0 q1
  clear hS6
  go_upto_region 8 with fail
  rw [← hb0, ← hW8]
  clear hb0 hW8
  go_cut [84] from 50 to 83 (fun s84 wx => s84 = .bool false ∧ Hid (SP w wx hb b ⟨false, 5⟩ Sane.I3 4))
  case first =>
    go_region_held3 (fun wx => wx.cell? ⟨b, 0, none⟩ = some (.bool false) ∧ wx.cell? ⟨b, 1, none⟩ = some (.int .i64 5) ∧ Hid (SP w wx hb b ⟨false, 5⟩ Sane.I3 4))
      (first | exact ⟨q0, q1, hS⟩ | exact ⟨q0, q1, Lib.hid (hS.out.drewN _)⟩ | exact ⟨q0, q1, Lib.hid ((hS.out.drewN _).drewN _)⟩)
      (first
        | (go_at_call 13; refine (SP.num (SP.drewN hS.out _) _).mono ?_; rintro e wn ⟨rfl, ⟨q0, q1⟩, hS⟩)
        | (go_at_call 13; refine (SP.num hS.out _).mono ?_; rintro e wn ⟨rfl, ⟨q0, q1⟩, hS⟩)
        | (go_at_call 25; refine (SP.used hS.out Sane.I3_words Sane.I3_here).mono ?_; rintro e wn ⟨rfl, ⟨q0, q1⟩, hS⟩)
        | (go_at_call 26; refine (Sane.c_set hS.out).mono ?_; rintro e wn ⟨rfl, ⟨q0, q1⟩, hS⟩))
    all_goals (go_wp2; go_meet; exact ⟨rfl, hS⟩)
  case rest =>
    obtain ⟨rfl, hS9⟩ := hcut
    clear hS q0 q1
    have HA := Lib.hid (HB.ref hS9.out.hp 0)
    go_wp2_with fail
    refine HA.out.mono ?_; rintro e w9 ⟨rfl, hG9⟩
    have HB1 := Lib.hid (HB.num hG9.out 7)
    clear HA hG9 hS9
    go_wp2_with fail
    refine HB1.out.mono ?_; rintro e w10 ⟨rfl, hG10⟩
    clear HB1
    have HC1 := Lib.hid (Sane.c_make2 (HB.alloc hG10.out (.cells #[.bool true, .int .i64 0, .bool false, .int .i64 7] 36)) (by omega) (heap_alloc_new w10 _))
    clear hG10
    go_wp2_with fail
    refine HC1.out.mono ?_; rintro e w11 ⟨rfl, hG11⟩
    have HD1 := Lib.hid (Sane.c_drop1 hG11.out)
    clear HC1 hG11
    go_wp2_with fail
    refine HD1.out.mono ?_; rintro e w12 ⟨rfl, hG12⟩
    have HE1 := Lib.hid (Sane.c_major1 hG12.out)
    clear HD1 hG12
    go_wp2_with fail
    refine HE1.out.mono ?_; rintro e w13 ⟨rfl, hG13⟩
    have HF1 := Lib.hid (Sane.c_count1 hG13.out)
    clear HE1 hG13
    go_wp2_with fail
    refine HF1.out.mono ?_; rintro e w14 ⟨rfl, hG14⟩
    have HG1 := Lib.hid (Sane.c_get hG14.out (by omega))
    clear HF1 hG14
    go_wp2_with fail
    refine HG1.out.mono ?_; rintro e w15 ⟨rfl, hG15⟩
    clear HG1
    have hS15 := Lib.hid (SP.make hG15.out ⟨true, 0⟩)
    clear hG15
    obtain ⟨b2, hb2⟩ : ∃ b2, b2 = w15.heap.size := ⟨_, rfl⟩
    obtain ⟨W15, hW15⟩ : ∃ W15, W15 = w15.alloc (.cells #[.bool true, .int .i64 0] 36) := ⟨_, rfl⟩
    rw [← hb2, ← hW15] at hS15
    have hS := hS15
    obtain ⟨q0, q1⟩ := hS15.out.c0
    simp only [] at q0 q1
    clear hS15
    go_upto_region 15 with fail
    rw [← hb2, ← hW15]
    clear hb2 hW15
    go_cut [129] from 111 to 128 (fun s129 wx => s129 = .bool false ∧ Hid (∃ m, m < 9000 ∧ SP w wx hb b2 ⟨true, 0⟩ Sane.I7 m))
    case first =>
      go_region_held3 (fun wx => wx.cell? ⟨b2, 0, none⟩ = some (.bool true) ∧ wx.cell? ⟨b2, 1, none⟩ = some (.int .i64 0) ∧ Hid (SP w wx hb b2 ⟨true, 0⟩ Sane.I7 (4 + 1 + 1 + 1 + 1)))
        (first | exact ⟨q0, q1, hS⟩ | exact ⟨q0, q1, Lib.hid (hS.out.drewN _)⟩ | exact ⟨q0, q1, Lib.hid ((hS.out.drewN _).drewN _)⟩)
        (first
          | (go_at_call 15; refine (SP.ref (SP.drewN hS.out _) _).mono ?_; rintro e wn ⟨rfl, ⟨q0, q1⟩, hS⟩)
          | (go_at_call 15; refine (SP.ref hS.out _).mono ?_; rintro e wn ⟨rfl, ⟨q0, q1⟩, hS⟩))
      all_goals (go_wp2; go_meet; exact ⟨rfl, Lib.hid ⟨_, by omega, hS.out⟩⟩)
    case rest =>
      obtain ⟨rfl, hS16⟩ := hcut
      clear hS q0 q1
      obtain ⟨m, hm, hS17⟩ := hS16.out
      have HA2 := Lib.hid (Sane.c_drop2 hS17.hp)
      clear hS16 hS17
      go_wp2_with fail
      refine HA2.out.mono ?_; rintro e w18 ⟨rfl, hG18⟩
      have HB2 := Lib.hid (Sane.c_drop3 hG18.out)
      clear HA2 hG18
      go_wp2_with fail
      refine HB2.out.mono ?_; rintro e w19 ⟨rfl, hG19⟩
      have HC2 := Lib.hid (Sane.c_major2 hG19.out)
      clear HB2 hG19
      go_wp2_with fail
      refine HC2.out.mono ?_; rintro e w20 ⟨rfl, hG20⟩
      have HD2 := Lib.hid (Sane.c_count2 hG20.out)
      clear HC2 hG20
      go_wp2_with fail
      refine HD2.out.mono ?_; rintro e w21 ⟨rfl, hG21⟩
      have HE2 := Lib.hid (HB.used hG21.out Sane.I10_words Sane.I10_here)
      clear HD2 hG21
      go_wp2_with fail
      refine HE2.out.mono ?_; rintro e w22 ⟨rfl, hG22⟩
      have HZ := Lib.hid (HK.out _ _ ⟨rfl, hG22.out.chg⟩)
      clear HE2 hG22 HK
      go_wp2
      go_ret
      exact HZ.out

end Go.Proofs.Ytelghmmcbgfjnaa

/-! The law of room: a round of its loop. -/
namespace Go.Proofs.Ytelghmmcbgfjnaa
open Go.RowKit

theorem made_cell {s j : Nat} (hj : j < s) : (madeCells #[.bool false, .int .i64 0] (s * 2))[j * 2]? = some (.bool false) ∧ (madeCells #[.bool false, .int .i64 0] (s * 2))[j * 2 + 1]? = some (.int .i64 0) := by
  unfold madeCells
  constructor
  · rw [Array.getElem?_map, Array.getElem?_eq_getElem (by simp; omega)]
    have : j * 2 % 2 = 0 := by omega
    simp [this]
  · rw [Array.getElem?_map, Array.getElem?_eq_getElem (by simp; omega)]
    have : (j * 2 + 1) % 2 = 1 := by omega
    simp [this]

structure LI (w0 wr : World) (hb fb s hold i : Nat) (space : Int) : Prop where
  ex : ∃ I m, m ≤ 2 * i ∧ RoomI s hold i space I ∧ HB w0 wr hb [fb] I m
  blk : wr.heap[fb]? = some (.cells (madeCells #[.bool false, .int .i64 0] (s * 2)) 36 (0, 0))

theorem LI.cells {w0 wr : World} {hb fb s hold i : Nat} {space : Int} (h : LI w0 wr hb fb s hold i space) : CellsAt wr (some ⟨fb, 0, none⟩) s (List.replicate s ⟨false, 0⟩) := by
  refine ⟨by simp, fun j c hj => ?_⟩
  obtain ⟨h1, h2⟩ := List.getElem?_eq_some_iff.1 hj
  rw [List.getElem_replicate] at h2
  subst h2
  have hjs : j < s := by simpa using h1
  refine ⟨fb, 0, rfl, ?_, ?_⟩
  · rw [cellAt h.blk, Nat.zero_add]; exact (made_cell hjs).1
  · rw [cellAt h.blk, Nat.zero_add]; exact (made_cell hjs).2

theorem LI.full {w0 wr : World} {hb fb s hold i : Nat} {space : Int} (h : LI w0 wr hb fb s hold i space) (hi : i < 300) (hs : s < 10) (hf : space < (min i hold * (s + 1) : Nat) + s + 1) :
    Calls Try.prog 10 #[.pointer (some ⟨hb, 0, none⟩), .int .i64 i, .slice (some ⟨fb, 0, none⟩) s s] wr fun e w' => e = .returned (.tuple #[.int .i64 0, .int .i64 220]) ∧ Chg (fun _ => False) w0 w' := by
  obtain ⟨I, m, hm, hI, hB⟩ := h.ex
  have hmk := (hI.make (by omega)).1 hf
  refine (hB.hp.make (hI.ample (by omega) (by omega)) i h.cells (by omega)).mono ?_
  rw [hmk]
  rintro e w' ⟨rfl, hG⟩
  exact ⟨rfl, (hB.got hG).chg⟩

theorem LI.fits {w0 wr : World} {hb fb s hold i : Nat} {space : Int} (h : LI w0 wr hb fb s hold i space) (hi : i < 300) (hs : s < 10) (hf : (min i hold * (s + 1) : Nat) + (s : Int) + 1 ≤ space) :
    Calls Try.prog 10 #[.pointer (some ⟨hb, 0, none⟩), .int .i64 i, .slice (some ⟨fb, 0, none⟩) s s] wr fun e w' => ∃ k, e = .returned (.tuple #[.int .i64 k, .int .i64 0]) ∧ Hid (i < hold → LI w0 w' hb fb s hold (i + 1) space) ∧
      Hid (hold ≤ i → Calls Try.prog 11 #[.pointer (some ⟨hb, 0, none⟩), .int .i64 k] w' fun e w'' => e = .returned (.int .i64 0) ∧ Hid (LI w0 w'' hb fb s hold (i + 1) space)) := by
  obtain ⟨I, m, hm, hI, hB⟩ := h.ex
  obtain ⟨k, J, hmk, hlen, h1, h2⟩ := (hI.make (by omega)).2 hf
  refine (hB.hp.make (hI.ample (by omega) (by omega)) i h.cells (by omega)).mono ?_
  rw [hmk]
  rintro e w' ⟨rfl, hG⟩
  have hB' := hB.got hG
  have hblk := hB.keeps hG (by simp) h.blk
  refine ⟨k, rfl, Lib.hid fun hi2 => ⟨⟨J, m + 1, by omega, h1 hi2, hB'⟩, hblk⟩, Lib.hid fun hi2 => ?_⟩
  obtain ⟨J', hd, hI'⟩ := h2 hi2
  refine (hB'.hp.drop k).mono ?_
  rw [hd]
  rintro e w'' ⟨rfl, hG2⟩
  exact ⟨rfl, Lib.hid ⟨⟨J', m + 1 + 1, by omega, hI', hB'.got hG2⟩, hB'.keeps hG2 (by simp) hblk⟩⟩

theorem LI.start {w0 w : World} {hb s hold : Nat} {space : Int} (h : HB w0 w hb [] (IS.start space) 0) : LI w0 (w.alloc (.cells (madeCells #[.bool false, .int .i64 0] (s * 2)) 36)) hb w.heap.size s hold 0 space :=
  ⟨⟨_, 0, by omega, RoomI.start s hold space, (h.alloc _).sub (by simp)⟩, heap_alloc_new w _⟩

theorem iCell : (Try.prog.info? 36).map (fun i => (i.zero, i.size, i.bytes)) = some (some (.agg #[.bool false, .int .i64 0]), 2, 16) := by kernel_rfl
theorem uCells : Try.prog.underlying 28 = some (.slice 36) := by kernel_rfl

theorem make_cells (w : World) (s : Nat) (hs : s < 10) : (Instr.makeSlice 28 (.int .i64 s) (.int .i64 s)).run Try.prog w = .ok (.slice (some ⟨w.heap.size, 0, none⟩) s s) (w.alloc (.cells (madeCells #[.bool false, .int .i64 0] (s * 2)) 36)) := by
  obtain ⟨i0, hi, hz0, hz1, hz2⟩ := info_parts iCell
  have h := run_make (P := Try.prog) w 28 36 i0 _ uCells hi hz0 .i64 .i64 s s (by omega) (Int.le_refl _) (by rw [hz2]; omega) (by omega)
  rw [hz1] at h
  exact h

end Go.Proofs.Ytelghmmcbgfjnaa

/-! The law of room walked: it returns true for all its numbers. -/
namespace Go.Proofs.Ytelghmmcbgfjnaa
open Go.RowKit

set_option maxRecDepth 100000 in
set_option maxHeartbeats 1000000 in
theorem heapRoom_any (w : World) (a0 a1 a2 : Int) :
    Calls Try.prog 3 #[.int .i64 a0, .int .i64 a1, .int .i64 a2] w fun e w' => e = .returned (.bool true) ∧ Chg (fun _ => False) w w' := by
  refine ret_k fun K hK => ?_
  have HK := Lib.hid hK
  clear hK
  obtain ⟨p, hp⟩ : ∃ p, p = a0 % 200 := ⟨_, rfl⟩
  obtain ⟨s, hs⟩ : ∃ s : Nat, (s : Int) = a1 % 10 := ⟨(a1 % 10).toNat, by omega⟩
  obtain ⟨hold, hh⟩ : ∃ h : Nat, (h : Int) = a2 % 30 := ⟨(a2 % 30).toNat, by omega⟩
  have hM0 : ∀ w, Calls Try.prog 8 #[.int .i64 a0, .int .i64 200] w fun e w' => e = .returned (.int .i64 p) ∧ w = w' := fun w => by rw [hp]; exact mod_any w a0 200 (by omega)
  have hM1 : ∀ w, Calls Try.prog 8 #[.int .i64 a1, .int .i64 10] w fun e w' => e = .returned (.int .i64 s) ∧ w = w' := fun w => by rw [hs]; exact mod_any w a1 10 (by omega)
  have hM2 : ∀ w, Calls Try.prog 8 #[.int .i64 a2, .int .i64 30] w fun e w' => e = .returned (.int .i64 hold) ∧ w = w' := fun w => by rw [hh]; exact mod_any w a2 30 (by omega)
  have hp0 : 0 ≤ p := by omega
  have hp1 : p < 200 := by omega
  have hs1 : s < 10 := by omega
  have hh1 : hold < 30 := by omega
  have HM0 := Lib.hid hM0
  have HM1 := Lib.hid hM1
  have HM2 := Lib.hid hM2
  clear hM0 hM1 hM2 hp hs hh
  have hw0 : IntKind.i64.wrap (20 + p) = 20 + p := IntWalk.i64_in _ (by omega)
  obtain ⟨space, hsp⟩ : ∃ space, space = 20 + p := ⟨_, rfl⟩
  have hs0 : 20 ≤ space ∧ space < 220 := by omega
  have hw1 : IntKind.i64.wrap (20 + p) = space := by rw [hw0, hsp]
  clear hsp hp0 hp1 hw0
  have HNew := Lib.hid fun w => HB.new w 12 space (by omega)
  have HMk := Lib.hid fun w => make_cells w s hs1
  have HSane := Lib.hid (sane_any w)
  go_enter Try.func3, Try.ntmps3
  go_wp2_with fail
  refine HSane.out.mono ?_; rintro e w1 ⟨rfl, hC1⟩
  have HC1 := Lib.hid hC1
  clear HSane hC1
  go_wp2_with fail
  refine (HM0.out _).mono ?_; rintro e w2 ⟨rfl, rfl⟩
  clear HM0
  go_wp2_with fail
  refine (HM1.out _).mono ?_; rintro e w2 ⟨rfl, rfl⟩
  clear HM1
  go_wp2_with fail
  refine (HNew.out _).mono ?_; rintro e w3 ⟨hb, rfl, hG3⟩
  clear HNew
  go_wp2_with fail
  refine (HM2.out _).mono ?_; rintro e w4 ⟨rfl, rfl⟩
  clear HM2
  have HL := Lib.hid (LI.start (s := s) (hold := hold) hG3.out)
  clear hG3
  go_wp2_with (first | (at_make; go_must (refine wpList_val rfl (exec_makeSlice rfl (by exact HMk.out _)) ?_)))
  clear HMk hw1 hh1
  generalize w3.alloc (.cells (madeCells #[.bool false, .int .i64 0] (s * 2)) 36) = W at *
  generalize w3.heap.size = fb at *
  go_loopw [14, 15] (fun u i wr => ∃ (j u0 : Nat), j ≤ 300 ∧ i = .int .i64 j ∧ u = .int .i64 u0 ∧ Hid (u0 = min j hold * (s + 1)) ∧ Hid (LI w1 wr hb fb s hold j space)) (fun _ i _ => 300 - (intOf i).toNat)
  case atStart => exact ⟨0, 0, by omega, rfl, rfl, Lib.hid (by simp), HL⟩
  case round =>
    obtain ⟨j, u, hj, rfl, rfl, HU, HI⟩ := hrel
    clear HL
    by_cases hlt : j < 300
    · have hub : u ≤ 300 * 10 := by
        rw [HU.out]
        exact Nat.mul_le_mul (by omega) (by omega)
      have hwa : IntKind.i64.wrap ((u : Int) + s) = (u : Int) + s := IntWalk.i64_in _ (by omega)
      have hwb : IntKind.i64.wrap ((u : Int) + s + 1) = (u : Int) + s + 1 := IntWalk.i64_in _ (by omega)
      have hlt' : (j : Int) < 300 := by omega
      by_cases hf : space < (u : Int) + s + 1
      · have hC := HI.out.full hlt hs1 (by rw [← HU.out]; exact hf)
        have HC := Lib.hid hC
        clear hC HI HU hub
        go_wp2_with fail
        refine HC.out.mono ?_; rintro e w5 ⟨rfl, hC5⟩
        have HZ := Lib.hid (HK.out _ _ ⟨rfl, HC1.out.trans hC5 (fun _ _ h => h)⟩)
        clear HC hC5 HK HC1
        go_wp2
        go_ret
        exact HZ.out
      · have hC := HI.out.fits hlt hs1 (by rw [← HU.out]; omega)
        have HC := Lib.hid hC
        clear hC HI
        go_wp2_with fail
        refine HC.out.mono ?_; rintro e w5 ⟨k, rfl, H1, H2⟩
        clear HC
        by_cases hi : j < hold
        · have HL2 := Lib.hid (H1.out hi)
          have HU2 : Hid (u + s + 1 = min (j + 1) hold * (s + 1)) := by
            have e : u = min j hold * (s + 1) := HU.out
            show u + s + 1 = _
            rw [e, show min (j + 1) hold = min j hold + 1 by omega, Nat.add_mul]; omega
          have hi' : (j : Int) < (hold : Int) := by omega
          clear H1 H2 HU hub hs0
          go_wp2
          go_roundw
          case rel => exact ⟨j + 1, u + s + 1, by omega, by go_num, by go_num, HU2, HL2⟩
          case measure => simp [intOf]; omega
        · have HD := Lib.hid (H2.out (by omega))
          have HU2 : Hid (u = min (j + 1) hold * (s + 1)) := by
            have e : u = min j hold * (s + 1) := HU.out
            show u = _
            rw [e, show min (j + 1) hold = min j hold by omega]
          have hi' : ¬ ((j : Int) < (hold : Int)) := by omega
          clear H1 H2 HU hub hs0
          go_wp2_with fail
          refine HD.out.mono ?_; rintro e w6 ⟨rfl, HL2⟩
          clear HD
          go_wp2
          go_roundw
          case rel => exact ⟨j + 1, u, by omega, by go_num, by go_num, HU2, HL2⟩
          case measure => simp [intOf]; omega
    · have hge : ¬ ((j : Int) < 300) := by omega
      obtain ⟨I, m, _, _, hB⟩ := HI.out.ex
      have HZ := Lib.hid (HK.out _ _ ⟨rfl, HC1.out.trans hB.chg (fun _ _ h => h)⟩)
      clear HI HU HK HC1 hB
      go_wp2
      go_ret
      exact HZ.out

end Go.Proofs.Ytelghmmcbgfjnaa
