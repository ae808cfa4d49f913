/-
  The law of transparency, walked. (A part of the proof, joined of: Tj.)
-/
import Derived.Test.YtelghmmcbgfjnaaGreatH22
/-! The law of transparency, walked. -/
namespace Go.Proofs.YtelghmmcbgfjnaaGreat
open Go.RowKit

/-- A slice of integers that came in: its first n cells. -/
def ArgAt (w : World) (a : Option Addr) (n : Nat) (z : Nat → Int) : Prop := ∀ i, i < n → ∃ x, a = some x ∧ (x.add i).block < w.heap.size ∧ w.cell? (x.add i) = some (.int .i64 (z i))
theorem ArgAt.get {w wr : World} {a : Option Addr} {n : Nat} {z : Nat → Int} (h : ArgAt w a n z) (hC : Chg (fun _ => False) w wr) {i : Nat} (hi : i < n) : ∃ x, a = some x ∧ wr.cell? (x.add i) = some (.int .i64 (z i)) := by
  obtain ⟨x, h1, h2, h3⟩ := h i hi
  refine ⟨x, h1, ?_⟩
  rw [World.cell?_of_block (w := w) (hC.block (x.add i).block h2 fun h => h)]
  exact h3
theorem ArgAt.chg {w w' : World} {a : Option Addr} {n : Nat} {z : Nat → Int} (h : ArgAt w a n z) (hC : Chg (fun _ => False) w w') : ArgAt w' a n z := fun i hi => by
  obtain ⟨x, h1, h2, h3⟩ := h i hi
  refine ⟨x, h1, Nat.lt_of_lt_of_le h2 hC.size, ?_⟩
  rw [World.cell?_of_block (w := w) (hC.block (x.add i).block h2 fun h => h)]
  exact h3

/-- Both heaps behind j operations. -/
def SeenI (w0 w : World) (a b j k : Nat) : Prop := ∃ I J m, m ≤ k ∧ D0 w0 w a b I J m ∧ Tw I J ∧ Small I j ∧ Small J j
theorem SeenI.chg {w0 w : World} {a b j k : Nat} (h : SeenI w0 w a b j k) : Chg (fun _ => False) w0 w := by obtain ⟨I, J, m, _, h, _⟩ := h; exact h.chg
theorem SeenI.still {w0 w w' : World} {a b j k : Nat} (h : SeenI w0 w a b j k) (hC : Chg (fun _ => False) w w') : SeenI w0 w' a b j k := by
  obtain ⟨I, J, m, h1, h2, h3⟩ := h
  exact ⟨I, J, m, h1, h2.still hC, h3⟩
theorem SeenI.more {w0 w : World} {a b j k j' k' : Nat} (h : SeenI w0 w a b j k) (hj : j ≤ j') (hk : k ≤ k') : SeenI w0 w a b j' k' := by
  obtain ⟨I, J, m, h1, h2, h3, h4, h5⟩ := h
  exact ⟨I, J, m, by omega, h2, h3, h4.more hj, h5.more hj⟩
theorem SeenI.minor {w0 w : World} {a b j k : Nat} (h : SeenI w0 w a b j k) (hk : k < 9000) :
    Calls Tryz.prog 11 #[.pointer (some ⟨b, 0, none⟩)] w fun e w' => e = .returned (.tuple #[]) ∧ Hid (SeenI w0 w' a b j (k + 1)) := by
  obtain ⟨I, J, m, h1, h2, h3, h4, h5⟩ := h
  refine (h2.minorB (by omega)).mono ?_
  rintro e w' ⟨rfl, hD⟩
  exact ⟨rfl, Lib.hid ⟨I, J, m + 1, by omega, hD.out, h3, h4, h5⟩⟩
theorem SeenI.major {w0 w : World} {a b j k : Nat} (h : SeenI w0 w a b j k) :
    Calls Tryz.prog 12 #[.pointer (some ⟨b, 0, none⟩)] w fun e w' => e = .returned (.tuple #[]) ∧ Hid (SeenI w0 w' a b j (k + 1)) := by
  obtain ⟨I, J, m, h1, h2, h3, h4, h5⟩ := h
  refine h2.majorB.mono ?_
  rintro e w' ⟨rfl, hD⟩
  exact ⟨rfl, Lib.hid ⟨I, J.majored, m + 1, by omega, hD.out, h3.major, h4, h5.major⟩⟩

set_option maxRecDepth 100000 in
set_option maxHeartbeats 8000000 in
theorem heapSeen_any (w : World) (old : Int) (a1 a2 : Option Addr) (n1 c1 n2 c2 : Nat) (o : Nat → OpV) (z2 : Nat → Int) (h1 : OpsAt w a1 n1 o) (h2 : ArgAt w a2 n2 z2) :
    Calls Tryz.prog 3 #[.int .i64 old, .slice a1 n1 c1, .slice a2 n2 c2] w fun e w' => e = .returned (.bool true) ∧ Chg (fun _ => False) w w' := by
  refine ret_k fun K hK => ?_
  have HK := Lib.hid hK
  clear hK
  have H1 := Lib.hid h1
  have H2 := Lib.hid h2
  clear h1 h2
  have HSane := Lib.hid (sane_any w)
  by_cases hold : 4 ≤ old ∧ old ≤ 60000
  · have HOld := Lib.hid hold
    have HNew := Lib.hid fun w => HB.new w 30 old (by omega)
    clear hold
    go_enter Tryz.func3, Tryz.ntmps3
    go_wp2_with fail
    refine HSane.out.mono ?_; rintro e w1 ⟨rfl, hC1⟩
    have HC1 := Lib.hid hC1
    have HO1 := Lib.hid (H1.out.chg0 hC1)
    have HA2 := Lib.hid (H2.out.chg hC1)
    clear HSane hC1 H1 H2
    go_wp2_with fail
    refine (HNew.out _).mono ?_; rintro e w3 ⟨a, rfl, hG3⟩
    have HNew2 := Lib.hid (D0.start hG3.out HOld.out)
    clear HNew hG3
    go_wp2_with fail
    refine HNew2.out.mono ?_; rintro e w4 ⟨b, rfl, hD4⟩
    have HS4 : Hid (SeenI w1 w4 a b 0 0) := ⟨_, _, 0, Nat.le_refl _, hD4.out, Tw.start old, Small.start old, Small.start old⟩
    clear HNew2 hD4 HOld
    go_wp2
    go_loopw [12] (fun i wr => ∃ j : Nat, j ≤ 80 ∧ i = .int .i64 j ∧ Hid (SeenI w1 wr a b j (10 * j))) (fun i _ => 80 - (intOf i).toNat)
    case atStart => exact ⟨0, by omega, rfl, HS4⟩
    case round =>
      obtain ⟨j, hj, rfl, HI⟩ := hrel
      clear HS4
      have HEnd : Hid (Post K (.returned (.bool true)) wr) := HK.out _ _ ⟨rfl, HC1.out.trans HI.out.chg (fun _ _ h => h)⟩
      by_cases g1 : j < n1
      · have g1' : (j : Int) < (n1 : Int) := by omega
        by_cases g3 : j < 80
        · have g3' : (j : Int) < 80 := by omega
          obtain ⟨x1, e1, ho⟩ := HO1.out j g1
          subst e1
          obtain ⟨op, hop⟩ : ∃ op, op = o j := ⟨_, rfl⟩
          rw [← hop] at ho
          have HOp := Lib.hid ho
          obtain ⟨q, hq⟩ : ∃ q : Nat, (q : Int) = z2 j % 3 := ⟨(z2 j % 3).toNat, by omega⟩
          have HMq : Hid (∀ w, Calls Tryz.prog 10 #[.int .i64 (z2 j), .int .i64 3] w fun e w' => e = .returned (.int .i64 q) ∧ w = w') := fun w => by rw [hq]; exact mod_any w (z2 j) 3 (by omega)
          have HQ : Hid (q = 0 ∨ q = 1 ∨ q = 2) := by show _ ∨ _; omega
          obtain ⟨f1, hf1⟩ : ∃ f1 : Bool, f1 = decide (j < n2 ∧ q = 1) := ⟨_, rfl⟩
          obtain ⟨f2, hf2⟩ : ∃ f2 : Bool, f2 = decide (j < n2 ∧ q = 2) := ⟨_, rfl⟩
          have HF1 := Lib.hid hf1
          have HF2 := Lib.hid hf2
          clear ho hop hq hf1 hf2 HEnd
          go_upto_region 9 with fail
          go_cut [59] from 48 to 58 (fun s59 wx => s59 = .bool f1 ∧ Hid (SeenI w1 wx a b j (10 * j)))
          case first =>
            by_cases g2 : j < n2
            · have g2' : (j : Int) < (n2 : Int) := by omega
              obtain ⟨x2, e2, k2⟩ := HA2.out.get HI.out.chg g2
              subst e2
              rcases HQ.out with rfl | rfl | rfl
              all_goals
                go_wp2_with fail
                refine (HMq.out _).mono ?_; rintro e w8 ⟨rfl, rfl⟩
                go_wp2
                go_meet
                exact ⟨by rw [HF1.out] <;> (try simp) <;> (try omega), HI⟩
            · have g2' : ¬ ((j : Int) < (n2 : Int)) := by omega
              go_wp2
              go_meet
              exact ⟨by rw [HF1.out] <;> (try simp) <;> (try omega), HI⟩
          case rest =>
            obtain ⟨rfl, HI2⟩ := hcut
            clear HI HF1
            go_upto_if 59 with fail
            go_cut [] from 48 to 61 (fun wx => Hid (SeenI w1 wx a b j (10 * j + 1)))
            case first =>
              cases f1
              · go_wp2
                go_meet
                exact Lib.hid (HI2.out.more (Nat.le_refl _) (Nat.le_succ _))
              · have HMi := Lib.hid (HI2.out.minor (by omega))
                go_wp2_with fail
                refine HMi.out.mono ?_; rintro e w9 ⟨rfl, HI3⟩
                go_wp2
                go_meet
                exact HI3
            case rest =>
              have HI3 := hcut
              clear HI2
              go_upto_region 11 with fail
              go_cut [73] from 62 to 72 (fun s73 wx => s73 = .bool f2 ∧ Hid (SeenI w1 wx a b j (10 * j + 1)))
              case first =>
                by_cases g2 : j < n2
                · have g2' : (j : Int) < (n2 : Int) := by omega
                  obtain ⟨x2, e2, k2⟩ := HA2.out.get HI3.out.chg g2
                  subst e2
                  rcases HQ.out with rfl | rfl | rfl
                  all_goals
                    go_wp2_with fail
                    refine (HMq.out _).mono ?_; rintro e w8 ⟨rfl, rfl⟩
                    go_wp2
                    go_meet
                    exact ⟨by rw [HF2.out] <;> (try simp) <;> (try omega), HI3⟩
                · have g2' : ¬ ((j : Int) < (n2 : Int)) := by omega
                  go_wp2
                  go_meet
                  exact ⟨by rw [HF2.out] <;> (try simp) <;> (try omega), HI3⟩
              case rest =>
                obtain ⟨rfl, HI4⟩ := hcut
                clear HI3 HF2 HMq HQ
                go_upto_if 73 with fail
                go_cut [] from 62 to 75 (fun wx => Hid (SeenI w1 wx a b j (10 * j + 2)))
                case first =>
                  cases f2
                  · go_wp2
                    go_meet
                    exact Lib.hid (HI4.out.more (Nat.le_refl _) (Nat.le_succ _))
                  · have HMi := Lib.hid HI4.out.major
                    go_wp2_with fail
                    refine HMi.out.mono ?_; rintro e w9 ⟨rfl, HI5⟩
                    go_wp2
                    go_meet
                    exact HI5
                case rest =>
                  have HI5 := hcut
                  clear HI4
                  obtain ⟨I, J, m, hm, hD0, hT, hSI, hSJ⟩ := HI5.out
                  have hD := Lib.hid hD0
                  have hw5 := hD0.chg
                  obtain ⟨q0, q1, q2, q3⟩ := (HOp.out.chg0 hw5).op4
                  clear hw5
                  by_cases hS : Shown op.q
                  · have HST := Lib.hid hS
                    have HAm : Hid (Ample I m ∧ Ample J (m + 1) ∧ m ≤ 10 * j + 2) := ⟨hSI.ample (by omega) (by omega), hSJ.ample (by omega) (by omega), hm⟩
                    have hTT := hT.tell hD0.known.2 hD0.known.1 op.q op.a op.b op.cs
                    have HTT := Lib.hid hTT
                    have HSm : Hid (Small (I.tell op.q op.a op.b op.cs).2 (j + 1) ∧ Small (J.tell op.q op.a op.b op.cs).2 (j + 1)) := ⟨hSI.tell _ _ _ _, hSJ.tell _ _ _ _⟩
                    clear hS hD0 hT hSI hSJ hTT hm HI5
                    go_upto_region 13 with fail
                    go_cut [96] from 76 to 95 (fun s96 wx => s96 = .bool false ∧ Hid (SeenI w1 wx a b (j + 1) (10 * j + 10)))
                    case first =>
                      go_region_held3 (fun wx => wx.cell? (x1.add (j * 4)) = some (.int .i64 op.kind) ∧ wx.cell? ⟨(x1.add (j * 4)).block, (x1.add (j * 4)).off + 1, none⟩ = some (.int .i64 op.a) ∧ wx.cell? ⟨(x1.add (j * 4)).block, (x1.add (j * 4)).off + 2, none⟩ = some (.int .i64 op.b) ∧ wx.cell? ⟨(x1.add (j * 4)).block, (x1.add (j * 4)).off + 3, none⟩ = some (.slice op.x op.n op.c))
                        (first | exact ⟨q0, q1, q2, q3⟩ | exact (HOp.out.chg0 (hD.out.still ((Chg.refl _ _).drewN _)).chg).op4)
                        (first
                          | (go_at_call 13; refine ((hD.out.still ((Chg.refl _ _).drewN _)).shown HOp.out HST.out).mono ?_; rintro e wn ⟨rfl, ⟨q0, q1, q2, q3⟩, hD⟩)
                          | (go_at_call 13; refine (hD.out.shown HOp.out HST.out).mono ?_; rintro e wn ⟨rfl, ⟨q0, q1, q2, q3⟩, hD⟩)
                          | (go_at_call 15; refine (hE.out.tellB HAm.out.2.1 HOp.out HST.out).mono ?_; rintro e wn ⟨v', rfl, ⟨q0, q1, q2, q3⟩, hF⟩)
                          | (go_at_call 15; refine (hD.out.tellA HAm.out.1 HOp.out HST.out).mono ?_; rintro e wn ⟨v, rfl, ⟨q0, q1, q2, q3⟩, hE⟩)
                          | (go_at_call 14; refine (hF.out.same HTT.out.1 HOp.out).mono ?_; rintro e wn ⟨rfl, ⟨q0, q1, q2, q3⟩, hG⟩))
                      all_goals (go_wp2; go_meet; exact ⟨rfl, Lib.hid ⟨_, _, m + 1 + 1, by have := HAm.out.2.2; omega, hG.out, HTT.out.2, HSm.out.1, HSm.out.2⟩⟩)
                    case rest =>
                      obtain ⟨rfl, HI6⟩ := hcut
                      clear hD q0 q1 q2 q3 HTT HSm HAm HST HOp
                      go_wp2
                      go_roundw
                      case rel => exact ⟨j + 1, by omega, by go_num, HI6⟩
                      case measure => simp [intOf]; omega
                  · have HST := Lib.hid hS
                    have HTS : Hid (Tw I J ∧ Small I j ∧ Small J j ∧ m ≤ 10 * j + 2) := ⟨hT, hSI, hSJ, hm⟩
                    have HN : Hid (NoC w1 wc (wc.drewN 1) (x1.add (j * 4)) op) := NoC.start HOp.out hD0.chg
                    have HDD : Hid (∀ wx, Chg (fun _ => False) wc wx → D0 w1 wx a b I J m) := fun wx hC => hD0.still hC
                    clear hS hD0 hT hSI hSJ hm HI5
                    go_upto_region 13 with fail
                    go_cut [96] from 76 to 95 (fun s96 wx => s96 = .bool false ∧ Hid (SeenI w1 wx a b (j + 1) (10 * j + 10)))
                    case first =>
                      have hg1 := g1'
                      clear q0 q1 q2 q3
                      refine wp_region_quiet_cls (C := fun wx => NoC w1 wc wx (x1.add (j * 4)) op) (by kernel_rfl) (by kernel_rfl) HN.out ?_
                      go_big_quiet_want
                      go_big_quiet_op
                      go_big_quiet_on
                      go_big_quiet_want
                      go_big_quiet_op
                      go_big_quiet_on
                      go_big_quiet_want
                      refine ⟨.pointer (some (x1.add (j * 4))), fun wx hCx => ?_, ?_⟩
                      · unfold Oper.quietAt
                        go_simp
                      · go_simp
                        go_big_quiet_on
                        go_big_quiet_want
                        refine ⟨.agg #[.int .i64 op.kind, .int .i64 op.a, .int .i64 op.b, .slice op.x op.n op.c], fun wx hCx => ?_, ?_⟩
                        · obtain ⟨q0, q1, q2, q3⟩ := hCx.op4
                          unfold Oper.quietAt
                          go_simp
                        · go_simp
                          go_big_quiet_on
                          go_big_quiet_want
                          refine ⟨.bool false, fun wx hCx => ?_, ?_⟩
                          · have hcall := hCx.call HST.out
                            unfold Oper.quietAt
                            go_simp
                          · go_simp
                            go_big_quiet_on
                            go_big_quiet_want
                            go_big_quiet_op
                            go_big_quiet_on
                            iterate 14 go_big_quiet_skip
                            go_big_quiet_want
                            refine ⟨.bool false, fun wx hCx => ?_, ?_⟩
                            · unfold Oper.quietAt
                              go_simp
                            · go_simp
                              go_big_quiet_on
                              refine wpQuiet_nil ?_
                              intro wx hCx
                              have HDx := Lib.hid (HDD.out wx hCx.chg)
                              clear hCx
                              go_wp2
                              go_meet
                              exact ⟨rfl, Lib.hid ⟨_, _, m, by have := HTS.out.2.2.2; omega, HDx.out, HTS.out.1, HTS.out.2.1.more (Nat.le_succ _), HTS.out.2.2.1.more (Nat.le_succ _)⟩⟩
                    case rest =>
                      obtain ⟨rfl, HI6⟩ := hcut
                      clear hD q0 q1 q2 q3 HST HOp HN HTS HDD
                      go_wp2
                      go_roundw
                      case rel => exact ⟨j + 1, by omega, by go_num, HI6⟩
                      case measure => simp [intOf]; omega
        · have g3' : ¬ ((j : Int) < 80) := by omega
          clear HI HK
          go_wp2
          go_ret
          exact HEnd.out
      · have g1' : ¬ ((j : Int) < (n1 : Int)) := by omega
        clear HI HK
        go_wp2
        go_ret
        exact HEnd.out
  · have HNo := Lib.hid fun w => new_no w 30 old (by omega)
    clear hold
    go_enter Tryz.func3, Tryz.ntmps3
    go_wp2_with fail
    refine HSane.out.mono ?_; rintro e w1 ⟨rfl, hC1⟩
    go_wp2_with fail
    refine (HNo.out _).mono ?_; rintro e w2 ⟨rfl, hC2⟩
    go_wp2_with fail
    refine (HNo.out _).mono ?_; rintro e w3 ⟨rfl, hC3⟩
    have HZ := Lib.hid (HK.out _ _ ⟨rfl, (hC1.trans hC2 (fun _ _ h => h)).trans hC3 (fun _ _ h => h)⟩)
    clear hC1 hC2 hC3 HNo HSane HK H1 H2
    go_wp2
    go_loopw [12] (fun i wr => i = .int .i64 0 ∧ Hid (Post K (.returned (.bool true)) wr)) (fun _ _ => 0)
    case atStart => exact ⟨rfl, HZ⟩
    case round =>
      obtain ⟨rfl, HZ2⟩ := hrel
      clear HZ
      by_cases g1 : 0 < n1
      · have g1' : (0 : Int) < (n1 : Int) := by omega
        go_wp2
        go_ret
        exact HZ2.out
      · have g1' : ¬ ((0 : Int) < (n1 : Int)) := by omega
        go_wp2
        go_ret
        exact HZ2.out

end Go.Proofs.YtelghmmcbgfjnaaGreat
