/-
  The law of generations, walked. (A part of the proof, joined of: Tw, Tx.)
-/
import Derived.Test.YtelghmmcbgfjnaaGreatH25
/-! The law of generations, walked. -/
namespace Go.Proofs.YtelghmmcbgfjnaaGreat
open Go.RowKit

theorem uBools : Tryz.prog.underlying 48 = some (.slice 4) := by kernel_rfl
theorem iBool : (Tryz.prog.info? 4).map (fun i => (i.zero, i.size, i.bytes)) = some (some (.bool false), 1, 1) := by kernel_rfl

/-- One boolean more behind a slice of booleans. -/
theorem appB {w : World} {v : Value} {xs : List Bool} (hrow : Row w 4 1 v xs.length (xs.map Value.bool)) (n : Bool) (hT : xs.length < 1000000000000) :
    ∃ a cap w', (Builtin.append_ #[48, 48] 48 #[v, .slice (some ⟨w.heap.size, 0, none⟩) 1 1]).run Tryz.prog (w.alloc (.cells #[.bool n] 4)) = .ok (.slice a (xs.length + 1) cap) w' ∧
      Row w' 4 1 (.slice a (xs.length + 1) cap) (xs ++ [n]).length ((xs ++ [n]).map Value.bool) ∧ Chg (fun b => rowBlk v = some b) w w' ∧ (∀ b, rowBlk (.slice a (xs.length + 1) cap) = some b → rowBlk v = some b ∨ w.heap.size ≤ b) := by
  obtain ⟨i0, hi, hz0, hz1, hz2⟩ := info_parts iBool
  have h1 : Row (w.alloc (.cells #[.bool n] 4)) 4 1 v xs.length (xs.map Value.bool) := hrow.same fun b hb => by rw [heap_alloc, if_neg (by have := hrow.lt hb; omega)]
  have hsrc : Src' (w.alloc (.cells #[.bool n] 4)) 1 (.slice (some ⟨w.heap.size, 0, none⟩) 1 1) 1 [.bool n] := src_block (heap_alloc_new _ _) (by simp) (by simp)
  obtain ⟨v3, w3, happ, hrow3, hC3, hloc3⟩ := run_append_row (P := Tryz.prog) 48 48 4 i0 _ 1 1 uBools hi hz0 hz1 hz2 rfl (by decide) h1 hsrc (by simp [Value.oneCell']) (by unfold maxLen; omega) (by omega)
  obtain ⟨a3, cap3, rfl, -⟩ := hrow3.slice
  have hCa : Chg (fun b => rowBlk v = some b) w (w.alloc (.cells #[.bool n] 4)) := (Chg.refl _ _).alloc _
  refine ⟨a3, cap3, w3, happ, ?_, hCa.trans hC3 (fun _ _ h => h), ?_⟩
  · have e : (xs ++ [n]).map Value.bool = xs.map Value.bool ++ [.bool n] := by simp
    rw [e, List.length_append, List.length_singleton]
    exact hrow3
  · intro b hb
    rcases hloc3 b hb with h2 | h2
    · exact .inl h2
    · simp at h2; exact .inr (by omega)

/-- Behind j operations. -/
def AgJ (w0 w : World) (hb j : Nat) : Prop := ∃ I m, m ≤ j ∧ HB w0 w hb [] I m ∧ SmT I j (j * j + j)
theorem AgJ.chg {w0 w : World} {hb j : Nat} (h : AgJ w0 w hb j) : Chg (fun _ => False) w0 w := by obtain ⟨I, m, _, h, _⟩ := h; exact h.chg
theorem AgJ.tell {w0 w : World} {hb j : Nat} (h : AgJ w0 w hb j) (hj : j < 80) {p : Addr} {o : OpV} (ho : OpAt w0 p o) :
    Calls Tryz.prog 15 #[.pointer (some ⟨hb, 0, none⟩), .agg #[.int .i64 o.kind, .int .i64 o.a, .int .i64 o.b, .slice o.x o.n o.c]] w fun e w' => ∃ v, e = .returned v ∧ Hid (AgJ w0 w' hb (j + 1)) := by
  obtain ⟨I, m, hm, h, hS⟩ := h
  have hjj : j * j ≤ 80 * 80 := Nat.mul_le_mul (by omega) (by omega)
  refine Calls.mono (h.hp.tellsAny hS (by omega) (by omega) (by omega) o.kind o.a o.b o.c (ho.cs.chg0 h.chg) ho.n) ?_
  rintro e w' ⟨v, l, rfl, hsz, hI, hQ⟩
  obtain ⟨J, hJ, hG⟩ := hQ.out
  have e : (j + 1) * (j + 1) = j * j + j + j + 1 := by rw [Nat.add_mul, Nat.mul_add]; omega
  exact ⟨v, rfl, Lib.hid ⟨J, m + 1, by omega, h.got hG, hJ.more (Nat.le_refl _) (by omega)⟩⟩

/-- With a row of handles and a row of booleans beside the heap. -/
structure Ag1 (w0 w : World) (hb : Nat) (L : List Nat) (I : IS) (m : Nat) (ao : Prop) (v : Value) (hs : List Int) (u : Value) (us : List Bool) : Prop where
  ho : HO w hb (List.range w0.heap.size ++ L) I m ao
  chg : Chg (fun _ => False) w0 w
  row : Row w 3 1 v hs.length (intCells hs)
  rin : ∀ b, rowBlk v = some b → b ∈ L
  rub : Row w 4 1 u us.length (us.map Value.bool)
  uin : ∀ b, rowBlk u = some b → b ∈ L
  ne : ∀ b, rowBlk u = some b → rowBlk v ≠ some b
  low : ∀ b, rowBlk u = some b → w0.heap.size ≤ b
  known : ∀ n ∈ hs, ∃ name, I.hs.lookup n = some name
def Ag (w0 w : World) (hb k : Nat) (ao : Prop) (v : Value) (hs : List Int) (u : Value) (us : List Bool) : Prop := ∃ L I m, m ≤ k ∧ Ag1 w0 w hb L I m ao v hs u us

theorem Ag.chg {w0 w : World} {hb k : Nat} {ao : Prop} {v u : Value} {hs : List Int} {us : List Bool} (h : Ag w0 w hb k ao v hs u us) : Chg (fun _ => False) w0 w := by obtain ⟨L, I, m, _, h⟩ := h; exact h.chg
theorem Ag.more {w0 w : World} {hb k k' : Nat} {ao ao' : Prop} {v u : Value} {hs : List Int} {us : List Bool} (h : Ag w0 w hb k ao v hs u us) (hk : k ≤ k') (ha : ao' → ao) : Ag w0 w hb k' ao' v hs u us := by
  obtain ⟨L, I, m, hm, h⟩ := h
  exact ⟨L, I, m, by omega, { h with ho := h.ho.any ha }⟩
theorem Ag.still {w0 w w' : World} {hb k : Nat} {ao : Prop} {v u : Value} {hs : List Int} {us : List Bool} (h : Ag w0 w hb k ao v hs u us) (hC : Chg (fun _ => False) w w') : Ag w0 w' hb k ao v hs u us := by
  obtain ⟨L, I, m, hm, h⟩ := h
  exact ⟨L, I, m, hm, { h with
    ho := (h.ho.allNew (hC.mono fun _ _ h => h.elim)).sub fun b hb => List.mem_append_left _ hb
    chg := h.chg.trans hC fun _ _ h => h
    row := h.row.same fun b hb => hC.block b (h.row.lt hb) fun h => h
    rub := h.rub.same fun b hb => hC.block b (h.rub.lt hb) fun h => h }⟩
theorem Ag.fresh {w0 w : World} {hb k : Nat} {ao : Prop} {v u : Value} {hs : List Int} {us : List Bool} (h : Ag w0 w hb k ao v hs u us) : Ag w0 w hb k ao v hs (.slice none 0 0) [] := by
  obtain ⟨L, I, m, hm, h⟩ := h
  exact ⟨L, I, m, hm, { h with rub := Row.nil _ _ _, uin := fun b hb => by simp [rowBlk] at hb, ne := fun b hb => by simp [rowBlk] at hb, low := fun b hb => by simp [rowBlk] at hb }⟩
theorem Ag.len {w0 w : World} {hb k : Nat} {ao : Prop} {v u : Value} {hs : List Int} {us : List Bool} (h : Ag w0 w hb k ao v hs u us) : ∃ a c, v = .slice a hs.length c ∧ hs.length ≤ 9223372036854775807 := by
  obtain ⟨L, I, m, hm, h⟩ := h
  obtain ⟨a, c, rfl, h1, h2, _⟩ := h.row.slice
  refine ⟨a, c, rfl, ?_⟩
  have := h.row.2.1
  unfold maxLen at this
  omega
theorem Ag.cell {w0 w : World} {hb k : Nat} {ao : Prop} {a : Option Addr} {c : Nat} {u : Value} {hs : List Int} {us : List Bool} (h : Ag w0 w hb k ao (.slice a hs.length c) hs u us) {j : Nat} (hj : j < hs.length) : ∃ g, a = some ⟨g, 0, none⟩ ∧ w.cell? ⟨g, j, none⟩ = some (.int .i64 (hs.getD j 0)) := by
  obtain ⟨L, I, m, hm, h⟩ := h
  obtain ⟨g, h1, _, h2⟩ := h.row.cells (by omega)
  exact ⟨g, h1, h2 j _ (by simp [intCells, List.getElem?_eq_getElem hj, List.getD_eq_getElem?_getD])⟩
theorem Ag.bit {w0 w : World} {hb k : Nat} {ao : Prop} {a : Option Addr} {c : Nat} {v : Value} {hs : List Int} {us : List Bool} (h : Ag w0 w hb k ao v hs (.slice a us.length c) us) {j : Nat} (hj : j < us.length) : ∃ g, a = some ⟨g, 0, none⟩ ∧ w.cell? ⟨g, j, none⟩ = some (.bool (us.getD j false)) := by
  obtain ⟨L, I, m, hm, h⟩ := h
  obtain ⟨g, h1, _, h2⟩ := h.rub.cells (by omega)
  exact ⟨g, h1, h2 j _ (by simp [List.getElem?_eq_getElem hj, List.getD_eq_getElem?_getD])⟩
theorem Ag.ulen {w0 w : World} {hb k : Nat} {ao : Prop} {v u : Value} {hs : List Int} {us : List Bool} (h : Ag w0 w hb k ao v hs u us) : ∃ a c, u = .slice a us.length c := by
  obtain ⟨L, I, m, hm, h⟩ := h
  obtain ⟨a, c, rfl, _⟩ := h.rub.slice
  exact ⟨a, c, rfl⟩

theorem Ag.old {w0 w : World} {hb k : Nat} {ao : Prop} {v u : Value} {hs : List Int} {us : List Bool} (h : Ag w0 w hb k ao v hs u us) {j : Nat} (hj : j < hs.length) :
    Calls Tryz.prog 19 #[.pointer (some ⟨hb, 0, none⟩), .int .i64 (hs.getD j 0)] w fun e w' => ∃ b, e = .returned (.tuple #[.bool b, .int .i64 0]) ∧ Hid (ao → b = true) ∧ Hid (Ag w0 w' hb k ao v hs u us) := by
  have h0 := h
  obtain ⟨L, I, m, hm, h⟩ := h
  obtain ⟨name, hn⟩ := h.known (hs.getD j 0) (by rw [List.getD_eq_getElem?_getD, List.getElem?_eq_getElem hj]; exact List.getElem_mem hj)
  refine (h.ho.old hn).mono ?_
  rintro e w' ⟨b, rfl, hb, hC⟩
  exact ⟨b, rfl, Lib.hid hb, Lib.hid (h0.still hC)⟩

theorem Ag1.got {w0 w w' : World} {hb : Nat} {L : List Nat} {I J : IS} {m m' : Nat} {ao ao' : Prop} {v u : Value} {hs : List Int} {us : List Bool} (h : Ag1 w0 w hb L I m ao v hs u us) (hJ : J.hs = I.hs) (hO : HO w' hb (List.range w0.heap.size ++ L) J m' ao') (hC : Chg (fun b => b ∉ List.range w0.heap.size ++ L) w w') : Ag1 w0 w' hb L J m' ao' v hs u us :=
  { ho := hO
    chg := h.chg.trans hC fun k hk hn => hn (List.mem_append_left _ (List.mem_range.2 hk))
    row := h.row.same fun b hb => hC.block b (h.row.lt hb) fun hn => hn (List.mem_append_right _ (h.rin b hb))
    rin := h.rin
    rub := h.rub.same fun b hb => hC.block b (h.rub.lt hb) fun hn => hn (List.mem_append_right _ (h.uin b hb))
    uin := h.uin
    ne := h.ne
    low := h.low
    known := by rw [hJ]; exact h.known }
theorem Ag.minor {w0 w : World} {hb k : Nat} {ao : Prop} {v u : Value} {hs : List Int} {us : List Bool} (h : Ag w0 w hb k ao v hs u us) (hk : k < 9000) :
    Calls Tryz.prog 11 #[.pointer (some ⟨hb, 0, none⟩)] w fun e w' => e = .returned (.tuple #[]) ∧ Hid (Ag w0 w' hb (k + 1) True v hs u us) := by
  obtain ⟨L, I, m, hm, h⟩ := h
  refine (h.ho.minor (by omega)).mono ?_
  rintro e w' ⟨rfl, hO, hC⟩
  exact ⟨rfl, Lib.hid ⟨L, I, m + 1, by omega, h.got rfl hO hC⟩⟩
theorem Ag.major {w0 w : World} {hb k : Nat} {ao : Prop} {v u : Value} {hs : List Int} {us : List Bool} (h : Ag w0 w hb k ao v hs u us) :
    Calls Tryz.prog 12 #[.pointer (some ⟨hb, 0, none⟩)] w fun e w' => e = .returned (.tuple #[]) ∧ Hid (Ag w0 w' hb (k + 1) True v hs u us) := by
  obtain ⟨L, I, m, hm, h⟩ := h
  refine h.ho.major.mono ?_
  rintro e w' ⟨rfl, hO, hC⟩
  exact ⟨rfl, Lib.hid ⟨L, I.majored, m + 1, by omega, h.got rfl hO hC⟩⟩
theorem Ag.remembered {w0 w : World} {hb k : Nat} {v u : Value} {hs : List Int} {us : List Bool} (h : Ag w0 w hb k True v hs u us) :
    Calls Tryz.prog 21 #[.pointer (some ⟨hb, 0, none⟩)] w fun e w' => e = .returned (.int .i64 0) ∧ Hid (Ag w0 w' hb k True v hs u us) := by
  have h0 := h
  obtain ⟨L, I, m, hm, h⟩ := h
  refine h.ho.remembered.mono ?_
  rintro e w' ⟨rfl, hC⟩
  exact ⟨rfl, Lib.hid (h0.still hC)⟩
theorem Ag.app {w0 w : World} {hb k : Nat} {ao : Prop} {v u : Value} {hs : List Int} {us : List Bool} (h : Ag w0 w hb k ao v hs u us) (b : Bool) (hT : us.length < 1000000000000) :
    ∃ a cap w', (Builtin.append_ #[48, 48] 48 #[u, .slice (some ⟨w.heap.size, 0, none⟩) 1 1]).run Tryz.prog (w.alloc (.cells #[.bool b] 4)) = .ok (.slice a (us.length + 1) cap) w' ∧
      Hid (Ag w0 w' hb k ao v hs (.slice a (us.length + 1) cap) (us ++ [b])) := by
  obtain ⟨L, I, m, hm, h⟩ := h
  obtain ⟨a, cap, w', h1, h2, h3, h4⟩ := appB h.rub b hT
  refine ⟨a, cap, w', h1, Lib.hid ⟨L ++ since w w', I, m, hm, ?_⟩⟩
  have hold : ∀ k, k < w0.heap.size → k ∈ List.range w0.heap.size := fun k hk => List.mem_range.2 hk
  have hs0 := h.chg.size
  refine ⟨(h.ho.allNew (h3.mono fun b _ hb => List.mem_append_right _ (h.uin b hb))).sub fun b hb => by simpa [List.append_assoc] using hb, ?_, ?_, fun b hb => List.mem_append_left _ (h.rin b hb), h2, fun b hb => ?_, fun b hb => ?_, fun b hb => ?_, h.known⟩
  · refine h.chg.trans h3 fun k hk hn => ?_
    have := h.low k hn; omega
  · exact h.row.same fun b hb => h3.block b (h.row.lt hb) fun hu => h.ne b hu hb
  · rcases h4 b hb with h5 | h5
    · exact List.mem_append_left _ (h.uin b h5)
    · exact List.mem_append_right _ (mem_since.2 ⟨h5, h2.lt hb⟩)
  · rcases h4 b hb with h5 | h5
    · exact h.ne b h5
    · intro hv; have := h.row.lt hv; omega
  · rcases h4 b hb with h5 | h5
    · exact h.low b h5
    · omega

end Go.Proofs.YtelghmmcbgfjnaaGreat

/-! The law of generations, walked. -/
namespace Go.Proofs.YtelghmmcbgfjnaaGreat
open Go.RowKit

theorem AgJ.handles {w0 w : World} {hb j : Nat} (h : AgJ w0 w hb j) (hj : j ≤ 80) :
    Calls Tryz.prog 22 #[.pointer (some ⟨hb, 0, none⟩)] w fun e w' => ∃ v hs, e = .returned v ∧ Hid (Ag w0 w' hb 80 False v hs (.slice none 0 0) []) ∧ hs.length ≤ 9000 := by
  obtain ⟨I, m, hm, h, hS⟩ := h
  have hjj : j * j ≤ 80 * 80 := Nat.mul_le_mul (by omega) (by omega)
  have hsz := h.chg.size
  refine (h.hp.ho.handles (by have := hS.hs; omega)).mono ?_
  rintro e w' ⟨v, rfl, hrow, hC, hnew⟩
  refine ⟨v, I.hands, rfl, Lib.hid ⟨since w w', I, m, by omega, ?_⟩, by
    have h1 := hS.hs
    have h2 : I.hands.length = I.hs.length := by unfold IS.hands; rw [(sortI_perm _).length_eq, List.length_map]
    omega⟩
  exact { ho := (h.hp.ho.allNew (hC.mono fun _ _ h => h.elim)).sub fun b hb => by
            rcases List.mem_append.1 hb with hb | hb
            · exact List.mem_append_left _ (List.mem_append_left _ hb)
            · exact List.mem_append_right _ hb
          chg := h.chg.trans hC fun _ _ h => h
          row := hrow
          rin := fun b hb => mem_since.2 ⟨hnew b hb, hrow.lt hb⟩
          rub := Row.nil _ _ _
          uin := fun b hb => by simp [rowBlk] at hb
          ne := fun b hb => by simp [rowBlk] at hb
          low := fun b hb => by simp [rowBlk] at hb
          known := fun n hn => IS.hands_some hn }
theorem AgJ.start {w0 w : World} {hb : Nat} {old : Int} (h : HB w0 w hb [] (IS.start old) 0) : AgJ w0 w hb 0 := ⟨_, 0, Nat.le_refl _, h, SmT.start old⟩

set_option maxRecDepth 100000 in
set_option maxHeartbeats 2000000 in
theorem heapAges_any (w : World) (young old : Int) (a2 : Option Addr) (n2 c2 : Nat) (o : Nat → OpV) (h2 : OpsAt w a2 n2 o) :
    Calls Tryz.prog 7 #[.int .i64 young, .int .i64 old, .slice a2 n2 c2] w fun e w' => e = .returned (.bool true) ∧ Chg (fun _ => False) w w' := by
  refine ret_k fun K hK => ?_
  have HK := Lib.hid hK
  clear hK
  have H2 := Lib.hid h2
  clear h2
  have HSane := Lib.hid (sane_any w)
  by_cases hold : 4 ≤ young ∧ young ≤ 60000 ∧ 4 ≤ old ∧ old ≤ 60000
  · have HNew := Lib.hid fun w => HB.new w young old hold
    clear hold
    go_enter Tryz.func7, Tryz.ntmps7
    go_wp2_with fail
    refine HSane.out.mono ?_; rintro e w1 ⟨rfl, hC1⟩
    have HC1 := Lib.hid hC1
    have HO1 := Lib.hid (H2.out.chg0 hC1)
    clear HSane hC1 H2
    go_wp2_with fail
    refine (HNew.out _).mono ?_; rintro e w3 ⟨a, rfl, hG3⟩
    have HS3 : Hid (AgJ w1 w3 a 0) := AgJ.start hG3.out
    clear HNew hG3
    go_wp2
    go_loopw [10] (fun i wr => ∃ j : Nat, j ≤ 80 ∧ i = .int .i64 j ∧ Hid (AgJ w1 wr a j)) (fun i _ => 80 - (intOf i).toNat)
    case atStart => exact ⟨0, by omega, rfl, HS3⟩
    case round =>
      obtain ⟨j, hj, rfl, HI⟩ := hrel
      clear HS3
      obtain ⟨f, hf⟩ : ∃ f : Bool, f = decide (j < n2 ∧ j < 80) := ⟨_, rfl⟩
      have HF := Lib.hid hf
      clear hf
      go_upto_region 6 with fail
      go_cut [45] from 38 to 44 (fun s45 wx => s45 = .bool f ∧ Hid (AgJ w1 wx a j))
      case first =>
        by_cases g1 : j < n2
        · have g1' : (j : Int) < (n2 : Int) := by omega
          by_cases g3 : j < 80
          · have g3' : (j : Int) < 80 := by omega
            go_wp2
            go_meet
            exact ⟨by rw [HF.out] <;> (try simp) <;> (try omega), HI⟩
          · have g3' : ¬ (j : Int) < 80 := by omega
            go_wp2
            go_meet
            exact ⟨by rw [HF.out] <;> (try simp) <;> (try omega), HI⟩
        · have g1' : ¬ (j : Int) < (n2 : Int) := by omega
          go_wp2
          go_meet
          exact ⟨by rw [HF.out] <;> (try simp) <;> (try omega), HI⟩
      case rest =>
        obtain ⟨rfl, HI2⟩ := hcut
        clear HI
        cases f
        · clear HF HO1
          go_upto_region 10 with (go_at_call 22; refine (HI2.out.handles hj).mono ?_; rintro e wh ⟨v, hs, rfl, HG, hlen⟩)
          obtain ⟨av, cv, rfl, _⟩ := HG.out.len
          clear HI2
          have HLen := Lib.hid hlen
          clear hlen
          go_wp2
          go_loopw [12] (fun i wr => ∃ r : Nat, r ≤ 3 ∧ i = .int .i64 r ∧ Hid (Ag w1 wr a (80 + r) (0 < r) (.slice av hs.length cv) hs (.slice none 0 0) [])) (fun i _ => 3 - (intOf i).toNat)
          case atStart => exact ⟨0, by omega, rfl, Lib.hid (HG.out.more (Nat.le_refl _) (by omega))⟩
          case round =>
            obtain ⟨r, hr, rfl, HA⟩ := hrel
            clear HG
            by_cases hr3 : r < 3
            · have hr3' : (r : Int) < 3 := by omega
              have hwr : IntKind.i64.wrap ((r : Int) + 1) = (r : Int) + 1 := IntWalk.i64_in _ (by omega)
              go_wp2
              go_loopw [13, 14] (fun u k wx => ∃ (j : Nat) (us : List Bool), j ≤ hs.length ∧ us.length = j ∧ k = .int .i64 j ∧ Hid (Ag w1 wx a (80 + r) (0 < r) (.slice av hs.length cv) hs u us)) (fun _ k _ => hs.length - (intOf k).toNat)
              case atStart => exact ⟨0, [], by omega, rfl, rfl, HA⟩
              case round =>
                obtain ⟨j, us, hj2, hus, rfl, HB⟩ := hrel
                clear HA
                by_cases hlt : j < hs.length
                · have hlt' : (j : Int) < (hs.length : Int) := by omega
                  obtain ⟨gb, rfl, hcell⟩ := HB.out.cell hlt
                  have HOl := Lib.hid (HB.out.old hlt)
                  have hwj : IntKind.i64.wrap ((j : Int) + 1) = (j : Int) + 1 := IntWalk.i64_in _ (by have := HLen.out; omega)
                  have HUs := Lib.hid hus
                  clear HB hus
                  generalize hs.getD j 0 = z at hcell HOl
                  go_upto_region 18 with (go_at_call 19; refine HOl.out.mono ?_; rintro e wo ⟨b, rfl, hb, HB⟩)
                  clear HOl hcell
                  go_cut [84] from 75 to 83 (fun s84 wx => s84 = .bool false ∧ Hid (Ag w1 wx a (80 + r) (0 < r) (.slice (some ⟨gb, 0, none⟩) hs.length cv) hs u13 us))
                  case first =>
                    by_cases h2 : r = 2
                    · obtain rfl := hb.out (by omega)
                      subst h2
                      go_wp2
                      go_meet
                      exact ⟨rfl, HB⟩
                    · have h2' : ¬ ((r : Int) = 2) := by omega
                      go_wp2
                      go_meet
                      exact ⟨rfl, HB⟩
                  case rest =>
                    obtain ⟨rfl, HB2⟩ := hcut
                    obtain ⟨a3, c3, w3, happ, HB3⟩ := HB2.out.app b (by rw [HUs.out]; have := HLen.out; omega)
                    clear HB HB2 hb
                    go_wp2_with (at_builtin; go_must (refine wpList_val rfl (exec_append rfl happ) ?_))
                    go_roundw
                    case rel => exact ⟨j + 1, us ++ [b], by omega, by rw [List.length_append, HUs.out, List.length_singleton], by go_num, HB3⟩
                    case measure => simp [intOf]; omega
                · obtain rfl : j = hs.length := by omega
                  obtain ⟨au, cu, rfl⟩ := HB.out.ulen
                  have HUs := Lib.hid hus
                  clear hus
                  obtain ⟨f1, hf1⟩ : ∃ f1 : Bool, f1 = decide (r = 1) := ⟨_, rfl⟩
                  have HF1 := Lib.hid hf1
                  clear hf1
                  go_upto_region 21 with fail
                  go_cut [90] from 89 to 90 (fun s90 wx => s90 = .bool f1 ∧ wx = wr)
                  case first =>
                    by_cases h1 : r = 1
                    · subst h1
                      go_wp2
                      go_meet
                      exact ⟨by rw [HF1.out] <;> rfl, rfl⟩
                    · have h1'' : ¬ ((r : Int) = 1) := by omega
                      have h1' : ((r : Int) == 1) = false := by simpa using h1''
                      go_wp2
                      go_meet
                      refine ⟨?_, rfl⟩
                      rw [HF1.out]
                      simp [h1]
                      try omega
                  case rest =>
                    obtain ⟨rfl, rfl⟩ := hcut
                    go_upto_if 90 with fail
                    go_cut [] from 89 to 94 (fun wx => Hid (Ag w1 wx a (80 + r + 1) True (.slice av hs.length cv) hs (.slice au us.length cu) us))
                    case first =>
                      cases f1
                      · have HM := Lib.hid (HB.out.minor (by omega))
                        clear HB
                        go_wp2_with fail
                        refine HM.out.mono ?_; rintro e wn ⟨rfl, HB2⟩
                        go_wp2
                        go_meet
                        exact HB2
                      · have HM := Lib.hid HB.out.major
                        clear HB
                        go_wp2_with fail
                        refine HM.out.mono ?_; rintro e wn ⟨rfl, HB2⟩
                        go_wp2
                        go_meet
                        exact HB2
                    case rest =>
                      have HB2 := hcut
                      clear HB
                      go_wp2
                      go_loopw [17] (fun k wx => ∃ (j : Nat), j ≤ hs.length ∧ k = .int .i64 j ∧ Hid (Ag w1 wx a (80 + r + 1) True (.slice av hs.length cv) hs (.slice au us.length cu) us)) (fun k _ => hs.length - (intOf k).toNat)
                      case atStart => exact ⟨0, by omega, rfl, HB2⟩
                      case round =>
                        obtain ⟨j, hj2, rfl, HB⟩ := hrel
                        clear HB2
                        by_cases hlt : j < hs.length
                        · have hlt' : (j : Int) < (hs.length : Int) := by omega
                          have hwj : IntKind.i64.wrap ((j : Int) + 1) = (j : Int) + 1 := IntWalk.i64_in _ (by have := HLen.out; omega)
                          have hlu : (j : Int) < (us.length : Int) := by rw [HUs.out]; omega
                          obtain ⟨gb, rfl, hcell⟩ := HB.out.cell hlt
                          obtain ⟨gu, rfl, hbit⟩ := HB.out.bit (j := j) (by rw [HUs.out]; omega)
                          have HOl := Lib.hid (HB.out.old hlt)
                          clear HB
                          generalize hs.getD j 0 = z at hcell HOl
                          generalize us.getD j false = y at hbit
                          go_upto_region 28 with (go_at_call 19; refine HOl.out.mono ?_; rintro e wo ⟨b, rfl, hb, HB⟩)
                          obtain rfl := hb.out trivial
                          obtain ⟨_, e3, hbit2⟩ := HB.out.bit (j := j) (by rw [HUs.out]; omega)
                          obtain ⟨e3, _⟩ : _ ∧ True := ⟨e3, trivial⟩
                          simp only [Option.some.injEq, Addr.mk.injEq, and_true] at e3
                          subst e3
                          generalize us.getD j false = y2 at hbit2
                          cases y2
                          all_goals
                            go_wp2
                            go_roundw
                            case rel => exact ⟨j + 1, by omega, by go_num, HB⟩
                            case measure => simp [intOf]; omega
                        · obtain rfl : j = hs.length := by omega
                          go_upto_region 30 with fail
                          go_cut [128] from 122 to 128 (fun s128 wx => s128 = .bool false ∧ Hid (Ag w1 wx a (80 + r + 1) True (.slice av hs.length cv) hs (.slice au us.length cu) us))
                          case first =>
                            by_cases h1 : r = 1
                            · subst h1
                              have HR := Lib.hid HB.out.remembered
                              clear HB
                              go_wp2_with fail
                              refine HR.out.mono ?_; rintro e wn ⟨rfl, HB2⟩
                              go_wp2
                              go_meet
                              exact ⟨rfl, HB2⟩
                            · have h1'' : ¬ ((r : Int) = 1) := by omega
                              have h1' : ((r : Int) == 1) = false := by simpa using h1''
                              go_wp2
                              go_meet
                              exact ⟨rfl, HB⟩
                          case rest =>
                            obtain ⟨rfl, HB2⟩ := hcut
                            clear HB
                            go_wp2
                            go_roundw
                            case rel => exact ⟨r + 1, by omega, by go_num, Lib.hid (HB2.out.fresh.more (by omega) (fun _ => trivial))⟩
                            case measure => simp [intOf]; omega
            · obtain rfl : r = 3 := by omega
              have HZ := Lib.hid (HK.out _ _ ⟨rfl, HC1.out.trans HA.out.chg (fun _ _ h => h)⟩)
              clear HA HK
              go_wp2
              go_ret
              exact HZ.out
        · have hlt : j < n2 ∧ j < 80 := of_decide_eq_true HF.out.symm
          obtain ⟨x, e1, ho⟩ := HO1.out j hlt.1
          subst e1
          have hg : (j : Int) < (n2 : Int) := by omega
          have HJ : Hid (j < 80) := hlt.2
          obtain ⟨op, hop⟩ : ∃ op, op = o j := ⟨_, rfl⟩
          rw [← hop] at ho
          have HOp := Lib.hid ho
          obtain ⟨q0, q1, q2, q3⟩ := (ho.chg0 HI2.out.chg).op4
          have HT := Lib.hid (HI2.out.tell hlt.2 ho)
          have hwj : IntKind.i64.wrap ((j : Int) + 1) = (j : Int) + 1 := IntWalk.i64_in _ (by omega)
          clear ho hop HF hlt HO1
          go_wp2_with (go_at_call 15; refine HT.out.mono ?_; rintro e wh ⟨v, rfl, HG⟩)
          clear q0 q1 q2 q3 HT HI2
          go_wp2
          go_roundw
          case rel => exact ⟨j + 1, by have := HJ.out; omega, by go_num, HG⟩
          case measure => have := HJ.out; simp [intOf]; omega
  · have HNo := Lib.hid fun w => new_no w young old (by omega)
    go_enter Tryz.func7, Tryz.ntmps7
    go_wp2_with fail
    refine HSane.out.mono ?_; rintro e w1 ⟨rfl, hC1⟩
    have HC1 := Lib.hid hC1
    clear HSane hC1 H2
    go_wp2_with fail
    refine (HNo.out _).mono ?_; rintro e w3 ⟨rfl, hC3⟩
    have HZ : Hid (Post K (.returned (.bool true)) w3) := HK.out _ _ ⟨rfl, HC1.out.trans hC3 fun _ _ h => h⟩
    clear HNo hC3
    go_wp2
    go_ret
    exact HZ.out

end Go.Proofs.YtelghmmcbgfjnaaGreat
