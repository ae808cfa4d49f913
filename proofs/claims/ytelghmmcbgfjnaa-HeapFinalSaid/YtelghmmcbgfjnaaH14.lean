/-
  Make. (A part of the proof, joined of: Xo, Xp, Xq, Xr, Xs.)
-/
import Derived.Test.YtelghmmcbgfjnaaH13
/-! Make. -/
namespace Go.Proofs.Ytelghmmcbgfjnaa
open Go.RowKit

/-- One word more behind a slice of words. -/
theorem appW {w : World} {v : Value} {xs : List Wd} (hrow : Row w 69 2 v xs.length (wdCells xs)) (c : Wd) (hT : xs.length < 1000000000000) :
    ∃ a cap w', (Builtin.append_ #[58, 58] 58 #[v, .slice (some ⟨w.heap.size, 0, none⟩) 1 1]).run Try.prog (w.alloc (.cells #[.bool c.ref, .int .i64 c.num] 69)) = .ok (.slice a (xs.length + 1) cap) w' ∧
      Row w' 69 2 (.slice a (xs.length + 1) cap) (xs ++ [c]).length (wdCells (xs ++ [c])) ∧ Chg (fun b => rowBlk v = some b) w w' ∧ (∀ b, rowBlk (.slice a (xs.length + 1) cap) = some b → rowBlk v = some b ∨ w.heap.size ≤ b) := by
  obtain ⟨i0, hi, hz0, hz1, hz2⟩ := info_parts iWord
  have h1 : Row (w.alloc (.cells #[.bool c.ref, .int .i64 c.num] 69)) 69 2 v xs.length (wdCells xs) := hrow.same fun b hb => by rw [heap_alloc, if_neg (by have := hrow.lt hb; omega)]
  have hsrc : Src' (w.alloc (.cells #[.bool c.ref, .int .i64 c.num] 69)) 2 (.slice (some ⟨w.heap.size, 0, none⟩) 1 1) 1 [.bool c.ref, .int .i64 c.num] := src_block (heap_alloc_new _ _) (by simp) (by simp)
  obtain ⟨v3, w3, happ, hrow3, hC3, hloc3⟩ := run_append_row (P := Try.prog) 58 58 69 i0 _ 2 16 uWords hi hz0 hz1 hz2 rfl (by decide) h1 hsrc (by simp [Value.oneCell']) (by unfold maxLen; omega) (by omega)
  obtain ⟨a3, cap3, rfl, -⟩ := hrow3.slice
  have hCa : Chg (fun b => rowBlk v = some b) w (w.alloc (.cells #[.bool c.ref, .int .i64 c.num] 69)) := (Chg.refl _ _).alloc _
  refine ⟨a3, cap3, w3, happ, ?_, hCa.trans hC3 (fun _ _ h => h), ?_⟩
  · have e : wdCells (xs ++ [c]) = wdCells xs ++ [.bool c.ref, .int .i64 c.num] := by simp [wdCells, Wd.cells]
    rw [e, List.length_append, List.length_singleton]
    exact hrow3
  · intro b hb
    rcases hloc3 b hb with h2 | h2
    · exact .inl h2
    · simp at h2; exact .inr (by omega)

/-- Cells that are given: a slice of them. -/
structure CellsAt (w : World) (a : Option Addr) (n : Nat) (cs : List Wd) : Prop where
  len : cs.length = n
  cell : ∀ j c, cs[j]? = some c → ∃ b o, a = some ⟨b, o, none⟩ ∧ w.cell? ⟨b, o + j * 2, none⟩ = some (.bool c.ref) ∧ w.cell? ⟨b, o + j * 2 + 1, none⟩ = some (.int .i64 c.num)

theorem cell_chg {F : Nat → Prop} {w w' : World} (h : Chg F w w') {a : Addr} {v : Value} (hc : w.cell? a = some v) (hn : ¬ F a.block) : w'.cell? a = some v := by
  have hlt := World.block_lt_of_cell? w a hc
  rw [← hc]
  exact World.cell?_of_block (h.block a.block hlt hn)
theorem CellsAt.chg {F : Nat → Prop} {w w' : World} {a : Option Addr} {n : Nat} {cs : List Wd} (h : CellsAt w a n cs) (hC : Chg F w w') (hn : ∀ b o, a = some ⟨b, o, none⟩ → ¬ F b) : CellsAt w' a n cs :=
  ⟨h.len, fun j c hj => by
    obtain ⟨b, o, h1, h2, h3⟩ := h.cell j c hj
    exact ⟨b, o, h1, cell_chg hC h2 (hn b o h1), cell_chg hC h3 (hn b o h1)⟩⟩

def St.okC (A : St) (c : Wd) : Bool := !c.ref || (A.handles.lookup c.num).isSome
def St.wordC (A : St) (c : Wd) : Wd := (A.inW c).1
theorem inW_ok {A : St} {c : Wd} (h : A.okC c = true) : (A.inW c).2 = 0 := by
  unfold St.okC at h
  unfold St.inW
  cases hr : c.ref with
  | false => simp
  | true =>
    rw [hr] at h
    cases hl : A.handles.lookup c.num with
    | none => rw [hl] at h; simp at h
    | some n => simp
theorem inW_bad {A : St} {c : Wd} (h : A.okC c = false) : (A.inW c).2 = 221 := by
  unfold St.okC at h
  unfold St.inW
  cases hr : c.ref with
  | false => rw [hr] at h; simp at h
  | true =>
    rw [hr] at h
    cases hl : A.handles.lookup c.num with
    | none => simp
    | some n => rw [hl] at h; simp at h

/-- In the loop of Make. -/
structure MkI (w : World) (A : St) (tag : Int) (cs : List Wd) (j : Nat) (v : Value) (wr : World) : Prop where
  row : Row wr 69 2 v (j + 1) (wdCells (⟨false, tag⟩ :: (cs.take j).map A.wordC))
  chg : Chg (fun _ => False) w wr
  new : ∀ b, rowBlk v = some b → w.heap.size ≤ b
  ok : ∀ c ∈ cs.take j, A.okC c = true
  le : j ≤ cs.length

/-- The state behind room, and what it tells. -/
def RoomR (A : St) (n : Int) (A' : St) (r : Bool) : Prop := (A' = A ∧ A.used + n ≤ A.full ∧ r = true) ∨ (A' = A.cleaned ∧ r = decide (A.cleaned.used + n ≤ A.full))

structure Good (k m : Nat) (A : St) : Prop where
  wf : Wf k m A
  rem : RemOk A
  free : FreeOk A

theorem RoomR.good {k m : Nat} {A A' : St} {n : Int} {r : Bool} (h : RoomR A n A' r) (hg : Good k m A) : Good k m A' := by
  rcases h with ⟨rfl, _⟩ | ⟨rfl, _⟩
  · exact hg
  · have hs := cleaned_same hg.wf
    exact ⟨hg.wf.swept.settled, (settled_allOld hg.wf.swept.fit).remOk, hg.free.congr hs.2.2.2.2.2.1 hs.2.2.2.2.2.2.1 hs.2.2.1⟩
theorem RoomR.same {k m : Nat} {A A' : St} {n : Int} {r : Bool} (h : RoomR A n A' r) (hg : Good k m A) : A'.names = A.names ∧ A'.young = A.young ∧ A'.handles = A.handles ∧ A'.reg = A.reg ∧ A'.queue = A.queue ∧ A'.free = A.free ∧ A'.next = A.next ∧ A'.full = A.full := by
  rcases h with ⟨rfl, _⟩ | ⟨rfl, _⟩
  · exact ⟨rfl, rfl, rfl, rfl, rfl, rfl, rfl, rfl⟩
  · exact cleaned_same hg.wf

/-- What may come of adding an object. -/
inductive AddSpec (A : St) (table : Bool) (ws : List Wd) : Int → Int → St → Prop
  | full {Ar : St} : RoomR A ws.length Ar false → AddSpec A table ws 0 220 Ar
  | made {Ar A1 A2 : St} {n : Int} : RoomR A ws.length Ar true → MinoredOr Ar A1 → Granted (A1.added table (decide (Ar.young < (A1.memN.length : Int) + ws.length)) ws) Ar.names n A2 → AddSpec A table ws n 0 A2

inductive MakeSpec (A : St) (tag : Int) (cs : List Wd) : Int → Int → St → Prop
  | bad : (∃ c ∈ cs, A.okC c = false) → MakeSpec A tag cs 0 221 A
  | arg : (∀ c ∈ cs, A.okC c = true) → (tag < 0 ∨ 200 < cs.length) → MakeSpec A tag cs 0 1 A
  | add {r e : Int} {A' : St} : (∀ c ∈ cs, A.okC c = true) → 0 ≤ tag → cs.length ≤ 200 → AddSpec A false (⟨false, tag⟩ :: cs.map A.wordC) r e A' → MakeSpec A tag cs r e A'

set_option maxRecDepth 100000 in
set_option maxHeartbeats 4000000 in
theorem make_any {k m : Nat} {w : World} {g : Gh} {A : St} (hR : Rep w g A) (hg : Good k m A) (hm' : A.memT.length + 1001 * k ≤ 100000000000) (hh : A.handles.length < 9000) (hnm : A.names ≤ 1000000 ∧ 0 ≤ A.names) (hfull : A.full ≤ 60000)
    (tag : Int) {fa : Option Addr} {n fc : Nat} {cs : List Wd} (hcs : CellsAt w fa n cs) (hn : n ≤ 1000000000) :
    Calls Try.prog 10 #[.pointer (some ⟨g.hb, 0, none⟩), .int .i64 tag, .slice fa n fc] w fun e w' => ∃ r er, e = .returned (.tuple #[.int .i64 r, .int .i64 er]) ∧
      Hid (∃ A' g', MakeSpec A tag cs r er A' ∧ Rep w' g' A' ∧ Step w g A w' g') := by
  refine ret_k fun K hK => ?_
  have HK := Lib.hid hK
  have hob : ∀ n name, A.handles.lookup n = some name → (A.objs.lookup name).isSome := fun n name hl => hg.wf.roots name (mem_roots.2 (.inr ⟨_, look_mem hl, rfl⟩))
  have hlen := hcs.len
  have hI0 : MkI w A tag cs 0 (.slice (some ⟨w.heap.size, 0, none⟩) 1 1) (w.alloc (.cells #[.bool false, .int .i64 tag] 69)) := by
    refine ⟨?_, (Chg.refl _ _).alloc _, ?_, by simp, Nat.zero_le _⟩
    · exact ⟨by simp [wdCells, Wd.cells], by unfold maxLen; omega, .inr ⟨w.heap.size, 0, _, rfl, heap_alloc_new _ _, by omega, by unfold maxLen; omega, by simp, by simp [wdCells, Wd.cells]⟩⟩
    · intro b hb; simp [rowBlk] at hb; omega
  -- a round
  have HRound : Hid (∀ (j : Nat) (cr : Bool) (cn : Int) (v : Value) (wr : World), j < n → cs[j]? = some ⟨cr, cn⟩ → MkI w A tag cs j v wr → ∃ (xr : Bool) (xn er : Int), (er = 0 ∨ er = 221) ∧ ∀ X, Calls Try.prog 27 #[.pointer (some ⟨g.hb, 0, none⟩), .agg #[.bool cr, .int .i64 cn]] (wr.alloc X) fun e w5 =>
      e = .returned (.tuple #[.agg #[.bool xr, .int .i64 xn], .int .i64 er]) ∧
      Hid (er = 221 → ∀ Y, Post K (.returned (.tuple #[.int .i64 0, .int .i64 221])) (w5.alloc Y)) ∧
      ∃ a cap w6, (Builtin.append_ #[58, 58] 58 #[v, .slice (some ⟨w5.heap.size + 1, 0, none⟩) 1 1]).run Try.prog ((w5.alloc (.cells #[.bool xr, .int .i64 xn] 69)).alloc (.cells #[.bool xr, .int .i64 xn] 69)) = .ok (.slice a (j + 2) cap) w6 ∧
        Hid (er = 0 → MkI w A tag cs (j + 1) (.slice a (j + 2) cap) w6)) := by
    intro j cr cn v wr hj hcj hI
    refine ⟨(A.wordC ⟨cr, cn⟩).ref, (A.wordC ⟨cr, cn⟩).num, (A.inW ⟨cr, cn⟩).2, ?_, ?_⟩
    · cases ho : A.okC ⟨cr, cn⟩ with
      | true => exact .inl (inW_ok ho)
      | false => exact .inr (inW_bad ho)
    · intro X
      have hin := in_any ((hR.chg0 hI.chg).alloc X) ⟨cr, cn⟩ hob
      refine hin.mono ?_
      rintro e w5 ⟨rfl, hC⟩
      have hC5 : Chg (fun _ => False) w w5 := (hI.chg.alloc X).trans hC (fun _ _ h => h)
      refine ⟨rfl, fun he Y => ?_, ?_⟩
      · refine HK.out _ _ ⟨0, 221, rfl, A, g, .bad ⟨_, List.mem_of_getElem? hcj, ?_⟩, hR.chg0 (hC5.alloc Y), Step.chg0 g A (hC5.alloc Y)⟩
        cases ho : A.okC ⟨cr, cn⟩ with
        | true => have := inW_ok ho; rw [this] at he; cases he
        | false => rfl
      · have hl2 : (⟨false, tag⟩ :: (cs.take j).map A.wordC : List Wd).length = j + 1 := by simp; omega
        have hrow : Row (w5.alloc (.cells #[.bool (A.wordC ⟨cr, cn⟩).ref, .int .i64 (A.wordC ⟨cr, cn⟩).num] 69)) 69 2 v (⟨false, tag⟩ :: (cs.take j).map A.wordC : List Wd).length (wdCells (⟨false, tag⟩ :: (cs.take j).map A.wordC)) := by
          rw [hl2]
          refine hI.row.same fun b hb => ?_
          have hlt := hI.row.lt hb
          have hc1 := hC.block b (by simp; omega) (fun h => h)
          rw [heap_alloc, if_neg (by have := hC.size; simp at this; omega), hc1, heap_alloc, if_neg (by omega)]
        obtain ⟨a, cap, w6, happ, hr6, hC6, hloc⟩ := appW hrow (A.wordC ⟨cr, cn⟩) (by rw [hl2]; omega)
        rw [hl2] at happ hr6 hloc
        have hsz : (w5.alloc (.cells #[.bool (A.wordC ⟨cr, cn⟩).ref, .int .i64 (A.wordC ⟨cr, cn⟩).num] 69)).heap.size = w5.heap.size + 1 := by simp
        rw [hsz] at happ hloc
        refine ⟨a, cap, w6, happ, fun he => ?_⟩
        have ho : A.okC ⟨cr, cn⟩ = true := by
          cases ho : A.okC ⟨cr, cn⟩ with
          | true => rfl
          | false => have := inW_bad ho; rw [this] at he; cases he
        have htk : cs.take (j + 1) = cs.take j ++ [⟨cr, cn⟩] := by
          obtain ⟨hjl, he⟩ := List.getElem?_eq_some_iff.1 hcj
          rw [List.take_succ_eq_append_getElem hjl, he]
        refine ⟨?_, ?_, ?_, ?_, by omega⟩
        · have e1 : (⟨false, tag⟩ :: (cs.take (j + 1)).map A.wordC : List Wd) = ⟨false, tag⟩ :: (cs.take j).map A.wordC ++ [A.wordC ⟨cr, cn⟩] := by rw [htk]; simp
          rw [e1]
          have e2 : (⟨false, tag⟩ :: (cs.take j).map A.wordC ++ [A.wordC ⟨cr, cn⟩] : List Wd).length = j + 1 + 1 := by simp; omega
          rw [e2] at hr6
          exact hr6
        · exact (hC5.alloc _).trans hC6 (fun b hb hv => by have := hI.new b hv; omega)
        · intro b hb
          rcases hloc b hb with h1 | h1
          · exact hI.new b h1
          · have := hC5.size; omega
        · intro c hc
          rw [htk] at hc
          rcases List.mem_append.1 hc with hc | hc
          · exact hI.ok c hc
          · simp at hc; rw [hc]; exact ho
  -- the end
  have HEnd : Hid (∀ (v : Value) (wr : World), MkI w A tag cs n v wr → ∃ lb c, v = .slice (some ⟨lb, 0, none⟩) (n + 1) (c + 1) ∧ Hid ((tag < 0 ∨ 200 < n) → Post K (.returned (.tuple #[.int .i64 0, .int .i64 1])) wr) ∧ Hid (0 ≤ tag → n ≤ 200 →
      Calls Try.prog 28 #[.pointer (some ⟨g.hb, 0, none⟩), .int .i64 1] wr (fun e w' => e = .returned (.bool true) ∧ wr = w') ∧
      Calls Try.prog 29 #[.pointer (some ⟨g.hb, 0, none⟩), .int .i64 (n + 1)] wr (fun e w6 => ∃ r, e = .returned (.bool r) ∧ Hid (r = false → Post K (.returned (.tuple #[.int .i64 0, .int .i64 220])) w6) ∧
        Hid (r = true → Calls Try.prog 30 #[.pointer (some ⟨g.hb, 0, none⟩), .pointer (some ⟨w6.heap.size, 0, none⟩), .slice (some ⟨lb, 0, none⟩) (n + 1) (c + 1)] (w6.alloc (.cells #[.bool false, .int .i64 n, .bool false, .int .i64 0, .slice none 0 0] 77)) fun e w7 => ∃ q, e = .returned (.int .i64 q) ∧ Hid (Post K (.returned (.tuple #[.int .i64 q, .int .i64 0])) w7))))) := by
    intro v wr hI
    obtain ⟨a, cap, hv, hle, _, hcase⟩ := hI.row.slice
    obtain ⟨lb, rfl, hb⟩ : ∃ b, a = some ⟨b, 0, none⟩ ∧ rowBlk v = some b := by
      rcases hcase with h | h
      · omega
      · exact h
    obtain ⟨c, rfl⟩ : ∃ c, cap = c + 1 := ⟨cap - 1, by omega⟩
    have hall : ∀ c ∈ cs, A.okC c = true := by have := hI.ok; rwa [List.take_of_length_le (by omega)] at this
    have hRr := hR.chg0 hI.chg
    have hrow := hI.row
    rw [List.take_of_length_le (by omega), hv] at hrow
    have hnew := hI.new lb hb
    refine ⟨lb, c, hv, fun h => HK.out _ _ ⟨0, 1, rfl, A, g, .arg hall (by rw [hlen]; exact h), hRr, Step.chg0 g A hI.chg⟩, fun ht hn2 => ⟨spare_any hRr 1 (by omega) (by omega), ?_⟩⟩
    refine (room_any hRr hg.wf ((n : Int) + 1) (by omega) hfull).mono ?_
    rintro e w6 ⟨r, rfl, hZ⟩
    obtain ⟨Ar, gr, hroom, hR6, hS6⟩ := hZ.out
    have hwl : (⟨false, tag⟩ :: cs.map A.wordC : List Wd).length = n + 1 := by simp [hlen]
    have hroom' : RoomR A ((⟨false, tag⟩ :: cs.map A.wordC : List Wd).length : Nat) Ar r := by
      rw [hwl]
      exact hroom
    have hS : Step w g A w6 gr := (Step.chg0 g A hI.chg).trans hS6 (Int.le_refl _)
    have hsame := hroom'.same hg
    have hgood := hroom'.good hg
    refine ⟨r, rfl, fun hr => ?_, fun hr => ?_⟩
    · rw [hr] at hroom'
      exact HK.out _ _ ⟨0, 220, rfl, Ar, gr, .add hall ht (by omega) (.full hroom'), hR6, hS⟩
    · rw [hr] at hroom'
      obtain ⟨cur, hc⟩ := hrow.elem (g := lb) (by simp [rowBlk])
      have hat := hS6.at hc (hR.none_of_ge hnew)
      have hlt6 := lt_of_block hat.1
      have hmT : Ar.memT.length + 1001 * k ≤ 100000000000 := by
        rcases hroom with ⟨rfl, _⟩ | ⟨rfl, _⟩
        · exact hm'
        · have h1 := (settled_I hg.wf.swept.fit).memT
          rw [sorted_length] at h1
          have h2 := hg.wf.swept.many
          have h3 := hg.wf.hk
          have h4 : A.cleaned.memT.length ≤ 1001 * A.swept.objs.length := h1
          omega
      have hadd := add_any (m' := 100000000000) (b := w6.heap.size) (table := false) (ws := ⟨false, tag⟩ :: cs.map A.wordC) (lb := lb) (c := c) (hR6.alloc (.cells #[.bool false, .int .i64 n, .bool false, .int .i64 0, .slice none 0 0] 77))
        (hS.trans (Step.alloc w6 gr Ar _) (by rw [hsame.1]; exact Int.le_refl _)) hgood.wf hgood.rem hgood.free (by rw [hsame.1]; exact Int.le_refl _) (Nat.le_refl _) hmT (by have := hg.wf.hk; omega) (by rw [hsame.2.2.1]; exact hh) (by rw [hsame.1]; exact hnm)
        (by rw [hwl]; omega) (by rw [hwl]; exact heap_alloc_new _ _) (hR6.none_of_ge (Nat.le_refl _)) hS.chg.size
        (by
          rw [hwl]
          refine hrow.same fun x hx => ?_
          simp only [rowBlk, Option.some.injEq] at hx
          rw [← hx, heap_alloc, if_neg (by omega), hat.1, hc]) hat.2 (by omega)
      have hgb : gr.hb = g.hb := hS6.hb
      rw [hgb, hwl] at hadd
      refine hadd.mono ?_
      rintro e w7 ⟨q, rfl, hZ7⟩
      obtain ⟨A1, old, A2, g7, hM, hold, hG, hR7, hS7⟩ := hZ7.out
      refine ⟨q, rfl, HK.out _ _ ⟨q, 0, rfl, A2, g7, .add hall ht (by omega) (.made hroom' hM ?_), hR7, hS7⟩⟩
      rw [hwl, ← hold]
      exact hG
  have HCs := Lib.hid hcs
  have HI0 := Lib.hid hI0
  have HLen := Lib.hid hlen
  clear hI0 hcs hR hlen hob hK hg hm' hh hnm hfull HK
  go_enter Try.func10, Try.ntmps10
  go_wp2
  go_loopw [8, 20] (fun s8 s20 wr => ∃ (v : Value) (j : Nat), s8 = v ∧ s20 = .int .i64 j ∧ MkI w A tag cs j v wr) (fun _ s20 _ => n - (intOf s20).toNat)
  case atStart => exact ⟨_, 0, rfl, rfl, HI0.out⟩
  case round =>
    obtain ⟨v, j, rfl, rfl, hI⟩ := hrel
    clear HI0
    by_cases hlt : j < n
    · obtain ⟨⟨cr, cn⟩, hcl⟩ : ∃ c, cs[j]? = some c := ⟨_, List.getElem?_eq_getElem (by rw [HLen.out]; exact hlt)⟩
      obtain ⟨fb, fo, rfl, k1, k2⟩ := (HCs.out.chg hI.chg (fun _ _ _ h => h)).cell j _ hcl
      obtain ⟨xr, xn, er, her, hr⟩ := HRound.out j cr cn _ wr hlt hcl hI
      have HR := Lib.hid hr
      clear hcl hI hr HRound HEnd HCs HLen
      rcases her with rfl | rfl
      · go_wp2_with (first | (go_at_call 27; refine (HR.out _).mono ?_; rintro e w5 ⟨rfl, HP, a, cap, w6, happ, HI6⟩) | (at_builtin; go_must (refine wpList_val rfl (exec_append rfl (by exact happ)) ?_)))
        go_roundw
        case rel => exact ⟨_, j + 1, rfl, by go_num, HI6.out trivial⟩
        case measure => simp [intOf]; omega
      · go_wp2_with (go_at_call 27; refine (HR.out _).mono ?_; rintro e w5 ⟨rfl, HP, a, cap, w6, happ, HI6⟩)
        go_ret2
        exact HP.out trivial _
    · obtain rfl : j = n := by have := hI.le; have := HLen.out; omega
      obtain ⟨lb, c, rfl, HA, HB⟩ := HEnd.out _ wr hI
      clear hI HRound HEnd HCs HLen
      by_cases ht : tag < 0
      · have HP := Lib.hid (HA.out (.inl ht))
        clear HA HB
        go_wp2
        go_ret2
        exact HP.out
      · by_cases hn2 : 200 < j
        · have HP := Lib.hid (HA.out (.inr hn2))
          have hn3 : (200 : Int) < (j : Int) := by omega
          have ht0 : 0 ≤ tag := by omega
          clear HA HB ht hn2
          go_wp2
          go_ret2
          exact HP.out
        · obtain ⟨hSp, hRm⟩ := HB.out (by omega) (by omega)
          have HSp := Lib.hid hSp
          have HRm := Lib.hid hRm
          have hn3 : ¬ ((200 : Int) < (j : Int)) := by omega
          clear HA HB hSp hRm
          go_wp2_with fail
          refine HSp.out.mono ?_
          rintro e w5 ⟨rfl, rfl⟩
          go_wp2_with fail
          refine HRm.out.mono ?_
          rintro e w6 ⟨r, rfl, HF, HAdd⟩
          clear HSp HRm
          cases r
          · have HP := Lib.hid (HF.out rfl)
            clear HF HAdd
            go_wp2
            go_ret2
            exact HP.out
          · have HAd := Lib.hid (HAdd.out rfl)
            clear HF HAdd
            go_wp2_with fail
            refine HAd.out.mono ?_
            rintro e w7 ⟨q, rfl, hZ⟩
            go_wp2
            go_ret2
            exact hZ.out

end Go.Proofs.Ytelghmmcbgfjnaa

/-! Table; New. -/
namespace Go.Proofs.Ytelghmmcbgfjnaa
open Go.RowKit

set_option maxRecDepth 100000 in
set_option maxHeartbeats 2000000 in
theorem table_any {k m : Nat} {w : World} {g : Gh} {A : St} (hR : Rep w g A) (hg : Good k m A) (hm' : A.memT.length + 1001 * k ≤ 100000000000) (hh : A.handles.length < 9000) (hnm : A.names ≤ 1000000 ∧ 0 ≤ A.names) (hfull : A.full ≤ 60000) :
    Calls Try.prog 12 #[.pointer (some ⟨g.hb, 0, none⟩)] w fun e w' => ∃ r er, e = .returned (.tuple #[.int .i64 r, .int .i64 er]) ∧
      Hid (∃ A' g', AddSpec A true [⟨false, 0⟩] r er A' ∧ Rep w' g' A' ∧ Step w g A w' g') := by
  refine ret_k fun K hK => ?_
  have HK := Lib.hid hK
  have HSp := Lib.hid (spare_any hR 1 (by omega) (by omega))
  have HRm : Hid (Calls Try.prog 29 #[.pointer (some ⟨g.hb, 0, none⟩), .int .i64 1] w (fun e w6 => ∃ r, e = .returned (.bool r) ∧ Hid (r = false → Post K (.returned (.tuple #[.int .i64 0, .int .i64 220])) w6) ∧
        Hid (r = true → Calls Try.prog 30 #[.pointer (some ⟨g.hb, 0, none⟩), .pointer (some ⟨w6.heap.size, 0, none⟩), .slice (some ⟨w6.heap.size + 1, 0, none⟩) 1 1] ((w6.alloc (.cells #[.bool true, .int .i64 0, .bool false, .int .i64 0, .slice none 0 0] 77)).alloc (.cells #[.bool false, .int .i64 0] 69)) fun e w7 => ∃ q, e = .returned (.int .i64 q) ∧ Hid (Post K (.returned (.tuple #[.int .i64 q, .int .i64 0])) w7)))) := by
    refine (room_any hR hg.wf 1 (by omega) hfull).mono ?_
    rintro e w6 ⟨r, rfl, hZ⟩
    obtain ⟨Ar, gr, hroom, hR6, hS⟩ := hZ.out
    have hroom' : RoomR A (([⟨false, 0⟩] : List Wd).length : Nat) Ar r := hroom
    have hsame := hroom'.same hg
    have hgood := hroom'.good hg
    refine ⟨r, rfl, fun hr => ?_, fun hr => ?_⟩
    · rw [hr] at hroom'
      exact HK.out _ _ ⟨0, 220, rfl, Ar, gr, .full hroom', hR6, hS⟩
    · rw [hr] at hroom'
      have hmT : Ar.memT.length + 1001 * k ≤ 100000000000 := by
        rcases hroom with ⟨rfl, _⟩ | ⟨rfl, _⟩
        · exact hm'
        · have h1 := (settled_I hg.wf.swept.fit).memT
          rw [sorted_length] at h1
          have h2 := hg.wf.swept.many
          have h3 := hg.wf.hk
          have h4 : A.cleaned.memT.length ≤ 1001 * A.swept.objs.length := h1
          omega
      obtain ⟨W, hW⟩ : ∃ W, W = (w6.alloc (.cells #[.bool true, .int .i64 0, .bool false, .int .i64 0, .slice none 0 0] 77)).alloc (.cells #[.bool false, .int .i64 0] 69) := ⟨_, rfl⟩
      have hCW : Chg (fun _ => False) w6 W := by rw [hW]; exact ((Chg.refl _ _).alloc _).alloc _
      have hbw : W.heap[w6.heap.size + 1]? = some (.cells #[.bool false, .int .i64 0] 69 (0, 0)) := by
        rw [hW]
        have := heap_alloc_new (w6.alloc (.cells #[.bool true, .int .i64 0, .bool false, .int .i64 0, .slice none 0 0] 77)) (.cells #[.bool false, .int .i64 0] 69)
        simpa using this
      have hadd := add_any (m' := 100000000000) (b := w6.heap.size) (table := true) (ws := [⟨false, 0⟩]) (lb := w6.heap.size + 1) (c := 0) (hR6.chg0 hCW)
        (hS.trans (Step.chg0 gr Ar hCW) (by rw [hsame.1]; exact Int.le_refl _)) hgood.wf hgood.rem hgood.free (by rw [hsame.1]; exact Int.le_refl _) (Nat.le_refl _) hmT (by have := hg.wf.hk; omega) (by rw [hsame.2.2.1]; exact hh) (by rw [hsame.1]; exact hnm)
        (by simp) (by rw [hW]; exact heap_alloc_old (heap_alloc_new _ _) _) (hR6.none_of_ge (Nat.le_refl _)) hS.chg.size
        ⟨by simp [wdCells, Wd.cells], by unfold maxLen; simp, .inr ⟨w6.heap.size + 1, 0, _, rfl, hbw, by simp, by unfold maxLen; omega, by simp, by simp [wdCells, Wd.cells]⟩⟩ (hR6.none_of_ge (by omega)) (by omega)
      have hgb : gr.hb = g.hb := hS.hb
      rw [hgb, hW] at hadd
      refine hadd.mono ?_
      rintro e w7 ⟨q, rfl, hZ7⟩
      obtain ⟨A1, old, A2, g7, hM, hold, hG, hR7, hS7⟩ := hZ7.out
      refine ⟨q, rfl, HK.out _ _ ⟨q, 0, rfl, A2, g7, .made hroom' hM ?_, hR7, hS7⟩⟩
      rw [← hold]
      exact hG
  clear hK HK hR hg hm' hh hnm hfull
  go_enter Try.func12, Try.ntmps12
  go_wp2_with fail
  refine HSp.out.mono ?_
  rintro e w5 ⟨rfl, rfl⟩
  go_wp2_with fail
  refine HRm.out.mono ?_
  rintro e w6 ⟨r, rfl, HF, HAdd⟩
  clear HSp HRm
  cases r
  · have HP := Lib.hid (HF.out rfl)
    clear HF HAdd
    go_wp2
    go_ret2
    exact HP.out
  · have HAd := Lib.hid (HAdd.out rfl)
    clear HF HAdd
    go_wp2_with fail
    refine HAd.out.mono ?_
    rintro e w7 ⟨q, rfl, hZ⟩
    go_wp2
    go_ret2
    exact hZ.out

/-- An empty heap. -/
def St.fresh (young old : Int) : St := { objs := [], names := 0, memN := [], memT := [], young := young, handles := [], reg := [], queue := [], rem := [], free := [], next := 0, full := old }

def newW (w : World) (young old : Int) : World := (((((w.alloc (.cells #[] 3)).alloc (.cells #[.slice (some ⟨w.heap.size, 0, none⟩) 0 0] 56)).alloc
  (.cells #[.map (some (w.heap.size + 1 + 1 + 1)), .int .i64 0, .slice none 0 0, .slice none 0 0, .int .i64 young, .map (some (w.heap.size + 1 + 1 + 1 + 1)), .slice none 0 0, .slice none 0 0, .map (some (w.heap.size + 1 + 1 + 1 + 1 + 1)),
    .iface 55 (.pointer (some ⟨w.heap.size + 1, 0, none⟩)), .int .i64 0, .int .i64 old] 67)).alloc (.map #[] 0)).alloc (.map #[] 0)).alloc (.map #[] 0)

def newG (s : Nat) : Gh := { hb := s + 2, mo := s + 3, mh := s + 4, mr := s + 5, lb := s + 1, vN := .slice none 0 0, vT := .slice none 0 0, vR := .slice none 0 0, vQ := .slice none 0 0, vF := .slice (some ⟨s, 0, none⟩) 0 0, ob := fun _ => 0, vE := fun _ => .slice none 0 0, own := fun b => if b = s + 1 then some .lb else if b = s + 2 then some .hs else if b = s + 3 then some .mo else if b = s + 4 then some .mh else if b = s + 5 then some .mr else none }

theorem newW_chg (w : World) (young old : Int) : Chg (fun _ => False) w (newW w young old) := ((((((Chg.refl _ _).alloc _).alloc _).alloc _).alloc _).alloc _).alloc _

theorem newW_size (w : World) (young old : Int) : (newW w young old).heap.size = w.heap.size + 6 := by simp [newW]

theorem rowAt_nil {w : World} {g : Gh} {r : Role} {e : TypeId} {sz : Nat} : RowAt w g r e sz (.slice none 0 0) 0 [] := ⟨Row.nil _ _ _, fun b hb => by simp [rowBlk] at hb⟩

theorem newRep (w : World) (young old : Int) : Rep (newW w young old) (newG w.heap.size) (St.fresh young old) := by
  have at_ : ∀ (w : World) (x : Obj) (k : Nat), k = w.heap.size → (w.alloc x).heap[k]? = some x := fun w x k h => by rw [h]; exact heap_alloc_new w x
  have at2 : ∀ (w : World) (x : Obj) (k : Nat), k < w.heap.size → (w.alloc x).heap[k]? = w.heap[k]? := fun w x k h => by rw [heap_alloc, if_neg (by omega)]
  have hm : ∀ b, (newW w young old).heap[b]? = some (.map #[] 0) → MapAt (newW w young old) b [] := fun b hb => ⟨#[], 0, hb, by simp, by simp, by simp, by simp⟩
  have e3 : (newW w young old).heap[w.heap.size + 3]? = some (.map #[] 0) := by
    unfold newW
    rw [at2 _ _ _ (by simp), at2 _ _ _ (by simp), at_ _ _ _ (by simp)]
  have e4 : (newW w young old).heap[w.heap.size + 4]? = some (.map #[] 0) := by
    unfold newW
    rw [at2 _ _ _ (by simp), at_ _ _ _ (by simp)]
  have e5 : (newW w young old).heap[w.heap.size + 5]? = some (.map #[] 0) := by
    unfold newW
    rw [at_ _ _ _ (by simp)]
  have e1 : (newW w young old).heap[w.heap.size + 1]? = some (.cells #[.slice (some ⟨w.heap.size, 0, none⟩) 0 0] 56 (0, 0)) := by
    unfold newW
    rw [at2 _ _ _ (by simp), at2 _ _ _ (by simp), at2 _ _ _ (by simp), at2 _ _ _ (by simp), at_ _ _ _ (by simp)]
  refine { lt := ?_, ohs := by simp [newG], omo := by simp [newG], omh := by simp [newG], omr := by simp [newG], olb := by simp [newG], hs := ?_, mo := hm _ e3, mh := hm _ e4, mr := hm _ e5, lb := e1, rF := ?_, rN := rowAt_nil, rT := rowAt_nil, rR := rowAt_nil, rQ := rowAt_nil, obj := fun n o h => by cases h }
  · intro b hb
    rw [newW_size]
    simp only [newG] at hb
    split at hb
    · omega
    · split at hb
      · omega
      · split at hb
        · omega
        · split at hb
          · omega
          · split at hb
            · omega
            · cases hb
  · show (newW w young old).heap[w.heap.size + 2]? = _
    unfold newW
    rw [at2 _ _ _ (by simp), at2 _ _ _ (by simp), at2 _ _ _ (by simp), at_ _ _ _ (by simp)]
    rfl
  · refine ⟨⟨rfl, by unfold maxLen; simp [St.fresh], .inl ⟨rfl, _, rfl⟩⟩, fun b hb => ?_⟩
    simp [newG, rowBlk] at hb

theorem fresh_good (young old : Int) : Good 9000 100000000000 (St.fresh young old) := by
  refine ⟨⟨Nat.le_refl _, Nat.le_refl _, by omega, ⟨fun n o h => (by cases h), fun n o h => (by cases h), fun n o h => (by cases h), by simp [St.fresh], by simp [St.fresh], by simp [St.fresh], by simp [St.fresh]⟩, fun n o h => (by cases h), ?_, ?_, fun n o h => (by cases h), by simp [St.fresh], by simp [St.fresh], by simp [St.fresh], by simp [St.fresh], fun n o h => (by cases h)⟩, ⟨?_, fun n o h => (by cases h)⟩, ⟨?_, ?_, ?_, ?_, ?_, ?_⟩⟩
  · intro n hn; simp [St.roots, St.fresh] at hn
  · intro n hn; simp [St.fresh] at hn
  · intro n hn; simp [St.fresh] at hn
  · intro i x y _ hx; simp [St.fresh] at hx
  · simp [St.fresh]
  · intro n; simp [St.fresh]; try omega
  · intro n hn; simp [St.fresh] at hn
  · exact Int.le_refl _
  · show (0 : Int) ≤ 9000; omega

set_option maxRecDepth 100000 in
set_option maxHeartbeats 1000000 in
theorem new_any (w : World) (young old : Int) (h : 4 ≤ young ∧ young ≤ 60000 ∧ 4 ≤ old ∧ old ≤ 60000) :
    Calls Try.prog 9 #[.int .i64 young, .int .i64 old] w fun e w' => e = .returned (.tuple #[.pointer (some ⟨w.heap.size + 2, 0, none⟩), .int .i64 0]) ∧ w' = newW w young old := by
  have hmm := @run_makeMap Try.prog
  obtain ⟨h1, h2, h3, h4⟩ := h
  have k1 : ¬ young < 4 := by omega
  have k2 : ¬ 60000 < young := by omega
  have k3 : ¬ old < 4 := by omega
  have k4 : ¬ 60000 < old := by omega
  go_enter Try.func9, Try.ntmps9
  go_wp2
  go_ret2
  exact ⟨rfl, rfl⟩

theorem le_false {a b : Int} (h : ¬ a ≤ b) : b < a := by omega

set_option maxRecDepth 100000 in
set_option maxHeartbeats 1000000 in
theorem new_none (w : World) (young old : Int) (h : ¬ (4 ≤ young ∧ young ≤ 60000 ∧ 4 ≤ old ∧ old ≤ 60000)) :
    Calls Try.prog 9 #[.int .i64 young, .int .i64 old] w fun e w' => e = .returned (.tuple #[.pointer none, .int .i64 1]) ∧ w = w' := by
  by_cases k1 : young < 4
  · clear h
    go_enter Try.func9, Try.ntmps9
    go_wp2
    go_ret2
    exact ⟨rfl, rfl⟩
  · by_cases k2 : 60000 < young
    · clear h
      go_enter Try.func9, Try.ntmps9
      go_wp2
      go_ret2
      exact ⟨rfl, rfl⟩
    · by_cases k3 : old < 4
      · clear h
        go_enter Try.func9, Try.ntmps9
        go_wp2
        go_ret2
        exact ⟨rfl, rfl⟩
      · have k4 : 60000 < old := by omega
        clear h
        go_enter Try.func9, Try.ntmps9
        go_wp2
        go_ret2
        exact ⟨rfl, rfl⟩

end Go.Proofs.Ytelghmmcbgfjnaa

/-! plain, weak, Tag, Get. -/
namespace Go.Proofs.Ytelghmmcbgfjnaa
open Go.RowKit

set_option maxHeartbeats 1000000 in
theorem plain_none {w : World} {g : Gh} {A : St} (hR : Rep w g A) {n : Int} (hl : A.handles.lookup n = none) :
    Calls Try.prog 44 #[.pointer (some ⟨g.hb, 0, none⟩), .int .i64 n] w fun e w' => e = .returned (.tuple #[.pointer none, .int .i64 0, .int .i64 221]) ∧ w = w' := by
  have HO := Lib.hid (of_none hR hl)
  clear hR hl
  go_enter Try.func44, Try.ntmps44
  go_wp2_with (go_at_call 31; refine HO.out.mono ?_; rintro e w1 ⟨rfl, rfl⟩)
  go_ret3
  exact ⟨rfl, rfl⟩

set_option maxHeartbeats 1000000 in
theorem plain_some {w : World} {g : Gh} {A : St} (hR : Rep w g A) {n name : Int} {o : Ob} (hl : A.handles.lookup n = some name) (ho : A.objs.lookup name = some o) :
    Calls Try.prog 44 #[.pointer (some ⟨g.hb, 0, none⟩), .int .i64 n] w fun e w' => e = .returned (.tuple #[.pointer (some ⟨g.ob name, 0, none⟩), .int .i64 name, .int .i64 (if o.table then 223 else 0)]) ∧ w = w' := by
  have HO := Lib.hid (of_some hR hl ho)
  have c0 : w.cell? ⟨g.ob name, 0, none⟩ = some (.bool o.table) := (hR.obj name o (mem_of_lookup ho)).c 0
  clear hR hl ho
  generalize o.table = t at *
  cases t
  all_goals
    go_enter Try.func44, Try.ntmps44
    go_wp2_with (go_at_call 31; refine HO.out.mono ?_; rintro e w1 ⟨rfl, rfl⟩)
    go_ret3
    exact ⟨rfl, rfl⟩

set_option maxHeartbeats 1000000 in
theorem weak_none {w : World} {g : Gh} {A : St} (hR : Rep w g A) {n : Int} (hl : A.handles.lookup n = none) :
    Calls Try.prog 38 #[.pointer (some ⟨g.hb, 0, none⟩), .int .i64 n] w fun e w' => e = .returned (.tuple #[.pointer none, .int .i64 0, .int .i64 221]) ∧ w = w' := by
  have HO := Lib.hid (of_none hR hl)
  clear hR hl
  go_enter Try.func38, Try.ntmps38
  go_wp2_with (go_at_call 31; refine HO.out.mono ?_; rintro e w1 ⟨rfl, rfl⟩)
  go_ret3
  exact ⟨rfl, rfl⟩

set_option maxHeartbeats 1000000 in
theorem weak_some {w : World} {g : Gh} {A : St} (hR : Rep w g A) {n name : Int} {o : Ob} (hl : A.handles.lookup n = some name) (ho : A.objs.lookup name = some o) :
    Calls Try.prog 38 #[.pointer (some ⟨g.hb, 0, none⟩), .int .i64 n] w fun e w' => e = .returned (.tuple #[.pointer (some ⟨g.ob name, 0, none⟩), .int .i64 name, .int .i64 (if o.table then 0 else 223)]) ∧ w = w' := by
  have HO := Lib.hid (of_some hR hl ho)
  have c0 : w.cell? ⟨g.ob name, 0, none⟩ = some (.bool o.table) := (hR.obj name o (mem_of_lookup ho)).c 0
  clear hR hl ho
  generalize o.table = t at *
  cases t
  all_goals
    go_enter Try.func38, Try.ntmps38
    go_wp2_with (go_at_call 31; refine HO.out.mono ?_; rintro e w1 ⟨rfl, rfl⟩)
    go_ret3
    exact ⟨rfl, rfl⟩

/-! ### Tag -/

set_option maxHeartbeats 1000000 in
theorem tag_err {w : World} {g : Gh} {er : Int} (her : er = 221 ∨ er = 223) (n : Int) {v : Value} {name : Int}
    (hp : Calls Try.prog 44 #[.pointer (some ⟨g.hb, 0, none⟩), .int .i64 n] w fun e w' => e = .returned (.tuple #[v, .int .i64 name, .int .i64 er]) ∧ w = w') :
    Calls Try.prog 23 #[.pointer (some ⟨g.hb, 0, none⟩), .int .i64 n] w fun e w' => e = .returned (.tuple #[.int .i64 0, .int .i64 0, .int .i64 er]) ∧ w = w' := by
  have HO := Lib.hid hp
  clear hp
  rcases her with rfl | rfl
  all_goals
    go_enter Try.func23, Try.ntmps23
    go_wp2_with (go_at_call 44; refine HO.out.mono ?_; rintro e w1 ⟨rfl, rfl⟩)
    go_ret3
    exact ⟨rfl, rfl⟩

theorem Rep.memCell {w : World} {g : Gh} {A : St} (hR : Rep w g A) (old : Bool) {k : Nat} {x : Wd} (hx : (A.mem old)[k]? = some x) :
    ∃ b c, g.vM old = .slice (some ⟨b, 0, none⟩) (A.mem old).length c ∧ rowBlk (g.vM old) = some b ∧ w.cell? ⟨b, k * 2, none⟩ = some (.bool x.ref) ∧ w.cell? ⟨b, k * 2 + 1, none⟩ = some (.int .i64 x.num) := by
  have hrow := (hR.rM old).row
  obtain ⟨hk, he⟩ := List.getElem?_eq_some_iff.1 hx
  obtain ⟨a, cap, hv, hle, hcm, hcase⟩ := hrow.slice
  rw [hv] at hrow
  obtain ⟨b, rfl, hb', hc⟩ := hrow.cells (by omega)
  have := wdCells_get (A.mem old) k hk
  rw [he] at this
  exact ⟨b, cap, hv, by rw [hv]; exact hb', hc _ _ this.1, hc _ _ this.2⟩

set_option maxHeartbeats 1000000 in
theorem tag_some {w : World} {g : Gh} {A : St} (hR : Rep w g A) {n name : Int} {o : Ob} (hl : A.handles.lookup n = some name) (ho : A.objs.lookup name = some o) (ht : o.table = false) {x : Wd} (hx : (A.mem o.old)[o.at_]? = some x) (_hbig : (A.mem o.old).length ≤ 1000000000000) :
    Calls Try.prog 23 #[.pointer (some ⟨g.hb, 0, none⟩), .int .i64 n] w fun e w' => e = .returned (.tuple #[.int .i64 x.num, .int .i64 o.size, .int .i64 0]) ∧ ∃ m, w' = w.drewN m := by
  have hp := plain_some hR hl ho
  rw [ht] at hp
  have HO := Lib.hid hp
  have hob := hR.obj name o (mem_of_lookup ho)
  have c1 : w.cell? ⟨g.ob name, 1, none⟩ = some (.int .i64 o.size) := hob.c 1
  have c2 : w.cell? ⟨g.ob name, 2, none⟩ = some (.bool o.old) := hob.c 2
  have c3 : w.cell? ⟨g.ob name, 3, none⟩ = some (.int .i64 o.at_) := hob.c 3
  have hk := (List.getElem?_eq_some_iff.1 hx).1
  obtain ⟨b, c, hv, _, d0, d1⟩ := hR.memCell o.old hx
  have cm : w.cell? ⟨g.hb, 2 + (if o.old then 1 else 0), none⟩ = some (.slice (some ⟨b, 0, none⟩) (A.mem o.old).length c) := by
    rw [← hv]
    cases o.old
    · exact hR.c 2
    · exact hR.c 3
  have hlt : (o.at_ : Int) < ((A.mem o.old).length : Int) := by omega
  clear hp hR hob ho hl ht hx hv
  generalize (A.mem o.old).length = len at *
  generalize o.size = s at *
  generalize o.at_ = p at *
  generalize o.old = old at *
  cases old
  · have cm' : w.cell? ⟨g.hb, 2, none⟩ = some (.slice (some ⟨b, 0, none⟩) len c) := cm
    clear cm
    go_enter Try.func23, Try.ntmps23
    go_wp2_with (go_at_call 44; refine HO.out.mono ?_; rintro e w1 ⟨rfl, rfl⟩)
    go_quiet ((go_at_call 45; exact q_same (space_any _ false _ c2)))
    go_wp2
    go_ret3
    exact ⟨rfl, _, rfl⟩
  · have cm' : w.cell? ⟨g.hb, 3, none⟩ = some (.slice (some ⟨b, 0, none⟩) len c) := cm
    clear cm
    go_enter Try.func23, Try.ntmps23
    go_wp2_with (go_at_call 44; refine HO.out.mono ?_; rintro e w1 ⟨rfl, rfl⟩)
    go_quiet ((go_at_call 45; exact q_same (space_any _ true _ c2)))
    go_wp2
    go_ret3
    exact ⟨rfl, _, rfl⟩

/-! ### Get -/

set_option maxHeartbeats 1000000 in
theorem get_err {w : World} {g : Gh} {er : Int} (her : er = 221 ∨ er = 223) (n i : Int) {v : Value} {name : Int}
    (hp : ∀ X, Calls Try.prog 44 #[.pointer (some ⟨g.hb, 0, none⟩), .int .i64 n] (w.alloc X) fun e w' => e = .returned (.tuple #[v, .int .i64 name, .int .i64 er]) ∧ w.alloc X = w') :
    Calls Try.prog 24 #[.pointer (some ⟨g.hb, 0, none⟩), .int .i64 n, .int .i64 i] w fun e w' => e = .returned (.tuple #[.agg #[.bool false, .int .i64 0], .int .i64 er]) ∧ Chg (fun _ => False) w w' := by
  have HO := Lib.hid hp
  clear hp
  rcases her with rfl | rfl
  · go_enter Try.func24, Try.ntmps24
    go_wp2_with (go_at_call 44; refine (HO.out _).mono ?_; rintro e w1 ⟨rfl, rfl⟩)
    refine bodyPost_ret (v := .tuple #[.agg #[.bool false, .int .i64 0], .int .i64 221]) (by simp [results, Try.results24, go_sem]) rfl ⟨rfl, ?_⟩
    exact (Chg.refl _ _).alloc _
  · go_enter Try.func24, Try.ntmps24
    go_wp2_with (go_at_call 44; refine (HO.out _).mono ?_; rintro e w1 ⟨rfl, rfl⟩)
    refine bodyPost_ret (v := .tuple #[.agg #[.bool false, .int .i64 0], .int .i64 223]) (by simp [results, Try.results24, go_sem]) rfl ⟨rfl, ?_⟩
    exact (Chg.refl _ _).alloc _

set_option maxHeartbeats 1000000 in
theorem get_index {w : World} {g : Gh} {A : St} (hR : Rep w g A) {n name : Int} {o : Ob} (hl : A.handles.lookup n = some name) (ho : A.objs.lookup name = some o) (ht : o.table = false) (i : Int) (hi : i < 0 ∨ (o.size : Int) ≤ i) :
    Calls Try.prog 24 #[.pointer (some ⟨g.hb, 0, none⟩), .int .i64 n, .int .i64 i] w fun e w' => e = .returned (.tuple #[.agg #[.bool false, .int .i64 0], .int .i64 222]) ∧ Chg (fun _ => False) w w' := by
  have HO := Lib.hid fun X => by
    have := plain_some (hR.alloc X) hl ho
    rw [ht] at this
    exact this
  have c1 : ∀ X, (w.alloc X).cell? ⟨g.ob name, 1, none⟩ = some (.int .i64 o.size) := fun X => ((hR.alloc X).obj name o (mem_of_lookup ho)).c 1
  clear hR hl ho ht
  generalize o.size = s at *
  by_cases h0 : i < 0
  · clear hi
    go_enter Try.func24, Try.ntmps24
    go_wp2_with (go_at_call 44; refine (HO.out _).mono ?_; rintro e w1 ⟨rfl, rfl⟩)
    refine bodyPost_ret (v := .tuple #[.agg #[.bool false, .int .i64 0], .int .i64 222]) (by simp [results, Try.results24, go_sem]) rfl ⟨rfl, ?_⟩
    exact (Chg.refl _ _).alloc _
  · have h1 : (s : Int) ≤ i := by omega
    clear hi
    go_enter Try.func24, Try.ntmps24
    go_wp2_with (go_at_call 44; refine (HO.out _).mono ?_; rintro e w1 ⟨rfl, rfl⟩)
    refine bodyPost_ret (v := .tuple #[.agg #[.bool false, .int .i64 0], .int .i64 222]) (by simp [results, Try.results24, go_sem]) rfl ⟨rfl, ?_⟩
    exact (Chg.refl _ _).alloc _

/-- A new block of two cells is stored into. -/
theorem Chg.store2 {w w1 : World} (h : Chg (fun _ => False) w w1) {b : Nat} (hb : w.heap.size ≤ b) (x y : Value) : Chg (fun _ => False) w ((w1.setCell ⟨b, 0, none⟩ x).setCell ⟨b, 1, none⟩ y) :=
  (h.setCell (p := ⟨b, 0, none⟩) (fun hlt => absurd hlt (by show ¬ b < w.heap.size; omega)) x).setCell (p := ⟨b, 1, none⟩) (fun hlt => absurd hlt (by show ¬ b < w.heap.size; omega)) y

structure TwoAt (w1 : World) (b : Nat) : Prop where
  c0 : ∃ v, w1.cell? ⟨b, 0, none⟩ = some v
  c1 : ∃ v, w1.cell? ⟨b, 1, none⟩ = some v
  f0 : w1.frozen? ⟨b, 0, none⟩ = false
  f1 : w1.frozen? ⟨b, 1, none⟩ = false

/-- The way to a field, common to both kinds. -/
theorem get_way {w : World} {g : Gh} {A : St} (hR : Rep w g A) {n name : Int} {o : Ob} (hl : A.handles.lookup n = some name) (ho : A.objs.lookup name = some o) (ht : o.table = false) {i : Nat} {x : Wd} (hx : (A.fields o)[i]? = some x)
    (hin : o.at_ + 1 + o.size ≤ (A.mem o.old).length) (hbig : (A.mem o.old).length ≤ 1000000000000) :
    (∀ X, Calls Try.prog 44 #[.pointer (some ⟨g.hb, 0, none⟩), .int .i64 n] (w.alloc X) fun e w' => e = .returned (.tuple #[.pointer (some ⟨g.ob name, 0, none⟩), .int .i64 name, .int .i64 0]) ∧ w.alloc X = w') ∧
    (∀ X, Calls Try.prog 46 #[.pointer (some ⟨g.hb, 0, none⟩), .pointer (some ⟨g.ob name, 0, none⟩)] (w.alloc X) fun e w1 => ∃ b c k, e = .returned (.slice (some ⟨b, (o.at_ + 1) * 2, none⟩) o.size c) ∧ w1 = (w.alloc X).drewN k ∧
      ((w.alloc X).cell? ⟨b, (o.at_ + 1) * 2 + i * 2, none⟩ = some (.bool x.ref) ∧ (w.alloc X).cell? ⟨b, (o.at_ + 1) * 2 + i * 2 + 1, none⟩ = some (.int .i64 x.num))) ∧
    (∀ X, (w.alloc X).cell? ⟨g.ob name, 1, none⟩ = some (.int .i64 o.size)) ∧ i < o.size := by
  have hfl := mem_fields_length hin
  have hik := (List.getElem?_eq_some_iff.1 hx).1
  have hie := (List.getElem?_eq_some_iff.1 hx).2
  refine ⟨fun X => ?_, fun X => ?_, fun X => ((hR.alloc X).obj name o (mem_of_lookup ho)).c 1, by omega⟩
  · have := plain_some (hR.alloc X) hl ho
    rw [ht] at this
    exact this
  · refine (fields_any (hR.alloc X) ho hin hbig).mono ?_
    rintro e w1 ⟨v, k, rfl, rfl, h⟩
    rcases h with ⟨h0, a, c, rfl⟩ | ⟨b, c, hb, rfl⟩
    · omega
    · have := (hR.alloc X).fieldCell hin hb i hik
      rw [hie] at this
      exact ⟨b, c, k, rfl, rfl, this⟩

set_option maxHeartbeats 2000000 in
theorem get_num {w : World} {g : Gh} {A : St} (hR : Rep w g A) {n name : Int} {o : Ob} (hl : A.handles.lookup n = some name) (ho : A.objs.lookup name = some o) (ht : o.table = false) {i : Nat} {num : Int} (hx : (A.fields o)[i]? = some ⟨false, num⟩)
    (hin : o.at_ + 1 + o.size ≤ (A.mem o.old).length) (hbig : (A.mem o.old).length ≤ 1000000000000) :
    Calls Try.prog 24 #[.pointer (some ⟨g.hb, 0, none⟩), .int .i64 n, .int .i64 i] w fun e w' => e = .returned (.tuple #[.agg #[.bool false, .int .i64 num], .int .i64 0]) ∧ Chg (fun _ => False) w w' := by
  obtain ⟨hO, hFd, c1, hik⟩ := get_way hR hl ho ht hx hin hbig
  have HO := Lib.hid hO
  have HFd := Lib.hid hFd
  have HOut : Hid (∀ k Y, Calls Try.prog 40 #[.pointer (some ⟨g.hb, 0, none⟩), .agg #[.bool false, .int .i64 num]] (((w.alloc (.cells #[.bool false, .int .i64 0] 36)).drewN k).alloc Y) fun e w1 => e = .returned (.agg #[.bool false, .int .i64 num]) ∧
      (w1.cell? ⟨w.heap.size, 0, none⟩ = some (.bool false) ∧ w1.cell? ⟨w.heap.size, 1, none⟩ = some (.int .i64 0) ∧ w1.frozen? ⟨w.heap.size, 0, none⟩ = false ∧ w1.frozen? ⟨w.heap.size, 1, none⟩ = false) ∧
      Hid (∀ x y, Chg (fun _ => False) w ((w1.setCell ⟨w.heap.size, 0, none⟩ x).setCell ⟨w.heap.size, 1, none⟩ y))) := by
    intro k Y
    refine (out_num _ _ num).mono ?_
    rintro e w1 ⟨rfl, hC⟩
    have hb : w1.heap[w.heap.size]? = some (.cells #[.bool false, .int .i64 0] 36 (0, 0)) := hC.at (heap_alloc_old (show ((w.alloc (.cells #[.bool false, .int .i64 0] 36)).drewN k).heap[w.heap.size]? = _ from heap_alloc_new w _) Y) (fun h => h)
    refine ⟨rfl, ⟨cellAt hb 0, cellAt hb 1, freeAt hb 0, freeAt hb 1⟩, fun x y => ?_⟩
    exact ((((Chg.refl _ _).alloc _).drewN k).alloc Y |>.trans hC (fun _ _ h => h)).store2 (Nat.le_refl _) x y
  have h1 : (i : Int) < (o.size : Int) := by omega
  have h0 : ¬ ((i : Int) < 0) := by omega
  have hfl := mem_fields_length hin
  have hbd : o.size ≤ 1000000000000 := by omega
  clear hR hl ho ht hx hO hFd hin hbig hik hfl
  generalize (o.at_ + 1) * 2 = p at *
  generalize o.size = s at *
  go_enter Try.func24, Try.ntmps24
  go_wp2_with (first | (go_at_call 44; refine (HO.out _).mono ?_; rintro e w1 ⟨rfl, rfl⟩) | (go_at_call 46; refine (HFd.out _).mono ?_; rintro e w1 ⟨b, c, k, rfl, rfl, d0, d1⟩) | (go_at_call 40; refine (HOut.out _ _).mono ?_; rintro e w2 ⟨rfl, ⟨q0, q1, q2, q3⟩, hZ⟩))
  refine bodyPost_ret (v := .tuple #[.agg #[.bool false, .int .i64 num], .int .i64 0]) (by simp [results, Try.results24, go_sem, q0, q1]) rfl ⟨rfl, ?_⟩
  exact hZ.out _ _

set_option maxHeartbeats 2000000 in
theorem get_ref {w : World} {g : Gh} {A : St} (hR : Rep w g A) (hF : FreeOk A) (hh : A.handles.length < 9000) {n name : Int} {o : Ob} (hl : A.handles.lookup n = some name) (ho : A.objs.lookup name = some o) (ht : o.table = false) {i : Nat} {num : Int} (hx : (A.fields o)[i]? = some ⟨true, num⟩)
    (hin : o.at_ + 1 + o.size ≤ (A.mem o.old).length) (hbig : (A.mem o.old).length ≤ 1000000000000) :
    Calls Try.prog 24 #[.pointer (some ⟨g.hb, 0, none⟩), .int .i64 n, .int .i64 i] w fun e w' => ∃ q, e = .returned (.tuple #[.agg #[.bool true, .int .i64 q], .int .i64 0]) ∧ Hid (∃ A' g', Granted A num q A' ∧ Rep w' g' A' ∧ Step w g A w' g') := by
  obtain ⟨hO, hFd, c1, hik⟩ := get_way hR hl ho ht hx hin hbig
  have HO := Lib.hid hO
  have HFd := Lib.hid hFd
  have HSp : Hid (∀ X k Y, Calls Try.prog 28 #[.pointer (some ⟨g.hb, 0, none⟩), .int .i64 1] (((w.alloc X).drewN k).alloc Y) fun e w1 => e = .returned (.bool true) ∧ (((w.alloc X).drewN k).alloc Y) = w1) := fun X k Y => spare_any (((hR.alloc X).drewN k).alloc Y) 1 (by omega) (by omega)
  have HOut : Hid (∀ k Y, Calls Try.prog 40 #[.pointer (some ⟨g.hb, 0, none⟩), .agg #[.bool true, .int .i64 num]] (((w.alloc (.cells #[.bool false, .int .i64 0] 36)).drewN k).alloc Y) fun e w1 => ∃ q, e = .returned (.agg #[.bool true, .int .i64 q]) ∧
      (w1.cell? ⟨w.heap.size, 0, none⟩ = some (.bool false) ∧ w1.cell? ⟨w.heap.size, 1, none⟩ = some (.int .i64 0) ∧ w1.frozen? ⟨w.heap.size, 0, none⟩ = false ∧ w1.frozen? ⟨w.heap.size, 1, none⟩ = false) ∧
      Hid (∀ x y, ∃ A' g', Granted A num q A' ∧ Rep ((w1.setCell ⟨w.heap.size, 0, none⟩ x).setCell ⟨w.heap.size, 1, none⟩ y) g' A' ∧ Step w g A ((w1.setCell ⟨w.heap.size, 0, none⟩ x).setCell ⟨w.heap.size, 1, none⟩ y) g')) := by
    intro k Y
    have hR3 := ((hR.alloc (.cells #[.bool false, .int .i64 0] 36)).drewN k).alloc Y
    refine (out_ref hR3 hF hh num).mono ?_
    rintro e w1 ⟨q, rfl, hZ⟩
    obtain ⟨A', g', hG, hR', hS⟩ := hZ.out
    have hat := hS.at (heap_alloc_old (show ((w.alloc (.cells #[.bool false, .int .i64 0] 36)).drewN k).heap[w.heap.size]? = _ from heap_alloc_new w _) Y) (hR.none_of_ge (Nat.le_refl _))
    have hb := hat.1
    have hC0 : Chg (fun _ => False) w (((w.alloc (.cells #[.bool false, .int .i64 0] 36)).drewN k).alloc Y) := (((Chg.refl _ _).alloc _).drewN k).alloc Y
    have hS1 := (Step.chg0 g A hC0).trans hS (Int.le_refl _)
    refine ⟨q, rfl, ⟨cellAt hb 0, cellAt hb 1, freeAt hb 0, freeAt hb 1⟩, fun x y => ⟨A', g', hG, ?_, ?_⟩⟩
    · refine hR'.frame (F := fun b => b = w.heap.size) (((Chg.refl (fun b => b = w.heap.size) w1).setCell (p := ⟨w.heap.size, 0, none⟩) (fun _ => rfl) _).setCell (p := ⟨w.heap.size, 1, none⟩) (fun _ => rfl) _) fun b hb => ?_
      rw [hb]; exact hat.2
    · refine { hS1 with chg := ?_ }
      refine (hS1.chg.setCell (p := ⟨w.heap.size, 0, none⟩) (fun h => ?_) _).setCell (p := ⟨w.heap.size, 1, none⟩) (fun h => ?_) _
      · exact absurd h (by simp)
      · exact absurd h (by simp)
  have h1 : (i : Int) < (o.size : Int) := by omega
  have h0 : ¬ ((i : Int) < 0) := by omega
  have hfl := mem_fields_length hin
  have hbd : o.size ≤ 1000000000000 := by omega
  clear hR hl ho ht hx hO hFd hin hbig hik hfl hF hh
  generalize (o.at_ + 1) * 2 = p at *
  generalize o.size = s at *
  go_enter Try.func24, Try.ntmps24
  go_wp2_with (first | (go_at_call 44; refine (HO.out _).mono ?_; rintro e w1 ⟨rfl, rfl⟩) | (go_at_call 46; refine (HFd.out _).mono ?_; rintro e w1 ⟨b, c, k, rfl, rfl, d0, d1⟩) | (go_at_call 28; refine (HSp.out _ _ _).mono ?_; rintro e w1 ⟨rfl, rfl⟩) | (go_at_call 40; refine (HOut.out _ _).mono ?_; rintro e w2 ⟨q, rfl, ⟨q0, q1, q2, q3⟩, hZ⟩))
  refine bodyPost_ret (v := .tuple #[.agg #[.bool true, .int .i64 q], .int .i64 0]) (by simp [results, Try.results24, go_sem, q0, q1]) rfl ⟨q, rfl, ?_⟩
  exact hZ.out _ _

end Go.Proofs.Ytelghmmcbgfjnaa

/-! Set. -/
namespace Go.Proofs.Ytelghmmcbgfjnaa
open Go.RowKit

theorem wdCells_set (l : List Wd) (k : Nat) (hk : k < l.length) (x : Wd) : ((wdCells l).set (k * 2) (.bool x.ref)).set (k * 2 + 1) (.int .i64 x.num) = wdCells (l.set k x) := by
  induction l generalizing k with
  | nil => simp at hk
  | cons y l ih =>
    cases k with
    | zero => simp [wdCells, Wd.cells]
    | succ k =>
      have := ih k (by simpa using hk)
      simp only [wdCells, List.flatMap_cons, List.set_cons_succ] at *
      rw [← this, show (k + 1) * 2 = k * 2 + 1 + 1 from by omega]
      simp [Wd.cells]

/-- The state in which a field is turned, and it is noted. -/
def St.setField (A : St) (name : Int) (o : Ob) (i : Nat) (x : Wd) : St := (A.setMem o.old ((A.mem o.old).set (o.at_ + 1 + i) x)).noted name

inductive SetSpec (A : St) (n i : Int) (c : Wd) : Int → St → Prop
  | none : A.handles.lookup n = none → SetSpec A n i c 221 A
  | bad {name : Int} : A.handles.lookup n = some name → A.okC c = false → SetSpec A n i c 221 A
  | kind {name : Int} {o : Ob} : A.handles.lookup n = some name → A.okC c = true → A.objs.lookup name = some o → o.table = true → SetSpec A n i c 223 A
  | index {name : Int} {o : Ob} : A.handles.lookup n = some name → A.okC c = true → A.objs.lookup name = some o → o.table = false → (i < 0 ∨ (o.size : Int) ≤ i) → SetSpec A n i c 222 A
  | ok {name : Int} {o : Ob} {k : Nat} : A.handles.lookup n = some name → A.okC c = true → A.objs.lookup name = some o → o.table = false → i = k → k < o.size → SetSpec A n i c 0 (A.setField name o k (A.wordC c))

set_option maxRecDepth 100000 in
set_option maxHeartbeats 2000000 in
theorem set_any {k m : Nat} {w : World} {g : Gh} {A : St} (hR : Rep w g A) (hw : Wf k m A) (n i : Int) (c : Wd) :
    Calls Try.prog 26 #[.pointer (some ⟨g.hb, 0, none⟩), .int .i64 n, .int .i64 i, c.agg] w fun e w' => ∃ er, e = .returned (.int .i64 er) ∧ Hid (∃ A', SetSpec A n i c er A' ∧ Rep w' g A' ∧ Step w g A w' g) := by
  refine ret_k fun K hK => ?_
  have HK := Lib.hid hK
  have hob : ∀ n name, A.handles.lookup n = some name → (A.objs.lookup name).isSome := fun n name hl => hw.roots name (mem_roots.2 (.inr ⟨_, look_mem hl, rfl⟩))
  obtain ⟨cr, cn⟩ := c
  have hS1 : ∀ X, Step w g A (w.alloc X) g := fun X => Step.alloc w g A X
  cases hl : A.handles.lookup n with
  | none =>
    have HO := Lib.hid fun X => of_none (hR.alloc X) hl
    have HP : Hid (∀ X, Post K (.returned (.int .i64 221)) (w.alloc X)) := fun X => HK.out _ _ ⟨221, rfl, A, .none hl, hR.alloc X, hS1 X⟩
    clear hK HK hob hl hS1 hR hw
    unfold Wd.agg
    go_enter Try.func26, Try.ntmps26
    go_wp2_with (go_at_call 31; refine (HO.out _).mono ?_; rintro e w1 ⟨rfl, rfl⟩)
    go_ret
    exact HP.out _
  | some name =>
    obtain ⟨o, ho⟩ := Option.isSome_iff_exists.1 (hob n name hl)
    have HO := Lib.hid fun X => of_some (hR.alloc X) hl ho
    have HIn := Lib.hid fun X => in_any (hR.alloc X) ⟨cr, cn⟩ hob
    cases hc : A.okC ⟨cr, cn⟩ with
    | false =>
      have HP : Hid (∀ w', Chg (fun _ => False) w w' → Post K (.returned (.int .i64 221)) w') := fun w' h => HK.out _ _ ⟨221, rfl, A, .bad hl hc, hR.chg0 h, Step.chg0 g A h⟩
      rw [inW_bad hc] at HIn
      generalize A.inW ⟨cr, cn⟩ = xx at *
      obtain ⟨⟨xr, xn⟩, xe⟩ := xx
      clear hK HK hob hl hS1 hR hw hc ho
      unfold Wd.agg at *
      go_enter Try.func26, Try.ntmps26
      go_wp2_with (first | (go_at_call 31; refine (HO.out _).mono ?_; rintro e w1 ⟨rfl, rfl⟩) | (go_at_call 27; refine (HIn.out _).mono ?_; rintro e w5 ⟨rfl, hC⟩))
      go_ret
      exact HP.out _ ((((Chg.refl _ _).alloc _).trans hC (fun _ _ h => h)).alloc _)
    | true =>
      have hwd : A.wordC ⟨cr, cn⟩ = (A.inW ⟨cr, cn⟩).1 := rfl
      have hcell1 := (hR.obj name o (mem_of_lookup ho)).c 1
      rw [inW_ok hc] at HIn
      have HPl : Hid (∀ w', Chg (fun _ => False) w w' → Calls Try.prog 44 #[.pointer (some ⟨g.hb, 0, none⟩), .int .i64 n] w' fun e w'' => e = .returned (.tuple #[.pointer (some ⟨g.ob name, 0, none⟩), .int .i64 name, .int .i64 (if o.table then 223 else 0)]) ∧ w' = w'' ∧ w'.cell? ⟨g.ob name, 1, none⟩ = some (.int .i64 o.size)) := fun w' h => by
        refine (plain_some (hR.chg0 h) hl ho).mono ?_
        rintro e w'' ⟨rfl, rfl⟩
        exact ⟨rfl, rfl, ((hR.chg0 h).obj name o (mem_of_lookup ho)).c 1⟩
      cases ht : o.table with
      | true =>
        have HP : Hid (∀ w', Chg (fun _ => False) w w' → Post K (.returned (.int .i64 223)) w') := fun w' h => HK.out _ _ ⟨223, rfl, A, .kind hl hc ho ht, hR.chg0 h, Step.chg0 g A h⟩
        rw [ht] at HPl
        generalize A.inW ⟨cr, cn⟩ = xx at *
        obtain ⟨⟨xr, xn⟩, xe⟩ := xx
        clear hK HK hob hl hS1 hR hw hc ho hwd ht hcell1
        unfold Wd.agg at *
        go_enter Try.func26, Try.ntmps26
        go_wp2_with fail
        refine (HO.out _).mono ?_; rintro e w1 ⟨rfl, rfl⟩
        go_wp2_with fail
        refine (HIn.out _).mono ?_; rintro e w5 ⟨rfl, hC⟩
        have hC6 := fun Y => (((Chg.refl (fun _ => False) w).alloc _).trans hC (fun _ _ h => h)).alloc Y
        go_wp2_with fail
        refine (HPl.out _ (hC6 _)).mono ?_; rintro e w7 ⟨rfl, rfl, d1⟩
        have HC := Lib.hid hC6
        clear hC6 hC
        go_wp2
        go_ret
        exact HP.out _ (HC.out _)
      | false =>
        rw [ht] at HPl
        by_cases hi : i < 0 ∨ (o.size : Int) ≤ i
        · have HP : Hid (∀ w', Chg (fun _ => False) w w' → Post K (.returned (.int .i64 222)) w') := fun w' h => HK.out _ _ ⟨222, rfl, A, .index hl hc ho ht hi, hR.chg0 h, Step.chg0 g A h⟩
          generalize A.inW ⟨cr, cn⟩ = xx at *
          obtain ⟨⟨xr, xn⟩, xe⟩ := xx
          generalize o.size = s at *
          clear hK HK hob hl hS1 hR hw hc ho hwd ht hcell1
          unfold Wd.agg at *
          by_cases hi0 : i < 0
          · clear hi
            go_enter Try.func26, Try.ntmps26
            go_wp2_with fail
            refine (HO.out _).mono ?_; rintro e w1 ⟨rfl, rfl⟩
            go_wp2_with fail
            refine (HIn.out _).mono ?_; rintro e w5 ⟨rfl, hC⟩
            have hC6 := fun Y => (((Chg.refl (fun _ => False) w).alloc _).trans hC (fun _ _ h => h)).alloc Y
            go_wp2_with fail
            refine (HPl.out _ (hC6 _)).mono ?_; rintro e w7 ⟨rfl, rfl, d1⟩
            have HC := Lib.hid hC6
            clear hC6 hC
            go_wp2
            go_ret
            exact HP.out _ (HC.out _)
          · have hi1 : (s : Int) ≤ i := by omega
            clear hi
            go_enter Try.func26, Try.ntmps26
            go_wp2_with fail
            refine (HO.out _).mono ?_; rintro e w1 ⟨rfl, rfl⟩
            go_wp2_with fail
            refine (HIn.out _).mono ?_; rintro e w5 ⟨rfl, hC⟩
            have hC6 := fun Y => (((Chg.refl (fun _ => False) w).alloc _).trans hC (fun _ _ h => h)).alloc Y
            go_wp2_with fail
            refine (HPl.out _ (hC6 _)).mono ?_; rintro e w7 ⟨rfl, rfl, d1⟩
            have HC := Lib.hid hC6
            clear hC6 hC
            go_wp2
            go_ret
            exact HP.out _ (HC.out _)
        · obtain ⟨j, rfl⟩ : ∃ j : Nat, i = j := ⟨i.toNat, by omega⟩
          have hj : j < o.size := by omega
          have hin := hw.fit.inn name o ho
          have hsz := hw.fit.size name o ho
          have hme := hw.fit.ents name o ho
          have hmb : (A.mem o.old).length ≤ 100000000000 := by
            cases o.old
            · exact hw.fit.memN
            · exact hw.fit.memT
          have hml : o.at_ + 1 + j < (A.mem o.old).length := by omega
          have HFd : Hid (∀ w', Chg (fun _ => False) w w' → Calls Try.prog 46 #[.pointer (some ⟨g.hb, 0, none⟩), .pointer (some ⟨g.ob name, 0, none⟩)] w' fun e w1 => ∃ b c kk, e = .returned (.slice (some ⟨b, (o.at_ + 1) * 2, none⟩) o.size c) ∧ w1 = w'.drewN kk ∧
              ((∃ v, w'.cell? ⟨b, (o.at_ + 1) * 2 + j * 2, none⟩ = some v) ∧ (∃ v, w'.cell? ⟨b, (o.at_ + 1) * 2 + j * 2 + 1, none⟩ = some v) ∧ w'.frozen? ⟨b, (o.at_ + 1) * 2 + j * 2, none⟩ = false ∧ w'.frozen? ⟨b, (o.at_ + 1) * 2 + j * 2 + 1, none⟩ = false) ∧
              Hid (∀ W, (∃ k2, W = (((w'.drewN kk).setCell ⟨b, (o.at_ + 1) * 2 + j * 2, none⟩ (.bool (A.wordC ⟨cr, cn⟩).ref)).setCell ⟨b, (o.at_ + 1) * 2 + j * 2 + 1, none⟩ (.int .i64 (A.wordC ⟨cr, cn⟩).num)).drewN k2) → Calls Try.prog 34 #[.pointer (some ⟨g.hb, 0, none⟩), .int .i64 name] W fun e w2 => e = .returned (.tuple #[]) ∧ Hid (Post K (.returned (.int .i64 0)) w2))) := by
            intro w' hC
            have hR' := hR.chg0 hC
            refine (fields_any hR' ho hin (by omega)).mono ?_
            rintro e w1 ⟨v, kk, rfl, rfl, h⟩
            rcases h with ⟨h0, _⟩ | ⟨b, c, hb, rfl⟩
            · omega
            · have hC1 := hC.drewN kk
              have hR1 := hR.chg0 hC1
              have hik : (o.at_ + 1) * 2 + j * 2 = (o.at_ + 1 + j) * 2 := by omega
              obtain ⟨b', c', hv', hb', e0, e1⟩ := hR1.memCell o.old (List.getElem?_eq_getElem hml)
              rw [hb] at hb'
              simp only [Option.some.injEq] at hb'
              subst hb'
              rw [hik]
              have hfr := fun q => (hR1.rM o.old).row.free hb q
              refine ⟨b, c, kk, rfl, rfl, ⟨⟨_, e0⟩, ⟨_, e1⟩, hfr _, hfr _⟩, ?_⟩
              rintro W ⟨k2, rfl⟩
              have hrow := (((hR1.rM o.old).row.setCell hb ((o.at_ + 1 + j) * 2) (.bool (A.wordC ⟨cr, cn⟩).ref)).setCell hb ((o.at_ + 1 + j) * 2 + 1) (.int .i64 (A.wordC ⟨cr, cn⟩).num))
              rw [wdCells_set _ _ hml] at hrow
              have hset := hR1.setWords o.old (l := (A.mem o.old).set (o.at_ + 1 + j) (A.wordC ⟨cr, cn⟩)) (((Chg.refl (fun x => rowBlk (g.vM o.old) = some x) (w'.drewN kk)).setCell (p := ⟨b, (o.at_ + 1 + j) * 2, none⟩) (fun _ => hb) (.bool (A.wordC ⟨cr, cn⟩).ref)).setCell (p := ⟨b, (o.at_ + 1 + j) * 2 + 1, none⟩) (fun _ => hb) (.int .i64 (A.wordC ⟨cr, cn⟩).num)) (by simpa using hrow)
              have hsm := setMem_same A o.old ((A.mem o.old).set (o.at_ + 1 + j) (A.wordC ⟨cr, cn⟩))
              have hlk : (A.setMem o.old ((A.mem o.old).set (o.at_ + 1 + j) (A.wordC ⟨cr, cn⟩))).objs.lookup name = some o := by rw [hsm.2.2.2.2.2.2.2.2.1]; exact ho
              have hnt := note_any (hset.1.drewN k2) hlk (by rw [setMem_mem, List.length_set]; exact hin) (by rw [setMem_mem, List.length_set]; omega) (by omega) (by omega)
              refine hnt.mono ?_
              rintro e w2 ⟨rfl, hR2, hS2⟩
              refine ⟨rfl, HK.out _ _ ⟨0, rfl, _, .ok hl hc ho ht rfl hj, hR2, ?_⟩⟩
              exact (((Step.chg0 g A hC1).trans hset.2 (Int.le_refl _)).trans (Step.drewN _ g (A.setMem o.old ((A.mem o.old).set (o.at_ + 1 + j) (A.wordC ⟨cr, cn⟩))) k2) (by rw [hsm.1]; exact Int.le_refl _)).trans hS2 (by rw [hsm.1]; exact Int.le_refl _)
          rw [hwd] at HFd
          have hjb : (j : Int) < (o.size : Int) := by omega
          have hj0 : ¬ ((j : Int) < 0) := by omega
          generalize A.inW ⟨cr, cn⟩ = xx at *
          obtain ⟨⟨xr, xn⟩, xe⟩ := xx
          clear hK HK hob hl hS1 hR hw hc ho hwd ht hcell1 hi hin hme hmb hml hj
          generalize (o.at_ + 1) * 2 = p at *
          generalize o.size = s at *
          unfold Wd.agg at *
          go_enter Try.func26, Try.ntmps26
          go_wp2_with fail
          refine (HO.out _).mono ?_; rintro e w1 ⟨rfl, rfl⟩
          go_wp2_with fail
          refine (HIn.out _).mono ?_; rintro e w5 ⟨rfl, hC⟩
          have hC6 := fun Y => (((Chg.refl (fun _ => False) w).alloc _).trans hC (fun _ _ h => h)).alloc Y
          go_wp2_with fail
          refine (HPl.out _ (hC6 _)).mono ?_; rintro e w7 ⟨rfl, rfl, d1⟩
          have HF6 : Hid (∀ Y k0, Calls Try.prog 46 #[.pointer (some ⟨g.hb, 0, none⟩), .pointer (some ⟨g.ob name, 0, none⟩)] ((w5.alloc Y).drewN k0) fun e w1 => ∃ b c kk, e = .returned (.slice (some ⟨b, p, none⟩) s c) ∧ w1 = ((w5.alloc Y).drewN k0).drewN kk ∧
              ((∃ v, (w5.alloc Y).cell? ⟨b, p + j * 2, none⟩ = some v) ∧ (∃ v, (w5.alloc Y).cell? ⟨b, p + j * 2 + 1, none⟩ = some v) ∧ (w5.alloc Y).frozen? ⟨b, p + j * 2, none⟩ = false ∧ (w5.alloc Y).frozen? ⟨b, p + j * 2 + 1, none⟩ = false) ∧
              Hid (∀ W, (∃ k2, W = (((((w5.alloc Y).drewN k0).drewN kk).setCell ⟨b, p + j * 2, none⟩ (.bool xr)).setCell ⟨b, p + j * 2 + 1, none⟩ (.int .i64 xn)).drewN k2) → Calls Try.prog 34 #[.pointer (some ⟨g.hb, 0, none⟩), .int .i64 name] W fun e w2 => e = .returned (.tuple #[]) ∧ Hid (Post K (.returned (.int .i64 0)) w2))) := fun Y kk => HFd.out _ ((hC6 Y).drewN kk)
          have HC := Lib.hid hC6
          clear hC6 hC HFd HO HIn HPl
          go_upto_region 12 with fail
          go_region_law (go_simp; go_at_call 46; refine (HF6.out _ _).mono ?_; rintro e w1 ⟨b, c, kk, rfl, rfl, ⟨⟨v0, q0⟩, ⟨v1, q1⟩, q2, q3⟩, hN⟩)
          all_goals
            go_wp2_with fail
            refine (hN.out _ ⟨0, by rw [World.drewN_drewN]; rfl⟩).mono ?_
            rintro e w8 ⟨rfl, hZ⟩
            go_wp2
            go_ret
            exact hZ.out

end Go.Proofs.Ytelghmmcbgfjnaa

/-! entry. -/
namespace Go.Proofs.Ytelghmmcbgfjnaa
open Go.RowKit

def KeyIs (k : Int) (x : En) : Bool := x.key == k

set_option maxHeartbeats 1000000 in
theorem entry1_any {w : World} {kb : Nat} {k : Int} (h : w.heap[kb]? = some (.cells #[.int .i64 k] 3 (0, 0))) (x : En) :
    Calls Try.prog 51 #[En.value x, .pointer (some ⟨kb, 0, none⟩)] w fun e w' => e = .returned (.bool (KeyIs k x)) ∧ Chg (fun _ => False) w w' := by
  have c0 : w.cell? ⟨kb, 0, none⟩ = some (.int .i64 k) := cellAt h 0
  have c1 : ∀ X, (w.alloc X).cell? ⟨kb, 0, none⟩ = some (.int .i64 k) := fun X => cellAt (heap_alloc_old h X) 0
  unfold En.value KeyIs
  generalize x.val.ref = xr
  generalize x.val.num = xn
  generalize x.key = xk
  clear h
  go_enter Try.func51, Try.ntmps51
  go_wp2
  try go_quiet (fail)
  go_wp2
  go_ret
  exact ⟨rfl, by first | exact (Chg.refl _ _).alloc _ | exact ((Chg.refl _ _).alloc _).drewN _⟩

theorem call_entry1 (args : Array Value) (w : World) : (callFunc 51 args).run Try.prog w = .ok (.enter 51 args) w := by kernel_rfl

theorem entry_pred (kb : Nat) (k : Int) : PredK 51 #[] #[.pointer (some ⟨kb, 0, none⟩)] (KeyIs k) (fun b => b = kb) (fun w => w.heap[kb]? = some (.cells #[.int .i64 k] 3 (0, 0))) where
  call := call_entry1
  step := fun _ x h => entry1_any h x
  keep := fun _ _ _ h hC hF => hC.at h (hF _ rfl)

inductive EntErr (A : St) (t key : Int) : Int → Prop
  | none : A.handles.lookup t = none → EntErr A t key 221
  | nokey {name : Int} : A.handles.lookup t = some name → A.handles.lookup key = none → EntErr A t key 221
  | kind {name kn : Int} {o : Ob} : A.handles.lookup t = some name → A.handles.lookup key = some kn → A.objs.lookup name = some o → o.table = false → EntErr A t key 223

set_option maxRecDepth 100000 in
set_option maxHeartbeats 1000000 in
theorem entry_err {w : World} {g : Gh} {A : St} (hR : Rep w g A) (hob : ∀ n name, A.handles.lookup n = some name → (A.objs.lookup name).isSome) {t key er : Int} (h : EntErr A t key er) :
    Calls Try.prog 33 #[.pointer (some ⟨g.hb, 0, none⟩), .int .i64 t, .int .i64 key] w fun e w' => e = .returned (.tuple #[.pointer none, .int .i64 0, .int .i64 0, .int .i64 0, .int .i64 er]) ∧ Chg (fun _ => False) w w' := by
  have hC0 : ∀ X, Chg (fun _ => False) w (w.alloc X) := fun X => (Chg.refl _ _).alloc X
  cases h with
  | none h1 =>
    have HO := Lib.hid fun X => of_none (hR.alloc X) h1
    clear hR hob h1
    go_enter Try.func33, Try.ntmps33
    go_wp2_with fail
    refine (HO.out _).mono ?_; rintro e w1 ⟨rfl, rfl⟩
    go_wp2
    refine bodyPost_ret (v := .tuple #[.pointer none, .int .i64 0, .int .i64 0, .int .i64 0, .int .i64 221]) (by simp [results, Try.results33, go_sem]) rfl ⟨rfl, ?_⟩
    exact hC0 _
  | @nokey name h1 h2 =>
    obtain ⟨o, ho⟩ := Option.isSome_iff_exists.1 (hob t name h1)
    have HO := Lib.hid fun X => of_some (hR.alloc X) h1 ho
    have HO2 := Lib.hid fun X => of_none (hR.alloc X) h2
    clear hR hob h1 h2 ho
    go_enter Try.func33, Try.ntmps33
    go_wp2_with fail
    refine (HO.out _).mono ?_; rintro e w1 ⟨rfl, rfl⟩
    go_wp2_with fail
    refine (HO2.out _).mono ?_; rintro e w1 ⟨rfl, rfl⟩
    go_wp2
    refine bodyPost_ret (v := .tuple #[.pointer none, .int .i64 0, .int .i64 0, .int .i64 0, .int .i64 221]) (by simp [results, Try.results33, go_sem]) rfl ⟨rfl, ?_⟩
    exact hC0 _
  | @kind name kn o h1 h2 h3 h4 =>
    obtain ⟨ok, hok⟩ := Option.isSome_iff_exists.1 (hob key kn h2)
    have HO := Lib.hid fun X => of_some (hR.alloc X) h1 h3
    have HO2 := Lib.hid fun X => of_some (hR.alloc X) h2 hok
    have HW := Lib.hid fun X => by
      have := weak_some (hR.alloc X) h1 h3
      rw [h4] at this
      exact this
    clear hR hob h1 h2 h3 h4 hok
    go_enter Try.func33, Try.ntmps33
    go_wp2_with fail
    refine (HO.out _).mono ?_; rintro e w1 ⟨rfl, rfl⟩
    go_wp2_with fail
    refine (HO2.out _).mono ?_; rintro e w1 ⟨rfl, rfl⟩
    go_wp2_with fail
    refine (HW.out _).mono ?_; rintro e w1 ⟨rfl, rfl⟩
    go_wp2
    refine bodyPost_ret (v := .tuple #[.pointer none, .int .i64 0, .int .i64 0, .int .i64 0, .int .i64 223]) (by simp [results, Try.results33, go_sem]) rfl ⟨rfl, ?_⟩
    exact hC0 _

set_option maxRecDepth 100000 in
set_option maxHeartbeats 1000000 in
theorem entry_ok {w : World} {g : Gh} {A : St} (hR : Rep w g A) {t key name kn : Int} {o ok : Ob} (h1 : A.handles.lookup t = some name) (h2 : A.handles.lookup key = some kn) (h3 : A.objs.lookup name = some o) (h4 : o.table = true) (hok : A.objs.lookup kn = some ok) (hb : o.ents.length ≤ 1000000000000) :
    Calls Try.prog 33 #[.pointer (some ⟨g.hb, 0, none⟩), .int .i64 t, .int .i64 key] w fun e w' => e = .returned (.tuple #[.pointer (some ⟨g.ob name, 0, none⟩), .int .i64 name, .int .i64 kn, .int .i64 (idxOf (KeyIs kn) o.ents), .int .i64 0]) ∧ Chg (fun _ => False) w w' := by
  have HO := Lib.hid fun X => of_some (hR.alloc X) h1 h3
  have HO2 := Lib.hid fun X => of_some (hR.alloc X) h2 hok
  have HW := Lib.hid fun X => by
    have := weak_some (hR.alloc X) h1 h3
    rw [h4] at this
    exact this
  obtain ⟨a, c, hv, _, _, _⟩ := (hR.obj name o (mem_of_lookup h3)).row.slice
  have c4 : ∀ X, (w.alloc X).cell? ⟨g.ob name, 4, none⟩ = some (.slice a o.ents.length c) := fun X => by rw [← hv]; exact ((hR.alloc X).obj name o (mem_of_lookup h3)).c 4
  have HIx : Hid (∀ k, Calls Try.prog 50 #[.slice a o.ents.length c, .func (.func 51) #[] #[.pointer (some ⟨w.heap.size, 0, none⟩)]] ((w.alloc (.cells #[.int .i64 kn] 3)).drewN k) fun e w' => e = .returned (.int .i64 (idxOf (KeyIs kn) o.ents)) ∧
      (w'.cell? ⟨w.heap.size, 0, none⟩ = some (.int .i64 kn) ∧ w'.frozen? ⟨w.heap.size, 0, none⟩ = false) ∧ Hid (Chg (fun _ => False) w (w'.setCell ⟨w.heap.size, 0, none⟩ (.int .i64 kn)))) := by
    intro k
    have hb0 : ((w.alloc (.cells #[.int .i64 kn] 3)).drewN k).heap[w.heap.size]? = some (.cells #[.int .i64 kn] 3 (0, 0)) := heap_alloc_new w _
    have hrow := (((hR.alloc (.cells #[.int .i64 kn] 3)).drewN k).obj name o (mem_of_lookup h3)).row
    rw [hv] at hrow
    refine (indexFunc_any (entry_pred w.heap.size kn) hb0 hrow hb).mono ?_
    rintro e w' ⟨rfl, hC⟩
    have hb1 := hC.at hb0 (fun h => h)
    refine ⟨rfl, ⟨cellAt hb1 0, freeAt hb1 0⟩, ?_⟩
    exact ((((Chg.refl _ _).alloc _).drewN k).trans hC (fun _ _ h => h)).setCell (fun h => absurd h (by simp)) _
  clear hR h1 h2 h3 h4 hok hv
  generalize idxOf (KeyIs kn) o.ents = ix at *
  generalize o.ents.length = len at *
  go_enter Try.func33, Try.ntmps33
  go_wp2_with fail
  refine (HO.out _).mono ?_; rintro e w1 ⟨rfl, rfl⟩
  go_wp2_with fail
  refine (HO2.out _).mono ?_; rintro e w1 ⟨rfl, rfl⟩
  go_wp2_with fail
  refine (HW.out _).mono ?_; rintro e w1 ⟨rfl, rfl⟩
  go_upto_region 10 with fail
  go_region_law (go_simp; go_at_call 50; refine (HIx.out _).mono ?_; rintro e w5 ⟨rfl, ⟨q0, q1⟩, hZ⟩)
  all_goals
    go_wp2
    go_simp
    refine bodyPost_ret (v := .tuple #[.pointer (some ⟨g.ob name, 0, none⟩), .int .i64 name, .int .i64 kn, .int .i64 ix, .int .i64 0]) (by simp [results, Try.results33, go_sem, q0]) rfl ⟨rfl, ?_⟩
    exact hZ.out

end Go.Proofs.Ytelghmmcbgfjnaa
