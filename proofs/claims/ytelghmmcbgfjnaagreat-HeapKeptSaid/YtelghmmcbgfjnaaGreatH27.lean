/-
  What all handles show, plainly; and what looks does to a heap, step by step. (A part of the proof, joined of: Ty, Tz, Ua.)
-/
import Derived.Test.YtelghmmcbgfjnaaGreatH26
/-! What all handles show, plainly; and what looks does to a heap, step by step. -/
namespace Go.Proofs.YtelghmmcbgfjnaaGreat
open Go.RowKit

/-! ### What is shown -/

def IS.lookF (I : IS) (c : Wd) : List Int := bitI c.ref :: 0 :: (if c.ref then I.hands.map fun n => bitI (decide (I.hs.lookup n = some c.num)) else [c.num])
def IS.lookN (I : IS) (n : Int) : List Int := n :: (I.tagOf n).1 :: (I.tagOf n).2.1 :: (I.tagOf n).2.2 :: (match I.hs.lookup n with
  | none => []
  | some x => match I.nd x with
    | none => []
    | some d => if d.table then [] else (d.flds.take 200).flatMap I.lookF)
def IS.looks (I : IS) : List Int := I.hands.flatMap I.lookN

theorem IS.looks_majored (I : IS) : I.majored.looks = I.looks := by
  have hhs : I.majored.hs = I.hs := rfl
  have hh : I.majored.hands = I.hands := by unfold IS.hands; rw [hhs]
  have hF : ∀ c, I.majored.lookF c = I.lookF c := fun c => by unfold IS.lookF; rw [hh, hhs]
  unfold IS.looks
  rw [hh]
  congr 1
  funext n
  unfold IS.lookN IS.tagOf
  rw [hhs]
  cases I.hs.lookup n with
  | none => rfl
  | some x =>
    simp only [IS.nd_majored]
    cases I.nd x with
    | none => rfl
    | some d =>
      have e : I.majored.lookF = I.lookF := funext hF
      simp only [Option.map_some, e]

theorem flatMap_next {α : Type} {l : List Int} {f : Int → List α} {i : Nat} (hi : i < l.length) : (l.take (i + 1)).flatMap f = (l.take i).flatMap f ++ f (l.getD i 0) := by
  rw [List.take_add_one, List.flatMap_append, List.getD_eq_getElem?_getD, List.getElem?_eq_getElem hi]
  simp
theorem flatW_next {l : List Wd} {f : Wd → List Int} {i : Nat} {c : Wd} (hi : l[i]? = some c) : (l.take (i + 1)).flatMap f = (l.take i).flatMap f ++ f c := by
  rw [List.take_add_one, List.flatMap_append, hi]
  simp
theorem map_next {l : List Int} {f : Int → Int} {i : Nat} (hi : i < l.length) : (l.take (i + 1)).map f = (l.take i).map f ++ [f (l.getD i 0)] := by
  rw [List.take_add_one, List.map_append, List.getD_eq_getElem?_getD, List.getElem?_eq_getElem hi]
  simp

/-! ### Get and Drop, no operation counted -/

theorem HP.get_ref0 {w : World} {hb : Nat} {L : List Nat} {I : IS} {m : Nat} (h : HP w hb L I m) (ha : Ample I m) {n name : Int} {d : Nd} (ht : I.hs.lookup n = some name) (hd : I.nd name = some d) (hk : d.table = false) {i : Nat} {x : Int} (hx : d.flds[i]? = some ⟨true, x⟩) :
    Calls Tryz.prog 32 #[.pointer (some ⟨hb, 0, none⟩), .int .i64 n, .int .i64 i] w fun e w' => e = .returned (.tuple #[.agg #[.bool true, .int .i64 I.fresh], .int .i64 0]) ∧ Hid (Got w hb L (I.grant x) m w') := by
  obtain ⟨g, A, h1, h2, rfl, h4⟩ := h
  obtain ⟨o, d', g0, g1, g2, g3, g4, g5, g6⟩ := h2.ent ht
  rw [hd] at g1
  simp only [Option.some.injEq] at g1
  subst g1
  rw [hk] at g2
  rw [← h2.sim.hs] at ht
  obtain ⟨f1, f2, f3⟩ := h2.field g0 g4
  refine (_root_.Go.Proofs.YtelghmmcbgfjnaaGreat.get_ref h1 h2.good.free (h2.facts ha).2.1 ht g0 g2 (by rw [f1]; exact hx) f2 f3).mono ?_
  rintro e w' ⟨q, rfl, A', g', hG, hR', hStep⟩
  have hp : (A.objs.lookup x).isSome := h2.good.wf.closed _ _ g0 _ (mem_refs.2 (.inl (List.mem_map.2 ⟨⟨true, x⟩, List.mem_filter.2 ⟨by rw [f1]; exact List.mem_of_getElem? hx, rfl⟩, rfl⟩)))
  obtain ⟨rfl, h5⟩ := h2.grant hG hp ha.hs
  exact ⟨rfl, Lib.hid (.of h4 hR' hStep h5)⟩
theorem IS.drop_grant (I : IS) (x : Int) : (I.grant x).drop I.fresh = (0, I) := by
  unfold IS.drop
  rw [I.grant_lookup x]
  simp only [I.grant_del x]
  rfl
theorem HP.drop0 {w : World} {hb : Nat} {L : List Nat} {I : IS} {x : Int} {m : Nat} (h : HP w hb L (I.grant x) m) :
    Calls Tryz.prog 30 #[.pointer (some ⟨hb, 0, none⟩), .int .i64 I.fresh] w fun e w' => e = .returned (.int .i64 0) ∧ Hid (Got w hb L I m w') := by
  obtain ⟨g, A, h1, h2, rfl, h4⟩ := h
  refine (drop_any h1 h2.good I.fresh).mono ?_
  rintro e w' ⟨er, rfl, A', g', hS, hR', hStep⟩
  obtain ⟨rfl, h5⟩ := h2.dropped hS
  rw [I.drop_grant x] at h5 ⊢
  exact ⟨rfl, Lib.hid (.of h4 hR' hStep h5)⟩
theorem IS.same_grant {I : IS} {x n name : Int} (hn : I.hs.lookup n = some name) : (I.grant x).same I.fresh n = (decide (I.hs.lookup n = some x), 0) := by
  unfold IS.same
  rw [I.grant_lookup x]
  have h2 : (I.grant x).hs.lookup n = some name := by
    show (I.hs ++ [(I.fresh, x)]).lookup n = _
    rw [List.lookup_append, hn]
    rfl
  rw [h2, hn]
  simp only [Option.some.injEq, Prod.mk.injEq, and_true]
  by_cases e : x = name
  · simp [e]
  · have e2 : ¬ name = x := fun h => e h.symm
    simp [e, e2]

/-! ### The state of looks -/

structure Lk (w wr : World) (hb : Nat) (Lo L : List Nat) (J : IS) (m : Nat) (v : Value) (hs : List Int) (o : Value) (out : List Int) : Prop where
  hp : HP wr hb (Lo ++ L) J m
  chg : Chg (fun b => b ∉ Lo) w wr
  row : Row wr 3 1 v hs.length (intCells hs)
  rin : ∀ b, rowBlk v = some b → b ∈ L
  orow : Row wr 3 1 o out.length (intCells out)
  oin : ∀ b, rowBlk o = some b → b ∈ L
  ne : ∀ b, rowBlk o = some b → rowBlk v ≠ some b
  low : ∀ b ∈ L, w.heap.size ≤ b
/-- With the cell that Get returned. -/
structure LkB (w wr : World) (hb : Nat) (Lo L : List Nat) (J : IS) (m : Nat) (v : Value) (hs : List Int) (o : Value) (out : List Int) (b : Nat) (c : Wd) : Prop where
  lk : Lk w wr hb Lo L J m v hs o out
  box : wr.heap[b]? = some (.cells #[.bool c.ref, .int .i64 c.num] 54 (0, 0))
  bin : b ∈ L
  bne : rowBlk o ≠ some b

theorem Lk.got {w wr w' : World} {hb : Nat} {Lo L : List Nat} {J J' : IS} {m m' : Nat} {v o : Value} {hs out : List Int} (h : Lk w wr hb Lo L J m v hs o out) (hG : Got wr hb (Lo ++ L) J' m' w') : Lk w w' hb Lo L J' m' v hs o out :=
  { hp := hG.hp
    chg := h.chg.trans hG.chg fun _ _ hn hl => hn (List.mem_append_left _ hl)
    row := h.row.same fun b hb => hG.chg.block b (h.row.lt hb) fun hn => hn (List.mem_append_right _ (h.rin b hb))
    rin := h.rin
    orow := h.orow.same fun b hb => hG.chg.block b (h.orow.lt hb) fun hn => hn (List.mem_append_right _ (h.oin b hb))
    oin := h.oin
    ne := h.ne
    low := h.low }
theorem Lk.still {w wr w' : World} {hb : Nat} {Lo L : List Nat} {J : IS} {m : Nat} {v o : Value} {hs out : List Int} (h : Lk w wr hb Lo L J m v hs o out) (hC : Chg (fun _ => False) wr w') : Lk w w' hb Lo L J m v hs o out := h.got (h.hp.got hC)
theorem Lk.alloc {w wr : World} {hb : Nat} {Lo L : List Nat} {J : IS} {m : Nat} {v o : Value} {hs out : List Int} (h : Lk w wr hb Lo L J m v hs o out) (X : Obj) : Lk w (wr.alloc X) hb Lo (wr.heap.size :: L) J m v hs o out := by
  have h1 := h.still ((Chg.refl _ wr).alloc X)
  have hsz := h.chg.size
  exact { h1 with
    hp := (h.hp.alloc X).sub fun b hb => by
      simp only [List.mem_append, List.mem_cons] at hb ⊢
      rcases hb with hb | hb | hb
      · exact .inr (.inl hb)
      · exact .inl hb
      · exact .inr (.inr hb)
    rin := fun b hb => List.mem_cons_of_mem _ (h.rin b hb)
    oin := fun b hb => List.mem_cons_of_mem _ (h.oin b hb)
    low := fun b hb => by
      rcases List.mem_cons.1 hb with rfl | hb
      · exact hsz
      · exact h.low b hb }
theorem LkB.got {w wr w' : World} {hb : Nat} {Lo L : List Nat} {J J' : IS} {m m' : Nat} {v o : Value} {hs out : List Int} {b : Nat} {c : Wd} (h : LkB w wr hb Lo L J m v hs o out b c) (hG : Got wr hb (Lo ++ L) J' m' w') : LkB w w' hb Lo L J' m' v hs o out b c :=
  ⟨h.lk.got hG, hG.chg.at h.box fun hn => hn (List.mem_append_right _ h.bin), h.bin, h.bne⟩
theorem LkB.still {w wr w' : World} {hb : Nat} {Lo L : List Nat} {J : IS} {m : Nat} {v o : Value} {hs out : List Int} {b : Nat} {c : Wd} (h : LkB w wr hb Lo L J m v hs o out b c) (hC : Chg (fun _ => False) wr w') : LkB w w' hb Lo L J m v hs o out b c := h.got (h.lk.hp.got hC)
theorem LkB.cells {w wr : World} {hb : Nat} {Lo L : List Nat} {J : IS} {m : Nat} {v o : Value} {hs out : List Int} {b : Nat} {c : Wd} (h : LkB w wr hb Lo L J m v hs o out b c) : wr.cell? ⟨b, 0, none⟩ = some (.bool c.ref) ∧ wr.cell? ⟨b, 1, none⟩ = some (.int .i64 c.num) := ⟨cellAt h.box 0, cellAt h.box 1⟩
theorem LkB.make {w wr : World} {hb : Nat} {Lo L : List Nat} {J : IS} {m : Nat} {v o : Value} {hs out : List Int} (h : Lk w wr hb Lo L J m v hs o out) (c : Wd) : LkB w (wr.alloc (.cells #[.bool c.ref, .int .i64 c.num] 54)) hb Lo (wr.heap.size :: L) J m v hs o out wr.heap.size c :=
  ⟨h.alloc _, heap_alloc_new _ _, List.mem_cons_self .., fun e => by have := h.orow.lt e; omega⟩

/-- More behind what is out. -/
theorem Lk.app {w wr : World} {hb : Nat} {Lo L : List Nat} {J : IS} {m : Nat} {v o : Value} {hs out : List Int} (h : Lk w wr hb Lo L J m v hs o out) {l : List Int} (h0 : 0 < l.length) (hl : l.length ≤ 100) (ho : out.length ≤ 100000000000) :
    ∃ a cap w', (Builtin.append_ #[23, 23] 23 #[o, .slice (some ⟨wr.heap.size, 0, none⟩) l.length l.length]).run Tryz.prog (wr.alloc (.cells (l.map (Value.int .i64)).toArray 3)) = .ok (.slice a (out.length + l.length) cap) w' ∧
      (∃ L', Lk w w' hb Lo L' J m v hs (.slice a (out.length + l.length) cap) (out ++ l) ∧ (∀ b ∈ L, b ∈ L')) ∧ Chg (fun b => rowBlk o = some b) wr w' ∧ (∀ b, rowBlk (.slice a (out.length + l.length) cap) = some b → rowBlk o = some b ∨ wr.heap.size ≤ b) := by
  have hB := IRow.block wr (l := l) h0 (by unfold maxLen; omega)
  have h1 : Row (wr.alloc (.cells (l.map (Value.int .i64)).toArray 3)) 3 1 o out.length (intCells out) := h.orow.same fun b hb => by rw [heap_alloc, if_neg (by have := h.orow.lt hb; omega)]
  obtain ⟨a, cap, w', e1, e2, e3, e4⟩ := append_rows h1 hB.row (by omega)
  have hsz := h.chg.size
  have hC : Chg (fun b => rowBlk o = some b) wr w' := ((Chg.refl _ wr).alloc _).trans e3 fun _ _ h => h
  have hloc : ∀ b, rowBlk (.slice a (out.length + l.length) cap) = some b → rowBlk o = some b ∨ wr.heap.size ≤ b := fun b hb => by
    rcases e4 b hb with h5 | h5
    · exact .inl h5
    · exact .inr (by have : wr.heap.size ≤ (wr.alloc (.cells (l.map (Value.int .i64)).toArray 3)).heap.size := by simp
                     omega)
  have e2' : Row w' 3 1 (.slice a (out.length + l.length) cap) (out ++ l).length (intCells (out ++ l)) := e2
  refine ⟨a, cap, w', e1, ⟨L ++ since wr w', ?_, fun b hb => List.mem_append_left _ hb⟩, hC, hloc⟩
  exact { hp := (h.hp.allNew (hC.mono fun b _ hb => List.mem_append_right _ (h.oin b hb))).sub fun b hb => by simpa [List.append_assoc, since] using hb
          chg := h.chg.trans hC fun k hk hn hl => by have := h.low k (h.oin k hn); omega
          row := h.row.same fun b hb => hC.block b (h.row.lt hb) fun ho => h.ne b ho hb
          rin := fun b hb => List.mem_append_left _ (h.rin b hb)
          orow := e2'
          oin := fun b hb => by
            rcases hloc b hb with h5 | h5
            · exact List.mem_append_left _ (h.oin b h5)
            · exact List.mem_append_right _ (mem_since.2 ⟨h5, e2'.lt hb⟩)
          ne := fun b hb => by
            rcases hloc b hb with h5 | h5
            · exact h.ne b h5
            · intro hv; have := h.row.lt hv; omega
          low := fun b hb => by
            rcases List.mem_append.1 hb with hb | hb
            · exact h.low b hb
            · have := (mem_since.1 hb).1; omega }
theorem LkB.app {w wr : World} {hb : Nat} {Lo L : List Nat} {J : IS} {m : Nat} {v o : Value} {hs out : List Int} {b : Nat} {c : Wd} (h : LkB w wr hb Lo L J m v hs o out b c) {l : List Int} (h0 : 0 < l.length) (hl : l.length ≤ 100) (ho : out.length ≤ 100000000000) :
    ∃ a cap w', (Builtin.append_ #[23, 23] 23 #[o, .slice (some ⟨wr.heap.size, 0, none⟩) l.length l.length]).run Tryz.prog (wr.alloc (.cells (l.map (Value.int .i64)).toArray 3)) = .ok (.slice a (out.length + l.length) cap) w' ∧
      ∃ L', LkB w w' hb Lo L' J m v hs (.slice a (out.length + l.length) cap) (out ++ l) b c := by
  obtain ⟨a, cap, w', h1, ⟨L', h2, h3⟩, h4, h5⟩ := h.lk.app h0 hl ho
  refine ⟨a, cap, w', h1, L', h2, h4.at h.box h.bne, h3 b h.bin, fun e => ?_⟩
  rcases h5 b e with h6 | h6
  · exact h.bne h6
  · have := lt_of_block h.box; omega

end Go.Proofs.YtelghmmcbgfjnaaGreat

/-! looks, walked. -/
namespace Go.Proofs.YtelghmmcbgfjnaaGreat
open Go.RowKit

theorem IS.hands_get {I : IS} {i : Nat} (hi : i < I.hands.length) : ∃ name, I.hs.lookup (I.hands.getD i 0) = some name :=
  IS.hands_some (by rw [List.getD_eq_getElem?_getD, List.getElem?_eq_getElem hi]; exact List.getElem_mem hi)
/-- The fields of a handle's object. -/
def Fs (I : IS) (n : Int) (fs : List Wd) : Prop := ∃ name d, I.hs.lookup n = some name ∧ I.nd name = some d ∧ fs = if d.table then [] else d.flds
theorem HP.fs {w : World} {hb : Nat} {L : List Nat} {I : IS} {m : Nat} (h : HP w hb L I m) {n name : Int} (hn : I.hs.lookup n = some name) : ∃ fs tag er, Fs I n fs ∧ I.tagOf n = (tag, (fs.length : Int), er) ∧ I.lookN n = n :: tag :: (fs.length : Int) :: er :: (fs.take 200).flatMap I.lookF := by
  obtain ⟨g, A, h1, h2, rfl, h4⟩ := h
  obtain ⟨o, d, g0, g1, _⟩ := h2.ent hn
  unfold IS.lookN IS.tagOf
  simp only [hn, g1]
  cases ht : d.table with
  | true => exact ⟨[], 0, 223, ⟨name, d, hn, g1, by simp [ht]⟩, by simp, by simp⟩
  | false => exact ⟨d.flds, d.tag, 0, ⟨name, d, hn, g1, by simp [ht]⟩, by simp, by simp⟩
theorem Fs.some {I : IS} {n : Int} {fs : List Wd} (h : Fs I n fs) {k : Nat} {c : Wd} (hc : fs[k]? = some c) : ∃ name d, I.hs.lookup n = some name ∧ I.nd name = some d ∧ d.table = false ∧ d.flds[k]? = some c := by
  obtain ⟨name, d, h1, h2, rfl⟩ := h
  cases ht : d.table with
  | true => rw [ht] at hc; simp at hc
  | false => rw [ht] at hc; exact ⟨name, d, h1, h2, ht, by simpa using hc⟩

/-- What looks leaves. -/
structure LookQ (w : World) (hb : Nat) (Lo : List Nat) (I : IS) (m : Nat) (v : Value) (w' : World) : Prop where
  row : Row w' 3 1 v I.looks.length (intCells I.looks)
  rest : ∃ L, HP w' hb (Lo ++ L) I m ∧ (∀ b, rowBlk v = some b → b ∈ L) ∧ (∀ b ∈ L, w.heap.size ≤ b)
  chg : Chg (fun b => b ∉ Lo) w w'

theorem Lk.cell {w wr : World} {hb : Nat} {Lo L : List Nat} {J : IS} {m : Nat} {a : Option Addr} {cv : Nat} {o : Value} {hs out : List Int} (h : Lk w wr hb Lo L J m (.slice a hs.length cv) hs o out) {j : Nat} (hj : j < hs.length) : ∃ g, a = some ⟨g, 0, none⟩ ∧ wr.cell? ⟨g, j, none⟩ = some (.int .i64 (hs.getD j 0)) := by
  obtain ⟨g, h1, _, h2⟩ := h.row.cells (by omega)
  exact ⟨g, h1, h2 j _ (by simp [intCells, List.getElem?_eq_getElem hj, List.getD_eq_getElem?_getD])⟩
theorem Lk.tag {w wr : World} {hb : Nat} {Lo L : List Nat} {J : IS} {m : Nat} {v o : Value} {hs out : List Int} (h : Lk w wr hb Lo L J m v hs o out) (n : Int) :
    Calls Tryz.prog 47 #[.pointer (some ⟨hb, 0, none⟩), .int .i64 n] wr fun e w' => e = .returned (.tuple #[.int .i64 (J.tagOf n).1, .int .i64 (J.tagOf n).2.1, .int .i64 (J.tagOf n).2.2]) ∧ Hid (Lk w w' hb Lo L J m v hs o out) := by
  refine (h.hp.tagOf n).mono ?_
  rintro e w' ⟨rfl, hG⟩
  exact ⟨rfl, Lib.hid (h.got hG.out)⟩

theorem LkB.same {w wr : World} {hb : Nat} {Lo L : List Nat} {I : IS} {m : Nat} {o : Value} {hs out : List Int} {b gb cv : Nat} {x n name : Int} (h : LkB w wr hb Lo L (I.grant x) m (.slice (some ⟨gb, 0, none⟩) hs.length cv) hs o out b ⟨true, I.fresh⟩) {q : Nat} (hq : q < hs.length) (hqn : hs.getD q 0 = n) (hn : I.hs.lookup n = some name) :
    Calls Tryz.prog 43 #[.pointer (some ⟨hb, 0, none⟩), .int .i64 I.fresh, .int .i64 n] wr fun e w' => e = .returned (.tuple #[.bool (decide (I.hs.lookup n = some x)), .int .i64 0]) ∧ (w'.cell? ⟨b, 1, none⟩ = some (.int .i64 I.fresh) ∧ w'.cell? ⟨gb, q, none⟩ = some (.int .i64 n)) ∧ Hid (LkB w w' hb Lo L (I.grant x) m (.slice (some ⟨gb, 0, none⟩) hs.length cv) hs o out b ⟨true, I.fresh⟩) := by
  have hS := h.lk.hp.sameH I.fresh n
  rw [IS.same_grant hn] at hS
  refine hS.mono ?_
  rintro e w' ⟨rfl, hG⟩
  have h2 := h.got hG.out
  obtain ⟨g, eg, hc⟩ := h2.lk.cell hq
  simp only [Option.some.injEq, Addr.mk.injEq, and_true] at eg
  subst eg
  rw [hqn] at hc
  exact ⟨rfl, ⟨h2.cells.2, hc⟩, Lib.hid h2⟩
theorem LkB.two {w wr : World} {hb : Nat} {Lo L : List Nat} {J : IS} {m : Nat} {o : Value} {hs out : List Int} {b gb cv : Nat} {n : Int} {c : Wd} (h : LkB w wr hb Lo L J m (.slice (some ⟨gb, 0, none⟩) hs.length cv) hs o out b c) {q : Nat} (hq : q < hs.length) (hqn : hs.getD q 0 = n) :
    wr.cell? ⟨b, 1, none⟩ = some (.int .i64 c.num) ∧ wr.cell? ⟨gb, q, none⟩ = some (.int .i64 n) := by
  obtain ⟨g, eg, hc⟩ := h.lk.cell hq
  simp only [Option.some.injEq, Addr.mk.injEq, and_true] at eg
  subst eg
  rw [hqn] at hc
  exact ⟨h.cells.2, hc⟩

/-- The state of looks, blocks hidden. -/
def LkS (w wr : World) (hb : Nat) (Lo : List Nat) (J : IS) (m : Nat) (v : Value) (hs : List Int) (o : Value) (out : List Int) (B : Nat) : Prop := (∃ L, Lk w wr hb Lo L J m v hs o out) ∧ out.length ≤ B

set_option maxRecDepth 100000 in
set_option maxHeartbeats 4000000 in
theorem looks_any {w : World} {hb : Nat} {Lo : List Nat} {I : IS} {m : Nat} (h : HP w hb Lo I m) (ha : Ample I m) :
    Calls Tryz.prog 18 #[.pointer (some ⟨hb, 0, none⟩)] w fun e w' => ∃ v, e = .returned v ∧ LookQ w hb Lo I m v w' := by
  refine ret_k fun K hK => ?_
  have HK := Lib.hid hK
  have HAm := Lib.hid ha
  have hlen : I.hands.length ≤ 9000 := by
    have h1 := ha.hs
    have h2 : I.hands.length = I.hs.length := by unfold IS.hands; rw [(sortI_perm _).length_eq, List.length_map]
    omega
  have HLen := Lib.hid hlen
  have H0 := Lib.hid h
  have HHa := Lib.hid (h.ho.handles (by have := ha.hs; omega))
  have HBit := Lib.hid bit_any
  clear hK ha hlen h
  go_enter Tryz.func18, Tryz.ntmps18
  go_wp2_with fail
  refine HHa.out.mono ?_; rintro e w1 ⟨v, rfl, hrow, hC, hnew⟩
  obtain ⟨av, cv, rfl, _⟩ := hrow.slice
  obtain ⟨hs, hhs⟩ : ∃ hs, hs = I.hands := ⟨_, rfl⟩
  have HHs := Lib.hid hhs
  rw [← hhs] at hrow HLen hnew
  rw [← hhs]
  have HS0 : Hid (LkS w w1 hb Lo I m (.slice av hs.length cv) hs (.slice none 0 0) [] 0) := by
    refine ⟨⟨since w w1, ?_⟩, by simp⟩
    exact { hp := (H0.out.ho.allNew (hC.mono fun _ _ h => h.elim)).hp
            chg := hC.mono fun _ _ h => h.elim
            row := hrow
            rin := fun b hb => mem_since.2 ⟨hnew b hb, hrow.lt hb⟩
            orow := Row.nil _ _ _
            oin := fun b hb => by simp [rowBlk] at hb
            ne := fun b hb => by simp [rowBlk] at hb
            low := fun b hb => (mem_since.1 hb).1 }
  clear HHa hrow hC hnew hhs H0
  go_wp2
  go_loopw [4, 5] (fun o k wx => ∃ (i : Nat) (ao : Option Addr) (co : Nat), i ≤ hs.length ∧ k = .int .i64 i ∧ o = .slice ao ((hs.take i).flatMap I.lookN).length co ∧ Hid (LkS w wx hb Lo I m (.slice av hs.length cv) hs o ((hs.take i).flatMap I.lookN) (2000000 * i))) (fun _ k _ => hs.length - (intOf k).toNat)
  case atStart => exact ⟨0, none, 0, by omega, rfl, by simp, by simpa using HS0⟩
  case round =>
    obtain ⟨i, ao, co, hi, rfl, rfl, HB⟩ := hrel
    clear HS0
    by_cases hlt : i < hs.length
    · have hlt' : (i : Int) < (hs.length : Int) := by omega
      have hwi : IntKind.i64.wrap ((i : Int) + 1) = (i : Int) + 1 := IntWalk.i64_in _ (by have := HLen.out; omega)
      obtain ⟨P, hP⟩ : ∃ P, P = (hs.take i).flatMap I.lookN := ⟨_, rfl⟩
      have HNx := Lib.hid (flatMap_next (f := I.lookN) hlt)
      rw [← hP] at HB HNx ⊢
      clear hP
      obtain ⟨⟨L0, hL0⟩, hB0⟩ := HB.out
      obtain ⟨name, hn⟩ : ∃ name, I.hs.lookup (hs.getD i 0) = some name := by
        have := IS.hands_get (I := I) (i := i) (by rw [← HHs.out]; exact hlt)
        rw [← HHs.out] at this
        exact this
      obtain ⟨fs, tag, er, hFs, hTag, hLN⟩ := hL0.hp.fs hn
      have hT := hL0.tag (hs.getD i 0)
      rw [hTag] at hT
      obtain ⟨gb, rfl, hcell⟩ := hL0.cell hlt
      obtain ⟨n, hn0⟩ : ∃ n, n = hs.getD i 0 := ⟨_, rfl⟩
      have HN := Lib.hid hn0
      rw [← hn0] at hT hFs hLN HNx hcell
      have HT := Lib.hid hT
      have HFs := Lib.hid hFs
      have HLN := Lib.hid hLN
      have HB0 := Lib.hid hB0
      have HIL : Hid (i < hs.length) := hlt
      clear hn hTag hT hL0 hFs hLN hn0 hB0 HB
      go_upto_region 7 with (go_at_call 47; refine HT.out.mono ?_; rintro e wt ⟨rfl, hL1⟩)
      clear HT hcell
      obtain ⟨gb2, eg, hcell⟩ := hL1.out.cell HIL.out
      simp only [Option.some.injEq, Addr.mk.injEq, and_true] at eg
      obtain rfl := eg
      rw [← HN.out] at hcell
      obtain ⟨a3, c3, w3, happ, ⟨L3, hL3, _⟩, _⟩ := hL1.out.app (l := [n, tag, (fs.length : Int), er]) (by simp) (by simp) (by have := HB0.out; have := HIL.out; have := HLen.out; omega)
      have happ' : (Builtin.append_ #[23, 23] 23 #[.slice ao P.length co, .slice (some ⟨wt.heap.size, 0, none⟩) 4 4]).run Tryz.prog (wt.alloc (.cells #[.int .i64 n, .int .i64 tag, .int .i64 fs.length, .int .i64 er] 3)) = .ok (.slice a3 (P.length + 4) c3) w3 := happ
      obtain ⟨Q, hQ⟩ : ∃ Q, Q = P ++ [n, tag, (fs.length : Int), er] := ⟨_, rfl⟩
      have hQl : Q.length = P.length + 4 := by rw [hQ]; simp
      have HQ := Lib.hid hQ
      have HS3 : Hid (LkS w w3 hb Lo I m (.slice (some ⟨gb, 0, none⟩) hs.length cv) hs (.slice a3 (P.length + 4) c3) Q (2000000 * i + 10)) := by
        rw [← hQ] at hL3
        exact ⟨⟨L3, hL3⟩, by rw [hQl]; have := HB0.out; omega⟩
      rw [← hQl] at happ' HS3
      clear happ hL3 hL1 hQ
      clear hQl
      go_wp2_with (at_builtin; go_must (refine wpList_val rfl (exec_append rfl happ') ?_))
      clear happ'
      go_loopw [4, 9] (fun o k wx => ∃ (j : Nat) (ao : Option Addr) (co : Nat), j ≤ fs.length ∧ j ≤ 200 ∧ k = .int .i64 j ∧ o = .slice ao (Q ++ (fs.take j).flatMap I.lookF).length co ∧ Hid (LkS w wx hb Lo I m (.slice (some ⟨gb, 0, none⟩) hs.length cv) hs o (Q ++ (fs.take j).flatMap I.lookF) (2000000 * i + 10 + 9010 * j))) (fun _ k _ => 200 - (intOf k).toNat)
      case atStart => exact ⟨0, a3, c3, by omega, by omega, rfl, by simp, by simpa using HS3⟩
      case round =>
        obtain ⟨j, aj, cj, hj, hj2, rfl, rfl, HB⟩ := hrel
        clear HS3
        by_cases hlt2 : j < fs.length
        · by_cases hlt3 : j < 200
          · have hlt2' : (j : Int) < (fs.length : Int) := by omega
            have hlt3' : (j : Int) < 200 := by omega
            have hwj : IntKind.i64.wrap ((j : Int) + 1) = (j : Int) + 1 := IntWalk.i64_in _ (by omega)
            obtain ⟨c, hc⟩ : ∃ c, fs[j]? = some c := ⟨_, List.getElem?_eq_getElem hlt2⟩
            obtain ⟨name2, d, f1, f2, f3, f4⟩ := HFs.out.some hc
            have HNx2 := Lib.hid (flatW_next (f := I.lookF) hc)
            obtain ⟨F, hF⟩ : ∃ F, F = Q ++ (fs.take j).flatMap I.lookF := ⟨_, rfl⟩
            have HF := Lib.hid hF
            rw [← hF] at HB ⊢
            obtain ⟨⟨L0, hL0⟩, hB0⟩ := HB.out
            obtain ⟨gb2, eg, hcell⟩ := hL0.cell HIL.out
            simp only [Option.some.injEq, Addr.mk.injEq, and_true] at eg
            obtain rfl := eg
            rw [← HN.out] at hcell
            have HB0 := Lib.hid hB0
            have HJ : Hid (j < fs.length ∧ j < 200) := ⟨hlt2, hlt3⟩
            obtain ⟨cr, x⟩ := c
            cases cr with
            | false =>
              have HG := Lib.hid (hL0.hp.get_num f1 f2 f3 f4)
              have HL0 := Lib.hid hL0
              clear hL0 hB0 hc f1 f2 f3 f4 hF HB hlt2 hlt3
              go_upto_region 12 with (go_at_call 32; refine HG.out.mono ?_; rintro e wt ⟨rfl, hL1⟩)
              have HB1 := Lib.hid (LkB.make (HL0.out.got hL1.out) ⟨false, x⟩)
              generalize wt.alloc (.cells #[.bool false, .int .i64 x] 54) = wb at HB1 ⊢
              generalize wt.heap.size = b at HB1 ⊢
              clear hL1 HG HL0 hcell
              obtain ⟨c0, c1⟩ := HB1.out.cells
              have hFl : F.length ≤ 100000000000 := by have := HB0.out; have := HIL.out; have := HLen.out; omega
              obtain ⟨a4, c4, w4, happ, L4, hL4⟩ := HB1.out.app (l := [bitI false, 0]) (by simp) (by simp) hFl
              have happ4 : (Builtin.append_ #[23, 23] 23 #[.slice aj F.length cj, .slice (some ⟨wb.heap.size, 0, none⟩) 2 2]).run Tryz.prog (wb.alloc (.cells #[.int .i64 (bitI false), .int .i64 0] 3)) = .ok (.slice a4 (F.length + 2) c4) w4 := happ
              have HL4 := Lib.hid hL4
              have HFl := Lib.hid hFl
              clear happ hL4 hFl HB1
              go_upto_region 13 with (first | (at_builtin; go_must (refine wpList_val rfl (exec_append rfl happ4) ?_)) | (go_at_call 39; refine (HBit.out _ _).mono ?_; rintro e w9 ⟨rfl, rfl⟩))
              clear happ4 c0 c1
              obtain ⟨c0, c1⟩ := HL4.out.cells
              obtain ⟨a5, c5, w5, happ, L5, hL5⟩ := HL4.out.app (l := [x]) (by simp) (by simp) (by rw [List.length_append]; have := HB0.out; have := HIL.out; have := HLen.out; simp; omega)
              have el2 : (F ++ [bitI false, 0]).length = F.length + 2 := by simp
              rw [el2] at happ hL5
              have happ5 : (Builtin.append_ #[23, 23] 23 #[.slice a4 (F.length + 2) c4, .slice (some ⟨w4.heap.size, 0, none⟩) 1 1]).run Tryz.prog (w4.alloc (.cells #[.int .i64 x] 3)) = .ok (.slice a5 (F.length + 2 + 1) c5) w5 := happ
              have HL5 : Hid (LkS w w5 hb Lo I m (.slice (some ⟨gb, 0, none⟩) hs.length cv) hs (.slice a5 (F.length + 2 + 1) c5) (F ++ [bitI false, 0] ++ [x]) (2000000 * i + 10 + 9010 * (j + 1))) := ⟨⟨L5, hL5.lk⟩, by simp; have := HB0.out; omega⟩
              clear happ hL5 HL4
              go_wp2_with (at_builtin; go_must (refine wpList_val rfl (exec_append rfl happ5) ?_))
              clear happ5 c0 c1
              have e : F ++ [bitI false, 0] ++ [x] = Q ++ (fs.take (j + 1)).flatMap I.lookF := by
                rw [HNx2.out, HF.out]; simp [IS.lookF, bitI]
              have el : F.length + 2 + 1 = (Q ++ (fs.take (j + 1)).flatMap I.lookF).length := by rw [← e]; simp
              rw [e, el] at HL5
              rw [el]
              go_roundw
              case rel => exact ⟨j + 1, a5, c5, by have := HJ.out; omega, by have := HJ.out; omega, by go_num, rfl, HL5⟩
              case measure => have := HJ.out; simp [intOf]; omega
            | true =>
              have HG := Lib.hid (hL0.hp.get_ref0 HAm.out f1 f2 f3 f4)
              have HL0 := Lib.hid hL0
              clear hL0 hB0 hc f1 f2 f3 f4 hF HB hlt2 hlt3
              go_upto_region 12 with (go_at_call 32; refine HG.out.mono ?_; rintro e wt ⟨rfl, hL1⟩)
              have HB1 := Lib.hid (LkB.make (HL0.out.got hL1.out) ⟨true, I.fresh⟩)
              generalize wt.alloc (.cells #[.bool true, .int .i64 I.fresh] 54) = wb at HB1 ⊢
              generalize wt.heap.size = b at HB1 ⊢
              clear hL1 HG HL0 hcell
              obtain ⟨c0, c1⟩ := HB1.out.cells
              have hFl : F.length ≤ 100000000000 := by have := HB0.out; have := HIL.out; have := HLen.out; omega
              obtain ⟨a4, c4, w4, happ, L4, hL4⟩ := HB1.out.app (l := [bitI true, 0]) (by simp) (by simp) hFl
              have happ4 : (Builtin.append_ #[23, 23] 23 #[.slice aj F.length cj, .slice (some ⟨wb.heap.size, 0, none⟩) 2 2]).run Tryz.prog (wb.alloc (.cells #[.int .i64 (bitI true), .int .i64 0] 3)) = .ok (.slice a4 (F.length + 2) c4) w4 := happ
              obtain ⟨R, hR⟩ : ∃ R, R = F ++ [bitI true, 0] := ⟨_, rfl⟩
              have hRl : F.length + 2 = R.length := by rw [hR]; simp
              have hL4' : LkB w w4 hb Lo L4 (I.grant x) m (.slice (some ⟨gb, 0, none⟩) hs.length cv) hs (.slice a4 (F.length + 2) c4) (F ++ [bitI true, 0]) b ⟨true, I.fresh⟩ := hL4
              rw [← hR, hRl] at hL4'
              rw [hRl] at happ4
              have HL4 := Lib.hid hL4'
              have HR := Lib.hid hR
              have HRl : Hid (R.length ≤ 2000000 * i + 10 + 9010 * j + 2) := by have := HB0.out; show _ ≤ _; omega
              clear happ hL4 hL4' hFl HB1 hR hRl
              go_upto_region 13 with (first | (at_builtin; go_must (refine wpList_val rfl (exec_append rfl happ4) ?_)) | (go_at_call 39; refine (HBit.out _ _).mono ?_; rintro e w9 ⟨rfl, rfl⟩))
              clear happ4 c0 c1
              obtain ⟨c0, c1⟩ := HL4.out.cells
              go_wp2
              clear c0 c1
              go_loopw [4, 12] (fun o k wx => ∃ (q : Nat) (ao : Option Addr) (co : Nat), q ≤ hs.length ∧ k = .int .i64 q ∧ o = .slice ao (R ++ (hs.take q).map fun n => bitI (decide (I.hs.lookup n = some x))).length co ∧ Hid ((∃ L, LkB w wx hb Lo L (I.grant x) m (.slice (some ⟨gb, 0, none⟩) hs.length cv) hs o (R ++ (hs.take q).map fun n => bitI (decide (I.hs.lookup n = some x))) b ⟨true, I.fresh⟩) ∧ (R ++ (hs.take q).map fun n => bitI (decide (I.hs.lookup n = some x))).length ≤ 2000000 * i + 10 + 9010 * j + 2 + q)) (fun _ k _ => hs.length - (intOf k).toNat)
              case atStart => exact ⟨0, a4, c4, by omega, rfl, by simp, by simpa using Lib.hid ⟨⟨L4, HL4.out⟩, HRl.out⟩⟩
              case round =>
                obtain ⟨q, aq, cq, hq, rfl, rfl, HB⟩ := hrel
                clear HL4 HRl
                by_cases hlt4 : q < hs.length
                · have hlt4' : (q : Int) < (hs.length : Int) := by omega
                  have hwq : IntKind.i64.wrap ((q : Int) + 1) = (q : Int) + 1 := IntWalk.i64_in _ (by have := HLen.out; omega)
                  have HQL : Hid (q < hs.length) := hlt4
                  have HNx3 := Lib.hid (map_next (f := fun n => bitI (decide (I.hs.lookup n = some x))) hlt4)
                  obtain ⟨T, hT⟩ : ∃ T, T = R ++ (hs.take q).map fun n => bitI (decide (I.hs.lookup n = some x)) := ⟨_, rfl⟩
                  have HT := Lib.hid hT
                  rw [← hT] at HB ⊢
                  obtain ⟨⟨L1, hL1⟩, hB1⟩ := HB.out
                  obtain ⟨name3, hn3⟩ : ∃ name, I.hs.lookup (hs.getD q 0) = some name := by
                    have := IS.hands_get (I := I) (i := q) (by rw [← HHs.out]; exact hlt4)
                    rw [← HHs.out] at this
                    exact this
                  obtain ⟨n3, hn4⟩ : ∃ n3, n3 = hs.getD q 0 := ⟨_, rfl⟩
                  rw [← hn4] at hn3 HNx3
                  have HN3 := Lib.hid hn4.symm
                  have HNm := Lib.hid hn3
                  have HL1 := Lib.hid hL1
                  have HB1 := Lib.hid hB1
                  obtain ⟨q0, q1⟩ := hL1.two hlt4 hn4.symm
                  clear hn3 hn4 hB1 hL1 HB hT
                  obtain ⟨y, hy⟩ : ∃ y, y = decide (I.hs.lookup n3 = some x) := ⟨_, rfl⟩
                  have HY := Lib.hid hy
                  clear hy hlt4
                  go_upto_region 18 with fail
                  go_cut [13] from 83 to 93 (fun s13 wx => s13 = .bool y ∧ Hid (LkB w wx hb Lo L1 (I.grant x) m (.slice (some ⟨gb, 0, none⟩) hs.length cv) hs (.slice aq T.length cq) T b ⟨true, I.fresh⟩))
                  case first =>
                    go_region_held3 (fun wx => wx.cell? ⟨b, 1, none⟩ = some (.int .i64 I.fresh) ∧ wx.cell? ⟨gb, q, none⟩ = some (.int .i64 n3))
                      (first | exact ⟨q0, q1⟩ | exact (HL1.out.still ((Chg.refl _ _).drewN _)).two HQL.out HN3.out)
                      (first
                        | (go_at_call 43; refine ((HL1.out.still ((Chg.refl _ _).drewN _)).same HQL.out HN3.out HNm.out).mono ?_; rintro e wn ⟨rfl, ⟨q0, q1⟩, HL2⟩)
                        | (go_at_call 43; refine (HL1.out.same HQL.out HN3.out HNm.out).mono ?_; rintro e wn ⟨rfl, ⟨q0, q1⟩, HL2⟩))
                    all_goals (go_wp2; go_meet; exact ⟨by rw [HY.out], HL2⟩)
                  case rest =>
                    obtain ⟨rfl, HL2⟩ := hcut
                    clear HL1 q0 q1
                    have hTl : T.length ≤ 100000000000 := by have := HB1.out; have := HIL.out; have := HLen.out; have := HQL.out; have := HJ.out; omega
                    obtain ⟨a5, c5, w5, happ, L5, hL5⟩ := HL2.out.app (l := [bitI y]) (by simp) (by simp) hTl
                    have happ5 : (Builtin.append_ #[23, 23] 23 #[.slice aq T.length cq, .slice (some ⟨wc.heap.size, 0, none⟩) 1 1]).run Tryz.prog (wc.alloc (.cells #[.int .i64 (bitI y)] 3)) = .ok (.slice a5 (T.length + 1) c5) w5 := happ
                    have hL5' : LkB w w5 hb Lo L5 (I.grant x) m (.slice (some ⟨gb, 0, none⟩) hs.length cv) hs (.slice a5 (T.length + 1) c5) (T ++ [bitI y]) b ⟨true, I.fresh⟩ := hL5
                    have e : T ++ [bitI y] = R ++ (hs.take (q + 1)).map fun n => bitI (decide (I.hs.lookup n = some x)) := by
                      rw [HNx3.out, HT.out, HY.out]; simp
                    obtain ⟨Z, hZ⟩ : ∃ Z, Z = R ++ (hs.take (q + 1)).map fun n => bitI (decide (I.hs.lookup n = some x)) := ⟨_, rfl⟩
                    have HZ := Lib.hid hZ
                    have el : T.length + 1 = Z.length := by rw [hZ, ← e]; simp
                    rw [e, ← hZ, el] at hL5'
                    rw [el] at happ5
                    have HL5 := Lib.hid hL5'
                    have HEl : Hid (T.length + 1 = Z.length) := el
                    clear happ hL5 hL5' e hZ el HL2 hTl
                    go_wp2_with (first | (at_builtin; go_must (refine wpList_val rfl (exec_append rfl happ5) ?_)) | (go_at_call 39; refine (HBit.out _ _).mono ?_; rintro e w9 ⟨rfl, rfl⟩))
                    clear happ5
                    go_roundw
                    case rel => exact ⟨q + 1, a5, c5, by have := HQL.out; omega, by go_num, by rw [HZ.out], Lib.hid (by rw [← HZ.out]; exact ⟨⟨L5, HL5.out⟩, by rw [← HEl.out]; have := HB1.out; omega⟩)⟩
                    case measure => have := HQL.out; simp [intOf]; omega
                · obtain rfl : q = hs.length := by omega
                  obtain ⟨⟨L1, hL1⟩, hB1⟩ := HB.out
                  rw [List.take_length] at hL1 hB1 ⊢
                  have e : R ++ hs.map (fun n => bitI (decide (I.hs.lookup n = some x))) = Q ++ (fs.take (j + 1)).flatMap I.lookF := by
                    rw [HNx2.out, HR.out, HF.out]; simp [IS.lookF, bitI, HHs.out]
                  rw [e] at hL1 hB1 ⊢
                  obtain ⟨Z, hZ⟩ : ∃ Z, Z = Q ++ (fs.take (j + 1)).flatMap I.lookF := ⟨_, rfl⟩
                  have HZ := Lib.hid hZ
                  rw [← hZ] at hL1 hB1 ⊢
                  have HDr := Lib.hid hL1.lk.hp.drop0
                  obtain ⟨c0, c1⟩ := hL1.cells
                  have HL1 := Lib.hid hL1.lk
                  have HB1 := Lib.hid hB1
                  clear hL1 hB1 HB e c0 hZ
                  go_wp2_with (go_at_call 30; refine HDr.out.mono ?_; rintro e wn ⟨rfl, hG⟩)
                  have HL2 := Lib.hid (HL1.out.got hG.out)
                  clear HDr c1 hG HL1
                  go_roundw
                  case rel => exact ⟨j + 1, aq, cq, by have := HJ.out; omega, by have := HJ.out; omega, by go_num, by rw [HZ.out], Lib.hid (by rw [← HZ.out]; exact ⟨⟨L1, HL2.out⟩, by have := HB1.out; have := HLen.out; omega⟩)⟩
                  case measure => have := HJ.out; simp [intOf]; omega
          · have hlt2' : (j : Int) < (fs.length : Int) := by omega
            have hlt3' : ¬ ((j : Int) < 200) := by omega
            have htk : fs.take j = fs.take 200 := by
              rw [List.take_eq_take_iff]
              omega
            have e : Q ++ (fs.take j).flatMap I.lookF = (hs.take (i + 1)).flatMap I.lookN := by
              rw [HNx.out, HLN.out, HQ.out, htk]; simp
            rw [e] at HB ⊢
            go_wp2
            go_roundw
            case rel => exact ⟨i + 1, aj, cj, by have := HIL.out; omega, by go_num, rfl, Lib.hid ⟨HB.out.1, by have := HB.out.2; omega⟩⟩
            case measure => have := HIL.out; simp [intOf]; omega
        · have hlt2' : ¬ ((j : Int) < (fs.length : Int)) := by omega
          have htk : fs.take j = fs.take 200 := by
            rw [List.take_eq_take_iff]
            omega
          have e : Q ++ (fs.take j).flatMap I.lookF = (hs.take (i + 1)).flatMap I.lookN := by
            rw [HNx.out, HLN.out, HQ.out, htk]; simp
          rw [e] at HB ⊢
          go_wp2
          go_roundw
          case rel => exact ⟨i + 1, aj, cj, by have := HIL.out; omega, by go_num, rfl, Lib.hid ⟨HB.out.1, by have := HB.out.2; omega⟩⟩
          case measure => have := HIL.out; simp [intOf]; omega
    · obtain rfl : i = hs.length := by omega
      obtain ⟨⟨L, hL⟩, hB⟩ := HB.out
      rw [List.take_length] at hL ⊢
      have e : hs.flatMap I.lookN = I.looks := by unfold IS.looks; rw [HHs.out]
      have hQ : LookQ w hb Lo I m (.slice ao (hs.flatMap I.lookN).length co) wr := ⟨by rw [← e]; exact hL.orow, ⟨L, hL.hp, hL.oin, hL.low⟩, hL.chg⟩
      have HZ := Lib.hid (HK.out _ _ ⟨_, rfl, hQ⟩)
      clear hQ e
      clear hL HB HK
      go_wp2
      go_ret
      exact HZ.out

end Go.Proofs.YtelghmmcbgfjnaaGreat

/-! The law that nothing is lost, walked. -/
namespace Go.Proofs.YtelghmmcbgfjnaaGreat
open Go.RowKit

/-- Rows of what was shown beside a heap that still shows it. -/
def Kp (w0 w : World) (hb k : Nat) (vs : List Value) (Z : List Int) : Prop := ∃ L I m, m ≤ k ∧ HB w0 w hb L I m ∧ SmT I 60 3700 ∧ I.looks = Z ∧ (∀ v ∈ vs, Row w 3 1 v Z.length (intCells Z) ∧ ∀ b, rowBlk v = some b → b ∈ L)
theorem Kp.chg {w0 w : World} {hb k : Nat} {vs : List Value} {Z : List Int} (h : Kp w0 w hb k vs Z) : Chg (fun _ => False) w0 w := by obtain ⟨L, I, m, _, h, _⟩ := h; exact h.chg
theorem Kp.start {w0 w : World} {hb j : Nat} (h : AgJ w0 w hb j) (hj : j ≤ 60) : ∃ Z, Kp w0 w hb 100 [] Z := by
  obtain ⟨I, m, hm, h, hS⟩ := h
  have hjj : j * j ≤ 60 * 60 := Nat.mul_le_mul hj hj
  exact ⟨I.looks, [], I, m, by omega, h, hS.more hj (by omega), rfl, fun v hv => by cases hv⟩
theorem Kp.got {w0 w w' : World} {hb : Nat} {L : List Nat} {I J : IS} {m m' : Nat} {vs : List Value} {Z : List Int} (h : HB w0 w hb L I m) (hS : SmT J 60 3700) (hZ : J.looks = Z) (hv : ∀ v ∈ vs, Row w 3 1 v Z.length (intCells Z) ∧ ∀ b, rowBlk v = some b → b ∈ L) (hG : Got w hb (List.range w0.heap.size ++ L) J m' w') {k : Nat} (hk : m' ≤ k) : Kp w0 w' hb k vs Z :=
  ⟨L, J, m', hk, h.got hG, hS, hZ, fun v hm => ⟨(hv v hm).1.same fun b hb => hG.chg.block b ((hv v hm).1.lt hb) fun hn => hn (List.mem_append_right _ ((hv v hm).2 b hb)), (hv v hm).2⟩⟩
theorem Kp.minor {w0 w : World} {hb k : Nat} {vs : List Value} {Z : List Int} (h : Kp w0 w hb k vs Z) (hk : k < 8000) :
    Calls Tryz.prog 11 #[.pointer (some ⟨hb, 0, none⟩)] w fun e w' => e = .returned (.tuple #[]) ∧ Hid (Kp w0 w' hb (k + 1) vs Z) := by
  obtain ⟨L, I, m, hm, h, hS, hZ, hv⟩ := h
  refine (h.hp.minor (by omega)).mono ?_
  rintro e w' ⟨rfl, hG⟩
  exact ⟨rfl, Lib.hid (Kp.got h hS hZ hv hG.out (by omega))⟩
theorem Kp.major {w0 w : World} {hb k : Nat} {vs : List Value} {Z : List Int} (h : Kp w0 w hb k vs Z) :
    Calls Tryz.prog 12 #[.pointer (some ⟨hb, 0, none⟩)] w fun e w' => e = .returned (.tuple #[]) ∧ Hid (Kp w0 w' hb (k + 1) vs Z) := by
  obtain ⟨L, I, m, hm, h, hS, hZ, hv⟩ := h
  refine h.hp.major.mono ?_
  rintro e w' ⟨rfl, hG⟩
  exact ⟨rfl, Lib.hid (Kp.got h hS.major (by rw [I.looks_majored]; exact hZ) hv hG.out (by omega))⟩
theorem Kp.look {w0 w : World} {hb k : Nat} {vs : List Value} {Z : List Int} (h : Kp w0 w hb k vs Z) (hk : k < 8000) :
    Calls Tryz.prog 18 #[.pointer (some ⟨hb, 0, none⟩)] w fun e w' => ∃ v, e = .returned v ∧ Hid (Kp w0 w' hb k (v :: vs) Z) := by
  obtain ⟨L, I, m, hm, h, hS, hZ, hv⟩ := h
  refine (looks_any h.hp (hS.ample (by omega) (by omega) (by omega))).mono ?_
  rintro e w' ⟨v, rfl, hQ⟩
  obtain ⟨L', h1, h2, h3⟩ := hQ.rest
  have hblk : ∀ b, b ∈ L → b < w.heap.size → w'.heap[b]? = w.heap[b]? := fun b hb hlt => hQ.chg.block b hlt fun hn => hn (List.mem_append_right _ hb)
  refine ⟨v, rfl, Lib.hid ⟨L ++ L', I, m, hm, ⟨by rw [← List.append_assoc]; exact h1, h.chg.trans hQ.chg fun b hb hn => hn (List.mem_append_left _ (List.mem_range.2 hb))⟩, hS, hZ, fun u hu => ?_⟩⟩
  rcases List.mem_cons.1 hu with rfl | hu
  · exact ⟨by rw [← hZ]; exact hQ.row, fun b hb => List.mem_append_right _ (h2 b hb)⟩
  · exact ⟨(hv u hu).1.same fun b hb => hblk b ((hv u hu).2 b hb) ((hv u hu).1.lt hb), fun b hb => List.mem_append_left _ ((hv u hu).2 b hb)⟩
theorem Kp.same {w0 w : World} {hb k : Nat} {vs : List Value} {Z : List Int} (h : Kp w0 w hb k vs Z) {u v : Value} (hu : u ∈ vs) (hv : v ∈ vs) :
    Calls Tryz.prog 14 #[u, v] w fun e w' => e = .returned (.bool true) ∧ Hid (Kp w0 w' hb k vs Z) := by
  obtain ⟨L, I, m, hm, h, hS, hZ, hr⟩ := h
  refine (sameInts_eq w (hr u hu).1 (hr v hv).1).mono ?_
  rintro e w' ⟨rfl, hC⟩
  exact ⟨rfl, Lib.hid (Kp.got h hS hZ hr (h.hp.got hC) hm)⟩

set_option maxRecDepth 100000 in
set_option maxHeartbeats 2000000 in
theorem heapKept_any (w : World) (young old : Int) (a2 : Option Addr) (n2 c2 : Nat) (o : Nat → OpV) (h2 : OpsAt w a2 n2 o) :
    Calls Tryz.prog 5 #[.int .i64 young, .int .i64 old, .slice a2 n2 c2] w fun e w' => e = .returned (.bool true) ∧ Chg (fun _ => False) w w' := by
  refine ret_k fun K hK => ?_
  have HK := Lib.hid hK
  clear hK
  have H2 := Lib.hid h2
  clear h2
  have HSane := Lib.hid (sane_any w)
  by_cases hold : 4 ≤ young ∧ young ≤ 60000 ∧ 4 ≤ old ∧ old ≤ 60000
  · have HNew := Lib.hid fun w => HB.new w young old hold
    clear hold
    go_enter Tryz.func5, Tryz.ntmps5
    go_wp2_with fail
    refine HSane.out.mono ?_; rintro e w1 ⟨rfl, hC1⟩
    have HC1 := Lib.hid hC1
    have HO1 := Lib.hid (H2.out.chg0 hC1)
    clear HSane hC1 H2
    go_wp2_with fail
    refine (HNew.out _).mono ?_; rintro e w3 ⟨a, rfl, hG3⟩
    have HS3 : Hid (AgJ w1 w3 a 0) := AgJ.start hG3.out
    clear HNew hG3
    go_wp2
    go_loopw [10] (fun i wr => ∃ j : Nat, j ≤ 60 ∧ i = .int .i64 j ∧ Hid (AgJ w1 wr a j)) (fun i _ => 60 - (intOf i).toNat)
    case atStart => exact ⟨0, by omega, rfl, HS3⟩
    case round =>
      obtain ⟨j, hj, rfl, HI⟩ := hrel
      clear HS3
      obtain ⟨f, hf⟩ : ∃ f : Bool, f = decide (j < n2 ∧ j < 60) := ⟨_, rfl⟩
      have HF := Lib.hid hf
      clear hf
      go_upto_region 6 with fail
      go_cut [39] from 32 to 38 (fun s39 wx => s39 = .bool f ∧ Hid (AgJ w1 wx a j))
      case first =>
        by_cases g1 : j < n2
        · have g1' : (j : Int) < (n2 : Int) := by omega
          by_cases g3 : j < 60
          · have g3' : (j : Int) < 60 := by omega
            go_wp2
            go_meet
            exact ⟨by rw [HF.out] <;> (try simp) <;> (try omega), HI⟩
          · have g3' : ¬ (j : Int) < 60 := by omega
            go_wp2
            go_meet
            exact ⟨by rw [HF.out] <;> (try simp) <;> (try omega), HI⟩
        · have g1' : ¬ (j : Int) < (n2 : Int) := by omega
          go_wp2
          go_meet
          exact ⟨by rw [HF.out] <;> (try simp) <;> (try omega), HI⟩
      case rest =>
        obtain ⟨rfl, HI2⟩ := hcut
        clear HI
        cases f
        · obtain ⟨Z, hZ⟩ := Kp.start HI2.out hj
          have HZ0 := Lib.hid hZ
          clear HF HO1 HI2 hZ
          have HL := Lib.hid (HZ0.out.look (by omega))
          clear HZ0
          go_wp2_with fail
          refine HL.out.mono ?_; rintro e wa ⟨va, rfl, HK1⟩
          have HM := Lib.hid (HK1.out.minor (by omega))
          clear HL HK1
          go_wp2_with fail
          refine HM.out.mono ?_; rintro e wb ⟨rfl, HK2⟩
          have HL := Lib.hid (HK2.out.look (by omega))
          clear HM HK2
          go_wp2_with fail
          refine HL.out.mono ?_; rintro e wc ⟨vb, rfl, HK3⟩
          have HM := Lib.hid HK3.out.major
          clear HL HK3
          go_wp2_with fail
          refine HM.out.mono ?_; rintro e wd ⟨rfl, HK4⟩
          have HL := Lib.hid (HK4.out.look (by omega))
          clear HM HK4
          go_wp2_with fail
          refine HL.out.mono ?_; rintro e we ⟨vc, rfl, HK5⟩
          have HM := Lib.hid (HK5.out.same (u := va) (v := vb) (by simp) (by simp))
          clear HL HK5
          go_wp2_with fail
          refine HM.out.mono ?_; rintro e wf ⟨rfl, HK6⟩
          have HL := Lib.hid (HK6.out.same (u := va) (v := vc) (by simp) (by simp))
          clear HM HK6
          go_wp2_with fail
          refine HL.out.mono ?_; rintro e wg ⟨rfl, HK7⟩
          have HZ := Lib.hid (HK.out _ _ ⟨rfl, HC1.out.trans HK7.out.chg fun _ _ h => h⟩)
          clear HL HK7 HK
          go_wp2
          go_ret
          exact HZ.out
        · have hlt : j < n2 ∧ j < 60 := of_decide_eq_true HF.out.symm
          obtain ⟨x, e1, ho⟩ := HO1.out j hlt.1
          subst e1
          have hg : (j : Int) < (n2 : Int) := by omega
          have HJ : Hid (j < 60) := hlt.2
          obtain ⟨op, hop⟩ : ∃ op, op = o j := ⟨_, rfl⟩
          rw [← hop] at ho
          have HOp := Lib.hid ho
          obtain ⟨q0, q1, q2, q3⟩ := (ho.chg0 HI2.out.chg).op4
          have HT := Lib.hid (HI2.out.tell (by omega) ho)
          have hwj : IntKind.i64.wrap ((j : Int) + 1) = (j : Int) + 1 := IntWalk.i64_in _ (by omega)
          clear ho hop HF hlt HO1
          go_wp2_with (go_at_call 15; refine HT.out.mono ?_; rintro e wh ⟨v, rfl, HG⟩)
          clear q0 q1 q2 q3 HT HI2
          go_wp2
          go_roundw
          case rel => exact ⟨j + 1, by have := HJ.out; omega, by go_num, HG⟩
          case measure => have := HJ.out; simp [intOf]; omega
  · have HNo := Lib.hid fun w => new_no w young old (by omega)
    go_enter Tryz.func5, Tryz.ntmps5
    go_wp2_with fail
    refine HSane.out.mono ?_; rintro e w1 ⟨rfl, hC1⟩
    have HC1 := Lib.hid hC1
    clear HSane hC1 H2
    go_wp2_with fail
    refine (HNo.out _).mono ?_; rintro e w3 ⟨rfl, hC3⟩
    have HZ : Hid (Post K (.returned (.bool true)) w3) := HK.out _ _ ⟨rfl, HC1.out.trans hC3 fun _ _ h => h⟩
    clear HNo hC3
    go_wp2
    go_ret
    exact HZ.out

end Go.Proofs.YtelghmmcbgfjnaaGreat
