/-
  The methods, told of the ideal heap. (A part of the proof, joined of: Yg, Yh, Yi.)
-/
import Derived.Test.YtelghmmcbgfjnaaH16
/-! The methods, told of the ideal heap. -/
namespace Go.Proofs.Ytelghmmcbgfjnaa
open Go.RowKit

/-- In a world lies the ideal heap I, its handle at block hb; the blocks of L are none of its own; m operations have been made. -/
def HP (w : World) (hb : Nat) (L : List Nat) (I : IS) (m : Nat) : Prop := ∃ g A, Rep w g A ∧ HS A I m ∧ g.hb = hb ∧ ∀ b ∈ L, b < w.heap.size ∧ g.own b = none

structure Got (w : World) (hb : Nat) (L : List Nat) (I : IS) (m : Nat) (w' : World) : Prop where
  hp : HP w' hb L I m
  chg : Chg (fun b => b ∉ L) w w'

theorem HP.frame {w w' : World} {hb : Nat} {L : List Nat} {I : IS} {m : Nat} (h : HP w hb L I m) (hC : Chg (fun b => b ∈ L) w w') : HP w' hb L I m := by
  obtain ⟨g, A, h1, h2, h3, h4⟩ := h
  exact ⟨g, A, h1.frame hC fun b hb => (h4 b hb).2, h2, h3, fun b hb => ⟨Nat.lt_of_lt_of_le (h4 b hb).1 hC.size, (h4 b hb).2⟩⟩
theorem HP.still {w w' : World} {hb : Nat} {L : List Nat} {I : IS} {m : Nat} (h : HP w hb L I m) (hC : Chg (fun _ => False) w w') : HP w' hb L I m := h.frame (hC.mono fun _ _ h => h.elim)
theorem HP.alloc {w : World} {hb : Nat} {L : List Nat} {I : IS} {m : Nat} (h : HP w hb L I m) (X : Obj) : HP (w.alloc X) hb (w.heap.size :: L) I m := by
  obtain ⟨g, A, h1, h2, h3, h4⟩ := h
  refine ⟨g, A, h1.alloc X, h2, h3, fun b hb => ?_⟩
  have hs : (w.alloc X).heap.size = w.heap.size + 1 := by simp
  rcases List.mem_cons.1 hb with rfl | hb
  · refine ⟨by omega, ?_⟩
    cases ho : g.own w.heap.size with
    | none => rfl
    | some r => have := h1.lt w.heap.size (by rw [ho]; rfl); omega
  · have := h4 b hb; exact ⟨by omega, this.2⟩
theorem HP.sub {w : World} {hb : Nat} {L L' : List Nat} {I : IS} {m : Nat} (h : HP w hb L I m) (hs : ∀ b ∈ L', b ∈ L) : HP w hb L' I m := by
  obtain ⟨g, A, h1, h2, h3, h4⟩ := h
  exact ⟨g, A, h1, h2, h3, fun b hb => h4 b (hs b hb)⟩
theorem HP.more {w : World} {hb : Nat} {L : List Nat} {I : IS} {m m' : Nat} (h : HP w hb L I m) (hm : m ≤ m') : HP w hb L I m' := by
  obtain ⟨g, A, h1, h2, h3⟩ := h
  exact ⟨g, A, h1, h2.more hm, h3⟩
theorem HP.drewN {w : World} {hb : Nat} {L : List Nat} {I : IS} {m : Nat} (h : HP w hb L I m) (n : Nat) : HP (w.drewN n) hb L I m := h.still ((Chg.refl _ _).drewN n)

theorem Got.of {w w' : World} {g g' : Gh} {A A' : St} {L : List Nat} {I : IS} {m : Nat} (h4 : ∀ b ∈ L, b < w.heap.size ∧ g.own b = none) (hR : Rep w' g' A') (hS : Step w g A w' g') (hH : HS A' I m) : Got w g.hb L I m w' := by
  refine ⟨⟨g', A', hR, hH, hS.hb, fun b hb => ⟨Nat.lt_of_lt_of_le (h4 b hb).1 hS.chg.size, ?_⟩⟩, hS.chg.mono fun b _ ho hL => by rw [(h4 b hL).2] at ho; cases ho⟩
  cases ho : g'.own b with
  | none => rfl
  | some r =>
    have := hS.own b (h4 b hb).1 (by rw [ho]; rfl)
    rw [(h4 b hb).2, ho] at this
    cases this
theorem HP.same {w : World} {hb : Nat} {L : List Nat} {I : IS} {m : Nat} (h : HP w hb L I m) : Got w hb L I m w := ⟨h, Chg.refl _ _⟩
theorem HP.got {w w' : World} {hb : Nat} {L : List Nat} {I : IS} {m : Nat} (h : HP w hb L I m) (hC : Chg (fun _ => False) w w') : Got w hb L I m w' := ⟨h.still hC, hC.mono fun _ _ h => h.elim⟩

/-- Room for one more: nodes, handles and what waits. -/
structure Ample (I : IS) (m : Nat) : Prop where
  ops : m < 9000
  nodes : I.nodes.length + 1 ≤ 9000
  hs : I.queue.length + I.hs.length + I.reg.length + 1 ≤ 9000
  few : ∀ n d, I.nd n = some d → d.ents.length < 200

def IS.start (room : Int) : IS := ⟨[], [], [], [], room⟩
theorem start_kept {room n : Int} (h : (IS.start room).kept n) : False := by
  induction h with
  | root h => simp [IS.start, IS.roots] at h
  | field _ _ _ _ ih => exact ih
  | entry _ _ _ _ _ _ ih => exact ih

theorem start_HS (young old : Int) (h : 4 ≤ young ∧ young ≤ 60000 ∧ 4 ≤ old ∧ old ≤ 60000) : HS (St.fresh young old) (IS.start old) 0 := by
  have hnd : ∀ n d, (IS.start old).nd n = some d → False := fun n d hd => by
    unfold IS.nd IS.start at hd
    split at hd
    · simp at hd
    · cases hd
  exact ⟨fresh_good young old, ⟨rfl, rfl, rfl, rfl, rfl, fun n o ho => (by cases ho), fun n hn => (start_kept hn).elim⟩, by simp [St.fresh], h.2.2.2, h.2.1, fun n d hd => (hnd n d hd).elim, fun n d hd => (hnd n d hd).elim⟩

theorem HP.new (w : World) (young old : Int) (h : 4 ≤ young ∧ young ≤ 60000 ∧ 4 ≤ old ∧ old ≤ 60000) {L : List Nat} (hL : ∀ b ∈ L, b < w.heap.size) :
    Calls Try.prog 9 #[.int .i64 young, .int .i64 old] w fun e w' => ∃ hb, e = .returned (.tuple #[.pointer (some ⟨hb, 0, none⟩), .int .i64 0]) ∧ Hid (Got w hb L (IS.start old) 0 w') := by
  refine (new_any w young old h).mono ?_
  rintro e w' ⟨rfl, rfl⟩
  refine ⟨_, rfl, Lib.hid ⟨⟨newG w.heap.size, _, newRep w young old, start_HS young old h, rfl, fun b hb => ⟨by rw [newW_size]; have := hL b hb; omega, ?_⟩⟩, (newW_chg w young old).mono fun _ _ h => h.elim⟩⟩
  have := hL b hb
  unfold newG
  simp only []
  rw [if_neg (by omega), if_neg (by omega), if_neg (by omega), if_neg (by omega), if_neg (by omega)]

theorem HS.facts {A : St} {I : IS} {m : Nat} (h : HS A I m) (ha : Ample I m) : A.memT.length + 1001 * 9000 ≤ 100000000000 ∧ A.handles.length < 9000 ∧ (A.names ≤ 1000000 ∧ 0 ≤ A.names) := by
  have h1 := h.memT
  have h2 := h.sim.names
  have h3 := h.sim.hs
  have h4 := ha.ops
  have h5 := ha.nodes
  have h6 := ha.hs
  rw [h3]
  refine ⟨?_, by omega, by omega, by omega⟩
  generalize A.memT.length = x at *
  clear h h2 h3 h5 h6 ha
  omega

theorem HP.make {w : World} {hb : Nat} {L : List Nat} {I : IS} {m : Nat} (h : HP w hb L I m) (ha : Ample I m) (tag : Int) {fa : Option Addr} {n fc : Nat} {cs : List Wd} (hcs : CellsAt w fa n cs) (hn : n ≤ 1000000000) :
    Calls Try.prog 10 #[.pointer (some ⟨hb, 0, none⟩), .int .i64 tag, .slice fa n fc] w fun e w' => e = .returned (.tuple #[.int .i64 (I.make tag cs).1, .int .i64 (I.make tag cs).2.1]) ∧ Hid (Got w hb L (I.make tag cs).2.2 (m + 1) w') := by
  obtain ⟨g, A, h1, h2, rfl, h4⟩ := h
  obtain ⟨k1, k2, k3⟩ := h2.facts ha
  refine (make_any h1 h2.good k1 k2 k3 h2.full tag hcs hn).mono ?_
  rintro e w' ⟨r, er, rfl, A', g', hS, hR', hStep⟩
  obtain ⟨rfl, rfl, h5⟩ := h2.make ha.ops ha.nodes ha.hs hS
  exact ⟨rfl, Lib.hid (.of h4 hR' hStep h5)⟩

theorem HP.table {w : World} {hb : Nat} {L : List Nat} {I : IS} {m : Nat} (h : HP w hb L I m) (ha : Ample I m) :
    Calls Try.prog 12 #[.pointer (some ⟨hb, 0, none⟩)] w fun e w' => e = .returned (.tuple #[.int .i64 I.table.1, .int .i64 I.table.2.1]) ∧ Hid (Got w hb L I.table.2.2 (m + 1) w') := by
  obtain ⟨g, A, h1, h2, rfl, h4⟩ := h
  obtain ⟨k1, k2, k3⟩ := h2.facts ha
  refine (table_any h1 h2.good k1 k2 k3 h2.full).mono ?_
  rintro e w' ⟨r, er, rfl, A', g', hS, hR', hStep⟩
  obtain ⟨rfl, rfl, h5⟩ := h2.table ha.ops ha.nodes ha.hs hS
  exact ⟨rfl, Lib.hid (.of h4 hR' hStep h5)⟩

theorem HP.put {w : World} {hb : Nat} {L : List Nat} {I : IS} {m : Nat} (h : HP w hb L I m) (ha : Ample I m) (t key : Int) (c : Wd) :
    Calls Try.prog 14 #[.pointer (some ⟨hb, 0, none⟩), .int .i64 t, .int .i64 key, c.agg] w fun e w' => e = .returned (.int .i64 (I.put t key c).1) ∧ Hid (Got w hb L (I.put t key c).2 (m + 1) w') := by
  obtain ⟨g, A, h1, h2, rfl, h4⟩ := h
  refine (put_any h1 h2.good h2.full (fun name o ho => ?_) t key c).mono ?_
  · obtain ⟨d, g1, _, _, _, g5, _⟩ := h2.sim.obj _ _ ho
    have := ha.few _ _ g1
    have h6 : o.ents.length ≤ d.ents.length := by rw [g5]; exact List.length_filter_le _ _
    omega
  · rintro e w' ⟨er, rfl, A', g', hS, hR', hStep⟩
    obtain ⟨rfl, h5⟩ := h2.puts ha.few hS
    exact ⟨rfl, Lib.hid (.of h4 hR' hStep (h5.more (by omega)))⟩

theorem HP.find {w : World} {hb : Nat} {L : List Nat} {I : IS} {m : Nat} (h : HP w hb L I m) (ha : Ample I m) (t key : Int) :
    Calls Try.prog 20 #[.pointer (some ⟨hb, 0, none⟩), .int .i64 t, .int .i64 key] w fun e w' => e = .returned (.tuple #[(I.find t key).1.agg, .bool (I.find t key).2.1, .int .i64 (I.find t key).2.2.1]) ∧ Hid (Got w hb L (I.find t key).2.2.2 (m + 1) w') := by
  obtain ⟨g, A, h1, h2, rfl, h4⟩ := h
  refine (find_any h1 h2.good (h2.facts ha).2.1 t key).mono ?_
  rintro e w' ⟨c, b, er, rfl, A', g', hS, hR', hStep⟩
  obtain ⟨rfl, rfl, rfl, h5⟩ := h2.finds ha.hs hS
  exact ⟨rfl, Lib.hid (.of h4 hR' hStep (h5.more (by omega)))⟩

theorem HP.remove {w : World} {hb : Nat} {L : List Nat} {I : IS} {m : Nat} (h : HP w hb L I m) (t key : Int) :
    Calls Try.prog 19 #[.pointer (some ⟨hb, 0, none⟩), .int .i64 t, .int .i64 key] w fun e w' => e = .returned (.tuple #[.bool (I.remove t key).1, .int .i64 (I.remove t key).2.1]) ∧ Hid (Got w hb L (I.remove t key).2.2 (m + 1) w') := by
  obtain ⟨g, A, h1, h2, rfl, h4⟩ := h
  refine (remove_any h1 h2.good.wf t key).mono ?_
  rintro e w' ⟨b, er, rfl, A', g', hS, hR', hStep⟩
  obtain ⟨rfl, rfl, h5⟩ := h2.removes hS
  exact ⟨rfl, Lib.hid (.of h4 hR' hStep (h5.more (by omega)))⟩

theorem HP.drop {w : World} {hb : Nat} {L : List Nat} {I : IS} {m : Nat} (h : HP w hb L I m) (n : Int) :
    Calls Try.prog 11 #[.pointer (some ⟨hb, 0, none⟩), .int .i64 n] w fun e w' => e = .returned (.int .i64 (I.drop n).1) ∧ Hid (Got w hb L (I.drop n).2 (m + 1) w') := by
  obtain ⟨g, A, h1, h2, rfl, h4⟩ := h
  refine (drop_any h1 h2.good n).mono ?_
  rintro e w' ⟨er, rfl, A', g', hS, hR', hStep⟩
  obtain ⟨rfl, h5⟩ := h2.dropped hS
  exact ⟨rfl, Lib.hid (.of h4 hR' hStep (h5.more (by omega)))⟩

theorem HP.fin {w : World} {hb : Nat} {L : List Nat} {I : IS} {m : Nat} (h : HP w hb L I m) (ha : Ample I m) (n : Int) :
    Calls Try.prog 21 #[.pointer (some ⟨hb, 0, none⟩), .int .i64 n] w fun e w' => e = .returned (.tuple #[.bool (I.fin n).1, .int .i64 (I.fin n).2.1]) ∧ Hid (Got w hb L (I.fin n).2.2 (m + 1) w') := by
  obtain ⟨g, A, h1, h2, rfl, h4⟩ := h
  refine (fin_any h1 h2.good n).mono ?_
  rintro e w' ⟨b, er, rfl, A', g', hS, hR', hStep⟩
  obtain ⟨rfl, rfl, h5⟩ := h2.finalized hS ha.hs
  exact ⟨rfl, Lib.hid (.of h4 hR' hStep (h5.more (by omega)))⟩

theorem HP.next {w : World} {hb : Nat} {L : List Nat} {I : IS} {m : Nat} (h : HP w hb L I m) (ha : Ample I m) :
    Calls Try.prog 22 #[.pointer (some ⟨hb, 0, none⟩)] w fun e w' => e = .returned (.tuple #[.int .i64 I.next.1, .bool I.next.2.1, .int .i64 I.next.2.2.1]) ∧ Hid (Got w hb L I.next.2.2.2 (m + 1) w') := by
  obtain ⟨g, A, h1, h2, rfl, h4⟩ := h
  refine (next_any h1 h2.good (h2.facts ha).2.1).mono ?_
  rintro e w' ⟨q, b, er, rfl, A', g', hS, hR', hStep⟩
  obtain ⟨rfl, rfl, rfl, h5⟩ := h2.nexted hS
  exact ⟨rfl, Lib.hid (.of h4 hR' hStep (h5.more (by omega)))⟩

theorem HP.minor {w : World} {hb : Nat} {L : List Nat} {I : IS} {m : Nat} (h : HP w hb L I m) (hm : m < 9000) :
    Calls Try.prog 16 #[.pointer (some ⟨hb, 0, none⟩)] w fun e w' => e = .returned (.tuple #[]) ∧ Hid (Got w hb L I (m + 1) w') := by
  obtain ⟨g, A, h1, h2, rfl, h4⟩ := h
  refine (minorM_any h1 h2.good).mono ?_
  rintro e w' ⟨rfl, S, g', hS, hR', hStep⟩
  exact ⟨rfl, Lib.hid (.of h4 hR' hStep (h2.minorOr hm (.minor hS)).1)⟩

theorem HP.major {w : World} {hb : Nat} {L : List Nat} {I : IS} {m : Nat} (h : HP w hb L I m) :
    Calls Try.prog 17 #[.pointer (some ⟨hb, 0, none⟩)] w fun e w' => e = .returned (.tuple #[]) ∧ Hid (Got w hb L I.majored (m + 1) w') := by
  obtain ⟨g, A, h1, h2, rfl, h4⟩ := h
  refine (majorM_any h1 h2.good).mono ?_
  rintro e w' ⟨rfl, g', hR', hStep⟩
  exact ⟨rfl, Lib.hid (.of h4 hR' hStep (h2.major.more (by omega)))⟩

/-- Used lies between the words kept and the words here. -/
theorem HP.used {w : World} {hb : Nat} {L : List Nat} {I : IS} {m : Nat} (h : HP w hb L I m) :
    Calls Try.prog 25 #[.pointer (some ⟨hb, 0, none⟩)] w fun e w' => ∃ u : Nat, e = .returned (.int .i64 u) ∧ (I.words I.live ≤ u ∧ u ≤ I.words I.here) ∧ Hid (Got w hb L I m w') := by
  obtain ⟨g, A, h1, h2, rfl, h4⟩ := h
  have hu := h2.sim.used_le h2.good.wf.fit.nodup
  refine (usedM_any h1 h2.good.wf).mono ?_
  rintro e w' ⟨rfl, hR', hStep⟩
  exact ⟨A.used, rfl, hu, Lib.hid (.of h4 hR' hStep h2)⟩

theorem HP.used_eq {w : World} {hb : Nat} {L : List Nat} {I : IS} {m : Nat} (h : HP w hb L I m) {u : Nat} (h1 : I.words I.live = u) (h2 : I.words I.here = u) :
    Calls Try.prog 25 #[.pointer (some ⟨hb, 0, none⟩)] w fun e w' => e = .returned (.int .i64 u) ∧ Hid (Got w hb L I m w') := by
  refine h.used.mono ?_
  rintro e w' ⟨v, rfl, ⟨h3, h4⟩, h5⟩
  have : v = u := by omega
  subst this
  exact ⟨rfl, h5⟩

/-- Count: between the entries whose keys are kept and those whose keys are here. -/
theorem HP.count {w : World} {hb : Nat} {L : List Nat} {I : IS} {m : Nat} (h : HP w hb L I m) {t name : Int} {d : Nd} (ht : I.hs.lookup t = some name) (hd : I.nd name = some d) (hk : d.table = true) :
    Calls Try.prog 18 #[.pointer (some ⟨hb, 0, none⟩), .int .i64 t] w fun e w' => ∃ u : Nat, e = .returned (.tuple #[.int .i64 u, .int .i64 0]) ∧ ((d.ents.filter fun x => I.live x.key).length ≤ u ∧ u ≤ (d.ents.filter fun x => I.here x.key).length) ∧ Hid (Got w hb L I m w') := by
  obtain ⟨g, A, h1, h2, rfl, h4⟩ := h
  refine (count_any h1 h2.good.wf t).mono ?_
  rintro e w' ⟨c, er, rfl, hS, rfl⟩
  obtain ⟨o, d', g0, g1, g2, g3, g4, g5, g6⟩ := h2.ent ht
  rw [hd] at g1
  simp only [Option.some.injEq] at g1
  subst g1
  rw [hk] at g2
  rw [← h2.sim.hs] at ht
  have hG : Got w g.hb L I m w := HP.same ⟨g, A, h1, h2, rfl, h4⟩
  have hle : (d.ents.filter fun x => I.live x.key).length ≤ o.ents.length ∧ o.ents.length ≤ (d.ents.filter fun x => I.here x.key).length := by
    rw [g5]
    exact ⟨filter_length_le fun x _ hx => h2.sim.keep _ (IS.live_iff.1 hx), filter_length_le fun x _ hx => h2.sim.present_here hx⟩
  cases hS with
  | none hl => rw [ht] at hl; cases hl
  | kind hl ho hf =>
    rw [ht] at hl; simp only [Option.some.injEq] at hl; subst hl
    rw [g0] at ho; simp only [Option.some.injEq] at ho; subst ho
    rw [g2] at hf; cases hf
  | ok hl ho hf =>
    rw [ht] at hl; simp only [Option.some.injEq] at hl; subst hl
    rw [g0] at ho; simp only [Option.some.injEq] at ho; subst ho
    exact ⟨o.ents.length, rfl, hle, Lib.hid hG⟩

/-- Get of a field that is a number. -/
theorem HS.field {A : St} {I : IS} {m : Nat} (h : HS A I m) {o : Ob} {d : Nd} {name : Int} (g0 : A.objs.lookup name = some o) (g4 : A.area o = ⟨false, d.tag⟩ :: d.flds) : A.fields o = d.flds ∧ o.at_ + 1 + o.size ≤ (A.mem o.old).length ∧ (A.mem o.old).length ≤ 1000000000000 := by
  refine ⟨by rw [fields_area, g4]; rfl, h.good.wf.fit.inn _ _ g0, ?_⟩
  cases o.old
  · have := h.good.wf.memN; show A.memN.length ≤ _; omega
  · have := h.good.wf.memT; show A.memT.length ≤ _; omega

theorem HP.get_num {w : World} {hb : Nat} {L : List Nat} {I : IS} {m : Nat} (h : HP w hb L I m) {n name : Int} {d : Nd} (ht : I.hs.lookup n = some name) (hd : I.nd name = some d) (hk : d.table = false) {i : Nat} {x : Int} (hx : d.flds[i]? = some ⟨false, x⟩) :
    Calls Try.prog 24 #[.pointer (some ⟨hb, 0, none⟩), .int .i64 n, .int .i64 i] w fun e w' => e = .returned (.tuple #[.agg #[.bool false, .int .i64 x], .int .i64 0]) ∧ Hid (Got w hb L I m w') := by
  obtain ⟨g, A, h1, h2, rfl, h4⟩ := h
  obtain ⟨o, d', g0, g1, g2, g3, g4, g5, g6⟩ := h2.ent ht
  rw [hd] at g1
  simp only [Option.some.injEq] at g1
  subst g1
  rw [hk] at g2
  rw [← h2.sim.hs] at ht
  obtain ⟨f1, f2, f3⟩ := h2.field g0 g4
  refine (_root_.Go.Proofs.Ytelghmmcbgfjnaa.get_num h1 ht g0 g2 (by rw [f1]; exact hx) f2 f3).mono ?_
  rintro e w' ⟨rfl, hC⟩
  exact ⟨rfl, Lib.hid (HP.got ⟨g, A, h1, h2, rfl, h4⟩ hC)⟩

theorem HP.get_ref {w : World} {hb : Nat} {L : List Nat} {I : IS} {m : Nat} (h : HP w hb L I m) (ha : Ample I m) {n name : Int} {d : Nd} (ht : I.hs.lookup n = some name) (hd : I.nd name = some d) (hk : d.table = false) {i : Nat} {x : Int} (hx : d.flds[i]? = some ⟨true, x⟩) :
    Calls Try.prog 24 #[.pointer (some ⟨hb, 0, none⟩), .int .i64 n, .int .i64 i] w fun e w' => e = .returned (.tuple #[.agg #[.bool true, .int .i64 I.fresh], .int .i64 0]) ∧ Hid (Got w hb L (I.grant x) (m + 1) w') := by
  obtain ⟨g, A, h1, h2, rfl, h4⟩ := h
  obtain ⟨o, d', g0, g1, g2, g3, g4, g5, g6⟩ := h2.ent ht
  rw [hd] at g1
  simp only [Option.some.injEq] at g1
  subst g1
  rw [hk] at g2
  rw [← h2.sim.hs] at ht
  obtain ⟨f1, f2, f3⟩ := h2.field g0 g4
  refine (_root_.Go.Proofs.Ytelghmmcbgfjnaa.get_ref h1 h2.good.free (h2.facts ha).2.1 ht g0 g2 (by rw [f1]; exact hx) f2 f3).mono ?_
  rintro e w' ⟨q, rfl, A', g', hG, hR', hStep⟩
  have hp : (A.objs.lookup x).isSome := h2.good.wf.closed _ _ g0 _ (mem_refs.2 (.inl (List.mem_map.2 ⟨⟨true, x⟩, List.mem_filter.2 ⟨by rw [f1]; exact List.mem_of_getElem? hx, rfl⟩, rfl⟩)))
  obtain ⟨rfl, h5⟩ := h2.grant hG hp ha.hs
  exact ⟨rfl, Lib.hid (.of h4 hR' hStep (h5.more (by omega)))⟩

/-- Set behind the fields. -/
theorem HP.set_index {w : World} {hb : Nat} {L : List Nat} {I : IS} {m : Nat} (h : HP w hb L I m) {n name : Int} {d : Nd} (ht : I.hs.lookup n = some name) (hd : I.nd name = some d) (hk : d.table = false) {c : Wd} (hc : I.okC c = true) {i : Int} (hi : i < 0 ∨ (d.flds.length : Int) ≤ i) :
    Calls Try.prog 26 #[.pointer (some ⟨hb, 0, none⟩), .int .i64 n, .int .i64 i, c.agg] w fun e w' => e = .returned (.int .i64 222) ∧ Hid (Got w hb L I m w') := by
  obtain ⟨g, A, h1, h2, rfl, h4⟩ := h
  refine (set_any h1 h2.good.wf n i c).mono ?_
  rintro e w' ⟨er, rfl, A', hS, hR', hStep⟩
  obtain ⟨o, d', g0, g1, g2, g3, g4, g5, g6⟩ := h2.ent ht
  rw [hd] at g1
  simp only [Option.some.injEq] at g1
  subst g1
  rw [hk] at g2
  rw [← h2.sim.hs] at ht
  rw [← h2.okC] at hc
  have ht' := ht
  have g0' := g0
  cases hS with
  | none hl => rw [ht] at hl; cases hl
  | bad hl hb => rw [hc] at hb; cases hb
  | kind hl _ ho hf =>
    rw [ht] at hl; simp only [Option.some.injEq] at hl; subst hl
    rw [g0] at ho; simp only [Option.some.injEq] at ho; subst ho
    rw [g2] at hf; cases hf
  | index hl _ ho hf hi => exact ⟨rfl, Lib.hid (.of h4 hR' hStep h2)⟩
  | ok hl _ ho hf hi2 hlt =>
    rw [ht] at hl; simp only [Option.some.injEq] at hl; subst hl
    rw [g0] at ho; simp only [Option.some.injEq] at ho; subst ho
    omega

end Go.Proofs.Ytelghmmcbgfjnaa

/-! The ideal heap of the law of room: whatever is held has the same size; the words kept are a product. -/
namespace Go.Proofs.Ytelghmmcbgfjnaa
open Go.RowKit

theorem below_all (ks : List Int) : ∃ n : Nat, ∀ k ∈ ks, k < n := by
  induction ks with
  | nil => exact ⟨0, by simp⟩
  | cons k ks ih =>
    obtain ⟨n, h⟩ := ih
    refine ⟨max n (k.toNat + 1), fun j hj => ?_⟩
    rcases List.mem_cons.1 hj with rfl | hj
    · omega
    · have := h j hj; omega
theorem least_upto (ks : List Int) : ∀ n : Nat, (∀ m : Int, 0 ≤ m → m < n → m ∈ ks) ∨ ∃ m, Least ks m
  | 0 => .inl fun m h1 h2 => by omega
  | n + 1 => by
    rcases least_upto ks n with h | h
    · by_cases hn : (n : Int) ∈ ks
      · left
        intro m h1 h2
        by_cases e : m = n
        · rw [e]; exact hn
        · exact h m h1 (by omega)
      · exact .inr ⟨n, by omega, hn, h⟩
    · exact .inr h
theorem least_ex (ks : List Int) : ∃ n, Least ks n := by
  obtain ⟨n, h⟩ := below_all ks
  rcases least_upto ks (n + 1) with h1 | h1
  · have := h _ (h1 n (by omega) (by omega)); omega
  · exact h1
theorem IS.fresh_least (I : IS) : Least (I.hs.map (·.1)) I.fresh := by
  obtain ⟨n, h⟩ := least_ex (I.hs.map (·.1))
  unfold IS.fresh
  rw [freshOf_eq h]; exact h

theorem lookup_append {l l' : List (Int × Int)} {n : Int} (h : n ∉ l.map (·.1)) : (l ++ l').lookup n = l'.lookup n := by
  induction l with
  | nil => rfl
  | cons p l ih =>
    obtain ⟨a, b⟩ := p
    simp only [List.map_cons, List.mem_cons, not_or] at h
    have e : (n == a) = false := by simpa using h.1
    rw [List.cons_append, List.lookup_cons, e]
    exact ih h.2
theorem IS.grant_lookup (I : IS) (name : Int) : (I.grant name).hs.lookup I.fresh = some name := by
  show (I.hs ++ [(I.fresh, name)]).lookup I.fresh = _
  rw [lookup_append I.fresh_least.new]
  simp [List.lookup]
theorem IS.grant_del (I : IS) (name : Int) : delH (I.grant name).hs I.fresh = I.hs := by
  show delH (I.hs ++ [(I.fresh, name)]) I.fresh = _
  unfold delH
  rw [List.filter_append, List.filter_eq_self.2 fun p hp => ?_]
  · simp
  · have : p.1 ≠ I.fresh := fun e => I.fresh_least.new (List.mem_map.2 ⟨p, hp, e⟩)
    simpa using this

theorem sum_below (k c : Nat) : ∀ n, ((List.range n).map fun i => if i < k then c else 0).sum = min n k * c
  | 0 => by simp
  | n + 1 => by
    rw [List.range_succ, List.map_append, List.sum_append, sum_below k c n]
    simp only [List.map_cons, List.map_nil, List.sum_cons, List.sum_nil]
    split
    · rw [show min (n + 1) k = min n k + 1 by omega, Nat.add_mul]; omega
    · rw [show min (n + 1) k = min n k by omega]; omega

structure RoomI (s hold i : Nat) (space : Int) (I : IS) : Prop where
  len : I.nodes.length = i
  node : ∀ n d, I.nd n = some d → d.table = false ∧ d.flds = List.replicate s ⟨false, 0⟩ ∧ d.ents = []
  hs : I.hs.map (·.2) = (List.range (min i hold)).map fun (j : Nat) => (j : Int)
  reg : I.reg = []
  queue : I.queue = []
  room : I.room = space

theorem refsW_zeros (s : Nat) : refsW (List.replicate s ⟨false, 0⟩) = [] := by
  simp [refsW]

theorem RoomI.kept {s hold i : Nat} {space : Int} {I : IS} (h : RoomI s hold i space I) (n : Int) : I.kept n ↔ ∃ j : Nat, n = j ∧ j < min i hold := by
  have hroots : I.roots ++ I.reg = (List.range (min i hold)).map fun (j : Nat) => (j : Int) := by
    unfold IS.roots
    rw [h.queue, h.reg, h.hs]; simp
  unfold IS.kept
  rw [hroots]
  constructor
  · intro hr
    induction hr with
    | root h1 =>
      obtain ⟨j, hj, rfl⟩ := List.mem_map.1 h1
      exact ⟨j, rfl, List.mem_range.1 hj⟩
    | field _ ho ht hm ih =>
      rw [(h.node _ _ ho).2.1, refsW_zeros] at hm; cases hm
    | entry _ ho ht hx _ hr ih1 ih2 =>
      rw [(h.node _ _ ho).2.2] at hx; cases hx
  · rintro ⟨j, rfl, hj⟩
    exact .root (List.mem_map.2 ⟨j, List.mem_range.2 hj, rfl⟩)

theorem RoomI.words {s hold i : Nat} {space : Int} {I : IS} (h : RoomI s hold i space I) : I.words I.live = min i hold * (s + 1) := by
  unfold IS.words
  rw [h.len]
  have : (List.range i).map (I.cost I.live) = (List.range i).map fun j => if j < min i hold then s + 1 else 0 := by
    refine List.map_congr_left fun j hj => ?_
    have hj' := List.mem_range.1 hj
    unfold IS.cost
    have hl : j < I.nodes.length := by rw [h.len]; exact hj'
    rw [List.getElem?_eq_getElem hl]
    have hnd : I.nd (j : Int) = some I.nodes[j] := by
      unfold IS.nd
      rw [if_pos (by omega)]
      simp [List.getElem?_eq_getElem hl]
    obtain ⟨_, h2, h3⟩ := h.node _ _ hnd
    simp only [h2, h3, List.filter_nil, List.length_nil, List.length_replicate]
    have hk := h.kept (j : Int)
    by_cases hlt : j < min i hold
    · rw [if_pos hlt, if_pos (IS.live_iff.2 (hk.2 ⟨j, rfl, hlt⟩))]; omega
    · rw [if_neg hlt, if_neg]
      intro hc
      obtain ⟨j', e, hj2⟩ := hk.1 (IS.live_iff.1 hc)
      omega
  rw [this, sum_below]
  rw [show min i (min i hold) = min i hold by omega]

theorem RoomI.start (s hold : Nat) (space : Int) : RoomI s hold 0 space (IS.start space) := by
  refine ⟨rfl, fun n d hd => ?_, by simp [IS.start], rfl, rfl, rfl⟩
  unfold IS.nd IS.start at hd
  split at hd
  · simp at hd
  · cases hd

/-- An object more, if it fits; else it is refused. -/
theorem RoomI.make {s hold i : Nat} {space : Int} {I : IS} (h : RoomI s hold i space I) (hs : s ≤ 200) :
    (space < (min i hold * (s + 1) : Nat) + s + 1 → I.make i (List.replicate s ⟨false, 0⟩) = (0, 220, I)) ∧
    ((min i hold * (s + 1) : Nat) + (s : Int) + 1 ≤ space → ∃ k J, I.make i (List.replicate s ⟨false, 0⟩) = (k, 0, J) ∧ J.nodes.length = i + 1 ∧
      (i < hold → RoomI s hold (i + 1) space J) ∧ (hold ≤ i → ∃ J', J.drop k = (0, J') ∧ RoomI s hold (i + 1) space J')) := by
  have hok : (List.replicate s (⟨false, 0⟩ : Wd)).all I.okC = true := List.all_eq_true.2 fun c hc => by
    rw [(List.mem_replicate.1 hc).2]; rfl
  have hwd : (List.replicate s (⟨false, 0⟩ : Wd)).map I.wordC = List.replicate s ⟨false, 0⟩ := by
    rw [List.map_replicate, wordC_num rfl]
  have ha : ¬ ((i : Int) < 0 ∨ 200 < (List.replicate s (⟨false, 0⟩ : Wd)).length) := by
    rw [List.length_replicate]; omega
  have hmk : I.make i (List.replicate s ⟨false, 0⟩) = I.adds (s + 1) ⟨false, i, List.replicate s ⟨false, 0⟩, [], false⟩ := by
    unfold IS.make
    rw [if_pos hok, if_neg ha, hwd, List.length_replicate]
  rw [hmk]
  unfold IS.adds
  rw [h.words, h.room]
  constructor
  · intro hlt
    rw [if_neg (by omega)]
  · intro hle
    rw [if_pos (by omega)]
    have hlen : (I.add ⟨false, i, List.replicate s ⟨false, 0⟩, [], false⟩).nodes.length = i + 1 := by simp [IS.add, h.len]
    have hnode : ∀ n d, (I.add ⟨false, i, List.replicate s ⟨false, 0⟩, [], false⟩).nd n = some d → d.table = false ∧ d.flds = List.replicate s ⟨false, 0⟩ ∧ d.ents = [] := fun n d hd => by
      rcases IS.nd_add_cases hd with ⟨_, rfl⟩ | hd'
      · exact ⟨rfl, rfl, rfl⟩
      · exact h.node n d hd'
    refine ⟨_, _, rfl, hlen, fun hi => ⟨hlen, hnode, ?_, h.reg, h.queue, h.room⟩, fun hi => ?_⟩
    · show (I.hs ++ [(I.fresh, (I.nodes.length : Int))]).map (·.2) = _
      rw [List.map_append, h.hs, show min (i + 1) hold = i + 1 by omega, show min i hold = i by omega, List.range_succ, List.map_append, h.len]
      rfl
    · have hf : (I.add ⟨false, i, List.replicate s ⟨false, 0⟩, [], false⟩).fresh = I.fresh := rfl
      have hlk := (I.add ⟨false, i, List.replicate s ⟨false, 0⟩, [], false⟩).grant_lookup I.nodes.length
      have hdl := (I.add ⟨false, i, List.replicate s ⟨false, 0⟩, [], false⟩).grant_del I.nodes.length
      rw [hf] at hlk hdl
      unfold IS.drop
      rw [hlk]
      simp only [hdl]
      refine ⟨_, rfl, hlen, hnode, ?_, h.reg, h.queue, h.room⟩
      show I.hs.map (·.2) = _
      rw [h.hs, show min (i + 1) hold = min i hold by omega]

theorem RoomI.ample {s hold i m : Nat} {space : Int} {I : IS} (h : RoomI s hold i space I) (hi : i < 1000) (hm : m < 9000) : Ample I m := by
  refine ⟨hm, by rw [h.len]; omega, ?_, fun n d hd => by rw [(h.node n d hd).2.2]; simp⟩
  have : I.hs.length = min i hold := by
    have := congrArg List.length h.hs
    simpa using this
  rw [h.queue, h.reg, this]
  simp only [List.length_nil]
  omega

end Go.Proofs.Ytelghmmcbgfjnaa

/-! The chapter's examples at the ideal heap. -/
namespace Go.Proofs.Ytelghmmcbgfjnaa
open Go.RowKit

namespace Sane
def n0 : Nd := ⟨false, 0, [], [], false⟩
def nt (l : List En) : Nd := ⟨true, 0, [], l, false⟩
def nb : Nd := ⟨false, 1, [⟨true, 0⟩, ⟨false, 7⟩], [], false⟩
def e5 : En := ⟨0, ⟨false, 5⟩⟩
def S (nodes : List Nd) (hs : List (Int × Int)) : IS := ⟨nodes, hs, [], [], 40⟩

theorem live_root {nodes : List Nd} {hs : List (Int × Int)} {n : Int} (h : n ∈ hs.map (·.2)) : (S nodes hs).live n = true :=
  IS.live_iff.2 (.root (List.mem_append_left _ (List.mem_append_right _ h)))
theorem fresh_of {nodes : List Nd} {hs : List (Int × Int)} {n : Int} (h : Least (hs.map (·.1)) n) : (S nodes hs).fresh = n := freshOf_eq h

theorem nd_0 (d : Nd) (l : List Nd) (hs : List (Int × Int)) : (S (d :: l) hs).nd 0 = some d := rfl
theorem nd_1 (c d : Nd) (l : List Nd) (hs : List (Int × Int)) : (S (c :: d :: l) hs).nd 1 = some d := rfl
theorem nd_2 (b c d : Nd) (l : List Nd) (hs : List (Int × Int)) : (S (b :: c :: d :: l) hs).nd 2 = some d := rfl

def I1 : IS := S [n0] [(0, 0)]
def I2 : IS := S [n0, nt []] [(0, 0), (1, 1)]
def I3 : IS := S [n0, nt [e5]] [(0, 0), (1, 1)]
def I4 : IS := S [n0, nt [e5], nb] [(0, 0), (1, 1), (2, 2)]
def I5 : IS := S [n0, nt [e5], nb] [(1, 1), (2, 2)]
def I7 : IS := S [n0, nt [e5], nb] [(1, 1), (2, 2), (0, 0)]
def I9 : IS := S [n0, nt [e5], nb] [(1, 1)]
def I10 : IS := S [{ n0 with gone := true }, nt [e5], { nb with gone := true }] [(1, 1)]

theorem words_nil (hs : List (Int × Int)) (p : Int → Bool) : (S [] hs).words p = 0 := rfl

theorem least_0 : Least [] 0 := ⟨by omega, by simp, fun m h1 h2 => by omega⟩
theorem least_1 : Least [0] 1 := ⟨by omega, by simp, fun m h1 h2 => by simp; omega⟩
theorem least_2 : Least [0, 1] 2 := ⟨by omega, by simp, fun m h1 h2 => by simp; omega⟩
theorem least_3 : Least [1, 2] 0 := ⟨by omega, by simp, fun m h1 h2 => by omega⟩

theorem make1 : (IS.start 40).make 0 [] = (0, 0, I1) := by
  have hf : (IS.start 40).fresh = 0 := freshOf_eq least_0
  have hw : (IS.start 40).words (IS.start 40).live = 0 := rfl
  have hr : (IS.start 40).room = 40 := rfl
  have hm : (IS.start 40).make 0 [] = (IS.start 40).adds 1 n0 := rfl
  rw [hm]
  unfold IS.adds
  rw [hw, hr, if_pos (by omega), hf]
  show (0, 0, (IS.start 40).add n0 |>.grant 0) = _
  unfold IS.grant
  have : ((IS.start 40).add n0).fresh = 0 := hf
  rw [this]
  rfl

theorem I1_live0 : I1.live 0 = true := live_root (by simp)
theorem I1_words : I1.words I1.live = 1 := by
  have h : I1.words I1.live = I1.cost I1.live 0 + 0 := rfl
  rw [h]
  unfold IS.cost
  show (if I1.live 0 = true then _ else _) + 0 = _
  rw [if_pos I1_live0]
  rfl
theorem table : I1.table = (1, 0, I2) := by
  have hf : I1.fresh = 1 := fresh_of least_1
  have hr : I1.room = 40 := rfl
  unfold IS.table IS.adds
  rw [I1_words, hr, if_pos (by omega), hf]
  show (1, 0, (I1.add (nt [])).grant 1) = _
  unfold IS.grant
  have : (I1.add (nt [])).fresh = 1 := hf
  rw [this]
  rfl

theorem I2_live0 : I2.live 0 = true := live_root (by simp)
theorem I2_live1 : I2.live 1 = true := live_root (by simp)
theorem I2_words : I2.words I2.live = 2 := by
  have h : I2.words I2.live = I2.cost I2.live 0 + (I2.cost I2.live 1 + 0) := rfl
  rw [h]
  unfold IS.cost
  show (if I2.live 0 = true then _ else _) + ((if I2.live 1 = true then _ else _) + 0) = _
  rw [if_pos I2_live0, if_pos I2_live1]
  rfl
theorem put : I2.put 1 0 ⟨false, 5⟩ = (0, I3) := by
  have hr : I2.room = 40 := rfl
  have h : I2.put 1 0 ⟨false, 5⟩ = if (I2.words I2.live : Int) + 3 ≤ I2.room then (0, I3) else (220, I2) := rfl
  rw [h, I2_words, hr, if_pos (by omega)]
theorem find : I3.find 1 0 = (⟨false, 5⟩, true, 0, I3) := rfl

theorem I3_live0 : I3.live 0 = true := live_root (by simp)
theorem I3_live1 : I3.live 1 = true := live_root (by simp)
theorem I3_words : I3.words I3.live = 5 := by
  have h : I3.words I3.live = I3.cost I3.live 0 + (I3.cost I3.live 1 + 0) := rfl
  rw [h]
  unfold IS.cost
  show (if I3.live 0 = true then _ else _) + ((if I3.live 1 = true then 1 + 0 + 3 * ([e5].filter fun x => I3.live x.key).length else _) + 0) = _
  rw [if_pos I3_live0, if_pos I3_live1]
  have : ([e5].filter fun x => I3.live x.key) = [e5] := List.filter_eq_self.2 fun x hx => by simp at hx; subst hx; exact I3_live0
  rw [this]
  rfl
theorem I3_here : I3.words I3.here = 5 := rfl

theorem make2 : I3.make 1 [⟨true, 0⟩, ⟨false, 7⟩] = (2, 0, I4) := by
  have hf : I3.fresh = 2 := fresh_of least_2
  have hr : I3.room = 40 := rfl
  have hm : I3.make 1 [⟨true, 0⟩, ⟨false, 7⟩] = I3.adds 3 nb := rfl
  rw [hm]
  unfold IS.adds
  rw [I3_words, hr, if_pos (by omega), hf]
  show (2, 0, (I3.add nb).grant 2) = _
  unfold IS.grant
  have : (I3.add nb).fresh = 2 := hf
  rw [this]
  rfl

theorem drop1 : I4.drop 0 = (0, I5) := rfl

theorem I5_live1 : I5.live 1 = true := live_root (by simp)
theorem I5_live2 : I5.live 2 = true := live_root (by simp)
theorem I5_live0 : I5.live 0 = true := IS.live_iff.2 (.field (IS.live_iff.1 I5_live2) (nd_2 _ _ _ _ _) rfl (by simp [nb, refsW]))
theorem major1 : I5.majored = I5 := by
  have h : I5.majored = S [{ n0 with gone := !I5.live 0 }, { nt [e5] with gone := !I5.live 1 }, { nb with gone := !I5.live 2 }] [(1, 1), (2, 2)] := rfl
  rw [h, I5_live0, I5_live1, I5_live2]
  rfl
theorem count1 : (I5.nd 1 = some (nt [e5])) ∧ ([e5].filter fun x => I5.live x.key).length = 1 ∧ ([e5].filter fun x => I5.here x.key).length = 1 := by
  refine ⟨rfl, ?_, rfl⟩
  have : ([e5].filter fun x => I5.live x.key) = [e5] := List.filter_eq_self.2 fun x hx => by simp at hx; subst hx; exact I5_live0
  rw [this]
  rfl
theorem fresh5 : I5.fresh = 0 := fresh_of least_3
theorem grant5 : I5.grant 0 = I7 := by
  unfold IS.grant
  rw [fresh5]
  rfl
theorem drop2 : I7.drop 0 = (0, I5) := rfl
theorem drop3 : I5.drop 2 = (0, I9) := rfl

theorem I9_kept {n : Int} (h : I9.kept n) : n = 1 := by
  induction h with
  | root h1 => simpa [I9, S, IS.roots] using h1
  | field _ ho ht hm ih =>
    subst ih
    have : I9.nd 1 = some (nt [e5]) := rfl
    rw [this] at ho
    simp only [Option.some.injEq] at ho
    subst ho
    cases ht
  | entry _ ho ht hx _ hr ih1 ih2 =>
    subst ih1
    have : I9.nd 1 = some (nt [e5]) := rfl
    rw [this] at ho
    simp only [Option.some.injEq] at ho
    subst ho
    simp [nt] at hx
    subst hx
    cases hr
theorem I9_live1 : I9.live 1 = true := live_root (by simp)
theorem I9_dead {n : Int} (h : n ≠ 1) : I9.live n = false := by
  cases hl : I9.live n with
  | false => rfl
  | true => exact absurd (I9_kept (IS.live_iff.1 hl)) h
theorem major2 : I9.majored = I10 := by
  have h : I9.majored = S [{ n0 with gone := !I9.live 0 }, { nt [e5] with gone := !I9.live 1 }, { nb with gone := !I9.live 2 }] [(1, 1)] := rfl
  rw [h, I9_dead (n := 0) (by omega), I9_live1, I9_dead (n := 2) (by omega)]
  rfl
theorem I10_kept {n : Int} : I10.kept n ↔ I9.kept n := by
  have := IS.majored_kept (I := I9) n
  rw [major2] at this; exact this
theorem I10_live (n : Int) : I10.live n = I9.live n := by
  cases hl : I9.live n with
  | true => exact IS.live_iff.2 (I10_kept.2 (IS.live_iff.1 hl))
  | false =>
    cases hl2 : I10.live n with
    | false => rfl
    | true => rw [IS.live_iff.2 (I10_kept.1 (IS.live_iff.1 hl2))] at hl; cases hl
theorem count2 : (I10.nd 1 = some (nt [e5])) ∧ ([e5].filter fun x => I10.here x.key).length = 0 := ⟨rfl, rfl⟩
theorem I10_words : I10.words I10.live = 1 := by
  have h : I10.words I10.live = I10.cost I10.live 0 + (I10.cost I10.live 1 + (I10.cost I10.live 2 + 0)) := rfl
  rw [h]
  unfold IS.cost
  show (if I10.live 0 = true then _ else 0) + ((if I10.live 1 = true then 1 + 0 + 3 * ([e5].filter fun x => I10.live x.key).length else _) + ((if I10.live 2 = true then _ else 0) + 0)) = _
  have h0 : I10.live 0 = false := by rw [I10_live]; exact I9_dead (by omega)
  have h2 : I10.live 2 = false := by rw [I10_live]; exact I9_dead (by omega)
  have h1 : I10.live 1 = true := by rw [I10_live]; exact I9_live1
  have : ([e5].filter fun x => I10.live x.key) = [] := List.filter_eq_nil_iff.2 fun x hx => by simp at hx; subst hx; show ¬ I10.live 0 = true; rw [h0]; decide
  rw [if_neg (by rw [h0]; decide), if_pos h1, if_neg (by rw [h2]; decide), this]
  rfl
theorem I10_here : I10.words I10.here = 1 := rfl

theorem ample {I : IS} {m : Nat} (hm : m < 9000) (h1 : I.nodes.length ≤ 3) (h2 : I.queue.length + I.hs.length + I.reg.length ≤ 3) (h3 : ∀ d ∈ I.nodes, d.ents.length ≤ 1) : Ample I m := by
  refine ⟨hm, by omega, by omega, fun n d hd => ?_⟩
  obtain ⟨_, hl, he⟩ := IS.nd_nat hd
  have := h3 d (List.mem_of_getElem? he)
  omega
end Sane

end Go.Proofs.Ytelghmmcbgfjnaa
