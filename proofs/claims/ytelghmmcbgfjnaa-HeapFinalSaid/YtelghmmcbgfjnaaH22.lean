/-
  The ideal heap of the law of objects that are finalized once. (A part of the proof, joined of: Yv, Yw, Yx.)
-/
import Derived.Test.YtelghmmcbgfjnaaH21
/-! The ideal heap of the law of objects that are finalized once. -/
namespace Go.Proofs.Ytelghmmcbgfjnaa
open Go.RowKit Rings

namespace Final
/-- Nodes with one number each; those that are held, registered, waiting, in order. -/
structure FI (n : Nat) (held reg queue : List Int) (I : IS) : Prop where
  len : I.nodes.length = n
  node : ∀ j : Nat, j < n → ∃ g, I.nd (j : Int) = some ⟨false, j, [⟨false, 100 + (j : Int)⟩], [], g⟩
  hs : I.hs.map (·.2) = held
  reg : I.reg = reg
  queue : I.queue = queue
  room : I.room = 400

theorem FI.plain {n : Nat} {held reg queue : List Int} {I : IS} (h : FI n held reg queue I) {m : Int} {d : Nd} (hd : I.nd m = some d) : d.table = false ∧ refsW d.flds = [] ∧ d.flds.length = 1 ∧ d.ents = [] := by
  obtain ⟨h0, hl, _⟩ := IS.nd_nat hd
  rw [h.len] at hl
  obtain ⟨g, hg⟩ := h.node m.toNat hl
  have e : ((m.toNat : Nat) : Int) = m := Int.toNat_of_nonneg h0
  rw [e, hd] at hg
  simp only [Option.some.injEq] at hg
  subst hg
  exact ⟨rfl, by simp [refsW], rfl, rfl⟩

theorem FI.reach {n : Nat} {held reg queue : List Int} {I : IS} (h : FI n held reg queue I) {l : List Int} {m : Int} : IReach I l m ↔ m ∈ l := by
  constructor
  · intro hr
    induction hr with
    | root h1 => exact h1
    | field _ ho ht hm ih =>
      rw [(h.plain ho).2.1] at hm; cases hm
    | entry _ ho ht hx _ hr ih1 ih2 =>
      rw [(h.plain ho).2.2.2] at hx; cases hx
  · exact .root

theorem FI.words {n : Nat} {held reg queue : List Int} {I : IS} (h : FI n held reg queue I) : I.words I.live ≤ n * 2 := by
  unfold IS.words
  rw [h.len]
  refine Nat.le_trans (sum_map_le (g := fun _ => 2) fun j hj => ?_) (Nat.le_of_eq (sum_const 2 n))
  unfold IS.cost
  cases hn : I.nodes[j]? with
  | none => simp
  | some d =>
    have hnd : I.nd (j : Int) = some d := by
      unfold IS.nd
      rw [if_pos (by omega)]
      simpa using hn
    obtain ⟨_, _, h2, h3⟩ := h.plain hnd
    simp only [h2, h3]
    split <;> simp

/-- One object is held by the handle k besides. -/
structure FO (n : Nat) (x : Nat) (held reg queue : List Int) (k : Int) (J : IS) : Prop where
  fi : FI n (held ++ [(x : Int)]) reg queue J
  lt : x < n
  look : J.hs.lookup k = some (x : Int)
  del : (delH J.hs k).map (·.2) = held

theorem FI.make {n : Nat} {held reg : List Int} {I : IS} (h : FI n held reg [] I) (hn : n < 20) : ∃ J, I.make n [⟨false, 100 + (n : Int)⟩] = (I.fresh, 0, J) ∧ FO (n + 1) n held reg [] I.fresh J := by
  have hw := h.words
  have hm : I.make n [⟨false, 100 + (n : Int)⟩] = I.adds 2 ⟨false, n, [⟨false, 100 + (n : Int)⟩], [], false⟩ := by
    unfold IS.make
    rw [if_pos (by simp [IS.okC]), if_neg (by simp)]
    rfl
  rw [hm]
  unfold IS.adds
  rw [h.room, if_pos (by omega)]
  have hlk := (I.add ⟨false, n, [⟨false, 100 + (n : Int)⟩], [], false⟩).grant_lookup I.nodes.length
  have hdl := (I.add ⟨false, n, [⟨false, 100 + (n : Int)⟩], [], false⟩).grant_del I.nodes.length
  have hf : (I.add ⟨false, n, [⟨false, 100 + (n : Int)⟩], [], false⟩).fresh = I.fresh := rfl
  rw [hf] at hlk hdl
  refine ⟨_, rfl, ⟨?_, fun j hj => ?_, ?_, h.reg, h.queue, h.room⟩, by omega, ?_, ?_⟩
  · show (I.nodes ++ [_]).length = _
    simp [h.len]
  · show ∃ g, (I.add _).nd (j : Int) = _
    by_cases e : j = n
    · subst e
      have := IS.nd_add_new I ⟨false, j, [⟨false, 100 + (j : Int)⟩], [], false⟩
      rw [h.len] at this
      exact ⟨false, this⟩
    · obtain ⟨g, hg⟩ := h.node j (by omega)
      exact ⟨g, IS.nd_add _ hg⟩
  · show (I.hs ++ [(I.fresh, (I.nodes.length : Int))]).map (·.2) = _
    rw [List.map_append, h.hs, h.len]; rfl
  · rw [hlk, h.len]
  · rw [hdl]; exact h.hs

theorem FO.fin {n x : Nat} {held reg queue : List Int} {k : Int} {J : IS} (h : FO n x held reg queue k J) (hx : (x : Int) ∉ reg) : ∃ J', J.fin k = (true, 0, J') ∧ FO n x held (reg ++ [(x : Int)]) queue k J' := by
  unfold IS.fin
  rw [h.look]
  simp only []
  rw [if_neg (by rw [h.fi.reg]; exact hx)]
  exact ⟨_, rfl, ⟨h.fi.len, h.fi.node, h.fi.hs, by show J.reg ++ _ = _; rw [h.fi.reg], h.fi.queue, h.fi.room⟩, h.lt, h.look, h.del⟩
theorem FO.again {n x : Nat} {held reg queue : List Int} {k : Int} {J : IS} (h : FO n x held reg queue k J) (hx : (x : Int) ∈ reg) : J.fin k = (false, 0, J) := by
  unfold IS.fin
  rw [h.look]
  simp only []
  rw [if_pos (by rw [h.fi.reg]; exact hx)]
theorem FO.drop {n x : Nat} {held reg queue : List Int} {k : Int} {J : IS} (h : FO n x held reg queue k J) : ∃ J', J.drop k = (0, J') ∧ FI n held reg queue J' := by
  unfold IS.drop
  rw [h.look]
  exact ⟨_, rfl, h.fi.len, h.fi.node, h.del, h.fi.reg, h.fi.queue, h.fi.room⟩

theorem FI.next {n x : Nat} {held reg queue : List Int} {I : IS} (h : FI n held reg ((x : Int) :: queue) I) (hx : x < n) : ∃ J, I.next = (I.fresh, true, 0, J) ∧ FO n x held reg queue I.fresh J := by
  have hlk := I.grant_lookup x
  have hdl := I.grant_del x
  unfold IS.next
  rw [h.queue]
  refine ⟨_, rfl, ⟨h.len, h.node, ?_, h.reg, rfl, h.room⟩, hx, hlk, ?_⟩
  · show (I.hs ++ [(I.fresh, (x : Int))]).map (·.2) = _
    rw [List.map_append, h.hs]; rfl
  · show (delH (I.grant x).hs I.fresh).map (·.2) = _
    rw [hdl]; exact h.hs
theorem FI.done {n : Nat} {held reg : List Int} {I : IS} (h : FI n held reg [] I) : I.next = (0, false, 0, I) := by
  unfold IS.next
  rw [h.queue]

theorem FI.majored {n : Nat} {held reg queue : List Int} {I : IS} (h : FI n held reg queue I) :
    FI n held (reg.filter fun m => decide (m ∈ queue ++ held)) (queue ++ reg.filter fun m => !decide (m ∈ queue ++ held)) I.majored := by
  have hd : ∀ m, dec (IReach I I.roots m) = decide (m ∈ queue ++ held) := fun m => by
    have hr : I.roots = queue ++ held := by unfold IS.roots; rw [h.queue, h.hs]
    rw [hr]
    cases hm : dec (IReach I (queue ++ held) m) with
    | true => exact (decide_eq_true (h.reach.1 (dec_iff.1 hm))).symm
    | false => exact (decide_eq_false fun hc => (dec_false.1 hm) (h.reach.2 hc)).symm
  refine ⟨by simp [IS.majored, h.len], fun j hj => ?_, h.hs, ?_, ?_, h.room⟩
  · obtain ⟨g, hg⟩ := h.node j hj
    rw [IS.nd_majored, hg]
    exact ⟨_, rfl⟩
  · show I.reg.filter (fun m => dec (IReach I I.roots m)) = _
    rw [h.reg]
    exact List.filter_congr fun m _ => hd m
  · show I.queue ++ I.reg.filter (fun m => !dec (IReach I I.roots m)) = _
    rw [h.queue, h.reg]
    congr 1
    exact List.filter_congr fun m _ => by rw [hd m]

theorem FI.ample {n m : Nat} {held reg queue : List Int} {I : IS} (h : FI n held reg queue I) (hn : n ≤ 20) (hl : queue.length + held.length + reg.length ≤ 200) (hm : m < 9000) : Ample I m := by
  refine ⟨hm, by rw [h.len]; omega, ?_, fun q d hd => by rw [(h.plain hd).2.2.2]; simp⟩
  have : I.hs.length = held.length := by
    have := congrArg List.length h.hs
    simpa using this
  rw [h.queue, h.reg, this]
  omega

theorem FI.start : FI 0 [] [] [] (IS.start 400) := ⟨rfl, fun j hj => by omega, rfl, rfl, rfl, rfl⟩

/-- The numbers below i that p chooses. -/
def sel (p : Nat → Bool) (i : Nat) : List Int := ((List.range i).filter p).map fun (j : Nat) => (j : Int)
theorem sel_yes {p : Nat → Bool} {i : Nat} (h : p i = true) : sel p (i + 1) = sel p i ++ [(i : Int)] := by
  unfold sel
  rw [List.range_succ, List.filter_append, List.map_append, List.filter_cons_of_pos h]; rfl
theorem sel_no {p : Nat → Bool} {i : Nat} (h : p i = false) : sel p (i + 1) = sel p i := by
  unfold sel
  rw [List.range_succ, List.filter_append, List.map_append, List.filter_cons_of_neg (by rw [h]; simp)]; simp
theorem sel_mem {p : Nat → Bool} {i : Nat} {m : Int} : m ∈ sel p i ↔ ∃ j : Nat, j < i ∧ p j = true ∧ m = j := by
  unfold sel
  simp only [List.mem_map, List.mem_filter, List.mem_range]
  constructor
  · rintro ⟨j, ⟨h1, h2⟩, rfl⟩; exact ⟨j, h1, h2, rfl⟩
  · rintro ⟨j, h1, h2, rfl⟩; exact ⟨j, ⟨h1, h2⟩, rfl⟩
theorem sel_new {p : Nat → Bool} {i : Nat} : (i : Int) ∉ sel p i := fun h => by
  obtain ⟨j, h1, _, h2⟩ := sel_mem.1 h; omega
theorem sel_len (p : Nat → Bool) (i : Nat) : (sel p i).length ≤ i := by
  unfold sel
  rw [List.length_map]
  have := List.length_filter_le p (List.range i)
  simpa using this
theorem sel_filter (p q : Nat → Bool) (i : Nat) (Q : Int → Bool) (hQ : ∀ j : Nat, j < i → Q j = q j) : (sel p i).filter Q = sel (fun j => p j && q j) i := by
  unfold sel
  rw [List.filter_map, List.filter_filter]
  congr 1
  refine List.filter_congr fun j hj => ?_
  have := hQ j (List.mem_range.1 hj)
  simp only [Function.comp, this]
  exact Bool.and_comm _ _

/-- Behind the first Major: those registered and dropped wait, in order. -/
theorem FI.major1 {n : Nat} {r d : Nat → Bool} {I : IS} (h : FI n (sel (fun j => !d j) n) (sel r n) [] I) : FI n (sel (fun j => !d j) n) (sel (fun j => r j && !d j) n) (sel (fun j => r j && d j) n) I.majored := by
  have h1 := h.majored
  have hm : ∀ j : Nat, j < n → decide ((j : Int) ∈ [] ++ sel (fun j => !d j) n) = !d j := fun j hj => by
    rw [List.nil_append]
    cases hd : d j with
    | false => exact decide_eq_true (sel_mem.2 ⟨j, hj, by simp [hd], rfl⟩)
    | true =>
      refine decide_eq_false fun hc => ?_
      obtain ⟨q, _, h2, h3⟩ := sel_mem.1 hc
      have : j = q := by omega
      subst this
      simp [hd] at h2
  rw [sel_filter r (fun j => !d j) n _ hm, sel_filter r d n _ fun j hj => by rw [hm j hj, Bool.not_not]] at h1
  exact h1

/-- Behind a further one: nothing more. -/
theorem FI.major2 {n : Nat} {held reg queue : List Int} {I : IS} (h : FI n held reg queue I) (hr : ∀ m ∈ reg, m ∈ held) : FI n held reg queue I.majored := by
  have h1 := h.majored
  have hm : ∀ m ∈ reg, decide (m ∈ queue ++ held) = true := fun m hm => decide_eq_true (List.mem_append_right _ (hr m hm))
  rw [List.filter_eq_self.2 hm, List.filter_eq_nil_iff.2 fun m hm' => by rw [hm m hm']; simp, List.append_nil] at h1
  exact h1
end Final

end Go.Proofs.Ytelghmmcbgfjnaa

/-! The law of objects that are finalized once: the methods as its loops call them. -/
namespace Go.Proofs.Ytelghmmcbgfjnaa
open Go.RowKit Rings

theorem HP.tag {w : World} {hb : Nat} {L : List Nat} {I : IS} {m : Nat} (h : HP w hb L I m) {n name : Int} {d : Nd} (ht : I.hs.lookup n = some name) (hd : I.nd name = some d) (hk : d.table = false) :
    Calls Try.prog 23 #[.pointer (some ⟨hb, 0, none⟩), .int .i64 n] w fun e w' => e = .returned (.tuple #[.int .i64 d.tag, .int .i64 d.flds.length, .int .i64 0]) ∧ Hid (Got w hb L I m w') := by
  obtain ⟨g, A, h1, h2, rfl, h4⟩ := h
  obtain ⟨o, d', g0, g1, g2, g3, g4, g5, g6⟩ := h2.ent ht
  rw [hd] at g1
  simp only [Option.some.injEq] at g1
  subst g1
  rw [hk] at g2
  rw [← h2.sim.hs] at ht
  obtain ⟨f1, f2, f3⟩ := h2.field g0 g4
  have hx : (A.mem o.old)[o.at_]? = some ⟨false, d.tag⟩ := by
    have h5 : ((A.mem o.old).drop o.at_).take (1 + o.size) = ⟨false, d.tag⟩ :: d.flds := g4
    have h6 := congrArg (fun l : List Wd => l[0]?) h5
    simp only [List.getElem?_cons_zero] at h6
    rw [List.getElem?_take_of_lt (by omega), List.getElem?_drop] at h6
    exact h6
  have hT := tag_some h1 ht g0 g2 hx f3
  rw [g3] at hT
  refine hT.mono ?_
  rintro e w' ⟨rfl, q, rfl⟩
  exact ⟨rfl, Lib.hid (HP.got ⟨g, A, h1, h2, rfl, h4⟩ ((Chg.refl _ _).drewN q))⟩

namespace Final
/-- The heap, and a slice of numbers of the caller's own. -/
structure FK (w0 wr : World) (hb : Nat) (v : Value) (xs : List Int) (I : IS) (m : Nat) (L : List Nat) : Prop where
  hp : HB w0 wr hb L I m
  row : Row wr 3 1 v xs.length (intCells xs)
  own : ∀ b, rowBlk v = some b → b ∈ L ∧ w0.heap.size ≤ b

theorem FK.got {w0 wr w' : World} {hb : Nat} {v : Value} {xs : List Int} {I I' : IS} {m m' : Nat} {L : List Nat} (h : FK w0 wr hb v xs I m L) (hG : Got wr hb (List.range w0.heap.size ++ L) I' m' w') : FK w0 w' hb v xs I' m' L :=
  ⟨h.hp.got hG, h.row.same fun b hb => hG.chg.block b (h.row.lt hb) fun hn => hn (List.mem_append_right _ (h.own b hb).1), h.own⟩
theorem FK.still {w0 wr w' : World} {hb : Nat} {v : Value} {xs : List Int} {I : IS} {m : Nat} {L : List Nat} (h : FK w0 wr hb v xs I m L) (hC : Chg (fun _ => False) wr w') : FK w0 w' hb v xs I m L :=
  ⟨h.hp.still hC, h.row.same fun b hb => hC.block b (h.row.lt hb) fun h => h, h.own⟩
theorem FK.alloc {w0 wr : World} {hb : Nat} {v : Value} {xs : List Int} {I : IS} {m : Nat} {L : List Nat} (h : FK w0 wr hb v xs I m L) (X : Obj) : FK w0 (wr.alloc X) hb v xs I m (wr.heap.size :: L) :=
  ⟨h.hp.alloc X, h.row.same fun b hb => by rw [heap_alloc, if_neg (by have := h.row.lt hb; omega)], fun b hb => ⟨List.mem_cons_of_mem _ (h.own b hb).1, (h.own b hb).2⟩⟩

/-- An ideal heap of the kind P. -/
def PF (w0 wr : World) (hb : Nat) (v : Value) (xs : List Int) (P : IS → Prop) (m : Nat) : Prop := ∃ I L, P I ∧ FK w0 wr hb v xs I m L

theorem PF.chg {w0 wr : World} {hb : Nat} {v : Value} {xs : List Int} {P : IS → Prop} {m : Nat} (h : PF w0 wr hb v xs P m) : Chg (fun _ => False) w0 wr := by
  obtain ⟨I, L, _, hK⟩ := h
  exact hK.hp.chg
theorem PF.still {w0 wr w' : World} {hb : Nat} {v : Value} {xs : List Int} {P : IS → Prop} {m : Nat} (h : PF w0 wr hb v xs P m) (hC : Chg (fun _ => False) wr w') : PF w0 w' hb v xs P m := by
  obtain ⟨I, L, hP, hK⟩ := h
  exact ⟨I, L, hP, hK.still hC⟩
theorem PF.mono {w0 wr : World} {hb : Nat} {v : Value} {xs : List Int} {P Q : IS → Prop} {m : Nat} (h : PF w0 wr hb v xs P m) (hPQ : ∀ I, P I → Q I) : PF w0 wr hb v xs Q m := by
  obtain ⟨I, L, hP, hK⟩ := h
  exact ⟨I, L, hPQ I hP, hK⟩
theorem PF.start {w0 wr : World} {hb m : Nat} (h : HB w0 wr hb [] (IS.start 400) m) : PF w0 wr hb (.slice none 0 0) [] (FI 0 [] [] []) m :=
  ⟨_, [], FI.start, h, Row.nil _ _ _, fun b hb => by simp [rowBlk] at hb⟩

theorem PF.make {w0 wr : World} {hb : Nat} {v : Value} {xs held reg : List Int} {n m : Nat} (h : PF w0 wr hb v xs (FI n held reg []) m) (hn : n < 20) (hl : held.length + reg.length ≤ 200) (hm : m < 8000) :
    Calls Try.prog 13 #[.int .i64 (100 + (n : Int))] wr fun e w2 => e = .returned (.agg #[.bool false, .int .i64 (100 + (n : Int))]) ∧
      Hid (Calls Try.prog 10 #[.pointer (some ⟨hb, 0, none⟩), .int .i64 n, .slice (some ⟨w2.heap.size, 0, none⟩) 1 1] (w2.alloc (.cells #[.bool false, .int .i64 (100 + (n : Int))] 36)) fun e w3 => ∃ k, e = .returned (.tuple #[.int .i64 k, .int .i64 0]) ∧
        Hid (PF w0 w3 hb v xs (FO (n + 1) n held reg [] k) (m + 1))) := by
  obtain ⟨I, L, hI, h⟩ := h
  refine (num_any wr (100 + (n : Int))).mono ?_
  rintro e w2 ⟨rfl, hC2⟩
  have h2 := (h.still hC2).alloc (.cells #[.bool false, .int .i64 (100 + (n : Int))] 36)
  refine ⟨rfl, Lib.hid ?_⟩
  have hcs : CellsAt (w2.alloc (.cells #[.bool false, .int .i64 (100 + (n : Int))] 36)) (some ⟨w2.heap.size, 0, none⟩) 1 [⟨false, 100 + (n : Int)⟩] := ⟨rfl, fun j c hj => by
    match j, hj with
    | 0, hj =>
      simp only [List.getElem?_cons_zero, Option.some.injEq] at hj
      subst hj
      have hn := heap_alloc_new w2 (.cells #[.bool false, .int .i64 (100 + (n : Int))] 36)
      exact ⟨w2.heap.size, 0, rfl, cellAt hn 0, cellAt hn 1⟩
    | j + 1, hj => simp at hj⟩
  obtain ⟨J, hmk, hJ⟩ := hI.make hn
  refine (h2.hp.hp.make (hI.ample (by omega) (by simp only [List.length_nil]; omega) (by omega)) n hcs (by omega)).mono ?_
  rw [hmk]
  rintro e w3 ⟨rfl, hG⟩
  exact ⟨_, rfl, Lib.hid ⟨J, _, hJ, h2.got hG⟩⟩

theorem PF.fin {w0 wr : World} {hb : Nat} {v : Value} {xs held reg queue : List Int} {n x m : Nat} {k : Int} (h : PF w0 wr hb v xs (FO n x held reg queue k) m) (hx : (x : Int) ∉ reg) (hn : n ≤ 20) (hl : queue.length + held.length + reg.length ≤ 100) (hm : m < 8000) :
    Calls Try.prog 21 #[.pointer (some ⟨hb, 0, none⟩), .int .i64 k] wr fun e w' => e = .returned (.tuple #[.bool true, .int .i64 0]) ∧ Hid (PF w0 w' hb v xs (FO n x held (reg ++ [(x : Int)]) queue k) (m + 1)) := by
  obtain ⟨I, L, hI, h⟩ := h
  obtain ⟨J, hf, hJ⟩ := hI.fin hx
  refine (h.hp.hp.fin (hI.fi.ample hn (by simp; omega) (by omega)) k).mono ?_
  rw [hf]
  rintro e w' ⟨rfl, hG⟩
  exact ⟨rfl, Lib.hid ⟨J, L, hJ, h.got hG⟩⟩
theorem PF.again {w0 wr : World} {hb : Nat} {v : Value} {xs held reg queue : List Int} {n x m : Nat} {k : Int} (h : PF w0 wr hb v xs (FO n x held reg queue k) m) (hx : (x : Int) ∈ reg) (hn : n ≤ 20) (hl : queue.length + held.length + reg.length ≤ 100) (hm : m < 8000) :
    Calls Try.prog 21 #[.pointer (some ⟨hb, 0, none⟩), .int .i64 k] wr fun e w' => e = .returned (.tuple #[.bool false, .int .i64 0]) ∧ Hid (PF w0 w' hb v xs (FO n x held reg queue k) (m + 1)) := by
  obtain ⟨I, L, hI, h⟩ := h
  have hf := hI.again hx
  refine (h.hp.hp.fin (hI.fi.ample hn (by simp; omega) (by omega)) k).mono ?_
  rw [hf]
  rintro e w' ⟨rfl, hG⟩
  exact ⟨rfl, Lib.hid ⟨I, L, hI, h.got hG⟩⟩
theorem PF.drop {w0 wr : World} {hb : Nat} {v : Value} {xs held reg queue : List Int} {n x m : Nat} {k : Int} (h : PF w0 wr hb v xs (FO n x held reg queue k) m) :
    Calls Try.prog 11 #[.pointer (some ⟨hb, 0, none⟩), .int .i64 k] wr fun e w' => e = .returned (.int .i64 0) ∧ Hid (PF w0 w' hb v xs (FI n held reg queue) (m + 1)) := by
  obtain ⟨I, L, hI, h⟩ := h
  obtain ⟨J, hf, hJ⟩ := hI.drop
  refine (h.hp.hp.drop k).mono ?_
  rw [hf]
  rintro e w' ⟨rfl, hG⟩
  exact ⟨rfl, Lib.hid ⟨J, L, hJ, h.got hG⟩⟩
theorem PF.minor {w0 wr : World} {hb : Nat} {v : Value} {xs : List Int} {P : IS → Prop} {m : Nat} (h : PF w0 wr hb v xs P m) (hm : m < 8000) :
    Calls Try.prog 16 #[.pointer (some ⟨hb, 0, none⟩)] wr fun e w' => e = .returned (.tuple #[]) ∧ Hid (PF w0 w' hb v xs P (m + 1)) := by
  obtain ⟨I, L, hI, h⟩ := h
  refine (h.hp.hp.minor (by omega)).mono ?_
  rintro e w' ⟨rfl, hG⟩
  exact ⟨rfl, Lib.hid ⟨I, L, hI, h.got hG⟩⟩
theorem PF.major {w0 wr : World} {hb : Nat} {v : Value} {xs : List Int} {P Q : IS → Prop} {m : Nat} (h : PF w0 wr hb v xs P m) (hPQ : ∀ I, P I → Q I.majored) :
    Calls Try.prog 17 #[.pointer (some ⟨hb, 0, none⟩)] wr fun e w' => e = .returned (.tuple #[]) ∧ Hid (PF w0 w' hb v xs Q (m + 1)) := by
  obtain ⟨I, L, hI, h⟩ := h
  refine h.hp.hp.major.mono ?_
  rintro e w' ⟨rfl, hG⟩
  exact ⟨rfl, Lib.hid ⟨_, L, hPQ I hI, h.got hG⟩⟩
theorem PF.next {w0 wr : World} {hb : Nat} {v : Value} {xs held reg queue : List Int} {n x m : Nat} (h : PF w0 wr hb v xs (FI n held reg ((x : Int) :: queue)) m) (hx : x < n) (hn : n ≤ 20) (hl : queue.length + held.length + reg.length ≤ 100) (hm : m < 8000) :
    Calls Try.prog 22 #[.pointer (some ⟨hb, 0, none⟩)] wr fun e w' => ∃ k, e = .returned (.tuple #[.int .i64 k, .bool true, .int .i64 0]) ∧ Hid (PF w0 w' hb v xs (FO n x held reg queue k) (m + 1)) := by
  obtain ⟨I, L, hI, h⟩ := h
  obtain ⟨J, hf, hJ⟩ := hI.next hx
  refine (h.hp.hp.next (hI.ample hn (by simp; omega) (by omega))).mono ?_
  rw [hf]
  rintro e w' ⟨rfl, hG⟩
  exact ⟨_, rfl, Lib.hid ⟨J, L, hJ, h.got hG⟩⟩
theorem PF.done {w0 wr : World} {hb : Nat} {v : Value} {xs held reg : List Int} {n m : Nat} (h : PF w0 wr hb v xs (FI n held reg []) m) (hn : n ≤ 20) (hl : held.length + reg.length ≤ 100) (hm : m < 8000) :
    Calls Try.prog 22 #[.pointer (some ⟨hb, 0, none⟩)] wr fun e w' => e = .returned (.tuple #[.int .i64 0, .bool false, .int .i64 0]) ∧ Hid (Chg (fun _ => False) w0 w') := by
  obtain ⟨I, L, hI, h⟩ := h
  refine (h.hp.hp.next (hI.ample hn (by simp only [List.length_nil]; omega) (by omega))).mono ?_
  rw [hI.done]
  rintro e w' ⟨rfl, hG⟩
  exact ⟨rfl, Lib.hid (h.got hG).hp.chg⟩
theorem PF.tag {w0 wr : World} {hb : Nat} {v : Value} {xs held reg queue : List Int} {n x m : Nat} {k : Int} (h : PF w0 wr hb v xs (FO n x held reg queue k) m) :
    Calls Try.prog 23 #[.pointer (some ⟨hb, 0, none⟩), .int .i64 k] wr fun e w' => e = .returned (.tuple #[.int .i64 x, .int .i64 1, .int .i64 0]) ∧ Hid (PF w0 w' hb v xs (FO n x held reg queue k) m) := by
  obtain ⟨I, L, hI, h⟩ := h
  obtain ⟨g, hg⟩ := hI.fi.node x hI.lt
  refine (h.hp.hp.tag hI.look hg rfl).mono ?_
  rintro e w' ⟨rfl, hG⟩
  exact ⟨rfl, Lib.hid ⟨I, L, hI, h.got hG⟩⟩
theorem PF.get {w0 wr : World} {hb : Nat} {v : Value} {xs held reg queue : List Int} {n x m : Nat} {k : Int} (h : PF w0 wr hb v xs (FO n x held reg queue k) m) :
    Calls Try.prog 24 #[.pointer (some ⟨hb, 0, none⟩), .int .i64 k, .int .i64 0] wr fun e w' => e = .returned (.tuple #[.agg #[.bool false, .int .i64 (100 + (x : Int))], .int .i64 0]) ∧ Hid (PF w0 w' hb v xs (FO n x held reg queue k) m) := by
  obtain ⟨I, L, hI, h⟩ := h
  obtain ⟨g, hg⟩ := hI.fi.node x hI.lt
  refine (h.hp.hp.get_num hI.look hg rfl (i := 0) (x := 100 + (x : Int)) rfl).mono ?_
  rintro e w' ⟨rfl, hG⟩
  exact ⟨rfl, Lib.hid ⟨I, L, hI, h.got hG⟩⟩

theorem PF.app {w0 wr : World} {hb : Nat} {v : Value} {xs : List Int} {P : IS → Prop} {m : Nat} (h : PF w0 wr hb v xs P m) (x : Int) (hT : xs.length < 1000000) :
    ∃ a cap w5, (Builtin.append_ #[34, 34] 34 #[v, .slice (some ⟨wr.heap.size, 0, none⟩) 1 1]).run Try.prog (wr.alloc (.cells #[.int .i64 x] 3)) = .ok (.slice a (xs.length + 1) cap) w5 ∧
      Hid (PF w0 w5 hb (.slice a (xs.length + 1) cap) (xs ++ [x]) P m) := by
  obtain ⟨I, L, hI, h3⟩ := h
  obtain ⟨a, cap, w5, happ, hr5, hC5, hloc⟩ := appI h3.row x (by omega)
  refine ⟨a, cap, w5, happ, Lib.hid ?_⟩
  by_cases hnew : ∃ b, rowBlk (.slice a (xs.length + 1) cap) = some b ∧ wr.heap.size ≤ b
  · obtain ⟨b, hb1, hb2⟩ := hnew
    have h5 := h3.hp.grow hC5 h3.own hb2 (hr5.lt hb1)
    refine ⟨I, _, hI, h5, hr5, fun c hc => ?_⟩
    rw [hb1] at hc
    simp only [Option.some.injEq] at hc
    subst hc
    have := h3.hp.chg.size
    exact ⟨by simp, by omega⟩
  · refine ⟨I, _, hI, h3.hp.frame hC5 h3.own, hr5, fun c hc => ?_⟩
    rcases hloc c hc with h6 | h6
    · exact h3.own c h6
    · exact absurd ⟨c, hc, h6⟩ hnew

theorem PF.cell {w0 wr : World} {hb : Nat} {a : Option Addr} {c q : Nat} {xs : List Int} {P : IS → Prop} {m : Nat} (h : PF w0 wr hb (.slice a xs.length c) xs P m) {x : Int} (hx : xs[q]? = some x) : ∃ g, a = some ⟨g, 0, none⟩ ∧ wr.cell? ⟨g, q, none⟩ = some (.int .i64 x) := by
  obtain ⟨I, L, hI, h⟩ := h
  have hq := (List.getElem?_eq_some_iff.1 hx).1
  obtain ⟨g, h1, _, h2⟩ := h.row.cells (by omega)
  refine ⟨g, h1, h2 q _ ?_⟩
  simp [intCells, hx]
end Final

end Go.Proofs.Ytelghmmcbgfjnaa

/-! The law of objects that are finalized once, walked. -/
namespace Go.Proofs.Ytelghmmcbgfjnaa
open Go.RowKit Rings Final

namespace Final
/-- The same, and a cell of the caller's own. -/
structure DS (w0 wr : World) (hb : Nat) (v : Value) (xs : List Int) (P : IS → Prop) (m b : Nat) (c : Int) : Prop where
  ex : ∃ I L, P I ∧ FK w0 wr hb v xs I m L ∧ b ∈ L
  at_ : wr.heap[b]? = some (.cells #[.bool false, .int .i64 c] 36 (0, 0))

theorem DS.pf {w0 wr : World} {hb : Nat} {v : Value} {xs : List Int} {P : IS → Prop} {m b : Nat} {c : Int} (h : DS w0 wr hb v xs P m b c) : PF w0 wr hb v xs P m := by
  obtain ⟨I, L, h1, h2, _⟩ := h.ex
  exact ⟨I, L, h1, h2⟩
theorem DS.start {w0 wr : World} {hb : Nat} {v : Value} {xs : List Int} {P : IS → Prop} {m : Nat} (h : PF w0 wr hb v xs P m) (c : Int) : DS w0 (wr.alloc (.cells #[.bool false, .int .i64 c] 36)) hb v xs P m wr.heap.size c := by
  obtain ⟨I, L, h1, h2⟩ := h
  exact ⟨⟨I, _, h1, h2.alloc _, by simp⟩, heap_alloc_new _ _⟩
theorem DS.still {w0 wr w' : World} {hb : Nat} {v : Value} {xs : List Int} {P : IS → Prop} {m b : Nat} {c : Int} (h : DS w0 wr hb v xs P m b c) (hC : Chg (fun _ => False) wr w') : DS w0 w' hb v xs P m b c := by
  obtain ⟨I, L, h1, h2, h3⟩ := h.ex
  exact ⟨⟨I, L, h1, h2.still hC, h3⟩, hC.at h.at_ fun h => h⟩
theorem DS.cells {w0 wr : World} {hb g s cp : Nat} {xs : List Int} {P : IS → Prop} {m b : Nat} {c x : Int} {q : Nat} (h : DS w0 wr hb (.slice (some ⟨g, 0, none⟩) s cp) xs P m b c) (hs : s = xs.length) (hx : xs[q]? = some x) :
    wr.cell? ⟨b, 0, none⟩ = some (.bool false) ∧ wr.cell? ⟨b, 1, none⟩ = some (.int .i64 c) ∧ wr.cell? ⟨g, q, none⟩ = some (.int .i64 x) := by
  have hp := h.pf
  rw [hs] at hp
  obtain ⟨g', h1, h2⟩ := hp.cell hx
  simp only [Option.some.injEq, Addr.mk.injEq] at h1
  obtain ⟨rfl, -, -⟩ := h1
  exact ⟨cellAt h.at_ 0, cellAt h.at_ 1, h2⟩
theorem DS.num {w0 wr : World} {hb g s cp : Nat} {xs : List Int} {P : IS → Prop} {m b : Nat} {c x : Int} {q : Nat} (h : DS w0 wr hb (.slice (some ⟨g, 0, none⟩) s cp) xs P m b c) (hs : s = xs.length) (hx : xs[q]? = some x) (n : Int) :
    Calls Try.prog 13 #[.int .i64 n] wr fun e w' => e = .returned (.agg #[.bool false, .int .i64 n]) ∧ (w'.cell? ⟨b, 0, none⟩ = some (.bool false) ∧ w'.cell? ⟨b, 1, none⟩ = some (.int .i64 c) ∧ w'.cell? ⟨g, q, none⟩ = some (.int .i64 x)) ∧ Hid (DS w0 w' hb (.slice (some ⟨g, 0, none⟩) s cp) xs P m b c) := by
  refine (num_any wr n).mono ?_
  rintro e w' ⟨rfl, hC⟩
  exact ⟨rfl, (h.still hC).cells hs hx, Lib.hid (h.still hC)⟩
theorem DS.drop {w0 wr : World} {hb g s cp : Nat} {xs held reg queue : List Int} {n y m b : Nat} {k c x : Int} {q : Nat} (h : DS w0 wr hb (.slice (some ⟨g, 0, none⟩) s cp) xs (FO n y held reg queue k) m b c) (hs : s = xs.length) (hx : xs[q]? = some x) :
    Calls Try.prog 11 #[.pointer (some ⟨hb, 0, none⟩), .int .i64 k] wr fun e w' => e = .returned (.int .i64 0) ∧ (w'.cell? ⟨b, 0, none⟩ = some (.bool false) ∧ w'.cell? ⟨b, 1, none⟩ = some (.int .i64 c) ∧ w'.cell? ⟨g, q, none⟩ = some (.int .i64 x)) ∧ Hid (DS w0 w' hb (.slice (some ⟨g, 0, none⟩) s cp) xs (FI n held reg queue) (m + 1) b c) := by
  obtain ⟨I, L, hI, hK, hL⟩ := h.ex
  obtain ⟨J, hf, hJ⟩ := hI.drop
  refine (hK.hp.hp.drop k).mono ?_
  rw [hf]
  rintro e w' ⟨rfl, hG⟩
  have h1 : DS w0 w' hb (.slice (some ⟨g, 0, none⟩) s cp) xs (FI n held reg queue) (m + 1) b c := ⟨⟨J, L, hJ, hK.got hG, hL⟩, hG.chg.at h.at_ fun hn => hn (List.mem_append_right _ hL)⟩
  exact ⟨rfl, h1.cells hs hx, Lib.hid h1⟩

theorem PF.val {w0 wr : World} {hb : Nat} {v : Value} {xs : List Int} {P : IS → Prop} {m : Nat} (h : PF w0 wr hb v xs P m) : ∃ a c, v = .slice a xs.length c := by
  obtain ⟨I, L, _, hK⟩ := h
  obtain ⟨a, c, h1, _⟩ := hK.row.slice
  exact ⟨a, c, h1⟩
theorem FO.keep {n x : Nat} {held reg queue : List Int} {k : Int} {J : IS} (h : FO n x held reg queue k J) : FI n (held ++ [(x : Int)]) reg queue J := h.fi
end Final

set_option maxRecDepth 100000 in
set_option maxHeartbeats 4000000 in
theorem heapFinal_any (w : World) (a0 : Int) (a1 a2 : Option Addr) (n1 c1 n2 c2 : Nat) (z1 z2 : Nat → Int) (h1 : ArgAt w a1 n1 z1) (h2 : ArgAt w a2 n2 z2) :
    Calls Try.prog 6 #[.int .i64 a0, .slice a1 n1 c1, .slice a2 n2 c2] w fun e w' => e = .returned (.bool true) ∧ Chg (fun _ => False) w w' := by
  refine ret_k fun K hK => ?_
  have HK := Lib.hid hK
  clear hK
  have H1 := Lib.hid h1
  have H2 := Lib.hid h2
  clear h1 h2
  obtain ⟨n, hn⟩ : ∃ n : Nat, (n : Int) = a0 % 20 := ⟨(a0 % 20).toNat, by omega⟩
  have hn20 : n < 20 := by omega
  have HM0 : Hid (∀ w, Calls Try.prog 8 #[.int .i64 a0, .int .i64 20] w fun e w' => e = .returned (.int .i64 n) ∧ w = w') := fun w => by rw [hn]; exact mod_any w a0 20 (by omega)
  obtain ⟨r, hr⟩ : ∃ r : Nat → Bool, ∀ i, r i = decide (i < n1 ∧ z1 i % 2 = 1) := ⟨_, fun _ => rfl⟩
  obtain ⟨d, hd⟩ : ∃ d : Nat → Bool, ∀ i, d i = decide (n2 ≤ i ∨ z2 i % 2 = 0) := ⟨_, fun _ => rfl⟩
  have HR := Lib.hid hr
  have HD := Lib.hid hd
  clear hn hr hd
  have HNew := Lib.hid fun w => HB.new w 40 400 (by omega)
  have HSane := Lib.hid (sane_any w)
  go_enter Try.func6, Try.ntmps6
  go_wp2_with fail
  refine HSane.out.mono ?_; rintro e w1 ⟨rfl, hC1⟩
  have HC1 := Lib.hid hC1
  have HA1 := Lib.hid (H1.out.chg hC1)
  have HA2 := Lib.hid (H2.out.chg hC1)
  clear HSane hC1 H1 H2
  go_wp2_with fail
  refine (HM0.out _).mono ?_; rintro e w2 ⟨rfl, rfl⟩
  clear HM0
  go_wp2_with fail
  refine (HNew.out _).mono ?_; rintro e w3 ⟨hb, rfl, hG3⟩
  have HP0 := Lib.hid (PF.start hG3.out)
  clear HNew hG3
  go_wp2
  go_loopw [11, 12] (fun s11 i wr => ∃ (v : Value) (j : Nat), v = s11 ∧ j ≤ n ∧ i = .int .i64 j ∧ Hid (∃ m, m ≤ 10 * j ∧ PF w1 wr hb v (sel (fun i => r i && d i) j) (FI j (sel (fun i => !d i) j) (sel r j) []) m)) (fun _ i _ => n - (intOf i).toNat)
  case atStart => exact ⟨_, 0, rfl, by omega, rfl, Lib.hid ⟨0, by omega, HP0.out⟩⟩
  case round =>
    obtain ⟨v, j, rfl, hj, rfl, HI⟩ := hrel
    clear HP0
    by_cases hlt : j < n
    · obtain ⟨m, hm, hI⟩ := HI.out
      have hl1 := sel_len (fun i => !d i) j
      have hl2 := sel_len r j
      have hl3 := sel_len (fun i => r i && d i) j
      have HMk0 := Lib.hid (hI.make (by omega) (by omega) (by omega))
      have HB1 : Hid (m ≤ 10 * j ∧ j < n ∧ n < 20 ∧ (sel (fun i => !d i) j).length ≤ j ∧ (sel r j).length ≤ j ∧ (sel (fun i => r i && d i) j).length ≤ j) := ⟨hm, hlt, hn20, hl1, hl2, hl3⟩
      have hil : (j : Int) < (n : Int) := by omega
      have hwa : IntKind.i64.wrap (100 + (j : Int)) = 100 + (j : Int) := IntWalk.i64_in _ (by omega)
      clear hI HI hl1 hl2 hl3
      go_wp2_with fail
      refine HMk0.out.mono ?_; rintro e w5 ⟨rfl, HMk⟩
      clear HMk0
      go_wp2_with fail
      refine HMk.out.mono ?_; rintro e w6 ⟨k, rfl, HO⟩
      clear HMk hwa
      obtain ⟨q1, hq1⟩ : ∃ q : Nat, (q : Int) = z1 j % 2 := ⟨(z1 j % 2).toNat, by omega⟩
      obtain ⟨q2, hq2⟩ : ∃ q : Nat, (q : Int) = z2 j % 2 := ⟨(z2 j % 2).toNat, by omega⟩
      have HMq : Hid (∀ w, Calls Try.prog 8 #[.int .i64 (z1 j), .int .i64 2] w fun e w' => e = .returned (.int .i64 q1) ∧ w = w') := fun w => by rw [hq1]; exact mod_any w (z1 j) 2 (by omega)
      have HMp : Hid (∀ w, Calls Try.prog 8 #[.int .i64 (z2 j), .int .i64 2] w fun e w' => e = .returned (.int .i64 q2) ∧ w = w') := fun w => by rw [hq2]; exact mod_any w (z2 j) 2 (by omega)
      have HQ1 : Hid (∀ b : Bool, (b = true ↔ j < n1 ∧ q1 = 1) → b = r j) := fun b hb => by
        rw [HR.out]
        cases b with
        | true => have := hb.1 rfl; exact (decide_eq_true ⟨this.1, by omega⟩).symm
        | false => exact (decide_eq_false fun hc => by have := hb.2 ⟨hc.1, by omega⟩; cases this).symm
      have HQ2 : Hid (∀ b : Bool, (b = true ↔ n2 ≤ j ∨ q2 = 0) → b = d j) := fun b hb => by
        rw [HD.out]
        cases b with
        | true => have := hb.1 rfl; exact (decide_eq_true (by omega)).symm
        | false => exact (decide_eq_false fun hc => by have := hb.2 (by omega); cases this).symm
      have HQ : Hid ((q1 = 0 ∨ q1 = 1) ∧ (q2 = 0 ∨ q2 = 1)) := ⟨by omega, by omega⟩
      clear hq1 hq2
      go_upto_region 13 with fail
      go_cut [15] from 63 to 74 (fun s15 wx => s15 = .bool (r j) ∧ Hid (PF w1 wx hb v (sel (fun i => r i && d i) j) (FO (j + 1) j (sel (fun i => !d i) j) (sel r j) [] k) (m + 1)))
      case first =>
        by_cases g1 : j < n1
        · have g1' : (j : Int) < (n1 : Int) := by omega
          obtain ⟨x1, e1, k1⟩ := HA1.out.get HO.out.chg g1
          subst e1
          rcases HQ.out.1 with rfl | rfl
          · have h := Lib.hid (HQ1.out false (by simp)).symm
            go_wp2_with fail
            refine (HMq.out _).mono ?_; rintro e w8 ⟨rfl, rfl⟩
            go_wp2
            go_meet
            exact ⟨by rw [h.out] <;> (try simp) <;> (try omega), HO⟩
          · have h := Lib.hid (HQ1.out true (by simp [g1])).symm
            go_wp2_with fail
            refine (HMq.out _).mono ?_; rintro e w8 ⟨rfl, rfl⟩
            go_wp2
            go_meet
            exact ⟨by rw [h.out] <;> (try simp) <;> (try omega), HO⟩
        · have g1' : ¬ ((j : Int) < (n1 : Int)) := by omega
          have h := Lib.hid (HQ1.out false (by simp [g1])).symm
          go_wp2
          go_meet
          exact ⟨by rw [h.out] <;> (try simp) <;> (try omega), HO⟩
      case rest =>
        obtain ⟨rfl, HO1⟩ := hcut
        clear HMq HQ1 HO
        go_upto_region 14 with fail
        go_cut [16] from 75 to 86 (fun s16 wx => s16 = .bool (d j) ∧ Hid (PF w1 wx hb v (sel (fun i => r i && d i) j) (FO (j + 1) j (sel (fun i => !d i) j) (sel r j) [] k) (m + 1)))
        case first =>
          by_cases g2 : j < n2
          · have g2' : (j : Int) < (n2 : Int) := by omega
            obtain ⟨x2, e2, k2⟩ := HA2.out.get HO1.out.chg g2
            subst e2
            rcases HQ.out.2 with rfl | rfl
            · have h := Lib.hid (HQ2.out true (by simp)).symm
              go_wp2_with fail
              refine (HMp.out _).mono ?_; rintro e w8 ⟨rfl, rfl⟩
              go_wp2
              go_meet
              exact ⟨by rw [h.out] <;> (try simp) <;> (try omega), HO1⟩
            · have h := Lib.hid (HQ2.out false (by simp; omega)).symm
              go_wp2_with fail
              refine (HMp.out _).mono ?_; rintro e w8 ⟨rfl, rfl⟩
              go_wp2
              go_meet
              exact ⟨by rw [h.out] <;> (try simp) <;> (try omega), HO1⟩
          · have g2' : ¬ ((j : Int) < (n2 : Int)) := by omega
            have h := Lib.hid (HQ2.out true (by simp; omega)).symm
            go_wp2
            go_meet
            exact ⟨by rw [h.out] <;> (try simp) <;> (try omega), HO1⟩
        case rest =>
          obtain ⟨rfl, HO2⟩ := hcut
          clear HMp HQ2 HQ HO1
          obtain ⟨t, ht⟩ : ∃ t : Nat, (j : Int).tmod 3 = (t : Int) := ⟨j % 3, by rw [Int.tmod_eq_emod_of_nonneg (by omega)]; simp⟩
          have htt : t = 0 ∨ t = 1 ∨ t = 2 := by
            have := Int.tmod_lt_of_pos (j : Int) (b := 3) (by omega)
            omega
          have HTT := Lib.hid htt
          have HT := Lib.hid ht
          clear htt ht
          cases hrj : r j <;> cases hdj : d j
          case' false.false =>
            have HZ : Hid (∃ m', m' ≤ 10 * j + 5 ∧ PF w1 wc hb v (sel (fun i => r i && d i) (j + 1)) (FI (j + 1) (sel (fun i => !d i) (j + 1)) (sel r (j + 1)) []) m') := by
              refine ⟨m + 1, by have := HB1.out; omega, ?_⟩
              rw [sel_no (p := fun i => r i && d i) (by simp [hrj]), sel_yes (p := fun i => !d i) (by simp [hdj]), sel_no (p := r) hrj]
              exact HO2.out.mono fun _ h => h.keep
          case' false.true =>
            have HDr := Lib.hid HO2.out.drop
            go_wp2_with fail
            refine HDr.out.mono ?_; rintro e wz ⟨rfl, HO3⟩
            have HZ : Hid (∃ m', m' ≤ 10 * j + 5 ∧ PF w1 wz hb v (sel (fun i => r i && d i) (j + 1)) (FI (j + 1) (sel (fun i => !d i) (j + 1)) (sel r (j + 1)) []) m') := by
              refine ⟨m + 1 + 1, by have := HB1.out; omega, ?_⟩
              rw [sel_no (p := fun i => r i && d i) (by simp [hrj]), sel_no (p := fun i => !d i) (by simp [hdj]), sel_no (p := r) hrj]
              exact HO3.out
            clear HDr HO3
          case' true.false =>
            have HF := Lib.hid (HO2.out.fin sel_new (by have := HB1.out; omega) (by have := HB1.out; simp only [List.length_nil]; omega) (by have := HB1.out; omega))
            go_wp2_with fail
            refine HF.out.mono ?_; rintro e wy ⟨rfl, HO3⟩
            have HF2 := Lib.hid (HO3.out.again (by simp) (by have := HB1.out; omega) (by have := HB1.out; simp only [List.length_nil, List.length_append, List.length_singleton]; omega) (by have := HB1.out; omega))
            clear HF
            go_wp2_with fail
            refine HF2.out.mono ?_; rintro e wz ⟨rfl, HO4⟩
            have HZ : Hid (∃ m', m' ≤ 10 * j + 5 ∧ PF w1 wz hb v (sel (fun i => r i && d i) (j + 1)) (FI (j + 1) (sel (fun i => !d i) (j + 1)) (sel r (j + 1)) []) m') := by
              refine ⟨m + 1 + 1 + 1, by have := HB1.out; omega, ?_⟩
              rw [sel_no (p := fun i => r i && d i) (by simp [hdj]), sel_yes (p := fun i => !d i) (by simp [hdj]), sel_yes (p := r) hrj]
              exact HO4.out.mono fun _ h => h.keep
            clear HF2 HO3 HO4
          case' true.true =>
            have HF := Lib.hid (HO2.out.fin sel_new (by have := HB1.out; omega) (by have := HB1.out; simp only [List.length_nil]; omega) (by have := HB1.out; omega))
            go_wp2_with fail
            refine HF.out.mono ?_; rintro e wy ⟨rfl, HO3⟩
            have HF2 := Lib.hid (HO3.out.again (by simp) (by have := HB1.out; omega) (by have := HB1.out; simp only [List.length_nil, List.length_append, List.length_singleton]; omega) (by have := HB1.out; omega))
            clear HF
            go_wp2_with fail
            refine HF2.out.mono ?_; rintro e wx ⟨rfl, HO4⟩
            obtain ⟨a, cap, w7, happ, HO5⟩ := HO4.out.app (j : Int) (by have := HB1.out; omega)
            have HDr := Lib.hid HO5.out.drop
            clear HF2 HO3 HO4
            go_wp2_with (first | (at_builtin; go_must (refine wpList_val rfl (exec_append rfl (by exact happ)) ?_)))
            refine HDr.out.mono ?_; rintro e wz ⟨rfl, HO6⟩
            have HZ : Hid (∃ m', m' ≤ 10 * j + 5 ∧ PF w1 wz hb (.slice a ((sel (fun i => r i && d i) j).length + 1) cap) (sel (fun i => r i && d i) (j + 1)) (FI (j + 1) (sel (fun i => !d i) (j + 1)) (sel r (j + 1)) []) m') := by
              refine ⟨m + 1 + 1 + 1 + 1, by have := HB1.out; omega, ?_⟩
              rw [sel_yes (p := fun i => r i && d i) (by simp [hrj, hdj]), sel_no (p := fun i => !d i) (by simp [hdj]), sel_yes (p := r) hrj]
              exact HO6.out
            clear HDr HO5 HO6 happ
          all_goals
            clear HO2
            obtain ⟨m9, hm9, h9⟩ := HZ.out
            have HM9 : Hid (m9 ≤ 10 * j + 5) := hm9
            have HMi := Lib.hid (h9.minor (by have := HB1.out; omega))
            have H9 := Lib.hid h9
            have ht := HT.out
            clear h9 hm9 HZ
            rcases HTT.out with rfl | rfl | rfl
            case' inl =>
              clear H9
              go_wp2_with fail
              refine HMi.out.mono ?_; rintro e w9 ⟨rfl, H9⟩
            case' inr.inl => clear HMi
            case' inr.inr => clear HMi
            all_goals
              go_wp2
              go_roundw
              case rel => exact ⟨_, j + 1, rfl, by omega, by go_num, Lib.hid ⟨_, by have := HM9.out; omega, H9.out⟩⟩
              case measure => simp [intOf]; omega
    · obtain rfl : j = n := by omega
      obtain ⟨m, hm, hI⟩ := HI.out
      have HX : Hid ((∀ x ∈ sel (fun i => r i && d i) j, ∃ y : Nat, y < j ∧ x = (y : Int)) ∧ (sel (fun i => r i && d i) j).length ≤ j ∧ (sel (fun i => !d i) j).length ≤ j ∧ (sel (fun i => r i && !d i) j).length ≤ j ∧ ∀ m ∈ sel (fun i => r i && !d i) j, m ∈ sel (fun i => !d i) j) :=
        ⟨fun x hx => (by obtain ⟨y, h1, _, h2⟩ := sel_mem.1 hx; exact ⟨y, h1, h2⟩), sel_len _ _, sel_len _ _, sel_len _ _, fun m hm => (by
          obtain ⟨y, h1, h2, h3⟩ := sel_mem.1 hm
          refine sel_mem.2 ⟨y, h1, ?_, h3⟩
          simp only [Bool.and_eq_true] at h2
          exact h2.2)⟩
      have HMa := Lib.hid (hI.major fun I h => h.major1)
      obtain ⟨a, c, hv⟩ := hI.val
      subst hv
      have HB2 : Hid (m ≤ 10 * j ∧ j < 20) := ⟨hm, hn20⟩
      clear hI HI hm
      generalize sel (fun i => r i && d i) j = xs at *
      generalize sel (fun i => !d i) j = held at *
      generalize sel (fun i => r i && !d i) j = regs at *
      obtain ⟨len, hlen⟩ : ∃ len, len = xs.length := ⟨_, rfl⟩
      have HL := Lib.hid hlen
      rw [← hlen] at HMa ⊢
      clear hlen HR HD hlt
      go_wp2_with fail
      refine HMa.out.mono ?_; rintro e w5 ⟨rfl, HP5⟩
      clear HMa
      go_wp2
      go_loopw [21] (fun i wr => ∃ q : Nat, q ≤ len ∧ i = .int .i64 q ∧ Hid (∃ m, m ≤ 300 + 10 * q ∧ PF w1 wr hb (.slice a len c) xs (FI j held regs (xs.drop q)) m)) (fun i _ => len - (intOf i).toNat)
      case atStart => exact ⟨0, by omega, rfl, Lib.hid ⟨m + 1, by have := HB2.out; omega, HP5.out⟩⟩
      case round =>
        obtain ⟨q, hq, rfl, HI⟩ := hrel
        clear HP5
        by_cases hqlt : q < len
        · obtain ⟨m', hm', hI⟩ := HI.out
          have hqx : q < xs.length := by have := HL.out; omega
          obtain ⟨y, hy, hxy⟩ := HX.out.1 xs[q] (List.getElem_mem hqx)
          have hx : xs[q]? = some (y : Int) := by rw [List.getElem?_eq_getElem hqx, hxy]
          have hdr : xs.drop q = (y : Int) :: xs.drop (q + 1) := by rw [List.drop_eq_getElem_cons hqx, hxy]
          rw [hdr] at hI
          have hcl := hI
          rw [HL.out] at hcl
          obtain ⟨g, hga, _⟩ := hcl.cell hx
          subst hga
          have hl2 : (xs.drop (q + 1)).length ≤ 20 := by rw [List.length_drop]; have := HX.out.2.1; have := HB2.out; omega
          have hlen2 : len ≤ 20 := by have := HL.out; have := HX.out.2.1; have := HB2.out; omega
          have HN := Lib.hid (hI.next hy (by have := HB2.out; omega) (by have := HX.out.2.2; have := HB2.out; omega) (by omega))
          have HBq : Hid (m' ≤ 300 + 10 * q ∧ q < len) := ⟨hm', hqlt⟩
          have Hx := Lib.hid hx
          have hql : (q : Int) < (len : Int) := by omega
          have hwx : IntKind.i64.wrap (100 + (y : Int)) = 100 + (y : Int) := IntWalk.i64_in _ (by have := HB2.out; omega)
          clear hcl hdr hxy hI HI hm' hl2 hqx hx
          go_wp2_with fail
          refine HN.out.mono ?_; rintro e w6 ⟨k, rfl, HO⟩
          clear HN
          have HT := Lib.hid HO.out.tag
          go_wp2_with fail
          refine HT.out.mono ?_; rintro e w7 ⟨rfl, HO7⟩
          clear HT HO
          have HG := Lib.hid HO7.out.get
          go_wp2_with fail
          refine HG.out.mono ?_; rintro e w8 ⟨rfl, HO8⟩
          clear HG HO7
          obtain ⟨b, hb0⟩ : ∃ b, b = w8.heap.size := ⟨_, rfl⟩
          obtain ⟨W8, hW8⟩ : ∃ W, W = w8.alloc (.cells #[.bool false, .int .i64 (100 + (y : Int))] 36) := ⟨_, rfl⟩
          have hS : Hid (DS w1 W8 hb (.slice (some ⟨g, 0, none⟩) len c) xs (FO j y held regs (xs.drop (q + 1)) k) (m' + 1) b (100 + (y : Int))) := by
            rw [hW8, hb0]; exact DS.start HO8.out _
          obtain ⟨q0, q1, q2⟩ := hS.out.cells HL.out Hx.out
          clear HO8
          go_upto_region 33 with fail
          rw [← hb0, ← hW8]
          clear hb0 hW8
          go_cut [201] from 160 to 200 (fun s201 wx => s201 = .bool false ∧ Hid (PF w1 wx hb (.slice (some ⟨g, 0, none⟩) len c) xs (FI j held regs (xs.drop (q + 1))) (m' + 1 + 1)))
          case first =>
            go_region_held3 (fun wx => wx.cell? ⟨b, 0, none⟩ = some (.bool false) ∧ wx.cell? ⟨b, 1, none⟩ = some (.int .i64 (100 + (y : Int))) ∧ wx.cell? ⟨g, q, none⟩ = some (.int .i64 (y : Int)) ∧ Hid (∃ P my, DS w1 wx hb (.slice (some ⟨g, 0, none⟩) len c) xs P my b (100 + (y : Int))))
              (first | exact ⟨q0, q1, q2, Lib.hid ⟨_, _, hS.out⟩⟩ | exact ⟨q0, q1, q2, Lib.hid ⟨_, _, hS.out.still ((Chg.refl _ _).drewN _)⟩⟩)
              (first
                | (go_at_call 13; refine (DS.num (hS.out.still ((Chg.refl _ _).drewN _)) HL.out Hx.out _).mono ?_; rintro e wn ⟨rfl, ⟨q0, q1, q2⟩, hS⟩)
                | (go_at_call 13; refine (DS.num hS.out HL.out Hx.out _).mono ?_; rintro e wn ⟨rfl, ⟨q0, q1, q2⟩, hS⟩)
                | (go_at_call 11; refine (DS.drop hS.out HL.out Hx.out).mono ?_; rintro e wn ⟨rfl, ⟨q0, q1, q2⟩, hS⟩))
            all_goals (go_wp2; go_meet; exact ⟨rfl, Lib.hid hS.out.pf⟩)
          case rest =>
            obtain ⟨rfl, HP9⟩ := hcut
            clear hS q0 q1 q2
            have HMj := Lib.hid (HP9.out.major fun I h => h.major2 HX.out.2.2.2.2)
            clear HP9
            go_wp2_with fail
            refine HMj.out.mono ?_; rintro e w9 ⟨rfl, HP10⟩
            clear HMj
            go_wp2
            go_roundw
            case rel => exact ⟨q + 1, by omega, by go_num, Lib.hid ⟨m' + 1 + 1 + 1, by have := HBq.out; omega, HP10.out⟩⟩
            case measure => simp [intOf]; omega
        · obtain rfl : q = len := by omega
          obtain ⟨m', hm', hI⟩ := HI.out
          have hdr : xs.drop q = [] := by rw [HL.out]; exact List.drop_length
          rw [hdr] at hI
          have hlen2 : q ≤ 20 := by have := HL.out; have := HX.out.2.1; have := HB2.out; omega
          have HN := Lib.hid (hI.done (by have := HB2.out; omega) (by have := HX.out.2.2; have := HB2.out; omega) (by omega))
          clear hI HI hm' hdr
          go_wp2_with fail
          refine HN.out.mono ?_; rintro e w6 ⟨rfl, HC⟩
          have HZ := Lib.hid (HK.out _ _ ⟨rfl, HC1.out.trans HC.out (fun _ _ h => h)⟩)
          clear HN HC HK HC1
          go_wp2
          go_ret
          exact HZ.out

end Go.Proofs.Ytelghmmcbgfjnaa
