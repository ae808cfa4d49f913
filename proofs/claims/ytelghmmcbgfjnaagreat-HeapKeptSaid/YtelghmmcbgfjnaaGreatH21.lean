/-
  tell on a heap that is there: what the ideal heap tells; two heaps in one world. (A part of the proof, joined of: Th, Ti, Yl.)
-/
import Derived.Test.YtelghmmcbgfjnaaGreatH20
/-! tell on a heap that is there: what the ideal heap tells; two heaps in one world. -/
namespace Go.Proofs.YtelghmmcbgfjnaaGreat
open Go.RowKit

/-- All blocks that were made since are not the heap's. -/
theorem HP.allNew {w w1 : World} {hb : Nat} {L : List Nat} {I : IS} {m : Nat} (h : HP w hb L I m) (hC : Chg (fun b => b ∈ L) w w1) : HP w1 hb (L ++ (List.range w1.heap.size).filter fun b => decide (w.heap.size ≤ b)) I m := by
  obtain ⟨g, A, h1, h2, h3, h4⟩ := h
  refine ⟨g, A, h1.frame hC fun b hb => (h4 b hb).2, h2, h3, fun b hb => ?_⟩
  rcases List.mem_append.1 hb with hb | hb
  · exact ⟨Nat.lt_of_lt_of_le (h4 b hb).1 hC.size, (h4 b hb).2⟩
  · obtain ⟨k1, k2⟩ := List.mem_filter.1 hb
    have k3 := List.mem_range.1 k1
    have k4 := of_decide_eq_true k2
    refine ⟨k3, ?_⟩
    cases ho : g.own b with
    | none => rfl
    | some r => have := h1.lt b (by rw [ho]; rfl); omega

theorem Got.still {w w1 w2 : World} {hb : Nat} {L : List Nat} {I : IS} {m : Nat} (h : Got w hb L I m w1) (hC : Chg (fun _ => False) w1 w2) : Got w hb L I m w2 := ⟨h.hp.still hC, h.chg.trans hC fun _ _ h => h.elim⟩

/-- A method called where memory was made since. -/
theorem HP.step {w w1 : World} {hb : Nat} {L : List Nat} {I J : IS} {m m' : Nat} (h : HP w hb L I m) (hC : Chg (fun _ => False) w w1) {f : FuncId} {args : Array Value} {R : Ending → Prop}
    (hcall : ∀ L', HP w1 hb L' I m → Calls Tryz.prog f args w1 fun e w2 => R e ∧ Hid (Got w1 hb L' J m' w2)) : Calls Tryz.prog f args w1 fun e w2 => R e ∧ Keep w.heap.size w1 w2 ∧ Hid (Got w hb L J m' w2) := by
  refine (hcall _ (h.allNew (hC.mono fun _ _ h => h.elim))).mono ?_
  rintro e w2 ⟨he, hG⟩
  refine ⟨he, ⟨hG.out.chg.size, fun b h1 h2 => hG.out.chg.block b h2 fun hn => hn (List.mem_append_right _ (List.mem_filter.2 ⟨List.mem_range.2 h2, decide_eq_true h1⟩))⟩, Lib.hid ⟨hG.out.hp.sub fun b hb => List.mem_append_left _ hb, (hC.mono fun _ _ h => h.elim).trans hG.out.chg fun b hb hn hl => hn (List.mem_append_left _ hl)⟩⟩

noncomputable def IS.tell (I : IS) (q : Nat) (a b : Int) (cs : List Wd) : List Int × IS := match q with
  | 0 => ([(I.make a cs).1, (I.make a cs).2.1], (I.make a cs).2.2)
  | 1 => ([I.table.1, I.table.2.1], I.table.2.2)
  | 2 => ([bitI (I.get a b).1.ref, (I.get a b).1.num, (I.get a b).2.1], (I.get a b).2.2)
  | 3 => ([(I.set a b (opCell b cs)).1], (I.set a b (opCell b cs)).2)
  | 4 => ([(I.put a b (opCell b cs)).1], (I.put a b (opCell b cs)).2)
  | 5 => ([bitI (I.find a b).1.ref, (I.find a b).1.num, bitI (I.find a b).2.1, (I.find a b).2.2.1], (I.find a b).2.2.2)
  | 6 => ([bitI (I.remove a b).1, (I.remove a b).2.1], (I.remove a b).2.2)
  | 9 => ([bitI (I.isTable a).1, (I.isTable a).2], I)
  | 10 => ([bitI (I.same a b).1, (I.same a b).2], I)
  | 11 => ([(I.dup a).1, (I.dup a).2.1], (I.dup a).2.2)
  | 12 => ([(I.drop a).1], (I.drop a).2)
  | 13 => ([bitI (I.fin a).1, (I.fin a).2.1], (I.fin a).2.2)
  | 17 => ([(I.tagOf a).1, (I.tagOf a).2.1, (I.tagOf a).2.2], I)
  | _ => ([], I)

/-- What is told whatever collections there were. -/
def Shown (q : Nat) : Prop := q < 18 ∧ q ≠ 7 ∧ q ≠ 8 ∧ q ≠ 14 ∧ q ≠ 15 ∧ q ≠ 16

def TellQ (w : World) (hb : Nat) (L : List Nat) (r : List Int × IS) (m : Nat) (l : List Int) (w' : World) : Prop := l = r.1 ∧ Got w hb L r.2 m w'
theorem tellQ_ok (w : World) (hb : Nat) (L : List Nat) (r : List Int × IS) (m : Nat) : OkQ (TellQ w hb L r m) := fun _ _ _ h hC => ⟨h.1, h.2.still hC⟩

theorem HP.tells {w : World} {hb : Nat} {L : List Nat} {I : IS} {m : Nat} (h : HP w hb L I m) (ha : Ample I m) (k a b : Int) {x : Option Addr} {n : Nat} (c : Nat) {cs : List Wd} (hcs : CellsAt w x n cs) (hn : n ≤ 8796093021952) {q : Nat} (hq : k % 18 = q) (hS : Shown q) :
    Tells w (.pointer (some ⟨hb, 0, none⟩)) k a b x n c (TellQ w hb L (I.tell q a b cs) (m + 1)) := by
  have hok := tellQ_ok w hb L (I.tell q a b cs) (m + 1)
  have more : ∀ {w w' : World} {L : List Nat} {J : IS}, Got w hb L J m w' → Got w hb L J (m + 1) w' := fun h => ⟨h.hp.more (by omega), h.chg⟩
  obtain ⟨h18, h7, h8, h14, h15, h16⟩ := hS
  match q, h18, h7, h8, h14, h15, h16, hq, hok with
  | 0, _, _, _, _, _, _, hq, hok =>
    refine tell_Make hq hok fun w1 hC => ?_
    refine (h.step hC fun L' h1 => h1.make ha a (hcs.chg0 hC) hn).mono ?_
    rintro e w2 ⟨rfl, hK, hG⟩
    exact ⟨_, _, rfl, hK, Lib.hid ⟨rfl, hG.out⟩⟩
  | 1, _, _, _, _, _, _, hq, hok =>
    refine tell_Table hq hok fun w1 hC => ?_
    refine (h.step hC fun L' h1 => h1.table ha).mono ?_
    rintro e w2 ⟨rfl, hK, hG⟩
    exact ⟨_, _, rfl, hK, Lib.hid ⟨rfl, hG.out⟩⟩
  | 2, _, _, _, _, _, _, hq, hok =>
    refine tell_Get hq hok fun w1 hC => ?_
    refine (h.step hC fun L' h1 => h1.get ha a b).mono ?_
    rintro e w2 ⟨rfl, hK, hG⟩
    exact ⟨_, _, _, rfl, hK, Lib.hid ⟨rfl, hG.out⟩⟩
  | 3, _, _, _, _, _, _, hq, hok =>
    refine tell_Set hq hok hcs fun w1 hC => ?_
    refine (h.step hC fun L' h1 => h1.set a b (opCell b cs)).mono ?_
    rintro e w2 ⟨rfl, hK, hG⟩
    exact ⟨_, rfl, hK, Lib.hid ⟨rfl, more hG.out⟩⟩
  | 4, _, _, _, _, _, _, hq, hok =>
    refine tell_Put hq hok hcs fun w1 hC => ?_
    refine (h.step hC fun L' h1 => h1.put ha a b (opCell b cs)).mono ?_
    rintro e w2 ⟨rfl, hK, hG⟩
    exact ⟨_, rfl, hK, Lib.hid ⟨rfl, hG.out⟩⟩
  | 5, _, _, _, _, _, _, hq, hok =>
    refine tell_Find hq hok fun w1 hC => ?_
    refine (h.step hC fun L' h1 => h1.find ha a b).mono ?_
    rintro e w2 ⟨rfl, hK, hG⟩
    exact ⟨_, _, _, _, rfl, hK, Lib.hid ⟨rfl, hG.out⟩⟩
  | 6, _, _, _, _, _, _, hq, hok =>
    refine tell_Remove hq hok fun w1 hC => ?_
    refine (h.step hC fun L' h1 => h1.remove a b).mono ?_
    rintro e w2 ⟨rfl, hK, hG⟩
    exact ⟨_, _, rfl, hK, Lib.hid ⟨rfl, hG.out⟩⟩
  | 9, _, _, _, _, _, _, hq, hok =>
    refine tell_IsTable hq hok fun w1 hC => ?_
    refine (h.step hC fun L' h1 => h1.isTable a).mono ?_
    rintro e w2 ⟨rfl, hK, hG⟩
    exact ⟨_, _, rfl, hK, Lib.hid ⟨rfl, more hG.out⟩⟩
  | 10, _, _, _, _, _, _, hq, hok =>
    refine tell_Same hq hok fun w1 hC => ?_
    refine (h.step hC fun L' h1 => h1.sameH a b).mono ?_
    rintro e w2 ⟨rfl, hK, hG⟩
    exact ⟨_, _, rfl, hK, Lib.hid ⟨rfl, more hG.out⟩⟩
  | 11, _, _, _, _, _, _, hq, hok =>
    refine tell_Dup hq hok fun w1 hC => ?_
    refine (h.step hC fun L' h1 => h1.dup ha a).mono ?_
    rintro e w2 ⟨rfl, hK, hG⟩
    exact ⟨_, _, rfl, hK, Lib.hid ⟨rfl, hG.out⟩⟩
  | 12, _, _, _, _, _, _, hq, hok =>
    refine tell_Drop hq hok fun w1 hC => ?_
    refine (h.step hC fun L' h1 => h1.drop a).mono ?_
    rintro e w2 ⟨rfl, hK, hG⟩
    exact ⟨_, rfl, hK, Lib.hid ⟨rfl, hG.out⟩⟩
  | 13, _, _, _, _, _, _, hq, hok =>
    refine tell_Finalize hq hok fun w1 hC => ?_
    refine (h.step hC fun L' h1 => h1.fin ha a).mono ?_
    rintro e w2 ⟨rfl, hK, hG⟩
    exact ⟨_, _, rfl, hK, Lib.hid ⟨rfl, hG.out⟩⟩
  | 17, _, _, _, _, _, _, hq, hok =>
    refine tell_Tag hq hok fun w1 hC => ?_
    refine (h.step hC fun L' h1 => h1.tagOf a).mono ?_
    rintro e w2 ⟨rfl, hK, hG⟩
    exact ⟨_, _, _, rfl, hK, Lib.hid ⟨rfl, more hG.out⟩⟩
  | 7, _, h7, _, _, _, _, _, _ => exact absurd rfl h7
  | 8, _, _, h8, _, _, _, _, _ => exact absurd rfl h8
  | 14, _, _, _, h, _, _, _, _ => exact absurd rfl h
  | 15, _, _, _, _, h, _, _, _ => exact absurd rfl h
  | 16, _, _, _, _, _, h, _, _ => exact absurd rfl h
  | q + 18, h18, _, _, _, _, _, _, _ => exact absurd h18 (by omega)

theorem Tw.tell {I J : IS} (h : Tw I J) (hK : Known J) (hKI : Known I) (q : Nat) (a b : Int) (cs : List Wd) : (I.tell q a b cs).1 = (J.tell q a b cs).1 ∧ Tw (I.tell q a b cs).2 (J.tell q a b cs).2 := by
  unfold IS.tell
  split
  · obtain ⟨h1, h2, h3⟩ := h.make hK hKI a cs; exact ⟨by rw [h1, h2], h3⟩
  · obtain ⟨h1, h2, h3⟩ := h.table hK hKI; exact ⟨by rw [h1, h2], h3⟩
  · obtain ⟨h1, h2, h3⟩ := h.get hK a b; exact ⟨by rw [h1, h2], h3⟩
  · obtain ⟨h1, h2⟩ := h.set hK a b (opCell b cs); exact ⟨by rw [h1], h2⟩
  · obtain ⟨h1, h2⟩ := h.put hK a b (opCell b cs); exact ⟨by rw [h1], h2⟩
  · obtain ⟨h1, h2, h3, h4⟩ := h.find hK a b; exact ⟨by rw [h1, h2, h3], h4⟩
  · obtain ⟨h1, h2, h3⟩ := h.remove hK a b; exact ⟨by rw [h1, h2], h3⟩
  · exact ⟨by rw [h.isTable a], h⟩
  · exact ⟨by rw [h.same a b], h⟩
  · obtain ⟨h1, h2, h3⟩ := h.dup hK a; exact ⟨by rw [h1, h2], h3⟩
  · obtain ⟨h1, h2⟩ := h.drop hK a; exact ⟨by rw [h1], h2⟩
  · obtain ⟨h1, h2, h3⟩ := h.fin a; exact ⟨by rw [h1, h2], h3⟩
  · exact ⟨by rw [h.tagOf a], h⟩
  · exact ⟨rfl, h⟩

/-- Behind j operations: not much. -/
structure Small (I : IS) (j : Nat) : Prop where
  nodes : I.nodes.length ≤ j
  hs : I.queue.length + I.hs.length + I.reg.length ≤ j
  ents : ∀ n d, I.nd n = some d → d.ents.length ≤ j
theorem Small.more {I : IS} {j k : Nat} (h : Small I j) (hj : j ≤ k) : Small I k := ⟨by have := h.nodes; omega, by have := h.hs; omega, fun n d hd => by have := h.ents n d hd; omega⟩
theorem Small.ample {I : IS} {j m : Nat} (h : Small I j) (hj : j ≤ 150) (hm : m < 9000) : Ample I m := ⟨hm, by have := h.nodes; omega, by have := h.hs; omega, fun n d hd => by have := h.ents n d hd; omega⟩
theorem Small.start (room : Int) : Small (IS.start room) 0 := by
  refine ⟨by simp [IS.start], by simp [IS.start], fun n d hd => ?_⟩
  unfold IS.nd IS.start at hd
  split at hd
  · simp at hd
  · cases hd

theorem Small.grant {I : IS} {j : Nat} (h : Small I j) (x : Int) : Small (I.grant x) (j + 1) := by
  refine ⟨by have := h.nodes; show I.nodes.length ≤ _; omega, ?_, fun n d hd => by have := h.ents n d hd; omega⟩
  have := h.hs
  show I.queue.length + (I.hs ++ [_]).length + I.reg.length ≤ _
  rw [List.length_append, List.length_singleton]; omega
theorem Small.adds {I : IS} {j : Nat} (h : Small I j) (n : Nat) {d : Nd} (hd : d.ents = []) : Small (I.adds n d).2.2 (j + 1) := by
  unfold IS.adds
  split
  · have h1 : (I.add d).nodes.length = I.nodes.length + 1 := by simp [IS.add]
    have h2 := h.nodes
    have h3 := h.hs
    refine ⟨by show (I.add d).nodes.length ≤ _; omega, ?_, fun m x hx => ?_⟩
    · show I.queue.length + (I.hs ++ [_]).length + I.reg.length ≤ _
      rw [List.length_append, List.length_singleton]; omega
    · have hx' : (I.add d).nd m = some x := hx
      rcases IS.nd_add_cases hx' with ⟨_, rfl⟩ | hx2
      · rw [hd]; simp
      · have := h.ents m x hx2; omega
  · exact h.more (by omega)
theorem Small.setEnts {I : IS} {j : Nat} (h : Small I j) {name : Int} {d : Nd} (hd : I.nd name = some d) (f : List En → List En) (hf : (f d.ents).length ≤ d.ents.length + 1) : Small (I.setEnts name f) (j + 1) := by
  obtain ⟨h0, _, _⟩ := IS.nd_nat hd
  refine ⟨by rw [IS.set_len]; have := h.nodes; omega, by have := h.hs; show I.queue.length + I.hs.length + I.reg.length ≤ _; omega, fun m x hx => ?_⟩
  by_cases e : m = name
  · subst e
    rw [IS.nd_set hd] at hx
    simp only [Option.some.injEq] at hx
    subst hx
    have := h.ents _ _ hd
    show (f d.ents).length ≤ _
    omega
  · rw [IS.nd_set_ne f h0 e] at hx
    have := h.ents m x hx
    omega
theorem Small.setFld {I : IS} {j : Nat} (h : Small I j) {name : Int} {d : Nd} (hd : I.nd name = some d) (i : Nat) (x : Wd) : Small (I.setFld name i x) (j + 1) := by
  refine ⟨by rw [IS.fld_len]; have := h.nodes; omega, by have := h.hs; show I.queue.length + I.hs.length + I.reg.length ≤ _; omega, fun m y hy => ?_⟩
  rcases IS.nd_fld_cases hd hy with ⟨_, rfl⟩ | ⟨_, hy'⟩
  · have := h.ents _ _ hd
    show d.ents.length ≤ _
    omega
  · have := h.ents m y hy'; omega

theorem filter_both (p : Int → Bool) : ∀ l : List Int, (l.filter p).length + (l.filter fun n => !p n).length = l.length
  | [] => rfl
  | x :: l => by
    have := filter_both p l
    cases h : p x <;> simp [h] <;> omega

theorem Small.major {I : IS} {j : Nat} (h : Small I j) : Small I.majored j := by
  refine ⟨by have := h.nodes; simpa [IS.majored] using this, ?_, fun n d hd => ?_⟩
  · have h1 : (I.reg.filter fun n => !dec (IReach I I.roots n)).length + (I.reg.filter fun n => dec (IReach I I.roots n)).length = I.reg.length := by
      rw [Nat.add_comm]; exact filter_both _ _
    have h2 := h.hs
    show (I.queue ++ I.reg.filter fun n => !dec (IReach I I.roots n)).length + I.hs.length + (I.reg.filter fun n => dec (IReach I I.roots n)).length ≤ j
    rw [List.length_append]; omega
  · obtain ⟨d0, h0, rfl⟩ := IS.nd_majored_some hd
    exact h.ents n d0 h0

theorem Small.put {I : IS} {j : Nat} (h : Small I j) (t key : Int) (c : Wd) : Small (I.put t key c).2 (j + 1) := by
  have h1 := h.more (Nat.le_succ j)
  unfold IS.put
  split
  · exact h1
  · split
    · exact h1
    · split
      · split
        · exact h1
        · rename_i d hd
          split
          · split
            · exact h.setEnts hd (fun l => l.map fun x => if KeyIs _ x then ⟨x.key, I.wordC c⟩ else x) (by rw [List.length_map]; omega)
            · split
              · dsimp only
                exact h.setEnts hd _ (by rw [List.length_append]; simp)
              · exact h1
          · exact h1
      · exact h1
theorem IS.tab_nd {I : IS} {t key name kn : Int} {d : Nd} (h : I.tab t key = .inr (name, kn, d)) : I.nd name = some d := by
  unfold IS.tab at h
  split at h
  · cases h
  · split at h
    · cases h
    · split at h
      · cases h
      · split at h
        · rename_i hd _
          simp only [Sum.inr.injEq, Prod.mk.injEq] at h
          obtain ⟨rfl, -, rfl⟩ := h
          exact hd
        · cases h
theorem Small.tell {I : IS} {j : Nat} (h : Small I j) (q : Nat) (a b : Int) (cs : List Wd) : Small (I.tell q a b cs).2 (j + 1) := by
  have h1 := h.more (Nat.le_succ j)
  unfold IS.tell
  split
  · show Small (I.make a cs).2.2 (j + 1)
    unfold IS.make
    split
    · split
      · exact h1
      · exact h.adds _ rfl
    · exact h1
  · exact h.adds _ rfl
  · show Small (I.get a b).2.2 (j + 1)
    unfold IS.get
    split
    · exact h1
    · split
      · exact h1
      · split
        · exact h1
        · split
          · exact h1
          · split
            · exact h1
            · split
              · exact h.grant _
              · exact h1
  · show Small (I.set a b (opCell b cs)).2 (j + 1)
    unfold IS.set
    split
    · exact h1
    · split
      · split
        · exact h1
        · rename_i hd
          split
          · exact h1
          · split
            · exact h1
            · exact h.setFld hd _ _
      · exact h1
  · exact h.put a b _
  · show Small (I.find a b).2.2.2 (j + 1)
    unfold IS.find
    split
    · exact h1
    · split
      · exact h1
      · split
        · exact h.grant _
        · exact h1
  · show Small (I.remove a b).2.2 (j + 1)
    unfold IS.remove
    split
    · exact h1
    · rename_i ht
      split
      · exact h1
      · exact h.setEnts (IS.tab_nd ht) _ (Nat.le_trans (List.length_filter_le _ _) (Nat.le_succ _))
  · exact h1
  · exact h1
  · show Small (I.dup a).2.2 (j + 1)
    unfold IS.dup
    split
    · exact h1
    · exact h.grant _
  · show Small (I.drop a).2 (j + 1)
    unfold IS.drop
    split
    · exact h1
    · refine ⟨by have := h.nodes; show I.nodes.length ≤ _; omega, ?_, fun n d hd => by have := h.ents n d hd; omega⟩
      have h2 := h.hs
      have h3 : (delH I.hs a).length ≤ I.hs.length := List.length_filter_le _ _
      show I.queue.length + (delH I.hs a).length + I.reg.length ≤ _
      omega
  · show Small (I.fin a).2.2 (j + 1)
    unfold IS.fin
    split
    · exact h1
    · split
      · exact h1
      · refine ⟨by have := h.nodes; show I.nodes.length ≤ _; omega, ?_, fun n d hd => by have := h.ents n d hd; omega⟩
        have h2 := h.hs
        show I.queue.length + I.hs.length + (I.reg ++ [_]).length ≤ _
        rw [List.length_append, List.length_singleton]; omega
  · exact h1
  · exact h1

end Go.Proofs.YtelghmmcbgfjnaaGreat

/-! Two heaps in one world; operations that came in; SameInts, shown, and New refusing. -/
namespace Go.Proofs.YtelghmmcbgfjnaaGreat
open Go.RowKit

/-! ### Operations that came in -/

structure OpV where
  kind : Int
  a : Int
  b : Int
  x : Option Addr
  n : Nat
  c : Nat
  cs : List Wd

def OpV.q (o : OpV) : Nat := (o.kind % 18).toNat
theorem OpV.q_eq (o : OpV) : o.kind % 18 = (o.q : Int) := by unfold OpV.q; omega
theorem OpV.q_lt (o : OpV) : o.q < 18 := by unfold OpV.q; omega

structure OpAt (w : World) (p : Addr) (o : OpV) : Prop where
  c0 : w.cell? p = some (.int .i64 o.kind)
  c1 : w.cell? ⟨p.block, p.off + 1, none⟩ = some (.int .i64 o.a)
  c2 : w.cell? ⟨p.block, p.off + 2, none⟩ = some (.int .i64 o.b)
  c3 : w.cell? ⟨p.block, p.off + 3, none⟩ = some (.slice o.x o.n o.c)
  cs : CellsAt w o.x o.n o.cs
  n : o.n ≤ 8796093021952
theorem OpAt.chg0 {w w' : World} {p : Addr} {o : OpV} (h : OpAt w p o) (hC : Chg (fun _ => False) w w') : OpAt w' p o :=
  ⟨cell_chg hC h.c0 fun h => h, cell_chg hC h.c1 fun h => h, cell_chg hC h.c2 fun h => h, cell_chg hC h.c3 fun h => h, h.cs.chg0 hC, h.n⟩
def OpsAt (w : World) (a : Option Addr) (n : Nat) (o : Nat → OpV) : Prop := ∀ i, i < n → ∃ x, a = some x ∧ OpAt w (x.add (i * 4)) (o i)
theorem OpsAt.chg0 {w w' : World} {a : Option Addr} {n : Nat} {o : Nat → OpV} (h : OpsAt w a n o) (hC : Chg (fun _ => False) w w') : OpsAt w' a n o := fun i hi => by
  obtain ⟨x, h1, h2⟩ := h i hi
  exact ⟨x, h1, h2.chg0 hC⟩
/-- The four cells of an operation. -/
abbrev Op4 (w : World) (p : Addr) (o : OpV) : Prop := w.cell? p = some (.int .i64 o.kind) ∧ w.cell? ⟨p.block, p.off + 1, none⟩ = some (.int .i64 o.a) ∧ w.cell? ⟨p.block, p.off + 2, none⟩ = some (.int .i64 o.b) ∧ w.cell? ⟨p.block, p.off + 3, none⟩ = some (.slice o.x o.n o.c)
theorem OpAt.op4 {w : World} {p : Addr} {o : OpV} (h : OpAt w p o) : Op4 w p o := ⟨h.c0, h.c1, h.c2, h.c3⟩

/-! ### shown -/

theorem shown_yes (w : World) (k a b : Int) (x : Option Addr) (n c : Nat) {q : Nat} (hq : k % 18 = q) (hS : Shown q) :
    Calls Tryz.prog 13 #[.agg #[.int .i64 k, .int .i64 a, .int .i64 b, .slice x n c]] w fun e w' => e = .returned (.bool true) ∧ Chg (fun _ => False) w w' := by
  have hW := which_any (w.alloc (.cells #[.int .i64 k, .int .i64 a, .int .i64 b, .slice x n c] 33)) k a b x n c
  rw [hq] at hW
  have HW := Lib.hid hW
  have HC : Hid (Chg (fun _ => False) w (w.alloc (.cells #[.int .i64 k, .int .i64 a, .int .i64 b, .slice x n c] 33))) := (Chg.refl _ _).alloc _
  obtain ⟨_, h7, h8, h14, h15, h16⟩ := hS
  have g7 : ¬ ((q : Int) = 7) := by omega
  have g8 : ¬ ((q : Int) = 8) := by omega
  have g14 : ¬ ((q : Int) = 14) := by omega
  have g15 : ¬ ((q : Int) = 15) := by omega
  have g16 : ¬ ((q : Int) = 16) := by omega
  clear hW hq h7 h8 h14 h15 h16
  go_enter Tryz.func13, Tryz.ntmps13
  go_wp2_with fail
  refine HW.out.mono ?_; rintro e w1 ⟨rfl, hC1⟩
  have HZ := Lib.hid (HC.out.trans hC1 fun _ _ h => h)
  clear hC1 HW HC
  go_wp2
  go_ret
  exact ⟨by simp [g7, g8, g14, g15, g16], HZ.out⟩
theorem shown_no (w : World) (k a b : Int) (x : Option Addr) (n c : Nat) (hq : k % 18 = 7 ∨ k % 18 = 8 ∨ k % 18 = 14 ∨ k % 18 = 15 ∨ k % 18 = 16) :
    Calls Tryz.prog 13 #[.agg #[.int .i64 k, .int .i64 a, .int .i64 b, .slice x n c]] w fun e w' => e = .returned (.bool false) ∧ Chg (fun _ => False) w w' := by
  have hW := which_any (w.alloc (.cells #[.int .i64 k, .int .i64 a, .int .i64 b, .slice x n c] 33)) k a b x n c
  have HC : Hid (Chg (fun _ => False) w (w.alloc (.cells #[.int .i64 k, .int .i64 a, .int .i64 b, .slice x n c] 33))) := (Chg.refl _ _).alloc _
  rcases hq with hq | hq | hq | hq | hq
  all_goals
    rw [hq] at hW
    have HW := Lib.hid hW
    clear hW hq
    go_enter Tryz.func13, Tryz.ntmps13
    go_wp2_with fail
    refine HW.out.mono ?_; rintro e w1 ⟨rfl, hC1⟩
    have HZ := Lib.hid (HC.out.trans hC1 fun _ _ h => h)
    clear hC1 HW HC
    go_wp2
    go_ret
    exact ⟨rfl, HZ.out⟩
theorem not_shown {q : Nat} (h18 : q < 18) (h : ¬ Shown q) : q = 7 ∨ q = 8 ∨ q = 14 ∨ q = 15 ∨ q = 16 := by
  unfold Shown at h
  omega

/-! ### SameInts at equal rows -/

set_option maxRecDepth 100000 in
set_option maxHeartbeats 1000000 in
theorem sameInts_eq (w : World) {v v' : Value} {l : List Int} (h : Row w 3 1 v l.length (intCells l)) (h' : Row w 3 1 v' l.length (intCells l)) :
    Calls Tryz.prog 14 #[v, v'] w fun e w' => e = .returned (.bool true) ∧ Chg (fun _ => False) w w' := by
  refine ret_k fun K hK => ?_
  have HK := Lib.hid hK
  obtain ⟨a, c, rfl, _, hle, _⟩ := h.slice
  obtain ⟨a', c', rfl, _, hle', _⟩ := h'.slice
  have HC1 : Hid (∀ j, j < l.length → ∀ w', Chg (fun _ => False) w w' → ∃ g, a = some ⟨g, 0, none⟩ ∧ w'.cell? ⟨g, j, none⟩ = some (.int .i64 (l.getD j 0))) := fun j hj w' hC => by
    obtain ⟨g, h1, _, h2⟩ := h.cells (by omega)
    have hc := h2 j (.int .i64 (l.getD j 0)) (by simp [intCells, List.getElem?_eq_getElem hj, List.getD_eq_getElem?_getD])
    exact ⟨g, h1, cell_chg hC hc fun h => h⟩
  have HC2 : Hid (∀ j, j < l.length → ∀ w', Chg (fun _ => False) w w' → ∃ g, a' = some ⟨g, 0, none⟩ ∧ w'.cell? ⟨g, j, none⟩ = some (.int .i64 (l.getD j 0))) := fun j hj w' hC => by
    obtain ⟨g, h1, _, h2⟩ := h'.cells (by omega)
    have hc := h2 j (.int .i64 (l.getD j 0)) (by simp [intCells, List.getElem?_eq_getElem hj, List.getD_eq_getElem?_getD])
    exact ⟨g, h1, cell_chg hC hc fun h => h⟩
  have hmax : l.length ≤ 9223372036854775807 := by
    have := h.2.1
    unfold maxLen at this
    omega
  have HMx := Lib.hid hmax
  clear hK h h' hle hle' hmax
  obtain ⟨len, hlen⟩ : ∃ len, len = l.length := ⟨_, rfl⟩
  rw [← hlen] at HC1 HC2 HMx ⊢
  clear hlen
  go_enter Tryz.func14, Tryz.ntmps14
  go_wp2
  go_loopw [5] (fun i wr => ∃ j : Nat, j ≤ len ∧ i = .int .i64 j ∧ Hid (Chg (fun _ => False) w wr)) (fun i _ => len - (intOf i).toNat)
  case atStart => exact ⟨0, by omega, rfl, Lib.hid (Chg.refl _ _)⟩
  case round =>
    obtain ⟨j, hj, rfl, HC⟩ := hrel
    by_cases hlt : j < len
    · obtain ⟨g, e1, k1⟩ := HC1.out j hlt wr HC.out
      obtain ⟨g', e2, k2⟩ := HC2.out j hlt wr HC.out
      subst e1 e2
      have hl2 : (j : Int) < (len : Int) := by omega
      have hwj : IntKind.i64.wrap ((j : Int) + 1) = (j : Int) + 1 := IntWalk.i64_in _ (by have := HMx.out; omega)
      generalize l.getD j 0 = z at *
      go_upto_region 6 with fail
      go_region
      have HC3 : Hid (∀ k, Chg (fun _ => False) w (wr.drewN k)) := fun k => HC.out.drewN k
      clear k1 k2
      go_wp2
      go_roundw
      case rel => exact ⟨j + 1, by omega, by go_num, Lib.hid (by first | exact HC3.out _ | exact HC.out.drew | exact HC.out)⟩
      case measure => simp [intOf]; omega
    · obtain rfl : j = len := by omega
      have HZ := Lib.hid (HK.out _ _ ⟨rfl, HC.out⟩)
      clear HC1 HC2 HK
      go_wp2
      go_ret
      exact HZ.out

/-! ### New refuses -/

set_option maxHeartbeats 1000000 in
theorem new_no (w : World) (young old : Int) (h : young < 4 ∨ 60000 < young ∨ old < 4 ∨ 60000 < old) :
    Calls Tryz.prog 9 #[.int .i64 young, .int .i64 old] w fun e w' => e = .returned (.tuple #[.pointer none, .int .i64 1]) ∧ Chg (fun _ => False) w w' := by
  have HC : Hid (Chg (fun _ => False) w w) := Chg.refl _ _
  by_cases h1 : young < 4
  · clear h
    go_enter Tryz.func9, Tryz.ntmps9
    go_wp2
    go_ret2
    exact ⟨rfl, HC.out⟩
  · by_cases h2 : 60000 < young
    · clear h
      go_enter Tryz.func9, Tryz.ntmps9
      go_wp2
      go_ret2
      exact ⟨rfl, HC.out⟩
    · by_cases h3 : old < 4
      · clear h
        go_enter Tryz.func9, Tryz.ntmps9
        go_wp2
        go_ret2
        exact ⟨rfl, HC.out⟩
      · have h4 : 60000 < old := by omega
        clear h
        go_enter Tryz.func9, Tryz.ntmps9
        go_wp2
        go_ret2
        exact ⟨rfl, HC.out⟩

/-! ### Two heaps -/

structure Duo (w0 w : World) (a b : Nat) (La Lb : List Nat) (I J : IS) (m : Nat) : Prop where
  ha : HP w a (List.range w0.heap.size ++ La) I m
  hb : HP w b (List.range w0.heap.size ++ Lb) J m
  cover : ∀ k, w0.heap.size ≤ k → k < w.heap.size → k ∈ La ∨ k ∈ Lb
  chg : Chg (fun _ => False) w0 w

theorem Duo.swap {w0 w : World} {a b : Nat} {La Lb : List Nat} {I J : IS} {m : Nat} (h : Duo w0 w a b La Lb I J m) : Duo w0 w b a Lb La J I m := ⟨h.hb, h.ha, fun k h1 h2 => (h.cover k h1 h2).symm, h.chg⟩

/-- The blocks made since. -/
def since (w w' : World) : List Nat := (List.range w'.heap.size).filter fun b => decide (w.heap.size ≤ b)
theorem mem_since {w w' : World} {k : Nat} : k ∈ since w w' ↔ w.heap.size ≤ k ∧ k < w'.heap.size := by
  unfold since
  rw [List.mem_filter, List.mem_range, decide_eq_true_eq]
  exact And.comm

/-- The first heap changed. -/
theorem Duo.got {w0 w w' : World} {a b : Nat} {La Lb : List Nat} {I J I' : IS} {m m' : Nat} (h : Duo w0 w a b La Lb I J m) (hG : Got w a (List.range w0.heap.size ++ La) I' m' w') (hm : m ≤ m') : Duo w0 w' a b La (Lb ++ since w w') I' J m' := by
  have hC : Chg (fun k => k ∈ List.range w0.heap.size ++ Lb) w w' := hG.chg.mono fun k hk hn => by
    rw [List.mem_append, not_or] at hn
    by_cases hlo : w0.heap.size ≤ k
    · exact List.mem_append_right _ ((h.cover k hlo hk).resolve_left hn.2)
    · exact absurd (List.mem_range.2 (by omega)) hn.1
  refine ⟨hG.hp, (h.hb.allNew hC).sub (fun k hk => ?_) |>.more hm, fun k h1 h2 => ?_, h.chg.trans hG.chg fun k hk hn => hn (List.mem_append_left _ (List.mem_range.2 hk))⟩
  · rcases List.mem_append.1 hk with hk | hk
    · exact List.mem_append_left _ (List.mem_append_left _ hk)
    · rcases List.mem_append.1 hk with hk | hk
      · exact List.mem_append_left _ (List.mem_append_right _ hk)
      · exact List.mem_append_right _ hk
  · by_cases hk : k < w.heap.size
    · rcases h.cover k h1 hk with h3 | h3
      · exact .inl h3
      · exact .inr (List.mem_append_left _ h3)
    · exact .inr (List.mem_append_right _ (mem_since.2 ⟨by omega, h2⟩))

theorem Duo.still {w0 w w' : World} {a b : Nat} {La Lb : List Nat} {I J : IS} {m : Nat} (h : Duo w0 w a b La Lb I J m) (hC : Chg (fun _ => False) w w') : Duo w0 w' a b La (Lb ++ since w w') I J m := h.got ⟨h.ha.still hC, hC.mono fun _ _ h => h.elim⟩ (Nat.le_refl _)

/-- Two heaps, whatever blocks. -/
def D0 (w0 w : World) (a b : Nat) (I J : IS) (m : Nat) : Prop := ∃ La Lb, Duo w0 w a b La Lb I J m
theorem D0.chg {w0 w : World} {a b : Nat} {I J : IS} {m : Nat} (h : D0 w0 w a b I J m) : Chg (fun _ => False) w0 w := by obtain ⟨La, Lb, h⟩ := h; exact h.chg
theorem D0.still {w0 w w' : World} {a b : Nat} {I J : IS} {m : Nat} (h : D0 w0 w a b I J m) (hC : Chg (fun _ => False) w w') : D0 w0 w' a b I J m := by obtain ⟨La, Lb, h⟩ := h; exact ⟨_, _, h.still hC⟩
/-- Behind the first tell. -/
def D1 (w0 w : World) (a b : Nat) (I J : IS) (m : Nat) (v : Value) (l : List Int) : Prop := ∃ La Lb, Duo w0 w a b La Lb I J m ∧ Row w 3 1 v l.length (intCells l) ∧ ∀ k, rowBlk v = some k → k ∈ Lb
/-- Behind both. -/
def D2 (w0 w : World) (a b : Nat) (I J : IS) (m : Nat) (v v' : Value) (l l' : List Int) : Prop := D0 w0 w a b I J m ∧ Row w 3 1 v l.length (intCells l) ∧ Row w 3 1 v' l'.length (intCells l')

theorem D0.tellA {w0 w : World} {a b : Nat} {I J : IS} {m : Nat} (h : D0 w0 w a b I J m) (ha : Ample I m) {p : Addr} {o : OpV} (ho : OpAt w0 p o) (hS : Shown o.q) :
    Calls Tryz.prog 15 #[.pointer (some ⟨a, 0, none⟩), .agg #[.int .i64 o.kind, .int .i64 o.a, .int .i64 o.b, .slice o.x o.n o.c]] w fun e w' => ∃ v, e = .returned v ∧ Op4 w' p o ∧ Hid (D1 w0 w' a b (I.tell o.q o.a o.b o.cs).2 J (m + 1) v (I.tell o.q o.a o.b o.cs).1) := by
  obtain ⟨La, Lb, h⟩ := h
  refine (h.ha.tells ha o.kind o.a o.b o.c (ho.cs.chg0 h.chg) ho.n o.q_eq hS).mono ?_
  rintro e w' ⟨v, l, rfl, hsz, hI, hQ⟩
  obtain ⟨rfl, hG⟩ := hQ.out
  have h2 := h.got hG (Nat.le_succ m)
  exact ⟨v, rfl, (ho.chg0 h2.chg).op4, Lib.hid ⟨_, _, h2, hI.row, fun k hk => List.mem_append_right _ (mem_since.2 ⟨hI.new k hk, hI.row.lt hk⟩)⟩⟩
theorem D1.tellB {w0 w : World} {a b : Nat} {I J : IS} {m : Nat} {v : Value} {l : List Int} (h : D1 w0 w a b I J m v l) (hJ : Ample J m) {p : Addr} {o : OpV} (ho : OpAt w0 p o) (hS : Shown o.q) :
    Calls Tryz.prog 15 #[.pointer (some ⟨b, 0, none⟩), .agg #[.int .i64 o.kind, .int .i64 o.a, .int .i64 o.b, .slice o.x o.n o.c]] w fun e w' => ∃ v', e = .returned v' ∧ Op4 w' p o ∧ Hid (D2 w0 w' a b I (J.tell o.q o.a o.b o.cs).2 (m + 1) v v' l (J.tell o.q o.a o.b o.cs).1) := by
  obtain ⟨La, Lb, h, hrow, hin⟩ := h
  refine (h.hb.tells hJ o.kind o.a o.b o.c (ho.cs.chg0 h.chg) ho.n o.q_eq hS).mono ?_
  rintro e w' ⟨v', l', rfl, hsz, hI, hQ⟩
  obtain ⟨rfl, hG⟩ := hQ.out
  have h2 := (h.swap.got hG (Nat.le_succ m)).swap
  exact ⟨v', rfl, (ho.chg0 h2.chg).op4, Lib.hid ⟨⟨_, _, h2⟩, hrow.same fun k hk => hG.chg.block k (hrow.lt hk) fun hn => hn (List.mem_append_right _ (hin k hk)), hI.row⟩⟩
theorem D2.same {w0 w : World} {a b : Nat} {I J : IS} {m : Nat} {v v' : Value} {l l' : List Int} (h : D2 w0 w a b I J m v v' l l') (e : l = l') {p : Addr} {o : OpV} (ho : OpAt w0 p o) :
    Calls Tryz.prog 14 #[v, v'] w fun e w' => e = .returned (.bool true) ∧ Op4 w' p o ∧ Hid (D0 w0 w' a b I J m) := by
  subst e
  refine (sameInts_eq w h.2.1 h.2.2).mono ?_
  rintro e w' ⟨rfl, hC⟩
  have h2 := h.1.still hC
  exact ⟨rfl, (ho.chg0 h2.chg).op4, Lib.hid h2⟩
theorem D0.shown {w0 w : World} {a b : Nat} {I J : IS} {m : Nat} (h : D0 w0 w a b I J m) {p : Addr} {o : OpV} (ho : OpAt w0 p o) (hS : Shown o.q) :
    Calls Tryz.prog 13 #[.agg #[.int .i64 o.kind, .int .i64 o.a, .int .i64 o.b, .slice o.x o.n o.c]] w fun e w' => e = .returned (.bool true) ∧ Op4 w' p o ∧ Hid (D0 w0 w' a b I J m) := by
  refine (shown_yes w o.kind o.a o.b o.x o.n o.c o.q_eq hS).mono ?_
  rintro e w' ⟨rfl, hC⟩
  have h2 := h.still hC
  exact ⟨rfl, (ho.chg0 h2.chg).op4, Lib.hid h2⟩
theorem D0.notShown {w0 w : World} {a b : Nat} {I J : IS} {m : Nat} (h : D0 w0 w a b I J m) {p : Addr} {o : OpV} (ho : OpAt w0 p o) (hS : ¬ Shown o.q) :
    Calls Tryz.prog 13 #[.agg #[.int .i64 o.kind, .int .i64 o.a, .int .i64 o.b, .slice o.x o.n o.c]] w fun e w' => e = .returned (.bool false) ∧ Op4 w' p o ∧ Hid (D0 w0 w' a b I J m) := by
  refine (shown_no w o.kind o.a o.b o.x o.n o.c (by rw [o.q_eq]; have := not_shown o.q_lt hS; omega)).mono ?_
  rintro e w' ⟨rfl, hC⟩
  have h2 := h.still hC
  exact ⟨rfl, (ho.chg0 h2.chg).op4, Lib.hid h2⟩
theorem D0.minorB {w0 w : World} {a b : Nat} {I J : IS} {m : Nat} (h : D0 w0 w a b I J m) (hm : m < 9000) :
    Calls Tryz.prog 11 #[.pointer (some ⟨b, 0, none⟩)] w fun e w' => e = .returned (.tuple #[]) ∧ Hid (D0 w0 w' a b I J (m + 1)) := by
  obtain ⟨La, Lb, h⟩ := h
  refine (h.hb.minor hm).mono ?_
  rintro e w' ⟨rfl, hG⟩
  exact ⟨rfl, Lib.hid ⟨_, _, (h.swap.got hG.out (Nat.le_succ m)).swap⟩⟩
theorem D0.majorB {w0 w : World} {a b : Nat} {I J : IS} {m : Nat} (h : D0 w0 w a b I J m) :
    Calls Tryz.prog 12 #[.pointer (some ⟨b, 0, none⟩)] w fun e w' => e = .returned (.tuple #[]) ∧ Hid (D0 w0 w' a b I J.majored (m + 1)) := by
  obtain ⟨La, Lb, h⟩ := h
  refine h.hb.major.mono ?_
  rintro e w' ⟨rfl, hG⟩
  exact ⟨rfl, Lib.hid ⟨_, _, (h.swap.got hG.out (Nat.le_succ m)).swap⟩⟩
theorem D0.known {w0 w : World} {a b : Nat} {I J : IS} {m : Nat} (h : D0 w0 w a b I J m) : Known I ∧ Known J := by
  obtain ⟨La, Lb, h⟩ := h
  exact ⟨h.ha.known, h.hb.known⟩

/-- A second heap beside a first. -/
theorem D0.start {w0 w : World} {a : Nat} {old : Int} (h : HB w0 w a [] (IS.start old) 0) (ho : 4 ≤ old ∧ old ≤ 60000) :
    Calls Tryz.prog 9 #[.int .i64 30, .int .i64 old] w fun e w' => ∃ b, e = .returned (.tuple #[.pointer (some ⟨b, 0, none⟩), .int .i64 0]) ∧ Hid (D0 w0 w' a b (IS.start old) (IS.start old) 0) := by
  refine (HP.new w 30 old (by omega) (L := List.range w0.heap.size ++ since w0 w) (fun k hk => ?_)).mono ?_
  · have := h.chg.size
    rcases List.mem_append.1 hk with hk | hk
    · have := List.mem_range.1 hk; omega
    · exact (mem_since.1 hk).2
  · rintro e w' ⟨b, rfl, hG⟩
    have hC : Chg (fun k => k ∈ List.range w0.heap.size ++ []) w w' ∨ True := .inr trivial
    refine ⟨b, rfl, Lib.hid ⟨since w w', since w0 w, ?_, hG.out.hp, fun k h1 h2 => ?_, h.chg.trans hG.out.chg fun k hk hn => hn (List.mem_append_left _ (List.mem_range.2 hk))⟩⟩
    · have h3 : Chg (fun _ => False) w w' := hG.out.chg.mono fun k hk hn => by
        refine hn ?_
        by_cases hlo : k < w0.heap.size
        · exact List.mem_append_left _ (List.mem_range.2 hlo)
        · exact List.mem_append_right _ (mem_since.2 ⟨by omega, hk⟩)
      refine (h.hp.allNew (h3.mono fun _ _ h => h.elim)).sub fun k hk => ?_
      rcases List.mem_append.1 hk with hk | hk
      · exact List.mem_append_left _ (List.mem_append_left _ hk)
      · exact List.mem_append_right _ hk
    · by_cases hk : k < w.heap.size
      · exact .inr (mem_since.2 ⟨h1, hk⟩)
      · exact .inl (mem_since.2 ⟨by omega, h2⟩)

/-! ### A region whose guard is false behind its first call -/

theorem wp_region_quiet_cls {P : Program} {id : Nat} {Q : Exit → Act → World → Prop} {a : Act} {w : World} {l : List Oper} {C : World → Prop} (hm : P.follows .mixedOrders = true) (hB : Region.lexB .any l.toArray = true) (hC : C (w.drewN 1))
    (h : wpQuiet P l.toArray C (fun a' => ∀ w', C w' → Q .normal a' w') l a) : (Code.region id l.toArray true).wp P Q a w :=
  wp_region_quiet (C := C) hm hB hC (by simpa using h)

/-- The worlds that such a region passes. -/
structure NoC (w0 wc wx : World) (p : Addr) (o : OpV) : Prop where
  chg : Chg (fun _ => False) wc wx
  low : Chg (fun _ => False) w0 wx
  op : OpAt w0 p o
theorem NoC.start {w0 wc : World} {p : Addr} {o : OpV} (h : OpAt w0 p o) (hC : Chg (fun _ => False) w0 wc) : NoC w0 wc (wc.drewN 1) p o := ⟨(Chg.refl _ _).drewN 1, hC.drewN 1, h⟩
theorem NoC.op4 {w0 wc wx : World} {p : Addr} {o : OpV} (h : NoC w0 wc wx p o) : Op4 wx p o := (h.op.chg0 h.low).op4
theorem NoC.call {w0 wc wx : World} {p : Addr} {o : OpV} (h : NoC w0 wc wx p o) (hS : ¬ Shown o.q) :
    Calls Tryz.prog 13 #[.agg #[.int .i64 o.kind, .int .i64 o.a, .int .i64 o.b, .slice o.x o.n o.c]] wx fun e w' => e = .returned (.bool false) ∧ NoC w0 wc w' p o := by
  refine (shown_no wx o.kind o.a o.b o.x o.n o.c (by rw [o.q_eq]; have := not_shown o.q_lt hS; omega)).mono ?_
  rintro e w' ⟨rfl, hC⟩
  exact ⟨rfl, h.chg.trans hC fun _ _ h => h, h.low.trans hC fun _ _ h => h, h.op⟩

end Go.Proofs.YtelghmmcbgfjnaaGreat

/-! The function sane returns true. -/
namespace Go.Proofs.YtelghmmcbgfjnaaGreat
open Go.RowKit

theorem HB.new (w : World) (young old : Int) (h : 4 ≤ young ∧ young ≤ 60000 ∧ 4 ≤ old ∧ old ≤ 60000) :
    Calls Tryz.prog 9 #[.int .i64 young, .int .i64 old] w fun e w' => ∃ hb, e = .returned (.tuple #[.pointer (some ⟨hb, 0, none⟩), .int .i64 0]) ∧ Hid (HB w w' hb [] (IS.start old) 0) := by
  refine (HP.new w young old h (L := List.range w.heap.size) (fun b hb => List.mem_range.1 hb)).mono ?_
  rintro e w' ⟨hb, rfl, hG⟩
  refine ⟨hb, rfl, Lib.hid ⟨hG.out.hp.sub (by simp), hG.out.chg.mono fun j hj hn => hn (List.mem_range.2 hj)⟩⟩

set_option maxRecDepth 100000 in
set_option maxHeartbeats 4000000 in
theorem sane_any (w : World) :
    Calls Tryz.prog 8 #[] w fun e w' => e = .returned (.bool true) ∧ Chg (fun _ => False) w w' := by
  refine ret_k fun K hK => ?_
  have HK := Lib.hid hK
  clear hK
  have HNew := Lib.hid (HB.new w 20 40 (by omega))
  go_enter Tryz.func8, Tryz.ntmps8
  go_wp2_with fail
  refine HNew.out.mono ?_; rintro e w1 ⟨hb, rfl, hG1⟩
  clear HNew
  have H1 := Lib.hid (Sane.c_make1 hG1.out (by omega))
  clear hG1
  go_wp2_with fail
  refine H1.out.mono ?_; rintro e w2 ⟨rfl, hG2⟩
  have H2 := Lib.hid (Sane.c_table hG2.out (by omega))
  clear H1 hG2
  go_wp2_with fail
  refine H2.out.mono ?_; rintro e w3 ⟨rfl, hG3⟩
  have H3 := Lib.hid (HB.num hG3.out 5)
  clear H2 hG3
  go_wp2_with fail
  refine H3.out.mono ?_; rintro e w4 ⟨rfl, hG4⟩
  have H4 := Lib.hid (Sane.c_put hG4.out (by omega))
  clear H3 hG4
  go_wp2_with fail
  refine H4.out.mono ?_; rintro e w5 ⟨rfl, hG5⟩
  have H5 := Lib.hid (Sane.c_find hG5.out (by omega))
  clear H4 hG5
  go_wp2_with fail
  refine H5.out.mono ?_; rintro e w6 ⟨rfl, hG6⟩
  have hS6 := Lib.hid (SP.make hG6.out ⟨false, 5⟩)
  clear H5 hG6
  obtain ⟨b, hb0⟩ : ∃ b, b = w6.heap.size := ⟨_, rfl⟩
  obtain ⟨W8, hW8⟩ : ∃ W8, W8 = w6.alloc (.cells #[.bool false, .int .i64 5] 54) := ⟨_, rfl⟩
  rw [← hb0, ← hW8] at hS6
  have hS := hS6
  obtain ⟨q0, q1⟩ := hS6.out.c0
  simp only [] at q0 q1
  clear hS6
  go_upto_region 8 with fail
  rw [← hb0, ← hW8]
  clear hb0 hW8
  go_cut [84] from 50 to 83 (fun s84 wx => s84 = .bool false ∧ Hid (SP w wx hb b ⟨false, 5⟩ Sane.I3 4))
  case first =>
    go_region_held3 (fun wx => wx.cell? ⟨b, 0, none⟩ = some (.bool false) ∧ wx.cell? ⟨b, 1, none⟩ = some (.int .i64 5) ∧ Hid (SP w wx hb b ⟨false, 5⟩ Sane.I3 4))
      (first | exact ⟨q0, q1, hS⟩ | exact ⟨q0, q1, Lib.hid (hS.out.drewN _)⟩ | exact ⟨q0, q1, Lib.hid ((hS.out.drewN _).drewN _)⟩)
      (first
        | (go_at_call 26; refine (SP.num (SP.drewN hS.out _) _).mono ?_; rintro e wn ⟨rfl, ⟨q0, q1⟩, hS⟩)
        | (go_at_call 26; refine (SP.num hS.out _).mono ?_; rintro e wn ⟨rfl, ⟨q0, q1⟩, hS⟩)
        | (go_at_call 20; refine (SP.used hS.out Sane.I3_words Sane.I3_here).mono ?_; rintro e wn ⟨rfl, ⟨q0, q1⟩, hS⟩)
        | (go_at_call 28; refine (Sane.c_set hS.out).mono ?_; rintro e wn ⟨rfl, ⟨q0, q1⟩, hS⟩))
    all_goals (go_wp2; go_meet; exact ⟨rfl, hS⟩)
  case rest =>
    obtain ⟨rfl, hS9⟩ := hcut
    clear hS q0 q1
    have HA := Lib.hid (HB.ref hS9.out.hp 0)
    go_wp2_with fail
    refine HA.out.mono ?_; rintro e w9 ⟨rfl, hG9⟩
    have HB1 := Lib.hid (HB.num hG9.out 7)
    clear HA hG9 hS9
    go_wp2_with fail
    refine HB1.out.mono ?_; rintro e w10 ⟨rfl, hG10⟩
    clear HB1
    have HC1 := Lib.hid (Sane.c_make2 (HB.alloc hG10.out (.cells #[.bool true, .int .i64 0, .bool false, .int .i64 7] 54)) (by omega) (heap_alloc_new w10 _))
    clear hG10
    go_wp2_with fail
    refine HC1.out.mono ?_; rintro e w11 ⟨rfl, hG11⟩
    have HD1 := Lib.hid (Sane.c_drop1 hG11.out)
    clear HC1 hG11
    go_wp2_with fail
    refine HD1.out.mono ?_; rintro e w12 ⟨rfl, hG12⟩
    have HE1 := Lib.hid (Sane.c_major1 hG12.out)
    clear HD1 hG12
    go_wp2_with fail
    refine HE1.out.mono ?_; rintro e w13 ⟨rfl, hG13⟩
    have HF1 := Lib.hid (Sane.c_count1 hG13.out)
    clear HE1 hG13
    go_wp2_with fail
    refine HF1.out.mono ?_; rintro e w14 ⟨rfl, hG14⟩
    have HG1 := Lib.hid (Sane.c_get hG14.out (by omega))
    clear HF1 hG14
    go_wp2_with fail
    refine HG1.out.mono ?_; rintro e w15 ⟨rfl, hG15⟩
    clear HG1
    have hS15 := Lib.hid (SP.make hG15.out ⟨true, 0⟩)
    clear hG15
    obtain ⟨b2, hb2⟩ : ∃ b2, b2 = w15.heap.size := ⟨_, rfl⟩
    obtain ⟨W15, hW15⟩ : ∃ W15, W15 = w15.alloc (.cells #[.bool true, .int .i64 0] 54) := ⟨_, rfl⟩
    rw [← hb2, ← hW15] at hS15
    have hS := hS15
    obtain ⟨q0, q1⟩ := hS15.out.c0
    simp only [] at q0 q1
    clear hS15
    go_upto_region 15 with fail
    rw [← hb2, ← hW15]
    clear hb2 hW15
    go_cut [129] from 111 to 128 (fun s129 wx => s129 = .bool false ∧ Hid (∃ m, m < 9000 ∧ SP w wx hb b2 ⟨true, 0⟩ Sane.I7 m))
    case first =>
      go_region_held3 (fun wx => wx.cell? ⟨b2, 0, none⟩ = some (.bool true) ∧ wx.cell? ⟨b2, 1, none⟩ = some (.int .i64 0) ∧ Hid (SP w wx hb b2 ⟨true, 0⟩ Sane.I7 (4 + 1 + 1 + 1 + 1)))
        (first | exact ⟨q0, q1, hS⟩ | exact ⟨q0, q1, Lib.hid (hS.out.drewN _)⟩ | exact ⟨q0, q1, Lib.hid ((hS.out.drewN _).drewN _)⟩)
        (first
          | (go_at_call 29; refine (SP.ref (SP.drewN hS.out _) _).mono ?_; rintro e wn ⟨rfl, ⟨q0, q1⟩, hS⟩)
          | (go_at_call 29; refine (SP.ref hS.out _).mono ?_; rintro e wn ⟨rfl, ⟨q0, q1⟩, hS⟩))
      all_goals (go_wp2; go_meet; exact ⟨rfl, Lib.hid ⟨_, by omega, hS.out⟩⟩)
    case rest =>
      obtain ⟨rfl, hS16⟩ := hcut
      clear hS q0 q1
      obtain ⟨m, hm, hS17⟩ := hS16.out
      have HA2 := Lib.hid (Sane.c_drop2 hS17.hp)
      clear hS16 hS17
      go_wp2_with fail
      refine HA2.out.mono ?_; rintro e w18 ⟨rfl, hG18⟩
      have HB2 := Lib.hid (Sane.c_drop3 hG18.out)
      clear HA2 hG18
      go_wp2_with fail
      refine HB2.out.mono ?_; rintro e w19 ⟨rfl, hG19⟩
      have HC2 := Lib.hid (Sane.c_major2 hG19.out)
      clear HB2 hG19
      go_wp2_with fail
      refine HC2.out.mono ?_; rintro e w20 ⟨rfl, hG20⟩
      have HD2 := Lib.hid (Sane.c_count2 hG20.out)
      clear HC2 hG20
      go_wp2_with fail
      refine HD2.out.mono ?_; rintro e w21 ⟨rfl, hG21⟩
      have HE2 := Lib.hid (HB.used hG21.out Sane.I10_words Sane.I10_here)
      clear HD2 hG21
      go_wp2_with fail
      refine HE2.out.mono ?_; rintro e w22 ⟨rfl, hG22⟩
      have HZ := Lib.hid (HK.out _ _ ⟨rfl, hG22.out.chg⟩)
      clear HE2 hG22 HK
      go_wp2
      go_ret
      exact HZ.out

end Go.Proofs.YtelghmmcbgfjnaaGreat
