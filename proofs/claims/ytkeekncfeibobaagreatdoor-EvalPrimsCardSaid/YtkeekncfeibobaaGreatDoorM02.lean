/-
A CLOSED RUN. What it means that a memory shows the machine's heap; reading, writing, laying a block.
A CLOSED RUN. What a look that did not fail has seen.
A CLOSED RUN. Operation by operation (first part): what the machine answers, the model answers, moved.
A CLOSED RUN. Operation by operation (second part): writing; addresses, fields, elements.
A CLOSED RUN. Operation by operation (third part): addresses, fields, elements, numbers, assertions.
A CLOSED RUN. Operation by operation (fourth part): lengths, least and greatest, assertions, strings and bytes, slices.
A CLOSED RUN. Operation by operation (fifth part): strings and bytes, new slices, slices of slices, structs.
A CLOSED RUN. Operation by operation (sixth part): slices of slices, clear, strings to bytes and back.
A CLOSED RUN. Operation by operation (seventh part): clear, strings to bytes and back.
A CLOSED RUN. Operation by operation (eighth part): strings to bytes, unsafe.String, structs and rows built.
A CLOSED RUN. Operation by operation (ninth part): unsafe.String, structs and rows built.
-/
import Derived.Laws.Rows
import Derived.Laws.CopyRow
import Derived.Test.YtkeekncfeibobaaGreatDoorM01
import Derived.Laws.BitsLemmas
import Derived.Laws.BytesArg
import Derived.Laws.BytesString
import Derived.Laws.MakeOwn
import Derived.Laws.Slices
import Derived.Laws.AppendOwn
namespace Go.Clo

structure TabOK (P : Program) (G : Tab) : Prop where
  ty : ∀ t i, G.tt.get t = some i → P.info? t = some i
  fn : ∀ f fn, G.ff.get f = some fn → P.funcs[f]? = some fn
  eqs : ∀ t, memN G.eqs t = true → P.eqGuardType P.depth t = false ∧ P.stoodInHeld t = false
  ids : ∀ f, memN G.ids f = true → ∀ x w, (callFunc f #[x]).run P w = .ok (.value x) w

section und
variable {P : Program} {G : Tab}
theorem TabOK.und (T : TabOK P G) {t : TypeId} {d : TypeDesc} (h : und G t = some d) : P.underlying t = some d := by
  unfold Clo.und at h
  cases hi : G.tt.get t with
  | none => simp [hi] at h
  | some i =>
    have h1 := T.ty t i hi
    obtain ⟨dd, s, sz, by_, hp, al, fa, z, cm, ms⟩ := i
    rw [hi] at h
    cases dd with
    | named nm u =>
      simp only at h
      cases hu : G.tt.get u with
      | none => simp [hu] at h
      | some j =>
        simp only [hu, Option.some.injEq] at h
        simp [Program.underlying, h1, T.ty u j hu, h]
    | _ => simp only [Option.some.injEq] at h; subst h; simp [Program.underlying, h1]
theorem TabOK.size (T : TabOK P G) {t s : Nat} (h : size? G t = some s) : ∃ i, P.info? t = some i ∧ i.size = s := by
  unfold size? at h
  cases hi : G.tt.get t with
  | none => simp [hi] at h
  | some i => simp [hi] at h; exact ⟨i, T.ty t i hi, h⟩
theorem TabOK.run_size (T : TabOK P G) {t s : Nat} (h : size? G t = some s) (w : World) : (sizeOf t).run P w = .ok s w := by
  obtain ⟨i, hi, hs⟩ := T.size h
  simp [sizeOf, typeInfo, hi, hs]
theorem TabOK.run_und (T : TabOK P G) {t : TypeId} {d : TypeDesc} (h : Clo.und G t = some d) (w : World) : (underlying t).run P w = .ok d w := run_underlying (T.und h) w
theorem TabOK.zero (T : TabOK P G) {t : TypeId} {z : Value} (h : zero? G t = some z) : ∃ i, P.info? t = some i ∧ i.zero = some z ∧ plainV z = true ∧ z.cells.size = i.size := by
  unfold zero? at h
  cases hi : G.tt.get t with
  | none => simp [hi] at h
  | some i =>
    simp only [hi] at h
    cases hz : i.zero with
    | none => simp [hz] at h
    | some y =>
      simp only [hz] at h
      cases hp : plainV y
      · simp [hp] at h
      · simp only [hp, cond_true] at h
        cases hb : Nat.beq y.cells.toList.length i.size
        · simp only [hb, cond_false] at h; cases h
        · simp only [hb, cond_true, Option.some.injEq] at h
          subst h
          exact ⟨i, T.ty t i hi, hz, hp, by simpa using Nat.eq_of_beq_eq_true hb⟩
theorem TabOK.run_zero (T : TabOK P G) {t : TypeId} {z : Value} (h : zero? G t = some z) (w : World) : (zeroValue t).run P w = .ok z w := by
  obtain ⟨i, hi, hz, _⟩ := T.zero h
  simp [zeroValue, typeInfo, hi, hz]
theorem TabOK.run_isAgg (T : TabOK P G) {t : TypeId} {d : TypeDesc} (h : Clo.und G t = some d) (w : World) : (isAgg t).run P w = .ok (isAggD d) w := by
  unfold isAgg
  rw [Sem.run_bind, T.run_und h w]
  cases d <;> simp [isAggD]
end und

def ActEq (ρ : Env) (N : Nat) (tm : TV) (a : Array Value) : Prop := a.size = N ∧ ∀ t, t < N → a[t]? = some (rlV ρ (getV (Pa.of t) tm))
def LoopObj (ρ : Env) (G : Tab) (st : LoopState) (pend : Option Code) (fn : FuncId) (tm : TV) (params : List Pa) (a b : XC) (d : Nat) (p : Obj) : Prop :=
  ∃ N tmps ps ca cb, p = .loop { state := st, pending := pend, fn := fn, tmps := tmps, params := ps, assign := ca, body := cb, defers := rlB ρ d } ∧
    ActEq ρ N tm tmps ∧ params = ps.toList.map Pa.of ∧ (∀ t ∈ ps.toList, t < N) ∧ a = xc G N ca ∧ b = xc G N cb ∧ okC G N ca = true ∧ okC G N cb = true ∧ ∃ F, G.ff.get fn = some F
/-- the stamps of a map's entries -/
def Born (E : List MapEntry) (cl : Nat) : Prop := (∀ e ∈ E, e.born < cl) ∧ (E.map (·.born)).Nodup
/-- what a block shows -/
def ObjEq (ρ : Env) (G : Tab) (k : Nat) : AO → Obj → Prop
  | .gone, _ => True
  | .cells c e false, p => oneL c = true ∧ p = .cells ⟨c.map (rlV ρ)⟩ e (0, 0)
  | .cells c e true, p => oneL c = true ∧ ∃ s tail, size? G e = some s ∧ p = .cells ⟨c.map (rlV ρ) ++ tail⟩ e (0, 0) ∧ c.length + tail.length = ρ.cap k * s
  | .ro c, p => oneL c = true ∧ ∃ tail e fr, p = .cells ⟨c.map (rlV ρ) ++ tail⟩ e fr
  | .map t es, p => ∃ E cl, p = .map E cl ∧ Born E.toList cl ∧ (∀ x ∈ es, plainV x.1 = true ∧ keyX t x.1 x.1 = some true) ∧ (es.map (·.1)).Nodup ∧ (E.toList.map fun e => (e.key, e.val)).Perm (es.map fun x => (x.1, rlV ρ x.2))
  | .loop st pend fn tm params a b d, p => LoopObj ρ G st pend fn tm params a b d p
  | .deferred taken, p => p = .deferred (if taken then none else some [])
def Live (h : TH) (k : Nat) : Prop := h.getO k ≠ .gone
structure WEq (ρ : Env) (G : Tab) (B0 : Nat) (h : TH) (n : Nat) (w : World) : Prop where
  lt : ∀ k, Live h k → k < n
  base : ∀ k, Live h k → B0 ≤ ρ.loc k
  obj : ∀ k, Live h k → ∃ p, w.heap[ρ.loc k]? = some p ∧ ObjEq ρ G k (h.getO k) p
  inj : ∀ j k, Live h j → Live h k → ρ.loc j = ρ.loc k → j = k
structure KeepEq (ρ : Env) (h h' : TH) (w w' : World) : Prop where
  size : w.heap.size ≤ w'.heap.size
  os : w'.os = w.os
  out : w'.output = w.output
  tape : w'.tape = w.tape
  rest : ∀ b, b < w.heap.size → (∀ k, Live h k → ρ.loc k ≠ b) → w'.heap[b]? = w.heap[b]? ∧ ∀ k, Live h' k → ρ.loc k ≠ b
theorem KeepEq.refl (ρ : Env) (h : TH) (w : World) : KeepEq ρ h h w w := ⟨Nat.le_refl _, rfl, rfl, rfl, fun _ _ hb => ⟨rfl, hb⟩⟩

section
variable {P : Program} {G : Tab} {ρ : Env} {B0 : Nat} {h : TH} {n : Nat} {w : World}
theorem WEq.lt_size (hW : WEq ρ G B0 h n w) {k : Nat} (hk : Live h k) : ρ.loc k < w.heap.size := by
  obtain ⟨p, hp, _⟩ := hW.obj k hk
  exact (Array.getElem?_eq_some_iff.1 hp).1

/-- 'set' as a function -/
noncomputable def TH.setO (h : TH) (k : Nat) (o : AO) : TH := (TH.set_ex h k o).choose
theorem TH.set_eq {β : Type} (h : TH) (k : Nat) (o : AO) (κ : TH → β) : h.set k o κ = κ (h.setO k o) := (TH.set_ex h k o).choose_spec.1 κ
theorem TH.getO_setO (h : TH) (k : Nat) (o : AO) (j : Nat) : (h.setO k o).getO j = if j = k then o else h.getO j := (TH.set_ex h k o).choose_spec.2 j
theorem TH.getO_setO_self (h : TH) (k : Nat) (o : AO) : (h.setO k o).getO k = o := by rw [TH.getO_setO, if_pos rfl]
theorem TH.getO_setO_ne (h : TH) {k j : Nat} (o : AO) (hne : j ≠ k) : (h.setO k o).getO j = h.getO j := by rw [TH.getO_setO, if_neg hne]

/-- a live block turned: the world's block turned likewise -/
theorem WEq.turn (hW : WEq ρ G B0 h n w) {k : Nat} (hk : Live h k) {o : AO} (ho : o ≠ .gone) {w' : World} {p : Obj} (hs : w'.heap.size = w.heap.size)
    (hp : w'.heap[ρ.loc k]? = some p) (hO : ObjEq ρ G k o p) (hrest : ∀ b, b ≠ ρ.loc k → w'.heap[b]? = w.heap[b]?) (hos : w'.os = w.os) (hout : w'.output = w.output) (htape : w'.tape = w.tape) :
    WEq ρ G B0 (h.setO k o) n w' ∧ KeepEq ρ h (h.setO k o) w w' := by
  have hl : ∀ j, Live (h.setO k o) j ↔ Live h j := by
    intro j
    unfold Live
    by_cases hj : j = k
    · subst hj; rw [TH.getO_setO_self]; exact ⟨fun _ => hk, fun _ => ho⟩
    · rw [TH.getO_setO_ne h o hj]
  refine ⟨⟨fun j hj => hW.lt j ((hl j).1 hj), fun j hj => hW.base j ((hl j).1 hj), fun j hj => ?_, fun i j hi hj => hW.inj i j ((hl i).1 hi) ((hl j).1 hj)⟩,
    ⟨by omega, hos, hout, htape, fun b hb hn => ⟨hrest b fun e => hn k hk e.symm, fun j hj => hn j ((hl j).1 hj)⟩⟩⟩
  by_cases hjk : j = k
  · subst hjk; exact ⟨p, hp, by rw [TH.getO_setO_self]; exact hO⟩
  · have hj' := (hl j).1 hj
    obtain ⟨q, hq, hQ⟩ := hW.obj j hj'
    refine ⟨q, ?_, by rw [TH.getO_setO_ne h o hjk]; exact hQ⟩
    rw [hrest _ fun e => hjk (hW.inj j k hj' hk e)]
    exact hq
/-- a block is forgotten -/
theorem WEq.drop (hW : WEq ρ G B0 h n w) (k : Nat) : WEq ρ G B0 (h.setO k .gone) n w := by
  have hl : ∀ j, Live (h.setO k .gone) j → Live h j ∧ j ≠ k := by
    intro j hj
    unfold Live at hj
    by_cases e : j = k
    · subst e; rw [TH.getO_setO_self] at hj; exact absurd rfl hj
    · rw [TH.getO_setO_ne h _ e] at hj; exact ⟨hj, e⟩
  refine ⟨fun j hj => hW.lt j (hl j hj).1, fun j hj => hW.base j (hl j hj).1, fun j hj => ?_, fun i j hi hj => hW.inj i j (hl i hi).1 (hl j hj).1⟩
  obtain ⟨q, hq, hQ⟩ := hW.obj j (hl j hj).1
  exact ⟨q, hq, by rw [TH.getO_setO_ne h _ (hl j hj).2]; exact hQ⟩
/-- a block is laid: number n stands for the world's new block -/
theorem WEq.lay (hW : WEq ρ G B0 h n w) (hB : B0 ≤ w.heap.size) {o : AO} {p : Obj} (hloc : ρ.loc n = w.heap.size) (hO : ObjEq ρ G n o p) :
    WEq ρ G B0 (h.setO n o) (n + 1) (w.alloc p) ∧ KeepEq ρ h (h.setO n o) w (w.alloc p) := by
  have hn : ∀ j, Live h j → j ≠ n := fun j hj => Nat.ne_of_lt (hW.lt j hj)
  have hl : ∀ j, Live (h.setO n o) j → j = n ∨ Live h j := by
    intro j hj
    by_cases e : j = n
    · exact .inl e
    · unfold Live at hj; rw [TH.getO_setO_ne h _ e] at hj; exact .inr hj
  have hsz : (w.alloc p).heap.size = w.heap.size + 1 := by show (w.heap.push p).size = _; simp
  refine ⟨⟨fun j hj => ?_, fun j hj => ?_, fun j hj => ?_, fun i j hi hj e => ?_⟩, ⟨by omega, rfl, rfl, rfl, fun b hb hne => ⟨heap_alloc_old w p b hb, fun j hj => ?_⟩⟩⟩
  · rcases hl j hj with rfl | h1
    · omega
    · have := hW.lt j h1; omega
  · rcases hl j hj with rfl | h1
    · omega
    · exact hW.base j h1
  · rcases hl j hj with rfl | h1
    · exact ⟨p, by rw [hloc]; exact heap_alloc_new w p, by rw [TH.getO_setO_self]; exact hO⟩
    · obtain ⟨q, hq, hQ⟩ := hW.obj j h1
      exact ⟨q, by rw [heap_alloc_old w p _ (hW.lt_size h1)]; exact hq, by rw [TH.getO_setO_ne h _ (hn j h1)]; exact hQ⟩
  · rcases hl i hi with rfl | h1 <;> rcases hl j hj with rfl | h2
    · rfl
    · have := hW.lt_size h2; omega
    · have := hW.lt_size h1; omega
    · exact hW.inj i j h1 h2 e
  · rcases hl j hj with rfl | h1
    · omega
    · exact hne j h1
end
end Go.Clo
namespace Go.Clo

section
variable {β : Type} {no r : β}
theorem ifB_elim {b : Bool} {x : β} (h : ifB b x no = r) (hn : no ≠ r) : b = true ∧ x = r := by
  cases b
  · exact absurd h hn
  · exact ⟨rfl, h⟩
theorem ifB_elim' {b : Bool} {x : β} (h : ifB b no x = r) (hn : no ≠ r) : b = false ∧ x = r := by
  cases b
  · exact ⟨rfl, h⟩
  · exact absurd h hn
theorem ptrV_elim {v : Value} {κ : Nat → Nat → β} (h : ptrV v no κ = r) (hn : no ≠ r) : ∃ b off, v = .pointer (some ⟨b, off, none⟩) ∧ κ b off = r := by
  unfold ptrV at h
  split at h
  · exact ⟨_, _, rfl, h⟩
  · exact absurd h hn
theorem sliceV_elim {v : Value} {κ : Option Addr → Nat → Nat → β} (h : sliceV v no κ = r) (hn : no ≠ r) : ∃ a l c, v = .slice a l c ∧ κ a l c = r := by
  unfold sliceV at h
  split at h
  · exact ⟨_, _, _, rfl, h⟩
  · exact absurd h hn
theorem strV_elim {v : Value} {κ : List UInt8 → β} (h : strV v no κ = r) (hn : no ≠ r) : ∃ s, v = .string ⟨⟨s⟩⟩ ∧ κ s = r := by
  unfold strV at h
  split at h
  · exact ⟨_, rfl, h⟩
  · exact absurd h hn
theorem aggV_elim {v : Value} {κ : List Value → β} (h : aggV v no κ = r) (hn : no ≠ r) : ∃ l, v = .agg ⟨l⟩ ∧ κ l = r := by
  unfold aggV at h
  split at h
  · exact ⟨_, rfl, h⟩
  · exact absurd h hn
theorem tupV_elim {v : Value} {κ : List Value → β} (h : tupV v no κ = r) (hn : no ≠ r) : ∃ l, v = .tuple ⟨l⟩ ∧ κ l = r := by
  unfold tupV at h
  split at h
  · exact ⟨_, rfl, h⟩
  · exact absurd h hn
theorem boolV_elim {v : Value} {κ : Bool → β} (h : boolV v no κ = r) (hn : no ≠ r) : ∃ b, v = .bool b ∧ κ b = r := by
  unfold boolV at h
  split at h
  · exact ⟨_, rfl, h⟩
  · exact absurd h hn
theorem intV_elim {v : Value} {κ : IntKind → Int → β} (h : intV v no κ = r) (hn : no ≠ r) : ∃ k n, v = .int k n ∧ κ k n = r := by
  unfold intV at h
  split at h
  · exact ⟨_, _, rfl, h⟩
  · exact absurd h hn
theorem natV_elim {v : Value} {κ : Nat → β} (h : natV v no κ = r) (hn : no ≠ r) : ∃ (k : IntKind) (n : Nat), v = .int k n ∧ κ n = r := by
  unfold natV at h
  split at h
  · exact ⟨_, _, rfl, h⟩
  · exact absurd h hn
theorem ifaceV_elim {v : Value} {nil : β} {κ : TypeId → Value → β} (h : ifaceV v no nil κ = r) (hn : no ≠ r) : (v = .nilIface ∧ nil = r) ∨ ∃ t x, v = .iface t x ∧ κ t x = r := by
  unfold ifaceV at h
  split at h
  · exact .inr ⟨_, _, rfl, h⟩
  · exact .inl ⟨rfl, h⟩
  · exact absurd h hn
theorem funcV_elim {v : Value} {κ : Fn → List Value → List Value → β} (h : funcV v no κ = r) (hn : no ≠ r) : ∃ fn a b, v = .func fn ⟨a⟩ ⟨b⟩ ∧ κ fn a b = r := by
  unfold funcV at h
  split at h
  · exact ⟨_, _, _, rfl, h⟩
  · exact absurd h hn
theorem cellsV_eq {v : Value} {κ : List Value → β} : cellsV v κ = κ v.cells.toList := by
  unfold cellsV
  split
  · rfl
  · rename_i hv
    cases v with
    | agg l => cases l; exact absurd rfl (hv _)
    | _ => rfl
theorem ownK_elim {b : Nat} {κ : Nat → β} (h : ownK no b κ = r) (hn : no ≠ r) : ∃ k, b = O + k ∧ κ k = r := by
  unfold ownK at h
  obtain ⟨hb, h⟩ := ifB_elim' h hn
  have : ¬ b < O := by rw [← blt_iff, hb]; simp
  exact ⟨b - O, by omega, h⟩
theorem rdO_elim {o : AO} {κ : List Value → β} (h : rdO o no κ = r) (hn : no ≠ r) : ∃ c, ((∃ e u, o = .cells c e u) ∨ o = .ro c) ∧ κ c = r := by
  unfold rdO at h
  split at h
  · exact ⟨_, .inl ⟨_, _, rfl⟩, h⟩
  · exact ⟨_, .inr rfl, h⟩
  · exact absurd h hn
theorem wrO_elim {o : AO} {κ : List Value → TypeId → Bool → β} (h : wrO o no κ = r) (hn : no ≠ r) : ∃ c e u, o = .cells c e u ∧ κ c e u = r := by
  unfold wrO at h
  split at h
  · exact ⟨_, _, _, rfl, h⟩
  · exact absurd h hn
theorem mapO_elim {o : AO} {κ : XE → List (Value × Value) → β} (h : mapO o no κ = r) (hn : no ≠ r) : ∃ t es, o = .map t es ∧ κ t es = r := by
  unfold mapO at h
  split at h
  · exact ⟨_, _, rfl, h⟩
  · exact absurd h hn
theorem rdK_elim {h : TH} {b : Nat} {κ : List Value → β} (hh : rdK no h b κ = r) (hn : no ≠ r) :
    ∃ k c, b = O + k ∧ ((∃ e u, h.getO k = .cells c e u) ∨ h.getO k = .ro c) ∧ κ c = r := by
  unfold rdK at hh
  obtain ⟨k, hb, hh⟩ := ownK_elim hh hn
  rw [TH.getK_eq] at hh
  obtain ⟨c, hc, hh⟩ := rdO_elim hh hn
  exact ⟨k, c, hb, hc, hh⟩
theorem wrK_elim {h : TH} {b : Nat} {κ : Nat → List Value → TypeId → Bool → β} (hh : wrK no h b κ = r) (hn : no ≠ r) :
    ∃ k c e u, b = O + k ∧ h.getO k = .cells c e u ∧ κ k c e u = r := by
  unfold wrK at hh
  obtain ⟨k, hb, hh⟩ := ownK_elim hh hn
  rw [TH.getK_eq] at hh
  obtain ⟨c, e, u, hc, hh⟩ := wrO_elim hh hn
  exact ⟨k, c, e, u, hb, hc, hh⟩
theorem newK_eq {h : TH} {n : Nat} {o : AO} {κ : TH → Nat → β} : newK h n o κ = κ (h.setO n o) (n + 1) := by
  unfold newK
  rw [TH.set_eq]
theorem dropK_elim {n : Nat} {l : List Value} {κ : List Value → β} (h : dropK no n l κ = r) (hn : no ≠ r) : n ≤ l.length ∧ κ (l.drop n) = r := by
  rw [dropK_eq] at h
  split at h
  · exact ⟨‹_›, h⟩
  · exact absurd h hn
theorem takeK_elim {n : Nat} {l : List Value} {κ : List Value → β} (h : takeK no n l κ = r) (hn : no ≠ r) : n ≤ l.length ∧ κ (l.take n) = r := by
  rw [takeK_eq] at h
  split at h
  · exact ⟨‹_›, h⟩
  · exact absurd h hn
theorem nthK_elim {n : Nat} {l : List Value} {κ : Value → β} (h : nthK no n l κ = r) (hn : no ≠ r) : ∃ v, l[n]? = some v ∧ κ v = r := by
  rw [nthK_eq] at h
  split at h
  · exact ⟨_, ‹_›, h⟩
  · exact absurd h hn

/-- what an operand holds -/
def evX (tm : TV) : XO → Value
  | .tmp p => getV p tm
  | .const v => v
theorem evK_eq {x : XO} {tm : TV} {κ : Value → β} : evK x tm κ = κ (evX tm x) := by
  cases x with
  | tmp p => exact getK_eq p tm κ
  | const v => rfl
theorem evL_eq {tm : TV} : ∀ {xs : List XO} {κ : List Value → β}, evL tm xs κ = κ (xs.map (evX tm))
  | [], _ => rfl
  | x :: xs, κ => by
    have e : evL tm (x :: xs) κ = evL tm xs fun r => evK x tm fun v => κ (v :: r) := rfl
    rw [e, evL_eq (xs := xs), evK_eq]
    rfl
theorem boundK_elim {tm : TV} {x : Option XO} {d : Nat} {κ : Nat → β} (h : boundK no tm x d κ = r) (hn : no ≠ r) :
    ∃ m : Nat, (x = none ∧ m = d ∨ ∃ y k, x = some y ∧ evX tm y = .int k m) ∧ κ m = r := by
  cases x with
  | none => exact ⟨d, .inl ⟨rfl, rfl⟩, h⟩
  | some y =>
    have e : boundK no tm (some y) d κ = evK y tm fun v => natV v no κ := rfl
    rw [e, evK_eq] at h
    obtain ⟨k, m, hv, h⟩ := natV_elim h hn
    exact ⟨m, .inr ⟨y, k, rfl, hv⟩, h⟩
end

/-- an operand in a frame -/
def Ev (a : Array Value) : Operand → Value
  | .tmp t => a.getD t undef
  | .const v => v
  | .global g => .pointer (some ⟨g, 0, none⟩)
  | .func f => .func (.func f) #[] #[]
theorem frame_Ev (fr : Frame) : fr.eval = Ev fr.tmps := by
  funext x; cases x <;> rfl
theorem act_Ev (a : Act) : a.eval = Ev a.tmps := by
  funext x; cases x <;> rfl
theorem plainX_ev {N : Nat} {ρ : Env} {tm : TV} {a : Array Value} (hA : ActEq ρ N tm a) {x : Operand} (hx : plainX N x = true) : Ev a x = rlV ρ (evX tm (xo x)) := by
  cases x with
  | tmp t =>
    have ht : t < N := by simpa [plainX] using hx
    have := hA.2 t ht
    simp [Ev, evX, xo, this]
  | const v => exact (rlV_plain ρ v hx).symm
  | global g =>
    have hg : g < O := by simpa [plainX] using hx
    simp [Ev, evX, xo, rlV, rlA, rlB, hg]
  | func f => simp [Ev, evX, xo, rlV, rlF]
theorem plainXs_all {N : Nat} : ∀ {l : List Operand}, plainXs N l = true → ∀ x ∈ l, plainX N x = true
  | [], _ => nofun
  | y :: l, h => by
    simp only [plainXs] at h
    cases hy : plainX N y
    · simp [hy] at h
    · simp only [hy, cond_true] at h
      intro x hx
      rcases List.mem_cons.1 hx with rfl | hx
      · exact hy
      · exact plainXs_all h x hx
theorem evs_map {N : Nat} {ρ : Env} {tm : TV} {a : Array Value} (hA : ActEq ρ N tm a) {l : List Operand} (hl : ∀ x ∈ l, plainX N x = true) :
    l.map (Ev a) = (l.map xo |>.map (evX tm)).map (rlV ρ) := by
  rw [List.map_map, List.map_map]
  exact List.map_congr_left fun x hx => plainX_ev hA (hl x hx)

/-- what an operation answers -/
def NextIs (x : Go.Next) (v : Value) : Prop := x = .value v ∨ (x = .skip ∧ v = undef)
/-- an operation that answered v, with the heap h' -/
def OpSim (P : Program) (G : Tab) (B0 N : Nat) (o : Oper) (tm : TV) (h : TH) (n : Nat) (a : Array Value) (w : World) (v : Value) (h' : TH) (n' : Nat) : Prop :=
  n ≤ n' ∧ n' ≤ n + 1 ∧ ∃ b c d, ∀ ρ, ActEq ρ N tm a → WEq ρ G B0 h n w → (n' = n ∨ (ρ.loc n = b ∧ ρ.cap n = c ∧ ρ.off n = d)) →
    ∃ x w', (execOp (Ev a) o).run P w = .ok x w' ∧ NextIs x (rlV ρ v) ∧ WEq ρ G B0 h' n' w' ∧ KeepEq ρ h h' w w'
section
variable {P : Program} {G : Tab} {B0 N : Nat} {o : Oper} {tm : TV} {h : TH} {n : Nat} {a : Array Value} {w : World} {v : Value}
/-- an operation that looks alone -/
theorem OpSim.pure (H : ∀ ρ, ActEq ρ N tm a → WEq ρ G B0 h n w → (execOp (Ev a) o).run P w = .ok (.value (rlV ρ v)) w) : OpSim P G B0 N o tm h n a w v h n :=
  ⟨Nat.le_refl _, Nat.le_succ _, 0, 0, 0, fun ρ hA hW _ => ⟨_, w, H ρ hA hW, .inl rfl, hW, .refl ρ h w⟩⟩
/-- one that lays a block -/
theorem OpSim.new (hB : B0 ≤ w.heap.size) {o' : AO} (H : ∀ ρ, ActEq ρ N tm a → WEq ρ G B0 h n w → ρ.loc n = w.heap.size →
    ∃ p, (execOp (Ev a) o).run P w = .ok (.value (rlV ρ v)) (w.alloc p) ∧ ObjEq ρ G n o' p) : OpSim P G B0 N o tm h n a w v (h.setO n o') (n + 1) := by
  refine ⟨Nat.le_succ _, Nat.le_refl _, w.heap.size, 0, 0, fun ρ hA hW hn => ?_⟩
  rcases hn with hn | ⟨hl, _⟩
  · omega
  · obtain ⟨p, hr, hO⟩ := H ρ hA hW hl
    have := hW.lay hB hl hO
    exact ⟨_, _, hr, .inl rfl, this.1, this.2⟩
end
end Go.Clo
namespace Go.Clo

@[simp] theorem rlB_own (ρ : Env) (k : Nat) : rlB ρ (O + k) = ρ.loc k := by
  have : ¬ O + k < O := by omega
  simp [rlB, this]
@[simp] theorem rlA_own (ρ : Env) (k off : Nat) : rlA ρ ⟨O + k, off, none⟩ = ⟨ρ.loc k, off, none⟩ := by simp [rlA]
theorem rlV_ptr (ρ : Env) (b off : Nat) (s : Option Nat) : rlV ρ (.pointer (some ⟨b, off, s⟩)) = .pointer (some ⟨rlB ρ b, off, s⟩) := by simp [rlV, rlA]
theorem add_none (b off m : Nat) : (⟨b, off, none⟩ : Addr).add m = ⟨b, off + m, none⟩ := by
  unfold Addr.add
  split
  · rename_i h; subst h; rfl
  · rfl

section
variable {P : Program} {G : Tab} {B0 N : Nat} {o : Oper} {tm : TV} {h : TH} {n : Nat} {a : Array Value} {w : World} {v : Value} {h' : TH} {n' : Nat} {ρ : Env}

theorem row_of {k : Nat} {p : Obj} {x : AO} {c : List Value} (hO : ObjEq ρ G k x p) (hx : (∃ e u, x = .cells c e u) ∨ x = .ro c) :
    oneL c = true ∧ ∃ tail e fr, p = .cells ⟨c.map (rlV ρ) ++ tail⟩ e fr := by
  rcases hx with ⟨e, u, rfl⟩ | rfl
  · cases u with
    | false => obtain ⟨h1, rfl⟩ := hO; exact ⟨h1, [], e, (0, 0), by simp⟩
    | true => obtain ⟨h1, s, tail, _, rfl, _⟩ := hO; exact ⟨h1, tail, e, (0, 0), rfl⟩
  · obtain ⟨h1, tail, e, fr, rfl⟩ := hO; exact ⟨h1, tail, e, fr, rfl⟩
theorem live_rd {k : Nat} {c : List Value} (hx : (∃ e u, h.getO k = .cells c e u) ∨ h.getO k = .ro c) : Live h k := by
  unfold Live
  rcases hx with ⟨e, u, he⟩ | he <;> rw [he] <;> simp
theorem cell_at (hW : WEq ρ G B0 h n w) {k : Nat} {c : List Value} (hx : (∃ e u, h.getO k = .cells c e u) ∨ h.getO k = .ro c) {off : Nat} {u : Value} (hu : c[off]? = some u) :
    w.cell? ⟨ρ.loc k, off, none⟩ = some (rlV ρ u) := by
  obtain ⟨p, hp, hO⟩ := hW.obj k (live_rd hx)
  obtain ⟨_, tail, e, fr, rfl⟩ := row_of hO hx
  have hlt : off < c.length := (List.getElem?_eq_some_iff.1 hu).1
  simp only [World.cell?, hp, Option.isSome_none, Bool.false_eq_true, if_false]
  have h2 : (⟨c.map (rlV ρ) ++ tail⟩ : Array Value)[off]? = (c.map (rlV ρ) ++ tail)[off]? := by simp
  rw [h2, List.getElem?_append_left (by simpa using hlt), List.getElem?_map, hu]
  rfl
theorem cells_run (hW : WEq ρ G B0 h n w) {k : Nat} {c : List Value} (hx : (∃ e u, h.getO k = .cells c e u) ∨ h.getO k = .ro c) {off s : Nat} (hs : s ≤ (c.drop off).length) :
    (loadCells ⟨ρ.loc k, off, none⟩ s).run P w = .ok ⟨((c.drop off).take s).map (rlV ρ)⟩ w := by
  have hl : (((c.drop off).take s).map (rlV ρ)).length = s := by simp at hs ⊢; omega
  have := run_loadCells_list (P := P) w ⟨ρ.loc k, off, none⟩ (((c.drop off).take s).map (rlV ρ)) (fun j v hv => by
    rw [add_none]
    rw [List.getElem?_map] at hv
    cases hj : ((c.drop off).take s)[j]? with
    | none => simp [hj] at hv
    | some u =>
      simp only [hj, Option.map_some, Option.some.injEq] at hv
      subst hv
      refine cell_at hW hx ?_
      have hjs : j < s := by
        have := (List.getElem?_eq_some_iff.1 hj).1
        simp at this; omega
      rw [List.getElem?_take, if_pos hjs, List.getElem?_drop] at hj
      exact hj)
  rw [hl] at this
  exact this

theorem sound_move {x : Operand} (ho : o.op = .move x ∨ o.op = .assign x) (hx : plainX N x = true) (hr : oMove (xo x) tm h n = .val v h' n') : OpSim P G B0 N o tm h n a w v h' n' := by
  unfold oMove at hr
  rw [evK_eq] at hr
  cases hr
  refine .pure fun ρ hA _ => ?_
  rw [← plainX_ev hA hx]
  rcases ho with ho | ho <;> · unfold execOp; rw [ho]; rfl
theorem sound_pick {c x y : Operand} (ho : o.op = .pick c x y) (hc : plainX N c = true) (hx : plainX N x = true) (hy : plainX N y = true)
    (hr : oPick (xo c) (xo x) (xo y) tm h n = .val v h' n') : OpSim P G B0 N o tm h n a w v h' n' := by
  unfold oPick at hr
  rw [evK_eq] at hr
  obtain ⟨b, hb, hr⟩ := boolV_elim hr nofun
  rw [ifB_eq] at hr
  cases b with
  | true =>
    rw [if_pos rfl, evK_eq] at hr
    cases hr
    refine .pure fun ρ hA _ => ?_
    have e := plainX_ev hA hc
    rw [hb] at e
    unfold execOp
    simp [ho, e, rlV, asBool, plainX_ev hA hx]
  | false =>
    rw [if_neg (by simp), evK_eq] at hr
    cases hr
    refine .pure fun ρ hA _ => ?_
    have e := plainX_ev hA hc
    rw [hb] at e
    unfold execOp
    simp [ho, e, rlV, asBool, plainX_ev hA hy]

theorem oneL_plain {l : List Value} (h : plainL l = true) : oneL l = true := by
  induction l with
  | nil => rfl
  | cons x l ih =>
    simp only [plainL] at h
    cases hx : plain0 x
    · simp [hx] at h
    · simp only [hx, cond_true] at h
      have : oneCell x = true := by
        unfold plain0 at hx
        split at hx <;> first | rfl | simp at hx
      simp [oneL, this, ih h]
/-- the cells of a plain value that is no tuple -/
theorem plain_cells {z : Value} (hp : plainV z = true) : oneL z.cells.toList = true ∧ z.cells.toList.map (rlV ρ) = z.cells.toList := by
  have e := congrArg (fun v => v.cells.toList) (rlV_plain ρ z hp)
  simp only [cells_rlV] at e
  refine ⟨?_, e⟩
  unfold plainV at hp
  split at hp
  · exact oneL_plain hp
  · have h0 := hp
    unfold plain0 at h0
    split at h0 <;> first | rfl | simp at h0
theorem sound_alloc (T : TabOK P G) (hB : B0 ≤ w.heap.size) {e : TypeId} {z : Value} (ho : o.op = .alloc e) (hz : zero? G e = some z)
    (hr : oAlloc z.cells.toList e tm h n = .val v h' n') : OpSim P G B0 N o tm h n a w v h' n' := by
  unfold oAlloc at hr
  rw [newK_eq] at hr
  cases hr
  obtain ⟨i, hi, hz2, hp, hc⟩ := T.zero hz
  refine .new hB fun ρ hA hW hl => ⟨.cells z.cells e (0, 0), ?_, (plain_cells (ρ := ρ) hp).1, ?_⟩
  · unfold execOp
    simp [ho, Instr.alloc, T.run_zero hz, newVar, newRow, ptr, rlV, hl]
  · rw [(plain_cells (ρ := ρ) hp).2]
theorem sound_box (hB : B0 ≤ w.heap.size) {e : TypeId} {x : Operand} (ho : o.op = .box e x) (hx : plainX N x = true)
    (hr : oBox e (xo x) tm h n = .val v h' n') : OpSim P G B0 N o tm h n a w v h' n' := by
  unfold oBox at hr
  rw [evK_eq, cellsV_eq] at hr
  obtain ⟨h1, hr⟩ := ifB_elim hr nofun
  rw [newK_eq] at hr
  cases hr
  refine .new hB fun ρ hA hW hl => ⟨.cells (rlV ρ (evX tm (xo x))).cells e (0, 0), ?_, h1, ?_⟩
  · unfold execOp
    simp [ho, Instr.box, newVar, newRow, ptr, rlV, hl, plainX_ev hA hx]
  · rw [← cells_rlV]
theorem sound_load (T : TabOK P G) {t : TypeId} {x : Operand} (ho : o.op = .load t x) (hx : plainX N x = true) {d : TypeDesc} {s : Nat} (hd : und G t = some d) (hs : size? G t = some s)
    (hr : execX G (bif isAggD d then .loadN s (xo x) else .load1 (xo x)) tm h n = .val v h' n') : OpSim P G B0 N o tm h n a w v h' n' := by
  cases hg : isAggD d with
  | true =>
    simp only [hg, cond_true] at hr
    change oLoadN s (xo x) tm h n = _ at hr
    unfold oLoadN at hr
    rw [evK_eq] at hr
    obtain ⟨b, off, hv, hr⟩ := ptrV_elim hr nofun
    obtain ⟨k, c, rfl, hk, hr⟩ := rdK_elim hr nofun
    obtain ⟨ho1, hr⟩ := dropK_elim hr nofun
    obtain ⟨ho2, hr⟩ := takeK_elim hr nofun
    cases hr
    refine .pure fun ρ hA hW => ?_
    have e := plainX_ev hA hx
    rw [hv, rlV_ptr, rlB_own] at e
    unfold execOp
    simp [ho, e, Instr.loadAt, Instr.sureAddr, loadVar, T.run_isAgg hd, hg, T.run_size hs, cells_run hW hk ho2, rlV]
  | false =>
    simp only [hg, cond_false] at hr
    change oLoad1 (xo x) tm h n = _ at hr
    unfold oLoad1 at hr
    rw [evK_eq] at hr
    obtain ⟨b, off, hv, hr⟩ := ptrV_elim hr nofun
    obtain ⟨k, c, rfl, hk, hr⟩ := rdK_elim hr nofun
    obtain ⟨u, hu, hr⟩ := nthK_elim hr nofun
    cases hr
    refine .pure fun ρ hA hW => ?_
    have e := plainX_ev hA hx
    rw [hv, rlV_ptr, rlB_own] at e
    unfold execOp
    simp [ho, e, Instr.loadAt, Instr.sureAddr, loadVar, T.run_isAgg hd, hg, cell_at hW hk hu]
end
end Go.Clo
namespace Go.Clo

theorem oneCell_eq (v : Value) : v.oneCell' = oneCell v := by cases v <;> rfl
theorem oneL_all {l : List Value} (h : oneL l = true) (ρ : Env) : ∀ v ∈ l.map (rlV ρ), v.oneCell' = true := by
  intro v hv
  rw [oneCell_eq]
  have := (oneL_iff (l.map (rlV ρ))).1 (by rw [oneL_rlV]; exact h)
  exact this v hv
theorem oneL_append {l m : List Value} : oneL (l ++ m) = (oneL l && oneL m) := by
  induction l with
  | nil => simp [oneL]
  | cons x l ih => simp only [List.cons_append, oneL]; cases oneCell x <;> simp [ih]
theorem oneL_take {l : List Value} (h : oneL l = true) (n : Nat) : oneL (l.take n) = true := by
  rw [oneL_iff] at h ⊢
  exact fun v hv => h v (List.mem_of_mem_take hv)
theorem oneL_drop {l : List Value} (h : oneL l = true) (n : Nat) : oneL (l.drop n) = true := by
  rw [oneL_iff] at h ⊢
  exact fun v hv => h v (List.mem_of_mem_drop hv)
theorem oneL_putL {c vs : List Value} (hc : oneL c = true) (hv : oneL vs = true) (off : Nat) : oneL (putL c off vs) = true := by
  unfold putL
  rw [oneL_append, oneL_append, oneL_take hc, hv, oneL_drop hc]
  rfl
theorem putL_length {c vs : List Value} {off : Nat} (h : off + vs.length ≤ c.length) : (putL c off vs).length = c.length := by
  simp [putL]; omega
theorem putL_row (ρ : Env) (c vs tail : List Value) (off : Nat) (h : off + vs.length ≤ c.length) :
    (c.map (rlV ρ) ++ tail).take off ++ vs.map (rlV ρ) ++ (c.map (rlV ρ) ++ tail).drop (off + (vs.map (rlV ρ)).length) = (putL c off vs).map (rlV ρ) ++ tail := by
  have e1 : (c.map (rlV ρ) ++ tail).take off = (c.take off).map (rlV ρ) := by
    rw [List.take_append_of_le_length (by simp; omega), List.map_take]
  have e2 : (c.map (rlV ρ) ++ tail).drop (off + (vs.map (rlV ρ)).length) = (c.drop (off + vs.length)).map (rlV ρ) ++ tail := by
    rw [List.length_map, List.drop_append_of_le_length (by simp; omega), List.map_drop]
  rw [e1, e2]
  simp [putL]

section
variable {P : Program} {G : Tab} {B0 N : Nat} {o : Oper} {tm : TV} {h : TH} {n : Nat} {a : Array Value} {w : World} {v : Value} {h' : TH} {n' : Nat} {ρ : Env}

theorem live_wr {k : Nat} {c : List Value} {e : TypeId} {u : Bool} (hx : h.getO k = .cells c e u) : Live h k := by unfold Live; rw [hx]; simp
theorem row_wr (hW : WEq ρ G B0 h n w) {k : Nat} {c : List Value} {e : TypeId} {u : Bool} (hx : h.getO k = .cells c e u) :
    oneL c = true ∧ ∃ tail, w.heap[ρ.loc k]? = some (.cells ⟨c.map (rlV ρ) ++ tail⟩ e (0, 0)) ∧
      ∀ c', oneL c' = true → c'.length = c.length → ObjEq ρ G k (.cells c' e u) (.cells ⟨c'.map (rlV ρ) ++ tail⟩ e (0, 0)) := by
  obtain ⟨p, hp, hO⟩ := hW.obj k (live_wr hx)
  rw [hx] at hO
  cases u with
  | false =>
    obtain ⟨h1, rfl⟩ := hO
    exact ⟨h1, [], by simpa using hp, fun c' h' _ => ⟨h', by simp⟩⟩
  | true =>
    obtain ⟨h1, s, tail, hs, rfl, hl⟩ := hO
    exact ⟨h1, tail, hp, fun c' h' hl' => ⟨h', s, tail, hs, rfl, by omega⟩⟩
/-- cells written -/
theorem write_run (hW : WEq ρ G B0 h n w) {k : Nat} {c : List Value} {e : TypeId} {u : Bool} (hx : h.getO k = .cells c e u) {off : Nat} {vs : List Value} (hv : oneL vs = true)
    (hl : off + vs.length ≤ c.length) : ∃ w', (storeCells ⟨ρ.loc k, off, none⟩ (vs.map (rlV ρ))).run P w = .ok () w' ∧
      WEq ρ G B0 (h.setO k (.cells (putL c off vs) e u)) n w' ∧ KeepEq ρ h (h.setO k (.cells (putL c off vs) e u)) w w' := by
  obtain ⟨h1, tail, hp, hO⟩ := row_wr hW hx
  have hst := run_storeCells_at P (ρ.loc k) off e (vs.map (rlV ρ)) 0 ⟨c.map (rlV ρ) ++ tail⟩ w hp (by simp; omega) (oneL_all hv ρ)
  refine ⟨_, hst, ?_⟩
  have e2 : ((⟨c.map (rlV ρ) ++ tail⟩ : Array Value).toList.take (off + 0) ++ vs.map (rlV ρ) ++ (⟨c.map (rlV ρ) ++ tail⟩ : Array Value).toList.drop (off + 0 + (vs.map (rlV ρ)).length)).toArray =
      ⟨(putL c off vs).map (rlV ρ) ++ tail⟩ := by
    simp only [Nat.add_zero]
    rw [putL_row ρ c vs tail off hl]
  rw [e2]
  exact hW.turn (live_wr hx) (by simp) (setRow_size _ _ _) (setRow_heap w _ _ _ _ _ hp) (hO _ (oneL_putL h1 hv off) (putL_length hl)) (fun b hb => setRow_other w _ _ _ hb) rfl rfl rfl

theorem sound_store (T : TabOK P G) {t : TypeId} {x y : Operand} (ho : o.op = .store t x y) (hx : plainX N x = true) (hy : plainX N y = true) {s : Nat} (hs : size? G t = some s)
    (hr : oStore s (xo x) (xo y) tm h n = .val v h' n') : OpSim P G B0 N o tm h n a w v h' n' := by
  unfold oStore at hr
  rw [evK_eq] at hr
  obtain ⟨b, off, hv, hr⟩ := ptrV_elim hr nofun
  rw [evK_eq, cellsV_eq] at hr
  obtain ⟨h1, hr⟩ := ifB_elim hr nofun
  obtain ⟨h2, hr⟩ := ifB_elim hr nofun
  obtain ⟨k, c, e, u, rfl, hk, hr⟩ := wrK_elim hr nofun
  obtain ⟨h3, hr⟩ := ifB_elim hr nofun
  have h1' := Nat.eq_of_beq_eq_true h1
  have h3' := Nat.le_of_ble_eq_true h3
  rw [lenOf_eq] at h1' h3'
  rw [putK_eq _ _ _ _ _ (by rw [h1']; exact h3'), TH.set_eq] at hr
  cases hr
  refine ⟨Nat.le_refl _, Nat.le_succ _, 0, 0, 0, fun ρ hA hW _ => ?_⟩
  obtain ⟨w', hst, hW', hK⟩ := write_run (P := P) hW hk h2 (by rw [h1']; exact h3')
  refine ⟨.skip, w', ?_, .inr ⟨rfl, by simp [undefV_eq]; rfl⟩, hW', hK⟩
  have ex := plainX_ev hA hx
  rw [hv, rlV_ptr, rlB_own] at ex
  have ey := plainX_ev hA hy
  have hsz : (rlV ρ (evX tm (xo y))).cells.size = s := by rw [cells_size_rlV, ← h1']; simp
  unfold execOp
  rw [← cells_rlV] at hst
  simp [ho, ex, ey, Instr.storeAt, Instr.sureAddr, storeVar, hsz, T.run_size hs, hst]

theorem sound_nil {x : Operand} (ho : o.op = .nilCheck x) (hx : plainX N x = true) (hr : oNil (xo x) tm h n = .val v h' n') : OpSim P G B0 N o tm h n a w v h' n' := by
  unfold oNil at hr
  rw [evK_eq] at hr
  obtain ⟨h1, hr⟩ := ifB_elim hr nofun
  cases hr
  refine .pure fun ρ hA hW => ?_
  have e := plainX_ev hA hx
  unfold okNil at h1
  unfold execOp
  split at h1 <;> simp at h1
  all_goals (rename_i hq; rw [hq] at e; simp [rlV, rlF] at e; simp [ho, e, hq, rlV, rlF])
theorem sound_not {x : Operand} {t : TypeId} (ho : o.op = .unOp .not t x) (hx : plainX N x = true) (hr : oNot (xo x) tm h n = .val v h' n') : OpSim P G B0 N o tm h n a w v h' n' := by
  unfold oNot at hr
  rw [evK_eq] at hr
  obtain ⟨b, hb, hr⟩ := boolV_elim hr nofun
  have key : v = .bool (!b) ∧ h' = h ∧ n' = n := by
    rw [ifB_eq] at hr
    cases b <;> simp at hr <;> obtain ⟨rfl, rfl, rfl⟩ := hr <;> exact ⟨rfl, rfl, rfl⟩
  obtain ⟨rfl, rfl, rfl⟩ := key
  refine .pure fun ρ hA hW => ?_
  have e := plainX_ev hA hx
  rw [hb] at e
  simp [rlV] at e
  unfold execOp
  simp [ho, e, Op.unary, rlV]
theorem sound_iface (T : TabOK P G) {t : TypeId} {x : Operand} (ho : o.op = .makeInterface t x) (hx : plainX N x = true) {d : TypeDesc} (hd : und G t = some d) (hn : ∀ ms, d ≠ .interface ms)
    (hr : oIface t (xo x) tm h n = .val v h' n') : OpSim P G B0 N o tm h n a w v h' n' := by
  unfold oIface at hr
  rw [evK_eq] at hr
  cases hr
  refine .pure fun ρ hA hW => ?_
  have e := plainX_ev hA hx
  unfold execOp
  cases d with
  | interface ms => exact absurd rfl (hn ms)
  | _ => simp [ho, e, Instr.makeInterface, T.run_und hd, rlV]
theorem map_ev {ρ : Env} (hA : ActEq ρ N tm a) {l : Array Operand} (hl : ∀ x ∈ l.toList, plainX N x = true) :
    l.map (Ev a) = ⟨((l.toList.map xo).map (evX tm)).map (rlV ρ)⟩ := by
  have := evs_map hA hl
  apply Array.ext'
  simpa using this
theorem sound_func {fn : Fn} {f c : Array Operand} (ho : o.op = .makeFunc fn f c) (hf : ∀ x ∈ f.toList, plainX N x = true) (hc : ∀ x ∈ c.toList, plainX N x = true) (hfn : ∀ l, fn ≠ .yield l)
    (hr : oFunc fn (f.toList.map xo) (c.toList.map xo) tm h n = .val v h' n') : OpSim P G B0 N o tm h n a w v h' n' := by
  unfold oFunc at hr
  rw [evL_eq, evL_eq] at hr
  cases hr
  refine .pure fun ρ hA hW => ?_
  have e : rlF ρ fn = fn := by
    cases fn with
    | yield l => exact absurd rfl (hfn l)
    | _ => rfl
  unfold execOp
  simp only [ho, Instr.makeFunc, map_ev hA hf, map_ev hA hc]
  simp [rlV, e]
theorem sound_map (hB : B0 ≤ w.heap.size) {t : TypeId} {kt : XE} (ho : o.op = .makeMap t none) (hr : oMap kt tm h n = .val v h' n') : OpSim P G B0 N o tm h n a w v h' n' := by
  unfold oMap at hr
  rw [newK_eq] at hr
  cases hr
  refine .new hB fun ρ hA hW hl => ⟨.map #[] 0, ?_, #[], 0, rfl, by simp [Born], by simp, by simp, by simp⟩
  unfold execOp
  simp [ho, Instr.makeMap, rlV, hl]
end
end Go.Clo
namespace Go.Clo

theorem wrap_i64_in (n : Int) (h1 : -4611686018427387904 ≤ n) (h2 : n < 4611686018427387904) : IntKind.i64.wrap n = n := by rw [IntKind.wrap_i64]; omega
theorem bif_same {α : Type} (b : Bool) (x y : α) (h : b = true → x = y) : (bif b then x else y) = y := by
  cases b
  · rfl
  · exact h rfl
theorem wrapK_eq (k : IntKind) (n : Int) : wrapK k n = k.wrap n := by
  cases k with
  | i64 =>
    cases n with
    | ofNat m => exact bif_same _ _ _ fun hb => (wrap_i64_in (Int.ofNat m) (by have e : (Int.ofNat m) = (m : Int) := rfl; omega) (by have := blt_iff.1 hb; have e : (Int.ofNat m) = (m : Int) := rfl; omega)).symm
    | negSucc m => exact bif_same _ _ _ fun hb => (wrap_i64_in (Int.negSucc m) (by have := blt_iff.1 hb; have e : Int.negSucc m = -((m : Int) + 1) := Int.negSucc_eq m; omega) (by have e : Int.negSucc m = -((m : Int) + 1) := Int.negSucc_eq m; omega)).symm
  | _ => rfl
theorem iadd_eq (a b : Int) : iadd a b = a + b := by
  cases a <;> cases b <;> rfl
theorem isub_eq (a b : Int) : isub a b = a - b := by
  cases a with
  | ofNat a =>
    cases b with
    | ofNat b =>
      simp only [isub]
      have e1 : Nat.sub a b = a - b := rfl
      have e2 : Nat.sub (Nat.sub b a) 1 = b - a - 1 := rfl
      rw [e1, e2]
      cases hb : Nat.ble b a
      · have : ¬ b ≤ a := by rw [← Nat.ble_eq, hb]; simp
        simp only [cond_false]
        have : (Int.ofNat a) = (a : Int) := rfl
        have : (Int.ofNat b) = (b : Int) := rfl
        omega
      · have := Nat.le_of_ble_eq_true hb
        simp only [cond_true]
        have h1 : (Int.ofNat a) = (a : Int) := rfl
        have h2 : (Int.ofNat b) = (b : Int) := rfl
        have h3 : (Int.ofNat (a - b)) = ((a - b : Nat) : Int) := rfl
        omega
    | negSucc b => rfl
  | negSucc a => cases b <;> rfl
theorem ieq_eq (a b : Int) : ieq a b = decide (a = b) := by
  cases a with
  | ofNat a =>
    cases b with
    | ofNat b =>
      simp only [ieq]
      cases hb : Nat.beq a b
      · have h1 := Nat.ne_of_beq_eq_false hb
        have : ¬ (Int.ofNat a = Int.ofNat b) := fun h => h1 (by injection h)
        exact (decide_eq_false this).symm
      · have := Nat.eq_of_beq_eq_true hb
        subst this
        exact (decide_eq_true rfl).symm
    | negSucc b => simp [ieq]
  | negSucc a =>
    cases b with
    | ofNat b => simp [ieq]
    | negSucc b =>
      simp only [ieq]
      cases hb : Nat.beq a b
      · have h1 := Nat.ne_of_beq_eq_false hb
        have : ¬ (Int.negSucc a = Int.negSucc b) := fun h => h1 (by injection h)
        exact (decide_eq_false this).symm
      · have := Nat.eq_of_beq_eq_true hb
        subst this
        exact (decide_eq_true rfl).symm
theorem ilt_eq (a b : Int) : ilt a b = decide (a < b) := by
  cases a with
  | ofNat a =>
    cases b with
    | ofNat b =>
      have h1 : (Int.ofNat a) = (a : Int) := rfl
      have h2 : (Int.ofNat b) = (b : Int) := rfl
      simp only [ilt]
      cases hb : Nat.blt a b
      · have : ¬ a < b := by rw [← blt_iff, hb]; simp
        have : ¬ (Int.ofNat a < Int.ofNat b) := by omega
        simp only [this, decide_false]
      · have := blt_iff.1 hb
        have : (Int.ofNat a < Int.ofNat b) := by omega
        simp only [this, decide_true]
    | negSucc b =>
      have h1 : (Int.ofNat a) = (a : Int) := rfl
      have : ¬ (Int.ofNat a < Int.negSucc b) := by omega
      simp only [ilt, this, decide_false]
  | negSucc a =>
    cases b with
    | ofNat b =>
      have h1 : (Int.ofNat b) = (b : Int) := rfl
      have : (Int.negSucc a < Int.ofNat b) := by omega
      simp only [ilt, this, decide_true]
    | negSucc b =>
      simp only [ilt]
      cases hb : Nat.blt b a
      · have : ¬ b < a := by rw [← blt_iff, hb]; simp
        have : ¬ (Int.negSucc a < Int.negSucc b) := by omega
        simp only [this, decide_false]
      · have := blt_iff.1 hb
        have : (Int.negSucc a < Int.negSucc b) := by omega
        simp only [this, decide_true]

section
variable {P : Program} {G : Tab} {B0 N : Nat} {o : Oper} {tm : TV} {h : TH} {n : Nat} {a : Array Value} {w : World} {v : Value} {h' : TH} {n' : Nat} {ρ : Env}

theorem nthF_eq : ∀ (l : List Field) (i : Nat), nthF l i = l[i]?
  | [], _ => rfl
  | _ :: _, 0 => rfl
  | _ :: l, i + 1 => by simp [nthF, nthF_eq l i]
theorem field_eq {t : TypeId} {i : Nat} {f : Field} (hf : field? G t i = some f) : ∃ fs, und G t = some (.struct fs) ∧ fs[i]? = some f := by
  unfold field? at hf
  split at hf
  · rename_i fs hd
    exact ⟨fs, hd, by rw [nthF_eq] at hf; simpa using hf⟩
  · cases hf
theorem sound_fieldAddr (T : TabOK P G) {t : TypeId} {x : Operand} {i : Nat} (ho : o.op = .fieldAddr t x i) (hx : plainX N x = true) {f : Field} (hf : field? G t i = some f) {s : Nat} (hs : size? G f.type = some (s + 1))
    (hr : oFieldAddr f.offset (xo x) tm h n = .val v h' n') : OpSim P G B0 N o tm h n a w v h' n' := by
  unfold oFieldAddr at hr
  rw [evK_eq] at hr
  obtain ⟨b, off, hv, hr⟩ := ptrV_elim hr nofun
  rw [forceNat_eq] at hr
  cases hr
  obtain ⟨fs, hd, hi⟩ := field_eq hf
  refine .pure fun ρ hA hW => ?_
  have e := plainX_ev hA hx
  rw [hv, rlV_ptr] at e
  unfold execOp
  simp [ho, e, Instr.fieldAt, T.run_und hd, hi, Instr.sureAddr, fieldPlace, T.run_size hs, add_none, rlV_ptr]
theorem sound_field (T : TabOK P G) {t : TypeId} {x : Operand} {i : Nat} (ho : o.op = .field t x i) (hx : plainX N x = true) {f : Field} (hf : field? G t i = some f) {d : TypeDesc} {s : Nat}
    (hfd : und G f.type = some d) (hs : size? G f.type = some s) (hr : execX G (bif isAggD d then .fieldN f.offset s (xo x) else .field1 f.offset (xo x)) tm h n = .val v h' n') : OpSim P G B0 N o tm h n a w v h' n' := by
  obtain ⟨fs, hd, hi⟩ := field_eq hf
  cases hg : isAggD d with
  | true =>
    simp only [hg, cond_true] at hr
    change oFieldN f.offset s (xo x) tm h n = _ at hr
    unfold oFieldN at hr
    rw [evK_eq] at hr
    obtain ⟨l, hv, hr⟩ := aggV_elim hr nofun
    obtain ⟨h1, hr⟩ := dropK_elim hr nofun
    obtain ⟨h2, hr⟩ := takeK_elim hr nofun
    cases hr
    refine .pure fun ρ hA hW => ?_
    have e := plainX_ev hA hx
    rw [hv] at e
    simp only [rlV, rlR_mk] at e
    unfold execOp
    simp [ho, e, Instr.field, T.run_und hd, hi, asAgg, part, T.run_isAgg hfd, hg, T.run_size hs, rlV, List.extract_eq_take_drop]
  | false =>
    simp only [hg, cond_false] at hr
    change oField1 f.offset (xo x) tm h n = _ at hr
    unfold oField1 at hr
    rw [evK_eq] at hr
    obtain ⟨l, hv, hr⟩ := aggV_elim hr nofun
    obtain ⟨u, hu, hr⟩ := nthK_elim hr nofun
    cases hr
    refine .pure fun ρ hA hW => ?_
    have e := plainX_ev hA hx
    rw [hv] at e
    simp only [rlV, rlR_mk] at e
    unfold execOp
    simp [ho, e, Instr.field, T.run_und hd, hi, asAgg, part, T.run_isAgg hfd, hg, hu]
theorem sound_idxA (T : TabOK P G) {t : TypeId} {x i : Operand} (ho : o.op = .indexAddr t x i) (hx : plainX N x = true) (hi : plainX N i = true) {len e s : Nat} (hd : und G t = some (.array len e)) (hs : size? G e = some s)
    (hr : oIdxA len s (xo x) (xo i) tm h n = .val v h' n') : OpSim P G B0 N o tm h n a w v h' n' := by
  unfold oIdxA at hr
  rw [evK_eq] at hr
  obtain ⟨b, off, hv, hr⟩ := ptrV_elim hr nofun
  rw [evK_eq] at hr
  obtain ⟨k, m, hm, hr⟩ := natV_elim hr nofun
  obtain ⟨h1, hr⟩ := ifB_elim hr nofun
  rw [forceNat_eq] at hr
  cases hr
  have h1 := blt_iff.1 h1
  refine .pure fun ρ hA hW => ?_
  have ex := plainX_ev hA hx
  have ei := plainX_ev hA hi
  rw [hv, rlV_ptr] at ex
  rw [hm] at ei
  simp only [rlV] at ei
  unfold execOp
  have h2 : (0 : Int) ≤ (m : Int) ∧ (m : Int) < (len : Int) := by omega
  simp [ho, ex, ei, Instr.indexAt, asIntOf, T.run_und hd, Instr.sureAddr, h2, T.run_size hs, add_none, rlV_ptr]
  omega
theorem sound_idxS (T : TabOK P G) {t : TypeId} {x i : Operand} (ho : o.op = .indexAddr t x i) (hx : plainX N x = true) (hi : plainX N i = true) {e s : Nat} (hd : und G t = some (.slice e)) (hs : size? G e = some s)
    (hr : oIdxS s (xo x) (xo i) tm h n = .val v h' n') : OpSim P G B0 N o tm h n a w v h' n' := by
  unfold oIdxS at hr
  rw [evK_eq] at hr
  obtain ⟨ao, len, cap, hv, hr⟩ := sliceV_elim hr nofun
  rw [evK_eq] at hr
  obtain ⟨k, m, hm, hr⟩ := natV_elim hr nofun
  obtain ⟨h1, hr⟩ := ifB_elim hr nofun
  have h1 := blt_iff.1 h1
  obtain ⟨b, off, hq, hr⟩ := ptrV_elim hr nofun
  simp only [Value.pointer.injEq] at hq
  rw [forceNat_eq] at hr
  cases hr
  refine .pure fun ρ hA hW => ?_
  have ex := plainX_ev hA hx
  have ei := plainX_ev hA hi
  rw [hv, hq] at ex
  rw [hm] at ei
  simp only [rlV, Option.map_some, rlS_none] at ex ei
  unfold execOp
  have h2 : (0 : Int) ≤ (m : Int) ∧ (m : Int) < (len : Int) := by omega
  simp [ho, ex, ei, Instr.indexAt, asIntOf, T.run_und hd, h2, T.run_size hs, add_none, rlV_ptr]
  omega
theorem sound_index1 (T : TabOK P G) {t : TypeId} {x i : Operand} (ho : o.op = .index t x i) (hx : plainX N x = true) (hi : plainX N i = true) {len e : Nat} {d : TypeDesc} (hd : und G t = some (.array len e))
    (hed : und G e = some d) (hg : isAggD d = false) (hs : size? G e = some 1) (hr : oIndex1 len (xo x) (xo i) tm h n = .val v h' n') : OpSim P G B0 N o tm h n a w v h' n' := by
  unfold oIndex1 at hr
  rw [evK_eq] at hr
  obtain ⟨l, hv, hr⟩ := aggV_elim hr nofun
  rw [evK_eq] at hr
  obtain ⟨k, m, hm, hr⟩ := natV_elim hr nofun
  obtain ⟨h1, hr⟩ := ifB_elim hr nofun
  obtain ⟨u, hu, hr⟩ := nthK_elim hr nofun
  cases hr
  have h1 := blt_iff.1 h1
  refine .pure fun ρ hA hW => ?_
  have ex := plainX_ev hA hx
  have ei := plainX_ev hA hi
  rw [hv] at ex
  rw [hm] at ei
  simp only [rlV, rlR_mk] at ex ei
  unfold execOp
  have h2 : (0 : Int) ≤ (m : Int) ∧ (m : Int) < (len : Int) := by omega
  simp [ho, ex, ei, Instr.index, asIntOf, T.run_und hd, h2, T.run_size hs, part, T.run_isAgg hed, hg, hu]
  omega
theorem sound_indexStr (T : TabOK P G) {t : TypeId} {x i : Operand} (ho : o.op = .index t x i) (hx : plainX N x = true) (hi : plainX N i = true) (hd : und G t = some .string)
    (hr : oIndexStr (xo x) (xo i) tm h n = .val v h' n') : OpSim P G B0 N o tm h n a w v h' n' := by
  unfold oIndexStr at hr
  rw [evK_eq] at hr
  obtain ⟨s, hv, hr⟩ := strV_elim hr nofun
  rw [evK_eq] at hr
  obtain ⟨k, m, hm, hr⟩ := natV_elim hr nofun
  cases hs : s.drop m with
  | nil => rw [hs] at hr; cases hr
  | cons b rest =>
    rw [hs] at hr
    cases hr
    have hb : s[m]? = some b := by
      have := congrArg (fun l => l[0]?) hs
      simpa using this
    have hlt : m < s.length := (List.getElem?_eq_some_iff.1 hb).1
    refine .pure fun ρ hA hW => ?_
    have ex := plainX_ev hA hx
    have ei := plainX_ev hA hi
    rw [hv] at ex
    rw [hm] at ei
    simp only [rlV] at ex ei
    unfold execOp
    have h4 : m < (⟨⟨s⟩⟩ : ByteArray).size := hlt
    have h3 : (⟨⟨s⟩⟩ : ByteArray)[m]? = some b := by
      rw [getElem?_pos (⟨⟨s⟩⟩ : ByteArray) m h4]
      have : s[m] = b := (List.getElem?_eq_some_iff.1 hb).2
      exact congrArg some this
    simp [ho, ex, ei, Instr.index, asIntOf, T.run_und hd, h3, rlV]
theorem sound_extract {x : Operand} {i : Nat} (ho : o.op = .extract x i) (hx : plainX N x = true) (hr : oExtract (xo x) i tm h n = .val v h' n') : OpSim P G B0 N o tm h n a w v h' n' := by
  unfold oExtract at hr
  rw [evK_eq] at hr
  obtain ⟨l, hv, hr⟩ := tupV_elim hr nofun
  obtain ⟨u, hu, hr⟩ := nthK_elim hr nofun
  cases hr
  refine .pure fun ρ hA hW => ?_
  have ex := plainX_ev hA hx
  rw [hv] at ex
  simp only [rlV, rlR_mk] at ex
  unfold execOp
  simp [ho, ex, Instr.extract, hu]
theorem sound_convInt (T : TabOK P G) {s t : TypeId} {x : Operand} (ho : o.op = .convert s t x) (hx : plainX N x = true) {j k : IntKind} (hs : und G s = some (.int j)) (ht : und G t = some (.int k))
    (hr : oConvInt k (xo x) tm h n = .val v h' n') : OpSim P G B0 N o tm h n a w v h' n' := by
  unfold oConvInt at hr
  rw [evK_eq] at hr
  obtain ⟨k', m, hv, hr⟩ := intV_elim hr nofun
  rw [forceInt_eq, wrapK_eq] at hr
  cases hr
  refine .pure fun ρ hA hW => ?_
  have ex := plainX_ev hA hx
  rw [hv] at ex
  simp only [rlV] at ex
  unfold execOp
  simp [ho, ex, convert, T.run_und hs, T.run_und ht, Conv.intToInt, rlV]
end
end Go.Clo
namespace Go.Clo

section
variable {P : Program} {G : Tab} {B0 N : Nat} {o : Oper} {tm : TV} {h : TH} {n : Nat} {a : Array Value} {w : World} {v : Value} {h' : TH} {n' : Nat} {ρ : Env}

theorem cntK_elim {β : Type} {no r : β} {x : Value} {κ : Nat → β} (hh : cntK x no h κ = r) (hn : no ≠ r) :
    (x = .map none ∧ κ 0 = r) ∨ ∃ k t es, x = .map (some (O + k)) ∧ h.getO k = .map t es ∧ κ es.length = r := by
  unfold cntK at hh
  split at hh
  · exact .inl ⟨rfl, hh⟩
  · obtain ⟨k, hb, h2⟩ := ownK_elim hh hn
    rw [TH.getK_eq] at h2
    obtain ⟨t, es, he, h3⟩ := mapO_elim h2 hn
    subst hb
    rw [lenOf_eq] at h3
    exact .inr ⟨k, t, es, rfl, he, h3⟩
  · exact absurd hh hn
theorem live_map {k : Nat} {t : XE} {es : List (Value × Value)} (hx : h.getO k = .map t es) : Live h k := by unfold Live; rw [hx]; simp

theorem args1 {c : Call} {x : Operand} (ha : c.args.toList = [x]) : c.args.map (Ev a) = #[Ev a x] := by
  apply Array.ext'
  simp [ha]
theorem args2 {c : Call} {x y : Operand} (ha : c.args.toList = [x, y]) : c.args.map (Ev a) = #[Ev a x, Ev a y] := by
  apply Array.ext'
  simp [ha]
theorem types0 {c : Call} {t : TypeId} {ts : List TypeId} (ht : c.argTypes.toList = t :: ts) : c.argTypes[0]? = some t := by
  have := congrArg (fun l => l[0]?) ht
  simpa using this
theorem sound_lenStr (T : TabOK P G) {c : Call} {x : Operand} {t : TypeId} {ts : List TypeId} (ho : o.op = .call c) (hc : c.callee = .builtin .len) (ha : c.args.toList = [x]) (ht : c.argTypes.toList = t :: ts) (hx : plainX N x = true)
    (hd : und G t = some .string) (hr : oLenStr (xo x) tm h n = .val v h' n') : OpSim P G B0 N o tm h n a w v h' n' := by
  unfold oLenStr at hr
  rw [evK_eq] at hr
  obtain ⟨s, hv, hr⟩ := strV_elim hr nofun
  rw [forceNat_eq, lenOf_eq] at hr
  cases hr
  refine .pure fun ρ hA hW => ?_
  have ex := plainX_ev hA hx
  rw [hv] at ex
  simp only [rlV] at ex
  have es : (⟨⟨s⟩⟩ : ByteArray).size = s.length := rfl
  unfold execOp
  simp only [ho, resolve, hc, invoke, builtin, args1 ha, ex]
  simp [Builtin.len_, types0 ht, T.run_und hd, goInt, goN, rlV, es]
theorem sound_lenSl (T : TabOK P G) {c : Call} {x : Operand} {t : TypeId} {ts : List TypeId} (ho : o.op = .call c) (hc : c.callee = .builtin .len) (ha : c.args.toList = [x]) (ht : c.argTypes.toList = t :: ts) (hx : plainX N x = true)
    {e : TypeId} (hd : und G t = some (.slice e)) (hr : oLenSl (xo x) tm h n = .val v h' n') : OpSim P G B0 N o tm h n a w v h' n' := by
  unfold oLenSl at hr
  rw [evK_eq] at hr
  obtain ⟨ad, m, cp, hv, hr⟩ := sliceV_elim hr nofun
  cases hr
  refine .pure fun ρ hA hW => ?_
  have ex := plainX_ev hA hx
  rw [hv] at ex
  simp only [rlV] at ex
  unfold execOp
  simp [ho, resolve, hc, invoke, builtin, args1 ha, ex, Builtin.len_, types0 ht, T.run_und hd, goInt, goN, rlV]
theorem sound_lenMap (T : TabOK P G) {c : Call} {x : Operand} {t : TypeId} {ts : List TypeId} (ho : o.op = .call c) (hc : c.callee = .builtin .len) (ha : c.args.toList = [x]) (ht : c.argTypes.toList = t :: ts) (hx : plainX N x = true)
    {k e : TypeId} (hd : und G t = some (.map k e)) (hr : oLenMap (xo x) tm h n = .val v h' n') : OpSim P G B0 N o tm h n a w v h' n' := by
  unfold oLenMap at hr
  rw [evK_eq] at hr
  rcases cntK_elim hr nofun with ⟨hv, hr2⟩ | ⟨b, kt, es, hv, hb, hr2⟩
  · rw [forceNat_eq] at hr2
    cases hr2
    refine .pure fun ρ hA hW => ?_
    have ex := plainX_ev hA hx
    rw [hv] at ex
    simp only [rlV] at ex
    unfold execOp
    simp [ho, resolve, hc, invoke, builtin, args1 ha, ex, Builtin.len_, types0 ht, T.run_und hd, goInt, goN, rlV]
  · rw [forceNat_eq] at hr2
    cases hr2
    refine .pure fun ρ hA hW => ?_
    have ex := plainX_ev hA hx
    rw [hv] at ex
    simp only [rlV, Option.map_some, rlB_own] at ex
    obtain ⟨p, hp, hO⟩ := hW.obj b (live_map hb)
    rw [hb] at hO
    obtain ⟨E, cl, rfl, _, _, _, hperm⟩ := hO
    have hl : E.size = es.length := by
      have := hperm.length_eq
      simpa using this
    unfold execOp
    simp [ho, resolve, hc, invoke, builtin, args1 ha, ex, Builtin.len_, types0 ht, T.run_und hd, goInt, goN, rlV, getObj, Sem.run, hp, hl]
theorem sound_cap (T : TabOK P G) {c : Call} {x : Operand} {t : TypeId} {ts : List TypeId} (ho : o.op = .call c) (hc : c.callee = .builtin .cap) (ha : c.args.toList = [x]) (ht : c.argTypes.toList = t :: ts) (hx : plainX N x = true)
    {e : TypeId} (hd : und G t = some (.slice e)) (hr : oCap (xo x) tm h n = .val v h' n') : OpSim P G B0 N o tm h n a w v h' n' := by
  unfold oCap at hr
  rw [evK_eq] at hr
  obtain ⟨ad, m, cp, hv, hr⟩ := sliceV_elim hr nofun
  obtain ⟨h1, hr⟩ := ifB_elim hr nofun
  cases hr
  have h1 := blt_iff.1 h1
  refine .pure fun ρ hA hW => ?_
  have ex := plainX_ev hA hx
  rw [hv] at ex
  simp only [rlV, rlC, if_pos h1] at ex
  unfold execOp
  simp [ho, resolve, hc, invoke, builtin, args1 ha, ex, Builtin.cap_, types0 ht, T.run_und hd, goInt, goN, rlV]

theorem sound_assertC (T : TabOK P G) {x : Operand} {xt t : TypeId} {ok : Bool} {z : Value} {d : TypeDesc} (ho : o.op = .typeAssert x xt t ok) (hx : plainX N x = true) (hd : und G t = some d) (hn : ∀ ms, d ≠ .interface ms)
    (hz : zero? G t = some z) (hr : oAssertC t z (xo x) ok tm h n = .val v h' n') : OpSim P G B0 N o tm h n a w v h' n' := by
  obtain ⟨_, _, _, hpz, _⟩ := T.zero hz
  unfold oAssertC at hr
  rw [evK_eq] at hr
  rcases ifaceV_elim hr nofun with ⟨hv, hr2⟩ | ⟨u, y, hv, hr2⟩
  · obtain ⟨hok, hr3⟩ := ifB_elim hr2 nofun
    cases hr3
    refine .pure fun ρ hA hW => ?_
    have ex := plainX_ev hA hx
    rw [hv] at ex
    simp only [rlV] at ex
    have e2 : rlV ρ (.tuple ⟨[z, .bool false]⟩) = .tuple #[z, .bool false] := by simp [rlV, rlV_plain ρ z hpz]
    unfold execOp
    rw [e2]
    cases d with
    | interface ms => exact absurd rfl (hn ms)
    | _ => simp [ho, ex, Instr.typeAssert, T.run_und hd, hok, T.run_zero hz]
  · rw [ifB_eq] at hr2
    split at hr2
    · rename_i hut
      have hut := Nat.eq_of_beq_eq_true hut
      subst hut
      rw [ifB_eq] at hr2
      cases ok with
      | true =>
        simp only [if_true] at hr2
        cases hr2
        refine .pure fun ρ hA hW => ?_
        have ex := plainX_ev hA hx
        rw [hv] at ex
        simp only [rlV] at ex
        unfold execOp
        cases d with
        | interface ms => exact absurd rfl (hn ms)
        | _ => simp [ho, ex, Instr.typeAssert, T.run_und hd, rlV]
      | false =>
        simp only [Bool.false_eq_true, if_false] at hr2
        cases hr2
        refine .pure fun ρ hA hW => ?_
        have ex := plainX_ev hA hx
        rw [hv] at ex
        simp only [rlV] at ex
        unfold execOp
        cases d with
        | interface ms => exact absurd rfl (hn ms)
        | _ => simp [ho, ex, Instr.typeAssert, T.run_und hd]
    · rename_i hut
      have hut : u ≠ t := fun e => hut (by rw [e]; exact Nat.beq_refl t)
      obtain ⟨hok, hr3⟩ := ifB_elim hr2 nofun
      cases hr3
      refine .pure fun ρ hA hW => ?_
      have ex := plainX_ev hA hx
      rw [hv] at ex
      simp only [rlV] at ex
      have e2 : rlV ρ (.tuple ⟨[z, .bool false]⟩) = .tuple #[z, .bool false] := by simp [rlV, rlV_plain ρ z hpz]
      unfold execOp
      rw [e2]
      cases d with
      | interface ms => exact absurd rfl (hn ms)
      | _ => simp [ho, ex, Instr.typeAssert, T.run_und hd, hok, T.run_zero hz, hut]
theorem sound_assertI (T : TabOK P G) {x : Operand} {xt t : TypeId} {ok : Bool} {z : Value} {want : Array (String × TypeId)} (ho : o.op = .typeAssert x xt t ok) (hx : plainX N x = true) (hd : und G t = some (.interface want))
    (hz : zero? G t = some z) (hr : oAssertI G want z (xo x) ok tm h n = .val v h' n') : OpSim P G B0 N o tm h n a w v h' n' := by
  obtain ⟨_, _, _, hpz, _⟩ := T.zero hz
  have e2 : ∀ ρ, rlV ρ (.tuple ⟨[z, .bool false]⟩) = .tuple #[z, .bool false] := fun ρ => by simp [rlV, rlV_plain ρ z hpz]
  unfold oAssertI at hr
  rw [evK_eq] at hr
  rcases ifaceV_elim hr nofun with ⟨hv, hr2⟩ | ⟨u, y, hv, hr2⟩
  · obtain ⟨hok, hr3⟩ := ifB_elim hr2 nofun
    cases hr3
    refine .pure fun ρ hA hW => ?_
    have ex := plainX_ev hA hx
    rw [hv] at ex
    simp only [rlV] at ex
    unfold execOp
    rw [e2]
    simp [ho, ex, Instr.typeAssert, T.run_und hd, hok, T.run_zero hz]
  · split at hr2
    · rename_i i hi
      have hi' := T.ty u i hi
      rw [ifB_eq] at hr2
      cases hm : Instr.missingMethod want i.methods with
      | some s =>
        simp only [hm, Option.isSome_some, if_true] at hr2
        obtain ⟨hok, hr3⟩ := ifB_elim hr2 nofun
        cases hr3
        refine .pure fun ρ hA hW => ?_
        have ex := plainX_ev hA hx
        rw [hv] at ex
        simp only [rlV] at ex
        unfold execOp
        rw [e2]
        simp [ho, ex, Instr.typeAssert, T.run_und hd, hok, T.run_zero hz, typeInfo, hi', hm]
      | none =>
        simp only [hm, Option.isSome_none, Bool.false_eq_true, if_false] at hr2
        rw [ifB_eq] at hr2
        cases ok with
        | true =>
          simp only [if_true] at hr2
          cases hr2
          refine .pure fun ρ hA hW => ?_
          have ex := plainX_ev hA hx
          rw [hv] at ex
          simp only [rlV] at ex
          unfold execOp
          simp [ho, ex, Instr.typeAssert, T.run_und hd, typeInfo, hi', hm, rlV]
        | false =>
          simp only [Bool.false_eq_true, if_false] at hr2
          cases hr2
          refine .pure fun ρ hA hW => ?_
          have ex := plainX_ev hA hx
          rw [hv] at ex
          simp only [rlV] at ex
          unfold execOp
          simp [ho, ex, Instr.typeAssert, T.run_und hd, typeInfo, hi', hm, rlV]
    · cases hr2
end
end Go.Clo
namespace Go.Clo

theorem reps_length {α : Type} (z : List α) (n : Nat) : (reps z n).length = n * z.length := by
  induction n with
  | zero => simp [reps]
  | succ n ih => simp [reps, ih, Nat.succ_mul]; omega
theorem reps_get {α : Type} (z : List α) : ∀ (n i : Nat), i < n * z.length → (reps z n)[i]? = z[i % z.length]?
  | 0, i, h => by simp at h
  | n + 1, i, h => by
    simp only [reps]
    by_cases hi : i < z.length
    · rw [List.getElem?_append_left hi, Nat.mod_eq_of_lt hi]
    · have h1 : z.length ≤ i := by omega
      rw [List.getElem?_append_right h1, reps_get z n _ (by rw [Nat.succ_mul] at h; omega), ← Nat.mod_eq_sub_mod h1]
theorem madeCells_reps (z : Array Value) (n : Nat) : madeCells z (n * z.size) = ⟨reps z.toList n⟩ := by
  apply Array.ext'
  apply List.ext_getElem?
  intro i
  by_cases hi : i < n * z.size
  · have h2 := reps_get z.toList n i (by simpa using hi)
    have hz : 0 < z.size := by
      rcases Nat.eq_zero_or_pos z.size with h0 | h0
      · rw [h0] at hi; simp at hi
      · exact h0
    have hm : i % z.size < z.size := Nat.mod_lt _ hz
    show (madeCells z (n * z.size)).toList[i]? = (reps z.toList n)[i]?
    rw [h2]
    simp [madeCells, hi, hm]
  · have h1 : (madeCells z (n * z.size)).toList.length ≤ i := by simp [madeCells]; omega
    have h2 : (reps z.toList n).length ≤ i := by rw [reps_length]; simp; omega
    show (madeCells z (n * z.size)).toList[i]? = (reps z.toList n)[i]?
    rw [List.getElem?_eq_none h1, List.getElem?_eq_none h2]
theorem oneL_reps {z : List Value} (h : oneL z = true) (n : Nat) : oneL (reps z n) = true := by
  induction n with
  | zero => rfl
  | succ n ih => simp [reps, oneL_append, h, ih]
theorem reps_map (ρ : Env) {z : List Value} (h : z.map (rlV ρ) = z) (n : Nat) : (reps z n).map (rlV ρ) = reps z n := by
  induction n with
  | zero => rfl
  | succ n ih => simp [reps, h, ih]

section
variable {P : Program} {G : Tab} {B0 N : Nat} {o : Oper} {tm : TV} {h : TH} {n : Nat} {a : Array Value} {w : World} {v : Value} {h' : TH} {n' : Nat} {ρ : Env}

theorem rlV_sl_known (ρ : Env) (n l c : Nat) (hc : c < unkCap) : rlV ρ (sl n l c) = .slice (some ⟨ρ.loc n, 0, none⟩) l c := by
  simp [sl, rlV, rlC, hc]
theorem rlV_sl_unk (ρ : Env) (n l : Nat) : rlV ρ (sl n l unkCap) = .slice (some ⟨ρ.loc n, 0, none⟩) l (ρ.cap n) := by
  simp [sl, rlV, rlC]
theorem sound_mkSlice (T : TabOK P G) (hB : B0 ≤ w.heap.size) {t : TypeId} {l c : Operand} {e : TypeId} {z : Value} {i : TypeInfo} (ho : o.op = .makeSlice t l c) (hl : plainX N l = true) (hc : plainX N c = true) (hd : und G t = some (.slice e))
    (hz : zero? G e = some z) (hi : G.tt.get e = some i) (hb : i.bytes ≤ 4096) (hr : oMkSlice e z.cells.toList (xo l) (xo c) tm h n = .val v h' n') : OpSim P G B0 N o tm h n a w v h' n' := by
  unfold oMkSlice at hr
  rw [evK_eq] at hr
  obtain ⟨kl, ln, hlv, hr⟩ := natV_elim hr nofun
  rw [evK_eq] at hr
  obtain ⟨kc, cn, hcv, hr⟩ := natV_elim hr nofun
  obtain ⟨h1, hr⟩ := ifB_elim hr nofun
  obtain ⟨h2, hr⟩ := ifB_elim hr nofun
  rw [newK_eq] at hr
  cases hr
  have h1 := Nat.le_of_ble_eq_true h1
  have h2 := Nat.le_of_ble_eq_true h2
  obtain ⟨i', hi', hz2, hp, hcs⟩ := T.zero hz
  have : i' = i := by have := T.ty e i hi; rw [hi'] at this; exact Option.some.inj this
  subst this
  refine .new hB fun ρ hA hW hloc => ⟨.cells (madeCells z.cells (cn * i'.size)) e, ?_, ?_⟩
  · have el := plainX_ev hA hl
    have ec := plainX_ev hA hc
    rw [hlv] at el
    rw [hcv] at ec
    simp only [rlV] at el ec
    have hby : (i'.bytes : Int) * (cn : Int) ≤ 281474976710656 := by
      have : i'.bytes * cn ≤ 4096 * 1000000 := Nat.mul_le_mul hb h2
      have e2 : ((i'.bytes * cn : Nat) : Int) = (i'.bytes : Int) * (cn : Int) := by simp
      omega
    have hrun := run_make (P := P) w t e i' z (T.und hd) hi' hz2 kl kc ln cn (by omega) (by omega) hby (by omega)
    simp only [Int.toNat_natCast] at hrun
    unfold execOp
    rw [rlV_sl_known ρ n ln cn (by unfold unkCap; omega), hloc]
    simp [ho, el, ec, hrun]
  · have hpc := plain_cells (ρ := ρ) hp
    refine ⟨oneL_reps hpc.1 cn, ?_⟩
    rw [← hcs, madeCells_reps, reps_map ρ hpc.2]

theorem boundX {lo : Option Operand} (hA : ActEq ρ N tm a) (hp : ∀ x, lo = some x → plainX N x = true) {d m : Nat} (hm : lo.map xo = none ∧ m = d ∨ ∃ y k, lo.map xo = some y ∧ evX tm y = .int k m) :
    (lo = none ∧ m = d) ∨ ∃ k, lo.map (Ev a) = some (.int k (m : Int)) := by
  rcases hm with ⟨h1, h2⟩ | ⟨y, k, h1, h2⟩
  · exact .inl ⟨by cases lo <;> simp_all, h2⟩
  · cases lo with
    | none => simp at h1
    | some x =>
      simp only [Option.map_some, Option.some.injEq] at h1
      have e := plainX_ev hA (hp x rfl)
      rw [h1, h2] at e
      exact .inr ⟨k, by simp [e, rlV]⟩
theorem bounds_run {isS : Bool} {len cap l r : Nat} {lo hi : Option Value} (hl : (lo = none ∧ l = 0) ∨ ∃ k, lo = some (.int k (l : Int))) (hh : (hi = none ∧ r = len) ∨ ∃ k, hi = some (.int k (r : Int)))
    (h1 : l ≤ r) (h2 : r ≤ cap) (hlc : len ≤ cap) : (Instr.sliceBounds isS len cap lo hi none).run P w = .ok (l, r, cap) w := by
  rcases hl with ⟨rfl, rfl⟩ | ⟨k, rfl⟩ <;> rcases hh with ⟨rfl, rfl⟩ | ⟨k2, rfl⟩ <;>
    simp [Instr.sliceBounds, Instr.sliceBound, asIntOf, h1, h2]
theorem bounds_run3 {isS : Bool} {len cap l r m : Nat} {lo hi : Option Value} {km : IntKind} (hl : (lo = none ∧ l = 0) ∨ ∃ k, lo = some (.int k (l : Int))) (hh : ∃ k, hi = some (.int k (r : Int)))
    (h1 : l ≤ r) (h2 : r ≤ m) (h3 : m ≤ cap) : (Instr.sliceBounds isS len cap lo hi (some (.int km (m : Int)))).run P w = .ok (l, r, m) w := by
  obtain ⟨k2, rfl⟩ := hh
  rcases hl with ⟨rfl, rfl⟩ | ⟨k, rfl⟩ <;>
    simp [Instr.sliceBounds, Instr.sliceBound, asIntOf, h1, h2, h3]
theorem sound_sliceStr (T : TabOK P G) {t : TypeId} {x : Operand} {lo hi : Option Operand} (ho : o.op = .slice t x lo hi none) (hx : plainX N x = true) (hlo : ∀ y, lo = some y → plainX N y = true) (hhi : ∀ y, hi = some y → plainX N y = true)
    (hd : und G t = some .string) (hr : oSliceStr (xo x) (lo.map xo) (hi.map xo) tm h n = .val v h' n') : OpSim P G B0 N o tm h n a w v h' n' := by
  unfold oSliceStr at hr
  rw [evK_eq] at hr
  obtain ⟨s, hv, hr⟩ := strV_elim hr nofun
  obtain ⟨l, hl, hr⟩ := boundK_elim hr nofun
  obtain ⟨r, hh, hr⟩ := boundK_elim hr nofun
  obtain ⟨h1, hr⟩ := ifB_elim hr nofun
  obtain ⟨h2, hr⟩ := ifB_elim hr nofun
  cases hr
  have h1 := Nat.le_of_ble_eq_true h1
  have h2 := Nat.le_of_ble_eq_true h2
  rw [lenOf_eq] at h2 hh
  refine .pure fun ρ hA hW => ?_
  have ex := plainX_ev hA hx
  rw [hv] at ex
  simp only [rlV] at ex
  have es : (⟨⟨s⟩⟩ : ByteArray).size = s.length := rfl
  have hb := bounds_run (P := P) (w := w) (isS := false) (len := s.length) (cap := s.length) ((boundX hA hlo hl).imp (fun q => ⟨by simp [q.1], q.2⟩) id) ((boundX hA hhi hh).imp (fun q => ⟨by simp [q.1], q.2⟩) id) h1 h2 (Nat.le_refl _)
  have e3 : (⟨⟨s⟩⟩ : ByteArray).extract l r = ⟨⟨(s.drop l).take (r - l)⟩⟩ := by
    have : ((⟨⟨s⟩⟩ : ByteArray).extract l r).data = ⟨(s.drop l).take (r - l)⟩ := by
      rw [ByteArray.data_extract]
      apply Array.ext'
      rw [Array.toList_extract]
    cases hq : (⟨⟨s⟩⟩ : ByteArray).extract l r with
    | mk d => rw [hq] at this; simp only at this; rw [this]
  have e4 : Nat.sub r l = r - l := rfl
  unfold execOp
  simp only [ho, Option.map_none]
  simp [Instr.sliceAt, T.run_und hd, ex, Instr.slice, es, hb, e3, rlV]

theorem minX_run (mx : Bool) : ∀ (rest : List Value) (k : IntKind) (x : Int) (v : Value), minX mx k x rest = some v →
    (∃ m, v = .int k m) ∧ (List.foldlM (if mx then Builtin.max2 else Builtin.min2) (.int k x) (rest.map (rlV ρ))).run P w = .ok v w
  | [], k, x, v, hm => by
    simp only [minX, Option.some.injEq] at hm
    subst hm
    exact ⟨⟨x, rfl⟩, by simp⟩
  | y :: rest, k, x, v, hm => by
    cases y with
    | int j b =>
      simp only [minX] at hm
      have ih := minX_run mx rest k _ v hm
      refine ⟨ih.1, ?_⟩
      have e : ((if mx then Builtin.max2 else Builtin.min2) (.int k x) (.int j b)) = pure (.int k (bif (bif mx then ilt x b else ilt b x) then b else x)) := by
        cases mx
        · simp only [Bool.false_eq_true, if_false, cond_false, Builtin.min2, ilt_eq]
          by_cases hb : b < x <;> simp [hb]
        · simp only [if_true, cond_true, Builtin.max2, ilt_eq]
          by_cases hb : x < b <;> simp [hb]
      simp only [List.map_cons, rlV, List.foldlM_cons, e]
      simpa using ih.2
    | _ => simp [minX] at hm
theorem sound_minmax {c : Call} {x : Operand} {xs : List Operand} (mx : Bool) (ho : o.op = .call c) (hc : c.callee = .builtin (if mx then .max else .min)) (ha : c.args.toList = x :: xs) (hp : ∀ y ∈ c.args.toList, plainX N y = true)
    (hr : oMinMax mx (xo x :: xs.map xo) tm h n = .val v h' n') : OpSim P G B0 N o tm h n a w v h' n' := by
  unfold oMinMax at hr
  rw [evL_eq] at hr
  simp only [List.map_cons] at hr
  split at hr
  · rename_i k y rest hl
    simp only [List.cons.injEq] at hl
    split at hr
    · rename_i u hu
      cases hr
      refine .pure fun ρ hA hW => ?_
      obtain ⟨⟨m, hm⟩, hrun⟩ := minX_run (ρ := ρ) (P := P) (w := w) mx rest k y _ hu
      have hargs : c.args.toList.map (Ev a) = .int k y :: rest.map (rlV ρ) := by
        have := evs_map hA hp
        rw [ha] at this ⊢
        simp only [List.map_cons, hl.1, hl.2, rlV] at this
        simpa using this
      unfold execOp
      cases mx
      · simp only [Bool.false_eq_true, if_false] at hc hrun
        simp [ho, resolve, hc, invoke, builtin, Builtin.min_, hargs, hrun, hm, rlV]
      · simp only [if_true] at hc hrun
        simp [ho, resolve, hc, invoke, builtin, Builtin.max_, hargs, hrun, hm, rlV]
    · cases hr
  · cases hr
end
end Go.Clo
namespace Go.Clo

section
variable {P : Program} {G : Tab} {B0 N : Nat} {o : Oper} {tm : TV} {h : TH} {n : Nat} {a : Array Value} {w : World} {v : Value} {h' : TH} {n' : Nat} {ρ : Env}

theorem adK_elim {β : Type} {no r : β} {ao : Option Addr} {κ : Nat → Nat → β} (hh : adK ao no κ = r) (hn : no ≠ r) : ∃ b off, ao = some ⟨b, off, none⟩ ∧ κ b off = r := by
  obtain ⟨b, off, hv, h2⟩ := ptrV_elim hh hn
  simp only [Value.pointer.injEq] at hv
  exact ⟨b, off, hv, h2⟩
theorem WEq.succ (hW : WEq ρ G B0 h n w) : WEq ρ G B0 h (n + 1) w := ⟨fun k hk => Nat.lt_succ_of_lt (hW.lt k hk), hW.base, hW.obj, hW.inj⟩

/-- the capacity of an open slice whose block is looked at -/
theorem open_cap (hW : WEq ρ G B0 h n w) {k off : Nat} {c : List Value} {e : TypeId} (hk : h.getO k = .cells c e true) {size : Nat} (hs : size? G e = some size) (h0 : 0 < size) {cap r : Nat} (hc : ¬ cap < unkCap)
    (hr : (cap - unkCap + r) * size ≤ c.length) : r ≤ rlC ρ (some ⟨O + k, off, none⟩) cap := by
  obtain ⟨p, hp, hO⟩ := hW.obj k (live_wr hk)
  rw [hk] at hO
  obtain ⟨_, s, tail, hs', rfl, hl⟩ := hO
  have : s = size := by rw [hs] at hs'; exact (Option.some.inj hs').symm
  subst this
  have e1 : O + k - O = k := by omega
  simp only [rlC, if_neg hc, e1]
  have h2 : (cap - unkCap + r) * s ≤ ρ.cap k * s := by omega
  have := Nat.le_of_mul_le_mul_right h2 h0
  omega
theorem okUp_cap (hW : WEq ρ G B0 h n w) {ao : Option Addr} {cap e size r : Nat} (hs : size? G e = some size) (h0 : 0 < size) (hok : okUp h ao cap e size r = true) : r ≤ rlC ρ ao cap := by
  unfold okUp at hok
  rw [ifB_eq] at hok
  split at hok
  · rename_i hc
    have hc := blt_iff.1 hc
    have hr := Nat.le_of_ble_eq_true hok
    simp only [rlC, if_pos hc]; exact hr
  · rename_i hc
    have hc : ¬ cap < unkCap := fun hq => hc (blt_iff.2 hq)
    obtain ⟨b, off, rfl, h2⟩ := adK_elim hok nofun
    obtain ⟨k, c, e', u, hb, hk, h3⟩ := wrK_elim h2 nofun
    obtain ⟨hu, h4⟩ := ifB_elim h3 nofun
    obtain ⟨he, h5⟩ := ifB_elim h4 nofun
    have he := Nat.eq_of_beq_eq_true he
    have h5 := Nat.le_of_ble_eq_true h5
    rw [lenOf_eq] at h5
    subst hb hu he
    exact open_cap hW hk hs h0 hc h5

theorem sliceAt_run (T : TabOK P G) {t e size : Nat} (hd : und G t = some (.slice e)) (hs : size? G e = some size) {A : Option Addr} {len cap l r m : Nat} {lo hi mx : Option Value}
    (hb : (Instr.sliceBounds true len cap lo hi mx).run P w = .ok (l, r, m) w) :
    (Instr.sliceAt t (.slice A len cap) lo hi mx).run P w = .ok (.slice (if m = l then A else A.map (·.add (l * size))) (r - l) (m - l)) w := by
  simp [Instr.sliceAt, T.run_und hd, Instr.slice, hb, T.run_size hs]

/-- where a slice of a slice points, with a capacity that is known -/
theorem known_sim {ao : Option Addr} {l r size cap m : Nat} (_ : 0 < size) (hcap : cap = m - l) (hm : m < unkCap) (hlr : l ≤ r) (hrm : r ≤ m) (hr : reKnown ao l r size cap h n = .val v h' n') :
    h' = h ∧ n' = n ∧ ∀ ρ, rlV ρ v = .slice (if m = l then ao.map (rlS ρ) else (ao.map (rlS ρ)).map (·.add (l * size))) (r - l) (m - l) := by
  unfold reKnown at hr
  cases ao with
  | none =>
    obtain ⟨h1, h2⟩ := ifB_elim (no := OR.fail "slice of nil") hr nofun
    obtain ⟨h3, h4⟩ := ifB_elim h2 nofun
    cases h4
    have h1 := Nat.eq_of_beq_eq_true h1
    have h3 := Nat.eq_of_beq_eq_true h3
    refine ⟨rfl, rfl, fun ρ => ?_⟩
    have e1 : r - l = 0 := by omega
    have e2 : m - l = 0 := by omega
    have e3 : (0 : Nat) < unkCap := by unfold unkCap; omega
    simp [rlV, rlC, e1, e2, e3]
  | some ad =>
    replace hr : forceNat (Nat.sub r l) (fun len => forceNat cap fun cap => ifB (Nat.beq l 0) (OR.val (.slice (some ad) len cap) h n) (ifB (Nat.beq cap 0) (.val (.slice (some ad) len 0) h n)
      (adK (some ad) (.fail "slice: address") fun b off => forceNat (Nat.add off (Nat.mul l size)) fun off => .val (.slice (some ⟨b, off, none⟩) len cap) h n))) = .val v h' n' := hr
    rw [forceNat_eq, forceNat_eq, ifB_eq] at hr
    have e0 : Nat.sub r l = r - l := rfl
    have hc : cap < unkCap := by omega
    split at hr
    · rename_i hl
      have hl := Nat.eq_of_beq_eq_true hl
      subst hl
      cases hr
      refine ⟨rfl, rfl, fun ρ => ?_⟩
      have e1 : (rlS ρ ad).add (0 * size) = rlS ρ ad := by simp [Addr.add]
      simp only [rlV, rlC, if_pos hc, Option.map_some, e1]
      rw [hcap, ite_self]
      rfl
    · rename_i hl
      have hl : l ≠ 0 := fun e => hl (by rw [e]; rfl)
      rw [ifB_eq] at hr
      split at hr
      · rename_i hc0
        have hc0 := Nat.eq_of_beq_eq_true hc0
        cases hr
        refine ⟨rfl, rfl, fun ρ => ?_⟩
        have e1 : m = l := by omega
        have e2 : (0 : Nat) < unkCap := by unfold unkCap; omega
        simp [rlV, rlC, e1, e2]
      · rename_i hc0
        have hc0 : cap ≠ 0 := fun e => hc0 (by rw [e]; rfl)
        obtain ⟨b, off, hq, h2⟩ := adK_elim hr nofun
        rw [forceNat_eq] at h2
        cases h2
        simp only [Option.some.injEq] at hq
        subst hq
        refine ⟨rfl, rfl, fun ρ => ?_⟩
        have e1 : ¬ m = l := by omega
        simp [rlV, rlC, hc, e1, add_none]
        exact hcap
theorem sound_sliceS (T : TabOK P G) {t : TypeId} {x : Operand} {lo hi mx : Option Operand} {e size : Nat} (ho : o.op = .slice t x lo hi mx) (hx : plainX N x = true) (hlo : ∀ y, lo = some y → plainX N y = true) (hhi : ∀ y, hi = some y → plainX N y = true)
    (hmx : ∀ y, mx = some y → plainX N y = true) (hnm : hi = none → mx = none) (hd : und G t = some (.slice e)) (hs : size? G e = some size) (h0 : 0 < size)
    (hr : oSliceS e size (xo x) (lo.map xo) (hi.map xo) (mx.map xo) tm h n = .val v h' n') : OpSim P G B0 N o tm h n a w v h' n' := by
  unfold oSliceS at hr
  rw [evK_eq] at hr
  obtain ⟨ao, len, cap, hv, hr⟩ := sliceV_elim hr nofun
  obtain ⟨l, hl, hr⟩ := boundK_elim hr nofun
  obtain ⟨r, hh, hr⟩ := boundK_elim hr nofun
  obtain ⟨h1, hr⟩ := ifB_elim hr nofun
  have h1 := Nat.le_of_ble_eq_true h1
  cases mx with
  | none =>
    replace hr : ifB (okUp h ao cap e size r) (ifB (Nat.blt cap unkCap) (reKnown ao l r size (Nat.sub cap l) h n) (reOpen ao l r size cap h n)) (OR.fail "slice bounds") = .val v h' n' := hr
    obtain ⟨hok, hr⟩ := ifB_elim hr nofun
    -- the bounds, in any memory that shows the heap
    have hbd : ∀ ρ, ActEq ρ N tm a → WEq ρ G B0 h n w → (execOp (Ev a) o).run P w = .ok (.value (.slice (if rlC ρ ao cap = l then ao.map (rlS ρ) else (ao.map (rlS ρ)).map (·.add (l * size))) (r - l) (rlC ρ ao cap - l))) w := by
      intro ρ hA hW
      have hcap := okUp_cap hW hs h0 hok
      have ex := plainX_ev hA hx
      rw [hv] at ex
      simp only [rlV] at ex
      have hb : (Instr.sliceBounds true len (rlC ρ ao cap) (lo.map (Ev a)) (hi.map (Ev a)) none).run P w = .ok (l, r, rlC ρ ao cap) w := by
        rcases (boundX hA hlo hl) with q1 | q1 <;> rcases (boundX hA hhi hh) with q2 | q2
        · simp [q1.1, q1.2, q2.1, q2.2, Instr.sliceBounds]
        · obtain ⟨k2, q2⟩ := q2
          simp [q1.1, q1.2, q2, Instr.sliceBounds, Instr.sliceBound, asIntOf, hcap]
        · obtain ⟨k1, q1⟩ := q1
          have : l ≤ len := by omega
          simp [q1, q2.1, q2.2, Instr.sliceBounds, Instr.sliceBound, asIntOf, this]
        · obtain ⟨k1, q1⟩ := q1
          obtain ⟨k2, q2⟩ := q2
          simp [q1, q2, Instr.sliceBounds, Instr.sliceBound, asIntOf, hcap, h1]
      unfold execOp
      simp only [ho, Option.map_none]
      rw [ex]
      simp only [Sem.run_bind, sliceAt_run T hd hs hb, Result.andThen, Sem.run_pure]
    rw [ifB_eq] at hr
    split at hr
    · rename_i hc
      have hc := blt_iff.1 hc
      have hrc : r ≤ cap := by
        unfold okUp at hok
        rw [ifB_eq, if_pos (blt_iff.2 hc)] at hok
        exact Nat.le_of_ble_eq_true hok
      obtain ⟨rfl, rfl, hval⟩ := known_sim h0 (rfl : Nat.sub cap l = cap - l) hc h1 hrc hr
      refine .pure fun ρ hA hW => ?_
      rw [hbd ρ hA hW, hval ρ]
      simp only [rlC, if_pos hc]
    · rename_i hc
      have hc : ¬ cap < unkCap := fun hq => hc (blt_iff.2 hq)
      unfold reOpen at hr
      rw [ifB_eq] at hr
      split at hr
      · rename_i hl0
        have hl0 := Nat.eq_of_beq_eq_true hl0
        have hF := hr
        rw [forceNat_eq] at hF
        cases hF
        subst hl0
        refine .pure fun ρ hA hW => ?_
        rw [hbd ρ hA hW]
        have e1 : ∀ A : Option Addr, A.map (fun y => y.add (0 * size)) = A := by
          intro A; cases A <;> simp [Addr.add]
        simp only [e1, ite_self, rlV, Nat.sub_zero]
      · rename_i hl0
        have hl0 : l ≠ 0 := fun e => hl0 (by rw [e]; rfl)
        rw [ifB_eq] at hr
        split at hr
        · rename_i hrl
          have hrl := Nat.eq_of_beq_eq_true hrl
          have hF := hr
          cases hF
          subst hrl
          -- where the empty slice points hangs on the capacity
          by_cases hex : ∃ ρ, ActEq ρ N tm a ∧ WEq ρ G B0 h n w
          · obtain ⟨ρ0, hA0, hW0⟩ := hex
            have hok2 := hok
            unfold okUp at hok2
            rw [ifB_eq, if_neg (fun q => hc (blt_iff.1 q))] at hok2
            obtain ⟨b, off, hao, h2⟩ := adK_elim hok2 nofun
            obtain ⟨k, c, e', u, hb, hk, _⟩ := wrK_elim h2 nofun
            subst hb
            subst hao
            refine ⟨Nat.le_succ _, Nat.le_refl _, ρ0.loc k, rlC ρ0 (some ⟨O + k, off, none⟩) cap - r, (if rlC ρ0 (some ⟨O + k, off, none⟩) cap = r then off else off + r * size), fun ρ hA hW hn => ?_⟩
            rcases hn with hn | ⟨hn1, hn2, hn3⟩
            · exact absurd hn (by omega)
            · have e1 := hbd ρ hA hW
              have e2 := hbd ρ0 hA0 hW0
              rw [e1] at e2
              simp only [Result.ok.injEq, Go.Next.value.injEq, Value.slice.injEq, and_true] at e2
              refine ⟨_, w, e1, .inl ?_, hW.succ, .refl ρ h w⟩
              have q1 := okUp_cap hW hs h0 hok
              have q2 := okUp_cap hW0 hs h0 hok
              have e3 : Nat.add O n = O + n := rfl
              have e4 : O + n - O = n := by omega
              have e5 : rlV ρ (.slice (some ⟨Nat.add O n, 0, some 0⟩) 0 unkCap) = .slice (some ⟨ρ.loc n, ρ.off n, none⟩) 0 (ρ.cap n) := by
                simp only [e3, rlV, Option.map_some, rlS_some, rlC, Nat.lt_irrefl, if_false, e4, Nat.sub_self, Nat.sub_zero]
              rw [e5, hn1, hn2, hn3]
              obtain ⟨e2a, e2c⟩ := e2
              have e6 : rlC ρ (some ⟨O + k, off, none⟩) cap = rlC ρ0 (some ⟨O + k, off, none⟩) cap := by omega
              simp only [Option.map_some, rlS_none, rlB_own, add_none] at e2a ⊢
              rw [e6] at e2a ⊢
              split at e2a
              · rename_i hq
                simp only [Option.some.injEq, Addr.mk.injEq, and_true] at e2a
                simp [hq, e2a]
              · rename_i hq
                simp only [Option.some.injEq, Addr.mk.injEq, and_true] at e2a
                simp [hq, e2a]
          · refine ⟨Nat.le_succ _, Nat.le_refl _, 0, 0, 0, fun ρ hA hW hn => absurd ⟨ρ, hA, hW⟩ hex⟩
        · rename_i hrl
          have hrl : r ≠ l := fun e => hrl (by rw [e]; exact Nat.beq_refl _)
          obtain ⟨b, off, rfl, h2⟩ := adK_elim hr nofun
          rw [forceNat_eq, forceNat_eq, forceNat_eq] at h2
          cases h2
          refine .pure fun ρ hA hW => ?_
          have hcap := okUp_cap hW hs h0 hok
          rw [hbd ρ hA hW]
          have e1 : ¬ rlC ρ (some ⟨b, off, none⟩) cap = l := by omega
          rw [if_neg e1]
          have e2 : ¬ Nat.add cap l < unkCap := by show ¬ cap + l < unkCap; omega
          have e3 : Nat.add cap l = cap + l := rfl
          simp only [Option.map_some, rlS_none, add_none, rlV, rlC, if_neg hc, if_neg e2]
          have e4 : ρ.cap (b - O) - (cap - unkCap) - l = ρ.cap (b - O) - (Nat.add cap l - unkCap) := by rw [e3]; omega
          rw [e4]
          rfl
  | some m =>
    replace hr : evK (xo m) tm (fun m => natV m (OR.fail "slice max") fun m => ifB (Nat.ble r m) (ifB (Nat.blt m 1000000) (ifB (okUp h ao cap e size m) (reKnown ao l r size (Nat.sub m l) h n) (.fail "slice bounds")) (.fail "slice max")) (.fail "slice max")) = .val v h' n' := hr
    rw [evK_eq] at hr
    obtain ⟨km, mm, hm, hr⟩ := natV_elim hr nofun
    obtain ⟨h2, hr⟩ := ifB_elim hr nofun
    obtain ⟨h3, hr⟩ := ifB_elim hr nofun
    obtain ⟨hok, hr⟩ := ifB_elim hr nofun
    have h2 := Nat.le_of_ble_eq_true h2
    have h3 := blt_iff.1 h3
    have hmu : mm < unkCap := by unfold unkCap; omega
    obtain ⟨rfl, rfl, hval⟩ := known_sim h0 (rfl : Nat.sub mm l = mm - l) hmu h1 h2 hr
    cases hi with
    | none => exact absurd (hnm rfl) (by simp)
    | some y =>
      refine .pure fun ρ hA hW => ?_
      have hcap := okUp_cap hW hs h0 hok
      have ex := plainX_ev hA hx
      rw [hv] at ex
      simp only [rlV] at ex
      have em := plainX_ev hA (hmx m rfl)
      rw [hm] at em
      simp only [rlV] at em
      have hb : (Instr.sliceBounds true len (rlC ρ ao cap) (lo.map (Ev a)) (some (Ev a y)) (some (.int km (mm : Int)))).run P w = .ok (l, r, mm) w := by
        refine bounds_run3 ?_ ?_ h1 h2 hcap
        · rcases (boundX hA hlo hl) with q1 | q1
          · exact .inl ⟨by simp [q1.1], q1.2⟩
          · exact .inr q1
        · rcases (boundX hA hhi hh) with q1 | ⟨k, q1⟩
          · simp at q1
          · exact ⟨k, by simpa using q1⟩
      rw [hval ρ]
      unfold execOp
      simp only [ho, Option.map_some]
      rw [ex, em]
      simp only [Sem.run_bind, sliceAt_run T hd hs hb, Result.andThen, Sem.run_pure]
end
end Go.Clo
namespace Go.Clo

section
variable {P : Program} {G : Tab} {B0 N : Nat} {o : Oper} {tm : TV} {h : TH} {n : Nat} {a : Array Value} {w : World} {v : Value} {h' : TH} {n' : Nat} {ρ : Env}

theorem zeroCells_reps (z : Array Value) (n : Nat) : Builtin.zeroCells z n = ⟨reps z.toList n⟩ := madeCells_reps z n
theorem sound_clear (T : TabOK P G) {c : Call} {x : Operand} {t : TypeId} {ts : List TypeId} {e : TypeId} {z : Value} {i : TypeInfo} (ho : o.op = .call c) (hc : c.callee = .builtin .clear) (ha : c.args.toList = [x]) (ht : c.argTypes.toList = t :: ts)
    (hx : plainX N x = true) (hd : und G t = some (.slice e)) (hz : zero? G e = some z) (hi : G.tt.get e = some i) (hr : oClear i.size z.cells.toList (xo x) tm h n = .val v h' n') : OpSim P G B0 N o tm h n a w v h' n' := by
  unfold oClear at hr
  rw [evK_eq] at hr
  obtain ⟨ao, m, cap, hv, hr⟩ := sliceV_elim hr nofun
  rw [ifB_eq] at hr
  split at hr
  · rename_i hm
    have hm := Nat.eq_of_beq_eq_true hm
    subst hm
    cases hr
    refine .pure fun ρ hA hW => ?_
    have ex := plainX_ev hA hx
    rw [hv] at ex
    simp only [rlV] at ex
    unfold execOp
    simp only [ho, resolve, hc, invoke, builtin, args1 ha, ex]
    cases ao with
    | none => simp [Builtin.clear_, types0 ht, T.run_und hd]; rfl
    | some ad => simp [Builtin.clear_, types0 ht, T.run_und hd]; rfl
  · rename_i hm
    have hm : m ≠ 0 := fun e => hm (by rw [e]; rfl)
    obtain ⟨b, off, hao, h2⟩ := adK_elim hr nofun
    obtain ⟨k, cs, e', u, hb, hk, h3⟩ := wrK_elim h2 nofun
    obtain ⟨h4, h5⟩ := ifB_elim h3 nofun
    have h4 := Nat.le_of_ble_eq_true h4
    rw [lenOf_eq] at h4
    obtain ⟨i', hi', hz2, hp, hcs⟩ := T.zero hz
    have hii : i' = i := by have := T.ty e i hi; rw [hi'] at this; exact Option.some.inj this
    have hlen : (reps z.cells.toList m).length = m * i.size := by rw [reps_length, ← hii, ← hcs]; simp
    have hfit : off + (reps z.cells.toList m).length ≤ cs.length := by rw [hlen]; exact h4
    rw [putK_eq _ _ _ _ _ hfit, TH.set_eq] at h5
    cases h5
    refine ⟨Nat.le_refl _, Nat.le_succ _, 0, 0, 0, fun ρ hA hW _ => ?_⟩
    have hpc := plain_cells (ρ := ρ) hp
    obtain ⟨w', hst, hW', hK⟩ := write_run (P := P) hW hk (oneL_reps hpc.1 m) hfit
    rw [reps_map ρ hpc.2] at hst
    refine ⟨.value undef, w', ?_, .inl (by rw [rlV_undef]; rfl), hW', hK⟩
    have ex := plainX_ev hA hx
    rw [hv, hao, hb] at ex
    simp only [rlV, Option.map_some, rlS_none, rlB_own] at ex
    unfold execOp
    simp only [ho, resolve, hc, invoke, builtin, args1 ha, ex]
    cases m with
    | zero => exact absurd rfl hm
    | succ m => simp [Builtin.clear_, types0 ht, T.run_und hd, T.run_zero hz, zeroCells_reps, hst]; rfl

theorem byteOfV_some {x : Value} {b : UInt8} (hb : byteOfV x = some b) : x = .int .u8 (b.toNat : Int) := by
  unfold byteOfV at hb
  split at hb
  · rename_i y
    cases hq : Nat.blt y 256
    · simp [hq] at hb
    · simp only [hq, cond_true, Option.some.injEq] at hb
      have := blt_iff.1 hq
      subst hb
      have e : (UInt8.ofNat y).toNat = y := by simp; omega
      rw [e]; rfl
  · cases hb
theorem strK_elim {β : Type} {no r : β} : ∀ {l : List Value} {κ : List UInt8 → β}, strK no l κ = r → no ≠ r → ∃ s, l = s.map (fun b => .int .u8 (b.toNat : Int)) ∧ κ s = r
  | [], κ, hh, hn => ⟨[], rfl, hh⟩
  | x :: l, κ, hh, hn => by
    have e : strK no (x :: l) κ = Option.rec (motive := fun _ => β) no (fun b => strK no l fun r => κ (b :: r)) (byteOfV x) := rfl
    rw [e] at hh
    cases hb : byteOfV x with
    | none => rw [hb] at hh; exact absurd hh hn
    | some b =>
      rw [hb] at hh
      obtain ⟨s, hs, h2⟩ := strK_elim (l := l) hh hn
      exact ⟨b :: s, by rw [byteOfV_some hb, hs]; rfl, h2⟩
theorem bytes_fold (s : List UInt8) : (s.map fun b => (b.toNat : Int)).foldl (fun r n => r.push (UInt8.ofNat n.toNat)) ByteArray.empty = ⟨⟨s⟩⟩ := by
  rw [foldl_push_bytes]
  have : ((s.map fun b => (b.toNat : Int)).map fun n => UInt8.ofNat n.toNat) = s := by
    rw [List.map_map]
    conv => rhs; rw [← List.map_id s]
    refine List.map_congr_left fun b _ => ?_
    simp
  rw [this]
  have e : ByteArray.empty.data = #[] := rfl
  rw [e]
  simp
theorem elems_slice {β : Type} {no r : β} {ao : Option Addr} {m cap size : Nat} {κ : Nat → List Value → β} (hh : elemsK (.slice ao m cap) no h size κ = r) (hn : no ≠ r) :
    (m = 0 ∧ κ 0 [] = r) ∨ (m ≠ 0 ∧ ∃ k off c, ao = some ⟨O + k, off, none⟩ ∧ ((∃ e u, h.getO k = .cells c e u) ∨ h.getO k = .ro c) ∧ off ≤ c.length ∧ m * size ≤ (c.drop off).length ∧ κ m ((c.drop off).take (m * size)) = r) := by
  have e : elemsK (.slice ao m cap) no h size κ = ifB (Nat.beq m 0) (κ 0 []) (adK ao no fun b off => rdK no h b fun c => dropK no off c fun l => takeK no (Nat.mul m size) l fun r => κ m r) := rfl
  rw [e, ifB_eq] at hh
  split at hh
  · rename_i hm
    exact .inl ⟨Nat.eq_of_beq_eq_true hm, hh⟩
  · rename_i hm
    have hm : m ≠ 0 := fun e => hm (by rw [e]; rfl)
    obtain ⟨b, off, hao, h2⟩ := adK_elim hh hn
    obtain ⟨k, c, hb, hk, h3⟩ := rdK_elim h2 hn
    obtain ⟨h4, h5⟩ := dropK_elim h3 hn
    obtain ⟨h6, h7⟩ := takeK_elim h5 hn
    exact .inr ⟨hm, k, off, c, by rw [hao, hb], hk, h4, h6, h7⟩
theorem sound_convBytes (T : TabOK P G) {s t : TypeId} {x : Operand} {e : TypeId} (ho : o.op = .convert s t x) (hx : plainX N x = true) (hs : und G s = some (.slice e)) (ht : und G t = some .string) (he : und G e = some (.int .u8))
    (hr : oConvBytes (xo x) tm h n = .val v h' n') : OpSim P G B0 N o tm h n a w v h' n' := by
  unfold oConvBytes at hr
  rw [evK_eq] at hr
  obtain ⟨ao, m, cap, hv, hr⟩ := sliceV_elim hr nofun
  rw [hv] at hr
  rcases elems_slice hr nofun with ⟨hm, h2⟩ | ⟨hm, k, off, c, hao, hk, h4, h5, h2⟩
  · obtain ⟨st, hst, h3⟩ := strK_elim h2 nofun
    cases h3
    have hst : st = [] := by cases st with | nil => rfl | cons => simp at hst
    subst hst
    refine .pure fun ρ hA hW => ?_
    have ex := plainX_ev hA hx
    rw [hv, hm] at ex
    simp only [rlV] at ex
    unfold execOp
    simp only [ho, ex, Sem.run_bind, run_convert_bytes_string w s t e _ _ _ (T.und hs) (T.und he) (T.und ht)]
    cases ao with
    | none => simp [Conv.bytesToString, rlV]; rfl
    | some ad =>
      have hl : (loadCells (rlS ρ ad) 0).run P w = .ok (([] : List Int).map (Value.int .u8)).toArray w := by simp [loadCells, loadCellsFrom]
      have := run_bytesToString (P := P) w (rlS ρ ad) 0 (rlC ρ (some ad) cap) [] hl
      simp only [Option.map_some, this, Result.andThen]
      simp [rlV]; rfl
  · obtain ⟨st, hst, h3⟩ := strK_elim h2 nofun
    cases h3
    refine .pure fun ρ hA hW => ?_
    have ex := plainX_ev hA hx
    rw [hv, hao] at ex
    simp only [rlV, Option.map_some, rlS_none, rlB_own] at ex
    have hm1 : m * 1 = m := Nat.mul_one m
    have hl := cells_run (P := P) hW hk (off := off) (s := m) (by omega)
    rw [hm1] at hst
    have e2 : ((c.drop off).take m).map (rlV ρ) = (st.map fun b => (b.toNat : Int)).map (Value.int .u8) := by
      rw [hst, List.map_map, List.map_map]
      exact List.map_congr_left fun b _ => by simp [rlV]
    rw [e2] at hl
    have := run_bytesToString (P := P) w ⟨ρ.loc k, off, none⟩ m (rlC ρ (some ⟨O + k, off, none⟩) cap) (st.map fun b => (b.toNat : Int)) (by simpa using hl)
    rw [bytes_fold] at this
    unfold execOp
    simp only [ho, ex, Sem.run_bind, run_convert_bytes_string w s t e _ _ _ (T.und hs) (T.und he) (T.und ht), this, Result.andThen, Sem.run_pure, rlV]
end
end Go.Clo
namespace Go.Clo

theorem modify_push {α : Type} (xs : Array α) (x : α) (f : α → α) : (xs.push x).modify xs.size f = xs.push (f x) := by
  apply Array.ext
  · simp
  · intro i h1 h2
    rw [Array.getElem_modify]
    by_cases hi : xs.size = i
    · subst hi; simp
    · have : i < xs.size := by simp at h2; omega
      simp [hi, Array.getElem_push, this]
theorem freeze_alloc (w : World) (c : Array Value) (e : TypeId) (k : Nat) : (w.alloc (.cells c e (0, 0))).freeze ⟨w.heap.size, k, none⟩ 1 = w.alloc (.cells c e (k, k + 1)) := by
  unfold World.freeze World.alloc
  simp only [Nat.one_ne_zero, if_false]
  rw [modify_push]
  simp

section
variable {P : Program} {G : Tab} {B0 N : Nat} {o : Oper} {tm : TV} {h : TH} {n : Nat} {a : Array Value} {w : World} {v : Value} {h' : TH} {n' : Nat} {ρ : Env}

theorem run_new (ob : Obj) (w : World) : (newObj ob).run P w = .ok w.heap.size (w.alloc ob) := rfl
theorem WEq.of_heap (hW : WEq ρ G B0 h n w) {w' : World} (hh : w'.heap = w.heap) : WEq ρ G B0 h n w' :=
  ⟨hW.lt, hW.base, fun k hk => by rw [hh]; exact hW.obj k hk, hW.inj⟩
theorem KeepEq.drew {h2 : TH} {w' : World} (hK : KeepEq ρ h h2 w.drew w') : KeepEq ρ h h2 w w' := ⟨hK.size, hK.os, hK.out, hK.tape, hK.rest⟩
theorem oneL_bytes (s : List UInt8) : oneL (s.map fun b => Value.int .u8 (b.toNat : Int)) = true := by
  rw [oneL_iff]
  intro v hv
  obtain ⟨b, _, rfl⟩ := List.mem_map.1 hv
  rfl
theorem bytes_rl (s : List UInt8) (ρ : Env) : (s.map fun b => Value.int .u8 (b.toNat : Int)).map (rlV ρ) = s.map fun b => Value.int .u8 (b.toNat : Int) := by
  rw [List.map_map]
  exact List.map_congr_left fun b _ => by simp [rlV]
theorem sound_convStr (T : TabOK P G) (hB : B0 ≤ w.heap.size) {s t : TypeId} {x : Operand} {e : TypeId} (ho : o.op = .convert s t x) (hx : plainX N x = true) (hs : und G s = some .string) (ht : und G t = some (.slice e)) (he : und G e = some (.int .u8))
    (hr : oConvStr e (xo x) tm h n = .val v h' n') : OpSim P G B0 N o tm h n a w v h' n' := by
  unfold oConvStr at hr
  rw [evK_eq] at hr
  obtain ⟨st, hv, hr⟩ := strV_elim hr nofun
  rw [newK_eq, bytesOf_eq, lenOf_eq] at hr
  cases hr
  refine ⟨Nat.le_succ _, Nat.le_refl _, w.heap.size, grownCap w st.length 0 e, 0, fun ρ hA hW hn => ?_⟩
  rcases hn with hn | ⟨hn1, hn2, _⟩
  · omega
  · have ex := plainX_ev hA hx
    rw [hv] at ex
    simp only [rlV] at ex
    have es : (⟨⟨st⟩⟩ : ByteArray).size = st.length := rfl
    have hWd : WEq ρ G B0 h n w.drew := hW.of_heap rfl
    have key := hWd.lay (o := .ro (st.map fun b => .int .u8 (.ofNat b.toNat))) (p := .cells ⟨(st.map fun b => Value.int .u8 (b.toNat : Int)) ++ List.replicate (grownCap w st.length 0 e - st.length) (.int .u8 0)⟩ e (grownCap w st.length 0 e, grownCap w st.length 0 e + 1))
      hB hn1 ⟨oneL_bytes st, _, e, _, by rw [show (st.map fun b => Value.int .u8 (.ofNat b.toNat)) = st.map fun b => Value.int .u8 (b.toNat : Int) from rfl, bytes_rl]⟩
    refine ⟨.value (.slice (some ⟨w.heap.size, 0, none⟩) st.length (grownCap w st.length 0 e)), _, ?_, .inl ?_, key.1, key.2.drew⟩
    · have hge := grownCap_ge w st.length 0 e
      have hc1 : ((⟨⟨st⟩⟩ : ByteArray).data.map fun b => Value.int .u8 (b.toNat : Int)) ++ Array.replicate (grownCap w st.length 0 e - st.length) (.int .u8 0) =
          ⟨(st.map fun b => Value.int .u8 (b.toNat : Int)) ++ List.replicate (grownCap w st.length 0 e - st.length) (.int .u8 0)⟩ := by
        apply Array.ext'; simp
      have hfz := freeze_alloc w.drew (⟨(st.map fun b => Value.int .u8 (b.toNat : Int)) ++ List.replicate (grownCap w st.length 0 e - st.length) (.int .u8 0)⟩) e (grownCap w st.length 0 e)
      have hch : (choose (.appendCap st.length 0 e)).run P w = .ok (grownCap w st.length 0 e) w.drew := rfl
      have hsz : st.length + (grownCap w st.length 0 e - st.length) = grownCap w st.length 0 e := by omega
      have hsh : (shape w.drew.heap.size).run P (w.drew.alloc (.cells ⟨(st.map fun b => Value.int .u8 (b.toNat : Int)) ++ List.replicate (grownCap w st.length 0 e - st.length) (.int .u8 0)⟩ e (0, 0))) =
          .ok (some (e, grownCap w st.length 0 e)) (w.drew.alloc (.cells ⟨(st.map fun b => Value.int .u8 (b.toNat : Int)) ++ List.replicate (grownCap w st.length 0 e - st.length) (.int .u8 0)⟩ e (0, 0))) := by
        simp only [shape, Sem.run, World.shape?, heap_alloc_new]
        simp [hsz]
      unfold execOp
      simp only [ho, ex, Sem.run_bind, convert, T.run_und hs, T.run_und ht, T.run_und he, Result.andThen, Conv.stringToBytes, es, hch, newRow, hc1, run_new, Sem.run_pure, markStringish, hsh]
      simp only [freeze, Sem.run, hfz]
      rfl
    · rw [rlV_sl_unk, hn1, hn2]
theorem sound_sliceData {c : Call} {x : Operand} (_ : TabOK P G) (ho : o.op = .call c) (hc : c.callee = .builtin .unsafeSliceData) (ha : c.args.toList = [x]) (hx : plainX N x = true)
    (hr : oSliceData (xo x) tm h n = .val v h' n') : OpSim P G B0 N o tm h n a w v h' n' := by
  unfold oSliceData at hr
  rw [evK_eq] at hr
  obtain ⟨ao, m, cap, hv, hr⟩ := sliceV_elim hr nofun
  obtain ⟨hm, hr⟩ := ifB_elim' hr nofun
  obtain ⟨hc2, hr⟩ := ifB_elim hr nofun
  have hc2 := Nat.eq_of_beq_eq_true hc2
  obtain ⟨b, off, hao, hr⟩ := adK_elim hr nofun
  obtain ⟨hof, hr⟩ := ifB_elim hr nofun
  have hof := Nat.eq_of_beq_eq_true hof
  obtain ⟨k, cs, e, u, hb, hk, hr⟩ := wrK_elim hr nofun
  obtain ⟨hu, hr⟩ := ifB_elim hr nofun
  obtain ⟨hl, hr⟩ := ifB_elim' hr nofun
  have hl := Nat.ne_of_beq_eq_false hl
  rw [lenOf_eq] at hl
  have hF := hr
  cases hF
  refine .pure fun ρ hA hW => ?_
  have ex := plainX_ev hA hx
  rw [hv, hao, hb, hof] at ex
  simp only [rlV, Option.map_some, rlS_none, rlB_own] at ex
  have hcap : rlC ρ (some ⟨O + k, 0, none⟩) cap ≠ 0 := by
    obtain ⟨p, hp, hO⟩ := hW.obj k (live_wr hk)
    rw [hk, hu] at hO
    obtain ⟨_, s, tail, _, _, hlen⟩ := hO
    have e1 : O + k - O = k := by omega
    simp only [rlC, hc2, Nat.lt_irrefl, if_false, e1, Nat.sub_self, Nat.sub_zero]
    intro h0
    rw [h0] at hlen
    omega
  unfold execOp
  simp only [ho, resolve, hc, invoke, builtin, args1 ha, ex]
  rw [hb]
  have hbi : (Builtin.unsafeSliceData_ c.argTypes o.type #[.slice (some ⟨ρ.loc k, 0, none⟩) m (rlC ρ (some ⟨O + k, 0, none⟩) cap)]).run P w = .ok (.pointer (some ⟨ρ.loc k, 0, none⟩)) w := by
    have e1 : Builtin.unsafeSliceData_ c.argTypes o.type #[.slice (some ⟨ρ.loc k, 0, none⟩) m (rlC ρ (some ⟨O + k, 0, none⟩) cap)] =
      (if rlC ρ (some ⟨O + k, 0, none⟩) cap ≠ 0 then pure (.pointer (some ⟨ρ.loc k, 0, none⟩)) else do
        if (← viewAt (⟨ρ.loc k, 0, none⟩ : Addr).block).isSome then pure (.pointer (some ⟨ρ.loc k, 0, none⟩))
        else pure (.pointer (some ⟨← newObj (.view ⟨ρ.loc k, 0, none⟩ (← elemOf o.type)), 0, none⟩))) := rfl
    rw [e1, if_pos hcap]
    rfl
  simp [hbi, rlV, rlA]
end
end Go.Clo
namespace Go.Clo

section
variable {P : Program} {G : Tab} {B0 N : Nat} {o : Oper} {tm : TV} {h : TH} {n : Nat} {a : Array Value} {w : World} {v : Value} {h' : TH} {n' : Nat} {ρ : Env}

theorem live_drop {k j : Nat} (hj : Live (h.setO k .gone) j) : Live h j ∧ j ≠ k := by
  unfold Live at hj
  by_cases e : j = k
  · subst e; rw [TH.getO_setO_self] at hj; exact absurd rfl hj
  · rw [TH.getO_setO_ne h _ e] at hj; exact ⟨hj, e⟩
/-- a block is forgotten, and turned -/
theorem WEq.drop_turn (hW : WEq ρ G B0 h n w) {k : Nat} (hk : Live h k) {w' : World} (hs : w'.heap.size = w.heap.size) (hrest : ∀ b, b ≠ ρ.loc k → w'.heap[b]? = w.heap[b]?)
    (hos : w'.os = w.os) (hout : w'.output = w.output) (htape : w'.tape = w.tape) : WEq ρ G B0 (h.setO k .gone) n w' ∧ KeepEq ρ h (h.setO k .gone) w w' := by
  have hd := hW.drop k
  refine ⟨⟨hd.lt, hd.base, fun j hj => ?_, hd.inj⟩, ⟨by omega, hos, hout, htape, fun b _ hn => ⟨hrest b fun e => hn k hk e.symm, fun j hj => hn j (live_drop hj).1⟩⟩⟩
  obtain ⟨p, hp, hO⟩ := hd.obj j hj
  have hne : ρ.loc j ≠ ρ.loc k := fun e => (live_drop hj).2 (hW.inj j k (live_drop hj).1 hk e)
  exact ⟨p, by rw [hrest _ hne]; exact hp, hO⟩
theorem loadBytes_run (g : Nat) : ∀ (s : List UInt8) (off : Nat) (acc : ByteArray), (∀ j b, s[j]? = some b → w.cell? ⟨g, off + j, none⟩ = some (.int .u8 (b.toNat : Int))) →
    (loadBytes ⟨g, off, none⟩ acc s.length).run P w = .ok ⟨acc.data ++ s.toArray⟩ w
  | [], off, acc, _ => by
    have : (⟨acc.data ++ ([] : List UInt8).toArray⟩ : ByteArray) = acc := by cases acc; simp
    rw [this]; rfl
  | b :: s, off, acc, hc => by
    have h0 := hc 0 b rfl
    have ih := loadBytes_run g s (off + 1) (acc.push b) (fun j b' hj => by have := hc (j + 1) b' (by simpa using hj); rwa [show off + (j + 1) = off + 1 + j by omega] at this)
    simp only [List.length_cons, loadBytes, Sem.run_bind, run_load, add_none]
    rw [show (⟨g, off, none⟩ : Addr) = ⟨g, off + 0, none⟩ from rfl, h0]
    simp only [Result.andThen]
    have e : ((b.toNat : Int).toNat).toUInt8 = b := by simp
    rw [e, ih]
    congr 2
    show acc.data.push b ++ s.toArray = acc.data ++ (b :: s).toArray
    apply Array.ext'; simp
theorem sound_unsafeString (T : TabOK P G) {c : Call} {x l : Operand} {t : TypeId} {ts : List TypeId} {e : TypeId} (ho : o.op = .call c) (hc : c.callee = .builtin .unsafeString) (ha : c.args.toList = [x, l]) (ht : c.argTypes.toList = t :: ts)
    (hx : plainX N x = true) (hl : plainX N l = true) (hd : und G t = some (.pointer e)) (hs : size? G e = some 1) (hr : oUnsafeString e (xo x) (xo l) tm h n = .val v h' n') : OpSim P G B0 N o tm h n a w v h' n' := by
  unfold oUnsafeString at hr
  rw [evK_eq] at hr
  obtain ⟨kl, m, hlv, hr⟩ := natV_elim hr nofun
  rw [evK_eq] at hr
  obtain ⟨b, off, hv, hr⟩ := ptrV_elim hr nofun
  obtain ⟨hof, hr⟩ := ifB_elim hr nofun
  have hof := Nat.eq_of_beq_eq_true hof
  obtain ⟨hm, hr⟩ := ifB_elim' hr nofun
  have hm := Nat.ne_of_beq_eq_false hm
  obtain ⟨hmb, hr⟩ := ifB_elim hr nofun
  have hmb := Nat.le_of_ble_eq_true hmb
  obtain ⟨k, cs, e', u, hb, hk, hr⟩ := wrK_elim hr nofun
  obtain ⟨he, hr⟩ := ifB_elim hr nofun
  have he := Nat.eq_of_beq_eq_true he
  obtain ⟨hml, hr⟩ := takeK_elim hr nofun
  obtain ⟨st, hst, hr⟩ := strK_elim hr nofun
  rw [TH.set_eq] at hr
  have hF := hr
  cases hF
  refine ⟨Nat.le_refl _, Nat.le_succ _, 0, 0, 0, fun ρ hA hW _ => ?_⟩
  have ex := plainX_ev hA hx
  rw [hv, hb, hof, rlV_ptr, rlB_own] at ex
  have el := plainX_ev hA hl
  rw [hlv] at el
  simp only [rlV] at el
  obtain ⟨_, tail, hp, _⟩ := row_wr hW hk
  have hstl : st.length = m := by
    have := congrArg List.length hst
    simp at this; omega
  have hlt := hW.lt_size (live_wr hk)
  -- the bytes lie there
  have hvar : (variablesAt ⟨ρ.loc k, 0, none⟩ e m).run P w = .ok true w := by
    have hcell : P.cellsOf e = 1 := by
      obtain ⟨i, hi, hsz⟩ := T.size hs
      simp [Program.cellsOf, hi, hsz]
    have hdep : P.depth = (2 * (P.types.size + Made.depth) + 1) + 1 := rfl
    have hsh : (shape (ρ.loc k)).run P w = .ok (some (e, cs.length + tail.length)) w := by
      simp only [shape, Sem.run, World.shape?, hp]
      simp [he]
    unfold variablesAt
    simp only [Sem.run_bind, program, Sem.run, hsh, Result.andThen, Sem.run_pure]
    have h1 : m ≤ cs.length + tail.length := by omega
    have h2 : sameLayout P P.depth e e = true := by rw [hdep]; simp [sameLayout]
    have h3 : rowAt P (fun y => sameLayout P P.depth y e) P.depth e (cs.length + tail.length) 0 m = true := by
      rw [hdep]
      unfold rowAt
      rw [← hdep]
      simp [hcell, h1, h2]
    have h4 : liesAt P P.depth e ((cs.length + tail.length) / P.cellsOf e) 0 e m = true := by
      rw [hcell, Nat.div_one]
      rw [hdep]
      unfold liesAt
      rw [h3]
      rfl
    rw [h4]
  have hbytes : (loadBytes ⟨ρ.loc k, 0, none⟩ .empty m).run P w = .ok ⟨⟨st⟩⟩ w := by
    have := loadBytes_run (P := P) (w := w) (ρ.loc k) st 0 .empty (fun j b hj => by
      rw [Nat.zero_add]
      have h1 : cs[j]? = some (.int .u8 (b.toNat : Int)) := by
        have hjl : j < st.length := (List.getElem?_eq_some_iff.1 hj).1
        have h2 := congrArg (fun l => l[j]?) hst
        simp only [List.getElem?_take, List.getElem?_map, hj, Option.map_some] at h2
        rw [if_pos (by omega)] at h2
        exact h2
      have := cell_at hW (.inl ⟨e', u, hk⟩) h1
      simpa [rlV] using this)
    rw [hstl] at this
    rw [this]
    have e1 : ByteArray.empty.data = #[] := rfl
    rw [e1]
    simp
  have hfr : ∀ b, b ≠ ρ.loc k → (w.freeze ⟨ρ.loc k, 0, none⟩ m).heap[b]? = w.heap[b]? := by
    intro b hb
    unfold World.freeze
    rw [if_neg hm]
    simp [Array.getElem?_modify, Ne.symm hb]
  have hfs : (w.freeze ⟨ρ.loc k, 0, none⟩ m).heap.size = w.heap.size := by
    unfold World.freeze; rw [if_neg hm]; simp
  have hfo : (w.freeze ⟨ρ.loc k, 0, none⟩ m).os = w.os ∧ (w.freeze ⟨ρ.loc k, 0, none⟩ m).output = w.output ∧ (w.freeze ⟨ρ.loc k, 0, none⟩ m).tape = w.tape := by
    unfold World.freeze; rw [if_neg hm]; exact ⟨rfl, rfl, rfl⟩
  have key := hW.drop_turn (live_wr hk) hfs hfr hfo.1 hfo.2.1 hfo.2.2
  refine ⟨.value (.string ⟨⟨st⟩⟩), _, ?_, .inl (by simp [rlV]), key.1, key.2⟩
  have hmi : ¬ ((m : Int) < 0) := by omega
  have hmax : IntKind.i64.max = 9223372036854775807 := rfl
  have hmx : ¬ ((m : Int) > IntKind.i64.max) := by rw [hmax]; omega
  have hm0 : ¬ ((m : Int) = 0) := by omega
  have hel : (elemOf t).run P w = .ok e w := by
    unfold elemOf
    simp [T.run_und hd]
  have hargs : c.args.map (Ev a) = #[.pointer (some ⟨ρ.loc k, 0, none⟩), .int kl (m : Int)] := by rw [args2 ha, ex, el]
  unfold execOp
  simp only [ho, resolve, hc, invoke, builtin, hargs, Sem.run_bind, Sem.run_pure, Result.andThen]
  obtain ⟨A, B, C, D, e1⟩ : ∃ (A : Sem Value) (B C : Sem PUnit) (D : Sem Value), Builtin.unsafeString_ c.argTypes o.type #[.pointer (some ⟨ρ.loc k, 0, none⟩), .int kl (m : Int)] = (do
      let n ← asInt (.int kl (m : Int))
      let some pt := c.argTypes[0]? | A
      if n < 0 then B
      if n > IntKind.i64.max then C
      if n = 0 then pure (.string .empty)
      else if ← variablesAt ⟨ρ.loc k, 0, none⟩ (← elemOf pt) n.toNat then do
        let s ← loadBytes ⟨ρ.loc k, 0, none⟩ .empty n.toNat
        freeze ⟨ρ.loc k, 0, none⟩ n.toNat
        pure (.string s)
      else D) := ⟨_, _, _, _, rfl⟩
  rw [e1]
  simp only [Sem.run_bind, asInt, asIntOf, Sem.run_pure, Result.andThen, types0 ht, hmi, hmx, hm0, if_false, hel, Int.toNat_natCast, hvar, if_true, hbytes, freeze, Sem.run]
end
end Go.Clo
