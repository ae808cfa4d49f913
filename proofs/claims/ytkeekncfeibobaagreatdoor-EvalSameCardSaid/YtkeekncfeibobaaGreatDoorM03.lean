/-
A CLOSED RUN. Operation by operation (tenth part): structs and rows built.
A CLOSED RUN. Keys of maps; values held against each other.
A CLOSED RUN. Values held against each other: what the model answers; keys looked for.
A CLOSED RUN. Operation by operation: maps.
A CLOSED RUN. Operation by operation: two operands.
A CLOSED RUN. Operation by operation: append.
A CLOSED RUN. Operation by operation: append, as the machine does it.
A CLOSED RUN. Which operations answer by a value alone.
-/
import Derived.Test.YtkeekncfeibobaaGreatDoorM02
import Derived.Laws.StructEq
import Derived.MapKept
import Derived.Laws.AppendOwn
import Derived.Lib.AppendStr
namespace Go.Clo

/-- what 'fillK' hands on -/
def fillL (tm : TV) : List (Nat × Nat × XO) → List Value → Option (List Value)
  | [], cs => some cs
  | (off, s, x) :: ps, cs =>
    if (evX tm x).cells.toList.length = s ∧ off + (evX tm x).cells.toList.length ≤ cs.length then fillL tm ps (putL cs off (evX tm x).cells.toList) else none
theorem fillK_elim {β : Type} {no r : β} {tm : TV} : ∀ {ps : List (Nat × Nat × XO)} {cs : List Value} {κ : List Value → β}, fillK no tm ps cs κ = r → no ≠ r → ∃ cs', fillL tm ps cs = some cs' ∧ κ cs' = r
  | [], cs, κ, hh, _ => ⟨cs, rfl, hh⟩
  | (off, s, x) :: ps, cs, κ, hh, hn => by
    have e : fillK no tm ((off, s, x) :: ps) cs κ = evK x tm fun v => cellsV v fun vs => ifB (Nat.beq (lenOf vs) s) (ifB (Nat.ble (Nat.add off (lenOf vs)) (lenOf cs)) (putK no off cs vs fun cs => fillK no tm ps cs κ) no) no := rfl
    rw [e, evK_eq, cellsV_eq] at hh
    obtain ⟨h1, h2⟩ := ifB_elim hh hn
    obtain ⟨h3, h4⟩ := ifB_elim h2 hn
    have h1 := Nat.eq_of_beq_eq_true h1
    have h3 := Nat.le_of_ble_eq_true h3
    rw [lenOf_eq] at h1
    rw [lenOf_eq, lenOf_eq] at h3
    rw [putK_eq _ _ _ _ _ h3] at h4
    obtain ⟨cs', h5, h6⟩ := fillK_elim h4 hn
    exact ⟨cs', by rw [fillL, if_pos ⟨h1, h3⟩]; exact h5, h6⟩
theorem fillL_length {tm : TV} : ∀ {ps : List (Nat × Nat × XO)} {cs cs' : List Value}, fillL tm ps cs = some cs' → cs'.length = cs.length
  | [], cs, cs', h => by simp [fillL] at h; rw [h]
  | (off, s, x) :: ps, cs, cs', h => by
    rw [fillL] at h
    split at h
    · rename_i hq
      rw [fillL_length h, putL_length hq.2]
    · cases h
theorem fold_put (off : Nat) : ∀ (vs : List Value) (k : Nat) (cells : Array Value), off + k + vs.length ≤ cells.size →
    ((vs.zipIdx k).foldl (fun cs (c : Value × Nat) => cs.setIfInBounds (off + c.2) c.1) cells).toList = putL cells.toList (off + k) vs
  | [], k, cells, _ => by simp [putL]
  | x :: vs, k, cells, h => by
    simp only [List.length_cons] at h
    rw [List.zipIdx_cons, List.foldl_cons, fold_put off vs (k + 1) _ (by simp; omega)]
    have := list_seg_step cells.toList (off + k) x vs (by simp; omega)
    simp only [putL, Array.toList_setIfInBounds, List.length_cons]
    simp only [List.append_assoc] at this
    rw [show off + (k + 1) = off + k + 1 by omega]
    exact this
theorem fill_sim {ρ : Env} {N : Nat} {tm : TV} {a : Array Value} (hA : ActEq ρ N tm a) {place : Nat → Option (Nat × Nat)} : ∀ {l : List (Nat × Operand)} {ps : List (Nat × Nat × XO)} {cs cs' : List Value},
    (∀ p ∈ l, plainX N p.2 = true) → xparts place l = some ps → fillL tm ps cs = some cs' →
    Instr.fill place ⟨cs.map (rlV ρ)⟩ (l.map fun p => (p.1, Ev a p.2)) = some ⟨cs'.map (rlV ρ)⟩
  | [], ps, cs, cs', _, hp, hf => by
    simp only [xparts, Option.some.injEq] at hp
    subst hp
    simp only [fillL, Option.some.injEq] at hf
    subst hf
    rfl
  | (i, x) :: l, ps, cs, cs', hpl, hp, hf => by
    simp only [xparts] at hp
    cases hi : place i with
    | none => simp [hi] at hp
    | some q =>
      obtain ⟨off, s⟩ := q
      cases hr : xparts place l with
      | none => simp [hi, hr] at hp
      | some r =>
        simp only [hi, hr, Option.some.injEq] at hp
        subst hp
        rw [fillL] at hf
        split at hf
        · rename_i hq
          have hx := plainX_ev hA (hpl (i, x) (by simp))
          simp only at hx
          simp only [List.map_cons, Instr.fill, hi]
          have hsz : (Ev a x).cells.size = s := by rw [hx, cells_size_rlV, ← hq.1]; simp
          have hb : ¬ off + (Ev a x).cells.size > (⟨cs.map (rlV ρ)⟩ : Array Value).size := by
            have := hq.2
            rw [hq.1] at this
            rw [hsz]; simp; omega
          have hc : (((Ev a x).cells.size ≠ s : Bool) || decide (off + (Ev a x).cells.size > (⟨cs.map (rlV ρ)⟩ : Array Value).size)) = false := by
            simp [hsz]; rw [hsz] at hb; simpa using hb
          have hfold : (Ev a x).cells.zipIdx.foldl (fun cs (c, j) => cs.setIfInBounds (off + j) c) (⟨cs.map (rlV ρ)⟩ : Array Value) = ⟨(putL cs off (evX tm (xo x)).cells.toList).map (rlV ρ)⟩ := by
            apply Array.ext'
            rw [← Array.foldl_toList, Array.toList_zipIdx]
            have := fold_put off (Ev a x).cells.toList 0 ⟨cs.map (rlV ρ)⟩ (by have := hq.2; rw [hq.1] at this; simp [hsz]; omega)
            rw [Nat.add_zero] at this
            rw [this, hx, cells_rlV]
            simp [putL]
          rw [hfold]
          have ih := fill_sim hA (fun p hp => hpl p (by simp [hp])) hr hf
          rw [ih]
          simp only [ne_eq, decide_not, Bool.or_eq_true, Bool.not_eq_eq_eq_not, Bool.not_true, decide_eq_false_iff_not, decide_eq_true_eq]
          rw [if_neg]
          intro hcon
          rcases hcon with h1 | h1
          · exact h1 hsz
          · exact hb h1
        · cases hf

section
variable {P : Program} {G : Tab} {B0 N : Nat} {o : Oper} {tm : TV} {h : TH} {n : Nat} {a : Array Value} {w : World} {v : Value} {h' : TH} {n' : Nat} {ρ : Env}
theorem nth2_eq : ∀ (l : List (Nat × Nat)) (i : Nat), nth2 l i = l[i]?
  | [], _ => rfl
  | _ :: _, 0 => rfl
  | _ :: l, i + 1 => by simp [nth2, nth2_eq l i]
theorem places_opt (T : TabOK P G) : ∀ {fs : List Field} {pl : List (Nat × Nat)}, places G fs = some pl → fs.mapM (fun f => (P.info? f.type).map fun i => (f.offset, i.size)) = some pl
  | [], pl, hp => by simp [places] at hp; subst hp; simp
  | f :: fs, pl, hp => by
    simp only [places] at hp
    cases hs : size? G f.type with
    | none => simp [hs] at hp
    | some s =>
      cases hl : places G fs with
      | none => simp [hs, hl] at hp
      | some l =>
        simp only [hs, hl, Option.some.injEq] at hp
        subst hp
        have ih := places_opt T hl
        obtain ⟨i, hi, hsz⟩ := T.size hs
        simp [List.mapM_cons, hi, hsz, ih]
theorem parts_map (parts : Array (Nat × Operand)) : (parts.map fun (i, x) => (i, Ev a x)).toList = parts.toList.map fun p => (p.1, Ev a p.2) := by
  simp
theorem sound_buildS (T : TabOK P G) {t : TypeId} {parts : Array (Nat × Operand)} {fs : Array Field} {z : Value} {pl : List (Nat × Nat)} {ps : List (Nat × Nat × XO)} (ho : o.op = .build t parts) (hp : ∀ p ∈ parts.toList, plainX N p.2 = true)
    (hd : und G t = some (.struct fs)) (hz : zero? G t = some z) (hpl : places G fs.toList = some pl) (hps : xparts (nth2 pl) parts.toList = some ps) (hr : oBuild z.cells.toList ps tm h n = .val v h' n') : OpSim P G B0 N o tm h n a w v h' n' := by
  unfold oBuild at hr
  obtain ⟨cs, hf, hr⟩ := fillK_elim hr nofun
  cases hr
  obtain ⟨i, hi, hz2, hpz, hcs⟩ := T.zero hz
  refine .pure fun ρ hA hW => ?_
  have hfill := fill_sim hA hp hps hf
  rw [(plain_cells (ρ := ρ) hpz).2] at hfill
  have hpl2 : (nth2 pl) = fun i => pl.toArray[i]? := by funext i; rw [nth2_eq]; simp
  rw [hpl2, ← parts_map] at hfill
  have hb : P.built t (parts.map fun (i, x) => (i, Ev a x)).toList = some ⟨cs.map (rlV ρ)⟩ := by
    unfold Program.built
    simp only [hi, T.und hd, hz2, places_opt T hpl]
    exact hfill
  unfold execOp
  simp only [ho, Sem.run_bind, run_build w t _ _ hb, Result.andThen, Sem.run_pure, rlV, rlR_mk]
theorem sound_buildA (T : TabOK P G) {t : TypeId} {parts : Array (Nat × Operand)} {len e s : Nat} {z : Value} {ps : List (Nat × Nat × XO)} (ho : o.op = .build t parts) (hp : ∀ p ∈ parts.toList, plainX N p.2 = true)
    (hd : und G t = some (.array len e)) (hz : zero? G t = some z) (hs : size? G e = some s) (hps : xparts (fun i => some (i * s, s)) parts.toList = some ps) (hr : oBuild z.cells.toList ps tm h n = .val v h' n') : OpSim P G B0 N o tm h n a w v h' n' := by
  unfold oBuild at hr
  obtain ⟨cs, hf, hr⟩ := fillK_elim hr nofun
  cases hr
  obtain ⟨i, hi, hz2, hpz, hcs⟩ := T.zero hz
  obtain ⟨ie, hie, hsz⟩ := T.size hs
  refine .pure fun ρ hA hW => ?_
  have hfill := fill_sim hA hp hps hf
  rw [(plain_cells (ρ := ρ) hpz).2, ← parts_map] at hfill
  have hb : P.built t (parts.map fun (i, x) => (i, Ev a x)).toList = some ⟨cs.map (rlV ρ)⟩ := by
    unfold Program.built
    simp only [hi, T.und hd, hz2, hie, hsz]
    exact hfill
  unfold execOp
  simp only [ho, Sem.run_bind, run_build w t _ _ hb, Result.andThen, Sem.run_pure, rlV, rlR_mk]
theorem sound_buildSlice (T : TabOK P G) (hB : B0 ≤ w.heap.size) {t : TypeId} {parts : Array (Nat × Operand)} {len e s : Nat} {z : Value} {ps : List (Nat × Nat × XO)} (ho : o.op = .buildSlice t len parts) (hp : ∀ p ∈ parts.toList, plainX N p.2 = true)
    (hd : und G t = some (.slice e)) (hz : zero? G e = some z) (hs : size? G e = some s) (h0 : 0 < s) (hmax : len * s ≤ 4096) (hps : xparts (fun i => some (i * s, s)) parts.toList = some ps)
    (hr : oBuildSlice e len (reps z.cells.toList len) ps tm h n = .val v h' n') : OpSim P G B0 N o tm h n a w v h' n' := by
  unfold oBuildSlice at hr
  obtain ⟨cs, hf, hr⟩ := fillK_elim hr nofun
  obtain ⟨h1, hr⟩ := ifB_elim hr nofun
  rw [newK_eq] at hr
  cases hr
  obtain ⟨i, hi, hz2, hpz, hcs⟩ := T.zero hz
  have his : i.size = s := by obtain ⟨ie, hie, hsz⟩ := T.size hs; rw [hi] at hie; rw [← hsz]; exact congrArg _ (Option.some.inj hie)
  have hlen : len ≤ 4096 := by
    have := Nat.le_mul_of_pos_right len h0
    omega
  refine .new hB fun ρ hA hW hloc => ⟨.cells ⟨cs.map (rlV ρ)⟩ e (0, 0), ?_, h1, rfl⟩
  have hfill := fill_sim hA hp hps hf
  rw [reps_map ρ (plain_cells (ρ := ρ) hpz).2, ← parts_map, ← madeCells_reps, hcs, his] at hfill
  have hbig : ¬ len * s > 2 ^ 24 := by omega
  rw [rlV_sl_known ρ n len len (by unfold unkCap; omega), hloc]
  unfold execOp
  by_cases hq : len * s = 0
  · have hm0 : (Array.range 0).map ((#[] : Array Value)[· % (#[] : Array Value).size]!) = madeCells z.cells 0 := by simp [madeCells, Array.range_zero']
    simp only [ho, Instr.buildSlice, Sem.run_bind, T.run_und hd, Result.andThen, T.run_size hs, hbig, if_false, if_pos hq, Sem.run_pure]
    rw [hq]
    rw [hq] at hfill
    simp only [hm0, hfill, Sem.run_bind, newRow, run_new, Sem.run_pure, Result.andThen]
  · have hm0 : (Array.range (len * s)).map (z.cells[· % z.cells.size]!) = madeCells z.cells (len * s) := rfl
    simp only [ho, Instr.buildSlice, Sem.run_bind, T.run_und hd, Result.andThen, T.run_size hs, hbig, if_false, if_neg hq, Sem.run_pure, T.run_zero hz, hm0, hfill, newRow, run_new]
end
end Go.Clo
namespace Go.Clo

theorem kindNo_inj {j k : IntKind} (h : kindNo j = kindNo k) : j = k := by cases j <;> cases k <;> simp [kindNo] at h <;> rfl
theorem baseX_elim {t : XE} {x y : Value} {b : Bool} (h0 : baseX t x y = some b) :
    (b = true ↔ x = y) ∧ ((∃ k p q, t = .int k ∧ x = .int k p ∧ y = .int k q) ∨ (∃ p q, t = .str ∧ x = .string ⟨⟨p⟩⟩ ∧ y = .string ⟨⟨q⟩⟩) ∨ (∃ p q, t = .bool ∧ x = .bool p ∧ y = .bool q)) := by
  unfold baseX at h0
  cases t with
  | int k =>
    obtain ⟨j, p, hx, ha⟩ := intV_elim h0 nofun
    obtain ⟨j', q, hy, hb⟩ := intV_elim ha nofun
    obtain ⟨h1, hc⟩ := ifB_elim hb nofun
    obtain ⟨h2, hd⟩ := ifB_elim hc nofun
    have h1 := kindNo_inj (Nat.eq_of_beq_eq_true h1)
    have h2 := kindNo_inj (Nat.eq_of_beq_eq_true h2)
    rw [Option.some.injEq] at hd
    refine ⟨?_, .inl ⟨k, p, q, rfl, by rw [hx, h1], by rw [hy, h2]⟩⟩
    rw [hx, hy, h1, h2, ← hd, ieq_eq]
    simp
  | str =>
    obtain ⟨p, hx, ha⟩ := strV_elim h0 nofun
    obtain ⟨q, hy, hb⟩ := strV_elim ha nofun
    rw [Option.some.injEq] at hb
    refine ⟨?_, .inr (.inl ⟨p, q, rfl, hx, hy⟩)⟩
    rw [hx, hy, ← hb, eqBytes_eq]
    simp
  | bool =>
    obtain ⟨p, hx, ha⟩ := boolV_elim h0 nofun
    obtain ⟨q, hy, hb⟩ := boolV_elim ha nofun
    rw [Option.some.injEq, ifB_eq, ifB_eq] at hb
    refine ⟨?_, .inr (.inr ⟨p, q, rfl, hx, hy⟩)⟩
    rw [hx, hy, ← hb]
    cases p <;> cases q <;> simp
  | _ => cases h0
theorem baseX_ok {t : XE} {x y : Value} (hx : baseX t x x = some true) (hy : baseX t y y = some true) : ∃ b, baseX t x y = some b := by
  obtain ⟨_, h⟩ := baseX_elim hx
  obtain ⟨_, h'⟩ := baseX_elim hy
  rcases h with ⟨k, p, q, rfl, rfl, _⟩ | ⟨p, q, rfl, rfl, _⟩ | ⟨p, q, rfl, rfl, _⟩
  · rcases h' with ⟨k', p', q', hk, rfl, _⟩ | ⟨_, _, hk, _⟩ | ⟨_, _, hk, _⟩
    · cases hk
      exact ⟨ieq p p', by simp [baseX, intV, ifB_eq]⟩
    · cases hk
    · cases hk
  · rcases h' with ⟨k', p', q', hk, _⟩ | ⟨p', _, _, rfl, _⟩ | ⟨_, _, hk, _⟩
    · cases hk
    · exact ⟨eqBytes p p', rfl⟩
    · cases hk
  · rcases h' with ⟨k', p', q', hk, _⟩ | ⟨_, _, hk, _⟩ | ⟨p', _, _, rfl, _⟩
    · cases hk
    · cases hk
    · exact ⟨_, rfl⟩
theorem structX_cons {t : XE} {fs : List XE} {xs ys : List Value} {b : Bool} (h : structX (t :: fs) xs ys = some b) :
    ∃ x xs' y ys' c, xs = x :: xs' ∧ ys = y :: ys' ∧ baseX t x y = some c ∧ (if c then structX fs xs' ys' else some false) = some b := by
  cases xs with
  | nil => cases h
  | cons x xs =>
    cases ys with
    | nil => cases h
    | cons y ys =>
      have e : structX (t :: fs) (x :: xs) (y :: ys) = Option.rec (motive := fun _ => Option Bool) none (fun b => ifB b (structX fs xs ys) (some false)) (baseX t x y) := rfl
      rw [e] at h
      cases hc : baseX t x y with
      | none => rw [hc] at h; cases h
      | some c =>
        rw [hc] at h
        exact ⟨x, xs, y, ys, c, rfl, rfl, hc, by rw [← ifB_eq]; exact h⟩
theorem structX_nil {xs ys : List Value} {b : Bool} (h : structX [] xs ys = some b) : xs = [] ∧ ys = [] ∧ b = true := by
  cases xs with
  | nil => cases ys with
    | nil => exact ⟨rfl, rfl, by cases h; rfl⟩
    | cons => cases h
  | cons => cases h
theorem structX_elim : ∀ {fs : List XE} {xs ys : List Value} {b : Bool}, structX fs xs ys = some b → (b = true ↔ xs = ys)
  | [], xs, ys, b, h => by
    obtain ⟨rfl, rfl, rfl⟩ := structX_nil h
    simp
  | t :: fs, xs, ys, b, h => by
    obtain ⟨x, xs', y, ys', c, rfl, rfl, hc, h2⟩ := structX_cons h
    have h3 := (baseX_elim hc).1
    cases c with
    | true =>
      rw [if_pos rfl] at h2
      have h4 := structX_elim h2
      have : x = y := h3.1 rfl
      subst this
      rw [h4]; simp
    | false =>
      have : x ≠ y := fun e => by simpa using h3.2 e
      simp at h2
      subst h2
      simp [this]
theorem structX_ok : ∀ {fs : List XE} {xs ys : List Value}, structX fs xs xs = some true → structX fs ys ys = some true → ∃ b, structX fs xs ys = some b
  | [], xs, ys, hx, hy => by
    obtain ⟨rfl, _, _⟩ := structX_nil hx
    obtain ⟨rfl, _, _⟩ := structX_nil hy
    exact ⟨true, rfl⟩
  | t :: fs, xs, ys, hx, hy => by
    obtain ⟨x, xs', x2, xs2, c, rfl, hq, hc, h2⟩ := structX_cons hx
    cases hq
    obtain ⟨y, ys', y2, ys2, d, rfl, hq, hd, h4⟩ := structX_cons hy
    cases hq
    have hc1 : c = true := (baseX_elim hc).1.2 rfl
    have hd1 : d = true := (baseX_elim hd).1.2 rfl
    subst hc1 hd1
    obtain ⟨b, hb⟩ := baseX_ok hc hd
    have e : structX (t :: fs) (x :: xs') (y :: ys') = Option.rec (motive := fun _ => Option Bool) none (fun b => ifB b (structX fs xs' ys') (some false)) (baseX t x y) := rfl
    rw [e, hb]
    cases b with
    | true => obtain ⟨b2, hb2⟩ := structX_ok (by simpa using h2) (by simpa using h4); exact ⟨b2, hb2⟩
    | false => exact ⟨false, rfl⟩
theorem keyX_struct {fs : List XE} {x y : Value} {b : Bool} (h : keyX (.struct fs) x y = some b) : ∃ xs ys, x = .agg ⟨xs⟩ ∧ y = .agg ⟨ys⟩ ∧ structX fs xs ys = some b := by
  have h : aggV x none (fun xs => aggV y none fun ys => structX fs xs ys) = some b := h
  obtain ⟨xs, hx, h⟩ := aggV_elim h nofun
  obtain ⟨ys, hy, h⟩ := aggV_elim h nofun
  exact ⟨xs, ys, hx, hy, h⟩
theorem keyX_base {t : XE} (ht : ∀ fs, t ≠ .struct fs) (x y : Value) : keyX t x y = baseX t x y := by
  cases t with
  | struct fs => exact absurd rfl (ht fs)
  | _ => rfl
theorem keyX_elim {t : XE} {x y : Value} {b : Bool} (h : keyX t x y = some b) : (b = true ↔ x = y) := by
  by_cases ht : ∃ fs, t = .struct fs
  · obtain ⟨fs, rfl⟩ := ht
    obtain ⟨xs, ys, rfl, rfl, h⟩ := keyX_struct h
    rw [structX_elim h]
    simp
  · rw [keyX_base (fun fs e => ht ⟨fs, e⟩)] at h
    exact (baseX_elim h).1
theorem keyX_ok {t : XE} {x y : Value} (hx : keyX t x x = some true) (hy : keyX t y y = some true) : ∃ b, keyX t x y = some b := by
  by_cases ht : ∃ fs, t = .struct fs
  · obtain ⟨fs, rfl⟩ := ht
    obtain ⟨xs, xs2, rfl, hq, hx⟩ := keyX_struct hx
    cases hq
    obtain ⟨ys, ys2, rfl, hq, hy⟩ := keyX_struct hy
    cases hq
    obtain ⟨b, hb⟩ := structX_ok hx hy
    exact ⟨b, hb⟩
  · have hn : ∀ fs, t ≠ .struct fs := fun fs e => ht ⟨fs, e⟩
    rw [keyX_base hn] at hx hy ⊢
    exact baseX_ok hx hy
theorem baseBeq_eq {a b : XE} (h : baseBeq a b = true) : a = b := by
  unfold baseBeq at h
  split at h
  · rw [kindNo_inj (Nat.eq_of_beq_eq_true h)]
  · rfl
  · rfl
  · cases h
theorem baseBeqL_eq : ∀ {l m : List XE}, baseBeqL l m = true → l = m
  | [], [], _ => rfl
  | [], _ :: _, h => by cases h
  | _ :: _, [], h => by cases h
  | a :: l, b :: m, h => by
    simp only [baseBeqL] at h
    cases hq : baseBeq a b
    · simp [hq] at h
    · simp only [hq, cond_true] at h
      rw [baseBeq_eq hq, baseBeqL_eq h]
theorem keyBeq_eq {a b : XE} (h : keyBeq a b = true) : a = b := by
  unfold keyBeq at h
  split at h
  · rw [baseBeqL_eq h]
  · exact baseBeq_eq h

section
variable {P : Program} {G : Tab} {w : World}
/-- a type of integers, strings or bools, held against itself -/
theorem xbase_run (T : TabOK P G) {t : TypeId} {te : XE} (hb : xbase G t = te) {x y : Value} {b : Bool} (h : baseX te x y = some b) :
    (∃ d, und G t = some d ∧ isAggD d = false ∧ ∀ ms, d ≠ .interface ms) ∧ ∀ (d : Nat), (Op.equalIn (d + 1) t x y).run P w = .ok b w := by
  obtain ⟨hbd, hcase⟩ := baseX_elim h
  unfold xbase at hb
  rcases hcase with ⟨k, p, q, rfl, rfl, rfl⟩ | ⟨p, q, rfl, rfl, rfl⟩ | ⟨p, q, rfl, rfl, rfl⟩
  · split at hb
    · rename_i k' hu
      refine ⟨⟨_, hu, rfl, nofun⟩, fun d => ?_⟩
      rw [run_equalIn_int w d t k k' p q (T.und hu)]
      congr 1
      rw [Bool.eq_iff_iff, hbd]; simp
    · cases hb
    · cases hb
    · cases hb
  · split at hb
    · cases hb
    · rename_i hu
      refine ⟨⟨_, hu, rfl, nofun⟩, fun d => ?_⟩
      simp only [Op.equalIn, Sem.run_bind, T.run_und hu, Result.andThen, Sem.run_pure]
      congr 1
      rw [Bool.eq_iff_iff, hbd, beq_toListBytes, ByteArray.toList_eq, ByteArray.toList_eq]
      simp
    · cases hb
    · cases hb
  · split at hb
    · cases hb
    · cases hb
    · rename_i hu
      refine ⟨⟨_, hu, rfl, nofun⟩, fun d => ?_⟩
      rw [run_equalIn_bool' w d t p q (T.und hu)]
      congr 1
      rw [Bool.eq_iff_iff, hbd]; simp
    · cases hb
end
end Go.Clo
namespace Go.Clo

theorem beq_bytes (a b : ByteArray) : ((a == b) = true) ↔ a = b := by
  rw [beq_toListBytes, ByteArray.toList_eq, ByteArray.toList_eq]
  obtain ⟨⟨x⟩⟩ := a
  obtain ⟨⟨y⟩⟩ := b
  simp
section
variable {P : Program} {G : Tab} {w : World}
theorem fieldsOf_und (T : TabOK P G) {t : TypeId} {fs : Array Field} (h : und G t = some (.struct fs)) : P.fieldsOf t = fs := by
  simp [Program.fieldsOf, T.und h]
theorem part_one (T : TabOK P G) {t : TypeId} {d : TypeDesc} (hd : und G t = some d) (ha : isAggD d = false) {xs : List Value} {i : Nat} {x : Value} (hx : xs[i]? = some x) : (part t ⟨xs⟩ i).run P w = .ok x w := by
  simp [part, T.run_isAgg hd, ha, hx]
theorem fields_run (T : TabOK P G) : ∀ (fs : List Field) (i : Nat) (xs ys : List Value) (b : Bool), structX (xfields G fs i) (xs.drop i) (ys.drop i) = some b → ∀ d, (Op.eqFields (d + 1) ⟨xs⟩ ⟨ys⟩ fs).run P w = .ok b w
  | [], i, xs, ys, b, h, d => by
    obtain ⟨_, _, rfl⟩ := structX_nil h
    simp [Op.eqFields]
  | f :: fs, i, xs, ys, b, h, d => by
    simp only [xfields] at h
    obtain ⟨x, xs', y, ys', c, hxs, hys, hc, h2⟩ := structX_cons h
    have hx : xs[i]? = some x := by have := congrArg (fun l => l[0]?) hxs; simpa using this
    have hy : ys[i]? = some y := by have := congrArg (fun l => l[0]?) hys; simpa using this
    have hx' : xs.drop (i + 1) = xs' := by rw [← List.drop_drop, hxs]; rfl
    have hy' : ys.drop (i + 1) = ys' := by rw [← List.drop_drop, hys]; rfl
    cases ho : Nat.beq f.offset i with
    | false => simp only [ho, cond_false] at hc; cases hc
    | true =>
      cases hn : (f.name == "_") with
      | true => simp only [ho, hn, cond_true] at hc; cases hc
      | false =>
        simp only [ho, hn, cond_true, cond_false] at hc
        have ho := Nat.eq_of_beq_eq_true ho
        obtain ⟨⟨dd, hu, hag, _⟩, hrun⟩ := xbase_run (w := w) T rfl hc
        have hne : f.name ≠ "_" := by simpa using hn
        simp only [Op.eqFields, if_pos hne, Sem.run_bind, ho, part_one T hu hag hx, part_one T hu hag hy, Result.andThen, hrun d]
        cases c with
        | true =>
          simp only [Bool.not_true, Bool.false_eq_true, if_false]
          refine fields_run T fs (i + 1) xs ys b ?_ d
          rw [hx', hy']; simpa using h2
        | false =>
          simp at h2
          simp [← h2]
/-- two values of a type, held against each other -/
theorem keyX_run (T : TabOK P G) {t : TypeId} {te : XE} (ht : xkey G t = te) {x y : Value} {b : Bool} (h : keyX te x y = some b) : (Op.equal t x y).run P w = .ok b w := by
  unfold xkey at ht
  unfold Op.equal Op.maxDepth
  split at ht
  · rename_i k hu
    subst ht
    exact (xbase_run (w := w) T (t := t) (te := .int k) (by simp [xbase, hu]) h).2 9999
  · rename_i hu
    subst ht
    exact (xbase_run (w := w) T (t := t) (te := .str) (by simp [xbase, hu]) h).2 9999
  · rename_i hu
    subst ht
    exact (xbase_run (w := w) T (t := t) (te := .bool) (by simp [xbase, hu]) h).2 9999
  · rename_i fs hu
    cases hm : memN G.eqs t with
    | false => simp only [hm, cond_false] at ht; subst ht; cases h
    | true =>
      simp only [hm, cond_true] at ht
      subst ht
      obtain ⟨xs, ys, rfl, rfl, hs⟩ := keyX_struct h
      have hf := fieldsOf_und T hu
      rw [run_equalIn_struct w 9999 t ⟨xs⟩ ⟨ys⟩ (by rw [hf]; exact T.und hu) (T.eqs t hm).2, hf]
      exact fields_run T fs.toList 0 xs ys b (by simpa using hs) 9998
  · subst ht; cases h
theorem check_fields (T : TabOK P G) (e : Bool) (d : Nat) : ∀ (fs : List Field) (i : Nat) (xs : List Value) (b : Bool), structX (xfields G fs i) (xs.drop i) (xs.drop i) = some b →
    (do for f in fs do
      if f.name ≠ "_" then Instr.checkKey e (d + 1) f.type (← part f.type ⟨xs⟩ f.offset) : Sem Unit).run P w = .ok () w
  | [], i, xs, b, h => by simp
  | f :: fs, i, xs, b, h => by
    simp only [xfields] at h
    obtain ⟨x, xs', y, ys', c, hxs, hys, hc, h2⟩ := structX_cons h
    have hq : x = y := by rw [hxs] at hys; simp at hys; exact hys.1
    subst hq
    have hx : xs[i]? = some x := by have := congrArg (fun l => l[0]?) hxs; simpa using this
    have hx' : xs.drop (i + 1) = xs' := by rw [← List.drop_drop, hxs]; rfl
    have hy' : ys' = xs' := by rw [hxs] at hys; simp at hys; exact hys.symm
    subst hy'
    cases ho : Nat.beq f.offset i with
    | false => simp only [ho, cond_false] at hc; cases hc
    | true =>
      cases hn : (f.name == "_") with
      | true => simp only [ho, hn, cond_true] at hc; cases hc
      | false =>
        simp only [ho, hn, cond_true, cond_false] at hc
        have ho := Nat.eq_of_beq_eq_true ho
        have hb := hc
        obtain ⟨⟨dd, hu, hag, hni⟩, hrun⟩ := xbase_run (w := w) T rfl hc
        have hne : f.name ≠ "_" := by simpa using hn
        have hck : (Instr.checkKey e (d + 1) f.type x).run P w = .ok () w := by
          simp only [Instr.checkKey, Sem.run_bind, T.run_und hu, Result.andThen]
          cases dd with
          | interface ms => exact absurd rfl (hni ms)
          | array _ _ => cases hag
          | struct _ => cases hag
          | _ => simp
        have hc1 : c = true := (baseX_elim hb).1.2 rfl
        subst hc1
        have ih := check_fields T e d fs (i + 1) xs b (by rw [hx']; simpa using h2)
        simp only [List.forIn_cons, Sem.run_bind, if_pos hne, ho, part_one T hu hag hx, Result.andThen, hck, Sem.run_pure]
        simpa only [Sem.run_bind, Result.andThen, Sem.run_pure] using ih
theorem checkKey_run (T : TabOK P G) {t : TypeId} {te : XE} (ht : xkey G t = te) {x : Value} {b : Bool} (h : keyX te x x = some b) (e : Bool) (d : Nat) : (Instr.checkKey e (d + 2) t x).run P w = .ok () w := by
  unfold xkey at ht
  split at ht
  · rename_i k hu
    simp [Instr.checkKey, T.run_und hu]
  · rename_i hu
    simp [Instr.checkKey, T.run_und hu]
  · rename_i hu
    simp [Instr.checkKey, T.run_und hu]
  · rename_i fs hu
    cases hm : memN G.eqs t with
    | false => simp only [hm, cond_false] at ht; subst ht; cases h
    | true =>
      simp only [hm, cond_true] at ht
      subst ht
      obtain ⟨xs, ys, rfl, hq, hs⟩ := keyX_struct h
      cases hq
      have := check_fields (w := w) T e d fs.toList 0 xs b (by simpa using hs)
      unfold Instr.checkKey
      simp only [Sem.run_bind, T.run_und hu, Result.andThen, ← Array.forIn_toList]
      simpa only [Sem.run_bind, Result.andThen, Sem.run_pure] using this
  · subst ht; cases h
/-- what a search of an entry finds -/
def Found (k : Value) (l : List MapEntry) : Option (Nat × Value) → Nat → Prop
  | none, _ => ∀ e ∈ l, e.key ≠ k
  | some (j, v), i => ∃ e, i ≤ j ∧ l[j - i]? = some e ∧ e.key = k ∧ v = e.val
theorem Found.cons {k : Value} {l : List MapEntry} {r : Option (Nat × Value)} {i : Nat} {e : MapEntry} (hne : e.key ≠ k) (h : Found k l r (i + 1)) : Found k (e :: l) r i := by
  cases r with
  | none =>
    intro x hx
    rcases List.mem_cons.1 hx with rfl | hx
    · exact hne
    · exact h x hx
  | some p =>
    obtain ⟨j, v⟩ := p
    obtain ⟨x, h1, h2, h3, h4⟩ := h
    refine ⟨x, by omega, ?_, h3, h4⟩
    have : j - i = (j - (i + 1)) + 1 := by omega
    rw [this]; simpa using h2
theorem findNow_found {d : TypeDesc} {k : Value} : ∀ {l : List MapEntry} {i : Nat} {r : Option (Nat × Value)}, Instr.findNow d k l i = some r → Found k l r i
  | [], i, r, h => by
    simp only [Instr.findNow, Option.some.injEq] at h
    subst h
    intro e he; simp at he
  | e :: l, i, r, h => by
    simp only [Instr.findNow] at h
    have key : ∀ b, Instr.sameNow d k e.key = some b → (b = true ↔ k = e.key) := by
      intro b hb
      generalize e.key = y at hb ⊢
      unfold Instr.sameNow at hb
      split at hb
      · split at hb
        · rename_i hk
          simp only [Option.some.injEq] at hb
          subst hk
          rw [← hb]; simp
        · cases hb
      · simp only [Option.some.injEq] at hb
        rw [← hb, beq_bytes]; simp
      · simp only [Option.some.injEq] at hb
        rw [← hb]; simp
      · cases hb
    split at h
    · rename_i hb
      simp only [Option.some.injEq] at h
      subst h
      exact ⟨e, Nat.le_refl _, by simp, ((key _ hb).1 rfl).symm, rfl⟩
    · rename_i hb
      exact (findNow_found h).cons fun hq => by simpa using (key _ hb).2 hq.symm
    · cases h
theorem findAsking_found {kt : TypeId} {k : Value} : ∀ {l : List MapEntry} {i : Nat}, (∀ e ∈ l, ∃ b, (Op.equal kt k e.key).run P w = .ok b w ∧ (b = true ↔ k = e.key)) →
    ∃ r, (Instr.findAsking kt k l i).run P w = .ok r w ∧ Found k l r i
  | [], i, _ => ⟨none, by simp [Instr.findAsking], fun e he => by simp at he⟩
  | e :: l, i, h => by
    obtain ⟨b, hb, hbk⟩ := h e (by simp)
    obtain ⟨r, hr, hF⟩ := findAsking_found (l := l) (i := i + 1) fun x hx => h x (by simp [hx])
    cases b with
    | true => exact ⟨some (i, e.val), by simp [Instr.findAsking, hb], e, Nat.le_refl _, by simp, (hbk.1 rfl).symm, rfl⟩
    | false => exact ⟨r, by simp [Instr.findAsking, hb, hr], hF.cons fun hq => by simpa using hbk.2 hq.symm⟩
theorem findKey_found (T : TabOK P G) {t : TypeId} {te : XE} (ht : xkey G t = te) {k : Value} {l : List MapEntry} (hk : keyX te k k = some true) (hl : ∀ e ∈ l, keyX te e.key e.key = some true) :
    ∃ r, (Instr.findKey t k l).run P w = .ok r w ∧ Found k l r 0 := by
  have hu : ∃ d, und G t = some d := by
    unfold xkey at ht
    split at ht <;> first | exact ⟨_, ‹_›⟩ | (subst ht; cases hk)
  obtain ⟨d, hu⟩ := hu
  cases hn : Instr.findNow d k l 0 with
  | some r => exact ⟨r, by simp [Instr.findKey, T.run_und hu, hn], findNow_found hn⟩
  | none =>
    obtain ⟨r, hr, hF⟩ := findAsking_found (P := P) (w := w) (kt := t) (k := k) (l := l) (i := 0) fun e he => by
      obtain ⟨b, hb⟩ := keyX_ok hk (hl e he)
      exact ⟨b, keyX_run T ht hb, keyX_elim hb⟩
    exact ⟨r, by simp [Instr.findKey, T.run_und hu, hn, hr], hF⟩
end
end Go.Clo
namespace Go.Clo

section
variable {β : Type} {no nf yes r : β}
theorem findX_elim {t : XE} {k : Value} {κ : Nat → Value → β} : ∀ {es : List (Value × Value)} {i : Nat}, findX es t k i no nf κ = r → no ≠ r →
    ((∀ e ∈ es, e.1 ≠ k) ∧ nf = r) ∨ ∃ j v, es[j]? = some (k, v) ∧ κ (i + j) v = r
  | [], i, h, _ => .inl ⟨by simp, h⟩
  | e :: es, i, h, hn => by
    have e1 : findX (e :: es) t k i no nf κ = Option.rec (motive := fun _ => β) no (fun b => ifB b (κ i e.2) (findX es t k (i + 1) no nf κ)) (keyX t k e.1) := rfl
    rw [e1] at h
    cases hk : keyX t k e.1 with
    | none => rw [hk] at h; exact absurd h hn
    | some b =>
      rw [hk] at h
      replace h : ifB b (κ i e.2) (findX es t k (i + 1) no nf κ) = r := h
      rw [ifB_eq] at h
      have hb := keyX_elim hk
      cases b with
      | true =>
        have : k = e.1 := hb.1 rfl
        refine .inr ⟨0, e.2, by simp [this], by simpa using h⟩
      | false =>
        have hne : e.1 ≠ k := fun q => by simpa using hb.2 q.symm
        rw [if_neg (by simp)] at h
        rcases findX_elim h hn with ⟨h1, h2⟩ | ⟨j, v, h1, h2⟩
        · refine .inl ⟨fun x hx => ?_, h2⟩
          rcases List.mem_cons.1 hx with rfl | hx
          · exact hne
          · exact h1 x hx
        · exact .inr ⟨j + 1, v, by simpa using h1, by rw [← h2]; congr 1; omega⟩
theorem mapK_elim {x : Value} {t : XE} {h : TH} {κ : List (Value × Value) → Nat → β} (hh : mapK x t no h κ = r) (hn : no ≠ r) :
    (x = .map none ∧ κ [] 0 = r) ∨ ∃ b es, x = .map (some (O + b)) ∧ h.getO b = .map t es ∧ κ es (b + 1) = r := by
  unfold mapK at hh
  split at hh
  · exact .inl ⟨rfl, hh⟩
  · obtain ⟨b, hb, h2⟩ := ownK_elim hh hn
    rw [TH.getK_eq] at h2
    obtain ⟨t', es, ho, h3⟩ := mapO_elim h2 hn
    obtain ⟨h4, h5⟩ := ifB_elim h3 hn
    rw [keyBeq_eq h4] at ho
    exact .inr ⟨b, es, by rw [hb], ho, h5⟩
  · exact absurd hh hn
theorem keyOk_elim {t : XE} {k : Value} (h : keyOk t k no yes = r) (hn : no ≠ r) : keyX t k k = some true ∧ plainV k = true ∧ yes = r := by
  unfold keyOk at h
  cases hk : keyX t k k with
  | none => rw [hk] at h; exact absurd h hn
  | some b =>
    rw [hk] at h
    obtain ⟨h1, h2⟩ := ifB_elim (b := b) h hn
    obtain ⟨h3, h4⟩ := ifB_elim h2 hn
    exact ⟨by rw [h1], h3, h4⟩
end

theorem Born.push {E : List MapEntry} {cl : Nat} (h : Born E cl) (k v : Value) : Born (E ++ [{ key := k, val := v, born := cl }]) (cl + 1) := by
  refine ⟨fun e he => ?_, ?_⟩
  · rcases List.mem_append.1 he with he | he
    · have := h.1 e he; omega
    · simp only [List.mem_singleton] at he
      subst he
      exact Nat.lt_succ_self _
  · rw [List.map_append, List.nodup_append]
    refine ⟨h.2, by simp, ?_⟩
    intro a ha b hb
    simp only [List.map_cons, List.map_nil, List.mem_singleton] at hb
    subst hb
    obtain ⟨x, hx, rfl⟩ := List.mem_map.1 ha
    exact Nat.ne_of_lt (h.1 x hx)
theorem Born.modify {E : List MapEntry} {cl : Nat} (h : Born E cl) (j : Nat) (k v : Value) : Born (E.modify j fun e => { e with key := k, val := v }) cl := by
  have e1 : (E.modify j fun e => { e with key := k, val := v }).map (·.born) = E.map (·.born) := by
    apply List.ext_getElem?
    intro i
    simp only [List.getElem?_map, List.getElem?_modify]
    cases E[i]? with
    | none => simp
    | some e =>
      by_cases hq : j = i <;> simp [hq]
  refine ⟨fun e he => ?_, by rw [e1]; exact h.2⟩
  have h2 : e.born ∈ (E.modify j fun e => { e with key := k, val := v }).map (·.born) := List.mem_map.2 ⟨e, he, rfl⟩
  rw [e1] at h2
  obtain ⟨x, hx, hq⟩ := List.mem_map.1 h2
  have := h.1 x hx
  rw [← hq]
  exact this

def Ents (ρ : Env) (t : XE) (es : List (Value × Value)) (E : List MapEntry) : Prop :=
  (∀ x ∈ es, plainV x.1 = true ∧ keyX t x.1 x.1 = some true) ∧ (es.map (·.1)).Nodup ∧ (E.map fun e => (e.key, e.val)).Perm (es.map fun x => (x.1, rlV ρ x.2))
section
variable {ρ : Env} {t : XE} {es : List (Value × Value)} {E : List MapEntry} {k : Value} {r : Option (Nat × Value)}
theorem Ents.keys (h : Ents ρ t es E) : ∀ e ∈ E, keyX t e.key e.key = some true := by
  intro e he
  have h1 : (e.key, e.val) ∈ es.map fun x => (x.1, rlV ρ x.2) := h.2.2.mem_iff.1 (List.mem_map.2 ⟨e, he, rfl⟩)
  obtain ⟨x, hx, hq⟩ := List.mem_map.1 h1
  simp only [Prod.mk.injEq] at hq
  rw [← hq.1]; exact (h.1 x hx).2
theorem Ents.nodup (h : Ents ρ t es E) : (E.map (·.key)).Nodup := by
  have h1 := h.2.2.map (·.1)
  simp only [List.map_map] at h1
  exact (h1.nodup_iff (l₂ := es.map fun x => x.1)).2 h.2.1
theorem Ents.miss (h : Ents ρ t es E) (hk : ∀ e ∈ es, e.1 ≠ k) (hF : Found k E r 0) : r = none := by
  cases r with
  | none => rfl
  | some p =>
    obtain ⟨j, v⟩ := p
    obtain ⟨e, _, he, hek, _⟩ := hF
    have h1 : (e.key, e.val) ∈ es.map fun x => (x.1, rlV ρ x.2) := h.2.2.mem_iff.1 (List.mem_map.2 ⟨e, List.mem_of_getElem? he, rfl⟩)
    obtain ⟨x, hx, hq⟩ := List.mem_map.1 h1
    simp only [Prod.mk.injEq] at hq
    exact absurd (hq.1.trans hek) (hk x hx)
theorem nodup_key {E : List MapEntry} (hn : (E.map (·.key)).Nodup) {a b : MapEntry} (ha : a ∈ E) (hb : b ∈ E) (h : a.key = b.key) : a = b := by
  induction E with
  | nil => simp at ha
  | cons x E ih =>
    simp only [List.map_cons, List.nodup_cons] at hn
    rcases List.mem_cons.1 ha with ha1 | ha1 <;> rcases List.mem_cons.1 hb with hb1 | hb1
    · rw [ha1, hb1]
    · exact absurd (List.mem_map.2 ⟨b, hb1, by rw [← h, ha1]⟩ : x.key ∈ E.map (·.key)) hn.1
    · exact absurd (List.mem_map.2 ⟨a, ha1, by rw [h, hb1]⟩ : x.key ∈ E.map (·.key)) hn.1
    · exact ih hn.2 ha1 hb1
theorem Ents.hit (h : Ents ρ t es E) {v : Value} (hk : (k, v) ∈ es) (hF : Found k E r 0) : ∃ j e, r = some (j, rlV ρ v) ∧ E[j]? = some e ∧ e.key = k ∧ e.val = rlV ρ v := by
  have h1 : (k, rlV ρ v) ∈ E.map fun e => (e.key, e.val) := h.2.2.mem_iff.2 (List.mem_map.2 ⟨(k, v), hk, rfl⟩)
  obtain ⟨x, hx, hq⟩ := List.mem_map.1 h1
  simp only [Prod.mk.injEq] at hq
  cases r with
  | none => exact absurd hq.1 (hF x hx)
  | some p =>
    obtain ⟨j, u⟩ := p
    obtain ⟨e, _, he, hek, hu⟩ := hF
    have : e = x := nodup_key h.nodup (List.mem_of_getElem? he) hx (hek.trans hq.1.symm)
    subst this
    exact ⟨j, e, by rw [hu, hq.2], by simpa using he, hek, hq.2⟩
end

section
variable {P : Program} {G : Tab} {B0 N : Nat} {o : Oper} {tm : TV} {h : TH} {n : Nat} {a : Array Value} {w : World} {v : Value} {h' : TH} {n' : Nat} {ρ : Env}

theorem map_at (hW : WEq ρ G B0 h n w) {k : Nat} {t : XE} {es : List (Value × Value)} (hk : h.getO k = .map t es) :
    ∃ E cl, w.heap[ρ.loc k]? = some (.map E cl) ∧ Ents ρ t es E.toList ∧ Born E.toList cl := by
  have hl : Live h k := by unfold Live; rw [hk]; simp
  obtain ⟨p, hp, hO⟩ := hW.obj k hl
  rw [hk] at hO
  obtain ⟨E, cl, rfl, hB, h1, h2, h3⟩ := hO
  exact ⟨E, cl, hp, ⟨h1, h2, h3⟩, hB⟩
theorem lookup_run (T : TabOK P G) {xt kt et : TypeId} {te : XE} {z : Value} {ok : Bool} (hd : und G xt = some (.map kt et)) (ht : xkey G kt = te) (hz : zero? G et = some z) {i : Value} (hk : keyX te i i = some true)
    {x : Value} {E : Array MapEntry} (hx : (x = .map none ∧ E = #[]) ∨ ∃ b cl, x = .map (some b) ∧ w.heap[b]? = some (.map E cl)) {es : List (Value × Value)} (hE : Ents ρ te es E.toList) :
    ((∀ e ∈ es, e.1 ≠ i) → (Instr.lookup xt x i ok).run P w = .ok (if ok then .tuple #[z, .bool false] else z) w) ∧
    (∀ u, (i, u) ∈ es → (Instr.lookup xt x i ok).run P w = .ok (if ok then .tuple #[rlV ρ u, .bool true] else rlV ρ u) w) := by
  obtain ⟨r, hr, hF⟩ := findKey_found (w := w) T ht hk hE.keys
  have hck := fun e => checkKey_run (w := w) T ht hk e 9998
  simp only [Nat.reduceAdd] at hck
  have hrun : (Instr.lookup xt x i ok).run P w = r.elim (Result.ok (if ok then .tuple #[z, .bool false] else z) w) fun p => Result.ok (if ok then Value.tuple #[p.2, .bool true] else p.2) w := by
    rcases hx with ⟨rfl, rfl⟩ | ⟨b, cl, rfl, hb⟩
    · simp only [Instr.lookup, Sem.run_bind, T.run_und hd, Result.andThen, Sem.run_pure, hck, hr]
      cases r with
      | none => simp [T.run_zero hz]
      | some p => simp
    · simp only [Instr.lookup, Sem.run_bind, T.run_und hd, Result.andThen, Sem.run_pure, MapKept.run_getObj_map hb, hck, hr]
      cases r with
      | none => simp [T.run_zero hz]
      | some p => simp
  refine ⟨fun hno => ?_, fun u hu => ?_⟩
  · rw [hrun, hE.miss hno hF]; rfl
  · obtain ⟨j, e, hj, _⟩ := hE.hit hu hF
    rw [hrun, hj]; rfl
theorem sound_lookup (T : TabOK P G) {t : TypeId} {x i : Operand} {ok : Bool} {kt et : TypeId} {z : Value} (ho : o.op = .lookup t x i ok) (hx : plainX N x = true) (hi : plainX N i = true) (hd : und G t = some (.map kt et)) (hz : zero? G et = some z)
    (hr : oLookup (xkey G kt) z (xo x) (xo i) ok tm h n = .val v h' n') : OpSim P G B0 N o tm h n a w v h' n' := by
  unfold oLookup at hr
  rw [evK_eq, evK_eq] at hr
  obtain ⟨hk, hp, hr⟩ := keyOk_elim hr nofun
  obtain ⟨es, hm, hr⟩ : ∃ es, (evX tm (xo x) = .map none ∧ es = [] ∨ ∃ b, evX tm (xo x) = .map (some (O + b)) ∧ h.getO b = .map (xkey G kt) es) ∧
      findX es (xkey G kt) (evX tm (xo i)) 0 (OR.fail "lookup: key") (ifB ok (.val (.tuple ⟨[z, .bool false]⟩) h n) (.val z h n)) (fun _ v => ifB ok (.val (.tuple ⟨[v, .bool true]⟩) h n) (.val v h n)) = .val v h' n' := by
    rcases mapK_elim hr nofun with ⟨h1, h2⟩ | ⟨b, es, h1, h2, h3⟩
    · exact ⟨[], .inl ⟨h1, rfl⟩, h2⟩
    · exact ⟨es, .inr ⟨b, h1, h2⟩, h3⟩
  have hrun : ∀ ρ, ActEq ρ N tm a → WEq ρ G B0 h n w → ((∀ e ∈ es, e.1 ≠ evX tm (xo i)) → (execOp (Ev a) o).run P w = .ok (.value (if ok then .tuple #[z, .bool false] else z)) w) ∧
      (∀ u, (evX tm (xo i), u) ∈ es → (execOp (Ev a) o).run P w = .ok (.value (if ok then .tuple #[rlV ρ u, .bool true] else rlV ρ u)) w) := by
    intro ρ hA hW
    have ex := plainX_ev hA hx
    have ei := plainX_ev hA hi
    rw [rlV_plain ρ _ hp] at ei
    obtain ⟨E, hE, hEn⟩ : ∃ E : Array MapEntry, ((Ev a x = .map none ∧ E = #[]) ∨ ∃ b cl, Ev a x = .map (some b) ∧ w.heap[b]? = some (.map E cl)) ∧ Ents ρ (xkey G kt) es E.toList := by
      rcases hm with ⟨h1, rfl⟩ | ⟨b, h1, h2⟩
      · exact ⟨#[], .inl ⟨by rw [ex, h1]; simp [rlV], rfl⟩, by simp, by simp, by simp⟩
      · obtain ⟨E, cl, h3, h4, _⟩ := map_at hW h2
        exact ⟨E, .inr ⟨ρ.loc b, cl, by rw [ex, h1]; simp [rlV], h3⟩, h4⟩
    have := lookup_run (w := w) (ρ := ρ) (ok := ok) T hd rfl hz hk hE hEn
    unfold execOp
    simp only [ho, ei, Sem.run_bind]
    refine ⟨fun hno => ?_, fun u hu => ?_⟩
    · rw [this.1 hno]; simp
    · rw [this.2 u hu]; simp
  obtain ⟨i1, hi1, hi2, hpz, _⟩ := T.zero hz
  rcases findX_elim hr nofun with ⟨hno, h2⟩ | ⟨j, u, hj, h2⟩
  · rw [ifB_eq] at h2
    cases ok with
    | true =>
      rw [if_pos rfl] at h2; cases h2
      refine .pure fun ρ hA hW => ?_
      rw [(hrun ρ hA hW).1 hno]
      simp [rlV, rlV_plain ρ z hpz]
    | false =>
      rw [if_neg (by simp)] at h2; cases h2
      refine .pure fun ρ hA hW => ?_
      rw [(hrun ρ hA hW).1 hno]
      simp [rlV_plain ρ _ hpz]
  · rw [ifB_eq] at h2
    cases ok with
    | true =>
      rw [if_pos rfl] at h2; cases h2
      refine .pure fun ρ hA hW => ?_
      rw [(hrun ρ hA hW).2 _ (List.mem_of_getElem? hj)]
      simp [rlV]
    | false =>
      rw [if_neg (by simp)] at h2; cases h2
      refine .pure fun ρ hA hW => ?_
      rw [(hrun ρ hA hW).2 _ (List.mem_of_getElem? hj)]
      simp

theorem baseX_bits {t : XE} {x y : Value} {b : Bool} (h : baseX t x y = some b) (n : Nat) : Instr.sameBits n x x = true := by
  rcases (baseX_elim h).2 with ⟨k, p, q, _, rfl, _⟩ | ⟨p, q, _, rfl, _⟩ | ⟨p, q, _, rfl, _⟩ <;> cases n <;> simp [Instr.sameBits, beq_bytes]
theorem structX_bits (n : Nat) : ∀ {fs : List XE} {xs : List Value}, structX fs xs xs = some true → (xs.zip xs).all (fun p => Instr.sameBits n p.1 p.2) = true
  | [], xs, h => by obtain ⟨rfl, _, _⟩ := structX_nil h; rfl
  | t :: fs, xs, h => by
    obtain ⟨x, xs', y, ys', c, rfl, hq, hc, h2⟩ := structX_cons h
    cases hq
    have hc1 : c = true := (baseX_elim hc).1.2 rfl
    subst hc1
    have := structX_bits n (by simpa using h2)
    simp only [List.zip_cons_cons, List.all_cons, baseX_bits hc n, this, Bool.and_self]
theorem keyX_bits {t : XE} {x : Value} (h : keyX t x x = some true) (n : Nat) : Instr.sameBits (n + 1) x x = true := by
  by_cases ht : ∃ fs, t = .struct fs
  · obtain ⟨fs, rfl⟩ := ht
    obtain ⟨xs, xs2, rfl, hq, hx⟩ := keyX_struct h
    cases hq
    have := structX_bits n hx
    simp only [Instr.sameBits, beq_self_eq_true, Bool.true_and]
    exact this
  · rw [keyX_base (fun fs e => ht ⟨fs, e⟩)] at h
    exact baseX_bits h _
theorem modK_eq {β : Type} {k v : Value} {κ : List (Value × Value) → β} : ∀ {es : List (Value × Value)} {i : Nat}, modK es i k v κ = κ (es.modify i fun _ => (k, v))
  | [], i => by cases i <;> rfl
  | e :: es, 0 => rfl
  | e :: es, i + 1 => by
    have h1 : modK (e :: es) (i + 1) k v κ = modK es i k v fun r => κ (e :: r) := rfl
    rw [h1, modK_eq]
    rfl
/-- an entry of a list without twins turned, by its key -/
theorem modify_map {α : Type} {g : α → Value} {f : α → α} {k : Value} : ∀ {l : List α} {i : Nat} {e : α}, (l.map g).Nodup → l[i]? = some e → g e = k →
    ∃ F : α → α, (∀ x, g x = k → F x = f x) ∧ (∀ x, g x ≠ k → F x = x) ∧ l.modify i f = l.map F := by
  intro l i e hn hi he
  classical
  refine ⟨fun x => if g x = k then f x else x, fun x hx => if_pos hx, fun x hx => if_neg hx, ?_⟩
  induction l generalizing i with
  | nil => simp at hi
  | cons x l ih =>
    simp only [List.map_cons, List.nodup_cons] at hn
    cases i with
    | zero =>
      simp only [List.getElem?_cons_zero, Option.some.injEq] at hi
      subst hi
      have : l.map (fun x => if g x = k then f x else x) = l := by
        conv => rhs; rw [← List.map_id l]
        refine List.map_congr_left fun y hy => ?_
        rw [if_neg]; rfl
        intro hq
        exact hn.1 (List.mem_map.2 ⟨y, hy, hq.trans he.symm⟩)
      simp [he, this]
    | succ i =>
      simp only [List.getElem?_cons_succ] at hi
      have hne : g x ≠ k := by
        intro hq
        exact hn.1 (List.mem_map.2 ⟨e, List.mem_of_getElem? hi, he.trans hq.symm⟩)
      simp [hne, ih hn.2 hi]
theorem Ents.set {ρ : Env} {t : XE} {es : List (Value × Value)} {E : List MapEntry} {k v v0 : Value} {e : MapEntry} {i j : Nat} (h : Ents ρ t es E) (hi : es[i]? = some (k, v0)) (hj : E[j]? = some e) (he : e.key = k) :
    Ents ρ t (es.modify i fun _ => (k, v)) (E.modify j fun e => { e with key := k, val := rlV ρ v }) := by
  obtain ⟨F, hF1, hF2, hF⟩ := modify_map (g := fun x : Value × Value => x.1) (f := fun _ => (k, v)) (k := k) h.2.1 hi rfl
  obtain ⟨H, hH1, hH2, hH⟩ := modify_map (g := fun x : MapEntry => x.key) (f := fun e => { e with key := k, val := rlV ρ v }) (k := k) h.nodup hj he
  have hk1 : ∀ x, (F x).1 = x.1 := by
    intro x
    by_cases hx : x.1 = k
    · rw [hF1 x hx]; exact hx.symm
    · rw [hF2 x hx]
  rw [hF, hH]
  refine ⟨?_, ?_, ?_⟩
  · intro x hx
    obtain ⟨y, hy, rfl⟩ := List.mem_map.1 hx
    rw [hk1]; exact h.1 y hy
  · have : (es.map F).map (·.1) = es.map (·.1) := by rw [List.map_map]; exact List.map_congr_left fun x _ => hk1 x
    rw [this]; exact h.2.1
  · have hp := h.2.2
    classical
    have := hp.map fun p : Value × Value => if p.1 = k then (k, rlV ρ v) else p
    rw [List.map_map, List.map_map] at this ⊢
    have e1 : E.map ((fun e => (e.key, e.val)) ∘ H) = E.map ((fun p : Value × Value => if p.1 = k then (k, rlV ρ v) else p) ∘ fun e => (e.key, e.val)) := by
      refine List.map_congr_left fun x _ => ?_
      simp only [Function.comp]
      by_cases hx : x.key = k
      · rw [hH1 x hx, if_pos hx]
      · rw [hH2 x hx, if_neg hx]
    have e2 : es.map ((fun x => (x.1, rlV ρ x.2)) ∘ F) = es.map ((fun p : Value × Value => if p.1 = k then (k, rlV ρ v) else p) ∘ fun x => (x.1, rlV ρ x.2)) := by
      refine List.map_congr_left fun x _ => ?_
      simp only [Function.comp]
      by_cases hx : x.1 = k
      · rw [hF1 x hx, if_pos hx]
      · rw [hF2 x hx, if_neg hx]
    rw [e1, e2]; exact this
theorem Ents.push {ρ : Env} {t : XE} {es : List (Value × Value)} {E : List MapEntry} {k v : Value} {b : Nat} (h : Ents ρ t es E) (hk : keyX t k k = some true) (hp : plainV k = true) (hno : ∀ e ∈ es, e.1 ≠ k) :
    Ents ρ t (es ++ [(k, v)]) (E ++ [{ key := k, val := rlV ρ v, born := b }]) := by
  refine ⟨?_, ?_, ?_⟩
  · intro x hx
    rcases List.mem_append.1 hx with hx | hx
    · exact h.1 x hx
    · simp only [List.mem_singleton] at hx
      subst hx; exact ⟨hp, hk⟩
  · rw [List.map_append, List.nodup_append]
    refine ⟨h.2.1, by simp, ?_⟩
    intro a ha b hb
    simp only [List.map_cons, List.map_nil, List.mem_singleton] at hb
    subst hb
    obtain ⟨x, hx, rfl⟩ := List.mem_map.1 ha
    exact hno x hx
  · rw [List.map_append, List.map_append]
    exact h.2.2.append (.refl _)
theorem sound_update (T : TabOK P G) {t : TypeId} {m k x : Operand} {kt et : TypeId} (ho : o.op = .mapUpdate t m k x ∨ o.op = .insert t m k x) (hm : plainX N m = true) (hk : plainX N k = true) (hx : plainX N x = true) (hd : und G t = some (.map kt et))
    (hr : oUpdate (xkey G kt) (xo m) (xo k) (xo x) tm h n = .val v h' n') : OpSim P G B0 N o tm h n a w v h' n' := by
  unfold oUpdate at hr
  rw [evK_eq, evK_eq, evK_eq] at hr
  obtain ⟨hkk, hp, hr⟩ := keyOk_elim hr nofun
  rcases mapK_elim hr nofun with ⟨h1, h2⟩ | ⟨b, es, h1, h2, h3⟩
  · cases h2
  · replace h3 : findX es (xkey G kt) (evX tm (xo k)) 0 (OR.fail "update: key") (appK es [(evX tm (xo k), evX tm (xo x))] fun es => h.set b (.map (xkey G kt) es) fun h => .val undefV h n)
        (fun i _ => modK es i (evX tm (xo k)) (evX tm (xo x)) fun es => h.set b (.map (xkey G kt) es) fun h => .val undefV h n) = .val v h' n' := h3
    have hlive : Live h b := by unfold Live; rw [h2]; simp
    -- the machine's new entries
    have key : ∃ es', h' = h.setO b (.map (xkey G kt) es') ∧ v = undefV ∧ n' = n ∧ ((∀ e ∈ es, e.1 ≠ evX tm (xo k)) ∧ es' = es ++ [(evX tm (xo k), evX tm (xo x))] ∨
        ∃ j v0, es[j]? = some (evX tm (xo k), v0) ∧ es' = es.modify j fun _ => (evX tm (xo k), evX tm (xo x))) := by
      rcases findX_elim h3 nofun with ⟨hno, h4⟩ | ⟨j, v0, hj, h4⟩
      · rw [appK_eq, TH.set_eq] at h4
        cases h4
        exact ⟨_, rfl, rfl, rfl, .inl ⟨hno, rfl⟩⟩
      · rw [modK_eq, TH.set_eq] at h4
        cases h4
        exact ⟨_, rfl, rfl, rfl, .inr ⟨j, v0, hj, by simp⟩⟩
    obtain ⟨es', rfl, rfl, rfl, hcase⟩ := key
    refine ⟨Nat.le_refl _, Nat.le_succ _, 0, 0, 0, fun ρ hA hW _ => ?_⟩
    obtain ⟨E, cl, hE, hEn, hBn⟩ := map_at hW h2
    have em := plainX_ev hA hm
    rw [h1] at em
    simp only [rlV, Option.map_some, rlB_own] at em
    have ek := plainX_ev hA hk
    rw [rlV_plain ρ _ hp] at ek
    have ex := plainX_ev hA hx
    obtain ⟨r, hrun, hF⟩ := findKey_found (w := w) T rfl hkk hEn.keys
    have hck := checkKey_run (w := w) T rfl hkk false 9998
    simp only [Nat.reduceAdd] at hck
    -- what the model lays
    have hmodel : ∃ E' cl', (Instr.mapUpdate t (.map (some (ρ.loc b))) (evX tm (xo k)) (rlV ρ (evX tm (xo x)))).run P w = .ok () { w with heap := w.heap.setIfInBounds (ρ.loc b) (.map E' cl') } ∧ Ents ρ (xkey G kt) es' E'.toList ∧ Born E'.toList cl' := by
      rcases hcase with ⟨hno, rfl⟩ | ⟨j, v0, hj, rfl⟩
      · have := hEn.miss hno hF
        subst this
        refine ⟨E.push { key := evX tm (xo k), val := rlV ρ (evX tm (xo x)), born := cl }, cl + 1, ?_, ?_⟩
        · simp only [Instr.mapUpdate, Sem.run_bind, T.run_und hd, Result.andThen, MapKept.run_getObj_map hE, hck, hrun, MapKept.run_setObj_map _ hE]
        · rw [Array.toList_push]
          exact ⟨hEn.push hkk hp hno, hBn.push _ _⟩
      · obtain ⟨j2, e, rfl, he1, he2, he3⟩ := hEn.hit (List.mem_of_getElem? hj) hF
        refine ⟨E.modify j2 fun e => { e with key := evX tm (xo k), val := rlV ρ (evX tm (xo x)) }, cl, ?_, ?_⟩
        · have he1' : E[j2]? = some e := by simpa using he1
          have hb2 := keyX_bits hkk 9999
          simp only [Nat.reduceAdd] at hb2
          simp only [Instr.mapUpdate, Sem.run_bind, T.run_und hd, Result.andThen, MapKept.run_getObj_map hE, hck, hrun, he1', Option.map_some, Option.getD_some, he2, Instr.keyThatStays, hb2, if_true, Sem.run_pure, MapKept.run_setObj_map _ hE]
        · rw [Array.toList_modify]
          exact ⟨hEn.set hj he1 he2, hBn.modify _ _ _⟩
    obtain ⟨E', cl', hrun', hE', hB'⟩ := hmodel
    have hlt := hW.lt_size hlive
    obtain ⟨hW', hK'⟩ := hW.turn hlive (o := .map (xkey G kt) es') (by simp) (w' := { w with heap := w.heap.setIfInBounds (ρ.loc b) (.map E' cl') }) (p := .map E' cl') (by simp) (by simp [hlt])
      ⟨E', cl', rfl, hB', hE'.1, hE'.2.1, hE'.2.2⟩ (fun c hc => by simp [Array.getElem?_setIfInBounds_ne (Ne.symm hc)]) rfl rfl rfl
    refine ⟨.skip, _, ?_, .inr ⟨rfl, by simp [undefV_eq]; rfl⟩, hW', hK'⟩
    unfold execOp
    rcases ho with ho | ho <;> simp only [ho, em, ek, ex, Sem.run_bind, hrun', Result.andThen, Sem.run_pure]
end
end Go.Clo
namespace Go.Clo

theorem baseX_move {t : XE} {x y : Value} {b : Bool} (h : baseX t x y = some b) (ρ : Env) : rlV ρ x = x ∧ rlV ρ y = y := by
  rcases (baseX_elim h).2 with ⟨k, p, q, _, rfl, rfl⟩ | ⟨p, q, _, rfl, rfl⟩ | ⟨p, q, _, rfl, rfl⟩ <;> exact ⟨rfl, rfl⟩
theorem sameAddr_run {P : Program} {w : World} (b o p : Nat) : (sameAddr ⟨b, o, none⟩ ⟨b, p, none⟩).run P w = .ok (Nat.beq o p) w := by
  have : (Addr.mk b o none == Addr.mk b p none) = Nat.beq o p := by
    rw [Bool.eq_iff_iff]
    simp
  simp [sameAddr, this]
section
variable {P : Program} {G : Tab} {w : World}
theorem structM_run (T : TabOK P G) (ρ : Env) : ∀ (fs : List Field) (i : Nat) (xs ys : List Value) (b : Bool), structX (xfields G fs i) (xs.drop i) (ys.drop i) = some b → ∀ d, (Op.eqFields (d + 1) ⟨xs.map (rlV ρ)⟩ ⟨ys.map (rlV ρ)⟩ fs).run P w = .ok b w
  | [], i, xs, ys, b, h, d => by
    obtain ⟨_, _, rfl⟩ := structX_nil h
    simp [Op.eqFields]
  | f :: fs, i, xs, ys, b, h, d => by
    simp only [xfields] at h
    obtain ⟨x, xs', y, ys', c, hxs, hys, hc, h2⟩ := structX_cons h
    have hx : xs[i]? = some x := by have := congrArg (fun l => l[0]?) hxs; simpa using this
    have hy : ys[i]? = some y := by have := congrArg (fun l => l[0]?) hys; simpa using this
    have hx' : xs.drop (i + 1) = xs' := by rw [← List.drop_drop, hxs]; rfl
    have hy' : ys.drop (i + 1) = ys' := by rw [← List.drop_drop, hys]; rfl
    cases ho : Nat.beq f.offset i with
    | false => simp only [ho, cond_false] at hc; cases hc
    | true =>
      cases hn : (f.name == "_") with
      | true => simp only [ho, hn, cond_true] at hc; cases hc
      | false =>
        simp only [ho, hn, cond_true, cond_false] at hc
        have ho := Nat.eq_of_beq_eq_true ho
        obtain ⟨⟨dd, hu, hag, _⟩, hrun⟩ := xbase_run (w := w) T rfl hc
        have hne : f.name ≠ "_" := by simpa using hn
        have hm := baseX_move hc ρ
        have hxm : (xs.map (rlV ρ))[i]? = some x := by rw [List.getElem?_map, hx]; simp [hm.1]
        have hym : (ys.map (rlV ρ))[i]? = some y := by rw [List.getElem?_map, hy]; simp [hm.2]
        simp only [Op.eqFields, if_pos hne, Sem.run_bind, ho, part_one T hu hag hxm, part_one T hu hag hym, Result.andThen, hrun d]
        cases c with
        | true =>
          simp only [Bool.not_true, Bool.false_eq_true, if_false]
          refine structM_run T ρ fs (i + 1) xs ys b ?_ d
          rw [hx', hy']; simpa using h2
        | false =>
          simp at h2
          simp [← h2]
/-- two values held against each other; that the guard lets them by -/
theorem eqX_run (T : TabOK P G) {t : TypeId} {te : XE} (ht : xeq G t = te) {x y : Value} {b : Bool} (h : eqX te x y = some b) (ρ : Env) :
    (Op.equal t (rlV ρ x) (rlV ρ y)).run P w = .ok b w ∧ ∀ op X Y, (eqGuard op t X Y (rlV ρ x) (rlV ρ y)).run P w = .ok () w := by
  have base : ∀ {tb : XE}, xbase G t = tb → baseX tb x y = some b → (Op.equalIn 10000 t (rlV ρ x) (rlV ρ y)).run P w = .ok b w ∧ ∀ op X Y, (eqGuard op t X Y (rlV ρ x) (rlV ρ y)).run P w = .ok () w := by
    intro tb htb hb
    obtain ⟨h1, h2⟩ := baseX_move hb ρ
    rw [h1, h2]
    refine ⟨(xbase_run (w := w) T htb hb).2 9999, fun op X Y => ?_⟩
    rcases (baseX_elim hb).2 with ⟨k, p, q, _, rfl, rfl⟩ | ⟨p, q, _, rfl, rfl⟩ | ⟨p, q, _, rfl, rfl⟩ <;> cases op <;> simp [eqGuard]
  obtain ⟨dd, hdd⟩ : ∃ d, (10000 : Nat) = d + 2 := ⟨9998, rfl⟩
  unfold xeq at ht
  unfold Op.equal Op.maxDepth
  rw [hdd] at base ⊢
  split at ht
  · rename_i k hu
    subst ht
    exact base (tb := .int k) (by simp [xbase, hu]) h
  · rename_i hu
    subst ht
    exact base (tb := .str) (by simp [xbase, hu]) h
  · rename_i hu
    subst ht
    exact base (tb := .bool) (by simp [xbase, hu]) h
  · rename_i e hu
    split at ht
    · rename_i s hs
      subst ht
      obtain ⟨i, hi, his⟩ := T.size hs
      have hsz : (sizeOf e).run P w = .ok (s + 1) w := T.run_size hs w
      replace h : ptrX x y = some b := h
      unfold ptrX at h
      split at h
      · simp only [Option.some.injEq] at h; subst h
        refine ⟨by unfold Op.equalIn; simp only [Sem.run_bind, T.run_und hu, rlV, Option.map_none, Result.andThen, Sem.run_pure, Option.isNone_none], fun op X Y => by cases op <;> simp [eqGuard, rlV]⟩
      · simp only [Option.some.injEq] at h; subst h
        refine ⟨by unfold Op.equalIn; simp only [Sem.run_bind, T.run_und hu, rlV, Option.map_none, Option.map_some, Result.andThen, Sem.run_pure, Option.isNone_some], fun op X Y => by cases op <;> simp [eqGuard, rlV]⟩
      · simp only [Option.some.injEq] at h; subst h
        refine ⟨by unfold Op.equalIn; simp only [Sem.run_bind, T.run_und hu, rlV, Option.map_none, Option.map_some, Result.andThen, Sem.run_pure], fun op X Y => by cases op <;> simp [eqGuard, rlV]⟩
      · rename_i a o b' p
        cases hab : Nat.beq a b' with
        | false => simp only [hab, cond_false] at h; cases h
        | true =>
          simp only [hab, cond_true, Option.some.injEq] at h
          have hab := Nat.eq_of_beq_eq_true hab
          subst hab h
          refine ⟨by unfold Op.equalIn; simp only [Sem.run_bind, T.run_und hu, rlV, Option.map_some, Result.andThen, hsz, ne_eq, Nat.add_eq_zero_iff, Nat.one_ne_zero, and_false, not_false_eq_true, if_true, rlA, sameAddr_run], fun op X Y => by cases op <;> simp [eqGuard, rlV]⟩
      · cases h
    · subst ht; cases h
  · rename_i hu
    subst ht
    replace h : nilSX x y = some b := h
    unfold nilSX at h
    split at h
    · simp only [Option.some.injEq] at h; subst h
      refine ⟨by unfold Op.equalIn; simp only [Sem.run_bind, T.run_und hu, rlV, Option.map_none, Result.andThen, Sem.run_pure, Option.isNone_none], fun op X Y => by cases op <;> simp [eqGuard, rlV]⟩
    · simp only [Option.some.injEq] at h; subst h
      refine ⟨by unfold Op.equalIn; simp only [Sem.run_bind, T.run_und hu, rlV, Option.map_none, Option.map_some, Result.andThen, Sem.run_pure, Option.isNone_some], fun op X Y => by cases op <;> simp [eqGuard, rlV]⟩
    · simp only [Option.some.injEq] at h; subst h
      refine ⟨by unfold Op.equalIn; simp only [Sem.run_bind, T.run_und hu, rlV, Option.map_none, Option.map_some, Result.andThen, Sem.run_pure], fun op X Y => by cases op <;> simp [eqGuard, rlV]⟩
    · cases h
  · rename_i hu
    subst ht
    replace h : nilMX x y = some b := h
    unfold nilMX at h
    split at h
    · simp only [Option.some.injEq] at h; subst h
      refine ⟨by unfold Op.equalIn; simp only [Sem.run_bind, T.run_und hu, rlV, Option.map_none, Result.andThen, Sem.run_pure, Option.isNone_none], fun op X Y => by cases op <;> simp [eqGuard, rlV]⟩
    · simp only [Option.some.injEq] at h; subst h
      refine ⟨by unfold Op.equalIn; simp only [Sem.run_bind, T.run_und hu, rlV, Option.map_none, Option.map_some, Result.andThen, Sem.run_pure, Option.isNone_some], fun op X Y => by cases op <;> simp [eqGuard, rlV]⟩
    · simp only [Option.some.injEq] at h; subst h
      refine ⟨by unfold Op.equalIn; simp only [Sem.run_bind, T.run_und hu, rlV, Option.map_none, Option.map_some, Result.andThen, Sem.run_pure], fun op X Y => by cases op <;> simp [eqGuard, rlV]⟩
    · cases h
  · rename_i hu
    subst ht
    replace h : nilFX x y = some b := h
    unfold nilFX at h
    split at h
    · simp only [Option.some.injEq] at h; subst h
      refine ⟨by unfold Op.equalIn; simp only [Sem.run_bind, T.run_und hu, rlV, Result.andThen, Sem.run_pure], fun op X Y => by cases op <;> simp [eqGuard, rlV]⟩
    · simp only [Option.some.injEq] at h; subst h
      refine ⟨by unfold Op.equalIn; simp only [Sem.run_bind, T.run_und hu, rlV, Result.andThen, Sem.run_pure], fun op X Y => by cases op <;> simp [eqGuard, rlV]⟩
    · simp only [Option.some.injEq] at h; subst h
      refine ⟨by unfold Op.equalIn; simp only [Sem.run_bind, T.run_und hu, rlV, Result.andThen, Sem.run_pure], fun op X Y => by cases op <;> simp [eqGuard, rlV]⟩
    · cases h
  · rename_i ms hu
    cases hm : ms.isEmpty with
    | false => simp only [hm, cond_false] at ht; subst ht; cases h
    | true =>
      simp only [hm, cond_true] at ht
      subst ht
      replace h : ifaceX x y = some b := h
      unfold ifaceX at h
      split at h
      · simp only [Option.some.injEq] at h; subst h
        refine ⟨by unfold Op.equalIn; simp only [Sem.run_bind, T.run_und hu, rlV, Result.andThen, Sem.run_pure], fun op X Y => ?_⟩
        have : (Op.eqGuardIn Op.maxDepth t .nilIface .nilIface).run P w = .ok false w := by
          unfold Op.maxDepth
          rw [hdd]
          simp [Op.eqGuardIn, T.run_und hu, hm]
        cases op <;> simp [eqGuard, rlV]
        all_goals (split <;> simp [this])
      · simp only [Option.some.injEq] at h; subst h
        refine ⟨by unfold Op.equalIn; simp only [Sem.run_bind, T.run_und hu, rlV, Result.andThen, Sem.run_pure], fun op X Y => by cases op <;> simp [eqGuard, rlV]⟩
      · simp only [Option.some.injEq] at h; subst h
        refine ⟨by unfold Op.equalIn; simp only [Sem.run_bind, T.run_und hu, rlV, Result.andThen, Sem.run_pure], fun op X Y => by cases op <;> simp [eqGuard, rlV]⟩
      · cases h
  · rename_i fs hu
    cases hm : memN G.eqs t with
    | false => simp only [hm, cond_false] at ht; subst ht; cases h
    | true =>
      simp only [hm, cond_true] at ht
      subst ht
      replace h : aggV x none (fun xs => aggV y none fun ys => structX (xfields G fs.toList 0) xs ys) = some b := h
      obtain ⟨xs, hxq, h⟩ := aggV_elim h nofun
      obtain ⟨ys, hyq, h⟩ := aggV_elim h nofun
      rw [hxq, hyq]
      have hf := fieldsOf_und T hu
      simp only [rlV, rlR_mk]
      refine ⟨?_, fun op X Y => run_eqGuard_agg w op t X Y _ _ (T.eqs t hm).1⟩
      rw [run_equalIn_struct w (dd + 1) t _ _ (by rw [hf]; exact T.und hu) (T.eqs t hm).2, hf]
      exact structM_run T ρ fs.toList 0 xs ys b (by simpa using h) dd
  · subst ht; cases h
end
section
variable {P : Program} {G : Tab} {B0 N : Nat} {o : Oper} {tm : TV} {h : TH} {n : Nat} {a : Array Value} {w : World} {v : Value} {h' : TH} {n' : Nat} {ρ : Env}
theorem bInt_run {op : BinOp} {k : IntKind} {x y : Int} {t : TypeId} {u : Value} {h1 : TH} {n1 : Nat} (hr : bInt op k x y (.fail "binop") (fun v => .val v h n) = .val u h1 n1) :
    h1 = h ∧ n1 = n ∧ rlV ρ u = u ∧ (binOp op t (.int k x) (.int k y)).run P w = .ok u w := by
  cases op <;> simp only [bInt] at hr
  case add => rw [forceInt_eq] at hr; cases hr; exact ⟨rfl, rfl, rfl, by simp [binOp, Op.intArith, wrapK_eq, iadd_eq]⟩
  case sub => rw [forceInt_eq] at hr; cases hr; exact ⟨rfl, rfl, rfl, by simp [binOp, Op.intArith, wrapK_eq, isub_eq]⟩
  case mul => rw [forceInt_eq] at hr; cases hr; exact ⟨rfl, rfl, rfl, by simp [binOp, Op.intArith, wrapK_eq]⟩
  case quo =>
    obtain ⟨h0, hr⟩ := ifB_elim' hr nofun
    rw [forceInt_eq] at hr; cases hr
    rw [ieq_eq] at h0
    have h0 : y ≠ 0 := by simpa using h0
    exact ⟨rfl, rfl, rfl, by simp [binOp, Op.intDiv, h0]⟩
  all_goals first
    | (cases hr; done)
    | (rw [ifB_eq] at hr
       simp only [ieq_eq, ilt_eq] at hr
       split at hr <;> rename_i hq <;> cases hr <;> refine ⟨rfl, rfl, rfl, ?_⟩ <;> simp [binOp, Op.intCmp] <;> simp at hq <;> first | exact hq | omega)
theorem bStr_run {op : BinOp} {x y : List UInt8} {t : TypeId} {u : Value} {h1 : TH} {n1 : Nat} (hr : bStr op x y (.fail "binop") (fun v => .val v h n) = .val u h1 n1) :
    h1 = h ∧ n1 = n ∧ rlV ρ u = u ∧ (binOp op t (.string ⟨⟨x⟩⟩) (.string ⟨⟨y⟩⟩)).run P w = .ok u w := by
  have e : ∀ z : List UInt8, (⟨⟨z⟩⟩ : ByteArray).toList = z := fun z => by rw [ByteArray.toList_eq]
  cases op <;> simp only [bStr] at hr
  case add =>
    rw [appK_eq] at hr
    obtain ⟨h0, hr⟩ := ifB_elim hr nofun
    cases hr
    have h0 := Nat.le_of_ble_eq_true h0
    rw [lenOf_eq, List.length_append] at h0
    refine ⟨rfl, rfl, rfl, ?_⟩
    have hs : ∀ z : List UInt8, (⟨⟨z⟩⟩ : ByteArray).size = z.length := fun z => rfl
    have hlt : ¬ (((⟨⟨x⟩⟩ : ByteArray).size + (⟨⟨y⟩⟩ : ByteArray).size : Nat) : Int) > IntKind.i64.max := by
      rw [hs, hs]
      have : IntKind.i64.max = 9223372036854775807 := by decide
      omega
    have happ : (⟨⟨x⟩⟩ : ByteArray) ++ ⟨⟨y⟩⟩ = ⟨⟨x ++ y⟩⟩ := by
      apply ByteArray.ext
      rw [ByteArray.data_append]
      simp
    simp only [binOp, Op.stringOp, if_neg hlt, Sem.run_pure, happ]
  all_goals first
    | (cases hr; done)
    | (rw [ifB_eq] at hr
       simp only [eqBytes_eq] at hr
       split at hr <;> rename_i hq <;> cases hr <;> refine ⟨rfl, rfl, rfl, ?_⟩ <;> simp [binOp, Op.stringOp, e] <;> simpa using hq)
theorem bEq_elim {op : BinOp} {r : Option Bool} {no out : OR} {κ : Value → OR} (h : bEq op r no κ = out) (hn : no ≠ out) : ∃ b, r = some b ∧ ((op = .eql ∧ κ (.bool b) = out) ∨ (op = .neq ∧ κ (.bool (!b)) = out)) := by
  cases op <;> simp only [bEq] at h <;> first | exact absurd h hn | skip
  · cases r with
    | none => exact absurd h hn
    | some b =>
      refine ⟨b, rfl, .inl ⟨rfl, ?_⟩⟩
      replace h : ifB b (κ (.bool true)) (κ (.bool false)) = out := h
      cases b <;> exact h
  · cases r with
    | none => exact absurd h hn
    | some b =>
      refine ⟨b, rfl, .inr ⟨rfl, ?_⟩⟩
      replace h : ifB b (κ (.bool false)) (κ (.bool true)) = out := h
      cases b <;> exact h
theorem binX_cases (x : Value) (op : BinOp) (t : XE) (y : Value) (no : OR) (κ : Value → OR) (out : OR) (h : binX x op t y no κ = out) (hn : no ≠ out) :
    (∃ k p q, x = .int k p ∧ y = .int k q ∧ bInt op k p q no κ = out) ∨ (∃ p q, x = .string ⟨⟨p⟩⟩ ∧ y = .string ⟨⟨q⟩⟩ ∧ bStr op p q no κ = out) ∨
    ((∀ k p, x ≠ .int k p) ∧ (∀ p, x ≠ .string p) ∧ (∀ k p, x ≠ .float k p) ∧ (∀ k p q, x ≠ .complex k p q) ∧ bEq op (eqX t x y) no κ = out) := by
  cases x with
  | int k p =>
    obtain ⟨j, q, hy, h2⟩ := intV_elim h hn
    obtain ⟨hk, h3⟩ := ifB_elim h2 hn
    have hk := kindNo_inj (Nat.eq_of_beq_eq_true hk)
    exact .inl ⟨k, p, q, rfl, by rw [hy, hk], h3⟩
  | string s =>
    obtain ⟨⟨s⟩⟩ := s
    obtain ⟨q, hy, h2⟩ := strV_elim h hn
    exact .inr (.inl ⟨s, q, rfl, hy, h2⟩)
  | float k p => exact absurd h hn
  | complex k p q => exact absurd h hn
  | _ => exact .inr (.inr ⟨nofun, nofun, nofun, nofun, h⟩)
theorem binOp_eq (op : BinOp) (t : TypeId) (x y : Value) (h1 : ∀ k p, x ≠ .int k p) (h2 : ∀ p, x ≠ .string p) (h3 : ∀ k p, x ≠ .float k p) (h4 : ∀ k p q, x ≠ .complex k p q) :
    (op = .eql → binOp op t x y = (do pure (.bool (← Op.equal t x y)))) ∧ (op = .neq → binOp op t x y = (do pure (.bool (!(← Op.equal t x y))))) := by
  constructor <;> intro hop <;> subst hop <;> cases x <;> first | exact absurd rfl (h1 _ _) | exact absurd rfl (h2 _) | exact absurd rfl (h3 _ _) | exact absurd rfl (h4 _ _ _) | (cases y <;> rfl)
theorem guard_int {X Y : Operand} {op : BinOp} {t : TypeId} {k : IntKind} {p : Int} {y : Value} : (eqGuard op t X Y (.int k p) y).run P w = .ok () w := by cases op <;> simp [eqGuard]
theorem guard_str {X Y : Operand} {op : BinOp} {t : TypeId} {p : ByteArray} {y : Value} : (eqGuard op t X Y (.string p) y).run P w = .ok () w := by cases op <;> simp [eqGuard]
theorem sound_bin (T : TabOK P G) {op : BinOp} {t yt : TypeId} {x y : Operand} (ho : o.op = .binOp op t x y yt) (hx : plainX N x = true) (hy : plainX N y = true)
    (hr : oBin op (match op with | .eql => xeq G t | .neq => xeq G t | _ => .bad) (xo x) (xo y) tm h n = .val v h' n') : OpSim P G B0 N o tm h n a w v h' n' := by
  unfold oBin at hr
  rw [evK_eq, evK_eq] at hr
  rcases binX_cases _ _ _ _ _ _ _ hr nofun with ⟨k, p, q, hxv, hyv, hb⟩ | ⟨p, q, hxv, hyv, hb⟩ | ⟨h1, h2, h3, h4, hb⟩
  · obtain ⟨rfl, rfl, _⟩ := bInt_run (P := P) (w := w) (ρ := ⟨fun _ => 0, fun _ => 0, fun _ => 0⟩) (t := t) hb
    refine .pure fun ρ hA hW => ?_
    have ex := plainX_ev hA hx
    have ey := plainX_ev hA hy
    rw [hxv] at ex; rw [hyv] at ey
    simp only [rlV] at ex ey
    obtain ⟨_, _, hu, hrun⟩ := bInt_run (P := P) (w := w) (ρ := ρ) (t := t) hb
    rw [hu]
    unfold execOp
    simp [ho, ex, ey, guard_int, hrun]
  · obtain ⟨rfl, rfl, _⟩ := bStr_run (P := P) (w := w) (ρ := ⟨fun _ => 0, fun _ => 0, fun _ => 0⟩) (t := t) hb
    refine .pure fun ρ hA hW => ?_
    have ex := plainX_ev hA hx
    have ey := plainX_ev hA hy
    rw [hxv] at ex; rw [hyv] at ey
    simp only [rlV] at ex ey
    obtain ⟨_, _, hu, hrun⟩ := bStr_run (P := P) (w := w) (ρ := ρ) (t := t) hb
    rw [hu]
    unfold execOp
    simp [ho, ex, ey, guard_str, hrun]
  · obtain ⟨b, hbb, hcase⟩ := bEq_elim hb nofun
    have shape : ∀ ρ : Env, (∀ k p, rlV ρ (evX tm (xo x)) ≠ .int k p) ∧ (∀ p, rlV ρ (evX tm (xo x)) ≠ .string p) ∧ (∀ k p, rlV ρ (evX tm (xo x)) ≠ .float k p) ∧ (∀ k p q, rlV ρ (evX tm (xo x)) ≠ .complex k p q) := by
      intro ρ
      generalize evX tm (xo x) = X at h1 h2 h3 h4
      cases X <;> simp_all [rlV]
    rcases hcase with ⟨rfl, hk⟩ | ⟨rfl, hk⟩
    · cases hk
      refine .pure fun ρ hA hW => ?_
      have ex := plainX_ev hA hx
      have ey := plainX_ev hA hy
      obtain ⟨hrun, hg⟩ := eqX_run (P := P) (w := w) T rfl hbb ρ
      obtain ⟨s1, s2, s3, s4⟩ := shape ρ
      unfold execOp
      simp [ho, ex, ey, hg, (binOp_eq .eql t _ (rlV ρ (evX tm (xo y))) s1 s2 s3 s4).1 rfl, hrun, rlV]
    · cases hk
      refine .pure fun ρ hA hW => ?_
      have ex := plainX_ev hA hx
      have ey := plainX_ev hA hy
      obtain ⟨hrun, hg⟩ := eqX_run (P := P) (w := w) T rfl hbb ρ
      obtain ⟨s1, s2, s3, s4⟩ := shape ρ
      unfold execOp
      simp [ho, ex, ey, hg, (binOp_eq .neq t _ (rlV ρ (evX tm (xo y))) s1 s2 s3 s4).2 rfl, hrun, rlV]
end
end Go.Clo
namespace Go.Clo

/-- what is appended: so many elements, these cells -/
inductive Src (P : Program) (w : World) (t2 : TypeId) (x : Value) (size : Nat) (z : Value) (m : Nat) (new : List Value) : Prop where
  | cells (d : TypeDesc) (hd : P.underlying t2 = some d) (hni : (∃ e2, d = .slice e2) ∨ d = .string) (hl : (Builtin.lenOf x).run P w = .ok m w)
      (hf : ∀ w1 : World, w1.heap = w.heap → (Builtin.firstCells size m x).run P w1 = .ok ⟨new⟩ w1)
  | zeros (kn kq : IntKind) (hd : P.underlying t2 = some (.int kn)) (hx : x = .int kq (m : Int)) (hn : new = reps z.cells.toList m) (h0 : m = 0 ∨ 0 < size)
section
variable {P : Program} {w : World} {t t2 ty e : TypeId} {i : TypeInfo} {z : Value} {x : Value} {m : Nat} {new : List Value}
theorem append_fits (ht : P.underlying t = some (.slice e)) (hi : P.info? e = some i) (hz : i.zero = some z) (hb : i.bytes ≤ 4096) (S : Src P w t2 x i.size z m new) {base : Option Addr} {sLen sCap : Nat} (hc : sLen + m ≤ sCap) (hsm : m ≤ 1000000) :
    (Builtin.append_ #[t, t2] ty #[.slice base sLen sCap, x]).run P w = (match base with
      | some a => ((storeCells (a.add (sLen * i.size)) new).run P w).andThen fun _ w' => .ok (.slice base (sLen + m) sCap) w'
      | none => .ok (.slice base (sLen + m) sCap) w) := by
  cases S with
  | cells d hd hni hl hf =>
    have hf := hf w rfl
    rcases hni with ⟨e2, rfl⟩ | rfl <;> cases base <;> simp [Builtin.append_, run_underlying ht, run_underlying hd, sizeOf, typeInfo, hi, hl, hc, hf]
  | zeros kn kq hd hx hn h0 =>
    subst hx
    have hw : IntKind.i64.wrap (m : Int) = m := by rw [IntKind.wrap_i64]; omega
    have hneg : ¬ ((m : Int) < 0) := by omega
    have h48i : ¬ (281474976710656 < (m : Int) * (i.bytes : Int)) := by
      have : m * i.bytes ≤ 1000000 * 4096 := Nat.mul_le_mul hsm hb
      rw [← Int.natCast_mul]
      omega
    by_cases hm : m = 0
    · subst hm
      subst hn
      have hw0 : IntKind.i64.wrap 0 = 0 := by rw [IntKind.wrap_i64]; decide
      have hc0 : sLen ≤ sCap := hc
      cases base <;> simp [Builtin.append_, run_underlying ht, run_underlying hd, sizeOf, typeInfo, zeroValue, hi, hz, asInt, asIntOf, hw0, hc0, reps]
    · have h0 : 0 < i.size := h0.resolve_left hm
      have hns : ¬ (m * i.size = 0) := Nat.mul_ne_zero hm (by omega)
      subst hn
      cases base <;> simp [Builtin.append_, run_underlying ht, run_underlying hd, sizeOf, typeInfo, zeroValue, hi, hz, asInt, asIntOf, hw, hneg, h48i, hc, hns, zeroCells_reps]
theorem append_grows (ht : P.underlying t = some (.slice e)) (hi : P.info? e = some i) (hz : i.zero = some z) (hb : i.bytes ≤ 4096) (S : Src P w t2 x i.size z m new) {base : Option Addr} {sLen sCap : Nat} (hm : m ≠ 0) (hc : sCap < sLen + m) (hsm : sLen + m ≤ 1000000)
    {olds : List Value} (ho : ∀ w1 : World, w1.heap = w.heap → (Builtin.firstCells i.size sLen (.slice base sLen sCap)).run P w1 = .ok ⟨olds⟩ w1) :
    (Builtin.append_ #[t, t2] ty #[.slice base sLen sCap, x]).run P w =
      .ok (.slice (some ⟨w.heap.size, 0, none⟩) (sLen + m) (grownCap w (sLen + m) sCap e))
        (w.drew.alloc (.cells ⟨olds ++ new ++ reps z.cells.toList (grownCap w (sLen + m) sCap e - (sLen + m))⟩ e)) := by
  have hn : ¬ (sLen + m ≤ sCap) := by omega
  have h63' : ¬ (9223372036854775807 < ((sLen : Int) + (m : Int))) := by omega
  have hfit : Builtin.nextslicecap (sLen + m) sCap * i.bytes ≤ 281474976710656 := by
    refine growslice_fits hc ?_
    have : (sLen + m) * i.bytes ≤ 1000000 * 4096 := Nat.mul_le_mul hsm hb
    omega
  have h48' : ¬ (281474976710656 < Builtin.nextslicecap (sLen + m) sCap * i.bytes) := by omega
  have hfo := ho w.drew rfl
  cases S with
  | cells d hd hni hl hf =>
    have hf := hf w.drew rfl
    rcases hni with ⟨e2, rfl⟩ | rfl
    all_goals simp [Builtin.append_, run_underlying ht, run_underlying hd, sizeOf, typeInfo, zeroValue, hi, hz, hl, hn, h63', h48', Question.forced, hf, hfo, newRow, grownCap, zeroCells_reps]
  | zeros kn kq hd hx hn2 h0 =>
    subst hx
    have hw : IntKind.i64.wrap (m : Int) = m := by rw [IntKind.wrap_i64]; omega
    have hneg : ¬ ((m : Int) < 0) := by omega
    have h48i : ¬ (281474976710656 < (m : Int) * (i.bytes : Int)) := by
      have : m * i.bytes ≤ 1000000 * 4096 := Nat.mul_le_mul (by omega) hb
      rw [← Int.natCast_mul]
      omega
    have h0 : 0 < i.size := h0.resolve_left hm
    have hns : ¬ (m * i.size = 0) := Nat.mul_ne_zero hm (by omega)
    subst hn2
    simp [Builtin.append_, run_underlying ht, run_underlying hd, sizeOf, typeInfo, zeroValue, hi, hz, asInt, asIntOf, hw, hn, hneg, hns, h63', h48', h48i, Question.forced, hfo, newRow, grownCap, zeroCells_reps]
end
end Go.Clo
namespace Go.Clo

section
variable {P : Program} {G : Tab} {B0 N : Nat} {o : Oper} {tm : TV} {h : TH} {n : Nat} {a : Array Value} {w : World} {v : Value} {h' : TH} {n' : Nat} {ρ : Env}

/-- a block renumbered and turned -/
theorem WEq.move (hW : WEq ρ G B0 h n w) {k : Nat} (hk : Live h k) {o : AO} {w' : World} {p : Obj} (hloc : ρ.loc n = ρ.loc k) (hs : w'.heap.size = w.heap.size)
    (hp : w'.heap[ρ.loc k]? = some p) (hO : ObjEq ρ G n o p) (hrest : ∀ b, b ≠ ρ.loc k → w'.heap[b]? = w.heap[b]?) (hos : w'.os = w.os) (hout : w'.output = w.output) (htape : w'.tape = w.tape) :
    WEq ρ G B0 ((h.setO k .gone).setO n o) (n + 1) w' ∧ KeepEq ρ h ((h.setO k .gone).setO n o) w w' := by
  have hkn : k < n := hW.lt k hk
  have hl : ∀ j, Live ((h.setO k .gone).setO n o) j → j = n ∨ (j ≠ n ∧ j ≠ k ∧ Live h j) := by
    intro j hj
    by_cases e : j = n
    · exact .inl e
    · unfold Live at hj
      rw [TH.getO_setO_ne _ _ e] at hj
      by_cases e2 : j = k
      · subst e2; rw [TH.getO_setO_self] at hj; exact absurd rfl hj
      · rw [TH.getO_setO_ne _ _ e2] at hj; exact .inr ⟨e, e2, hj⟩
  refine ⟨⟨fun j hj => ?_, fun j hj => ?_, fun j hj => ?_, fun i j hi hj e => ?_⟩, ⟨by omega, hos, hout, htape, fun b hb hne => ⟨hrest b fun e => hne k hk e.symm, fun j hj => ?_⟩⟩⟩
  · rcases hl j hj with rfl | ⟨_, _, h1⟩
    · omega
    · have := hW.lt j h1; omega
  · rcases hl j hj with rfl | ⟨_, _, h1⟩
    · rw [hloc]; exact hW.base k hk
    · exact hW.base j h1
  · rcases hl j hj with rfl | ⟨h0, h2, h1⟩
    · exact ⟨p, by rw [hloc]; exact hp, by rw [TH.getO_setO_self]; exact hO⟩
    · obtain ⟨q, hq, hQ⟩ := hW.obj j h1
      exact ⟨q, by rw [hrest _ fun e => h2 (hW.inj j k h1 hk e)]; exact hq, by rw [TH.getO_setO_ne _ _ h0, TH.getO_setO_ne _ _ h2]; exact hQ⟩
  · rcases hl i hi with rfl | ⟨h0, h2, h1⟩ <;> rcases hl j hj with rfl | ⟨h0', h2', h1'⟩
    · rfl
    · rw [hloc] at e; exact absurd (hW.inj k j hk h1' e).symm h2'
    · rw [hloc] at e; exact absurd (hW.inj i k h1 hk e) h2
    · exact hW.inj i j h1 h1' e
  · rcases hl j hj with rfl | ⟨h0, h2, h1⟩
    · rw [hloc]; exact hne k hk
    · exact hne j h1
/-- a block laid where another number is given up -/
theorem WEq.lay2 (hW : WEq ρ G B0 h n w) (hB : B0 ≤ w.heap.size) {k : Nat} {o : AO} {p : Obj} (hloc : ρ.loc n = w.heap.size) (hO : ObjEq ρ G n o p) :
    WEq ρ G B0 ((h.setO k .gone).setO n o) (n + 1) (w.alloc p) ∧ KeepEq ρ h ((h.setO k .gone).setO n o) w (w.alloc p) := by
  obtain ⟨h1, h2⟩ := (hW.drop k).lay hB hloc hO
  refine ⟨h1, ⟨h2.size, h2.os, h2.out, h2.tape, fun b hb hne => h2.rest b hb fun j hj => ?_⟩⟩
  refine hne j ?_
  unfold Live at hj ⊢
  by_cases e : j = k
  · subst e; rw [TH.getO_setO_self] at hj; exact absurd rfl hj
  · rw [TH.getO_setO_ne _ _ e] at hj; exact hj
/-- elements looked up: what the model looks up -/
theorem elems_src {β : Type} {no r : β} {x : Value} {size : Nat} {κ : Nat → List Value → β} (hh : elemsK x no h size κ = r) (hn : no ≠ r) :
    ∃ m l, κ m l = r ∧ l.length = m * size ∧ ((∃ A c, x = .slice A m c) ∨ ∃ s, x = .string s) ∧ ∀ ρ, WEq ρ G B0 h n w → oneL l = true ∧ (Builtin.lenOf (rlV ρ x)).run P w = .ok m w ∧
      ∀ w1 : World, w1.heap = w.heap → (Builtin.firstCells size m (rlV ρ x)).run P w1 = .ok ⟨l.map (rlV ρ)⟩ w1 := by
  cases x with
  | slice A m c =>
    rcases elems_slice hh hn with ⟨hm, h2⟩ | ⟨hm, k, off, cs, hao, hk, h4, h5, h2⟩
    · subst hm
      refine ⟨0, [], h2, by simp, .inl ⟨A, c, rfl⟩, fun ρ hW => ⟨rfl, by simp [Builtin.lenOf, rlV], fun w1 _ => ?_⟩⟩
      cases A with
      | none => simp [Builtin.firstCells, rlV]
      | some A =>
        have := run_loadCells_list (P := P) w1 (rlS ρ A) [] (fun j v hv => by simp at hv)
        simp only [List.length_nil] at this
        simp [Builtin.firstCells, rlV, this]
    · refine ⟨m, _, h2, by simp at h5 ⊢; omega, .inl ⟨A, c, rfl⟩, fun ρ hW => ⟨?_, by simp [Builtin.lenOf, rlV], fun w1 hw1 => ?_⟩⟩
      · obtain ⟨p, hp, hO⟩ := hW.obj k (live_rd hk)
        exact oneL_take (oneL_drop (row_of hO hk).1 _) _
      · have := cells_run (P := P) (hW.of_heap hw1) hk h5
        subst hao
        simp [Builtin.firstCells, rlV, this]
  | string s =>
    obtain ⟨⟨s⟩⟩ := s
    replace hh : ifB (Nat.beq size 1) (κ (lenOf s) (bytesOf s)) no = r := hh
    obtain ⟨h1, h2⟩ := ifB_elim hh hn
    have h1 := Nat.eq_of_beq_eq_true h1
    subst h1
    rw [lenOf_eq, bytesOf_eq] at h2
    refine ⟨s.length, _, h2, by simp, .inr ⟨_, rfl⟩, fun ρ hW => ⟨oneL_bytes s, by simp [Builtin.lenOf, rlV]; rfl, fun w1 _ => ?_⟩⟩
    have := Lib.run_firstCells_string (P := P) w1 1 ⟨⟨s⟩⟩
    have e1 : (⟨⟨s⟩⟩ : ByteArray).size = s.length := rfl
    rw [e1] at this
    simp only [rlV]
    rw [this]
    congr 1
    apply Array.ext'
    simp [Lib.strCells, Function.comp_def, rlV]
  | _ => exact absurd hh hn
/-- what the appended cells are -/
structure SrcSim (P : Program) (G : Tab) (B0 N : Nat) (tm : TV) (h : TH) (n : Nat) (a : Array Value) (w : World) (t2 : TypeId) (x : Operand) (size : Nat) (z : Value) (m : Nat) (new : List Value) : Prop where
  len : new.length = m * size
  one : ∀ ρ, WEq ρ G B0 h n w → oneL new = true
  src : ∀ ρ, ActEq ρ N tm a → WEq ρ G B0 h n w → Src P w t2 (Ev a x) size z m (new.map (rlV ρ))

theorem sound_appendX (T : TabOK P G) (hB : B0 ≤ w.heap.size) {c : Call} {s x : Operand} {t t2 e : TypeId} {i : TypeInfo} {z : Value} (ho : o.op = .call c) (hc : c.callee = .builtin .append) (ha : c.args.toList = [s, x]) (hat : c.argTypes.toList = [t, t2])
    (hs : plainX N s = true) (hd : und G t = some (.slice e)) (hi : G.tt.get e = some i) (hz : zero? G e = some z) (h0 : 0 < i.size) (hby : i.bytes ≤ 4096) {m : Nat} {new : List Value} (S : SrcSim P G B0 N tm h n a w t2 x i.size z m new)
    (hr : appendX (evX tm (xo s)) h n e i.size m new = .val v h' n') : OpSim P G B0 N o tm h n a w v h' n' := by
  have hiP := T.ty e i hi
  obtain ⟨i', hi', hz2, hpz, hcs⟩ := T.zero hz
  have hii : i' = i := by rw [hi'] at hiP; exact Option.some.inj hiP
  subst hii
  have hsz : size? G e = some i'.size := by simp [size?, hi]
  have hargs : c.args = #[s, x] := Array.ext' (by rw [ha])
  have hats : c.argTypes = #[t, t2] := Array.ext' (by rw [hat])
  have hexec : ∀ w1 : World, (execOp (Ev a) o).run P w1 = ((Builtin.append_ #[t, t2] o.type #[Ev a s, Ev a x]).run P w1).andThen fun u w' => .ok (.value u) w' := by
    intro w1
    unfold execOp
    simp [ho, resolve, hc, invoke, builtin, hargs, hats]
  unfold appendX at hr
  have hr0 := sliceV_elim hr nofun
  clear hr
  obtain ⟨base, len, cap, hv, hr⟩ := hr0
  have es : ∀ ρ, ActEq ρ N tm a → Ev a s = .slice (base.map (rlS ρ)) len (rlC ρ base cap) := by
    intro ρ hA
    have := plainX_ev hA hs
    rw [hv] at this
    simpa [rlV] using this
  rw [forceNat_eq, ifB_eq] at hr
  have eadd : Nat.add len m = len + m := rfl
  rw [eadd] at hr
  split at hr
  · -- nothing is appended
    rename_i hm
    have hm := Nat.eq_of_beq_eq_true hm
    subst hm
    have hnew : new = [] := List.eq_nil_of_length_eq_zero (by rw [S.len]; simp)
    subst hnew
    -- how the model ends
    have fin : ∀ ρ, ActEq ρ N tm a → WEq ρ G B0 h n w → len ≤ rlC ρ base cap → (execOp (Ev a) o).run P w = .ok (.value (rlV ρ (evX tm (xo s)))) w := by
      intro ρ hA hW hle
      have := append_fits (ty := o.type) (T.und hd) hi' hz2 hby (S.src ρ hA hW) (base := base.map (rlS ρ)) (sLen := len) (sCap := rlC ρ base cap) (by omega) (by omega)
      rw [hexec, es ρ hA, this, hv]
      cases base with
      | none => simp [rlV]
      | some b => simp [rlV, storeCells]
    rw [ifB_eq] at hr
    split at hr
    · rename_i hcap
      have hcap := blt_iff.1 hcap
      obtain ⟨hle, hr⟩ := ifB_elim hr nofun
      have hle := Nat.le_of_ble_eq_true hle
      cases hr
      refine .pure fun ρ hA hW => ?_
      have := fin ρ hA hW (by simp only [rlC, if_pos hcap]; exact hle)
      exact this
    · rename_i hcap
      have hcap : ¬ cap < unkCap := fun hq => hcap (blt_iff.2 hq)
      unfold appOpen0 at hr
      obtain ⟨b, off, hbase, hr1⟩ := adK_elim hr nofun
      obtain ⟨k, cs, e', u, hb, hk, hr2⟩ := wrK_elim hr1 nofun
      obtain ⟨hu, hr3⟩ := ifB_elim hr2 nofun
      obtain ⟨he, hr4⟩ := ifB_elim hr3 nofun
      have he := Nat.eq_of_beq_eq_true he
      obtain ⟨hle, hr5⟩ := ifB_elim hr4 nofun
      have hle := Nat.le_of_ble_eq_true hle
      rw [lenOf_eq] at hle
      clear hr hr1 hr2 hr3 hr4
      cases hr5
      subst hb hu he hbase
      refine .pure fun ρ hA hW => ?_
      exact fin ρ hA hW (open_cap hW hk hsz h0 hcap hle)
  · rename_i hm
    have hm : m ≠ 0 := fun q => hm (by rw [q]; rfl)
    obtain ⟨hneed, hr⟩ := ifB_elim hr nofun
    have hneed := Nat.le_of_ble_eq_true hneed
    rw [ifB_eq] at hr
    split at hr
    · rename_i hcap
      have hcap := blt_iff.1 hcap
      have hrc : ∀ ρ, rlC ρ base cap = cap := fun ρ => by simp only [rlC, if_pos hcap]
      rw [ifB_eq] at hr
      split at hr
      · -- there is room
        rename_i hle
        have hle := Nat.le_of_ble_eq_true hle
        unfold appIn at hr
        obtain ⟨b, off, hbase, hr⟩ := adK_elim hr nofun
        obtain ⟨k, cs, e', u, hb, hk, hr⟩ := wrK_elim hr nofun
        obtain ⟨hfit, hr⟩ := ifB_elim hr nofun
        have hfit := Nat.le_of_ble_eq_true hfit
        rw [lenOf_eq, lenOf_eq] at hfit
        have eoff : Nat.add off (Nat.mul len i'.size) = off + len * i'.size := rfl
        rw [eoff] at hfit hr
        have hfit : off + len * i'.size + new.length ≤ cs.length := hfit
        rw [putK_eq _ _ _ _ _ hfit, TH.set_eq] at hr
        cases hr
        subst hb hbase
        refine ⟨Nat.le_refl _, Nat.le_succ _, 0, 0, 0, fun ρ hA hW _ => ?_⟩
        obtain ⟨w', hst, hW', hK⟩ := write_run (P := P) hW hk (S.one ρ hW) hfit
        refine ⟨_, w', ?_, .inl rfl, hW', hK⟩
        have := append_fits (ty := o.type) (T.und hd) hi' hz2 hby (S.src ρ hA hW) (base := some ⟨ρ.loc k, off, none⟩) (sLen := len) (sCap := cap) (by omega) (by omega)
        rw [hexec, es ρ hA, hrc]
        simp only [Option.map_some, rlS_none, rlB_own]
        rw [this]
        simp only [add_none, hst, Result.andThen, rlV, hrc, Option.map_some, rlS_none, rlB_own]
      · -- there is none
        rename_i hle
        have hle : ¬ len + m ≤ cap := fun q => hle (by rw [Nat.ble_eq]; exact q)
        unfold appNew at hr
        rw [hv] at hr
        obtain ⟨m2, olds, h2, hlo, hsh, ho2⟩ := elems_src (P := P) (G := G) (B0 := B0) (n := n) (w := w) hr nofun
        have hm2 : m2 = len := by
          rcases hsh with ⟨A, c2, hq⟩ | ⟨s2, hq⟩
          · simp only [Value.slice.injEq] at hq; exact hq.2.1.symm
          · cases hq
        subst hm2
        rw [appK_eq, newK_eq] at h2
        cases h2
        refine ⟨Nat.le_succ _, Nat.le_refl _, w.heap.size, grownCap w (m2 + m) cap e, 0, fun ρ hA hW hq => ?_⟩
        rcases hq with hq | ⟨hl, hcp, _⟩
        · omega
        obtain ⟨hone, _, hf⟩ := ho2 ρ hW
        have := append_grows (ty := o.type) (T.und hd) hi' hz2 hby (S.src ρ hA hW) (base := base.map (rlS ρ)) (sLen := m2) (sCap := cap) (olds := olds.map (rlV ρ)) hm (by omega) (by omega)
          (fun w1 hw1 => by have := hf w1 hw1; simpa [rlV, hrc] using this)
        have hge := grownCap_ge w (m2 + m) cap e
        have hlay := WEq.lay (hW.of_heap (w' := w.drew) rfl) hB (o := .cells (olds ++ new) e true)
          (p := .cells ⟨olds.map (rlV ρ) ++ new.map (rlV ρ) ++ reps z.cells.toList (grownCap w (m2 + m) cap e - (m2 + m))⟩ e (0, 0)) hl
          ⟨by rw [oneL_append, hone, S.one ρ hW]; rfl, i'.size, reps z.cells.toList (grownCap w (m2 + m) cap e - (m2 + m)), hsz, by simp, by
            rw [List.length_append, hlo, S.len, reps_length, hcp]
            have : z.cells.toList.length = i'.size := by simpa using hcs
            rw [this, ← Nat.add_mul, ← Nat.add_mul]
            congr 1
            omega⟩
        refine ⟨_, _, ?_, .inl rfl, hlay.1, hlay.2.drew⟩
        rw [hexec, es ρ hA, hrc, this, rlV_sl_unk, hl, hcp]
        rfl
    · -- whether there is room is open
      rename_i hcap
      unfold appOpen at hr
      obtain ⟨b, off, hbase, hr⟩ := adK_elim hr nofun
      obtain ⟨k, cs, e', u, hb, hk, hr⟩ := wrK_elim hr nofun
      obtain ⟨hu, hr⟩ := ifB_elim hr nofun
      obtain ⟨hof, hr⟩ := ifB_elim hr nofun
      have hof := Nat.eq_of_beq_eq_true hof
      obtain ⟨hcu, hr⟩ := ifB_elim hr nofun
      have hcu := Nat.eq_of_beq_eq_true hcu
      obtain ⟨he, hr⟩ := ifB_elim hr nofun
      have he := Nat.eq_of_beq_eq_true he
      obtain ⟨htk, hr⟩ := takeK_elim hr nofun
      rw [appK_eq, TH.set_eq, newK_eq] at hr
      have hF := hr
      cases hF
      subst hu hof hb hbase hcu he
      have eml : Nat.mul len i'.size = len * i'.size := rfl
      rw [eml] at htk
      have ek : O + k - O = k := by omega
      have hrc : ∀ ρ : Env, rlC ρ (some ⟨O + k, 0, none⟩) unkCap = ρ.cap k := fun ρ => by simp [rlC, ek]
      by_cases hex : ∃ ρ, ActEq ρ N tm a ∧ WEq ρ G B0 h n w
      · obtain ⟨ρ0, hA0, hW0⟩ := hex
        have same : ∀ ρ, ActEq ρ N tm a → ρ.loc k = ρ0.loc k ∧ ρ.cap k = ρ0.cap k := by
          intro ρ hA
          have e1 := es ρ hA
          rw [es ρ0 hA0] at e1
          simp only [Option.map_some, rlS_none, rlB_own, hrc, Value.slice.injEq, Option.some.injEq, Addr.mk.injEq, and_true, true_and] at e1
          exact ⟨e1.1.symm, e1.2.symm⟩
        by_cases hroom : len + m ≤ ρ0.cap k
        · -- in place
          refine ⟨Nat.le_succ _, Nat.le_refl _, ρ0.loc k, ρ0.cap k, 0, fun ρ hA hW hq => ?_⟩
          rcases hq with hq | ⟨hl, hcp, _⟩
          · omega
          obtain ⟨hs1, hs2⟩ := same ρ hA
          have hlive := live_wr hk
          obtain ⟨p, hp, hO⟩ := hW.obj k hlive
          rw [hk] at hO
          obtain ⟨h1, sz, tail, hsz2, rfl, hlen⟩ := hO
          have : sz = i'.size := by rw [hsz] at hsz2; exact (Option.some.inj hsz2).symm
          subst this
          have hcl : (cs.map (rlV ρ) ++ tail).length = ρ0.cap k * i'.size := by simp only [List.length_append, List.length_map]; rw [hlen, hs2]
          have hfit : len * i'.size + (new.map (rlV ρ)).length ≤ (cs.map (rlV ρ) ++ tail).length := by
            rw [hcl, List.length_map, S.len, ← Nat.add_mul]
            exact Nat.mul_le_mul_right _ hroom
          have hst := run_storeCells_at P (ρ.loc k) (len * i'.size) e' (new.map (rlV ρ)) 0 ⟨cs.map (rlV ρ) ++ tail⟩ w hp (by simpa using hfit) (oneL_all (S.one ρ hW) ρ)
          simp only [Nat.add_zero] at hst
          have hrow : ((⟨cs.map (rlV ρ) ++ tail⟩ : Array Value).toList.take (len * i'.size) ++ new.map (rlV ρ) ++ (⟨cs.map (rlV ρ) ++ tail⟩ : Array Value).toList.drop (len * i'.size + (new.map (rlV ρ)).length)).toArray =
              ⟨((cs.take (len * i'.size)) ++ new).map (rlV ρ) ++ (cs.map (rlV ρ) ++ tail).drop (len * i'.size + (new.map (rlV ρ)).length)⟩ := by
            have : (cs.map (rlV ρ) ++ tail).take (len * i'.size) = (cs.take (len * i'.size)).map (rlV ρ) := by
              rw [List.take_append_of_le_length (by simpa using htk), List.map_take]
            simp only [this, List.map_append]
          rw [hrow] at hst
          have hmv := hW.move hlive (o := .cells (cs.take (len * i'.size) ++ new) e' true) (w' := w.setRow (ρ.loc k) ⟨((cs.take (len * i'.size)) ++ new).map (rlV ρ) ++ (cs.map (rlV ρ) ++ tail).drop (len * i'.size + (new.map (rlV ρ)).length)⟩)
            (p := .cells ⟨((cs.take (len * i'.size)) ++ new).map (rlV ρ) ++ (cs.map (rlV ρ) ++ tail).drop (len * i'.size + (new.map (rlV ρ)).length)⟩ e' (0, 0)) (by rw [hl, hs1]) (setRow_size _ _ _) (setRow_heap w _ _ _ _ _ hp)
            ⟨by rw [oneL_append, oneL_take h1, S.one ρ hW]; rfl, i'.size, _, hsz, rfl, by
              rw [hcp, ← hcl]
              simp only [List.length_append, List.length_drop, List.length_take, List.length_map, Nat.min_eq_left htk] at hfit ⊢
              omega⟩ (fun b hb => setRow_other w _ _ _ hb) rfl rfl rfl
          refine ⟨_, _, ?_, .inl rfl, hmv.1, hmv.2⟩
          have := append_fits (ty := o.type) (T.und hd) hi' hz2 hby (S.src ρ hA hW) (base := some ⟨ρ.loc k, 0, none⟩) (sLen := len) (sCap := ρ.cap k) (by rw [hs2]; omega) (by omega)
          rw [hexec, es ρ hA]
          simp only [Option.map_some, rlS_none, rlB_own, hrc]
          rw [this]
          simp only [add_none, Nat.zero_add, hst, Result.andThen]
          rw [rlV_sl_unk, hl, hcp, hs1, hs2]
        · -- a new row
          refine ⟨Nat.le_succ _, Nat.le_refl _, w.heap.size, grownCap w (len + m) (ρ0.cap k) e', 0, fun ρ hA hW hq => ?_⟩
          rcases hq with hq | ⟨hl, hcp, _⟩
          · omega
          obtain ⟨hs1, hs2⟩ := same ρ hA
          obtain ⟨h1, _⟩ := row_wr hW hk
          have htk2 : len * i'.size ≤ (cs.drop 0).length := by simpa using htk
          have := append_grows (ty := o.type) (T.und hd) hi' hz2 hby (S.src ρ hA hW) (base := some ⟨ρ.loc k, 0, none⟩) (sLen := len) (sCap := ρ0.cap k) (olds := (cs.take (len * i'.size)).map (rlV ρ)) hm (by omega) (by omega)
            (fun w1 hw1 => by
              have := cells_run (P := P) (hW.of_heap hw1) (.inl ⟨e', true, hk⟩) htk2
              simpa [Builtin.firstCells] using this)
          have hge := grownCap_ge w (len + m) (ρ0.cap k) e'
          have hlay := WEq.lay2 (hW.of_heap (w' := w.drew) rfl) hB (k := k) (o := .cells (cs.take (len * i'.size) ++ new) e' true)
            (p := .cells ⟨(cs.take (len * i'.size)).map (rlV ρ) ++ new.map (rlV ρ) ++ reps z.cells.toList (grownCap w (len + m) (ρ0.cap k) e' - (len + m))⟩ e' (0, 0)) hl
            ⟨by rw [oneL_append, oneL_take h1, S.one ρ hW]; rfl, i'.size, reps z.cells.toList (grownCap w (len + m) (ρ0.cap k) e' - (len + m)), hsz, by simp, by
              rw [List.length_append, List.length_take, Nat.min_eq_left htk, S.len, reps_length, hcp]
              have : z.cells.toList.length = i'.size := by simpa using hcs
              rw [this, ← Nat.add_mul, ← Nat.add_mul, Nat.add_sub_of_le hge]⟩
          refine ⟨_, _, ?_, .inl rfl, hlay.1, hlay.2.drew⟩
          rw [hexec, es ρ hA]
          simp only [Option.map_some, rlS_none, rlB_own, hrc, hs2]
          rw [this]
          rw [rlV_sl_unk]
          rw [hl]
          rw [hcp]
          simp only [Result.andThen]
      · exact ⟨Nat.le_succ _, Nat.le_refl _, 0, 0, 0, fun ρ hA hW hq => absurd ⟨ρ, hA, hW⟩ hex⟩
end
end Go.Clo
namespace Go.Clo

def Qt : OR → Prop
  | .val _ _ _ => True
  | .fail _ => True
  | _ => False
section
variable {no : OR}
theorem qt_ifB {b : Bool} {x y : OR} (hx : Qt x) (hy : Qt y) : Qt (ifB b x y) := by cases b <;> assumption
theorem qt_ptrV {v : Value} {κ : Nat → Nat → OR} (hn : Qt no) (h : ∀ b o, Qt (κ b o)) : Qt (ptrV v no κ) := by unfold ptrV; split <;> first | exact h _ _ | exact hn
theorem qt_sliceV {v : Value} {κ : Option Addr → Nat → Nat → OR} (hn : Qt no) (h : ∀ a b c, Qt (κ a b c)) : Qt (sliceV v no κ) := by unfold sliceV; split <;> first | exact h _ _ _ | exact hn
theorem qt_strV {v : Value} {κ : List UInt8 → OR} (hn : Qt no) (h : ∀ a, Qt (κ a)) : Qt (strV v no κ) := by unfold strV; split <;> first | exact h _ | exact hn
theorem qt_aggV {v : Value} {κ : List Value → OR} (hn : Qt no) (h : ∀ a, Qt (κ a)) : Qt (aggV v no κ) := by unfold aggV; split <;> first | exact h _ | exact hn
theorem qt_tupV {v : Value} {κ : List Value → OR} (hn : Qt no) (h : ∀ a, Qt (κ a)) : Qt (tupV v no κ) := by unfold tupV; split <;> first | exact h _ | exact hn
theorem qt_boolV {v : Value} {κ : Bool → OR} (hn : Qt no) (h : ∀ a, Qt (κ a)) : Qt (boolV v no κ) := by unfold boolV; split <;> first | exact h _ | exact hn
theorem qt_intV {v : Value} {κ : IntKind → Int → OR} (hn : Qt no) (h : ∀ a b, Qt (κ a b)) : Qt (intV v no κ) := by unfold intV; split <;> first | exact h _ _ | exact hn
theorem qt_natV {v : Value} {κ : Nat → OR} (hn : Qt no) (h : ∀ a, Qt (κ a)) : Qt (natV v no κ) := by unfold natV; split <;> first | exact h _ | exact hn
theorem qt_ifaceV {v : Value} {nil : OR} {κ : TypeId → Value → OR} (hn : Qt no) (hi : Qt nil) (h : ∀ a b, Qt (κ a b)) : Qt (ifaceV v no nil κ) := by unfold ifaceV; split <;> first | exact h _ _ | exact hi | exact hn
theorem qt_cellsV {v : Value} {κ : List Value → OR} (h : ∀ a, Qt (κ a)) : Qt (cellsV v κ) := by rw [cellsV_eq]; exact h _
theorem qt_ownK {b : Nat} {κ : Nat → OR} (hn : Qt no) (h : ∀ a, Qt (κ a)) : Qt (ownK no b κ) := qt_ifB hn (h _)
theorem qt_rdK {t : TH} {b : Nat} {κ : List Value → OR} (hn : Qt no) (h : ∀ a, Qt (κ a)) : Qt (rdK no t b κ) := by
  refine qt_ownK hn fun b => ?_
  rw [TH.getK_eq]; generalize t.getO b = o; cases o <;> first | exact h _ | exact hn
theorem qt_wrK {t : TH} {b : Nat} {κ : Nat → List Value → TypeId → Bool → OR} (hn : Qt no) (h : ∀ a b c d, Qt (κ a b c d)) : Qt (wrK no t b κ) := by
  refine qt_ownK hn fun b => ?_
  rw [TH.getK_eq]; generalize t.getO b = o; cases o <;> first | exact h _ _ _ _ | exact hn
theorem qt_set {t : TH} {b : Nat} {o : AO} {κ : TH → OR} (h : ∀ a, Qt (κ a)) : Qt (t.set b o κ) := by rw [TH.set_eq]; exact h _
theorem qt_newK {t : TH} {n : Nat} {o : AO} {κ : TH → Nat → OR} (h : ∀ a b, Qt (κ a b)) : Qt (newK t n o κ) := by rw [newK_eq]; exact h _ _
theorem qt_dropK {n : Nat} {l : List Value} {κ : List Value → OR} (hn : Qt no) (h : ∀ a, Qt (κ a)) : Qt (dropK no n l κ) := by rw [dropK_eq]; split <;> first | exact h _ | exact hn
theorem qt_takeK {n : Nat} {l : List Value} {κ : List Value → OR} (hn : Qt no) (h : ∀ a, Qt (κ a)) : Qt (takeK no n l κ) := by rw [takeK_eq]; split <;> first | exact h _ | exact hn
theorem qt_nthK {n : Nat} {l : List Value} {κ : Value → OR} (hn : Qt no) (h : ∀ a, Qt (κ a)) : Qt (nthK no n l κ) := by rw [nthK_eq]; split <;> first | exact h _ | exact hn
theorem qt_overK (hn : Qt no) : ∀ (vs l : List Value) {κ : List Value → OR}, (∀ a, Qt (κ a)) → Qt (overK no vs l κ)
  | [], _, _, h => h _
  | _ :: _, [], _, _ => hn
  | _ :: vs, _ :: t, _, h => qt_overK hn vs t fun _ => h _
theorem qt_putK (hn : Qt no) : ∀ (n : Nat) {l vs : List Value} {κ : List Value → OR}, (∀ a, Qt (κ a)) → Qt (putK no n l vs κ)
  | 0, l, vs, _, h => qt_overK hn vs l h
  | _ + 1, [], _, _, _ => hn
  | n + 1, _ :: _, _, _, h => qt_putK hn n fun _ => h _
theorem qt_evK {x : XO} {tm : TV} {κ : Value → OR} (h : ∀ a, Qt (κ a)) : Qt (evK x tm κ) := by rw [evK_eq]; exact h _
theorem qt_evL {x : List XO} {tm : TV} {κ : List Value → OR} (h : ∀ a, Qt (κ a)) : Qt (evL tm x κ) := by rw [evL_eq]; exact h _
theorem qt_adK {a : Option Addr} {κ : Nat → Nat → OR} (hn : Qt no) (h : ∀ b o, Qt (κ b o)) : Qt (adK a no κ) := qt_ptrV hn h
theorem qt_forceNat {n : Nat} {κ : Nat → OR} (h : ∀ a, Qt (κ a)) : Qt (forceNat n κ) := by rw [forceNat_eq]; exact h _
theorem qt_forceInt {n : Int} {κ : Int → OR} (h : ∀ a, Qt (κ a)) : Qt (forceInt n κ) := by rw [forceInt_eq]; exact h _
theorem qt_appK {x y : List Value} {κ : List Value → OR} (h : ∀ a, Qt (κ a)) : Qt (appK x y κ) := by rw [appK_eq]; exact h _
theorem qt_appB {x y : List UInt8} {κ : List UInt8 → OR} (h : ∀ a, Qt (κ a)) : Qt (appK x y κ) := by rw [appK_eq]; exact h _
theorem qt_appE {x y : List (Value × Value)} {κ : List (Value × Value) → OR} (h : ∀ a, Qt (κ a)) : Qt (appK x y κ) := by rw [appK_eq]; exact h _
theorem qt_boundK {tm : TV} {x : Option XO} {d : Nat} {κ : Nat → OR} (hn : Qt no) (h : ∀ a, Qt (κ a)) : Qt (boundK no tm x d κ) := by
  cases x with
  | none => exact h _
  | some y => exact qt_evK fun _ => qt_natV hn h
theorem qt_fillK {tm : TV} (hn : Qt no) : ∀ (ps : List (Nat × Nat × XO)) {cs : List Value} {κ : List Value → OR}, (∀ a, Qt (κ a)) → Qt (fillK no tm ps cs κ)
  | [], _, _, h => h _
  | p :: ps, cs, κ, h => by
    have e : fillK no tm (p :: ps) cs κ = evK p.2.2 tm fun v => cellsV v fun vs => ifB (Nat.beq (lenOf vs) p.2.1) (ifB (Nat.ble (Nat.add p.1 (lenOf vs)) (lenOf cs)) (putK no p.1 cs vs fun cs => fillK no tm ps cs κ) no) no := rfl
    rw [e]
    exact qt_evK fun _ => qt_cellsV fun _ => qt_ifB (qt_ifB (qt_putK hn _ fun _ => qt_fillK hn ps h) hn) hn
theorem qt_strK (hn : Qt no) : ∀ (l : List Value) {κ : List UInt8 → OR}, (∀ a, Qt (κ a)) → Qt (strK no l κ)
  | [], _, h => h _
  | v :: l, κ, h => by
    have e : strK no (v :: l) κ = Option.rec (motive := fun _ => OR) no (fun b => strK no l fun r => κ (b :: r)) (byteOfV v) := rfl
    rw [e]
    cases byteOfV v with
    | none => exact hn
    | some b => exact qt_strK hn l fun _ => h _
theorem qt_elemsK {x : Value} {h : TH} {size : Nat} {κ : Nat → List Value → OR} (hn : Qt no) (hk : ∀ a b, Qt (κ a b)) : Qt (elemsK x no h size κ) := by
  unfold elemsK
  split
  · exact qt_ifB (hk _ _) (qt_adK hn fun _ _ => qt_rdK hn fun _ => qt_dropK hn fun _ => qt_takeK hn fun _ => hk _ _)
  · exact qt_ifB (hk _ _) hn
  · exact hn
theorem qt_keyOk {t : XE} {k : Value} {yes : OR} (hn : Qt no) (hy : Qt yes) : Qt (keyOk t k no yes) := by
  unfold keyOk
  cases keyX t k k with
  | none => exact hn
  | some b => exact qt_ifB (qt_ifB hy hn) hn
theorem qt_mapK {x : Value} {kt : XE} {h : TH} {κ : List (Value × Value) → Nat → OR} (hn : Qt no) (hk : ∀ a b, Qt (κ a b)) : Qt (mapK x kt no h κ) := by
  unfold mapK
  split
  · exact hk _ _
  · refine qt_ownK hn fun b => ?_
    rw [TH.getK_eq]; generalize h.getO b = o; cases o <;> first | exact hn | exact qt_ifB (hk _ _) hn
  · exact hn
theorem qt_cntK {x : Value} {h : TH} {κ : Nat → OR} (hn : Qt no) (hk : ∀ a, Qt (κ a)) : Qt (cntK x no h κ) := by
  unfold cntK
  split
  · exact hk _
  · refine qt_ownK hn fun b => ?_
    rw [TH.getK_eq]; generalize h.getO b = o; cases o <;> first | exact hn | exact hk _
  · exact hn
theorem qt_findX {t : XE} {k : Value} {nf : OR} {κ : Nat → Value → OR} (hn : Qt no) (hf : Qt nf) (hk : ∀ a b, Qt (κ a b)) : ∀ (es : List (Value × Value)) {i : Nat}, Qt (findX es t k i no nf κ)
  | [], _ => hf
  | e :: es, i => by
    have e1 : findX (e :: es) t k i no nf κ = Option.rec (motive := fun _ => OR) no (fun b => ifB b (κ i e.2) (findX es t k (i + 1) no nf κ)) (keyX t k e.1) := rfl
    rw [e1]
    cases keyX t k e.1 with
    | none => exact hn
    | some b => exact qt_ifB (hk _ _) (qt_findX hn hf hk es)
theorem qt_modK {es : List (Value × Value)} {i : Nat} {k v : Value} {κ : List (Value × Value) → OR} (h : ∀ a, Qt (κ a)) : Qt (modK es i k v κ) := by rw [modK_eq]; exact h _
theorem qt_bin {x y : Value} {op : BinOp} {t : XE} {κ : Value → OR} (hn : Qt no) (h : ∀ a, Qt (κ a)) : Qt (binX x op t y no κ) := by
  have hi : ∀ op k a b, Qt (bInt op k a b no κ) := by
    intro op k a b
    cases op <;> simp only [bInt] <;> first | exact hn | exact qt_forceInt fun _ => h _ | exact qt_ifB hn (qt_forceInt fun _ => h _) | exact qt_ifB (h _) (h _)
  have hs : ∀ op a b, Qt (bStr op a b no κ) := by
    intro op a b
    cases op <;> simp only [bStr] <;> first | exact hn | exact qt_appB fun _ => qt_ifB (h _) hn | exact qt_ifB (h _) (h _)
  have he : ∀ op r, Qt (bEq op r no κ) := by
    intro op r
    cases op <;> simp only [bEq] <;> first | exact hn | (cases r <;> first | exact hn | exact qt_ifB (h _) (h _))
  cases x with
  | int k a => exact qt_intV hn fun _ _ => qt_ifB (hi _ _ _ _) hn
  | string s => obtain ⟨⟨s⟩⟩ := s; exact qt_strV hn fun _ => hs _ _ _
  | float _ _ => exact hn
  | complex _ _ _ => exact hn
  | _ => exact he _ _
theorem qt_appendX {s : Value} {h : TH} {n e size m : Nat} {new : List Value} : Qt (appendX s h n e size m new) := by
  unfold appendX appIn appNew appOpen appOpen0
  repeat' first
    | exact trivial
    | intro _
    | with_reducible apply qt_ifB
    | with_reducible apply qt_sliceV
    | with_reducible apply qt_forceNat
    | with_reducible apply qt_adK
    | with_reducible apply qt_wrK
    | with_reducible apply qt_putK
    | with_reducible apply qt_set
    | with_reducible apply qt_newK
    | with_reducible apply qt_appK
    | with_reducible apply qt_takeK
    | with_reducible apply qt_elemsK
end
theorem qt_optR {α : Type} {no : OR} {κ : α → OR} {x : Option α} (hn : Qt no) (h : ∀ a, Qt (κ a)) : Qt (Option.rec (motive := fun _ => OR) no κ x) := by
  cases x with
  | none => exact hn
  | some a => exact h a
theorem qt_natR {no : OR} {κ : Nat → OR → OR} {x : Nat} (hn : Qt no) (h : ∀ a b, Qt (κ a b)) : Qt (Nat.rec (motive := fun _ => OR) no κ x) := by
  cases x with
  | zero => exact hn
  | succ a => exact h a _
theorem qt_listR {α : Type} {no : OR} {κ : α → List α → OR → OR} {x : List α} (hn : Qt no) (h : ∀ a b c, Qt (κ a b c)) : Qt (List.rec (motive := fun _ => OR) no κ x) := by
  cases x with
  | nil => exact hn
  | cons a l => exact h a l _
theorem qt_known {a : Option Addr} {l r size cap n : Nat} {h : TH} : Qt (reKnown a l r size cap h n) := by
  unfold reKnown
  repeat' first
    | exact trivial
    | intro _
    | with_reducible apply qt_optR
    | with_reducible apply qt_ifB
    | with_reducible apply qt_forceNat
    | with_reducible apply qt_adK
theorem qt_open {a : Option Addr} {l r size cap n : Nat} {h : TH} : Qt (reOpen a l r size cap h n) := by
  unfold reOpen
  repeat' first
    | exact trivial
    | intro _
    | with_reducible apply qt_ifB
    | with_reducible apply qt_forceNat
    | with_reducible apply qt_adK
def isCtl : XOp → Bool
  | .callF _ _ | .callV _ _ | .callI _ _ _ | .recover | .deferV _ _ | .panic _ => true
  | _ => false
theorem qt_exec (G : Tab) (op : XOp) (hop : isCtl op = false) (tm : TV) (h : TH) (n : Nat) : Qt (execX G op tm h n) := by
  cases op <;> first | (simp [isCtl] at hop; done) | skip
  all_goals
    change Qt (_ : OR)
    dsimp only [execX]
    first
      | unfold oMove | unfold oPick | unfold oAlloc | unfold oBox | unfold oBuild | unfold oBuildSlice | unfold oLoad1 | unfold oLoadN | unfold oStore | unfold oNil | unfold oBin | unfold oNot | unfold oConvInt | unfold oConvStr | unfold oConvBytes | unfold oUnsafeP | unfold oConvSS | unfold oIface | unfold oFunc
      | unfold oMap | unfold oMkSlice | unfold oSliceStr | unfold oSliceS | unfold oFieldAddr | unfold oField1 | unfold oFieldN | unfold oIdxA | unfold oIdxS | unfold oIndex1 | unfold oIndexStr | unfold oLookup | unfold oUpdate
      | unfold oAssertC | unfold oAssertI | unfold oExtract | unfold oLenStr | unfold oLenSl | unfold oLenMap | unfold oCap | unfold oAppend | unfold oAppendMake | unfold oMinMax | unfold oClear | unfold oSliceData | unfold oUnsafeString | unfold oBad
    repeat' first
      | exact trivial
      | intro _
      | with_reducible apply qt_ifB
      | with_reducible apply qt_evK
      | with_reducible apply qt_evL
      | with_reducible apply qt_ptrV
      | with_reducible apply qt_sliceV
      | with_reducible apply qt_strV
      | with_reducible apply qt_aggV
      | with_reducible apply qt_tupV
      | with_reducible apply qt_boolV
      | with_reducible apply qt_intV
      | with_reducible apply qt_natV
      | with_reducible apply qt_ifaceV
      | with_reducible apply qt_cellsV
      | with_reducible apply qt_rdK
      | with_reducible apply qt_wrK
      | with_reducible apply qt_set
      | with_reducible apply qt_newK
      | with_reducible apply qt_dropK
      | with_reducible apply qt_takeK
      | with_reducible apply qt_nthK
      | with_reducible apply qt_putK
      | with_reducible apply qt_adK
      | with_reducible apply qt_forceNat
      | with_reducible apply qt_forceInt
      | with_reducible apply qt_appK
      | with_reducible apply qt_appE
      | with_reducible apply qt_boundK
      | with_reducible apply qt_fillK
      | with_reducible apply qt_strK
      | with_reducible apply qt_elemsK
      | with_reducible apply qt_keyOk
      | with_reducible apply qt_mapK
      | with_reducible apply qt_cntK
      | with_reducible apply qt_findX
      | with_reducible apply qt_modK
      | with_reducible apply qt_bin
      | with_reducible apply qt_appendX
      | with_reducible apply qt_known
      | with_reducible apply qt_open
      | with_reducible apply qt_optR
      | with_reducible apply qt_natR
      | with_reducible apply qt_listR
      | split
end Go.Clo
