/-
A CLOSED RUN. All operations: one that answers by a value, the model answers likewise.
A CLOSED RUN. Every operation that answers by a value.
A CLOSED RUN. Operations that hand on: calls, rounds, deferred calls, recover, panic.
A CLOSED RUN. Frames; what a frame's state is; where it arrives.
A CLOSED RUN. Calls and rounds: what the machine's answers mean; one operation.
A CLOSED RUN. What the operations that hand on tell the model.
A CLOSED RUN. One operation.
A CLOSED RUN. One operation; a region in its order.
A CLOSED RUN. Code.
-/
import Derived.Test.YtkeekncfeibobaaGreatDoorM03
import Derived.Defers
import Derived.Recover
namespace Go.Clo

section
variable {P : Program} {G : Tab} {B0 N : Nat} {o : Oper} {tm : TV} {h : TH} {n : Nat} {a : Array Value} {w : World} {v : Value} {h' : TH} {n' : Nat} {ρ : Env}
theorem bad_no (hr : execX G .bad tm h n = .val v h' n') : False := by cases hr
theorem panic_no {x : XO} (hr : execX G (.panic x) tm h n = .val v h' n') : False := by
  change oPanic x tm h n = _ at hr
  unfold oPanic at hr
  rw [evK_eq] at hr
  generalize evX tm x = u at hr
  cases u <;> cases hr
theorem src_zeros (T : TabOK P G) {t2 : TypeId} {x : Operand} {e : TypeId} {i : TypeInfo} {z : Value} {kn : IntKind} {k : IntKind} {m : Nat} (hd2 : und G t2 = some (.int kn)) (hx : plainX N x = true) (hv : evX tm (xo x) = .int k (m : Int)) (hz : zero? G e = some z) (hi : G.tt.get e = some i) (h0 : 0 < i.size) :
    SrcSim P G B0 N tm h n a w t2 x i.size z m (reps z.cells.toList m) := by
  obtain ⟨i', hi', hz2, hpz, hcs⟩ := T.zero hz
  have hii : i' = i := by have := T.ty e i hi; rw [hi'] at this; exact Option.some.inj this
  subst hii
  refine ⟨?_, fun ρ hW => oneL_reps (plain_cells (ρ := ρ) hpz).1 m, fun ρ hA hW => ?_⟩
  · rw [reps_length]
    have : z.cells.toList.length = i'.size := by simpa using hcs
    rw [this]
  · have ex := plainX_ev hA hx
    rw [hv] at ex
    rw [reps_map ρ (plain_cells (ρ := ρ) hpz).2]
    exact .zeros kn k (T.und hd2) (by rw [ex]; simp [rlV]) rfl (.inr h0)
theorem sound_appendMake (T : TabOK P G) (hB : B0 ≤ w.heap.size) {c : Call} {s x : Operand} {t t2 e : TypeId} {i : TypeInfo} {z : Value} {kn : IntKind} (ho : o.op = .call c) (hc : c.callee = .builtin .append) (ha : c.args.toList = [s, x]) (hat : c.argTypes.toList = [t, t2])
    (hs : plainX N s = true) (hx : plainX N x = true) (hd : und G t = some (.slice e)) (hd2 : und G t2 = some (.int kn)) (hi : G.tt.get e = some i) (hz : zero? G e = some z) (h0 : 0 < i.size) (hby : i.bytes ≤ 4096)
    (hr : oAppendMake e i.size z.cells.toList (xo s) (xo x) tm h n = .val v h' n') : OpSim P G B0 N o tm h n a w v h' n' := by
  unfold oAppendMake at hr
  rw [evK_eq] at hr
  obtain ⟨k, m, hv, hr1⟩ := natV_elim hr nofun
  rw [evK_eq] at hr1
  obtain ⟨_, hr2⟩ := ifB_elim hr1 nofun
  exact sound_appendX T hB ho hc ha hat hs hd hi hz h0 hby (src_zeros T hd2 hx hv hz hi h0) hr2
theorem sound_append (T : TabOK P G) (hB : B0 ≤ w.heap.size) {c : Call} {s x : Operand} {t t2 e : TypeId} {i : TypeInfo} {z : Value} {d2 : TypeDesc} (ho : o.op = .call c) (hc : c.callee = .builtin .append) (ha : c.args.toList = [s, x]) (hat : c.argTypes.toList = [t, t2])
    (hs : plainX N s = true) (hx : plainX N x = true) (hd : und G t = some (.slice e)) (hd2 : und G t2 = some d2) (hni : (∃ e2, d2 = .slice e2) ∨ d2 = .string) (hi : G.tt.get e = some i) (hz : zero? G e = some z) (h0 : 0 < i.size) (hby : i.bytes ≤ 4096)
    (hr : oAppend e i.size (xo s) (xo x) tm h n = .val v h' n') : OpSim P G B0 N o tm h n a w v h' n' := by
  unfold oAppend at hr
  rw [evK_eq] at hr
  obtain ⟨m, l, hr1, hl, _, hsrc⟩ := elems_src (P := P) (G := G) (B0 := B0) (n := n) (w := w) hr nofun
  rw [evK_eq] at hr1
  refine sound_appendX T hB ho hc ha hat hs hd hi hz h0 hby (m := m) (new := l) ⟨hl, fun ρ hW => (hsrc ρ hW).1, fun ρ hA hW => ?_⟩ hr1
  obtain ⟨_, h1, h2⟩ := hsrc ρ hW
  have ex := plainX_ev hA hx
  exact .cells d2 (T.und hd2) hni (by rw [ex]; exact h1) (fun w1 hw1 => by rw [ex]; exact h2 w1 hw1)
theorem sound_ids (T : TabOK P G) {c : Call} {g : FuncId} {x : Operand} (ho : o.op = .call c) (hc : c.callee = .value (.func g)) (ha : c.args.toList = [x]) (hg : memN G.ids g = true) (hx : plainX N x = true) (hr : oMove (xo x) tm h n = .val v h' n') : OpSim P G B0 N o tm h n a w v h' n' := by
  unfold oMove at hr
  rw [evK_eq] at hr
  cases hr
  refine .pure fun ρ hA hW => ?_
  have hargs : c.args = #[x] := Array.ext' (by rw [ha])
  have ex := plainX_ev hA hx
  have := T.ids g hg (rlV ρ (evX tm (xo x))) w
  rw [← ex] at this
  rw [← ex]
  unfold execOp
  have e1 : Ev a (.func g) = .func (.func g) #[] #[] := rfl
  simp only [ho, resolve, hc, hargs, e1, Deferred.ofValue, Sem.run_bind, Sem.run_pure, Result.andThen, invoke]
  simpa using this

theorem sound_convSS (T : TabOK P G) {s t : TypeId} {x : Operand} (ho : o.op = .convert s t x) (hx : plainX N x = true) (hs : und G s = some .string) (ht : und G t = some .string) (hr : oConvSS (xo x) tm h n = .val v h' n') : OpSim P G B0 N o tm h n a w v h' n' := by
  unfold oConvSS at hr
  rw [evK_eq] at hr
  obtain ⟨z, hv, hr1⟩ := strV_elim hr nofun
  clear hr
  cases hr1
  refine .pure fun ρ hA hW => ?_
  have ex := plainX_ev hA hx
  rw [hv] at ex
  rw [hv]
  simp only [rlV] at ex
  unfold execOp
  simp [ho, ex, convert, T.run_und hs, T.run_und ht, rlV]
theorem rowAt_first {Q : Program} {fits : TypeId → Bool} {d : Nat} {e cells s n : Nat} (hs : Q.cellsOf e = s + 1) (hn : n ≤ cells) (hf : fits e = true) : rowAt Q fits (d + 1) e cells 0 n = true := by
  unfold rowAt
  simp [hs, hn, hf]
theorem view_none {k : Nat} {c : Array Value} {e : TypeId} {fr : Nat × Nat} (hp : w.heap[k]? = some (.cells c e fr)) (off : Nat) : (Conv.seenAt ⟨k, off, none⟩).run P w = .ok ⟨k, off, none⟩ w := by
  have hsh : (shape k).run P w = .ok (some (e, c.size)) w := by
    simp only [shape, Sem.run, World.shape?, hp]
  unfold Conv.seenAt viewAt
  simp [hsh]
theorem sound_unsafeP (T : TabOK P G) {s t : TypeId} {x : Operand} {e sz : Nat} (ho : o.op = .convert s t x) (hx : plainX N x = true) (hs : size? G e = some (sz + 1))
    (hd : (und G s = some (.pointer e) ∧ und G t = some .unsafePointer) ∨ (und G s = some .unsafePointer ∧ und G t = some (.pointer e)))
    (hr : oUnsafeP e (sz + 1) (xo x) tm h n = .val v h' n') : OpSim P G B0 N o tm h n a w v h' n' := by
  unfold oUnsafeP at hr
  rw [evK_eq] at hr
  obtain ⟨b, off, hv, hr1⟩ := ptrV_elim hr nofun
  obtain ⟨hof, hr2⟩ := ifB_elim hr1 nofun
  have hof := Nat.eq_of_beq_eq_true hof
  obtain ⟨k, cs, e', u, hb, hk, hr3⟩ := wrK_elim hr2 nofun
  obtain ⟨he, hr4⟩ := ifB_elim hr3 nofun
  have he := Nat.eq_of_beq_eq_true he
  obtain ⟨hle, hr5⟩ := ifB_elim hr4 nofun
  have hle := Nat.le_of_ble_eq_true hle
  rw [lenOf_eq] at hle
  clear hr hr1 hr2 hr3 hr4
  cases hr5
  subst hof he hb
  refine .pure fun ρ hA hW => ?_
  have ex := plainX_ev hA hx
  rw [hv, rlV_ptr, rlB_own] at ex
  obtain ⟨_, tail, hp, _⟩ := row_wr hW hk
  have hsh : (shape (ρ.loc k)).run P w = .ok (some (e', cs.length + tail.length)) w := by
    simp only [shape, Sem.run, World.shape?, hp]
    simp
  have hci : (cellsIn (ρ.loc k)).run P w = .ok (some (cs.length + tail.length)) w := by
    unfold cellsIn
    simp [hsh]
  have hsz : (sizeOf e').run P w = .ok (sz + 1) w := T.run_size hs w
  have hcell : P.cellsOf e' = sz + 1 := by
    obtain ⟨i, hi, h2⟩ := T.size hs
    simp [Program.cellsOf, hi, h2]
  have hvar : (variablesAt ⟨ρ.loc k, 0, none⟩ e' 1).run P w = .ok true w := by
    have hdep : P.depth = (2 * (P.types.size + Made.depth) + 1) + 1 := rfl
    have h2 : sameLayout P P.depth e' e' = true := by rw [hdep]; simp [sameLayout]
    have h1 : 1 ≤ (cs.length + tail.length) / P.cellsOf e' := by
      rw [hcell, Nat.le_div_iff_mul_le (by omega)]; omega
    have h4 : liesAt P P.depth e' ((cs.length + tail.length) / P.cellsOf e') 0 e' 1 = true := by
      have h3 := rowAt_first (Q := P) (fits := fun y => sameLayout P P.depth y e') (d := 2 * (P.types.size + Made.depth) + 1) hcell h1 h2
      rw [← hdep] at h3
      rw [hdep]
      unfold liesAt
      rw [h3]
      rfl
    unfold variablesAt
    simp only [Sem.run_bind, program, Sem.run, hsh, Result.andThen, Sem.run_pure, h4]
  have hmv : rlV ρ (.pointer (some ⟨O + k, 0, none⟩)) = .pointer (some ⟨ρ.loc k, 0, none⟩) := by rw [rlV_ptr, rlB_own]
  rw [hmv]
  have hnz : ¬ (cs.length + tail.length ≤ 0) := by omega
  unfold execOp
  rcases hd with ⟨h1, h2⟩ | ⟨h1, h2⟩
  · simp only [ho, ex, convert, Conv.unsafePointer, Sem.run_bind, T.run_und h1, T.run_und h2, Result.andThen, view_none hp, hci, hsz]
    have hq : (decide (sz + 1 = 0) || decide (0 ≥ cs.length + tail.length) && (none : Option Nat).isNone) = false := by
      have h1 : decide (0 ≥ cs.length + tail.length) = false := decide_eq_false (by omega)
      rw [h1]; simp
    rw [hq]
    simp
  · simp only [ho, ex, convert, Conv.unsafePointer, Sem.run_bind, T.run_und h1, T.run_und h2, Result.andThen, view_none hp, hsz, hvar]
    simp

theorem plain_parts {ps : Array (Nat × Operand)} (h : ∀ x ∈ (ps.toList.map (·.2)).toArray.toList, plainX N x = true) : ∀ p ∈ ps.toList, plainX N p.2 = true := by
  intro p hp
  exact h p.2 (by simp only [List.mem_map]; exact ⟨p, hp, rfl⟩)
/-- a call of a builtin -/
theorem exec_builtin (T : TabOK P G) (hB : B0 ≤ w.heap.size) {c : Call} {b : Builtin} (ho : o.op = .call c) (hc : c.callee = .builtin b) (hp : ∀ x ∈ c.args.toList, plainX N x = true)
    (hr : execX G (xcall G b c.argTypes.toList c.args.toList) tm h n = .val v h' n') : OpSim P G B0 N o tm h n a w v h' n' := by
  generalize hargs : c.args.toList = args at hr hp
  generalize hats : c.argTypes.toList = ats at hr
  unfold xcall at hr
  split at hr
  -- len
  · split at hr
    · rename_i t ts
      split at hr
      · exact sound_lenStr T ho hc hargs hats (hp _ (by simp)) ‹_› hr
      · exact sound_lenSl T ho hc hargs hats (hp _ (by simp)) ‹_› hr
      · exact sound_lenMap T ho hc hargs hats (hp _ (by simp)) ‹_› hr
      · exact (bad_no hr).elim
    · exact (bad_no hr).elim
  -- cap
  · split at hr
    · split at hr
      · exact sound_cap T ho hc hargs hats (hp _ (by simp)) ‹_› hr
      · exact (bad_no hr).elim
    · exact (bad_no hr).elim
  -- append
  · split at hr
    · rename_i t t2
      split at hr
      · rename_i e hd
        split at hr
        · rename_i kn z i hd2 hz hi
          cases hq : (Nat.blt 0 i.size && Nat.blt 0 i.bytes && Nat.ble i.bytes 4096) with
          | false => rw [hq] at hr; exact (bad_no hr).elim
          | true =>
            rw [hq] at hr
            simp only [Bool.and_eq_true, blt_iff, Nat.ble_eq] at hq
            exact sound_appendMake T hB ho hc hargs hats (hp _ (by simp)) (hp _ (by simp)) hd hd2 hi hz hq.1.1 hq.2 hr
        · rename_i e2 z i hd2 hz hi
          cases hq : (Nat.blt 0 i.size && Nat.blt 0 i.bytes && Nat.ble i.bytes 4096) with
          | false => rw [hq] at hr; exact (bad_no hr).elim
          | true =>
            rw [hq] at hr
            simp only [Bool.and_eq_true, blt_iff, Nat.ble_eq] at hq
            exact sound_append T hB ho hc hargs hats (hp _ (by simp)) (hp _ (by simp)) hd hd2 (.inl ⟨_, rfl⟩) hi hz hq.1.1 hq.2 hr
        · rename_i z i hd2 hz hi
          cases hq : (Nat.beq i.size 1 && Nat.blt 0 i.bytes && Nat.ble i.bytes 4096) with
          | false => rw [hq] at hr; exact (bad_no hr).elim
          | true =>
            rw [hq] at hr
            simp only [Bool.and_eq_true, blt_iff, Nat.ble_eq] at hq
            have := Nat.eq_of_beq_eq_true hq.1.1
            exact sound_append T hB ho hc hargs hats (hp _ (by simp)) (hp _ (by simp)) hd hd2 (.inr rfl) hi hz (by omega) hq.2 hr
        · exact (bad_no hr).elim
      · exact (bad_no hr).elim
    · exact (bad_no hr).elim
  -- min, max
  · exact sound_minmax false ho (by simpa using hc) hargs (by rw [hargs]; exact hp) hr
  · exact sound_minmax true ho (by simpa using hc) hargs (by rw [hargs]; exact hp) hr
  -- clear
  · split at hr
    · split at hr
      · rename_i e hd
        split at hr
        · rename_i z i hz hi
          cases hq : Nat.blt 0 i.size with
          | false => rw [hq] at hr; exact (bad_no hr).elim
          | true => rw [hq] at hr; exact sound_clear T ho hc hargs hats (hp _ (by simp)) hd hz hi hr
        · exact (bad_no hr).elim
      · exact (bad_no hr).elim
    · exact (bad_no hr).elim
  -- unsafe.SliceData, unsafe.String
  · exact sound_sliceData T ho hc hargs (hp _ (by simp)) hr
  · split at hr
    · split at hr
      · split at hr
        · split at hr
          · exact sound_unsafeString T ho hc hargs hats (hp _ (by simp)) (hp _ (by simp)) ‹_› ‹_› hr
          · exact (bad_no hr).elim
        · exact (bad_no hr).elim
      · exact (bad_no hr).elim
    · exact (bad_no hr).elim
  · cases hr
  · exact (panic_no hr).elim
  · exact (bad_no hr).elim
end
end Go.Clo
namespace Go.Clo

section
variable {P : Program} {G : Tab} {B0 N : Nat} {o : Oper} {tm : TV} {h : TH} {n : Nat} {a : Array Value} {w : World} {v : Value} {h' : TH} {n' : Nat} {ρ : Env}
theorem callF_no {f : FuncId} {l : List XO} (hr : execX G (.callF f l) tm h n = .val v h' n') : False := by
  change oCallF f l tm h n = _ at hr
  unfold oCallF at hr
  rw [evL_eq] at hr
  cases hr
theorem callV_no {x : XO} {l : List XO} (hr : execX G (.callV x l) tm h n = .val v h' n') : False := by
  change oCallV x l tm h n = _ at hr
  unfold oCallV at hr
  rw [evL_eq, evK_eq] at hr
  obtain ⟨fn, a, b, _, h2⟩ := funcV_elim hr nofun
  cases fn <;> cases h2
theorem callI_no {x : XO} {nm : String} {l : List XO} (hr : execX G (.callI x nm l) tm h n = .val v h' n') : False := by
  change oCallI G x nm l tm h n = _ at hr
  unfold oCallI at hr
  rw [evL_eq, evK_eq] at hr
  rcases ifaceV_elim hr nofun with ⟨_, h2⟩ | ⟨t, u, _, h2⟩
  · cases h2
  · split at h2
    · split at h2
      · split at h2 <;> cases h2
      · cases h2
    · cases h2
theorem recover_no (hr : execX G .recover tm h n = .val v h' n') : False := by cases hr
theorem defer_no {x : XO} {l : List XO} (hr : execX G (.deferV x l) tm h n = .val v h' n') : False := by
  change oDefer x l tm h n = _ at hr
  unfold oDefer at hr
  rw [evK_eq] at hr
  obtain ⟨fn, a, b, _, h2⟩ := funcV_elim hr nofun
  rw [evL_eq] at h2
  cases h2
theorem exec_val (T : TabOK P G) (hB : B0 ≤ w.heap.size) (hpl : plainXs N o.op.operands.toList = true) (hr : execX G (xop G o) tm h n = .val v h' n') : OpSim P G B0 N o tm h n a w v h' n' := by
  have hp := plainXs_all hpl
  clear hpl
  generalize hop : o.op = op at hp
  unfold xop at hr
  rw [hop] at hr
  cases op with
  | move x => exact sound_move (.inl hop) (hp x (by simp [Op.operands])) hr
  | assign x => exact sound_move (.inr hop) (hp x (by simp [Op.operands])) hr
  | pick c x y => exact sound_pick hop (hp c (by simp [Op.operands])) (hp x (by simp [Op.operands])) (hp y (by simp [Op.operands])) hr
  | alloc e =>
    simp only at hr
    split at hr
    · exact sound_alloc T hB hop ‹_› hr
    · exact (bad_no hr).elim
  | box e x => exact sound_box hB hop (hp x (by simp [Op.operands])) hr
  | build t parts =>
    have hpp := plain_parts (N := N) (ps := parts) (by simpa [Op.operands] using hp)
    simp only at hr
    split at hr
    · split at hr
      · split at hr
        · exact sound_buildS T hop hpp ‹_› ‹_› ‹_› ‹_› hr
        · exact (bad_no hr).elim
      · exact (bad_no hr).elim
    · split at hr
      · split at hr
        · exact sound_buildA T hop hpp ‹_› ‹_› ‹_› ‹_› hr
        · exact (bad_no hr).elim
      · exact (bad_no hr).elim
    · exact (bad_no hr).elim
  | buildSlice t len parts =>
    have hpp := plain_parts (N := N) (ps := parts) (by simpa [Op.operands] using hp)
    simp only at hr
    split at hr
    · rename_i e hd
      split at hr
      · rename_i z s hz hs
        split at hr
        · rename_i ps hps
          cases hq : (Nat.blt 0 s && Nat.ble (len * s) 4096) with
          | false => rw [hq] at hr; exact (bad_no hr).elim
          | true =>
            rw [hq] at hr
            simp only [Bool.and_eq_true, blt_iff, Nat.ble_eq] at hq
            exact sound_buildSlice T hB hop hpp hd hz hs hq.1 hq.2 hps hr
        · exact (bad_no hr).elim
      · exact (bad_no hr).elim
    · exact (bad_no hr).elim
  | load t x =>
    simp only at hr
    split at hr
    · exact sound_load T hop (hp x (by simp [Op.operands])) ‹_› ‹_› hr
    · exact (bad_no hr).elim
  | store t x y =>
    simp only at hr
    split at hr
    · exact sound_store T hop (hp x (by simp [Op.operands])) (hp y (by simp [Op.operands])) ‹_› hr
    · exact (bad_no hr).elim
  | nilCheck x => exact sound_nil hop (hp x (by simp [Op.operands])) hr
  | binOp op t x y yt =>
    refine sound_bin T hop (hp x (by simp [Op.operands])) (hp y (by simp [Op.operands])) ?_
    simp only at hr
    cases op <;> exact hr
  | unOp op t x =>
    simp only at hr
    split at hr
    · exact sound_not hop (hp x (by simp [Op.operands])) hr
    · exact (bad_no hr).elim
  | convert s t x =>
    have hx := hp x (by simp [Op.operands])
    simp only at hr
    split at hr
    · exact sound_convInt T hop hx ‹_› ‹_› hr
    · exact sound_convSS T hop hx ‹_› ‹_› hr
    · split at hr
      · exact sound_convStr T hB hop hx ‹_› ‹_› ‹_› hr
      · exact (bad_no hr).elim
    · split at hr
      · split at hr
        · exact sound_convBytes T hop hx ‹_› ‹_› ‹_› hr
        · exact (bad_no hr).elim
      · exact (bad_no hr).elim
    · split at hr
      · exact sound_unsafeP T hop hx ‹_› (.inl ⟨‹_›, ‹_›⟩) hr
      · exact (bad_no hr).elim
    · split at hr
      · exact sound_unsafeP T hop hx ‹_› (.inr ⟨‹_›, ‹_›⟩) hr
      · exact (bad_no hr).elim
    · exact (bad_no hr).elim
  | makeInterface t x =>
    simp only at hr
    split at hr
    · exact (bad_no hr).elim
    · rename_i d hni hd
      exact sound_iface T hop (hp x (by simp [Op.operands])) hd (fun ms hq => hni ms hq) hr
    · exact (bad_no hr).elim
  | makeFunc fn f c =>
    simp only at hr
    split at hr
    · exact (bad_no hr).elim
    · rename_i hny
      exact sound_func hop (fun x hx => hp x (by simp [Op.operands]; exact .inl (by simpa using hx))) (fun x hx => hp x (by simp [Op.operands]; exact .inr (by simpa using hx))) (fun l hl => hny l hl) hr
  | makeMap t r =>
    simp only at hr
    split at hr
    · exact sound_map hB hop hr
    · exact (bad_no hr).elim
  | makeSlice t l c =>
    simp only at hr
    split at hr
    · split at hr
      · rename_i e hd _ _ z i hz hi
        cases hq : (Nat.blt 0 i.size && Nat.blt 0 i.bytes && Nat.ble i.bytes 4096) with
        | false => rw [hq] at hr; exact (bad_no hr).elim
        | true =>
          rw [hq] at hr
          simp only [Bool.and_eq_true, blt_iff, Nat.ble_eq] at hq
          exact sound_mkSlice T hB hop (hp l (by simp [Op.operands])) (hp c (by simp [Op.operands])) hd hz hi hq.2 hr
      · exact (bad_no hr).elim
    · exact (bad_no hr).elim
  | slice t x lo hi mx =>
    have hx := hp x (by simp [Op.operands])
    have hlo : ∀ y, lo = some y → plainX N y = true := fun y hy => hp y (by simp [Op.operands, hy])
    have hhi : ∀ y, hi = some y → plainX N y = true := fun y hy => hp y (by simp [Op.operands, hy])
    have hmx : ∀ y, mx = some y → plainX N y = true := fun y hy => hp y (by simp [Op.operands, hy])
    simp only at hr
    split at hr
    · split at hr
      · exact sound_sliceStr T hop hx hlo hhi ‹_› hr
      · exact (bad_no hr).elim
    · split at hr
      · split at hr
        · exact (bad_no hr).elim
        · rename_i s hs _ _ hnm
          cases hq : Nat.blt 0 s with
          | false => rw [hq] at hr; exact (bad_no hr).elim
          | true =>
            rw [hq] at hr
            refine sound_sliceS T hop hx hlo hhi hmx (fun hn => ?_) ‹_› hs (blt_iff.1 hq) hr
            cases mx with
            | none => rfl
            | some m => exact (hnm m hn rfl).elim
      · exact (bad_no hr).elim
    · exact (bad_no hr).elim
  | fieldAddr s x i =>
    simp only at hr
    split at hr
    · split at hr
      · exact sound_fieldAddr T hop (hp x (by simp [Op.operands])) ‹_› ‹_› hr
      · exact (bad_no hr).elim
    · exact (bad_no hr).elim
  | field t x i =>
    simp only at hr
    split at hr
    · split at hr
      · exact sound_field T hop (hp x (by simp [Op.operands])) ‹_› ‹_› ‹_› hr
      · exact (bad_no hr).elim
    · exact (bad_no hr).elim
  | indexAddr t x i =>
    simp only at hr
    split at hr
    · split at hr
      · exact sound_idxA T hop (hp x (by simp [Op.operands])) (hp i (by simp [Op.operands])) ‹_› ‹_› hr
      · exact (bad_no hr).elim
    · split at hr
      · exact sound_idxS T hop (hp x (by simp [Op.operands])) (hp i (by simp [Op.operands])) ‹_› ‹_› hr
      · exact (bad_no hr).elim
    · exact (bad_no hr).elim
  | index t x i =>
    simp only at hr
    split at hr
    · split at hr
      · rename_i d hed hs
        cases hg : isAggD d with
        | true => rw [hg] at hr; exact (bad_no hr).elim
        | false => rw [hg] at hr; exact sound_index1 T hop (hp x (by simp [Op.operands])) (hp i (by simp [Op.operands])) ‹_› hed hg hs hr
      · exact (bad_no hr).elim
    · exact sound_indexStr T hop (hp x (by simp [Op.operands])) (hp i (by simp [Op.operands])) ‹_› hr
    · exact (bad_no hr).elim
  | lookup t x i ok =>
    simp only at hr
    split at hr
    · split at hr
      · exact sound_lookup T hop (hp x (by simp [Op.operands])) (hp i (by simp [Op.operands])) ‹_› ‹_› hr
      · exact (bad_no hr).elim
    · exact (bad_no hr).elim
  | mapUpdate t m k x =>
    simp only at hr
    split at hr
    · exact sound_update T (.inl hop) (hp m (by simp [Op.operands])) (hp k (by simp [Op.operands])) (hp x (by simp [Op.operands])) ‹_› hr
    · exact (bad_no hr).elim
  | insert t m k x =>
    simp only at hr
    split at hr
    · exact sound_update T (.inr hop) (hp m (by simp [Op.operands])) (hp k (by simp [Op.operands])) (hp x (by simp [Op.operands])) ‹_› hr
    · exact (bad_no hr).elim
  | typeAssert x xt t ok =>
    simp only at hr
    split at hr
    · exact sound_assertI T hop (hp x (by simp [Op.operands])) ‹_› ‹_› hr
    · rename_i d z hni hd hz
      exact sound_assertC T hop (hp x (by simp [Op.operands])) hd (fun ms hq => hni ms hq) hz hr
    · exact (bad_no hr).elim
  | extract x i => exact sound_extract hop (hp x (by simp [Op.operands])) hr
  | call c =>
    simp only at hr
    split at hr
    · rename_i b hb
      exact exec_builtin T hB hop hb (fun x hx => hp x (by simp [Op.operands, Call.operands, hb]; simpa using hx)) hr
    · exact (callI_no hr).elim
    · rename_i f hf
      split at hr
      · rename_i g
        cases hg : memN G.ids g with
        | true =>
          rw [hg] at hr
          simp only [cond_true] at hr
          split at hr
          · rename_i x hx
            exact sound_ids T hop hf hx hg (hp x (by simp [Op.operands, Call.operands, hf]; right; have : x ∈ c.args.toList := by rw [hx]; simp
                                                     simpa using this)) hr
          · exact (bad_no hr).elim
        | false => rw [hg] at hr; exact (callF_no hr).elim
      · exact (callV_no hr).elim
  | defer c =>
    simp only at hr
    split at hr
    · exact (defer_no hr).elim
    · exact (bad_no hr).elim
  | panic x => exact (panic_no hr).elim
  | _ => exact (bad_no hr).elim
end
end Go.Clo
namespace Go.Clo

inductive Ctl (o : Oper) : XOp → Prop where
  | callF (c : Call) (f : FuncId) (ho : o.op = .call c) (hc : c.callee = .value (.func f)) : Ctl o (.callF f (c.args.toList.map xo))
  | callV (c : Call) (f : Operand) (ho : o.op = .call c) (hc : c.callee = .value f) : Ctl o (.callV (xo f) (c.args.toList.map xo))
  | callI (c : Call) (r : Operand) (nm : String) (ho : o.op = .call c) (hc : c.callee = .invoke r nm) : Ctl o (.callI (xo r) nm (c.args.toList.map xo))
  | recover (c : Call) (ho : o.op = .call c) (hc : c.callee = .builtin .recover) : Ctl o .recover
  | defer (c : Call) (f : Operand) (ho : o.op = .defer c) (hc : c.callee = .value f) : Ctl o (.deferV (xo f) (c.args.toList.map xo))
  | panic (x : Operand) (ho : o.op = .panic x) : Ctl o (.panic (xo x))
  | panicB (c : Call) (x : Operand) (ho : o.op = .call c) (hc : c.callee = .builtin .panic) (ha : c.args.toList = [x]) : Ctl o (.panic (xo x))
theorem xcall_ctl {G : Tab} {o : Oper} {c : Call} {b : Builtin} {X : XOp} (ho : o.op = .call c) (hb : c.callee = .builtin b) (hX : xcall G b c.argTypes.toList c.args.toList = X) (hctl : isCtl X = true) : Ctl o X := by
  generalize hargs : c.args.toList = args at hX
  generalize c.argTypes.toList = ats at hX
  unfold xcall at hX
  split at hX
  case h_9 => subst hX; exact .recover c ho hb
  case h_10 => subst hX; exact .panicB c _ ho hb hargs
  all_goals
    exfalso
    repeat' (first | (subst hX; simp [isCtl] at hctl; done) | split at hX)
    all_goals
      subst hX
      revert hctl
      first
        | (generalize (_ && _ && _ : Bool) = q; cases q <;> (intro hctl; simp [isCtl] at hctl; done))
        | (generalize Nat.blt _ _ = q; cases q <;> (intro hctl; simp [isCtl] at hctl; done))
theorem xop_ctl {G : Tab} {o : Oper} {X : XOp} (hX : xop G o = X) (hctl : isCtl X = true) : Ctl o X := by
  generalize hop : o.op = op
  unfold xop at hX
  rw [hop] at hX
  cases op with
  | call c =>
    simp only at hX
    split at hX
    · rename_i b hb
      exact xcall_ctl hop hb hX hctl
    · subst hX; exact .callI c _ _ hop ‹_›
    · rename_i f hf
      split at hX
      · rename_i g
        cases hg : memN G.ids g with
        | true =>
          rw [hg] at hX
          simp only [cond_true] at hX
          split at hX <;> (subst hX; simp [isCtl] at hctl)
        | false =>
          rw [hg] at hX
          subst hX
          exact .callF c g hop hf
      · subst hX; exact .callV c _ hop hf
  | defer c =>
    simp only at hX
    split at hX
    · subst hX; exact .defer c _ hop ‹_›
    · subst hX; simp [isCtl] at hctl
  | panic x => subst hX; exact .panic x hop
  | _ =>
    exfalso
    simp only at hX
    repeat' (first | (subst hX; simp [isCtl] at hctl; done) | split at hX)
    all_goals
      subst hX
      revert hctl
      first
        | (generalize (_ && _ : Bool) = q; cases q <;> (intro hctl; simp [isCtl] at hctl; done))
        | (generalize isAggD _ = q; cases q <;> (intro hctl; simp [isCtl] at hctl; done))
        | (generalize Nat.blt _ _ = q; cases q <;> (intro hctl; simp [isCtl] at hctl; done))
end Go.Clo
namespace Go.Clo

/-- two environments that agree on S -/
def Agree (S : Nat → Prop) (ρ ρ' : Env) : Prop := ∀ k, S k → ρ'.loc k = ρ.loc k ∧ ρ'.cap k = ρ.cap k ∧ ρ'.off k = ρ.off k
theorem Agree.refl (S : Nat → Prop) (ρ : Env) : Agree S ρ ρ := fun _ _ => ⟨rfl, rfl, rfl⟩
theorem Agree.trans {S S' : Nat → Prop} {a b c : Env} (h : Agree S a b) (h2 : Agree S' b c) (hm : ∀ k, S k → S' k) : Agree S a c := fun k hk => by
  have h1 := h k hk
  have h2 := h2 k (hm k hk)
  exact ⟨h2.1.trans h1.1, h2.2.1.trans h1.2.1, h2.2.2.trans h1.2.2⟩
theorem Agree.mono {S S' : Nat → Prop} {a b : Env} (h : Agree S' a b) (hm : ∀ k, S k → S' k) : Agree S a b := fun k hk => h k (hm k hk)
/-- with the numbers from n on, below n' -/
def ext (S : Nat → Prop) (n n' : Nat) : Nat → Prop := fun k => S k ∨ (n ≤ k ∧ k < n')
theorem ext_sub {S : Nat → Prop} {n n' : Nat} : ∀ k, S k → ext S n n' k := fun _ h => .inl h
theorem ext_ext {S : Nat → Prop} {n n1 n2 : Nat} (h1 : n ≤ n1) (h2 : n1 ≤ n2) : ext (ext S n n1) n1 n2 = ext S n n2 := by
  funext k
  simp only [ext]
  apply propext
  constructor
  · rintro ((h | h) | h)
    · exact .inl h
    · exact .inr (by omega)
    · exact .inr (by omega)
  · rintro (h | h)
    · exact .inl (.inl h)
    · by_cases h3 : k < n1
      · exact .inl (.inr (by omega))
      · exact .inr (by omega)
theorem ext_self {S : Nat → Prop} {n : Nat} : ext S n n = S := by
  funext k
  simp only [ext]
  apply propext
  constructor
  · rintro (h | h)
    · exact h
    · omega
  · exact .inl
theorem ext_lt {S : Nat → Prop} {n n' : Nat} (hS : ∀ k, S k → k < n) (hn : n ≤ n') : ∀ k, ext S n n' k → k < n' := fun k h => by
  rcases h with h | h
  · have := hS k h; omega
  · exact h.2
/-- the environment with one more place -/
def Env.put (ρ : Env) (n a b c : Nat) : Env := ⟨fun k => if k = n then a else ρ.loc k, fun k => if k = n then b else ρ.cap k, fun k => if k = n then c else ρ.off k⟩
theorem Env.agree_put {S : Nat → Prop} (ρ : Env) {n : Nat} (a b c : Nat) (hS : ∀ k, S k → k < n) : Agree S ρ (ρ.put n a b c) := fun k hk => by
  have : k ≠ n := Nat.ne_of_lt (hS k hk)
  simp [Env.put, this]

/-- what stays of a frame -/
structure Fra where
  fn : FuncId
  kind : CallKind
  rd : Option Nat
def Fra.at (s : Fra) (a : Array Value) (ds : List Deferred) (k : List Item) : Frame := { fn := s.fn, tmps := a, todo := k, defers := ds, mode := .run, kind := s.kind, roundOf := s.rd }
/-- the callers, the mode of the nearest one laid anew -/
def withM (M : Option FrameMode) (cs : List Frame) : List Frame := match M, cs with
  | some m, c :: r => { c with mode := m } :: r
  | _, cs => cs
@[simp] theorem withM_none (cs : List Frame) : withM none cs = cs := rfl
@[simp] theorem withM_some (m : FrameMode) (c : Frame) (r : List Frame) : withM (some m) (c :: r) = { c with mode := m } :: r := rfl
def upM (ρ : Env) : Up → Option FrameMode
  | .no => none
  | .quiet => some .returning
  | .chain v r => some (.panicking [⟨rlV ρ v, r, false⟩])
def UpK : Up → CallKind → List Frame → Prop
  | .no, k, _ => k = .normal
  | _, k, cs => k = .deferred ∧ cs ≠ []
def rlG (ρ : Env) : Target → Target
  | .fn f c => .fn (rlF ρ f) (rlR ρ c)
  | .collected b => .collected (rlB ρ b)
  | t => t
def rlD (ρ : Env) (d : Deferred) : Deferred := ⟨rlG ρ d.target, rlR ρ d.args⟩

/-- the slots in T hold what the machine's hold -/
def ActOn (T : Nat → Prop) (ρ : Env) (N : Nat) (tm : TV) (a : Array Value) : Prop := a.size = N ∧ ∀ t, t < N → T t → a[t]? = some (rlV ρ (getV (Pa.of t) tm))
def AllT : Nat → Prop := fun _ => True
theorem actOn_all {ρ : Env} {N : Nat} {tm : TV} {a : Array Value} : ActOn AllT ρ N tm a ↔ ActEq ρ N tm a := ⟨fun h => ⟨h.1, fun t ht => h.2 t ht trivial⟩, fun h => ⟨h.1, fun t ht _ => h.2 t ht⟩⟩
/-- a frame's state -/
structure StT (T : Nat → Prop) (P : Program) (G : Tab) (B0 N : Nat) (s : Fra) (cs : List Frame) (ρ : Env) (S : Nat → Prop) (tm : TV) (fx : Fx) (h : TH) (n : Nat) (a : Array Value) (DS : List Deferred) (M : Option FrameMode) (w : World) : Prop where
  lt : ∀ k, S k → k < n
  all : ∀ ρ', Agree S ρ ρ' → ActOn T ρ' N tm a ∧ WEq ρ' G B0 h n w ∧ DS = fx.ds.map (rlD ρ') ∧ M = upM ρ' fx.up ∧ s.rd = fx.round.map (rlB ρ')
  base : B0 ≤ w.heap.size
  kind : UpK fx.up s.kind cs
  nor : ∀ l, fx.round = some l → fx.ds = [] ∧ fx.up = .no ∧ O ≤ l
  fn : ∃ F, P.funcs[s.fn]? = some F
  fnG : ∃ F, G.ff.get s.fn = some F
abbrev St := StT AllT

section
variable {P : Program} {G : Tab} {B0 N : Nat} {h h' : TH} {n n' : Nat} {w w' w'' : World} {T S : Nat → Prop}
theorem KeepEq.trans {ρ : Env} {h1 h2 h3 : TH} (hK : KeepEq ρ h1 h2 w w') (hL : KeepEq ρ h2 h3 w' w'') : KeepEq ρ h1 h3 w w'' := by
  refine ⟨Nat.le_trans hK.size hL.size, hL.os.trans hK.os, hL.out.trans hK.out, hL.tape.trans hK.tape, fun b hb hn => ?_⟩
  have q1 := hK.rest b hb hn
  have q2 := hL.rest b (Nat.lt_of_lt_of_le hb hK.size) q1.2
  exact ⟨q2.1.trans q1.1, q2.2⟩
theorem StT.W {s : Fra} {cs : List Frame} {ρ : Env} {tm : TV} {fx : Fx} {a : Array Value} {DS : List Deferred} {M : Option FrameMode} (hS : StT T P G B0 N s cs ρ S tm fx h n a DS M w) : WEq ρ G B0 h n w := (hS.all ρ (.refl _ _)).2.1
theorem StT.A {s : Fra} {cs : List Frame} {ρ : Env} {tm : TV} {fx : Fx} {a : Array Value} {DS : List Deferred} {M : Option FrameMode} (hS : StT T P G B0 N s cs ρ S tm fx h n a DS M w) : ActOn T ρ N tm a := (hS.all ρ (.refl _ _)).1
theorem StT.E {s : Fra} {cs : List Frame} {ρ : Env} {tm : TV} {fx : Fx} {a : Array Value} {DS : List Deferred} {M : Option FrameMode} (hS : St P G B0 N s cs ρ S tm fx h n a DS M w) {ρ' : Env} (hA : Agree S ρ ρ') : ActEq ρ' N tm a := actOn_all.1 (hS.all ρ' hA).1
end

/-- from m, some state is reached -/
def EndsT (T : Nat → Prop) (P : Program) (G : Tab) (B0 N : Nat) (s : Fra) (cs : List Frame) (m : Machine) (ρ : Env) (S : Nat → Prop) (fx0 : Fx) (h0 : TH) (n0 : Nat) (w0 : World) (tm : TV) (fx : Fx) (h : TH) (n : Nat)
    (K : Env → Array Value → List Deferred → Frame → Prop) : Prop :=
  ∃ ρ1 a ds M w fr, Agree S ρ ρ1 ∧ n0 ≤ n ∧ fx.round = fx0.round ∧ StT T P G B0 N s cs ρ1 (ext S n0 n) tm fx h n a ds M w ∧ (∀ ρ', Agree (ext S n0 n) ρ1 ρ' → KeepEq ρ' h0 h w0 w) ∧ K ρ1 a ds fr ∧ Steps P m (lone fr (withM M cs) w)
abbrev Ends := EndsT AllT
/-- a value that is the same in all environments that agree -/
def Same (S : Nat → Prop) (ρ : Env) (v V : Value) : Prop := ∀ ρ', Agree S ρ ρ' → rlV ρ' v = V
def KNorm (s : Fra) (k : List Item) : Env → Array Value → List Deferred → Frame → Prop := fun _ a ds fr => fr = s.at a ds k
def KExit (s : Fra) (k : List Item) (id : Nat) : Env → Array Value → List Deferred → Frame → Prop := fun _ a ds fr => ∃ k', exitTo id k' = exitTo id k ∧ fr = s.at a ds (.code (.exit id) :: k')
def KRet (s : Fra) : Env → Array Value → List Deferred → Frame → Prop := fun _ a ds fr => ∃ k', fr = s.at a ds (.code .ret :: k')
/-- the slots do not matter where no deferred call is left -/
def KPanic (T : Nat → Prop) (s : Fra) (v : Value) (S : Nat → Prop) : Env → Array Value → List Deferred → Frame → Prop := fun ρ a ds fr => ∃ k' V, Same S ρ v V ∧ (T = AllT ∨ ds = []) ∧ fr = { s.at a ds k' with mode := .panicking [⟨V, false, false⟩] }
/-- what the machine tells of m holds of it -/
def ResSim (P : Program) (G : Tab) (B0 N : Nat) (s : Fra) (cs : List Frame) (m : Machine) (ρ : Env) (S : Nat → Prop) (fx0 : Fx) (h0 : TH) (n0 : Nat) (w0 : World) (k : List Item) : Res → Prop
  | .normal tm fx h n => Ends P G B0 N s cs m ρ S fx0 h0 n0 w0 tm fx h n (KNorm s k)
  | .exit id tm fx h n => Ends P G B0 N s cs m ρ S fx0 h0 n0 w0 tm fx h n (KExit s k id)
  | .ret tm fx h n => Ends P G B0 N s cs m ρ S fx0 h0 n0 w0 tm fx h n (KRet s)
  | .panic v tm fx h n => ∃ T, EndsT T P G B0 N s cs m ρ S fx0 h0 n0 w0 tm fx h n (KPanic T s v (ext S n0 n))
  | .fail _ => True

section
variable {P : Program} {G : Tab} {B0 N : Nat} {s : Fra} {cs : List Frame} {m m1 : Machine} {ρ ρ1 : Env} {S T T1 : Nat → Prop} {fx0 fx1 : Fx} {h0 h1 : TH} {n0 n1 : Nat} {w0 w1 : World} {tm1 : TV} {a1 : Array Value} {ds1 : List Deferred} {M1 : Option FrameMode}
theorem EndsT.comp {tm : TV} {fx : Fx} {h : TH} {n : Nat} {K : Env → Array Value → List Deferred → Frame → Prop} (hA : Agree S ρ ρ1) (hn : n0 ≤ n1) (hr : fx1.round = fx0.round)
    (hK : ∀ ρ', Agree (ext S n0 n1) ρ1 ρ' → KeepEq ρ' h0 h1 w0 w1) (hs : Steps P m m1) (hE : EndsT T P G B0 N s cs m1 ρ1 (ext S n0 n1) fx1 h1 n1 w1 tm fx h n K) : EndsT T P G B0 N s cs m ρ S fx0 h0 n0 w0 tm fx h n K := by
  obtain ⟨ρ2, a, ds, M, w, fr, hA2, hn2, hr2, hS2, hK2, hKK, hs2⟩ := hE
  rw [ext_ext hn hn2] at hS2 hK2
  have hsub : ∀ k, ext S n0 n1 k → ext S n0 n k := fun k hk => hk.imp id fun h => ⟨h.1, by omega⟩
  exact ⟨ρ2, a, ds, M, w, fr, hA.trans hA2 ext_sub, Nat.le_trans hn hn2, hr2.trans hr, hS2, fun ρ' hA' => (hK ρ' (hA2.trans hA' hsub)).trans (hK2 ρ' hA'), hKK, hs.trans hs2⟩
theorem ResSim.comp {k : List Item} {R : Res} (hA : Agree S ρ ρ1) (hn : n0 ≤ n1) (hr : fx1.round = fx0.round)
    (hK : ∀ ρ', Agree (ext S n0 n1) ρ1 ρ' → KeepEq ρ' h0 h1 w0 w1) (hs : Steps P m m1) (hE : ResSim P G B0 N s cs m1 ρ1 (ext S n0 n1) fx1 h1 n1 w1 k R) : ResSim P G B0 N s cs m ρ S fx0 h0 n0 w0 k R := by
  cases R with
  | fail _ => trivial
  | normal tm fx h n => exact EndsT.comp hA hn hr hK hs hE
  | exit id tm fx h n => exact EndsT.comp hA hn hr hK hs hE
  | ret tm fx h n => exact EndsT.comp hA hn hr hK hs hE
  | panic v tm fx h n =>
    obtain ⟨T, hE'⟩ := hE
    have hn2 : n1 ≤ n := hE'.choose_spec.choose_spec.choose_spec.choose_spec.choose_spec.choose_spec.2.1
    rw [ext_ext hn hn2] at hE'
    exact ⟨T, EndsT.comp hA hn hr hK hs hE'⟩
theorem EndsT.mono {tm : TV} {fx : Fx} {h : TH} {n : Nat} {K K' : Env → Array Value → List Deferred → Frame → Prop} (hK : ∀ ρ a ds fr, K ρ a ds fr → K' ρ a ds fr) (hE : EndsT T P G B0 N s cs m ρ S fx0 h0 n0 w0 tm fx h n K) : EndsT T P G B0 N s cs m ρ S fx0 h0 n0 w0 tm fx h n K' :=
  let ⟨ρ2, a, ds, M, w, fr, h1, h2, h3, h4, h5, h6, h7⟩ := hE
  ⟨ρ2, a, ds, M, w, fr, h1, h2, h3, h4, h5, hK _ _ _ _ h6, h7⟩
theorem EndsT.of_steps {tm : TV} {fx : Fx} {h : TH} {n : Nat} {K : Env → Array Value → List Deferred → Frame → Prop} (hs : Steps P m m1) (hE : EndsT T P G B0 N s cs m1 ρ S fx0 h0 n0 w0 tm fx h n K) : EndsT T P G B0 N s cs m ρ S fx0 h0 n0 w0 tm fx h n K :=
  let ⟨ρ2, a, ds, M, w, fr, h1, h2, h3, h4, h5, h6, h7⟩ := hE
  ⟨ρ2, a, ds, M, w, fr, h1, h2, h3, h4, h5, h6, hs.trans h7⟩
theorem ResSim.of_steps {k : List Item} {R : Res} (hs : Steps P m m1) (hE : ResSim P G B0 N s cs m1 ρ S fx0 h0 n0 w0 k R) : ResSim P G B0 N s cs m ρ S fx0 h0 n0 w0 k R := by
  cases R with
  | fail _ => trivial
  | normal tm fx h n => exact EndsT.of_steps hs hE
  | exit id tm fx h n => exact EndsT.of_steps hs hE
  | ret tm fx h n => exact EndsT.of_steps hs hE
  | panic v tm fx h n => exact ⟨_, EndsT.of_steps hs hE.choose_spec⟩
/-- leaving by another way than the end: what is left to do does not matter but for the blocks -/
theorem ResSim.pass {k k1 : List Item} {R : Res} (hk : ∀ id, exitTo id k1 = exitTo id k) (hn : ∀ tm fx h n, R ≠ .normal tm fx h n) (hE : ResSim P G B0 N s cs m ρ S fx0 h0 n0 w0 k1 R) : ResSim P G B0 N s cs m ρ S fx0 h0 n0 w0 k R := by
  cases R with
  | fail _ => trivial
  | normal tm fx h n => exact absurd rfl (hn tm fx h n)
  | exit id tm fx h n => exact EndsT.mono (fun _ _ _ _ ⟨k', h1, h2⟩ => ⟨k', h1.trans (hk id), h2⟩) hE
  | ret tm fx h n => exact hE
  | panic v tm fx h n => exact hE

/-! the single steps -/
variable {a : Array Value} {ds : List Deferred} {k : List Item} {w : World}
theorem eval_at (x : Operand) : (s.at a ds k).eval x = Ev a x := by rw [frame_Ev]; rfl
theorem stepC_skip : step P (lone (s.at a ds (.code .skip :: k)) cs w) = .next (lone (s.at a ds k) cs w) := step_lone_go (by simp [stepG, stepG.exec, Fra.at])
theorem stepC_label {l : Nat} : step P (lone (s.at a ds (.code (.label l) :: k)) cs w) = .next (lone (s.at a ds k) cs w) := step_lone_go (by simp [stepG, stepG.exec, Fra.at])
theorem stepC_inBlock {id : Nat} : step P (lone (s.at a ds (.inBlock id :: k)) cs w) = .next (lone (s.at a ds k) cs w) := step_lone_go (by simp [stepG, stepG.exec, Fra.at])
theorem stepC_inScope {c : Code} : step P (lone (s.at a ds (.inScope c :: k)) cs w) = .next (lone (s.at a ds k) cs w) := step_lone_go (by simp [stepG, stepG.exec, Fra.at])
theorem stepC_scope {c : Code} : step P (lone (s.at a ds (.code (.scope c) :: k)) cs w) = .next (lone (s.at a ds (.code c :: .inScope c :: k)) cs w) := step_lone_go (by simp [stepG, stepG.exec, Fra.at])
theorem stepC_seq {x y : Code} : step P (lone (s.at a ds (.code (.seq x y) :: k)) cs w) = .next (lone (s.at a ds (.code x :: .code y :: k)) cs w) := step_lone_go (by simp [stepG, stepG.exec, Fra.at])
theorem stepC_cond {c : Operand} {x y : Code} {t : Bool} (h : Ev a c = .bool t) : step P (lone (s.at a ds (.code (.cond c x y) :: k)) cs w) = .next (lone (s.at a ds (.code (if t then x else y) :: k)) cs w) :=
  step_lone_go (by
    have := eval_at (s := s) (a := a) (ds := ds) (k := .code (.cond c x y) :: k) c
    simp only [Fra.at] at this
    simp [stepG, stepG.exec, Fra.at, this, h])
theorem stepC_block {id : Nat} {c : Code} : step P (lone (s.at a ds (.code (.block id c) :: k)) cs w) = .next (lone (s.at a ds (.code c :: .inBlock id :: k)) cs w) := step_lone_go (by simp [stepG, stepG.exec, Fra.at])
theorem stepC_loop {c : Code} : step P (lone (s.at a ds (.code (.loop c) :: k)) cs w) = .next (lone (s.at a ds (.code c :: .inLoop c :: k)) cs w) := step_lone_go (by simp [stepG, stepG.exec, Fra.at])
theorem stepC_inLoop {c : Code} : step P (lone (s.at a ds (.inLoop c :: k)) cs w) = .next (lone (s.at a ds (.code c :: .inLoop c :: k)) cs w) := step_lone_go (by simp [stepG, stepG.exec, Fra.at])
theorem stepC_exit {id : Nat} {k' : List Item} (h : exitTo id k = some k') : step P (lone (s.at a ds (.code (.exit id) :: k)) cs w) = .next (lone (s.at a ds k') cs w) := step_lone_go (by simp [stepG, stepG.exec, Fra.at, h])
theorem stepC_ret (hr : s.rd = none) : step P (lone (s.at a ds (.code .ret :: k)) cs w) = .next (lone { s.at a ds (.code .ret :: k) with mode := .returning } cs w) := step_lone_go (by simp [stepG, stepG.exec, Fra.at, hr])
theorem stepC_end (hr : s.rd = none) : step P (lone (s.at a ds []) cs w) = .next (lone { s.at a ds [] with mode := .returning } cs w) := step_lone_go (by simp [stepG, stepG.exec, Fra.at, hr])
theorem stepC_region {id : Nat} {ops : Array Oper} : step P (lone (s.at a ds (.code (.region id ops false) :: k)) cs w) = .next (lone (s.at a ds (.inRegion ops (List.range ops.size) :: k)) cs w) :=
  step_lone_go (by simp [stepG, stepG.exec, Fra.at])
theorem stepC_draw {id : Nat} {ops : Array Oper} : step P (lone (s.at a ds (.code (.region id ops true) :: k)) cs w) =
    .next (lone (s.at a ds (.inRegion ops (Region.schedule (P.follows .mixedOrders) ops (w.tape w.drawn (.order s.fn id))) :: k)) cs { w with drawn := w.drawn + 1 }) :=
  step_lone_go (by simp [stepG, stepG.exec, Fra.at, choose, Sem.run, Question.forced, Question.cut])
theorem stepC_regionEnd {ops : Array Oper} : step P (lone (s.at a ds (.inRegion ops [] :: k)) cs w) = .next (lone (s.at a ds k) cs w) := step_lone_go (by simp [stepG, stepG.exec, Fra.at])
end
end Go.Clo
namespace Go.Clo

def NF (R : Res) : Prop := ∀ why, R ≠ .fail why
def Enters (P : Program) (f : FuncId) : Prop := ∀ A w, (callFunc f A).run P w = .ok (.enter f A) w
structure LeaveR (P : Program) (f : FuncId) (kind : CallKind) (fr : Frame) (V : Value) (w : World) : Prop where
  mode : fr.mode = .returning
  defers : fr.defers = []
  kind : fr.kind = kind
  fid : fr.fn = f
  fn : ∃ fn, P.funcs[fr.fn]? = some fn ∧ (results fn fr.tmps).run P w = .ok V w
structure LeaveP (P : Program) (fr : Frame) (V : Value) (w : World) : Prop where
  mode : fr.mode = .panicking [⟨V, false, false⟩]
  defers : fr.defers = []
  fn : ∃ fn, P.funcs[fr.fn]? = some fn
def CallIn (G : Tab) (B0 : Nat) (ρ : Env) (S : Nat → Prop) (args : List Value) (up : Up) (h : TH) (n : Nat) (A : Array Value) (M : Option FrameMode) (w : World) : Prop :=
  ∀ ρ', Agree S ρ ρ' → A = ⟨args.map (rlV ρ')⟩ ∧ WEq ρ' G B0 h n w ∧ M = upM ρ' up
def CallOut (G : Tab) (B0 : Nat) (ρ : Env) (S : Nat → Prop) (v : Value) (u : Up) (h : TH) (n : Nat) (V : Value) (M : Option FrameMode) (w : World) : Prop :=
  ∀ ρ', Agree S ρ ρ' → V = rlV ρ' v ∧ WEq ρ' G B0 h n w ∧ M = upM ρ' u
def CallTo (P : Program) (G : Tab) (B0 : Nat) (f : FuncId) (A : Array Value) (kind : CallKind) (M : Option FrameMode) (cs : List Frame) (ρ : Env) (S : Nat → Prop) (h : TH) (n : Nat) (w : World) (v : Value) (u : Up) (h' : TH) (n' : Nat)
    (L : Frame → Value → World → Prop) : Prop :=
  ∃ ρ1 V M' w' fr, Agree S ρ ρ1 ∧ n ≤ n' ∧ CallOut G B0 ρ1 (ext S n n') v u h' n' V M' w' ∧ (∀ ρ', Agree (ext S n n') ρ1 ρ' → KeepEq ρ' h h' w w') ∧ L fr V w' ∧ Steps P (lone (Frame.enter P f A kind) (withM M cs) w) (lone fr (withM M' cs) w')
def CallSim (P : Program) (G : Tab) (B0 : Nat) (f : FuncId) (args : List Value) (up : Up) (h : TH) (n : Nat) (r : CRes) (u : Up) : Prop :=
  ∀ ρ S kind cs A M w, (∀ k, S k → k < n) → CallIn G B0 ρ S args up h n A M w → B0 ≤ w.heap.size → UpK up kind cs → UpK u kind cs ∧ match r with
    | .ret v h' n' => CallTo P G B0 f A kind M cs ρ S h n w v u h' n' (LeaveR P f kind)
    | .panic v h' n' => CallTo P G B0 f A kind M cs ρ S h n w v u h' n' (LeaveP P)
    | .fail _ => False
/-- the calls that the machine makes are the program's -/
def CFok (P : Program) (G : Tab) (B0 : Nat) (cf : CF) : Prop :=
  ∀ f args up h n κ R, cf f args up h n κ = R → NF R → Enters P f ∧ ∃ r u, κ r u = R ∧ CallSim P G B0 f args up h n r u

def RoundIn (G : Tab) (B0 : Nat) (ρ : Env) (S : Nat → Prop) (l : Nat) (args : List Value) (h : TH) (n : Nat) (L : Nat) (A : Array Value) (w : World) : Prop :=
  ∀ ρ', Agree S ρ ρ' → A = ⟨args.map (rlV ρ')⟩ ∧ WEq ρ' G B0 h n w ∧ L = rlB ρ' l
def RoundTo (P : Program) (G : Tab) (B0 : Nat) (fr0 : Frame) (cs0 : List Frame) (ρ : Env) (S : Nat → Prop) (h : TH) (n : Nat) (w : World) (v : Value) (h' : TH) (n' : Nat) (fr : Value → Frame) (cs : List Frame) : Prop :=
  ∃ ρ1 V w', Agree S ρ ρ1 ∧ n ≤ n' ∧ CallOut G B0 ρ1 (ext S n n') v .no h' n' V none w' ∧ (∀ ρ', Agree (ext S n n') ρ1 ρ' → KeepEq ρ' h h' w w') ∧ Steps P (lone fr0 cs0 w) (lone (fr V) cs w')
def YSim (P : Program) (G : Tab) (B0 : Nat) (l : Nat) (args : List Value) (h : TH) (n : Nat) (r : CRes) : Prop :=
  ∀ ρ S c cs A L w, (∀ k, S k → k < n) → RoundIn G B0 ρ S l args h n L A w → B0 ≤ w.heap.size → ∃ f tmps assign body, (Instr.yield L A).run P w = .ok (.round L f tmps assign body) w ∧ match r with
    | .ret v h' n' => RoundTo P G B0 (Frame.round L f tmps assign body .normal) (c :: cs) ρ S h n w v h' n' c.finish cs
    | .panic v h' n' => RoundTo P G B0 (Frame.round L f tmps assign body .normal) (c :: cs) ρ S h n w v h' n' (fun V => c.raise [⟨V, false, false⟩]) cs
    | .fail _ => False
def YFok (P : Program) (G : Tab) (B0 : Nat) (yf : YF) : Prop :=
  ∀ l args h n κ R, yf l args h n κ = R → NF R → ∃ r, κ r = R ∧ YSim P G B0 l args h n r

section
variable {P : Program} {G : Tab} {B0 N : Nat} {s : Fra} {cs : List Frame} {ρ : Env} {tm : TV} {fx : Fx} {h : TH} {n : Nat} {a : Array Value} {DS : List Deferred} {M : Option FrameMode} {w : World} {k : List Item}
  {ops : Array Oper} {i : Nat} {rest : List Nat} {o : Oper}

def putT (d : Option Pa) (tm : TV) (v : Value) : TV := match d with
  | some p => setT p tm v
  | none => tm
theorem setD_eq (d : Option Pa) (tm : TV) (v : Value) (κ : TV → Res) : setD d tm v κ = κ (putT d tm v) := by
  cases d with
  | none => rfl
  | some p => exact setV_eq p tm v κ
def putA (d : Option Tmp) (a : Array Value) (v : Value) : Array Value := match d with
  | some d => a.setIfInBounds d v
  | none => a
theorem ActOn.put {T : Nat → Prop} (hA : ActOn T ρ N tm a) {d : Option Tmp} (hd : okDst N d = true) (v : Value) : ActOn (fun t => T t ∨ d = some t) ρ N (putT (d.map Pa.of) tm v) (putA d a (rlV ρ v)) := by
  cases d with
  | none => exact ⟨hA.1, fun t ht hT => hA.2 t ht (hT.resolve_right nofun)⟩
  | some d =>
    have hd' : d < N := by simpa [okDst] using hd
    refine ⟨by simp [putA, hA.1], fun t ht hT => ?_⟩
    simp only [putA, putT, Option.map_some]
    rw [getV_setT]
    by_cases hq : d = t
    · subst hq
      rw [if_pos rfl, Array.getElem?_setIfInBounds_self_of_lt (by rw [hA.1]; exact ht)]
    · rw [if_neg fun e => hq (Pa.of_inj e), Array.getElem?_setIfInBounds_ne hq]
      exact hA.2 t ht (hT.resolve_right fun e => hq (Option.some.inj e))
theorem ActEq.put (hA : ActEq ρ N tm a) {d : Option Tmp} (hd : okDst N d = true) (v : Value) : ActEq ρ N (putT (d.map Pa.of) tm v) (putA d a (rlV ρ v)) := by
  have := (actOn_all.2 hA).put hd v
  exact ⟨this.1, fun t ht => this.2 t ht (.inl trivial)⟩
theorem Same.of {S : Nat → Prop} {ρ : Env} {v V : Value} (h : Same S ρ v V) : rlV ρ v = V := h ρ (.refl _ _)
/-- a value laid into a slot -/
theorem StT.put {T S : Nat → Prop} (hS : StT T P G B0 N s cs ρ S tm fx h n a DS M w) {d : Option Tmp} (hd : okDst N d = true) {v V : Value} (hv : Same S ρ v V) : StT (fun t => T t ∨ d = some t) P G B0 N s cs ρ S (putT (d.map Pa.of) tm v) fx h n (putA d a V) DS M w := by
  refine ⟨hS.lt, fun ρ' hA => ?_, hS.base, hS.kind, hS.nor, hS.fn, hS.fnG⟩
  obtain ⟨h1, h2⟩ := hS.all ρ' hA
  refine ⟨?_, h2⟩
  rw [← hv ρ' hA]
  exact h1.put hd v
theorem StT.mono {T T' S : Nat → Prop} (hS : StT T P G B0 N s cs ρ S tm fx h n a DS M w) (hT : ∀ t, T' t → T t) : StT T' P G B0 N s cs ρ S tm fx h n a DS M w :=
  ⟨hS.lt, fun ρ' hA => let ⟨h1, h2⟩ := hS.all ρ' hA; ⟨⟨h1.1, fun t ht hx => h1.2 t ht (hT t hx)⟩, h2⟩, hS.base, hS.kind, hS.nor, hS.fn, hS.fnG⟩
theorem finish_op (ho : ops[i]? = some o) (v : Value) : (s.at a DS (.inRegion ops (i :: rest) :: k)).finish v = s.at (putA o.dst a v) DS (.inRegion ops rest :: k) := by
  cases hd : o.dst <;> simp [Frame.finish, Fra.at, putA, ho, hd]
theorem stepC_opSkip (ho : ops[i]? = some o) (hw : Region.wanted o (yielded ops a) = false) :
    step P (lone (s.at a DS (.inRegion ops (i :: rest) :: k)) cs w) = .next (lone (s.at (putA o.dst a undef) DS (.inRegion ops rest :: k)) cs w) := by
  rw [← finish_op ho]
  exact step_lone_go (by simp [stepG, stepG.exec, Fra.at, ho, hw])
theorem stepG_opC (ho : ops[i]? = some o) (hw : Region.wanted o (yielded ops a) = true) (hd : s.rd = none ∨ ∀ c, o.op ≠ .defer c) :
    stepG P true { frame := s.at a DS (.inRegion ops (i :: rest) :: k), callers := cs, status := .running, dying := none } w =
      stepG.apply P true (s.at a DS (.inRegion ops (i :: rest) :: k)) cs none (execOp (Ev a) o) w := by
  have he : (s.at a DS (.inRegion ops (i :: rest) :: k)).eval = Ev a := frame_Ev _
  simp only [Fra.at] at he
  rcases hd with hd | hd
  · rw [hd] at he
    simp [stepG, stepG.exec, stepG.oper, Frame.oper?, Fra.at, ho, hw, he, hd]
  · simp only [stepG, stepG.exec, stepG.oper, Frame.oper?, Fra.at, ho, hw, he, Option.map_some, Option.getD_some, if_true]
    split
    · rename_i c _ hc
      exact absurd hc (hd _)
    · rfl
theorem stepC_opVal (ho : ops[i]? = some o) (hw : Region.wanted o (yielded ops a) = true) (hd : s.rd = none ∨ ∀ c, o.op ≠ .defer c) {x : Go.Next} {v : Value} {w' : World}
    (hr : (execOp (Ev a) o).run P w = .ok x w') (hx : NextIs x v) :
    step P (lone (s.at a DS (.inRegion ops (i :: rest) :: k)) cs w) = .next (lone (s.at (putA o.dst a v) DS (.inRegion ops rest :: k)) cs w') := by
  rw [← finish_op ho]
  refine step_lone_go ?_
  rw [stepG_opC ho hw hd]
  rcases hx with rfl | ⟨rfl, rfl⟩
  · simp [stepG.apply, hr]
  · simp [stepG.apply, hr]
/-- does the guard let the operation be done? -/
theorem wanted_eq {T : Nat → Prop} {N : Nat} {tm : TV} (hA : ActOn T ρ N tm a) {j d : Nat} {want : Bool} {p : Oper} (hg : o.guard = some (j, want)) (hp : ops[j]? = some p) (hpd : p.dst = some d) (hd : d < N) (hT : T d) :
    Region.wanted o (yielded ops a) = (match getV (Pa.of d) tm with | .bool b => b == want | _ => false) := by
  have := hA.2 d hd hT
  generalize getV (Pa.of d) tm = gv at this
  cases gv <;> simp [Region.wanted, hg, yielded, hp, hpd, this, rlV]
end
end Go.Clo
namespace Go.Clo

section
variable {P : Program} {G : Tab} {B0 N : Nat} {o : Oper} {tm : TV} {h : TH} {n : Nat} {a : Array Value} {w : World} {ρ : Env}
theorem ctl_of {X : XOp} {r : OR} (hr : execX G X tm h n = r) (hq : ¬ Qt r) : isCtl X = true := by
  cases hc : isCtl X with
  | true => rfl
  | false => exact absurd (hr ▸ qt_exec G X hc tm h n) hq
theorem arr_map (x : Array Operand) (hx : ∀ y ∈ x.toList, plainX N y = true) (hA : ActEq ρ N tm a) : x.map (Ev a) = ⟨((x.toList.map xo).map (evX tm)).map (rlV ρ)⟩ := by
  rw [← evs_map hA hx]
  cases x
  simp
theorem call_args {c : Call} (ho : o.op = .call c ∨ o.op = .defer c) (hp : plainXs N o.op.operands.toList = true) : ∀ y ∈ c.args.toList, plainX N y = true := by
  intro y hy
  refine plainXs_all hp y ?_
  have hy' : y ∈ c.args := by simpa using hy
  rcases ho with ho | ho <;> · rw [ho]; simp only [Op.operands, Call.operands]; simp [hy']
theorem call_fun {c : Call} {f : Operand} (ho : o.op = .call c ∨ o.op = .defer c) (hc : c.callee = .value f ∨ ∃ nm, c.callee = .invoke f nm) (hp : plainXs N o.op.operands.toList = true) : plainX N f = true := by
  refine plainXs_all hp f ?_
  rcases ho with ho | ho <;> rcases hc with hc | ⟨nm, hc⟩ <;> · rw [ho]; simp [Op.operands, Call.operands, hc]
theorem method_run (T : TabOK P G) {t : TypeId} {i : TypeInfo} {nm : String} {f : FuncId} {p : Bool} {v : Value} (hi : G.tt.get t = some i) {m : Method} (hm : i.methods.find? (fun m => m.name == nm) = some m) (hpath : m.path = ⟨[]⟩) (hf : m.func = some (f, p))
    (hd : (∃ e, und G t = some (.pointer e) ∧ p = true) ∨ (∃ d, und G t = some d ∧ (∀ e, d ≠ .pointer e) ∧ p = false)) (fuel : Nat) (w : World) : (Go.method (fuel + 1) t v nm).run P w = .ok (f, v) w := by
  have h1 := T.ty t i hi
  rcases hd with ⟨e, hd, rfl⟩ | ⟨d, hd, hne, rfl⟩
  · have := T.run_und hd
    simp [Go.method, typeInfo, h1, hm, hpath, hf, follow, receiverAt, this, Place.get]
  · have := T.run_und hd
    cases d with
    | pointer e => exact absurd rfl (hne e)
    | _ => simp [Go.method, typeInfo, h1, hm, hpath, hf, follow, receiverAt, this, Place.get]

/-- an operation that calls -/
theorem exec_call (T : TabOK P G) (hp : plainXs N o.op.operands.toList = true) {f : FuncId} {args : List Value} (hr : execX G (xop G o) tm h n = .call f args) (hA : ActEq ρ N tm a) :
    (execOp (Ev a) o).run P w = (callFunc f ⟨args.map (rlV ρ)⟩).run P w ∧ ∀ c, o.op ≠ .defer c := by
  have hc := ctl_of hr id
  generalize hX : xop G o = X at hr hc
  cases xop_ctl hX hc with
  | callF c g ho hcal =>
    change oCallF g _ tm h n = _ at hr
    unfold oCallF at hr
    rw [evL_eq] at hr
    cases hr
    have e := arr_map c.args (call_args (.inl ho) hp) hA
    refine ⟨?_, fun c' hc' => by rw [ho] at hc'; cases hc'⟩
    unfold execOp
    simp [ho, resolve, hcal, Deferred.ofValue, invoke, Ev, e]
  | callV c x ho hcal =>
    change oCallV (xo x) _ tm h n = _ at hr
    unfold oCallV at hr
    rw [evL_eq, evK_eq] at hr
    obtain ⟨fn, a0, c0, hv, hr⟩ := funcV_elim hr nofun
    have e := arr_map c.args (call_args (.inl ho) hp) hA
    have ex := plainX_ev hA (call_fun (.inl ho) (.inl hcal) hp)
    rw [hv] at ex
    cases fn <;> first | (cases hr; done) | skip
    rename_i g
    cases hr
    refine ⟨?_, fun c' hc' => by rw [ho] at hc'; cases hc'⟩
    unfold execOp
    simp [ho, resolve, hcal, Deferred.ofValue, invoke, ex, rlV, rlF, rlR_mk, e]
  | callI c x nm ho hcal =>
    change oCallI G (xo x) nm _ tm h n = _ at hr
    unfold oCallI at hr
    rw [evL_eq, evK_eq] at hr
    rcases ifaceV_elim hr nofun with ⟨_, h2⟩ | ⟨t, u, hv, hr⟩
    · cases h2
    have e := arr_map c.args (call_args (.inl ho) hp) hA
    have ex := plainX_ev hA (call_fun (.inl ho) (.inr ⟨nm, hcal⟩) hp)
    rw [hv] at ex
    refine ⟨?_, fun c' hc' => by rw [ho] at hc'; cases hc'⟩
    split at hr
    · rename_i i hi
      split at hr
      · rename_i mn ms f' p hm
        have key : ((∃ e, und G t = some (.pointer e) ∧ p = true) ∨ (∃ d, und G t = some d ∧ (∀ e, d ≠ .pointer e) ∧ p = false)) ∧ OR.call f' (u :: (c.args.toList.map xo).map (evX tm)) = .call f args := by
          split at hr
          · rename_i e hd; exact ⟨.inl ⟨e, hd, rfl⟩, hr⟩
          · cases hr
          · rename_i d hne hd; exact ⟨.inr ⟨d, hd, fun e q => hne e q, rfl⟩, hr⟩
          · cases hr
        obtain ⟨hd, hr⟩ := key
        cases hr
        have hme := fun v => method_run (v := v) T hi hm rfl rfl hd (P.types.size + 99) w
        have ht : List.take c.args.size (List.map (rlV ρ ∘ evX tm ∘ xo) c.args.toList) = List.map (rlV ρ ∘ evX tm ∘ xo) c.args.toList := List.take_of_length_le (by simp)
        unfold execOp
        simp [ho, resolve, hcal, invoke, callMethod, ex, rlV, e, hme, Made.depth, ht]
      · cases hr
    · cases hr
  | recover c ho hcal => cases hr
  | defer c x ho hcal =>
    change oDefer (xo x) _ tm h n = _ at hr
    unfold oDefer at hr
    rw [evK_eq] at hr
    obtain ⟨fn, a0, c0, hv, hr⟩ := funcV_elim hr nofun
    rw [evL_eq] at hr
    cases hr
  | panic x ho =>
    change oPanic (xo x) tm h n = _ at hr
    unfold oPanic at hr
    rw [evK_eq] at hr
    rcases ifaceV_elim hr nofun with ⟨_, h2⟩ | ⟨t, u, hv, hr⟩
    · cases h2
    · cases hr
  | panicB c x ho hcal ha =>
    change oPanic (xo x) tm h n = _ at hr
    unfold oPanic at hr
    rw [evK_eq] at hr
    rcases ifaceV_elim hr nofun with ⟨_, h2⟩ | ⟨t, u, hv, hr⟩
    · cases h2
    · cases hr
/-- one that begins a round -/
theorem exec_yield (hp : plainXs N o.op.operands.toList = true) {l : Nat} {args : List Value} (hr : execX G (xop G o) tm h n = .yield l args) (hA : ActEq ρ N tm a) :
    (execOp (Ev a) o).run P w = (Instr.yield (rlB ρ l) ⟨args.map (rlV ρ)⟩).run P w ∧ (∀ c, o.op ≠ .defer c) ∧ ∀ ρ', ActEq ρ' N tm a → args.map (rlV ρ') = args.map (rlV ρ) ∧ rlB ρ' l = rlB ρ l := by
  have hc := ctl_of hr id
  generalize hX : xop G o = X at hr hc
  cases xop_ctl hX hc with
  | callF c g ho hcal =>
    change oCallF g _ tm h n = _ at hr
    unfold oCallF at hr
    rw [evL_eq] at hr
    cases hr
  | callV c x ho hcal =>
    change oCallV (xo x) _ tm h n = _ at hr
    unfold oCallV at hr
    rw [evL_eq, evK_eq] at hr
    obtain ⟨fn, a0, c0, hv, hr⟩ := funcV_elim hr nofun
    have e := arr_map c.args (call_args (.inl ho) hp) hA
    have ex := plainX_ev hA (call_fun (.inl ho) (.inl hcal) hp)
    rw [hv] at ex
    cases fn <;> first | (cases hr; done) | skip
    rename_i g
    cases hr
    refine ⟨?_, (fun c' hc' => by rw [ho] at hc'; cases hc'), fun ρ' hA' => ?_⟩
    · unfold execOp
      simp [ho, resolve, hcal, Deferred.ofValue, invoke, ex, rlV, rlF, rlR_mk, e]
    · have e' := arr_map c.args (call_args (.inl ho) hp) hA'
      have ex' := plainX_ev hA' (call_fun (.inl ho) (.inl hcal) hp)
      rw [hv, ex] at ex'
      rw [e] at e'
      simp only [rlV, rlF, rlR_mk, Value.func.injEq, Fn.yield.injEq, Array.mk.injEq] at ex' e'
      exact ⟨by rw [List.map_append, List.map_append, ex'.2.1, e'], ex'.1.symm⟩
  | callI c x nm ho hcal =>
    change oCallI G (xo x) nm _ tm h n = _ at hr
    unfold oCallI at hr
    rw [evL_eq, evK_eq] at hr
    rcases ifaceV_elim hr nofun with ⟨_, h2⟩ | ⟨t, u, hv, hr⟩
    · cases h2
    split at hr
    · split at hr
      · split at hr <;> cases hr
      · cases hr
    · cases hr
  | recover c ho hcal => cases hr
  | defer c x ho hcal =>
    change oDefer (xo x) _ tm h n = _ at hr
    unfold oDefer at hr
    rw [evK_eq] at hr
    obtain ⟨fn, a0, c0, hv, hr⟩ := funcV_elim hr nofun
    rw [evL_eq] at hr
    cases hr
  | panic x ho =>
    change oPanic (xo x) tm h n = _ at hr
    unfold oPanic at hr
    rw [evK_eq] at hr
    rcases ifaceV_elim hr nofun with ⟨_, h2⟩ | ⟨t, u, hv, hr⟩
    · cases h2
    · cases hr
  | panicB c x ho hcal ha =>
    change oPanic (xo x) tm h n = _ at hr
    unfold oPanic at hr
    rw [evK_eq] at hr
    rcases ifaceV_elim hr nofun with ⟨_, h2⟩ | ⟨t, u, hv, hr⟩
    · cases h2
    · cases hr
/-- one that defers a call -/
theorem exec_defer (hp : plainXs N o.op.operands.toList = true) {d : Deferred} (hr : execX G (xop G o) tm h n = .defer d) (hA : ActEq ρ N tm a) :
    (execOp (Ev a) o).run P w = .ok (.defer (rlD ρ d)) w := by
  have hc := ctl_of hr id
  generalize hX : xop G o = X at hr hc
  cases xop_ctl hX hc with
  | callF c g ho hcal =>
    change oCallF g _ tm h n = _ at hr
    unfold oCallF at hr
    rw [evL_eq] at hr
    cases hr
  | callV c x ho hcal =>
    change oCallV (xo x) _ tm h n = _ at hr
    unfold oCallV at hr
    rw [evL_eq, evK_eq] at hr
    obtain ⟨fn, a0, c0, hv, hr⟩ := funcV_elim hr nofun
    cases fn <;> cases hr
  | callI c x nm ho hcal =>
    change oCallI G (xo x) nm _ tm h n = _ at hr
    unfold oCallI at hr
    rw [evL_eq, evK_eq] at hr
    rcases ifaceV_elim hr nofun with ⟨_, h2⟩ | ⟨t, u, hv, hr⟩
    · cases h2
    split at hr
    · split at hr
      · split at hr <;> cases hr
      · cases hr
    · cases hr
  | recover c ho hcal => cases hr
  | defer c x ho hcal =>
    change oDefer (xo x) _ tm h n = _ at hr
    unfold oDefer at hr
    rw [evK_eq] at hr
    obtain ⟨fn, a0, c0, hv, hr⟩ := funcV_elim hr nofun
    rw [evL_eq] at hr
    cases hr
    have e := arr_map c.args (call_args (.inr ho) hp) hA
    have ex := plainX_ev hA (call_fun (.inr ho) (.inl hcal) hp)
    rw [hv] at ex
    unfold execOp
    simp [ho, resolve, hcal, Deferred.ofValue, ex, rlV, rlR_mk, e, rlD, rlG]
  | panic x ho =>
    change oPanic (xo x) tm h n = _ at hr
    unfold oPanic at hr
    rw [evK_eq] at hr
    rcases ifaceV_elim hr nofun with ⟨_, h2⟩ | ⟨t, u, hv, hr⟩
    · cases h2
    · cases hr
  | panicB c x ho hcal ha =>
    change oPanic (xo x) tm h n = _ at hr
    unfold oPanic at hr
    rw [evK_eq] at hr
    rcases ifaceV_elim hr nofun with ⟨_, h2⟩ | ⟨t, u, hv, hr⟩
    · cases h2
    · cases hr
/-- one that panics -/
theorem exec_panic (hp : plainXs N o.op.operands.toList = true) {v : Value} (hr : execX G (xop G o) tm h n = .panic v) (hA : ActEq ρ N tm a) :
    (execOp (Ev a) o).run P w = .halt (.panic (rlV ρ v)) w ∧ ∀ c, o.op ≠ .defer c := by
  have hc := ctl_of hr id
  generalize hX : xop G o = X at hr hc
  cases xop_ctl hX hc with
  | callF c g ho hcal =>
    change oCallF g _ tm h n = _ at hr
    unfold oCallF at hr
    rw [evL_eq] at hr
    cases hr
  | callV c x ho hcal =>
    change oCallV (xo x) _ tm h n = _ at hr
    unfold oCallV at hr
    rw [evL_eq, evK_eq] at hr
    obtain ⟨fn, a0, c0, hv, hr⟩ := funcV_elim hr nofun
    cases fn <;> cases hr
  | callI c x nm ho hcal =>
    change oCallI G (xo x) nm _ tm h n = _ at hr
    unfold oCallI at hr
    rw [evL_eq, evK_eq] at hr
    rcases ifaceV_elim hr nofun with ⟨_, h2⟩ | ⟨t, u, hv, hr⟩
    · cases h2
    split at hr
    · split at hr
      · split at hr <;> cases hr
      · cases hr
    · cases hr
  | recover c ho hcal => cases hr
  | defer c x ho hcal =>
    change oDefer (xo x) _ tm h n = _ at hr
    unfold oDefer at hr
    rw [evK_eq] at hr
    obtain ⟨fn, a0, c0, hv, hr⟩ := funcV_elim hr nofun
    rw [evL_eq] at hr
    cases hr
  | panic x ho =>
    change oPanic (xo x) tm h n = _ at hr
    unfold oPanic at hr
    rw [evK_eq] at hr
    rcases ifaceV_elim hr nofun with ⟨_, h2⟩ | ⟨t, u, hv, hr⟩
    · cases h2
    cases hr
    have ex := plainX_ev hA (plainXs_all hp x (by rw [ho]; simp [Op.operands]))
    rw [hv] at ex
    refine ⟨?_, fun c' hc' => by rw [ho] at hc'; cases hc'⟩
    unfold execOp
    simp [ho, Instr.panic, ex, rlV, goPanic]
  | panicB c x ho hcal ha =>
    change oPanic (xo x) tm h n = _ at hr
    unfold oPanic at hr
    rw [evK_eq] at hr
    rcases ifaceV_elim hr nofun with ⟨_, h2⟩ | ⟨t, u, hv, hr⟩
    · cases h2
    cases hr
    have e := arr_map c.args (call_args (.inl ho) hp) hA
    have ex := plainX_ev hA (call_args (.inl ho) hp x (by rw [ha]; simp))
    rw [hv] at ex
    rw [ha] at e
    refine ⟨?_, fun c' hc' => by rw [ho] at hc'; cases hc'⟩
    unfold execOp
    simp [ho, resolve, hcal, invoke, builtin, e, hv, Instr.panic, rlV, goPanic]
/-- one that recovers -/
theorem exec_recover (hr : execX G (xop G o) tm h n = .recover) : (execOp (Ev a) o).run P w = .ok .recover w ∧ ∀ c, o.op ≠ .defer c := by
  have hc := ctl_of hr id
  generalize hX : xop G o = X at hr hc
  cases xop_ctl hX hc with
  | callF c g ho hcal =>
    change oCallF g _ tm h n = _ at hr
    unfold oCallF at hr
    rw [evL_eq] at hr
    cases hr
  | callV c x ho hcal =>
    change oCallV (xo x) _ tm h n = _ at hr
    unfold oCallV at hr
    rw [evL_eq, evK_eq] at hr
    obtain ⟨fn, a0, c0, hv, hr⟩ := funcV_elim hr nofun
    cases fn <;> cases hr
  | callI c x nm ho hcal =>
    change oCallI G (xo x) nm _ tm h n = _ at hr
    unfold oCallI at hr
    rw [evL_eq, evK_eq] at hr
    rcases ifaceV_elim hr nofun with ⟨_, h2⟩ | ⟨t, u, hv, hr⟩
    · cases h2
    split at hr
    · split at hr
      · split at hr <;> cases hr
      · cases hr
    · cases hr
  | recover c ho hcal =>
    refine ⟨?_, fun c' hc' => by rw [ho] at hc'; cases hc'⟩
    unfold execOp
    simp [ho, resolve, hcal, invoke, builtin]
  | defer c x ho hcal =>
    change oDefer (xo x) _ tm h n = _ at hr
    unfold oDefer at hr
    rw [evK_eq] at hr
    obtain ⟨fn, a0, c0, hv, hr⟩ := funcV_elim hr nofun
    rw [evL_eq] at hr
    cases hr
  | panic x ho =>
    change oPanic (xo x) tm h n = _ at hr
    unfold oPanic at hr
    rw [evK_eq] at hr
    rcases ifaceV_elim hr nofun with ⟨_, h2⟩ | ⟨t, u, hv, hr⟩
    · cases h2
    · cases hr
  | panicB c x ho hcal ha =>
    change oPanic (xo x) tm h n = _ at hr
    unfold oPanic at hr
    rw [evK_eq] at hr
    rcases ifaceV_elim hr nofun with ⟨_, h2⟩ | ⟨t, u, hv, hr⟩
    · cases h2
    · cases hr
theorem val_no_defer {v : Value} {h' : TH} {n' : Nat} (hr : execX G (xop G o) tm h n = .val v h' n') : ∀ c, o.op ≠ .defer c := by
  intro c hc
  unfold xop at hr
  rw [hc] at hr
  simp only at hr
  split at hr
  · exact defer_no hr
  · cases hr
end
end Go.Clo
namespace Go.Clo

section
variable {P : Program} {G : Tab} {B0 N : Nat} {s : Fra} {cs : List Frame} {ρ : Env} {S T : Nat → Prop} {tm tm' : TV} {fx : Fx} {h : TH} {n : Nat} {a a' : Array Value} {DS : List Deferred} {M : Option FrameMode} {w : World} {k : List Item}
  {ops : Array Oper} {i : Nat} {rest : List Nat} {o : Oper} {cf : CF} {yf : YF}

theorem NextIs.inj {x : Go.Next} {u v : Value} (h1 : NextIs x u) (h2 : NextIs x v) : u = v := by
  rcases h1 with h1 | ⟨h1, e1⟩ <;> rcases h2 with h2 | ⟨h2, e2⟩
  · rw [h1] at h2; cases h2; rfl
  · rw [h1] at h2; cases h2
  · rw [h1] at h2; cases h2
  · rw [e1, e2]
/-- the shape of the goals below -/
abbrev OpNorm (T : Nat → Prop) (P : Program) (G : Tab) (B0 N : Nat) (s : Fra) (cs : List Frame) (ρ : Env) (S : Nat → Prop) (fx : Fx) (h : TH) (n : Nat) (a : Array Value) (DS : List Deferred) (M : Option FrameMode) (w : World) (k : List Item) (ops : Array Oper) (i : Nat) (rest : List Nat) (o : Oper)
    (tm' : TV) (fx' : Fx) (h' : TH) (n' : Nat) : Prop :=
  EndsT (fun t => T t ∨ o.dst = some t) P G B0 N s cs (lone (s.at a DS (.inRegion ops (i :: rest) :: k)) (withM M cs) w) ρ S fx h n w tm' fx' h' n' (fun _ a1 ds fr => (∃ V, a1 = putA o.dst a V) ∧ fr = s.at a1 ds (.inRegion ops rest :: k))
def KRaise (s : Fra) (v : Value) (S : Nat → Prop) : Env → Array Value → List Deferred → Frame → Prop := fun ρ a ds fr => ∃ k' V, Same S ρ v V ∧ fr = { s.at a ds k' with mode := .panicking [⟨V, false, false⟩] }
abbrev OpPanic (T : Nat → Prop) (P : Program) (G : Tab) (B0 N : Nat) (s : Fra) (cs : List Frame) (ρ : Env) (S : Nat → Prop) (fx : Fx) (h : TH) (n : Nat) (a : Array Value) (DS : List Deferred) (M : Option FrameMode) (w : World) (k : List Item) (ops : Array Oper) (i : Nat) (rest : List Nat)
    (v : Value) (tm' : TV) (fx' : Fx) (h' : TH) (n' : Nat) : Prop :=
  EndsT T P G B0 N s cs (lone (s.at a DS (.inRegion ops (i :: rest) :: k)) (withM M cs) w) ρ S fx h n w tm' fx' h' n' (KRaise s v (ext S n n'))
/-- slots that show the operation what it looks at -/
structure Shows (P : Program) (G : Tab) (N : Nat) (ρ : Env) (S : Nat → Prop) (o : Oper) (a : Array Value) (h : TH) (n : Nat) (tm tm' : TV) (a' : Array Value) : Prop where
  act : ∀ ρ', Agree S ρ ρ' → ActEq ρ' N tm' a'
  opr : execOp (Ev a) o = execOp (Ev a') o
  run : execX G (xop G o) tm h n = execX G (xop G o) tm' h n

theorem op_skip (hS : StT T P G B0 N s cs ρ S tm fx h n a DS M w) (ho : ops[i]? = some o) (hw : Region.wanted o (yielded ops a) = false) (hd : okDst N o.dst = true) :
    OpNorm T P G B0 N s cs ρ S fx h n a DS M w k ops i rest o (putT (o.dst.map Pa.of) tm undefV) fx h n :=
  ⟨ρ, _, DS, M, w, _, .refl _ _, Nat.le_refl _, rfl, ext_self ▸ hS.put (v := undefV) (V := undef) hd (fun ρ' _ => rlV_undef ρ'), fun _ _ => .refl _ _ _, ⟨⟨_, rfl⟩, rfl⟩, .one (stepC_opSkip ho hw)⟩

theorem op_val (hS : StT T P G B0 N s cs ρ S tm fx h n a DS M w) (ho : ops[i]? = some o) (hw : Region.wanted o (yielded ops a) = true) (hd : okDst N o.dst = true) (hnd : ∀ c, o.op ≠ .defer c) (hab : Shows P G N ρ S o a h n tm tm' a') {v : Value} {h' : TH} {n' : Nat}
    (H : OpSim P G B0 N o tm' h n a' w v h' n') : OpNorm T P G B0 N s cs ρ S fx h n a DS M w k ops i rest o (putT (o.dst.map Pa.of) tm v) fx h' n' := by
  obtain ⟨hn1, hn2, e, c, d, H⟩ := H
  have hA1 : Agree S ρ (ρ.put n e c d) := Env.agree_put ρ e c d hS.lt
  have hS1 := hS.all _ hA1
  obtain ⟨x, w', hr, hx, hW', hK⟩ := H _ (hab.act _ hA1) hS1.2.1 (.inr (by simp [Env.put]))
  have hall : ∀ ρ', Agree (ext S n n') (ρ.put n e c d) ρ' → Agree S ρ ρ' ∧ rlV ρ' v = rlV (ρ.put n e c d) v ∧ WEq ρ' G B0 h' n' w' ∧ KeepEq ρ' h h' w w' := by
    intro ρ' hA'
    have hAn : Agree S ρ ρ' := hA1.trans hA' ext_sub
    have hS2 := hS.all _ hAn
    have hq : n' = n ∨ (ρ'.loc n = e ∧ ρ'.cap n = c ∧ ρ'.off n = d) := by
      by_cases q : n' = n
      · exact .inl q
      · have := hA' n (.inr (by omega))
        simp [Env.put] at this
        exact .inr this
    obtain ⟨x2, w2, hr2, hx2, hW2, hK2⟩ := H _ (hab.act _ hAn) hS2.2.1 hq
    rw [hr] at hr2
    cases hr2
    exact ⟨hAn, NextIs.inj hx2 hx, hW2, hK2⟩
  refine ⟨ρ.put n e c d, _, DS, M, w', _, hA1, hn1, rfl, ?_, fun ρ' hA' => (hall ρ' hA').2.2.2, ⟨⟨_, rfl⟩, rfl⟩, .one (stepC_opVal ho hw (.inr hnd) (by rw [hab.opr]; exact hr) hx)⟩
  refine StT.put (v := v) ?_ hd (fun ρ' hA' => (hall ρ' hA').2.1)
  refine ⟨ext_lt hS.lt hn1, fun ρ' hA' => ?_, Nat.le_trans hS.base hK.size, hS.kind, hS.nor, hS.fn, hS.fnG⟩
  obtain ⟨h1, _, h3, _⟩ := hall ρ' hA'
  obtain ⟨q1, _, q3⟩ := hS.all _ h1
  exact ⟨q1, h3, q3⟩

theorem call_steps (ho : ops[i]? = some o) (hw : Region.wanted o (yielded ops a) = true) (hnd : ∀ c, o.op ≠ .defer c) {f : FuncId} {A : Array Value} {w' : World} (hr : (execOp (Ev a) o).run P w = .ok (.enter f A) w') :
    step P (lone (s.at a DS (.inRegion ops (i :: rest) :: k)) cs w) = .next (lone (Frame.enter P f A .normal) (s.at a DS (.inRegion ops (i :: rest) :: k) :: cs) w') := by
  refine step_lone_go ?_
  rw [stepG_opC ho hw (.inr hnd)]
  simp [stepG.apply, hr, Fra.at]
theorem LeaveR.leaving {f : FuncId} {fr : Frame} {V : Value} {w : World} (h : LeaveR P f .normal fr V w) : fr.leaving P w (.returned V) := ⟨h.mode, h.defers, h.kind, h.fn⟩
theorem LeaveP.leaving {fr : Frame} {V : Value} {w : World} (h : LeaveP P fr V w) : fr.leaving P w (.panicked [⟨V, false, false⟩]) := ⟨h.mode, h.defers, h.fn⟩
theorem raise_run (s : Fra) (a : Array Value) (DS : List Deferred) (k : List Item) (ch : List PanicEntry) : (s.at a DS k).raise ch = { s.at a DS k with mode := .panicking ch } := rfl

/-- a call's answer -/
theorem op_call (hS : StT T P G B0 N s cs ρ S tm fx h n a DS M w) (ho : ops[i]? = some o) (hw : Region.wanted o (yielded ops a) = true) (hd : okDst N o.dst = true) (hnd : ∀ c, o.op ≠ .defer c) {f : FuncId} {args : List Value} (hE : Enters P f)
    (hx : ∀ ρ', Agree S ρ ρ' → (execOp (Ev a) o).run P w = (callFunc f ⟨args.map (rlV ρ')⟩).run P w) {r : CRes} {u : Up} (H : CallSim P G B0 f args .no h n r u) : match r with
    | .ret v h' n' => OpNorm T P G B0 N s cs ρ S fx h n a DS M w k ops i rest o (putT (o.dst.map Pa.of) tm v) fx h' n'
    | .panic v h' n' => OpPanic T P G B0 N s cs ρ S fx h n a DS M w k ops i rest v tm fx h' n'
    | .fail _ => False := by
  have hrun : ∀ ρ', Agree S ρ ρ' → (execOp (Ev a) o).run P w = .ok (.enter f ⟨args.map (rlV ρ')⟩) w := fun ρ' hA => (hx ρ' hA).trans (hE _ _)
  have h0 := hrun ρ (.refl _ _)
  have hin : CallIn G B0 ρ S args .no h n ⟨args.map (rlV ρ)⟩ none w := by
    intro ρ' hA
    have h1 := hrun ρ' hA
    rw [h0] at h1
    simp only [Result.ok.injEq, Go.Next.enter.injEq, true_and, and_true] at h1
    exact ⟨h1, (hS.all ρ' hA).2.1, rfl⟩
  obtain ⟨hu0, hc⟩ := H ρ S .normal (s.at a DS (.inRegion ops (i :: rest) :: k) :: withM M cs) _ none w hS.lt hin hS.base rfl
  have hstep := call_steps (s := s) (DS := DS) (k := k) (cs := withM M cs) (rest := rest) ho hw hnd h0
  have hun : u = .no := by cases u <;> simp [UpK] at hu0 ⊢
  cases r with
  | fail _ => exact hc
  | ret v h' n' =>
    obtain ⟨ρ1, V, M', w', fr, hA1, hn, hout, hK, hL, hs⟩ := hc
    have hu : M' = none := by
      have := (hout ρ1 (.refl _ _)).2.2
      rw [hun] at this
      exact this
    subst hu
    rw [withM_none] at hs
    refine ⟨ρ1, putA o.dst a V, DS, M, w', _, hA1, hn, rfl, ?_, hK, ⟨⟨V, rfl⟩, rfl⟩, .head hstep (hs.trans (.one ?_))⟩
    · refine StT.put (v := v) ?_ hd (fun ρ' hA' => (hout ρ' hA').1.symm)
      refine ⟨ext_lt hS.lt hn, fun ρ' hA' => ?_, Nat.le_trans hS.base (hK ρ1 (.refl _ _)).size, hS.kind, hS.nor, hS.fn, hS.fnG⟩
      obtain ⟨q1, _, q3⟩ := hS.all _ (hA1.trans hA' ext_sub)
      exact ⟨q1, (hout ρ' hA').2.1, q3⟩
    · rw [← finish_op ho]
      exact step_leave_returned hL.leaving
  | panic v h' n' =>
    obtain ⟨ρ1, V, M', w', fr, hA1, hn, hout, hK, hL, hs⟩ := hc
    have hu : M' = none := by
      have := (hout ρ1 (.refl _ _)).2.2
      rw [hun] at this
      exact this
    subst hu
    rw [withM_none] at hs
    refine ⟨ρ1, a, DS, M, w', _, hA1, hn, rfl, ?_, hK, ⟨.inRegion ops (i :: rest) :: k, V, fun ρ' hA' => (hout ρ' hA').1.symm, rfl⟩, .head hstep (hs.trans (.one ?_))⟩
    · refine ⟨ext_lt hS.lt hn, fun ρ' hA' => ?_, Nat.le_trans hS.base (hK ρ1 (.refl _ _)).size, hS.kind, hS.nor, hS.fn, hS.fnG⟩
      obtain ⟨q1, _, q3⟩ := hS.all _ (hA1.trans hA' ext_sub)
      exact ⟨q1, (hout ρ' hA').2.1, q3⟩
    · rw [← raise_run]
      exact step_leave_panicked hL.leaving
/-- a round's answer -/
theorem op_yield (hS : StT T P G B0 N s cs ρ S tm fx h n a DS M w) (ho : ops[i]? = some o) (hw : Region.wanted o (yielded ops a) = true) (hd : okDst N o.dst = true) (hnd : ∀ c, o.op ≠ .defer c) {l : Nat} {args : List Value}
    (hx : (execOp (Ev a) o).run P w = (Instr.yield (rlB ρ l) ⟨args.map (rlV ρ)⟩).run P w) (hsame : ∀ ρ', Agree S ρ ρ' → args.map (rlV ρ') = args.map (rlV ρ) ∧ rlB ρ' l = rlB ρ l) {r : CRes} (H : YSim P G B0 l args h n r) : match r with
    | .ret v h' n' => OpNorm T P G B0 N s cs ρ S fx h n a DS M w k ops i rest o (putT (o.dst.map Pa.of) tm v) fx h' n'
    | .panic v h' n' => OpPanic T P G B0 N s cs ρ S fx h n a DS M w k ops i rest v tm fx h' n'
    | .fail _ => False := by
  have hin : RoundIn G B0 ρ S l args h n (rlB ρ l) ⟨args.map (rlV ρ)⟩ w := fun ρ' hA => ⟨by rw [(hsame ρ' hA).1], (hS.all ρ' hA).2.1, (hsame ρ' hA).2.symm⟩
  obtain ⟨f, tmps, assign, body, hy, hc⟩ := H ρ S (s.at a DS (.inRegion ops (i :: rest) :: k)) (withM M cs) _ _ w hS.lt hin hS.base
  have hstep : step P (lone (s.at a DS (.inRegion ops (i :: rest) :: k)) (withM M cs) w) = .next (lone (Frame.round (rlB ρ l) f tmps assign body .normal) (s.at a DS (.inRegion ops (i :: rest) :: k) :: withM M cs) w) := by
    refine step_lone_go ?_
    rw [stepG_opC ho hw (.inr hnd)]
    simp [stepG.apply, hx, hy]
  cases r with
  | fail _ => exact hc
  | ret v h' n' =>
    obtain ⟨ρ1, V, w', hA1, hn, hout, hK, hs⟩ := hc
    rw [finish_op ho] at hs
    refine ⟨ρ1, putA o.dst a V, DS, M, w', _, hA1, hn, rfl, ?_, hK, ⟨⟨V, rfl⟩, rfl⟩, .head hstep hs⟩
    refine StT.put (v := v) ?_ hd (fun ρ' hA' => (hout ρ' hA').1.symm)
    refine ⟨ext_lt hS.lt hn, fun ρ' hA' => ?_, Nat.le_trans hS.base (hK ρ1 (.refl _ _)).size, hS.kind, hS.nor, hS.fn, hS.fnG⟩
    obtain ⟨q1, _, q3⟩ := hS.all _ (hA1.trans hA' ext_sub)
    exact ⟨q1, (hout ρ' hA').2.1, q3⟩
  | panic v h' n' =>
    obtain ⟨ρ1, V, w', hA1, hn, hout, hK, hs⟩ := hc
    refine ⟨ρ1, a, DS, M, w', _, hA1, hn, rfl, ?_, hK, ⟨.inRegion ops (i :: rest) :: k, V, fun ρ' hA' => (hout ρ' hA').1.symm, rfl⟩, .head hstep hs⟩
    refine ⟨ext_lt hS.lt hn, fun ρ' hA' => ?_, Nat.le_trans hS.base (hK ρ1 (.refl _ _)).size, hS.kind, hS.nor, hS.fn, hS.fnG⟩
    obtain ⟨q1, _, q3⟩ := hS.all _ (hA1.trans hA' ext_sub)
    exact ⟨q1, (hout ρ' hA').2.1, q3⟩
theorem StT.rd_none (hS : StT T P G B0 N s cs ρ S tm fx h n a DS M w) (hr : fx.round = none) : s.rd = none := by
  have := (hS.all ρ (.refl _ _)).2.2.2.2
  rw [hr] at this
  exact this
theorem op_defer (hS : StT T P G B0 N s cs ρ S tm fx h n a DS M w) (ho : ops[i]? = some o) (hw : Region.wanted o (yielded ops a) = true) (hd : okDst N o.dst = true) (hr : fx.round = none) {d : Deferred}
    (hx : ∀ ρ', Agree S ρ ρ' → (execOp (Ev a) o).run P w = .ok (.defer (rlD ρ' d)) w) : OpNorm T P G B0 N s cs ρ S fx h n a DS M w k ops i rest o (putT (o.dst.map Pa.of) tm undefV) ⟨d :: fx.ds, fx.up, fx.round⟩ h n := by
  have h0 := hx ρ (.refl _ _)
  refine ⟨ρ, putA o.dst a undef, rlD ρ d :: DS, M, w, _, .refl _ _, Nat.le_refl _, rfl, ?_, fun _ _ => .refl _ _ _, ⟨⟨_, rfl⟩, rfl⟩, .one ?_⟩
  · rw [ext_self]
    refine StT.put (v := undefV) ?_ hd (fun ρ' _ => rlV_undef ρ')
    refine ⟨hS.lt, fun ρ' hA' => ?_, hS.base, hS.kind, fun l hl => ?_, hS.fn, hS.fnG⟩
    · obtain ⟨q1, q2, q3, q4, q5⟩ := hS.all _ hA'
      have h1 := hx ρ' hA'
      rw [h0] at h1
      simp only [Result.ok.injEq, Go.Next.defer.injEq, and_true] at h1
      exact ⟨q1, q2, by rw [List.map_cons, ← h1, ← q3], q4, q5⟩
    · rw [hr] at hl; cases hl
  · refine step_lone_go ?_
    rw [stepG_opC ho hw (.inl (hS.rd_none hr))]
    have := finish_op (s := s) (DS := rlD ρ d :: DS) (k := k) (rest := rest) (a := a) ho undef
    simp only [stepG.apply, Sem.runT_eq, h0, GStep.bare_after]
    exact congrArg (fun fr => GStep.go { frame := fr, callers := withM M cs, status := .running, dying := none } w) this
theorem op_panic (hS : StT T P G B0 N s cs ρ S tm fx h n a DS M w) (ho : ops[i]? = some o) (hw : Region.wanted o (yielded ops a) = true) (hnd : ∀ c, o.op ≠ .defer c) {v : Value}
    (hx : ∀ ρ', Agree S ρ ρ' → (execOp (Ev a) o).run P w = .halt (.panic (rlV ρ' v)) w) : OpPanic T P G B0 N s cs ρ S fx h n a DS M w k ops i rest v tm fx h n := by
  have h0 := hx ρ (.refl _ _)
  refine ⟨ρ, a, DS, M, w, _, .refl _ _, Nat.le_refl _, rfl, ext_self ▸ hS, fun _ _ => .refl _ _ _, ⟨.inRegion ops (i :: rest) :: k, rlV ρ v, fun ρ' hA' => ?_, rfl⟩, .one ?_⟩
  · rw [ext_self] at hA'
    have h1 := hx ρ' hA'
    rw [h0] at h1
    simp only [Result.halt.injEq, Halt.panic.injEq, and_true] at h1
    exact h1.symm
  · refine step_lone_go ?_
    rw [stepG_opC ho hw (.inr hnd), ← raise_run]
    simp [stepG.apply, h0]
theorem op_recover (hS : StT T P G B0 N s cs ρ S tm fx h n a DS M w) (ho : ops[i]? = some o) (hw : Region.wanted o (yielded ops a) = true) (hd : okDst N o.dst = true) (hnd : ∀ c, o.op ≠ .defer c) (hr : fx.round = none)
    (hx : (execOp (Ev a) o).run P w = .ok .recover w) : (∀ v, fx.up = .chain v false → OpNorm T P G B0 N s cs ρ S fx h n a DS M w k ops i rest o (putT (o.dst.map Pa.of) tm v) ⟨fx.ds, .chain v true, fx.round⟩ h n) ∧
    (fx.up = .quiet → OpNorm T P G B0 N s cs ρ S fx h n a DS M w k ops i rest o (putT (o.dst.map Pa.of) tm .nilIface) fx h n) := by
  have hrd := hS.rd_none hr
  refine ⟨fun v hu => ?_, fun hu => ?_⟩
  · have hk := hS.kind
    rw [hu] at hk
    obtain ⟨hk, hcs⟩ := hk
    cases cs with
    | nil => exact absurd rfl hcs
    | cons c r =>
    have hM := (hS.all ρ (.refl _ _)).2.2.2.1
    rw [hu] at hM
    subst hM
    refine ⟨ρ, putA o.dst a (rlV ρ v), DS, some (.panicking [⟨rlV ρ v, true, false⟩]), w, _, .refl _ _, Nat.le_refl _, rfl, ?_, fun _ _ => .refl _ _ _, ⟨⟨_, rfl⟩, rfl⟩, .one ?_⟩
    · have hsame : Same S ρ v (rlV ρ v) := fun ρ' hA' => by
        have := (hS.all ρ' hA').2.2.2.1
        rw [hu] at this
        simp only [upM, Option.some.injEq, FrameMode.panicking.injEq, List.cons.injEq, PanicEntry.mk.injEq, and_true] at this
        exact this.symm
      rw [ext_self]
      refine StT.put ?_ hd hsame
      refine ⟨hS.lt, fun ρ' hA' => ?_, hS.base, ⟨hk, by simp⟩, fun l hl => ?_, hS.fn, hS.fnG⟩
      · obtain ⟨q1, q2, q3, _, q5⟩ := hS.all _ hA'
        exact ⟨q1, q2, q3, by simp [upM, hsame ρ' hA'], q5⟩
      · rw [hr] at hl; cases hl
    · refine step_lone_go ?_
      rw [stepG_opC ho hw (.inr hnd), ← finish_op ho]
      simp [stepG.apply, hx, upM, Fra.at, hrd, tryRecover, hk]
  · have hk := hS.kind
    rw [hu] at hk
    obtain ⟨hk, hcs⟩ := hk
    cases cs with
    | nil => exact absurd rfl hcs
    | cons c r =>
    have hM := (hS.all ρ (.refl _ _)).2.2.2.1
    rw [hu] at hM
    subst hM
    refine ⟨ρ, putA o.dst a .nilIface, DS, some .returning, w, _, .refl _ _, Nat.le_refl _, rfl, ?_, fun _ _ => .refl _ _ _, ⟨⟨_, rfl⟩, rfl⟩, .one ?_⟩
    · rw [ext_self]
      exact hS.put hd (fun ρ' _ => by simp [rlV])
    · refine step_lone_go ?_
      rw [stepG_opC ho hw (.inr hnd), ← finish_op ho]
      simp [stepG.apply, hx, upM, Fra.at, hrd, tryRecover, hk]
end
end Go.Clo
namespace Go.Clo

section
variable {P : Program} {G : Tab} {B0 N : Nat} {s : Fra} {cs : List Frame} {ρ : Env} {S T : Nat → Prop} {tm tm' : TV} {fx : Fx} {h : TH} {n : Nat} {a a' : Array Value} {DS : List Deferred} {M : Option FrameMode} {w : World} {k : List Item}
  {ops : Array Oper} {i : Nat} {rest : List Nat} {o : Oper} {cf : CF} {yf : YF}

theorem execL_cons (o : XOper) (l : List XOper) : execL cf yf G (o :: l) tm h n fx = stepO cf yf G o tm h n fx (execL cf yf G l) := by cases o; rfl
theorem execL_nil : execL cf yf G [] tm h n fx = .normal tm fx h n := rfl
theorem stepO_mk (op : XOp) (dst : Option Pa) (g : Option (Pa × Bool)) (κ : NextK) : stepO cf yf G ⟨op, dst, g⟩ tm h n fx κ = wantK g tm (setD dst tm undefV fun tm => κ tm h n fx) (stepL cf yf (execX G op tm h n) dst tm fx h n κ) := rfl
theorem stepO_bad {κ : NextK} {R : Res} (hr : stepO cf yf G ⟨.bad, none, none⟩ tm h n fx κ = R) (hn : NF R) : False := hn _ hr.symm

theorem not_panic {X : XOp} {v : Value} (hr : execX G X tm h n = .panic v) (hX : isPanic X = false) : False := by
  have hc := ctl_of hr id
  cases X <;> first | (simp [isCtl] at hc; done) | skip
  · rename_i f l
    change oCallF f l tm h n = _ at hr
    unfold oCallF at hr
    rw [evL_eq] at hr
    cases hr
  · rename_i x l
    change oCallV x l tm h n = _ at hr
    unfold oCallV at hr
    rw [evL_eq, evK_eq] at hr
    obtain ⟨fn, a0, c0, hv, hr⟩ := funcV_elim hr nofun
    cases fn <;> cases hr
  · rename_i x nm l
    change oCallI G x nm l tm h n = _ at hr
    unfold oCallI at hr
    rw [evL_eq, evK_eq] at hr
    rcases ifaceV_elim hr nofun with ⟨_, h2⟩ | ⟨t, u, hv, hr⟩
    · cases h2
    split at hr
    · split at hr
      · split at hr <;> cases hr
      · cases hr
    · cases hr
  · cases hr
  · rename_i x l
    change oDefer x l tm h n = _ at hr
    unfold oDefer at hr
    rw [evK_eq] at hr
    obtain ⟨fn, a0, c0, hv, hr⟩ := funcV_elim hr nofun
    rw [evL_eq] at hr
    cases hr
  · cases hX
/-- calls whose answers are told more of -/
def CFokQ (Q : CRes → Prop) (P : Program) (G : Tab) (B0 : Nat) (cf : CF) : Prop :=
  ∀ f args up h n κ R, cf f args up h n κ = R → NF R → Enters P f ∧ ∃ r u, κ r u = R ∧ CallSim P G B0 f args up h n r u ∧ Q r
def YFokQ (Q : CRes → Prop) (P : Program) (G : Tab) (B0 : Nat) (yf : YF) : Prop :=
  ∀ l args h n κ R, yf l args h n κ = R → NF R → ∃ r, κ r = R ∧ YSim P G B0 l args h n r ∧ Q r
theorem CFok.q (h : CFok P G B0 cf) : CFokQ (fun _ => True) P G B0 cf := fun f args up h' n κ R hr hn => let ⟨h1, r, u, h2, h3⟩ := h f args up h' n κ R hr hn; ⟨h1, r, u, h2, h3, trivial⟩
theorem YFok.q (h : YFok P G B0 yf) : YFokQ (fun _ => True) P G B0 yf := fun l args h' n κ R hr hn => let ⟨r, h2, h3⟩ := h l args h' n κ R hr hn; ⟨r, h2, h3, trivial⟩
variable {Q : CRes → Prop}
/-- an operation that is done -/
theorem op_do (TO : TabOK P G) (hcf : CFokQ Q P G B0 cf) (hyf : YFokQ Q P G B0 yf) (hS : StT T P G B0 N s cs ρ S tm fx h n a DS M w) (ho : ops[i]? = some o) (hw : Region.wanted o (yielded ops a) = true) (hpl : plainXs N o.op.operands.toList = true) (hd : okDst N o.dst = true)
    (hab : Shows P G N ρ S o a h n tm tm' a') {κ : NextK} {R : Res} (hr : stepL cf yf (execX G (xop G o) tm h n) (o.dst.map Pa.of) tm fx h n κ = R) (hn : NF R) :
    (∃ tm1 h1 n1 fx1, κ tm1 h1 n1 fx1 = R ∧ (∃ v, tm1 = putT (o.dst.map Pa.of) tm v) ∧ OpNorm T P G B0 N s cs ρ S fx h n a DS M w k ops i rest o tm1 fx1 h1 n1) ∨
    (∃ v tm1 fx1 h1 n1, R = .panic v tm1 fx1 h1 n1 ∧ (fx1 = fx ∧ ((∃ h' n', Q (.panic v h' n')) ∨ isPanic (xop G o) = true)) ∧ OpPanic T P G B0 N s cs ρ S fx h n a DS M w k ops i rest v tm1 fx1 h1 n1) := by
  rw [hab.run] at hr
  generalize hX : execX G (xop G o) tm' h n = X at hr
  have hact := hab.act ρ (.refl _ _)
  cases X with
  | val v h' n' =>
    change kVal v h' n' (o.dst.map Pa.of) tm fx h n κ = R at hr
    unfold kVal at hr
    rw [setD_eq] at hr
    exact .inl ⟨_, _, _, _, hr, ⟨_, rfl⟩, op_val hS ho hw hd (val_no_defer hX) hab (exec_val TO hS.base hpl hX)⟩
  | call f args =>
    change kCall cf f args (o.dst.map Pa.of) tm fx h n κ = R at hr
    unfold kCall at hr
    obtain ⟨hE, r, u, hr, hsim, hQ⟩ := hcf f args .no h n _ R hr hn
    have := op_call (k := k) (rest := rest) hS ho hw hd (exec_call (w := w) TO hpl hX hact).2 hE (fun ρ' hA => by rw [hab.opr]; exact (exec_call TO hpl hX (hab.act ρ' hA)).1) hsim
    cases r with
    | fail _ => exact this.elim
    | ret v h' n' =>
      simp only [afterCall, setD_eq] at hr
      exact .inl ⟨_, _, _, _, hr, ⟨_, rfl⟩, this⟩
    | panic v h' n' => exact .inr ⟨v, tm, fx, h', n', hr.symm, ⟨rfl, .inl ⟨_, _, hQ⟩⟩, this⟩
  | yield l args =>
    change kYield yf l args (o.dst.map Pa.of) tm fx h n κ = R at hr
    unfold kYield at hr
    obtain ⟨r, hr, hsim, hQ⟩ := hyf l args h n _ R hr hn
    have hy := exec_yield (P := P) (w := w) hpl hX hact
    have := op_yield (k := k) (rest := rest) hS ho hw hd hy.2.1 (by rw [hab.opr]; exact hy.1) (fun ρ' hA => hy.2.2 ρ' (hab.act ρ' hA)) hsim
    cases r with
    | fail _ => exact this.elim
    | ret v h' n' =>
      simp only [afterCall, setD_eq] at hr
      exact .inl ⟨_, _, _, _, hr, ⟨_, rfl⟩, this⟩
    | panic v h' n' => exact .inr ⟨v, tm, fx, h', n', hr.symm, ⟨rfl, .inl ⟨_, _, hQ⟩⟩, this⟩
  | defer d =>
    change kDefer d (o.dst.map Pa.of) tm fx h n κ = R at hr
    obtain ⟨ds, up, rd⟩ := fx
    cases rd with
    | some l => exact absurd hr.symm (hn _)
    | none =>
      simp only [kDefer, setD_eq] at hr
      exact .inl ⟨_, _, _, _, hr, ⟨_, rfl⟩, op_defer hS ho hw hd rfl fun ρ' hA => by rw [hab.opr]; exact exec_defer hpl hX (hab.act ρ' hA)⟩
  | recover =>
    change kRecover (o.dst.map Pa.of) tm fx h n κ = R at hr
    have hrec := exec_recover (P := P) (a := a) (w := w) hX
    obtain ⟨ds, up, rd⟩ := fx
    cases rd with
    | some l =>
      cases up with
      | no => exact absurd hr.symm (hn _)
      | quiet => exact absurd hr.symm (hn _)
      | chain v b => cases b <;> exact absurd hr.symm (hn _)
    | none =>
      have := op_recover (k := k) (rest := rest) hS ho hw hd hrec.2 rfl hrec.1
      cases up with
      | no => exact absurd hr.symm (hn _)
      | quiet =>
        simp only [kRecover, setD_eq] at hr
        exact .inl ⟨_, _, _, _, hr, ⟨_, rfl⟩, this.2 rfl⟩
      | chain v b =>
        cases b with
        | true => exact absurd hr.symm (hn _)
        | false =>
          simp only [kRecover, setD_eq] at hr
          exact .inl ⟨_, _, _, _, hr, ⟨_, rfl⟩, this.1 v rfl⟩
  | panic v =>
    change kPanic v (o.dst.map Pa.of) tm fx h n κ = R at hr
    have hp := exec_panic (P := P) (w := w) hpl hX hact
    have hpp : isPanic (xop G o) = true := by
      cases hq : isPanic (xop G o) with
      | true => rfl
      | false => exact (not_panic hX hq).elim
    exact .inr ⟨v, tm, fx, h, n, hr.symm, ⟨rfl, .inr hpp⟩, op_panic hS ho hw hp.2 fun ρ' hA => by rw [hab.opr]; exact (exec_panic hpl hX (hab.act ρ' hA)).1⟩
  | fail why => exact absurd hr.symm (hn _)
theorem nthO_eq : ∀ (l : List Oper) (j : Nat), nthO l j = l[j]?
  | [], _ => rfl
  | _ :: _, 0 => rfl
  | _ :: l, j + 1 => nthO_eq l j
theorem wantK_none {tm : TV} {no yes : Res} : wantK none tm no yes = yes := rfl
theorem wantK_some {p : Pa} {want : Bool} {tm : TV} {no yes : Res} : wantK (some (p, want)) tm no yes = boolV (getV p tm) no fun b => ifB b (ifB want yes no) (ifB want no yes) := getK_eq p tm _
theorem op_one (TO : TabOK P G) (hcf : CFokQ Q P G B0 cf) (hyf : YFokQ Q P G B0 yf) (hS : StT T P G B0 N s cs ρ S tm fx h n a DS M w) (ho : ops[i]? = some o) (hab : Shows P G N ρ S o a h n tm tm' a')
    (hgT : ∀ j want p d, o.guard = some (j, want) → ops[j]? = some p → p.dst = some d → T d) {κ : NextK} {R : Res} (hr : stepO cf yf G (xoper G N ops.toList o) tm h n fx κ = R) (hn : NF R) :
    (∃ tm1 h1 n1 fx1, κ tm1 h1 n1 fx1 = R ∧ (∃ v, tm1 = putT (o.dst.map Pa.of) tm v) ∧ OpNorm T P G B0 N s cs ρ S fx h n a DS M w k ops i rest o tm1 fx1 h1 n1) ∨
    (∃ v tm1 fx1 h1 n1, R = .panic v tm1 fx1 h1 n1 ∧ (fx1 = fx ∧ ((∃ h' n', Q (.panic v h' n')) ∨ isPanic (xop G o) = true)) ∧ OpPanic T P G B0 N s cs ρ S fx h n a DS M w k ops i rest v tm1 fx1 h1 n1) := by
  unfold xoper at hr
  cases hpd : (plainXs N o.op.operands.toList && okDst N o.dst) with
  | false => rw [hpd] at hr; exact (stepO_bad hr hn).elim
  | true =>
    rw [hpd] at hr
    simp only [Bool.and_eq_true] at hpd
    obtain ⟨hpl, hd⟩ := hpd
    simp only [cond_true] at hr
    cases hg : o.guard with
    | none =>
      simp only [hg] at hr
      exact op_do TO hcf hyf hS ho (by simp [Region.wanted, hg]) hpl hd hab hr hn
    | some jw =>
      obtain ⟨j, want⟩ := jw
      simp only [hg] at hr
      split at hr
      · rename_i p hp
        split at hr
        · rename_i d hpdst
          cases hdN : Nat.blt d N with
          | false => rw [hdN] at hr; exact (stepO_bad hr hn).elim
          | true =>
            rw [hdN] at hr
            simp only [cond_true] at hr
            rw [stepO_mk, wantK_some] at hr
            have hp' : ops[j]? = some p := by rw [nthO_eq] at hp; simpa using hp
            have hw := wanted_eq hS.A hg hp' hpdst (blt_iff.1 hdN) (hgT j want p d hg hp' hpdst)
            have skip : Region.wanted o (yielded ops a) = false → setD (o.dst.map Pa.of) tm undefV (fun tm => κ tm h n fx) = R → (∃ tm1 h1 n1 fx1, κ tm1 h1 n1 fx1 = R ∧ (∃ v, tm1 = putT (o.dst.map Pa.of) tm v) ∧ OpNorm T P G B0 N s cs ρ S fx h n a DS M w k ops i rest o tm1 fx1 h1 n1) ∨
                (∃ v tm1 fx1 h1 n1, R = .panic v tm1 fx1 h1 n1 ∧ (fx1 = fx ∧ ((∃ h' n', Q (.panic v h' n')) ∨ isPanic (xop G o) = true)) ∧ OpPanic T P G B0 N s cs ρ S fx h n a DS M w k ops i rest v tm1 fx1 h1 n1) := by
              intro hw hr
              rw [setD_eq] at hr
              exact .inl ⟨_, _, _, _, hr, ⟨_, rfl⟩, op_skip hS ho hw hd⟩
            generalize getV (Pa.of d) tm = gv at hr hw
            cases gv with
            | bool t =>
              replace hr : ifB t (ifB want (stepL cf yf (execX G (xop G o) tm h n) (o.dst.map Pa.of) tm fx h n κ) (setD (o.dst.map Pa.of) tm undefV fun tm => κ tm h n fx)) (ifB want (setD (o.dst.map Pa.of) tm undefV fun tm => κ tm h n fx) (stepL cf yf (execX G (xop G o) tm h n) (o.dst.map Pa.of) tm fx h n κ)) = R := hr
              cases t <;> cases want
              · exact op_do TO hcf hyf hS ho hw hpl hd hab hr hn
              · exact skip hw hr
              · exact skip hw hr
              · exact op_do TO hcf hyf hS ho hw hpl hd hab hr hn
            | _ => exact skip hw hr
        · exact (stepO_bad hr hn).elim
      · exact (stepO_bad hr hn).elim
/-- the operations of a region, in their order -/
theorem ops_sim (TO : TabOK P G) (hcf : CFok P G B0 cf) (hyf : YFok P G B0 yf) : ∀ (is : List Nat) (os : List Oper), is.map (fun i => ops[i]?) = os.map some → ∀ {ρ : Env} {S : Nat → Prop} {tm : TV} {fx : Fx} {h : TH} {n : Nat} {a : Array Value} {DS : List Deferred} {M : Option FrameMode} {w : World} {R : Res},
    St P G B0 N s cs ρ S tm fx h n a DS M w → execL cf yf G (os.map (xoper G N ops.toList)) tm h n fx = R → NF R → ResSim P G B0 N s cs (lone (s.at a DS (.inRegion ops is :: k)) (withM M cs) w) ρ S fx h n w k R
  | [], [], _, ρ, S, tm, fx, h, n, a, DS, M, w, R, hS, hr, _ => by
    cases hr
    exact ⟨ρ, a, DS, M, w, _, .refl _ _, Nat.le_refl _, rfl, ext_self ▸ hS, fun _ _ => .refl _ _ _, rfl, .one stepC_regionEnd⟩
  | i :: is, o :: os, hio, ρ, S, tm, fx, h, n, a, DS, M, w, R, hS, hr, hn => by
    simp only [List.map_cons, List.cons.injEq] at hio
    rw [List.map_cons, execL_cons] at hr
    rcases op_one (k := k) (rest := is) TO hcf.q hyf.q hS hio.1 ⟨fun ρ' hA => hS.E hA, rfl, rfl⟩ (fun _ _ _ _ _ _ _ => trivial) hr hn with ⟨tm', h', n', fx', hr, _, hE⟩ | ⟨v, tm', fx', h', n', rfl, _, hE⟩
    · obtain ⟨ρ1, a', DS', M', w', fr, hA, hn1, hrd, hS', hK, ⟨_, rfl⟩, hs⟩ := hE
      exact ResSim.comp hA hn1 hrd hK hs (ops_sim TO hcf hyf is os hio.2 (hS'.mono fun _ _ => .inl trivial) hr hn)
    · exact ⟨AllT, EndsT.mono (fun ρ a1 ds fr ⟨k', V, h1, h2⟩ => ⟨k', V, h1, .inl rfl, h2⟩) hE⟩
  | [], _ :: _, hio, _, _, _, _, _, _, _, _, _, _, _, _, _, _ => by simp at hio
  | _ :: _, [], hio, _, _, _, _, _, _, _, _, _, _, _, _, _, _ => by simp at hio
end
end Go.Clo
namespace Go.Clo

def CodeOK (P : Program) (G : Tab) (B0 N : Nat) (s : Fra) (cs : List Frame) (cf : CF) (yf : YF) (c : Code) : Prop :=
  ∀ {ρ : Env} {S : Nat → Prop} {tm : TV} {fx : Fx} {h : TH} {n : Nat} {a : Array Value} {DS : List Deferred} {M : Option FrameMode} {w : World} {k : List Item} {R : Res}, St P G B0 N s cs ρ S tm fx h n a DS M w →
    execC cf yf G s.fn (xc G N c) tm fx h n = R → NF R → ResSim P G B0 N s cs (lone (s.at a DS (.code c :: k)) (withM M cs) w) ρ S fx h n w k R

section
variable {P : Program} {G : Tab} {B0 N : Nat} {s : Fra} {cs : List Frame} {cf : CF} {yf : YF}
theorem thenC_elim {R1 R : Res} {b : Body} (h : thenC R1 b = R) (hn : NF R) : (∃ tm fx h n, R1 = .normal tm fx h n ∧ b tm fx h n = R) ∨ (R1 = R ∧ ∀ tm fx h n, R ≠ .normal tm fx h n) := by
  cases R1 with
  | normal tm fx h' n => exact .inl ⟨tm, fx, h', n, rfl, h⟩
  | exit id tm fx h' n => exact .inr ⟨h, fun _ _ _ _ q => by rw [← h] at q; cases q⟩
  | ret tm fx h' n => exact .inr ⟨h, fun _ _ _ _ q => by rw [← h] at q; cases q⟩
  | panic v tm fx h' n => exact .inr ⟨h, fun _ _ _ _ q => by rw [← h] at q; cases q⟩
  | fail why => exact absurd h.symm (hn why)
theorem NF.normal {tm : TV} {fx : Fx} {h : TH} {n : Nat} : NF (.normal tm fx h n) := fun _ q => by cases q

theorem code_seq {x y : Code} (hx : CodeOK P G B0 N s cs cf yf x) (hy : CodeOK P G B0 N s cs cf yf y) : CodeOK P G B0 N s cs cf yf (.seq x y) := by
  intro ρ S tm fx h n a DS M w k R hS hr hn
  replace hr : thenC (execC cf yf G s.fn (xc G N x) tm fx h n) (execC cf yf G s.fn (xc G N y)) = R := hr
  rcases thenC_elim hr hn with ⟨tm1, fx1, h1, n1, h2, h3⟩ | ⟨h2, h3⟩
  · obtain ⟨ρ1, a1, ds1, M1, w1, fr, hA, hn1, hrd, hS1, hK, rfl, hs⟩ := hx (k := .code y :: k) hS h2 NF.normal
    exact ResSim.comp hA hn1 hrd hK (.head stepC_seq hs) (hy hS1 h3 hn)
  · exact ResSim.of_steps (.one stepC_seq) (ResSim.pass (k1 := .code y :: k) (fun id => by simp [exitTo]) h3 (hx (k := .code y :: k) hS h2 hn))
theorem code_cond {c : Operand} {x y : Code} (hx : CodeOK P G B0 N s cs cf yf x) (hy : CodeOK P G B0 N s cs cf yf y) : CodeOK P G B0 N s cs cf yf (.cond c x y) := by
  intro ρ S tm fx h n a DS M w k R hS hr hn
  unfold xc at hr
  cases hp : plainX N c with
  | false => rw [hp] at hr; exact absurd hr.symm (hn _)
  | true =>
    rw [hp] at hr
    replace hr : (evK (xo c) tm fun v => boolV v (.fail "cond") fun t => ifB t (execC cf yf G s.fn (xc G N x) tm fx h n) (execC cf yf G s.fn (xc G N y) tm fx h n)) = R := hr
    rw [evK_eq] at hr
    obtain ⟨b, hb, hr⟩ := boolV_elim hr (fun q => hn _ q.symm)
    rw [ifB_eq] at hr
    have e := plainX_ev (hS.E (.refl _ _)) hp
    rw [hb] at e
    have hstep := stepC_cond (P := P) (s := s) (cs := withM M cs) (a := a) (ds := DS) (k := k) (w := w) (x := x) (y := y) (c := c) (t := b) (by rw [e]; simp [rlV])
    cases b with
    | true => exact ResSim.of_steps (.one hstep) (hx hS hr hn)
    | false => exact ResSim.of_steps (.one hstep) (hy hS hr hn)
theorem code_block {id : Nat} {x : Code} (hx : CodeOK P G B0 N s cs cf yf x) : CodeOK P G B0 N s cs cf yf (.block id x) := by
  intro ρ S tm fx h n a DS M w k R hS hr hn
  replace hr : blockEnd (execC cf yf G s.fn (xc G N x) tm fx h n) id = R := hr
  generalize hR1 : execC cf yf G s.fn (xc G N x) tm fx h n = R1 at hr
  cases R1 with
  | fail why => exact absurd hr.symm (hn _)
  | normal tm1 fx1 h1 n1 =>
    replace hr : Res.normal tm1 fx1 h1 n1 = R := hr
    subst hr
    obtain ⟨ρ1, a1, ds1, M1, w1, fr, hA, hn1, hrd, hS1, hK, rfl, hs⟩ := hx (k := .inBlock id :: k) hS hR1 hn
    exact ⟨ρ1, a1, ds1, M1, w1, _, hA, hn1, hrd, hS1, hK, rfl, .head stepC_block (hs.trans (.one stepC_inBlock))⟩
  | exit id' tm1 fx1 h1 n1 =>
    replace hr : ifB (Nat.beq id' id) (.normal tm1 fx1 h1 n1) (.exit id' tm1 fx1 h1 n1) = R := hr
    obtain ⟨ρ1, a1, ds1, M1, w1, fr, hA, hn1, hrd, hS1, hK, ⟨k', hk', rfl⟩, hs⟩ := hx (k := .inBlock id :: k) hS hR1 (fun _ q => by cases q)
    cases hb : Nat.beq id' id with
    | true =>
      have : id' = id := Nat.eq_of_beq_eq_true hb
      subst this
      rw [hb] at hr
      replace hr : Res.normal tm1 fx1 h1 n1 = R := hr
      subst hr
      refine ⟨ρ1, a1, ds1, M1, w1, _, hA, hn1, hrd, hS1, hK, rfl, .head stepC_block (hs.trans (.one (stepC_exit ?_)))⟩
      rw [hk']; simp [exitTo]
    | false =>
      have hne : id' ≠ id := Nat.ne_of_beq_eq_false hb
      rw [hb] at hr
      replace hr : Res.exit id' tm1 fx1 h1 n1 = R := hr
      subst hr
      refine ⟨ρ1, a1, ds1, M1, w1, _, hA, hn1, hrd, hS1, hK, ⟨k', ?_, rfl⟩, .head stepC_block hs⟩
      have : (id == id') = false := by simp; exact fun h => hne h.symm
      rw [hk']; simp [exitTo, this]
  | ret tm1 fx1 h1 n1 =>
    replace hr : Res.ret tm1 fx1 h1 n1 = R := hr
    subst hr
    exact EndsT.of_steps (.one stepC_block) (hx (k := .inBlock id :: k) hS hR1 hn)
  | panic v tm1 fx1 h1 n1 =>
    replace hr : Res.panic v tm1 fx1 h1 n1 = R := hr
    subst hr
    exact ResSim.of_steps (R := .panic v tm1 fx1 h1 n1) (.one stepC_block) (hx (k := .inBlock id :: k) hS hR1 hn)
theorem again_sim {x : Code} (hx : CodeOK P G B0 N s cs cf yf x) : ∀ (j : Nat) {ρ : Env} {S : Nat → Prop} {tm : TV} {fx : Fx} {h : TH} {n : Nat} {a : Array Value} {DS : List Deferred} {M : Option FrameMode} {w : World} {k : List Item} {R : Res}, St P G B0 N s cs ρ S tm fx h n a DS M w →
    again (execC cf yf G s.fn (xc G N x)) j tm fx h n = R → NF R → ResSim P G B0 N s cs (lone (s.at a DS (.code x :: .inLoop x :: k)) (withM M cs) w) ρ S fx h n w (.inLoop x :: k) R
  | 0, _, _, _, _, _, _, _, _, _, _, _, _, hS, hr, hn => hx hS hr hn
  | j + 1, ρ, S, tm, fx, h, n, a, DS, M, w, k, R, hS, hr, hn => by
    replace hr : thenC (again (execC cf yf G s.fn (xc G N x)) j tm fx h n) (again (execC cf yf G s.fn (xc G N x)) j) = R := hr
    rcases thenC_elim hr hn with ⟨tm1, fx1, h1, n1, h2, h3⟩ | ⟨h2, h3⟩
    · obtain ⟨ρ1, a1, ds1, M1, w1, fr, hA, hn1, hrd, hS1, hK, rfl, hs⟩ := again_sim hx j (k := k) hS h2 NF.normal
      exact ResSim.comp hA hn1 hrd hK (hs.trans (.one stepC_inLoop)) (again_sim hx j hS1 h3 hn)
    · exact again_sim hx j hS h2 hn
theorem code_loop {x : Code} (hx : CodeOK P G B0 N s cs cf yf x) : CodeOK P G B0 N s cs cf yf (.loop x) := by
  intro ρ S tm fx h n a DS M w k R hS hr hn
  replace hr : loopEnd (again (execC cf yf G s.fn (xc G N x)) 20 tm fx h n) = R := hr
  generalize hR1 : again (execC cf yf G s.fn (xc G N x)) 20 tm fx h n = R1 at hr
  have key : R1 = R ∧ ∀ tm fx h n, R ≠ .normal tm fx h n := by
    cases R1 with
    | normal tm fx h' n => exact absurd hr.symm (hn _)
    | exit id tm fx h' n => exact ⟨hr, fun _ _ _ _ q => by rw [← hr] at q; cases q⟩
    | ret tm fx h' n => exact ⟨hr, fun _ _ _ _ q => by rw [← hr] at q; cases q⟩
    | panic v tm fx h' n => exact ⟨hr, fun _ _ _ _ q => by rw [← hr] at q; cases q⟩
    | fail why => exact absurd hr.symm (hn why)
  obtain ⟨rfl, h3⟩ := key
  exact ResSim.of_steps (.one stepC_loop) (ResSim.pass (k1 := .inLoop x :: k) (fun id => by simp [exitTo]) h3 (again_sim hx 20 hS hR1 hn))
theorem code_scope {x : Code} (hx : CodeOK P G B0 N s cs cf yf x) : CodeOK P G B0 N s cs cf yf (.scope x) := by
  intro ρ S tm fx h n a DS M w k R hS hr hn
  replace hr : execC cf yf G s.fn (xc G N x) tm fx h n = R := hr
  have := hx (k := .inScope x :: k) hS hr hn
  cases R with
  | fail why => trivial
  | normal tm1 fx1 h1 n1 =>
    obtain ⟨ρ1, a1, ds1, M1, w1, fr, hA, hn1, hrd, hS1, hK, rfl, hs⟩ := this
    exact ⟨ρ1, a1, ds1, M1, w1, _, hA, hn1, hrd, hS1, hK, rfl, .head stepC_scope (hs.trans (.one stepC_inScope))⟩
  | exit id tm1 fx1 h1 n1 => exact EndsT.of_steps (.one stepC_scope) (EndsT.mono (fun _ _ _ _ ⟨k', h1, h2⟩ => ⟨k', by rw [h1]; simp [exitTo], h2⟩) this)
  | ret tm1 fx1 h1 n1 => exact EndsT.of_steps (.one stepC_scope) this
  | panic v tm1 fx1 h1 n1 => exact ⟨_, EndsT.of_steps (.one stepC_scope) this.choose_spec⟩
theorem code_region {id : Nat} {ops : Array Oper} (T : TabOK P G) (hcf : CFok P G B0 cf) (hyf : YFok P G B0 yf) : CodeOK P G B0 N s cs cf yf (.region id ops false) := by
  intro ρ S tm fx h n a DS M w k R hS hr hn
  replace hr : execL cf yf G (ops.toList.map (xoper G N ops.toList)) tm h n fx = R := hr
  refine ResSim.of_steps (.one stepC_region) (ops_sim T hcf hyf _ ops.toList ?_ hS hr hn)
  apply List.ext_getElem?
  intro j
  simp only [List.getElem?_map]
  by_cases hj : j < ops.size
  · rw [List.getElem?_range hj]
    simp [hj]
  · rw [List.getElem?_eq_none (by simpa using hj), List.getElem?_eq_none (by simpa using hj)]
    rfl
theorem code_skip : CodeOK P G B0 N s cs cf yf .skip := by
  intro ρ S tm fx h n a DS M w k R hS hr hn
  cases hr
  exact ⟨ρ, a, DS, M, w, _, .refl _ _, Nat.le_refl _, rfl, ext_self ▸ hS, fun _ _ => .refl _ _ _, rfl, .one stepC_skip⟩
theorem code_label {l : Nat} : CodeOK P G B0 N s cs cf yf (.label l) := by
  intro ρ S tm fx h n a DS M w k R hS hr hn
  cases hr
  exact ⟨ρ, a, DS, M, w, _, .refl _ _, Nat.le_refl _, rfl, ext_self ▸ hS, fun _ _ => .refl _ _ _, rfl, .one stepC_label⟩
theorem code_exit {id : Nat} : CodeOK P G B0 N s cs cf yf (.exit id) := by
  intro ρ S tm fx h n a DS M w k R hS hr hn
  cases hr
  exact ⟨ρ, a, DS, M, w, _, .refl _ _, Nat.le_refl _, rfl, ext_self ▸ hS, fun _ _ => .refl _ _ _, ⟨k, rfl, rfl⟩, .refl _ _⟩
theorem code_ret : CodeOK P G B0 N s cs cf yf .ret := by
  intro ρ S tm fx h n a DS M w k R hS hr hn
  cases hr
  exact ⟨ρ, a, DS, M, w, _, .refl _ _, Nat.le_refl _, rfl, ext_self ▸ hS, fun _ _ => .refl _ _ _, ⟨k, rfl⟩, .refl _ _⟩
theorem code_goto {l : Nat} : CodeOK P G B0 N s cs cf yf (.goto l) := by
  intro ρ S tm fx h n a DS M w k R hS hr hn
  exact absurd hr.symm (hn _)
theorem code_refuse {why : String} : CodeOK P G B0 N s cs cf yf (.refuse why) := by
  intro ρ S tm fx h n a DS M w k R hS hr hn
  exact absurd hr.symm (hn _)
theorem bif_and {a b : Bool} (h : (bif a then b else false) = true) : a = true ∧ b = true := by cases a <;> simp_all
theorem code_sim (T : TabOK P G) (hcf : CFok P G B0 cf) (hyf : YFok P G B0 yf) (hdraw : ∀ id ops, planOK G N ops.toList = true → CodeOK P G B0 N s cs cf yf (.region id ops true)) (hrange : ∀ f ps x y, okC G N x = true → okC G N y = true → CodeOK P G B0 N s cs cf yf (.rangeFunc f ps x y)) (c : Code) (hc : okC G N c = true) : CodeOK P G B0 N s cs cf yf c := by
  induction c with
  | skip => exact code_skip
  | label l => exact code_label
  | region id ops draw =>
    cases draw with
    | true => exact hdraw id ops hc
    | false => exact code_region T hcf hyf
  | seq a b iha ihb => exact code_seq (iha (bif_and hc).1) (ihb (bif_and hc).2)
  | cond c a b iha ihb => exact code_cond (iha (bif_and hc).1) (ihb (bif_and hc).2)
  | block id b ih => exact code_block (ih hc)
  | loop b ih => exact code_loop (ih hc)
  | rangeFunc f ps a b _ _ => exact hrange f ps a b (bif_and hc).1 (bif_and hc).2
  | exit id => exact code_exit
  | scope b ih => exact code_scope (ih hc)
  | goto l => exact code_goto
  | ret => exact code_ret
  | refuse why => exact code_refuse
end
end Go.Clo
