/-
A CLOSED RUN. Loops over functions.
A CLOSED RUN. Leaving a function; a call.
A CLOSED RUN. A call; a round; all calls, to a depth.
A CLOSED RUN. A round of a loop over a function.
A CLOSED RUN. All calls, to a depth.
A CLOSED RUN. Operations that look alone, operations that lay a block; what an operation looks at.
A CLOSED RUN. Reading operations: what they answer does not hang on the count of blocks, and the heap stays.
A CLOSED RUN. Drawn regions: what a plan that is right tells.
A CLOSED RUN. Drawn regions: the state between; an operation that is done.
-/
import Derived.Test.YtkeekncfeibobaaGreatDoorM04
import Derived.Laws.Sem
import Derived.Orders
namespace Go.Clo

section
variable {P : Program} {G : Tab} {B0 N : Nat} {s : Fra} {cs : List Frame} {cf : CF} {yf : YF} {ρ : Env} {S : Nat → Prop} {tm : TV} {fx : Fx} {h : TH} {n : Nat} {a : Array Value} {DS : List Deferred} {M : Option FrameMode} {w : World} {k : List Item}
theorem allLt_mem : ∀ {l : List Nat}, allLt N l = true → ∀ t ∈ l, t < N
  | [], _ => nofun
  | y :: l, h => by
    simp only [allLt] at h
    cases hy : Nat.blt y N
    · simp [hy] at h
    · simp only [hy, cond_true] at h
      intro x hx
      rcases List.mem_cons.1 hx with rfl | hx
      · exact blt_iff.1 hy
      · exact allLt_mem h x hx
theorem newObj_run (o : Obj) : (newObj o).run P w = .ok w.heap.size (w.alloc o) := rfl
theorem Ev_const (v : Value) : Ev a (.const v) = v := rfl
theorem getLoop_run {l : Nat} {r : Loop} (h : w.heap[l]? = some (.loop r)) : (Instr.getLoop l).run P w = .ok r w := by
  simp [Instr.getLoop, Sem.run_bind, getObj, Sem.run, h, Result.andThen]
theorem setLoop_run {l : Nat} {r : Loop} (o : Obj) (h : w.heap[l]? = some (.loop r)) : (setObj l o).run P w = .ok () { w with heap := w.heap.setIfInBounds l o } := by simp [setObj, Sem.run, h]
theorem endLoop_run {L : Nat} {r : Loop} (hl : w.heap[L]? = some (.loop r)) (hb : r.state ≠ .busy) : (Instr.endLoop L).run P w = .ok r.pending { w with heap := w.heap.setIfInBounds L (.loop { r with state := .exhausted }) } := by
  simp [Instr.endLoop, Sem.run_bind, getLoop_run hl, setLoop_run _ hl, Result.andThen, hb]
theorem stepC_endRange {L : Nat} {jump : Option Code} {w' : World} (hr : (Instr.endLoop L).run P w = .ok jump w') :
    step P (lone (s.at a DS (.endRangeFunc L :: k)) cs w) = .next (lone (s.at a DS ((jump.map Item.code).toList ++ k)) cs w') :=
  step_lone_go (by simp [stepG, stepG.exec, Fra.at, hr])
theorem heap_set_self {L : Nat} {o : Obj} (hL : L < w.heap.size) : ({ w with heap := w.heap.setIfInBounds L o } : World).heap[L]? = some o := by simp [hL]
theorem heap_set_ne {L b : Nat} {o : Obj} (hb : b ≠ L) : ({ w with heap := w.heap.setIfInBounds L o } : World).heap[b]? = w.heap[b]? := by simp [Array.getElem?_setIfInBounds_ne (Ne.symm hb)]
theorem loop_at {k : Nat} {st : LoopState} {pend : Option Code} {fn : FuncId} {tm : TV} {ps : List Pa} {x y : XC} {d : Nat} (hW : WEq ρ G B0 h n w) (hk : h.getO k = .loop st pend fn tm ps x y d) :
    Live h k ∧ ∃ p, w.heap[ρ.loc k]? = some p ∧ LoopObj ρ G st pend fn tm ps x y d p := by
  have hl : Live h k := by unfold Live; rw [hk]; simp
  obtain ⟨p, hp, hO⟩ := hW.obj k hl
  rw [hk] at hO
  exact ⟨hl, p, hp, hO⟩
/-- a live loop's state turned -/
theorem loop_turn {k : Nat} {st st' : LoopState} {pend pend' : Option Code} {fn : FuncId} {tm : TV} {ps : List Pa} {x y : XC} {d : Nat} (hW : WEq ρ G B0 h n w) (hk : h.getO k = .loop st pend fn tm ps x y d) {r : Loop} (hr : w.heap[ρ.loc k]? = some (.loop r)) :
    WEq ρ G B0 (h.setO k (.loop st' pend' fn tm ps x y d)) n { w with heap := w.heap.setIfInBounds (ρ.loc k) (.loop { r with state := st', pending := pend' }) } ∧
      KeepEq ρ h (h.setO k (.loop st' pend' fn tm ps x y d)) w { w with heap := w.heap.setIfInBounds (ρ.loc k) (.loop { r with state := st', pending := pend' }) } := by
  obtain ⟨hl, p, hp, hO⟩ := loop_at hW hk
  rw [hr] at hp
  cases hp
  obtain ⟨N', tmps, ps', ca, cb, hq, h1, h2, h3, h4, h5, h6⟩ := hO
  simp only [Obj.loop.injEq] at hq
  subst hq
  have hlt := hW.lt_size hl
  refine hW.turn hl (by simp) (by simp) (heap_set_self hlt) ?_ (fun b hb => heap_set_ne hb) rfl rfl rfl
  exact ⟨N', tmps, ps', ca, cb, rfl, h1, h2, h3, h4, h5, h6⟩
theorem rlB_O (ρ : Env) (k : Nat) : rlB ρ (Nat.add O k) = ρ.loc k := rlB_own ρ k

/-- behind the iterator -/
theorem endRF_sim {L k0 : Nat} {v : Value} {R : Res} (hS : St P G B0 N s cs ρ S tm fx h n a DS M w) (hL : ρ.loc k0 = L) (hr : endRF (.ret v h n) k0 tm fx = R) (hn : NF R) (hk0 : S k0) :
    ResSim P G B0 N s cs (lone (s.at a DS (.endRangeFunc L :: k)) (withM M cs) w) ρ S fx h n w k R := by
  replace hr : h.getK k0 (fun o => (match o with
    | .loop .busy _ _ _ _ _ _ _ => .fail "loop busy"
    | .loop _ pend fn tm' params a b d => h.set k0 (.loop .exhausted pend fn tm' params a b d) fun h => pendK pend tm fx h n
    | _ => .fail "loop gone")) = R := hr
  rw [TH.getK_eq] at hr
  generalize ho : h.getO k0 = o at hr
  have key : ∃ st pend fn tm' ps x y d, o = .loop st pend fn tm' ps x y d ∧ st ≠ .busy ∧ pendK pend tm fx (h.setO k0 (.loop .exhausted pend fn tm' ps x y d)) n = R := by
    split at hr
    · exact absurd hr.symm (hn _)
    · rename_i st pend fn tm' ps x y d hb
      rw [TH.set_eq] at hr
      exact ⟨st, pend, fn, tm', ps, x, y, d, rfl, fun q => hb q, hr⟩
    · exact absurd hr.symm (hn _)
  obtain ⟨st, pend, fn, tm', ps, x, y, d, rfl, hst, hr⟩ := key
  obtain ⟨hl, p, hp, N', tmps, ps', ca, cb, hpq, hO⟩ := loop_at hS.W ho
  subst hpq
  have hrun := endLoop_run (P := P) hp (by simpa using hst)
  rw [hL] at hrun
  have hstep := stepC_endRange (s := s) (a := a) (DS := DS) (k := k) (cs := withM M cs) hrun
  have hturn : ∀ ρ', Agree S ρ ρ' → WEq ρ' G B0 (h.setO k0 (.loop .exhausted pend fn tm' ps x y d)) n { w with heap := w.heap.setIfInBounds L (.loop { state := .exhausted, pending := pend, fn := fn, tmps := tmps, params := ps', assign := ca, body := cb, defers := rlB ρ d }) } ∧
      KeepEq ρ' h (h.setO k0 (.loop .exhausted pend fn tm' ps x y d)) w { w with heap := w.heap.setIfInBounds L (.loop { state := .exhausted, pending := pend, fn := fn, tmps := tmps, params := ps', assign := ca, body := cb, defers := rlB ρ d }) } := by
    intro ρ' hA
    have hloc : ρ'.loc k0 = L := by rw [(hA k0 hk0).1, hL]
    rw [hL, ← hloc] at hp
    have := loop_turn (st' := .exhausted) (pend' := pend) (hS.all ρ' hA).2.1 ho hp
    rw [hloc] at this
    exact this
  have hS' : St P G B0 N s cs ρ S tm fx (h.setO k0 (.loop .exhausted pend fn tm' ps x y d)) n a DS M { w with heap := w.heap.setIfInBounds L (.loop { state := .exhausted, pending := pend, fn := fn, tmps := tmps, params := ps', assign := ca, body := cb, defers := rlB ρ d }) } := by
    refine ⟨hS.lt, fun ρ' hA => ?_, by simpa using hS.base, hS.kind, hS.nor, hS.fn, hS.fnG⟩
    obtain ⟨q1, _, q3⟩ := hS.all ρ' hA
    exact ⟨q1, (hturn ρ' hA).1, q3⟩
  have hK := fun ρ' hA => (hturn ρ' hA).2
  rw [← ext_self (S := S) (n := n)] at hS' hK
  cases pend with
  | none =>
    replace hr : Res.normal tm fx _ n = R := hr
    subst hr
    exact ⟨ρ, a, DS, M, _, _, .refl _ _, Nat.le_refl _, rfl, hS', hK, rfl, .one hstep⟩
  | some c =>
    cases c <;> first | exact absurd hr.symm (hn _) | skip
    · replace hr : Res.exit _ tm fx _ n = R := hr
      subst hr
      exact ⟨ρ, a, DS, M, _, _, .refl _ _, Nat.le_refl _, rfl, hS', hK, ⟨k, rfl, rfl⟩, .one hstep⟩
    · replace hr : Res.ret tm fx _ n = R := hr
      subst hr
      exact ⟨ρ, a, DS, M, _, _, .refl _ _, Nat.le_refl _, rfl, hS', hK, ⟨k, rfl⟩, .one hstep⟩

/-- the loop laid, the iterator called -/
theorem goRF_sim (hcf : CFok P G B0 cf) {f : Operand} {ps : Array Tmp} {x y : Code} {g : FuncId} {first cap : List Value} {d D : Nat} {R : Res} {m : Machine} {h1 : TH} {n1 : Nat} {w1 : World} {ρ1 : Env} {mk : List Deferred} (hp : plainX N f = true) (hps : allLt N ps.toList = true) (hcx : okC G N x = true) (hcy : okC G N y = true)
    (hv : evX tm (xo f) = .func (.func g) ⟨first⟩ ⟨cap⟩) (hS : St P G B0 N s cs ρ1 S tm fx h1 n1 a (mk ++ DS) M w1) (hD : ∀ ρ', Agree S ρ1 ρ' → rlB ρ' d = D)
    (hstep : ∀ A w2, (do let d ← resolve (Ev a) { callee := .value f, args := #[.const (.func (.yield w1.heap.size) #[] #[])], argTypes := #[] } 0; invoke d.target d.args : Sem Go.Next).run P
        (w1.alloc (.loop { state := .ready, pending := none, fn := s.fn, tmps := a, params := ps, assign := x, body := y, defers := D })) = .ok (.enter g A) w2 →
      step P m = .next (lone (Frame.enter P g A .normal) (s.at a (mk ++ DS) (.inRangeFunc w1.heap.size :: k) :: withM M cs) w2))
    (hr : goRF cf g first cap s.fn (ps.toList.map Pa.of) (xc G N x) (xc G N y) tm fx d h1 n1 = R) (hn : NF R) : ResSim P G B0 N s cs m ρ1 S fx h1 n1 w1 k R := by
  unfold goRF at hr
  rw [newK_eq] at hr
  obtain ⟨hE, r, u, hr, hsim⟩ := hcf _ _ _ _ _ _ R hr hn
  generalize hL : w1.heap.size = L at hstep
  generalize hlo : (Obj.loop { state := .ready, pending := none, fn := s.fn, tmps := a, params := ps, assign := x, body := y, defers := D }) = lo at hstep
  generalize hao : AO.loop .ready none s.fn tm (ps.toList.map Pa.of) (xc G N x) (xc G N y) d = ao at hr hsim
  have hgone : ao ≠ .gone := by rw [← hao]; simp
  have hA1 : Agree S ρ1 (ρ1.put n1 L 0 0) := Env.agree_put ρ1 L 0 0 hS.lt
  have hlay : ∀ ρ', Agree (ext S n1 (n1 + 1)) (ρ1.put n1 L 0 0) ρ' → Agree S ρ1 ρ' ∧ ρ'.loc n1 = L ∧ WEq ρ' G B0 (h1.setO n1 ao) (n1 + 1) (w1.alloc lo) ∧ KeepEq ρ' h1 (h1.setO n1 ao) w1 (w1.alloc lo) := by
    intro ρ' hA
    have hAn : Agree S ρ1 ρ' := hA1.trans hA ext_sub
    have hloc : ρ'.loc n1 = L := by
      have := (hA n1 (.inr ⟨Nat.le_refl _, Nat.lt_succ_self _⟩)).1
      simpa [Env.put] using this
    obtain ⟨q1, q2, q3, q4, q5⟩ := hS.all ρ' hAn
    replace q1 := actOn_all.1 q1
    refine ⟨hAn, hloc, q2.lay hS.base (by rw [hloc, hL]) ?_⟩
    rw [← hao, ← hlo]
    obtain ⟨F, hF⟩ := hS.fnG
    exact ⟨N, a, ps, x, y, by rw [hD ρ' hAn], q1, rfl, fun t ht => allLt_mem hps t ht, rfl, rfl, hcx, hcy, F, hF⟩
  have hfun : ∀ ρ', Agree S ρ1 ρ' → Ev a f = .func (.func g) ⟨first.map (rlV ρ')⟩ ⟨cap.map (rlV ρ')⟩ := by
    intro ρ' hA
    have := plainX_ev (hS.E hA) hp
    rw [hv] at this
    simpa [rlV, rlF, rlR_mk] using this
  have hargs : ∀ ρ', Agree (ext S n1 (n1 + 1)) (ρ1.put n1 L 0 0) ρ' → (do let d ← resolve (Ev a) { callee := .value f, args := #[.const (.func (.yield L) #[] #[])], argTypes := #[] } 0; invoke d.target d.args : Sem Go.Next).run P (w1.alloc lo) =
      .ok (.enter g ⟨(first ++ (.func (.yield (Nat.add O n1)) #[] #[] :: cap)).map (rlV ρ')⟩) (w1.alloc lo) := by
    intro ρ' hA
    obtain ⟨hAn, hloc, _⟩ := hlay ρ' hA
    have e := hfun ρ' hAn
    have h2 : (⟨(first ++ (.func (.yield (Nat.add O n1)) #[] #[] :: cap)).map (rlV ρ')⟩ : Array Value) = ⟨first.map (rlV ρ')⟩ ++ #[.func (.yield L) #[] #[]] ++ ⟨cap.map (rlV ρ')⟩ := by
      simp [rlV, rlF, rlR, rlL, hloc]
    rw [h2]
    simp only [resolve, e, Deferred.ofValue, invoke, Ev_const, Sem.run_bind, Sem.run_pure, Result.andThen, List.map_toArray, List.map_cons, List.map_nil]
    exact hE _ _
  have h0 := hargs _ (.refl _ _)
  have hin : CallIn G B0 (ρ1.put n1 L 0 0) (ext S n1 (n1 + 1)) (first ++ (.func (.yield (Nat.add O n1)) #[] #[] :: cap)) .no (h1.setO n1 ao) (n1 + 1) ⟨(first ++ (.func (.yield (Nat.add O n1)) #[] #[] :: cap)).map (rlV (ρ1.put n1 L 0 0))⟩ none (w1.alloc lo) := by
    intro ρ' hA
    have h1 := hargs ρ' hA
    rw [h0] at h1
    simp only [Result.ok.injEq, Go.Next.enter.injEq, true_and, and_true] at h1
    exact ⟨h1, (hlay ρ' hA).2.2.1, rfl⟩
  have hbase : B0 ≤ (w1.alloc lo).heap.size := Nat.le_trans hS.base (by show _ ≤ (w1.heap.push lo).size; simp)
  obtain ⟨hu0, hc⟩ := hsim _ (ext S n1 (n1 + 1)) .normal (s.at a (mk ++ DS) (.inRangeFunc L :: k) :: withM M cs) _ none _ (ext_lt hS.lt (Nat.le_succ _)) hin hbase rfl
  have hun : u = .no := by cases u <;> simp [UpK] at hu0 ⊢
  have hst := hstep _ _ h0
  have hSat : ∀ {ρ2 : Env} {h' : TH} {n' : Nat} {w' : World} {v V : Value} {M' : Option FrameMode}, Agree (ext S n1 (n1 + 1)) (ρ1.put n1 L 0 0) ρ2 → n1 + 1 ≤ n' → CallOut G B0 ρ2 (ext S n1 n') v u h' n' V M' w' → (∀ ρ', Agree (ext S n1 n') ρ2 ρ' → KeepEq ρ' (h1.setO n1 ao) h' (w1.alloc lo) w') →
      M' = none ∧ Agree S ρ1 ρ2 ∧ St P G B0 N s cs ρ2 (ext S n1 n') tm fx h' n' a (mk ++ DS) M w' ∧ (∀ ρ', Agree (ext S n1 n') ρ2 ρ' → KeepEq ρ' h1 h' w1 w') ∧ ρ2.loc n1 = L := by
    intro ρ2 h' n' w' v V M' hA hn' hout hK
    have hsub : ∀ k, ext S n1 (n1 + 1) k → ext S n1 n' k := fun k hk => hk.imp id fun h => ⟨h.1, by omega⟩
    obtain ⟨q1, q2, q3, q4⟩ := hlay ρ2 hA
    refine ⟨?_, q1, ⟨ext_lt hS.lt (by omega), fun ρ' hA' => ?_, Nat.le_trans hbase (hK ρ2 (.refl _ _)).size, hS.kind, hS.nor, hS.fn, hS.fnG⟩, fun ρ' hA' => (hlay ρ' (hA.trans hA' hsub)).2.2.2.trans (hK ρ' hA'), q2⟩
    · have := (hout ρ2 (.refl _ _)).2.2
      rw [hun] at this
      exact this
    · obtain ⟨p1, _, p3⟩ := hS.all ρ' (q1.trans hA' ext_sub)
      exact ⟨p1, (hout ρ' hA').2.1, p3⟩
  cases r with
  | fail _ => exact hc.elim
  | ret v h' n' =>
    obtain ⟨ρ2, V, M', w', fr, hA2, hn2, hout, hK, hLv, hs⟩ := hc
    rw [ext_ext (Nat.le_succ _) hn2] at hout hK
    obtain ⟨rfl, hA, hS2, hK2, hloc⟩ := hSat hA2 hn2 hout hK
    refine ResSim.comp hA (by omega) rfl hK2 ?_ (endRF_sim hS2 hloc hr hn (.inr ⟨Nat.le_refl _, by omega⟩))
    refine .head hst (hs.trans (.one ?_))
    have := step_leave_returned (c := s.at a (mk ++ DS) (.inRangeFunc L :: k)) (cs := withM M cs) hLv.leaving
    simpa [Frame.finish, Fra.at] using this
  | panic v h' n' =>
    obtain ⟨ρ2, V, M', w', fr, hA2, hn2, hout, hK, hLv, hs⟩ := hc
    rw [ext_ext (Nat.le_succ _) hn2] at hout hK
    obtain ⟨rfl, hA, hS2, hK2, hloc⟩ := hSat hA2 hn2 hout hK
    replace hr : Res.panic v tm fx h' n' = R := hr
    subst hr
    refine ⟨AllT, ρ2, a, _, M, w', _, hA, by omega, rfl, hS2, hK2, ⟨.inRangeFunc L :: k, V, fun ρ' hA' => (hout ρ' hA').1.symm, .inl rfl, rfl⟩, .head hst (hs.trans (.one ?_))⟩
    rw [← raise_run]
    exact step_leave_panicked hLv.leaving
theorem enter_outer (fn : FuncId) (x y : Code) (ps : Array Tmp) : (Instr.enterLoop fn a ps x y none).run P w =
    .ok ((w.alloc (.deferred (some []))).heap.size, [{ target := .collected w.heap.size, args := #[] }]) ((w.alloc (.deferred (some []))).alloc (.loop { state := .ready, pending := none, fn, tmps := a, params := ps, assign := x, body := y, defers := w.heap.size })) := by
  unfold Instr.enterLoop
  simp only [Sem.run_bind, newObj_run, Result.andThen, Sem.run_pure]
theorem enter_inner (fn : FuncId) (x y : Code) (ps : Array Tmp) {l : Nat} {r : Loop} (hl : w.heap[l]? = some (.loop r)) : (Instr.enterLoop fn a ps x y (some l)).run P w =
    .ok (w.heap.size, []) (w.alloc (.loop { state := .ready, pending := none, fn, tmps := a, params := ps, assign := x, body := y, defers := r.defers })) := by
  unfold Instr.enterLoop
  simp only [Sem.run_bind, getLoop_run hl, newObj_run, Result.andThen, Sem.run_pure]
theorem stepC_range {f : Operand} {ps : Array Tmp} {x y : Code} {L : Nat} {mk : List Deferred} {w1 w2 : World} {g : FuncId} {A : Array Value} (hen : (Instr.enterLoop s.fn a ps x y s.rd).run P w = .ok (L, mk) w1)
    (hi : (do let d ← resolve (Ev a) { callee := .value f, args := #[.const (.func (.yield L) #[] #[])], argTypes := #[] } 0; invoke d.target d.args : Sem Go.Next).run P w1 = .ok (.enter g A) w2) :
    step P (lone (s.at a DS (.code (.rangeFunc f ps x y) :: k)) cs w) = .next (lone (Frame.enter P g A .normal) (s.at a (mk ++ DS) (.inRangeFunc L :: k) :: cs) w2) := by
  refine step_lone_go ?_
  have he : ({ s.at a DS (.code (.rangeFunc f ps x y) :: k) with todo := .inRangeFunc L :: k, defers := mk ++ DS } : Frame).eval = Ev a := frame_Ev _
  simp only [Fra.at] at he
  simp [stepG, stepG.exec, Fra.at, hen, stepG.apply, he, hi]
theorem code_range (hcf : CFok P G B0 cf) (f : Operand) (ps : Array Tmp) (x y : Code) (hcx : okC G N x = true) (hcy : okC G N y = true) : CodeOK P G B0 N s cs cf yf (.rangeFunc f ps x y) := by
  intro ρ S tm fx h n a DS M w k R hS hr hn
  unfold xc at hr
  cases hpp : (plainX N f && allLt N ps.toList) with
  | false => rw [hpp] at hr; exact absurd hr.symm (hn _)
  | true =>
    rw [hpp] at hr
    simp only [Bool.and_eq_true] at hpp
    obtain ⟨hp, hps⟩ := hpp
    replace hr : cRange cf s.fn (xo f) (ps.toList.map Pa.of) (xc G N x) (xc G N y) tm fx h n = R := hr
    unfold cRange at hr
    rw [evK_eq] at hr
    obtain ⟨fn0, first, cap, hv, hr⟩ := funcV_elim hr (fun q => hn _ q.symm)
    cases fn0 with
    | func g =>
      obtain ⟨ds, up, rd⟩ := fx
      cases rd with
      | none =>
        simp only [newK_eq] at hr
        have hrd := hS.rd_none rfl
        generalize hL : w.heap.size = L
        have hA1 : Agree S ρ (ρ.put n L 0 0) := Env.agree_put ρ L 0 0 hS.lt
        have hlay : ∀ ρ', Agree (ext S n (n + 1)) (ρ.put n L 0 0) ρ' → Agree S ρ ρ' ∧ ρ'.loc n = L ∧ WEq ρ' G B0 (h.setO n (.deferred false)) (n + 1) (w.alloc (.deferred (some []))) ∧ KeepEq ρ' h (h.setO n (.deferred false)) w (w.alloc (.deferred (some []))) := by
          intro ρ' hA
          have hAn : Agree S ρ ρ' := hA1.trans hA ext_sub
          have hloc : ρ'.loc n = L := by
            have := (hA n (.inr ⟨Nat.le_refl _, Nat.lt_succ_self _⟩)).1
            simpa [Env.put] using this
          exact ⟨hAn, hloc, (hS.all ρ' hAn).2.1.lay hS.base (by rw [hloc, hL]) rfl⟩
        have hS1 : St P G B0 N s cs (ρ.put n L 0 0) (ext S n (n + 1)) tm ⟨⟨.collected (Nat.add O n), #[]⟩ :: ds, up, none⟩ (h.setO n (.deferred false)) (n + 1) a ([{ target := .collected L, args := #[] }] ++ DS) M (w.alloc (.deferred (some []))) := by
          refine ⟨ext_lt hS.lt (Nat.le_succ _), fun ρ' hA => ?_, Nat.le_trans hS.base (by show _ ≤ (w.heap.push _).size; simp), hS.kind, fun l hl => (by cases hl), hS.fn, hS.fnG⟩
          obtain ⟨q1, q2, q3, _⟩ := hlay ρ' hA
          obtain ⟨p1, p2, p3, p4, p5⟩ := hS.all ρ' q1
          exact ⟨p1, q3, by simp [p3, rlD, rlG, q2, rlR, rlL], p4, p5⟩
        refine ResSim.comp (fx1 := ⟨⟨.collected (Nat.add O n), #[]⟩ :: ds, up, none⟩) hA1 (Nat.le_succ _) rfl (fun ρ' hA => (hlay ρ' hA).2.2.2) (.refl _ _) ?_
        refine goRF_sim (D := L) hcf hp hps hcx hcy hv hS1 (fun ρ' hA => ?_) (fun A w2 hi => ?_) hr hn
        · rw [rlB_O]; exact (hlay ρ' hA).2.1
        · refine stepC_range (mk := [{ target := .collected L, args := #[] }]) ?_ hi
          rw [hrd, ← hL]
          exact enter_outer _ _ _ _
      | some l =>
        simp only at hr
        obtain ⟨k0, rfl, hr⟩ := ownK_elim hr (fun q => hn _ q.symm)
        rw [TH.getK_eq] at hr
        generalize ho : h.getO k0 = o at hr
        have key : ∃ st pend fn tm' ps' x' y' d, o = .loop st pend fn tm' ps' x' y' d ∧ goRF cf g first cap s.fn (ps.toList.map Pa.of) (xc G N x) (xc G N y) tm ⟨ds, up, some (O + k0)⟩ d h n = R := by
          split at hr
          · exact ⟨_, _, _, _, _, _, _, _, rfl, hr⟩
          · exact absurd hr.symm (hn _)
        obtain ⟨st, pend, fn', tm', ps', x', y', d, rfl, hr⟩ := key
        obtain ⟨hl, p, hpp, N', tmps, ps2, ca, cb, hpq, hO⟩ := loop_at hS.W ho
        subst hpq
        have hrd : s.rd = some (ρ.loc k0) := by
          have := (hS.all ρ (.refl _ _)).2.2.2.2
          simpa using this
        refine goRF_sim (mk := []) (D := rlB ρ d) hcf hp hps hcx hcy hv hS (fun ρ' hA => ?_) (fun A w2 hi => ?_) hr hn
        · obtain ⟨_, p', hp', N2, tmps2, ps3, ca2, cb2, hpq2, _⟩ := loop_at (hS.all ρ' hA).2.1 ho
          have hk : ρ'.loc k0 = ρ.loc k0 := by
            have h1 := (hS.all ρ (.refl _ _)).2.2.2.2
            have h2 := (hS.all ρ' hA).2.2.2.2
            rw [h1] at h2
            simpa using h2.symm
          rw [hk, hpp] at hp'
          cases hp'
          simp only [Obj.loop.injEq, Loop.mk.injEq] at hpq2
          exact hpq2.2.2.2.2.2.2.2.symm
        · refine stepC_range (mk := []) ?_ hi
          rw [hrd]
          exact enter_inner _ _ _ _ hpp
    | _ => exact absurd hr.symm (hn _)
end
end Go.Clo
namespace Go.Clo

section
variable {P : Program} {G : Tab} {B0 N : Nat} {s : Fra} {cf : CF} {yf : YF} {ρ : Env} {S : Nat → Prop} {tm : TV} {h : TH} {n : Nat} {a : Array Value} {w : World} {k : List Item}
def resOne (a : Array Value) : ResultVar → Sem Value
  | .tmp t => pure (a.getD t undef)
  | .cell p t => do loadVar t (← asAddr (a.getD p undef))
theorem results_eq (fn : Func) (a : Array Value) : results fn a = (do let vs ← fn.results.mapM (resOne a); pure (if h : vs.size = 1 then vs[0] else .tuple vs)) := by
  unfold results
  congr 1
/-- one result -/
theorem res_one (T : TabOK P G) {x : ResultVar} {κ : Value → Res} {R : Res} (hr : XR.rec (motive := fun _ => TV → TH → (Value → Res) → Res) rTmp rCell (fun _ _ _ => .fail "results") (xres G N x) tm h κ = R) (hn : NF R) :
    ∃ v, κ v = R ∧ ∀ ρ w a, ActEq ρ N tm a → WEq ρ G B0 h n w → (resOne a x).run P w = .ok (rlV ρ v) w := by
  cases x with
  | tmp t =>
    dsimp only [xres] at hr
    cases ht : Nat.blt t N with
    | false => rw [ht] at hr; exact absurd hr.symm (hn _)
    | true =>
      rw [ht] at hr
      replace hr : rTmp (.tmp (Pa.of t)) tm h κ = R := hr
      unfold rTmp at hr
      rw [evK_eq] at hr
      refine ⟨_, hr, fun ρ w a hA _ => ?_⟩
      have := hA.2 t (blt_iff.1 ht)
      simp [resOne, this, evX]
  | cell p t =>
    dsimp only [xres] at hr
    cases ht : Nat.blt p N with
    | false => rw [ht] at hr; exact absurd hr.symm (hn _)
    | true =>
      rw [ht] at hr
      simp only [cond_true] at hr
      split at hr
      · rename_i d sz hd hs
        replace hr : rCell (.tmp (Pa.of p)) sz (isAggD d) tm h κ = R := hr
        unfold rCell at hr
        rw [evK_eq] at hr
        obtain ⟨b, off, hv, hr⟩ := ptrV_elim hr (fun q => hn _ q.symm)
        obtain ⟨k0, c, rfl, hk, hr⟩ := rdK_elim hr (fun q => hn _ q.symm)
        rw [ifB_eq] at hr
        have key : ∀ ρ a, ActEq ρ N tm a → a.getD p undef = .pointer (some ⟨ρ.loc k0, off, none⟩) := by
          intro ρ a hA
          have := hA.2 p (blt_iff.1 ht)
          simp only [evX] at hv
          rw [hv, rlV_ptr, rlB_own] at this
          simp [this]
        cases hg : isAggD d with
        | true =>
          rw [hg, if_pos rfl] at hr
          obtain ⟨ho1, hr⟩ := dropK_elim hr (fun q => hn _ q.symm)
          obtain ⟨ho2, hr⟩ := takeK_elim hr (fun q => hn _ q.symm)
          refine ⟨_, hr, fun ρ w a hA hW => ?_⟩
          simp [resOne, key ρ a hA, asAddr, loadVar, T.run_isAgg hd, hg, T.run_size hs, cells_run hW hk ho2, rlV, rlR_mk]
        | false =>
          rw [hg, if_neg (by simp)] at hr
          obtain ⟨u, hu, hr⟩ := nthK_elim hr (fun q => hn _ q.symm)
          refine ⟨_, hr, fun ρ w a hA hW => ?_⟩
          simp [resOne, key ρ a hA, asAddr, loadVar, T.run_isAgg hd, hg, cell_at hW hk hu]
      · exact absurd hr.symm (hn _)
theorem resK_sim (T : TabOK P G) : ∀ (l : List ResultVar) {κ : List Value → Res} {R : Res}, resK tm h (l.map (xres G N)) κ = R → NF R →
    ∃ vs, κ vs = R ∧ ∀ ρ w a, ActEq ρ N tm a → WEq ρ G B0 h n w → (l.mapM (resOne a)).run P w = .ok (vs.map (rlV ρ)) w
  | [], κ, R, hr, _ => ⟨[], hr, fun _ _ _ _ _ => by simp⟩
  | x :: l, κ, R, hr, hn => by
    replace hr : XR.rec (motive := fun _ => TV → TH → (Value → Res) → Res) rTmp rCell (fun _ _ _ => .fail "results") (xres G N x) tm h (fun v => resK tm h (l.map (xres G N)) fun vs => κ (v :: vs)) = R := hr
    obtain ⟨v, hr, hv⟩ := res_one (B0 := B0) (n := n) T hr hn
    obtain ⟨vs, hr, hvs⟩ := resK_sim T l hr hn
    refine ⟨v :: vs, hr, fun ρ w a hA hW => ?_⟩
    have h1 := hv ρ w a hA hW
    have h2 := hvs ρ w a hA hW
    rw [List.mapM_cons, Sem.run_bind, h1]
    simp only [Result.andThen]
    rw [Sem.run_bind, h2]
    simp [Result.andThen]
theorem results_run (T : TabOK P G) {fn : Func} {κ : Value → Res} {R : Res} (hr : resK tm h (fn.results.toList.map (xres G N)) (fun vs => κ (oneV vs)) = R) (hn : NF R) :
    ∃ v, κ v = R ∧ ∀ ρ w a, ActEq ρ N tm a → WEq ρ G B0 h n w → (results fn a).run P w = .ok (rlV ρ v) w := by
  obtain ⟨vs, hr, H⟩ := resK_sim (B0 := B0) (n := n) T _ hr hn
  refine ⟨oneV vs, hr, fun ρ w a hA hW => ?_⟩
  rw [results_eq, Array.mapM_eq_mapM_toList, Sem.run_bind]
  have h1 := H ρ w a hA hW
  rw [map_eq_pure_bind, Sem.run_bind, h1]
  cases vs with
  | nil => simp [Result.andThen, oneV, rlV, rlR_mk]
  | cons v vs =>
    cases vs with
    | nil => simp [Result.andThen, oneV]
    | cons v2 vs => simp [Result.andThen, oneV, rlV, rlR_mk]

/-- where a function that is left arrives -/
def LeaveTo (P : Program) (G : Tab) (B0 : Nat) (f : FuncId) (kind : CallKind) (m : Machine) (CS : List Frame) (ρ : Env) (S : Nat → Prop) (h : TH) (n : Nat) (w : World) : CRes → Prop
  | .ret v h' n' => ∃ ρ1 V w' fr, Agree S ρ ρ1 ∧ n ≤ n' ∧ CallOut G B0 ρ1 (ext S n n') v .no h' n' V none w' ∧ (∀ ρ', Agree (ext S n n') ρ1 ρ' → KeepEq ρ' h h' w w') ∧ LeaveR P f kind fr V w' ∧ Steps P m (lone fr CS w')
  | .panic v h' n' => ∃ ρ1 V w' fr, Agree S ρ ρ1 ∧ n ≤ n' ∧ CallOut G B0 ρ1 (ext S n n') v .no h' n' V none w' ∧ (∀ ρ', Agree (ext S n n') ρ1 ρ' → KeepEq ρ' h h' w w') ∧ LeaveP P fr V w' ∧ Steps P m (lone fr CS w')
  | .fail _ => False
theorem ext_le {n n1 n2 : Nat} (h : n1 ≤ n2) : ∀ k, ext S n n1 k → ext S n n2 k := fun _ hk => hk.imp id fun q => ⟨q.1, Nat.lt_of_lt_of_le q.2 h⟩
theorem LeaveTo.comp {f : FuncId} {kind : CallKind} {m m1 : Machine} {CS : List Frame} {ρ1 : Env} {h1 : TH} {n1 : Nat} {w1 : World} {r : CRes} (hA : Agree S ρ ρ1) (hn : n ≤ n1) (hK : ∀ ρ', Agree (ext S n n1) ρ1 ρ' → KeepEq ρ' h h1 w w1) (hs : Steps P m m1)
    (H : LeaveTo P G B0 f kind m1 CS ρ1 (ext S n n1) h1 n1 w1 r) : LeaveTo P G B0 f kind m CS ρ S h n w r := by
  cases r with
  | fail _ => exact H
  | ret v h' n' =>
    obtain ⟨ρ2, V, w', fr, q1, q2, q3, q4, q5, q6⟩ := H
    rw [ext_ext hn q2] at q3 q4
    exact ⟨ρ2, V, w', fr, hA.trans q1 ext_sub, Nat.le_trans hn q2, q3, fun ρ' hA' => (hK ρ' (q1.trans hA' (ext_le q2))).trans (q4 ρ' hA'), q5, hs.trans q6⟩
  | panic v h' n' =>
    obtain ⟨ρ2, V, w', fr, q1, q2, q3, q4, q5, q6⟩ := H
    rw [ext_ext hn q2] at q3 q4
    exact ⟨ρ2, V, w', fr, hA.trans q1 ext_sub, Nat.le_trans hn q2, q3, fun ρ' hA' => (hK ρ' (q1.trans hA' (ext_le q2))).trans (q4 ρ' hA'), q5, hs.trans q6⟩
/-- the state of a frame that is being left; its slots do not matter where it panics and no deferred call is left -/
def Leaving (G : Tab) (B0 N : Nat) (ρ : Env) (S : Nat → Prop) (tm : TV) (ds : List Deferred) (u : Up) (h : TH) (n : Nat) (a : Array Value) (DS : List Deferred) (OM : FrameMode) (w : World) : Prop :=
  ∀ ρ', Agree S ρ ρ' → (ActEq ρ' N tm a ∨ (ds = [] ∧ u ≠ .quiet)) ∧ WEq ρ' G B0 h n w ∧ DS = ds.map (rlD ρ') ∧ some OM = upM ρ' u
def UpL (u : Up) : Prop := u = .quiet ∨ ∃ v, u = .chain v false
theorem UpL.notRun {u : Up} (hu : UpL u) {OM : FrameMode} (h : some OM = upM ρ u) : OM ≠ .run := by
  rcases hu with rfl | ⟨v, rfl⟩ <;> · simp only [upM, Option.some.injEq] at h; rw [h]; simp
theorem settle_up {u : Up} (hk : u ≠ .no) {M : Option FrameMode} (h : M = upM ρ u) : ∃ m, M = some m ∧ some (settle m) = upM ρ (settleU u) ∧ UpL (settleU u) := by
  cases u with
  | no => exact absurd rfl hk
  | quiet => exact ⟨.returning, h, rfl, .inl rfl⟩
  | chain v b =>
    cases b with
    | false => exact ⟨_, h, rfl, .inr ⟨v, rfl⟩⟩
    | true => exact ⟨_, h, rfl, .inl rfl⟩
theorem takeDeferred_run {b : Nat} (hb : w.heap[b]? = some (.deferred (some []))) : (Instr.takeDeferred b).run P w = .ok [] { w with heap := w.heap.setIfInBounds b (.deferred none) } := by
  simp [Instr.takeDeferred, Sem.run_bind, getObj, setObj, Sem.run, hb, Result.andThen]
theorem leaveK_sim (T : TabOK P G) (hcf : CFok P G B0 cf) {fn : Func} {xfn : XF} (hres : xfn.results = fn.results.toList.map (xres G N)) (ds : List Deferred) : ∀ {u : Up} {h : TH} {n : Nat} {κ : CRes → Res} {R : Res},
    leaveK cf xfn tm ds u h n κ = R → NF R → ∃ r, κ r = R ∧ ∀ {s : Fra} {CS : List Frame} {k : List Item} {a : Array Value} {ρ : Env} {S : Nat → Prop} {DS : List Deferred} {OM : FrameMode} {w : World}, P.funcs[s.fn]? = some fn → (∀ k, S k → k < n) → UpL u → Leaving G B0 N ρ S tm ds u h n a DS OM w → B0 ≤ w.heap.size →
      LeaveTo P G B0 s.fn s.kind (lone { s.at a DS k with mode := OM } CS w) CS ρ S h n w r := by
  induction ds with
  | nil =>
    intro u h n κ R hr hn
    replace hr : endD xfn tm u h n κ = R := hr
    have ret : resK tm h xfn.results (fun vs => κ (.ret (oneV vs) h n)) = R → (∀ v b, u ≠ .chain v b) → ∃ r, κ r = R ∧ ∀ {s : Fra} {CS : List Frame} {k : List Item} {a : Array Value} {ρ : Env} {S : Nat → Prop} {DS : List Deferred} {OM : FrameMode} {w : World}, P.funcs[s.fn]? = some fn → (∀ k, S k → k < n) → UpL u → Leaving G B0 N ρ S tm [] u h n a DS OM w → B0 ≤ w.heap.size →
        LeaveTo P G B0 s.fn s.kind (lone { s.at a DS k with mode := OM } CS w) CS ρ S h n w r := by
      intro hr hnc
      rw [hres] at hr
      obtain ⟨v, hr, H⟩ := results_run (κ := fun v => κ (.ret v h n)) (B0 := B0) (n := n) T hr hn
      refine ⟨.ret v h n, hr, ?_⟩
      intro s CS k a ρ S DS OM w hfn hlt hu hL hB
      have h0 := hL ρ (.refl _ _)
      have hDS : DS = [] := h0.2.2.1
      subst hDS
      have hq : u = .quiet := hu.resolve_right fun ⟨v, hv⟩ => hnc _ _ hv
      have hM : OM = .returning := by have := h0.2.2.2; rw [hq] at this; simpa [upM] using this
      subst hM
      have hact : ∀ ρ', Agree S ρ ρ' → ActEq ρ' N tm a := fun ρ' hA => (hL ρ' hA).1.resolve_right fun q => q.2 hq
      have h1 := H ρ w a (hact ρ (.refl _ _)) h0.2.1
      refine ⟨ρ, rlV ρ v, w, _, .refl _ _, Nat.le_refl _, fun ρ' hA => ⟨?_, (hL ρ' (hA.mono ext_sub)).2.1, rfl⟩, fun _ _ => .refl _ _ _, ⟨rfl, rfl, rfl, rfl, fn, hfn, h1⟩, .refl _ _⟩
      rw [ext_self] at hA
      have h2 := H ρ' w a (hact ρ' hA) (hL ρ' hA).2.1
      rw [h1] at h2
      simpa using h2
    cases u with
    | no => exact ret hr nofun
    | quiet => exact ret hr nofun
    | chain v b =>
      replace hr : κ (.panic v h n) = R := hr
      refine ⟨.panic v h n, hr, ?_⟩
      intro s CS k a ρ S DS OM w hfn hlt hu hL hB
      have h0 := hL ρ (.refl _ _)
      have hDS : DS = [] := h0.2.2.1
      subst hDS
      have hb : b = false := by
        rcases hu with hu | ⟨v', hu⟩
        · cases hu
        · cases hu; rfl
      subst hb
      have hM : OM = .panicking [⟨rlV ρ v, false, false⟩] := by simpa [upM] using h0.2.2.2
      subst hM
      refine ⟨ρ, rlV ρ v, w, _, .refl _ _, Nat.le_refl _, fun ρ' hA => ⟨?_, (hL ρ' (hA.mono ext_sub)).2.1, rfl⟩, fun _ _ => .refl _ _ _, ⟨rfl, rfl, fn, hfn⟩, .refl _ _⟩
      rw [ext_self] at hA
      have := (hL ρ' hA).2.2.2
      simpa [upM] using this
  | cons d ds ih =>
    intro u h n κ R hr hn
    obtain ⟨tg, dargs⟩ := d
    cases tg with
    | collected b =>
      replace hr : ownK (.fail "collected") b (fun b => h.getK b fun o => (match o with
        | .deferred false => h.set b (.deferred true) fun h => leaveK cf xfn tm ds u h n κ
        | _ => .fail "collected")) = R := hr
      obtain ⟨k0, hbk, hr2⟩ := ownK_elim hr (fun q => hn _ q.symm)
      clear hr
      subst hbk
      have hr := hr2; clear hr2
      rw [TH.getK_eq] at hr
      generalize ho : h.getO k0 = o at hr
      have key : o = .deferred false ∧ leaveK cf xfn tm ds u (h.setO k0 (.deferred true)) n κ = R := by
        split at hr
        · rw [TH.set_eq] at hr; exact ⟨rfl, hr⟩
        · exact absurd hr.symm (hn _)
      obtain ⟨hq, hr2⟩ := key
      clear hr
      subst hq
      have hr := hr2
      obtain ⟨r, hr, hto⟩ := ih hr hn
      refine ⟨r, hr, ?_⟩
      intro s CS k a ρ S DS OM w hfn hlt hu hL hB
      have h0 := hL ρ (.refl _ _)
      have hrun := hu.notRun h0.2.2.2
      have hlive : Live h k0 := by unfold Live; rw [ho]; simp
      have hobj : ∀ ρ', WEq ρ' G B0 h n w → w.heap[ρ'.loc k0]? = some (.deferred (some [])) := by
        intro ρ' hW
        obtain ⟨p, hp, hO⟩ := hW.obj k0 hlive
        rw [ho] at hO
        rw [hp]; exact congrArg some hO
      have hturn : ∀ ρ', WEq ρ' G B0 h n w → WEq ρ' G B0 (h.setO k0 (.deferred true)) n { w with heap := w.heap.setIfInBounds (ρ'.loc k0) (.deferred none) } ∧ KeepEq ρ' h (h.setO k0 (.deferred true)) w { w with heap := w.heap.setIfInBounds (ρ'.loc k0) (.deferred none) } :=
        fun ρ' hW => hW.turn hlive (by simp) (by simp) (heap_set_self (hW.lt_size hlive)) rfl (fun b hb => heap_set_ne hb) rfl rfl rfl
      have hloc : ∀ ρ', Agree S ρ ρ' → ρ'.loc k0 = ρ.loc k0 := fun ρ' hA => by
        have h1 := (hL ρ' hA).2.2.1
        rw [h0.2.2.1] at h1
        simp only [List.map_cons, rlD, rlG, rlB_own, List.cons.injEq, Deferred.mk.injEq, Target.collected.injEq] at h1
        exact h1.1.1.symm
      have hDS : DS = ⟨.collected (ρ.loc k0), rlR ρ dargs⟩ :: ds.map (rlD ρ) := by simpa [rlD, rlG] using h0.2.2.1
      have hstep : step P (lone { s.at a DS k with mode := OM } CS w) = .next (lone { s.at a (ds.map (rlD ρ)) k with mode := OM } CS { w with heap := w.heap.setIfInBounds (ρ.loc k0) (.deferred none) }) := by
        refine step_lone_go ?_
        have := takeDeferred_run (P := P) (hobj ρ h0.2.1)
        cases OM with
        | run => exact absurd rfl hrun
        | returning => simp [stepG, unwind, Fra.at, hDS, this]
        | panicking c => simp [stepG, unwind, Fra.at, hDS, this]
      have hto' := hto (s := s) (CS := CS) (k := k) (a := a) (ρ := ρ) (S := S) (DS := ds.map (rlD ρ)) (OM := OM) (w := { w with heap := w.heap.setIfInBounds (ρ.loc k0) (.deferred none) }) hfn hlt hu (fun ρ' hA => by
        obtain ⟨p1, p2, p3, p4⟩ := hL ρ' hA
        refine ⟨.inl (p1.resolve_right fun q => nomatch q.1), ?_, ?_, p4⟩
        · have := (hturn ρ' p2).1
          rw [hloc ρ' hA] at this
          exact this
        · rw [hDS] at p3
          simp only [List.map_cons, List.cons.injEq] at p3
          exact p3.2) (by simpa using hB)
      rw [← ext_self (S := S) (n := n)] at hto'
      exact hto'.comp (.refl _ _) (Nat.le_refl _) (fun ρ' hA => by
        rw [ext_self] at hA
        have := (hturn ρ' (hL ρ' hA).2.1).2
        rw [hloc ρ' hA] at this
        exact this) (.one hstep)
    | fn f cap =>
      cases f with
      | func f =>
        replace hr : cf f (dargs.toList ++ cap.toList) u h n (fun r u => (match r with
          | .ret _ h n => leaveK cf xfn tm ds (settleU u) h n κ
          | .panic _ _ _ => .fail "panic in a deferred call"
          | .fail why => .fail why)) = R := hr
        obtain ⟨hE, r, u', hr, hsim⟩ := hcf _ _ _ _ _ _ R hr hn
        cases r with
        | fail _ => exact absurd hr.symm (hn _)
        | panic v h' n' => exact absurd hr.symm (hn _)
        | ret v h' n' =>
          replace hr : leaveK cf xfn tm ds (settleU u') h' n' κ = R := hr
          obtain ⟨r, hr, hto⟩ := ih hr hn
          refine ⟨r, hr, ?_⟩
          intro s CS k a ρ S DS OM w hfn hlt hu hL hB
          have h0 := hL ρ (.refl _ _)
          have hrun := hu.notRun h0.2.2.2
          have hDS : ∀ ρ', Agree S ρ ρ' → DS = ⟨.fn (.func f) (rlR ρ' cap), rlR ρ' dargs⟩ :: ds.map (rlD ρ') := fun ρ' hA => by simpa [rlD, rlG, rlF] using (hL ρ' hA).2.2.1
          have hD0 := hDS ρ (.refl _ _)
          have harr : ∀ ρ', rlR ρ' dargs ++ rlR ρ' cap = ⟨(dargs.toList ++ cap.toList).map (rlV ρ')⟩ := by
            intro ρ'
            cases dargs; cases cap
            simp [rlR_mk]
          have hin : CallIn G B0 ρ S (dargs.toList ++ cap.toList) u h n ⟨(dargs.toList ++ cap.toList).map (rlV ρ)⟩ (some OM) w := by
            intro ρ' hA
            obtain ⟨p1, p2, p3, p4⟩ := hL ρ' hA
            refine ⟨?_, p2, p4⟩
            have := hDS ρ' hA
            rw [hD0] at this
            simp only [List.cons.injEq, Deferred.mk.injEq, Target.fn.injEq, true_and] at this
            rw [← harr, ← harr, this.1.1, this.1.2]
          obtain ⟨huk, hc⟩ := hsim ρ S .deferred ({ s.at a (ds.map (rlD ρ)) k with mode := OM } :: CS) _ (some OM) w hlt hin hB (by rcases hu with rfl | ⟨v, rfl⟩ <;> exact ⟨rfl, by simp⟩)
          have hstep : step P (lone { s.at a DS k with mode := OM } CS w) = .next (lone (Frame.enter P f ⟨(dargs.toList ++ cap.toList).map (rlV ρ)⟩ .deferred) ({ s.at a (ds.map (rlD ρ)) k with mode := OM } :: CS) w) := by
            have := step_defer (P := P) (fr := { s.at a DS k with mode := OM }) (cs := CS) (w := w) (d := ⟨.fn (.func f) (rlR ρ cap), rlR ρ dargs⟩) (ds := ds.map (rlD ρ)) (f := f) (args := ⟨(dargs.toList ++ cap.toList).map (rlV ρ)⟩) hrun hD0 rfl (by simp only [invoke]; rw [harr]; exact hE _ _)
            exact this
          have hwith : ∀ m : FrameMode, withM (some m) ({ s.at a (ds.map (rlD ρ)) k with mode := OM } :: CS) = { s.at a (ds.map (rlD ρ)) k with mode := m } :: CS := fun m => rfl
          have hk' : u' ≠ .no := by rintro rfl; cases huk
          obtain ⟨ρ1, V, M', w', fr, hA1, hn1, hout, hK, hLv, hs⟩ := hc
          rw [hwith] at hs
          obtain ⟨m', rfl, hset, hUL⟩ := settle_up (ρ := ρ1) hk' (hout ρ1 (.refl _ _)).2.2
          rw [hwith] at hs
          have hback : step P (lone fr ({ s.at a (ds.map (rlD ρ)) k with mode := m' } :: CS) w') = .next (lone { s.at a (ds.map (rlD ρ)) k with mode := settle m' } CS w') :=
            step_going_returned (c := { s.at a (ds.map (rlD ρ)) k with mode := m' }) hLv.kind ⟨hLv.mode, hLv.defers, hLv.fn⟩
          have hto' := hto (s := s) (CS := CS) (k := k) (a := a) (ρ := ρ1) (S := ext S n n') (DS := ds.map (rlD ρ)) (OM := settle m') (w := w') hfn (ext_lt hlt hn1) hUL (fun ρ' hA => by
            have hAn := hA1.trans hA ext_sub
            obtain ⟨p1, p2, p3, p4⟩ := hL ρ' hAn
            refine ⟨.inl (p1.resolve_right fun q => nomatch q.1), (hout ρ' hA).2.1, ?_, ?_⟩
            · have := hDS ρ' hAn
              rw [hD0] at this
              simp only [List.cons.injEq] at this
              exact this.2
            · obtain ⟨m2, hm2, hset2, _⟩ := settle_up (ρ := ρ') hk' (hout ρ' hA).2.2
              cases hm2
              exact hset2) (Nat.le_trans hB (hK ρ1 (.refl _ _)).size)
          exact hto'.comp hA1 hn1 hK (.head hstep (hs.trans (.one hback)))
      | _ => exact absurd hr.symm (hn _)
    | _ => exact absurd hr.symm (hn _)
end
end Go.Clo
namespace Go.Clo

section
variable {β : Type} {no : β}
def bindT : List Value → List Pa → TV → TV
  | v :: vs, p :: ps, tm => bindT vs ps (setT p tm v)
  | _, _, tm => tm
theorem bindK_elim : ∀ {vs : List Value} {ps : List Pa} {tm : TV} {κ : TV → β} {R : β}, bindK no vs ps tm κ = R → no ≠ R → κ (bindT vs ps tm) = R ∧ vs.length ≤ ps.length
  | [], ps, tm, κ, R, h, _ => ⟨by cases ps <;> exact h, Nat.zero_le _⟩
  | v :: vs, [], tm, κ, R, h, hn => absurd h hn
  | v :: vs, p :: ps, tm, κ, R, h, hn => by
    replace h : setV p tm v (fun tm => bindK no vs ps tm κ) = R := h
    rw [setV_eq] at h
    have := bindK_elim h hn
    exact ⟨this.1, by simpa using this.2⟩
theorem getV_pas : ∀ (vs : List Value) (m i : Nat) (tm : TV) (t : Nat), vs.length ≤ m → getV (Pa.of t) (bindT vs (pas m i) tm) = if i ≤ t then (match vs[t - i]? with | some v => v | none => getV (Pa.of t) tm) else getV (Pa.of t) tm
  | [], m, i, tm, t, _ => by
    have : bindT [] (pas m i) tm = tm := by cases (pas m i) <;> rfl
    simp [this]
  | v :: vs, 0, i, tm, t, h => by simp at h
  | v :: vs, m + 1, i, tm, t, h => by
    have h' : vs.length ≤ m := by simpa using h
    have e : bindT (v :: vs) (pas (m + 1) i) tm = bindT vs (pas m (i + 1)) (setT (Pa.of i) tm v) := rfl
    rw [e, getV_pas vs m (i + 1) _ t h', getV_setT]
    by_cases h1 : i + 1 ≤ t
    · have h2 : i ≤ t := by omega
      have h3 : t - i = (t - (i + 1)) + 1 := by omega
      have h4 : Pa.of i ≠ Pa.of t := fun q => by have := Pa.of_inj q; omega
      rw [if_pos h1, if_pos h2, h3, List.getElem?_cons_succ, if_neg h4]
    · rw [if_neg h1]
      by_cases h2 : i = t
      · subst h2
        simp
      · have h3 : ¬ i ≤ t := by omega
        have h4 : Pa.of i ≠ Pa.of t := fun q => h2 (Pa.of_inj q)
        rw [if_neg h3, if_neg h4]
end
section
variable {P : Program} {G : Tab} {B0 N : Nat} {s : Fra} {cf : CF} {yf : YF} {ρ : Env} {S : Nat → Prop} {tm : TV} {h : TH} {n : Nat} {a : Array Value} {w : World} {k : List Item}
theorem enter_act (vs : List Value) (N : Nat) (hv : vs.length ≤ N) (ρ : Env) : ActEq ρ N (bindT vs (pas N 0) .e) (⟨vs.map (rlV ρ)⟩ ++ Array.replicate (N - vs.length) undef) := by
  refine ⟨by simp; omega, fun t ht => ?_⟩
  rw [getV_pas vs N 0 .e t hv, if_pos (Nat.zero_le _), Nat.sub_zero, getV_e]
  rw [Array.getElem?_append]
  simp only [List.size_toArray, List.length_map]
  by_cases hlt : t < vs.length
  · rw [if_pos hlt]
    have : vs[t]? = some vs[t] := List.getElem?_eq_getElem hlt
    simp [hlt]
  · rw [if_neg hlt, List.getElem?_eq_none (by omega)]
    simp only [rlV_undef]
    rw [Array.getElem?_replicate, if_pos (by omega), undefV_eq]
theorem round_act : ∀ (vs : List Value) (ps : List Nat) {tm : TV} {a : Array Value}, ActEq ρ N tm a → (∀ t ∈ ps, t < N) → vs.length = ps.length →
    ActEq ρ N (bindT vs (ps.map Pa.of) tm) ((ps.zip (vs.map (rlV ρ))).foldl (fun tmps (t, a) => tmps.setIfInBounds t a) a)
  | [], [], _, _, hA, _, _ => hA
  | v :: vs, p :: ps, tm, a, hA, hp, hl => by
    simp only [List.map_cons, List.zip_cons_cons, List.foldl_cons, bindT]
    exact round_act vs ps (hA.put (d := some p) (by simpa [okDst] using hp p (by simp)) v) (fun t ht => hp t (by simp [ht])) (by simpa using hl)
  | [], _ :: _, _, _, _, _, hl => by simp at hl
  | _ :: _, [], _, _, _, _, hl => by simp at hl

structure XtOK (P : Program) (G : Tab) (xt : FuncId → Option XF) : Prop where
  ok : ∀ f x, xt f = some x → ∃ F, G.ff.get f = some F ∧ xf G F = some x ∧ ∀ c, F.body = some c → okC G F.ntmps c = true
theorem xf_elim {F : Func} {x : XF} (h : xf G F = some x) : ∃ c, F.body = some c ∧ F.name ≠ "runtime.NumGoroutine" ∧ x = { nparams := F.ntmps, body := xc G F.ntmps c, results := F.results.toList.map (xres G F.ntmps), params := pas F.ntmps 0 } := by
  unfold xf at h
  split at h
  · cases h
  · rename_i c hc
    cases hb : F.name == "runtime.NumGoroutine" with
    | true => rw [hb] at h; cases h
    | false =>
      rw [hb] at h
      simp only [cond_false, Option.some.injEq] at h
      exact ⟨c, hc, by simpa using hb, h.symm⟩
theorem enters_of {f : FuncId} {F : Func} {c : Code} (hF : P.funcs[f]? = some F) (hc : F.body = some c) (hnm : F.name ≠ "runtime.NumGoroutine") : Enters P f := by
  intro A w
  simp [callFunc, hF, hc, hnm]
/-- what holds of all code of a program -/
def AllCode (P : Program) (G : Tab) (B0 : Nat) (cf : CF) (yf : YF) : Prop := ∀ N s cs c, okC G N c = true → CodeOK P G B0 N s cs cf yf c
theorem callK_sim (T : TabOK P G) {xt : FuncId → Option XF} (X : XtOK P G xt) (hcf : CFok P G B0 cf) (hall : AllCode P G B0 cf yf) : CFok P G B0 (callK G xt cf yf) := by
  intro f args up h n κ R hr hn
  unfold callK at hr
  split at hr
  case h_2 => exact absurd hr.symm (hn _)
  rename_i x hx
  obtain ⟨F, hG, hxf, hok⟩ := X.ok f x hx
  obtain ⟨c, hc, hnm, rfl⟩ := xf_elim hxf
  have hF := T.fn f F hG
  obtain ⟨hr, hlen⟩ := bindK_elim hr (fun q => hn _ q.symm)
  have hlen' : args.length ≤ F.ntmps := by
    have : ∀ m i, (pas m i).length = m := fun m => by
      induction m with
      | zero => intro i; rfl
      | succ m ih => intro i; simp [pas, ih]
    simpa [this] using hlen
  refine ⟨enters_of hF hc hnm, ?_⟩
  generalize hR1 : execC cf yf G f (xc G F.ntmps c) (bindT args (pas F.ntmps 0) .e) ⟨[], up, none⟩ h n = R1 at hr
  have hn1 : NF R1 := by
    intro why q
    subst q
    exact hn _ hr.symm
  -- every start
  have start : ∀ ρ S kind cs A M w, (∀ k, S k → k < n) → CallIn G B0 ρ S args up h n A M w → B0 ≤ w.heap.size → UpK up kind cs → ResSim P G B0 F.ntmps ⟨f, kind, none⟩ cs (lone (Frame.enter P f A kind) (withM M cs) w) ρ S ⟨[], up, none⟩ h n w [] R1 := by
    intro ρ S kind cs A M w hlt hin hB hk
    have hA0 := (hin ρ (.refl _ _)).1
    have hS : St P G B0 F.ntmps ⟨f, kind, none⟩ cs ρ S (bindT args (pas F.ntmps 0) .e) ⟨[], up, none⟩ h n (A ++ Array.replicate (F.ntmps - A.size) undef) [] M w := by
      refine ⟨hlt, fun ρ' hA => ?_, hB, hk, fun l hl => (by cases hl), ⟨F, hF⟩, ⟨F, hG⟩⟩
      obtain ⟨q1, q2, q3⟩ := hin ρ' hA
      refine ⟨actOn_all.2 ?_, q2, rfl, q3, rfl⟩
      rw [q1]
      have := enter_act args F.ntmps hlen' ρ'
      simpa using this
    have he : Frame.enter P f A kind = Fra.at ⟨f, kind, none⟩ (A ++ Array.replicate (F.ntmps - A.size) undef) [] [.code c] := by simp [Frame.enter, Fra.at, hF, hc]
    rw [he]
    exact hall F.ntmps ⟨f, kind, none⟩ cs c (hok c hc) hS hR1 hn1
  -- leaving
  have finish : ∀ (ds : List Deferred) (up' : Up) (tm' : TV) (h' : TH) (n' : Nat) (u : Up), UpL u → leaveK cf { nparams := F.ntmps, body := xc G F.ntmps c, results := F.results.toList.map (xres G F.ntmps), params := pas F.ntmps 0 } tm' ds u h' n' (fun r => κ r up') = R →
      (∀ ρ S kind cs A M w, (∀ k, S k → k < n) → CallIn G B0 ρ S args up h n A M w → B0 ≤ w.heap.size → UpK up kind cs → ∃ T ρ1 a ds1 M1 w1 k OM, Agree S ρ ρ1 ∧ n ≤ n' ∧ StT T P G B0 F.ntmps ⟨f, kind, none⟩ cs ρ1 (ext S n n') tm' ⟨ds, up', none⟩ h' n' a ds1 M1 w1 ∧ (∀ ρ', Agree (ext S n n') ρ1 ρ' → KeepEq ρ' h h' w w1) ∧ (∀ ρ', Agree (ext S n n') ρ1 ρ' → some OM = upM ρ' u) ∧ (T = AllT ∨ ds1 = [] ∧ u ≠ .quiet) ∧
        Steps P (lone (Frame.enter P f A kind) (withM M cs) w) (lone { Fra.at ⟨f, kind, none⟩ a ds1 k with mode := OM } (withM M1 cs) w1)) →
      ∃ r u, κ r u = R ∧ CallSim P G B0 f args up h n r u := by
    intro ds up' tm' h' n' u hu hr hs
    obtain ⟨r, hr, hto⟩ := leaveK_sim (N := F.ntmps) T hcf (fn := F) rfl ds hr hn
    refine ⟨r, up', hr, ?_⟩
    intro ρ S kind cs A M w hlt hin hB hk
    obtain ⟨T, ρ1, a, ds1, M1, w1, k, OM, hA, hn', hS, hK, hOM, hb, hst⟩ := hs ρ S kind cs A M w hlt hin hB hk
    have hL : Leaving G B0 F.ntmps ρ1 (ext S n n') tm' ds u h' n' a ds1 OM w1 := fun ρ' hA' => by
      obtain ⟨p1, p2, p3, _⟩ := hS.all ρ' hA'
      refine ⟨?_, p2, p3, hOM ρ' hA'⟩
      rcases hb with rfl | ⟨rfl, hb⟩
      · exact .inl (actOn_all.1 p1)
      · refine .inr ⟨?_, hb⟩
        simpa using p3
    refine ⟨hS.kind, ?_⟩
    have hM1 : ∀ ρ2, Agree (ext S n n') ρ1 ρ2 → M1 = upM ρ2 up' := fun ρ2 h2 => (hS.all ρ2 h2).2.2.2.1
    have h2 := hto (s := ⟨f, kind, none⟩) (k := k) (CS := withM M1 cs) hF (ext_lt hlt hn') hu hL hS.base
    cases r with
    | fail _ => exact h2
    | ret v h2' n2 =>
      obtain ⟨ρ2, V, w2, fr, q1, q2, q3, q4, q5, q6⟩ := h2
      rw [ext_ext hn' q2] at q3 q4
      exact ⟨ρ2, V, M1, w2, fr, hA.trans q1 ext_sub, Nat.le_trans hn' q2, fun ρ' hA' => ⟨(q3 ρ' hA').1, (q3 ρ' hA').2.1, hM1 ρ' (q1.trans hA' (ext_le q2))⟩,
        fun ρ' hA' => (hK ρ' (q1.trans hA' (ext_le q2))).trans (q4 ρ' hA'), q5, hst.trans q6⟩
    | panic v h2' n2 =>
      obtain ⟨ρ2, V, w2, fr, q1, q2, q3, q4, q5, q6⟩ := h2
      rw [ext_ext hn' q2] at q3 q4
      exact ⟨ρ2, V, M1, w2, fr, hA.trans q1 ext_sub, Nat.le_trans hn' q2, fun ρ' hA' => ⟨(q3 ρ' hA').1, (q3 ρ' hA').2.1, hM1 ρ' (q1.trans hA' (ext_le q2))⟩,
        fun ρ' hA' => (hK ρ' (q1.trans hA' (ext_le q2))).trans (q4 ρ' hA'), q5, hst.trans q6⟩
  -- a round's field
  have hround : ∀ {tm' : TV} {fx : Fx} {h' : TH} {n' : Nat}, (R1 = .normal tm' fx h' n' ∨ R1 = .ret tm' fx h' n' ∨ ∃ v, R1 = .panic v tm' fx h' n') → (∃ ρ S kind cs A M w, (∀ k, S k → k < n) ∧ CallIn G B0 ρ S args up h n A M w ∧ B0 ≤ w.heap.size ∧ UpK up kind cs) → fx.round = none := by
    rintro tm' fx h' n' hR ⟨ρ, S, kind, cs, A, M, w, hlt, hin, hB, hk⟩
    have h0 := start ρ S kind cs A M w hlt hin hB hk
    rcases hR with hR | hR | ⟨v, hR⟩
    · rw [hR] at h0; obtain ⟨_, _, _, _, _, _, _, _, h3, _⟩ := h0; exact h3
    · rw [hR] at h0; obtain ⟨_, _, _, _, _, _, _, _, h3, _⟩ := h0; exact h3
    · rw [hR] at h0; obtain ⟨_, _, _, _, _, _, _, _, _, h3, _⟩ := h0; exact h3
  cases hR : R1 with
  | fail why => exact absurd hR (hn1 why)
  | exit id tm' fx h' n' => rw [hR] at hr; exact absurd hr.symm (hn _)
  | normal tm' fx h' n' =>
    obtain ⟨ds, up', rd⟩ := fx
    rw [hR] at hr
    refine finish ds up' tm' h' n' .quiet (.inl rfl) hr fun ρ S kind cs A M w hlt hin hB hk => ?_
    obtain rfl : rd = none := hround (.inl hR) ⟨ρ, S, kind, cs, A, M, w, hlt, hin, hB, hk⟩
    have h0 := start ρ S kind cs A M w hlt hin hB hk
    rw [hR] at h0
    obtain ⟨ρ1, a1, ds1, M1, w1, fr, hA, hn', hrd, hS, hK, rfl, hs⟩ := h0
    exact ⟨AllT, ρ1, a1, ds1, M1, w1, [], .returning, hA, hn', hS, hK, fun _ _ => rfl, .inl rfl, hs.trans (.one (stepC_end rfl))⟩
  | ret tm' fx h' n' =>
    obtain ⟨ds, up', rd⟩ := fx
    rw [hR] at hr
    refine finish ds up' tm' h' n' .quiet (.inl rfl) hr fun ρ S kind cs A M w hlt hin hB hk => ?_
    obtain rfl : rd = none := hround (.inr (.inl hR)) ⟨ρ, S, kind, cs, A, M, w, hlt, hin, hB, hk⟩
    have h0 := start ρ S kind cs A M w hlt hin hB hk
    rw [hR] at h0
    obtain ⟨ρ1, a1, ds1, M1, w1, fr, hA, hn', hrd, hS, hK, ⟨k', rfl⟩, hs⟩ := h0
    exact ⟨AllT, ρ1, a1, ds1, M1, w1, _, .returning, hA, hn', hS, hK, fun _ _ => rfl, .inl rfl, hs.trans (.one (stepC_ret rfl))⟩
  | panic v tm' fx h' n' =>
    obtain ⟨ds, up', rd⟩ := fx
    rw [hR] at hr
    refine finish ds up' tm' h' n' (.chain v false) (.inr ⟨v, rfl⟩) hr fun ρ S kind cs A M w hlt hin hB hk => ?_
    obtain rfl : rd = none := hround (.inr (.inr ⟨v, hR⟩)) ⟨ρ, S, kind, cs, A, M, w, hlt, hin, hB, hk⟩
    have h0 := start ρ S kind cs A M w hlt hin hB hk
    rw [hR] at h0
    obtain ⟨T, ρ1, a1, ds1, M1, w1, fr, hA, hn', hrd, hS, hK, ⟨k', V, hV, hb, rfl⟩, hs⟩ := h0
    exact ⟨T, ρ1, a1, ds1, M1, w1, k', .panicking [⟨V, false, false⟩], hA, hn', hS, hK, fun ρ' hA' => by simp [upM, hV ρ' hA'], hb.imp id fun q => ⟨q, nofun⟩, hs⟩
end
end Go.Clo
namespace Go.Clo

section
variable {P : Program} {G : Tab} {B0 N : Nat} {s : Fra} {cs : List Frame} {c : Frame} {cf : CF} {yf : YF} {ρ : Env} {S : Nat → Prop} {tm : TV} {fx : Fx} {h : TH} {n : Nat} {a : Array Value} {DS : List Deferred} {M : Option FrameMode} {w : World} {k : List Item}
theorem endRound_run {L : Nat} {r : Loop} (j : Option Code) (hl : w.heap[L]? = some (.loop r)) : (Instr.endRound L j).run P w = .ok (.bool j.isNone) { w with heap := w.heap.setIfInBounds L (.loop { r with state := if j.isNone then .ready else .done, pending := j }) } := by
  simp [Instr.endRound, Sem.run_bind, getLoop_run hl, setLoop_run _ hl, Result.andThen]
theorem beginRound_run {L : Nat} {r : Loop} (hl : w.heap[L]? = some (.loop r)) (hr : r.state = .ready) : (Instr.beginRound L).run P w = .ok () { w with heap := w.heap.setIfInBounds L (.loop { r with state := .busy }) } := by
  simp [Instr.beginRound, Sem.run_bind, getLoop_run hl, setLoop_run _ hl, Result.andThen, hr]
theorem stepY_begin {L : Nat} {w' : World} (hrd : s.rd = some L) (hr : (Instr.beginRound L).run P w = .ok () w') : step P (lone (s.at a DS (.beginRound :: k)) cs w) = .next (lone (s.at a DS k) cs w') :=
  step_lone_go (by simp [stepG, stepG.exec, Fra.at, hrd, stepG.apply, hr, Result.andThen, Frame.finish])
theorem stepY_end {L : Nat} {w' : World} {V : Value} (hrd : s.rd = some L) (hk : s.kind = .normal) (hr : (Instr.endRound L none).run P w = .ok V w') : step P (lone (s.at a DS []) (c :: cs) w) = .next (lone (c.finish V) cs w') :=
  step_lone_go (by simp [stepG, stepG.exec, Fra.at, hrd, hk, hr, doReturn])
theorem stepY_ret {L : Nat} {w' : World} {V : Value} (hrd : s.rd = some L) (hk : s.kind = .normal) (hr : (Instr.endRound L (some .ret)).run P w = .ok V w') : step P (lone (s.at a DS (.code .ret :: k)) (c :: cs) w) = .next (lone (c.finish V) cs w') :=
  step_lone_go (by simp [stepG, stepG.exec, Fra.at, hrd, hk, hr, doReturn])
theorem stepY_exit {L id : Nat} {w' : World} {V : Value} (hrd : s.rd = some L) (hk : s.kind = .normal) (hx : exitTo id k = none) (hr : (Instr.endRound L (some (.exit id))).run P w = .ok V w') :
    step P (lone (s.at a DS (.code (.exit id) :: k)) (c :: cs) w) = .next (lone (c.finish V) cs w') :=
  step_lone_go (by simp [stepG, stepG.exec, Fra.at, hrd, hk, hr, hx, doReturn])
theorem stepY_panic {ch : List PanicEntry} (hf : ∃ F, P.funcs[s.fn]? = some F) : step P (lone { s.at a [] k with mode := .panicking ch } (c :: cs) w) = .next (lone (c.raise ch) cs w) := by
  obtain ⟨F, hF⟩ := hf
  exact step_lone_go (by simp [stepG, unwind, Frame.catches, Fra.at, hF])

/-- a round that ends -/
theorem round_end {k0 : Nat} {j : Option Code} {b : Bool} (hjb : b = j.isNone) {κ : CRes → Res} {R : Res} (hr : leaveY k0 h n j b κ = R) (hn : NF R) : ∃ h', κ (.ret (.bool b) h' n) = R ∧
    ∀ {N L : Nat} {s : Fra} {c : Frame} {cs : List Frame} {ρ : Env} {S : Nat → Prop} {a : Array Value} {DS : List Deferred} {M : Option FrameMode} {w : World} {fr : Frame}, St P G B0 N s (c :: cs) ρ S tm fx h n a DS M w → ρ.loc k0 = L → (∀ ρ', Agree S ρ ρ' → ρ'.loc k0 = L) →
      (∀ V w', (Instr.endRound L j).run P w = .ok V w' → step P (lone fr (c :: cs) w) = .next (lone (c.finish V) cs w')) → RoundTo P G B0 fr (c :: cs) ρ S h n w (.bool b) h' n c.finish cs := by
  unfold leaveY at hr
  rw [TH.getK_eq] at hr
  generalize ho : h.getO k0 = o at hr
  have key : ∃ st pend fn tm' ps x y d, o = .loop st pend fn tm' ps x y d ∧ κ (.ret (.bool b) (h.setO k0 (.loop (ifB b .ready .done) j fn tm' ps x y d)) n) = R := by
    split at hr
    · rw [TH.set_eq] at hr; exact ⟨_, _, _, _, _, _, _, _, rfl, hr⟩
    · exact absurd hr.symm (hn _)
  obtain ⟨st, pend, fn, tm', ps, x, y, d, hq, hr2⟩ := key
  clear hr
  subst hq
  have hr := hr2
  clear hr2
  refine ⟨_, hr, ?_⟩
  intro N L s c cs ρ S a DS M w fr hS hL hLall hstep
  obtain ⟨hl, p, hp, N', tmps, ps', ca, cb, hpq, hO⟩ := loop_at hS.W ho
  subst hpq
  have hrun := endRound_run (P := P) j hp
  have hst : (if j.isNone then LoopState.ready else LoopState.done) = ifB b .ready .done := by rw [hjb]; cases j <;> rfl
  rw [hL] at hrun hp
  have hturn : ∀ ρ', Agree S ρ ρ' → WEq ρ' G B0 (h.setO k0 (.loop (ifB b .ready .done) j fn tm' ps x y d)) n { w with heap := w.heap.setIfInBounds L (.loop { state := if j.isNone then .ready else .done, pending := j, fn := fn, tmps := tmps, params := ps', assign := ca, body := cb, defers := rlB ρ d }) } ∧
      KeepEq ρ' h (h.setO k0 (.loop (ifB b .ready .done) j fn tm' ps x y d)) w { w with heap := w.heap.setIfInBounds L (.loop { state := if j.isNone then .ready else .done, pending := j, fn := fn, tmps := tmps, params := ps', assign := ca, body := cb, defers := rlB ρ d }) } := by
    intro ρ' hA
    have hloc : ρ'.loc k0 = L := hLall ρ' hA
    rw [← hloc] at hp
    have := loop_turn (st' := ifB b .ready .done) (pend' := j) (hS.all ρ' hA).2.1 ho hp
    rw [hloc] at this
    rw [hst]
    exact this
  refine ⟨ρ, .bool b, _, .refl _ _, Nat.le_refl _, fun ρ' hA => ⟨by simp [rlV], (hturn ρ' (hA.mono ext_sub)).1, rfl⟩, fun ρ' hA => (hturn ρ' (hA.mono ext_sub)).2, .one ?_⟩
  subst hjb
  exact hstep _ _ hrun
theorem RoundTo.comp {fr0 fr1 : Frame} {cs0 cs1 cs' : List Frame} {ρ1 : Env} {h1 : TH} {n1 : Nat} {w1 : World} {v : Value} {h' : TH} {n' : Nat} {fr : Value → Frame} (hA : Agree S ρ ρ1) (hn : n ≤ n1) (hK : ∀ ρ', Agree (ext S n n1) ρ1 ρ' → KeepEq ρ' h h1 w w1)
    (hs : Steps P (lone fr0 cs0 w) (lone fr1 cs1 w1)) (H : RoundTo P G B0 fr1 cs1 ρ1 (ext S n n1) h1 n1 w1 v h' n' fr cs') : RoundTo P G B0 fr0 cs0 ρ S h n w v h' n' fr cs' := by
  obtain ⟨ρ2, V, w', q1, q2, q3, q4, q5⟩ := H
  rw [ext_ext hn q2] at q3 q4
  exact ⟨ρ2, V, w', hA.trans q1 ext_sub, Nat.le_trans hn q2, q3, fun ρ' hA' => (hK ρ' (q1.trans hA' (ext_le q2))).trans (q4 ρ' hA'), hs.trans q5⟩
theorem beginY_elim {k0 : Nat} {body : Body} {R : Res} (hr : beginY k0 body tm fx h n = R) (hn : NF R) : ∃ pend fn tm' ps x y d, h.getO k0 = .loop .ready pend fn tm' ps x y d ∧ body tm fx (h.setO k0 (.loop .busy pend fn tm' ps x y d)) n = R := by
  unfold beginY at hr
  rw [TH.getK_eq] at hr
  generalize h.getO k0 = o at hr
  split at hr
  · rw [TH.set_eq] at hr; exact ⟨_, _, _, _, _, _, _, rfl, hr⟩
  · exact absurd hr.symm (hn _)
theorem execY_sim (T : TabOK P G) (hall : AllCode P G B0 cf yf) : YFok P G B0 (execY G cf yf) := by
  intro l args h n κ R hr hn
  unfold execY at hr
  obtain ⟨k0, hbk, hr2⟩ := ownK_elim hr (fun q => hn _ q.symm)
  clear hr
  subst hbk
  have hr := hr2; clear hr2
  rw [TH.getK_eq] at hr
  generalize ho : h.getO k0 = o at hr
  have key : ∃ st pend fn tm ps x y d, o = .loop st pend fn tm ps x y d ∧ args.length = ps.length ∧ endY (thenC (execC cf yf G fn x (bindT args ps tm) ⟨[], .no, some (O + k0)⟩ h n) (beginY k0 (execC cf yf G fn y))) k0 κ = R := by
    split at hr
    · obtain ⟨h1, hr⟩ := ifB_elim hr (fun q => hn _ q.symm)
      have h2 := Nat.eq_of_beq_eq_true h1
      rw [lenOf_eq, lenOf_eq] at h2
      exact ⟨_, _, _, _, _, _, _, _, rfl, h2, (bindK_elim hr (fun q => hn _ q.symm)).1⟩
    · exact absurd hr.symm (hn _)
  obtain ⟨st, pend, fn, tm, ps, x, y, d, hq, hlen, hr2⟩ := key
  clear hr
  subst hq
  have hr := hr2
  clear hr2
  generalize hR0 : thenC (execC cf yf G fn x (bindT args ps tm) ⟨[], .no, some (O + k0)⟩ h n) (beginY k0 (execC cf yf G fn y)) = R0 at hr
  have hn0 : NF R0 := by
    intro why q
    subst q
    exact hn _ hr.symm
  have start : ∀ ρ S c cs A L w, (∀ k, S k → k < n) → RoundIn G B0 ρ S (O + k0) args h n L A w → B0 ≤ w.heap.size → ∃ N tmps assign body, (Instr.yield L A).run P w = .ok (.round L fn tmps assign body) w ∧
      ResSim P G B0 N ⟨fn, .normal, some L⟩ (c :: cs) (lone (Frame.round L fn tmps assign body .normal) (c :: cs) w) ρ S ⟨[], .no, some (O + k0)⟩ h n w [] R0 ∧ (∀ ρ', Agree S ρ ρ' → ρ'.loc k0 = L) := by
    intro ρ S c cs A L w hlt hin hB
    obtain ⟨hA0, hW, hL⟩ := hin ρ (.refl _ _)
    rw [rlB_own] at hL
    have hLall : ∀ ρ', Agree S ρ ρ' → ρ'.loc k0 = L := fun ρ' hA => by
      have := (hin ρ' hA).2.2
      rw [rlB_own] at this
      exact this.symm
    obtain ⟨hl, p, hp, N, tmps, ps', ca, cb, hpq, hact, rfl, hps, rfl, rfl, hca, hcb, F, hF⟩ := loop_at hW ho
    subst hpq
    have hsz : A.size = ps'.size := by rw [hA0]; simpa using hlen
    have hy : (Instr.yield L A).run P w = .ok (.round L fn ((ps'.zip A).foldl (fun tmps (t, a) => tmps.setIfInBounds t a) tmps) ca cb) w := by
      rw [← hL] at hp
      simp [Instr.yield, Sem.run_bind, getLoop_run hp, Result.andThen, hsz]
    refine ⟨N, _, ca, cb, hy, ?_, hLall⟩
    have hS : St P G B0 N ⟨fn, .normal, some L⟩ (c :: cs) ρ S (bindT args (ps'.toList.map Pa.of) tm) ⟨[], .no, some (O + k0)⟩ h n ((ps'.zip A).foldl (fun tmps (t, a) => tmps.setIfInBounds t a) tmps) [] none w := by
      refine ⟨hlt, fun ρ' hA => ?_, hB, rfl, fun l hl => ?_, ⟨F, T.fn fn F hF⟩, ⟨F, hF⟩⟩
      · obtain ⟨q1, q2, q3⟩ := hin ρ' hA
        refine ⟨actOn_all.2 ?_, q2, rfl, rfl, by simp [q3]⟩
        obtain ⟨_, p', hp', N', tmps', ps2, ca2, cb2, hpq2, hact2, _⟩ := loop_at q2 ho
        rw [hLall ρ' hA, hL, hp] at hp'
        have hact' : ActEq ρ' N tm tmps := by
          cases hp'
          simp only [Obj.loop.injEq, Loop.mk.injEq] at hpq2
          have e : tmps = tmps' := hpq2.2.2.2.1
          have e2 : N = N' := by rw [← hact.1, ← hact2.1, e]
          rw [e2, e]
          exact hact2
        have := round_act args ps'.toList hact' hps (by simpa using hlen)
        have e : (ps'.zip A).foldl (fun tmps (t, a) => tmps.setIfInBounds t a) tmps = (ps'.toList.zip (args.map (rlV ρ'))).foldl (fun tmps (t, a) => tmps.setIfInBounds t a) tmps := by
          rw [q1, ← Array.foldl_toList]
          simp
        rw [e]
        exact this
      · simp only [Option.some.injEq] at hl
        exact ⟨rfl, rfl, by omega⟩
    rcases thenC_elim hR0 hn0 with ⟨tm1, fx1, h1, n1, h2, h3⟩ | ⟨h2, h3⟩
    · obtain ⟨ρ1, a1, ds1, M1, w1, fr, hA, hn1, hrd, hS1, hK, rfl, hs⟩ := hall N ⟨fn, .normal, some L⟩ (c :: cs) ca hca (k := [.beginRound, .code cb]) hS h2 NF.normal
      obtain ⟨pend1, fn1, tm1', ps1, x1, y1, d1, ho1, h4⟩ := beginY_elim h3 hn0
      obtain ⟨hl1, p1, hp1, N1, tmps1, ps1', ca1, cb1, hpq1, _⟩ := loop_at hS1.W ho1
      subst hpq1
      have hL1 : ρ1.loc k0 = L := hLall ρ1 hA
      have hrun := beginRound_run (P := P) hp1 rfl
      rw [hL1] at hrun hp1
      have hturn : ∀ ρ', Agree (ext S n n1) ρ1 ρ' → WEq ρ' G B0 (h1.setO k0 (.loop .busy pend1 fn1 tm1' ps1 x1 y1 d1)) n1 { w1 with heap := w1.heap.setIfInBounds L (.loop { state := .busy, pending := pend1, fn := fn1, tmps := tmps1, params := ps1', assign := ca1, body := cb1, defers := rlB ρ1 d1 }) } ∧
          KeepEq ρ' h1 (h1.setO k0 (.loop .busy pend1 fn1 tm1' ps1 x1 y1 d1)) w1 { w1 with heap := w1.heap.setIfInBounds L (.loop { state := .busy, pending := pend1, fn := fn1, tmps := tmps1, params := ps1', assign := ca1, body := cb1, defers := rlB ρ1 d1 }) } := by
        intro ρ' hA'
        have hloc : ρ'.loc k0 = L := hLall ρ' (hA.trans hA' ext_sub)
        rw [← hloc] at hp1
        have := loop_turn (st' := .busy) (pend' := pend1) (hS1.all ρ' hA').2.1 ho1 hp1
        rw [hloc] at this
        exact this
      have hS2 : St P G B0 N ⟨fn, .normal, some L⟩ (c :: cs) ρ1 (ext S n n1) tm1 fx1 (h1.setO k0 (.loop .busy pend1 fn1 tm1' ps1 x1 y1 d1)) n1 a1 ds1 M1 { w1 with heap := w1.heap.setIfInBounds L (.loop { state := .busy, pending := pend1, fn := fn1, tmps := tmps1, params := ps1', assign := ca1, body := cb1, defers := rlB ρ1 d1 }) } := by
        refine ⟨hS1.lt, fun ρ' hA' => ?_, by simpa using hS1.base, hS1.kind, hS1.nor, hS1.fn, hS1.fnG⟩
        obtain ⟨q1, _, q3⟩ := hS1.all ρ' hA'
        exact ⟨q1, (hturn ρ' hA').1, q3⟩
      refine ResSim.comp hA hn1 hrd (fun ρ' hA' => (hK ρ' hA').trans (hturn ρ' hA').2) (hs.trans (.one (stepY_begin rfl hrun))) ?_
      exact hall N ⟨fn, .normal, some L⟩ (c :: cs) cb hcb hS2 h4 hn0
    · exact ResSim.pass (k1 := [.beginRound, .code cb]) (fun id => by simp [exitTo]) h3 (hall N ⟨fn, .normal, some L⟩ (c :: cs) ca hca (k := [.beginRound, .code cb]) hS h2 hn0)
  -- the ends
  have fin : ∀ {tm1 : TV} {fx1 : Fx} {h1 : TH} {n1 : Nat} {j : Option Code} {b : Bool}, b = j.isNone → leaveY k0 h1 n1 j b κ = R → (∀ {ρ : Env} {S : Nat → Prop} {c : Frame} {cs : List Frame} {L : Nat} {w : World} {N : Nat} {tmps : Array Value} {assign body : Code},
      ResSim P G B0 N ⟨fn, .normal, some L⟩ (c :: cs) (lone (Frame.round L fn tmps assign body .normal) (c :: cs) w) ρ S ⟨[], .no, some (O + k0)⟩ h n w [] R0 →
      ∃ ρ1 a ds M w1 fr, Agree S ρ ρ1 ∧ n ≤ n1 ∧ fx1.round = some (O + k0) ∧ St P G B0 N ⟨fn, .normal, some L⟩ (c :: cs) ρ1 (ext S n n1) tm1 fx1 h1 n1 a ds M w1 ∧ (∀ ρ', Agree (ext S n n1) ρ1 ρ' → KeepEq ρ' h h1 w w1) ∧
        (∀ V w', (Instr.endRound L j).run P w1 = .ok V w' → step P (lone fr (c :: cs) w1) = .next (lone (c.finish V) cs w')) ∧ Steps P (lone (Frame.round L fn tmps assign body .normal) (c :: cs) w) (lone fr (withM M (c :: cs)) w1)) →
      ∃ r, κ r = R ∧ YSim P G B0 (O + k0) args h n r := by
    intro tm1 fx1 h1 n1 j b hjb hlv hE
    obtain ⟨h', hr', hto⟩ := round_end (P := P) (G := G) (B0 := B0) (tm := tm1) (fx := fx1) hjb hlv hn
    refine ⟨_, hr', ?_⟩
    intro ρ S c cs A L w hlt hin hB
    obtain ⟨N, tmps, assign, body, hy, hsim, hL⟩ := start ρ S c cs A L w hlt hin hB
    refine ⟨fn, tmps, assign, body, hy, ?_⟩
    obtain ⟨ρ1, a, ds, M, w1, fr, hA, hn1, hrd, hS, hK, hst, hs⟩ := hE hsim
    have hM : M = none := by
      have := (hS.all ρ1 (.refl _ _)).2.2.2.1
      rw [(hS.nor _ hrd).2.1] at this
      exact this
    subst hM
    refine RoundTo.comp hA hn1 hK hs ?_
    exact hto hS (hL ρ1 hA) (fun ρ' hA' => hL ρ' (hA.trans hA' ext_sub)) hst
  cases R0 with
  | fail why => exact absurd rfl (hn0 why)
  | normal tm1 fx1 h1 n1 =>
    refine fin (tm1 := tm1) (fx1 := fx1) (j := none) (b := true) rfl hr ?_
    intro ρ S c cs L w N tmps assign body hE
    obtain ⟨ρ1, a1, ds1, M1, w1, fr, hA, hn1, hrd, hS1, hK, rfl, hs⟩ := hE
    exact ⟨ρ1, a1, ds1, M1, w1, _, hA, hn1, hrd, hS1, hK, fun V w' hr => stepY_end rfl rfl hr, hs⟩
  | ret tm1 fx1 h1 n1 =>
    refine fin (tm1 := tm1) (fx1 := fx1) (j := some .ret) (b := false) rfl hr ?_
    intro ρ S c cs L w N tmps assign body hE
    obtain ⟨ρ1, a1, ds1, M1, w1, fr, hA, hn1, hrd, hS1, hK, ⟨k', rfl⟩, hs⟩ := hE
    exact ⟨ρ1, a1, ds1, M1, w1, _, hA, hn1, hrd, hS1, hK, fun V w' hr => stepY_ret rfl rfl hr, hs⟩
  | exit id tm1 fx1 h1 n1 =>
    refine fin (tm1 := tm1) (fx1 := fx1) (j := some (.exit id)) (b := false) rfl hr ?_
    intro ρ S c cs L w N tmps assign body hE
    obtain ⟨ρ1, a1, ds1, M1, w1, fr, hA, hn1, hrd, hS1, hK, ⟨k', hk', rfl⟩, hs⟩ := hE
    exact ⟨ρ1, a1, ds1, M1, w1, _, hA, hn1, hrd, hS1, hK, fun V w' hr => stepY_exit rfl rfl (by rw [hk']; rfl) hr, hs⟩
  | panic v tm1 fx1 h1 n1 =>
    refine ⟨.panic v h1 n1, hr, ?_⟩
    intro ρ S c cs A L w hlt hin hB
    obtain ⟨N, tmps, assign, body, hy, hsim, hL⟩ := start ρ S c cs A L w hlt hin hB
    refine ⟨fn, tmps, assign, body, hy, ?_⟩
    obtain ⟨T, ρ1, a1, ds1, M1, w1, fr, hA, hn1, hrd, hS1, hK, ⟨k', V, hV, hb, rfl⟩, hs⟩ := hsim
    obtain ⟨h1', h2', _⟩ := hS1.nor _ hrd
    obtain ⟨_, q2, q3, q4, _⟩ := hS1.all ρ1 (.refl _ _)
    rw [h1'] at q3
    rw [h2'] at q4
    have e3 : ds1 = [] := q3
    have e4 : M1 = none := q4
    subst e3 e4
    refine ⟨ρ1, V, w1, hA, hn1, fun ρ' hA' => ⟨(hV ρ' hA').symm, (hS1.all ρ' hA').2.1, rfl⟩, hK, hs.trans (.one (stepY_panic hS1.fn))⟩
end
end Go.Clo
namespace Go.Clo

/-- no call is known -/
def unknown : CF → CF := fun cf => cf
theorem depth0 (P : Program) (G : Tab) (B0 : Nat) : CFok P G B0 (fun _ _ _ _ _ _ => .fail "depth") ∧ YFok P G B0 (fun _ _ _ _ _ => .fail "depth") :=
  ⟨fun _ _ _ _ _ _ _ hr hn => absurd hr.symm (hn _), fun _ _ _ _ _ _ hr hn => absurd hr.symm (hn _)⟩
theorem runD_sim {P : Program} {G : Tab} {B0 : Nat} (T : TabOK P G) {xt : FuncId → Option XF} (X : XtOK P G xt) {known : CF → CF} (hknown : ∀ cf, CFok P G B0 cf → CFok P G B0 (known cf))
    (hdraw : ∀ cf yf, CFok P G B0 cf → YFok P G B0 yf → ∀ N s cs id ops, planOK G N ops.toList = true → CodeOK P G B0 N s cs cf yf (.region id ops true)) : ∀ d, CFok P G B0 (runD G xt known d).1 ∧ YFok P G B0 (runD G xt known d).2
  | 0 => depth0 P G B0
  | d + 1 => by
    obtain ⟨h1, h2⟩ := runD_sim T X hknown hdraw d
    have hall : AllCode P G B0 (runD G xt known d).1 (runD G xt known d).2 := fun N s cs c hc =>
      code_sim T h1 h2 (fun id ops h => hdraw _ _ h1 h2 N s cs id ops h) (fun f ps x y hx hy => code_range h1 f ps x y hx hy) c hc
    exact ⟨hknown _ (callK_sim T X h1 hall), execY_sim T hall⟩
end Go.Clo
namespace Go.Clo

section
variable {G : Tab} {tm tm' : TV} {h : TH} {n : Nat} {v : Value} {h' : TH} {n' : Nat}
theorem boundK_congr {β : Type} {no : β} {x : Option XO} {d : Nat} {κ : Nat → β} (hx : ∀ y ∈ x.toList, evX tm y = evX tm' y) : boundK no tm x d κ = boundK no tm' x d κ := by
  cases x with
  | none => rfl
  | some y =>
    have e : ∀ tm, boundK no tm (some y) d κ = evK y tm fun v => natV v no κ := fun _ => rfl
    rw [e, e, evK_eq, evK_eq, hx y (by simp)]
theorem fillK_congr {β : Type} {no : β} : ∀ {ps : List (Nat × Nat × XO)} {cs : List Value} {κ : List Value → β}, (∀ y ∈ ps.map (·.2.2), evX tm y = evX tm' y) → fillK no tm ps cs κ = fillK no tm' ps cs κ
  | [], _, _, _ => rfl
  | p :: ps, cs, κ, hx => by
    have e : ∀ tm, fillK no tm (p :: ps) cs κ = evK p.2.2 tm fun v => cellsV v fun vs => ifB (Nat.beq (lenOf vs) p.2.1) (ifB (Nat.ble (Nat.add p.1 (lenOf vs)) (lenOf cs)) (putK no p.1 cs vs fun cs => fillK no tm ps cs κ) no) no := fun _ => rfl
    have ih : ∀ cs, fillK no tm ps cs κ = fillK no tm' ps cs κ := fun cs => fillK_congr fun y hy => hx y (by simp only [List.map_cons]; exact List.mem_cons_of_mem _ hy)
    rw [e, e, evK_eq, evK_eq, hx p.2.2 (by simp)]
    simp only [ih]
theorem evs_congr {l : List XO} (hx : ∀ y ∈ l, evX tm y = evX tm' y) : l.map (evX tm) = l.map (evX tm') := List.map_congr_left hx
/-- an operation looks at its operands alone -/
theorem exec_congr (X : XOp) (hx : ∀ y ∈ xops X, evX tm y = evX tm' y) : execX G X tm h n = execX G X tm' h n := by
  cases X
  all_goals
    dsimp only [xops] at hx
    dsimp only [execX]
    first
      | unfold oMove | unfold oPick | unfold oAlloc | unfold oBox | unfold oBuild | unfold oBuildSlice | unfold oLoad1 | unfold oLoadN | unfold oStore | unfold oNil | unfold oBin | unfold oNot | unfold oConvInt | unfold oConvStr | unfold oConvBytes | unfold oUnsafeP | unfold oConvSS | unfold oIface | unfold oFunc
      | unfold oMap | unfold oMkSlice | unfold oSliceStr | unfold oSliceS | unfold oFieldAddr | unfold oField1 | unfold oFieldN | unfold oIdxA | unfold oIdxS | unfold oIndex1 | unfold oIndexStr | unfold oLookup | unfold oUpdate
      | unfold oAssertC | unfold oAssertI | unfold oExtract | unfold oCallF | unfold oCallV | unfold oCallI | unfold oLenStr | unfold oLenSl | unfold oLenMap | unfold oCap | unfold oAppend | unfold oAppendMake | unfold oMinMax | unfold oClear | unfold oSliceData | unfold oUnsafeString
      | unfold oRecover | unfold oDefer | unfold oPanic | unfold oBad
  all_goals first
    | rfl
    | (simp only [evK_eq, hx _ (List.mem_singleton.2 rfl)]; done)
    | (simp only [evK_eq, hx _ (List.mem_cons_self), hx _ (List.mem_cons_of_mem _ (List.mem_singleton.2 rfl))]; done)
    | (simp only [evK_eq, hx _ (List.mem_cons_self), hx _ (List.mem_cons_of_mem _ (List.mem_cons_self)), hx _ (List.mem_cons_of_mem _ (List.mem_cons_of_mem _ (List.mem_singleton.2 rfl)))]; done)
    | (simp only [evL_eq, evs_congr hx]; done)
    | (simp only [evL_eq, evK_eq, evs_congr fun y hy => hx y (List.mem_cons_of_mem _ hy), hx _ (List.mem_cons_self)]; done)
    | (simp only [evL_eq, evs_congr fun y hy => hx y (List.mem_append_left _ hy), evs_congr fun y hy => hx y (List.mem_append_right _ hy)]; done)
    | exact fillK_congr hx
    | (have h1 := hx _ List.mem_cons_self
       have h2 := fun y hy => hx y (List.mem_cons_of_mem _ (List.mem_append_left _ hy))
       have h3 := fun y hy => hx y (List.mem_cons_of_mem _ (List.mem_append_right _ hy))
       simp only [evK_eq, h1, boundK_congr h2, boundK_congr h3]
       done)
    | (rename_i mx
       have h1 := hx _ List.mem_cons_self
       have h2 := fun y hy => hx y (List.mem_cons_of_mem _ (List.mem_append_left _ hy))
       have h3 := fun y hy => hx y (List.mem_cons_of_mem _ (List.mem_append_right _ (List.mem_append_left _ hy)))
       have h4 := fun y hy => hx y (List.mem_cons_of_mem _ (List.mem_append_right _ (List.mem_append_right _ hy)))
       simp only [evK_eq, h1, boundK_congr h2, boundK_congr h3]
       cases mx with
       | none => rfl
       | some m => simp only [h4 m (by simp)])
    | skip
end
end Go.Clo
namespace Go.Clo

/-- answers by a value, the heap as it was, whatever the count; or fails, whatever it is -/
def Rp (h : TH) (κ : Nat → OR) : Prop := (∃ v, ∀ m, κ m = .val v h m) ∨ (∀ m, ∃ why, κ m = .fail why) ∨ ∀ m, ∃ v, κ m = .val v h (m + 1)
section
variable {h : TH} {no : OR}
theorem rp_val {v : Value} : Rp h (fun m => .val v h m) := .inl ⟨v, fun _ => rfl⟩
theorem rp_fail {why : String} : Rp h (fun _ => .fail why) := .inr (.inl fun _ => ⟨why, rfl⟩)
theorem rp_new {v : Nat → Value} : Rp h (fun m => .val (v m) h (m + 1)) := .inr (.inr fun m => ⟨v m, rfl⟩)
theorem rp_ifB {b : Bool} {x y : Nat → OR} (hx : Rp h x) (hy : Rp h y) : Rp h (fun m => ifB b (x m) (y m)) := by cases b <;> assumption
theorem rp_ptrV {v : Value} {why : String} {κ : Nat → Nat → Nat → OR} (hk : ∀ b o, Rp h (fun m => κ m b o)) : Rp h (fun m => ptrV v (.fail why) (κ m)) := by
  unfold ptrV
  split
  · exact hk _ _
  · exact rp_fail
theorem rp_sliceV {v : Value} {why : String} {κ : Nat → Option Addr → Nat → Nat → OR} (hk : ∀ a b c, Rp h (fun m => κ m a b c)) : Rp h (fun m => sliceV v (.fail why) (κ m)) := by
  unfold sliceV
  split
  · exact hk _ _ _
  · exact rp_fail
theorem rp_adK {a : Option Addr} {why : String} {κ : Nat → Nat → Nat → OR} (hk : ∀ b o, Rp h (fun m => κ m b o)) : Rp h (fun m => adK a (.fail why) (κ m)) := rp_ptrV hk
theorem rp_ownK {b : Nat} {why : String} {κ : Nat → Nat → OR} (hk : ∀ b, Rp h (fun m => κ m b)) : Rp h (fun m => ownK (.fail why) b (κ m)) := by
  unfold ownK
  exact rp_ifB rp_fail (hk _)
theorem rp_rdK {b : Nat} {why : String} {κ : Nat → List Value → OR} (hk : ∀ c, Rp h (fun m => κ m c)) : Rp h (fun m => rdK (.fail why) h b (κ m)) := by
  unfold rdK
  refine rp_ownK fun b => ?_
  simp only [TH.getK_eq]
  generalize h.getO b = o
  cases o <;> first | exact hk _ | exact rp_fail
theorem rp_wrK {b : Nat} {why : String} {κ : Nat → Nat → List Value → TypeId → Bool → OR} (hk : ∀ b c e u, Rp h (fun m => κ m b c e u)) : Rp h (fun m => wrK (.fail why) h b (κ m)) := by
  unfold wrK
  refine rp_ownK fun b => ?_
  simp only [TH.getK_eq]
  generalize h.getO b = o
  cases o <;> first | exact hk _ _ _ _ | exact rp_fail
theorem rp_nthK {k : Nat} {l : List Value} {why : String} {κ : Nat → Value → OR} (hk : ∀ v, Rp h (fun m => κ m v)) : Rp h (fun m => nthK (.fail why) k l (κ m)) := by
  simp only [nthK_eq]
  split
  · exact hk _
  · exact rp_fail
theorem rp_dropK {k : Nat} {l : List Value} {why : String} {κ : Nat → List Value → OR} (hk : ∀ v, Rp h (fun m => κ m v)) : Rp h (fun m => dropK (.fail why) k l (κ m)) := by
  simp only [dropK_eq]
  split
  · exact hk _
  · exact rp_fail
theorem rp_takeK {k : Nat} {l : List Value} {why : String} {κ : Nat → List Value → OR} (hk : ∀ v, Rp h (fun m => κ m v)) : Rp h (fun m => takeK (.fail why) k l (κ m)) := by
  simp only [takeK_eq]
  split
  · exact hk _
  · exact rp_fail
theorem rp_strK {why : String} : ∀ {l : List Value} {κ : Nat → List UInt8 → OR}, (∀ v, Rp h (fun m => κ m v)) → Rp h (fun m => strK (.fail why) l (κ m))
  | [], κ, hk => hk []
  | v :: l, κ, hk => by
    have e : ∀ m, strK (.fail why) (v :: l) (κ m) = Option.rec (motive := fun _ => OR) (.fail why) (fun b => strK (.fail why) l fun r => κ m (b :: r)) (byteOfV v) := fun _ => rfl
    simp only [e]
    cases byteOfV v with
    | none => exact rp_fail
    | some b => exact rp_strK (κ := fun m r => κ m (b :: r)) fun r => hk _
theorem rp_elemsK {x : Value} {size : Nat} {why : String} {κ : Nat → Nat → List Value → OR} (hk : ∀ a b, Rp h (fun m => κ m a b)) : Rp h (fun m => elemsK x (.fail why) h size (κ m)) := by
  unfold elemsK
  split
  · exact rp_ifB (hk _ _) (rp_adK fun _ _ => rp_rdK fun _ => rp_dropK fun _ => rp_takeK fun _ => hk _ _)
  · exact rp_ifB (hk _ _) rp_fail
  · exact rp_fail
theorem rp_keyOk {t : XE} {k : Value} {why : String} {y : Nat → OR} (hy : Rp h y) : Rp h (fun m => keyOk t k (.fail why) (y m)) := by
  unfold keyOk
  cases keyX t k k with
  | none => exact rp_fail
  | some b => exact rp_ifB (rp_ifB hy rp_fail) rp_fail
theorem rp_mapK {x : Value} {t : XE} {why : String} {κ : Nat → List (Value × Value) → Nat → OR} (hk : ∀ a b, Rp h (fun m => κ m a b)) : Rp h (fun m => mapK x t (.fail why) h (κ m)) := by
  unfold mapK
  split
  · exact hk _ _
  · refine rp_ownK fun b => ?_
    simp only [TH.getK_eq]
    generalize h.getO b = o
    cases o <;> first | exact rp_fail | exact rp_ifB (hk _ _) rp_fail
  · exact rp_fail
theorem rp_cntK {x : Value} {why : String} {κ : Nat → Nat → OR} (hk : ∀ a, Rp h (fun m => κ m a)) : Rp h (fun m => cntK x (.fail why) h (κ m)) := by
  unfold cntK
  split
  · exact hk _
  · refine rp_ownK fun b => ?_
    simp only [TH.getK_eq]
    generalize h.getO b = o
    cases o <;> first | exact rp_fail | exact hk _
  · exact rp_fail
theorem rp_findX {t : XE} {k : Value} {why : String} {nf : Nat → OR} {κ : Nat → Nat → Value → OR} (hf : Rp h nf) (hk : ∀ a b, Rp h (fun m => κ m a b)) : ∀ {es : List (Value × Value)} {i : Nat}, Rp h (fun m => findX es t k i (.fail why) (nf m) (κ m))
  | [], _ => hf
  | e :: es, i => by
    have e1 : ∀ m, findX (e :: es) t k i (.fail why) (nf m) (κ m) = Option.rec (motive := fun _ => OR) (.fail why) (fun b => ifB b (κ m i e.2) (findX es t k (i + 1) (.fail why) (nf m) (κ m))) (keyX t k e.1) := fun _ => rfl
    simp only [e1]
    cases keyX t k e.1 with
    | none => exact rp_fail
    | some b => exact rp_ifB (hk _ _) (rp_findX hf hk)
end
theorem rp_natV {h : TH} {v : Value} {why : String} {κ : Nat → Nat → OR} (hk : ∀ a, Rp h (fun m => κ m a)) : Rp h (fun m => natV v (.fail why) (κ m)) := by
  unfold natV
  split
  · exact hk _
  · exact rp_fail
theorem rp_boundK {tm : TV} {x : Option XO} {d : Nat} {h : TH} {why : String} {κ : Nat → Nat → OR} (hk : ∀ a, Rp h (fun m => κ m a)) : Rp h (fun m => boundK (.fail why) tm x d (κ m)) := by
  cases x with
  | none => exact hk d
  | some y =>
    have e : ∀ m, boundK (.fail why) tm (some y) d (κ m) = natV (evX tm y) (.fail why) (κ m) := fun m => by
      have e1 : boundK (.fail why) tm (some y) d (κ m) = evK y tm fun v => natV v (.fail why) (κ m) := rfl
      rw [e1, evK_eq]
    simp only [e]
    exact rp_natV hk
theorem rp_known {h : TH} {a : Option Addr} {l r size cap : Nat} : Rp h (fun m => reKnown a l r size cap h m) := by
  unfold reKnown
  cases a with
  | none => exact rp_ifB (rp_ifB rp_val rp_fail) rp_fail
  | some a =>
    simp only [forceNat_eq]
    exact rp_ifB rp_val (rp_ifB rp_val (rp_adK fun _ _ => rp_val))
theorem rp_open {h : TH} {a : Option Addr} {l r size cap : Nat} : Rp h (fun m => reOpen a l r size cap h m) := by
  unfold reOpen
  simp only [forceNat_eq]
  exact rp_ifB rp_val (rp_ifB rp_new (rp_adK fun _ _ => rp_val))
theorem r_par (G : Tab) (X : XOp) (hX : isR X = true) (tm : TV) (h : TH) : Rp h (fun m => execX G X tm h m) := by
  cases X <;> first | (simp [isR] at hX; done) | skip
  · dsimp only [execX]; unfold oLoad1; simp only [evK_eq]
    exact rp_ptrV fun _ _ => rp_rdK fun _ => rp_nthK fun _ => rp_val
  · dsimp only [execX]; unfold oLoadN; simp only [evK_eq]
    exact rp_ptrV fun _ _ => rp_rdK fun _ => rp_dropK fun _ => rp_takeK fun _ => rp_val
  · dsimp only [execX]; unfold oConvBytes; simp only [evK_eq]
    exact rp_sliceV fun _ _ _ => rp_elemsK fun _ _ => rp_strK fun _ => rp_val
  · dsimp only [execX]; unfold oUnsafeP; simp only [evK_eq]
    exact rp_ptrV fun _ _ => rp_ifB (rp_wrK fun _ _ _ _ => rp_ifB (rp_ifB rp_val rp_fail) rp_fail) rp_fail
  · rename_i mx
    dsimp only [execX]; unfold oSliceS; simp only [evK_eq]
    refine rp_sliceV fun a len cap => rp_boundK fun l => rp_boundK fun r => rp_ifB ?_ rp_fail
    cases mx with
    | none => exact rp_ifB (rp_ifB rp_known rp_open) rp_fail
    | some m =>
      simp only
      exact rp_natV fun _ => rp_ifB (rp_ifB (rp_ifB rp_known rp_fail) rp_fail) rp_fail
  · dsimp only [execX]; unfold oLookup; simp only [evK_eq]
    exact rp_keyOk (rp_mapK fun _ _ => rp_findX (rp_ifB rp_val rp_val) fun _ _ => rp_ifB rp_val rp_val)
  · dsimp only [execX]; unfold oLenMap; simp only [evK_eq, forceNat_eq]
    exact rp_cntK fun _ => rp_val
  · dsimp only [execX]; unfold oSliceData; simp only [evK_eq]
    exact rp_sliceV fun _ _ _ => rp_ifB rp_fail (rp_ifB (rp_adK fun _ _ => rp_ifB (rp_wrK fun _ _ _ _ => rp_ifB (rp_ifB rp_fail rp_val) rp_fail) rp_fail) rp_fail)
theorem r_val {G : Tab} {X : XOp} (hX : isR X = true) {tm : TV} {h : TH} {n : Nat} {v : Value} {h' : TH} (hr : execX G X tm h n = .val v h' n) : h' = h ∧ ∀ m, execX G X tm h m = .val v h m := by
  rcases r_par G X hX tm h with ⟨u, hu⟩ | hf | hf
  · have : execX G X tm h n = .val u h n := hu n
    rw [hr] at this
    cases this
    exact ⟨rfl, hu⟩
  · obtain ⟨why, hw⟩ := hf n
    replace hw : execX G X tm h n = .fail why := hw
    rw [hr] at hw
    cases hw
  · obtain ⟨u, hw⟩ := hf n
    replace hw : execX G X tm h n = .val u h (n + 1) := hw
    rw [hr] at hw
    simp at hw
theorem r_new {G : Tab} {X : XOp} (hX : isR X = true) {tm : TV} {h : TH} {n : Nat} {v : Value} {h' : TH} {n' : Nat} (hr : execX G X tm h n = .val v h' n') : h' = h := by
  rcases r_par G X hX tm h with ⟨u, hu⟩ | hf | hf
  · have : execX G X tm h n = .val u h n := hu n
    rw [hr] at this
    cases this
    rfl
  · obtain ⟨why, hw⟩ := hf n
    replace hw : execX G X tm h n = .fail why := hw
    rw [hr] at hw
    cases hw
  · obtain ⟨u, hw⟩ := hf n
    replace hw : execX G X tm h n = .val u h (n + 1) := hw
    rw [hr] at hw
    cases hw
    rfl

theorem eqLW_eq {eq : Value → Value → Bool} (he : ∀ a b, eq a b = true → a = b) : ∀ (x y : List Value), eqLW eq x y = true → x = y
  | [], [], _ => rfl
  | a :: x, b :: y, h => by
    simp only [eqLW] at h
    cases hb : eq a b with
    | false => rw [hb] at h; cases h
    | true => rw [hb] at h; rw [he a b hb, eqLW_eq he x y h]
  | [], _ :: _, h => by cases h
  | _ :: _, [], h => by cases h
theorem eqA_eq {a b : Option Addr} (h : eqA a b = true) : a = b := by
  unfold eqA at h
  split at h
  · rfl
  · rename_i x o y p
    cases hb : Nat.beq x y with
    | false => rw [hb] at h; cases h
    | true =>
      rw [hb] at h
      rw [Nat.eq_of_beq_eq_true hb, Nat.eq_of_beq_eq_true h]
  · cases h
theorem eqFn_eq {a b : Fn} (h : eqFn a b = true) : a = b := by
  unfold eqFn at h
  split at h
  · rw [Nat.eq_of_beq_eq_true h]
  · rw [Nat.eq_of_beq_eq_true h]
  · cases h
theorem eqV_eq : ∀ (f : Nat) (x y : Value), eqV f x y = true → x = y
  | 0, _, _, h => by cases h
  | f + 1, x, y, h => by
    have ih := eqV_eq f
    simp only [eqV] at h
    split at h
    · rename_i a b; cases a <;> cases b <;> simp at h ⊢
    · obtain ⟨h1, h2⟩ := bif_and h
      rw [ieq_eq] at h2
      rw [kindNo_inj (Nat.eq_of_beq_eq_true h1), of_decide_eq_true h2]
    · rw [eqBytes_eq] at h
      rw [of_decide_eq_true h]
    · rw [eqA_eq h]
    · obtain ⟨h1, h2⟩ := bif_and h
      obtain ⟨h3, h4⟩ := bif_and h2
      rw [eqA_eq h1, Nat.eq_of_beq_eq_true h3, Nat.eq_of_beq_eq_true h4]
    · rfl
    · rw [Nat.eq_of_beq_eq_true h]
    · obtain ⟨h1, h2⟩ := bif_and h
      obtain ⟨h3, h4⟩ := bif_and h2
      rw [eqFn_eq h1, eqLW_eq ih _ _ h3, eqLW_eq ih _ _ h4]
    · rfl
    · obtain ⟨h1, h2⟩ := bif_and h
      rw [Nat.eq_of_beq_eq_true h1, ih _ _ h2]
    · rfl
    · rw [eqLW_eq ih _ _ h]
    · rw [eqLW_eq ih _ _ h]
    · cases h
end Go.Clo
namespace Go.Clo

section
variable {G : Tab} {N : Nat}
theorem memN_iff : ∀ {l : List Nat} {a : Nat}, memN l a = true ↔ a ∈ l
  | [], a => by simp [memN]
  | b :: l, a => by
    have ih := memN_iff (l := l) (a := a)
    simp only [memN]
    cases hb : Nat.beq b a with
    | true =>
      have := Nat.eq_of_beq_eq_true hb
      simp [this]
    | false =>
      have := Nat.ne_of_beq_eq_false hb
      simp only [cond_false, ih, List.mem_cons]
      exact ⟨.inr, fun h => h.resolve_left fun e => this e.symm⟩
theorem allIn_iff {C : List Nat} : ∀ {l : List Nat}, allIn C l = true ↔ ∀ a ∈ l, a ∈ C
  | [] => by simp [allIn]
  | a :: l => by
    have ih := allIn_iff (C := C) (l := l)
    simp only [allIn]
    cases hb : memN C a with
    | true => simp [ih, memN_iff.1 hb]
    | false =>
      have : a ∉ C := fun h => by rw [memN_iff.2 h] at hb; cases hb
      simp [this]
theorem allBelow_iff {n : Nat} : ∀ {l : List Nat}, allBelow n l = true → ∀ a ∈ l, a < n
  | [], _ => by simp
  | a :: l, h => by
    simp only [allBelow] at h
    obtain ⟨h1, h2⟩ := bif_and h
    intro b hb
    rcases List.mem_cons.1 hb with rfl | hb
    · exact blt_iff.1 h1
    · exact allBelow_iff h2 b hb
theorem nthL_map {l : List Oper} : ∀ {i : Nat} {o : Oper}, l[i]? = some o → nthL (l.map predsOf) i = predsOf o := by
  induction l with
  | nil => intro i o h; simp at h
  | cons x l ih =>
    intro i o h
    cases i with
    | zero => simp at h; subst h; rfl
    | succ i => exact ih (by simpa using h)
theorem nthL_out {l : List (List Nat)} : ∀ {i : Nat}, l.length ≤ i → nthL l i = [] := by
  induction l with
  | nil => intro i _; rfl
  | cons x l ih =>
    intro i h
    cases i with
    | zero => simp at h
    | succ i => exact ih (by simpa using h)
theorem nthX_map {l : List Oper} {f : Oper → XOper} : ∀ {i : Nat} {o : Oper}, l[i]? = some o → nthX (l.map f) i = some (f o) := by
  induction l with
  | nil => intro i o h; simp at h
  | cons x l ih =>
    intro i o h
    cases i with
    | zero => simp at h; subst h; rfl
    | succ i => exact ih (by simpa using h)
theorem preds_iff {o : Oper} {j : Nat} : j ∈ predsOf o ↔ ∃ e ∈ o.after, Region.binds .any e = true ∧ e.on = j := by
  have key : ∀ l : List Edge, j ∈ predsOf.preds l ↔ ∃ e ∈ l, Region.binds .any e = true ∧ e.on = j := by
    intro l
    induction l with
    | nil => simp [predsOf.preds]
    | cons e l ih =>
      simp only [predsOf.preds]
      cases hb : Region.binds .any e with
      | true =>
        simp only [cond_true, List.mem_cons, ih]
        constructor
        · rintro (rfl | ⟨e', h1, h2, h3⟩)
          · exact ⟨e, .inl rfl, hb, rfl⟩
          · exact ⟨e', .inr h1, h2, h3⟩
        · rintro ⟨e', rfl | h1, h2, h3⟩
          · exact .inl h3.symm
          · exact .inr ⟨e', h1, h2, h3⟩
      | false =>
        simp only [cond_false, ih, List.mem_cons]
        constructor
        · rintro ⟨e', h1, h2, h3⟩; exact ⟨e', .inr h1, h2, h3⟩
        · rintro ⟨e', rfl | h1, h2, h3⟩
          · rw [hb] at h2; cases h2
          · exact ⟨e', h1, h2, h3⟩
  unfold predsOf
  rw [key]
  simp
theorem dstIdx_some {t : Nat} : ∀ {l : List Oper} {i j : Nat}, dstIdx t l i = some j → ∃ k o, j = i + k ∧ l[k]? = some o ∧ o.dst = some t
  | [], _, _, h => by cases h
  | o :: l, i, j, h => by
    simp only [dstIdx] at h
    have more : dstIdx t l (i + 1) = some j → ∃ k o', j = i + k ∧ (o :: l)[k]? = some o' ∧ o'.dst = some t := fun h => by
      obtain ⟨k, o', h1, h2, h3⟩ := dstIdx_some h
      exact ⟨k + 1, o', by omega, by simpa using h2, h3⟩
    cases hd : o.dst with
    | none => rw [hd] at h; exact more h
    | some d =>
      rw [hd] at h
      simp only at h
      cases hb : Nat.beq d t with
      | true =>
        rw [hb] at h
        simp only [cond_true, Option.some.injEq] at h
        exact ⟨0, o, by omega, rfl, by rw [hd, Nat.eq_of_beq_eq_true hb]⟩
      | false => rw [hb] at h; exact more h
theorem paBeq_eq : ∀ {p q : Pa}, paBeq p q = true → p = q
  | .z, .z, _ => rfl
  | .l p, .l q, h => by rw [paBeq_eq (p := p) (q := q) h]
  | .r p, .r q, h => by rw [paBeq_eq (p := p) (q := q) h]
  | .z, .l _, h | .z, .r _, h | .l _, .z, h | .l _, .r _, h | .r _, .z, h | .r _, .l _, h => by cases h
theorem inOps_mem {p : Pa} : ∀ {l : List Operand}, inOps p l = true → ∃ t, .tmp t ∈ l ∧ p = Pa.of t
  | [], h => by cases h
  | x :: l, h => by
    have more : inOps p l = true → ∃ t, .tmp t ∈ x :: l ∧ p = Pa.of t := fun h => by
      obtain ⟨t, h1, h2⟩ := inOps_mem h
      exact ⟨t, List.mem_cons_of_mem _ h1, h2⟩
    cases x with
    | tmp t =>
      simp only [inOps] at h
      cases hb : paBeq (Pa.of t) p with
      | true => exact ⟨t, List.mem_cons_self, (paBeq_eq hb).symm⟩
      | false => rw [hb] at h; exact more h
    | const v => exact more h
    | global g => exact more h
    | func f => exact more h
theorem xopsIn_mem {l : List Operand} : ∀ {ys : List XO}, xopsIn l ys = true → ∀ y ∈ ys, ∀ p, y = .tmp p → ∃ t, .tmp t ∈ l ∧ p = Pa.of t
  | [], _ => by simp
  | y :: ys, h => by
    intro z hz p hp
    cases y with
    | tmp q =>
      simp only [xopsIn] at h
      obtain ⟨h1, h2⟩ := bif_and h
      rcases List.mem_cons.1 hz with rfl | hz
      · cases hp; exact inOps_mem h1
      · exact xopsIn_mem h2 z hz p hp
    | const v =>
      rcases List.mem_cons.1 hz with rfl | hz
      · cases hp
      · exact xopsIn_mem (ys := ys) h z hz p hp

/-- what is known of an operation of a drawn region -/
structure OpInfo (G : Tab) (N : Nat) (ops : Array Oper) (i : Nat) (o : Oper) : Prop where
  pl : plainXs N o.op.operands.toList = true
  dok : okDst N o.dst = true
  own : ∀ t, Operand.tmp t ∈ o.op.operands.toList → ∀ j p, ops[j]? = some p → p.dst = some t → j ∈ predsOf o ∨ j = i ∨ i ∈ ancL (ops.toList.map predsOf) j (predsOf p)
  xin : ∀ y ∈ xops (xop G o), ∀ p, y = .tmp p → ∃ t, Operand.tmp t ∈ o.op.operands.toList ∧ p = Pa.of t
  below : ∀ j ∈ predsOf o, j < i
  uniq : ∀ d, o.dst = some d → ∀ j p, ops[j]? = some p → p.dst = some d → j = i
  guard : ∀ j want, o.guard = some (j, want) → j ∈ predsOf o
  npan : isPanic (xop G o) = false
  nsel : ∀ cs b, o.op ≠ .select cs b
theorem opersOK_all {ops : List Oper} {pss : List (List Nat)} : ∀ {l : List Oper} {k : Nat}, opersOK G N ops pss k l = true → ∀ i o, l[i]? = some o → operOK G N ops pss (k + i) o = true
  | [], _, _ => by intro i o h; simp at h
  | x :: l, k, h => by
    simp only [opersOK] at h
    obtain ⟨h1, h2⟩ := bif_and h
    intro i o hi
    cases i with
    | zero => simp at hi; subst hi; exact h1
    | succ i =>
      have := opersOK_all h2 i o (by simpa using hi)
      rw [show k + (i + 1) = k + 1 + i by omega]; exact this
theorem ownOK_mem {ops : List Oper} {pss : List (List Nat)} {i : Nat} {ps : List Nat} : ∀ {l : List Operand}, ownOK ops pss i ps l = true → ∀ t, Operand.tmp t ∈ l → ∀ j, dstIdx t ops 0 = some j → j ∈ ps ∨ j = i ∨ i ∈ ancL pss j (nthL pss j)
  | [], _ => by simp
  | x :: l, h => by
    simp only [ownOK] at h
    obtain ⟨h1, h2⟩ := bif_and h
    intro t ht j hj
    rcases List.mem_cons.1 ht with rfl | ht
    · simp only [hj, Bool.or_eq_true] at h1
      rcases h1 with (h1 | h1) | h1
      · exact .inl (memN_iff.1 h1)
      · exact .inr (.inl (Nat.eq_of_beq_eq_true h1))
      · exact .inr (.inr (memN_iff.1 h1))
    · exact ownOK_mem h2 t ht j hj
theorem opInfo {ops : Array Oper} (h : opersOK G N ops.toList (ops.toList.map predsOf) 0 ops.toList = true) : ∀ i o, ops[i]? = some o → OpInfo G N ops i o := by
  have all : ∀ i o, ops[i]? = some o → operOK G N ops.toList (ops.toList.map predsOf) i o = true := fun i o hi => by
    have := opersOK_all h i o (by simpa using hi)
    simpa using this
  have dst : ∀ j p d, ops[j]? = some p → p.dst = some d → dstIdx d ops.toList 0 = some j := by
    intro j p d hj hd
    have := all j p hj
    simp only [operOK, Bool.and_eq_true, hd] at this
    have h1 := this.1.1.1.2
    split at h1
    · rename_i j' hj'
      rw [hj', Nat.eq_of_beq_eq_true h1]
    · cases h1
  intro i o hi
  have ha := all i o hi
  simp only [operOK, Bool.and_eq_true] at ha
  obtain ⟨⟨⟨⟨⟨⟨⟨⟨a1, a2⟩, a3⟩, a4⟩, a5⟩, a6⟩, a7⟩, a8⟩, a9⟩ := ha
  refine ⟨a1, a2, fun t ht j p hj hp => ?_, xopsIn_mem a4, allBelow_iff a5, fun d hd j p hj hp => ?_, fun j want hg => ?_, by simpa using a8, fun cs b hq => ?_⟩
  · have := ownOK_mem a3 t ht j (dst j p t hj hp)
    rw [nthL_map (by simpa using hj)] at this
    exact this
  · have h1 := dst j p d hj hp
    have h2 := dst i o d hi hd
    rw [h1] at h2
    simpa using h2
  · rw [hg] at a7
    exact memN_iff.1 a7
  · rw [hq] at a9; simp at a9

/-! the plan's items -/
structure ItemOK (G : Tab) (N : Nat) (ops : Array Oper) (i : Nat) (x : XOper) : Prop where
  ex : ∃ o, ops[i]? = some o ∧ x = xoper G N ops.toList o
def PAll (ops : Array Oper) (G : Tab) (N : Nat) (l : List PItem) : Prop := ∀ p ∈ l, ItemOK G N ops p.i p.x
theorem pitems_ok {ops : Array Oper} : ∀ (l : List Oper) (ms : List Nat) (k : Nat), (∀ j o, l[j]? = some o → ops[k + j]? = some o) → PAll ops G N (pitems k (l.map (xoper G N ops.toList)) ms)
  | [], ms, k, _ => by intro p hp; cases ms <;> simp [pitems] at hp
  | o :: l, [], k, _ => by intro p hp; simp [pitems] at hp
  | o :: l, m :: ms, k, h => by
    intro p hp
    simp only [List.map_cons, pitems, List.mem_cons] at hp
    rcases hp with rfl | hp
    · exact ⟨o, by simpa using h 0 o rfl, rfl⟩
    · exact pitems_ok l ms (k + 1) (fun j o' hj => by rw [show k + 1 + j = k + (j + 1) by omega]; exact h (j + 1) o' (by simpa using hj)) p hp
variable {ops : Array Oper}
def QItem (G : Tab) (N : Nat) (ops : Array Oper) (q : Nat × XOper) : Prop := ItemOK G N ops q.1 q.2 ∧ isE q.2.op = false
theorem evals0_ok {em : Nat} : ∀ {l : List PItem}, PAll ops G N l → ∀ q ∈ evals0 em l, QItem G N ops q
  | [], _ => by simp [evals0]
  | p :: l, h => by
    have more := evals0_ok (em := em) (l := l) fun q hq => h q (List.mem_cons_of_mem _ hq)
    intro q hq
    simp only [evals0] at hq
    cases he : isE p.x.op with
    | true => rw [he] at hq; exact more q hq
    | false =>
      rw [he] at hq
      simp only [cond_false] at hq
      cases hb : Nat.beq (Nat.land p.m em) 0 with
      | false => rw [hb] at hq; exact more q hq
      | true =>
        rw [hb] at hq
        rcases List.mem_cons.1 hq with rfl | hq
        · exact ⟨h p List.mem_cons_self, he⟩
        · exact more q hq
theorem evalsOf_ok {em prev cur : Nat} : ∀ {l : List PItem}, PAll ops G N l → ∀ q ∈ evalsOf em prev cur l, QItem G N ops q
  | [], _ => by simp [evalsOf]
  | p :: l, h => by
    have more := evalsOf_ok (em := em) (prev := prev) (cur := cur) (l := l) fun q hq => h q (List.mem_cons_of_mem _ hq)
    intro q hq
    simp only [evalsOf] at hq
    cases he : isE p.x.op with
    | true => rw [he] at hq; exact more q hq
    | false =>
      rw [he] at hq
      simp only [cond_false] at hq
      cases hb : sub (Nat.land p.m em) prev with
      | true => rw [hb] at hq; exact more q hq
      | false =>
        rw [hb] at hq
        simp only [cond_false] at hq
        cases hb2 : sub (Nat.land p.m em) cur with
        | false => rw [hb2] at hq; exact more q hq
        | true =>
          rw [hb2] at hq
          rcases List.mem_cons.1 hq with rfl | hq
          · exact ⟨h p List.mem_cons_self, he⟩
          · exact more q hq
theorem rechecksOf_ok {em prev mE : Nat} : ∀ {l : List PItem}, PAll ops G N l → ∀ q ∈ rechecksOf em prev mE l, ItemOK G N ops q.1 q.2 ∧ isR q.2.op = true
  | [], _ => by simp [rechecksOf]
  | p :: l, h => by
    have more := rechecksOf_ok (em := em) (prev := prev) (mE := mE) (l := l) fun q hq => h q (List.mem_cons_of_mem _ hq)
    intro q hq
    simp only [rechecksOf] at hq
    cases he : isR p.x.op with
    | false => rw [he] at hq; exact more q hq
    | true =>
      rw [he] at hq
      simp only [cond_true] at hq
      cases hb : bit mE p.i with
      | true => rw [hb] at hq; exact more q hq
      | false =>
        rw [hb] at hq
        simp only [cond_false] at hq
        cases hb2 : sub (Nat.land p.m em) prev with
        | false => rw [hb2] at hq; exact more q hq
        | true =>
          rw [hb2] at hq
          rcases List.mem_cons.1 hq with rfl | hq
          · exact ⟨h p List.mem_cons_self, he⟩
          · exact more q hq
structure StageOK (G : Tab) (N : Nat) (ops : Array Oper) (s : XStage) : Prop where
  eff : ItemOK G N ops s.eff s.effX
  isE : isE s.effX.op = true
  re : ∀ q ∈ s.rechecks, ItemOK G N ops q.1 q.2 ∧ isR q.2.op = true
  ev : ∀ q ∈ s.evals, QItem G N ops q
  pr : ∀ e, s.pair = some e → ItemOK G N ops e.1 e.2 ∧ Go.Clo.isE e.2.op = true
theorem stagesOf_ok {em : Nat} {all : List PItem} (hall : PAll ops G N all) : ∀ {l : List PItem} {prev anc : Nat}, PAll ops G N l → ∀ s ∈ (stagesOf em all prev anc l).1, StageOK G N ops s
  | [], _, _, _ => by simp [stagesOf]
  | p :: l, prev, anc, h => by
    intro s hs
    have hl : PAll ops G N l := fun q hq => h q (List.mem_cons_of_mem _ hq)
    simp only [stagesOf] at hs
    cases he : isE p.x.op with
    | false => rw [he] at hs; exact stagesOf_ok hall hl s hs
    | true =>
      rw [he] at hs
      rcases List.mem_cons.1 hs with rfl | hs
      · exact ⟨h p List.mem_cons_self, he, rechecksOf_ok hall, evalsOf_ok hall, fun e q => by cases q⟩
      · exact stagesOf_ok hall hl s hs
theorem pairUp_ok {ps : List (List Nat)} : ∀ {l : List XStage}, (∀ s ∈ l, StageOK G N ops s) → ∀ s ∈ pairUp ps l, StageOK G N ops s
  | [], _ => by simp [pairUp]
  | [a], h => by simpa [pairUp] using h
  | a :: b :: m, h => by
    intro s hs
    simp only [pairUp] at hs
    have ha := h a List.mem_cons_self
    have hb := h b (List.mem_cons_of_mem _ List.mem_cons_self)
    cases hq : (isU a.effX && isU b.effX && noneL a.evals && noneL b.adopts && !(memN (ancL ps b.eff (nthL ps b.eff)) a.eff)) with
    | true =>
      rw [hq] at hs
      rcases List.mem_cons.1 hs with rfl | hs
      · exact ⟨ha.eff, ha.isE, ha.re, hb.ev, fun e q => by cases q; exact ⟨hb.eff, hb.isE⟩⟩
      · exact h s (List.mem_cons_of_mem _ (List.mem_cons_of_mem _ hs))
    | false =>
      rw [hq] at hs
      rcases List.mem_cons.1 hs with rfl | hs
      · exact ha
      · exact pairUp_ok (l := b :: m) (fun s hs => h s (List.mem_cons_of_mem _ hs)) s hs
end
end Go.Clo
namespace Go.Clo

def wantX (g : Option (Pa × Bool)) (tm : TV) : Bool := match g with
  | none => true
  | some (p, want) => match getV p tm with
    | .bool b => b == want
    | _ => false
theorem wantK_eq {g : Option (Pa × Bool)} {tm : TV} {no yes : Res} : wantK g tm no yes = if wantX g tm then yes else no := by
  cases g with
  | none => rfl
  | some q =>
    obtain ⟨p, want⟩ := q
    rw [wantK_some]
    cases hgv : getV p tm with
    | bool b => simp only [wantX, hgv]; cases b <;> cases want <;> rfl
    | _ => simp only [wantX, hgv]; rfl
/-- the guard, its place looked up -/
def XG (ops : Array Oper) (N : Nat) (o : Oper) (g : Option (Pa × Bool)) : Prop :=
  (o.guard = none ∧ g = none) ∨ ∃ j want p d, o.guard = some (j, want) ∧ ops[j]? = some p ∧ p.dst = some d ∧ d < N ∧ g = some (Pa.of d, want)
theorem xoper_good {G : Tab} {N : Nat} {ops : Array Oper} {i : Nat} {o : Oper} (hI : OpInfo G N ops i o) : xoper G N ops.toList o = ⟨.bad, none, none⟩ ∨ ∃ g, xoper G N ops.toList o = ⟨xop G o, o.dst.map Pa.of, g⟩ ∧ XG ops N o g := by
  unfold xoper
  rw [hI.pl, hI.dok]
  simp only [Bool.and_self, cond_true]
  cases hg : o.guard with
  | none => exact .inr ⟨none, rfl, .inl ⟨hg, rfl⟩⟩
  | some jw =>
    obtain ⟨j, want⟩ := jw
    simp only
    cases hp : nthO ops.toList j with
    | none => exact .inl rfl
    | some p =>
      simp only
      cases hd : p.dst with
      | none => exact .inl rfl
      | some d =>
        simp only
        cases hb : Nat.blt d N with
        | false => exact .inl rfl
        | true => exact .inr ⟨_, rfl, .inr ⟨j, want, p, d, hg, by rw [nthO_eq] at hp; simpa using hp, hd, blt_iff.1 hb, rfl⟩⟩
theorem wanted_x {ops : Array Oper} {N : Nat} {o : Oper} {g : Option (Pa × Bool)} {T : Nat → Prop} {ρ : Env} {tm : TV} {a : Array Value} (hA : ActOn T ρ N tm a) (hg : XG ops N o g) (hT : ∀ j want p d, o.guard = some (j, want) → ops[j]? = some p → p.dst = some d → T d) :
    Region.wanted o (yielded ops a) = wantX g tm := by
  rcases hg with ⟨h1, rfl⟩ | ⟨j, want, p, d, h1, h2, h3, h4, rfl⟩
  · simp [Region.wanted, h1, wantX]
  · exact wanted_eq hA h1 h2 h3 h4 (hT j want p d h1 h2 h3)

def TD (ops : Array Oper) (C : List Nat) (D : Nat → Prop) (t : Nat) : Prop := ∀ i o, ops[i]? = some o → o.dst = some t → i ∈ C → D i
def T0 (ops : Array Oper) (D : Nat → Prop) (t : Nat) : Prop := ∀ i o, ops[i]? = some o → o.dst = some t → ¬ D i
/-- the slots that an operation looks at, as it looked at them -/
def View (ops : Array Oper) (tm0 tm : TV) (o : Oper) (tmi : TV) : Prop := ∀ t, Operand.tmp t ∈ o.op.operands.toList →
  ((∃ j p, ops[j]? = some p ∧ p.dst = some t ∧ j ∈ predsOf o) ∧ getV (Pa.of t) tmi = getV (Pa.of t) tm) ∨ ((∀ j p, ops[j]? = some p → p.dst = some t → j ∉ predsOf o) ∧ getV (Pa.of t) tmi = getV (Pa.of t) tm0)
def DstIs (o : Oper) (tm : TV) (v : Value) : Prop := ∀ d, o.dst = some d → getV (Pa.of d) tm = v
def NoEnt (pa : PA) (i : Nat) : Prop := ∀ e ∈ pa, e.1 ≠ i
def PendQ (G : Tab) (N : Nat) (ops : Array Oper) (tm0 tm : TV) (pa : PA) (i : Nat) (o : Oper) : Prop := ∃ g, xoper G N ops.toList o = ⟨xop G o, o.dst.map Pa.of, g⟩ ∧ XG ops N o g ∧
  (wantX g tm = false → DstIs o tm undefV ∧ NoEnt pa i) ∧
  (wantX g tm = true → isR (xop G o) = false → ∃ tmi mi v h1 n1, View ops tm0 tm o tmi ∧ execX G (xop G o) tmi .e mi = .val v h1 n1 ∧ DstIs o tm v ∧ ((n1 = mi ∧ NoEnt pa i) ∨ (n1 = mi + 1 ∧ (i, mi, h1.getO mi) ∈ pa)))
def PendR (G : Tab) (N : Nat) (ops : Array Oper) (tm0 tm : TV) (pa : PA) (h : TH) (nb : Nat) (i : Nat) (o : Oper) : Prop := ∀ g, xoper G N ops.toList o = ⟨xop G o, o.dst.map Pa.of, g⟩ → wantX g tm = true → isR (xop G o) = true →
  ∃ tmi mi v n1, View ops tm0 tm o tmi ∧ execX G (xop G o) tmi h mi = .val v h n1 ∧ DstIs o tm v ∧ (n1 = mi ∨ (n1 = mi + 1 ∧ nb ≤ mi ∧ (i, mi, .gone) ∈ pa))

/-- where a region begins -/
structure Beg where
  ρ : Env
  S : Nat → Prop
  tm : TV
  fx : Fx
  h : TH
  n : Nat
  w : World
/-- the state between: D are done, C are told of, pa are the blocks that are told of and not laid yet -/
structure Core (P : Program) (G : Tab) (B0 N : Nat) (s : Fra) (cs : List Frame) (ops : Array Oper) (Z : Beg) (D : Nat → Prop) (C : List Nat) (pa : PA) (ρ : Env) (S : Nat → Prop) (tm : TV) (fx : Fx) (h : TH) (n : Nat) (a : Array Value) (DS : List Deferred) (M : Option FrameMode) (w : World) : Prop where
  st : StT (TD ops C D) P G B0 N s cs ρ S tm fx h n a DS M w
  act0 : ∀ ρ', Agree S ρ ρ' → ActOn (T0 ops D) ρ' N Z.tm a
  agr : Agree Z.S Z.ρ ρ
  rd : fx.round = Z.fx.round
  n0 : Z.n ≤ n
  dc : ∀ i, D i → i ∈ C
  ex : ∀ i ∈ C, ∃ o, ops[i]? = some o
  dcl : ∀ i o, D i → ops[i]? = some o → ∀ j ∈ predsOf o, D j
  ccl : ∀ i o, i ∈ C → ops[i]? = some o → ∀ j ∈ predsOf o, j ∈ C
  cE : ∀ i o, i ∈ C → ops[i]? = some o → isE (xoper G N ops.toList o).op = true → D i
  pend : ∀ i o, i ∈ C → ¬ D i → ops[i]? = some o → PendQ G N ops Z.tm tm pa i o
  paC : ∀ e ∈ pa, e.1 ∈ C
  paN : ∀ e ∈ pa, Z.n ≤ e.2.1 ∧ e.2.1 < n
  paI : ∀ e ∈ pa, ∀ f ∈ pa, e.1 = f.1 → e = f
  paU : ∀ e ∈ pa, ∀ f ∈ pa, e.2.1 = f.2.1 → e = f
  paG : ∀ e ∈ pa, e.2.2 ≠ .gone → ¬ Live h e.2.1
  paR : ∀ e ∈ pa, ∀ o, ops[e.1]? = some o → isR (xop G o) = true → e.2.2 = .gone
  paP : ∀ e ∈ pa, ¬ D e.1 → ¬ S e.2.1
  paD : ∀ e ∈ pa, D e.1 → e.2.2 ≠ .gone → ∀ ρ', Agree S ρ ρ' → Z.w.heap.size ≤ ρ'.loc e.2.1 ∧ (∃ p, w.heap[ρ'.loc e.2.1]? = some p ∧ ObjEq ρ' G e.2.1 e.2.2 p) ∧ ∀ k, Live h k → ρ'.loc k ≠ ρ'.loc e.2.1
  paX : ∀ e ∈ pa, ∀ f ∈ pa, D e.1 → D f.1 → e.2.2 ≠ .gone → f.2.2 ≠ .gone → e ≠ f → ∀ ρ', Agree S ρ ρ' → ρ'.loc e.2.1 ≠ ρ'.loc f.2.1
  SS : ∀ k, S k ↔ Z.S k ∨ (Z.n ≤ k ∧ k < n ∧ ∀ e ∈ pa, ¬ D e.1 → e.2.1 ≠ k)
  keep : ∀ ρ', Agree S ρ ρ' → KeepEq ρ' Z.h h Z.w w
  tmZ : ∀ t, (∀ j p, ops[j]? = some p → p.dst = some t → j ∉ C) → getV (Pa.of t) tm = getV (Pa.of t) Z.tm
  paNd : (pa.map (·.1)).Nodup

section
variable {P : Program} {G : Tab} {B0 N : Nat} {s : Fra} {cs : List Frame} {ops : Array Oper} {Z : Beg} {D : Nat → Prop} {C : List Nat} {pa : PA} {ρ : Env} {S : Nat → Prop} {tm : TV} {fx : Fx} {h : TH} {n : Nat} {a : Array Value} {DS : List Deferred} {M : Option FrameMode} {w : World}
  {i : Nat} {o : Oper} {rest : List Nat} {k : List Item}
theorem weq_e (ρ : Env) (n : Nat) (w : World) : WEq ρ G B0 .e n w := by
  have : ∀ k, ¬ Live .e k := fun k hk => hk (TH.getO_e k)
  exact ⟨fun k hk => absurd hk (this k), fun k hk => absurd hk (this k), fun k hk => absurd hk (this k), fun k _ hk => absurd hk (this k)⟩
theorem WEq.count {ρ : Env} {m : Nat} (hW : WEq ρ G B0 h n w) (hm : ∀ k, Live h k → k < m) : WEq ρ G B0 h m w := ⟨hm, hW.base, hW.obj, hW.inj⟩
theorem WEq.same {ρ : Env} {w' : World} (hW : WEq ρ G B0 h n w) (hs : ∀ b, b < w.heap.size → w'.heap[b]? = w.heap[b]?) : WEq ρ G B0 h n w' := by
  refine ⟨hW.lt, hW.base, fun k hk => ?_, hW.inj⟩
  obtain ⟨p, hp, hO⟩ := hW.obj k hk
  exact ⟨p, by rw [hs _ (hW.lt_size hk)]; exact hp, hO⟩
/-- slots that show what is looked at, and nothing else -/
theorem reset_ex (O : Nat → Prop) (N : Nat) (tm : TV) (a : Array Value) (ha : a.size = N) : ∃ tm' a', (∀ t, t < N → O t → getV (Pa.of t) tm' = getV (Pa.of t) tm) ∧ (∀ t, t < N → O t → a'[t]? = a[t]?) ∧
    ∀ ρ, (∀ t, t < N → O t → a[t]? = some (rlV ρ (getV (Pa.of t) tm))) → ActEq ρ N tm' a' := by
  classical
  have key : ∀ K, K ≤ N → ∃ tm', ∀ t, (t < K → ¬ O t → getV (Pa.of t) tm' = undefV) ∧ ((K ≤ t ∨ O t) → getV (Pa.of t) tm' = getV (Pa.of t) tm) := by
    intro K
    induction K with
    | zero => intro _; exact ⟨tm, fun t => ⟨fun h => absurd h (Nat.not_lt_zero _), fun _ => rfl⟩⟩
    | succ K ih =>
      intro hK
      obtain ⟨tm', h1⟩ := ih (by omega)
      by_cases hO : O K
      · refine ⟨tm', fun t => ⟨fun ht hn => ?_, fun ht => (h1 t).2 (ht.imp (fun q => by omega) id)⟩⟩
        by_cases e : t = K
        · subst e; exact absurd hO hn
        · exact (h1 t).1 (by omega) hn
      · refine ⟨setT (Pa.of K) tm' undefV, fun t => ⟨fun ht hn => ?_, fun ht => ?_⟩⟩
        · rw [getV_setT]
          by_cases e : K = t
          · rw [e, if_pos rfl]
          · rw [if_neg fun q => e (Pa.of_inj q)]
            exact (h1 t).1 (by omega) hn
        · have e : K ≠ t := by
            rintro rfl
            rcases ht with ht | ht
            · omega
            · exact hO ht
          rw [getV_setT, if_neg fun q => e (Pa.of_inj q)]
          exact (h1 t).2 (ht.imp (fun q => by omega) id)
  obtain ⟨tm', h1⟩ := key N (Nat.le_refl _)
  refine ⟨tm', Array.ofFn (n := N) fun t => if O t then a.getD t undef else undef, fun t ht hO => (h1 t).2 (.inr hO), fun t ht hO => ?_, fun ρ hA => ⟨by simp, fun t ht => ?_⟩⟩
  · rw [Array.getElem?_ofFn]
    have h2 : t < a.size := by omega
    simp [ht, hO, h2]
  · rw [Array.getElem?_ofFn]
    by_cases hO : O t
    · have := hA t ht hO
      have h2 : t < a.size := by omega
      rw [(h1 t).2 (.inr hO), ← this]
      simp [ht, hO, h2]
    · rw [(h1 t).1 ht hO]
      simp only [ht, hO, if_false, dif_pos, rlV_undef]
      rfl
/-- operations look at the same, where their operands are the same -/
theorem execOp_same {a' : Array Value} (hI : OpInfo G N ops i o) (hx : ∀ t, Operand.tmp t ∈ o.op.operands.toList → a'[t]? = a[t]?) : execOp (Ev a) o = execOp (Ev a') o := by
  refine execOp_congr o hI.nsel fun x hxo => ?_
  cases x with
  | tmp t =>
    have := hx t (by simpa using hxo)
    simp [Ev, this]
  | const v => rfl
  | global g => rfl
  | func f => rfl
end
end Go.Clo
