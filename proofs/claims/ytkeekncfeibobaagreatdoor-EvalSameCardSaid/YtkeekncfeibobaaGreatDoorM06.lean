/-
A CLOSED RUN. Drawn regions: an operation that looks alone is done.
A CLOSED RUN. Drawn regions: an operation that looks alone is told of; a reading looked at again.
A CLOSED RUN. Drawn regions: readings looked at again, blocks laid, an operation that acts.
A CLOSED RUN. Drawn regions: an operation that acts is done.
A CLOSED RUN. Drawn regions: two entries that no edge orders.
A CLOSED RUN. Drawn regions: whatever order is drawn.
A CLOSED RUN. Drawn regions; all calls.
A CLOSED RUN. Own blocks renumbered.
-/
import Derived.Test.YtkeekncfeibobaaGreatDoorM05
namespace Go.Clo

section
variable {P : Program} {G : Tab} {B0 N : Nat} {s : Fra} {cs : List Frame} {ops : Array Oper} {Z : Beg} {D : Nat → Prop} {C : List Nat} {pa : PA} {ρ : Env} {S : Nat → Prop} {tm : TV} {fx : Fx} {h : TH} {n : Nat} {a : Array Value} {DS : List Deferred} {M : Option FrameMode} {w : World}
  {i : Nat} {o : Oper} {rest : List Nat} {k : List Item}
theorem putA_size (d : Option Tmp) (a : Array Value) (v : Value) : (putA d a v).size = a.size := by cases d <;> simp [putA]
theorem putA_ne {d : Option Tmp} {a : Array Value} {v : Value} {t : Nat} (h : d ≠ some t) : (putA d a v)[t]? = a[t]? := by
  cases d with
  | none => rfl
  | some d => exact Array.getElem?_setIfInBounds_ne (fun e => h (by rw [e]))
theorem putA_eq {d : Option Tmp} {a : Array Value} {v : Value} {t : Nat} (h : d = some t) (ht : t < a.size) : (putA d a v)[t]? = some v := by
  subst h
  exact Array.getElem?_setIfInBounds_self_of_lt ht
theorem core_done (hc : Core P G B0 N s cs ops Z D C pa ρ S tm fx h n a DS M w) (hi : i ∈ C) (ho : ops[i]? = some o) (hp : ∀ j ∈ predsOf o, D j) {v V : Value} (hdv : DstIs o tm v) {ρ1 : Env} {S1 : Nat → Prop} {w1 : World}
    (hA : Agree S ρ ρ1) (hS1 : ∀ k, S1 k ↔ S k ∨ ∃ e ∈ pa, e.1 = i ∧ e.2.1 = k) (hV : ∀ ρ', Agree S1 ρ1 ρ' → rlV ρ' v = V) (hW : ∀ ρ', Agree S1 ρ1 ρ' → WEq ρ' G B0 h n w1 ∧ KeepEq ρ' h h w w1)
    (hnew : ∀ e ∈ pa, e.1 = i → e.2.2 ≠ .gone → ∀ ρ', Agree S1 ρ1 ρ' → w.heap.size ≤ ρ'.loc e.2.1 ∧ ∃ p, w1.heap[ρ'.loc e.2.1]? = some p ∧ ObjEq ρ' G e.2.1 e.2.2 p) :
    Core P G B0 N s cs ops Z (fun j => D j ∨ j = i) C pa ρ1 S1 tm fx h n (putA o.dst a V) DS M w1 := by
  have hsub : ∀ k, S k → S1 k := fun k hk => (hS1 k).2 (.inl hk)
  have hAll : ∀ ρ', Agree S1 ρ1 ρ' → Agree S ρ ρ' := fun ρ' hA' => hA.trans hA' hsub
  have hsz : w.heap.size ≤ w1.heap.size := (hW ρ1 (.refl _ _)).2.size
  have hold : ∀ e ∈ pa, D e.1 → e.2.2 ≠ .gone → ∀ ρ', Agree S1 ρ1 ρ' → ρ'.loc e.2.1 < w.heap.size ∧ ∃ p, w1.heap[ρ'.loc e.2.1]? = some p ∧ ObjEq ρ' G e.2.1 e.2.2 p := by
    intro e he hD hg ρ' hA'
    obtain ⟨_, ⟨p, hp1, hp2⟩, hsep⟩ := hc.paD e he hD hg ρ' (hAll ρ' hA')
    have hlt : ρ'.loc e.2.1 < w.heap.size := (Array.getElem?_eq_some_iff.1 hp1).1
    refine ⟨hlt, p, ?_, hp2⟩
    rw [((hW ρ' hA').2.rest _ hlt hsep).1]
    exact hp1
  refine ⟨⟨fun k hk => ?_, fun ρ' hA' => ?_, Nat.le_trans hc.st.base hsz, hc.st.kind, hc.st.nor, hc.st.fn, hc.st.fnG⟩, fun ρ' hA' => ?_, hc.agr.trans hA fun k hk => (hc.SS k).2 (.inl hk), hc.rd, hc.n0, fun j hj => ?_, hc.ex, fun j p hj hpj => ?_, hc.ccl, fun j p hj hpj hE => .inl (hc.cE j p hj hpj hE),
    fun j p hj hnj hpj => hc.pend j p hj (fun q => hnj (.inl q)) hpj, hc.paC, hc.paN, hc.paI, hc.paU, hc.paG, hc.paR, fun e he hne hSe => ?_, fun e he hDe hg ρ' hA' => ?_, fun e he f hf hDe hDf hge hgf hne ρ' hA' => ?_, fun k => ?_, fun ρ' hA' => (hc.keep ρ' (hAll ρ' hA')).trans (hW ρ' hA').2, hc.tmZ, hc.paNd⟩
  · rcases (hS1 k).1 hk with hk | ⟨e, he, _, rfl⟩
    · exact hc.st.lt k hk
    · exact (hc.paN e he).2
  · obtain ⟨h1, h2, h3⟩ := hc.st.all ρ' (hAll ρ' hA')
    refine ⟨⟨by rw [putA_size]; exact h1.1, fun t ht hT => ?_⟩, (hW ρ' hA').1, h3⟩
    by_cases hd : o.dst = some t
    · rw [putA_eq hd (by rw [h1.1]; exact ht), hdv t hd, hV ρ' hA']
    · rw [putA_ne hd]
      refine h1.2 t ht fun j p hpj hdp hj => ?_
      rcases hT j p hpj hdp hj with hD | rfl
      · exact hD
      · rw [ho] at hpj; cases hpj; exact absurd hdp hd
  · have h1 := hc.act0 ρ' (hAll ρ' hA')
    refine ⟨by rw [putA_size]; exact h1.1, fun t ht hT => ?_⟩
    have hd : o.dst ≠ some t := fun hd => hT i o ho hd (.inr rfl)
    rw [putA_ne hd]
    exact h1.2 t ht fun j p hpj hdp hj => hT j p hpj hdp (.inl hj)
  · rcases hj with hj | rfl
    · exact hc.dc j hj
    · exact hi
  · rcases hj with hj | rfl
    · exact fun x hx => .inl (hc.dcl j p hj hpj x hx)
    · rw [ho] at hpj; cases hpj
      exact fun x hx => .inl (hp x hx)
  · rcases (hS1 _).1 hSe with hSe | ⟨f, hf, hfi, hfe⟩
    · exact hc.paP e he (fun q => hne (.inl q)) hSe
    · have := hc.paU f hf e he hfe
      subst this
      exact hne (.inr hfi)
  · rcases hDe with hDe | hDe
    · obtain ⟨q1, _, q3⟩ := hc.paD e he hDe hg ρ' (hAll ρ' hA')
      exact ⟨q1, (hold e he hDe hg ρ' hA').2, q3⟩
    · obtain ⟨q1, q2⟩ := hnew e he hDe hg ρ' hA'
      refine ⟨Nat.le_trans (hc.keep ρ' (hAll ρ' hA')).size q1, q2, fun k hk => ?_⟩
      have := (hc.st.all ρ' (hAll ρ' hA')).2.1.lt_size hk
      omega
  · rcases hDe with hDe | hDe <;> rcases hDf with hDf | hDf
    · exact hc.paX e he f hf hDe hDf hge hgf hne ρ' (hAll ρ' hA')
    · have h1 := (hold e he hDe hge ρ' hA').1
      have h2 := (hnew f hf hDf hgf ρ' hA').1
      omega
    · have h1 := (hold f hf hDf hgf ρ' hA').1
      have h2 := (hnew e he hDe hge ρ' hA').1
      omega
    · exact absurd (hc.paI e he f hf (hDe.trans hDf.symm)) hne
  · rw [hS1, hc.SS]
    constructor
    · rintro ((h1 | ⟨h1, h2, h3⟩) | ⟨e, he, hei, rfl⟩)
      · exact .inl h1
      · exact .inr ⟨h1, h2, fun e he hne => h3 e he fun q => hne (.inl q)⟩
      · refine .inr ⟨(hc.paN e he).1, (hc.paN e he).2, fun f hf hnf hfe => ?_⟩
        have := hc.paU f hf e he hfe
        subst this
        exact hnf (.inr hei)
    · rintro (h1 | ⟨h1, h2, h3⟩)
      · exact .inl (.inl h1)
      · by_cases hex : ∃ e ∈ pa, e.1 = i ∧ e.2.1 = k
        · exact .inr hex
        · refine .inl (.inr ⟨h1, h2, fun e he hne hek => ?_⟩)
          by_cases hei : e.1 = i
          · exact hex ⟨e, he, hei, hek⟩
          · exact h3 e he (fun q => q.elim hne hei) hek
theorem ancL_all {D : Nat → Prop} (hcl : ∀ i o, D i → ops[i]? = some o → ∀ j ∈ predsOf o, D j) : ∀ (m : Nat) (L : List Nat), (∀ j ∈ L, D j) → ∀ j ∈ ancL (ops.toList.map predsOf) m L, D j
  | 0, L, hL => hL
  | m + 1, L, hL => by
    simp only [ancL]
    cases hb : memN L m with
    | false => exact ancL_all hcl m L hL
    | true =>
      refine ancL_all hcl m _ fun j hj => ?_
      rcases List.mem_append.1 hj with hj | hj
      · have hDm := hL m (memN_iff.1 hb)
        cases hm : ops[m]? with
        | some o =>
          rw [nthL_map (o := o) (by simpa using hm)] at hj
          exact hcl m o hDm hm j hj
        | none =>
          rw [nthL_out (by simpa using hm)] at hj
          simp at hj
      · exact hL j hj
/-- an operation that looks alone is done -/
theorem quiet_step (TO : TabOK P G) (hI : ∀ i o, ops[i]? = some o → OpInfo G N ops i o) (hc : Core P G B0 N s cs ops Z D C pa ρ S tm fx h n a DS M w) {nb : Nat} (hlow : ∀ k, Live h k → k < nb) (hR : PendR G N ops Z.tm tm pa h nb i o)
    (hi : i ∈ C) (hnD : ¬ D i) (ho : ops[i]? = some o) (hp : ∀ j ∈ predsOf o, D j) : ∃ ρ1 S1 a1 w1, step P (lone (s.at a DS (.inRegion ops (i :: rest) :: k)) (withM M cs) w) = .next (lone (s.at a1 DS (.inRegion ops rest :: k)) (withM M cs) w1) ∧
      Core P G B0 N s cs ops Z (fun j => D j ∨ j = i) C pa ρ1 S1 tm fx h n a1 DS M w1 := by
  have hII := hI i o ho
  obtain ⟨g, hx, hg, hskip, hexec⟩ := hc.pend i o hi hnD ho
  have huw : ∀ {j p d}, ops[j]? = some p → p.dst = some d → D j → TD ops C D d := fun {j p d} hj hd hD j' p' hj' hd' _ => by
    have := (hI j p hj).uniq d hd j' p' hj' hd'
    rw [this]; exact hD
  have hw := wanted_x hc.st.A hg fun j want p d h1 h2 h3 => huw h2 h3 (hp j (hII.guard j want h1))
  have hnoent : NoEnt pa i → ∀ k, S k ↔ S k ∨ ∃ e ∈ pa, e.1 = i ∧ e.2.1 = k := fun hne k => ⟨.inl, fun h => h.resolve_right fun ⟨e, he, hei, _⟩ => hne e he hei⟩
  cases hwx : wantX g tm with
  | false =>
    rw [hwx] at hw
    obtain ⟨hd, hne⟩ := hskip hwx
    refine ⟨ρ, S, _, w, stepC_opSkip ho hw, ?_⟩
    exact core_done hc hi ho hp hd (.refl _ _) (hnoent hne) (fun ρ' _ => rlV_undef ρ') (fun ρ' hA => ⟨(hc.st.all ρ' hA).2.1, .refl _ _ _⟩) (fun e he hei => absurd hei (hne e he))
  | true =>
    rw [hwx] at hw
    -- what was looked up
    have hex : ∃ tmi mi v n1 hh h1, View ops Z.tm tm o tmi ∧ execX G (xop G o) tmi hh mi = .val v h1 n1 ∧ DstIs o tm v ∧ ((n1 = mi ∧ ∀ e ∈ pa, e.1 = i → e.2.2 = .gone) ∨ (n1 = mi + 1 ∧ ∃ ob, (i, mi, ob) ∈ pa ∧ (ob ≠ .gone → hh = .e ∧ ob = h1.getO mi))) ∧
        (∀ ρ', Agree S ρ ρ' → WEq ρ' G B0 hh mi w) ∧ (hh = .e ∨ (hh = h ∧ h1 = h)) := by
      cases hr : isR (xop G o) with
      | false =>
        obtain ⟨tmi, mi, v, h1, n1, hv, hrun, hd, hn⟩ := hexec hwx hr
        refine ⟨tmi, mi, v, n1, .e, h1, hv, hrun, hd, ?_, fun ρ' _ => weq_e ρ' mi w, .inl rfl⟩
        rcases hn with hn | ⟨hn, he⟩
        · exact .inl ⟨hn.1, fun e he hei => absurd hei (hn.2 e he)⟩
        · exact .inr ⟨hn, _, he, fun _ => ⟨rfl, rfl⟩⟩
      | true =>
        obtain ⟨tmi, mi, v, n1, hv, hrun, hd, hn⟩ := hR g hx hwx hr
        rcases hn with rfl | ⟨hn, hnb, he⟩
        · have := (r_val hr hrun).2 n
          exact ⟨tmi, n, v, n, h, h, hv, this, hd, .inl ⟨rfl, fun e he hei => hc.paR e he o (by rw [hei]; exact ho) hr⟩, fun ρ' hA => (hc.st.all ρ' hA).2.1, .inr ⟨rfl, rfl⟩⟩
        · exact ⟨tmi, mi, v, n1, h, h, hv, hrun, hd, .inr ⟨hn, _, he, fun q => absurd rfl q⟩, fun ρ' hA => (hc.st.all ρ' hA).2.1.count fun k hk => Nat.lt_of_lt_of_le (hlow k hk) hnb, .inr ⟨rfl, rfl⟩⟩
    obtain ⟨tmi, mi, v, n1, hh, h1, hview, hrun, hd, hn, hWh, hhh⟩ := hex
    -- the slots
    have hpl : ∀ t, Operand.tmp t ∈ o.op.operands.toList → t < N := fun t ht => by
      have := plainXs_all hII.pl _ ht
      simpa [plainX] using this
    have hsz : a.size = N := hc.st.A.1
    obtain ⟨tm', a', e1, e2, e3⟩ := reset_ex (fun t => Operand.tmp t ∈ o.op.operands.toList) N tmi a hsz
    have hact : ∀ ρ', Agree S ρ ρ' → ActEq ρ' N tm' a' := by
      intro ρ' hA
      refine e3 ρ' fun t ht hO => ?_
      rcases hview t hO with ⟨⟨j, p, hj, hpd, hjp⟩, he⟩ | ⟨hno, he⟩
      · rw [he]
        exact (hc.st.all ρ' hA).1.2 t ht (huw hj hpd (hp j hjp))
      · rw [he]
        refine (hc.act0 ρ' hA).2 t ht fun j p hj hpd hDj => ?_
        rcases hII.own t hO j p hj hpd with hjp | rfl | hanc
        · exact hno j p hj hpd hjp
        · exact hnD hDj
        · exact hnD (ancL_all hc.dcl j _ (fun x hx => hc.dcl j p hDj hj x hx) i hanc)
    have hrun' : execX G (xop G o) tm' hh mi = .val v h1 n1 := by
      rw [← hrun]
      refine exec_congr _ fun y hy => ?_
      cases y with
      | const c => rfl
      | tmp q =>
        obtain ⟨t, ht, rfl⟩ := hII.xin _ hy q rfl
        exact e1 t (hpl t ht) ht
    have hab : execOp (Ev a) o = execOp (Ev a') o := execOp_same hII fun t ht => e2 t (hpl t ht) ht
    obtain ⟨hn1, hn2, b, c, d, H⟩ := exec_val (a := a') (w := w) TO hc.st.base hII.pl hrun'
    have hnd := val_no_defer hrun'
    have hWlt : ∀ ρ', Agree S ρ ρ' → WEq ρ' G B0 h n w := fun ρ' hA => (hc.st.all ρ' hA).2.1
    -- the world behind it
    have hworld : ∀ ρ' w', Agree S ρ ρ' → WEq ρ' G B0 h1 n1 w' → KeepEq ρ' hh h1 w w' → WEq ρ' G B0 h n w' ∧ KeepEq ρ' h h w w' := by
      intro ρ' w' hA hW' hK
      rcases hhh with rfl | ⟨rfl, rfl⟩
      · have hs : ∀ b, b < w.heap.size → w'.heap[b]? = w.heap[b]? := fun b hb => (hK.rest b hb fun k hk => absurd (TH.getO_e k) hk).1
        exact ⟨(hWlt ρ' hA).same hs, hK.size, hK.os, hK.out, hK.tape, fun b hb hu => ⟨hs b hb, hu⟩⟩
      · exact ⟨hW'.count (hWlt ρ' hA).lt, hK⟩
    rcases hn with ⟨rfl, hne⟩ | ⟨rfl, ob, hent, hob⟩
    · obtain ⟨x, w', hr, hx1, hW', hK⟩ := H ρ (hact ρ (.refl _ _)) (hWh ρ (.refl _ _)) (.inl rfl)
      have hall : ∀ ρ', Agree S ρ ρ' → rlV ρ' v = rlV ρ v ∧ WEq ρ' G B0 h n w' ∧ KeepEq ρ' h h w w' := by
        intro ρ' hA
        obtain ⟨x2, w2, hr2, hx2, hW2, hK2⟩ := H ρ' (hact ρ' hA) (hWh ρ' hA) (.inl rfl)
        rw [hr] at hr2
        cases hr2
        exact ⟨NextIs.inj hx2 hx1, hworld ρ' w' hA hW2 hK2⟩
      have hm : ∀ ρ', Agree (fun k => S k ∨ ∃ e ∈ pa, e.1 = i ∧ e.2.1 = k) ρ ρ' → Agree S ρ ρ' := fun ρ' hA => hA.mono fun k hk => .inl hk
      refine ⟨ρ, fun k => S k ∨ ∃ e ∈ pa, e.1 = i ∧ e.2.1 = k, _, w', stepC_opVal ho hw (.inr hnd) (by rw [hab]; exact hr) hx1, ?_⟩
      exact core_done hc hi ho hp hd (.refl _ _) (fun _ => Iff.rfl) (fun ρ' hA => (hall ρ' (hm ρ' hA)).1) (fun ρ' hA => (hall ρ' (hm ρ' hA)).2) (fun e he hei hge => absurd (hne e he hei) hge)
    · have hnS : ¬ S mi := hc.paP _ hent hnD
      have hA1 : Agree S ρ (ρ.put mi b c d) := fun k hk => by
        have : k ≠ mi := fun e => hnS (e ▸ hk)
        simp [Env.put, this]
      have hS1 : ∀ k, (S k ∨ k = mi) ↔ S k ∨ ∃ e ∈ pa, e.1 = i ∧ e.2.1 = k := fun k => by
        constructor
        · rintro (h | rfl)
          · exact .inl h
          · exact .inr ⟨_, hent, rfl, rfl⟩
        · rintro (h | ⟨e, he, hei, rfl⟩)
          · exact .inl h
          · have := hc.paI e he _ hent hei
            subst this
            exact .inr rfl
      have hmi : ∀ ρ', Agree (fun k => S k ∨ k = mi) (ρ.put mi b c d) ρ' → Agree S ρ ρ' ∧ ρ'.loc mi = b ∧ ρ'.cap mi = c ∧ ρ'.off mi = d := by
        intro ρ' hA'
        have := hA' mi (.inr rfl)
        simp only [Env.put, if_pos] at this
        exact ⟨hA1.trans hA' fun k hk => .inl hk, this⟩
      obtain ⟨q1, q2⟩ := hmi _ (.refl _ _)
      obtain ⟨x, w', hr, hx1, hW', hK⟩ := H _ (hact _ q1) (hWh _ q1) (.inr q2)
      have hall : ∀ ρ', Agree (fun k => S k ∨ k = mi) (ρ.put mi b c d) ρ' → rlV ρ' v = rlV (ρ.put mi b c d) v ∧ (WEq ρ' G B0 h n w' ∧ KeepEq ρ' h h w w') ∧ WEq ρ' G B0 h1 (mi + 1) w' ∧ KeepEq ρ' hh h1 w w' := by
        intro ρ' hA'
        obtain ⟨q1, q2⟩ := hmi ρ' hA'
        obtain ⟨x2, w2, hr2, hx2, hW2, hK2⟩ := H ρ' (hact ρ' q1) (hWh ρ' q1) (.inr q2)
        rw [hr] at hr2
        cases hr2
        exact ⟨NextIs.inj hx2 hx1, hworld ρ' w' q1 hW2 hK2, hW2, hK2⟩
      refine ⟨ρ.put mi b c d, fun k => S k ∨ k = mi, _, w', stepC_opVal ho hw (.inr hnd) (by rw [hab]; exact hr) hx1, ?_⟩
      refine core_done hc hi ho hp hd hA1 hS1 (fun ρ' hA => (hall ρ' hA).1) (fun ρ' hA => (hall ρ' hA).2.1) (fun e he hei hge ρ' hA' => ?_)
      have := hc.paI e he _ hent hei
      subst this
      obtain ⟨rfl, rfl⟩ := hob hge
      obtain ⟨_, _, hW2, hK2⟩ := hall ρ' hA'
      obtain ⟨p, hp1, hp2⟩ := hW2.obj mi hge
      refine ⟨?_, p, hp1, hp2⟩
      rcases Nat.lt_or_ge (ρ'.loc mi) w.heap.size with hlt | hge2
      · exact absurd rfl ((hK2.rest _ hlt fun k hk => absurd (TH.getO_e k) hk).2 mi hge)
      · exact hge2
end
end Go.Clo
namespace Go.Clo

section
variable {P : Program} {G : Tab} {B0 N : Nat} {s : Fra} {cs : List Frame} {ops : Array Oper} {Z : Beg} {D : Nat → Prop} {C : List Nat} {pa pa' : PA} {ρ : Env} {S : Nat → Prop} {tm tm' tm0 : TV} {fx : Fx} {h : TH} {n n' : Nat} {a : Array Value} {DS : List Deferred} {M : Option FrameMode} {w : World}
  {i : Nat} {o : Oper} {rest : List Nat} {k : List Item} {x : XOper} {nb : Nat}
theorem valK_elim {r : OR} {κ : Value → TH → Nat → Res} {R : Res} (h : valK r κ = R) (hn : NF R) : ∃ v h' n', r = .val v h' n' ∧ κ v h' n' = R := by
  cases r with
  | val v h' n' => exact ⟨v, h', n', rfl, h⟩
  | _ => exact absurd h.symm (hn _)
/-- the slots that the operations of C write stay -/
def Kept (ops : Array Oper) (C : List Nat) (tm tm' : TV) : Prop := ∀ t j p, ops[j]? = some p → p.dst = some t → j ∈ C → getV (Pa.of t) tm' = getV (Pa.of t) tm
theorem View.kept {tmi : TV} (hv : View ops tm0 tm o tmi) (hk : Kept ops C tm tm') (hp : ∀ j ∈ predsOf o, j ∈ C) : View ops tm0 tm' o tmi := fun t ht => by
  rcases hv t ht with ⟨⟨j, p, hj, hd, hjp⟩, he⟩ | hno
  · exact .inl ⟨⟨j, p, hj, hd, hjp⟩, by rw [he, hk t j p hj hd (hp j hjp)]⟩
  · exact .inr hno
theorem want_kept {g : Option (Pa × Bool)} (hI : OpInfo G N ops i o) (hg : XG ops N o g) (hk : Kept ops C tm tm') (hp : ∀ j ∈ predsOf o, j ∈ C) : wantX g tm' = wantX g tm := by
  rcases hg with ⟨_, rfl⟩ | ⟨j, want, p, d, h1, h2, h3, h4, rfl⟩
  · rfl
  · simp only [wantX, hk d j p h2 h3 (hp j (hI.guard j want h1))]
theorem PendQ.kept (hI : OpInfo G N ops i o) (ho : ops[i]? = some o) (hi : i ∈ C) (hq : PendQ G N ops tm0 tm pa i o) (hk : Kept ops C tm tm') (hp : ∀ j ∈ predsOf o, j ∈ C) (h1 : ∀ e ∈ pa, e.1 = i → e ∈ pa') (h2 : ∀ e ∈ pa', e.1 = i → e ∈ pa) : PendQ G N ops tm0 tm' pa' i o := by
  obtain ⟨g, hx, hg, hskip, hex⟩ := hq
  have hw := want_kept hI hg hk hp
  have hd : ∀ v, DstIs o tm v → DstIs o tm' v := fun v hv d hd => by rw [hk d i o ho hd hi]; exact hv d hd
  have hne : NoEnt pa i → NoEnt pa' i := fun hne e he hei => hne e (h2 e he hei) hei
  refine ⟨g, hx, hg, fun hq => ?_, fun hq hr => ?_⟩
  · obtain ⟨a1, a2⟩ := hskip (by rw [← hw]; exact hq)
    exact ⟨hd _ a1, hne a2⟩
  · obtain ⟨tmi, mi, v, h1', n1, a1, a2, a3, a4⟩ := hex (by rw [← hw]; exact hq) hr
    exact ⟨tmi, mi, v, h1', n1, a1.kept hk hp, a2, hd _ a3, a4.imp (fun q => ⟨q.1, hne q.2⟩) fun q => ⟨q.1, h1 _ q.2 rfl⟩⟩
theorem PendR.kept (hI : OpInfo G N ops i o) (ho : ops[i]? = some o) (hi : i ∈ C) (hq : PendR G N ops tm0 tm pa h nb i o) (hgd : ∀ g, xoper G N ops.toList o = ⟨xop G o, o.dst.map Pa.of, g⟩ → XG ops N o g) (hk : Kept ops C tm tm') (hp : ∀ j ∈ predsOf o, j ∈ C) (h1 : ∀ e ∈ pa, e.1 = i → e ∈ pa') :
    PendR G N ops tm0 tm' pa' h nb i o := by
  intro g hx hw hr
  rw [want_kept hI (hgd g hx) hk hp] at hw
  obtain ⟨tmi, mi, v, n1, a1, a2, a3, a4⟩ := hq g hx hw hr
  exact ⟨tmi, mi, v, n1, a1.kept hk hp, a2, fun d hd => by rw [hk d i o ho hd hi]; exact a3 d hd, a4.imp id fun q => ⟨q.1, q.2.1, h1 _ q.2.2 rfl⟩⟩
theorem xg_of (hI : OpInfo G N ops i o) {g : Option (Pa × Bool)} (hx : xoper G N ops.toList o = ⟨xop G o, o.dst.map Pa.of, g⟩) (hq : xop G o ≠ .bad) : XG ops N o g := by
  rcases xoper_good hI with hb | ⟨g', hg', hxg⟩
  · rw [hb] at hx
    simp only [XOper.mk.injEq] at hx
    exact absurd hx.1.symm hq
  · rw [hg'] at hx
    simp only [XOper.mk.injEq, true_and] at hx
    rw [← hx]; exact hxg
/-- an operation that looks alone is told of -/
theorem eval_step (TO : TabOK P G) (hI : ∀ i o, ops[i]? = some o → OpInfo G N ops i o) (hc : Core P G B0 N s cs ops Z D C pa ρ S tm fx h n a DS M w) (hQ : QItem G N ops (i, x)) (hi : i ∉ C) (hp : ∀ o, ops[i]? = some o → ∀ j ∈ predsOf o, j ∈ C) (hnb : nb ≤ n)
    {κ : DK} {R : Res} (hr : quietK G i x κ pa tm h n fx = R) (hn : NF R) : ∃ pa' tm' n', κ pa' tm' h n' fx = R ∧ n ≤ n' ∧ Core P G B0 N s cs ops Z D (i :: C) pa' ρ S tm' fx h n' a DS M w ∧ (∀ o, ops[i]? = some o → PendR G N ops Z.tm tm' pa' h nb i o) ∧
      (∀ j o, j ∈ C → ops[j]? = some o → PendR G N ops Z.tm tm pa h nb j o → PendR G N ops Z.tm tm' pa' h nb j o) := by
  obtain ⟨⟨o, ho, rfl⟩, hE⟩ := hQ
  have hII := hI i o ho
  replace hp := hp o ho
  have hnD : ¬ D i := fun q => hi (hc.dc i q)
  rcases xoper_good hII with hb | ⟨g, hx, hg⟩
  · rw [hb] at hE; cases hE
  rw [hx] at hr hE
  -- what comes of it
  have hex : ∃ pa' v n', κ pa' (putT (o.dst.map Pa.of) tm v) h n' fx = R ∧ ((n' = n ∧ pa' = pa) ∨ (n' = n + 1 ∧ ∃ ob, pa' = (i, n, ob) :: pa)) ∧ (wantX g tm = false → v = undefV ∧ n' = n) ∧
      (wantX g tm = true → isR (xop G o) = false → ∃ h1, execX G (xop G o) tm .e n = .val v h1 n' ∧ (n' = n + 1 → (i, n, h1.getO n) ∈ pa')) ∧
      (wantX g tm = true → isR (xop G o) = true → execX G (xop G o) tm h n = .val v h n' ∧ (n' = n + 1 → (i, n, .gone) ∈ pa')) := by
    replace hr : wantK g tm (setD (o.dst.map Pa.of) tm undefV fun tm => κ pa tm h n fx)
      (ifB (isR (xop G o)) (valK (execX G (xop G o) tm h n) fun v _ n1 => ifB (Nat.beq n1 n) (setD (o.dst.map Pa.of) tm v fun tm => κ pa tm h n fx) (setD (o.dst.map Pa.of) tm v fun tm => κ ((i, n, .gone) :: pa) tm h n1 fx))
      (valK (execX G (xop G o) tm .e n) fun v h1 n1 => ifB (Nat.beq n1 n) (setD (o.dst.map Pa.of) tm v fun tm => κ pa tm h n fx)
        (h1.getK n fun ob => setD (o.dst.map Pa.of) tm v fun tm => κ ((i, n, ob) :: pa) tm h n1 fx))) = R := hr
    rw [wantK_eq] at hr
    have cnt : ∀ {hh : TH} {v : Value} {h1 : TH} {n1 : Nat}, execX G (xop G o) tm hh n = .val v h1 n1 → n1 = n ∨ n1 = n + 1 := fun hrun => by
      have := exec_val (P := P) (B0 := 0) (a := a) (w := w) TO (Nat.zero_le _) hII.pl hrun
      have h1 := this.1
      have h2 := this.2.1
      omega
    cases hw : wantX g tm with
    | false =>
      rw [hw, if_neg (by simp), setD_eq] at hr
      exact ⟨pa, undefV, n, hr, .inl ⟨rfl, rfl⟩, fun _ => ⟨rfl, rfl⟩, nofun, nofun⟩
    | true =>
      rw [hw, if_pos rfl] at hr
      cases hR : isR (xop G o) with
      | true =>
        rw [hR] at hr
        obtain ⟨v, h1, n1, hrun, hr⟩ := valK_elim hr hn
        have hh := r_new hR hrun
        subst hh
        rw [ifB_eq] at hr
        cases hb : Nat.beq n1 n with
        | true =>
          have e := Nat.eq_of_beq_eq_true hb
          subst e
          rw [hb, if_pos rfl, setD_eq] at hr
          exact ⟨pa, v, n1, hr, .inl ⟨rfl, rfl⟩, nofun, fun _ => nofun, fun _ _ => ⟨hrun, (fun q => by omega)⟩⟩
        | false =>
          rw [hb, if_neg (by simp), setD_eq] at hr
          have e : n1 = n + 1 := (cnt hrun).resolve_left (Nat.ne_of_beq_eq_false hb)
          exact ⟨_, v, n1, hr, .inr ⟨e, _, rfl⟩, nofun, fun _ => nofun, fun _ _ => ⟨hrun, fun _ => List.mem_cons_self⟩⟩
      | false =>
        rw [hR] at hr
        obtain ⟨v, h1, n1, hrun, hr⟩ := valK_elim hr hn
        rw [ifB_eq] at hr
        cases hb : Nat.beq n1 n with
        | true =>
          have e := Nat.eq_of_beq_eq_true hb
          subst e
          rw [hb, if_pos rfl, setD_eq] at hr
          exact ⟨pa, v, n1, hr, .inl ⟨rfl, rfl⟩, nofun, fun _ _ => ⟨h1, hrun, (fun q => by omega)⟩, fun _ => nofun⟩
        | false =>
          rw [hb, if_neg (by simp), TH.getK_eq, setD_eq] at hr
          have e : n1 = n + 1 := (cnt hrun).resolve_left (Nat.ne_of_beq_eq_false hb)
          exact ⟨_, v, n1, hr, .inr ⟨e, _, rfl⟩, nofun, fun _ _ => ⟨h1, hrun, fun _ => List.mem_cons_self⟩, fun _ => nofun⟩
  obtain ⟨pa', v, n', hκ, hpa, hskip, hQ', hR'⟩ := hex
  have hnn : n ≤ n' := by rcases hpa with ⟨e, _⟩ | ⟨e, _⟩ <;> omega
  have hget : ∀ t, o.dst ≠ some t → getV (Pa.of t) (putT (o.dst.map Pa.of) tm v) = getV (Pa.of t) tm := fun t ht => by
    cases hd : o.dst with
    | none => rfl
    | some d =>
      have : d ≠ t := fun e => ht (by rw [hd, e])
      simp only [putT, Option.map_some, getV_setT]
      rw [if_neg fun e => this (Pa.of_inj e)]
  have hkept : Kept ops C tm (putT (o.dst.map Pa.of) tm v) := fun t j p hj hd hjC => hget t fun hdo => by
    have := hII.uniq t hdo j p hj hd
    subst this
    exact hi hjC
  have hdst : DstIs o (putT (o.dst.map Pa.of) tm v) v := fun d hd => by simp [putT, hd, getV_setT]
  have hsubpa : ∀ e ∈ pa, e ∈ pa' := fun e he => by
    rcases hpa with ⟨_, rfl⟩ | ⟨_, ob, rfl⟩
    · exact he
    · exact List.mem_cons_of_mem _ he
  have hnewpa : ∀ e ∈ pa', e ∈ pa ∨ (n' = n + 1 ∧ ∃ ob, e = (i, n, ob)) := fun e he => by
    rcases hpa with ⟨_, rfl⟩ | ⟨hn', ob, rfl⟩
    · exact .inl he
    · rcases List.mem_cons.1 he with rfl | he
      · exact .inr ⟨hn', ob, rfl⟩
      · exact .inl he
  have hview : View ops Z.tm (putT (o.dst.map Pa.of) tm v) o tm := fun t ht => by
    by_cases hex : ∃ j p, ops[j]? = some p ∧ p.dst = some t ∧ j ∈ predsOf o
    · obtain ⟨j, p, hj, hd, hjp⟩ := hex
      exact .inl ⟨⟨j, p, hj, hd, hjp⟩, (hkept t j p hj hd (hp j hjp)).symm⟩
    · refine .inr ⟨fun j p hj hd hjp => hex ⟨j, p, hj, hd, hjp⟩, hc.tmZ t fun j p hj hd hjC => ?_⟩
      rcases hII.own t ht j p hj hd with hjp | rfl | hanc
      · exact hex ⟨j, p, hj, hd, hjp⟩
      · exact hi hjC
      · exact hi (ancL_all (D := fun k => k ∈ C) hc.ccl j _ (fun y hy => hc.ccl j p hjC hj y hy) i hanc)
  have hnoent : n' = n → NoEnt pa' i := fun e f hf hfi => by
    rcases hnewpa f hf with hf | ⟨q, _⟩
    · exact hi (hfi ▸ hc.paC f hf)
    · omega
  have hgk := fun (q : wantX g (putT (o.dst.map Pa.of) tm v) = wantX g tm) => q
  have hw := hgk (by
    rcases hg with ⟨_, rfl⟩ | ⟨j, want, p, d, h1, h2, h3, h4, rfl⟩
    · rfl
    · simp only [wantX, hkept d j p h2 h3 (hp j (hII.guard j want h1))])
  refine ⟨pa', _, n', hκ, hnn, ?_, ?_, ?_⟩
  · refine ⟨⟨fun k hk => Nat.lt_of_lt_of_le (hc.st.lt k hk) hnn, fun ρ' hA => ?_, hc.st.base, hc.st.kind, hc.st.nor, hc.st.fn, hc.st.fnG⟩, hc.act0, hc.agr, hc.rd, Nat.le_trans hc.n0 hnn, fun j hj => List.mem_cons_of_mem _ (hc.dc j hj), fun j hj => ?_, hc.dcl, fun j p hj hpj y hy => ?_, fun j p hj hpj hEj => ?_, fun j p hj hnj hpj => ?_,
      fun e he => ?_, fun e he => ?_, fun e he f hf hef => ?_, fun e he f hf hef => ?_, fun e he hge => ?_, fun e he p hpe hr => ?_, fun e he hne => ?_, fun e he hDe hge ρ' hA => ?_, fun e he f hf hDe hDf hge hgf hne ρ' hA => ?_, fun k => ?_, hc.keep, fun t ht => ?_, ?_⟩
    · obtain ⟨h1, h2, h3⟩ := hc.st.all ρ' hA
      refine ⟨⟨h1.1, fun t ht hT => ?_⟩, h2.count fun k hk => Nat.lt_of_lt_of_le (h2.lt k hk) hnn, h3⟩
      rw [hget t fun hd => hnD (hT i o ho hd List.mem_cons_self)]
      exact h1.2 t ht fun j p hj hd hjC => hT j p hj hd (List.mem_cons_of_mem _ hjC)
    · rcases List.mem_cons.1 hj with rfl | hj
      · exact ⟨o, ho⟩
      · exact hc.ex j hj
    · rcases List.mem_cons.1 hj with rfl | hj
      · rw [ho] at hpj; cases hpj
        exact List.mem_cons_of_mem _ (hp y hy)
      · exact List.mem_cons_of_mem _ (hc.ccl j p hj hpj y hy)
    · rcases List.mem_cons.1 hj with rfl | hj
      · rw [ho] at hpj; cases hpj
        rw [hx] at hEj
        rw [hEj] at hE; cases hE
      · exact hc.cE j p hj hpj hEj
    · rcases List.mem_cons.1 hj with rfl | hj
      · rw [ho] at hpj; cases hpj
        refine ⟨g, hx, hg, fun hq => ?_, fun hq hr => ?_⟩
        · rw [hw] at hq
          obtain ⟨rfl, e⟩ := hskip hq
          exact ⟨hdst, hnoent e⟩
        · rw [hw] at hq
          obtain ⟨h1, hrun, hent⟩ := hQ' hq hr
          refine ⟨tm, n, v, h1, n', hview, hrun, hdst, ?_⟩
          rcases hpa with ⟨e, _⟩ | ⟨e, _⟩
          · exact .inl ⟨e, hnoent e⟩
          · exact .inr ⟨e, hent e⟩
      · have hji : j ≠ i := fun e => hi (e ▸ hj)
        refine (hc.pend j p hj hnj hpj).kept (hI j p hpj) hpj hj hkept (hc.ccl j p hj hpj) (fun e he _ => hsubpa e he) fun e he hej => ?_
        rcases hnewpa e he with he | ⟨_, ob, rfl⟩
        · exact he
        · exact absurd hej.symm hji
    · rcases hnewpa e he with he | ⟨_, ob, rfl⟩
      · exact List.mem_cons_of_mem _ (hc.paC e he)
      · exact List.mem_cons_self
    · rcases hnewpa e he with he | ⟨hn', ob, rfl⟩
      · have := hc.paN e he; exact ⟨this.1, by omega⟩
      · exact ⟨hc.n0, by show n < n'; omega⟩
    · rcases hpa with ⟨_, rfl⟩ | ⟨_, ob, rfl⟩
      · exact hc.paI e he f hf hef
      · rcases List.mem_cons.1 he with rfl | he <;> rcases List.mem_cons.1 hf with rfl | hf
        · rfl
        · have h1 := hc.paC f hf
          rw [← hef] at h1
          exact absurd h1 hi
        · have h1 := hc.paC e he
          rw [hef] at h1
          exact absurd h1 hi
        · exact hc.paI e he f hf hef
    · rcases hpa with ⟨_, rfl⟩ | ⟨_, ob, rfl⟩
      · exact hc.paU e he f hf hef
      · rcases List.mem_cons.1 he with rfl | he <;> rcases List.mem_cons.1 hf with rfl | hf
        · rfl
        · have := (hc.paN f hf).2; simp only at hef; omega
        · have := (hc.paN e he).2; simp only at hef; omega
        · exact hc.paU e he f hf hef
    · rcases hnewpa e he with he | ⟨_, ob, rfl⟩
      · exact hc.paG e he hge
      · exact fun hl => Nat.lt_irrefl _ (hc.st.W.lt n hl)
    · by_cases heC : e.1 ∈ C
      · rcases hnewpa e he with he' | ⟨_, ob, rfl⟩
        · exact hc.paR e he' p hpe hr
        · exact absurd heC hi
      · rcases hnewpa e he with he' | ⟨hn', ob, rfl⟩
        · exact absurd (hc.paC e he') heC
        · rw [ho] at hpe; cases hpe
          cases hwx : wantX g tm with
          | false => have := (hskip hwx).2; omega
          | true =>
            have := (hR' hwx hr).2 hn'
            rcases hpa with ⟨e, _⟩ | ⟨_, ob', rfl⟩
            · omega
            · rcases List.mem_cons.1 this with h1 | h1
              · rcases List.mem_cons.1 he with h2 | h2
                · rw [h2]; cases h1; rfl
                · exact absurd (hc.paC _ h2) hi
              · exact absurd (hc.paC _ h1) hi
    · rcases hnewpa e he with he | ⟨_, ob, rfl⟩
      · exact hc.paP e he hne
      · exact fun hl => Nat.lt_irrefl _ (hc.st.lt n hl)
    · rcases hnewpa e he with he | ⟨_, ob, rfl⟩
      · exact hc.paD e he hDe hge ρ' hA
      · exact absurd hDe hnD
    · rcases hnewpa e he with he | ⟨_, ob, rfl⟩
      · rcases hnewpa f hf with hf | ⟨_, ob, rfl⟩
        · exact hc.paX e he f hf hDe hDf hge hgf hne ρ' hA
        · exact absurd hDf hnD
      · exact absurd hDe hnD
    · rw [hc.SS]
      constructor
      · rintro (h1 | ⟨h1, h2, h3⟩)
        · exact .inl h1
        · refine .inr ⟨h1, by omega, fun e he hne => ?_⟩
          rcases hnewpa e he with he | ⟨_, ob, rfl⟩
          · exact h3 e he hne
          · show n ≠ k; omega
      · rintro (h1 | ⟨h1, h2, h3⟩)
        · exact .inl h1
        · refine .inr ⟨h1, ?_, fun e he hne => h3 e (hsubpa e he) hne⟩
          rcases hpa with ⟨e, _⟩ | ⟨e, ob, rfl⟩
          · omega
          · have : n ≠ k := h3 (i, n, ob) List.mem_cons_self hnD
            omega
    · have hd : o.dst ≠ some t := fun hd => ht i o ho hd List.mem_cons_self
      rw [hget t hd]
      exact hc.tmZ t fun j p hj hdp hjC => ht j p hj hdp (List.mem_cons_of_mem _ hjC)
    · rcases hpa with ⟨_, rfl⟩ | ⟨_, ob, rfl⟩
      · exact hc.paNd
      · rw [List.map_cons, List.nodup_cons]
        refine ⟨fun hm => ?_, hc.paNd⟩
        obtain ⟨e, he, hei⟩ := List.mem_map.1 hm
        have h1 := hc.paC e he
        rw [hei] at h1
        exact hi h1
  · intro o' ho' g' hx' hq hr
    rw [ho] at ho'; cases ho'
    rw [hx] at hx'
    simp only [XOper.mk.injEq, true_and] at hx'
    subst hx'
    rw [hw] at hq
    obtain ⟨hrun, hent⟩ := hR' hq hr
    refine ⟨tm, n, v, n', hview, hrun, hdst, ?_⟩
    rcases hpa with ⟨e, _⟩ | ⟨e, _⟩
    · exact .inl e
    · exact .inr ⟨e, hnb, hent e⟩
  · intro j p hj hpj hq
    intro g' hx' hw' hr'
    refine hq.kept (hI j p hpj) hpj hj (fun g hx => xg_of (hI j p hpj) hx fun e => by rw [e] at hr'; cases hr') hkept (hc.ccl j p hj hpj) (fun e he _ => hsubpa e he) g' hx' hw' hr'
end
end Go.Clo
namespace Go.Clo

section
variable {P : Program} {G : Tab} {B0 N : Nat} {s : Fra} {cs : List Frame} {ops : Array Oper} {Z : Beg} {D : Nat → Prop} {C : List Nat} {pa pa' : PA} {ρ : Env} {S : Nat → Prop} {tm tm' tm0 : TV} {fx : Fx} {h : TH} {n n' : Nat} {a : Array Value} {DS : List Deferred} {M : Option FrameMode} {w : World}
  {i : Nat} {o : Oper} {rest : List Nat} {k : List Item} {x : XOper} {nb : Nat} {cf : CF} {yf : YF}
def Strict (ops : Array Oper) (o : Oper) : Prop := ∀ t, Operand.tmp t ∈ o.op.operands.toList → ∀ j p, ops[j]? = some p → p.dst = some t → j ∈ predsOf o
theorem recheck_step (hI : ∀ i o, ops[i]? = some o → OpInfo G N ops i o) (hit : ItemOK G N ops i x) (hR : isR x.op = true) {κ : NextK} {R : Res} (hr : recheckK G x κ tm h n fx = R) (hn : NF R) :
    κ tm h n fx = R ∧ ∀ {C : List Nat}, (∀ t, (∀ j (p : Oper), ops[j]? = some p → p.dst = some t → j ∉ C) → getV (Pa.of t) tm = getV (Pa.of t) Z.tm) → ∀ o, ops[i]? = some o → Strict ops o → PendR G N ops Z.tm tm pa h nb i o := by
  obtain ⟨o, ho, rfl⟩ := hit
  have hII := hI i o ho
  rcases xoper_good hII with hb | ⟨g, hx, hg⟩
  · rw [hb] at hR; cases hR
  rw [hx] at hr hR
  replace hr : wantK g tm (κ tm h n fx) (valK (execX G (xop G o) tm h n) fun v _ n1 => ifB (Nat.beq n1 n) (Option.rec (motive := fun _ => Res) (κ tm h n fx) (fun p => getK p tm fun u => ifB (eqV 50 v u) (κ tm h n fx) (.fail "a reading has changed")) (o.dst.map Pa.of)) (.fail "a reading that counts")) = R := hr
  rw [wantK_eq] at hr
  have pre : (wantX g tm = true → κ tm h n fx = R ∧ ∃ v, execX G (xop G o) tm h n = .val v h n ∧ DstIs o tm v) ∧ (wantX g tm = false → κ tm h n fx = R) := by
    refine ⟨fun hw => ?_, fun hw => ?_⟩
    · rw [hw, if_pos rfl] at hr
      obtain ⟨v, h1, n1, hrun, hr⟩ := valK_elim hr hn
      obtain ⟨hb, hr⟩ := ifB_elim hr (fun q => hn _ q.symm)
      have e := Nat.eq_of_beq_eq_true hb
      subst e
      have e2 := (r_val hR hrun).1
      subst e2
      cases hd : o.dst with
      | none => rw [hd] at hr; exact ⟨hr, v, hrun, fun d hq => by rw [hd] at hq; cases hq⟩
      | some d =>
        rw [hd] at hr
        replace hr : getK (Pa.of d) tm (fun u => ifB (eqV 50 v u) (κ tm h1 n1 fx) (.fail "a reading has changed")) = R := hr
        rw [getK_eq] at hr
        obtain ⟨hv, hr⟩ := ifB_elim hr (fun q => hn _ q.symm)
        exact ⟨hr, v, hrun, fun d' hq => by rw [hd] at hq; cases hq; exact (eqV_eq 50 _ _ hv).symm⟩
    · rw [hw, if_neg (by simp)] at hr
      exact hr
  refine ⟨?_, fun htmZ o' ho' hst g' hx' hw hr' => ?_⟩
  · cases hw : wantX g tm with
    | true => exact (pre.1 hw).1
    | false => exact pre.2 hw
  · rw [ho] at ho'; cases ho'
    rw [hx] at hx'
    simp only [XOper.mk.injEq, true_and] at hx'
    subst hx'
    obtain ⟨_, v, hrun, hd⟩ := pre.1 hw
    refine ⟨tm, n, v, n, fun t ht => ?_, hrun, hd, .inl rfl⟩
    by_cases hex : ∃ j : Nat, ∃ p : Oper, ops[j]? = some p ∧ p.dst = some t
    · obtain ⟨j, p, hj, hp⟩ := hex
      exact .inl ⟨⟨j, p, hj, hp, hst t ht j p hj hp⟩, rfl⟩
    · exact .inr ⟨fun (j : Nat) (p : Oper) hj hp _ => hex ⟨j, p, hj, hp⟩, htmZ t fun (j : Nat) (p : Oper) hj hp _ => hex ⟨j, p, hj, hp⟩⟩
theorem rechecks_step (hI : ∀ i o, ops[i]? = some o → OpInfo G N ops i o) (htmZ : ∀ t, (∀ j (p : Oper), ops[j]? = some p → p.dst = some t → j ∉ C) → getV (Pa.of t) tm = getV (Pa.of t) Z.tm) : ∀ {l : List (Nat × XOper)} {κ : NextK} {R : Res}, (∀ q ∈ l, ItemOK G N ops q.1 q.2 ∧ isR q.2.op = true) → rechecksK G l κ tm h n fx = R → NF R →
    κ tm h n fx = R ∧ ∀ q ∈ l, ∀ o, ops[q.1]? = some o → Strict ops o → PendR G N ops Z.tm tm pa h nb q.1 o
  | [], κ, R, _, hr, _ => ⟨hr, by simp⟩
  | q :: l, κ, R, hl, hr, hn => by
    replace hr : recheckK G q.2 (rechecksK G l κ) tm h n fx = R := hr
    obtain ⟨h1, h2⟩ := hl q List.mem_cons_self
    obtain ⟨hr, hq⟩ := recheck_step (Z := Z) (pa := pa) (nb := nb) hI h1 h2 hr hn
    obtain ⟨hr, hqs⟩ := rechecks_step hI htmZ (l := l) (fun q hq => hl q (List.mem_cons_of_mem _ hq)) hr hn
    refine ⟨hr, fun q' hq' => ?_⟩
    rcases List.mem_cons.1 hq' with rfl | hq'
    · exact hq htmZ
    · exact hqs q' hq'

/-! blocks laid -/
theorem adoptK_elim : ∀ {pa : PA} {i : Nat} {κ : PA → TH → Res} {h : TH} {R : Res}, adoptK i pa κ h = R → (κ pa h = R) ∨ ∃ l1 m ob l2, pa = l1 ++ (i, m, ob) :: l2 ∧ κ (l1 ++ l2) (h.setO m ob) = R
  | [], i, κ, h, R, hr => .inl hr
  | e :: pa, i, κ, h, R, hr => by
    replace hr : ifB (Nat.beq e.1 i) (h.set e.2.1 e.2.2 fun h => κ pa h) (adoptK i pa (fun r h => κ (e :: r) h) h) = R := hr
    rw [ifB_eq] at hr
    cases hb : Nat.beq e.1 i with
    | true =>
      rw [hb, if_pos rfl, TH.set_eq] at hr
      obtain ⟨j, m, ob⟩ := e
      have := Nat.eq_of_beq_eq_true hb
      simp only at this
      subst this
      exact .inr ⟨[], m, ob, pa, rfl, hr⟩
    | false =>
      rw [hb, if_neg (by simp)] at hr
      rcases adoptK_elim hr with hr2 | ⟨l1, m, ob, l2, hq, hr2⟩
      · exact .inl hr2
      · exact .inr ⟨e :: l1, m, ob, l2, by rw [hq]; rfl, hr2⟩
theorem weq_adopt {ρ : Env} {m : Nat} {ob : AO} (hW : WEq ρ G B0 h n w) (hm : m < n) (hob : ob ≠ .gone → B0 ≤ ρ.loc m ∧ (∃ p, w.heap[ρ.loc m]? = some p ∧ ObjEq ρ G m ob p) ∧ ∀ k, Live h k → ρ.loc k ≠ ρ.loc m) : WEq ρ G B0 (h.setO m ob) n w := by
  by_cases hg : ob = .gone
  · subst hg; exact hW.drop m
  · obtain ⟨h1, ⟨p, h2, h3⟩, h4⟩ := hob hg
    have hl : ∀ j, Live (h.setO m ob) j → j = m ∨ (j ≠ m ∧ Live h j) := fun j hj => by
      by_cases e : j = m
      · exact .inl e
      · unfold Live at hj; rw [TH.getO_setO_ne h _ e] at hj; exact .inr ⟨e, hj⟩
    refine ⟨fun j hj => ?_, fun j hj => ?_, fun j hj => ?_, fun j j' hj hj' e => ?_⟩
    · rcases hl j hj with rfl | ⟨_, hj⟩
      · exact hm
      · exact hW.lt j hj
    · rcases hl j hj with rfl | ⟨_, hj⟩
      · exact h1
      · exact hW.base j hj
    · rcases hl j hj with rfl | ⟨hne, hj⟩
      · exact ⟨p, h2, by rw [TH.getO_setO_self]; exact h3⟩
      · rw [TH.getO_setO_ne h _ hne]; exact hW.obj j hj
    · rcases hl j hj with rfl | ⟨_, h5⟩ <;> rcases hl j' hj' with rfl | ⟨_, h6⟩
      · rfl
      · exact absurd e.symm (h4 j' h6)
      · exact absurd e (h4 j h5)
      · exact hW.inj j j' h5 h6 e
theorem adopt_step (hc : Core P G B0 N s cs ops Z D C pa ρ S tm fx h n a DS M w) (hB : B0 ≤ Z.w.heap.size) (hD : i ∈ C → D i) {κ : PA → TH → Res} {R : Res} (hr : adoptK i pa κ h = R) : ∃ pa' h', κ pa' h' = R ∧ Core P G B0 N s cs ops Z D C pa' ρ S tm fx h' n a DS M w := by
  rcases adoptK_elim hr with hr2 | ⟨l1, m, ob, l2, hq, hr2⟩
  · exact ⟨pa, h, hr2, hc⟩
  · clear hr
    subst hq
    have hr := hr2
    clear hr2
    have hni : ∀ e, e ∈ l1 ++ l2 → e.1 ≠ i := fun e he hei => by
      have hnd := hc.paNd
      rw [List.map_append, List.map_cons, List.nodup_append] at hnd
      obtain ⟨_, hnd2, hnd3⟩ := hnd
      rw [List.nodup_cons] at hnd2
      rcases List.mem_append.1 he with he | he
      · exact hnd3 e.1 (List.mem_map.2 ⟨e, he, rfl⟩) i List.mem_cons_self hei
      · exact hnd2.1 (List.mem_map.2 ⟨e, he, hei⟩)
    have hmem : ∀ e, e ∈ l1 ++ l2 → e ∈ l1 ++ (i, m, ob) :: l2 := fun e he => by
      rcases List.mem_append.1 he with he | he
      · exact List.mem_append_left _ he
      · exact List.mem_append_right _ (List.mem_cons_of_mem _ he)
    have hent : (i, m, ob) ∈ l1 ++ (i, m, ob) :: l2 := List.mem_append_right _ List.mem_cons_self
    have hback : ∀ e, e ∈ l1 ++ (i, m, ob) :: l2 → e.1 ≠ i → e ∈ l1 ++ l2 := fun e he hne => by
      rcases List.mem_append.1 he with he | he
      · exact List.mem_append_left _ he
      · rcases List.mem_cons.1 he with rfl | he
        · exact absurd rfl hne
        · exact List.mem_append_right _ he
    replace hD : D i := hD (hc.paC _ hent)
    -- an entry that is left has another number, unless it is the same entry twice
    have hgn : ∀ e, e ∈ l1 ++ (i, m, ob) :: l2 → e.2.1 = m → e = (i, m, ob) := fun e he hem => hc.paU e he _ hent hem
    refine ⟨l1 ++ l2, h.setO m ob, hr, ?_⟩
    have hW : ∀ ρ', Agree S ρ ρ' → WEq ρ' G B0 (h.setO m ob) n w := fun ρ' hA => by
      refine weq_adopt (hc.st.all ρ' hA).2.1 (hc.paN _ hent).2 fun hg => ?_
      obtain ⟨q1, q2, q3⟩ := hc.paD _ hent hD hg ρ' hA
      exact ⟨Nat.le_trans hB q1, q2, q3⟩
    have hl : ∀ j, Live (h.setO m ob) j → (j = m ∧ ob ≠ .gone) ∨ Live h j := fun j hj => by
      by_cases e : j = m
      · subst e
        unfold Live at hj; rw [TH.getO_setO_self] at hj
        exact .inl ⟨rfl, hj⟩
      · unfold Live at hj; rw [TH.getO_setO_ne h _ e] at hj; exact .inr hj
    refine ⟨⟨hc.st.lt, fun ρ' hA => ?_, hc.st.base, hc.st.kind, hc.st.nor, hc.st.fn, hc.st.fnG⟩, hc.act0, hc.agr, hc.rd, hc.n0, hc.dc, hc.ex, hc.dcl, hc.ccl, hc.cE, fun j p hj hnj hpj => ?_, fun e he => hc.paC e (hmem e he), fun e he => hc.paN e (hmem e he), fun e he f hf => hc.paI e (hmem e he) f (hmem f hf), fun e he f hf => hc.paU e (hmem e he) f (hmem f hf),
      fun e he hge hle => ?_, fun e he => hc.paR e (hmem e he), fun e he => hc.paP e (hmem e he), fun e he hDe hge ρ' hA => ?_, fun e he f hf => hc.paX e (hmem e he) f (hmem f hf), fun k => ?_, fun ρ' hA => ?_, hc.tmZ, ?_⟩
    · obtain ⟨h1, _, h3⟩ := hc.st.all ρ' hA
      exact ⟨h1, hW ρ' hA, h3⟩
    · obtain ⟨g, hx, hg, hskip, hex⟩ := hc.pend j p hj hnj hpj
      have hji : j ≠ i := fun e => hnj (e ▸ hD)
      refine ⟨g, hx, hg, fun hw => ⟨(hskip hw).1, fun e he => (hskip hw).2 e (hmem e he)⟩, fun hw hr => ?_⟩
      obtain ⟨tmi, mi, v, h1, n1, a1, a2, a3, a4⟩ := hex hw hr
      exact ⟨tmi, mi, v, h1, n1, a1, a2, a3, a4.imp (fun q => ⟨q.1, fun e he => q.2 e (hmem e he)⟩) fun q => ⟨q.1, hback _ q.2 hji⟩⟩
    · rcases hl _ hle with ⟨hem, hg⟩ | hle
      · have := hgn e (hmem e he) hem
        exact hni e he (by rw [this])
      · exact hc.paG e (hmem e he) hge hle
    · obtain ⟨q1, q2, q3⟩ := hc.paD e (hmem e he) hDe hge ρ' hA
      refine ⟨q1, q2, fun k hk => ?_⟩
      rcases hl k hk with ⟨rfl, hg⟩ | hk
      · exact hc.paX _ hent e (hmem e he) hD hDe hg hge (fun q => hni e he (by rw [← q])) ρ' hA
      · exact q3 k hk
    · rw [hc.SS]
      constructor
      · rintro (h1 | ⟨h1, h2, h3⟩)
        · exact .inl h1
        · exact .inr ⟨h1, h2, fun e he => h3 e (hmem e he)⟩
      · rintro (h1 | ⟨h1, h2, h3⟩)
        · exact .inl h1
        · refine .inr ⟨h1, h2, fun e he hne => h3 e (hback e he fun q => hne (q ▸ hD)) hne⟩
    · have hK := hc.keep ρ' hA
      refine ⟨hK.size, hK.os, hK.out, hK.tape, fun b hb hu => ?_⟩
      obtain ⟨q1, q2⟩ := hK.rest b hb hu
      refine ⟨q1, fun k hk => ?_⟩
      rcases hl k hk with ⟨rfl, hg⟩ | hk
      · have := (hc.paD _ hent hD hg ρ' hA).1
        show ρ'.loc k ≠ b
        simp only at this
        omega
      · exact q2 k hk
    · have hnd := hc.paNd
      rw [List.map_append, List.map_cons, List.nodup_append, List.nodup_cons] at hnd
      rw [List.map_append, List.nodup_append]
      exact ⟨hnd.1, hnd.2.1.2, fun x hx y hy => hnd.2.2 x hx y (List.mem_cons_of_mem _ hy)⟩
end
end Go.Clo
namespace Go.Clo

section
variable {P : Program} {G : Tab} {B0 N : Nat} {s : Fra} {cs : List Frame} {ops : Array Oper} {Z : Beg} {D : Nat → Prop} {C : List Nat} {pa pa' : PA} {ρ : Env} {S : Nat → Prop} {tm tm' tm0 : TV} {fx : Fx} {h : TH} {n n' : Nat} {a : Array Value} {DS : List Deferred} {M : Option FrameMode} {w : World}
  {i : Nat} {o : Oper} {rest : List Nat} {k : List Item} {x : XOper} {nb : Nat} {cf : CF} {yf : YF}
def PanQ (ds : List Deferred) (r : CRes) : Prop := ∀ v h n, r = .panic v h n → ds = []
theorem guardC_ok (hcf : CFok P G B0 cf) (ds : List Deferred) : CFokQ (PanQ ds) P G B0 (guardC cf ds) := by
  intro f args up h n κ R hr hn
  obtain ⟨hE, r, u, hr, hs⟩ := hcf f args up h n _ R hr hn
  refine ⟨hE, r, u, ?_, hs, fun v h' n' hq => ?_⟩
  · cases r with
    | panic v h' n' =>
      cases ds with
      | nil => exact hr
      | cons d ds => exact absurd hr.symm (hn _)
    | ret v h' n' => exact hr
    | fail why => exact hr
  · subst hq
    cases ds with
    | nil => rfl
    | cons d ds => exact absurd hr.symm (hn _)
theorem guardY_ok (hyf : YFok P G B0 yf) (ds : List Deferred) : YFokQ (PanQ ds) P G B0 (guardY yf ds) := by
  intro l args h n κ R hr hn
  obtain ⟨r, hr, hs⟩ := hyf l args h n _ R hr hn
  refine ⟨r, ?_, hs, fun v h' n' hq => ?_⟩
  · cases r with
    | panic v h' n' =>
      cases ds with
      | nil => exact hr
      | cons d ds => exact absurd hr.symm (hn _)
    | ret v h' n' => exact hr
    | fail why => exact hr
  · subst hq
    cases ds with
    | nil => rfl
    | cons d ds => exact absurd hr.symm (hn _)
theorem StT.grow {T S S' : Nat → Prop} (hS : StT T P G B0 N s cs ρ S tm fx h n a DS M w) (h1 : ∀ k, S k → S' k) (h2 : ∀ k, S' k → k < n) : StT T P G B0 N s cs ρ S' tm fx h n a DS M w :=
  ⟨h2, fun ρ' hA => hS.all ρ' (hA.mono h1), hS.base, hS.kind, hS.nor, hS.fn, hS.fnG⟩
theorem Core.sub (hc : Core P G B0 N s cs ops Z D C pa ρ S tm fx h n a DS M w) : ∀ k, S k → ext Z.S Z.n n k := fun k hk => by
  rcases (hc.SS k).1 hk with h1 | ⟨h1, h2, _⟩
  · exact .inl h1
  · exact .inr ⟨h1, h2⟩
theorem eff_step (TO : TabOK P G) (hcf : CFok P G B0 cf) (hyf : YFok P G B0 yf) (hI : ∀ i o, ops[i]? = some o → OpInfo G N ops i o) (hc : Core P G B0 N s cs ops Z D C pa ρ S tm fx h n a DS M w) (hZ : ∀ k, Z.S k → k < Z.n) (hit : ItemOK G N ops i x) (hi : i ∉ C) (ho : ops[i]? = some o) (hp : ∀ j ∈ predsOf o, D j)
    {κ : DK} {R : Res} (hr : effK cf yf G x κ pa tm h n fx = R) (hn : NF R) :
    (∃ tm1 h1 n1 fx1, κ pa tm1 h1 n1 fx1 = R ∧ ∃ ρ1 S1 a1 DS1 M1 w1, Steps P (lone (s.at a DS (.inRegion ops (i :: rest) :: k)) (withM M cs) w) (lone (s.at a1 DS1 (.inRegion ops rest :: k)) (withM M1 cs) w1) ∧ Core P G B0 N s cs ops Z (fun j => D j ∨ j = i) (i :: C) pa ρ1 S1 tm1 fx1 h1 n1 a1 DS1 M1 w1) ∨
    (∃ v tm1 fx1 h1 n1, R = .panic v tm1 fx1 h1 n1 ∧ ∃ T, EndsT T P G B0 N s cs (lone (s.at a DS (.inRegion ops (i :: rest) :: k)) (withM M cs) w) Z.ρ Z.S Z.fx Z.h Z.n Z.w tm1 fx1 h1 n1 (KPanic T s v (ext Z.S Z.n n1))) := by
  obtain ⟨o', ho', rfl⟩ := hit
  rw [ho] at ho'; cases ho'
  have hII := hI i o ho
  have hnD : ¬ D i := fun q => hi (hc.dc i q)
  have huw : ∀ {j p d}, ops[j]? = some p → p.dst = some d → D j → TD ops C D d := fun {j p d} hj hd hD j' p' hj' hd' _ => by
    have := (hI j p hj).uniq d hd j' p' hj' hd'
    rw [this]; exact hD
  have hsz : a.size = N := hc.st.A.1
  have hpl : ∀ t, Operand.tmp t ∈ o.op.operands.toList → t < N := fun t ht => by
    have := plainXs_all hII.pl _ ht
    simpa [plainX] using this
  have hTO : ∀ t, Operand.tmp t ∈ o.op.operands.toList → TD ops C D t := fun t ht j p hj hd hjC => by
    rcases hII.own t ht j p hj hd with hjp | rfl | hanc
    · exact hp j hjp
    · exact absurd hjC hi
    · exact absurd (ancL_all (D := fun k => k ∈ C) hc.ccl j _ (fun y hy => hc.ccl j p hjC hj y hy) i hanc) hi
  obtain ⟨tm', a', e1, e2, e3⟩ := reset_ex (fun t => Operand.tmp t ∈ o.op.operands.toList) N tm a hsz
  have hshow : Shows P G N ρ S o a h n tm tm' a' := by
    refine ⟨fun ρ' hA => e3 ρ' fun t ht hO => (hc.st.all ρ' hA).1.2 t ht (hTO t hO), execOp_same hII fun t ht => e2 t (hpl t ht) ht, ?_⟩
    refine (exec_congr _ fun y hy => ?_).symm
    cases y with
    | const c => rfl
    | tmp q =>
      obtain ⟨t, ht, rfl⟩ := hII.xin _ hy q rfl
      exact e1 t (hpl t ht) ht
  have hone := op_one (k := k) (rest := rest) TO (guardC_ok hcf fx.ds) (guardY_ok hyf fx.ds) hc.st ho hshow (fun j want p d h1 h2 h3 => huw h2 h3 (hp j (hII.guard j want h1))) hr hn
  rcases hone with ⟨tm1, h1, n1, fx1, hr, ⟨v, rfl⟩, hE⟩ | ⟨v, tm1, fx1, h1, n1, rfl, ⟨rfl, hq⟩, hE⟩
  · refine .inl ⟨_, h1, n1, fx1, hr, ?_⟩
    obtain ⟨ρ1, a1, DS1, M1, w1, fr, hA, hn1, hrd, hS1, hK, ⟨⟨V, rfl⟩, rfl⟩, hs⟩ := hE
    refine ⟨ρ1, ext S n n1, _, DS1, M1, w1, hs, ?_⟩
    have hAll : ∀ ρ', Agree (ext S n n1) ρ1 ρ' → Agree S ρ ρ' := fun ρ' hA' => hA.trans hA' ext_sub
    have hget : ∀ t, o.dst ≠ some t → getV (Pa.of t) (putT (o.dst.map Pa.of) tm v) = getV (Pa.of t) tm := fun t ht => by
      cases hd : o.dst with
      | none => rfl
      | some d =>
        have : d ≠ t := fun e => ht (by rw [hd, e])
        simp only [putT, Option.map_some, getV_setT]
        rw [if_neg fun e => this (Pa.of_inj e)]
    have hkept : Kept ops C tm (putT (o.dst.map Pa.of) tm v) := fun t j p hj hd hjC => hget t fun hdo => by
      have := hII.uniq t hdo j p hj hd
      subst this
      exact hi hjC
    have hei : ∀ e ∈ pa, e.1 ≠ i := fun e he q => hi (q ▸ hc.paC e he)
    have hDe : ∀ e ∈ pa, (D e.1 ∨ e.1 = i) → D e.1 := fun e he q => q.resolve_right (hei e he)
    have hstay : ∀ e ∈ pa, D e.1 → e.2.2 ≠ .gone → ∀ ρ', Agree (ext S n n1) ρ1 ρ' → (∃ p, w1.heap[ρ'.loc e.2.1]? = some p ∧ ObjEq ρ' G e.2.1 e.2.2 p) ∧ ∀ k, Live h1 k → ρ'.loc k ≠ ρ'.loc e.2.1 := by
      intro e he hD hg ρ' hA'
      obtain ⟨_, ⟨p, hp1, hp2⟩, hsep⟩ := hc.paD e he hD hg ρ' (hAll ρ' hA')
      have hlt : ρ'.loc e.2.1 < w.heap.size := (Array.getElem?_eq_some_iff.1 hp1).1
      obtain ⟨q1, q2⟩ := (hK ρ' hA').rest _ hlt hsep
      exact ⟨⟨p, by rw [q1]; exact hp1, hp2⟩, q2⟩
    refine ⟨(hS1.mono fun t hT => ?_), fun ρ' hA' => ?_, hc.agr.trans hA fun k hk => (hc.SS k).2 (.inl hk), hrd.trans hc.rd, Nat.le_trans hc.n0 hn1, fun j hj => ?_, fun j hj => ?_, fun j p hj hpj => ?_, fun j p hj hpj => ?_, fun j p hj hpj hEj => ?_,
      fun j p hj hnj hpj => ?_, fun e he => List.mem_cons_of_mem _ (hc.paC e he), fun e he => ⟨(hc.paN e he).1, Nat.lt_of_lt_of_le (hc.paN e he).2 hn1⟩, hc.paI, hc.paU, fun e he hge hle => ?_, hc.paR, fun e he hne hSe => ?_, fun e he hD hge ρ' hA' => ?_, fun e he f hf hD hDf hge hgf hne ρ' hA' => ?_,
      fun k => ?_, fun ρ' hA' => (hc.keep ρ' (hAll ρ' hA')).trans (hK ρ' hA'), fun t ht => ?_, hc.paNd⟩
    · by_cases hd : o.dst = some t
      · exact .inr hd
      · refine .inl fun j p hj hdp hjC => ?_
        rcases hT j p hj hdp (List.mem_cons_of_mem _ hjC) with q | rfl
        · exact q
        · exact absurd hjC hi
    · have h2 := hc.act0 ρ' (hAll ρ' hA')
      refine ⟨by rw [putA_size]; exact h2.1, fun t ht hT => ?_⟩
      rw [putA_ne fun hd => hT i o ho hd (.inr rfl)]
      exact h2.2 t ht fun j p hj hdp hDj => hT j p hj hdp (.inl hDj)
    · rcases hj with hj | rfl
      · exact List.mem_cons_of_mem _ (hc.dc j hj)
      · exact List.mem_cons_self
    · rcases List.mem_cons.1 hj with rfl | hj
      · exact ⟨o, ho⟩
      · exact hc.ex j hj
    · rcases hj with hj | rfl
      · exact fun y hy => .inl (hc.dcl j p hj hpj y hy)
      · rw [ho] at hpj; cases hpj
        exact fun y hy => .inl (hp y hy)
    · rcases List.mem_cons.1 hj with rfl | hj
      · rw [ho] at hpj; cases hpj
        exact fun y hy => List.mem_cons_of_mem _ (hc.dc y (hp y hy))
      · exact fun y hy => List.mem_cons_of_mem _ (hc.ccl j p hj hpj y hy)
    · rcases List.mem_cons.1 hj with rfl | hj
      · exact .inr rfl
      · exact .inl (hc.cE j p hj hpj hEj)
    · rcases List.mem_cons.1 hj with rfl | hj
      · exact absurd (.inr rfl) hnj
      · exact (hc.pend j p hj (fun q => hnj (.inl q)) hpj).kept (hI j p hpj) hpj hj hkept (hc.ccl j p hj hpj) (fun e he _ => he) (fun e he _ => he)
    · by_cases hD : D e.1
      · exact (hstay e he hD hge ρ1 (.refl _ _)).2 _ hle rfl
      · -- a block that is not laid yet: any place might be its place
        have hnS : ¬ ext S n n1 e.2.1 := fun q => by
          rcases q with q | q
          · exact hc.paP e he hD q
          · have := (hc.paN e he).2; omega
        have hA' : Agree (ext S n n1) ρ1 (ρ1.put e.2.1 w1.heap.size 0 0) := fun k hk => by
          have : k ≠ e.2.1 := fun q => hnS (q ▸ hk)
          simp [Env.put, this]
        obtain ⟨p, hp1, _⟩ := (hS1.all _ hA').2.1.obj e.2.1 hle
        have hlt := (Array.getElem?_eq_some_iff.1 hp1).1
        simp [Env.put] at hlt
    · rcases hSe with hSe | hSe
      · exact hc.paP e he (fun q => hne (.inl q)) hSe
      · have := (hc.paN e he).2; omega
    · have hDD := hDe e he hD
      obtain ⟨q1, q2⟩ := hstay e he hDD hge ρ' hA'
      exact ⟨(hc.paD e he hDD hge ρ' (hAll ρ' hA')).1, q1, q2⟩
    · exact hc.paX e he f hf (hDe e he hD) (hDe f hf hDf) hge hgf hne ρ' (hAll ρ' hA')
    · show (S k ∨ (n ≤ k ∧ k < n1)) ↔ _
      rw [hc.SS]
      constructor
      · rintro ((h2 | ⟨h2, h3, h4⟩) | h2)
        · exact .inl h2
        · exact .inr ⟨h2, by omega, fun e he hne => h4 e he fun q => hne (.inl q)⟩
        · refine .inr ⟨Nat.le_trans hc.n0 h2.1, h2.2, fun e he _ => ?_⟩
          have := (hc.paN e he).2; omega
      · rintro (h2 | ⟨h2, h3, h4⟩)
        · exact .inl (.inl h2)
        · by_cases hk : k < n
          · exact .inl (.inr ⟨h2, hk, fun e he hne => h4 e he fun q => hne (hDe e he q)⟩)
          · exact .inr ⟨by omega, h3⟩
    · have hd : o.dst ≠ some t := fun hd => ht i o ho hd List.mem_cons_self
      rw [hget t hd]
      exact hc.tmZ t fun j p hj hdp hjC => ht j p hj hdp (List.mem_cons_of_mem _ hjC)
  · refine .inr ⟨v, tm1, fx1, h1, n1, rfl, TD ops C D, ?_⟩
    obtain ⟨ρ1, a1, DS1, M1, w1, fr, hA, hn1, hrd, hS1, hK, ⟨k', V, hV, rfl⟩, hs⟩ := hE
    have hds : fx1.ds = [] := by
      rcases hq with ⟨h', n', hq⟩ | hq
      · exact hq v h' n' rfl
      · rw [hII.npan] at hq; cases hq
    have hsub : ∀ k, ext S n n1 k → ext Z.S Z.n n1 k := fun k hk => by
      rcases hk with hk | hk
      · rcases hc.sub k hk with q | q
        · exact .inl q
        · exact .inr ⟨q.1, by omega⟩
      · exact .inr ⟨Nat.le_trans hc.n0 hk.1, hk.2⟩
    have hDS : DS1 = [] := by
      have := (hS1.all ρ1 (.refl _ _)).2.2.1
      rw [hds] at this
      exact this
    refine ⟨ρ1, a1, DS1, M1, w1, _, hc.agr.trans hA fun k hk => (hc.SS k).2 (.inl hk), Nat.le_trans hc.n0 hn1, hrd.trans hc.rd, hS1.grow hsub (ext_lt hZ (Nat.le_trans hc.n0 hn1)), fun ρ' hA' => ?_, ⟨k', V, fun ρ' hA' => hV ρ' (hA'.mono hsub), .inr hDS, rfl⟩, hs⟩
    have h2 := hA'.mono hsub
    exact (hc.keep ρ' (hA.trans h2 ext_sub)).trans (hK ρ' h2)
end
end Go.Clo
namespace Go.Clo

/-- the same block, a map's entries in another order -/
def PermO (o p : AO) : Prop := o = p ∨ ∃ t es fs, o = .map t es ∧ p = .map t fs ∧ es.Perm fs
def PermH (h g : TH) : Prop := ∀ k, PermO (h.getO k) (g.getO k)
theorem PermO.refl (o : AO) : PermO o o := .inl rfl
theorem PermH.refl (h : TH) : PermH h h := fun _ => .refl _
theorem PermO.symm {o p : AO} (h : PermO o p) : PermO p o := by
  rcases h with rfl | ⟨t, es, fs, rfl, rfl, hp⟩
  · exact .refl _
  · exact .inr ⟨t, fs, es, rfl, rfl, hp.symm⟩
theorem PermH.symm {h g : TH} (hp : PermH h g) : PermH g h := fun k => (hp k).symm
theorem PermH.live {h g : TH} (hp : PermH h g) {k : Nat} (hk : Live g k) : Live h k := by
  unfold Live at hk ⊢
  rcases hp k with e | ⟨t, es, fs, e1, e2, _⟩
  · rw [e]; exact hk
  · rw [e1]; simp
theorem PermO.obj {ρ : Env} {G : Tab} {k : Nat} {o p : AO} {q : Obj} (h : PermO o p) (hO : ObjEq ρ G k o q) : ObjEq ρ G k p q := by
  rcases h with rfl | ⟨t, es, fs, rfl, rfl, hp⟩
  · exact hO
  · obtain ⟨E, cl, rfl, hB, h1, h2, h3⟩ := hO
    exact ⟨E, cl, rfl, hB, fun x hx => h1 x (hp.mem_iff.2 hx), ((hp.map (·.1)).nodup_iff).1 h2, h3.trans (hp.map fun x => (x.1, rlV ρ x.2))⟩
theorem PermH.weq {ρ : Env} {G : Tab} {B0 : Nat} {h g : TH} {n : Nat} {w : World} (hp : PermH h g) (hW : WEq ρ G B0 h n w) : WEq ρ G B0 g n w :=
  ⟨fun k hk => hW.lt k (hp.live hk), fun k hk => hW.base k (hp.live hk), fun k hk => let ⟨q, h1, h2⟩ := hW.obj k (hp.live hk); ⟨q, h1, (hp k).obj h2⟩, fun i j hi hj => hW.inj i j (hp.live hi) (hp.live hj)⟩
theorem PermH.keep {ρ : Env} {h0 h g : TH} {w0 w : World} (hp : PermH h g) (hK : KeepEq ρ h0 h w0 w) : KeepEq ρ h0 g w0 w :=
  ⟨hK.size, hK.os, hK.out, hK.tape, fun b hb hn => let ⟨h1, h2⟩ := hK.rest b hb hn; ⟨h1, fun k hk => h2 k (hp.live hk)⟩⟩
theorem rmE_perm {e : Value × Value} : ∀ {l m : List (Value × Value)}, rmE e l = some m → l.Perm (e :: m)
  | [], _, h => by cases h
  | x :: l, m, h => by
    simp only [rmE] at h
    cases hb : (bif eqV 20 e.1 x.1 then eqV 20 e.2 x.2 else false) with
    | true =>
      rw [hb] at h
      simp only [cond_true, Option.some.injEq] at h
      subst h
      obtain ⟨h1, h2⟩ := bif_and hb
      rw [show e = x from Prod.ext (eqV_eq 20 _ _ h1) (eqV_eq 20 _ _ h2)]
    | false =>
      rw [hb] at h
      simp only [cond_false] at h
      split at h
      · rename_i m' hm
        simp only [Option.some.injEq] at h
        subst h
        exact ((rmE_perm hm).cons x).trans (List.Perm.swap ..)
      · cases h
theorem permE_perm : ∀ {l m : List (Value × Value)}, permE l m = true → l.Perm m
  | [], [], _ => .refl _
  | [], _ :: _, h => by cases h
  | e :: l, m, h => by
    simp only [permE] at h
    split at h
    · rename_i m' hm
      exact ((permE_perm h).cons e).trans (rmE_perm hm).symm
    · cases h
theorem permO_perm {o p : AO} (h : permO o p = true) : PermO o p := by
  unfold permO at h
  split at h
  · obtain ⟨h1, h2⟩ := bif_and h
    rw [keyBeq_eq h1]
    exact .inr ⟨_, _, _, rfl, rfl, permE_perm h2⟩
  · cases h

section
variable {P : Program} {G : Tab} {B0 N : Nat} {s : Fra} {cs : List Frame} {ops : Array Oper} {Z : Beg} {D : Nat → Prop} {C : List Nat} {pa : PA} {ρ : Env} {S : Nat → Prop} {tm : TV} {fx : Fx} {h g : TH} {n : Nat} {a : Array Value} {DS : List Deferred} {M : Option FrameMode} {w : World}
  {cf : CF} {yf : YF}
theorem Core.perm (hc : Core P G B0 N s cs ops Z D C pa ρ S tm fx h n a DS M w) (hp : PermH h g) : Core P G B0 N s cs ops Z D C pa ρ S tm fx g n a DS M w := by
  have hst : StT (TD ops C D) P G B0 N s cs ρ S tm fx g n a DS M w := ⟨hc.st.lt, fun ρ' hA => let ⟨q1, q2, q3⟩ := hc.st.all ρ' hA; ⟨q1, hp.weq q2, q3⟩, hc.st.base, hc.st.kind, hc.st.nor, hc.st.fn, hc.st.fnG⟩
  exact { hc with
    st := hst
    paG := fun e he hg hl => hc.paG e he hg (hp.live hl)
    paD := fun e he hd hg ρ' hA => let ⟨q1, q2, q3⟩ := hc.paD e he hd hg ρ' hA; ⟨q1, q2, fun k hk => q3 k (hp.live hk)⟩
    keep := fun ρ' hA => hp.keep (hc.keep ρ' hA) }
/-- a map's entry laid, by the machine -/
theorem upd_run {kt : XE} {m k v : XO} {r : OR} (hr : oUpdate kt m k v tm h n = r) (hf : ∀ why, r ≠ .fail why) : ∃ b es es', evX tm m = .map (some (O + b)) ∧ h.getO b = .map kt es ∧ r = .val undefV (h.setO b (.map kt es')) n := by
  have hf' : ∀ why, OR.fail why ≠ r := fun why q => hf why q.symm
  unfold oUpdate at hr
  rw [evK_eq, evK_eq, evK_eq] at hr
  obtain ⟨hkk, hp, hr⟩ := keyOk_elim hr (hf' _)
  rcases mapK_elim hr (hf' _) with ⟨h1, h2⟩ | ⟨b, es, h1, h2, h3⟩
  · exact absurd h2 (hf' _)
  · replace h3 : findX es kt (evX tm k) 0 (OR.fail "update: key") (appK es [(evX tm k, evX tm v)] fun es => h.set b (.map kt es) fun h => .val undefV h n)
        (fun i _ => modK es i (evX tm k) (evX tm v) fun es => h.set b (.map kt es) fun h => .val undefV h n) = r := h3
    rcases findX_elim h3 (hf' _) with ⟨hno, h4⟩ | ⟨j, v0, hj, h4⟩
    · rw [appK_eq, TH.set_eq] at h4
      exact ⟨b, es, _, h1, h2, h4.symm⟩
    · rw [modK_eq, TH.set_eq] at h4
      exact ⟨b, es, _, h1, h2, h4.symm⟩
theorem effU_eq {kt : XE} {m k v : XO} (φ : DK) : effK cf yf G ⟨.mapUpdate kt m k v, none, none⟩ φ pa tm h n fx = stepL (guardC cf fx.ds) (guardY yf fx.ds) (oUpdate kt m k v tm h n) none tm fx h n (φ pa) := rfl
theorem eff_upd {kt : XE} {m k v : XO} {φ : DK} {R : Res} (hr : effK cf yf G ⟨.mapUpdate kt m k v, none, none⟩ φ pa tm h n fx = R) (hn : NF R) :
    ∃ b es es', evX tm m = .map (some (O + b)) ∧ h.getO b = .map kt es ∧ ∀ φ' : DK, effK cf yf G ⟨.mapUpdate kt m k v, none, none⟩ φ' pa tm h n fx = φ' pa tm (h.setO b (.map kt es')) n fx := by
  rw [effU_eq] at hr
  have hf : ∀ why, oUpdate kt m k v tm h n ≠ .fail why := fun why q => by
    rw [q] at hr
    exact hn why hr.symm
  obtain ⟨b, es, es', h1, h2, h3⟩ := upd_run rfl hf
  refine ⟨b, es, es', h1, h2, fun φ' => ?_⟩
  rw [effU_eq, h3]
  rfl
theorem recheck_any {x : XOper} {φ : NextK} {R : Res} (hr : recheckK G x φ tm h n fx = R) (hn : NF R) : ∀ φ' : NextK, recheckK G x φ' tm h n fx = φ' tm h n fx := by
  obtain ⟨op, dst, g⟩ := x
  have e : ∀ φ : NextK, recheckK G ⟨op, dst, g⟩ φ tm h n fx = wantK g tm (φ tm h n fx) (valK (execX G op tm h n) fun v _ n1 => ifB (Nat.beq n1 n) (Option.rec (motive := fun _ => Res) (φ tm h n fx) (fun p => getK p tm fun u => ifB (eqV 50 v u) (φ tm h n fx) (.fail "a reading has changed")) dst) (.fail "a reading that counts")) := fun _ => rfl
  intro φ'
  rw [e] at hr ⊢
  rw [wantK_eq] at hr ⊢
  cases hw : wantX g tm with
  | false => rfl
  | true =>
    rw [hw, if_pos rfl] at hr
    rw [if_pos rfl]
    obtain ⟨v, h1, n1, hrun, hr⟩ := valK_elim hr hn
    obtain ⟨hb, hr⟩ := ifB_elim hr (fun q => hn _ q.symm)
    rw [hrun]
    show ifB (Nat.beq n1 n) (Option.rec (motive := fun _ => Res) (φ' tm h n fx) (fun p => getK p tm fun u => ifB (eqV 50 v u) (φ' tm h n fx) (.fail "a reading has changed")) dst) (.fail "a reading that counts") = _
    rw [hb]
    cases dst with
    | none => rfl
    | some d =>
      replace hr : getK d tm (fun u => ifB (eqV 50 v u) (φ tm h n fx) (.fail "a reading has changed")) = R := hr
      rw [getK_eq] at hr
      obtain ⟨hv, hr⟩ := ifB_elim hr (fun q => hn _ q.symm)
      show getK d tm (fun u => ifB (eqV 50 v u) (φ' tm h n fx) (.fail "a reading has changed")) = _
      rw [getK_eq, hv]
      rfl
theorem rechecks_any : ∀ {l : List (Nat × XOper)} {φ : NextK} {R : Res}, rechecksK G l φ tm h n fx = R → NF R → ∀ φ' : NextK, rechecksK G l φ' tm h n fx = φ' tm h n fx
  | [], _, _, _, _, _ => rfl
  | q :: l, φ, R, hr, hn, φ' => by
    replace hr : recheckK G q.2 (rechecksK G l φ) tm h n fx = R := hr
    have h1 := recheck_any hr hn
    rw [h1] at hr
    show recheckK G q.2 (rechecksK G l φ') tm h n fx = _
    rw [h1]
    exact rechecks_any hr hn φ'
/-- what a pair tells -/
structure PairOK (cf : CF) (yf : YF) (G : Tab) (x y : XOper) (rs : List (Nat × XOper)) (pa : PA) (tm : TV) (fx : Fx) (h : TH) (n : Nat) (hA hB h12 h21 : TH) : Prop where
  a1 : ∀ φ : DK, effK cf yf G x φ pa tm h n fx = φ pa tm hA n fx
  a2 : ∀ φ : DK, effK cf yf G y φ pa tm hA n fx = φ pa tm h12 n fx
  b1 : ∀ φ : DK, effK cf yf G y φ pa tm h n fx = φ pa tm hB n fx
  b2 : ∀ φ : DK, effK cf yf G x φ pa tm hB n fx = φ pa tm h21 n fx
  ra : ∀ φ : NextK, rechecksK G rs φ tm hA n fx = φ tm hA n fx
  rb : ∀ φ : NextK, rechecksK G rs φ tm hB n fx = φ tm hB n fx
  r12 : ∀ φ : NextK, rechecksK G rs φ tm h12 n fx = φ tm h12 n fx
  perm : PermH h21 h12
theorem sameMap_elim {β : Type} {v w : Value} {no : β} {κ : Nat → β} {r : β} (h : sameMap v w no κ = r) (hn : no ≠ r) : ∃ b, v = .map (some (O + b)) ∧ w = .map (some (O + b)) ∧ κ b = r := by
  unfold sameMap at h
  split at h
  · obtain ⟨h1, h2⟩ := ifB_elim h hn
    have e := Nat.eq_of_beq_eq_true h1
    obtain ⟨k, hk, h3⟩ := ownK_elim h2 hn
    exact ⟨k, by rw [hk], by rw [← e, hk], h3⟩
  · exact absurd h hn
theorem pair_elim {x y : XOper} {rs : List (Nat × XOper)} {κ : DK} {R : Res} (hr : pairK cf yf G x y rs κ pa tm h n fx = R) (hn : NF R) :
    ∃ hA hB h12 h21, PairOK cf yf G x y rs pa tm fx h n hA hB h12 h21 ∧ κ pa tm h12 n fx = R := by
  unfold pairK at hr
  split at hr
  · rename_i kt m k v kt' m' k' v'
    unfold pairR at hr
    obtain ⟨b1, es1, fs1, e1, g1, a1⟩ := eff_upd hr hn
    rw [effR, a1] at hr
    have ra := rechecks_any hr hn
    rw [ra] at hr
    obtain ⟨b2, es2, fs2, e2, g2, a2⟩ := eff_upd hr hn
    rw [effR, a2] at hr
    have r12 := rechecks_any hr hn
    rw [r12] at hr
    obtain ⟨b3, es3, fs3, e3, g3, a3⟩ := eff_upd hr hn
    rw [effR, a3] at hr
    have rb := rechecks_any hr hn
    rw [rb] at hr
    obtain ⟨b4, es4, fs4, e4, g4, a4⟩ := eff_upd hr hn
    rw [effR, a4] at hr
    have r21 := rechecks_any hr hn
    rw [r21] at hr
    rw [evK_eq, evK_eq] at hr
    obtain ⟨b, q1, q2, hr⟩ := sameMap_elim hr fun q => hn _ q.symm
    rw [TH.getK_eq, TH.getK_eq] at hr
    obtain ⟨hperm, hfin⟩ := ifB_elim hr fun q => hn _ q.symm
    clear hr
    have i1 : b1 = b := by rw [e1] at q1; simp only [Value.map.injEq, Option.some.injEq] at q1; omega
    have i2 : b2 = b := by rw [e2] at q2; simp only [Value.map.injEq, Option.some.injEq] at q2; omega
    have i3 : b3 = b := by rw [e3] at q2; simp only [Value.map.injEq, Option.some.injEq] at q2; omega
    have i4 : b4 = b := by rw [e4] at q1; simp only [Value.map.injEq, Option.some.injEq] at q1; omega
    subst i1 i2 i3 i4
    refine ⟨_, _, _, _, ⟨a1, a2, a3, a4, ra, rb, r12, fun j => ?_⟩, hfin⟩
    by_cases hj : j = b4
    · subst hj; exact (permO_perm hperm).symm
    · rw [TH.getO_setO_ne _ _ hj, TH.getO_setO_ne _ _ hj, TH.getO_setO_ne _ _ hj, TH.getO_setO_ne _ _ hj]
      exact .refl _
  · exact absurd hr.symm (hn _)
end
end Go.Clo
namespace Go.Clo

section
variable {P : Program} {G : Tab} {B0 N : Nat} {s : Fra} {cs : List Frame} {ops : Array Oper} {Z : Beg} {D : Nat → Prop} {C : List Nat} {pa : PA} {ρ : Env} {S : Nat → Prop} {tm : TV} {fx : Fx} {h : TH} {n : Nat} {a : Array Value} {DS : List Deferred} {M : Option FrameMode} {w : World}
  {k : List Item} {nb : Nat} {cf : CF} {yf : YF}
def RestR (G : Tab) (N : Nat) (ops : Array Oper) (Z : Beg) (D : Nat → Prop) (C : List Nat) (pa : PA) (tm : TV) (h : TH) (nb : Nat) : Prop := ∀ i o, i ∈ C → ¬ D i → ops[i]? = some o → PendR G N ops Z.tm tm pa h nb i o
theorem adopts_step (hB : B0 ≤ Z.w.heap.size) : ∀ {l : List Nat} {pa : PA} {h : TH} {κ : DK} {R : Res}, (∀ i ∈ l, i ∈ C → D i) → Core P G B0 N s cs ops Z D C pa ρ S tm fx h n a DS M w → adoptsK l κ pa tm h n fx = R →
    ∃ pa' h', κ pa' tm h' n fx = R ∧ Core P G B0 N s cs ops Z D C pa' ρ S tm fx h' n a DS M w
  | [], pa, h, κ, R, _, hc, hr => ⟨pa, h, hr, hc⟩
  | i :: l, pa, h, κ, R, hl, hc, hr => by
    replace hr : adoptK i pa (fun pa h => adoptsK l κ pa tm h n fx) h = R := hr
    obtain ⟨pa1, h1, hr1, hc1⟩ := adopt_step hc hB (hl i List.mem_cons_self) hr
    exact adopts_step hB (fun j hj => hl j (List.mem_cons_of_mem _ hj)) hc1 hr1
theorem evals_step (TO : TabOK P G) (hI : ∀ i o, ops[i]? = some o → OpInfo G N ops i o) : ∀ {l : List (Nat × XOper)} {C C' : List Nat} {pa : PA} {tm : TV} {n : Nat} {κ : DK} {R : Res}, Core P G B0 N s cs ops Z D C pa ρ S tm fx h n a DS M w → (∀ q ∈ l, QItem G N ops q) →
    evC (ops.toList.map predsOf) ops.toList.length l C = some C' → RestR G N ops Z D C pa tm h nb → nb ≤ n → evalsK G l κ pa tm h n fx = R → NF R →
    ∃ pa' tm' n', κ pa' tm' h n' fx = R ∧ n ≤ n' ∧ Core P G B0 N s cs ops Z D C' pa' ρ S tm' fx h n' a DS M w ∧ RestR G N ops Z D C' pa' tm' h nb
  | [], C, C', pa, tm, n, κ, R, hc, _, hev, hrr, _, hr, _ => by
    simp only [evC, Option.some.injEq] at hev
    subst hev
    exact ⟨pa, tm, n, hr, Nat.le_refl _, hc, hrr⟩
  | q :: l, C, C', pa, tm, n, κ, R, hc, hl, hev, hrr, hnb, hr, hn => by
    simp only [evC] at hev
    cases hb : (!(memN C q.1) && Nat.blt q.1 ops.toList.length && allIn C (nthL (ops.toList.map predsOf) q.1)) with
    | false => rw [hb] at hev; cases hev
    | true =>
      rw [hb] at hev
      simp only [cond_true] at hev
      simp only [Bool.and_eq_true, Bool.not_eq_true'] at hb
      obtain ⟨⟨h1, h2⟩, h3⟩ := hb
      have hqC : q.1 ∉ C := fun hm => by rw [memN_iff.2 hm] at h1; cases h1
      replace hr : quietK G q.1 q.2 (evalsK G l κ) pa tm h n fx = R := hr
      obtain ⟨pa1, tm1, n1, hr1, hn1, hc1, hp1, hp2⟩ := eval_step TO hI hc (x := q.2) (i := q.1) (hl q List.mem_cons_self) hqC (fun o ho j hj => by rw [nthL_map (o := o) (by simpa using ho)] at h3; exact allIn_iff.1 h3 j hj) hnb hr hn
      have hrr1 : RestR G N ops Z D (q.1 :: C) pa1 tm1 h nb := fun i o hi hnD ho => by
        rcases List.mem_cons.1 hi with rfl | hi
        · exact hp1 o ho
        · exact hp2 i o hi ho (hrr i o hi hnD ho)
      obtain ⟨pa2, tm2, n2, hr2, hn2, hc2, hrr2⟩ := evals_step TO hI hc1 (fun q hq => hl q (List.mem_cons_of_mem _ hq)) hev hrr1 (Nat.le_trans hnb hn1) hr1 hn
      exact ⟨pa2, tm2, n2, hr2, Nat.le_trans hn1 hn2, hc2, hrr2⟩
theorem rest_mem {C : List Nat} {next : Option Nat} : ∀ {ps : List (List Nat)} {i0 : Nat}, restOK C next i0 ps = true → ∀ i, i < ps.length → i0 + i ∈ C ∨ next = some (i0 + i) ∨ ¬ ∀ j ∈ nthL ps i, j ∈ C
  | [], _, _ => by intro i hi; simp at hi
  | p :: ps, i0, h => by
    simp only [restOK] at h
    obtain ⟨h1, h2⟩ := bif_and h
    intro i hi
    cases i with
    | zero =>
      simp only [Bool.or_eq_true, Bool.not_eq_true'] at h1
      rcases h1 with (h1 | h1) | h1
      · exact .inl (memN_iff.1 h1)
      · cases next with
        | none => cases h1
        | some j => exact .inr (.inl (by rw [Nat.eq_of_beq_eq_true h1]; rfl))
      · refine .inr (.inr fun hall => ?_)
        have : allIn C p = true := allIn_iff.2 hall
        rw [this] at h1; cases h1
    | succ i =>
      have := rest_mem h2 i (by simpa using hi)
      rw [show i0 + (i + 1) = i0 + 1 + i by omega]
      exact this
theorem reads_mem {xs : List XOper} {A rs : List Nat} : ∀ {C : List Nat}, readsOK xs A rs C = true → ∀ i ∈ C, isRead xs i = true → i ∈ A ∨ i ∈ rs
  | [], _ => by simp
  | j :: C, h => by
    simp only [readsOK] at h
    intro i hi hr
    have more : readsOK xs A rs C = true := by
      cases hj : isRead xs j with
      | true => rw [hj] at h; exact (bif_and h).2
      | false => rw [hj] at h; exact h
    rcases List.mem_cons.1 hi with rfl | hi
    · rw [hr] at h
      have := (bif_and h).1
      simp only [Bool.or_eq_true] at this
      exact this.imp memN_iff.1 memN_iff.1
    · exact reads_mem more i hi hr
theorem strictOK_mem {ops : List Oper} {ps : List Nat} : ∀ {l : List Operand}, strictOK ops ps l = true → ∀ t, Operand.tmp t ∈ l → ∀ j, dstIdx t ops 0 = some j → j ∈ ps
  | [], _ => by simp
  | x :: l, h => by
    simp only [strictOK] at h
    obtain ⟨h1, h2⟩ := bif_and h
    intro t ht j hj
    rcases List.mem_cons.1 ht with rfl | ht
    · simp only [hj] at h1
      exact memN_iff.1 h1
    · exact strictOK_mem h2 t ht j hj
theorem strictL_mem {ops : List Oper} : ∀ {l : List Oper} {k0 i : Nat}, i ∈ strictL ops k0 l → ∃ o, l[i - k0]? = some o ∧ k0 ≤ i ∧ strictOK ops (predsOf o) o.op.operands.toList = true
  | [], _, _, h => by simp [strictL] at h
  | o :: l, k0, i, h => by
    have more : i ∈ strictL ops (k0 + 1) l → ∃ o', (o :: l)[i - k0]? = some o' ∧ k0 ≤ i ∧ strictOK ops (predsOf o') o'.op.operands.toList = true := fun h => by
      obtain ⟨o', h1, h2, h3⟩ := strictL_mem h
      refine ⟨o', ?_, by omega, h3⟩
      rw [show i - k0 = (i - (k0 + 1)) + 1 by omega]
      simpa using h1
    simp only [strictL] at h
    cases hb : strictOK ops (predsOf o) o.op.operands.toList with
    | false => rw [hb] at h; exact more h
    | true =>
      rw [hb] at h
      rcases List.mem_cons.1 h with rfl | h
      · exact ⟨o, by simp, Nat.le_refl _, hb⟩
      · exact more h
theorem dst_ex {t : Nat} : ∀ {l : List Oper} {i k : Nat} {o : Oper}, l[k]? = some o → o.dst = some t → ∃ j, dstIdx t l i = some j
  | [], _, _, _, h, _ => by simp at h
  | x :: l, i, k, o, h, hd => by
    simp only [dstIdx]
    have more : (∃ (k' : Nat) (o' : Oper), l[k']? = some o' ∧ o'.dst = some t) → ∃ j, dstIdx t l (i + 1) = some j := fun ⟨k', o', h1, h2⟩ => dst_ex h1 h2
    cases k with
    | zero =>
      simp at h
      subst h
      rw [hd]
      simp
    | succ k =>
      have h' : l[k]? = some o := by simpa using h
      cases hx : x.dst with
      | none => exact more ⟨k, o, h', hd⟩
      | some d =>
        simp only
        cases Nat.beq d t with
        | true => exact ⟨i, rfl⟩
        | false => exact more ⟨k, o, h', hd⟩
theorem dst_first (hI : ∀ i o, ops[i]? = some o → OpInfo G N ops i o) {t j : Nat} {p : Oper} (hj : ops[j]? = some p) (hp : p.dst = some t) : dstIdx t ops.toList 0 = some j := by
  obtain ⟨j', hj'⟩ := dst_ex (l := ops.toList) (i := 0) (k := j) (o := p) (by simpa using hj) hp
  obtain ⟨k', o', h1, h2, h3⟩ := dstIdx_some hj'
  have h2' : ops[k']? = some o' := by simpa using h2
  have := (hI k' o' h2').uniq t h3 j p hj hp
  rw [hj', h1, this, Nat.zero_add]
theorem getD_listed {listed : Array Bool} {i j : Nat} (hi : i < listed.size) : ((listed.setIfInBounds i true).getD j false = true) ↔ (listed.getD j false = true ∨ j = i) := by
  by_cases hij : i = j
  · subst hij
    simp [hi]
  · rw [getD_set_ne false hij]
    exact ⟨.inl, fun h => h.resolve_right fun e => hij e.symm⟩
theorem Core.congr {D' : Nat → Prop} (hc : Core P G B0 N s cs ops Z D C pa ρ S tm fx h n a DS M w) (hD : ∀ i, D i ↔ D' i) : Core P G B0 N s cs ops Z D' C pa ρ S tm fx h n a DS M w := by
  have : D = D' := funext fun i => propext (hD i)
  rw [← this]; exact hc
noncomputable def lastK (last : List Nat) : DK := adoptsK last fun _ tm h n fx => .normal tm fx h n
noncomputable def permIf (h g : TH) (x : Res) : Res := open Classical in if PermH h g then x else .fail "perm"
theorem permIf_elim {h g : TH} {x R : Res} (hr : permIf h g x = R) (hn : NF R) : PermH h g ∧ x = R := by
  unfold permIf at hr
  split at hr
  · exact ⟨by assumption, hr⟩
  · exact absurd hr.symm (hn _)
/-- what the machine tells from here; the next entry may lead to another order -/
def FirstK (cf : CF) (yf : YF) (G : Tab) (last : List Nat) (ss : List XStage) (pa : PA) (tm : TV) (h : TH) (n : Nat) (fx : Fx) (R : Res) : Prop :=
  stagesK cf yf G ss (lastK last) pa tm h n fx = R ∨ ∃ s0 ss0 g, ss = s0 :: ss0 ∧ s0.pair = none ∧
    effK cf yf G s0.effX (fun pa tm h n fx => permIf h g (rechecksK G s0.rechecks (fun tm h n fx => evalsK G s0.evals (stagesK cf yf G ss0 (lastK last)) pa tm h n fx) tm g n fx)) pa tm h n fx = R
theorem chk_elim {xs : List XOper} {ps : List (List Nat)} {st : List Nat} {m : Nat} {adopts : List Nat} {eff : Nat} {rs C : List Nat} (h : chkOK xs ps st m adopts eff rs C = true) : eff ∉ C ∧ eff < m ∧ (∀ j ∈ adopts, j ∈ ancL ps eff (nthL ps eff)) ∧
    readsOK xs (ancL ps eff (nthL ps eff)) rs C = true ∧ allIn st rs = true := by
  simp only [chkOK, Bool.and_eq_true, Bool.not_eq_true'] at h
  obtain ⟨⟨h1, h2⟩, ⟨⟨h3, h4⟩, h5⟩, h6⟩ := h
  exact ⟨fun q => (by rw [memN_iff.2 q] at h1; cases h1), blt_iff.1 h2, allIn_iff.1 h3, h4, h5⟩
/-- all is done -/
theorem draw_end (hc : Core P G B0 N s cs ops Z D C pa ρ S tm fx h n a DS M w) (hB : B0 ≤ Z.w.heap.size) (hZ : ∀ k, Z.S k → k < Z.n) (hall : ∀ i o, ops[i]? = some o → D i) {ss : List XStage} {last : List Nat} {xs : List XOper} {st : List Nat}
    (hss : stagesOK xs (ops.toList.map predsOf) st ops.toList.length ss C = true) {R : Res} (hr : FirstK cf yf G last ss pa tm h n fx R) : ResSim P G B0 N s cs (lone (s.at a DS (.inRegion ops [] :: k)) (withM M cs) w) Z.ρ Z.S Z.fx Z.h Z.n Z.w k R := by
  cases ss with
  | cons s0 ss =>
    have hchk : s0.eff ∉ C ∧ s0.eff < ops.toList.length := by
      cases hp : s0.pair with
      | none =>
        simp only [stagesOK, hp, Bool.and_eq_true] at hss
        exact ⟨(chk_elim hss.1.2).1, (chk_elim hss.1.2).2.1⟩
      | some e =>
        simp only [stagesOK, hp, Bool.and_eq_true] at hss
        exact ⟨(chk_elim hss.1.1.1).1, (chk_elim hss.1.1.1).2.1⟩
    have hlt : s0.eff < ops.size := by simpa using hchk.2
    exact absurd (hc.dc _ (hall s0.eff ops[s0.eff] (by simp [hlt]))) hchk.1
  | nil =>
    replace hr : adoptsK last (fun _ tm h n fx => .normal tm fx h n) pa tm h n fx = R := by
      rcases hr with hr | ⟨_, _, _, q, _⟩
      · exact hr
      · cases q
    obtain ⟨pa', h', hr, hc⟩ := adopts_step hB (fun i _ hi => let ⟨o, ho⟩ := hc.ex i hi; hall i o ho) hc hr
    subst hr
    have hn0 := hc.n0
    refine ⟨ρ, a, DS, M, w, _, hc.agr, hc.n0, hc.rd, ?_, fun ρ' hA => hc.keep ρ' (hA.mono hc.sub), rfl, .one stepC_regionEnd⟩
    exact (hc.st.mono fun t _ i o ho _ _ => hall i o ho).grow hc.sub (ext_lt hZ hn0)
theorem rest_after (hI : ∀ i o, ops[i]? = some o → OpInfo G N ops i o) {i : Nat} (hanc : ∀ j ∈ ancL (ops.toList.map predsOf) i (nthL (ops.toList.map predsOf) i), D j) {rs : List (Nat × XOper)}
    (hA2 : readsOK (ops.toList.map (xoper G N ops.toList)) (ancL (ops.toList.map predsOf) i (nthL (ops.toList.map predsOf) i)) (rs.map (·.1)) C = true) (hA3 : allIn (strictL ops.toList 0 ops.toList) (rs.map (·.1)) = true)
    (hre : ∀ q ∈ rs, ∀ o, ops[q.1]? = some o → Strict ops o → PendR G N ops Z.tm tm pa h nb q.1 o) : RestR G N ops Z (fun j => D j ∨ j = i) (i :: C) pa tm h nb := by
  intro j p hj hnj hpj
  have hjC : j ∈ C := (List.mem_cons.1 hj).resolve_left fun e => hnj (.inr e)
  intro g hx hw hR
  have hread : isRead (ops.toList.map (xoper G N ops.toList)) j = true := by
    have hpl : ops.toList[j]? = some p := by simpa using hpj
    have e := nthX_map (f := xoper G N ops.toList) hpl
    unfold isRead
    rw [e]
    show isR (xoper G N ops.toList p).op = true
    rw [hx]
    exact hR
  rcases reads_mem hA2 j hjC hread with h3 | h3
  · exact absurd (.inl (hanc j h3)) hnj
  · obtain ⟨q, hq, hqj⟩ := List.mem_map.1 h3
    subst hqj
    refine hre q hq p hpj ?_ g hx hw hR
    intro t' ht' j' p' hj' hp'
    obtain ⟨o3, h4, _, h5⟩ := strictL_mem (allIn_iff.1 hA3 q.1 h3)
    simp only [Nat.sub_zero] at h4
    have h4' : ops[q.1]? = some o3 := by simpa using h4
    rw [hpj] at h4'
    cases h4'
    refine strictOK_mem h5 t' ht' j' ?_
    -- the writer is the first that writes it
    exact dst_first hI hj' hp'
theorem draw_loop (TO : TabOK P G) (hcf : CFok P G B0 cf) (hyf : YFok P G B0 yf) (hI : ∀ i o, ops[i]? = some o → OpInfo G N ops i o) (hB : B0 ≤ Z.w.heap.size) (hZ : ∀ k, Z.S k → k < Z.n) (last : List Nat) : ∀ (fuel t : Nat) (listed : Array Bool) (U : List Nat) {ss : List XStage} {C : List Nat} {pa : PA} {ρ : Env} {S : Nat → Prop} {tm : TV} {fx : Fx} {h : TH} {n : Nat} {a : Array Value} {DS : List Deferred} {M : Option FrameMode} {w : World} {nb : Nat} {R : Res},
    Core P G B0 N s cs ops Z (fun i => listed.getD i false = true) C pa ρ S tm fx h n a DS M w → (∀ k, Live h k → k < nb) → nb ≤ n → RestR G N ops Z (fun i => listed.getD i false = true) C pa tm h nb → listed.size = ops.size → (∀ s ∈ ss, StageOK G N ops s) →
    stagesOK (ops.toList.map (xoper G N ops.toList)) (ops.toList.map predsOf) (strictL ops.toList 0 ops.toList) ops.toList.length ss C = true → (∀ i, i < ops.size → listed.getD i false = false → i ∈ U) → U.length ≤ fuel →
    FirstK cf yf G last ss pa tm h n fx R → NF R → ResSim P G B0 N s cs (lone (s.at a DS (.inRegion ops (Region.linearise.go .any ops fuel t listed []) :: k)) (withM M cs) w) Z.ρ Z.S Z.fx Z.h Z.n Z.w k R := by
  intro fuel
  induction fuel with
  | zero =>
    intro t listed U ss C pa ρ S tm fx h n a DS M w nb R hc hlow hnb hrr hsz hss hok hU hUl hr hn
    have hUnil : U = [] := List.length_eq_zero_iff.1 (by omega)
    subst hUnil
    simp only [Region.linearise.go, List.reverse_nil]
    refine draw_end hc hB hZ (fun i o ho => ?_) hok hr
    have hlt := (Array.getElem?_eq_some_iff.1 ho).1
    cases hq : listed.getD i false with
    | true => rfl
    | false => exact absurd (hU i hlt hq) (by simp)
  | succ fuel ih =>
    intro t listed U ss C pa ρ S tm fx h n a DS M w nb R hc hlow hnb hrr hsz hss hok hU hUl hr hn
    simp only [Region.linearise.go]
    show ResSim P G B0 N s cs (lone (s.at a DS (.inRegion ops (match (Region.ready .any ops listed)[t % (Region.ready .any ops listed).length]? with
      | some i => Region.linearise.go .any ops fuel (t / (Region.ready .any ops listed).length) (listed.setIfInBounds i true) [i]
      | none => [].reverse) :: k)) (withM M cs) w) Z.ρ Z.S Z.fx Z.h Z.n Z.w k R
    cases hi : (Region.ready .any ops listed)[t % (Region.ready .any ops listed).length]? with
    | none =>
      have hnil : Region.ready .any ops listed = [] := by
        cases hrd : Region.ready .any ops listed with
        | nil => rfl
        | cons x xs =>
          rw [hrd] at hi
          have hlt : t % (x :: xs).length < (x :: xs).length := Nat.mod_lt _ (by simp)
          simp at hi
          simp at hlt
          omega
      simp only [List.reverse_nil]
      have hdone : ∀ i, i < ops.size → listed.getD i false = true := by
        intro i
        induction i using Nat.strongRecOn with
        | _ i ihi =>
          intro hlt
          cases hq : listed.getD i false with
          | true => rfl
          | false =>
            have hmem : i ∈ Region.ready .any ops listed := by
              rw [mem_ready]
              refine ⟨?_, ops[i], by simp [hlt], fun e he hb => ?_⟩
              · have h2 : i < listed.size := by omega
                simp only [Array.getD_eq_getD_getElem?, Array.getElem?_eq_getElem h2, Option.getD_some] at hq ⊢
                exact hq
              · have := (hI i ops[i] (by simp [hlt])).below e.on (preds_iff.2 ⟨e, he, hb, rfl⟩)
                exact ihi e.on this (by omega)
            rw [hnil] at hmem
            simp at hmem
      exact draw_end hc hB hZ (fun i o ho => hdone i (Array.getElem?_eq_some_iff.1 ho).1) hok hr
    | some i =>
      simp only []
      rw [linearise_go_acc, List.reverse_singleton, List.singleton_append]
      have hready := mem_ready.1 (List.mem_of_getElem? hi)
      obtain ⟨hnl, o, ho, hpre⟩ := hready
      have hlt : i < ops.size := (Array.getElem?_eq_some_iff.1 ho).1
      have hlt' : i < listed.size := by omega
      have hnD : ¬ listed.getD i false = true := fun q => by
        simp only [Array.getD_eq_getD_getElem?, Array.getElem?_eq_getElem hlt', Option.getD_some] at hnl q
        rw [hnl] at q; cases q
      have hp : ∀ j ∈ predsOf o, listed.getD j false = true := fun j hj => by
        obtain ⟨e, he, hb, rfl⟩ := preds_iff.1 hj
        exact hpre e he hb
      have hDiff : ∀ j, (listed.getD j false = true ∨ j = i) ↔ ((listed.setIfInBounds i true).getD j false = true) := fun j => (getD_listed hlt').symm
      have hU' : ∀ j, j < ops.size → (listed.setIfInBounds i true).getD j false = false → j ∈ U.erase i := fun j hj hq => by
        have hji : j ≠ i := fun e => by
          have := (hDiff j).1 (.inr e)
          rw [this] at hq; cases hq
        have hq2 : listed.getD j false = false := by
          cases hq3 : listed.getD j false with
          | false => rfl
          | true => have := (hDiff j).1 (.inl hq3); rw [this] at hq; cases hq
        exact (List.mem_erase_of_ne hji).2 (hU j hj hq2)
      have hiU : i ∈ U := hU i hlt (by cases hq : listed.getD i false with | false => rfl | true => exact absurd hq hnD)
      have hUl' : (U.erase i).length ≤ fuel := by
        have := List.length_erase_of_mem hiU
        omega
      have hsz' : (listed.setIfInBounds i true).size = ops.size := by simpa using hsz
      -- where it stands in the plan
      have key : ∀ C next, (∀ j, listed.getD j false = true → j ∈ C) → restOK C next 0 (ops.toList.map predsOf) = true → i ∈ C ∨ next = some i := fun C next hC hre => by
        rcases rest_mem hre i (by simpa using hlt) with h1 | h1 | h1
        · exact .inl (by simpa using h1)
        · exact .inr (by simpa using h1)
        · refine absurd (fun j hj => ?_) h1
          rw [nthL_map (o := o) (by simpa using ho)] at hj
          exact hC j (hp j hj)
      have hanc : ∀ j ∈ ancL (ops.toList.map predsOf) i (nthL (ops.toList.map predsOf) i), listed.getD j false = true := by
        refine ancL_all (D := fun i => listed.getD i false = true) hc.dcl _ _ fun j hj => ?_
        rw [nthL_map (o := o) (by simpa using ho)] at hj
        exact hp j hj
      by_cases hiC : i ∈ C
      · obtain ⟨ρ1, S1, a1, w1, hstep, hc1⟩ := quiet_step (k := k) (rest := Region.linearise.go .any ops fuel (t / (Region.ready .any ops listed).length) (listed.setIfInBounds i true) []) TO hI hc hlow (hrr i o hiC hnD ho) hiC hnD ho hp
        refine ResSim.of_steps (.one hstep) ?_
        refine ih _ _ _ (hc1.congr hDiff) hlow hnb (fun j p hj hnj hpj => hrr j p hj (fun q => hnj ((hDiff j).1 (.inl q))) hpj) hsz' hss hok hU' hUl' hr hn
      · cases ss with
        | nil =>
          rcases key C none hc.dc hok with h1 | h1
          · exact absurd h1 hiC
          · cases h1
        | cons s0 ss0 =>
          have hs := hss s0 List.mem_cons_self
          cases hpr : s0.pair with
          | none =>
            simp only [stagesOK, hpr, Bool.and_eq_true] at hok
            obtain ⟨⟨hre0, hchk⟩, hev⟩ := hok
            have hi0 : s0.eff = i := by
              rcases key C (some s0.eff) hc.dc hre0 with h1 | h1
              · exact absurd h1 hiC
              · simpa using h1
            subst hi0
            obtain ⟨_, _, hA1, hA2, hA3⟩ := chk_elim hchk
            have hstep : ∃ pa1, (∃ tm2 g n2 fx2, rechecksK G s0.rechecks (fun tm h n fx => evalsK G s0.evals (stagesK cf yf G ss0 (lastK last)) pa1 tm h n fx) tm2 g n2 fx2 = R ∧ ∃ ρ2 S2 a2 DS2 M2 w2,
                Steps P (lone (s.at a DS (.inRegion ops (s0.eff :: Region.linearise.go .any ops fuel (t / (Region.ready .any ops listed).length) (listed.setIfInBounds s0.eff true) []) :: k)) (withM M cs) w) (lone (s.at a2 DS2 (.inRegion ops (Region.linearise.go .any ops fuel (t / (Region.ready .any ops listed).length) (listed.setIfInBounds s0.eff true) []) :: k)) (withM M2 cs) w2) ∧
                Core P G B0 N s cs ops Z (fun j => listed.getD j false = true ∨ j = s0.eff) (s0.eff :: C) pa1 ρ2 S2 tm2 fx2 g n2 a2 DS2 M2 w2) ∨
                (∃ v tm1 fx1 h1 n1, R = .panic v tm1 fx1 h1 n1 ∧ ∃ T, EndsT T P G B0 N s cs (lone (s.at a DS (.inRegion ops (s0.eff :: Region.linearise.go .any ops fuel (t / (Region.ready .any ops listed).length) (listed.setIfInBounds s0.eff true) []) :: k)) (withM M cs) w) Z.ρ Z.S Z.fx Z.h Z.n Z.w tm1 fx1 h1 n1 (KPanic T s v (ext Z.S Z.n n1))) := by
              rcases hr with hr | ⟨s1, ss1, g, q1, q2, hr⟩
              · replace hr : stageK cf yf G s0 (stagesK cf yf G ss0 (lastK last)) pa tm h n fx = R := hr
                unfold stageK at hr
                rw [hpr] at hr
                obtain ⟨pa1, h1, hr1, hc1⟩ := adopts_step hB (fun j hj _ => hanc j (hA1 j hj)) hc hr
                rcases eff_step (k := k) (rest := Region.linearise.go .any ops fuel (t / (Region.ready .any ops listed).length) (listed.setIfInBounds s0.eff true) []) TO hcf hyf hI hc1 hZ hs.eff hiC ho hp hr1 hn with ⟨tm2, h2, n2, fx2, hr2, ρ2, S2, a2, DS2, M2, w2, hsteps, hc2⟩ | hE
                · exact ⟨pa1, .inl ⟨tm2, h2, n2, fx2, hr2, ρ2, S2, a2, DS2, M2, w2, hsteps, hc2⟩⟩
                · exact ⟨pa1, .inr hE⟩
              · cases q1
                rcases eff_step (k := k) (rest := Region.linearise.go .any ops fuel (t / (Region.ready .any ops listed).length) (listed.setIfInBounds s0.eff true) []) TO hcf hyf hI hc hZ hs.eff hiC ho hp hr hn with ⟨tm2, h2, n2, fx2, hr2, ρ2, S2, a2, DS2, M2, w2, hsteps, hc2⟩ | hE
                · obtain ⟨hperm, hr2⟩ := permIf_elim hr2 hn
                  exact ⟨pa, .inl ⟨tm2, g, n2, fx2, hr2, ρ2, S2, a2, DS2, M2, w2, hsteps, hc2.perm hperm⟩⟩
                · exact ⟨pa, .inr hE⟩
            obtain ⟨pa1, ⟨tm2, h2, n2, fx2, hr2, ρ2, S2, a2, DS2, M2, w2, hsteps, hc2⟩ | ⟨v, tm2, fx2, h2, n2, rfl, hE⟩⟩ := hstep
            · obtain ⟨hr3, hre⟩ := rechecks_step (Z := Z) (pa := pa1) (nb := n2) (C := s0.eff :: C) hI hc2.tmZ hs.re hr2 hn
              have hrr2 := rest_after (D := fun j => listed.getD j false = true) hI hanc hA2 hA3 hre
              split at hev
              · rename_i C' hC'
                obtain ⟨pa3, tm3, n3, hr4, hn3, hc3, hrr3⟩ := evals_step TO hI hc2 hs.ev hC' hrr2 (Nat.le_refl _) hr3 hn
                refine ResSim.of_steps hsteps ?_
                refine ih _ _ _ (hc3.congr hDiff) (nb := n2) (fun j hj => hc2.st.W.lt j hj) hn3 (fun j p hj hnj hpj => hrr3 j p hj (fun q => hnj ((hDiff j).1 q)) hpj) hsz' (fun s hs => hss s (List.mem_cons_of_mem _ hs)) hev hU' hUl' (.inl hr4) hn
              · cases hev
            · exact hE
          | some e =>
            simp only [stagesOK, hpr, Bool.and_eq_true] at hok
            obtain ⟨⟨⟨hchk1, hchk2⟩, ⟨hre1, hch1⟩, hev1⟩, ⟨hre2, hch2⟩, hev2⟩ := hok
            obtain ⟨hpe, hpE⟩ := hs.pr e hpr
            replace hr : adoptsK s0.adopts (pairK cf yf G s0.effX e.2 s0.rechecks (evalsK G s0.evals (stagesK cf yf G ss0 (lastK last)))) pa tm h n fx = R := by
              rcases hr with hr | ⟨s1, ss1, g, q1, q2, hr⟩
              · replace hr : stageK cf yf G s0 (stagesK cf yf G ss0 (lastK last)) pa tm h n fx = R := hr
                unfold stageK at hr
                rw [hpr] at hr
                exact hr
              · cases q1
                rw [hpr] at q2
                cases q2
            have hi0 : i = s0.eff ∨ i = e.1 := by
              rcases key (s0.eff :: C) (some e.1) (fun j hj => List.mem_cons_of_mem _ (hc.dc j hj)) hre1 with h1 | h1
              · exact .inl ((List.mem_cons.1 h1).resolve_right hiC)
              · exact .inr (by simpa using h1.symm)
            rcases hi0 with rfl | rfl
            · obtain ⟨_, _, hA1, hA2, hA3⟩ := chk_elim hchk1
              obtain ⟨pa1, h1, hr1, hc1⟩ := adopts_step hB (fun j hj _ => hanc j (hA1 j hj)) hc hr
              obtain ⟨hAA, hBB, h12, h21, hP, hfin⟩ := pair_elim hr1 hn
              have hrr1 : effK cf yf G s0.effX (fun pa => rechecksK G s0.rechecks fun tm h n fx => effK cf yf G e.2 (fun pa => rechecksK G s0.rechecks fun tm h n fx => evalsK G s0.evals (stagesK cf yf G ss0 (lastK last)) pa tm h n fx) pa tm h n fx) pa1 tm h1 n fx = R := by
                rw [hP.a1, hP.ra, hP.a2, hP.r12]
                exact hfin
              rcases eff_step (k := k) (rest := Region.linearise.go .any ops fuel (t / (Region.ready .any ops listed).length) (listed.setIfInBounds s0.eff true) []) TO hcf hyf hI hc1 hZ hs.eff hiC ho hp hrr1 hn with ⟨tm2, h2, n2, fx2, hr2, ρ2, S2, a2, DS2, M2, w2, hsteps, hc2⟩ | ⟨v, tm2, fx2, h2, n2, rfl, hE⟩
              · obtain ⟨hr3, hre⟩ := rechecks_step (Z := Z) (pa := pa1) (nb := n2) (C := s0.eff :: C) hI hc2.tmZ hs.re hr2 hn
                have hrr2 := rest_after (D := fun j => listed.getD j false = true) hI hanc hA2 hA3 hre
                refine ResSim.of_steps hsteps ?_
                refine ih _ _ _ (ss := ⟨[], e.1, e.2, s0.rechecks, s0.evals, none⟩ :: ss0) (hc2.congr hDiff) (nb := n2) (fun j hj => hc2.st.W.lt j hj) (Nat.le_refl _) (fun j p hj hnj hpj => hrr2 j p hj (fun q => hnj ((hDiff j).1 q)) hpj) hsz' (fun s hs' => ?_) ?_ hU' hUl' (.inl hr3) hn
                · rcases List.mem_cons.1 hs' with rfl | hs'
                  · exact ⟨hpe, hpE, hs.re, hs.ev, fun e q => by cases q⟩
                  · exact hss s (List.mem_cons_of_mem _ hs')
                · simp only [stagesOK, Bool.and_eq_true]
                  exact ⟨⟨hre1, hch1⟩, hev1⟩
              · exact hE
            · obtain ⟨_, _, hA1, hA2, hA3⟩ := chk_elim hchk2
              obtain ⟨pa1, h1, hr1, hc1⟩ := adopts_step hB (fun j hj _ => hanc j (hA1 j hj)) hc hr
              obtain ⟨hAA, hBB, h12, h21, hP, hfin⟩ := pair_elim hr1 hn
              have hrr1 : effK cf yf G e.2 (fun pa => rechecksK G s0.rechecks fun tm h n fx => effK cf yf G s0.effX (fun pa tm h n fx => permIf h h12 (rechecksK G s0.rechecks (fun tm h n fx => evalsK G s0.evals (stagesK cf yf G ss0 (lastK last)) pa tm h n fx) tm h12 n fx)) pa tm h n fx) pa1 tm h1 n fx = R := by
                rw [hP.b1, hP.rb, hP.b2]
                unfold permIf
                rw [if_pos hP.perm, hP.r12]
                exact hfin
              rcases eff_step (k := k) (rest := Region.linearise.go .any ops fuel (t / (Region.ready .any ops listed).length) (listed.setIfInBounds e.1 true) []) TO hcf hyf hI hc1 hZ hpe hiC ho hp hrr1 hn with ⟨tm2, h2, n2, fx2, hr2, ρ2, S2, a2, DS2, M2, w2, hsteps, hc2⟩ | ⟨v, tm2, fx2, h2, n2, rfl, hE⟩
              · obtain ⟨hr3, hre⟩ := rechecks_step (Z := Z) (pa := pa1) (nb := n2) (C := e.1 :: C) hI hc2.tmZ hs.re hr2 hn
                have hrr2 := rest_after (D := fun j => listed.getD j false = true) hI hanc hA2 hA3 hre
                refine ResSim.of_steps hsteps ?_
                refine ih _ _ _ (ss := ⟨[], s0.eff, s0.effX, s0.rechecks, s0.evals, none⟩ :: ss0) (hc2.congr hDiff) (nb := n2) (fun j hj => hc2.st.W.lt j hj) (Nat.le_refl _) (fun j p hj hnj hpj => hrr2 j p hj (fun q => hnj ((hDiff j).1 q)) hpj) hsz' (fun s hs' => ?_) ?_ hU' hUl' (.inr ⟨_, _, h12, rfl, rfl, hr3⟩) hn
                · rcases List.mem_cons.1 hs' with rfl | hs'
                  · exact ⟨hs.eff, hs.isE, hs.re, hs.ev, fun e q => by cases q⟩
                  · exact hss s (List.mem_cons_of_mem _ hs')
                · simp only [stagesOK, Bool.and_eq_true]
                  exact ⟨⟨hre2, hch2⟩, hev2⟩
              · exact hE
end
end Go.Clo
namespace Go.Clo

section
variable {P : Program} {G : Tab} {B0 N : Nat} {s : Fra} {cs : List Frame} {cf : CF} {yf : YF}
theorem code_draw (TO : TabOK P G) (hm : P.follows .mixedOrders = true) (hcf : CFok P G B0 cf) (hyf : YFok P G B0 yf) (id : Nat) (ops : Array Oper) (hok : planOK G N ops.toList = true) : CodeOK P G B0 N s cs cf yf (.region id ops true) := by
  intro ρ S tm fx h n a DS M w k R hS hr hn
  replace hr : execC cf yf G s.fn (plan G N ops.toList) tm fx h n = R := hr
  simp only [planOK, Bool.and_eq_true] at hok
  obtain ⟨hop, hpl⟩ := hok
  have hI := opInfo hop
  have hitems : PAll ops G N (pitems 0 (ops.toList.map (xoper G N ops.toList)) (masksOf ops.toList [])) := pitems_ok _ _ 0 fun j o hj => by simpa using hj
  have hplan : ∃ ev ss last, plan G N ops.toList = .drawn ev ss last ∧ (∀ q ∈ ev, QItem G N ops q) ∧ ∀ s0 ∈ ss, StageOK G N ops s0 :=
    ⟨_, _, _, rfl, evals0_ok hitems, pairUp_ok (stagesOf_ok hitems hitems)⟩
  obtain ⟨ev, ss, last, hplan, hev, hss⟩ := hplan
  rw [hplan] at hr hpl
  simp only at hpl
  replace hr : evalsK G ev (stagesK cf yf G ss (adoptsK last fun _ tm h n fx => .normal tm fx h n)) [] tm h n fx = R := hr
  split at hpl
  · rename_i C0 hC0
    have hW : ∀ ρ', Agree S ρ ρ' → WEq ρ' G B0 h n { w with drawn := w.drawn + 1 } := fun ρ' hA => by
      obtain ⟨_, q, _⟩ := hS.all ρ' hA
      exact ⟨q.lt, q.base, q.obj, q.inj⟩
    have hc0 : Core P G B0 N s cs ops ⟨ρ, S, tm, fx, h, n, w⟩ (fun i => (Array.replicate ops.size false).getD i false = true) [] [] ρ S tm fx h n a DS M { w with drawn := w.drawn + 1 } := by
      have hno : ∀ i, ¬ (Array.replicate ops.size false).getD i false = true := fun i q => by
        simp only [Array.getD_eq_getD_getElem?, Array.getElem?_replicate] at q
        split at q <;> simp at q
      refine ⟨⟨hS.lt, fun ρ' hA => ?_, hS.base, hS.kind, hS.nor, hS.fn, hS.fnG⟩, fun ρ' hA => ?_, .refl _ _, rfl, Nat.le_refl _, fun i hi => absurd hi (hno i), fun i hi => by simp at hi, fun i o hi => absurd hi (hno i), fun i o hi => by simp at hi, fun i o hi => by simp at hi, fun i o hi => by simp at hi,
        fun e he => by simp at he, fun e he => by simp at he, fun e he => by simp at he, fun e he => by simp at he, fun e he => by simp at he, fun e he => by simp at he, fun e he => by simp at he, fun e he => by simp at he, fun e he => by simp at he, fun k => ⟨.inl, fun hk => ?_⟩, fun ρ' hA => ⟨Nat.le_refl _, rfl, rfl, rfl, fun b hb hu => ⟨rfl, hu⟩⟩, fun _ _ => rfl, by simp⟩
      · obtain ⟨q1, _, q3⟩ := hS.all ρ' hA
        exact ⟨⟨q1.1, fun t ht _ => q1.2 t ht trivial⟩, hW ρ' hA, q3⟩
      · obtain ⟨q1, _⟩ := hS.all ρ' hA
        exact ⟨q1.1, fun t ht _ => q1.2 t ht trivial⟩
      · rcases hk with hk | ⟨h1, h2, _⟩
        · exact hk
        · simp only at h1 h2; omega
    have hrr0 : RestR G N ops ⟨ρ, S, tm, fx, h, n, w⟩ (fun i => (Array.replicate ops.size false).getD i false = true) [] [] tm h n := fun i o hi => by simp at hi
    obtain ⟨pa1, tm1, n1, hr1, hn1, hc1, hrr1⟩ := evals_step TO hI hc0 hev hC0 hrr0 (Nat.le_refl _) hr hn
    refine ResSim.of_steps (.one stepC_draw) ?_
    simp only [Region.schedule, hm, Bool.true_or, if_true, Region.linearise]
    refine draw_loop TO hcf hyf hI (Z := ⟨ρ, S, tm, fx, h, n, w⟩) hS.base hS.lt last ops.size _ _ (List.range ops.size) hc1 (fun k hk => hS.W.lt k hk) hn1 hrr1 (by simp) hss hpl (fun i hi _ => by simpa using hi) (by simp) (.inl hr1) hn
  · cases hpl
/-- ALL CALLS of the machine are the program's -/
theorem run_sim (TO : TabOK P G) (hm : P.follows .mixedOrders = true) {xt : FuncId → Option XF} (X : XtOK P G xt) {known : CF → CF} (hknown : ∀ cf, CFok P G B0 cf → CFok P G B0 (known cf)) (d : Nat) : CFok P G B0 (runD G xt known d).1 :=
  (runD_sim TO X hknown (fun _ _ h1 h2 _ _ _ id ops hok => code_draw TO hm h1 h2 id ops hok) d).1
end
end Go.Clo
namespace Go.Clo

def mvB (σ : Nat → Nat) (b : Nat) : Nat := bif Nat.blt b O then b else Nat.add O (σ (Nat.sub b O))
def mvA (σ : Nat → Nat) (a : Option Addr) : Option Addr := match a with
  | some ⟨b, off, s⟩ => some ⟨mvB σ b, off, s⟩
  | none => none
def mvF (σ : Nat → Nat) : Fn → Fn
  | .yield l => .yield (mvB σ l)
  | f => f
def mvL (f : Value → Value) : List Value → List Value
  | [] => []
  | v :: l => f v :: mvL f l
/-- to a depth -/
def mvV (σ : Nat → Nat) : Nat → Value → Value
  | 0 => fun v => v
  | d + 1 => fun v => match v with
    | .pointer a => .pointer (mvA σ a)
    | .slice a l c => .slice (mvA σ a) l c
    | .map (some r) => .map (some (mvB σ r))
    | .func fn ⟨a⟩ ⟨b⟩ => .func (mvF σ fn) ⟨mvL (mvV σ d) a⟩ ⟨mvL (mvV σ d) b⟩
    | .iface t v => .iface t (mvV σ d v)
    | .agg ⟨l⟩ => .agg ⟨mvL (mvV σ d) l⟩
    | .tuple ⟨l⟩ => .tuple ⟨mvL (mvV σ d) l⟩
    | v => v
/-- may it be renumbered to this depth? -/
def mvOKL (f : Value → Bool) : List Value → Bool
  | [] => true
  | v :: l => bif f v then mvOKL f l else false
def mvOK : Nat → Value → Bool
  | 0 => fun _ => false
  | d + 1 => fun v => match v with
    | .slice (some ⟨b, _, none⟩) _ c => bif Nat.blt c unkCap then true else Nat.ble O b
    | .slice none _ c => Nat.blt c unkCap
    | .slice _ _ _ => false
    | .func _ ⟨a⟩ ⟨b⟩ => bif mvOKL (mvOK d) a then mvOKL (mvOK d) b else false
    | .iface _ v => mvOK d v
    | .agg ⟨l⟩ => mvOKL (mvOK d) l
    | .tuple ⟨l⟩ => mvOKL (mvOK d) l
    | _ => true
def Env.comp (ρ : Env) (σ : Nat → Nat) : Env := ⟨fun k => ρ.loc (σ k), fun k => ρ.cap (σ k), fun k => ρ.off (σ k)⟩
theorem mvL_eq (f : Value → Value) : ∀ l, mvL f l = l.map f
  | [] => rfl
  | v :: l => by rw [mvL, mvL_eq f l]; rfl
theorem mvOKL_mem {f : Value → Bool} : ∀ {l : List Value}, mvOKL f l = true → ∀ v ∈ l, f v = true
  | [], _ => by simp
  | v :: l, h => by
    simp only [mvOKL] at h
    obtain ⟨h1, h2⟩ := bif_and h
    intro x hx
    rcases List.mem_cons.1 hx with rfl | hx
    · exact h1
    · exact mvOKL_mem h2 x hx
theorem rlB_mv (ρ : Env) (σ : Nat → Nat) (b : Nat) : rlB ρ (mvB σ b) = rlB (ρ.comp σ) b := by
  unfold mvB
  cases hb : Nat.blt b O with
  | true =>
    have : b < O := blt_iff.1 hb
    simp [rlB, this]
  | false =>
    have h : ¬ b < O := fun q => by rw [blt_iff.2 q] at hb; cases hb
    simp only [cond_false]
    rw [rlB_O]
    simp [rlB, h, Env.comp]
theorem rlV_mv (ρ : Env) (σ : Nat → Nat) : ∀ (d : Nat) (v : Value), mvOK d v = true → rlV ρ (mvV σ d v) = rlV (ρ.comp σ) v
  | 0, _, h => by cases h
  | d + 1, v, h => by
    have ih := rlV_mv ρ σ d
    have ihL : ∀ l : List Value, mvOKL (mvOK d) l = true → (mvL (mvV σ d) l).map (rlV ρ) = l.map (rlV (ρ.comp σ)) := fun l hl => by
      rw [mvL_eq, List.map_map]
      exact List.map_congr_left fun x hx => ih x (mvOKL_mem hl x hx)
    cases v with
    | pointer a =>
      cases a with
      | none => simp [mvV, mvA, rlV]
      | some a => simp [mvV, mvA, rlV, rlA, rlB_mv]
    | slice a l c =>
      cases a with
      | none =>
        have hc : c < unkCap := blt_iff.1 h
        simp [mvV, mvA, rlV, rlC, hc]
      | some a =>
        obtain ⟨b, off, sp⟩ := a
        cases sp with
        | some s => cases h
        | none =>
          have h' : (bif Nat.blt c unkCap then true else Nat.ble O b) = true := h
          cases hc : Nat.blt c unkCap with
          | true =>
            have hc : c < unkCap := blt_iff.1 hc
            simp [mvV, mvA, rlV, rlC, hc, rlB_mv]
          | false =>
            rw [hc] at h'
            have hb : O ≤ b := Nat.le_of_ble_eq_true (by simpa using h')
            have hcn : ¬ c < unkCap := fun q => by rw [blt_iff.2 q] at hc; cases hc
            have hbn : ¬ b < O := by omega
            have hbb : Nat.blt b O = false := by
              cases hq : Nat.blt b O with
              | false => rfl
              | true => exact absurd (blt_iff.1 hq) hbn
            have e : mvB σ b = O + σ (b - O) := by simp only [mvB, hbb, cond_false]; rfl
            simp [mvV, mvA, rlV, rlC, hcn, e, Env.comp, rlB, hbn]
            exact fun q => absurd q (Nat.not_lt.2 (Nat.le_add_right _ _))
    | map r =>
      cases r with
      | none => simp [mvV, rlV]
      | some r => simp only [mvV, rlV, Option.map, rlB_mv]
    | func fn a b =>
      obtain ⟨a⟩ := a
      obtain ⟨b⟩ := b
      obtain ⟨h1, h2⟩ := bif_and h
      simp only [mvV, rlV, rlR_mk, ihL a h1, ihL b h2]
      congr 1
      cases fn <;> simp [mvF, rlF, rlB_mv]
    | iface t v =>
      have h' : mvOK d v = true := h
      simp only [mvV, rlV, ih v h']
    | agg l =>
      obtain ⟨l⟩ := l
      have h' : mvOKL (mvOK d) l = true := h
      simp only [mvV, rlV, rlR_mk, ihL l h']
    | tuple l =>
      obtain ⟨l⟩ := l
      have h' : mvOKL (mvOK d) l = true := h
      simp only [mvV, rlV, rlR_mk, ihL l h']
    | _ => simp [mvV, rlV]
/-! blocks -/
def mvE (f : Value → Value) : List (Value × Value) → List (Value × Value)
  | [] => []
  | e :: l => (e.1, f e.2) :: mvE f l
def mvO (σ : Nat → Nat) (d : Nat) : AO → AO
  | .cells c e u => .cells (mvL (mvV σ d) c) e u
  | .ro c => .ro (mvL (mvV σ d) c)
  | .map t es => .map t (mvE (mvV σ d) es)
  | o => o
def mvEOK (f : Value → Bool) : List (Value × Value) → Bool
  | [] => true
  | e :: l => bif f e.2 then mvEOK f l else false
/-- a block that may be renumbered: cells, maps -/
def mvOOK (d : Nat) : AO → Bool
  | .cells c _ _ => mvOKL (mvOK d) c
  | .ro c => mvOKL (mvOK d) c
  | .map _ es => mvEOK (mvOK d) es
  | _ => false
theorem mvE_eq (f : Value → Value) : ∀ l, mvE f l = l.map fun e => (e.1, f e.2)
  | [] => rfl
  | e :: l => by rw [mvE, mvE_eq f l]; rfl
theorem mvEOK_mem {f : Value → Bool} : ∀ {l : List (Value × Value)}, mvEOK f l = true → ∀ e ∈ l, f e.2 = true
  | [], _ => by simp
  | v :: l, h => by
    simp only [mvEOK] at h
    obtain ⟨h1, h2⟩ := bif_and h
    intro x hx
    rcases List.mem_cons.1 hx with rfl | hx
    · exact h1
    · exact mvEOK_mem h2 x hx
theorem oneL_mv (σ : Nat → Nat) (d : Nat) : ∀ l, oneL (mvL (mvV σ d) l) = oneL l
  | [] => rfl
  | v :: l => by
    have : oneCell (mvV σ d v) = oneCell v := by
      cases d with
      | zero => rfl
      | succ d => cases v <;> first | rfl | (rename_i r; cases r <;> rfl)
    simp only [mvL, oneL, this, oneL_mv σ d l]
theorem obj_mv {G : Tab} (ρ : Env) (σ : Nat → Nat) (d k : Nat) {o : AO} {p : Obj} (h : mvOOK d o = true) : ObjEq ρ G (σ k) (mvO σ d o) p ↔ ObjEq (ρ.comp σ) G k o p := by
  have hL : ∀ l : List Value, mvOKL (mvOK d) l = true → (mvL (mvV σ d) l).map (rlV ρ) = l.map (rlV (ρ.comp σ)) := fun l hl => by
    rw [mvL_eq, List.map_map]
    exact List.map_congr_left fun x hx => rlV_mv ρ σ d x (mvOKL_mem hl x hx)
  have hlen : ∀ l : List Value, (mvL (mvV σ d) l).length = l.length := fun l => by rw [mvL_eq, List.length_map]
  cases o with
  | cells c e u =>
    cases u with
    | false => simp only [mvO, ObjEq, oneL_mv, hL c h]
    | true => simp only [mvO, ObjEq, oneL_mv, hL c h, hlen]; rfl
  | ro c => simp only [mvO, ObjEq, oneL_mv, hL c h]
  | map t es =>
    have hE := fun e he => rlV_mv ρ σ d _ (mvEOK_mem (f := mvOK d) h e he)
    have h1 : (mvE (mvV σ d) es).map (fun x => (x.1, rlV ρ x.2)) = es.map fun x => (x.1, rlV (ρ.comp σ) x.2) := by
      rw [mvE_eq, List.map_map]
      exact List.map_congr_left fun x hx => by simp [hE x hx]
    have h2 : (mvE (mvV σ d) es).map (·.1) = es.map (·.1) := by
      rw [mvE_eq, List.map_map]
      rfl
    have h3 : (∀ x ∈ mvE (mvV σ d) es, plainV x.1 = true ∧ keyX t x.1 x.1 = some true) ↔ ∀ x ∈ es, plainV x.1 = true ∧ keyX t x.1 x.1 = some true := by
      rw [mvE_eq]
      constructor
      · intro hh x hx
        exact hh (x.1, mvV σ d x.2) (List.mem_map.2 ⟨x, hx, rfl⟩)
      · intro hh x hx
        obtain ⟨y, hy, rfl⟩ := List.mem_map.1 hx
        exact hh y hy
    simp only [mvO, ObjEq, h1, h2, h3]
  | _ => cases h
end Go.Clo
