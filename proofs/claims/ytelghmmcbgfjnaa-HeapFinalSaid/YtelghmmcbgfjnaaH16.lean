/-
  Next, Minor, Major, Used. (A part of the proof, joined of: Xy, Yd, Ye, Yf.)
-/
import Derived.Test.YtelghmmcbgfjnaaH15
/-! Next, Minor, Major, Used. -/
namespace Go.Proofs.Ytelghmmcbgfjnaa
open Go.RowKit

set_option maxRecDepth 100000 in
set_option maxHeartbeats 1000000 in
/-- Clone of a part of a row. -/
theorem clonePart_any {w : World} {ad : Addr} {cap n : Nat} {xs : List Int} (hn : xs.length = n) (hsrc : ∀ w1, Chg (fun _ => False) w w1 → Src' w1 1 (.slice (some ad) n cap) n (intCells xs)) (hT : xs.length < 1000000000000) :
    Calls Try.prog 43 #[.slice (some ad) n cap] w fun e w' => ∃ v', e = .returned v' ∧ Row w' 3 1 v' xs.length (intCells xs) ∧ Chg (fun _ => False) w w' ∧ (∀ b, rowBlk v' = some b → w.heap.size ≤ b) := by
  have hq : ∀ (w : World) (a : Option Addr) (n c n' c' : Nat), (binOp .eql 34 (.slice a n c) (.slice none n' c')).run Try.prog w = .ok (.bool a.isNone) w := fun w a n c n' c' => Lib.run_eql_slice_nil w _ _ a n c n' c' uInts
  refine ret_k fun K hK => ?_
  obtain ⟨i0, hi, hz0, hz1, hz2⟩ := info_parts iInt
  obtain ⟨w1, hw1⟩ : ∃ w1, w1 = w.alloc (.cells #[] 3) := ⟨_, rfl⟩
  have hC1 : Chg (fun _ => False) w w1 := by rw [hw1]; exact (Chg.refl _ _).alloc _
  have h0 : Row w1 3 1 (.slice (some ⟨w.heap.size, 0, none⟩) 0 0) 0 [] := ⟨by simp, by simp, .inl ⟨rfl, _, rfl⟩⟩
  obtain ⟨v3, w3, happ, hrow3, hC3, hloc3⟩ := run_append_row (P := Try.prog) 34 34 3 i0 _ 1 8 uInts hi hz0 hz1 hz2 rfl (by decide) h0 (hsrc w1 hC1) (by intro u hu; simp [intCells] at hu; obtain ⟨x, _, rfl⟩ := hu; rfl) (by unfold maxLen; omega) (by omega)
  simp only [Nat.zero_add, List.nil_append] at hrow3
  have HF : Hid (Post K (.returned v3) w3) := hK _ _ ⟨v3, rfl, by rw [hn]; exact hrow3, hC1.trans hC3 (fun j hj hb => by simp [rowBlk] at hb), fun b hb => by
    rcases hloc3 b hb with h2 | h2
    · simp [rowBlk] at h2
    · exact Nat.le_trans hC1.size h2⟩
  clear hrow3 hC3 hloc3 hC1 h0 hK hsrc hn
  subst hw1
  go_enter Try.func43, Try.ntmps43
  go_wp2_with (at_builtin; go_must (refine wpList_val rfl (exec_append rfl happ) ?_))
  go_ret
  exact HF.out

inductive NextSpec (A : St) : Int → Bool → Int → St → Prop
  | none : A.queue = [] → NextSpec A 0 false 0 A
  | some {n q : Int} {l : List Int} {A1 : St} : A.queue = n :: l → Granted A n q A1 → NextSpec A q true 0 { A1 with queue := l }

set_option maxRecDepth 100000 in
set_option maxHeartbeats 2000000 in
theorem next_any {k m : Nat} {w : World} {g : Gh} {A : St} (hR : Rep w g A) (hg : Good k m A) (hh : A.handles.length < 9000) :
    Calls Try.prog 22 #[.pointer (some ⟨g.hb, 0, none⟩)] w fun e w' => ∃ q b er, e = .returned (.tuple #[.int .i64 q, .bool b, .int .i64 er]) ∧ Hid (∃ A' g', NextSpec A q b er A' ∧ Rep w' g' A' ∧ Step w g A w' g') := by
  refine ret_k fun K hK => ?_
  have hbig := hg.wf.big
  have hk9 := hg.wf.hk
  obtain ⟨a0, c0, hv, hle, _, hcase⟩ := hR.rQ.row.slice
  have d7 : w.cell? ⟨g.hb, 7, none⟩ = some (.slice a0 A.queue.length c0) := by rw [hR.c 7]; simp [hsCells, hv]
  cases hq : A.queue with
  | nil =>
    have HP := Lib.hid (hK _ _ ⟨0, false, 0, rfl, A, g, .none hq, hR, Step.refl w g A⟩)
    rw [hq] at d7
    clear hK hR hg hh hbig hv hle hcase hq
    go_enter Try.func22, Try.ntmps22
    go_wp2
    go_ret3
    exact HP.out
  | cons n l =>
    have HSp := Lib.hid (spare_any hR 1 (by omega) (by omega))
    obtain ⟨b, rfl, hbk⟩ : ∃ b, a0 = some ⟨b, 0, none⟩ ∧ rowBlk g.vQ = some b := by
      rcases hcase with h | h
      · rw [hq] at h; simp at h
      · exact h
    have hrow := hR.rQ.row
    rw [hv] at hrow
    obtain ⟨b', hb', _, hc⟩ := hrow.cells (by rw [hq]; simp)
    simp only [Option.some.injEq, Addr.mk.injEq, and_true] at hb'
    subst hb'
    have e0 : w.cell? ⟨b, 0, none⟩ = some (.int .i64 n) := hc 0 _ (by simp [intCells, hq])
    have hlen : A.queue.length = l.length + 1 := by rw [hq]; simp
    rw [hlen] at d7 hle
    have HH : Hid (Calls Try.prog 42 #[.pointer (some ⟨g.hb, 0, none⟩), .int .i64 n] w fun e w1 => ∃ q, e = .returned (.int .i64 q) ∧ ∃ b c, l.length + 1 ≤ c ∧ w1.cell? ⟨g.hb, 7, none⟩ = some (.slice (some ⟨b, 0, none⟩) (l.length + 1) c) ∧
        Hid (∀ a, (c = 1 → a = ⟨b, 0, none⟩) → (c ≠ 1 → a = ⟨b, 1, none⟩) → Calls Try.prog 43 #[.slice (some a) l.length (c - 1)] w1 fun e w2 => ∃ v', e = .returned v' ∧ (∃ x, w2.cell? ⟨g.hb, 7, none⟩ = some x) ∧ w2.frozen? ⟨g.hb, 7, none⟩ = false ∧ (∃ a n c, v' = .slice a n c) ∧
          Hid (Post K (.returned (.tuple #[.int .i64 q, .bool true, .int .i64 0])) (w2.setCell ⟨g.hb, 7, none⟩ v')))) := by
      refine (handle_any hR hg.free hh n).mono ?_
      rintro e w1 ⟨q, rfl, hZ⟩
      obtain ⟨A1, g1, hG, hR1, hS1⟩ := hZ.out
      have hq1 : A1.queue = A.queue := by obtain ⟨F, nx, rfl⟩ := hG.eq; rfl
      obtain ⟨a1, c1, hv1, hle1, _, hcase1⟩ := hR1.rQ.row.slice
      rw [hq1, hlen] at hv1 hle1 hcase1
      obtain ⟨b1, rfl, hbk1⟩ : ∃ b, a1 = some ⟨b, 0, none⟩ ∧ rowBlk g1.vQ = some b := by
        rcases hcase1 with h | h
        · omega
        · exact h
      have c7 := hR1.c 7
      rw [hS1.hb] at c7
      refine ⟨q, rfl, b1, c1, hle1, by rw [c7]; simp [hsCells, hv1], ?_⟩
      intro a ha1 ha2
      have hrow1 := hR1.rQ.row
      rw [hq1, hlen, hv1] at hrow1
      have hsrc : ∀ w2, Chg (fun _ => False) w1 w2 → Src' w2 1 (.slice (some a) l.length (c1 - 1)) l.length (intCells l) := by
        intro w2 hC2
        have hr2 : Row w2 3 1 (.slice (some ⟨b1, 0, none⟩) (l.length + 1) c1) (l.length + 1) (intCells A.queue) := hrow1.same fun x hx => hC2.block x (hrow1.lt hx) (fun h => h)
        by_cases hc1 : c1 = 1
        · have hl0 : l.length = 0 := by omega
          rw [ha1 hc1, hl0, List.eq_nil_of_length_eq_zero hl0]
          exact ⟨by simp [intCells], .inr ⟨rfl, _, _, rfl⟩⟩
        · have hp := hr2.part 1 l.length (c1 - 1) (by omega)
          rw [ha2 hc1]
          have e1 : ((intCells A.queue).drop (1 * 1)).take (l.length * 1) = intCells l := by
            rw [hq]
            simp only [intCells, List.map_cons, Nat.mul_one, List.drop_succ_cons, List.drop_zero]
            exact List.take_of_length_le (by simp)
          rw [e1] at hp
          exact hp
      refine (clonePart_any rfl hsrc (by omega)).mono ?_
      rintro e w2 ⟨v', rfl, hr', hC2, hfr⟩
      have hR2 := hR1.chg0 hC2
      have hhs2 := hR2.hs
      rw [hS1.hb] at hhs2
      have hne : ∀ x, rowBlk v' = some x → x ≠ g.hb := fun x hx e => by
        have := hfr x hx
        have h2 := hR1.lt g1.hb (by rw [hR1.ohs]; rfl)
        rw [hS1.hb] at h2
        omega
      have hset := hR2.setQ ((hS1.trans (Step.chg0 g1 A1 hC2) (by obtain ⟨F, nx, rfl⟩ := hG.eq; exact Int.le_refl _)) : Step w g A w2 g1) (w' := w2.setCell ⟨g.hb, 7, none⟩ v') (v1 := v') (l := l) (by rw [hS1.hb]; exact (Chg.refl _ _).setCell (fun _ => .inl rfl) _) (by rw [hS1.hb]; exact heap_setCell hhs2 7 _) (hr'.same fun x hx => heap_setCell_ne (hne x hx) _) (fun x hx => by
        have := hfr x hx
        exact .inr ⟨hR1.none_of_ge this, Nat.le_trans hS1.chg.size this⟩)
      obtain ⟨a', c', hv', _, _, _⟩ := hr'.slice
      exact ⟨v', rfl, ⟨_, by rw [cellAt hhs2]; rfl⟩, freeAt hhs2 7, ⟨_, _, _, hv'⟩, hK _ _ ⟨q, true, 0, rfl, _, _, .some hq hG, hset.1, hset.2⟩⟩
    have hlb : l.length ≤ 9000 := by omega
    clear hK hR hg hh hbig hv hcase hq hrow hc hbk
    clear hlen
    generalize l.length = ln at *
    go_enter Try.func22, Try.ntmps22
    go_wp2_with fail
    refine HSp.out.mono ?_; rintro e w1 ⟨rfl, rfl⟩
    go_wp2_with fail
    refine HH.out.mono ?_; rintro e w1 ⟨q, rfl, b1, c1, hle1, d8, HC⟩
    have s1 : (1 : Int) ≤ (ln : Int) + 1 := by omega
    by_cases hc1 : c1 = 1
    · have HC2 := Lib.hid (HC.out ⟨b1, 0, none⟩ (fun _ => rfl) (fun h => absurd hc1 h))
      subst hc1
      obtain rfl : ln = 0 := by omega
      rw [show (1 : Nat) - 1 = 0 from rfl] at HC2
      clear HC HH
      go_wp2_with fail
      refine HC2.out.mono ?_; rintro e w2 ⟨v', rfl, ⟨x, d9⟩, d10, ⟨a', n', c', rfl⟩, hZ⟩
      go_wp2
      go_ret3
      exact hZ.out
    · have HC2 := Lib.hid (HC.out ⟨b1, 1, none⟩ (fun h => absurd h hc1) (fun _ => rfl))
      clear HC HH
      go_wp2_with fail
      refine HC2.out.mono ?_; rintro e w2 ⟨v', rfl, ⟨x, d9⟩, d10, ⟨a', n', c', rfl⟩, hZ⟩
      go_wp2
      go_ret3
      exact hZ.out

set_option maxHeartbeats 1000000 in
theorem minorM_any {k m : Nat} {w : World} {g : Gh} {A : St} (hR : Rep w g A) (hg : Good k m A) :
    Calls Try.prog 16 #[.pointer (some ⟨g.hb, 0, none⟩)] w fun e w' => e = .returned (.tuple #[]) ∧ Hid (∃ S g', Found1 A S ∧ Rep w' g' (A.minored (fun n => decide (n ∈ S))) ∧ Step w g A w' g') := by
  have HM := Lib.hid (minor_any hR hg.wf hg.rem.sub)
  clear hR hg
  go_enter Try.func16, Try.ntmps16
  go_wp2_with fail
  refine HM.out.mono ?_; rintro e w1 ⟨rfl, hZ⟩
  have HZ := Lib.hid hZ
  clear hZ
  go_wp2
  go_end0
  exact ⟨rfl, HZ⟩

set_option maxHeartbeats 1000000 in
theorem majorM_any {k m : Nat} {w : World} {g : Gh} {A : St} (hR : Rep w g A) (hg : Good k m A) :
    Calls Try.prog 17 #[.pointer (some ⟨g.hb, 0, none⟩)] w fun e w' => e = .returned (.tuple #[]) ∧ Hid (∃ g', Rep w' g' A.majored ∧ Step w g A w' g') := by
  have HM := Lib.hid (major_any hR hg.wf)
  clear hR hg
  go_enter Try.func17, Try.ntmps17
  go_wp2_with fail
  refine HM.out.mono ?_; rintro e w1 ⟨rfl, hZ⟩
  have HZ := Lib.hid hZ
  clear hZ
  go_wp2
  go_end0
  exact ⟨rfl, HZ⟩

set_option maxHeartbeats 1000000 in
theorem usedM_any {k m : Nat} {w : World} {g : Gh} {A : St} (hR : Rep w g A) (hw : Wf k m A) :
    Calls Try.prog 25 #[.pointer (some ⟨g.hb, 0, none⟩)] w fun e w' => e = .returned (.int .i64 A.used) ∧ Hid (Rep w' g A ∧ Step w g A w' g) := by
  have HM := Lib.hid (used_q hR (by have := hw.used_small; omega) 0)
  clear hR hw
  go_enter Try.func25, Try.ntmps25
  go_wp2_with fail
  refine HM.out.mono ?_; rintro e w1 ⟨rfl, h, hZ⟩
  go_wp2
  go_ret
  exact ⟨rfl, hZ⟩

end Go.Proofs.Ytelghmmcbgfjnaa

/-! What holds of all states, kept by each change of a part. -/
namespace Go.Proofs.Ytelghmmcbgfjnaa
open Go.RowKit

theorem Wf.congr {k m : Nat} {A A' : St} (h : Wf k m A) (e1 : A'.objs = A.objs) (e2 : A'.names = A.names) (e3 : A'.memN = A.memN) (e4 : A'.memT = A.memT) (hro : ∀ n ∈ A'.roots, (A.objs.lookup n).isSome) (hre : ∀ n ∈ A'.reg, (A.objs.lookup n).isSome)
    (hb : A'.queue.length + A'.handles.length + A'.reg.length ≤ k) : Wf k m A' := by
  have em : ∀ old, A'.mem old = A.mem old := fun old => by unfold St.mem; rw [e3, e4]
  have ef : ∀ o, A'.fields o = A.fields o := fun o => by unfold St.fields; rw [em]
  have er : ∀ o, A'.refs o = A.refs o := fun o => by unfold St.refs; rw [ef]
  refine ⟨h.hk, h.hm, h.hkm, ⟨fun n o ho => ?_, fun n o ho => ?_, fun n o ho => ?_, by rw [e3]; exact h.fit.memN, by rw [e4]; exact h.fit.memT, by rw [e1]; exact h.fit.many, by rw [e1]; exact h.fit.nodup⟩, fun n o ho x hx => ?_, fun n hn => ?_, fun n hn => ?_, fun n o ho => ?_, hb, by rw [e1]; exact h.many, by rw [e3]; exact h.memN, by rw [e4]; exact h.memT, fun n o ho => ?_⟩
  · rw [e1] at ho; rw [em]; exact h.fit.inn n o ho
  · rw [e1] at ho; exact h.fit.size n o ho
  · rw [e1] at ho; exact h.fit.ents n o ho
  · rw [e1] at ho ⊢; rw [er] at hx; exact h.closed n o ho x hx
  · rw [e1]; exact hro n hn
  · rw [e1]; exact hre n hn
  · rw [e1] at ho; exact h.shape n o ho
  · rw [e1] at ho; rw [e2]; exact h.below n o ho

theorem Wf.noted {k m : Nat} {A : St} (h : Wf k m A) (n : Int) : Wf k m (A.noted n) := by
  rw [noted_same]
  exact h.congr rfl rfl rfl rfl h.roots h.regs h.big

/-- Remembered, but for one object, which is noted then. -/
theorem remOk_noted {A : St} {name : Int} (h1 : ∀ n ∈ A.rem, (A.objs.lookup n).isSome) (h2 : ∀ n o, n ≠ name → A.objs.lookup n = some o → o.old = true → ∀ m ∈ A.refs o, A.isYoung m = true → n ∈ A.rem) (hn : (A.objs.lookup name).isSome) : RemOk (A.noted name) := by
  obtain ⟨o, ho⟩ := Option.isSome_iff_exists.1 hn
  have e : A.noted name = if o.old && (A.refs o).any A.isYoung then (if name ∈ A.rem then A else { A with rem := A.rem ++ [name] }) else { A with rem := A.rem.filter (fun m => decide (m ≠ name)) } := by unfold St.noted; rw [ho]
  have hrem : ∀ n, n ∈ (A.noted name).rem ↔ (n = name ∧ (o.old && (A.refs o).any A.isYoung) = true) ∨ (n ≠ name ∧ n ∈ A.rem) := by
    intro n
    rw [e]
    by_cases hc : (o.old && (A.refs o).any A.isYoung) = true
    · rw [if_pos hc]
      by_cases hm : name ∈ A.rem
      · rw [if_pos hm]
        constructor
        · intro hn
          by_cases en : n = name
          · exact .inl ⟨en, hc⟩
          · exact .inr ⟨en, hn⟩
        · rintro (⟨rfl, _⟩ | ⟨_, h⟩)
          · exact hm
          · exact h
      · rw [if_neg hm]
        show n ∈ A.rem ++ [name] ↔ _
        rw [List.mem_append, List.mem_singleton]
        constructor
        · rintro (h | h)
          · exact .inr ⟨fun en => hm (en ▸ h), h⟩
          · exact .inl ⟨h, hc⟩
        · rintro (⟨h, _⟩ | ⟨_, h⟩)
          · exact .inr h
          · exact .inl h
    · rw [if_neg hc]
      show n ∈ A.rem.filter (fun m => decide (m ≠ name)) ↔ _
      rw [List.mem_filter, decide_eq_true_eq]
      constructor
      · rintro ⟨h, hne⟩; exact .inr ⟨hne, h⟩
      · rintro (⟨_, h⟩ | ⟨hne, h⟩)
        · exact absurd h hc
        · exact ⟨h, hne⟩
  have es := noted_same A name
  have hobj : (A.noted name).objs = A.objs := by rw [es]
  have hyo : ∀ m, (A.noted name).isYoung m = A.isYoung m := fun m => by unfold St.isYoung; rw [hobj]
  have hrf : ∀ o, (A.noted name).refs o = A.refs o := fun o => by
    rw [es]; rfl
  refine ⟨fun n hn' => ?_, fun n x hx hold m hm hy => ?_⟩
  · rw [hobj]
    rcases (hrem n).1 hn' with ⟨rfl, _⟩ | ⟨_, h⟩
    · exact hn
    · exact h1 n h
  · rw [hobj] at hx
    rw [hrf] at hm
    rw [hyo] at hy
    rw [hrem]
    by_cases en : n = name
    · subst en
      rw [ho] at hx
      simp only [Option.some.injEq] at hx
      subst hx
      left
      refine ⟨rfl, ?_⟩
      rw [hold, Bool.true_and, List.any_eq_true]
      exact ⟨m, hm, hy⟩
    · exact .inr ⟨en, h2 n x en hx hold m hm hy⟩

theorem RemOk.congr {A A' : St} (h : RemOk A) (e1 : A'.objs = A.objs) (e2 : A'.rem = A.rem) (e3 : A'.memN = A.memN) (e4 : A'.memT = A.memT) : RemOk A' := by
  have em : ∀ old, A'.mem old = A.mem old := fun old => by unfold St.mem; rw [e3, e4]
  have er : ∀ o, A'.refs o = A.refs o := fun o => by unfold St.refs St.fields; rw [em]
  have ey : ∀ n, A'.isYoung n = A.isYoung n := fun n => by unfold St.isYoung; rw [e1]
  exact ⟨fun n hn => by rw [e2] at hn; rw [e1]; exact h.sub n hn, fun n o ho hold m hm hy => by rw [e1] at ho; rw [er] at hm; rw [ey] at hy; rw [e2]; exact h.all n o ho hold m hm hy⟩

/-! ### Handles -/

theorem Good.granted {k m : Nat} {A A' : St} {name n : Int} (h : Good k m A) (hG : Granted A name n A') (hn : (A.objs.lookup name).isSome) (hb : A.queue.length + A.handles.length + A.reg.length + 1 ≤ k) : Good k m A' := by
  obtain ⟨F, nx, rfl⟩ := hG.eq
  refine ⟨h.wf.congr rfl rfl rfl rfl ?_ h.wf.regs ?_, h.rem.congr rfl rfl rfl rfl, hG.ok⟩
  · intro x hx
    rcases mem_roots.1 hx with hx | ⟨p, hp, rfl⟩
    · exact h.wf.roots x (mem_roots.2 (.inl hx))
    · have hp' : p ∈ A.handles ++ [(n, name)] := hp
      rcases List.mem_append.1 hp' with hp' | hp'
      · exact h.wf.roots _ (mem_roots.2 (.inr ⟨p, hp', rfl⟩))
      · simp at hp'; subst hp'; exact hn
  · show A.queue.length + (A.handles ++ [(n, name)]).length + A.reg.length ≤ k
    rw [List.length_append, List.length_singleton]; omega

theorem Good.dropped {k m : Nat} {A A' : St} {n : Int} {er : Int} (h : Good k m A) (hD : DropSpec A n er A') : Good k m A' := by
  cases hD with
  | none _ => exact h
  | @ok name F hl hF =>
    refine ⟨h.wf.congr rfl rfl rfl rfl ?_ h.wf.regs ?_, h.rem.congr rfl rfl rfl rfl, hF⟩
    · intro x hx
      rcases mem_roots.1 hx with hx | ⟨p, hp, rfl⟩
      · exact h.wf.roots x (mem_roots.2 (.inl hx))
      · exact h.wf.roots _ (mem_roots.2 (.inr ⟨p, (List.mem_filter.1 hp).1, rfl⟩))
    · have h1 := h.wf.big
      have h2 : (delH A.handles n).length ≤ A.handles.length := List.length_filter_le _ _
      show A.queue.length + (delH A.handles n).length + A.reg.length ≤ k
      omega

theorem Good.fin {k m : Nat} {A A' : St} {n : Int} {b : Bool} {er : Int} (h : Good k m A) (hD : FinSpec A n b er A') (hb : A.queue.length + A.handles.length + A.reg.length + 1 ≤ k) : Good k m A' := by
  cases hD with
  | none _ => exact h
  | again _ _ => exact h
  | @new name hl _ =>
    refine ⟨h.wf.congr rfl rfl rfl rfl (fun x hx => h.wf.roots x hx) ?_ ?_, h.rem.congr rfl rfl rfl rfl, h.free.congr rfl rfl rfl⟩
    · intro x hx
      have hx' : x ∈ A.reg ++ [name] := hx
      rcases List.mem_append.1 hx' with hx' | hx'
      · exact h.wf.regs x hx'
      · simp at hx'; subst hx'; exact h.wf.hob n x hl
    · show A.queue.length + A.handles.length + (A.reg ++ [name]).length ≤ k
      rw [List.length_append, List.length_singleton]; omega

theorem Good.next {k m : Nat} {A A' : St} {q : Int} {b : Bool} {er : Int} (h : Good k m A) (hD : NextSpec A q b er A') : Good k m A' := by
  cases hD with
  | none _ => exact h
  | @some n q l A1 hq hG =>
    obtain ⟨F, nx, rfl⟩ := hG.eq
    have hn : (A.objs.lookup n).isSome := h.wf.roots n (mem_roots.2 (.inl (by rw [hq]; simp)))
    refine ⟨h.wf.congr rfl rfl rfl rfl ?_ h.wf.regs ?_, h.rem.congr rfl rfl rfl rfl, hG.ok.congr rfl rfl rfl⟩
    · intro x hx
      rcases mem_roots.1 hx with hx | ⟨p, hp, rfl⟩
      · exact h.wf.roots x (mem_roots.2 (.inl (by rw [hq]; exact List.mem_cons_of_mem _ hx)))
      · have hp' : p ∈ A.handles ++ [(q, n)] := hp
        rcases List.mem_append.1 hp' with hp' | hp'
        · exact h.wf.roots _ (mem_roots.2 (.inr ⟨p, hp', rfl⟩))
        · simp at hp'; subst hp'; exact hn
    · have h1 := h.wf.big
      rw [hq] at h1
      show l.length + (A.handles ++ [(q, n)]).length + A.reg.length ≤ k
      rw [List.length_append, List.length_singleton]
      simp only [List.length_cons] at h1
      omega

/-! ### An object added -/

theorem area_grow (A : St) (old : Bool) (ws : List Wd) (o : Ob) (hin : o.at_ + 1 + o.size ≤ (A.mem o.old).length) : (A.setMem old (A.mem old ++ ws)).area o = A.area o := by
  unfold St.area
  by_cases e : o.old = old
  · subst e
    rw [setMem_mem, List.drop_append_of_le_length (by omega), List.take_append_of_le_length (by rw [List.length_drop]; omega)]
  · have : (A.setMem old (A.mem old ++ ws)).mem o.old = A.mem o.old := by
      cases ho : o.old <;> cases old <;> simp [ho] at e <;> rfl
    rw [this]
theorem mem_grow (A : St) (old : Bool) (ws : List Wd) (o : Bool) : (A.mem o).length ≤ ((A.setMem old (A.mem old ++ ws)).mem o).length := by
  by_cases e : o = old
  · subst e
    rw [setMem_mem, List.length_append]; omega
  · have : (A.setMem old (A.mem old ++ ws)).mem o = A.mem o := by
      cases ho : o <;> cases old <;> simp [ho] at e <;> rfl
    rw [this]; exact Nat.le_refl _

/-- The state with a new object, ahead of the note. -/
def St.bare (A : St) (table old : Bool) (ws : List Wd) : St := { A.setMem old (A.mem old ++ ws) with names := A.names + 1 }.addOb A.names (A.newOb table old ws)

theorem bare_lookup_new {k m : Nat} {A : St} (h : Wf k m A) (table old : Bool) (ws : List Wd) : (A.bare table old ws).objs.lookup A.names = some (A.newOb table old ws) := by
  show ((A.setMem old (A.mem old ++ ws)).objs ++ [(A.names, A.newOb table old ws)]).lookup A.names = _
  rw [setMem_objs]
  exact lookup_append_new h.new_name
theorem bare_lookup_old (A : St) (table old : Bool) (ws : List Wd) {n : Int} (hn : n ≠ A.names) : (A.bare table old ws).objs.lookup n = A.objs.lookup n := by
  show ((A.setMem old (A.mem old ++ ws)).objs ++ [(A.names, A.newOb table old ws)]).lookup n = _
  rw [setMem_objs]
  exact lookup_append_old hn
theorem bare_lookup {k m : Nat} {A : St} (h : Wf k m A) (table old : Bool) (ws : List Wd) {n : Int} {o : Ob} (ho : (A.bare table old ws).objs.lookup n = some o) : (n = A.names ∧ o = A.newOb table old ws) ∨ (n ≠ A.names ∧ A.objs.lookup n = some o) := by
  by_cases e : n = A.names
  · subst e
    rw [bare_lookup_new h] at ho
    simp only [Option.some.injEq] at ho
    exact .inl ⟨rfl, ho.symm⟩
  · rw [bare_lookup_old _ _ _ _ e] at ho
    exact .inr ⟨e, ho⟩
theorem bare_area {k m : Nat} {A : St} (h : Wf k m A) (table old : Bool) (ws : List Wd) {n : Int} {o : Ob} (ho : A.objs.lookup n = some o) : (A.bare table old ws).area o = A.area o := area_grow A old ws o (h.fit.inn n o ho)
theorem bare_area_new (A : St) (table old : Bool) (ws : List Wd) (hws : 1 ≤ ws.length) : (A.bare table old ws).area (A.newOb table old ws) = ws := by
  show (((A.setMem old (A.mem old ++ ws)).mem old).drop (A.mem old).length).take (1 + (ws.length - 1)) = ws
  rw [setMem_mem, List.drop_left, List.take_of_length_le (by omega)]
theorem bare_refs {k m : Nat} {A : St} (h : Wf k m A) (table old : Bool) (ws : List Wd) {n : Int} {o : Ob} (ho : A.objs.lookup n = some o) : (A.bare table old ws).refs o = A.refs o := by
  unfold St.refs
  rw [fields_area, fields_area, bare_area h _ _ _ ho]
theorem bare_refs_new (A : St) (table old : Bool) (ws : List Wd) (hws : 1 ≤ ws.length) : (A.bare table old ws).refs (A.newOb table old ws) = refsW (ws.drop 1) := by
  unfold St.refs
  rw [fields_area, bare_area_new _ _ _ _ hws]
  simp [St.newOb, refsE]

theorem Wf.bare {k m : Nat} {A : St} (h : Wf k m A) {table old : Bool} {ws : List Wd} (hws : 1 ≤ ws.length ∧ ws.length ≤ 201) (hrefs : ∀ x ∈ refsW (ws.drop 1), (A.objs.lookup x).isSome) (htab : table = true → ws.length = 1)
    (hk : A.objs.length + 1 ≤ k) (hN : old = false → A.memN.length + ws.length ≤ 1001 * k) (hT : old = true → A.memT.length + ws.length ≤ m) : Wf k m (A.bare table old ws) := by
  have hk9 := h.hk
  have hm := h.hm
  have some_old : ∀ n, (A.objs.lookup n).isSome → ((A.bare table old ws).objs.lookup n).isSome := fun n hn => by
    by_cases e : n = A.names
    · subst e; rw [bare_lookup_new h]; rfl
    · rw [bare_lookup_old _ _ _ _ e]; exact hn
  have hlen : (A.bare table old ws).objs.length = A.objs.length + 1 := by
    show ((A.setMem old (A.mem old ++ ws)).objs ++ [_]).length = _
    rw [setMem_objs]; simp
  have hmN : (A.bare table old ws).memN.length ≤ 1001 * k := by
    show (A.setMem old (A.mem old ++ ws)).memN.length ≤ _
    cases old with
    | true => exact h.memN
    | false =>
      show (A.memN ++ ws).length ≤ _
      rw [List.length_append]; exact hN rfl
  have hmT : (A.bare table old ws).memT.length ≤ m := by
    show (A.setMem old (A.mem old ++ ws)).memT.length ≤ _
    cases old with
    | true =>
      show (A.memT ++ ws).length ≤ _
      rw [List.length_append]; exact hT rfl
    | false => exact h.memT
  refine ⟨h.hk, h.hm, h.hkm, ⟨fun n o ho => ?_, fun n o ho => ?_, fun n o ho => ?_, by omega, by omega, by omega, ?_⟩, fun n o ho x hx => ?_, fun n hn => ?_, fun n hn => ?_, fun n o ho => ?_, ?_, by omega, hmN, hmT, fun n o ho => ?_⟩
  · rcases bare_lookup h _ _ _ ho with ⟨_, rfl⟩ | ⟨_, ho'⟩
    · show (A.mem old).length + 1 + (ws.length - 1) ≤ ((A.setMem old (A.mem old ++ ws)).mem old).length
      rw [setMem_mem, List.length_append]; omega
    · exact Nat.le_trans (h.fit.inn n o ho') (mem_grow A old ws o.old)
  · rcases bare_lookup h _ _ _ ho with ⟨_, rfl⟩ | ⟨_, ho'⟩
    · show ws.length - 1 ≤ 1000; omega
    · exact h.fit.size n o ho'
  · rcases bare_lookup h _ _ _ ho with ⟨_, rfl⟩ | ⟨_, ho'⟩
    · show (0 : Nat) ≤ 1000; omega
    · exact h.fit.ents n o ho'
  · show (((A.setMem old (A.mem old ++ ws)).objs ++ [(A.names, A.newOb table old ws)]).map (·.1)).Nodup
    rw [setMem_objs, List.map_append, List.nodup_append]
    refine ⟨h.fit.nodup, by simp, fun a ha b hb e => ?_⟩
    simp only [List.map_cons, List.map_nil, List.mem_singleton] at hb
    rw [e, hb] at ha
    exact h.new_name ha
  · rcases bare_lookup h _ _ _ ho with ⟨_, rfl⟩ | ⟨_, ho'⟩
    · rw [bare_refs_new _ _ _ _ hws.1] at hx
      exact some_old x (hrefs x hx)
    · rw [bare_refs h _ _ _ ho'] at hx
      exact some_old x (h.closed n o ho' x hx)
  · have e : (A.bare table old ws).roots = A.roots := by
      unfold St.roots
      show (A.setMem old (A.mem old ++ ws)).queue ++ (A.setMem old (A.mem old ++ ws)).handles.map (·.2) = _
      have hs := setMem_same A old (A.mem old ++ ws)
      rw [hs.2.2.2.2.1, hs.2.2.1]
    rw [e] at hn
    exact some_old n (h.roots n hn)
  · have e : (A.bare table old ws).reg = A.reg := (setMem_same A old (A.mem old ++ ws)).2.2.2.1
    rw [e] at hn
    exact some_old n (h.regs n hn)
  · rcases bare_lookup h _ _ _ ho with ⟨_, rfl⟩ | ⟨_, ho'⟩
    · exact ⟨fun ht => by have := htab ht; show ws.length - 1 = 0; omega, fun _ => rfl⟩
    · exact h.shape n o ho'
  · have hs := setMem_same A old (A.mem old ++ ws)
    show (A.setMem old (A.mem old ++ ws)).queue.length + (A.setMem old (A.mem old ++ ws)).handles.length + (A.setMem old (A.mem old ++ ws)).reg.length ≤ k
    rw [hs.2.2.2.2.1, hs.2.2.1, hs.2.2.2.1]; exact h.big
  · show n < A.names + 1
    rcases bare_lookup h _ _ _ ho with ⟨rfl, _⟩ | ⟨_, ho'⟩
    · omega
    · have := h.below n o ho'; omega

theorem added_eq (A : St) (table old : Bool) (ws : List Wd) : A.added table old ws = (A.bare table old ws).noted A.names := rfl

theorem remOk_added {k m : Nat} {A : St} (h : Wf k m A) (hr : RemOk A) {table old : Bool} {ws : List Wd} : RemOk (A.added table old ws) := by
  rw [added_eq]
  have hs := setMem_same A old (A.mem old ++ ws)
  have hrem : (A.bare table old ws).rem = A.rem := hs.2.2.2.2.2.2.2.2.2
  have hnew := bare_lookup_new h table old ws
  refine remOk_noted (fun n hn => ?_) (fun n o hne ho hold x hx hy => ?_) (by rw [hnew]; rfl)
  · rw [hrem] at hn
    have := hr.sub n hn
    by_cases e : n = A.names
    · rw [e, hnew]; rfl
    · rw [bare_lookup_old _ _ _ _ e]; exact this
  · rw [bare_lookup_old _ _ _ _ hne] at ho
    rw [hrem]
    rw [bare_refs h _ _ _ ho] at hx
    refine hr.all n o ho hold x hx ?_
    have hxs := h.closed n o ho x hx
    obtain ⟨xo, hxo⟩ := Option.isSome_iff_exists.1 hxs
    have hxn : x ≠ A.names := fun e => by have := h.below x xo hxo; omega
    unfold St.isYoung at hy ⊢
    rw [bare_lookup_old _ _ _ _ hxn] at hy
    exact hy

/-! ### The entries of a table -/

theorem setTab_lookup {A : St} {name : Int} {o : Ob} (hm : A.objs.lookup name = some o) (l : List En) {n : Int} {o' : Ob} (h : (A.setOb name { o with ents := l }).objs.lookup n = some o') : (n = name ∧ o' = { o with ents := l }) ∨ (n ≠ name ∧ A.objs.lookup n = some o') := by
  by_cases e : n = name
  · subst e
    rw [lookup_setOb_self A n _ o hm] at h
    simp only [Option.some.injEq] at h
    exact .inl ⟨rfl, h.symm⟩
  · rw [lookup_setOb _ _ _ _ e] at h
    exact .inr ⟨e, h⟩
theorem setOb_isSome {A : St} {name : Int} {o o1 : Ob} (hm : A.objs.lookup name = some o) (n : Int) : ((A.setOb name o1).objs.lookup n).isSome = (A.objs.lookup n).isSome := by
  by_cases e : n = name
  · subst e; rw [lookup_setOb_self A n _ o hm, hm]; rfl
  · rw [lookup_setOb _ _ _ _ e]

theorem Wf.setTab {k m : Nat} {A : St} (h : Wf k m A) {name : Int} {o : Ob} (hm : A.objs.lookup name = some o) (ht : o.table = true) {l : List En} (hl : l.length ≤ 1000) (hin : ∀ x ∈ refsE l, (A.objs.lookup x).isSome) : Wf k m (A.setOb name { o with ents := l }) := by
  have hkeys := setOb_keys A name { o with ents := l }
  have hlen : (A.setOb name { o with ents := l }).objs.length = A.objs.length := by simp [St.setOb]
  refine ⟨h.hk, h.hm, h.hkm, ⟨fun n o' ho => ?_, fun n o' ho => ?_, fun n o' ho => ?_, h.fit.memN, h.fit.memT, by rw [hlen]; exact h.fit.many, by rw [hkeys]; exact h.fit.nodup⟩, fun n o' ho x hx => ?_, fun n hn => ?_, fun n hn => ?_, fun n o' ho => ?_, h.big, by rw [hlen]; exact h.many, h.memN, h.memT, fun n o' ho => ?_⟩
  · rcases setTab_lookup hm l ho with ⟨_, rfl⟩ | ⟨_, ho'⟩
    · exact h.fit.inn name o hm
    · exact h.fit.inn n o' ho'
  · rcases setTab_lookup hm l ho with ⟨_, rfl⟩ | ⟨_, ho'⟩
    · exact h.fit.size name o hm
    · exact h.fit.size n o' ho'
  · rcases setTab_lookup hm l ho with ⟨_, rfl⟩ | ⟨_, ho'⟩
    · exact hl
    · exact h.fit.ents n o' ho'
  · rw [setOb_isSome hm]
    rcases setTab_lookup hm l ho with ⟨_, rfl⟩ | ⟨_, ho'⟩
    · have hx' : x ∈ refsW (A.fields o) ++ refsE l := hx
      rcases List.mem_append.1 hx' with hx' | hx'
      · rw [fields_nil ((h.shape name o hm).1 ht)] at hx'
        simp [refsW] at hx'
      · exact hin x hx'
    · exact h.closed n o' ho' x hx
  · rw [setOb_isSome hm]; exact h.roots n hn
  · rw [setOb_isSome hm]; exact h.regs n hn
  · rcases setTab_lookup hm l ho with ⟨_, rfl⟩ | ⟨_, ho'⟩
    · exact ⟨(h.shape name o hm).1, fun hf => by rw [ht] at hf; cases hf⟩
    · exact h.shape n o' ho'
  · rcases setTab_lookup hm l ho with ⟨rfl, _⟩ | ⟨_, ho'⟩
    · exact h.below _ o hm
    · exact h.below n o' ho'

theorem remOk_setTab {A : St} (hr : RemOk A) {name : Int} {o : Ob} (hm : A.objs.lookup name = some o) {l : List En} : RemOk (A.setTab name o l) := by
  unfold St.setTab
  refine remOk_noted (fun n hn => ?_) (fun n o' hne ho hold x hx hy => ?_) ?_
  · rw [setOb_isSome hm]; exact hr.sub n hn
  · rw [lookup_setOb _ _ _ _ hne] at ho
    refine hr.all n o' ho hold x hx ?_
    unfold St.isYoung at hy ⊢
    by_cases e : x = name
    · subst e
      rw [lookup_setOb_self A x _ o hm] at hy
      rw [hm]; exact hy
    · rw [lookup_setOb _ _ _ _ e] at hy
      exact hy
  · rw [setOb_isSome hm, hm]; rfl

theorem Good.setTab {k m : Nat} {A : St} (h : Good k m A) {name : Int} {o : Ob} (hm : A.objs.lookup name = some o) (ht : o.table = true) {l : List En} (hl : l.length ≤ 1000) (hin : ∀ x ∈ refsE l, (A.objs.lookup x).isSome) : Good k m (A.setTab name o l) := by
  refine ⟨(h.wf.setTab hm ht hl hin).noted name, remOk_setTab h.rem hm, h.free.congr ?_ ?_ ?_⟩
  · unfold St.setTab; rw [noted_same]; rfl
  · unfold St.setTab; rw [noted_same]; rfl
  · unfold St.setTab; rw [noted_same]; rfl

end Go.Proofs.Ytelghmmcbgfjnaa

/-! The operations of the ideal heap, and that the states follow them. -/
namespace Go.Proofs.Ytelghmmcbgfjnaa
open Go.RowKit

open Classical in
noncomputable def freshOf (ks : List Int) : Int := if h : ∃ n, Least ks n then Classical.choose h else 0
theorem freshOf_eq {ks : List Int} {n : Int} (h : Least ks n) : freshOf ks = n := by
  unfold freshOf
  have hex : ∃ n, Least ks n := ⟨n, h⟩
  rw [dif_pos hex]
  exact (Classical.choose_spec hex).eq h

noncomputable def IS.fresh (I : IS) : Int := freshOf (I.hs.map (·.1))
noncomputable def IS.grant (I : IS) (name : Int) : IS := { I with hs := I.hs ++ [(I.fresh, name)] }
def IS.okC (I : IS) (c : Wd) : Bool := !c.ref || (I.hs.lookup c.num).isSome
def IS.wordC (I : IS) (c : Wd) : Wd := if c.ref then ⟨true, (I.hs.lookup c.num).getD 0⟩ else ⟨false, c.num⟩
def IS.add (I : IS) (d : Nd) : IS := { I with nodes := I.nodes ++ [d] }
noncomputable def IS.adds (I : IS) (n : Nat) (d : Nd) : Int × Int × IS := if (I.words I.live : Int) + n ≤ I.room then (I.fresh, 0, (I.add d).grant I.nodes.length) else (0, 220, I)
noncomputable def IS.make (I : IS) (tag : Int) (cs : List Wd) : Int × Int × IS :=
  if cs.all I.okC then (if tag < 0 ∨ 200 < cs.length then (0, 1, I) else I.adds (cs.length + 1) ⟨false, tag, cs.map I.wordC, [], false⟩) else (0, 221, I)
noncomputable def IS.table (I : IS) : Int × Int × IS := I.adds 1 ⟨true, 0, [], [], false⟩
def IS.drop (I : IS) (h : Int) : Int × IS := match I.hs.lookup h with
  | none => (221, I)
  | some _ => (0, { I with hs := delH I.hs h })
def IS.fin (I : IS) (h : Int) : Bool × Int × IS := match I.hs.lookup h with
  | none => (false, 221, I)
  | some n => if n ∈ I.reg then (false, 0, I) else (true, 0, { I with reg := I.reg ++ [n] })
noncomputable def IS.next (I : IS) : Int × Bool × Int × IS := match I.queue with
  | [] => (0, false, 0, I)
  | n :: l => (I.fresh, true, 0, { I.grant n with queue := l })
def IS.setEnts (I : IS) (n : Int) (f : List En → List En) : IS := { I with nodes := I.nodes.modify n.toNat fun d => { d with ents := f d.ents } }

/-- A state shows an ideal heap, and all is well. m: how many times the old space may have grown. -/
structure HS (A : St) (I : IS) (m : Nat) : Prop where
  good : Good 9000 100000000000 A
  sim : Sim A I
  memT : A.memT.length ≤ 9009000 + 9010000 * m
  full : A.full ≤ 60000
  young : A.young ≤ 60000
  uniq : ∀ n d, I.nd n = some d → (d.ents.map (·.key)).Nodup
  keys : ∀ n d, I.nd n = some d → ∀ x ∈ d.ents, x.key < I.nodes.length

theorem Sim.make {k m : Nat} {A : St} {I : IS} (hw : Wf k m A) (names : A.names = I.nodes.length) (hs : A.handles = I.hs) (reg : A.reg = I.reg) (queue : A.queue = I.queue) (room : A.full = I.room)
    (obj : ∀ n o, A.objs.lookup n = some o → ∃ d, I.nd n = some d ∧ o.table = d.table ∧ o.size = d.flds.length ∧ A.area o = ⟨false, d.tag⟩ :: d.flds ∧ o.ents = d.ents.filter (fun x => (A.objs.lookup x.key).isSome) ∧ d.gone = false) : Sim A I := by
  refine ⟨names, hs, reg, queue, room, obj, fun n hn => ?_⟩
  have hro : I.roots = A.roots := by unfold IS.roots St.roots; rw [queue, hs]
  induction hn with
  | root h1 =>
    rw [hro, ← reg] at h1
    rcases List.mem_append.1 h1 with h1 | h1
    · exact hw.roots _ h1
    · exact hw.regs _ h1
  | field _ ho ht hm ih =>
    obtain ⟨o, hlo⟩ := Option.isSome_iff_exists.1 ih
    obtain ⟨d, g1, _, _, g4, _⟩ := obj _ _ hlo
    rw [ho] at g1
    simp only [Option.some.injEq] at g1
    subst g1
    refine hw.closed _ _ hlo _ (mem_refs.2 (.inl ?_))
    rw [fields_area, g4]; exact hm
  | entry _ ho ht hx _ hr ih1 ih2 =>
    obtain ⟨o, hlo⟩ := Option.isSome_iff_exists.1 ih1
    obtain ⟨d, g1, _, _, _, g5, _⟩ := obj _ _ hlo
    rw [ho] at g1
    simp only [Option.some.injEq] at g1
    subst g1
    exact hw.closed _ _ hlo _ (mem_refs.2 (.inr ⟨_, by rw [g5]; exact List.mem_filter.2 ⟨hx, ih2⟩, .inr ⟨hr, rfl⟩⟩))

theorem HS.okC {A : St} {I : IS} {m : Nat} (h : HS A I m) (c : Wd) : A.okC c = I.okC c := by unfold St.okC IS.okC; rw [h.sim.hs]
theorem HS.wordC {A : St} {I : IS} {m : Nat} (h : HS A I m) (c : Wd) : A.wordC c = I.wordC c := by
  unfold St.wordC St.inW IS.wordC
  rw [h.sim.hs]
  split
  · cases I.hs.lookup c.num <;> rfl
  · rfl

theorem HS.few {A : St} {I : IS} {m : Nat} (h : HS A I m) : A.objs.length ≤ I.nodes.length := by
  have := length_range (l := A.objs.map (·.1)) (m := I.nodes.length) h.good.wf.fit.nodup fun n hn => by
    obtain ⟨⟨a, o⟩, hm, rfl⟩ := List.mem_map.1 hn
    have hl := lookup_of_mem h.good.wf.fit.nodup hm
    obtain ⟨d, g1, _⟩ := h.sim.obj _ _ hl
    obtain ⟨k1, k2, _⟩ := IS.nd_nat g1
    exact ⟨k1, by show a < _; omega⟩
  simpa using this

/-- One more operation does no harm. -/
theorem HS.more {A : St} {I : IS} {m m' : Nat} (h : HS A I m) (hm : m ≤ m') : HS A I m' := { h with memT := by have := h.memT; omega }

/-! ### room -/

theorem HS.room {A A' : St} {I : IS} {m : Nat} (h : HS A I m) {n : Nat} {r : Bool} (hr : RoomR A n A' r) : HS A' I m ∧ r = decide ((I.words I.live : Int) + n ≤ I.room) := by
  have hu := h.sim.used_le h.good.wf.fit.nodup
  rcases hr with ⟨rfl, h1, rfl⟩ | ⟨rfl, h1⟩
  · refine ⟨h, (decide_eq_true ?_).symm⟩
    have := h.sim.room
    omega
  · have hs := cleaned_same h.good.wf
    have hg := RoomR.good (.inr ⟨rfl, h1⟩ : RoomR A n A.cleaned r) h.good
    refine ⟨⟨hg, h.sim.cleaned h.good.wf, ?_, by rw [hs.2.2.2.2.2.2.2]; exact h.full, by rw [hs.2.1]; exact h.young, h.uniq, h.keys⟩, ?_⟩
    · have h1 := (settled_I h.good.wf.swept.fit).memT
      rw [sorted_length] at h1
      have h2 := h.good.wf.swept.many
      have h4 : A.cleaned.memT.length ≤ 1001 * A.swept.objs.length := h1
      omega
    · rw [h1, h.sim.used_cleaned h.good.wf, h.sim.room]

/-! ### minor, major -/

set_option maxRecDepth 100000 in
theorem HS.minorOr {A A1 : St} {I : IS} {m : Nat} (h : HS A I m) (hm : m < 9000) (hM : MinoredOr A A1) : HS A1 I (m + 1) ∧ A1.memT.length ≤ 9009000 + 9010000 * m + 9009000 := by
  have hT := h.memT
  have hl : A1.memT.length ≤ A.memT.length + 9009000 := by
    cases hM with
    | same => omega
    | @minor S hS =>
      have h1 := (minored_I (fun n => decide (n ∈ S)) h.good.wf.fit).memT
      rw [sorted_length] at h1
      have h2 := h.good.wf.many
      refine Nat.le_trans h1 ?_
      omega
  have hs := hM.sames h.good.wf
  have hw1 := hM.wf h.good.wf h.good.rem (m' := 100000000000) (by omega) (by omega) (by omega)
  have hgd : Good 9000 100000000000 A1 := ⟨hw1, hM.remOk h.good.wf.fit h.good.rem, h.good.free.congr hs.2.2.2.2.2.1 hs.2.2.2.2.2.2.1 hs.2.2.1⟩
  have hsm := hM.sim h.good.wf.fit h.good.rem h.sim
  have hb2 : A1.memT.length ≤ 9009000 + 9010000 * m + 9009000 := Nat.le_trans hl (Nat.add_le_add_right hT _)
  have hb : A1.memT.length ≤ 9009000 + 9010000 * (m + 1) := by
    refine Nat.le_trans hb2 ?_
    rw [Nat.mul_add]
    clear hb2 hl hT hs
    omega
  exact ⟨⟨hgd, hsm, hb, by rw [hs.2.2.2.2.2.2.2]; exact h.full, by rw [hs.2.1]; exact h.young, h.uniq, h.keys⟩, hb2⟩

theorem IS.nd_majored_some {I : IS} {n : Int} {d : Nd} (h : I.majored.nd n = some d) : ∃ d0, I.nd n = some d0 ∧ d = { d0 with gone := !I.live n } := by
  rw [IS.nd_majored] at h
  cases hn : I.nd n with
  | none => rw [hn] at h; cases h
  | some d0 => rw [hn] at h; simp only [Option.map_some, Option.some.injEq] at h; exact ⟨d0, rfl, h.symm⟩

theorem HS.major {A : St} {I : IS} {m : Nat} (h : HS A I m) : HS A.majored I.majored m := by
  have hw := h.good.wf
  have hsame := settled_same hw.awaited.swept.fit
  have hT := (settled_I hw.awaited.swept.fit).memT
  rw [sorted_length] at hT
  have h2 := hw.awaited.swept.many
  refine ⟨⟨hw.awaited.swept.settled, (settled_allOld hw.awaited.swept.fit).remOk, h.good.free.congr hsame.2.2.2.2.2.1 hsame.2.2.2.2.2.2.1 hsame.2.2.1⟩, h.sim.majored hw, ?_, ?_, ?_, fun n d hd => ?_, fun n d hd x hx => ?_⟩
  · have h4 : A.majored.memT.length ≤ 1001 * A.awaited.swept.objs.length := hT
    omega
  · show A.awaited.swept.settled.full ≤ _
    rw [hsame.2.2.2.2.2.2.2]; exact h.full
  · show A.awaited.swept.settled.young ≤ _
    rw [hsame.2.1]; exact h.young
  · obtain ⟨d0, h0, rfl⟩ := IS.nd_majored_some hd
    exact h.uniq n d0 h0
  · obtain ⟨d0, h0, rfl⟩ := IS.nd_majored_some hd
    have hlen : I.majored.nodes.length = I.nodes.length := by simp [IS.majored]
    rw [hlen]
    exact h.keys n d0 h0 x hx

/-! ### Handles -/

theorem HS.grant {A A' : St} {I : IS} {m : Nat} (h : HS A I m) {name n : Int} (hG : Granted A name n A') (hn : (A.objs.lookup name).isSome) (hb : I.queue.length + I.hs.length + I.reg.length + 1 ≤ 9000) : n = I.fresh ∧ HS A' (I.grant name) m := by
  have hf : n = I.fresh := by
    unfold IS.fresh
    rw [← h.sim.hs]
    exact (freshOf_eq hG.least).symm
  have hgood := h.good.granted hG hn (by rw [h.sim.queue, h.sim.hs, h.sim.reg]; exact hb)
  refine ⟨hf, ?_⟩
  obtain ⟨F, nx, rfl⟩ := hG.eq
  refine ⟨hgood, Sim.make hgood.wf h.sim.names ?_ h.sim.reg h.sim.queue h.sim.room h.sim.obj, h.memT, h.full, h.young, h.uniq, h.keys⟩
  show A.handles ++ [(n, name)] = I.hs ++ [(I.fresh, name)]
  rw [h.sim.hs, hf]

theorem HS.dropped {A A' : St} {I : IS} {m : Nat} (h : HS A I m) {n er : Int} (hD : DropSpec A n er A') : er = (I.drop n).1 ∧ HS A' (I.drop n).2 m := by
  have hgood := h.good.dropped hD
  cases hD with
  | none hl =>
    rw [h.sim.hs] at hl
    unfold IS.drop
    rw [hl]
    exact ⟨rfl, h⟩
  | @ok name F hl hF =>
    rw [h.sim.hs] at hl
    unfold IS.drop
    rw [hl]
    exact ⟨rfl, hgood, Sim.make hgood.wf h.sim.names (by show delH A.handles n = _; rw [h.sim.hs]) h.sim.reg h.sim.queue h.sim.room h.sim.obj, h.memT, h.full, h.young, h.uniq, h.keys⟩

theorem HS.finalized {A A' : St} {I : IS} {m : Nat} (h : HS A I m) {n er : Int} {b : Bool} (hD : FinSpec A n b er A') (hb : I.queue.length + I.hs.length + I.reg.length + 1 ≤ 9000) : b = (I.fin n).1 ∧ er = (I.fin n).2.1 ∧ HS A' (I.fin n).2.2 m := by
  have hgood := h.good.fin hD (by rw [h.sim.queue, h.sim.hs, h.sim.reg]; exact hb)
  cases hD with
  | none hl =>
    rw [h.sim.hs] at hl
    unfold IS.fin
    rw [hl]
    exact ⟨rfl, rfl, h⟩
  | again hl hin =>
    rw [h.sim.hs] at hl
    rw [h.sim.reg] at hin
    unfold IS.fin
    rw [hl]
    simp only [hin, if_true]
    exact ⟨by first | rfl | trivial, by first | rfl | trivial, h⟩
  | new hl hin =>
    rw [h.sim.hs] at hl
    rw [h.sim.reg] at hin
    unfold IS.fin
    rw [hl]
    simp only [hin, if_false]
    refine ⟨by first | rfl | trivial, by first | rfl | trivial, hgood, Sim.make hgood.wf h.sim.names h.sim.hs ?_ h.sim.queue h.sim.room h.sim.obj, h.memT, h.full, h.young, h.uniq, h.keys⟩
    show A.reg ++ [_] = I.reg ++ [_]
    rw [h.sim.reg]

theorem HS.nexted {A A' : St} {I : IS} {m : Nat} (h : HS A I m) {q er : Int} {b : Bool} (hD : NextSpec A q b er A') : q = I.next.1 ∧ b = I.next.2.1 ∧ er = I.next.2.2.1 ∧ HS A' I.next.2.2.2 m := by
  have hgood := h.good.next hD
  cases hD with
  | none hq =>
    rw [h.sim.queue] at hq
    unfold IS.next
    rw [hq]
    exact ⟨rfl, rfl, rfl, h⟩
  | @some n q l A1 hq hG =>
    have hf : q = I.fresh := by
      unfold IS.fresh
      rw [← h.sim.hs]
      exact (freshOf_eq hG.least).symm
    rw [h.sim.queue] at hq
    obtain ⟨F, nx, rfl⟩ := hG.eq
    unfold IS.next
    rw [hq]
    refine ⟨hf, rfl, rfl, hgood, Sim.make hgood.wf h.sim.names ?_ h.sim.reg rfl h.sim.room h.sim.obj, h.memT, h.full, h.young, h.uniq, h.keys⟩
    show A.handles ++ [(q, n)] = I.hs ++ [(I.fresh, n)]
    rw [h.sim.hs, hf]

/-! ### An object added -/

theorem IS.nd_add {I : IS} (d : Nd) {n : Int} {x : Nd} (h : I.nd n = some x) : (I.add d).nd n = some x := by
  obtain ⟨h0, hl, he⟩ := IS.nd_nat h
  unfold IS.nd
  rw [if_pos h0]
  show (I.nodes ++ [d])[n.toNat]? = _
  rw [List.getElem?_append_left hl]; exact he
theorem IS.nd_add_new (I : IS) (d : Nd) : (I.add d).nd I.nodes.length = some d := by
  unfold IS.nd
  rw [if_pos (by omega)]
  show (I.nodes ++ [d])[((I.nodes.length : Nat) : Int).toNat]? = _
  simp
theorem IS.nd_add_cases {I : IS} {d x : Nd} {n : Int} (h : (I.add d).nd n = some x) : (n = I.nodes.length ∧ x = d) ∨ I.nd n = some x := by
  obtain ⟨h0, hl, he⟩ := IS.nd_nat h
  have he' : (I.nodes ++ [d])[n.toNat]? = some x := he
  by_cases hlt : n.toNat < I.nodes.length
  · right
    unfold IS.nd
    rw [if_pos h0]
    rwa [List.getElem?_append_left hlt] at he'
  · left
    have hl' : n.toNat < I.nodes.length + 1 := by
      have : (I.add d).nodes.length = I.nodes.length + 1 := by simp [IS.add]
      omega
    have e : n.toNat = I.nodes.length := by omega
    rw [e] at he'
    simp at he'
    exact ⟨by omega, he'.symm⟩

theorem HS.addOb {A A1 A2 : St} {I : IS} {m : Nat} (h : HS A I m) (hm : m < 9000) (hM : MinoredOr A A1) {table old : Bool} {tag : Int} {flds : List Wd} (hold : old = decide (A.young < (A1.memN.length : Int) + (⟨false, tag⟩ :: flds : List Wd).length)) (hfl : flds.length ≤ 200) (htab : table = true → flds = [])
    (hrefs : ∀ x ∈ refsW flds, x ∈ I.roots) (hnodes : I.nodes.length + 1 ≤ 9000) (hb : I.queue.length + I.hs.length + I.reg.length + 1 ≤ 9000) {n : Int} (hG : Granted (A1.added table old (⟨false, tag⟩ :: flds)) A.names n A2) :
    n = I.fresh ∧ HS A2 ((I.add ⟨table, tag, flds, [], false⟩).grant I.nodes.length) (m + 1) := by
  obtain ⟨h1, hT1⟩ := h.minorOr hm hM
  have hs1 := hM.sames h.good.wf
  have hnm : A1.names = A.names := hs1.1
  have hw1 := h1.good.wf
  have hyo := h.young
  have hfew := h1.few
  have hwb : Wf 9000 100000000000 (A1.bare table old (⟨false, tag⟩ :: flds)) := by
    refine hw1.bare (by simp; omega) (fun x hx => ?_) (fun ht => by rw [htab ht]; rfl) (by omega) (fun ho => ?_) (fun _ => by simp only [List.length_cons]; omega)
    · have hx' : x ∈ refsW flds := hx
      have := hrefs x hx'
      rw [← h1.sim.roots] at this
      exact hw1.roots x this
    · rw [ho] at hold
      have := of_decide_eq_false hold.symm
      omega
  have hadd := added_eq A1 table old (⟨false, tag⟩ :: flds)
  have hgood : Good 9000 100000000000 (A1.added table old (⟨false, tag⟩ :: flds)) := by
    refine ⟨by rw [hadd]; exact hwb.noted _, remOk_added hw1 h1.good.rem, h1.good.free.congr ?_ ?_ ?_⟩
    · rw [hadd, noted_same]; exact (setMem_same A1 old _).2.2.2.2.2.1
    · rw [hadd, noted_same]; exact (setMem_same A1 old _).2.2.2.2.2.2.1
    · rw [hadd, noted_same]; exact (setMem_same A1 old _).2.2.1
  have hsm := setMem_same A1 old (A1.mem old ++ (⟨false, tag⟩ :: flds))
  have hobj : ∀ y o, (A1.added table old (⟨false, tag⟩ :: flds)).objs.lookup y = some o → (A1.bare table old (⟨false, tag⟩ :: flds)).objs.lookup y = some o := fun y o ho => by rw [hadd, noted_same] at ho; exact ho
  have hisS : ∀ y, ((A1.added table old (⟨false, tag⟩ :: flds)).objs.lookup y) = (A1.bare table old (⟨false, tag⟩ :: flds)).objs.lookup y := fun y => by rw [hadd, noted_same]
  have hareaN : ∀ o, (A1.added table old (⟨false, tag⟩ :: flds)).area o = (A1.bare table old (⟨false, tag⟩ :: flds)).area o := fun o => by rw [hadd, noted_same]; rfl
  have hsim : Sim (A1.added table old (⟨false, tag⟩ :: flds)) (I.add ⟨table, tag, flds, [], false⟩) := by
    refine Sim.make hgood.wf ?_ ?_ ?_ ?_ ?_ ?_
    · rw [hadd, noted_same]
      show A1.names + 1 = _
      rw [h1.sim.names]
      simp [IS.add]
    · rw [hadd, noted_same]
      exact hsm.2.2.1.trans h1.sim.hs
    · rw [hadd, noted_same]
      exact hsm.2.2.2.1.trans h1.sim.reg
    · rw [hadd, noted_same]
      exact hsm.2.2.2.2.1.trans h1.sim.queue
    · rw [hadd, noted_same]
      exact hsm.2.2.2.2.2.2.2.1.trans h1.sim.room
    · intro y o ho
      have ho' := hobj y o ho
      rcases bare_lookup hw1 _ _ _ ho' with ⟨rfl, rfl⟩ | ⟨hne, ho2⟩
      · refine ⟨⟨table, tag, flds, [], false⟩, ?_, rfl, ?_, ?_, rfl, rfl⟩
        · have := IS.nd_add_new I ⟨table, tag, flds, [], false⟩
          rw [h1.sim.names]; exact this
        · show (⟨false, tag⟩ :: flds : List Wd).length - 1 = _
          simp
        · rw [hareaN]
          exact bare_area_new _ _ _ _ (by simp)
      · obtain ⟨d, g1, g2, g3, g4, g5, g6⟩ := h1.sim.obj y o ho2
        refine ⟨d, IS.nd_add _ g1, g2, g3, ?_, ?_, g6⟩
        · rw [hareaN, bare_area hw1 _ _ _ ho2]; exact g4
        · rw [g5]
          refine List.filter_congr fun x hx => ?_
          rw [hisS]
          have e : x.key ≠ A1.names := fun e => by
            have h3 := h1.keys y d g1 x hx
            have h4 := h1.sim.names
            omega
          rw [bare_lookup_old _ _ _ _ e]
  have hsame : (A1.added table old (⟨false, tag⟩ :: flds)).memT.length ≤ A1.memT.length + 201 ∧ (A1.added table old (⟨false, tag⟩ :: flds)).full = A1.full ∧ (A1.added table old (⟨false, tag⟩ :: flds)).young = A1.young := by
    rw [hadd, noted_same]
    refine ⟨?_, hsm.2.2.2.2.2.2.2.1, hsm.2.1⟩
    cases old
    · show A1.memT.length ≤ _; omega
    · show (A1.memT ++ _).length ≤ _
      simp only [List.length_append, List.length_cons]; omega
  have hlen : (I.add ⟨table, tag, flds, [], false⟩).nodes.length = I.nodes.length + 1 := by simp [IS.add]
  have h2 : HS (A1.added table old (⟨false, tag⟩ :: flds)) (I.add ⟨table, tag, flds, [], false⟩) (m + 1) := by
    refine ⟨hgood, hsim, by have := hsame.1; omega, by rw [hsame.2.1]; exact h1.full, by rw [hsame.2.2]; exact h1.young, fun y d hd => ?_, fun y d hd x hx => ?_⟩
    · rcases IS.nd_add_cases hd with ⟨_, rfl⟩ | hd'
      · exact List.nodup_nil
      · exact h1.uniq y d hd'
    · rw [hlen]
      rcases IS.nd_add_cases hd with ⟨_, rfl⟩ | hd'
      · cases hx
      · have := h1.keys y d hd' x hx; omega
  have hpres : ((A1.added table old (⟨false, tag⟩ :: flds)).objs.lookup A.names).isSome := by
    rw [hisS, ← hnm, bare_lookup_new hw1]; rfl
  obtain ⟨e, h3⟩ := h2.grant hG hpres hb
  refine ⟨e, ?_⟩
  rw [h.sim.names] at h3
  exact h3

end Go.Proofs.Ytelghmmcbgfjnaa

/-! Make, Table, tables' entries, and reading: the states follow the ideal heap. -/
namespace Go.Proofs.Ytelghmmcbgfjnaa
open Go.RowKit

theorem HS.ent {A : St} {I : IS} {m : Nat} (h : HS A I m) {t name : Int} (hl : I.hs.lookup t = some name) : ∃ o d, A.objs.lookup name = some o ∧ I.nd name = some d ∧ o.table = d.table ∧ o.size = d.flds.length ∧ A.area o = ⟨false, d.tag⟩ :: d.flds ∧ o.ents = d.ents.filter (fun x => (A.objs.lookup x.key).isSome) ∧ d.gone = false := by
  obtain ⟨o, ho⟩ := Option.isSome_iff_exists.1 (h.good.wf.hob t name (by rw [h.sim.hs]; exact hl))
  obtain ⟨d, g1, g2, g3, g4, g5, g6⟩ := h.sim.obj _ _ ho
  exact ⟨o, d, ho, g1, g2, g3, g4, g5, g6⟩

theorem HS.isH {A : St} {I : IS} {m : Nat} (h : HS A I m) {t name : Int} (hl : I.hs.lookup t = some name) : (A.objs.lookup name).isSome := h.good.wf.hob t name (by rw [h.sim.hs]; exact hl)

/-! ### Make, Table -/

theorem okC_root {I : IS} {c : Wd} (h : I.okC c = true) (hr : c.ref = true) : ∃ n, I.hs.lookup c.num = some n ∧ I.wordC c = ⟨true, n⟩ ∧ n ∈ I.roots := by
  unfold IS.okC at h
  rw [hr] at h
  obtain ⟨n, hn⟩ : ∃ n, I.hs.lookup c.num = some n := Option.isSome_iff_exists.1 (by rw [Bool.not_true, Bool.false_or] at h; exact h)
  refine ⟨n, hn, by unfold IS.wordC; rw [hr, hn]; rfl, ?_⟩
  unfold IS.roots
  exact List.mem_append_right _ (List.mem_map.2 ⟨_, look_mem hn, rfl⟩)
theorem wordC_num {I : IS} {c : Wd} (hr : c.ref = false) : I.wordC c = c := by
  unfold IS.wordC; rw [hr]; obtain ⟨r, n⟩ := c; simp at hr; subst hr; rfl

theorem refs_wordC {I : IS} {cs : List Wd} (h : ∀ c ∈ cs, I.okC c = true) : ∀ x ∈ refsW (cs.map I.wordC), x ∈ I.roots := by
  intro x hx
  obtain ⟨y, hy, rfl⟩ := List.mem_map.1 hx
  obtain ⟨hy1, hy2⟩ := List.mem_filter.1 hy
  obtain ⟨c, hc, rfl⟩ := List.mem_map.1 hy1
  cases hr : c.ref with
  | false => rw [wordC_num hr, hr] at hy2; cases hy2
  | true =>
    obtain ⟨n, _, h2, h3⟩ := okC_root (h c hc) hr
    rw [h2]; exact h3

theorem HS.addSpec {A A' : St} {I : IS} {m : Nat} (h : HS A I m) (hm : m < 9000) {table : Bool} {tag : Int} {flds : List Wd} (hfl : flds.length ≤ 200) (htab : table = true → flds = [])
    (hrefs : ∀ x ∈ refsW flds, x ∈ I.roots) (hnodes : I.nodes.length + 1 ≤ 9000) (hb : I.queue.length + I.hs.length + I.reg.length + 1 ≤ 9000) {r er : Int} (hS : AddSpec A table (⟨false, tag⟩ :: flds) r er A') :
    r = (I.adds (flds.length + 1) ⟨table, tag, flds, [], false⟩).1 ∧ er = (I.adds (flds.length + 1) ⟨table, tag, flds, [], false⟩).2.1 ∧ HS A' (I.adds (flds.length + 1) ⟨table, tag, flds, [], false⟩).2.2 (m + 1) := by
  unfold IS.adds
  cases hS with
  | full hr =>
    obtain ⟨h1, h2⟩ := h.room hr
    have h3 : ¬ ((I.words I.live : Int) + (flds.length + 1 : Nat) ≤ I.room) := of_decide_eq_false h2.symm
    rw [if_neg h3]
    exact ⟨rfl, rfl, h1.more (by omega)⟩
  | made hr hM hG =>
    obtain ⟨h1, h2⟩ := h.room hr
    have h3 : (I.words I.live : Int) + (flds.length + 1 : Nat) ≤ I.room := of_decide_eq_true h2.symm
    rw [if_pos h3]
    obtain ⟨h4, h5⟩ := h1.addOb hm hM rfl hfl htab hrefs hnodes hb hG
    exact ⟨h4, rfl, h5⟩

theorem HS.make {A A' : St} {I : IS} {m : Nat} (h : HS A I m) (hm : m < 9000) (hnodes : I.nodes.length + 1 ≤ 9000) (hb : I.queue.length + I.hs.length + I.reg.length + 1 ≤ 9000) {tag : Int} {cs : List Wd} {r er : Int} (hS : MakeSpec A tag cs r er A') :
    r = (I.make tag cs).1 ∧ er = (I.make tag cs).2.1 ∧ HS A' (I.make tag cs).2.2 (m + 1) := by
  unfold IS.make
  cases hS with
  | bad hc =>
    obtain ⟨c, h1, h2⟩ := hc
    rw [h.okC] at h2
    have h3 : ¬ (cs.all I.okC = true) := fun h4 => by rw [List.all_eq_true.1 h4 c h1] at h2; cases h2
    rw [if_neg h3]
    exact ⟨rfl, rfl, h.more (by omega)⟩
  | arg hc ha =>
    have h3 : cs.all I.okC = true := List.all_eq_true.2 fun c h1 => by rw [← h.okC]; exact hc c h1
    rw [if_pos h3, if_pos ha]
    exact ⟨rfl, rfl, h.more (by omega)⟩
  | add hc ht hl hA =>
    have hc' : ∀ c ∈ cs, I.okC c = true := fun c h1 => by rw [← h.okC]; exact hc c h1
    have h3 : cs.all I.okC = true := List.all_eq_true.2 hc'
    have ha : ¬ (tag < 0 ∨ 200 < cs.length) := by omega
    rw [if_pos h3, if_neg ha]
    have e : cs.map A.wordC = cs.map I.wordC := List.map_congr_left fun c _ => h.wordC c
    rw [e] at hA
    have := h.addSpec hm (by simpa using hl) (fun h => by cases h) (refs_wordC hc') hnodes hb hA
    simpa using this

theorem HS.table {A A' : St} {I : IS} {m : Nat} (h : HS A I m) (hm : m < 9000) (hnodes : I.nodes.length + 1 ≤ 9000) (hb : I.queue.length + I.hs.length + I.reg.length + 1 ≤ 9000) {r er : Int} (hS : AddSpec A true [⟨false, 0⟩] r er A') :
    r = I.table.1 ∧ er = I.table.2.1 ∧ HS A' I.table.2.2 (m + 1) := by
  have := h.addSpec hm (flds := []) (by simp) (fun _ => rfl) (by simp [refsW]) hnodes hb hS
  exact this

/-! ### Tables -/

def IS.tab (I : IS) (t key : Int) : Int ⊕ (Int × Int × Nd) := match I.hs.lookup t with
  | none => .inl 221
  | some name => match I.hs.lookup key with
    | none => .inl 221
    | some kn => match I.nd name with
      | none => .inl 0
      | some d => if d.table then .inr (name, kn, d) else .inl 223
noncomputable def IS.find (I : IS) (t key : Int) : Wd × Bool × Int × IS := match I.tab t key with
  | .inl er => (⟨false, 0⟩, false, er, I)
  | .inr (_, kn, d) => match d.ents.find? (KeyIs kn) with
    | none => (⟨false, 0⟩, false, 0, I)
    | some x => if x.val.ref then (⟨true, I.fresh⟩, true, 0, I.grant x.val.num) else (⟨false, x.val.num⟩, true, 0, I)
def IS.remove (I : IS) (t key : Int) : Bool × Int × IS := match I.tab t key with
  | .inl er => (false, er, I)
  | .inr (name, kn, d) => match d.ents.find? (KeyIs kn) with
    | none => (false, 0, I)
    | some _ => (true, 0, I.setEnts name fun l => l.filter fun x => !KeyIs kn x)
noncomputable def IS.put (I : IS) (t key : Int) (c : Wd) : Int × IS := match I.hs.lookup t with
  | none => (221, I)
  | some name => match I.hs.lookup key with
    | none => (221, I)
    | some kn => if I.okC c then (match I.nd name with
      | none => (0, I)
      | some d => if d.table then (match d.ents.find? (KeyIs kn) with
          | some _ => (0, I.setEnts name fun l => l.map fun x => if KeyIs kn x then ⟨x.key, I.wordC c⟩ else x)
          | none => if (I.words I.live : Int) + 3 ≤ I.room then (0, I.setEnts name fun l => l ++ [⟨kn, I.wordC c⟩]) else (220, I))
        else (223, I)) else (221, I)

theorem HS.tab_err {A : St} {I : IS} {m : Nat} (h : HS A I m) {t key er : Int} (hE : EntErr A t key er) : I.tab t key = .inl er := by
  unfold IS.tab
  cases hE with
  | none h1 => rw [h.sim.hs] at h1; rw [h1]
  | nokey h1 h2 => rw [h.sim.hs] at h1 h2; rw [h1]; simp only []; rw [h2]
  | kind h1 h2 h3 h4 =>
    rw [h.sim.hs] at h1 h2
    obtain ⟨d, g1, g2, _⟩ := h.sim.obj _ _ h3
    rw [h4] at g2
    rw [h1]; simp only []; rw [h2]; simp only []; rw [g1]; simp [← g2]
theorem HS.tab_ok {A : St} {I : IS} {m : Nat} (h : HS A I m) {t key name kn : Int} {o : Ob} (hT : TabAt A t key name kn o) : ∃ d, I.tab t key = .inr (name, kn, d) ∧ I.nd name = some d ∧ d.table = true ∧ o.ents = d.ents.filter (fun x => (A.objs.lookup x.key).isSome) ∧ (A.objs.lookup kn).isSome ∧ I.hs.lookup t = some name ∧ I.hs.lookup key = some kn := by
  have h1 := hT.h1
  have h2 := hT.h2
  rw [h.sim.hs] at h1 h2
  obtain ⟨d, g1, g2, _, _, g5, _⟩ := h.sim.obj _ _ hT.h3
  rw [hT.h4] at g2
  refine ⟨d, ?_, g1, g2.symm, g5, h.isH h2, h1, h2⟩
  unfold IS.tab
  rw [h1]; simp only []; rw [h2]; simp only []; rw [g1]; simp [← g2]

theorem find_key {l : List En} (hu : (l.map (·.key)).Nodup) {kn : Int} {x : En} (hx : x ∈ l) (hk : KeyIs kn x = true) : l.find? (KeyIs kn) = some x := by
  induction l with
  | nil => cases hx
  | cons y l ih =>
    simp only [List.map_cons, List.nodup_cons] at hu
    rcases List.mem_cons.1 hx with rfl | hx'
    · simp [List.find?, hk]
    · have : KeyIs kn y = false := by
        cases hy : KeyIs kn y with
        | false => rfl
        | true =>
          exfalso
          refine hu.1 (List.mem_map.2 ⟨x, hx', ?_⟩)
          simp only [KeyIs, beq_iff_eq] at hk hy
          rw [hk, hy]
      simp only [List.find?, this]
      exact ih hu.2 hx'

theorem find_none {l : List En} {p : En → Bool} {kn : Int} (h : ∀ x ∈ l.filter p, KeyIs kn x = false) (hp : ∀ x, KeyIs kn x = true → p x = true) : l.find? (KeyIs kn) = none := by
  refine List.find?_eq_none.2 fun x hx hk => ?_
  have := h x (List.mem_filter.2 ⟨hx, hp x hk⟩)
  rw [hk] at this; cases this

/-- The entry that a state finds is the one that the ideal heap finds. -/
theorem HS.found {A : St} {I : IS} {m : Nat} (h : HS A I m) {name kn : Int} {o : Ob} {d : Nd} (g1 : I.nd name = some d) (g5 : o.ents = d.ents.filter (fun x => (A.objs.lookup x.key).isSome)) {j : Nat} {x : En} (hj : o.ents[j]? = some x) (hk : KeyIs kn x = true) : d.ents.find? (KeyIs kn) = some x ∧ x ∈ d.ents ∧ x ∈ o.ents := by
  have hx := List.mem_of_getElem? hj
  have hx' := hx
  rw [g5] at hx'
  have hm := (List.mem_filter.1 hx').1
  exact ⟨find_key (h.uniq _ _ g1) hm hk, hm, hx⟩
theorem HS.nofound {A : St} {d : Nd} {kn : Int} {o : Ob} (g5 : o.ents = d.ents.filter (fun x => (A.objs.lookup x.key).isSome)) (hk : (A.objs.lookup kn).isSome) (hno : ∀ x ∈ o.ents, KeyIs kn x = false) : d.ents.find? (KeyIs kn) = none := by
  rw [g5] at hno
  refine find_none hno fun x hx => ?_
  simp only [KeyIs, beq_iff_eq] at hx
  rw [hx]; exact hk

theorem HS.finds {A A' : St} {I : IS} {m : Nat} (h : HS A I m) (hb : I.queue.length + I.hs.length + I.reg.length + 1 ≤ 9000) {t key er : Int} {c : Wd} {b : Bool} (hS : FindSpec A t key c b er A') :
    c = (I.find t key).1 ∧ b = (I.find t key).2.1 ∧ er = (I.find t key).2.2.1 ∧ HS A' (I.find t key).2.2.2 m := by
  unfold IS.find
  cases hS with
  | err hE => rw [h.tab_err hE]; exact ⟨rfl, rfl, rfl, h⟩
  | no hT hno =>
    obtain ⟨d, g0, g1, g2, g5, g6, _⟩ := h.tab_ok hT
    rw [g0]; simp only []
    rw [HS.nofound g5 g6 hno]
    exact ⟨rfl, rfl, rfl, h⟩
  | num hT hj hk hr =>
    obtain ⟨d, g0, g1, g2, g5, g6, _⟩ := h.tab_ok hT
    rw [g0]; simp only []
    rw [(h.found g1 g5 hj hk).1]; simp only [hr, Bool.false_eq_true, if_false]
    exact ⟨by first | rfl | trivial, by first | rfl | trivial, by first | rfl | trivial, h⟩
  | ref hT hj hk hr hG =>
    obtain ⟨d, g0, g1, g2, g5, g6, _⟩ := h.tab_ok hT
    rw [g0]; simp only []
    obtain ⟨k1, k2, k3⟩ := h.found g1 g5 hj hk
    have hp : (A.objs.lookup _).isSome := h.good.wf.closed _ _ hT.h3 _ (mem_refs.2 (.inr ⟨_, k3, .inr ⟨hr, rfl⟩⟩))
    obtain ⟨e1, e2⟩ := h.grant hG hp hb
    rw [k1]; simp only [hr, if_true]
    exact ⟨by rw [e1], by first | rfl | trivial, by first | rfl | trivial, e2⟩

/-! ### Entries turned -/

theorem IS.nd_set {I : IS} {name : Int} {f : List En → List En} {d : Nd} (h : I.nd name = some d) : (I.setEnts name f).nd name = some { d with ents := f d.ents } := by
  obtain ⟨h0, hl, he⟩ := IS.nd_nat h
  unfold IS.nd
  rw [if_pos h0]
  show (I.nodes.modify name.toNat fun d => { d with ents := f d.ents })[name.toNat]? = _
  rw [List.getElem?_modify, he]
  simp
theorem IS.nd_set_ne {I : IS} {name n : Int} (f : List En → List En) (h0 : 0 ≤ name) (h : n ≠ name) : (I.setEnts name f).nd n = I.nd n := by
  unfold IS.nd
  split
  · rename_i hn
    show (I.nodes.modify name.toNat fun d => { d with ents := f d.ents })[n.toNat]? = _
    rw [List.getElem?_modify]
    have e : ¬ name.toNat = n.toNat := by omega
    simp only [e, if_false]
    cases I.nodes[n.toNat]? <;> rfl
  · rfl
theorem IS.set_len (I : IS) (name : Int) (f : List En → List En) : (I.setEnts name f).nodes.length = I.nodes.length := by simp [IS.setEnts]

theorem setTab_same (A : St) (name : Int) (o : Ob) (l : List En) : A.setTab name o l = { A.setOb name { o with ents := l } with rem := (A.setTab name o l).rem } := noted_same _ _

theorem HS.setTab {A : St} {I : IS} {m : Nat} (h : HS A I m) {name : Int} {o : Ob} {d : Nd} (ho : A.objs.lookup name = some o) (g1 : I.nd name = some d) (ht : o.table = true) {l : List En} {f : List En → List En}
    (hlf : l = (f d.ents).filter (fun x => (A.objs.lookup x.key).isSome)) (hl : l.length ≤ 1000) (hin : ∀ x ∈ refsE l, (A.objs.lookup x).isSome) (hu : ((f d.ents).map (·.key)).Nodup) (hk : ∀ x ∈ f d.ents, x.key < I.nodes.length) :
    HS (A.setTab name o l) (I.setEnts name f) m := by
  have hgood := h.good.setTab ho ht hl hin
  obtain ⟨h0, _, _⟩ := IS.nd_nat g1
  have hlk : ∀ n, (A.setTab name o l).objs.lookup n = (A.setOb name { o with ents := l }).objs.lookup n := fun n => by rw [setTab_same]
  have hpr : ∀ n, ((A.setTab name o l).objs.lookup n).isSome = (A.objs.lookup n).isSome := fun n => by rw [hlk, setOb_isSome ho]
  have har : ∀ q, (A.setTab name o l).area q = A.area q := fun q => by rw [setTab_same]; rfl
  have hdef : ∀ n d', (I.setEnts name f).nd n = some d' → (n = name ∧ d' = { d with ents := f d.ents }) ∨ I.nd n = some d' := fun n d' hd => by
    by_cases e : n = name
    · subst e
      rw [IS.nd_set g1] at hd
      simp only [Option.some.injEq] at hd
      exact .inl ⟨rfl, hd.symm⟩
    · rw [IS.nd_set_ne f h0 e] at hd
      exact .inr hd
  refine ⟨hgood, Sim.make hgood.wf ?_ ?_ ?_ ?_ ?_ ?_, ?_, ?_, ?_, fun n d' hd => ?_, fun n d' hd x hx => ?_⟩
  · rw [setTab_same, IS.set_len]; exact h.sim.names
  · rw [setTab_same]; exact h.sim.hs
  · rw [setTab_same]; exact h.sim.reg
  · rw [setTab_same]; exact h.sim.queue
  · rw [setTab_same]; exact h.sim.room
  · intro n o' ho'
    rw [hlk] at ho'
    rcases setTab_lookup ho l ho' with ⟨rfl, rfl⟩ | ⟨hne, ho2⟩
    · obtain ⟨d0, k1, k2, k3, k4, k5, k6⟩ := h.sim.obj _ _ ho
      rw [g1] at k1
      simp only [Option.some.injEq] at k1
      subst k1
      refine ⟨_, IS.nd_set g1, k2, k3, by rw [har]; exact k4, ?_, k6⟩
      show l = (f d.ents).filter _
      exact hlf.trans (List.filter_congr fun x _ => (hpr x.key).symm)
    · obtain ⟨d0, k1, k2, k3, k4, k5, k6⟩ := h.sim.obj _ _ ho2
      refine ⟨d0, by rw [IS.nd_set_ne f h0 hne]; exact k1, k2, k3, by rw [har]; exact k4, ?_, k6⟩
      rw [k5]
      exact List.filter_congr fun x _ => (hpr x.key).symm
  · rw [setTab_same]; exact h.memT
  · rw [setTab_same]; exact h.full
  · rw [setTab_same]; exact h.young
  · rcases hdef n d' hd with ⟨_, rfl⟩ | hd'
    · exact hu
    · exact h.uniq n d' hd'
  · rw [IS.set_len]
    rcases hdef n d' hd with ⟨_, rfl⟩ | hd'
    · exact hk x hx
    · exact h.keys n d' hd' x hx

theorem erase_key {l : List En} (hu : (l.map (·.key)).Nodup) {kn : Int} {j : Nat} {x : En} (hj : l[j]? = some x) (hk : KeyIs kn x = true) : l.eraseIdx j = l.filter fun y => !KeyIs kn y := by
  induction l generalizing j with
  | nil => simp at hj
  | cons y l ih =>
    simp only [List.map_cons, List.nodup_cons] at hu
    cases j with
    | zero =>
      simp at hj; subst hj
      have : ∀ z ∈ l, (!KeyIs kn z) = true := fun z hz => by
        cases h : KeyIs kn z with
        | false => rfl
        | true =>
          exfalso
          refine hu.1 (List.mem_map.2 ⟨z, hz, ?_⟩)
          simp only [KeyIs, beq_iff_eq] at hk h
          rw [hk, h]
      rw [List.eraseIdx_cons_zero, List.filter_cons, hk, List.filter_eq_self.2 this]
      simp
    | succ j =>
      have hj' : l[j]? = some x := by simpa using hj
      have hy : KeyIs kn y = false := by
        cases h : KeyIs kn y with
        | false => rfl
        | true =>
          exfalso
          refine hu.1 (List.mem_map.2 ⟨x, List.mem_of_getElem? hj', ?_⟩)
          simp only [KeyIs, beq_iff_eq] at hk h
          rw [hk, h]
      rw [List.eraseIdx_cons_succ, List.filter_cons, hy, ih hu.2 hj']
      simp
theorem set_key {l : List En} (hu : (l.map (·.key)).Nodup) {kn : Int} {j : Nat} {x : En} (hj : l[j]? = some x) (hk : KeyIs kn x = true) (v : Wd) : l.set j ⟨x.key, v⟩ = l.map fun y => if KeyIs kn y then ⟨y.key, v⟩ else y := by
  induction l generalizing j with
  | nil => simp at hj
  | cons y l ih =>
    simp only [List.map_cons, List.nodup_cons] at hu
    cases j with
    | zero =>
      simp at hj; subst hj
      have : ∀ z ∈ l, (if KeyIs kn z then (⟨z.key, v⟩ : En) else z) = z := fun z hz => by
        cases h : KeyIs kn z with
        | false => simp
        | true =>
          exfalso
          refine hu.1 (List.mem_map.2 ⟨z, hz, ?_⟩)
          simp only [KeyIs, beq_iff_eq] at hk h
          rw [hk, h]
      rw [List.set_cons_zero, List.map_cons, hk, List.map_congr_left this]
      simp
    | succ j =>
      have hj' : l[j]? = some x := by simpa using hj
      have hy : KeyIs kn y = false := by
        cases h : KeyIs kn y with
        | false => rfl
        | true =>
          exfalso
          refine hu.1 (List.mem_map.2 ⟨x, List.mem_of_getElem? hj', ?_⟩)
          simp only [KeyIs, beq_iff_eq] at hk h
          rw [hk, h]
      rw [List.set_cons_succ, List.map_cons, hy, ih hu.2 hj']
      simp

theorem nodup_filter_key {l : List En} (p : En → Bool) (h : (l.map (·.key)).Nodup) : ((l.filter p).map (·.key)).Nodup := (List.Sublist.map _ List.filter_sublist).nodup h

theorem mem_refsE {l : List En} {n : Int} : n ∈ refsE l ↔ ∃ x ∈ l, x.key = n ∨ (x.val.ref = true ∧ x.val.num = n) := by
  simp only [refsE, List.mem_flatMap]
  refine exists_congr fun x => and_congr Iff.rfl ?_
  cases hx : x.val.ref <;> simp [eq_comm]

theorem HS.removes {A A' : St} {I : IS} {m : Nat} (h : HS A I m) {t key er : Int} {b : Bool} (hS : RemoveSpec A t key b er A') : b = (I.remove t key).1 ∧ er = (I.remove t key).2.1 ∧ HS A' (I.remove t key).2.2 m := by
  unfold IS.remove
  cases hS with
  | err hE => rw [h.tab_err hE]; exact ⟨rfl, rfl, h⟩
  | no hT hno =>
    obtain ⟨d, g0, g1, g2, g5, g6, _⟩ := h.tab_ok hT
    rw [g0]; simp only []
    rw [HS.nofound g5 g6 hno]
    exact ⟨rfl, rfl, h⟩
  | @ok name kn o j x hT hj hk =>
    obtain ⟨d, g0, g1, g2, g5, g6, _⟩ := h.tab_ok hT
    rw [g0]; simp only []
    rw [(h.found g1 g5 hj hk).1]
    refine ⟨rfl, rfl, ?_⟩
    have hu := h.uniq _ _ g1
    have hul : (o.ents.map (·.key)).Nodup := by rw [g5]; exact nodup_filter_key _ hu
    have he := erase_key hul hj hk
    refine h.setTab hT.h3 g1 hT.h4 (f := fun l => l.filter fun x => !KeyIs kn x) ?_ ?_ ?_ (nodup_filter_key _ hu) (fun y hy => h.keys _ _ g1 y (List.mem_filter.1 hy).1)
    · rw [he, g5, List.filter_filter, List.filter_filter]
      exact List.filter_congr fun y _ => Bool.and_comm _ _
    · have := h.good.wf.fit.ents _ _ hT.h3
      rw [List.length_eraseIdx]
      split <;> omega
    · intro y hy
      obtain ⟨z, hz, h1⟩ := mem_refsE.1 hy
      rw [he] at hz
      exact h.good.wf.closed _ _ hT.h3 _ (mem_refs.2 (.inr ⟨z, (List.mem_filter.1 hz).1, h1⟩))

theorem HS.puts {A A' : St} {I : IS} {m : Nat} (h : HS A I m) (hfew : ∀ n d, I.nd n = some d → d.ents.length < 200) {t key er : Int} {c : Wd} (hS : PutSpec A t key c er A') : er = (I.put t key c).1 ∧ HS A' (I.put t key c).2 m := by
  unfold IS.put
  have hval : A.okC c = true → (A.wordC c).ref = true → (A.objs.lookup (A.wordC c).num).isSome := fun hok hr => by
    rw [h.okC] at hok
    rw [h.wordC] at hr ⊢
    cases hcr : c.ref with
    | false => rw [wordC_num hcr, hcr] at hr; cases hr
    | true =>
      obtain ⟨n, k1, k2, _⟩ := okC_root hok hcr
      rw [k2]; exact h.isH k1
  cases hS with
  | none h1 => rw [h.sim.hs] at h1; rw [h1]; exact ⟨rfl, h⟩
  | nokey h1 h2 => rw [h.sim.hs] at h1 h2; rw [h1]; simp only []; rw [h2]; exact ⟨rfl, h⟩
  | bad h1 h2 h3 => rw [h.sim.hs] at h1 h2; rw [h.okC] at h3; rw [h1]; simp only []; rw [h2]; simp only [h3, Bool.false_eq_true, if_false]; exact ⟨by first | rfl | trivial, h⟩
  | kind h1 h2 h3 h4 h5 =>
    rw [h.sim.hs] at h1 h2; rw [h.okC] at h3
    obtain ⟨d, g1, g2, _⟩ := h.sim.obj _ _ h4
    rw [h5] at g2
    rw [h1]; simp only []; rw [h2]; simp only [h3, if_true]
    rw [g1]
    simp only [← g2, Bool.false_eq_true, if_false]
    exact ⟨by first | rfl | trivial, h⟩
  | @turn name kn o j x hok hT hj hk =>
    obtain ⟨d, g0, g1, g2, g5, g6, k1, k2⟩ := h.tab_ok hT
    have hok' := hok
    rw [h.okC] at hok'
    rw [k1]; simp only []; rw [k2]; simp only [hok', if_true]; rw [g1]; simp only [g2, if_true]
    rw [(h.found g1 g5 hj hk).1]
    refine ⟨rfl, ?_⟩
    have hu := h.uniq _ _ g1
    have hul : (o.ents.map (·.key)).Nodup := by rw [g5]; exact nodup_filter_key _ hu
    have he := set_key hul hj hk (A.wordC c)
    have hkey : ∀ l : List En, (l.map fun x => if KeyIs kn x then (⟨x.key, I.wordC c⟩ : En) else x).map (·.key) = l.map (·.key) := fun l => by
      rw [List.map_map]
      refine List.map_congr_left fun y _ => ?_
      simp only [Function.comp]
      split <;> rfl
    refine h.setTab hT.h3 g1 hT.h4 (f := fun l => l.map fun x => if KeyIs kn x then ⟨x.key, I.wordC c⟩ else x) ?_ ?_ ?_ (by rw [hkey]; exact hu) (fun y hy => ?_)
    · rw [he, h.wordC, g5]
      rw [List.filter_map]
      congr 1
      refine List.filter_congr fun y _ => ?_
      simp only [Function.comp]
      split <;> rfl
    · have := h.good.wf.fit.ents _ _ hT.h3
      rw [List.length_set]; exact this
    · intro y hy
      obtain ⟨z, hz, h1⟩ := mem_refsE.1 hy
      rw [he] at hz
      obtain ⟨z0, hz0, rfl⟩ := List.mem_map.1 hz
      by_cases hkz : KeyIs kn z0 = true
      · rw [if_pos hkz] at h1
        rcases h1 with h1 | ⟨h1, rfl⟩
        · exact h.good.wf.closed _ _ hT.h3 _ (mem_refs.2 (.inr ⟨z0, hz0, .inl h1⟩))
        · exact hval hok h1
      · rw [if_neg hkz] at h1
        exact h.good.wf.closed _ _ hT.h3 _ (mem_refs.2 (.inr ⟨z0, hz0, h1⟩))
    · have hy' : y.key ∈ (d.ents.map fun x => if KeyIs kn x then (⟨x.key, I.wordC c⟩ : En) else x).map (·.key) := List.mem_map.2 ⟨y, hy, rfl⟩
      rw [hkey] at hy'
      obtain ⟨z, hz, e⟩ := List.mem_map.1 hy'
      rw [← e]; exact h.keys _ _ g1 z hz
  | full hok hT hno hr =>
    obtain ⟨d, g0, g1, g2, g5, g6, k1, k2⟩ := h.tab_ok hT
    rw [h.okC] at hok
    obtain ⟨h1, h2⟩ := h.room hr
    have h3 : ¬ ((I.words I.live : Int) + (3 : Nat) ≤ I.room) := of_decide_eq_false h2.symm
    have h3' : ¬ ((I.words I.live : Int) + 3 ≤ I.room) := h3
    rw [k1]; simp only []; rw [k2]; simp only [hok, if_true]; rw [g1]; simp only [g2, if_true]
    rw [HS.nofound g5 g6 hno]
    simp only [h3', if_false]
    exact ⟨by first | rfl | trivial, h1⟩
  | @add name kn o or' Ar hok hT hno hr hor =>
    obtain ⟨d, g0, g1, g2, g5, g6, k1, k2⟩ := h.tab_ok hT
    have hok' := hok
    rw [h.okC] at hok'
    obtain ⟨h1, h2⟩ := h.room hr
    have h3 : (I.words I.live : Int) + (3 : Nat) ≤ I.room := of_decide_eq_true h2.symm
    have h3' : (I.words I.live : Int) + 3 ≤ I.room := h3
    rw [k1]; simp only []; rw [k2]; simp only [hok', if_true]; rw [g1]; simp only [g2, if_true]
    have hnone := HS.nofound g5 g6 hno
    rw [hnone]
    simp only [h3', if_true]
    refine ⟨by first | rfl | trivial, ?_⟩
    have hu := h.uniq _ _ g1
    obtain ⟨d', q1, q2, _, _, q5, _⟩ := h1.sim.obj _ _ hor
    rw [g1] at q1
    simp only [Option.some.injEq] at q1
    subst q1
    have hkn := h1.isH k2
    have hlen : or'.ents.length ≤ d.ents.length := by rw [q5]; exact List.length_filter_le _ _
    refine h1.setTab hor g1 (by rw [q2, g2]) (f := fun l => l ++ [⟨kn, I.wordC c⟩]) ?_ ?_ ?_ ?_ ?_
    · rw [h.wordC, List.filter_append, ← q5]
      congr 1
      simp [hkn]
    · have := hfew _ _ g1
      rw [List.length_append]; simp; omega
    · intro y hy
      obtain ⟨z, hz, h4⟩ := mem_refsE.1 hy
      rcases List.mem_append.1 hz with hz | hz
      · exact h1.good.wf.closed _ _ hor _ (mem_refs.2 (.inr ⟨z, hz, h4⟩))
      · simp at hz
        subst hz
        rcases h4 with rfl | ⟨h4, rfl⟩
        · exact hkn
        · have h4' : (A.wordC c).ref = true := h4
          show (Ar.objs.lookup (A.wordC c).num).isSome
          rw [h.wordC] at h4' ⊢
          cases hcr : c.ref with
          | false => rw [wordC_num hcr, hcr] at h4'; cases h4'
          | true =>
            obtain ⟨n, k5, k6, _⟩ := okC_root hok' hcr
            rw [k6]; exact h1.isH k5
    · rw [List.map_append]
      refine List.nodup_append.2 ⟨hu, by simp, fun a ha b hb e => ?_⟩
      simp at hb
      subst hb
      subst e
      obtain ⟨z, hz, e⟩ := List.mem_map.1 ha
      have := List.find?_eq_none.1 hnone z hz
      simp [KeyIs, e] at this
    · intro y hy
      rcases List.mem_append.1 hy with hy | hy
      · exact h.keys _ _ g1 y hy
      · simp at hy
        subst hy
        obtain ⟨o2, ho2⟩ := Option.isSome_iff_exists.1 g6
        obtain ⟨d2, r1, _⟩ := h.sim.obj _ _ ho2
        obtain ⟨r2, r3, _⟩ := IS.nd_nat r1
        show kn < _
        omega

end Go.Proofs.Ytelghmmcbgfjnaa
