/-
  The words of two objects of one space do not meet; kept by collections. (A part of the proof, joined of: Ta, Ye, Yf, Yg; made smaller.)
-/
import Derived.Test.YtelghmmcbgfjnaaGreatH16
set_option maxRecDepth 100000
namespace Go.Proofs.YtelghmmcbgfjnaaGreat
variable {A A' A1 B : St} {I : IS} {L : List Nat} {b : Bool} {c : Wd} {cs flds : List Wd} {d : Nd} {er key kn n name r t tag : Int} {hb i j k m m' : Nat} {l : List En} {o : Ob} {w w' : World} {x : En}
open Go.RowKit
def Apart (A : St) : Prop := ∀ n m o x, n ≠ m → A.objs.lookup n = some o → A.objs.lookup m = some x → o.old = x.old → o.at_ + 1 + o.size ≤ x.at_ ∨ x.at_ + 1 + x.size ≤ o.at_
theorem Apart.of (h : Apart A) (hB : ∀ n o', B.objs.lookup n = some o' → ∃ o, A.objs.lookup n = some o ∧ o'.at_ = o.at_ ∧ o'.size = o.size ∧ o'.old = o.old) : Apart B := fun n m o' x' hne ho hx hold => by
 obtain ⟨o, h1, e1, e2, e3⟩ := hB n o' ho;obtain ⟨x, h2, f1, f2, f3⟩ := hB m x' hx;rw [e1, e2, f1, f2];exact h n m o x hne h1 h2 (by rw [← e3, ← f3]; exact hold)
theorem Apart.congr (h : Apart A) (e : B.objs = A.objs) : Apart B := h.of fun n o' ho => ⟨o', by rw [← e]; exact ho, rfl, rfl, rfl⟩
theorem Apart.noted (h : Apart A) (n : Int) : Apart (A.noted n) := by
 rw [noted_same]; exact h.congr rfl
structure ApI (P : Int → Prop) (B : St) : Prop where
 inn : ∀ n o, P n → B.objs.lookup n = some o → o.old = true ∧ o.at_ + 1 + o.size ≤ B.memT.length
 apart : ∀ n m o x, n ≠ m → P n → P m → B.objs.lookup n = some o → B.objs.lookup m = some x → o.at_ + 1 + o.size ≤ x.at_ ∨ x.at_ + 1 + x.size ≤ o.at_
theorem ApI.mono {P Q : Int → Prop} (h : ApI P B) (hQ : ∀ m, Q m → P m) : ApI Q B :=
 ⟨fun n o hn ho => h.inn n o (hQ n hn) ho, fun n m o x hne hn hm ho hx => h.apart n m o x hne (hQ n hn) (hQ m hm) ho hx⟩
theorem ApI.keep {P : Int → Prop} (h : ApI P B) (hn : P n ∨ B.objs.lookup n = none) : ApI (fun m => P m ∨ m = n) B := by
 have hp : ∀ m o, (P m ∨ m = n) → B.objs.lookup m = some o → P m := fun m o hm ho => by
  rcases hm with hm | rfl
  · exact hm
  · rcases hn with hn | hn
    · exact hn
    · rw [hn] at ho; cases ho
 exact ⟨fun m o hm ho => h.inn m o (hp m o hm ho) ho, fun m k o x hne hm hk ho hx => h.apart m k o x hne (hp m o hm ho) (hp k x hk hx) ho hx⟩
theorem ApI.del {P : Int → Prop} (h : ApI P B) (n : Int) : ApI (fun m => P m ∨ m = n) { B with objs := delO B.objs n } := by
 have hl : ∀ m o, ({ B with objs := delO B.objs n } : St).objs.lookup m = some o → m ≠ n ∧ B.objs.lookup m = some o := fun m o ho => by
  have ho' : (delO B.objs n).lookup m = some o := ho;rw [lookup_delO] at ho';by_cases e : m = n
  · rw [if_pos e] at ho'; cases ho'
  · rw [if_neg e] at ho'; exact ⟨e, ho'⟩
 have hp : ∀ m, (P m ∨ m = n) → m ≠ n → P m := fun m hm hne => hm.resolve_right hne;refine ⟨fun m o hm ho => ?_, fun m k o x hne hm hk ho hx => ?_⟩
 · obtain ⟨h1, h2⟩ := hl m o ho;exact h.inn m o (hp m hm h1) h2
 · obtain ⟨h1, h2⟩ := hl m o ho;obtain ⟨h3, h4⟩ := hl k x hx;exact h.apart m k o x hne (hp m hm h1) (hp k hk h3) h2 h4
theorem ApI.move {P : Int → Prop} {l : List Wd} (h : ApI P B) (hB : B.objs.lookup n = some o) (hl : l.length = 1 + o.size) : ApI (fun m => P m ∨ m = n) (B.moved n o true l) := by
 have hmT : (B.moved n o true l).memT = B.memT ++ l := rfl;have hnew : (B.moved n o true l).objs.lookup n = some { o with at_ := B.memT.length, old := true } := lookup_setOb_self _ n _ o hB;have hoth : ∀ m, m ≠ n → (B.moved n o true l).objs.lookup m = B.objs.lookup m := fun m hm => by
  unfold St.moved;rw [lookup_setOb _ _ _ _ hm, setMem_objs]
 refine ⟨fun m x hm hx => ?_, fun m k x y hne hm hk hx hy => ?_⟩
 · rw [hmT, List.length_append, hl];by_cases e : m = n
   · subst e;rw [hnew] at hx;simp only [Option.some.injEq] at hx;subst hx;exact ⟨rfl, by show B.memT.length + 1 + o.size ≤ _; omega⟩
   · rw [hoth m e] at hx;have := h.inn m x (hm.resolve_right e) hx;exact ⟨this.1, by omega⟩
 · by_cases e : m = n
   · subst e;rw [hnew] at hx;simp only [Option.some.injEq] at hx;subst hx;have ek : k ≠ m := fun e => hne e.symm;rw [hoth k ek] at hy;have := (h.inn k y (hk.resolve_right ek) hy).2;right;exact this
   · rw [hoth m e] at hx;by_cases ek : k = n
     · subst ek;rw [hnew] at hy;simp only [Option.some.injEq] at hy;subst hy;left;exact (h.inn m x (hm.resolve_right e) hx).2
     · rw [hoth k ek] at hy;exact h.apart m k x y hne (hm.resolve_right e) (hk.resolve_right ek) hx hy
theorem settle_ap {A : St} (hf : Fit A) : ∀ (l : List Int) (P : Int → Prop) (B : St), l.Nodup → (∀ n ∈ l, B.objs.lookup n = A.objs.lookup n) → ApI P B → ApI (fun m => P m ∨ m ∈ l) (l.foldl (settleStep A) B)
 | [], P, B, _, _, h => h.mono fun m hm => hm.resolve_right (by simp)
 | n :: l, P, B, hnd, hl, h => by
   rw [List.foldl_cons];have hn := List.nodup_cons.1 hnd;have h1 : ApI (fun m => P m ∨ m = n) (settleStep A B n) := by
    unfold settleStep;cases ho : B.objs.lookup n with
    | none => exact h.keep (.inr ho)
    | some o =>
      refine h.move ho ?_;have ho' := hl n (by simp);rw [ho] at ho';have := hf.inn n o ho'.symm;rw [List.length_take, List.length_drop]; omega
   have h2 := settle_ap hf l _ (settleStep A B n) hn.2 (fun m hm => by
    rw [settleStep_lookup _ _ _ _ (fun e => hn.1 (by rw [← e]; exact hm) : m ≠ n)];exact hl m (List.mem_cons_of_mem _ hm)) h1
   refine h2.mono fun m hm => ?_;rcases hm with hm | hm
   · exact .inl (.inl hm)
   · rcases List.mem_cons.1 hm with hm | hm
     · exact .inl (.inr hm)
     · exact .inr hm
theorem settled_apart (hf : Fit A) : Apart A.settled := by
 have h := settle_ap hf A.sorted (fun _ => False) { A with memN := [], memT := [] } (sorted_nodup hf.nodup) (fun _ _ => rfl) ⟨fun _ _ h => h.elim, fun _ _ _ _ _ h => h.elim⟩;have hin : ∀ n o', A.settled.objs.lookup n = some o' → n ∈ A.sorted := fun n o' ho' => by
  obtain ⟨o, p, ho, _⟩ := settled_some hf ho';exact mem_sorted.2 (List.mem_map.2 ⟨_, mem_of_lookup ho, rfl⟩)
 exact fun n m o x hne ho hx _ => h.apart n m o x hne (.inr (hin n o ho)) (.inr (hin m x hx)) ho hx
theorem minor_ap {A : St} {p : Int → Bool} (hf : Fit A) : ∀ (l : List Int) (P : Int → Prop) (B : St), l.Nodup → (∀ n ∈ l, B.objs.lookup n = A.objs.lookup n) → (∀ n o, A.objs.lookup n = some o → o.old = true → P n) → ApI P B → ApI (fun m => P m ∨ m ∈ l) (l.foldl (minorStep A p) B)
 | [], P, B, _, _, _, h => h.mono fun m hm => hm.resolve_right (by simp)
 | n :: l, P, B, hnd, hl, hP, h => by
   rw [List.foldl_cons];have hn := List.nodup_cons.1 hnd;have h1 : ApI (fun m => P m ∨ m = n) (minorStep A p B n) := by
    unfold minorStep;cases ho : B.objs.lookup n with
    | none => exact h.keep (.inr ho)
    | some o =>
      have ho' := hl n (by simp);rw [ho] at ho';simp only [];cases hold : o.old with
      | true =>
        rw [if_pos rfl];exact h.keep (.inl (hP n o ho'.symm hold))
      | false =>
        rw [if_neg (by simp)]
        split
        · refine h.move ho ?_;have := hf.inn n o ho'.symm;rw [hold] at this;have h9 : o.at_ + 1 + o.size ≤ A.memN.length := this;rw [List.length_take, List.length_drop]; omega
        · exact h.del n
   have h2 := minor_ap (p := p) hf l _ (minorStep A p B n) hn.2 (fun m hm => by
    rw [minorStep_lookup _ _ _ _ _ (fun e => hn.1 (by rw [← e]; exact hm) : m ≠ n)];exact hl m (List.mem_cons_of_mem _ hm)) (fun m o ho hold => .inl (hP m o ho hold)) h1
   refine h2.mono fun m hm => ?_;rcases hm with hm | hm
   · exact .inl (.inl hm)
   · rcases List.mem_cons.1 hm with hm | hm
     · exact .inl (.inr hm)
     · exact .inr hm
theorem Apart.minored {p : Int → Bool} (h : Apart A) (hf : Fit A) : Apart (A.minored p) := by
 have h0 : ApI (fun n => ∃ o, A.objs.lookup n = some o ∧ o.old = true) { A with memN := [] } := by
  refine ⟨fun n o hn ho => ?_, fun n m o x hne hn hm ho hx => ?_⟩
  · obtain ⟨o', h1, h2⟩ := hn;have ho' : A.objs.lookup n = some o := ho;rw [h1] at ho';simp only [Option.some.injEq] at ho';subst ho';have := hf.inn n o' h1;rw [h2] at this;exact ⟨h2, this⟩
  · obtain ⟨o', h1, h2⟩ := hn;obtain ⟨x', h3, h4⟩ := hm;have ho' : A.objs.lookup n = some o := ho;have hx' : A.objs.lookup m = some x := hx;have e1 : o' = o := by rw [h1] at ho'; simpa using ho'
    have e2 : x' = x := by rw [h3] at hx'; simpa using hx'
    subst e1 e2;exact h n m o' x' hne h1 h3 (by rw [h2, h4])
 have h1 := minor_ap (p := p) hf A.sorted _ { A with memN := [] } (sorted_nodup hf.nodup) (fun _ _ => rfl) (fun n o ho hold => ⟨o, ho, hold⟩) h0;have hin : ∀ n o', (A.minored p).objs.lookup n = some o' → n ∈ A.sorted ∧ ∃ o, (A.minorTo p A.sorted).objs.lookup n = some o ∧ o'.at_ = o.at_ ∧ o'.size = o.size := fun n o' ho' => by
  obtain ⟨o, ho, _⟩ := minored_some hf ho';refine ⟨mem_sorted_of ho, ?_⟩;rw [minored_lookup] at ho';cases hx : (A.minorTo p A.sorted).objs.lookup n with
  | none => rw [hx] at ho'; cases ho'
  | some x =>
    rw [hx] at ho';simp only [Option.map_some, Option.some.injEq] at ho';subst ho';exact ⟨x, rfl, rfl, rfl⟩
 intro n m o x hne ho hx _;obtain ⟨h2, o1, h3, e1, e2⟩ := hin n o ho;obtain ⟨h4, x1, h5, f1, f2⟩ := hin m x hx;rw [e1, e2, f1, f2];exact h1.apart n m o1 x1 hne (.inr h2) (.inr h4) h3 h5
theorem Apart.minoredOr (h : Apart A) (hw : Wf k m A) (hM : MinoredOr A A1) : Apart A1 := by
 cases hM with
 | same => exact h
 | minor _ => exact h.minored hw.fit
theorem Apart.major (hw : Wf k m A) : Apart A.majored := settled_apart hw.awaited.swept.fit
theorem Apart.added (h : Apart A) (hw : Wf k m A) (table old : Bool) (ws : List Wd) : Apart (A.added table old ws) := by
 rw [added_eq];refine Apart.noted ?_ _;intro n q o x hne ho hx hold;rcases bare_lookup hw _ _ _ ho with ⟨rfl, rfl⟩ | ⟨hn, ho2⟩
 · rcases bare_lookup hw _ _ _ hx with ⟨rfl, rfl⟩ | ⟨hq, hx2⟩
   · exact absurd rfl hne
   · right;have := hw.fit.inn _ _ hx2;rw [← hold] at this;exact this
 · rcases bare_lookup hw _ _ _ hx with ⟨rfl, rfl⟩ | ⟨hq, hx2⟩
   · left;have := hw.fit.inn _ _ ho2;rw [hold] at this;exact this
   · exact h n q o x hne ho2 hx2 hold
theorem Apart.setTab (h : Apart A) (ho : A.objs.lookup name = some o) : Apart (A.setTab name o l) := by
 unfold St.setTab;refine Apart.noted (h.of fun n o' ho' => ?_) _;by_cases e : n = name
 · subst e;rw [lookup_setOb_self _ _ _ _ ho] at ho';simp only [Option.some.injEq] at ho';subst ho';exact ⟨o, ho, rfl, rfl, rfl⟩
 · rw [lookup_setOb _ _ _ _ e] at ho';exact ⟨o', ho', rfl, rfl, rfl⟩
open Classical in
noncomputable def freshOf (ks : List Int) : Int := if h : ∃ n, Least ks n then Classical.choose h else 0
theorem freshOf_eq {ks : List Int} (h : Least ks n) : freshOf ks = n := by
 unfold freshOf;have hex : ∃ n, Least ks n := ⟨n, h⟩;rw [dif_pos hex];exact (Classical.choose_spec hex).eq h
noncomputable def IS.fresh (I : IS) : Int := freshOf (I.hs.map (·.1))
noncomputable def IS.grant (I : IS) (name : Int) : IS := { I with hs := I.hs ++ [(I.fresh, name)] }
def IS.okC (I : IS) (c : Wd) : Bool := !c.ref || (I.hs.lookup c.num).isSome
def IS.wordC (I : IS) (c : Wd) : Wd := if c.ref then ⟨true, (I.hs.lookup c.num).getD 0⟩ else ⟨false, c.num⟩
def IS.add (I : IS) (d : Nd) : IS := { I with nodes := I.nodes ++ [d] }
noncomputable def IS.adds (I : IS) (n : Nat) (d : Nd) : Int × Int × IS := if (I.words I.live : Int) + n ≤ I.room then (I.fresh, 0, (I.add d).grant I.nodes.length) else (0, 220, I)
noncomputable def IS.make (I : IS) (tag : Int) (cs : List Wd) : Int × Int × IS :=
 if cs.all I.okC then (if tag < 0 ∨ 200 < cs.length then (0, 1, I) else I.adds (cs.length + 1) ⟨false, tag, cs.map I.wordC, [], false⟩) else (0, 221, I)
noncomputable def IS.table (I : IS) : Int × Int × IS := I.adds 1 ⟨true, 0, [], [], false⟩
def IS.drop (I : IS) (h : Int) : Int × IS := match I.hs.lookup h with
 | none => (221, I)
 | some _ => (0, { I with hs := delH I.hs h })
def IS.fin (I : IS) (h : Int) : Bool × Int × IS := match I.hs.lookup h with
 | none => (false, 221, I)
 | some n => if n ∈ I.reg then (false, 0, I) else (true, 0, { I with reg := I.reg ++ [n] })
noncomputable def IS.next (I : IS) : Int × Bool × Int × IS := match I.queue with
 | [] => (0, false, 0, I)
 | n :: l => (I.fresh, true, 0, { I.grant n with queue := l })
def IS.setEnts (I : IS) (n : Int) (f : List En → List En) : IS := { I with nodes := I.nodes.modify n.toNat fun d => { d with ents := f d.ents } }
structure HS (A : St) (I : IS) (m : Nat) : Prop where
 good : Good 9000 100000000000 A
 sim : Sim A I
 memT : A.memT.length ≤ 9009000 + 9010000 * m
 full : A.full ≤ 60000
 young : A.young ≤ 60000
 uniq : ∀ n d, I.nd n = some d → (d.ents.map (·.key)).Nodup
 keys : ∀ n d, I.nd n = some d → ∀ x ∈ d.ents, x.key < I.nodes.length
 apart : Apart A
theorem Sim.make (hw : Wf k m A) (names : A.names = I.nodes.length) (hs : A.handles = I.hs) (reg : A.reg = I.reg) (queue : A.queue = I.queue) (room : A.full = I.room)
 (obj : ∀ n o, A.objs.lookup n = some o → ∃ d, I.nd n = some d ∧ o.table = d.table ∧ o.size = d.flds.length ∧ A.area o = ⟨false, d.tag⟩ :: d.flds ∧ o.ents = d.ents.filter (fun x => (A.objs.lookup x.key).isSome) ∧ d.gone = false) : Sim A I := by
 refine ⟨names, hs, reg, queue, room, obj, fun n hn => ?_⟩;have hro : I.roots = A.roots := by unfold IS.roots St.roots; rw [queue, hs]
 induction hn with
 | root h1 =>
   rw [hro, ← reg] at h1;rcases List.mem_append.1 h1 with h1 | h1
   · exact hw.roots _ h1
   · exact hw.regs _ h1
 | field _ ho ht hm ih =>
   obtain ⟨o, hlo⟩ := Option.isSome_iff_exists.1 ih;obtain ⟨d, g1, _, _, g4, _⟩ := obj _ _ hlo;rw [ho] at g1;simp only [Option.some.injEq] at g1;subst g1;refine hw.closed _ _ hlo _ (mem_refs.2 (.inl ?_));rw [fields_area, g4]; exact hm
 | entry _ ho ht hx _ hr ih1 ih2 =>
   obtain ⟨o, hlo⟩ := Option.isSome_iff_exists.1 ih1;obtain ⟨d, g1, _, _, _, g5, _⟩ := obj _ _ hlo;rw [ho] at g1;simp only [Option.some.injEq] at g1;subst g1;exact hw.closed _ _ hlo _ (mem_refs.2 (.inr ⟨_, by rw [g5]; exact List.mem_filter.2 ⟨hx, ih2⟩, .inr ⟨hr, rfl⟩⟩))
theorem HS.okC (h : HS A I m) (c : Wd) : A.okC c = I.okC c := by unfold St.okC IS.okC; rw [h.sim.hs]
theorem HS.wordC (h : HS A I m) (c : Wd) : A.wordC c = I.wordC c := by
 unfold St.wordC St.inW IS.wordC;rw [h.sim.hs]
 split
 · cases I.hs.lookup c.num <;> rfl
 · rfl
theorem HS.few (h : HS A I m) : A.objs.length ≤ I.nodes.length := by
 have := length_range (l := A.objs.map (·.1)) (m := I.nodes.length) h.good.wf.fit.nodup fun n hn => by
  obtain ⟨⟨a, o⟩, hm, rfl⟩ := List.mem_map.1 hn;have hl := lookup_of_mem h.good.wf.fit.nodup hm;obtain ⟨d, g1, _⟩ := h.sim.obj _ _ hl;obtain ⟨k1, k2, _⟩ := IS.nd_nat g1;exact ⟨k1, by show a < _; omega⟩
 simpa using this
theorem HS.more (h : HS A I m) (hm : m ≤ m') : HS A I m' := { h with memT := by have := h.memT; omega }
theorem HS.room (h : HS A I m) {n : Nat} {r : Bool} (hr : RoomR A n A' r) : HS A' I m ∧ r = decide ((I.words I.live : Int) + n ≤ I.room) := by
 have hu := h.sim.used_le h.good.wf.fit.nodup;rcases hr with ⟨rfl, h1, rfl⟩ | ⟨rfl, h1⟩
 · refine ⟨h, (decide_eq_true ?_).symm⟩;have := h.sim.room;omega
 · have hs := cleaned_same h.good.wf;have hg := RoomR.good (.inr ⟨rfl, h1⟩ : RoomR A n A.cleaned r) h.good;refine ⟨⟨hg, h.sim.cleaned h.good.wf, ?_, by rw [hs.2.2.2.2.2.2.2]; exact h.full, by rw [hs.2.1]; exact h.young, h.uniq, h.keys, settled_apart h.good.wf.swept.fit⟩, ?_⟩
   · have h1 := (settled_I h.good.wf.swept.fit).memT;rw [sorted_length] at h1;have h2 := h.good.wf.swept.many;have h4 : A.cleaned.memT.length ≤ 1001 * A.swept.objs.length := h1;omega
   · rw [h1, h.sim.used_cleaned h.good.wf, h.sim.room]
theorem HS.minorOr (h : HS A I m) (hm : m < 9000) (hM : MinoredOr A A1) : HS A1 I (m + 1) ∧ A1.memT.length ≤ 9009000 + 9010000 * m + 9009000 := by
 have hT := h.memT;have hl : A1.memT.length ≤ A.memT.length + 9009000 := by
  cases hM with
  | same => omega
  | @minor S hS =>
    have h1 := (minored_I (fun n => decide (n ∈ S)) h.good.wf.fit).memT;rw [sorted_length] at h1;have h2 := h.good.wf.many;refine Nat.le_trans h1 ?_;omega
 have hs := hM.sames h.good.wf;have hw1 := hM.wf h.good.wf h.good.rem (m' := 100000000000) (by omega) (by omega) (by omega);have hgd : Good 9000 100000000000 A1 := ⟨hw1, hM.remOk h.good.wf.fit h.good.rem, h.good.free.congr hs.2.2.2.2.2.1 hs.2.2.2.2.2.2.1 hs.2.2.1⟩;have hsm := hM.sim h.good.wf.fit h.good.rem h.sim;have hb2 : A1.memT.length ≤ 9009000 + 9010000 * m + 9009000 := Nat.le_trans hl (Nat.add_le_add_right hT _);have hb : A1.memT.length ≤ 9009000 + 9010000 * (m + 1) := by
  refine Nat.le_trans hb2 ?_;rw [Nat.mul_add];clear hb2 hl hT hs;omega
 exact ⟨⟨hgd, hsm, hb, by rw [hs.2.2.2.2.2.2.2]; exact h.full, by rw [hs.2.1]; exact h.young, h.uniq, h.keys, h.apart.minoredOr h.good.wf hM⟩, hb2⟩
theorem IS.nd_majored_some (h : I.majored.nd n = some d) : ∃ d0, I.nd n = some d0 ∧ d = { d0 with gone := !I.live n } := by
 rw [IS.nd_majored] at h;cases hn : I.nd n with
 | none => rw [hn] at h; cases h
 | some d0 => rw [hn] at h; simp only [Option.map_some, Option.some.injEq] at h; exact ⟨d0, rfl, h.symm⟩
theorem HS.major (h : HS A I m) : HS A.majored I.majored m := by
 have hw := h.good.wf;have hsame := settled_same hw.awaited.swept.fit;have hT := (settled_I hw.awaited.swept.fit).memT;rw [sorted_length] at hT;have h2 := hw.awaited.swept.many;refine ⟨⟨hw.awaited.swept.settled, (settled_allOld hw.awaited.swept.fit).remOk, h.good.free.congr hsame.2.2.2.2.2.1 hsame.2.2.2.2.2.2.1 hsame.2.2.1⟩, h.sim.majored hw, ?_, ?_, ?_, fun n d hd => ?_, fun n d hd x hx => ?_, Apart.major hw⟩
 · have h4 : A.majored.memT.length ≤ 1001 * A.awaited.swept.objs.length := hT;omega
 · show A.awaited.swept.settled.full ≤ _;rw [hsame.2.2.2.2.2.2.2]; exact h.full
 · show A.awaited.swept.settled.young ≤ _;rw [hsame.2.1]; exact h.young
 · obtain ⟨d0, h0, rfl⟩ := IS.nd_majored_some hd;exact h.uniq n d0 h0
 · obtain ⟨d0, h0, rfl⟩ := IS.nd_majored_some hd;have hlen : I.majored.nodes.length = I.nodes.length := by simp [IS.majored]
   rw [hlen];exact h.keys n d0 h0 x hx
theorem HS.grant (h : HS A I m) (hG : Granted A name n A') (hn : (A.objs.lookup name).isSome) (hb : I.queue.length + I.hs.length + I.reg.length + 1 ≤ 9000) : n = I.fresh ∧ HS A' (I.grant name) m := by
 have hf : n = I.fresh := by
  unfold IS.fresh;rw [← h.sim.hs];exact (freshOf_eq hG.least).symm
 have hgood := h.good.granted hG hn (by rw [h.sim.queue, h.sim.hs, h.sim.reg]; exact hb);refine ⟨hf, ?_⟩;obtain ⟨F, nx, rfl⟩ := hG.eq;refine ⟨hgood, Sim.make hgood.wf h.sim.names ?_ h.sim.reg h.sim.queue h.sim.room h.sim.obj, h.memT, h.full, h.young, h.uniq, h.keys, h.apart.congr rfl⟩;show A.handles ++ [(n, name)] = I.hs ++ [(I.fresh, name)];rw [h.sim.hs, hf]
theorem HS.dropped (h : HS A I m) (hD : DropSpec A n er A') : er = (I.drop n).1 ∧ HS A' (I.drop n).2 m := by
 have hgood := h.good.dropped hD;cases hD with
 | none hl =>
   rw [h.sim.hs] at hl;unfold IS.drop;rw [hl];exact ⟨rfl, h⟩
 | @ok name F hl hF =>
   rw [h.sim.hs] at hl;unfold IS.drop;rw [hl];exact ⟨rfl, hgood, Sim.make hgood.wf h.sim.names (by show delH A.handles n = _; rw [h.sim.hs]) h.sim.reg h.sim.queue h.sim.room h.sim.obj, h.memT, h.full, h.young, h.uniq, h.keys, h.apart.congr rfl⟩
theorem HS.finalized (h : HS A I m) (hD : FinSpec A n b er A') (hb : I.queue.length + I.hs.length + I.reg.length + 1 ≤ 9000) : b = (I.fin n).1 ∧ er = (I.fin n).2.1 ∧ HS A' (I.fin n).2.2 m := by
 have hgood := h.good.fin hD (by rw [h.sim.queue, h.sim.hs, h.sim.reg]; exact hb);cases hD with
 | none hl =>
   rw [h.sim.hs] at hl;unfold IS.fin;rw [hl];exact ⟨rfl, rfl, h⟩
 | again hl hin =>
   rw [h.sim.hs] at hl;rw [h.sim.reg] at hin;unfold IS.fin;rw [hl];simp only [hin, if_true];exact ⟨by first | rfl | trivial, by first | rfl | trivial, h⟩
 | new hl hin =>
   rw [h.sim.hs] at hl;rw [h.sim.reg] at hin;unfold IS.fin;rw [hl];simp only [hin, if_false];refine ⟨by first | rfl | trivial, by first | rfl | trivial, hgood, Sim.make hgood.wf h.sim.names h.sim.hs ?_ h.sim.queue h.sim.room h.sim.obj, h.memT, h.full, h.young, h.uniq, h.keys, h.apart.congr rfl⟩;show A.reg ++ [_] = I.reg ++ [_];rw [h.sim.reg]
theorem HS.nexted (h : HS A I m) {q : Int} (hD : NextSpec A q b er A') : q = I.next.1 ∧ b = I.next.2.1 ∧ er = I.next.2.2.1 ∧ HS A' I.next.2.2.2 m := by
 have hgood := h.good.next hD
 cases hD with
 | none hq =>
   rw [h.sim.queue] at hq;unfold IS.next
   rw [hq];exact ⟨rfl, rfl, rfl, h⟩
 | @some n q l A1 hq hG =>
   have hf : q = I.fresh := by
    unfold IS.fresh;rw [← h.sim.hs];exact (freshOf_eq hG.least).symm
   rw [h.sim.queue] at hq;obtain ⟨F, nx, rfl⟩ := hG.eq;unfold IS.next
   rw [hq];refine ⟨hf, rfl, rfl, hgood, Sim.make hgood.wf h.sim.names ?_ h.sim.reg rfl h.sim.room h.sim.obj, h.memT, h.full, h.young, h.uniq, h.keys, h.apart.congr rfl⟩;show A.handles ++ [(q, n)] = I.hs ++ [(I.fresh, n)];rw [h.sim.hs, hf]
theorem IS.nd_add (d : Nd) {x : Nd} (h : I.nd n = some x) : (I.add d).nd n = some x := by
 obtain ⟨h0, hl, he⟩ := IS.nd_nat h;unfold IS.nd;rw [if_pos h0];show (I.nodes ++ [d])[n.toNat]? = _;rw [List.getElem?_append_left hl]; exact he
theorem IS.nd_add_new (I : IS) (d : Nd) : (I.add d).nd I.nodes.length = some d := by
 unfold IS.nd;rw [if_pos (by omega)];show (I.nodes ++ [d])[((I.nodes.length : Nat) : Int).toNat]? = _;simp
theorem IS.nd_add_cases {x : Nd} (h : (I.add d).nd n = some x) : (n = I.nodes.length ∧ x = d) ∨ I.nd n = some x := by
 obtain ⟨h0, hl, he⟩ := IS.nd_nat h;have he' : (I.nodes ++ [d])[n.toNat]? = some x := he;by_cases hlt : n.toNat < I.nodes.length
 · right;unfold IS.nd;rw [if_pos h0]
   rwa [List.getElem?_append_left hlt] at he'
 · left;have hl' : n.toNat < I.nodes.length + 1 := by
    have : (I.add d).nodes.length = I.nodes.length + 1 := by simp [IS.add]
    omega
   have e : n.toNat = I.nodes.length := by omega
   rw [e] at he';simp at he';exact ⟨by omega, he'.symm⟩
theorem HS.addOb {A2 : St} (h : HS A I m) (hm : m < 9000) (hM : MinoredOr A A1) {table old : Bool} (hold : old = decide (A.young < (A1.memN.length : Int) + (⟨false, tag⟩ :: flds : List Wd).length)) (hfl : flds.length ≤ 200) (htab : table = true → flds = [])
 (hrefs : ∀ x ∈ refsW flds, x ∈ I.roots) (hnodes : I.nodes.length + 1 ≤ 9000) (hb : I.queue.length + I.hs.length + I.reg.length + 1 ≤ 9000) (hG : Granted (A1.added table old (⟨false, tag⟩ :: flds)) A.names n A2) :
 n = I.fresh ∧ HS A2 ((I.add ⟨table, tag, flds, [], false⟩).grant I.nodes.length) (m + 1) := by
 obtain ⟨h1, hT1⟩ := h.minorOr hm hM;have hs1 := hM.sames h.good.wf;have hnm : A1.names = A.names := hs1.1;have hw1 := h1.good.wf;have hyo := h.young;have hfew := h1.few;have hwb : Wf 9000 100000000000 (A1.bare table old (⟨false, tag⟩ :: flds)) := by
  refine hw1.bare (by simp; omega) (fun x hx => ?_) (fun ht => by rw [htab ht]; rfl) (by omega) (fun ho => ?_) (fun _ => by simp only [List.length_cons]; omega)
  · have hx' : x ∈ refsW flds := hx;have := hrefs x hx';rw [← h1.sim.roots] at this;exact hw1.roots x this
  · rw [ho] at hold;have := of_decide_eq_false hold.symm;omega
 have hadd := added_eq A1 table old (⟨false, tag⟩ :: flds);have hgood : Good 9000 100000000000 (A1.added table old (⟨false, tag⟩ :: flds)) := by
  refine ⟨by rw [hadd]; exact hwb.noted _, remOk_added hw1 h1.good.rem, h1.good.free.congr ?_ ?_ ?_⟩
  · rw [hadd, noted_same]; exact (setMem_same A1 old _).2.2.2.2.2.1
  · rw [hadd, noted_same]; exact (setMem_same A1 old _).2.2.2.2.2.2.1
  · rw [hadd, noted_same]; exact (setMem_same A1 old _).2.2.1
 have hsm := setMem_same A1 old (A1.mem old ++ (⟨false, tag⟩ :: flds));have hobj : ∀ y o, (A1.added table old (⟨false, tag⟩ :: flds)).objs.lookup y = some o → (A1.bare table old (⟨false, tag⟩ :: flds)).objs.lookup y = some o := fun y o ho => by rw [hadd, noted_same] at ho; exact ho
 have hisS : ∀ y, ((A1.added table old (⟨false, tag⟩ :: flds)).objs.lookup y) = (A1.bare table old (⟨false, tag⟩ :: flds)).objs.lookup y := fun y => by rw [hadd, noted_same]
 have hareaN : ∀ o, (A1.added table old (⟨false, tag⟩ :: flds)).area o = (A1.bare table old (⟨false, tag⟩ :: flds)).area o := fun o => by rw [hadd, noted_same]; rfl
 have hsim : Sim (A1.added table old (⟨false, tag⟩ :: flds)) (I.add ⟨table, tag, flds, [], false⟩) := by
  refine Sim.make hgood.wf ?_ ?_ ?_ ?_ ?_ ?_
  · rw [hadd, noted_same];show A1.names + 1 = _;rw [h1.sim.names];simp [IS.add]
  · rw [hadd, noted_same];exact hsm.2.2.1.trans h1.sim.hs
  · rw [hadd, noted_same];exact hsm.2.2.2.1.trans h1.sim.reg
  · rw [hadd, noted_same];exact hsm.2.2.2.2.1.trans h1.sim.queue
  · rw [hadd, noted_same];exact hsm.2.2.2.2.2.2.2.1.trans h1.sim.room
  · intro y o ho;have ho' := hobj y o ho;rcases bare_lookup hw1 _ _ _ ho' with ⟨rfl, rfl⟩ | ⟨hne, ho2⟩
    · refine ⟨⟨table, tag, flds, [], false⟩, ?_, rfl, ?_, ?_, rfl, rfl⟩
      · have := IS.nd_add_new I ⟨table, tag, flds, [], false⟩;rw [h1.sim.names]; exact this
      · show (⟨false, tag⟩ :: flds : List Wd).length - 1 = _;simp
      · rw [hareaN];exact bare_area_new _ _ _ _ (by simp)
    · obtain ⟨d, g1, g2, g3, g4, g5, g6⟩ := h1.sim.obj y o ho2;refine ⟨d, IS.nd_add _ g1, g2, g3, ?_, ?_, g6⟩
      · rw [hareaN, bare_area hw1 _ _ _ ho2]; exact g4
      · rw [g5];refine List.filter_congr fun x hx => ?_;rw [hisS];have e : x.key ≠ A1.names := fun e => by
         have h3 := h1.keys y d g1 x hx;have h4 := h1.sim.names;omega
        rw [bare_lookup_old _ _ _ _ e]
 have hsame : (A1.added table old (⟨false, tag⟩ :: flds)).memT.length ≤ A1.memT.length + 201 ∧ (A1.added table old (⟨false, tag⟩ :: flds)).full = A1.full ∧ (A1.added table old (⟨false, tag⟩ :: flds)).young = A1.young := by
  rw [hadd, noted_same];refine ⟨?_, hsm.2.2.2.2.2.2.2.1, hsm.2.1⟩;cases old
  · show A1.memT.length ≤ _; omega
  · show (A1.memT ++ _).length ≤ _;simp only [List.length_append, List.length_cons]; omega
 have hlen : (I.add ⟨table, tag, flds, [], false⟩).nodes.length = I.nodes.length + 1 := by simp [IS.add]
 have h2 : HS (A1.added table old (⟨false, tag⟩ :: flds)) (I.add ⟨table, tag, flds, [], false⟩) (m + 1) := by
  refine ⟨hgood, hsim, by have := hsame.1; omega, by rw [hsame.2.1]; exact h1.full, by rw [hsame.2.2]; exact h1.young, fun y d hd => ?_, fun y d hd x hx => ?_, h1.apart.added hw1 _ _ _⟩
  · rcases IS.nd_add_cases hd with ⟨_, rfl⟩ | hd'
    · exact List.nodup_nil
    · exact h1.uniq y d hd'
  · rw [hlen];rcases IS.nd_add_cases hd with ⟨_, rfl⟩ | hd'
    · cases hx
    · have := h1.keys y d hd' x hx; omega
 have hpres : ((A1.added table old (⟨false, tag⟩ :: flds)).objs.lookup A.names).isSome := by
  rw [hisS, ← hnm, bare_lookup_new hw1]; rfl
 obtain ⟨e, h3⟩ := h2.grant hG hpres hb;refine ⟨e, ?_⟩;rw [h.sim.names] at h3;exact h3
theorem HS.ent (h : HS A I m) (hl : I.hs.lookup t = some name) : ∃ o d, A.objs.lookup name = some o ∧ I.nd name = some d ∧ o.table = d.table ∧ o.size = d.flds.length ∧ A.area o = ⟨false, d.tag⟩ :: d.flds ∧ o.ents = d.ents.filter (fun x => (A.objs.lookup x.key).isSome) ∧ d.gone = false := by
 obtain ⟨o, ho⟩ := Option.isSome_iff_exists.1 (h.good.wf.hob t name (by rw [h.sim.hs]; exact hl));obtain ⟨d, g1, g2, g3, g4, g5, g6⟩ := h.sim.obj _ _ ho;exact ⟨o, d, ho, g1, g2, g3, g4, g5, g6⟩
theorem HS.isH (h : HS A I m) (hl : I.hs.lookup t = some name) : (A.objs.lookup name).isSome := h.good.wf.hob t name (by rw [h.sim.hs]; exact hl)
theorem okC_root (h : I.okC c = true) (hr : c.ref = true) : ∃ n, I.hs.lookup c.num = some n ∧ I.wordC c = ⟨true, n⟩ ∧ n ∈ I.roots := by
 unfold IS.okC at h;rw [hr] at h;obtain ⟨n, hn⟩ : ∃ n, I.hs.lookup c.num = some n := Option.isSome_iff_exists.1 (by rw [Bool.not_true, Bool.false_or] at h; exact h);refine ⟨n, hn, by unfold IS.wordC; rw [hr, hn]; rfl, ?_⟩;unfold IS.roots;exact List.mem_append_right _ (List.mem_map.2 ⟨_, look_mem hn, rfl⟩)
theorem wordC_num (hr : c.ref = false) : I.wordC c = c := by
 unfold IS.wordC; rw [hr]; obtain ⟨r, n⟩ := c; simp at hr; subst hr; rfl
theorem refs_wordC (h : ∀ c ∈ cs, I.okC c = true) : ∀ x ∈ refsW (cs.map I.wordC), x ∈ I.roots := by
 intro x hx;obtain ⟨y, hy, rfl⟩ := List.mem_map.1 hx;obtain ⟨hy1, hy2⟩ := List.mem_filter.1 hy;obtain ⟨c, hc, rfl⟩ := List.mem_map.1 hy1;cases hr : c.ref with
 | false => rw [wordC_num hr, hr] at hy2; cases hy2
 | true =>
   obtain ⟨n, _, h2, h3⟩ := okC_root (h c hc) hr;rw [h2]; exact h3
theorem HS.addSpec (h : HS A I m) (hm : m < 9000) {table : Bool} (hfl : flds.length ≤ 200) (htab : table = true → flds = [])
 (hrefs : ∀ x ∈ refsW flds, x ∈ I.roots) (hnodes : I.nodes.length + 1 ≤ 9000) (hb : I.queue.length + I.hs.length + I.reg.length + 1 ≤ 9000) (hS : AddSpec A table (⟨false, tag⟩ :: flds) r er A') :
 r = (I.adds (flds.length + 1) ⟨table, tag, flds, [], false⟩).1 ∧ er = (I.adds (flds.length + 1) ⟨table, tag, flds, [], false⟩).2.1 ∧ HS A' (I.adds (flds.length + 1) ⟨table, tag, flds, [], false⟩).2.2 (m + 1) := by
 unfold IS.adds;cases hS with
 | full hr =>
   obtain ⟨h1, h2⟩ := h.room hr;have h3 : ¬ ((I.words I.live : Int) + (flds.length + 1 : Nat) ≤ I.room) := of_decide_eq_false h2.symm;rw [if_neg h3];exact ⟨rfl, rfl, h1.more (by omega)⟩
 | made hr hM hG =>
   obtain ⟨h1, h2⟩ := h.room hr;have h3 : (I.words I.live : Int) + (flds.length + 1 : Nat) ≤ I.room := of_decide_eq_true h2.symm;rw [if_pos h3];obtain ⟨h4, h5⟩ := h1.addOb hm hM rfl hfl htab hrefs hnodes hb hG;exact ⟨h4, rfl, h5⟩
theorem HS.make (h : HS A I m) (hm : m < 9000) (hnodes : I.nodes.length + 1 ≤ 9000) (hb : I.queue.length + I.hs.length + I.reg.length + 1 ≤ 9000) (hS : MakeSpec A tag cs r er A') :
 r = (I.make tag cs).1 ∧ er = (I.make tag cs).2.1 ∧ HS A' (I.make tag cs).2.2 (m + 1) := by
 unfold IS.make;cases hS with
 | bad hc =>
   obtain ⟨c, h1, h2⟩ := hc;rw [h.okC] at h2;have h3 : ¬ (cs.all I.okC = true) := fun h4 => by rw [List.all_eq_true.1 h4 c h1] at h2; cases h2
   rw [if_neg h3];exact ⟨rfl, rfl, h.more (by omega)⟩
 | arg hc ha =>
   have h3 : cs.all I.okC = true := List.all_eq_true.2 fun c h1 => by rw [← h.okC]; exact hc c h1
   rw [if_pos h3, if_pos ha];exact ⟨rfl, rfl, h.more (by omega)⟩
 | add hc ht hl hA =>
   have hc' : ∀ c ∈ cs, I.okC c = true := fun c h1 => by rw [← h.okC]; exact hc c h1
   have h3 : cs.all I.okC = true := List.all_eq_true.2 hc';have ha : ¬ (tag < 0 ∨ 200 < cs.length) := by omega
   rw [if_pos h3, if_neg ha];have e : cs.map A.wordC = cs.map I.wordC := List.map_congr_left fun c _ => h.wordC c;rw [e] at hA;have := h.addSpec hm (by simpa using hl) (fun h => by cases h) (refs_wordC hc') hnodes hb hA;simpa using this
theorem HS.table (h : HS A I m) (hm : m < 9000) (hnodes : I.nodes.length + 1 ≤ 9000) (hb : I.queue.length + I.hs.length + I.reg.length + 1 ≤ 9000) (hS : AddSpec A true [⟨false, 0⟩] r er A') :
 r = I.table.1 ∧ er = I.table.2.1 ∧ HS A' I.table.2.2 (m + 1) := by
 have := h.addSpec hm (flds := []) (by simp) (fun _ => rfl) (by simp [refsW]) hnodes hb hS;exact this
def IS.tab (I : IS) (t key : Int) : Int ⊕ (Int × Int × Nd) := match I.hs.lookup t with
 | none => .inl 221
 | some name => match I.hs.lookup key with
   | none => .inl 221
   | some kn => match I.nd name with
     | none => .inl 0
     | some d => if d.table then .inr (name, kn, d) else .inl 223
noncomputable def IS.find (I : IS) (t key : Int) : Wd × Bool × Int × IS := match I.tab t key with
 | .inl er => (⟨false, 0⟩, false, er, I)
 | .inr (_, kn, d) => match d.ents.find? (KeyIs kn) with
   | none => (⟨false, 0⟩, false, 0, I)
   | some x => if x.val.ref then (⟨true, I.fresh⟩, true, 0, I.grant x.val.num) else (⟨false, x.val.num⟩, true, 0, I)
def IS.remove (I : IS) (t key : Int) : Bool × Int × IS := match I.tab t key with
 | .inl er => (false, er, I)
 | .inr (name, kn, d) => match d.ents.find? (KeyIs kn) with
   | none => (false, 0, I)
   | some _ => (true, 0, I.setEnts name fun l => l.filter fun x => !KeyIs kn x)
noncomputable def IS.put (I : IS) (t key : Int) (c : Wd) : Int × IS := match I.hs.lookup t with
 | none => (221, I)
 | some name => match I.hs.lookup key with
   | none => (221, I)
   | some kn => if I.okC c then (match I.nd name with
     | none => (0, I)
     | some d => if d.table then (match d.ents.find? (KeyIs kn) with
      | some _ => (0, I.setEnts name fun l => l.map fun x => if KeyIs kn x then ⟨x.key, I.wordC c⟩ else x)
      | none => if (I.words I.live : Int) + 3 ≤ I.room then (0, I.setEnts name fun l => l ++ [⟨kn, I.wordC c⟩]) else (220, I))
      else (223, I)) else (221, I)
theorem HS.tab_err (h : HS A I m) (hE : EntErr A t key er) : I.tab t key = .inl er := by
 unfold IS.tab;cases hE with
 | none h1 => rw [h.sim.hs] at h1; rw [h1]
 | nokey h1 h2 => rw [h.sim.hs] at h1 h2; rw [h1]; simp only []; rw [h2]
 | kind h1 h2 h3 h4 =>
   rw [h.sim.hs] at h1 h2;obtain ⟨d, g1, g2, _⟩ := h.sim.obj _ _ h3;rw [h4] at g2;rw [h1]; simp only []; rw [h2]; simp only []; rw [g1]; simp [← g2]
theorem HS.tab_ok (h : HS A I m) (hT : TabAt A t key name kn o) : ∃ d, I.tab t key = .inr (name, kn, d) ∧ I.nd name = some d ∧ d.table = true ∧ o.ents = d.ents.filter (fun x => (A.objs.lookup x.key).isSome) ∧ (A.objs.lookup kn).isSome ∧ I.hs.lookup t = some name ∧ I.hs.lookup key = some kn := by
 have h1 := hT.h1;have h2 := hT.h2;rw [h.sim.hs] at h1 h2;obtain ⟨d, g1, g2, _, _, g5, _⟩ := h.sim.obj _ _ hT.h3;rw [hT.h4] at g2;refine ⟨d, ?_, g1, g2.symm, g5, h.isH h2, h1, h2⟩;unfold IS.tab;rw [h1]; simp only []; rw [h2]; simp only []; rw [g1]; simp [← g2]
theorem find_key (hu : (l.map (·.key)).Nodup) (hx : x ∈ l) (hk : KeyIs kn x = true) : l.find? (KeyIs kn) = some x := by
 induction l with
 | nil => cases hx
 | cons y l ih =>
   simp only [List.map_cons, List.nodup_cons] at hu;rcases List.mem_cons.1 hx with rfl | hx'
   · simp [List.find?, hk]
   · have : KeyIs kn y = false := by
      cases hy : KeyIs kn y with
      | false => rfl
      | true =>
        exfalso;refine hu.1 (List.mem_map.2 ⟨x, hx', ?_⟩);simp only [KeyIs, beq_iff_eq] at hk hy;rw [hk, hy]
     simp only [List.find?, this];exact ih hu.2 hx'
theorem find_none {p : En → Bool} (h : ∀ x ∈ l.filter p, KeyIs kn x = false) (hp : ∀ x, KeyIs kn x = true → p x = true) : l.find? (KeyIs kn) = none := by
 refine List.find?_eq_none.2 fun x hx hk => ?_;have := h x (List.mem_filter.2 ⟨hx, hp x hk⟩);rw [hk] at this; cases this
theorem HS.found (h : HS A I m) (g1 : I.nd name = some d) (g5 : o.ents = d.ents.filter (fun x => (A.objs.lookup x.key).isSome)) (hj : o.ents[j]? = some x) (hk : KeyIs kn x = true) : d.ents.find? (KeyIs kn) = some x ∧ x ∈ d.ents ∧ x ∈ o.ents := by
 have hx := List.mem_of_getElem? hj;have hx' := hx;rw [g5] at hx';have hm := (List.mem_filter.1 hx').1;exact ⟨find_key (h.uniq _ _ g1) hm hk, hm, hx⟩
theorem HS.nofound (g5 : o.ents = d.ents.filter (fun x => (A.objs.lookup x.key).isSome)) (hk : (A.objs.lookup kn).isSome) (hno : ∀ x ∈ o.ents, KeyIs kn x = false) : d.ents.find? (KeyIs kn) = none := by
 rw [g5] at hno;refine find_none hno fun x hx => ?_;simp only [KeyIs, beq_iff_eq] at hx;rw [hx]; exact hk
theorem HS.finds (h : HS A I m) (hb : I.queue.length + I.hs.length + I.reg.length + 1 ≤ 9000) (hS : FindSpec A t key c b er A') :
 c = (I.find t key).1 ∧ b = (I.find t key).2.1 ∧ er = (I.find t key).2.2.1 ∧ HS A' (I.find t key).2.2.2 m := by
 unfold IS.find;cases hS with
 | err hE => rw [h.tab_err hE]; exact ⟨rfl, rfl, rfl, h⟩
 | no hT hno =>
   obtain ⟨d, g0, g1, g2, g5, g6, _⟩ := h.tab_ok hT;rw [g0]; simp only [];rw [HS.nofound g5 g6 hno];exact ⟨rfl, rfl, rfl, h⟩
 | num hT hj hk hr =>
   obtain ⟨d, g0, g1, g2, g5, g6, _⟩ := h.tab_ok hT;rw [g0]; simp only [];rw [(h.found g1 g5 hj hk).1]; simp only [hr, Bool.false_eq_true, if_false];exact ⟨by first | rfl | trivial, by first | rfl | trivial, by first | rfl | trivial, h⟩
 | ref hT hj hk hr hG =>
   obtain ⟨d, g0, g1, g2, g5, g6, _⟩ := h.tab_ok hT;rw [g0]; simp only [];obtain ⟨k1, k2, k3⟩ := h.found g1 g5 hj hk;have hp : (A.objs.lookup _).isSome := h.good.wf.closed _ _ hT.h3 _ (mem_refs.2 (.inr ⟨_, k3, .inr ⟨hr, rfl⟩⟩));obtain ⟨e1, e2⟩ := h.grant hG hp hb;rw [k1]; simp only [hr, if_true];exact ⟨by rw [e1], by first | rfl | trivial, by first | rfl | trivial, e2⟩
theorem IS.nd_set {f : List En → List En} (h : I.nd name = some d) : (I.setEnts name f).nd name = some { d with ents := f d.ents } := by
 obtain ⟨h0, hl, he⟩ := IS.nd_nat h;unfold IS.nd;rw [if_pos h0];show (I.nodes.modify name.toNat fun d => { d with ents := f d.ents })[name.toNat]? = _;rw [List.getElem?_modify, he];simp
theorem IS.nd_set_ne (f : List En → List En) (h0 : 0 ≤ name) (h : n ≠ name) : (I.setEnts name f).nd n = I.nd n := by
 unfold IS.nd
 split
 · rename_i hn
   show (I.nodes.modify name.toNat fun d => { d with ents := f d.ents })[n.toNat]? = _;rw [List.getElem?_modify];have e : ¬ name.toNat = n.toNat := by omega
   simp only [e, if_false];cases I.nodes[n.toNat]? <;> rfl
 · rfl
theorem IS.set_len (I : IS) (name : Int) (f : List En → List En) : (I.setEnts name f).nodes.length = I.nodes.length := by simp [IS.setEnts]
theorem setTab_same (A : St) (name : Int) (o : Ob) (l : List En) : A.setTab name o l = { A.setOb name { o with ents := l } with rem := (A.setTab name o l).rem } := noted_same _ _
theorem HS.setTab (h : HS A I m) (ho : A.objs.lookup name = some o) (g1 : I.nd name = some d) (ht : o.table = true) {f : List En → List En} 
 (hlf : l = (f d.ents).filter (fun x => (A.objs.lookup x.key).isSome)) (hl : l.length ≤ 1000) (hin : ∀ x ∈ refsE l, (A.objs.lookup x).isSome) (hu : ((f d.ents).map (·.key)).Nodup) (hk : ∀ x ∈ f d.ents, x.key < I.nodes.length) :
 HS (A.setTab name o l) (I.setEnts name f) m := by
 have hgood := h.good.setTab ho ht hl hin;obtain ⟨h0, _, _⟩ := IS.nd_nat g1;have hlk : ∀ n, (A.setTab name o l).objs.lookup n = (A.setOb name { o with ents := l }).objs.lookup n := fun n => by rw [setTab_same]
 have hpr : ∀ n, ((A.setTab name o l).objs.lookup n).isSome = (A.objs.lookup n).isSome := fun n => by rw [hlk, setOb_isSome ho]
 have har : ∀ q, (A.setTab name o l).area q = A.area q := fun q => by rw [setTab_same]; rfl
 have hdef : ∀ n d', (I.setEnts name f).nd n = some d' → (n = name ∧ d' = { d with ents := f d.ents }) ∨ I.nd n = some d' := fun n d' hd => by
  by_cases e : n = name
  · subst e;rw [IS.nd_set g1] at hd;simp only [Option.some.injEq] at hd;exact .inl ⟨rfl, hd.symm⟩
  · rw [IS.nd_set_ne f h0 e] at hd;exact .inr hd
 refine ⟨hgood, Sim.make hgood.wf ?_ ?_ ?_ ?_ ?_ ?_, ?_, ?_, ?_, fun n d' hd => ?_, fun n d' hd x hx => ?_, h.apart.setTab ho⟩
 · rw [setTab_same, IS.set_len]; exact h.sim.names
 · rw [setTab_same]; exact h.sim.hs
 · rw [setTab_same]; exact h.sim.reg
 · rw [setTab_same]; exact h.sim.queue
 · rw [setTab_same]; exact h.sim.room
 · intro n o' ho';rw [hlk] at ho';rcases setTab_lookup ho l ho' with ⟨rfl, rfl⟩ | ⟨hne, ho2⟩
   · obtain ⟨d0, k1, k2, k3, k4, k5, k6⟩ := h.sim.obj _ _ ho;rw [g1] at k1;simp only [Option.some.injEq] at k1;subst k1;refine ⟨_, IS.nd_set g1, k2, k3, by rw [har]; exact k4, ?_, k6⟩;show l = (f d.ents).filter _;exact hlf.trans (List.filter_congr fun x _ => (hpr x.key).symm)
   · obtain ⟨d0, k1, k2, k3, k4, k5, k6⟩ := h.sim.obj _ _ ho2;refine ⟨d0, by rw [IS.nd_set_ne f h0 hne]; exact k1, k2, k3, by rw [har]; exact k4, ?_, k6⟩;rw [k5];exact List.filter_congr fun x _ => (hpr x.key).symm
 · rw [setTab_same]; exact h.memT
 · rw [setTab_same]; exact h.full
 · rw [setTab_same]; exact h.young
 · rcases hdef n d' hd with ⟨_, rfl⟩ | hd'
   · exact hu
   · exact h.uniq n d' hd'
 · rw [IS.set_len];rcases hdef n d' hd with ⟨_, rfl⟩ | hd'
   · exact hk x hx
   · exact h.keys n d' hd' x hx
theorem erase_key (hu : (l.map (·.key)).Nodup) (hj : l[j]? = some x) (hk : KeyIs kn x = true) : l.eraseIdx j = l.filter fun y => !KeyIs kn y := by
 induction l generalizing j with
 | nil => simp at hj
 | cons y l ih =>
   simp only [List.map_cons, List.nodup_cons] at hu;cases j with
   | zero =>
     simp at hj; subst hj;have : ∀ z ∈ l, (!KeyIs kn z) = true := fun z hz => by
      cases h : KeyIs kn z with
      | false => rfl
      | true =>
        exfalso;refine hu.1 (List.mem_map.2 ⟨z, hz, ?_⟩);simp only [KeyIs, beq_iff_eq] at hk h;rw [hk, h]
     rw [List.eraseIdx_cons_zero, List.filter_cons, hk, List.filter_eq_self.2 this];simp
   | succ j =>
     have hj' : l[j]? = some x := by simpa using hj
     have hy : KeyIs kn y = false := by
      cases h : KeyIs kn y with
      | false => rfl
      | true =>
        exfalso;refine hu.1 (List.mem_map.2 ⟨x, List.mem_of_getElem? hj', ?_⟩);simp only [KeyIs, beq_iff_eq] at hk h;rw [hk, h]
     rw [List.eraseIdx_cons_succ, List.filter_cons, hy, ih hu.2 hj'];simp
theorem set_key (hu : (l.map (·.key)).Nodup) (hj : l[j]? = some x) (hk : KeyIs kn x = true) (v : Wd) : l.set j ⟨x.key, v⟩ = l.map fun y => if KeyIs kn y then ⟨y.key, v⟩ else y := by
 induction l generalizing j with
 | nil => simp at hj
 | cons y l ih =>
   simp only [List.map_cons, List.nodup_cons] at hu;cases j with
   | zero =>
     simp at hj; subst hj;have : ∀ z ∈ l, (if KeyIs kn z then (⟨z.key, v⟩ : En) else z) = z := fun z hz => by
      cases h : KeyIs kn z with
      | false => simp
      | true =>
        exfalso;refine hu.1 (List.mem_map.2 ⟨z, hz, ?_⟩);simp only [KeyIs, beq_iff_eq] at hk h;rw [hk, h]
     rw [List.set_cons_zero, List.map_cons, hk, List.map_congr_left this];simp
   | succ j =>
     have hj' : l[j]? = some x := by simpa using hj
     have hy : KeyIs kn y = false := by
      cases h : KeyIs kn y with
      | false => rfl
      | true =>
        exfalso;refine hu.1 (List.mem_map.2 ⟨x, List.mem_of_getElem? hj', ?_⟩);simp only [KeyIs, beq_iff_eq] at hk h;rw [hk, h]
     rw [List.set_cons_succ, List.map_cons, hy, ih hu.2 hj'];simp
theorem nodup_filter_key (p : En → Bool) (h : (l.map (·.key)).Nodup) : ((l.filter p).map (·.key)).Nodup := (List.Sublist.map _ List.filter_sublist).nodup h
theorem mem_refsE : n ∈ refsE l ↔ ∃ x ∈ l, x.key = n ∨ (x.val.ref = true ∧ x.val.num = n) := by
 simp only [refsE, List.mem_flatMap];refine exists_congr fun x => and_congr Iff.rfl ?_;cases hx : x.val.ref <;> simp [eq_comm]
theorem HS.removes (h : HS A I m) (hS : RemoveSpec A t key b er A') : b = (I.remove t key).1 ∧ er = (I.remove t key).2.1 ∧ HS A' (I.remove t key).2.2 m := by
 unfold IS.remove;cases hS with
 | err hE => rw [h.tab_err hE]; exact ⟨rfl, rfl, h⟩
 | no hT hno =>
   obtain ⟨d, g0, g1, g2, g5, g6, _⟩ := h.tab_ok hT;rw [g0]; simp only [];rw [HS.nofound g5 g6 hno];exact ⟨rfl, rfl, h⟩
 | @ok name kn o j x hT hj hk =>
   obtain ⟨d, g0, g1, g2, g5, g6, _⟩ := h.tab_ok hT;rw [g0]; simp only [];rw [(h.found g1 g5 hj hk).1];refine ⟨rfl, rfl, ?_⟩;have hu := h.uniq _ _ g1;have hul : (o.ents.map (·.key)).Nodup := by rw [g5]; exact nodup_filter_key _ hu
   have he := erase_key hul hj hk;refine h.setTab hT.h3 g1 hT.h4 (f := fun l => l.filter fun x => !KeyIs kn x) ?_ ?_ ?_ (nodup_filter_key _ hu) (fun y hy => h.keys _ _ g1 y (List.mem_filter.1 hy).1)
   · rw [he, g5, List.filter_filter, List.filter_filter];exact List.filter_congr fun y _ => Bool.and_comm _ _
   · have := h.good.wf.fit.ents _ _ hT.h3;rw [List.length_eraseIdx]
     split <;> omega
   · intro y hy;obtain ⟨z, hz, h1⟩ := mem_refsE.1 hy;rw [he] at hz;exact h.good.wf.closed _ _ hT.h3 _ (mem_refs.2 (.inr ⟨z, (List.mem_filter.1 hz).1, h1⟩))
theorem HS.puts (h : HS A I m) (hfew : ∀ n d, I.nd n = some d → d.ents.length < 200) (hS : PutSpec A t key c er A') : er = (I.put t key c).1 ∧ HS A' (I.put t key c).2 m := by
 unfold IS.put;have hval : A.okC c = true → (A.wordC c).ref = true → (A.objs.lookup (A.wordC c).num).isSome := fun hok hr => by
  rw [h.okC] at hok;rw [h.wordC] at hr ⊢;cases hcr : c.ref with
  | false => rw [wordC_num hcr, hcr] at hr; cases hr
  | true =>
    obtain ⟨n, k1, k2, _⟩ := okC_root hok hcr;rw [k2]; exact h.isH k1
 cases hS with
 | none h1 => rw [h.sim.hs] at h1; rw [h1]; exact ⟨rfl, h⟩
 | nokey h1 h2 => rw [h.sim.hs] at h1 h2; rw [h1]; simp only []; rw [h2]; exact ⟨rfl, h⟩
 | bad h1 h2 h3 => rw [h.sim.hs] at h1 h2; rw [h.okC] at h3; rw [h1]; simp only []; rw [h2]; simp only [h3, Bool.false_eq_true, if_false]; exact ⟨by first | rfl | trivial, h⟩
 | kind h1 h2 h3 h4 h5 =>
   rw [h.sim.hs] at h1 h2; rw [h.okC] at h3;obtain ⟨d, g1, g2, _⟩ := h.sim.obj _ _ h4;rw [h5] at g2;rw [h1]; simp only []; rw [h2]; simp only [h3, if_true];rw [g1];simp only [← g2, Bool.false_eq_true, if_false];exact ⟨by first | rfl | trivial, h⟩
 | @turn name kn o j x hok hT hj hk =>
   obtain ⟨d, g0, g1, g2, g5, g6, k1, k2⟩ := h.tab_ok hT;have hok' := hok;rw [h.okC] at hok';rw [k1]; simp only []; rw [k2]; simp only [hok', if_true]; rw [g1]; simp only [g2, if_true];rw [(h.found g1 g5 hj hk).1];refine ⟨rfl, ?_⟩;have hu := h.uniq _ _ g1;have hul : (o.ents.map (·.key)).Nodup := by rw [g5]; exact nodup_filter_key _ hu
   have he := set_key hul hj hk (A.wordC c);have hkey : ∀ l : List En, (l.map fun x => if KeyIs kn x then (⟨x.key, I.wordC c⟩ : En) else x).map (·.key) = l.map (·.key) := fun l => by
    rw [List.map_map];refine List.map_congr_left fun y _ => ?_;simp only [Function.comp]
    split <;> rfl
   refine h.setTab hT.h3 g1 hT.h4 (f := fun l => l.map fun x => if KeyIs kn x then ⟨x.key, I.wordC c⟩ else x) ?_ ?_ ?_ (by rw [hkey]; exact hu) (fun y hy => ?_)
   · rw [he, h.wordC, g5];rw [List.filter_map]
     congr 1
     refine List.filter_congr fun y _ => ?_;simp only [Function.comp]
     split <;> rfl
   · have := h.good.wf.fit.ents _ _ hT.h3;rw [List.length_set]; exact this
   · intro y hy;obtain ⟨z, hz, h1⟩ := mem_refsE.1 hy;rw [he] at hz;obtain ⟨z0, hz0, rfl⟩ := List.mem_map.1 hz;by_cases hkz : KeyIs kn z0 = true
     · rw [if_pos hkz] at h1;rcases h1 with h1 | ⟨h1, rfl⟩
       · exact h.good.wf.closed _ _ hT.h3 _ (mem_refs.2 (.inr ⟨z0, hz0, .inl h1⟩))
       · exact hval hok h1
     · rw [if_neg hkz] at h1;exact h.good.wf.closed _ _ hT.h3 _ (mem_refs.2 (.inr ⟨z0, hz0, h1⟩))
   · have hy' : y.key ∈ (d.ents.map fun x => if KeyIs kn x then (⟨x.key, I.wordC c⟩ : En) else x).map (·.key) := List.mem_map.2 ⟨y, hy, rfl⟩;rw [hkey] at hy';obtain ⟨z, hz, e⟩ := List.mem_map.1 hy';rw [← e]; exact h.keys _ _ g1 z hz
 | full hok hT hno hr =>
   obtain ⟨d, g0, g1, g2, g5, g6, k1, k2⟩ := h.tab_ok hT;rw [h.okC] at hok;obtain ⟨h1, h2⟩ := h.room hr;have h3 : ¬ ((I.words I.live : Int) + (3 : Nat) ≤ I.room) := of_decide_eq_false h2.symm;have h3' : ¬ ((I.words I.live : Int) + 3 ≤ I.room) := h3;rw [k1]; simp only []; rw [k2]; simp only [hok, if_true]; rw [g1]; simp only [g2, if_true];rw [HS.nofound g5 g6 hno];simp only [h3', if_false];exact ⟨by first | rfl | trivial, h1⟩
 | @add name kn o or' Ar hok hT hno hr hor =>
   obtain ⟨d, g0, g1, g2, g5, g6, k1, k2⟩ := h.tab_ok hT;have hok' := hok;rw [h.okC] at hok';obtain ⟨h1, h2⟩ := h.room hr;have h3 : (I.words I.live : Int) + (3 : Nat) ≤ I.room := of_decide_eq_true h2.symm;have h3' : (I.words I.live : Int) + 3 ≤ I.room := h3;rw [k1]; simp only []; rw [k2]; simp only [hok', if_true]; rw [g1]; simp only [g2, if_true];have hnone := HS.nofound g5 g6 hno;rw [hnone];simp only [h3', if_true];refine ⟨by first | rfl | trivial, ?_⟩;have hu := h.uniq _ _ g1;obtain ⟨d', q1, q2, _, _, q5, _⟩ := h1.sim.obj _ _ hor;rw [g1] at q1;simp only [Option.some.injEq] at q1;subst q1;have hkn := h1.isH k2
   have hlen : or'.ents.length ≤ d.ents.length := by rw [q5]; exact List.length_filter_le _ _
   refine h1.setTab hor g1 (by rw [q2, g2]) (f := fun l => l ++ [⟨kn, I.wordC c⟩]) ?_ ?_ ?_ ?_ ?_
   · rw [h.wordC, List.filter_append, ← q5]
     congr 1
     simp [hkn]
   · have := hfew _ _ g1;rw [List.length_append]; simp; omega
   · intro y hy;obtain ⟨z, hz, h4⟩ := mem_refsE.1 hy;rcases List.mem_append.1 hz with hz | hz
     · exact h1.good.wf.closed _ _ hor _ (mem_refs.2 (.inr ⟨z, hz, h4⟩))
     · simp at hz;subst hz;rcases h4 with rfl | ⟨h4, rfl⟩
       · exact hkn
       · have h4' : (A.wordC c).ref = true := h4;show (Ar.objs.lookup (A.wordC c).num).isSome;rw [h.wordC] at h4' ⊢;cases hcr : c.ref with
         | false => rw [wordC_num hcr, hcr] at h4'; cases h4'
         | true =>
           obtain ⟨n, k5, k6, _⟩ := okC_root hok' hcr;rw [k6]; exact h1.isH k5
   · rw [List.map_append];refine List.nodup_append.2 ⟨hu, by simp, fun a ha b hb e => ?_⟩;simp at hb;subst hb;subst e;obtain ⟨z, hz, e⟩ := List.mem_map.1 ha;have := List.find?_eq_none.1 hnone z hz;simp [KeyIs, e] at this
   · intro y hy;rcases List.mem_append.1 hy with hy | hy
     · exact h.keys _ _ g1 y hy
     · simp at hy;subst hy;obtain ⟨o2, ho2⟩ := Option.isSome_iff_exists.1 g6;obtain ⟨d2, r1, _⟩ := h.sim.obj _ _ ho2;obtain ⟨r2, r3, _⟩ := IS.nd_nat r1;show kn < _;omega
def HP (w : World) (hb : Nat) (L : List Nat) (I : IS) (m : Nat) : Prop := ∃ g A, Rep w g A ∧ HS A I m ∧ g.hb = hb ∧ ∀ b ∈ L, b < w.heap.size ∧ g.own b = none
structure Got (w : World) (hb : Nat) (L : List Nat) (I : IS) (m : Nat) (w' : World) : Prop where
 hp : HP w' hb L I m
 chg : Chg (fun b => b ∉ L) w w'
theorem HP.frame (h : HP w hb L I m) (hC : Chg (fun b => b ∈ L) w w') : HP w' hb L I m := by
 obtain ⟨g, A, h1, h2, h3, h4⟩ := h;exact ⟨g, A, h1.frame hC fun b hb => (h4 b hb).2, h2, h3, fun b hb => ⟨Nat.lt_of_lt_of_le (h4 b hb).1 hC.size, (h4 b hb).2⟩⟩
theorem HP.still (h : HP w hb L I m) (hC : Chg (fun _ => False) w w') : HP w' hb L I m := h.frame (hC.mono fun _ _ h => h.elim)
theorem HP.alloc (h : HP w hb L I m) (X : Obj) : HP (w.alloc X) hb (w.heap.size :: L) I m := by
 obtain ⟨g, A, h1, h2, h3, h4⟩ := h;refine ⟨g, A, h1.alloc X, h2, h3, fun b hb => ?_⟩;have hs : (w.alloc X).heap.size = w.heap.size + 1 := by simp
 rcases List.mem_cons.1 hb with rfl | hb
 · refine ⟨by omega, ?_⟩;cases ho : g.own w.heap.size with
   | none => rfl
   | some r => have := h1.lt w.heap.size (by rw [ho]; rfl); omega
 · have := h4 b hb; exact ⟨by omega, this.2⟩
theorem HP.sub {L' : List Nat} (h : HP w hb L I m) (hs : ∀ b ∈ L', b ∈ L) : HP w hb L' I m := by
 obtain ⟨g, A, h1, h2, h3, h4⟩ := h;exact ⟨g, A, h1, h2, h3, fun b hb => h4 b (hs b hb)⟩
theorem HP.more (h : HP w hb L I m) (hm : m ≤ m') : HP w hb L I m' := by
 obtain ⟨g, A, h1, h2, h3⟩ := h;exact ⟨g, A, h1, h2.more hm, h3⟩
theorem Got.of {g g' : Gh} (h4 : ∀ b ∈ L, b < w.heap.size ∧ g.own b = none) (hR : Rep w' g' A') (hS : Step w g A w' g') (hH : HS A' I m) : Got w g.hb L I m w' := by
 refine ⟨⟨g', A', hR, hH, hS.hb, fun b hb => ⟨Nat.lt_of_lt_of_le (h4 b hb).1 hS.chg.size, ?_⟩⟩, hS.chg.mono fun b _ ho hL => by rw [(h4 b hL).2] at ho; cases ho⟩;cases ho : g'.own b with
 | none => rfl
 | some r =>
   have := hS.own b (h4 b hb).1 (by rw [ho]; rfl);rw [(h4 b hb).2, ho] at this;cases this
theorem HP.same (h : HP w hb L I m) : Got w hb L I m w := ⟨h, Chg.refl _ _⟩
theorem HP.got (h : HP w hb L I m) (hC : Chg (fun _ => False) w w') : Got w hb L I m w' := ⟨h.still hC, hC.mono fun _ _ h => h.elim⟩
structure Ample (I : IS) (m : Nat) : Prop where
 ops : m < 9000
 nodes : I.nodes.length + 1 ≤ 9000
 hs : I.queue.length + I.hs.length + I.reg.length + 1 ≤ 9000
 few : ∀ n d, I.nd n = some d → d.ents.length < 200
def IS.start (room : Int) : IS := ⟨[], [], [], [], room⟩
theorem start_kept {room : Int} (h : (IS.start room).kept n) : False := by
 induction h with
 | root h => simp [IS.start, IS.roots] at h
 | field _ _ _ _ ih => exact ih
 | entry _ _ _ _ _ _ ih => exact ih
theorem start_HS (young old : Int) (h : 4 ≤ young ∧ young ≤ 60000 ∧ 4 ≤ old ∧ old ≤ 60000) : HS (St.fresh young old) (IS.start old) 0 := by
 have hnd : ∀ n d, (IS.start old).nd n = some d → False := fun n d hd => by
  unfold IS.nd IS.start at hd
  split at hd
  · simp at hd
  · cases hd
 exact ⟨fresh_good young old, ⟨rfl, rfl, rfl, rfl, rfl, fun n o ho => (by cases ho), fun n hn => (start_kept hn).elim⟩, by simp [St.fresh], h.2.2.2, h.2.1, fun n d hd => (hnd n d hd).elim, fun n d hd => (hnd n d hd).elim, fun n m o x _ ho => by cases ho⟩
theorem HP.new (w : World) (young old : Int) (h : 4 ≤ young ∧ young ≤ 60000 ∧ 4 ≤ old ∧ old ≤ 60000) (hL : ∀ b ∈ L, b < w.heap.size) :
 Calls Tryz.prog 9 #[.int .i64 young, .int .i64 old] w fun e w' => ∃ hb, e = .returned (.tuple #[.pointer (some ⟨hb, 0, none⟩), .int .i64 0]) ∧ Hid (Got w hb L (IS.start old) 0 w') := by
 refine (new_any w young old h).mono ?_;rintro e w' ⟨rfl, rfl⟩;refine ⟨_, rfl, Lib.hid ⟨⟨newG w.heap.size, _, newRep w young old, start_HS young old h, rfl, fun b hb => ⟨by rw [newW_size]; have := hL b hb; omega, ?_⟩⟩, (newW_chg w young old).mono fun _ _ h => h.elim⟩⟩;have := hL b hb;unfold newG;simp only [];rw [if_neg (by omega), if_neg (by omega), if_neg (by omega), if_neg (by omega), if_neg (by omega)]
theorem HS.facts (h : HS A I m) (ha : Ample I m) : A.memT.length + 1001 * 9000 ≤ 100000000000 ∧ A.handles.length < 9000 ∧ (A.names ≤ 1000000 ∧ 0 ≤ A.names) := by
 have h1 := h.memT;have h2 := h.sim.names;have h3 := h.sim.hs;have h4 := ha.ops;have h5 := ha.nodes;have h6 := ha.hs;rw [h3];refine ⟨?_, by omega, by omega, by omega⟩;generalize A.memT.length = x at *;clear h h2 h3 h5 h6 ha;omega
theorem HP.make (h : HP w hb L I m) (ha : Ample I m) (tag : Int) {fa : Option Addr} {n fc : Nat} (hcs : CellsAt w fa n cs) (hn : n ≤ 8796093021952) :
 Calls Tryz.prog 23 #[.pointer (some ⟨hb, 0, none⟩), .int .i64 tag, .slice fa n fc] w fun e w' => e = .returned (.tuple #[.int .i64 (I.make tag cs).1, .int .i64 (I.make tag cs).2.1]) ∧ Hid (Got w hb L (I.make tag cs).2.2 (m + 1) w') := by
 obtain ⟨g, A, h1, h2, rfl, h4⟩ := h;obtain ⟨k1, k2, k3⟩ := h2.facts ha;refine (make_any h1 h2.good k1 k2 k3 h2.full tag hcs hn).mono ?_;rintro e w' ⟨r, er, rfl, A', g', hS, hR', hStep⟩;obtain ⟨rfl, rfl, h5⟩ := h2.make ha.ops ha.nodes ha.hs hS;exact ⟨rfl, Lib.hid (.of h4 hR' hStep h5)⟩
theorem HP.table (h : HP w hb L I m) (ha : Ample I m) :
 Calls Tryz.prog 24 #[.pointer (some ⟨hb, 0, none⟩)] w fun e w' => e = .returned (.tuple #[.int .i64 I.table.1, .int .i64 I.table.2.1]) ∧ Hid (Got w hb L I.table.2.2 (m + 1) w') := by
 obtain ⟨g, A, h1, h2, rfl, h4⟩ := h;obtain ⟨k1, k2, k3⟩ := h2.facts ha;refine (table_any h1 h2.good k1 k2 k3 h2.full).mono ?_;rintro e w' ⟨r, er, rfl, A', g', hS, hR', hStep⟩;obtain ⟨rfl, rfl, h5⟩ := h2.table ha.ops ha.nodes ha.hs hS;exact ⟨rfl, Lib.hid (.of h4 hR' hStep h5)⟩
theorem HP.put (h : HP w hb L I m) (ha : Ample I m) (t key : Int) (c : Wd) :
 Calls Tryz.prog 25 #[.pointer (some ⟨hb, 0, none⟩), .int .i64 t, .int .i64 key, c.agg] w fun e w' => e = .returned (.int .i64 (I.put t key c).1) ∧ Hid (Got w hb L (I.put t key c).2 (m + 1) w') := by
 obtain ⟨g, A, h1, h2, rfl, h4⟩ := h;refine (put_any h1 h2.good h2.full (fun name o ho => ?_) t key c).mono ?_
 · obtain ⟨d, g1, _, _, _, g5, _⟩ := h2.sim.obj _ _ ho;have := ha.few _ _ g1;have h6 : o.ents.length ≤ d.ents.length := by rw [g5]; exact List.length_filter_le _ _
   omega
 · rintro e w' ⟨er, rfl, A', g', hS, hR', hStep⟩;obtain ⟨rfl, h5⟩ := h2.puts ha.few hS;exact ⟨rfl, Lib.hid (.of h4 hR' hStep (h5.more (by omega)))⟩
theorem HP.find (h : HP w hb L I m) (ha : Ample I m) (t key : Int) :
 Calls Tryz.prog 27 #[.pointer (some ⟨hb, 0, none⟩), .int .i64 t, .int .i64 key] w fun e w' => e = .returned (.tuple #[(I.find t key).1.agg, .bool (I.find t key).2.1, .int .i64 (I.find t key).2.2.1]) ∧ Hid (Got w hb L (I.find t key).2.2.2 (m + 1) w') := by
 obtain ⟨g, A, h1, h2, rfl, h4⟩ := h;refine (find_any h1 h2.good (h2.facts ha).2.1 t key).mono ?_;rintro e w' ⟨c, b, er, rfl, A', g', hS, hR', hStep⟩;obtain ⟨rfl, rfl, rfl, h5⟩ := h2.finds ha.hs hS;exact ⟨rfl, Lib.hid (.of h4 hR' hStep (h5.more (by omega)))⟩
theorem HP.remove (h : HP w hb L I m) (t key : Int) :
 Calls Tryz.prog 40 #[.pointer (some ⟨hb, 0, none⟩), .int .i64 t, .int .i64 key] w fun e w' => e = .returned (.tuple #[.bool (I.remove t key).1, .int .i64 (I.remove t key).2.1]) ∧ Hid (Got w hb L (I.remove t key).2.2 (m + 1) w') := by
 obtain ⟨g, A, h1, h2, rfl, h4⟩ := h;refine (remove_any h1 h2.good.wf t key).mono ?_;rintro e w' ⟨b, er, rfl, A', g', hS, hR', hStep⟩;obtain ⟨rfl, rfl, h5⟩ := h2.removes hS;exact ⟨rfl, Lib.hid (.of h4 hR' hStep (h5.more (by omega)))⟩
theorem HP.drop (h : HP w hb L I m) (n : Int) :
 Calls Tryz.prog 30 #[.pointer (some ⟨hb, 0, none⟩), .int .i64 n] w fun e w' => e = .returned (.int .i64 (I.drop n).1) ∧ Hid (Got w hb L (I.drop n).2 (m + 1) w') := by
 obtain ⟨g, A, h1, h2, rfl, h4⟩ := h;refine (drop_any h1 h2.good n).mono ?_;rintro e w' ⟨er, rfl, A', g', hS, hR', hStep⟩;obtain ⟨rfl, h5⟩ := h2.dropped hS;exact ⟨rfl, Lib.hid (.of h4 hR' hStep (h5.more (by omega)))⟩
theorem HP.fin (h : HP w hb L I m) (ha : Ample I m) (n : Int) :
 Calls Tryz.prog 45 #[.pointer (some ⟨hb, 0, none⟩), .int .i64 n] w fun e w' => e = .returned (.tuple #[.bool (I.fin n).1, .int .i64 (I.fin n).2.1]) ∧ Hid (Got w hb L (I.fin n).2.2 (m + 1) w') := by
 obtain ⟨g, A, h1, h2, rfl, h4⟩ := h;refine (fin_any h1 h2.good n).mono ?_;rintro e w' ⟨b, er, rfl, A', g', hS, hR', hStep⟩;obtain ⟨rfl, rfl, h5⟩ := h2.finalized hS ha.hs;exact ⟨rfl, Lib.hid (.of h4 hR' hStep (h5.more (by omega)))⟩
theorem HP.next (h : HP w hb L I m) (ha : Ample I m) :
 Calls Tryz.prog 46 #[.pointer (some ⟨hb, 0, none⟩)] w fun e w' => e = .returned (.tuple #[.int .i64 I.next.1, .bool I.next.2.1, .int .i64 I.next.2.2.1]) ∧ Hid (Got w hb L I.next.2.2.2 (m + 1) w') := by
 obtain ⟨g, A, h1, h2, rfl, h4⟩ := h;refine (next_any h1 h2.good (h2.facts ha).2.1).mono ?_;rintro e w' ⟨q, b, er, rfl, A', g', hS, hR', hStep⟩;obtain ⟨rfl, rfl, rfl, h5⟩ := h2.nexted hS;exact ⟨rfl, Lib.hid (.of h4 hR' hStep (h5.more (by omega)))⟩
theorem HP.minor (h : HP w hb L I m) (hm : m < 9000) :
 Calls Tryz.prog 11 #[.pointer (some ⟨hb, 0, none⟩)] w fun e w' => e = .returned (.tuple #[]) ∧ Hid (Got w hb L I (m + 1) w') := by
 obtain ⟨g, A, h1, h2, rfl, h4⟩ := h;refine (minorM_any h1 h2.good).mono ?_;rintro e w' ⟨rfl, S, g', hS, hR', hStep⟩;exact ⟨rfl, Lib.hid (.of h4 hR' hStep (h2.minorOr hm (.minor hS)).1)⟩
theorem HP.major (h : HP w hb L I m) :
 Calls Tryz.prog 12 #[.pointer (some ⟨hb, 0, none⟩)] w fun e w' => e = .returned (.tuple #[]) ∧ Hid (Got w hb L I.majored (m + 1) w') := by
 obtain ⟨g, A, h1, h2, rfl, h4⟩ := h;refine (majorM_any h1 h2.good).mono ?_;rintro e w' ⟨rfl, g', hR', hStep⟩;exact ⟨rfl, Lib.hid (.of h4 hR' hStep (h2.major.more (by omega)))⟩
theorem HP.used (h : HP w hb L I m) :
 Calls Tryz.prog 20 #[.pointer (some ⟨hb, 0, none⟩)] w fun e w' => ∃ u : Nat, e = .returned (.int .i64 u) ∧ (I.words I.live ≤ u ∧ u ≤ I.words I.here) ∧ Hid (Got w hb L I m w') := by
 obtain ⟨g, A, h1, h2, rfl, h4⟩ := h;have hu := h2.sim.used_le h2.good.wf.fit.nodup;refine (usedM_any h1 h2.good.wf).mono ?_;rintro e w' ⟨rfl, hR', hStep⟩;exact ⟨A.used, rfl, hu, Lib.hid (.of h4 hR' hStep h2)⟩
theorem HP.used_eq (h : HP w hb L I m) {u : Nat} (h1 : I.words I.live = u) (h2 : I.words I.here = u) :
 Calls Tryz.prog 20 #[.pointer (some ⟨hb, 0, none⟩)] w fun e w' => e = .returned (.int .i64 u) ∧ Hid (Got w hb L I m w') := by
 refine h.used.mono ?_;rintro e w' ⟨v, rfl, ⟨h3, h4⟩, h5⟩;have : v = u := by omega
 subst this;exact ⟨rfl, h5⟩
theorem HP.count (h : HP w hb L I m) (ht : I.hs.lookup t = some name) (hd : I.nd name = some d) (hk : d.table = true) :
 Calls Tryz.prog 31 #[.pointer (some ⟨hb, 0, none⟩), .int .i64 t] w fun e w' => ∃ u : Nat, e = .returned (.tuple #[.int .i64 u, .int .i64 0]) ∧ ((d.ents.filter fun x => I.live x.key).length ≤ u ∧ u ≤ (d.ents.filter fun x => I.here x.key).length) ∧ Hid (Got w hb L I m w') := by
 obtain ⟨g, A, h1, h2, rfl, h4⟩ := h;refine (count_any h1 h2.good.wf t).mono ?_;rintro e w' ⟨c, er, rfl, hS, rfl⟩;obtain ⟨o, d', g0, g1, g2, g3, g4, g5, g6⟩ := h2.ent ht;rw [hd] at g1;simp only [Option.some.injEq] at g1;subst g1;rw [hk] at g2;rw [← h2.sim.hs] at ht;have hG : Got w g.hb L I m w := HP.same ⟨g, A, h1, h2, rfl, h4⟩;have hle : (d.ents.filter fun x => I.live x.key).length ≤ o.ents.length ∧ o.ents.length ≤ (d.ents.filter fun x => I.here x.key).length := by
  rw [g5];exact ⟨filter_length_le fun x _ hx => h2.sim.keep _ (IS.live_iff.1 hx), filter_length_le fun x _ hx => h2.sim.present_here hx⟩
 cases hS with
 | none hl => rw [ht] at hl; cases hl
 | kind hl ho hf =>
   rw [ht] at hl; simp only [Option.some.injEq] at hl; subst hl;rw [g0] at ho; simp only [Option.some.injEq] at ho; subst ho;rw [g2] at hf; cases hf
 | ok hl ho hf =>
   rw [ht] at hl; simp only [Option.some.injEq] at hl; subst hl;rw [g0] at ho; simp only [Option.some.injEq] at ho; subst ho;exact ⟨o.ents.length, rfl, hle, Lib.hid hG⟩
theorem HS.field (h : HS A I m) (g0 : A.objs.lookup name = some o) (g4 : A.area o = ⟨false, d.tag⟩ :: d.flds) : A.fields o = d.flds ∧ o.at_ + 1 + o.size ≤ (A.mem o.old).length ∧ (A.mem o.old).length ≤ 1000000000000 := by
 refine ⟨by rw [fields_area, g4]; rfl, h.good.wf.fit.inn _ _ g0, ?_⟩;cases o.old
 · have := h.good.wf.memN; show A.memN.length ≤ _; omega
 · have := h.good.wf.memT; show A.memT.length ≤ _; omega
theorem HP.get_num (h : HP w hb L I m) (ht : I.hs.lookup n = some name) (hd : I.nd name = some d) (hk : d.table = false) {x : Int} (hx : d.flds[i]? = some ⟨false, x⟩) :
 Calls Tryz.prog 32 #[.pointer (some ⟨hb, 0, none⟩), .int .i64 n, .int .i64 i] w fun e w' => e = .returned (.tuple #[.agg #[.bool false, .int .i64 x], .int .i64 0]) ∧ Hid (Got w hb L I m w') := by
 obtain ⟨g, A, h1, h2, rfl, h4⟩ := h;obtain ⟨o, d', g0, g1, g2, g3, g4, g5, g6⟩ := h2.ent ht;rw [hd] at g1;simp only [Option.some.injEq] at g1;subst g1;rw [hk] at g2;rw [← h2.sim.hs] at ht;obtain ⟨f1, f2, f3⟩ := h2.field g0 g4;refine (_root_.Go.Proofs.YtelghmmcbgfjnaaGreat.get_num h1 ht g0 g2 (by rw [f1]; exact hx) f2 f3).mono ?_;rintro e w' ⟨rfl, hC⟩;exact ⟨rfl, Lib.hid (HP.got ⟨g, A, h1, h2, rfl, h4⟩ hC)⟩
theorem HP.get_ref (h : HP w hb L I m) (ha : Ample I m) (ht : I.hs.lookup n = some name) (hd : I.nd name = some d) (hk : d.table = false) {x : Int} (hx : d.flds[i]? = some ⟨true, x⟩) :
 Calls Tryz.prog 32 #[.pointer (some ⟨hb, 0, none⟩), .int .i64 n, .int .i64 i] w fun e w' => e = .returned (.tuple #[.agg #[.bool true, .int .i64 I.fresh], .int .i64 0]) ∧ Hid (Got w hb L (I.grant x) (m + 1) w') := by
 obtain ⟨g, A, h1, h2, rfl, h4⟩ := h;obtain ⟨o, d', g0, g1, g2, g3, g4, g5, g6⟩ := h2.ent ht;rw [hd] at g1;simp only [Option.some.injEq] at g1;subst g1;rw [hk] at g2;rw [← h2.sim.hs] at ht;obtain ⟨f1, f2, f3⟩ := h2.field g0 g4;refine (_root_.Go.Proofs.YtelghmmcbgfjnaaGreat.get_ref h1 h2.good.free (h2.facts ha).2.1 ht g0 g2 (by rw [f1]; exact hx) f2 f3).mono ?_;rintro e w' ⟨q, rfl, A', g', hG, hR', hStep⟩;have hp : (A.objs.lookup x).isSome := h2.good.wf.closed _ _ g0 _ (mem_refs.2 (.inl (List.mem_map.2 ⟨⟨true, x⟩, List.mem_filter.2 ⟨by rw [f1]; exact List.mem_of_getElem? hx, rfl⟩, rfl⟩)));obtain ⟨rfl, h5⟩ := h2.grant hG hp ha.hs;exact ⟨rfl, Lib.hid (.of h4 hR' hStep (h5.more (by omega)))⟩
theorem HP.set_index (h : HP w hb L I m) (ht : I.hs.lookup n = some name) (hd : I.nd name = some d) (hk : d.table = false) (hc : I.okC c = true) {i : Int} (hi : i < 0 ∨ (d.flds.length : Int) ≤ i) :
 Calls Tryz.prog 28 #[.pointer (some ⟨hb, 0, none⟩), .int .i64 n, .int .i64 i, c.agg] w fun e w' => e = .returned (.int .i64 222) ∧ Hid (Got w hb L I m w') := by
 obtain ⟨g, A, h1, h2, rfl, h4⟩ := h;refine (set_any h1 h2.good.wf n i c).mono ?_;rintro e w' ⟨er, rfl, A', hS, hR', hStep⟩;obtain ⟨o, d', g0, g1, g2, g3, g4, g5, g6⟩ := h2.ent ht;rw [hd] at g1;simp only [Option.some.injEq] at g1;subst g1;rw [hk] at g2;rw [← h2.sim.hs] at ht;rw [← h2.okC] at hc;have ht' := ht;have g0' := g0;cases hS with
 | none hl => rw [ht] at hl; cases hl
 | bad hl hb => rw [hc] at hb; cases hb
 | kind hl _ ho hf =>
   rw [ht] at hl; simp only [Option.some.injEq] at hl; subst hl;rw [g0] at ho; simp only [Option.some.injEq] at ho; subst ho;rw [g2] at hf; cases hf
 | index hl _ ho hf hi => exact ⟨rfl, Lib.hid (.of h4 hR' hStep h2)⟩
 | ok hl _ ho hf hi2 hlt =>
   rw [ht] at hl; simp only [Option.some.injEq] at hl; subst hl;rw [g0] at ho; simp only [Option.some.injEq] at ho; subst ho;omega
end Go.Proofs.YtelghmmcbgfjnaaGreat
