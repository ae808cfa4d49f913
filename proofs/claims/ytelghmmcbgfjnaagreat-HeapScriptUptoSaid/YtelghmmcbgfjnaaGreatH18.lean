/-
  Set: the states follow the ideal heap. (A part of the proof, joined of: Tb, Tc, Yh, Yi; made smaller.)
-/
import Derived.Test.YtelghmmcbgfjnaaGreatH17
set_option maxHeartbeats 1000000
namespace Go.Proofs.YtelghmmcbgfjnaaGreat
variable {A : St} {I : IS} {a i k m : Nat} {d : Nd} {g : Gh} {l : List Wd} {n name : Int} {nodes : List Nd} {o y : Ob} {w : World} {x : Wd}
open Go.RowKit
theorem win_out {p n : Nat} (h : p < a ∨ a + n ≤ p) : ((l.set p x).drop a).take n = (l.drop a).take n := by
 apply List.ext_getElem?;intro i;rw [List.getElem?_take, List.getElem?_take]
 split
 · rw [List.getElem?_drop, List.getElem?_drop, List.getElem?_set_ne (by omega)]
 · rfl
theorem win_in {n : Nat} (hk : k < n) : ((l.set (a + k) x).drop a).take n = ((l.drop a).take n).set k x := by
 apply List.ext_getElem?;intro i;rw [List.getElem?_take, List.getElem?_drop];by_cases e : i = k
 · subst e;rw [if_pos hk];by_cases hl : a + i < l.length
   · rw [List.getElem?_set_self (by omega), List.getElem?_set_self (by rw [List.length_take, List.length_drop]; omega)]
   · rw [List.getElem?_eq_none (by rw [List.length_set]; omega), List.getElem?_eq_none (by rw [List.length_set, List.length_take, List.length_drop]; omega)]
 · rw [List.getElem?_set_ne (by omega), List.getElem?_set_ne (by omega), List.getElem?_take, List.getElem?_drop]
def St.fldMem (A : St) (o : Ob) (k : Nat) (x : Wd) : St := A.setMem o.old ((A.mem o.old).set (o.at_ + 1 + k) x)
theorem setField_eq (A : St) (name : Int) (o : Ob) (k : Nat) (x : Wd) : A.setField name o k x = (A.fldMem o k x).noted name := rfl
theorem fldMem_objs (A : St) (o : Ob) (k : Nat) (x : Wd) : (A.fldMem o k x).objs = A.objs := setMem_objs _ _ _
theorem fldMem_len (A : St) (o : Ob) (k : Nat) (x : Wd) (old : Bool) : ((A.fldMem o k x).mem old).length = (A.mem old).length := by
 unfold St.fldMem;by_cases e : old = o.old
 · rw [e, setMem_mem, List.length_set]
 · have : (A.setMem o.old ((A.mem o.old).set (o.at_ + 1 + k) x)).mem old = A.mem old := by
    cases h1 : old <;> cases h2 : o.old <;> simp [h1, h2] at e <;> rfl
   rw [this]
theorem fldMem_other (ha : Apart A) (ho : A.objs.lookup name = some o) (hk : k < o.size) (hy : A.objs.lookup n = some y) (hne : n ≠ name) : (A.fldMem o k x).area y = A.area y := by
 unfold St.area St.fldMem;by_cases e : y.old = o.old
 · have := ha n name y o hne hy ho e;rw [e, setMem_mem];exact win_out (by omega)
 · have : (A.setMem o.old ((A.mem o.old).set (o.at_ + 1 + k) x)).mem y.old = A.mem y.old := by
    cases h1 : y.old <;> cases h2 : o.old <;> simp [h1, h2] at e <;> rfl
   rw [this]
theorem fldMem_self (A : St) (o : Ob) (x : Wd) (hk : k < o.size) : (A.fldMem o k x).area o = (A.area o).set (k + 1) x := by
 unfold St.area St.fldMem;rw [setMem_mem, show o.at_ + 1 + k = o.at_ + (k + 1) by omega];exact win_in (by omega)
theorem fldMem_self_fields (A : St) (o : Ob) (x : Wd) (hk : k < o.size) : (A.fldMem o k x).fields o = (A.fields o).set k x := by
 rw [fields_area, fields_area, fldMem_self A o x hk];cases A.area o with
 | nil => rfl
 | cons y l => simp
theorem fldMem_refs (ha : Apart A) (ho : A.objs.lookup name = some o) (hk : k < o.size) (hy : A.objs.lookup n = some y) (hne : n ≠ name) : (A.fldMem o k x).refs y = A.refs y := by
 unfold St.refs;rw [fields_area, fields_area, fldMem_other ha ho hk hy hne]
theorem mem_refsW_set (h : n ∈ refsW (l.set k x)) : n ∈ refsW l ∨ (x.ref = true ∧ x.num = n) := by
 obtain ⟨y, hy, rfl⟩ := List.mem_map.1 h;obtain ⟨h1, h2⟩ := List.mem_filter.1 hy;rcases List.mem_or_eq_of_mem_set h1 with h3 | rfl
 · exact .inl (List.mem_map.2 ⟨y, List.mem_filter.2 ⟨h3, h2⟩, rfl⟩)
 · exact .inr ⟨h2, rfl⟩
theorem Good.setField (h : Good k m A) (ha : Apart A) (ho : A.objs.lookup name = some o) (hi : i < o.size) (hx : x.ref = true → (A.objs.lookup x.num).isSome) : Good k m (A.setField name o i x) := by
 have hw := h.wf;have hsm := setMem_same A o.old ((A.mem o.old).set (o.at_ + 1 + i) x);have hob := fldMem_objs A o i x;have hlN := fldMem_len A o i x false;have hlT := fldMem_len A o i x true;have hlN' : (A.fldMem o i x).memN.length = A.memN.length := hlN;have hlT' : (A.fldMem o i x).memT.length = A.memT.length := hlT;have hro : (A.fldMem o i x).roots = A.roots := by
  unfold St.roots;have e1 : (A.fldMem o i x).queue = A.queue := hsm.2.2.2.2.1;have e2 : (A.fldMem o i x).handles = A.handles := hsm.2.2.1;rw [e1, e2]
 have hre : (A.fldMem o i x).reg = A.reg := hsm.2.2.2.1;have href : ∀ n y, A.objs.lookup n = some y → ∀ z ∈ (A.fldMem o i x).refs y, z ∈ A.refs y ∨ (x.ref = true ∧ x.num = z) := fun n y hy z hz => by
  by_cases e : n = name
  · subst e;rw [ho] at hy;simp only [Option.some.injEq] at hy;subst hy;have hz' : z ∈ refsW ((A.fldMem o i x).fields o) ++ refsE o.ents := hz;rw [fldMem_self_fields A o x hi] at hz';rcases List.mem_append.1 hz' with hz' | hz'
    · rcases mem_refsW_set hz' with h4 | h4
      · exact .inl (List.mem_append_left _ h4)
      · exact .inr h4
    · exact .inl (List.mem_append_right _ hz')
  · rw [fldMem_refs ha ho hi hy e] at hz;exact .inl hz
 have hwf : Wf k m (A.fldMem o i x) := by
  refine ⟨hw.hk, hw.hm, hw.hkm, ⟨fun n y hy => ?_, fun n y hy => ?_, fun n y hy => ?_, by rw [hlN']; exact hw.fit.memN, by rw [hlT']; exact hw.fit.memT, by rw [hob]; exact hw.fit.many, by rw [hob]; exact hw.fit.nodup⟩, fun n y hy z hz => ?_, fun n hn => ?_, fun n hn => ?_, fun n y hy => ?_, ?_, by rw [hob]; exact hw.many, by rw [hlN']; exact hw.memN, by rw [hlT']; exact hw.memT, fun n y hy => ?_⟩
  · rw [hob] at hy; rw [fldMem_len]; exact hw.fit.inn n y hy
  · rw [hob] at hy; exact hw.fit.size n y hy
  · rw [hob] at hy; exact hw.fit.ents n y hy
  · rw [hob] at hy ⊢;rcases href n y hy z hz with h4 | ⟨h4, rfl⟩
    · exact hw.closed n y hy z h4
    · exact hx h4
  · rw [hob]; rw [hro] at hn; exact hw.roots n hn
  · rw [hob]; rw [hre] at hn; exact hw.regs n hn
  · rw [hob] at hy; exact hw.shape n y hy
  · have e1 : (A.fldMem o i x).queue = A.queue := hsm.2.2.2.2.1;have e2 : (A.fldMem o i x).handles = A.handles := hsm.2.2.1;rw [e1, e2, hre]; exact hw.big
  · rw [hob] at hy;have e1 : (A.fldMem o i x).names = A.names := hsm.1;rw [e1]; exact hw.below n y hy
 rw [setField_eq];have hrem : (A.fldMem o i x).rem = A.rem := by unfold St.fldMem; cases o.old <;> rfl
 refine ⟨hwf.noted name, remOk_noted (fun n hn => ?_) (fun n y hne hy hold z hz hyo => ?_) (by rw [hob, ho]; rfl), h.free.congr ?_ ?_ ?_⟩
 · rw [hrem] at hn; rw [hob]; exact h.rem.sub n hn
 · rw [hob] at hy;rw [fldMem_refs ha ho hi hy hne] at hz;rw [hrem];refine h.rem.all n y hy hold z hz ?_;unfold St.isYoung at hyo ⊢;rw [hob] at hyo; exact hyo
 · rw [noted_same]; exact hsm.2.2.2.2.2.1
 · rw [noted_same]; exact hsm.2.2.2.2.2.2.1
 · rw [noted_same]; exact hsm.2.2.1
def IS.setFld (I : IS) (n : Int) (k : Nat) (x : Wd) : IS := { I with nodes := I.nodes.modify n.toNat fun d => { d with flds := d.flds.set k x } }
def IS.set (I : IS) (h i : Int) (c : Wd) : Int × IS := match I.hs.lookup h with
 | none => (221, I)
 | some name => if I.okC c then (match I.nd name with
  | none => (0, I)
  | some d => if d.table then (223, I) else if i < 0 ∨ (d.flds.length : Int) ≤ i then (222, I) else (0, I.setFld name i.toNat (I.wordC c))) else (221, I)
theorem IS.nd_fld (h : I.nd name = some d) : (I.setFld name k x).nd name = some { d with flds := d.flds.set k x } := by
 obtain ⟨h0, hl, he⟩ := IS.nd_nat h;unfold IS.nd;rw [if_pos h0];show (I.nodes.modify name.toNat fun d => { d with flds := d.flds.set k x })[name.toNat]? = _;rw [List.getElem?_modify, he];simp
theorem IS.nd_fld_ne (k : Nat) (x : Wd) (h0 : 0 ≤ name) (h : n ≠ name) : (I.setFld name k x).nd n = I.nd n := by
 unfold IS.nd
 split
 · rename_i hn
   show (I.nodes.modify name.toNat fun d => { d with flds := d.flds.set k x })[n.toNat]? = _;rw [List.getElem?_modify];have e : ¬ name.toNat = n.toNat := by omega
   simp only [e, if_false];cases I.nodes[n.toNat]? <;> rfl
 · rfl
theorem IS.fld_len (I : IS) (name : Int) (k : Nat) (x : Wd) : (I.setFld name k x).nodes.length = I.nodes.length := by simp [IS.setFld]
theorem IS.nd_fld_cases {d' : Nd} (h : I.nd name = some d) (hd : (I.setFld name k x).nd n = some d') : (n = name ∧ d' = { d with flds := d.flds.set k x }) ∨ (n ≠ name ∧ I.nd n = some d') := by
 obtain ⟨h0, _, _⟩ := IS.nd_nat h;by_cases e : n = name
 · subst e;rw [IS.nd_fld h] at hd;simp only [Option.some.injEq] at hd;exact .inl ⟨rfl, hd.symm⟩
 · rw [IS.nd_fld_ne k x h0 e] at hd;exact .inr ⟨e, hd⟩
theorem HS.setField (h : HS A I m) (ho : A.objs.lookup name = some o) (g1 : I.nd name = some d) (hi : i < o.size) (hx : x.ref = true → (A.objs.lookup x.num).isSome) :
 HS (A.setField name o i x) (I.setFld name i x) m := by
 have hgood := h.good.setField h.apart ho hi hx;obtain ⟨h0, _, _⟩ := IS.nd_nat g1;have hsm := setMem_same A o.old ((A.mem o.old).set (o.at_ + 1 + i) x);have hob : (A.setField name o i x).objs = A.objs := by rw [setField_eq, noted_same]; exact fldMem_objs A o i x
 have har : ∀ q, (A.setField name o i x).area q = (A.fldMem o i x).area q := fun q => by rw [setField_eq, noted_same]; rfl
 refine ⟨hgood, Sim.make hgood.wf ?_ ?_ ?_ ?_ ?_ ?_, ?_, ?_, ?_, fun n d' hd => ?_, fun n d' hd y hy => ?_, h.apart.congr hob⟩
 · rw [setField_eq, noted_same, IS.fld_len]; exact hsm.1.trans h.sim.names
 · rw [setField_eq, noted_same]; exact hsm.2.2.1.trans h.sim.hs
 · rw [setField_eq, noted_same]; exact hsm.2.2.2.1.trans h.sim.reg
 · rw [setField_eq, noted_same]; exact hsm.2.2.2.2.1.trans h.sim.queue
 · rw [setField_eq, noted_same]; exact hsm.2.2.2.2.2.2.2.1.trans h.sim.room
 · intro n y hy;rw [hob] at hy;by_cases e : n = name
   · subst e;rw [ho] at hy;simp only [Option.some.injEq] at hy;subst hy;obtain ⟨d0, k1, k2, k3, k4, k5, k6⟩ := h.sim.obj _ _ ho;rw [g1] at k1;simp only [Option.some.injEq] at k1;subst k1;refine ⟨_, IS.nd_fld g1, k2, by show o.size = (d.flds.set i x).length; rw [List.length_set]; exact k3, ?_, ?_, k6⟩
     · rw [har, fldMem_self A o x hi, k4, List.set_cons_succ]
     · rw [k5];exact List.filter_congr fun z _ => by rw [hob]
   · obtain ⟨d0, k1, k2, k3, k4, k5, k6⟩ := h.sim.obj _ _ hy;refine ⟨d0, by rw [IS.nd_fld_ne i x h0 e]; exact k1, k2, k3, ?_, ?_, k6⟩
     · rw [har, fldMem_other h.apart ho hi hy e]; exact k4
     · rw [k5];exact List.filter_congr fun z _ => by rw [hob]
 · rw [setField_eq, noted_same];have := fldMem_len A o i x true;have e : (A.fldMem o i x).memT.length = A.memT.length := this;have h5 := h.memT;show (A.fldMem o i x).memT.length ≤ _;omega
 · rw [setField_eq, noted_same];have e : (A.fldMem o i x).full = A.full := hsm.2.2.2.2.2.2.2.1;show (A.fldMem o i x).full ≤ _;rw [e]; exact h.full
 · rw [setField_eq, noted_same];have e : (A.fldMem o i x).young = A.young := hsm.2.1;show (A.fldMem o i x).young ≤ _;rw [e]; exact h.young
 · rcases IS.nd_fld_cases g1 hd with ⟨_, rfl⟩ | ⟨_, hd'⟩
   · show (d.ents.map (·.key)).Nodup;exact h.uniq _ _ g1
   · exact h.uniq n d' hd'
 · rw [IS.fld_len];rcases IS.nd_fld_cases g1 hd with ⟨_, rfl⟩ | ⟨_, hd'⟩
   · have hy' : y ∈ d.ents := hy;exact h.keys _ _ g1 y hy'
   · exact h.keys n d' hd' y hy
theorem HS.sets {A' : St} (h : HS A I m) {i er : Int} {c : Wd} (hS : SetSpec A n i c er A') : er = (I.set n i c).1 ∧ HS A' (I.set n i c).2 m := by
 unfold IS.set;cases hS with
 | none h1 => rw [h.sim.hs] at h1; rw [h1]; exact ⟨rfl, h⟩
 | bad h1 h2 => rw [h.sim.hs] at h1; rw [h.okC] at h2; rw [h1]; simp only [h2, Bool.false_eq_true, if_false]; exact ⟨by first | rfl | trivial, h⟩
 | kind h1 h2 h3 h4 =>
   rw [h.sim.hs] at h1; rw [h.okC] at h2;obtain ⟨d, g1, g2, _⟩ := h.sim.obj _ _ h3;rw [h4] at g2;rw [h1]; simp only [h2, if_true]; rw [g1]; simp only [← g2, if_true];exact ⟨by first | rfl | trivial, h⟩
 | index h1 h2 h3 h4 h5 =>
   rw [h.sim.hs] at h1; rw [h.okC] at h2;obtain ⟨d, g1, g2, g3, _⟩ := h.sim.obj _ _ h3;rw [h4] at g2; rw [g3] at h5;rw [h1]; simp only [h2, if_true]; rw [g1]; simp only [← g2, Bool.false_eq_true, if_false];rw [if_pos h5];exact ⟨rfl, h⟩
 | @ok name o k h1 h2 h3 h4 h5 h6 =>
   rw [h.sim.hs] at h1;have hok := h2;rw [h.okC] at h2;obtain ⟨d, g1, g2, g3, _⟩ := h.sim.obj _ _ h3;rw [h4] at g2;rw [h1]; simp only [h2, if_true]; rw [g1]; simp only [← g2, Bool.false_eq_true, if_false];rw [if_neg (by rw [← g3]; omega), h.wordC];refine ⟨rfl, ?_⟩;have e : i.toNat = k := by omega
   rw [e];refine h.setField h3 g1 h6 fun hr => ?_;cases hcr : c.ref with
   | false => rw [wordC_num hcr, hcr] at hr; cases hr
   | true =>
     obtain ⟨q, k1, k2, _⟩ := okC_root h2 hcr;rw [k2]; exact h.isH k1
theorem HP.set {hb : Nat} {L : List Nat} (h : HP w hb L I m) (n i : Int) (c : Wd) :
 Calls Tryz.prog 28 #[.pointer (some ⟨hb, 0, none⟩), .int .i64 n, .int .i64 i, c.agg] w fun e w' => e = .returned (.int .i64 (I.set n i c).1) ∧ Hid (Got w hb L (I.set n i c).2 m w') := by
 obtain ⟨g, A, h1, h2, rfl, h4⟩ := h;refine (set_any h1 h2.good.wf n i c).mono ?_;rintro e w' ⟨er, rfl, A', hS, hR', hStep⟩;obtain ⟨rfl, h5⟩ := h2.sets hS;exact ⟨rfl, Lib.hid (.of h4 hR' hStep h5)⟩
theorem isTable_none (hR : Rep w g A) (hl : A.handles.lookup n = none) :
 Calls Tryz.prog 42 #[.pointer (some ⟨g.hb, 0, none⟩), .int .i64 n] w fun e w' => e = .returned (.tuple #[.bool false, .int .i64 221]) ∧ w = w' := by
 have HO := Lib.hid (of_none hR hl);clear hR hl
 go_enter Tryz.func42, Tryz.ntmps42
 go_wp2_with (go_at_call 56; refine HO.out.mono ?_; rintro e w1 ⟨rfl, rfl⟩)
 go_ret2
 exact ⟨rfl, rfl⟩
theorem isTable_some (hR : Rep w g A) (hl : A.handles.lookup n = some name) (ho : A.objs.lookup name = some o) :
 Calls Tryz.prog 42 #[.pointer (some ⟨g.hb, 0, none⟩), .int .i64 n] w fun e w' => e = .returned (.tuple #[.bool o.table, .int .i64 0]) ∧ Chg (fun _ => False) w w' := by
 have HO := Lib.hid (of_some hR hl ho);have c0 : w.cell? ⟨g.ob name, 0, none⟩ = some (.bool o.table) := (hR.obj name o (mem_of_lookup ho)).c 0;have HC : Hid (∀ n, Chg (fun _ => False) w (w.drewN n)) := fun n => (Chg.refl _ _).drewN n;clear hR hl ho;generalize o.table = t at *
 go_enter Tryz.func42, Tryz.ntmps42
 go_wp2_with (go_at_call 56; refine HO.out.mono ?_; rintro e w1 ⟨rfl, rfl⟩)
 go_ret2
 exact ⟨rfl, Chg.refl _ _⟩
theorem same_none (hR : Rep w g A) {m : Int} (hl : A.handles.lookup n = none) :
 Calls Tryz.prog 43 #[.pointer (some ⟨g.hb, 0, none⟩), .int .i64 n, .int .i64 m] w fun e w' => e = .returned (.tuple #[.bool false, .int .i64 221]) ∧ w = w' := by
 have HO := Lib.hid (of_none hR hl);clear hR hl
 go_enter Tryz.func43, Tryz.ntmps43
 go_wp2_with (go_at_call 56; refine HO.out.mono ?_; rintro e w1 ⟨rfl, rfl⟩)
 go_ret2
 exact ⟨rfl, rfl⟩
theorem same_no (hR : Rep w g A) {m : Int} (hl : A.handles.lookup n = some name) (ho : A.objs.lookup name = some o) (hl2 : A.handles.lookup m = none) :
 Calls Tryz.prog 43 #[.pointer (some ⟨g.hb, 0, none⟩), .int .i64 n, .int .i64 m] w fun e w' => e = .returned (.tuple #[.bool false, .int .i64 221]) ∧ Chg (fun _ => False) w w' := by
 have HO := Lib.hid (of_some hR hl ho);have HN := Lib.hid (of_none hR hl2);clear hR hl hl2
 go_enter Tryz.func43, Tryz.ntmps43
 go_wp2_with fail
 refine HO.out.mono ?_; rintro e w1 ⟨rfl, rfl⟩
 go_wp2_with fail
 refine HN.out.mono ?_; rintro e w1 ⟨rfl, rfl⟩;go_wp2
 go_ret2
 exact ⟨rfl, Chg.refl _ _⟩
theorem same_some (hR : Rep w g A) {m name2 : Int} {o2 : Ob} (hl : A.handles.lookup n = some name) (ho : A.objs.lookup name = some o) (hl2 : A.handles.lookup m = some name2) (ho2 : A.objs.lookup name2 = some o2) :
 Calls Tryz.prog 43 #[.pointer (some ⟨g.hb, 0, none⟩), .int .i64 n, .int .i64 m] w fun e w' => e = .returned (.tuple #[.bool (decide (name = name2)), .int .i64 0]) ∧ Chg (fun _ => False) w w' := by
 have HO := Lib.hid (of_some hR hl ho);have HN := Lib.hid (of_some hR hl2 ho2);clear hR hl hl2 ho ho2
 go_enter Tryz.func43, Tryz.ntmps43
 go_wp2_with fail
 refine HO.out.mono ?_; rintro e w1 ⟨rfl, rfl⟩
 go_wp2_with fail
 refine HN.out.mono ?_; rintro e w1 ⟨rfl, rfl⟩;go_wp2
 go_ret2
 exact ⟨by simp [BEq.beq], Chg.refl _ _⟩
theorem dup_none (hR : Rep w g A) (hl : A.handles.lookup n = none) :
 Calls Tryz.prog 44 #[.pointer (some ⟨g.hb, 0, none⟩), .int .i64 n] w fun e w' => e = .returned (.tuple #[.int .i64 0, .int .i64 221]) ∧ w = w' := by
 have HO := Lib.hid (of_none hR hl);clear hR hl
 go_enter Tryz.func44, Tryz.ntmps44
 go_wp2_with (go_at_call 56; refine HO.out.mono ?_; rintro e w1 ⟨rfl, rfl⟩)
 go_ret2
 exact ⟨rfl, rfl⟩
theorem dup_some (hR : Rep w g A) (hF : FreeOk A) (hh : A.handles.length < 9000) (hl : A.handles.lookup n = some name) (ho : A.objs.lookup name = some o) :
 Calls Tryz.prog 44 #[.pointer (some ⟨g.hb, 0, none⟩), .int .i64 n] w fun e w' => ∃ q, e = .returned (.tuple #[.int .i64 q, .int .i64 0]) ∧ Hid (∃ A' g', Granted A name q A' ∧ Rep w' g' A' ∧ Step w g A w' g') := by
 refine ret_k fun K hK => ?_;have HK := Lib.hid hK;have HO := Lib.hid (of_some hR hl ho);have HS := Lib.hid (spare_any hR 1 (by omega) (by omega));have HH := Lib.hid (handle_any hR hF hh name);clear hR hl ho hK hF hh
 go_enter Tryz.func44, Tryz.ntmps44
 go_wp2_with fail
 refine HO.out.mono ?_; rintro e w1 ⟨rfl, rfl⟩
 go_wp2_with fail
 refine HS.out.mono ?_; rintro e w2 ⟨rfl, rfl⟩
 go_wp2_with fail
 refine HH.out.mono ?_; rintro e w3 ⟨q, rfl, hZ⟩;have HZ := Lib.hid (HK.out _ _ ⟨q, rfl, hZ⟩);clear HO HS HH HK hZ;go_wp2
 go_ret2
 exact HZ.out
namespace Sane
def n0 : Nd := ⟨false, 0, [], [], false⟩
def nt (l : List En) : Nd := ⟨true, 0, [], l, false⟩
def nb : Nd := ⟨false, 1, [⟨true, 0⟩, ⟨false, 7⟩], [], false⟩
def e5 : En := ⟨0, ⟨false, 5⟩⟩
def S (nodes : List Nd) (hs : List (Int × Int)) : IS := ⟨nodes, hs, [], [], 40⟩
theorem live_root {hs : List (Int × Int)} (h : n ∈ hs.map (·.2)) : (S nodes hs).live n = true :=
 IS.live_iff.2 (.root (List.mem_append_left _ (List.mem_append_right _ h)))
theorem fresh_of {hs : List (Int × Int)} (h : Least (hs.map (·.1)) n) : (S nodes hs).fresh = n := freshOf_eq h
theorem nd_2 (b c d : Nd) (l : List Nd) (hs : List (Int × Int)) : (S (b :: c :: d :: l) hs).nd 2 = some d := rfl
def I1 : IS := S [n0] [(0, 0)]
def I2 : IS := S [n0, nt []] [(0, 0), (1, 1)]
def I3 : IS := S [n0, nt [e5]] [(0, 0), (1, 1)]
def I4 : IS := S [n0, nt [e5], nb] [(0, 0), (1, 1), (2, 2)]
def I5 : IS := S [n0, nt [e5], nb] [(1, 1), (2, 2)]
def I7 : IS := S [n0, nt [e5], nb] [(1, 1), (2, 2), (0, 0)]
def I9 : IS := S [n0, nt [e5], nb] [(1, 1)]
def I10 : IS := S [{ n0 with gone := true }, nt [e5], { nb with gone := true }] [(1, 1)]
theorem least_0 : Least [] 0 := ⟨by omega, by simp, fun m h1 h2 => by omega⟩
theorem least_1 : Least [0] 1 := ⟨by omega, by simp, fun m h1 h2 => by simp; omega⟩
theorem least_2 : Least [0, 1] 2 := ⟨by omega, by simp, fun m h1 h2 => by simp; omega⟩
theorem least_3 : Least [1, 2] 0 := ⟨by omega, by simp, fun m h1 h2 => by omega⟩
theorem make1 : (IS.start 40).make 0 [] = (0, 0, I1) := by
 have hf : (IS.start 40).fresh = 0 := freshOf_eq least_0;have hw : (IS.start 40).words (IS.start 40).live = 0 := rfl;have hr : (IS.start 40).room = 40 := rfl;have hm : (IS.start 40).make 0 [] = (IS.start 40).adds 1 n0 := rfl;rw [hm];unfold IS.adds;rw [hw, hr, if_pos (by omega), hf];show (0, 0, (IS.start 40).add n0 |>.grant 0) = _;unfold IS.grant;have : ((IS.start 40).add n0).fresh = 0 := hf;rw [this];rfl
theorem I1_live0 : I1.live 0 = true := live_root (by simp)
theorem I1_words : I1.words I1.live = 1 := by
 have h : I1.words I1.live = I1.cost I1.live 0 + 0 := rfl;rw [h];unfold IS.cost;show (if I1.live 0 = true then _ else _) + 0 = _;rw [if_pos I1_live0];rfl
theorem table : I1.table = (1, 0, I2) := by
 have hf : I1.fresh = 1 := fresh_of least_1;have hr : I1.room = 40 := rfl;unfold IS.table IS.adds;rw [I1_words, hr, if_pos (by omega), hf];show (1, 0, (I1.add (nt [])).grant 1) = _;unfold IS.grant;have : (I1.add (nt [])).fresh = 1 := hf;rw [this];rfl
theorem I2_live0 : I2.live 0 = true := live_root (by simp)
theorem I2_live1 : I2.live 1 = true := live_root (by simp)
theorem I2_words : I2.words I2.live = 2 := by
 have h : I2.words I2.live = I2.cost I2.live 0 + (I2.cost I2.live 1 + 0) := rfl;rw [h];unfold IS.cost;show (if I2.live 0 = true then _ else _) + ((if I2.live 1 = true then _ else _) + 0) = _;rw [if_pos I2_live0, if_pos I2_live1];rfl
theorem put : I2.put 1 0 ⟨false, 5⟩ = (0, I3) := by
 have hr : I2.room = 40 := rfl;have h : I2.put 1 0 ⟨false, 5⟩ = if (I2.words I2.live : Int) + 3 ≤ I2.room then (0, I3) else (220, I2) := rfl;rw [h, I2_words, hr, if_pos (by omega)]
theorem find : I3.find 1 0 = (⟨false, 5⟩, true, 0, I3) := rfl
theorem I3_live0 : I3.live 0 = true := live_root (by simp)
theorem I3_live1 : I3.live 1 = true := live_root (by simp)
theorem I3_words : I3.words I3.live = 5 := by
 have h : I3.words I3.live = I3.cost I3.live 0 + (I3.cost I3.live 1 + 0) := rfl;rw [h];unfold IS.cost;show (if I3.live 0 = true then _ else _) + ((if I3.live 1 = true then 1 + 0 + 3 * ([e5].filter fun x => I3.live x.key).length else _) + 0) = _;rw [if_pos I3_live0, if_pos I3_live1];have : ([e5].filter fun x => I3.live x.key) = [e5] := List.filter_eq_self.2 fun x hx => by simp at hx; subst hx; exact I3_live0
 rw [this];rfl
theorem I3_here : I3.words I3.here = 5 := rfl
theorem make2 : I3.make 1 [⟨true, 0⟩, ⟨false, 7⟩] = (2, 0, I4) := by
 have hf : I3.fresh = 2 := fresh_of least_2;have hr : I3.room = 40 := rfl;have hm : I3.make 1 [⟨true, 0⟩, ⟨false, 7⟩] = I3.adds 3 nb := rfl;rw [hm];unfold IS.adds;rw [I3_words, hr, if_pos (by omega), hf];show (2, 0, (I3.add nb).grant 2) = _;unfold IS.grant;have : (I3.add nb).fresh = 2 := hf;rw [this];rfl
theorem drop1 : I4.drop 0 = (0, I5) := rfl
theorem I5_live1 : I5.live 1 = true := live_root (by simp)
theorem I5_live2 : I5.live 2 = true := live_root (by simp)
theorem I5_live0 : I5.live 0 = true := IS.live_iff.2 (.field (IS.live_iff.1 I5_live2) (nd_2 _ _ _ _ _) rfl (by simp [nb, refsW]))
theorem major1 : I5.majored = I5 := by
 have h : I5.majored = S [{ n0 with gone := !I5.live 0 }, { nt [e5] with gone := !I5.live 1 }, { nb with gone := !I5.live 2 }] [(1, 1), (2, 2)] := rfl;rw [h, I5_live0, I5_live1, I5_live2];rfl
theorem count1 : (I5.nd 1 = some (nt [e5])) ∧ ([e5].filter fun x => I5.live x.key).length = 1 ∧ ([e5].filter fun x => I5.here x.key).length = 1 := by
 refine ⟨rfl, ?_, rfl⟩;have : ([e5].filter fun x => I5.live x.key) = [e5] := List.filter_eq_self.2 fun x hx => by simp at hx; subst hx; exact I5_live0
 rw [this];rfl
theorem fresh5 : I5.fresh = 0 := fresh_of least_3
theorem grant5 : I5.grant 0 = I7 := by
 unfold IS.grant;rw [fresh5];rfl
theorem drop2 : I7.drop 0 = (0, I5) := rfl
theorem drop3 : I5.drop 2 = (0, I9) := rfl
theorem I9_kept (h : I9.kept n) : n = 1 := by
 induction h with
 | root h1 => simpa [I9, S, IS.roots] using h1
 | field _ ho ht hm ih =>
   subst ih;have : I9.nd 1 = some (nt [e5]) := rfl;rw [this] at ho;simp only [Option.some.injEq] at ho;subst ho;cases ht
 | entry _ ho ht hx _ hr ih1 ih2 =>
   subst ih1;have : I9.nd 1 = some (nt [e5]) := rfl;rw [this] at ho;simp only [Option.some.injEq] at ho;subst ho;simp [nt] at hx;subst hx;cases hr
theorem I9_live1 : I9.live 1 = true := live_root (by simp)
theorem I9_dead (h : n ≠ 1) : I9.live n = false := by
 cases hl : I9.live n with
 | false => rfl
 | true => exact absurd (I9_kept (IS.live_iff.1 hl)) h
theorem major2 : I9.majored = I10 := by
 have h : I9.majored = S [{ n0 with gone := !I9.live 0 }, { nt [e5] with gone := !I9.live 1 }, { nb with gone := !I9.live 2 }] [(1, 1)] := rfl;rw [h, I9_dead (n := 0) (by omega), I9_live1, I9_dead (n := 2) (by omega)];rfl
theorem I10_kept : I10.kept n ↔ I9.kept n := by
 have := IS.majored_kept (I := I9) n;rw [major2] at this; exact this
theorem I10_live (n : Int) : I10.live n = I9.live n := by
 cases hl : I9.live n with
 | true => exact IS.live_iff.2 (I10_kept.2 (IS.live_iff.1 hl))
 | false =>
   cases hl2 : I10.live n with
   | false => rfl
   | true => rw [IS.live_iff.2 (I10_kept.1 (IS.live_iff.1 hl2))] at hl; cases hl
theorem count2 : (I10.nd 1 = some (nt [e5])) ∧ ([e5].filter fun x => I10.here x.key).length = 0 := ⟨rfl, rfl⟩
theorem I10_words : I10.words I10.live = 1 := by
 have h : I10.words I10.live = I10.cost I10.live 0 + (I10.cost I10.live 1 + (I10.cost I10.live 2 + 0)) := rfl;rw [h];unfold IS.cost;show (if I10.live 0 = true then _ else 0) + ((if I10.live 1 = true then 1 + 0 + 3 * ([e5].filter fun x => I10.live x.key).length else _) + ((if I10.live 2 = true then _ else 0) + 0)) = _;have h0 : I10.live 0 = false := by rw [I10_live]; exact I9_dead (by omega)
 have h2 : I10.live 2 = false := by rw [I10_live]; exact I9_dead (by omega)
 have h1 : I10.live 1 = true := by rw [I10_live]; exact I9_live1
 have : ([e5].filter fun x => I10.live x.key) = [] := List.filter_eq_nil_iff.2 fun x hx => by simp at hx; subst hx; show ¬ I10.live 0 = true; rw [h0]; decide
 rw [if_neg (by rw [h0]; decide), if_pos h1, if_neg (by rw [h2]; decide), this];rfl
theorem I10_here : I10.words I10.here = 1 := rfl
theorem ample (hm : m < 9000) (h1 : I.nodes.length ≤ 3) (h2 : I.queue.length + I.hs.length + I.reg.length ≤ 3) (h3 : ∀ d ∈ I.nodes, d.ents.length ≤ 1) : Ample I m := by
 refine ⟨hm, by omega, by omega, fun n d hd => ?_⟩;obtain ⟨_, hl, he⟩ := IS.nd_nat hd;have := h3 d (List.mem_of_getElem? he);omega
end Sane
end Go.Proofs.YtelghmmcbgfjnaaGreat
