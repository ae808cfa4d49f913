/-
  Set. (A part of the proof, joined of: Xr, Xs, Xt, Xu, Xv; made smaller.)
-/
import Derived.Test.YtelghmmcbgfjnaaGreatH14
set_option maxHeartbeats 2000000
set_option maxRecDepth 100000
namespace Go.Proofs.YtelghmmcbgfjnaaGreat
variable {A : St} {b j k m : Nat} {es : List En} {g : Gh} {key name t : Int} {o : Ob} {w : World} {x : Value}
open Go.RowKit
theorem wdCells_set (l : List Wd) (k : Nat) (hk : k < l.length) (x : Wd) : ((wdCells l).set (k * 2) (.bool x.ref)).set (k * 2 + 1) (.int .i64 x.num) = wdCells (l.set k x) := by
 induction l generalizing k with
 | nil => simp at hk
 | cons y l ih =>
   cases k with
   | zero => simp [wdCells, Wd.cells]
   | succ k =>
     have := ih k (by simpa using hk);simp only [wdCells, List.flatMap_cons, List.set_cons_succ] at *;rw [← this, show (k + 1) * 2 = k * 2 + 1 + 1 from by omega];simp [Wd.cells]
def St.setField (A : St) (name : Int) (o : Ob) (i : Nat) (x : Wd) : St := (A.setMem o.old ((A.mem o.old).set (o.at_ + 1 + i) x)).noted name
inductive SetSpec (A : St) (n i : Int) (c : Wd) : Int → St → Prop
 | none : A.handles.lookup n = none → SetSpec A n i c 221 A
 | bad {name : Int} : A.handles.lookup n = some name → A.okC c = false → SetSpec A n i c 221 A
 | kind {name : Int} {o : Ob} : A.handles.lookup n = some name → A.okC c = true → A.objs.lookup name = some o → o.table = true → SetSpec A n i c 223 A
 | index {name : Int} {o : Ob} : A.handles.lookup n = some name → A.okC c = true → A.objs.lookup name = some o → o.table = false → (i < 0 ∨ (o.size : Int) ≤ i) → SetSpec A n i c 222 A
 | ok {name : Int} {o : Ob} {k : Nat} : A.handles.lookup n = some name → A.okC c = true → A.objs.lookup name = some o → o.table = false → i = k → k < o.size → SetSpec A n i c 0 (A.setField name o k (A.wordC c))
theorem set_any (hR : Rep w g A) (hw : Wf k m A) (n i : Int) (c : Wd) :
 Calls Tryz.prog 28 #[.pointer (some ⟨g.hb, 0, none⟩), .int .i64 n, .int .i64 i, c.agg] w fun e w' => ∃ er, e = .returned (.int .i64 er) ∧ Hid (∃ A', SetSpec A n i c er A' ∧ Rep w' g A' ∧ Step w g A w' g) := by
 refine ret_k fun K hK => ?_;have HK := Lib.hid hK;have hob : ∀ n name, A.handles.lookup n = some name → (A.objs.lookup name).isSome := fun n name hl => hw.roots name (mem_roots.2 (.inr ⟨_, look_mem hl, rfl⟩));obtain ⟨cr, cn⟩ := c;have hS1 : ∀ X, Step w g A (w.alloc X) g := fun X => Step.alloc w g A X;cases hl : A.handles.lookup n with
 | none =>
   have HO := Lib.hid fun X => of_none (hR.alloc X) hl;have HP : Hid (∀ X, Post K (.returned (.int .i64 221)) (w.alloc X)) := fun X => HK.out _ _ ⟨221, rfl, A, .none hl, hR.alloc X, hS1 X⟩;clear hK HK hob hl hS1 hR hw;unfold Wd.agg
   go_enter Tryz.func28, Tryz.ntmps28
   go_wp2_with (go_at_call 56; refine (HO.out _).mono ?_; rintro e w1 ⟨rfl, rfl⟩)
   go_ret;exact HP.out _
 | some name =>
   obtain ⟨o, ho⟩ := Option.isSome_iff_exists.1 (hob n name hl);have HO := Lib.hid fun X => of_some (hR.alloc X) hl ho;have HIn := Lib.hid fun X => in_any (hR.alloc X) ⟨cr, cn⟩ hob;cases hc : A.okC ⟨cr, cn⟩ with
   | false =>
     have HP : Hid (∀ w', Chg (fun _ => False) w w' → Post K (.returned (.int .i64 221)) w') := fun w' h => HK.out _ _ ⟨221, rfl, A, .bad hl hc, hR.chg0 h, Step.chg0 g A h⟩;rw [inW_bad hc] at HIn;generalize A.inW ⟨cr, cn⟩ = xx at *;obtain ⟨⟨xr, xn⟩, xe⟩ := xx;clear hK HK hob hl hS1 hR hw hc ho;unfold Wd.agg at *
     go_enter Tryz.func28, Tryz.ntmps28
     go_wp2_with (first | (go_at_call 56; refine (HO.out _).mono ?_; rintro e w1 ⟨rfl, rfl⟩) | (go_at_call 59; refine (HIn.out _).mono ?_; rintro e w5 ⟨rfl, hC⟩))
     go_ret;exact HP.out _ ((((Chg.refl _ _).alloc _).trans hC (fun _ _ h => h)).alloc _)
   | true =>
     have hwd : A.wordC ⟨cr, cn⟩ = (A.inW ⟨cr, cn⟩).1 := rfl;have hcell1 := (hR.obj name o (mem_of_lookup ho)).c 1;rw [inW_ok hc] at HIn;have HPl : Hid (∀ w', Chg (fun _ => False) w w' → Calls Tryz.prog 67 #[.pointer (some ⟨g.hb, 0, none⟩), .int .i64 n] w' fun e w'' => e = .returned (.tuple #[.pointer (some ⟨g.ob name, 0, none⟩), .int .i64 name, .int .i64 (if o.table then 223 else 0)]) ∧ w' = w'' ∧ w'.cell? ⟨g.ob name, 1, none⟩ = some (.int .i64 o.size)) := fun w' h => by
      refine (plain_some (hR.chg0 h) hl ho).mono ?_;rintro e w'' ⟨rfl, rfl⟩;exact ⟨rfl, rfl, ((hR.chg0 h).obj name o (mem_of_lookup ho)).c 1⟩
     cases ht : o.table with
     | true =>
       have HP : Hid (∀ w', Chg (fun _ => False) w w' → Post K (.returned (.int .i64 223)) w') := fun w' h => HK.out _ _ ⟨223, rfl, A, .kind hl hc ho ht, hR.chg0 h, Step.chg0 g A h⟩;rw [ht] at HPl;generalize A.inW ⟨cr, cn⟩ = xx at *;obtain ⟨⟨xr, xn⟩, xe⟩ := xx;clear hK HK hob hl hS1 hR hw hc ho hwd ht hcell1;unfold Wd.agg at *
       go_enter Tryz.func28, Tryz.ntmps28
       go_wp2_with fail
       refine (HO.out _).mono ?_; rintro e w1 ⟨rfl, rfl⟩
       go_wp2_with fail
       refine (HIn.out _).mono ?_; rintro e w5 ⟨rfl, hC⟩;have hC6 := fun Y => (((Chg.refl (fun _ => False) w).alloc _).trans hC (fun _ _ h => h)).alloc Y
       go_wp2_with fail
       refine (HPl.out _ (hC6 _)).mono ?_; rintro e w7 ⟨rfl, rfl, d1⟩;have HC := Lib.hid hC6;clear hC6 hC;go_wp2;go_ret;exact HP.out _ (HC.out _)
     | false =>
       rw [ht] at HPl;by_cases hi : i < 0 ∨ (o.size : Int) ≤ i
       · have HP : Hid (∀ w', Chg (fun _ => False) w w' → Post K (.returned (.int .i64 222)) w') := fun w' h => HK.out _ _ ⟨222, rfl, A, .index hl hc ho ht hi, hR.chg0 h, Step.chg0 g A h⟩;generalize A.inW ⟨cr, cn⟩ = xx at *;obtain ⟨⟨xr, xn⟩, xe⟩ := xx;generalize o.size = s at *;clear hK HK hob hl hS1 hR hw hc ho hwd ht hcell1;unfold Wd.agg at *;by_cases hi0 : i < 0
         · clear hi
           go_enter Tryz.func28, Tryz.ntmps28
           go_wp2_with fail
           refine (HO.out _).mono ?_; rintro e w1 ⟨rfl, rfl⟩
           go_wp2_with fail
           refine (HIn.out _).mono ?_; rintro e w5 ⟨rfl, hC⟩;have hC6 := fun Y => (((Chg.refl (fun _ => False) w).alloc _).trans hC (fun _ _ h => h)).alloc Y
           go_wp2_with fail
           refine (HPl.out _ (hC6 _)).mono ?_; rintro e w7 ⟨rfl, rfl, d1⟩;have HC := Lib.hid hC6;clear hC6 hC;go_wp2;go_ret;exact HP.out _ (HC.out _)
         · have hi1 : (s : Int) ≤ i := by omega
           clear hi
           go_enter Tryz.func28, Tryz.ntmps28
           go_wp2_with fail
           refine (HO.out _).mono ?_; rintro e w1 ⟨rfl, rfl⟩
           go_wp2_with fail
           refine (HIn.out _).mono ?_; rintro e w5 ⟨rfl, hC⟩;have hC6 := fun Y => (((Chg.refl (fun _ => False) w).alloc _).trans hC (fun _ _ h => h)).alloc Y
           go_wp2_with fail
           refine (HPl.out _ (hC6 _)).mono ?_; rintro e w7 ⟨rfl, rfl, d1⟩;have HC := Lib.hid hC6;clear hC6 hC;go_wp2;go_ret;exact HP.out _ (HC.out _)
       · obtain ⟨j, rfl⟩ : ∃ j : Nat, i = j := ⟨i.toNat, by omega⟩;have hj : j < o.size := by omega
         have hin := hw.fit.inn name o ho;have hsz := hw.fit.size name o ho;have hme := hw.fit.ents name o ho;have hmb : (A.mem o.old).length ≤ 100000000000 := by
          cases o.old
          · exact hw.fit.memN
          · exact hw.fit.memT
         have hml : o.at_ + 1 + j < (A.mem o.old).length := by omega
         have HFd : Hid (∀ w', Chg (fun _ => False) w w' → Calls Tryz.prog 68 #[.pointer (some ⟨g.hb, 0, none⟩), .pointer (some ⟨g.ob name, 0, none⟩)] w' fun e w1 => ∃ b c kk, e = .returned (.slice (some ⟨b, (o.at_ + 1) * 2, none⟩) o.size c) ∧ w1 = w'.drewN kk ∧
          ((∃ v, w'.cell? ⟨b, (o.at_ + 1) * 2 + j * 2, none⟩ = some v) ∧ (∃ v, w'.cell? ⟨b, (o.at_ + 1) * 2 + j * 2 + 1, none⟩ = some v) ∧ w'.frozen? ⟨b, (o.at_ + 1) * 2 + j * 2, none⟩ = false ∧ w'.frozen? ⟨b, (o.at_ + 1) * 2 + j * 2 + 1, none⟩ = false) ∧
          Hid (∀ W, (∃ k2, W = (((w'.drewN kk).setCell ⟨b, (o.at_ + 1) * 2 + j * 2, none⟩ (.bool (A.wordC ⟨cr, cn⟩).ref)).setCell ⟨b, (o.at_ + 1) * 2 + j * 2 + 1, none⟩ (.int .i64 (A.wordC ⟨cr, cn⟩).num)).drewN k2) → Calls Tryz.prog 64 #[.pointer (some ⟨g.hb, 0, none⟩), .int .i64 name] W fun e w2 => e = .returned (.tuple #[]) ∧ Hid (Post K (.returned (.int .i64 0)) w2))) := by
          intro w' hC;have hR' := hR.chg0 hC;refine (fields_any hR' ho hin (by omega)).mono ?_;rintro e w1 ⟨v, kk, rfl, rfl, h⟩;rcases h with ⟨h0, _⟩ | ⟨b, c, hb, rfl⟩
          · omega
          · have hC1 := hC.drewN kk;have hR1 := hR.chg0 hC1;have hik : (o.at_ + 1) * 2 + j * 2 = (o.at_ + 1 + j) * 2 := by omega
            obtain ⟨b', c', hv', hb', e0, e1⟩ := hR1.memCell o.old (List.getElem?_eq_getElem hml);rw [hb] at hb';simp only [Option.some.injEq] at hb';subst hb';rw [hik];have hfr := fun q => (hR1.rM o.old).row.free hb q;refine ⟨b, c, kk, rfl, rfl, ⟨⟨_, e0⟩, ⟨_, e1⟩, hfr _, hfr _⟩, ?_⟩;rintro W ⟨k2, rfl⟩;have hrow := (((hR1.rM o.old).row.setCell hb ((o.at_ + 1 + j) * 2) (.bool (A.wordC ⟨cr, cn⟩).ref)).setCell hb ((o.at_ + 1 + j) * 2 + 1) (.int .i64 (A.wordC ⟨cr, cn⟩).num));rw [wdCells_set _ _ hml] at hrow
            have hset := hR1.setWords o.old (l := (A.mem o.old).set (o.at_ + 1 + j) (A.wordC ⟨cr, cn⟩)) (((Chg.refl (fun x => rowBlk (g.vM o.old) = some x) (w'.drewN kk)).setCell (p := ⟨b, (o.at_ + 1 + j) * 2, none⟩) (fun _ => hb) (.bool (A.wordC ⟨cr, cn⟩).ref)).setCell (p := ⟨b, (o.at_ + 1 + j) * 2 + 1, none⟩) (fun _ => hb) (.int .i64 (A.wordC ⟨cr, cn⟩).num)) (by simpa using hrow);have hsm := setMem_same A o.old ((A.mem o.old).set (o.at_ + 1 + j) (A.wordC ⟨cr, cn⟩));have hlk : (A.setMem o.old ((A.mem o.old).set (o.at_ + 1 + j) (A.wordC ⟨cr, cn⟩))).objs.lookup name = some o := by rw [hsm.2.2.2.2.2.2.2.2.1]; exact ho
            have hnt := note_any (hset.1.drewN k2) hlk (by rw [setMem_mem, List.length_set]; exact hin) (by rw [setMem_mem, List.length_set]; omega) (by omega) (by omega);refine hnt.mono ?_;rintro e w2 ⟨rfl, hR2, hS2⟩;refine ⟨rfl, HK.out _ _ ⟨0, rfl, _, .ok hl hc ho ht rfl hj, hR2, ?_⟩⟩;exact (((Step.chg0 g A hC1).trans hset.2 (Int.le_refl _)).trans (Step.drewN _ g (A.setMem o.old ((A.mem o.old).set (o.at_ + 1 + j) (A.wordC ⟨cr, cn⟩))) k2) (by rw [hsm.1]; exact Int.le_refl _)).trans hS2 (by rw [hsm.1]; exact Int.le_refl _)
         rw [hwd] at HFd;have hjb : (j : Int) < (o.size : Int) := by omega
         have hj0 : ¬ ((j : Int) < 0) := by omega
         generalize A.inW ⟨cr, cn⟩ = xx at *;obtain ⟨⟨xr, xn⟩, xe⟩ := xx;clear hK HK hob hl hS1 hR hw hc ho hwd ht hcell1 hi hin hme hmb hml hj;generalize (o.at_ + 1) * 2 = p at *;generalize o.size = s at *;unfold Wd.agg at *
         go_enter Tryz.func28, Tryz.ntmps28
         go_wp2_with fail
         refine (HO.out _).mono ?_; rintro e w1 ⟨rfl, rfl⟩
         go_wp2_with fail
         refine (HIn.out _).mono ?_; rintro e w5 ⟨rfl, hC⟩;have hC6 := fun Y => (((Chg.refl (fun _ => False) w).alloc _).trans hC (fun _ _ h => h)).alloc Y
         go_wp2_with fail
         refine (HPl.out _ (hC6 _)).mono ?_; rintro e w7 ⟨rfl, rfl, d1⟩;have HF6 : Hid (∀ Y k0, Calls Tryz.prog 68 #[.pointer (some ⟨g.hb, 0, none⟩), .pointer (some ⟨g.ob name, 0, none⟩)] ((w5.alloc Y).drewN k0) fun e w1 => ∃ b c kk, e = .returned (.slice (some ⟨b, p, none⟩) s c) ∧ w1 = ((w5.alloc Y).drewN k0).drewN kk ∧
          ((∃ v, (w5.alloc Y).cell? ⟨b, p + j * 2, none⟩ = some v) ∧ (∃ v, (w5.alloc Y).cell? ⟨b, p + j * 2 + 1, none⟩ = some v) ∧ (w5.alloc Y).frozen? ⟨b, p + j * 2, none⟩ = false ∧ (w5.alloc Y).frozen? ⟨b, p + j * 2 + 1, none⟩ = false) ∧
          Hid (∀ W, (∃ k2, W = (((((w5.alloc Y).drewN k0).drewN kk).setCell ⟨b, p + j * 2, none⟩ (.bool xr)).setCell ⟨b, p + j * 2 + 1, none⟩ (.int .i64 xn)).drewN k2) → Calls Tryz.prog 64 #[.pointer (some ⟨g.hb, 0, none⟩), .int .i64 name] W fun e w2 => e = .returned (.tuple #[]) ∧ Hid (Post K (.returned (.int .i64 0)) w2))) := fun Y kk => HFd.out _ ((hC6 Y).drewN kk)
         have HC := Lib.hid hC6;clear hC6 hC HFd HO HIn HPl
         go_upto_region 12 with fail
         go_region_law (go_simp; go_at_call 68; refine (HF6.out _ _).mono ?_; rintro e w1 ⟨b, c, kk, rfl, rfl, ⟨⟨v0, q0⟩, ⟨v1, q1⟩, q2, q3⟩, hN⟩)
         all_goals
          go_wp2_with fail
          refine (hN.out _ ⟨0, by rw [World.drewN_drewN]; rfl⟩).mono ?_;rintro e w8 ⟨rfl, hZ⟩;go_wp2;go_ret;exact hZ.out
def KeyIs (k : Int) (x : En) : Bool := x.key == k
theorem entry1_any {kb : Nat} {k : Int} (h : w.heap[kb]? = some (.cells #[.int .i64 k] 3 (0, 0))) (x : En) :
 Calls Tryz.prog 112 #[En.value x, .pointer (some ⟨kb, 0, none⟩)] w fun e w' => e = .returned (.bool (KeyIs k x)) ∧ Chg (fun _ => False) w w' := by
 have c0 : w.cell? ⟨kb, 0, none⟩ = some (.int .i64 k) := cellAt h 0;have c1 : ∀ X, (w.alloc X).cell? ⟨kb, 0, none⟩ = some (.int .i64 k) := fun X => cellAt (heap_alloc_old h X) 0;unfold En.value KeyIs;generalize x.val.ref = xr;generalize x.val.num = xn;generalize x.key = xk;clear h
 go_enter Tryz.func112, Tryz.ntmps112
 go_wp2
 try go_quiet (fail)
 go_wp2;go_ret;exact ⟨rfl, by first | exact (Chg.refl _ _).alloc _ | exact ((Chg.refl _ _).alloc _).drewN _⟩
theorem call_entry1 (args : Array Value) (w : World) : (callFunc 112 args).run Tryz.prog w = .ok (.enter 112 args) w := by kernel_rfl
theorem entry_pred (kb : Nat) (k : Int) : PredK 112 #[] #[.pointer (some ⟨kb, 0, none⟩)] (KeyIs k) (fun b => b = kb) (fun w => w.heap[kb]? = some (.cells #[.int .i64 k] 3 (0, 0))) where
 call := call_entry1
 step := fun _ x h => entry1_any h x
 keep := fun _ _ _ h hC hF => hC.at h (hF _ rfl)
inductive EntErr (A : St) (t key : Int) : Int → Prop
 | none : A.handles.lookup t = none → EntErr A t key 221
 | nokey {name : Int} : A.handles.lookup t = some name → A.handles.lookup key = none → EntErr A t key 221
 | kind {name kn : Int} {o : Ob} : A.handles.lookup t = some name → A.handles.lookup key = some kn → A.objs.lookup name = some o → o.table = false → EntErr A t key 223
theorem entry_err (hR : Rep w g A) (hob : ∀ n name, A.handles.lookup n = some name → (A.objs.lookup name).isSome) {er : Int} (h : EntErr A t key er) :
 Calls Tryz.prog 63 #[.pointer (some ⟨g.hb, 0, none⟩), .int .i64 t, .int .i64 key] w fun e w' => e = .returned (.tuple #[.pointer none, .int .i64 0, .int .i64 0, .int .i64 0, .int .i64 er]) ∧ Chg (fun _ => False) w w' := by
 have hC0 : ∀ X, Chg (fun _ => False) w (w.alloc X) := fun X => (Chg.refl _ _).alloc X;cases h with
 | none h1 =>
   have HO := Lib.hid fun X => of_none (hR.alloc X) h1;clear hR hob h1
   go_enter Tryz.func63, Tryz.ntmps63
   go_wp2_with fail
   refine (HO.out _).mono ?_; rintro e w1 ⟨rfl, rfl⟩;go_wp2;refine bodyPost_ret (v := .tuple #[.pointer none, .int .i64 0, .int .i64 0, .int .i64 0, .int .i64 221]) (by simp [results, Tryz.results63, go_sem]) rfl ⟨rfl, ?_⟩;exact hC0 _
 | @nokey name h1 h2 =>
   obtain ⟨o, ho⟩ := Option.isSome_iff_exists.1 (hob t name h1);have HO := Lib.hid fun X => of_some (hR.alloc X) h1 ho;have HO2 := Lib.hid fun X => of_none (hR.alloc X) h2;clear hR hob h1 h2 ho
   go_enter Tryz.func63, Tryz.ntmps63
   go_wp2_with fail
   refine (HO.out _).mono ?_; rintro e w1 ⟨rfl, rfl⟩
   go_wp2_with fail
   refine (HO2.out _).mono ?_; rintro e w1 ⟨rfl, rfl⟩;go_wp2;refine bodyPost_ret (v := .tuple #[.pointer none, .int .i64 0, .int .i64 0, .int .i64 0, .int .i64 221]) (by simp [results, Tryz.results63, go_sem]) rfl ⟨rfl, ?_⟩;exact hC0 _
 | @kind name kn o h1 h2 h3 h4 =>
   obtain ⟨ok, hok⟩ := Option.isSome_iff_exists.1 (hob key kn h2);have HO := Lib.hid fun X => of_some (hR.alloc X) h1 h3;have HO2 := Lib.hid fun X => of_some (hR.alloc X) h2 hok;have HW := Lib.hid fun X => by
    have := weak_some (hR.alloc X) h1 h3;rw [h4] at this;exact this
   clear hR hob h1 h2 h3 h4 hok
   go_enter Tryz.func63, Tryz.ntmps63
   go_wp2_with fail
   refine (HO.out _).mono ?_; rintro e w1 ⟨rfl, rfl⟩
   go_wp2_with fail
   refine (HO2.out _).mono ?_; rintro e w1 ⟨rfl, rfl⟩
   go_wp2_with fail
   refine (HW.out _).mono ?_; rintro e w1 ⟨rfl, rfl⟩;go_wp2;refine bodyPost_ret (v := .tuple #[.pointer none, .int .i64 0, .int .i64 0, .int .i64 0, .int .i64 223]) (by simp [results, Tryz.results63, go_sem]) rfl ⟨rfl, ?_⟩;exact hC0 _
theorem entry_ok (hR : Rep w g A) {kn : Int} {ok : Ob} (h1 : A.handles.lookup t = some name) (h2 : A.handles.lookup key = some kn) (h3 : A.objs.lookup name = some o) (h4 : o.table = true) (hok : A.objs.lookup kn = some ok) (hb : o.ents.length ≤ 1000000000000) :
 Calls Tryz.prog 63 #[.pointer (some ⟨g.hb, 0, none⟩), .int .i64 t, .int .i64 key] w fun e w' => e = .returned (.tuple #[.pointer (some ⟨g.ob name, 0, none⟩), .int .i64 name, .int .i64 kn, .int .i64 (idxOf (KeyIs kn) o.ents), .int .i64 0]) ∧ Chg (fun _ => False) w w' := by
 have HO := Lib.hid fun X => of_some (hR.alloc X) h1 h3;have HO2 := Lib.hid fun X => of_some (hR.alloc X) h2 hok;have HW := Lib.hid fun X => by
  have := weak_some (hR.alloc X) h1 h3;rw [h4] at this;exact this
 obtain ⟨a, c, hv, _, _, _⟩ := (hR.obj name o (mem_of_lookup h3)).row.slice;have c4 : ∀ X, (w.alloc X).cell? ⟨g.ob name, 4, none⟩ = some (.slice a o.ents.length c) := fun X => by rw [← hv]; exact ((hR.alloc X).obj name o (mem_of_lookup h3)).c 4
 have HIx : Hid (∀ k, Calls Tryz.prog 111 #[.slice a o.ents.length c, .func (.func 112) #[] #[.pointer (some ⟨w.heap.size, 0, none⟩)]] ((w.alloc (.cells #[.int .i64 kn] 3)).drewN k) fun e w' => e = .returned (.int .i64 (idxOf (KeyIs kn) o.ents)) ∧
  (w'.cell? ⟨w.heap.size, 0, none⟩ = some (.int .i64 kn) ∧ w'.frozen? ⟨w.heap.size, 0, none⟩ = false) ∧ Hid (Chg (fun _ => False) w (w'.setCell ⟨w.heap.size, 0, none⟩ (.int .i64 kn)))) := by
  intro k;have hb0 : ((w.alloc (.cells #[.int .i64 kn] 3)).drewN k).heap[w.heap.size]? = some (.cells #[.int .i64 kn] 3 (0, 0)) := heap_alloc_new w _;have hrow := (((hR.alloc (.cells #[.int .i64 kn] 3)).drewN k).obj name o (mem_of_lookup h3)).row;rw [hv] at hrow;refine (indexFunc_any (entry_pred w.heap.size kn) hb0 hrow hb).mono ?_;rintro e w' ⟨rfl, hC⟩;have hb1 := hC.at hb0 (fun h => h);refine ⟨rfl, ⟨cellAt hb1 0, freeAt hb1 0⟩, ?_⟩;exact ((((Chg.refl _ _).alloc _).drewN k).trans hC (fun _ _ h => h)).setCell (fun h => absurd h (by simp)) _
 clear hR h1 h2 h3 h4 hok hv;generalize idxOf (KeyIs kn) o.ents = ix at *;generalize o.ents.length = len at *
 go_enter Tryz.func63, Tryz.ntmps63
 go_wp2_with fail
 refine (HO.out _).mono ?_; rintro e w1 ⟨rfl, rfl⟩
 go_wp2_with fail
 refine (HO2.out _).mono ?_; rintro e w1 ⟨rfl, rfl⟩
 go_wp2_with fail
 refine (HW.out _).mono ?_; rintro e w1 ⟨rfl, rfl⟩
 go_upto_region 10 with fail
 go_region_law (go_simp; go_at_call 111; refine (HIx.out _).mono ?_; rintro e w5 ⟨rfl, ⟨q0, q1⟩, hZ⟩)
 all_goals
  go_wp2
  go_simp
  refine bodyPost_ret (v := .tuple #[.pointer (some ⟨g.ob name, 0, none⟩), .int .i64 name, .int .i64 kn, .int .i64 ix, .int .i64 0]) (by simp [results, Tryz.results63, go_sem, q0]) rfl ⟨rfl, ?_⟩;exact hZ.out
structure TabAt (A : St) (t key name kn : Int) (o : Ob) : Prop where
 h1 : A.handles.lookup t = some name
 h2 : A.handles.lookup key = some kn
 h3 : A.objs.lookup name = some o
 h4 : o.table = true
theorem idxOf_cases (p : En → Bool) (es : List En) : (idxOf p es = -1 ∧ ∀ x ∈ es, p x = false) ∨ ∃ (j : Nat) (x : En), es[j]? = some x ∧ p x = true ∧ idxOf p es = (j : Int) := by
 cases h : es.findIdx? p with
 | none =>
   left;exact ⟨by unfold idxOf; rw [h], fun x hx => by have := List.findIdx?_eq_none_iff.1 h x hx; simpa using this⟩
 | some j =>
   right;obtain ⟨hj, hp, _⟩ := List.findIdx?_eq_some_iff_getElem.1 h;exact ⟨j, es[j], List.getElem?_eq_getElem hj, hp, by unfold idxOf; rw [h]⟩
inductive FindSpec (A : St) (t key : Int) : Wd → Bool → Int → St → Prop
 | err {er : Int} : EntErr A t key er → FindSpec A t key ⟨false, 0⟩ false er A
 | no {name kn : Int} {o : Ob} : TabAt A t key name kn o → (∀ x ∈ o.ents, KeyIs kn x = false) → FindSpec A t key ⟨false, 0⟩ false 0 A
 | num {name kn : Int} {o : Ob} {j : Nat} {x : En} : TabAt A t key name kn o → o.ents[j]? = some x → KeyIs kn x = true → x.val.ref = false → FindSpec A t key ⟨false, x.val.num⟩ true 0 A
 | ref {name kn q : Int} {o : Ob} {j : Nat} {x : En} {A' : St} : TabAt A t key name kn o → o.ents[j]? = some x → KeyIs kn x = true → x.val.ref = true → Granted A x.val.num q A' → FindSpec A t key ⟨true, q⟩ true 0 A'
theorem EntErr.cases_of (A : St) (t key : Int) (hob : ∀ n name, A.handles.lookup n = some name → (A.objs.lookup name).isSome) : (∃ er, EntErr A t key er ∧ (er = 221 ∨ er = 223)) ∨ ∃ name kn o, TabAt A t key name kn o := by
 cases h1 : A.handles.lookup t with
 | none => exact .inl ⟨_, .none h1, .inl rfl⟩
 | some name =>
   cases h2 : A.handles.lookup key with
   | none => exact .inl ⟨_, .nokey h1 h2, .inl rfl⟩
   | some kn =>
     obtain ⟨o, ho⟩ := Option.isSome_iff_exists.1 (hob t name h1);cases h4 : o.table with
     | true => exact .inr ⟨name, kn, o, h1, h2, ho, h4⟩
     | false => exact .inl ⟨_, .kind h1 h2 ho h4, .inr rfl⟩
theorem Wf.hob (h : Wf k m A) : ∀ n name, A.handles.lookup n = some name → (A.objs.lookup name).isSome := fun _ name hl => h.roots name (mem_roots.2 (.inr ⟨_, look_mem hl, rfl⟩))
theorem find_any (hR : Rep w g A) (hg : Good k m A) (hh : A.handles.length < 9000) (t key : Int) :
 Calls Tryz.prog 27 #[.pointer (some ⟨g.hb, 0, none⟩), .int .i64 t, .int .i64 key] w fun e w' => ∃ c b er, e = .returned (.tuple #[c.agg, .bool b, .int .i64 er]) ∧ Hid (∃ A' g', FindSpec A t key c b er A' ∧ Rep w' g' A' ∧ Step w g A w' g') := by
 refine ret_k fun K hK => ?_;have HK := Lib.hid hK;rcases EntErr.cases_of A t key hg.wf.hob with ⟨er, hE, her⟩ | ⟨name, kn, o, hT⟩
 · have HEn := Lib.hid fun X => entry_err (hR.alloc X) hg.wf.hob hE;have HP : Hid (∀ w', Chg (fun _ => False) w w' → Post K (.returned (.tuple #[.agg #[.bool false, .int .i64 0], .bool false, .int .i64 er])) w') := fun w' h => HK.out _ _ ⟨⟨false, 0⟩, false, er, rfl, A, g, .err hE, hR.chg0 h, Step.chg0 g A h⟩;clear hK HK hR hg hE hh;rcases her with rfl | rfl
   all_goals
    go_enter Tryz.func27, Tryz.ntmps27
    go_wp2_with fail
    refine (HEn.out _).mono ?_; rintro e w5 ⟨rfl, hC⟩;have hb := hC.at (heap_alloc_new w (.cells #[.bool false, .int .i64 0] 54)) (fun h => h);have q0 := cellAt hb 0;have q1 := cellAt hb 1;have q2 := freeAt hb 0;have q3 := freeAt hb 1;have HC : Hid (∀ x y, Chg (fun _ => False) w ((w5.setCell ⟨w.heap.size, 0, none⟩ x).setCell ⟨w.heap.size, 1, none⟩ y)) := fun x y => (((Chg.refl _ _).alloc _).trans hC (fun _ _ h => h)).store2 (Nat.le_refl _) x y;clear hC hb HEn;go_wp2
    first
     | refine bodyPost_ret (v := .tuple #[.agg #[.bool false, .int .i64 0], .bool false, .int .i64 221]) (by simp [results, Tryz.results27, go_sem, q0, q1]) rfl (HP.out _ (HC.out _ _))
     | refine bodyPost_ret (v := .tuple #[.agg #[.bool false, .int .i64 0], .bool false, .int .i64 223]) (by simp [results, Tryz.results27, go_sem, q0, q1]) rfl (HP.out _ (HC.out _ _))
 · obtain ⟨ok, hok⟩ := Option.isSome_iff_exists.1 (hg.wf.hob key kn hT.h2);have hents := hg.wf.fit.ents name o hT.h3;have HEn := Lib.hid fun X => entry_ok (hR.alloc X) hT.h1 hT.h2 hT.h3 hT.h4 hok (by omega);rcases idxOf_cases (KeyIs kn) o.ents with ⟨hi, hno⟩ | ⟨j, x, hj, hp, hi⟩
   · have HP : Hid (∀ w', Chg (fun _ => False) w w' → Post K (.returned (.tuple #[.agg #[.bool false, .int .i64 0], .bool false, .int .i64 0])) w') := fun w' h => HK.out _ _ ⟨⟨false, 0⟩, false, 0, rfl, A, g, .no hT hno, hR.chg0 h, Step.chg0 g A h⟩;rw [hi] at HEn;clear hK HK hR hg hh hno hT hok hents hi
     go_enter Tryz.func27, Tryz.ntmps27
     go_wp2_with fail
     refine (HEn.out _).mono ?_; rintro e w5 ⟨rfl, hC⟩;have hb := hC.at (heap_alloc_new w (.cells #[.bool false, .int .i64 0] 54)) (fun h => h);have q0 := cellAt hb 0;have q1 := cellAt hb 1;have q2 := freeAt hb 0;have q3 := freeAt hb 1;have HC : Hid (∀ x y, Chg (fun _ => False) w ((w5.setCell ⟨w.heap.size, 0, none⟩ x).setCell ⟨w.heap.size, 1, none⟩ y)) := fun x y => (((Chg.refl _ _).alloc _).trans hC (fun _ _ h => h)).store2 (Nat.le_refl _) x y;clear hC hb HEn;go_wp2;refine bodyPost_ret (v := .tuple #[.agg #[.bool false, .int .i64 0], .bool false, .int .i64 0]) (by simp [results, Tryz.results27, go_sem, q0, q1]) rfl (HP.out _ (HC.out _ _))
   · obtain ⟨hjl, hje⟩ := List.getElem?_eq_some_iff.1 hj;rw [hi] at HEn;have HAt : Hid (∀ w5, Chg (fun _ => False) w w5 → ∃ b c, w5.cell? ⟨g.ob name, 4, none⟩ = some (.slice (some ⟨b, 0, none⟩) o.ents.length c) ∧ w5.cell? ⟨b, j * 3 + 1, none⟩ = some (.bool x.val.ref) ∧ w5.cell? ⟨b, j * 3 + 2, none⟩ = some (.int .i64 x.val.num)) := by
      intro w5 hC;have hob := (hR.chg0 hC).obj name o (mem_of_lookup hT.h3);obtain ⟨a, c, hv, _, _, _⟩ := hob.row.slice;have hrow := hob.row;rw [hv] at hrow;obtain ⟨b, rfl, _, _, d1, d2⟩ := hrow.entCell j hjl;rw [hje] at d1 d2;exact ⟨b, c, by rw [← hv]; exact hob.c 4, d1, d2⟩
     have hjb : (j : Int) < (o.ents.length : Int) := by omega
     have hj0 : ¬ ((j : Int) < 0) := by omega
     cases hr : x.val.ref with
     | false =>
       have HOut : Hid (∀ w1, Chg (fun _ => False) w w1 → w1.heap[w.heap.size]? = some (.cells #[.bool false, .int .i64 0] 54 (0, 0)) → Calls Tryz.prog 66 #[.pointer (some ⟨g.hb, 0, none⟩), .agg #[.bool false, .int .i64 x.val.num]] w1 fun e w2 => e = .returned (.agg #[.bool false, .int .i64 x.val.num]) ∧
        (w2.cell? ⟨w.heap.size, 0, none⟩ = some (.bool false) ∧ w2.cell? ⟨w.heap.size, 1, none⟩ = some (.int .i64 0) ∧ w2.frozen? ⟨w.heap.size, 0, none⟩ = false ∧ w2.frozen? ⟨w.heap.size, 1, none⟩ = false) ∧
        Hid (∀ a b, Post K (.returned (.tuple #[.agg #[.bool false, .int .i64 x.val.num], .bool true, .int .i64 0])) ((w2.setCell ⟨w.heap.size, 0, none⟩ a).setCell ⟨w.heap.size, 1, none⟩ b))) := by
        intro w1 hC1 hb1;refine (out_num _ _ _).mono ?_;rintro e w2 ⟨rfl, hC2⟩;have hb := hC2.at hb1 (fun h => h);refine ⟨rfl, ⟨cellAt hb 0, cellAt hb 1, freeAt hb 0, freeAt hb 1⟩, fun a b => ?_⟩;have hC3 := (hC1.trans hC2 (fun _ _ h => h)).store2 (Nat.le_refl _) a b;exact HK.out _ _ ⟨⟨false, x.val.num⟩, true, 0, rfl, A, g, .num hT hj hp hr, hR.chg0 hC3, Step.chg0 g A hC3⟩
       rw [hr] at HAt;clear hK HK hR hg hh hT hok hi hp hj hje hr hjl;generalize x.val.num = xn at *;generalize o.ents.length = len at *
       go_enter Tryz.func27, Tryz.ntmps27
       go_wp2_with fail
       refine (HEn.out _).mono ?_; rintro e w5 ⟨rfl, hC⟩;have hC5 := ((Chg.refl (fun _ => False) w).alloc (.cells #[.bool false, .int .i64 0] 54)).trans hC (fun _ _ h => h);have hb := hC.at (heap_alloc_new w (.cells #[.bool false, .int .i64 0] 54)) (fun h => h);obtain ⟨b, c, d0, d1, d2⟩ := HAt.out w5 hC5;have HO5 := Lib.hid fun Y => HOut.out (w5.alloc Y) (hC5.alloc Y) (heap_alloc_old hb Y);clear hC hC5 hb HAt HOut HEn
       go_wp2_with (go_at_call 66; refine (HO5.out _).mono ?_; rintro e w6 ⟨rfl, ⟨q0, q1, q2, q3⟩, hZ⟩)
       refine bodyPost_ret (v := .tuple #[.agg #[.bool false, .int .i64 xn], .bool true, .int .i64 0]) (by simp [results, Tryz.results27, go_sem, q0, q1]) rfl (hZ.out _ _)
     | true =>
       have HOut : Hid (∀ w1, Chg (fun _ => False) w w1 → w1.heap[w.heap.size]? = some (.cells #[.bool false, .int .i64 0] 54 (0, 0)) → (Calls Tryz.prog 60 #[.pointer (some ⟨g.hb, 0, none⟩), .int .i64 1] w1 fun e w2 => e = .returned (.bool true) ∧ w1 = w2) ∧ Calls Tryz.prog 66 #[.pointer (some ⟨g.hb, 0, none⟩), .agg #[.bool true, .int .i64 x.val.num]] w1 fun e w2 => ∃ q, e = .returned (.agg #[.bool true, .int .i64 q]) ∧
        (w2.cell? ⟨w.heap.size, 0, none⟩ = some (.bool false) ∧ w2.cell? ⟨w.heap.size, 1, none⟩ = some (.int .i64 0) ∧ w2.frozen? ⟨w.heap.size, 0, none⟩ = false ∧ w2.frozen? ⟨w.heap.size, 1, none⟩ = false) ∧
        Hid (∀ a b, Post K (.returned (.tuple #[.agg #[.bool true, .int .i64 q], .bool true, .int .i64 0])) ((w2.setCell ⟨w.heap.size, 0, none⟩ a).setCell ⟨w.heap.size, 1, none⟩ b))) := by
        intro w1 hC1 hb1;refine ⟨spare_any (hR.chg0 hC1) 1 (by omega) (by omega), ?_⟩;refine (out_ref (hR.chg0 hC1) hg.free hh x.val.num).mono ?_;rintro e w2 ⟨q, rfl, hZ⟩;obtain ⟨A', g', hG, hR', hS⟩ := hZ.out;have hat := hS.at hb1 (hR.none_of_ge (Nat.le_refl _));have hb := hat.1;refine ⟨q, rfl, ⟨cellAt hb 0, cellAt hb 1, freeAt hb 0, freeAt hb 1⟩, fun a b => ?_⟩;have hS1 := (Step.chg0 g A hC1).trans hS (Int.le_refl _);refine HK.out _ _ ⟨⟨true, q⟩, true, 0, rfl, A', g', .ref hT hj hp hr hG, ?_, ?_⟩
        · refine hR'.frame (F := fun b => b = w.heap.size) (((Chg.refl (fun b => b = w.heap.size) w2).setCell (p := ⟨w.heap.size, 0, none⟩) (fun _ => rfl) _).setCell (p := ⟨w.heap.size, 1, none⟩) (fun _ => rfl) _) fun b hb => ?_;rw [hb]; exact hat.2
        · refine { hS1 with chg := ?_ };refine (hS1.chg.setCell (p := ⟨w.heap.size, 0, none⟩) (fun h => ?_) _).setCell (p := ⟨w.heap.size, 1, none⟩) (fun h => ?_) _
          · exact absurd h (by simp)
          · exact absurd h (by simp)
       rw [hr] at HAt;clear hK HK hR hg hh hT hok hi hp hj hje hr hjl;generalize x.val.num = xn at *;generalize o.ents.length = len at *
       go_enter Tryz.func27, Tryz.ntmps27
       go_wp2_with fail
       refine (HEn.out _).mono ?_; rintro e w5 ⟨rfl, hC⟩;have hC5 := ((Chg.refl (fun _ => False) w).alloc (.cells #[.bool false, .int .i64 0] 54)).trans hC (fun _ _ h => h);have hb := hC.at (heap_alloc_new w (.cells #[.bool false, .int .i64 0] 54)) (fun h => h);obtain ⟨b, c, d0, d1, d2⟩ := HAt.out w5 hC5;have HO5 := Lib.hid fun Y => HOut.out (w5.alloc Y) (hC5.alloc Y) (heap_alloc_old hb Y);clear hC hC5 hb HAt HOut HEn
       go_wp2_with (first | (go_at_call 60; refine (HO5.out _).1.mono ?_; rintro e w6 ⟨rfl, rfl⟩) | (go_at_call 66; refine (HO5.out _).2.mono ?_; rintro e w6 ⟨q, rfl, ⟨q0, q1, q2, q3⟩, hZ⟩))
       refine bodyPost_ret (v := .tuple #[.agg #[.bool true, .int .i64 q], .bool true, .int .i64 0]) (by simp [results, Tryz.results27, go_sem, q0, q1]) rfl (hZ.out _ _)
inductive CountSpec (A : St) (t : Int) : Int → Int → Prop
 | none : A.handles.lookup t = none → CountSpec A t 0 221
 | kind {name : Int} {o : Ob} : A.handles.lookup t = some name → A.objs.lookup name = some o → o.table = false → CountSpec A t 0 223
 | ok {name : Int} {o : Ob} : A.handles.lookup t = some name → A.objs.lookup name = some o → o.table = true → CountSpec A t o.ents.length 0
theorem count_any (hR : Rep w g A) (hw : Wf k m A) (t : Int) :
 Calls Tryz.prog 31 #[.pointer (some ⟨g.hb, 0, none⟩), .int .i64 t] w fun e w' => ∃ c er, e = .returned (.tuple #[.int .i64 c, .int .i64 er]) ∧ CountSpec A t c er ∧ w = w' := by
 refine ret_k fun K hK => ?_;cases hl : A.handles.lookup t with
 | none =>
   have HW := Lib.hid (weak_none hR hl);have HP := Lib.hid (hK _ _ ⟨0, 221, rfl, .none hl, rfl⟩);clear hK hR hw hl
   go_enter Tryz.func31, Tryz.ntmps31
   go_wp2_with (go_at_call 70; refine HW.out.mono ?_; rintro e w6 ⟨rfl, rfl⟩)
   go_ret2
   exact HP.out
 | some name =>
   obtain ⟨o, ho⟩ := Option.isSome_iff_exists.1 (hw.hob t name hl);have hW := weak_some hR hl ho;cases ht : o.table with
   | false =>
     rw [ht] at hW;have HW := Lib.hid hW;have HP := Lib.hid (hK _ _ ⟨0, 223, rfl, .kind hl ho ht, rfl⟩);clear hK hR hw hl hW ho ht
     go_enter Tryz.func31, Tryz.ntmps31
     go_wp2_with (go_at_call 70; refine HW.out.mono ?_; rintro e w6 ⟨rfl, rfl⟩)
     go_ret2
     exact HP.out
   | true =>
     rw [ht] at hW;have HW := Lib.hid hW;have HP := Lib.hid (hK _ _ ⟨o.ents.length, 0, rfl, .ok hl ho ht, rfl⟩);obtain ⟨a, c, hv, _, _, _⟩ := (hR.obj name o (mem_of_lookup ho)).row.slice;have c4 : w.cell? ⟨g.ob name, 4, none⟩ = some (.slice a o.ents.length c) := by rw [← hv]; exact (hR.obj name o (mem_of_lookup ho)).c 4
     clear hK hR hw hl hW ho ht hv;generalize o.ents.length = len at *
     go_enter Tryz.func31, Tryz.ntmps31
     go_wp2_with (go_at_call 70; refine HW.out.mono ?_; rintro e w6 ⟨rfl, rfl⟩)
     go_ret2
     exact HP.out
theorem run_append_here {P : Program} (t ty e : TypeId) (i : TypeInfo) (sz : Nat) (ht : P.underlying t = some (.slice e)) (hi : P.info? e = some i) (hsize : i.size = sz) {cur : Array Value} (hb : w.heap[b]? = some (.cells cur e (0, 0)))
 (n c : Nat) {news : List Value} (hx : Src' w sz x m news) (h1 : ∀ u ∈ news, u.oneCell' = true) (hroom : n + m ≤ c) (hfit : n * sz + news.length ≤ cur.size) :
 ∃ w', (Builtin.append_ #[t, t] ty #[.slice (some ⟨b, 0, none⟩) n c, x]).run P w = .ok (.slice (some ⟨b, 0, none⟩) (n + m) c) w' ∧ w'.heap[b]? = some (.cells (cur.toList.take (n * sz) ++ news ++ cur.toList.drop (n * sz + news.length)).toArray e (0, 0)) ∧ Chg (fun k => k = b) w w' := by
 subst hsize;have hst := run_storeCells_at P b (n * i.size) e news 0 cur w hb (by simpa using hfit) h1;simp only [Nat.add_zero] at hst;have hle : n ≤ c := by omega
 obtain ⟨hl, ⟨a, c', rfl, hnews⟩ | ⟨rfl, a, c', rfl⟩⟩ := hx
 · have hf := run_firstCells_some (P := P) w i.size m a m c' news hl hnews;refine ⟨_, ?_, setRow_heap w b cur _ e (0, 0) hb, chg_setRow (Chg.refl (fun k => k = b) w) (fun _ => rfl) _⟩;rcases Nat.eq_zero_or_pos m with rfl | hm
   · have hn : news = [] := List.eq_nil_of_length_eq_zero (by simpa using hl);subst hn;simp [Builtin.append_, run_underlying ht, sizeOf, typeInfo, hi, Builtin.lenOf, hf, hle, Addr.add_lit] at hst ⊢;rw [hst]; rfl
   · simp [Builtin.append_, run_underlying ht, sizeOf, typeInfo, hi, Builtin.lenOf, hf, hroom, Addr.add_lit, hst]
 · have hn : news = [] := List.eq_nil_of_length_eq_zero (by simpa using hl);subst hn;have hf : (Builtin.firstCells i.size 0 (.slice a 0 c')).run P w = .ok #[] w := by
    cases a
    · simp [Builtin.firstCells]
    · simp [Builtin.firstCells, loadCells, loadCellsFrom]
   refine ⟨_, ?_, setRow_heap w b cur _ e (0, 0) hb, chg_setRow (Chg.refl (fun k => k = b) w) (fun _ => rfl) _⟩;simp [Builtin.append_, run_underlying ht, sizeOf, typeInfo, hi, Builtin.lenOf, hf, hle, Addr.add_lit] at hst ⊢;rw [hst]; rfl
theorem enCells_one (l : List En) : ∀ u ∈ enCells l, u.oneCell' = true := by
 intro u hu;simp only [enCells, List.mem_flatMap] at hu;obtain ⟨x, _, hx⟩ := hu;simp only [En.cells, List.mem_cons, List.not_mem_nil, or_false] at hx;rcases hx with rfl | rfl | rfl <;> rfl
theorem enCells_eraseIdx (es : List En) (j : Nat) (hj : j < es.length) : enCells (es.eraseIdx j) = (enCells es).take (j * 3) ++ (enCells es).drop ((j + 1) * 3) := by
 rw [List.eraseIdx_eq_take_drop_succ, enCells_append, ← enCells_take]
 congr 1
 have h1 := enCells_take es (j + 1);have h2 := List.take_append_drop (j + 1) es;have h3 : enCells es = enCells (es.take (j + 1)) ++ enCells (es.drop (j + 1)) := by rw [← enCells_append, h2]
 rw [h3, List.drop_left' (by rw [enCells_length, List.length_take]; omega)]
theorem delete_mem {c : Nat} (hrow : Row w 120 3 (.slice (some ⟨b, 0, none⟩) es.length c) es.length (enCells es)) (hbk : rowBlk (.slice (some ⟨b, 0, none⟩) es.length c) = some b) (hm : es.length = j + 1 + m) (hx : Src' w 3 x m ((enCells es).drop ((j + 1) * 3))) :
 ∃ w1, (Builtin.append_ #[108, 108] 108 #[.slice (some ⟨b, 0, none⟩) j c, x]).run Tryz.prog w = .ok (.slice (some ⟨b, 0, none⟩) (j + m) c) w1 ∧
   ∃ w2, (∀ ty, (Builtin.clear_ #[108] ty #[.slice (some ⟨b, (j + m) * 3, none⟩) 1 (c - (j + m))]).run Tryz.prog w1 = .ok (.tuple #[]) w2) ∧
     Row w2 120 3 (.slice (some ⟨b, 0, none⟩) (j + m) c) (es.eraseIdx j).length (enCells (es.eraseIdx j)) ∧ Chg (fun k => k = b) w w2 := by
 obtain ⟨i0, hi, hz0, hz1, hz2⟩ := info_parts iEntry;obtain ⟨h1, h2, ⟨h3, _⟩ | ⟨g', cap, cur, h3, h4, h5, h6, h7, h8⟩⟩ := hrow
 · omega
 simp only [Value.slice.injEq, Option.some.injEq, Addr.mk.injEq, and_true] at h3;obtain ⟨rfl, -, rfl⟩ := h3;have hel : (enCells es).length = es.length * 3 := enCells_length es;have hnl : ((enCells es).drop ((j + 1) * 3)).length = m * 3 := by rw [List.length_drop, hel]; omega
 obtain ⟨w1, happ, hb1, hC1⟩ := run_append_here (P := Tryz.prog) 108 108 120 i0 3 uEnts hi hz1 h4 j (cap + 1) hx (fun u hu => enCells_one es u (List.mem_of_mem_drop hu)) (by omega) (by rw [hnl]; omega);have hC1s : (cur.toList.take (j * 3) ++ (enCells es).drop ((j + 1) * 3) ++ cur.toList.drop (j * 3 + ((enCells es).drop ((j + 1) * 3)).length)).toArray.size = cur.size := by
  simp only [List.size_toArray, List.length_append, List.length_take, List.length_drop, Array.length_toList, hnl];omega
 have htk : cur.toList.take (j * 3) = (enCells es).take (j * 3) := by
  have := congrArg (List.take (j * 3)) h8;rw [List.take_take, Nat.min_eq_left (by omega)] at this;exact this
 have hrow1 : Row w1 120 3 (.slice (some ⟨b, 0, none⟩) (j + m) (cap + 1)) (j + m) (enCells (es.eraseIdx j)) := by
  refine ⟨by rw [enCells_length, List.length_eraseIdx_of_lt (by omega)]; omega, by omega, .inr ⟨b, cap, _, rfl, hb1, by omega, h6, by rw [hC1s]; exact h7, ?_⟩⟩;simp only [];rw [htk, enCells_eraseIdx es j (by omega), List.take_left' (by rw [List.length_append, List.length_take, hnl, hel]; omega)]
 have hcell : ∀ q, q < 1 * 3 → (w1.cell? ⟨b, (j + m) * 3 + q, none⟩).isSome = true := fun q hq => by
  rw [cellAt hb1];have : (j + m) * 3 + q < (cur.toList.take (j * 3) ++ (enCells es).drop ((j + 1) * 3) ++ cur.toList.drop (j * 3 + ((enCells es).drop ((j + 1) * 3)).length)).toArray.size := by rw [hC1s, h7]; omega
  rw [Array.getElem?_eq_getElem this]; rfl
 have hclear := fun ty => run_clear_row (P := Tryz.prog) (w := w1) (t := 108) ty uEnts hi hz0 (sz := 3) (by decide) (by intro u hu; simp [Value.cells] at hu; rcases hu with rfl | rfl | rfl <;> rfl) b ((j + m) * 3) 1 (cap + 1 - (j + m)) hcell (fun q => freeAt hb1 _);refine ⟨w1, happ, _, hclear, ?_, hC1.trans (chg_setCells b _ _ _) (fun _ _ h => h)⟩;rw [List.length_eraseIdx_of_lt (by omega), show es.length - 1 = j + m from by omega];exact hrow1.setCells_keep (g := b) rfl _ _ _ (Nat.le_refl _)
theorem delete_any {v : Value} (hrow : Row w 120 3 v es.length (enCells es)) (hm : es.length = j + 1 + m) (hb : es.length ≤ 1000000000) :
 Calls Tryz.prog 85 #[v, .int .i64 j, .int .i64 ((j : Int) + 1)] w fun e w' => ∃ v', e = .returned v' ∧
  Row w' 120 3 v' (es.eraseIdx j).length (enCells (es.eraseIdx j)) ∧ (∀ b, rowBlk v' = some b → rowBlk v = some b) ∧ Chg (fun b => rowBlk v = some b) w w' := by
 obtain ⟨a, c, rfl, hle, hcm, hcase⟩ := hrow.slice;refine ret_k fun K hK => ?_;have HK := Lib.hid hK;obtain ⟨b, rfl, hbk⟩ : ∃ b, a = some ⟨b, 0, none⟩ ∧ rowBlk (.slice a es.length c) = some b := by
  rcases hcase with h | h
  · omega
  · exact h
 have hrow1 : Row (w.drewN 1) 120 3 (.slice (some ⟨b, 0, none⟩) es.length c) es.length (enCells es) := hrow.same fun _ _ => rfl;have HEnd : Hid (∀ w2, Row w2 120 3 (.slice (some ⟨b, 0, none⟩) (j + m) c) (es.eraseIdx j).length (enCells (es.eraseIdx j)) ∧ Chg (fun k => k = b) (w.drewN 1) w2 → Post K (.returned (.slice (some ⟨b, 0, none⟩) (j + m) c)) w2) := by
  rintro w2 ⟨h1, h2⟩;refine HK.out _ _ ⟨_, rfl, h1, fun x hx => ?_, ((Chg.refl (fun x => rowBlk (.slice (some ⟨b, 0, none⟩) es.length c) = some x) w).drewN 1).trans (h2.mono (F' := fun x => rowBlk (.slice (some ⟨b, 0, none⟩) es.length c) = some x) fun k _ hk => by rw [hk]; exact hbk) (fun _ _ h => h)⟩;cases c with
  | zero => simp [rowBlk] at hx
  | succ c => simpa [rowBlk] using hx
 have hdm := fun x hx => delete_mem (x := x) hrow1 hbk hm hx;have hdr : (enCells es).drop ((j + 1) * 3) = ((enCells es).drop ((j + 1) * 3)).take (m * 3) := by
  rw [List.take_of_length_le];rw [List.length_drop, enCells_length]; omega
 rw [hm] at hb hle;have s1 : ((j + 1 + m : Nat) : Int) = (j : Int) + 1 + (m : Int) := by omega
 have s2 : (j : Int) + 1 + (m : Int) ≤ (c : Int) := by omega
 have s3 : (j : Int) ≤ (c : Int) := by omega
 have s4 : j ≤ c := by omega
 have s5 : (0 : Int) ≤ (j : Int) + 1 := by omega
 have s6 : (j : Int) + 1 ≤ (j : Int) + 1 + (m : Int) := by omega
 by_cases hc1 : c = j + 1
 · obtain rfl : m = 0 := by omega
   obtain ⟨w1, happ, w2, hclear, hrow2, hC2⟩ := hdm (.slice (some ⟨b, 0, none⟩) 0 0) (by
    rw [hdr];refine ⟨by simp, .inr ⟨rfl, _, _, rfl⟩⟩)
   have HF := Lib.hid (HEnd.out w2 ⟨hrow2, hC2⟩);rw [hm];clear hK hrow hcase hm hbk HEnd hdm hrow1 hrow2 hC2 hdr HK;subst hc1;have s7 : (j : Int) ≤ (j : Int) + 1 := by omega
   have e1 : j + 1 - j = 1 := by omega
   simp only [Nat.add_zero] at happ hclear HF;rw [e1] at hclear;have hcl : ∀ ty, (Builtin.clear_ #[108] ty #[.slice (some ⟨b, j * 3, none⟩) (j + 1 - j) (j + 1 - j)]).run Tryz.prog w1 = .ok (.tuple #[]) w2 := fun ty => by rw [e1]; exact hclear ty
   clear e1
   go_enter Tryz.func85, Tryz.ntmps85
   go_upto_region 5 with fail
   go_region_law (refine step_val rfl (exec_append rfl happ) ?_)
   all_goals
    go_wp2;go_ret;exact HF.out
 · obtain ⟨w1, happ, w2, hclear, hrow2, hC2⟩ := hdm (.slice (some ⟨b, (j + 1) * 3, none⟩) m (c - (j + 1))) (by
    rw [hdr];have := hrow1;exact this.part (j + 1) m (c - (j + 1)) (by omega))
   have HF := Lib.hid (HEnd.out w2 ⟨hrow2, hC2⟩);rw [hm];clear hK hrow hcase hm hbk HEnd hdm hrow1 hrow2 hC2 hdr HK;have e1 : j + 1 + m - (j + m) = 1 := by omega
   have hcl : ∀ ty, (Builtin.clear_ #[108] ty #[.slice (some ⟨b, (j + m) * 3, none⟩) (j + 1 + m - (j + m)) (c - (j + m))]).run Tryz.prog w1 = .ok (.tuple #[]) w2 := fun ty => by rw [e1]; exact hclear ty
   clear e1
   go_enter Tryz.func85, Tryz.ntmps85
   go_upto_region 5 with fail
   go_region_law (refine step_val rfl (exec_append rfl happ) ?_)
   all_goals
    go_wp2;go_ret;exact HF.out
def St.setTab (A : St) (name : Int) (o : Ob) (l : List En) : St := (A.setOb name { o with ents := l }).noted name
inductive RemoveSpec (A : St) (t key : Int) : Bool → Int → St → Prop
 | err {er : Int} : EntErr A t key er → RemoveSpec A t key false er A
 | no {name kn : Int} {o : Ob} : TabAt A t key name kn o → (∀ x ∈ o.ents, KeyIs kn x = false) → RemoveSpec A t key false 0 A
 | ok {name kn : Int} {o : Ob} {j : Nat} {x : En} : TabAt A t key name kn o → o.ents[j]? = some x → KeyIs kn x = true → RemoveSpec A t key true 0 (A.setTab name o (o.ents.eraseIdx j))
theorem setTab_any {w1 : World} (hR : Rep w g A) (hw : Wf k m A) (hm : A.objs.lookup name = some o) {v1 : Value} {l : List En} (hll : l.length ≤ 1000)
 (hC : Chg (fun b => rowBlk (g.vE name) = some b) w w1) (hrow : Row w1 120 3 v1 l.length (enCells l)) (hloc : ∀ b, rowBlk v1 = some b → rowBlk (g.vE name) = some b ∨ w.heap.size ≤ b) :
 (∃ v, w1.cell? ⟨g.ob name, 4, none⟩ = some v) ∧ w1.frozen? ⟨g.ob name, 4, none⟩ = false ∧
 ∀ k2, Calls Tryz.prog 64 #[.pointer (some ⟨g.hb, 0, none⟩), .int .i64 name] ((w1.setCell ⟨g.ob name, 4, none⟩ v1).drewN k2) fun e w2 => e = .returned (.tuple #[]) ∧ ∃ g', Rep w2 g' (A.setTab name o l) ∧ Step w g A w2 g' := by
 have hob := hR.obj name o (mem_of_lookup hm);have hne : rowBlk (g.vE name) ≠ some (g.ob name) := fun h => by have := hob.rown _ h; rw [hob.own] at this; cases this
 have hb1 : w1.heap[g.ob name]? = some (.cells (obCells g name o) 110 (0, 0)) := hC.at hob.blk hne;refine ⟨⟨_, by rw [cellAt hb1]; rfl⟩, freeAt hb1 4, fun k2 => ?_⟩;have hne2 : ∀ b, rowBlk v1 = some b → b ≠ g.ob name := fun b hb e => by
  rcases hloc b hb with h | h
  · exact hne (by rw [← e]; exact h)
  · have := lt_of_block hob.blk; omega
 have hset := hR.setEnts (w' := w1.setCell ⟨g.ob name, 4, none⟩ v1) (Step.refl w g A) hm (v1 := v1) (l := l) ((hC.mono fun _ _ h => .inr h).setCell (fun _ => .inl rfl) _) (heap_setCell hb1 4 v1) (hrow.same fun b hb => heap_setCell_ne (hne2 b hb) _) (fun b hb => by
  rcases hloc b hb with h | h
  · exact .inl (hob.rown b h)
  · exact .inr ⟨hR.none_of_ge h, h⟩)
 have hlk : (A.setOb name { o with ents := l }).objs.lookup name = some { o with ents := l } := lookup_setOb_self A name _ o hm;have hin := hw.fit.inn name o hm;have hmb : (A.mem o.old).length ≤ 100000000000 := by
  cases o.old
  · exact hw.fit.memN
  · exact hw.fit.memT
 have hsz := hw.fit.size name o hm;have hnt := note_any (hset.1.drewN k2) hlk hin (show (A.mem o.old).length ≤ _ by omega) (show l.length ≤ _ by omega) (show o.size + 2 * l.length ≤ _ by omega);have hgb : (g.setE name v1).hb = g.hb := rfl;rw [hgb] at hnt;refine hnt.mono ?_;rintro e w2 ⟨rfl, hR2, hS2⟩;exact ⟨rfl, _, hR2, (hset.2.trans (Step.drewN _ _ A k2) (Int.le_refl _)).trans hS2 (Int.le_refl _)⟩
theorem remove_any (hR : Rep w g A) (hw : Wf k m A) (t key : Int) :
 Calls Tryz.prog 40 #[.pointer (some ⟨g.hb, 0, none⟩), .int .i64 t, .int .i64 key] w fun e w' => ∃ b er, e = .returned (.tuple #[.bool b, .int .i64 er]) ∧ Hid (∃ A' g', RemoveSpec A t key b er A' ∧ Rep w' g' A' ∧ Step w g A w' g') := by
 refine ret_k fun K hK => ?_;have HK := Lib.hid hK;rcases EntErr.cases_of A t key hw.hob with ⟨er, hE, her⟩ | ⟨name, kn, o, hT⟩
 · have HEn := Lib.hid (entry_err hR hw.hob hE);have HP : Hid (∀ w', Chg (fun _ => False) w w' → Post K (.returned (.tuple #[.bool false, .int .i64 er])) w') := fun w' h => HK.out _ _ ⟨false, er, rfl, A, g, .err hE, hR.chg0 h, Step.chg0 g A h⟩;clear hK HK hR hw hE;rcases her with rfl | rfl
   all_goals
    go_enter Tryz.func40, Tryz.ntmps40
    go_wp2_with fail
    refine HEn.out.mono ?_; rintro e w5 ⟨rfl, hC⟩;have HC := Lib.hid hC;clear hC HEn;go_wp2
    go_ret2
    exact HP.out _ HC.out
 · obtain ⟨ok, hok⟩ := Option.isSome_iff_exists.1 (hw.hob key kn hT.h2);have hents := hw.fit.ents name o hT.h3;have HEn := Lib.hid (entry_ok hR hT.h1 hT.h2 hT.h3 hT.h4 hok (by omega));rcases idxOf_cases (KeyIs kn) o.ents with ⟨hi, hno⟩ | ⟨j, x, hj, hp, hi⟩
   · have HP : Hid (∀ w', Chg (fun _ => False) w w' → Post K (.returned (.tuple #[.bool false, .int .i64 0])) w') := fun w' h => HK.out _ _ ⟨false, 0, rfl, A, g, .no hT hno, hR.chg0 h, Step.chg0 g A h⟩;rw [hi] at HEn;clear hK HK hR hw hno hT hok hents hi
     go_enter Tryz.func40, Tryz.ntmps40
     go_wp2_with fail
     refine HEn.out.mono ?_; rintro e w5 ⟨rfl, hC⟩;have HC := Lib.hid hC;clear hC HEn;go_wp2
     go_ret2
     exact HP.out _ HC.out
   · obtain ⟨hjl, hje⟩ := List.getElem?_eq_some_iff.1 hj;rw [hi] at HEn;have HDel : Hid (∀ w5, Chg (fun _ => False) w w5 → ∃ a c, w5.cell? ⟨g.ob name, 4, none⟩ = some (.slice a o.ents.length c) ∧ Calls Tryz.prog 85 #[.slice a o.ents.length c, .int .i64 j, .int .i64 ((j : Int) + 1)] w5 fun e w6 => ∃ a' n' c', e = .returned (.slice a' n' c') ∧
      ((∃ v, w6.cell? ⟨g.ob name, 4, none⟩ = some v) ∧ w6.frozen? ⟨g.ob name, 4, none⟩ = false) ∧
      Hid (Calls Tryz.prog 64 #[.pointer (some ⟨g.hb, 0, none⟩), .int .i64 name] (w6.setCell ⟨g.ob name, 4, none⟩ (.slice a' n' c')) fun e w7 => e = .returned (.tuple #[]) ∧ Hid (Post K (.returned (.tuple #[.bool true, .int .i64 0])) w7))) := by
      intro w5 hC;have hR5 := hR.chg0 hC;have hob := hR5.obj name o (mem_of_lookup hT.h3);obtain ⟨a, c, hv, _, _, _⟩ := hob.row.slice;have hrow := hob.row;rw [hv] at hrow;refine ⟨a, c, by rw [← hv]; exact hob.c 4, ?_⟩;refine (delete_any (m := o.ents.length - (j + 1)) hrow (by omega) (by omega)).mono ?_;rintro e w6 ⟨v', rfl, hr6, hloc6, hC6⟩;rw [← hv] at hC6 hloc6;obtain ⟨h1, h2, h3⟩ := setTab_any hR5 hw hT.h3 (by rw [List.length_eraseIdx_of_lt hjl]; omega) hC6 hr6 (fun b hb => .inl (hloc6 b hb));obtain ⟨a', c', rfl, _, _, _⟩ := hr6.slice;refine ⟨a', _, c', rfl, ⟨h1, h2⟩, ?_⟩;refine (h3 0).mono ?_;rintro e w7 ⟨rfl, g', hR7, hS7⟩
      exact ⟨rfl, HK.out _ _ ⟨true, 0, rfl, _, g', .ok hT hj hp, hR7, (Step.chg0 g A hC).trans hS7 (Int.le_refl _)⟩⟩
     have hj0 : ¬ ((j : Int) < 0) := by omega
     have hjb : j ≤ 1000 := by omega
     clear hK HK hR hw hT hok hi hp hj hje hjl;generalize o.ents.length = len at *
     go_enter Tryz.func40, Tryz.ntmps40
     go_wp2_with fail
     refine HEn.out.mono ?_; rintro e w5 ⟨rfl, hC⟩;obtain ⟨a, c, d4, hD⟩ := HDel.out w5 hC;have HD := Lib.hid hD;clear hC HEn hD HDel
     go_wp2_with fail
     refine HD.out.mono ?_; rintro e w6 ⟨a', n', c', rfl, ⟨⟨v, d5⟩, d6⟩, hN⟩;clear HD
     go_wp2_with fail
     refine hN.out.mono ?_; rintro e w7 ⟨rfl, hZ⟩;go_wp2
     go_ret2
     exact hZ.out
end Go.Proofs.YtelghmmcbgfjnaaGreat
