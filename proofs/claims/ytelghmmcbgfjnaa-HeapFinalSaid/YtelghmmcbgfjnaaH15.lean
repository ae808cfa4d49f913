/-
  Find and Count. (A part of the proof, joined of: Xt, Xu, Xv, Xw, Xx.)
-/
import Derived.Test.YtelghmmcbgfjnaaH14
/-! Find and Count. -/
namespace Go.Proofs.Ytelghmmcbgfjnaa
open Go.RowKit

/-- A table, and the object of a key. -/
structure TabAt (A : St) (t key name kn : Int) (o : Ob) : Prop where
  h1 : A.handles.lookup t = some name
  h2 : A.handles.lookup key = some kn
  h3 : A.objs.lookup name = some o
  h4 : o.table = true

theorem idxOf_cases (p : En → Bool) (es : List En) : (idxOf p es = -1 ∧ ∀ x ∈ es, p x = false) ∨ ∃ (j : Nat) (x : En), es[j]? = some x ∧ p x = true ∧ idxOf p es = (j : Int) := by
  cases h : es.findIdx? p with
  | none =>
    left
    exact ⟨by unfold idxOf; rw [h], fun x hx => by have := List.findIdx?_eq_none_iff.1 h x hx; simpa using this⟩
  | some j =>
    right
    obtain ⟨hj, hp, _⟩ := List.findIdx?_eq_some_iff_getElem.1 h
    exact ⟨j, es[j], List.getElem?_eq_getElem hj, hp, by unfold idxOf; rw [h]⟩

inductive FindSpec (A : St) (t key : Int) : Wd → Bool → Int → St → Prop
  | err {er : Int} : EntErr A t key er → FindSpec A t key ⟨false, 0⟩ false er A
  | no {name kn : Int} {o : Ob} : TabAt A t key name kn o → (∀ x ∈ o.ents, KeyIs kn x = false) → FindSpec A t key ⟨false, 0⟩ false 0 A
  | num {name kn : Int} {o : Ob} {j : Nat} {x : En} : TabAt A t key name kn o → o.ents[j]? = some x → KeyIs kn x = true → x.val.ref = false → FindSpec A t key ⟨false, x.val.num⟩ true 0 A
  | ref {name kn q : Int} {o : Ob} {j : Nat} {x : En} {A' : St} : TabAt A t key name kn o → o.ents[j]? = some x → KeyIs kn x = true → x.val.ref = true → Granted A x.val.num q A' → FindSpec A t key ⟨true, q⟩ true 0 A'

theorem EntErr.cases_of (A : St) (t key : Int) (hob : ∀ n name, A.handles.lookup n = some name → (A.objs.lookup name).isSome) : (∃ er, EntErr A t key er ∧ (er = 221 ∨ er = 223)) ∨ ∃ name kn o, TabAt A t key name kn o := by
  cases h1 : A.handles.lookup t with
  | none => exact .inl ⟨_, .none h1, .inl rfl⟩
  | some name =>
    cases h2 : A.handles.lookup key with
    | none => exact .inl ⟨_, .nokey h1 h2, .inl rfl⟩
    | some kn =>
      obtain ⟨o, ho⟩ := Option.isSome_iff_exists.1 (hob t name h1)
      cases h4 : o.table with
      | true => exact .inr ⟨name, kn, o, h1, h2, ho, h4⟩
      | false => exact .inl ⟨_, .kind h1 h2 ho h4, .inr rfl⟩

theorem Wf.hob {k m : Nat} {A : St} (h : Wf k m A) : ∀ n name, A.handles.lookup n = some name → (A.objs.lookup name).isSome := fun _ name hl => h.roots name (mem_roots.2 (.inr ⟨_, look_mem hl, rfl⟩))

set_option maxRecDepth 100000 in
set_option maxHeartbeats 2000000 in
theorem find_any {k m : Nat} {w : World} {g : Gh} {A : St} (hR : Rep w g A) (hg : Good k m A) (hh : A.handles.length < 9000) (t key : Int) :
    Calls Try.prog 20 #[.pointer (some ⟨g.hb, 0, none⟩), .int .i64 t, .int .i64 key] w fun e w' => ∃ c b er, e = .returned (.tuple #[c.agg, .bool b, .int .i64 er]) ∧ Hid (∃ A' g', FindSpec A t key c b er A' ∧ Rep w' g' A' ∧ Step w g A w' g') := by
  refine ret_k fun K hK => ?_
  have HK := Lib.hid hK
  rcases EntErr.cases_of A t key hg.wf.hob with ⟨er, hE, her⟩ | ⟨name, kn, o, hT⟩
  · have HEn := Lib.hid fun X => entry_err (hR.alloc X) hg.wf.hob hE
    have HP : Hid (∀ w', Chg (fun _ => False) w w' → Post K (.returned (.tuple #[.agg #[.bool false, .int .i64 0], .bool false, .int .i64 er])) w') := fun w' h => HK.out _ _ ⟨⟨false, 0⟩, false, er, rfl, A, g, .err hE, hR.chg0 h, Step.chg0 g A h⟩
    clear hK HK hR hg hE hh
    rcases her with rfl | rfl
    all_goals
      go_enter Try.func20, Try.ntmps20
      go_wp2_with fail
      refine (HEn.out _).mono ?_; rintro e w5 ⟨rfl, hC⟩
      have hb := hC.at (heap_alloc_new w (.cells #[.bool false, .int .i64 0] 36)) (fun h => h)
      have q0 := cellAt hb 0
      have q1 := cellAt hb 1
      have q2 := freeAt hb 0
      have q3 := freeAt hb 1
      have HC : Hid (∀ x y, Chg (fun _ => False) w ((w5.setCell ⟨w.heap.size, 0, none⟩ x).setCell ⟨w.heap.size, 1, none⟩ y)) := fun x y => (((Chg.refl _ _).alloc _).trans hC (fun _ _ h => h)).store2 (Nat.le_refl _) x y
      clear hC hb HEn
      go_wp2
      first
        | refine bodyPost_ret (v := .tuple #[.agg #[.bool false, .int .i64 0], .bool false, .int .i64 221]) (by simp [results, Try.results20, go_sem, q0, q1]) rfl (HP.out _ (HC.out _ _))
        | refine bodyPost_ret (v := .tuple #[.agg #[.bool false, .int .i64 0], .bool false, .int .i64 223]) (by simp [results, Try.results20, go_sem, q0, q1]) rfl (HP.out _ (HC.out _ _))
  · obtain ⟨ok, hok⟩ := Option.isSome_iff_exists.1 (hg.wf.hob key kn hT.h2)
    have hents := hg.wf.fit.ents name o hT.h3
    have HEn := Lib.hid fun X => entry_ok (hR.alloc X) hT.h1 hT.h2 hT.h3 hT.h4 hok (by omega)
    rcases idxOf_cases (KeyIs kn) o.ents with ⟨hi, hno⟩ | ⟨j, x, hj, hp, hi⟩
    · have HP : Hid (∀ w', Chg (fun _ => False) w w' → Post K (.returned (.tuple #[.agg #[.bool false, .int .i64 0], .bool false, .int .i64 0])) w') := fun w' h => HK.out _ _ ⟨⟨false, 0⟩, false, 0, rfl, A, g, .no hT hno, hR.chg0 h, Step.chg0 g A h⟩
      rw [hi] at HEn
      clear hK HK hR hg hh hno hT hok hents hi
      go_enter Try.func20, Try.ntmps20
      go_wp2_with fail
      refine (HEn.out _).mono ?_; rintro e w5 ⟨rfl, hC⟩
      have hb := hC.at (heap_alloc_new w (.cells #[.bool false, .int .i64 0] 36)) (fun h => h)
      have q0 := cellAt hb 0
      have q1 := cellAt hb 1
      have q2 := freeAt hb 0
      have q3 := freeAt hb 1
      have HC : Hid (∀ x y, Chg (fun _ => False) w ((w5.setCell ⟨w.heap.size, 0, none⟩ x).setCell ⟨w.heap.size, 1, none⟩ y)) := fun x y => (((Chg.refl _ _).alloc _).trans hC (fun _ _ h => h)).store2 (Nat.le_refl _) x y
      clear hC hb HEn
      go_wp2
      refine bodyPost_ret (v := .tuple #[.agg #[.bool false, .int .i64 0], .bool false, .int .i64 0]) (by simp [results, Try.results20, go_sem, q0, q1]) rfl (HP.out _ (HC.out _ _))
    · obtain ⟨hjl, hje⟩ := List.getElem?_eq_some_iff.1 hj
      rw [hi] at HEn
      have HAt : Hid (∀ w5, Chg (fun _ => False) w w5 → ∃ b c, w5.cell? ⟨g.ob name, 4, none⟩ = some (.slice (some ⟨b, 0, none⟩) o.ents.length c) ∧ w5.cell? ⟨b, j * 3 + 1, none⟩ = some (.bool x.val.ref) ∧ w5.cell? ⟨b, j * 3 + 2, none⟩ = some (.int .i64 x.val.num)) := by
        intro w5 hC
        have hob := (hR.chg0 hC).obj name o (mem_of_lookup hT.h3)
        obtain ⟨a, c, hv, _, _, _⟩ := hob.row.slice
        have hrow := hob.row
        rw [hv] at hrow
        obtain ⟨b, rfl, _, _, d1, d2⟩ := hrow.entCell j hjl
        rw [hje] at d1 d2
        exact ⟨b, c, by rw [← hv]; exact hob.c 4, d1, d2⟩
      have hjb : (j : Int) < (o.ents.length : Int) := by omega
      have hj0 : ¬ ((j : Int) < 0) := by omega
      cases hr : x.val.ref with
      | false =>
        have HOut : Hid (∀ w1, Chg (fun _ => False) w w1 → w1.heap[w.heap.size]? = some (.cells #[.bool false, .int .i64 0] 36 (0, 0)) → Calls Try.prog 40 #[.pointer (some ⟨g.hb, 0, none⟩), .agg #[.bool false, .int .i64 x.val.num]] w1 fun e w2 => e = .returned (.agg #[.bool false, .int .i64 x.val.num]) ∧
            (w2.cell? ⟨w.heap.size, 0, none⟩ = some (.bool false) ∧ w2.cell? ⟨w.heap.size, 1, none⟩ = some (.int .i64 0) ∧ w2.frozen? ⟨w.heap.size, 0, none⟩ = false ∧ w2.frozen? ⟨w.heap.size, 1, none⟩ = false) ∧
            Hid (∀ a b, Post K (.returned (.tuple #[.agg #[.bool false, .int .i64 x.val.num], .bool true, .int .i64 0])) ((w2.setCell ⟨w.heap.size, 0, none⟩ a).setCell ⟨w.heap.size, 1, none⟩ b))) := by
          intro w1 hC1 hb1
          refine (out_num _ _ _).mono ?_
          rintro e w2 ⟨rfl, hC2⟩
          have hb := hC2.at hb1 (fun h => h)
          refine ⟨rfl, ⟨cellAt hb 0, cellAt hb 1, freeAt hb 0, freeAt hb 1⟩, fun a b => ?_⟩
          have hC3 := (hC1.trans hC2 (fun _ _ h => h)).store2 (Nat.le_refl _) a b
          exact HK.out _ _ ⟨⟨false, x.val.num⟩, true, 0, rfl, A, g, .num hT hj hp hr, hR.chg0 hC3, Step.chg0 g A hC3⟩
        rw [hr] at HAt
        clear hK HK hR hg hh hT hok hi hp hj hje hr hjl
        generalize x.val.num = xn at *
        generalize o.ents.length = len at *
        go_enter Try.func20, Try.ntmps20
        go_wp2_with fail
        refine (HEn.out _).mono ?_; rintro e w5 ⟨rfl, hC⟩
        have hC5 := ((Chg.refl (fun _ => False) w).alloc (.cells #[.bool false, .int .i64 0] 36)).trans hC (fun _ _ h => h)
        have hb := hC.at (heap_alloc_new w (.cells #[.bool false, .int .i64 0] 36)) (fun h => h)
        obtain ⟨b, c, d0, d1, d2⟩ := HAt.out w5 hC5
        have HO5 := Lib.hid fun Y => HOut.out (w5.alloc Y) (hC5.alloc Y) (heap_alloc_old hb Y)
        clear hC hC5 hb HAt HOut HEn
        go_wp2_with (go_at_call 40; refine (HO5.out _).mono ?_; rintro e w6 ⟨rfl, ⟨q0, q1, q2, q3⟩, hZ⟩)
        refine bodyPost_ret (v := .tuple #[.agg #[.bool false, .int .i64 xn], .bool true, .int .i64 0]) (by simp [results, Try.results20, go_sem, q0, q1]) rfl (hZ.out _ _)
      | true =>
        have HOut : Hid (∀ w1, Chg (fun _ => False) w w1 → w1.heap[w.heap.size]? = some (.cells #[.bool false, .int .i64 0] 36 (0, 0)) → (Calls Try.prog 28 #[.pointer (some ⟨g.hb, 0, none⟩), .int .i64 1] w1 fun e w2 => e = .returned (.bool true) ∧ w1 = w2) ∧ Calls Try.prog 40 #[.pointer (some ⟨g.hb, 0, none⟩), .agg #[.bool true, .int .i64 x.val.num]] w1 fun e w2 => ∃ q, e = .returned (.agg #[.bool true, .int .i64 q]) ∧
            (w2.cell? ⟨w.heap.size, 0, none⟩ = some (.bool false) ∧ w2.cell? ⟨w.heap.size, 1, none⟩ = some (.int .i64 0) ∧ w2.frozen? ⟨w.heap.size, 0, none⟩ = false ∧ w2.frozen? ⟨w.heap.size, 1, none⟩ = false) ∧
            Hid (∀ a b, Post K (.returned (.tuple #[.agg #[.bool true, .int .i64 q], .bool true, .int .i64 0])) ((w2.setCell ⟨w.heap.size, 0, none⟩ a).setCell ⟨w.heap.size, 1, none⟩ b))) := by
          intro w1 hC1 hb1
          refine ⟨spare_any (hR.chg0 hC1) 1 (by omega) (by omega), ?_⟩
          refine (out_ref (hR.chg0 hC1) hg.free hh x.val.num).mono ?_
          rintro e w2 ⟨q, rfl, hZ⟩
          obtain ⟨A', g', hG, hR', hS⟩ := hZ.out
          have hat := hS.at hb1 (hR.none_of_ge (Nat.le_refl _))
          have hb := hat.1
          refine ⟨q, rfl, ⟨cellAt hb 0, cellAt hb 1, freeAt hb 0, freeAt hb 1⟩, fun a b => ?_⟩
          have hS1 := (Step.chg0 g A hC1).trans hS (Int.le_refl _)
          refine HK.out _ _ ⟨⟨true, q⟩, true, 0, rfl, A', g', .ref hT hj hp hr hG, ?_, ?_⟩
          · refine hR'.frame (F := fun b => b = w.heap.size) (((Chg.refl (fun b => b = w.heap.size) w2).setCell (p := ⟨w.heap.size, 0, none⟩) (fun _ => rfl) _).setCell (p := ⟨w.heap.size, 1, none⟩) (fun _ => rfl) _) fun b hb => ?_
            rw [hb]; exact hat.2
          · refine { hS1 with chg := ?_ }
            refine (hS1.chg.setCell (p := ⟨w.heap.size, 0, none⟩) (fun h => ?_) _).setCell (p := ⟨w.heap.size, 1, none⟩) (fun h => ?_) _
            · exact absurd h (by simp)
            · exact absurd h (by simp)
        rw [hr] at HAt
        clear hK HK hR hg hh hT hok hi hp hj hje hr hjl
        generalize x.val.num = xn at *
        generalize o.ents.length = len at *
        go_enter Try.func20, Try.ntmps20
        go_wp2_with fail
        refine (HEn.out _).mono ?_; rintro e w5 ⟨rfl, hC⟩
        have hC5 := ((Chg.refl (fun _ => False) w).alloc (.cells #[.bool false, .int .i64 0] 36)).trans hC (fun _ _ h => h)
        have hb := hC.at (heap_alloc_new w (.cells #[.bool false, .int .i64 0] 36)) (fun h => h)
        obtain ⟨b, c, d0, d1, d2⟩ := HAt.out w5 hC5
        have HO5 := Lib.hid fun Y => HOut.out (w5.alloc Y) (hC5.alloc Y) (heap_alloc_old hb Y)
        clear hC hC5 hb HAt HOut HEn
        go_wp2_with (first | (go_at_call 28; refine (HO5.out _).1.mono ?_; rintro e w6 ⟨rfl, rfl⟩) | (go_at_call 40; refine (HO5.out _).2.mono ?_; rintro e w6 ⟨q, rfl, ⟨q0, q1, q2, q3⟩, hZ⟩))
        refine bodyPost_ret (v := .tuple #[.agg #[.bool true, .int .i64 q], .bool true, .int .i64 0]) (by simp [results, Try.results20, go_sem, q0, q1]) rfl (hZ.out _ _)

inductive CountSpec (A : St) (t : Int) : Int → Int → Prop
  | none : A.handles.lookup t = none → CountSpec A t 0 221
  | kind {name : Int} {o : Ob} : A.handles.lookup t = some name → A.objs.lookup name = some o → o.table = false → CountSpec A t 0 223
  | ok {name : Int} {o : Ob} : A.handles.lookup t = some name → A.objs.lookup name = some o → o.table = true → CountSpec A t o.ents.length 0

set_option maxRecDepth 100000 in
set_option maxHeartbeats 2000000 in
theorem count_any {k m : Nat} {w : World} {g : Gh} {A : St} (hR : Rep w g A) (hw : Wf k m A) (t : Int) :
    Calls Try.prog 18 #[.pointer (some ⟨g.hb, 0, none⟩), .int .i64 t] w fun e w' => ∃ c er, e = .returned (.tuple #[.int .i64 c, .int .i64 er]) ∧ CountSpec A t c er ∧ w = w' := by
  refine ret_k fun K hK => ?_
  cases hl : A.handles.lookup t with
  | none =>
    have HW := Lib.hid (weak_none hR hl)
    have HP := Lib.hid (hK _ _ ⟨0, 221, rfl, .none hl, rfl⟩)
    clear hK hR hw hl
    go_enter Try.func18, Try.ntmps18
    go_wp2_with (go_at_call 38; refine HW.out.mono ?_; rintro e w6 ⟨rfl, rfl⟩)
    go_ret2
    exact HP.out
  | some name =>
    obtain ⟨o, ho⟩ := Option.isSome_iff_exists.1 (hw.hob t name hl)
    have hW := weak_some hR hl ho
    cases ht : o.table with
    | false =>
      rw [ht] at hW
      have HW := Lib.hid hW
      have HP := Lib.hid (hK _ _ ⟨0, 223, rfl, .kind hl ho ht, rfl⟩)
      clear hK hR hw hl hW ho ht
      go_enter Try.func18, Try.ntmps18
      go_wp2_with (go_at_call 38; refine HW.out.mono ?_; rintro e w6 ⟨rfl, rfl⟩)
      go_ret2
      exact HP.out
    | true =>
      rw [ht] at hW
      have HW := Lib.hid hW
      have HP := Lib.hid (hK _ _ ⟨o.ents.length, 0, rfl, .ok hl ho ht, rfl⟩)
      obtain ⟨a, c, hv, _, _, _⟩ := (hR.obj name o (mem_of_lookup ho)).row.slice
      have c4 : w.cell? ⟨g.ob name, 4, none⟩ = some (.slice a o.ents.length c) := by rw [← hv]; exact (hR.obj name o (mem_of_lookup ho)).c 4
      clear hK hR hw hl hW ho ht hv
      generalize o.ents.length = len at *
      go_enter Try.func18, Try.ntmps18
      go_wp2_with (go_at_call 38; refine HW.out.mono ?_; rintro e w6 ⟨rfl, rfl⟩)
      go_ret2
      exact HP.out

end Go.Proofs.Ytelghmmcbgfjnaa

/-! slices.Delete at entries; Remove. -/
namespace Go.Proofs.Ytelghmmcbgfjnaa
open Go.RowKit

/-- append where there is room. -/
theorem run_append_here {P : Program} {w : World} (t ty e : TypeId) (i : TypeInfo) (sz : Nat) (ht : P.underlying t = some (.slice e)) (hi : P.info? e = some i) (hsize : i.size = sz) {b : Nat} {cur : Array Value} (hb : w.heap[b]? = some (.cells cur e (0, 0)))
    (n c : Nat) {x : Value} {m : Nat} {news : List Value} (hx : Src' w sz x m news) (h1 : ∀ u ∈ news, u.oneCell' = true) (hroom : n + m ≤ c) (hfit : n * sz + news.length ≤ cur.size) :
    ∃ w', (Builtin.append_ #[t, t] ty #[.slice (some ⟨b, 0, none⟩) n c, x]).run P w = .ok (.slice (some ⟨b, 0, none⟩) (n + m) c) w' ∧ w'.heap[b]? = some (.cells (cur.toList.take (n * sz) ++ news ++ cur.toList.drop (n * sz + news.length)).toArray e (0, 0)) ∧ Chg (fun k => k = b) w w' := by
  subst hsize
  have hst := run_storeCells_at P b (n * i.size) e news 0 cur w hb (by simpa using hfit) h1
  simp only [Nat.add_zero] at hst
  have hle : n ≤ c := by omega
  obtain ⟨hl, ⟨a, c', rfl, hnews⟩ | ⟨rfl, a, c', rfl⟩⟩ := hx
  · have hf := run_firstCells_some (P := P) w i.size m a m c' news hl hnews
    refine ⟨_, ?_, setRow_heap w b cur _ e (0, 0) hb, chg_setRow (Chg.refl (fun k => k = b) w) (fun _ => rfl) _⟩
    rcases Nat.eq_zero_or_pos m with rfl | hm
    · have hn : news = [] := List.eq_nil_of_length_eq_zero (by simpa using hl)
      subst hn
      simp [Builtin.append_, run_underlying ht, sizeOf, typeInfo, hi, Builtin.lenOf, hf, hle, Addr.add_lit] at hst ⊢
      rw [hst]; rfl
    · simp [Builtin.append_, run_underlying ht, sizeOf, typeInfo, hi, Builtin.lenOf, hf, hroom, Addr.add_lit, hst]
  · have hn : news = [] := List.eq_nil_of_length_eq_zero (by simpa using hl)
    subst hn
    have hf : (Builtin.firstCells i.size 0 (.slice a 0 c')).run P w = .ok #[] w := by
      cases a
      · simp [Builtin.firstCells]
      · simp [Builtin.firstCells, loadCells, loadCellsFrom]
    refine ⟨_, ?_, setRow_heap w b cur _ e (0, 0) hb, chg_setRow (Chg.refl (fun k => k = b) w) (fun _ => rfl) _⟩
    simp [Builtin.append_, run_underlying ht, sizeOf, typeInfo, hi, Builtin.lenOf, hf, hle, Addr.add_lit] at hst ⊢
    rw [hst]; rfl

theorem enCells_one (l : List En) : ∀ u ∈ enCells l, u.oneCell' = true := by
  intro u hu
  simp only [enCells, List.mem_flatMap] at hu
  obtain ⟨x, _, hx⟩ := hu
  simp only [En.cells, List.mem_cons, List.not_mem_nil, or_false] at hx
  rcases hx with rfl | rfl | rfl <;> rfl

theorem enCells_eraseIdx (es : List En) (j : Nat) (hj : j < es.length) : enCells (es.eraseIdx j) = (enCells es).take (j * 3) ++ (enCells es).drop ((j + 1) * 3) := by
  rw [List.eraseIdx_eq_take_drop_succ, enCells_append, ← enCells_take]
  congr 1
  have h1 := enCells_take es (j + 1)
  have h2 := List.take_append_drop (j + 1) es
  have h3 : enCells es = enCells (es.take (j + 1)) ++ enCells (es.drop (j + 1)) := by rw [← enCells_append, h2]
  rw [h3, List.drop_left' (by rw [enCells_length, List.length_take]; omega)]

/-- What append and clear make of the row. -/
theorem delete_mem {w : World} {es : List En} {b c j m : Nat} (hrow : Row w 84 3 (.slice (some ⟨b, 0, none⟩) es.length c) es.length (enCells es)) (hbk : rowBlk (.slice (some ⟨b, 0, none⟩) es.length c) = some b) (hm : es.length = j + 1 + m) {x : Value} (hx : Src' w 3 x m ((enCells es).drop ((j + 1) * 3))) :
    ∃ w1, (Builtin.append_ #[75, 75] 75 #[.slice (some ⟨b, 0, none⟩) j c, x]).run Try.prog w = .ok (.slice (some ⟨b, 0, none⟩) (j + m) c) w1 ∧
      ∃ w2, (∀ ty, (Builtin.clear_ #[75] ty #[.slice (some ⟨b, (j + m) * 3, none⟩) 1 (c - (j + m))]).run Try.prog w1 = .ok (.tuple #[]) w2) ∧
        Row w2 84 3 (.slice (some ⟨b, 0, none⟩) (j + m) c) (es.eraseIdx j).length (enCells (es.eraseIdx j)) ∧ Chg (fun k => k = b) w w2 := by
  obtain ⟨i0, hi, hz0, hz1, hz2⟩ := info_parts iEntry
  obtain ⟨h1, h2, ⟨h3, _⟩ | ⟨g', cap, cur, h3, h4, h5, h6, h7, h8⟩⟩ := hrow
  · omega
  simp only [Value.slice.injEq, Option.some.injEq, Addr.mk.injEq, and_true] at h3
  obtain ⟨rfl, -, rfl⟩ := h3
  have hel : (enCells es).length = es.length * 3 := enCells_length es
  have hnl : ((enCells es).drop ((j + 1) * 3)).length = m * 3 := by rw [List.length_drop, hel]; omega
  obtain ⟨w1, happ, hb1, hC1⟩ := run_append_here (P := Try.prog) 75 75 84 i0 3 uEnts hi hz1 h4 j (cap + 1) hx (fun u hu => enCells_one es u (List.mem_of_mem_drop hu)) (by omega) (by rw [hnl]; omega)
  have hC1s : (cur.toList.take (j * 3) ++ (enCells es).drop ((j + 1) * 3) ++ cur.toList.drop (j * 3 + ((enCells es).drop ((j + 1) * 3)).length)).toArray.size = cur.size := by
    simp only [List.size_toArray, List.length_append, List.length_take, List.length_drop, Array.length_toList, hnl]
    omega
  have htk : cur.toList.take (j * 3) = (enCells es).take (j * 3) := by
    have := congrArg (List.take (j * 3)) h8
    rw [List.take_take, Nat.min_eq_left (by omega)] at this
    exact this
  have hrow1 : Row w1 84 3 (.slice (some ⟨b, 0, none⟩) (j + m) (cap + 1)) (j + m) (enCells (es.eraseIdx j)) := by
    refine ⟨by rw [enCells_length, List.length_eraseIdx_of_lt (by omega)]; omega, by omega, .inr ⟨b, cap, _, rfl, hb1, by omega, h6, by rw [hC1s]; exact h7, ?_⟩⟩
    simp only []
    rw [htk, enCells_eraseIdx es j (by omega), List.take_left' (by rw [List.length_append, List.length_take, hnl, hel]; omega)]
  have hcell : ∀ q, q < 1 * 3 → (w1.cell? ⟨b, (j + m) * 3 + q, none⟩).isSome = true := fun q hq => by
    rw [cellAt hb1]
    have : (j + m) * 3 + q < (cur.toList.take (j * 3) ++ (enCells es).drop ((j + 1) * 3) ++ cur.toList.drop (j * 3 + ((enCells es).drop ((j + 1) * 3)).length)).toArray.size := by rw [hC1s, h7]; omega
    rw [Array.getElem?_eq_getElem this]; rfl
  have hclear := fun ty => run_clear_row (P := Try.prog) (w := w1) (t := 75) ty uEnts hi hz0 (sz := 3) (by decide) (by intro u hu; simp [Value.cells] at hu; rcases hu with rfl | rfl | rfl <;> rfl) b ((j + m) * 3) 1 (cap + 1 - (j + m)) hcell (fun q => freeAt hb1 _)
  refine ⟨w1, happ, _, hclear, ?_, hC1.trans (chg_setCells b _ _ _) (fun _ _ h => h)⟩
  rw [List.length_eraseIdx_of_lt (by omega), show es.length - 1 = j + m from by omega]
  exact hrow1.setCells_keep (g := b) rfl _ _ _ (Nat.le_refl _)

set_option maxRecDepth 100000 in
set_option maxHeartbeats 1000000 in
theorem delete_any {w : World} {v : Value} {es : List En} {j m : Nat} (hrow : Row w 84 3 v es.length (enCells es)) (hm : es.length = j + 1 + m) (hb : es.length ≤ 1000000000) :
    Calls Try.prog 39 #[v, .int .i64 j, .int .i64 ((j : Int) + 1)] w fun e w' => ∃ v', e = .returned v' ∧
      Row w' 84 3 v' (es.eraseIdx j).length (enCells (es.eraseIdx j)) ∧ (∀ b, rowBlk v' = some b → rowBlk v = some b) ∧ Chg (fun b => rowBlk v = some b) w w' := by
  obtain ⟨a, c, rfl, hle, hcm, hcase⟩ := hrow.slice
  refine ret_k fun K hK => ?_
  have HK := Lib.hid hK
  obtain ⟨b, rfl, hbk⟩ : ∃ b, a = some ⟨b, 0, none⟩ ∧ rowBlk (.slice a es.length c) = some b := by
    rcases hcase with h | h
    · omega
    · exact h
  have hrow1 : Row (w.drewN 1) 84 3 (.slice (some ⟨b, 0, none⟩) es.length c) es.length (enCells es) := hrow.same fun _ _ => rfl
  have HEnd : Hid (∀ w2, Row w2 84 3 (.slice (some ⟨b, 0, none⟩) (j + m) c) (es.eraseIdx j).length (enCells (es.eraseIdx j)) ∧ Chg (fun k => k = b) (w.drewN 1) w2 → Post K (.returned (.slice (some ⟨b, 0, none⟩) (j + m) c)) w2) := by
    rintro w2 ⟨h1, h2⟩
    refine HK.out _ _ ⟨_, rfl, h1, fun x hx => ?_, ((Chg.refl (fun x => rowBlk (.slice (some ⟨b, 0, none⟩) es.length c) = some x) w).drewN 1).trans (h2.mono (F' := fun x => rowBlk (.slice (some ⟨b, 0, none⟩) es.length c) = some x) fun k _ hk => by rw [hk]; exact hbk) (fun _ _ h => h)⟩
    cases c with
    | zero => simp [rowBlk] at hx
    | succ c => simpa [rowBlk] using hx
  have hdm := fun x hx => delete_mem (x := x) hrow1 hbk hm hx
  have hdr : (enCells es).drop ((j + 1) * 3) = ((enCells es).drop ((j + 1) * 3)).take (m * 3) := by
    rw [List.take_of_length_le]
    rw [List.length_drop, enCells_length]; omega
  rw [hm] at hb hle
  have s1 : ((j + 1 + m : Nat) : Int) = (j : Int) + 1 + (m : Int) := by omega
  have s2 : (j : Int) + 1 + (m : Int) ≤ (c : Int) := by omega
  have s3 : (j : Int) ≤ (c : Int) := by omega
  have s4 : j ≤ c := by omega
  have s5 : (0 : Int) ≤ (j : Int) + 1 := by omega
  have s6 : (j : Int) + 1 ≤ (j : Int) + 1 + (m : Int) := by omega
  by_cases hc1 : c = j + 1
  · obtain rfl : m = 0 := by omega
    obtain ⟨w1, happ, w2, hclear, hrow2, hC2⟩ := hdm (.slice (some ⟨b, 0, none⟩) 0 0) (by
      rw [hdr]
      refine ⟨by simp, .inr ⟨rfl, _, _, rfl⟩⟩)
    have HF := Lib.hid (HEnd.out w2 ⟨hrow2, hC2⟩)
    rw [hm]
    clear hK hrow hcase hm hbk HEnd hdm hrow1 hrow2 hC2 hdr HK
    subst hc1
    have s7 : (j : Int) ≤ (j : Int) + 1 := by omega
    have e1 : j + 1 - j = 1 := by omega
    simp only [Nat.add_zero] at happ hclear HF
    rw [e1] at hclear
    have hcl : ∀ ty, (Builtin.clear_ #[75] ty #[.slice (some ⟨b, j * 3, none⟩) (j + 1 - j) (j + 1 - j)]).run Try.prog w1 = .ok (.tuple #[]) w2 := fun ty => by rw [e1]; exact hclear ty
    clear e1
    go_enter Try.func39, Try.ntmps39
    go_upto_region 5 with fail
    go_region_law (refine step_val rfl (exec_append rfl happ) ?_)
    all_goals
      go_wp2
      go_ret
      exact HF.out
  · obtain ⟨w1, happ, w2, hclear, hrow2, hC2⟩ := hdm (.slice (some ⟨b, (j + 1) * 3, none⟩) m (c - (j + 1))) (by
      rw [hdr]
      have := hrow1
      exact this.part (j + 1) m (c - (j + 1)) (by omega))
    have HF := Lib.hid (HEnd.out w2 ⟨hrow2, hC2⟩)
    rw [hm]
    clear hK hrow hcase hm hbk HEnd hdm hrow1 hrow2 hC2 hdr HK
    have e1 : j + 1 + m - (j + m) = 1 := by omega
    have hcl : ∀ ty, (Builtin.clear_ #[75] ty #[.slice (some ⟨b, (j + m) * 3, none⟩) (j + 1 + m - (j + m)) (c - (j + m))]).run Try.prog w1 = .ok (.tuple #[]) w2 := fun ty => by rw [e1]; exact hclear ty
    clear e1
    go_enter Try.func39, Try.ntmps39
    go_upto_region 5 with fail
    go_region_law (refine step_val rfl (exec_append rfl happ) ?_)
    all_goals
      go_wp2
      go_ret
      exact HF.out

end Go.Proofs.Ytelghmmcbgfjnaa

/-! Remove. -/
namespace Go.Proofs.Ytelghmmcbgfjnaa
open Go.RowKit

/-- The state in which the entries of a table are turned, and it is noted. -/
def St.setTab (A : St) (name : Int) (o : Ob) (l : List En) : St := (A.setOb name { o with ents := l }).noted name

inductive RemoveSpec (A : St) (t key : Int) : Bool → Int → St → Prop
  | err {er : Int} : EntErr A t key er → RemoveSpec A t key false er A
  | no {name kn : Int} {o : Ob} : TabAt A t key name kn o → (∀ x ∈ o.ents, KeyIs kn x = false) → RemoveSpec A t key false 0 A
  | ok {name kn : Int} {o : Ob} {j : Nat} {x : En} : TabAt A t key name kn o → o.ents[j]? = some x → KeyIs kn x = true → RemoveSpec A t key true 0 (A.setTab name o (o.ents.eraseIdx j))

/-- The row of a table's entries turned: the store and the note. -/
theorem setTab_any {k m : Nat} {w w1 : World} {g : Gh} {A : St} (hR : Rep w g A) (hw : Wf k m A) {name : Int} {o : Ob} (hm : A.objs.lookup name = some o) {v1 : Value} {l : List En} (hll : l.length ≤ 1000)
    (hC : Chg (fun b => rowBlk (g.vE name) = some b) w w1) (hrow : Row w1 84 3 v1 l.length (enCells l)) (hloc : ∀ b, rowBlk v1 = some b → rowBlk (g.vE name) = some b ∨ w.heap.size ≤ b) :
    (∃ v, w1.cell? ⟨g.ob name, 4, none⟩ = some v) ∧ w1.frozen? ⟨g.ob name, 4, none⟩ = false ∧
    ∀ k2, Calls Try.prog 34 #[.pointer (some ⟨g.hb, 0, none⟩), .int .i64 name] ((w1.setCell ⟨g.ob name, 4, none⟩ v1).drewN k2) fun e w2 => e = .returned (.tuple #[]) ∧ ∃ g', Rep w2 g' (A.setTab name o l) ∧ Step w g A w2 g' := by
  have hob := hR.obj name o (mem_of_lookup hm)
  have hne : rowBlk (g.vE name) ≠ some (g.ob name) := fun h => by have := hob.rown _ h; rw [hob.own] at this; cases this
  have hb1 : w1.heap[g.ob name]? = some (.cells (obCells g name o) 77 (0, 0)) := hC.at hob.blk hne
  refine ⟨⟨_, by rw [cellAt hb1]; rfl⟩, freeAt hb1 4, fun k2 => ?_⟩
  have hne2 : ∀ b, rowBlk v1 = some b → b ≠ g.ob name := fun b hb e => by
    rcases hloc b hb with h | h
    · exact hne (by rw [← e]; exact h)
    · have := lt_of_block hob.blk; omega
  have hset := hR.setEnts (w' := w1.setCell ⟨g.ob name, 4, none⟩ v1) (Step.refl w g A) hm (v1 := v1) (l := l) ((hC.mono fun _ _ h => .inr h).setCell (fun _ => .inl rfl) _) (heap_setCell hb1 4 v1) (hrow.same fun b hb => heap_setCell_ne (hne2 b hb) _) (fun b hb => by
    rcases hloc b hb with h | h
    · exact .inl (hob.rown b h)
    · exact .inr ⟨hR.none_of_ge h, h⟩)
  have hlk : (A.setOb name { o with ents := l }).objs.lookup name = some { o with ents := l } := lookup_setOb_self A name _ o hm
  have hin := hw.fit.inn name o hm
  have hmb : (A.mem o.old).length ≤ 100000000000 := by
    cases o.old
    · exact hw.fit.memN
    · exact hw.fit.memT
  have hsz := hw.fit.size name o hm
  have hnt := note_any (hset.1.drewN k2) hlk hin (show (A.mem o.old).length ≤ _ by omega) (show l.length ≤ _ by omega) (show o.size + 2 * l.length ≤ _ by omega)
  have hgb : (g.setE name v1).hb = g.hb := rfl
  rw [hgb] at hnt
  refine hnt.mono ?_
  rintro e w2 ⟨rfl, hR2, hS2⟩
  exact ⟨rfl, _, hR2, (hset.2.trans (Step.drewN _ _ A k2) (Int.le_refl _)).trans hS2 (Int.le_refl _)⟩

set_option maxRecDepth 100000 in
set_option maxHeartbeats 2000000 in
theorem remove_any {k m : Nat} {w : World} {g : Gh} {A : St} (hR : Rep w g A) (hw : Wf k m A) (t key : Int) :
    Calls Try.prog 19 #[.pointer (some ⟨g.hb, 0, none⟩), .int .i64 t, .int .i64 key] w fun e w' => ∃ b er, e = .returned (.tuple #[.bool b, .int .i64 er]) ∧ Hid (∃ A' g', RemoveSpec A t key b er A' ∧ Rep w' g' A' ∧ Step w g A w' g') := by
  refine ret_k fun K hK => ?_
  have HK := Lib.hid hK
  rcases EntErr.cases_of A t key hw.hob with ⟨er, hE, her⟩ | ⟨name, kn, o, hT⟩
  · have HEn := Lib.hid (entry_err hR hw.hob hE)
    have HP : Hid (∀ w', Chg (fun _ => False) w w' → Post K (.returned (.tuple #[.bool false, .int .i64 er])) w') := fun w' h => HK.out _ _ ⟨false, er, rfl, A, g, .err hE, hR.chg0 h, Step.chg0 g A h⟩
    clear hK HK hR hw hE
    rcases her with rfl | rfl
    all_goals
      go_enter Try.func19, Try.ntmps19
      go_wp2_with fail
      refine HEn.out.mono ?_; rintro e w5 ⟨rfl, hC⟩
      have HC := Lib.hid hC
      clear hC HEn
      go_wp2
      go_ret2
      exact HP.out _ HC.out
  · obtain ⟨ok, hok⟩ := Option.isSome_iff_exists.1 (hw.hob key kn hT.h2)
    have hents := hw.fit.ents name o hT.h3
    have HEn := Lib.hid (entry_ok hR hT.h1 hT.h2 hT.h3 hT.h4 hok (by omega))
    rcases idxOf_cases (KeyIs kn) o.ents with ⟨hi, hno⟩ | ⟨j, x, hj, hp, hi⟩
    · have HP : Hid (∀ w', Chg (fun _ => False) w w' → Post K (.returned (.tuple #[.bool false, .int .i64 0])) w') := fun w' h => HK.out _ _ ⟨false, 0, rfl, A, g, .no hT hno, hR.chg0 h, Step.chg0 g A h⟩
      rw [hi] at HEn
      clear hK HK hR hw hno hT hok hents hi
      go_enter Try.func19, Try.ntmps19
      go_wp2_with fail
      refine HEn.out.mono ?_; rintro e w5 ⟨rfl, hC⟩
      have HC := Lib.hid hC
      clear hC HEn
      go_wp2
      go_ret2
      exact HP.out _ HC.out
    · obtain ⟨hjl, hje⟩ := List.getElem?_eq_some_iff.1 hj
      rw [hi] at HEn
      have HDel : Hid (∀ w5, Chg (fun _ => False) w w5 → ∃ a c, w5.cell? ⟨g.ob name, 4, none⟩ = some (.slice a o.ents.length c) ∧ Calls Try.prog 39 #[.slice a o.ents.length c, .int .i64 j, .int .i64 ((j : Int) + 1)] w5 fun e w6 => ∃ a' n' c', e = .returned (.slice a' n' c') ∧
          ((∃ v, w6.cell? ⟨g.ob name, 4, none⟩ = some v) ∧ w6.frozen? ⟨g.ob name, 4, none⟩ = false) ∧
          Hid (Calls Try.prog 34 #[.pointer (some ⟨g.hb, 0, none⟩), .int .i64 name] (w6.setCell ⟨g.ob name, 4, none⟩ (.slice a' n' c')) fun e w7 => e = .returned (.tuple #[]) ∧ Hid (Post K (.returned (.tuple #[.bool true, .int .i64 0])) w7))) := by
        intro w5 hC
        have hR5 := hR.chg0 hC
        have hob := hR5.obj name o (mem_of_lookup hT.h3)
        obtain ⟨a, c, hv, _, _, _⟩ := hob.row.slice
        have hrow := hob.row
        rw [hv] at hrow
        refine ⟨a, c, by rw [← hv]; exact hob.c 4, ?_⟩
        refine (delete_any (m := o.ents.length - (j + 1)) hrow (by omega) (by omega)).mono ?_
        rintro e w6 ⟨v', rfl, hr6, hloc6, hC6⟩
        rw [← hv] at hC6 hloc6
        obtain ⟨h1, h2, h3⟩ := setTab_any hR5 hw hT.h3 (by rw [List.length_eraseIdx_of_lt hjl]; omega) hC6 hr6 (fun b hb => .inl (hloc6 b hb))
        obtain ⟨a', c', rfl, _, _, _⟩ := hr6.slice
        refine ⟨a', _, c', rfl, ⟨h1, h2⟩, ?_⟩
        refine (h3 0).mono ?_
        rintro e w7 ⟨rfl, g', hR7, hS7⟩
        exact ⟨rfl, HK.out _ _ ⟨true, 0, rfl, _, g', .ok hT hj hp, hR7, (Step.chg0 g A hC).trans hS7 (Int.le_refl _)⟩⟩
      have hj0 : ¬ ((j : Int) < 0) := by omega
      have hjb : j ≤ 1000 := by omega
      clear hK HK hR hw hT hok hi hp hj hje hjl
      generalize o.ents.length = len at *
      go_enter Try.func19, Try.ntmps19
      go_wp2_with fail
      refine HEn.out.mono ?_; rintro e w5 ⟨rfl, hC⟩
      obtain ⟨a, c, d4, hD⟩ := HDel.out w5 hC
      have HD := Lib.hid hD
      clear hC HEn hD HDel
      go_wp2_with fail
      refine HD.out.mono ?_; rintro e w6 ⟨a', n', c', rfl, ⟨⟨v, d5⟩, d6⟩, hN⟩
      clear HD
      go_wp2_with fail
      refine hN.out.mono ?_; rintro e w7 ⟨rfl, hZ⟩
      go_wp2
      go_ret2
      exact hZ.out

end Go.Proofs.Ytelghmmcbgfjnaa

/-! Put. -/
namespace Go.Proofs.Ytelghmmcbgfjnaa
open Go.RowKit

inductive PutSpec (A : St) (t key : Int) (c : Wd) : Int → St → Prop
  | none : A.handles.lookup t = none → PutSpec A t key c 221 A
  | nokey {name : Int} : A.handles.lookup t = some name → A.handles.lookup key = none → PutSpec A t key c 221 A
  | bad {name kn : Int} : A.handles.lookup t = some name → A.handles.lookup key = some kn → A.okC c = false → PutSpec A t key c 221 A
  | kind {name kn : Int} {o : Ob} : A.handles.lookup t = some name → A.handles.lookup key = some kn → A.okC c = true → A.objs.lookup name = some o → o.table = false → PutSpec A t key c 223 A
  | turn {name kn : Int} {o : Ob} {j : Nat} {x : En} : A.okC c = true → TabAt A t key name kn o → o.ents[j]? = some x → KeyIs kn x = true → PutSpec A t key c 0 (A.setTab name o (o.ents.set j ⟨x.key, A.wordC c⟩))
  | full {name kn : Int} {o : Ob} {Ar : St} : A.okC c = true → TabAt A t key name kn o → (∀ x ∈ o.ents, KeyIs kn x = false) → RoomR A 3 Ar false → PutSpec A t key c 220 Ar
  | add {name kn : Int} {o or' : Ob} {Ar : St} : A.okC c = true → TabAt A t key name kn o → (∀ x ∈ o.ents, KeyIs kn x = false) → RoomR A 3 Ar true → Ar.objs.lookup name = some or' → PutSpec A t key c 0 (Ar.setTab name or' (or'.ents ++ [⟨kn, A.wordC c⟩]))

/-- One entry more behind a slice of entries. -/
theorem appE {w : World} {v : Value} {xs : List En} (hrow : Row w 84 3 v xs.length (enCells xs)) (x : En) (hT : xs.length < 1000000000000) :
    ∃ a cap w', (Builtin.append_ #[75, 75] 75 #[v, .slice (some ⟨w.heap.size, 0, none⟩) 1 1]).run Try.prog (w.alloc (.cells #[.int .i64 x.key, .bool x.val.ref, .int .i64 x.val.num] 84)) = .ok (.slice a (xs.length + 1) cap) w' ∧
      Row w' 84 3 (.slice a (xs.length + 1) cap) (xs ++ [x]).length (enCells (xs ++ [x])) ∧ Chg (fun b => rowBlk v = some b) w w' ∧ (∀ b, rowBlk (.slice a (xs.length + 1) cap) = some b → rowBlk v = some b ∨ w.heap.size ≤ b) := by
  obtain ⟨i0, hi, hz0, hz1, hz2⟩ := info_parts iEntry
  have h1 : Row (w.alloc (.cells #[.int .i64 x.key, .bool x.val.ref, .int .i64 x.val.num] 84)) 84 3 v xs.length (enCells xs) := hrow.same fun b hb => by rw [heap_alloc, if_neg (by have := hrow.lt hb; omega)]
  have hsrc : Src' (w.alloc (.cells #[.int .i64 x.key, .bool x.val.ref, .int .i64 x.val.num] 84)) 3 (.slice (some ⟨w.heap.size, 0, none⟩) 1 1) 1 [.int .i64 x.key, .bool x.val.ref, .int .i64 x.val.num] := src_block (heap_alloc_new _ _) (by simp) (by simp)
  obtain ⟨v3, w3, happ, hrow3, hC3, hloc3⟩ := run_append_row (P := Try.prog) 75 75 84 i0 _ 3 24 uEnts hi hz0 hz1 hz2 rfl (by decide) h1 hsrc (by simp [Value.oneCell']) (by unfold maxLen; omega) (by omega)
  obtain ⟨a3, cap3, rfl, -⟩ := hrow3.slice
  have hCa : Chg (fun b => rowBlk v = some b) w (w.alloc (.cells #[.int .i64 x.key, .bool x.val.ref, .int .i64 x.val.num] 84)) := (Chg.refl _ _).alloc _
  refine ⟨a3, cap3, w3, happ, ?_, hCa.trans hC3 (fun _ _ h => h), ?_⟩
  · have e : enCells (xs ++ [x]) = enCells xs ++ [.int .i64 x.key, .bool x.val.ref, .int .i64 x.val.num] := by simp [enCells, En.cells]
    rw [e, List.length_append, List.length_singleton]
    exact hrow3
  · intro b hb
    rcases hloc3 b hb with h2 | h2
    · exact .inl h2
    · simp at h2; exact .inr (by omega)

theorem RoomR.look {k m : Nat} {A A' : St} {n : Int} {r : Bool} (h : RoomR A n A' r) (hw : Wf k m A) {t name : Int} {o : Ob} (hl : A.handles.lookup t = some name) (ho : A.objs.lookup name = some o) : ∃ o', A'.objs.lookup name = some o' ∧ o'.table = o.table ∧ o'.ents.length ≤ o.ents.length := by
  rcases h with ⟨rfl, _⟩ | ⟨rfl, _⟩
  · exact ⟨o, ho, rfl, Nat.le_refl _⟩
  · have hlive : A.live name = true := live_iff.2 (.root (List.mem_append_left _ (mem_roots.2 (.inr ⟨_, look_mem hl, rfl⟩))))
    have h1 := swept_of hlive ho
    obtain ⟨p, h2⟩ := settled_of hw.swept.fit h1
    exact ⟨_, h2, rfl, List.length_filter_le _ _⟩

/-- The entries turned where they lie, and the note. -/
theorem setTabHere_any {k m : Nat} {w w1 : World} {g : Gh} {A : St} (hR : Rep w g A) (hw : Wf k m A) {name : Int} {o : Ob} (hm : A.objs.lookup name = some o) {l : List En} (hll : l.length ≤ 1000)
    (hC : Chg (fun b => rowBlk (g.vE name) = some b) w w1) (hrow : Row w1 84 3 (g.vE name) l.length (enCells l)) (k2 : Nat) :
    Calls Try.prog 34 #[.pointer (some ⟨g.hb, 0, none⟩), .int .i64 name] (w1.drewN k2) fun e w2 => e = .returned (.tuple #[]) ∧ ∃ g', Rep w2 g' (A.setTab name o l) ∧ Step w g A w2 g' := by
  have hob := hR.obj name o (mem_of_lookup hm)
  have hne : rowBlk (g.vE name) ≠ some (g.ob name) := fun h => by have := hob.rown _ h; rw [hob.own] at this; cases this
  have hb1 : w1.heap[g.ob name]? = some (.cells (obCells g name o) 77 (0, 0)) := hC.at hob.blk hne
  have hset := hR.setEnts (w' := w1) (Step.refl w g A) hm (v1 := g.vE name) (l := l) (hC.mono fun _ _ h => .inr h) (by rw [hb1]; rfl) hrow (fun b hb => .inl (hob.rown b hb))
  have hlk : (A.setOb name { o with ents := l }).objs.lookup name = some { o with ents := l } := lookup_setOb_self A name _ o hm
  have hin := hw.fit.inn name o hm
  have hmb : (A.mem o.old).length ≤ 100000000000 := by
    cases o.old
    · exact hw.fit.memN
    · exact hw.fit.memT
  have hsz := hw.fit.size name o hm
  have hnt := note_any (hset.1.drewN k2) hlk hin (show (A.mem o.old).length ≤ _ by omega) (show l.length ≤ _ by omega) (show o.size + 2 * l.length ≤ _ by omega)
  have hgb : (g.setE name (g.vE name)).hb = g.hb := rfl
  rw [hgb] at hnt
  refine hnt.mono ?_
  rintro e w2 ⟨rfl, hR2, hS2⟩
  exact ⟨rfl, _, hR2, (hset.2.trans (Step.drewN _ _ A k2) (Int.le_refl _)).trans hS2 (Int.le_refl _)⟩

set_option maxRecDepth 100000 in
set_option maxHeartbeats 4000000 in
theorem put_any {k m : Nat} {w : World} {g : Gh} {A : St} (hR : Rep w g A) (hg : Good k m A) (hfull : A.full ≤ 60000) (hfew : ∀ name o, A.objs.lookup name = some o → o.ents.length < 200) (t key : Int) (c : Wd) :
    Calls Try.prog 14 #[.pointer (some ⟨g.hb, 0, none⟩), .int .i64 t, .int .i64 key, c.agg] w fun e w' => ∃ er, e = .returned (.int .i64 er) ∧ Hid (∃ A' g', PutSpec A t key c er A' ∧ Rep w' g' A' ∧ Step w g A w' g') := by
  refine ret_k fun K hK => ?_
  have HK := Lib.hid hK
  have hob := hg.wf.hob
  have HOf : Hid (∀ (h : Int) (w' : World), Chg (fun _ => False) w w' → (A.handles.lookup h = none → Calls Try.prog 31 #[.pointer (some ⟨g.hb, 0, none⟩), .int .i64 h] w' fun e w'' => e = .returned (.tuple #[.pointer none, .int .i64 0, .int .i64 221]) ∧ w' = w'') ∧
      (∀ name, A.handles.lookup h = some name → ∃ p, Calls Try.prog 31 #[.pointer (some ⟨g.hb, 0, none⟩), .int .i64 h] w' fun e w'' => e = .returned (.tuple #[p, .int .i64 name, .int .i64 0]) ∧ w' = w'')) := by
    intro h w' hC
    refine ⟨fun hl => of_none (hR.chg0 hC) hl, fun name hl => ?_⟩
    obtain ⟨o, ho⟩ := Option.isSome_iff_exists.1 (hob h name hl)
    exact ⟨_, of_some (hR.chg0 hC) hl ho⟩
  have HE1 : Hid (A.handles.lookup t = none → ∀ w', Chg (fun _ => False) w w' → Post K (.returned (.int .i64 221)) w') := fun h w' hC => HK.out _ _ ⟨221, rfl, A, g, .none h, hR.chg0 hC, Step.chg0 g A hC⟩
  have HE2 : Hid (∀ name, A.handles.lookup t = some name → A.handles.lookup key = none → ∀ w', Chg (fun _ => False) w w' → Post K (.returned (.int .i64 221)) w') := fun name h h2 w' hC => HK.out _ _ ⟨221, rfl, A, g, .nokey h h2, hR.chg0 hC, Step.chg0 g A hC⟩
  -- behind the loop
  obtain ⟨cr, cn⟩ := c
  obtain ⟨⟨⟨xr, xn⟩, xe⟩, hxx⟩ : ∃ xx, xx = A.inW ⟨cr, cn⟩ := ⟨_, rfl⟩
  have hwd : A.wordC ⟨cr, cn⟩ = ⟨xr, xn⟩ := by unfold St.wordC; rw [← hxx]
  have HIn : Hid (∀ w', Chg (fun _ => False) w w' → Calls Try.prog 27 #[.pointer (some ⟨g.hb, 0, none⟩), .agg #[.bool cr, .int .i64 cn]] w' fun e w'' => e = .returned (.tuple #[.agg #[.bool xr, .int .i64 xn], .int .i64 xe]) ∧ Chg (fun _ => False) w w'') := by
    intro w' hC
    refine (in_any (hR.chg0 hC) ⟨cr, cn⟩ hob).mono ?_
    rintro e w'' ⟨rfl, hC'⟩
    rw [← hxx]
    exact ⟨rfl, hC.trans hC' (fun _ _ h => h)⟩
  have HBad : Hid (∀ name kn, A.handles.lookup t = some name → A.handles.lookup key = some kn → A.okC ⟨cr, cn⟩ = false → ∀ w', Chg (fun _ => False) w w' → Post K (.returned (.int .i64 221)) w') := fun name kn h h2 h3 w' hC => HK.out _ _ ⟨221, rfl, A, g, .bad h h2 h3, hR.chg0 hC, Step.chg0 g A hC⟩
  have hxe1 : A.okC ⟨cr, cn⟩ = true → xe = 0 := fun h => by have := inW_ok h; rw [← hxx] at this; exact this
  have hxe0 : A.okC ⟨cr, cn⟩ = false → xe = 221 := fun h => by have := inW_bad h; rw [← hxx] at this; exact this
  have HKind : Hid (∀ name kn o, A.handles.lookup t = some name → A.handles.lookup key = some kn → A.okC ⟨cr, cn⟩ = true → A.objs.lookup name = some o → o.table = false → ∀ w', Chg (fun _ => False) w w' →
      Calls Try.prog 33 #[.pointer (some ⟨g.hb, 0, none⟩), .int .i64 t, .int .i64 key] w' fun e w'' => e = .returned (.tuple #[.pointer none, .int .i64 0, .int .i64 0, .int .i64 0, .int .i64 223]) ∧ Hid (Post K (.returned (.int .i64 223)) w'')) := by
    intro name kn o h1 h2 h3 h4 h5 w' hC
    refine (entry_err (hR.chg0 hC) hob (.kind h1 h2 h4 h5)).mono ?_
    rintro e w'' ⟨rfl, hC'⟩
    have hC2 := hC.trans hC' (fun _ _ h => h)
    exact ⟨rfl, HK.out _ _ ⟨223, rfl, A, g, .kind h1 h2 h3 h4 h5, hR.chg0 hC2, Step.chg0 g A hC2⟩⟩
  have HTurn : Hid (∀ name kn o (j : Nat) x, A.okC ⟨cr, cn⟩ = true → TabAt A t key name kn o → o.ents[j]? = some x → KeyIs kn x = true → idxOf (KeyIs kn) o.ents = j → ∀ w', Chg (fun _ => False) w w' → Calls Try.prog 33 #[.pointer (some ⟨g.hb, 0, none⟩), .int .i64 t, .int .i64 key] w' fun e w5 => e = .returned (.tuple #[.pointer (some ⟨g.ob name, 0, none⟩), .int .i64 name, .int .i64 kn, .int .i64 j, .int .i64 0]) ∧ Chg (fun _ => False) w' w5 ∧
        (∃ b cap v1 v2, w5.cell? ⟨g.ob name, 4, none⟩ = some (.slice (some ⟨b, 0, none⟩) o.ents.length cap) ∧ w5.cell? ⟨b, j * 3 + 1, none⟩ = some v1 ∧ w5.cell? ⟨b, j * 3 + 1 + 1, none⟩ = some v2 ∧ w5.frozen? ⟨b, j * 3 + 1, none⟩ = false ∧ w5.frozen? ⟨b, j * 3 + 1 + 1, none⟩ = false ∧
          Hid (∀ W, (∃ k2, W = ((w5.setCell ⟨b, j * 3 + 1, none⟩ (.bool xr)).setCell ⟨b, j * 3 + 1 + 1, none⟩ (.int .i64 xn)).drewN k2) → Calls Try.prog 34 #[.pointer (some ⟨g.hb, 0, none⟩), .int .i64 name] W fun e w7 => e = .returned (.tuple #[]) ∧ Hid (Post K (.returned (.int .i64 0)) w7)))) := by
    intro name kn o j x hok hT hj hp hi w' hC
    obtain ⟨ok, hokk⟩ := Option.isSome_iff_exists.1 (hob key kn hT.h2)
    have hents := hg.wf.fit.ents name o hT.h3
    obtain ⟨hjl, hje⟩ := List.getElem?_eq_some_iff.1 hj
    have hen := entry_ok (hR.chg0 hC) hT.h1 hT.h2 hT.h3 hT.h4 hokk (by omega)
    rw [hi] at hen
    refine hen.mono ?_
    rintro e w5 ⟨rfl, hC5⟩
    have hC05 := hC.trans hC5 (fun _ _ h => h)
    have hR5 := hR.chg0 hC05
    have hobj := hR5.obj name o (mem_of_lookup hT.h3)
    obtain ⟨a, cap, hv, _, _, _⟩ := hobj.row.slice
    have hrow := hobj.row
    rw [hv] at hrow
    obtain ⟨b, rfl, hbk, d0, d1, d2⟩ := hrow.entCell j hjl
    have hfr := fun q => hrow.free hbk q
    have hbv : rowBlk (g.vE name) = some b := by rw [hv]; exact hbk
    have hbne : b ≠ g.ob name := fun e => by have := hobj.rown b hbv; rw [e, hobj.own] at this; cases this
    refine ⟨rfl, hC5, b, cap, _, _, by rw [← hv]; exact hobj.c 4, d1, d2, hfr _, hfr _, ?_⟩
    rintro W ⟨k2, rfl⟩
    have hrow2 := (hobj.row.setCell hbv (j * 3 + 1) (.bool xr)).setCell hbv (j * 3 + 1 + 1) (.int .i64 xn)
    have hset : ((enCells o.ents).set (j * 3 + 1) (.bool xr)).set (j * 3 + 1 + 1) (.int .i64 xn) = enCells (o.ents.set j ⟨x.key, A.wordC ⟨cr, cn⟩⟩) := by
      rw [← enCells_set o.ents j hjl, hwd]
      have h0 := (enCells_get o.ents j hjl).1
      rw [hje] at h0
      have h1 : (enCells o.ents).set (j * 3) (.int .i64 x.key) = enCells o.ents := by
        obtain ⟨hq, he⟩ := List.getElem?_eq_some_iff.1 h0
        rw [← he, List.set_getElem_self]
      show _ = (((enCells o.ents).set (j * 3) (.int .i64 x.key)).set (j * 3 + 1) (.bool xr)).set (j * 3 + 2) (.int .i64 xn)
      rw [h1]
    rw [hset] at hrow2
    have hC6 : Chg (fun y => rowBlk (g.vE name) = some y) w5 ((w5.setCell ⟨b, j * 3 + 1, none⟩ (.bool xr)).setCell ⟨b, j * 3 + 1 + 1, none⟩ (.int .i64 xn)) := ((Chg.refl (fun y => rowBlk (g.vE name) = some y) w5).setCell (p := ⟨b, j * 3 + 1, none⟩) (fun _ => hbv) _).setCell (p := ⟨b, j * 3 + 1 + 1, none⟩) (fun _ => hbv) _
    have hll : (o.ents.set j ⟨x.key, A.wordC ⟨cr, cn⟩⟩).length = o.ents.length := List.length_set
    refine (setTabHere_any hR5 hg.wf hT.h3 (l := o.ents.set j ⟨x.key, A.wordC ⟨cr, cn⟩⟩) (by rw [hll]; omega) hC6 (by rw [hll]; exact hrow2) k2).mono ?_
    rintro e w7 ⟨rfl, g', hR7, hS7⟩
    exact ⟨rfl, HK.out _ _ ⟨0, rfl, _, g', .turn hok hT hj hp, hR7, (Step.chg0 g A hC05).trans hS7 (Int.le_refl _)⟩⟩
  have HAdd : Hid (∀ name kn o, A.okC ⟨cr, cn⟩ = true → TabAt A t key name kn o → (∀ x ∈ o.ents, KeyIs kn x = false) → o.ents.length < 200 ∧ ∀ w', Chg (fun _ => False) w w' → Calls Try.prog 33 #[.pointer (some ⟨g.hb, 0, none⟩), .int .i64 t, .int .i64 key] w' fun e w5 => e = .returned (.tuple #[.pointer (some ⟨g.ob name, 0, none⟩), .int .i64 name, .int .i64 kn, .int .i64 (-1), .int .i64 0]) ∧ Chg (fun _ => False) w' w5 ∧
        (∃ a cap, w5.cell? ⟨g.ob name, 4, none⟩ = some (.slice a o.ents.length cap)) ∧
        Hid (Calls Try.prog 29 #[.pointer (some ⟨g.hb, 0, none⟩), .int .i64 3] w5 fun e w6 => ∃ r, e = .returned (.bool r) ∧ (∀ b x, w5.heap[b]? = some x → w.heap.size ≤ b → w6.heap[b]? = some x) ∧ Hid (r = false → Post K (.returned (.int .i64 220)) w6) ∧
          Hid (r = true → ∃ a n cap, w6.cell? ⟨g.ob name, 4, none⟩ = some (.slice a n cap) ∧ ∀ kk, ∃ a2 cap2 w7, (Builtin.append_ #[75, 75] 75 #[.slice a n cap, .slice (some ⟨w6.heap.size, 0, none⟩) 1 1]).run Try.prog ((w6.drewN kk).alloc (.cells #[.int .i64 kn, .bool xr, .int .i64 xn] 84)) = .ok (.slice a2 (n + 1) cap2) w7 ∧
            (∃ v, w7.cell? ⟨g.ob name, 4, none⟩ = some v) ∧ w7.frozen? ⟨g.ob name, 4, none⟩ = false ∧
            Hid (∀ W, (∃ k2, W = (w7.setCell ⟨g.ob name, 4, none⟩ (.slice a2 (n + 1) cap2)).drewN k2) → Calls Try.prog 34 #[.pointer (some ⟨g.hb, 0, none⟩), .int .i64 name] W fun e w8 => e = .returned (.tuple #[]) ∧ Hid (Post K (.returned (.int .i64 0)) w8))))) := by
    intro name kn o hok hT hno
    obtain ⟨ok, hokk⟩ := Option.isSome_iff_exists.1 (hob key kn hT.h2)
    have hents := hfew name o hT.h3
    refine ⟨hents, fun w' hC => ?_⟩
    have hen := entry_ok (hR.chg0 hC) hT.h1 hT.h2 hT.h3 hT.h4 hokk (by omega)
    rw [idxOf_none hno] at hen
    refine hen.mono ?_
    rintro e w5 ⟨rfl, hC5⟩
    have hC05 := hC.trans hC5 (fun _ _ h => h)
    have hR5 := hR.chg0 hC05
    have hobj := hR5.obj name o (mem_of_lookup hT.h3)
    obtain ⟨a0, cap0, hv0, _, _, _⟩ := hobj.row.slice
    refine ⟨rfl, hC5, ⟨a0, cap0, by rw [← hv0]; exact hobj.c 4⟩, ?_⟩
    refine (room_any hR5 hg.wf 3 (by omega) hfull).mono ?_
    rintro e w6 ⟨r, rfl, hZ⟩
    obtain ⟨Ar, gr, hroom, hR6, hS6⟩ := hZ.out
    have hroom' : RoomR A 3 Ar r := hroom
    have hS : Step w g A w6 gr := (Step.chg0 g A hC05).trans hS6 (Int.le_refl _)
    refine ⟨r, rfl, fun b x hx hb => (hS6.at hx (hR.none_of_ge hb)).1, fun hr => ?_, fun hr => ?_⟩
    · rw [hr] at hroom'
      exact HK.out _ _ ⟨220, rfl, Ar, gr, .full hok hT hno hroom', hR6, hS⟩
    · rw [hr] at hroom'
      obtain ⟨or', hor, htab, hle⟩ := hroom'.look hg.wf hT.h1 hT.h3
      have hgood := hroom'.good hg
      have hob6 : gr.ob name = g.ob name := hS.ob name (hg.wf.below name o hT.h3)
      have hhb : gr.hb = g.hb := hS.hb
      have hobj6 := hR6.obj name or' (mem_of_lookup hor)
      obtain ⟨a, cap, hv, _, _, _⟩ := hobj6.row.slice
      refine ⟨a, or'.ents.length, cap, by rw [← hv, ← hob6]; exact hobj6.c 4, fun kk => ?_⟩
      have hRk := hR6.drewN kk
      have hrow := (hRk.obj name or' (mem_of_lookup hor)).row
      rw [hv] at hrow
      obtain ⟨a2, cap2, w7, happ, hr7, hC7, hloc7⟩ := appE hrow ⟨kn, A.wordC ⟨cr, cn⟩⟩ (by omega)
      rw [hwd] at happ
      rw [← hv] at hC7 hloc7
      have hll : (or'.ents ++ [(⟨kn, A.wordC ⟨cr, cn⟩⟩ : En)]).length = or'.ents.length + 1 := by simp
      obtain ⟨h1, h2, h3⟩ := setTab_any hRk hgood.wf hor (l := or'.ents ++ [⟨kn, A.wordC ⟨cr, cn⟩⟩]) (by rw [hll]; omega) hC7 hr7 hloc7
      rw [hob6] at h1 h2 h3
      rw [hhb] at h3
      refine ⟨a2, cap2, w7, happ, h1, h2, ?_⟩
      rintro W ⟨k2, rfl⟩
      refine (h3 k2).mono ?_
      rintro e w8 ⟨rfl, g8, hR8, hS8⟩
      have hsame := hroom'.same hg
      exact ⟨rfl, HK.out _ _ ⟨0, rfl, _, g8, .add hok hT hno hroom' hor, hR8, (hS.trans (Step.drewN w6 gr Ar kk) (by rw [hsame.1]; exact Int.le_refl _)).trans hS8 (by rw [hsame.1]; exact Int.le_refl _)⟩⟩
  have HSit : Hid (∀ name kn, A.handles.lookup t = some name → A.handles.lookup key = some kn → ∃ o, A.objs.lookup name = some o) := fun name kn h1 h2 => Option.isSome_iff_exists.1 (hob t name h1)
  have HXe := Lib.hid (And.intro hxe1 hxe0)
  have hC0 : ∀ X Y, Chg (fun _ => False) w ((w.alloc X).alloc Y) := fun X Y => ((Chg.refl _ _).alloc X).alloc Y
  have HC0 := Lib.hid hC0
  clear hxe1 hxe0 hxx hwd hob hK HK hR hg hfull hfew hC0
  unfold Wd.agg
  go_enter Try.func14, Try.ntmps14
  go_wp2
  go_loopw [26] (fun s26 wr => ∃ j : Nat, s26 = .int .i64 j ∧ wr = (w.alloc (.cells #[.bool cr, .int .i64 cn] 36)).alloc (.cells #[.int .i64 t, .int .i64 key] 3) ∧ (j = 0 ∨ (j = 1 ∧ A.handles.lookup t ≠ none) ∨ (j = 2 ∧ A.handles.lookup t ≠ none ∧ A.handles.lookup key ≠ none))) (fun s26 _ => 2 - (intOf s26).toNat)
  case atStart => exact ⟨0, rfl, rfl, .inl rfl⟩
  case round =>
    obtain ⟨j, rfl, rfl, hj⟩ := hrel
    have hC1 := HC0.out (.cells #[.bool cr, .int .i64 cn] 36) (.cells #[.int .i64 t, .int .i64 key] 3)
    rcases hj with rfl | ⟨rfl, ht⟩ | ⟨rfl, ht, hk⟩
    · obtain ⟨h1, h2⟩ := HOf.out t _ hC1
      cases hl : A.handles.lookup t with
      | none =>
        have HF := Lib.hid (h1 hl)
        have HP := Lib.hid (HE1.out hl _ hC1)
        clear h1 h2 hl hC1
        go_wp2_with (go_at_call 31; refine HF.out.mono ?_; rintro e w1 ⟨rfl, rfl⟩)
        go_ret
        exact HP.out
      | some name =>
        obtain ⟨p, h3⟩ := h2 name hl
        have HF := Lib.hid h3
        have HL := Lib.hid hl
        clear h1 h2 h3 hl hC1
        go_wp2_with (go_at_call 31; refine HF.out.mono ?_; rintro e w1 ⟨rfl, rfl⟩)
        go_roundw
        case rel => exact ⟨1, by first | rfl | trivial, by first | rfl | trivial, .inr (.inl ⟨by first | rfl | trivial, by simp⟩)⟩
        case measure => simp [intOf]
    · obtain ⟨h1, h2⟩ := HOf.out key _ hC1
      have HT := Lib.hid ht
      clear ht
      cases hl : A.handles.lookup key with
      | none =>
        obtain ⟨name, hn⟩ := Option.ne_none_iff_exists'.1 HT.out
        have HF := Lib.hid (h1 hl)
        have HP := Lib.hid (HE2.out name hn hl _ hC1)
        clear h1 h2 hl hC1 hn
        go_wp2_with (go_at_call 31; refine HF.out.mono ?_; rintro e w1 ⟨rfl, rfl⟩)
        go_ret
        exact HP.out
      | some name =>
        obtain ⟨p, h3⟩ := h2 name hl
        have HF := Lib.hid h3
        have HL := Lib.hid hl
        clear h1 h2 h3 hl hC1
        go_wp2_with (go_at_call 31; refine HF.out.mono ?_; rintro e w1 ⟨rfl, rfl⟩)
        go_roundw
        case rel => exact ⟨2, by first | rfl | trivial, by first | rfl | trivial, .inr (.inr ⟨by first | rfl | trivial, HT.out, by simp⟩)⟩
        case measure => simp [intOf]
    · obtain ⟨name, hn⟩ := Option.ne_none_iff_exists'.1 ht
      obtain ⟨kn, hkn⟩ := Option.ne_none_iff_exists'.1 hk
      obtain ⟨o, ho⟩ := HSit.out name kn hn hkn
      have HIn1 := Lib.hid (HIn.out _ hC1)
      clear HIn HOf HE1 HE2 ht hk hC1
      cases hok : A.okC ⟨cr, cn⟩ with
      | false =>
        have hxe := HXe.out.2 hok
        have HP := Lib.hid (HBad.out name kn hn hkn hok)
        subst hxe
        clear hn hkn ho hok
        go_wp2_with (go_at_call 27; refine HIn1.out.mono ?_; rintro e w1 ⟨rfl, hC⟩)
        go_ret
        exact HP.out _ (hC.alloc _)
      | true =>
        have hxe := HXe.out.1 hok
        subst hxe
        cases htab : o.table with
        | false =>
          have HP := Lib.hid (HKind.out name kn o hn hkn hok ho htab)
          clear hn hkn ho hok htab
          go_wp2_with fail
          refine HIn1.out.mono ?_; rintro e w1 ⟨rfl, hC⟩
          have HE := Lib.hid fun Y => HP.out _ (hC.alloc Y)
          clear hC
          go_wp2_with fail
          refine (HE.out _).mono ?_; rintro e w5 ⟨rfl, hZ⟩
          go_wp2
          go_ret
          exact hZ.out
        | true =>
          have hT : TabAt A t key name kn o := ⟨hn, hkn, ho, htab⟩
          rcases idxOf_cases (KeyIs kn) o.ents with ⟨hi, hno⟩ | ⟨j, x, hj, hp, hi⟩
          · obtain ⟨hlt, hA⟩ := HAdd.out name kn o hok hT hno
            have HA := Lib.hid hA
            have hlt2 : ¬ ((200 : Int) ≤ (o.ents.length : Int)) := by omega
            clear hA hn hkn ho hok htab hT hi hno HAdd HTurn HKind HBad HSit
            generalize o.ents.length = len at *
            go_wp2_with fail
            refine HIn1.out.mono ?_; rintro e w1 ⟨rfl, hC⟩
            have HE := Lib.hid fun Y => HA.out _ (hC.alloc Y)
            have hsz := hC.size
            clear hC HA
            go_wp2_with fail
            refine (HE.out _).mono ?_; rintro e w5 ⟨rfl, hC5, ⟨a, cap, d4⟩, HRm⟩
            have hb5 := hC5.at (heap_alloc_new w1 (.cells #[.bool xr, .int .i64 xn] 69)) (fun h => h)
            have HB5 := Lib.hid (And.intro hb5 hsz)
            clear hC5 hb5 HE hsz
            go_wp2_with fail
            refine HRm.out.mono ?_; rintro e w6 ⟨r, rfl, hkeep, HF, HT⟩
            clear HRm
            cases r
            · have HP := Lib.hid (HF.out rfl)
              clear HF HT hkeep
              go_wp2
              go_ret
              exact HP.out
            · obtain ⟨a6, n6, cap6, d5, hap⟩ := HT.out rfl
              have hb6 := hkeep _ _ HB5.out.1 HB5.out.2
              have e0 := cellAt hb6 0
              have e1 := cellAt hb6 1
              have d5' : ∀ X, (w6.alloc X).cell? ⟨g.ob name, 4, none⟩ = some (.slice a6 n6 cap6) := fun X => cell_chg ((Chg.refl (fun _ => False) w6).alloc X) d5 (fun h => h)
              obtain ⟨a2, cap2, w7, happ, ⟨v7, d7⟩, d8, HN⟩ := hap 1
              clear HF HT hkeep hap hb6 HB5 d4
              go_upto_region 26 with fail
              go_region_law (refine step_val rfl (exec_append rfl happ) ?_)
              all_goals
                go_wp2_with fail
                refine (HN.out _ ⟨0, rfl⟩).mono ?_
                rintro e w8 ⟨rfl, hZ⟩
                go_wp2
                go_ret
                exact hZ.out
          · have hA := HTurn.out name kn o j x hok hT hj hp hi
            have HA := Lib.hid hA
            have hjl := (List.getElem?_eq_some_iff.1 hj).1
            have hj0 : ¬ ((j : Int) < 0) := by omega
            have hj1 : (0 : Int) ≤ (j : Int) := by omega
            have hj2 : (j : Int) < (o.ents.length : Int) := by omega
            clear hA hn hkn ho hok htab hT hi hp hj HAdd HTurn HKind HBad HSit
            generalize o.ents.length = len at *
            go_wp2_with fail
            refine HIn1.out.mono ?_; rintro e w1 ⟨rfl, hC⟩
            have HE := Lib.hid fun Y => HA.out _ (hC.alloc Y)
            clear hC HA
            go_wp2_with fail
            refine (HE.out _).mono ?_; rintro e w5 ⟨rfl, hC5, b, cap, v1, v2, d4, d5, d6, d7, d8, HN⟩
            have hb5 := hC5.at (heap_alloc_new w1 (.cells #[.bool xr, .int .i64 xn] 69)) (fun h => h)
            have e0 := cellAt hb5 0
            have e1 := cellAt hb5 1
            clear hC5 hb5 HE
            go_upto_region 17 with fail
            go_region
            all_goals
              go_wp2_with fail
              refine (HN.out _ ⟨1, rfl⟩).mono ?_
              rintro e w8 ⟨rfl, hZ⟩
              go_wp2
              go_ret
              exact hZ.out

end Go.Proofs.Ytelghmmcbgfjnaa

/-! Drop, Finalize, Next, Minor, Major, Used. -/
namespace Go.Proofs.Ytelghmmcbgfjnaa
open Go.RowKit

def delH (l : List (Int × Int)) (n : Int) : List (Int × Int) := l.filter fun p => p.1 ≠ n
theorem delKV_kvsH (A : St) (n : Int) : delKV (kvsH A) n = kvsI (delH A.handles n) := by
  simp [delKV, kvsH, kvsI, delH, List.filter_map, Function.comp_def]

inductive DropSpec (A : St) (n : Int) : Int → St → Prop
  | none : A.handles.lookup n = none → DropSpec A n 221 A
  | ok {name : Int} {F : List Int} : A.handles.lookup n = some name → FreeOk { A with handles := delH A.handles n, free := F } → DropSpec A n 0 { A with handles := delH A.handles n, free := F }

theorem mem_keys_delH {l : List (Int × Int)} {n m : Int} : m ∈ (delH l n).map (·.1) ↔ m ∈ l.map (·.1) ∧ m ≠ n := by
  simp only [delH, List.mem_map, List.mem_filter, decide_eq_true_eq]
  constructor
  · rintro ⟨p, ⟨hp, hne⟩, rfl⟩; exact ⟨⟨p, hp, rfl⟩, hne⟩
  · rintro ⟨⟨p, hp, rfl⟩, hne⟩; exact ⟨p, ⟨hp, hne⟩, rfl⟩

theorem FreeOk.dropped {A : St} (h : FreeOk A) {n name : Int} (hl : A.handles.lookup n = some name) {F : List Int} (hp : F.Perm (A.free ++ [n])) (ho : HeapOrd F) : FreeOk { A with handles := delH A.handles n, free := F } := by
  have hk : n ∈ A.handles.map (·.1) := List.mem_map.2 ⟨_, look_mem hl, rfl⟩
  have hkn := h.key n hk
  have hnf : n ∉ A.free := fun hm => ((h.mem n).1 hm).2.2 hk
  refine ⟨ho, ?_, fun m => ?_, fun m hm => h.key m (mem_keys_delH.1 hm).1, h.next0, h.next9⟩
  · refine hp.nodup_iff.2 ?_
    rw [List.nodup_append]
    refine ⟨h.nod, by simp, fun a ha b hb e => ?_⟩
    simp only [List.mem_singleton] at hb
    rw [e, hb] at ha
    exact hnf ha
  · show m ∈ F ↔ (0 ≤ m ∧ m < A.next ∧ m ∉ (delH A.handles n).map (·.1))
    rw [hp.mem_iff, List.mem_append, h.mem, mem_keys_delH]
    simp only [List.mem_singleton]
    constructor
    · rintro (⟨a, b, c⟩ | rfl)
      · exact ⟨a, b, fun hh => c hh.1⟩
      · exact ⟨hkn.1, hkn.2, fun hh => hh.2 rfl⟩
    · rintro ⟨a, b, c⟩
      by_cases e : m = n
      · exact .inr e
      · exact .inl ⟨a, b, fun hh => c ⟨hh, e⟩⟩

set_option maxRecDepth 100000 in
set_option maxHeartbeats 1000000 in
theorem drop_any {k m : Nat} {w : World} {g : Gh} {A : St} (hR : Rep w g A) (hg : Good k m A) (n : Int) :
    Calls Try.prog 11 #[.pointer (some ⟨g.hb, 0, none⟩), .int .i64 n] w fun e w' => ∃ er, e = .returned (.int .i64 er) ∧ Hid (∃ A' g', DropSpec A n er A' ∧ Rep w' g' A' ∧ Step w g A w' g') := by
  refine ret_k fun K hK => ?_
  cases hl : A.handles.lookup n with
  | none =>
    have HO := Lib.hid (of_none hR hl)
    have HP := Lib.hid (hK _ _ ⟨221, rfl, A, g, .none hl, hR, Step.refl w g A⟩)
    clear hK hR hg hl
    go_enter Try.func11, Try.ntmps11
    go_wp2_with (go_at_call 31; refine HO.out.mono ?_; rintro e w1 ⟨rfl, rfl⟩)
    go_ret
    exact HP.out
  | some name =>
    obtain ⟨o, ho⟩ := Option.isSome_iff_exists.1 (hg.wf.hob n name hl)
    have HO := Lib.hid (of_some hR hl ho)
    have c5 : w.cell? ⟨g.hb, 5, none⟩ = some (.map (some g.mh)) := hR.c 5
    obtain ⟨es, clock, hes, hrun, hM⟩ := run_delete_map (P := Try.prog) hR.mh uMapI uInt 0 n
    rw [delKV_kvsH] at hM
    have hH := hR.setH (chg_put1 _ _ _) hM
    have d9 := hH.1.c 9
    have hFA : FreeAt (World.put w g.mh (.map (es.filter fun e => decide (kint e.key ≠ n)) clock)) g.lb g.vF A.free := ⟨hH.1.rF.row, hH.1.lb, fun b hb e => (by have := hR.rF.own b hb; rw [e, hR.olb] at this; cases this), hg.free.ord⟩
    have HPush : Hid (Calls Try.prog 32 #[.iface 55 (.pointer (some ⟨g.lb, 0, none⟩)), .iface 3 (.int .i64 n)] (World.put w g.mh (.map (es.filter fun e => decide (kint e.key ≠ n)) clock)) fun e w3 => e = .returned (.tuple #[]) ∧ Hid (Post K (.returned (.int .i64 0)) w3)) := by
      refine (heapPush_any hFA (by have := hg.free.len; omega) n).mono ?_
      rintro e w3 ⟨rfl, v', ys, hp, hF', hC, hloc⟩
      have hS := hH.1.setF (Step.refl _ g A) (v1 := v') (l := ys) hC hF'.cell hF'.row (fun b hb => by
        rcases hloc b hb with h | h
        · exact .inl (hH.1.rF.own b h)
        · exact .inr ⟨hH.1.none_of_ge h, h⟩)
      refine ⟨rfl, hK _ _ ⟨0, rfl, _, _, .ok (F := ys) hl (hg.free.dropped hl hp hF'.ord), hS.1, hH.2.trans hS.2 (Int.le_refl _)⟩⟩
    have d9' : (World.put w g.mh (.map (es.filter fun e => decide (kint e.key ≠ n)) clock)).cell? ⟨g.hb, 9, none⟩ = some (.iface 55 (.pointer (some ⟨g.lb, 0, none⟩))) := d9
    obtain ⟨W, hW⟩ : ∃ W, W = World.put w g.mh (.map (es.filter fun e => decide (kint e.key ≠ n)) clock) := ⟨_, rfl⟩
    rw [← hW] at hrun HPush d9'
    clear hK hR hg hl ho hM hH d9 hFA hes hW
    go_enter Try.func11, Try.ntmps11
    go_wp2_with (first | (go_at_call 31; refine HO.out.mono ?_; rintro e w1 ⟨rfl, rfl⟩) | (go_at_call 32; refine HPush.out.mono ?_; rintro e w3 ⟨rfl, hZ⟩))
    go_ret
    exact hZ.out

/-! ### Finalize -/

set_option maxRecDepth 100000 in
set_option maxHeartbeats 1000000 in
theorem index_any {w : World} {v : Value} {xs : List Int} (hrow : Row w 3 1 v xs.length (intCells xs)) (hb : xs.length ≤ 1000000000) (n : Int) :
    Calls Try.prog 67 #[v, .int .i64 n] w fun e w' => ∃ i : Int, e = .returned (.int .i64 i) ∧ (0 ≤ i ↔ n ∈ xs) ∧ w = w' := by
  obtain ⟨a, c, rfl, _, _, _⟩ := hrow.slice
  refine ret_k fun K hK => ?_
  have HK := Lib.hid hK
  have HRow := Lib.hid hrow
  clear hK hrow
  go_enter Try.func67, Try.ntmps67
  go_wp2
  go_loopw [8] (fun i wr => ∃ k : Nat, k ≤ xs.length ∧ i = .int .i64 k ∧ n ∉ xs.take k ∧ wr = w) (fun i _ => xs.length - (intOf i).toNat)
  case atStart => exact ⟨0, Nat.zero_le _, rfl, by simp, rfl⟩
  case round =>
    obtain ⟨k, hk, rfl, hno, hw⟩ := hrel
    subst hw
    by_cases hlt : k < xs.length
    · obtain ⟨b, rfl, _, hc⟩ := HRow.out.cells (by omega)
      have c0 : wr.cell? ⟨b, k, none⟩ = some (.int .i64 (xs[k])) := hc _ _ (by simp [intCells, hlt])
      have w1 : IntKind.i64.wrap ((k : Int) + 1) = ((k + 1 : Nat) : Int) := by rw [IntWalk.i64_in _ (by omega)]; omega
      by_cases he : n = xs[k]
      · have HF := Lib.hid (HK.out _ _ ⟨(k : Int), rfl, ⟨fun _ => by rw [he]; exact List.getElem_mem hlt, fun _ => by omega⟩, rfl⟩)
        have he2 : (n == xs[k]) = true := by simpa using he
        clear hc hno HK HRow he
        generalize xs[k] = xk at *
        go_wp2
        go_ret
        exact HF.out
      · have he2 : (n == xs[k]) = false := by simpa using he
        have hno2 : n ∉ xs.take (k + 1) := by
          rw [List.take_succ_eq_append_getElem hlt]
          simp only [List.mem_append, List.mem_singleton]
          exact fun h => h.elim hno he
        have HNo := Lib.hid hno2
        clear hc hno he hno2
        generalize xs[k] = xk at *
        go_wp2
        go_roundw
        case rel => exact ⟨k + 1, by omega, by go_num, HNo.out, by first | rfl | trivial⟩
        case measure => simp [intOf]; omega
    · have hke : k = xs.length := by omega
      subst hke
      rw [List.take_length] at hno
      have HF := Lib.hid (HK.out _ _ ⟨-1, rfl, ⟨fun h => by omega, fun h => absurd h hno⟩, rfl⟩)
      clear hno HK HRow
      go_wp2
      go_ret
      exact HF.out

set_option maxHeartbeats 1000000 in
theorem contains_any {w : World} {v : Value} {xs : List Int} (hrow : Row w 3 1 v xs.length (intCells xs)) (hb : xs.length ≤ 1000000000) (n : Int) :
    Calls Try.prog 41 #[v, .int .i64 n] w fun e w' => e = .returned (.bool (decide (n ∈ xs))) ∧ w = w' := by
  have hI : Calls Try.prog 67 #[v, .int .i64 n] w fun e w' => ∃ i : Int, e = .returned (.int .i64 i) ∧ decide (0 ≤ i) = decide (n ∈ xs) ∧ w = w' := by
    refine (index_any hrow hb n).mono ?_
    rintro e w' ⟨i, rfl, h, rfl⟩
    exact ⟨i, rfl, by simp [h], rfl⟩
  have HI := Lib.hid hI
  clear hI hrow
  generalize decide (n ∈ xs) = r at *
  refine ret_k fun K hK => ?_
  have HK := Lib.hid hK
  clear hK
  go_enter Try.func41, Try.ntmps41
  go_wp2_with fail
  refine HI.out.mono ?_; rintro e w1 ⟨i, rfl, hd, rfl⟩
  have hd2 := Lib.hid hd
  clear hd
  go_wp2
  go_ret
  rw [hd2.out]
  exact HK.out _ _ ⟨rfl, rfl⟩

inductive FinSpec (A : St) (n : Int) : Bool → Int → St → Prop
  | none : A.handles.lookup n = none → FinSpec A n false 221 A
  | again {name : Int} : A.handles.lookup n = some name → name ∈ A.reg → FinSpec A n false 0 A
  | new {name : Int} : A.handles.lookup n = some name → name ∉ A.reg → FinSpec A n true 0 { A with reg := A.reg ++ [name] }

set_option maxRecDepth 100000 in
set_option maxHeartbeats 1000000 in
theorem fin_any {k m : Nat} {w : World} {g : Gh} {A : St} (hR : Rep w g A) (hg : Good k m A) (n : Int) :
    Calls Try.prog 21 #[.pointer (some ⟨g.hb, 0, none⟩), .int .i64 n] w fun e w' => ∃ b er, e = .returned (.tuple #[.bool b, .int .i64 er]) ∧ Hid (∃ A' g', FinSpec A n b er A' ∧ Rep w' g' A' ∧ Step w g A w' g') := by
  refine ret_k fun K hK => ?_
  have hbig := hg.wf.big
  have hk9 := hg.wf.hk
  cases hl : A.handles.lookup n with
  | none =>
    have HO := Lib.hid (of_none hR hl)
    have HP := Lib.hid (hK _ _ ⟨false, 221, rfl, A, g, .none hl, hR, Step.refl w g A⟩)
    clear hK hR hg hl hbig
    go_enter Try.func21, Try.ntmps21
    go_wp2_with (go_at_call 31; refine HO.out.mono ?_; rintro e w1 ⟨rfl, rfl⟩)
    go_ret2
    exact HP.out
  | some name =>
    obtain ⟨o, ho⟩ := Option.isSome_iff_exists.1 (hg.wf.hob n name hl)
    have HO := Lib.hid (of_some hR hl ho)
    obtain ⟨a0, c0, hv, _, _, _⟩ := hR.rR.row.slice
    have d6 : w.cell? ⟨g.hb, 6, none⟩ = some (.slice a0 A.reg.length c0) := by rw [hR.c 6]; simp [hsCells, hv]
    have hrow := hR.rR.row
    rw [hv] at hrow
    by_cases hin : name ∈ A.reg
    · have hCt := contains_any hrow (by omega) name
      rw [decide_eq_true hin] at hCt
      have HCt := Lib.hid hCt
      have HP := Lib.hid (hK _ _ ⟨false, 0, rfl, A, g, .again hl hin, hR, Step.refl w g A⟩)
      clear hK hR hg hl hbig hCt hrow hin hv ho
      generalize A.reg.length = rl at *
      go_enter Try.func21, Try.ntmps21
      go_wp2_with (first | (go_at_call 31; refine HO.out.mono ?_; rintro e w1 ⟨rfl, rfl⟩) | (go_at_call 41; refine HCt.out.mono ?_; rintro e w1 ⟨rfl, rfl⟩))
      go_ret2
      exact HP.out
    · have hCt := contains_any hrow (by omega) name
      rw [decide_eq_false hin] at hCt
      have HCt := Lib.hid hCt
      obtain ⟨a, cap, w3, happ, hrow3, hC, hloc⟩ := app1 hrow name (by omega)
      have hhb : rowBlk g.vR ≠ some g.hb := fun h => by have := hR.rR.own _ h; rw [hR.ohs] at this; cases this
      rw [← hv] at hC hloc
      have hhs : w3.heap[g.hb]? = some (.cells (hsCells g A) 67 (0, 0)) := hC.at hR.hs hhb
      have hne : ∀ b, rowBlk (.slice a (A.reg.length + 1) cap) = some b → b ≠ g.hb := fun b hb e => by
        rcases hloc b hb with h | h
        · exact hhb (by rw [h, e])
        · have := hR.lt g.hb (by rw [hR.ohs]; rfl); omega
      have hS := hR.setR (Step.refl w g A) (v1 := .slice a (A.reg.length + 1) cap) (l := A.reg ++ [name]) ((hC.mono (fun _ _ h => .inr h)).setCell (fun _ => .inl rfl) _) (heap_setCell hhs 6 _) (hrow3.same fun b hb => heap_setCell_ne (hne b hb) _)
        (fun b hb => by
          rcases hloc b hb with h | h
          · exact .inl (hR.rR.own b h)
          · exact .inr ⟨hR.none_of_ge h, h⟩)
      have HP := Lib.hid (hK _ _ ⟨true, 0, rfl, _, _, .new hl hin, hS.1, hS.2⟩)
      have e6 : ∃ v, w3.cell? ⟨g.hb, 6, none⟩ = some v := ⟨_, by rw [cellAt hhs]; rfl⟩
      obtain ⟨v6, e6⟩ := e6
      have f6 : w3.frozen? ⟨g.hb, 6, none⟩ = false := freeAt hhs 6
      clear hK hR hg hl hbig hCt hrow hin hv ho hrow3 hC hloc hhs hne hS hhb
      generalize A.reg.length = rl at *
      go_enter Try.func21, Try.ntmps21
      go_wp2_with (first | (go_at_call 31; refine HO.out.mono ?_; rintro e w1 ⟨rfl, rfl⟩) | (go_at_call 41; refine HCt.out.mono ?_; rintro e w1 ⟨rfl, rfl⟩) | (at_builtin; go_must (refine wpList_val rfl (exec_append rfl (by exact happ)) ?_)))
      go_ret2
      exact HP.out

end Go.Proofs.Ytelghmmcbgfjnaa
