/-
  Generic laws of memory for the heap seats: worlds that differ in given blocks alone, rows of cells, maps keyed by int, iterators over them. (A part of the proof, joined of: Mem; made smaller.)
-/
import Derived.WalkKit
import Derived.WalkSpells
import Derived.WalkLawsBesides
import Derived.Maps.RangeWalk
import Derived.Maps.OwnSet
namespace Go.Proofs.YtelghmmcbgfjnaaGreat
variable {E K T e : TypeId} {P : Program} {a w w' : World} {b j k r : Nat} {c : Array Value}
open Go.RowKit
structure Chg (F : Nat → Prop) (w w' : World) : Prop where
 os : w'.os = w.os
 tape : w'.tape = w.tape
 output : w'.output = w.output
 size : w.heap.size ≤ w'.heap.size
 block : ∀ k, k < w.heap.size → ¬ F k → w'.heap[k]? = w.heap[k]?
theorem Chg.refl (F : Nat → Prop) (w : World) : Chg F w w := ⟨rfl, rfl, rfl, Nat.le_refl _, fun _ _ _ => rfl⟩
theorem Chg.trans {F F' : Nat → Prop} {b c : World} (h : Chg F a b) (k : Chg F' b c) (hF : ∀ j, j < a.heap.size → F' j → F j) : Chg F a c :=
 ⟨k.os.trans h.os, k.tape.trans h.tape, k.output.trans h.output, Nat.le_trans h.size k.size,
  fun j hj hn => (k.block j (Nat.lt_of_lt_of_le hj h.size) (fun hf => hn (hF j hj hf))).trans (h.block j hj hn)⟩
theorem Chg.mono {F F' : Nat → Prop} {b : World} (h : Chg F a b) (hF : ∀ j, j < a.heap.size → F j → F' j) : Chg F' a b :=
 ⟨h.os, h.tape, h.output, h.size, fun j hj hn => h.block j hj (fun hf => hn (hF j hj hf))⟩
theorem Chg.drewN {F : Nat → Prop} {b : World} (h : Chg F a b) (n : Nat) : Chg F a (b.drewN n) :=
 ⟨h.os, h.tape, h.output, h.size, h.block⟩
theorem Chg.drew {F : Nat → Prop} {b : World} (h : Chg F a b) : Chg F a b.drew :=
 ⟨h.os, h.tape, h.output, h.size, h.block⟩
theorem heap_alloc (w : World) (o : Obj) (k : Nat) : (w.alloc o).heap[k]? = if k = w.heap.size then some o else w.heap[k]? := by
 show (w.heap.push o)[k]? = _;rw [Array.getElem?_push]
theorem heap_alloc_old {x : Obj} (h : w.heap[k]? = some x) (o : Obj) : (w.alloc o).heap[k]? = some x := by
 have := lt_of_block h;rw [heap_alloc, if_neg (by omega), h]
theorem heap_alloc_new (w : World) (o : Obj) : (w.alloc o).heap[w.heap.size]? = some o := by rw [heap_alloc, if_pos rfl]
theorem Chg.alloc {F : Nat → Prop} {b : World} (h : Chg F a b) (o : Obj) : Chg F a (b.alloc o) :=
 ⟨h.os, h.tape, h.output, by have := h.size; simp; omega, fun k hk hn => by
  rw [heap_alloc, if_neg (by have := h.size; omega)]; exact h.block k hk hn⟩
theorem heap_setCell_ne {a : Addr} (h : k ≠ a.block) (v : Value) : (w.setCell a v).heap[k]? = w.heap[k]? := Below.heap_setCell w a v k h
theorem heap_setCell {f : Nat × Nat} (h : w.heap[b]? = some (.cells c e f)) (i : Nat) (v : Value) :
 (w.setCell ⟨b, i, none⟩ v).heap[b]? = some (.cells (c.setIfInBounds i v) e f) := by
 simp [World.setCell, Array.getElem?_modify, h]
theorem Chg.setCell {F : Nat → Prop} {b : World} (h : Chg F a b) {p : Addr} (hp : p.block < a.heap.size → F p.block) (v : Value) : Chg F a (b.setCell p v) :=
 ⟨h.os, h.tape, h.output, by have := h.size; simpa using this, fun k hk hn => by
  by_cases e : k = p.block
  · subst e; exact absurd (hp hk) hn
  · rw [heap_setCell_ne e]; exact h.block k hk hn⟩
def World.put (w : World) (r : Nat) (o : Obj) : World := { w with heap := w.heap.setIfInBounds r o }
theorem heap_put_ne (h : k ≠ r) (o : Obj) : (World.put w r o).heap[k]? = w.heap[k]? := by
 simp [World.put, Ne.symm h]
theorem heap_put {x : Obj} (h : w.heap[r]? = some x) (o : Obj) : (World.put w r o).heap[r]? = some o := by
 have := lt_of_block h;simp [World.put, this]
theorem size_put (w : World) (r : Nat) (o : Obj) : (World.put w r o).heap.size = w.heap.size := by simp [World.put]
theorem Chg.put {F : Nat → Prop} {b : World} (h : Chg F a b) (hr : r < a.heap.size → F r) (o : Obj) : Chg F a (World.put b r o) :=
 ⟨h.os, h.tape, h.output, by rw [size_put]; exact h.size, fun k hk hn => by
  by_cases e : k = r
  · subst e; exact absurd (hr hk) hn
  · rw [heap_put_ne e]; exact h.block k hk hn⟩
theorem chg_put1 (w : World) (r : Nat) (o : Obj) : Chg (fun b => b = r) w (World.put w r o) := (Chg.refl (fun b => b = r) w).put (fun _ => rfl) o
theorem chg_set1 (w : World) (b i : Nat) (v : Value) : Chg (fun x => x = b) w (w.setCell ⟨b, i, none⟩ v) := (Chg.refl (fun x => x = b) w).setCell (p := ⟨b, i, none⟩) (fun _ => rfl) v
theorem run_setObj_put {x : Obj} (h : w.heap[r]? = some x) (hx : ∀ c e f, x ≠ .cells c e f) (o : Obj) :
 (setObj r o).run P w = .ok () (World.put w r o) := by
 unfold setObj;simp only [Sem.run, h];cases x <;> first | rfl | exact absurd rfl (hx _ _ _)
theorem run_getObj_at {x : Obj} (h : w.heap[r]? = some x) (hx : ∀ c e f, x ≠ .cells c e f) :
 (getObj r).run P w = .ok x w := by
 unfold getObj;cases x <;> first | (simp only [Sem.run, h]; done) | exact absurd rfl (hx _ _ _)
theorem cellAt {f : Nat × Nat} (h : w.heap[b]? = some (.cells c e f)) (i : Nat) : w.cell? ⟨b, i, none⟩ = c[i]? := by
 simp [World.cell?, h]
theorem freeAt (h : w.heap[b]? = some (.cells c e (0, 0))) (i : Nat) : w.frozen? ⟨b, i, none⟩ = false := by
 simp [World.frozen?, h]
theorem Chg.at {F : Nat → Prop} (h : Chg F w w') {x : Obj} (hx : w.heap[k]? = some x) (hn : ¬ F k) : w'.heap[k]? = some x :=
 (h.block k (lt_of_block hx) hn).trans hx
def MapAt (w : World) (b : Nat) (kvs : List (Int × Value)) : Prop :=
 ∃ es clock, w.heap[b]? = some (.map es clock) ∧ es.toList.map (fun e => (e.key, e.val)) = kvs.map (fun p => (Value.int .i64 p.1, p.2)) ∧
   (kvs.map (·.1)).Nodup ∧ (∀ e ∈ es.toList, e.born < clock) ∧ (es.toList.map (·.born)).Nodup
theorem MapAt.same {kvs : List (Int × Value)} (h : MapAt w b kvs) (hw : w'.heap[b]? = w.heap[b]?) : MapAt w' b kvs := by
 obtain ⟨es, clock, h1, h2⟩ := h;exact ⟨es, clock, by rw [hw, h1], h2⟩
theorem MapAt.lt {kvs : List (Int × Value)} (h : MapAt w b kvs) : b < w.heap.size := by
 obtain ⟨es, clock, h1, h2⟩ := h;exact lt_of_block h1
theorem MapAt.nodup {kvs : List (Int × Value)} (h : MapAt w b kvs) : (kvs.map (·.1)).Nodup := by
 obtain ⟨es, clock, h1, h2, h3, h4⟩ := h;exact h3
theorem MapAt.made (w : World) : MapAt (w.alloc (.map #[] 0)) w.heap.size [] :=
 ⟨#[], 0, heap_alloc_new _ _, by simp, by simp, by simp, by simp⟩
theorem findNow_kvs (k : Int) : ∀ (l : List MapEntry) (kvs : List (Int × Value)) (i : Nat), l.map (fun e => (e.key, e.val)) = kvs.map (fun p => (Value.int .i64 p.1, p.2)) →
 Instr.findNow (.int .i64) (.int .i64 k) l i = some ((kvs.findIdx? (·.1 == k)).bind fun j => (kvs[j]?).map fun p => (i + j, p.2))
 | [], [], i, _ => by simp [Instr.findNow]
 | [], _ :: _, _, h => by simp at h
 | _ :: _, [], _, h => by simp at h
 | e :: l, p :: kvs, i, h => by
   simp only [List.map_cons, List.cons.injEq, Prod.mk.injEq] at h;obtain ⟨⟨h1, h2⟩, h3⟩ := h;have ih := findNow_kvs k l kvs (i + 1) h3;unfold Instr.findNow;rw [h1];by_cases e' : k = p.1
   · subst e'; simp [Instr.sameNow, h2, List.findIdx?_cons]
   · have e2 : (p.1 == k) = false := by simpa using fun h => e' h.symm
     have e3 : (k == p.1) = false := by simpa using e'
     simp only [Instr.sameNow, if_true, e3, ih, List.findIdx?_cons, e2, Bool.false_eq_true, if_false];cases hf : kvs.findIdx? (·.1 == k) with
     | none => simp
     | some j => simp [Nat.add_assoc, Nat.add_comm 1 j]
theorem lookup_eq_find (k : Int) : ∀ kvs : List (Int × Value), (kvs.findIdx? (·.1 == k)).bind (fun j => (kvs[j]?).map (·.2)) = kvs.lookup k
 | [] => rfl
 | p :: kvs => by
   have ih := lookup_eq_find k kvs;obtain ⟨a, v⟩ := p;by_cases e : a = k
   · subst e; simp [List.findIdx?_cons, List.lookup]
   · have e1 : (a == k) = false := by simpa using e
     have e2 : (k == a) = false := by simpa using fun h => e h.symm
     simp only [List.findIdx?_cons, e1, Bool.false_eq_true, if_false, List.lookup, e2, ← ih];cases kvs.findIdx? (·.1 == k) <;> simp
theorem run_checkKey_i64 (hK : P.underlying K = some (.int .i64)) (x : Bool) (n : Nat) (k : Int) (w : World) :
 (Instr.checkKey x (n + 1) K (.int .i64 k)).run P w = .ok () w := by
 have hu2 : ∀ w, (underlying K).run P w = .ok (.int .i64) w := fun w => by simp [underlying, hK]
 simp [Instr.checkKey, hu2]
theorem run_lookup_map {kvs : List (Int × Value)} (h : MapAt w b kvs) (hT : P.underlying T = some (.map K E)) (hK : P.underlying K = some (.int .i64))
 {z : Value} (hz : ∀ w, (zeroValue E).run P w = .ok z w) (k : Int) (ok : Bool) :
 (Instr.lookup T (.map (some b)) (.int .i64 k) ok).run P w = .ok (if ok then .tuple #[(kvs.lookup k).getD z, .bool (kvs.lookup k).isSome] else (kvs.lookup k).getD z) w := by
 obtain ⟨es, clock, h1, h2, h3, h4⟩ := h;have hg := run_getObj_at (P := P) h1 (by simp);have hf := findNow_kvs k es.toList kvs 0 h2;have hu : ∀ w, (underlying T).run P w = .ok (.map K E) w := fun w => by simp [underlying, hT]
 have hu2 : ∀ w, (underlying K).run P w = .ok (.int .i64) w := fun w => by simp [underlying, hK]
 have hck : ∀ (x : Bool) (w : World), (Instr.checkKey x 10000 K (.int .i64 k)).run P w = .ok () w := fun x w => run_checkKey_i64 hK x 9999 k w;unfold Instr.lookup;simp only [Sem.run_bind, hu, Result.andThen_ok, hg, hck, Instr.findKey, hu2, hf, Sem.run_pure];have hl := lookup_eq_find k kvs;cases hi : kvs.findIdx? (·.1 == k) with
 | none =>
   rw [hi] at hl;have hl' : kvs.lookup k = none := by rw [← hl]; rfl
   simp [hz, hl']
 | some j =>
   rw [hi] at hl;obtain ⟨hj, _⟩ := List.findIdx?_eq_some_iff_getElem.1 hi;have hl' : kvs.lookup k = some (kvs[j]).2 := by rw [← hl]; simp [hj]
   simp [hj, hl']
def putKV (kvs : List (Int × Value)) (k : Int) (v : Value) : List (Int × Value) :=
 if (kvs.lookup k).isSome then kvs.map (fun p => if p.1 = k then (k, v) else p) else kvs ++ [(k, v)]
def delKV (kvs : List (Int × Value)) (k : Int) : List (Int × Value) := kvs.filter (fun p => p.1 ≠ k)
theorem findIdx_of_lookup {kvs : List (Int × Value)} {k : Int} (hi : kvs.findIdx? (·.1 == k) = some j) : ∃ hj : j < kvs.length, (kvs[j]).1 = k ∧ kvs.lookup k = some (kvs[j]).2 := by
 obtain ⟨hj, h1, _⟩ := List.findIdx?_eq_some_iff_getElem.1 hi;have hl := lookup_eq_find k kvs;rw [hi] at hl;exact ⟨hj, by simpa using h1, by rw [← hl]; simp [hj]⟩
theorem lookup_none_of {kvs : List (Int × Value)} {k : Int} (hi : kvs.findIdx? (·.1 == k) = none) : kvs.lookup k = none := by
 rw [← lookup_eq_find k kvs, hi]; rfl
theorem idx_of_key {α : Type} {l : List (Int × α)} (hn : (l.map (·.1)).Nodup) {i : Nat} (hi : i < l.length) (hj : j < l.length) (h : (l[i]).1 = (l[j]).1) : i = j := by
 have hp := List.pairwise_iff_getElem.1 hn;rcases Nat.lt_trichotomy i j with hlt | rfl | hlt
 · exact absurd (by rw [List.getElem_map, List.getElem_map]; exact h) (hp i j (by simpa using hi) (by simpa using hj) hlt)
 · rfl
 · exact absurd (by rw [List.getElem_map, List.getElem_map]; exact h.symm) (hp j i (by simpa using hj) (by simpa using hi) hlt)
theorem set_eq_map_key {kvs : List (Int × Value)} (hn : (kvs.map (·.1)).Nodup) (hj : j < kvs.length) {k : Int} (hk : (kvs[j]).1 = k) (v : Value) :
 kvs.set j (k, v) = kvs.map (fun p => if p.1 = k then (k, v) else p) := by
 apply List.ext_getElem
 · simp
 · intro i h1 h2;have hi : i < kvs.length := by simpa using h1
   rw [List.getElem_set, List.getElem_map];by_cases e : j = i
   · subst e; simp [hk]
   · rw [if_neg e, if_neg];intro he;exact e (idx_of_key hn hj hi (by rw [hk, he]))
theorem keys_putKV (kvs : List (Int × Value)) (k : Int) (v : Value) : (putKV kvs k v).map (·.1) = if (kvs.lookup k).isSome then kvs.map (·.1) else kvs.map (·.1) ++ [k] := by
 unfold putKV
 split
 · rw [List.map_map];apply List.map_congr_left;intro p _;simp only [Function.comp]
   split
   · rename_i h; exact h.symm
   · rfl
 · simp
theorem mem_keys_iff_lookup (kvs : List (Int × Value)) (k : Int) : k ∈ kvs.map (·.1) ↔ (kvs.lookup k).isSome := by
 induction kvs with
 | nil => simp
 | cons p kvs ih =>
   obtain ⟨a, v⟩ := p;by_cases e : k = a
   · subst e; simp [List.lookup]
   · have e2 : (k == a) = false := by simpa using e
     simp only [List.map_cons, List.mem_cons, e, false_or, List.lookup, e2, ih]
theorem nodup_putKV {kvs : List (Int × Value)} (hn : (kvs.map (·.1)).Nodup) (k : Int) (v : Value) : ((putKV kvs k v).map (·.1)).Nodup := by
 rw [keys_putKV]
 split
 · exact hn
 · rename_i h
   rw [List.nodup_append];refine ⟨hn, by simp, ?_⟩;intro a ha b hb;simp only [List.mem_singleton] at hb;subst hb;intro e;subst e;exact h ((mem_keys_iff_lookup _ _).1 ha)
theorem run_mapUpdate_map {kvs : List (Int × Value)} (h : MapAt w b kvs) (hT : P.underlying T = some (.map K E)) (hK : P.underlying K = some (.int .i64))
 (k : Int) (v : Value) :
 ∃ o', (Instr.mapUpdate T (.map (some b)) (.int .i64 k) v).run P w = .ok () (World.put w b o') ∧ MapAt (World.put w b o') b (putKV kvs k v) := by
 obtain ⟨es, clock, h1, h2, h3, h4, h5⟩ := h;have hg := run_getObj_at (P := P) h1 (by simp);have hf := findNow_kvs k es.toList kvs 0 h2;have hu : ∀ w, (underlying T).run P w = .ok (.map K E) w := fun w => by simp [underlying, hT]
 have hu2 : ∀ w, (underlying K).run P w = .ok (.int .i64) w := fun w => by simp [underlying, hK]
 have hck : ∀ (x : Bool) (w : World), (Instr.checkKey x 10000 K (.int .i64 k)).run P w = .ok () w := fun x w => run_checkKey_i64 hK x 9999 k w;unfold Instr.mapUpdate;simp only [Sem.run_bind, hu, Result.andThen_ok, hg, hck, Instr.findKey, hu2, hf];have hlen : es.size = kvs.length := by have := congrArg List.length h2; simpa using this
 cases hi : kvs.findIdx? (·.1 == k) with
 | none =>
   have hl := lookup_none_of hi;refine ⟨_, by simp only [Option.bind_none, Sem.run_pure, Result.andThen_ok]; exact run_setObj_put h1 (by simp) _, ?_⟩;refine ⟨_, _, heap_put h1 _, ?_, nodup_putKV h3 k v, ?_, ?_⟩
   · simp [putKV, hl, h2]
   · intro e he;simp only [Array.toList_push, List.mem_append, List.mem_singleton] at he;rcases he with he | rfl
     · have := h4 e he; omega
     · simp
   · simp only [Array.toList_push, List.map_append, List.map_cons, List.map_nil];rw [List.nodup_append];refine ⟨h5, by simp, ?_⟩;intro a ha b hb;simp only [List.mem_singleton] at hb;subst hb;obtain ⟨e, he, rfl⟩ := List.mem_map.1 ha;have := h4 e he;omega
 | some j =>
   obtain ⟨hj, hk, hl⟩ := findIdx_of_lookup hi;have hje : j < es.size := by omega
   have hkey : (es[j]).key = .int .i64 k := by
    have := congrArg (fun l => l[j]?) h2;simp [hje, hj] at this;rw [this.1, hk]
   refine ⟨.map (es.modify j fun e => { e with key := .int .i64 k, val := v }) clock, ?_, ?_⟩
   · simp [hj, hje, hkey, Instr.keyThatStays, Instr.sameBits];exact run_setObj_put h1 (by simp) _
   · refine ⟨_, _, heap_put h1 _, ?_, nodup_putKV h3 k v, ?_, ?_⟩
     · have e0 : putKV kvs k v = kvs.set j (k, v) := by
        rw [set_eq_map_key h3 hj hk]; simp [putKV, hl]
       rw [e0, List.map_set, ← h2];apply List.ext_getElem
       · simp
       · intro i h1' h2';have hi' : i < es.size := by simpa using h1'
         simp only [List.getElem_map, Array.getElem_toList, Array.getElem_modify, List.getElem_set]
         split <;> simp
     · intro e he;obtain ⟨i, hi', rfl⟩ := List.getElem_of_mem he;have hi2 : i < es.size := by simpa using hi'
       have := h4 es[i] (by simp);simp only [Array.getElem_toList, Array.getElem_modify]
       split <;> simpa using this
     · have : (es.modify j fun e => { e with key := .int .i64 k, val := v }).toList.map (·.born) = es.toList.map (·.born) := by
        apply List.ext_getElem
        · simp
        · intro i h1' h2';simp only [List.getElem_map, Array.getElem_toList, Array.getElem_modify]
          split <;> rfl
       rw [this]; exact h5
theorem delKV_eraseIdx {kvs : List (Int × Value)} (hn : (kvs.map (·.1)).Nodup) (hj : j < kvs.length) {k : Int} (hk : (kvs[j]).1 = k) : delKV kvs k = kvs.eraseIdx j := by
 unfold delKV
 induction kvs generalizing j with
 | nil => simp at hj
 | cons p kvs ih =>
   have hn' : (kvs.map (·.1)).Nodup := (List.nodup_cons.1 (by simpa using hn)).2;have hp : ¬ p.1 ∈ kvs.map (·.1) := (List.nodup_cons.1 (by simpa using hn)).1;cases j with
   | zero =>
     have hk' : p.1 = k := hk;subst hk';simp only [List.filter_cons, ne_eq, not_true_eq_false, decide_false, Bool.false_eq_true, if_false, List.eraseIdx_cons_zero];rw [List.filter_eq_self];intro q hq;simp only [decide_not, Bool.not_eq_true', decide_eq_false_iff_not];intro e;exact hp (List.mem_map.2 ⟨q, hq, e⟩)
   | succ j =>
     have hj' : j < kvs.length := by simpa using hj
     have hk' : (kvs[j]).1 = k := by simpa using hk
     have hne : ¬ p.1 = k := by
      intro e; exact hp (List.mem_map.2 ⟨kvs[j], List.getElem_mem hj', by rw [hk', e]⟩)
     simp only [List.filter_cons, ne_eq, hne, not_false_eq_true, decide_true, if_true, List.eraseIdx_cons_succ];rw [show (fun p : Int × Value => decide (¬ p.1 = k)) = (fun p => decide (p.1 ≠ k)) from rfl, ih hn' hj' hk']
theorem nodup_delKV {kvs : List (Int × Value)} (hn : (kvs.map (·.1)).Nodup) (k : Int) : ((delKV kvs k).map (·.1)).Nodup :=
 List.Nodup.sublist (List.Sublist.map _ List.filter_sublist) hn
def kint : Value → Int
 | .int _ n => n
 | _ => 0
theorem eraseIdx_eq_filter (k : Int) : ∀ (l : List MapEntry) (j : Nat) (hj : j < l.length), kint (l[j]).key = k → (∀ i (hi : i < l.length), i ≠ j → kint (l[i]).key ≠ k) →
 l.eraseIdx j = l.filter (fun e => decide (kint e.key ≠ k))
 | [], j, hj, _, _ => by simp at hj
 | x :: l, 0, _, h1, h2 => by
   have hx : kint x.key = k := h1;simp only [List.eraseIdx_cons_zero, List.filter_cons, hx, ne_eq, not_true_eq_false, decide_false, Bool.false_eq_true, if_false]
   symm
   rw [List.filter_eq_self];intro e he;obtain ⟨i, hi, rfl⟩ := List.getElem_of_mem he;have := h2 (i + 1) (by simp; omega) (by omega);simpa using this
 | x :: l, j + 1, hj, h1, h2 => by
   have hx : kint x.key ≠ k := h2 0 (by simp) (by omega);have ih := eraseIdx_eq_filter k l j (by simpa using hj) (by simpa using h1) (fun i hi hne => by
    have := h2 (i + 1) (by simpa using hi) (by omega);simpa using this)
   simp only [List.eraseIdx_cons_succ, List.filter_cons, hx, ne_eq, not_false_eq_true, decide_true, if_true];rw [ih]
theorem filter_kvs (k : Int) {l : List MapEntry} {kvs : List (Int × Value)} (h : l.map (fun e => (e.key, e.val)) = kvs.map (fun p => (Value.int .i64 p.1, p.2))) :
 (l.filter (fun e => decide (kint e.key ≠ k))).map (fun e => (e.key, e.val)) = (delKV kvs k).map (fun p => (Value.int .i64 p.1, p.2)) := by
 have e1 := List.filter_map (p := fun pr : Value × Value => decide (kint pr.1 ≠ k)) (f := fun e : MapEntry => (e.key, e.val)) (l := l);have e2 := List.filter_map (p := fun pr : Value × Value => decide (kint pr.1 ≠ k)) (f := fun p : Int × Value => (Value.int .i64 p.1, p.2)) (l := kvs);rw [h] at e1;have := e1.symm.trans e2;exact this
theorem run_delete_map {kvs : List (Int × Value)} (h : MapAt w b kvs) (hT : P.underlying T = some (.map K E)) (hK : P.underlying K = some (.int .i64))
 (ty : TypeId) (k : Int) :
 ∃ es clock, w.heap[b]? = some (.map es clock) ∧
   (Builtin.delete_ #[T, K] ty #[.map (some b), .int .i64 k]).run P w = .ok (.tuple #[]) (World.put w b (.map (es.filter fun e => decide (kint e.key ≠ k)) clock)) ∧
   MapAt (World.put w b (.map (es.filter fun e => decide (kint e.key ≠ k)) clock)) b (delKV kvs k) := by
 obtain ⟨es, clock, h1, h2, h3, h4, h5⟩ := h;have hg := run_getObj_at (P := P) h1 (by simp);have hf := findNow_kvs k es.toList kvs 0 h2;have hu : ∀ w, (underlying T).run P w = .ok (.map K E) w := fun w => by simp [underlying, hT]
 have hu2 : ∀ w, (underlying K).run P w = .ok (.int .i64) w := fun w => by simp [underlying, hK]
 have hck : ∀ (x : Bool) (w : World), (Instr.checkKey x 10000 K (.int .i64 k)).run P w = .ok () w := fun x w => run_checkKey_i64 hK x 9999 k w;have hlen : es.size = kvs.length := by have := congrArg List.length h2; simpa using this
 have hkeys : ∀ i (hi : i < es.size) (hi' : i < kvs.length), kint (es[i]).key = (kvs[i]).1 := fun i hi hi' => by
  have := congrArg (fun l => l[i]?) h2;simp [hi, hi'] at this;rw [this.1]; rfl
 have hput : ∀ o', (setObj b o').run P w = .ok () (World.put w b o') := run_setObj_put h1 (by simp);have hmap : ∀ clock', (∀ e ∈ es.toList, e.born < clock') → MapAt (World.put w b (.map (es.filter fun e => decide (kint e.key ≠ k)) clock')) b (delKV kvs k) := by
  intro clock' hc;refine ⟨_, _, heap_put h1 _, by rw [Array.toList_filter]; exact filter_kvs k h2, nodup_delKV h3 k, ?_, ?_⟩
  · intro e he;rw [Array.toList_filter] at he;exact hc e (List.mem_filter.1 he).1
  · rw [Array.toList_filter];exact List.Nodup.sublist (List.Sublist.map _ List.filter_sublist) h5
 refine ⟨es, clock, h1, ?_, hmap clock h4⟩;unfold Builtin.delete_;simp only [List.getElem?_toArray, List.getElem?_cons_zero, List.getElem?_cons_succ];simp only [Sem.run_bind, hu, Result.andThen_ok, hg, hck, Instr.findKey, hu2, hf];cases hi : kvs.findIdx? (·.1 == k) with
 | none =>
   have hl := lookup_none_of hi;have hall : es.filter (fun e => decide (kint e.key ≠ k)) = es := by
    apply Array.toList_inj.1;rw [Array.toList_filter, List.filter_eq_self];intro e he;obtain ⟨i, hi', rfl⟩ := List.getElem_of_mem he;have h1' : i < es.size := by simpa using hi'
    have hk := hkeys i h1' (by omega);simp only [Array.getElem_toList, hk, ne_eq, decide_not, Bool.not_eq_true', decide_eq_false_iff_not];intro hk';have : k ∈ kvs.map (·.1) := List.mem_map.2 ⟨_, List.getElem_mem _, hk'⟩;rw [mem_keys_iff_lookup, hl] at this;simp at this
   simp only [Option.bind_none, Sem.run_pure, Result.andThen_ok, Sem.run_bind, hput, hall]
 | some j =>
   obtain ⟨hj, hk, hl⟩ := findIdx_of_lookup hi;have hje : j < es.size := by omega
   have he : es.eraseIdxIfInBounds j = es.filter (fun e => decide (kint e.key ≠ k)) := by
    apply Array.toList_inj.1;rw [Array.toList_eraseIdxIfInBounds, Array.toList_filter];refine eraseIdx_eq_filter k _ j (by simpa using hje) (by simp only [Array.getElem_toList]; rw [hkeys j hje hj, hk]) ?_;intro i hi' hne hk';have hie : i < es.size := by simpa using hi'
    simp only [Array.getElem_toList] at hk';rw [hkeys i hie (by omega)] at hk';exact hne (idx_of_key h3 (by omega) hj (by rw [hk, hk']))
   simp only [Option.bind_some, List.getElem?_eq_getElem hj, Option.map_some, Nat.zero_add, Sem.run_pure, Result.andThen_ok, Sem.run_bind, he, hput]
theorem run_len_map' {kvs : List (Int × Value)} (h : MapAt w b kvs) (hT : P.underlying T = some (.map K E)) (ty : TypeId) :
 (Builtin.len_ #[T] ty #[.map (some b)]).run P w = .ok (.int .i64 kvs.length) w := by
 obtain ⟨es, clock, h1, h2, _⟩ := h;have hlen : es.size = kvs.length := by have := congrArg List.length h2; simpa using this
 have hu : ∀ w, (underlying T).run P w = .ok (.map K E) w := fun w => by simp [underlying, hT]
 have hg := run_getObj_at (P := P) h1 (by simp);unfold Builtin.len_;simp only [List.getElem?_toArray, List.getElem?_cons_zero];simp only [Sem.run_bind, hu, Result.andThen_ok, hg, Sem.run_pure, goInt, hlen]
theorem run_clear_map' {kvs : List (Int × Value)} (h : MapAt w b kvs) (hT : P.underlying T = some (.map K E)) (ty : TypeId) :
 ∃ o', (Builtin.clear_ #[T] ty #[.map (some b)]).run P w = .ok (.tuple #[]) (World.put w b o') ∧ MapAt (World.put w b o') b [] := by
 obtain ⟨es, clock, h1, h2, _⟩ := h;have hu : ∀ w, (underlying T).run P w = .ok (.map K E) w := fun w => by simp [underlying, hT]
 have hg := run_getObj_at (P := P) h1 (by simp);refine ⟨.map #[] clock, ?_, ⟨#[], clock, heap_put h1 _, by simp, by simp, by simp, by simp⟩⟩;unfold Builtin.clear_;simp only [List.getElem?_toArray, List.getElem?_cons_zero];simp only [Sem.run_bind, hu, Result.andThen_ok, hg, run_setObj_put h1 (by simp : ∀ c e f, Obj.map es clock ≠ .cells c e f), Sem.run_pure]
def IterAt (w : World) (r b : Nat) (kvs left : List (Int × Value)) : Prop :=
 MapAt w b kvs ∧ ∃ es clock seen, w.heap[b]? = some (.map es clock) ∧ w.heap[r]? = some (.mapIter (some b) clock seen clock) ∧
  ((es.toList.filter fun e => !seen.contains e.born).map fun e => (e.key, e.val)) = left.map (fun p => (Value.int .i64 p.1, p.2)) ∧ left.Sublist kvs
theorem IterAt.map {kvs left : List (Int × Value)} (h : IterAt w r b kvs left) : MapAt w b kvs := h.1
theorem IterAt.same {kvs left : List (Int × Value)} (h : IterAt w r b kvs left) (hb : w'.heap[b]? = w.heap[b]?) (hr : w'.heap[r]? = w.heap[r]?) : IterAt w' r b kvs left := by
 obtain ⟨h0, es, clock, seen, h1, h2, h3⟩ := h;exact ⟨h0.same hb, es, clock, seen, by rw [hb, h1], by rw [hr, h2], h3⟩
theorem IterAt.ne {kvs left : List (Int × Value)} (h : IterAt w r b kvs left) : r ≠ b := by
 obtain ⟨h0, es, clock, seen, h1, h2, h3⟩ := h;intro e;subst e;rw [h1] at h2;simp at h2
theorem run_range_map {kvs : List (Int × Value)} (h : MapAt w b kvs) (hT : P.underlying T = some (.map K E)) :
 ∃ o', (Instr.range T (.map (some b))).run P w = .ok (.pointer (some ⟨w.heap.size, 0, none⟩)) (w.alloc o') ∧ IterAt (w.alloc o') w.heap.size b kvs kvs := by
 have h0 := h;obtain ⟨es, clock, h1, h2, _⟩ := h;have hu : ∀ w, (underlying T).run P w = .ok (.map K E) w := fun w => by simp [underlying, hT]
 have hg := run_getObj_at (P := P) h1 (by simp);refine ⟨.mapIter (some b) clock #[] clock, ?_, ?_⟩
 · unfold Instr.range;simp [hu, hg]
 · exact ⟨h0.same (by rw [heap_alloc, if_neg (by have := h0.lt; omega)]), es, clock, #[], heap_alloc_old h1 _, heap_alloc_new _ _, by rw [List.filter_eq_self.2 (by simp)]; exact h2, List.Sublist.refl _⟩
theorem run_next_over {kvs : List (Int × Value)} (h : IterAt w r b kvs []) (ty : TypeId) :
 (Instr.next (.pointer (some ⟨r, 0, none⟩)) false ty).run P w = .ok (.tuple #[.bool false]) w := by
 obtain ⟨h0, es, clock, seen, h1, h2, h3, h4⟩ := h;obtain ⟨es', clock', g1, g2, g3, g4, g5⟩ := h0;rw [h1] at g1;simp only [Option.some.injEq, Obj.map.injEq] at g1;obtain ⟨rfl, rfl⟩ := g1;have hg := run_getObj_at (P := P) h1 (by simp);have hg2 := run_getObj_at (P := P) h2 (by simp);have hleft : es.filter (fun e => !seen.contains e.born) = #[] := by
  apply Array.toList_inj.1;have := congrArg List.length h3;simp only [List.length_map, List.length_nil] at this;simpa using List.length_eq_zero_iff.1 this
 have hall : (!es.isEmpty && es.all (fun e => decide (e.born ≥ clock))) = false := by
  cases he : es.isEmpty with
  | true => simp
  | false =>
    simp only [Bool.not_false, Bool.true_and];rw [Bool.eq_false_iff];intro hh;rw [Array.all_eq_true] at hh;have hpos : 0 < es.size := by
     rcases Nat.eq_zero_or_pos es.size with h | h
     · simp [Array.isEmpty, h] at he
     · exact h
    have hb := hh 0 hpos;have := g4 es[0] (by simp);simp at hb;omega
 have hall' : (!seen.isEmpty && !es.isEmpty && es.all (fun e => decide (e.born ≥ clock))) = false := by
  rw [Bool.and_assoc, hall, Bool.and_false]
 unfold Instr.next
 simp only [Sem.run_bind, hg2, Result.andThen_ok, hg, hall', Bool.false_eq_true, if_false, hleft];simp [choose, Sem.run, Question.forced]
theorem filter_push_born (es : Array MapEntry) (seen : Array Nat) (e0 : MapEntry) :
 es.toList.filter (fun e => !(seen.push e0.born).contains e.born) = (es.toList.filter fun e => !seen.contains e.born).filter (fun e => decide (e.born ≠ e0.born)) := by
 rw [List.filter_filter];apply List.filter_congr;intro e _;rw [Bool.eq_iff_iff];simp;constructor
 · rintro ⟨h1, h2⟩; exact ⟨fun h => h2 h, h1⟩
 · rintro ⟨h1, h2⟩; exact ⟨h2, fun h => h1 h⟩
theorem run_next_more {kvs left : List (Int × Value)} (h : IterAt w r b kvs left) (hl : left ≠ []) (ty : TypeId) :
 ∃ k v n o', (k, v) ∈ left ∧ (Instr.next (.pointer (some ⟨r, 0, none⟩)) false ty).run P w = .ok (.tuple #[.bool true, .int .i64 k, v]) (World.put (w.drewN n) r o') ∧
   IterAt (World.put (w.drewN n) r o') r b kvs (delKV left k) ∧
   (∀ w', w'.heap[b]? = w.heap[b]? → w'.heap[r]? = some o' → (Instr.entry (.pointer (some ⟨r, 0, none⟩))).run P w' = .ok (.tuple #[.int .i64 k, v]) w') := by
 have hne := h.ne;obtain ⟨h0, es, clock, seen, h1, h2, h3, h4⟩ := h;have h0' := h0;obtain ⟨es', clock', g1, g2, g3, g4, g5⟩ := h0;rw [h1] at g1;simp only [Option.some.injEq, Obj.map.injEq] at g1;obtain ⟨rfl, rfl⟩ := g1;have hg := run_getObj_at (P := P) h1 (by simp);have hg2 := run_getObj_at (P := P) h2 (by simp);generalize hL : es.filter (fun e => !seen.contains e.born) = L at *;have hLl : L.toList = es.toList.filter (fun e => !seen.contains e.born) := by rw [← hL, Array.toList_filter]
 have hLlen : L.size = left.length := by have := congrArg List.length h3; rw [← hLl] at this; simpa using this
 have hpos : 0 < L.size := by rw [hLlen]; exact List.length_pos_iff.2 hl
 have hmem : ∀ e ∈ L.toList, e ∈ es.toList := fun e he => by rw [hLl] at he; exact (List.mem_filter.1 he).1
 have hold : L.filter (fun e => decide (e.born < clock)) = L := by
  apply Array.toList_inj.1;rw [Array.toList_filter, List.filter_eq_self];intro e he;simpa using g4 e (hmem e he)
 have hnew : L.filter (fun e => decide (e.born ≥ clock)) = #[] := by
  apply Array.toList_inj.1;rw [Array.toList_filter, List.filter_eq_nil_iff.2];intro e he;have := g4 e (hmem e he);simp; omega
 have hall : (!seen.isEmpty && !es.isEmpty && es.all (fun e => decide (e.born ≥ clock))) = false := by
  have : es.all (fun e => decide (e.born ≥ clock)) = false := by
   rw [Bool.eq_false_iff];intro hh;rw [Array.all_eq_true'] at hh;have hx := hmem L[0] (by simp);have := hh L[0] (by simpa using hx);have := g4 L[0] hx;simp at *;omega
  rw [this, Bool.and_false]
 obtain ⟨n, i, hi, hrun⟩ : ∃ n i, i < L.size ∧ (choose (.mapNext L.size)).run P w = .ok i (w.drewN n) := by
  by_cases h1 : L.size ≤ 1
  · exact ⟨0, 0, hpos, by simp [choose, Sem.run, Question.forced, h1]; rfl⟩
  · refine ⟨1, w.tape w.drawn (.mapNext L.size) % L.size, Nat.mod_lt _ hpos, ?_⟩;simp [choose, Sem.run, Question.forced, h1, Question.cut];rfl
 have hil : i < left.length := by omega
 have hkv : (L[i]).key = .int .i64 (left[i]).1 ∧ (L[i]).val = (left[i]).2 := by
  have := congrArg (fun l => l[i]?) h3;rw [← hLl] at this;simpa [hi, hil] using this
 have h2d : (w.drewN n).heap[r]? = some (.mapIter (some b) clock seen clock) := h2;have h1d : (w.drewN n).heap[b]? = some (.map es clock) := h1;have hcand : ((if L.isEmpty then #[none] else #[]) ++ (L ++ #[]).map some) = L.map some := by
  have : L.isEmpty = false := by
   rw [Bool.eq_false_iff]; intro h; have : L = #[] := by simpa using h
   simp [this] at hpos
  simp [this]
 refine ⟨(left[i]).1, (left[i]).2, n, .mapIter (some b) clock (seen.push (L[i]).born) clock, List.getElem_mem _, ?_, ?_, ?_⟩
 · unfold Instr.next
   simp only [Sem.run_bind, hg2, Result.andThen_ok, hg, hall, Bool.false_eq_true, if_false, hL, hold, hnew, hcand, Array.size_map, hrun];simp only [Array.getElem?_map, Array.getElem?_eq_getElem hi, Option.map_some, Sem.run_bind, run_setObj_put h2d (by simp : ∀ c e f, Obj.mapIter (some b) clock seen clock ≠ .cells c e f), Result.andThen_ok, Sem.run_pure, hkv.1, hkv.2]
 · refine ⟨h0'.same (by rw [heap_put_ne hne.symm]; rfl), es, clock, seen.push (L[i]).born, by rw [heap_put_ne hne.symm]; exact h1, heap_put h2d _, ?_, ?_⟩
   · rw [filter_push_born, ← hLl];rw [← hLl] at h3;have e1 : L.toList.filter (fun e => decide (e.born ≠ (L[i]).born)) = L.toList.filter (fun e => decide (kint e.key ≠ (left[i]).1)) := by
      apply List.filter_congr;intro e he;rw [Bool.eq_iff_iff];simp only [ne_eq, decide_eq_true_eq];refine not_congr ?_;obtain ⟨j, hj, rfl⟩ := List.getElem_of_mem he;have hj' : j < L.size := by simpa using hj
      have hjl : j < left.length := by omega
      simp only [Array.getElem_toList];have hk : (L[j]).key = .int .i64 (left[j]).1 := by
       have := congrArg (fun l => l[j]?) h3;simp [hj', hjl] at this;exact this.1
      rw [hk];simp only [kint];have hnl : (left.map (·.1)).Nodup := List.Nodup.sublist (List.Sublist.map _ h4) g3;have hbn : (L.toList.map (·.born)).Nodup := by rw [hLl]; exact List.Nodup.sublist (List.Sublist.map _ List.filter_sublist) g5
      constructor
      · intro hb;have hp := List.pairwise_iff_getElem.1 hbn;have : j = i := by
         rcases Nat.lt_trichotomy j i with hlt | h | hlt
         · exact absurd (by rw [List.getElem_map, List.getElem_map, Array.getElem_toList, Array.getElem_toList]; exact hb) (hp j i (by simpa using hj') (by simpa using hi) hlt)
         · exact h
         · exact absurd (by rw [List.getElem_map, List.getElem_map, Array.getElem_toList, Array.getElem_toList]; exact hb.symm) (hp i j (by simpa using hi) (by simpa using hj') hlt)
        subst this; rfl
      · intro hk;have : j = i := idx_of_key hnl hjl hil hk;subst this; rfl
     rw [e1];exact filter_kvs _ h3
   · exact List.Sublist.trans List.filter_sublist h4
 · intro w' hb hr;have hin : L[i] ∈ es.toList := hmem _ (by simp);have hg3 := run_getObj_at (P := P) (hb.trans h1) (by simp);have hg4 := run_getObj_at (P := P) hr (by simp);have hfind : es.find? (fun e => e.born == (L[i]).born) = some L[i] := by
    rw [← Array.find?_toList];rw [List.find?_eq_some_iff_getElem];refine ⟨by simp, ?_⟩;obtain ⟨j, hj, hje⟩ := List.getElem_of_mem hin;refine ⟨j, hj, hje, ?_⟩;intro m hm;have hp := List.pairwise_iff_getElem.1 g5;have := hp m j (by simp at hj ⊢; omega) (by simpa using hj) hm;simp only [List.getElem_map, hje] at this;simpa using this
   unfold Instr.entry;simp only [Sem.run_bind, hg4, Result.andThen_ok, Array.back?_push, hg3, bne_self_eq_false, Bool.false_eq_true, if_false, hfind, Sem.run_pure, hkv.1, hkv.2]
end Go.Proofs.YtelghmmcbgfjnaaGreat
