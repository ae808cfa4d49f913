/-
  Generic laws of slices for the heap seats: a slice that is nil, empty without room, or begins at the head of a block of its own; append, also of fresh zeros. (A part of the proof, joined of: Row; made smaller.)
-/
import Derived.Test.YtelghmmcbgfjnaaGreatH01
import Derived.ArgAppend
import Derived.Deep.Upon
import Derived.Lib.AppendZerosOnto
namespace Go.Proofs.YtelghmmcbgfjnaaGreat
variable {P : Program} {a : Option Addr} {b cap g m n sz : Nat} {cur : Array Value} {e : TypeId} {news xs : List Value} {v x : Value} {w w' : World}
open Go.RowKit
def rowBlk : Value → Option Nat
 | .slice (some a) _ (_ + 1) => some a.block
 | _ => none
def Row (w : World) (e : TypeId) (sz : Nat) (v : Value) (n : Nat) (xs : List Value) : Prop :=
 xs.length = n * sz ∧ n ≤ maxLen ∧
 ((n = 0 ∧ ∃ a, v = .slice a 0 0) ∨
  ∃ g cap cur, v = .slice (some ⟨g, 0, none⟩) n (cap + 1) ∧ w.heap[g]? = some (.cells cur e (0, 0)) ∧ n ≤ cap + 1 ∧ cap + 1 ≤ maxLen ∧ cur.size = (cap + 1) * sz ∧ cur.toList.take (n * sz) = xs)
theorem Row.nil (w : World) (e : TypeId) (sz : Nat) : Row w e sz (.slice none 0 0) 0 [] := ⟨by simp, by simp, .inl ⟨rfl, none, rfl⟩⟩
theorem Row.len (h : Row w e sz v n xs) : xs.length = n * sz := h.1
theorem Row.same (h : Row w e sz v n xs) (hw : ∀ g, rowBlk v = some g → w'.heap[g]? = w.heap[g]?) : Row w' e sz v n xs := by
 obtain ⟨h1, h2, h3⟩ := h;refine ⟨h1, h2, h3.imp id ?_⟩;rintro ⟨g, cap, cur, rfl, hg, h4⟩;exact ⟨g, cap, cur, rfl, by rw [hw g rfl, hg], h4⟩
theorem Row.lt (h : Row w e sz v n xs) (hg : rowBlk v = some g) : g < w.heap.size := by
 obtain ⟨h1, h2, ⟨_, a, rfl⟩ | ⟨g', cap, cur, rfl, h4, h5⟩⟩ := h
 · cases a <;> simp [rowBlk] at hg
 · simp only [rowBlk, Option.some.injEq] at hg; subst hg; exact lt_of_block h4
theorem Row.slice (h : Row w e sz v n xs) : ∃ a cap, v = .slice a n cap ∧ n ≤ cap ∧ cap ≤ maxLen ∧ (n = 0 ∨ ∃ g, a = some ⟨g, 0, none⟩ ∧ rowBlk v = some g) := by
 obtain ⟨h1, h2, ⟨rfl, a, rfl⟩ | ⟨g', cap, cur, rfl, h4, h5, h6, _⟩⟩ := h
 · exact ⟨a, 0, rfl, by simp, by simp, .inl rfl⟩
 · exact ⟨_, _, rfl, h5, h6, .inr ⟨g', rfl, rfl⟩⟩
theorem Row.cells (h : Row w e sz (.slice a n cap) n xs) (hn : 0 < n) : ∃ g, a = some ⟨g, 0, none⟩ ∧ rowBlk (.slice a n cap) = some g ∧
 ∀ j u, xs[j]? = some u → w.cell? ⟨g, j, none⟩ = some u := by
 obtain ⟨h1, h2, ⟨rfl, a, h3⟩ | ⟨g', cap, cur, h3, h4, h5, h6, h7, h8⟩⟩ := h
 · omega
 · simp only [Value.slice.injEq] at h3;obtain ⟨rfl, -, rfl⟩ := h3;refine ⟨g', rfl, rfl, ?_⟩;intro j u hj;rw [cellAt h4, ← Array.getElem?_toList];have hlt : j < n * sz := by rw [← h1]; exact (List.getElem?_eq_some_iff.1 hj).1
   rw [← h8, List.getElem?_take, if_pos hlt] at hj;exact hj
theorem Row.free (h : Row w e sz v n xs) (hg : rowBlk v = some g) (i : Nat) : w.frozen? ⟨g, i, none⟩ = false := by
 obtain ⟨h1, h2, ⟨_, a, rfl⟩ | ⟨g', cap, cur, rfl, h4, h5⟩⟩ := h
 · cases a <;> simp [rowBlk] at hg
 · simp only [rowBlk, Option.some.injEq] at hg; subst hg; exact freeAt h4 i
theorem Row.of_owns (h : w.ownsRow 0 e sz v n xs) (hn : n ≤ maxLen) : Row w e sz v n xs := by
 obtain ⟨h1, ⟨rfl, rfl⟩ | ⟨g, cap, cur, rfl, _, h2, h3, h4, h5, h6⟩⟩ := h
 · exact ⟨h1, hn, .inl ⟨rfl, none, rfl⟩⟩
 · cases cap with
   | zero => obtain rfl : n = 0 := by omega
             exact ⟨h1, hn, .inl ⟨rfl, _, rfl⟩⟩
   | succ cap => exact ⟨h1, hn, .inr ⟨g, cap, cur, rfl, h2, h3, h4, h5, h6⟩⟩
theorem Row.owns (h : Row w e sz v n xs) (hg : rowBlk v = some g) : w.ownsRow 0 e sz v n xs := by
 obtain ⟨h1, h2, ⟨_, a, rfl⟩ | ⟨g', cap, cur, rfl, h4, h5⟩⟩ := h
 · cases a <;> simp [rowBlk] at hg
 · exact ⟨h1, .inr ⟨g', cap + 1, cur, rfl, Nat.zero_le _, h4, h5⟩⟩
def Src' (w : World) (sz : Nat) (x : Value) (m : Nat) (news : List Value) : Prop :=
 news.length = m * sz ∧ ((∃ a c, x = .slice (some a) m c ∧ ∀ j u, news[j]? = some u → w.cell? (a.add j) = some u) ∨ (m = 0 ∧ ∃ a c, x = .slice a 0 c))
theorem Row.src (h : Row w e sz v n xs) : Src' w sz v n xs := by
 obtain ⟨a, cap, rfl, h2, h3, h4⟩ := h.slice;refine ⟨h.1, ?_⟩;rcases h4 with rfl | ⟨g, rfl, hg⟩
 · exact .inr ⟨rfl, a, cap, rfl⟩
 · rcases Nat.eq_zero_or_pos n with rfl | hn
   · exact .inr ⟨rfl, _, cap, rfl⟩
   · obtain ⟨g', hg', _, hc⟩ := h.cells hn;simp only [Option.some.injEq, Addr.mk.injEq, and_true] at hg';subst hg';exact .inl ⟨_, cap, rfl, fun j u hj => by rw [Addr.add_lit, Nat.zero_add]; exact hc j u hj⟩
theorem grownBy_chg {row : Option Nat} (h : w.grownBy w' row) : Chg (fun b => row = some b) w w' :=
 ⟨h.os, h.tape, h.output, h.size, fun k hk hn => h.block k hk (fun e => hn e.symm)⟩
theorem rowBlk_own (h : rowBlk v = some g) : v.ownBlock = some g := by
 cases v <;> simp [rowBlk] at h
 rename_i a n c
 cases a <;> cases c <;> simp at h
 simpa [Value.ownBlock] using h
theorem run_append_row (t ty e : TypeId) (i : TypeInfo) (z : Value) (sz bytes : Nat) (ht : P.underlying t = some (.slice e)) (hi : P.info? e = some i) (hz : i.zero = some z)
 (hsize : i.size = sz) (hby : i.bytes = bytes) (hzs : z.cells.size = sz) (hsz : 0 < sz)
 (hr : Row w e sz v n xs) (hx : Src' w sz x m news) (h1 : ∀ u ∈ news, u.oneCell' = true)
 (h63 : n + m ≤ maxLen) (hbytes : (n + m) * bytes ≤ 140737488355328) :
 ∃ v' w', (Builtin.append_ #[t, t] ty #[v, x]).run P w = .ok v' w' ∧ Row w' e sz v' (n + m) (xs ++ news) ∧ Chg (fun b => rowBlk v = some b) w w' ∧ (∀ b, rowBlk v' = some b → rowBlk v = some b ∨ w.heap.size ≤ b) := by
 obtain ⟨hl, ⟨a, c, rfl, hnews⟩ | ⟨rfl, a, c, rfl⟩⟩ := hx
 · cases hb : rowBlk v with
   | some g =>
     obtain ⟨v', w', hrun, ho, hg, hnil, hloc⟩ := run_append_own_at (P := P) w 0 t ty e i z sz bytes ht hi hz hsize hby hzs hsz v n xs (hr.owns hb) a m c news hl hnews h1 h63 hbytes (Nat.zero_le _);have hob := rowBlk_own hb;refine ⟨v', w', hrun, Row.of_owns ho h63, (grownBy_chg hg).mono (fun j _ hj => by rw [hob] at hj; exact hj), ?_⟩;intro b' hb';rcases hloc with h | h
     · left; rw [rowBlk_own hb', hob] at h; exact h.symm
     · right;have := rowBlk_own hb';rw [h] at this;simp only [Option.some.injEq] at this;omega
   | none =>
     obtain ⟨h1', h2', ⟨rfl, a0, rfl⟩ | ⟨g', cap, cur, rfl, _⟩⟩ := hr
     · have hxs : xs = [] := List.eq_nil_of_length_eq_zero (by simpa using h1');subst hxs;simp only [Nat.zero_add, List.nil_append] at *;rcases Nat.eq_zero_or_pos m with rfl | hm
       · have hn : news = [] := List.eq_nil_of_length_eq_zero (by simpa using hl);subst hn;refine ⟨.slice a0 0 0, w, ?_, ⟨by simp, by simp, .inl ⟨rfl, a0, rfl⟩⟩, Chg.refl _ _, fun b hb => by cases a0 <;> simp [rowBlk] at hb⟩;cases a0 <;> simp [Builtin.append_, run_underlying ht, sizeOf, typeInfo, hi, Builtin.lenOf, Builtin.firstCells, loadCells, loadCellsFrom, storeCells]
       · cases a0 with
         | none =>
           obtain ⟨v', w', hrun, ho, hg, hnil, hloc⟩ := run_append_own_at (P := P) w 0 t ty e i z sz bytes ht hi hz hsize hby hzs hsz (.slice none 0 0) 0 [] (World.ownsRow_nil w 0 e sz) a m c news hl hnews h1 (by omega) (by simpa using hbytes) (Nat.zero_le _);simp only [Nat.zero_add, List.nil_append] at ho;refine ⟨v', w', hrun, Row.of_owns ho h63, (grownBy_chg hg).mono (fun j _ hj => by simp [Value.ownBlock] at hj), ?_⟩;intro b' hb';rcases hloc with h | h
           · rw [rowBlk_own hb'] at h; simp [Value.ownBlock] at h
           · right;have := rowBlk_own hb';rw [h] at this;simp only [Option.some.injEq] at this;omega
         | some b0 =>
           obtain ⟨v', w', hrun, ho, hg⟩ := run_append_arg_grows (P := P) w t ty e i z sz bytes ht hi hz hsize hby hzs hsz b0 0 0 [] (by simp) (by simp) a m c news hl hnews (by omega) (by omega) (by simpa using hbytes);simp only [Nat.zero_add, List.nil_append] at ho;have ho' : w'.ownsRow 0 e sz v' m news := ⟨ho.1, ho.2.imp id (fun ⟨g, cap, cur, h1, _, h2⟩ => ⟨g, cap, cur, h1, Nat.zero_le _, h2⟩)⟩;refine ⟨v', w', hrun, Row.of_owns ho' h63, (grownBy_chg hg).mono (fun j _ hj => by simp at hj), ?_⟩;intro b' hb';right;exact (ho.lt b' (rowBlk_own hb')).1
     · simp [rowBlk] at hb
 · have hn : news = [] := List.eq_nil_of_length_eq_zero (by simpa using hl);subst hn;obtain ⟨a', cap, rfl, hle, _, _⟩ := hr.slice;refine ⟨.slice a' n cap, w, ?_, by simpa using hr, Chg.refl _ _, fun b hb => .inl hb⟩;cases a' <;> cases a <;> simp [Builtin.append_, run_underlying ht, sizeOf, typeInfo, hi, Builtin.lenOf, Builtin.firstCells, loadCells, loadCellsFrom, storeCells, hle]
theorem src_block {f : Nat × Nat} (h : w.heap[b]? = some (.cells cur e f)) {c : Nat} (hl : news.length = m * sz) (ht : cur.toList.take (m * sz) = news) :
 Src' w sz (.slice (some ⟨b, 0, none⟩) m c) m news := by
 refine ⟨hl, .inl ⟨_, c, rfl, ?_⟩⟩;intro j u hj;rw [Addr.add_lit, Nat.zero_add, cellAt h, ← Array.getElem?_toList];have hlt : j < m * sz := by rw [← hl]; exact (List.getElem?_eq_some_iff.1 hj).1
 rw [← ht, List.getElem?_take, if_pos hlt] at hj;exact hj
theorem Row.part (h : Row w e sz (.slice (some ⟨g, 0, none⟩) n cap) n xs) (lo m c : Nat) (hm : lo + m ≤ n) :
 Src' w sz (.slice (some ⟨g, lo * sz, none⟩) m c) m ((xs.drop (lo * sz)).take (m * sz)) := by
 refine ⟨?_, ?_⟩
 · rw [List.length_take, List.length_drop, h.1, ← Nat.sub_mul];exact Nat.min_eq_left (Nat.mul_le_mul_right _ (by omega))
 · rcases Nat.eq_zero_or_pos m with rfl | hp
   · exact .inr ⟨rfl, _, c, rfl⟩
   · obtain ⟨g', hg', _, hc⟩ := h.cells (by omega);simp only [Option.some.injEq, Addr.mk.injEq, and_true] at hg';subst hg';refine .inl ⟨_, c, rfl, ?_⟩;intro j u hj;rw [Addr.add_lit];apply hc;rw [List.getElem?_take] at hj
     split at hj
     · rw [List.getElem?_drop] at hj; exact hj
     · cases hj
theorem Row.setCell (h : Row w e sz v n xs) (hg : rowBlk v = some g) (j : Nat) (u : Value) :
 Row (w.setCell ⟨g, j, none⟩ u) e sz v n (xs.set j u) := by
 obtain ⟨h1, h2, ⟨_, a, rfl⟩ | ⟨g', cap, cur, rfl, h4, h5, h6, h7, h8⟩⟩ := h
 · cases a <;> simp [rowBlk] at hg
 · simp only [rowBlk, Option.some.injEq] at hg;subst hg;refine ⟨by simpa using h1, h2, .inr ⟨g', cap, _, rfl, heap_setCell h4 _ _, h5, h6, by simpa using h7, ?_⟩⟩;rw [Array.toList_setIfInBounds, List.take_set, h8]
theorem Row.shrink (h : Row w e sz (.slice a n cap) n xs) (k : Nat) (hk : k ≤ n) : Row w e sz (.slice a k cap) k (xs.take (k * sz)) := by
 obtain ⟨h1, h2, ⟨rfl, a', h3⟩ | ⟨g', cap', cur, h3, h4, h5, h6, h7, h8⟩⟩ := h
 · obtain rfl : k = 0 := by omega
   simp only [Value.slice.injEq] at h3;obtain ⟨rfl, -, rfl⟩ := h3;exact ⟨by simp, by simp, .inl ⟨rfl, a, rfl⟩⟩
 · simp only [Value.slice.injEq] at h3;obtain ⟨rfl, -, rfl⟩ := h3;have hle : k * sz ≤ n * sz := Nat.mul_le_mul_right _ hk;refine ⟨by rw [List.length_take, h1]; omega, by omega, .inr ⟨g', cap', cur, rfl, h4, by omega, h6, h7, ?_⟩⟩;rw [← h8, List.take_take, Nat.min_eq_left hle]
theorem run_append_zeros_row (t tn ty e : TypeId) (i : TypeInfo) (z : Value) (sz bytes : Nat) (ht : P.underlying t = some (.slice e)) (htn : P.underlying tn = some (.int .i64)) (hi : P.info? e = some i) (hz : i.zero = some z)
 (hsize : i.size = sz) (hby : i.bytes = bytes) (hzs : z.cells.size = sz) (hsz : 0 < sz) (hone : ∀ u ∈ z.cells.toList, u.oneCell' = true)
 (hr : Row w e sz v n xs) (k : Nat) (h63 : n + k ≤ maxLen) (hbytes : (n + k) * bytes ≤ 140737488355328) :
 ∃ v' w', (Builtin.append_ #[t, tn] ty #[v, .int .i64 k]).run P w = .ok v' w' ∧ Row w' e sz v' (n + k) (xs ++ (Builtin.zeroCells z.cells k).toList) ∧ Chg (fun b => rowBlk v = some b) w w' ∧ (∀ b, rowBlk v' = some b → rowBlk v = some b ∨ w.heap.size ≤ b) := by
 subst hsize;subst hby;have h63' : n + k ≤ 9223372036854775807 := by simp only [maxLen] at h63; omega
 have hzl : (Builtin.zeroCells z.cells k).toList.length = k * i.size := by rw [Array.length_toList, size_zeroCells, hzs]
 obtain ⟨a', cap, rfl, hle, hcm, hcase⟩ := hr.slice;have hwk : IntKind.i64.wrap (k : Int) = k := by rw [IntKind.wrap_i64]; omega
 have hneg : ¬ ((k : Int) < 0) := by omega
 have hkb : k * i.bytes ≤ (n + k) * i.bytes := Nat.mul_le_mul_right _ (by omega);have h48i : ¬ (281474976710656 < (k : Int) * (i.bytes : Int)) := by rw [← Int.natCast_mul]; omega
 rcases Nat.eq_zero_or_pos k with rfl | hk
 · have hz0 : (Builtin.zeroCells z.cells 0).toList = [] := List.eq_nil_of_length_eq_zero (by simpa using hzl);refine ⟨.slice a' n cap, w, ?_, by rw [hz0]; simpa using hr, Chg.refl _ _, fun b hb => .inl hb⟩;have hw0 : IntKind.i64.wrap 0 = 0 := by decide
   cases a' <;> simp [Builtin.append_, run_underlying ht, run_underlying htn, sizeOf, typeInfo, hi, asInt, asIntOf, hw0, storeCells, hle]
 · by_cases hroom : n + k ≤ cap
   · obtain ⟨h1, h2, ⟨rfl, a2, h3⟩ | ⟨g, cap', cur, h3, h4, h5, h6, h7, h8⟩⟩ := hr
     · simp only [Value.slice.injEq] at h3;omega
     · simp only [Value.slice.injEq] at h3;obtain ⟨rfl, -, rfl⟩ := h3;have hcc : (n + k) * i.size ≤ cur.size := by rw [h7]; exact Nat.mul_le_mul_right _ hroom
       have hsum : n * i.size + k * i.size = (n + k) * i.size := by rw [Nat.add_mul]
       have hst := run_storeCells_at P g (n * i.size) e (Builtin.zeroCells z.cells k).toList 0 cur w h4 (by rw [hzl]; omega)
        (fun u hu => by
         rw [Array.mem_toList_iff] at hu;simp only [Builtin.zeroCells, Array.mem_map, Array.mem_range] at hu;obtain ⟨q, hq, rfl⟩ := hu;have hpos : 0 < z.cells.size := by omega
         have hlt : q % z.cells.size < z.cells.size := Nat.mod_lt _ hpos;simp only [hlt, getElem!_pos];exact hone _ (by simp))
       simp only [Nat.add_zero] at hst;have hns : ¬ (k * i.size = 0) := Nat.mul_ne_zero (by omega) (by omega);obtain ⟨C, hC⟩ : ∃ C, C = (cur.toList.take (n * i.size) ++ (Builtin.zeroCells z.cells k).toList ++ cur.toList.drop (n * i.size + (Builtin.zeroCells z.cells k).toList.length)).toArray := ⟨_, rfl⟩;rw [← hC] at hst;refine ⟨.slice (some ⟨g, 0, none⟩) (n + k) (cap' + 1), w.setRow g C, ?_, ?_, ?_, fun b hb => .inl (by simpa [rowBlk] using hb)⟩
       · simp [Builtin.append_, run_underlying ht, run_underlying htn, sizeOf, typeInfo, zeroValue, hi, hz, asInt, asIntOf, hwk, hneg, h48i, hroom, Addr.add_lit, hst];exact fun h => absurd h hns
       · have hb := setRow_heap w g cur C e (0, 0) h4;rw [hC] at hb ⊢;refine ⟨by rw [List.length_append, h1, hzl, hsum], h63, .inr ⟨g, cap', _, rfl, hb, hroom, h6, ?_, ?_⟩⟩
         · simp only [List.size_toArray, List.length_append, List.length_take, List.length_drop, Array.length_toList, hzl];omega
         · simp only [];rw [h8];have : (xs ++ (Builtin.zeroCells z.cells k).toList).length = (n + k) * i.size := by rw [List.length_append, h1, hzl, hsum]
           rw [← this];exact List.take_left
       · exact ⟨rfl, rfl, rfl, by simp, fun k _ hk => setRow_other w g k _ (fun e => hk (by simp [rowBlk, e]))⟩
   · have hold : (Builtin.firstCells i.size n (.slice a' n cap)).run P w.drew = .ok xs.toArray w.drew := by
      cases a' with
      | none =>
        rcases hcase with rfl | ⟨g, hg, _⟩
        · have : xs = [] := List.eq_nil_of_length_eq_zero (by simpa using hr.1);subst this;exact run_firstCells_none (P := P) w.drew i.size 0 0 cap
        · cases hg
      | some b =>
        rcases Nat.eq_zero_or_pos n with rfl | hn
        · have : xs = [] := List.eq_nil_of_length_eq_zero (by simpa using hr.1);subst this;exact run_firstCells_some (P := P) w.drew i.size 0 b 0 cap [] (by simp) (by simp)
        · obtain ⟨g, hg, _, hc⟩ := hr.cells hn;simp only [Option.some.injEq] at hg;subst hg;exact run_firstCells_some (P := P) w.drew i.size n ⟨g, 0, none⟩ n cap xs hr.1 (fun j u hj => by rw [Addr.add_lit, Nat.zero_add]; exact hc j u hj)
     have hrun := Lib.run_append_grow_zeros (P := P) w t tn ty e i z .i64 .i64 ht htn hi hz a' n cap xs hold k hk hsz (by omega) (by omega) (by omega) (growslice_fits (by omega) hbytes);have hge := grownCap_ge w (n + k) cap e;have hcm2 : grownCap w (n + k) cap e ≤ maxLen := grownCap_le_maxLen w (n + k) cap e h63;refine ⟨_, _, hrun, ?_, (Chg.refl _ _).drew.alloc _, ?_⟩
     · refine Row.of_owns ⟨by rw [List.length_append, hr.1, hzl, Nat.add_mul], .inr ⟨w.heap.size, _, _, rfl, Nat.zero_le _, heap_alloc_new w.drew _, hge, hcm2, ?_, ?_⟩⟩ h63
       · simp only [Array.size_append, List.size_toArray, size_zeroCells, hzs, hr.1, ← Nat.add_mul]
         congr 1
         omega
       · simp only [Array.toList_append];have : (xs ++ (Builtin.zeroCells z.cells k).toList).length = (n + k) * i.size := by rw [List.length_append, hr.1, hzl, Nat.add_mul]
         rw [← this];exact List.take_left
     · intro b hb;right;have := rowBlk_own hb;simp only [Value.ownBlock, Option.some.injEq] at this;omega
section
variable {P : Program} {ops : Array Oper} {Q : Exit → Act → World → Prop} {a : Act} {w : World} {rest : List Oper} {o : Oper}
theorem wpList_val (hg : o.guard = none) (hrun : (execOp a.eval o).run P w = .ok (.value v) w') (h : wpList P ops Q rest (a.put o.dst v) w') : wpList P ops Q (o :: rest) a w :=
 wpList_plain hg fun K hK => by unfold Oper.wp; rw [hrun]; exact hK _ _ h
theorem step_val {K : Act → World → Prop} {E : Prop} (hg : o.guard = none) (hrun : (execOp a.eval o).run P w = .ok (.value v) w') (h : K (a.put o.dst v) w') :
 if Region.wanted o (yielded ops a.tmps) = true then Oper.wp P o a w K Q else E := by
 rw [if_pos (by simp [Region.wanted, hg])];unfold Oper.wp;rw [hrun];exact h
theorem exec_builtin {b : Builtin} {args : Array Operand} {ts : Array TypeId} {vs : Array Value} (hop : o.op = Op.call { callee := Callee.builtin b, args := args, argTypes := ts }) (hvs : args.map a.eval = vs)
 (hb : ∀ c, builtin b ts o.type c vs = (do pure (.value (← (match b with | .append => Builtin.append_ ts o.type vs | .delete => Builtin.delete_ ts o.type vs | .len => Builtin.len_ ts o.type vs | .clear => Builtin.clear_ ts o.type vs | .copy => Builtin.copy_ ts o.type vs | _ => stuck "")))))
 (hrun : (match b with | .append => Builtin.append_ ts o.type vs | .delete => Builtin.delete_ ts o.type vs | .len => Builtin.len_ ts o.type vs | .clear => Builtin.clear_ ts o.type vs | .copy => Builtin.copy_ ts o.type vs | _ => stuck "").run P w = .ok v w') :
 (execOp a.eval o).run P w = .ok (.value v) w' := by
 subst hvs;simp only [execOp, hop, resolve, invoke, Sem.run_bind, Sem.run_pure, Result.andThen_ok, hb, hrun]
theorem exec_append {s x : Operand} {t t' : TypeId} (hop : o.op = Op.call { callee := Callee.builtin .append, args := #[s, x], argTypes := #[t, t'] }) 
 (hrun : (Builtin.append_ #[t, t'] o.type #[a.eval s, a.eval x]).run P w = .ok v w') : (execOp a.eval o).run P w = .ok (.value v) w' :=
 exec_builtin hop (by simp) (fun _ => rfl) hrun
theorem exec_range {T : TypeId} {x : Operand} (hop : o.op = Op.range T x) 
 (hrun : (Instr.range T (a.eval x)).run P w = .ok v w') : (execOp a.eval o).run P w = .ok (.value v) w' := by
 simp only [execOp, hop, Sem.run_bind, Sem.run_pure, Result.andThen_ok, hrun]
theorem exec_next {x : Operand} {s : Bool} (hop : o.op = Op.next x s) 
 (hrun : (Instr.next (a.eval x) s o.type).run P w = .ok v w') : (execOp a.eval o).run P w = .ok (.value v) w' := by
 simp only [execOp, hop, Sem.run_bind, Sem.run_pure, Result.andThen_ok, hrun]
end
theorem run_copy_at (t t' ty e : TypeId) (i : TypeInfo) (sz : Nat) (ht : P.underlying t = some (.slice e)) (hi : P.info? e = some i) (hsize : i.size = sz)
 (hb : w.heap[b]? = some (.cells cur e (0, 0))) (off k c : Nat) (hx : Src' w sz x m news) (hk : k = m) (h1 : ∀ u ∈ news, u.oneCell' = true) (hfit : off + news.length ≤ cur.size) :
 (Builtin.copy_ #[t, t'] ty #[.slice (some ⟨b, off, none⟩) k c, x]).run P w = .ok (.int .i64 m) (w.setRow b (cur.toList.take off ++ news ++ cur.toList.drop (off + news.length)).toArray) := by
 subst hsize;subst hk;have hst := run_storeCells_at P b off e news 0 cur w hb (by simpa using hfit) h1;simp only [Nat.add_zero] at hst;obtain ⟨hl, ⟨a, c', rfl, hnews⟩ | ⟨rfl, a, c', rfl⟩⟩ := hx
 · have hf := run_firstCells_some (P := P) w i.size k a k c' news hl hnews;simp [Builtin.copy_, run_underlying ht, sizeOf, typeInfo, hi, Builtin.lenOf, hf, hst, goInt]
 · have hn : news = [] := List.eq_nil_of_length_eq_zero (by simpa using hl);subst hn;have hf : (Builtin.firstCells i.size 0 (.slice a 0 c')).run P w = .ok #[] w := by
    cases a
    · simp [Builtin.firstCells]
    · simp [Builtin.firstCells, loadCells, loadCellsFrom]
   simp [Builtin.copy_, run_underlying ht, sizeOf, typeInfo, hi, Builtin.lenOf, hf, goInt] at hst ⊢;rw [hst];rfl
theorem chg_setRow {F : Nat → Prop} {a b : World} (h : Chg F a b) {r : Nat} (hr : r < a.heap.size → F r) (cs : Array Value) : Chg F a (b.setRow r cs) :=
 ⟨h.os, h.tape, h.output, by rw [size_setRow]; exact h.size, fun k hk hn => by
  by_cases e : k = r
  · subst e; exact absurd (hr hk) hn
  · rw [setRow_other _ _ _ _ e]; exact h.block k hk hn⟩
end Go.Proofs.YtelghmmcbgfjnaaGreat
