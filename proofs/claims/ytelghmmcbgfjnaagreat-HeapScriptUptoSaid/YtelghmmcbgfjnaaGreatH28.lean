/-
  collect of the reference's graph: the parts. (A part of the proof, joined of: Sj, Sk; made smaller.)
-/
import Derived.Test.YtelghmmcbgfjnaaGreatH27
set_option maxHeartbeats 8000000
set_option maxRecDepth 100000
namespace Go.Proofs.YtelghmmcbgfjnaaGreat
variable {G : GS} {Lg : List Nat} {W w : World} {hb pb : Nat} {x : GN}
open Go.RowKit
theorem setCells_one (w : World) (b k : Nat) (u : Value) : w.setCells b k [u] = w.setCell ⟨b, k, none⟩ u := by simp [World.setCells]
theorem appQ {v : Value} {l : List Int} (h : QRow w v l) (x : Int) (hl : l.length ≤ 100000) :
 ∃ a cap w', (Builtin.append_ #[23, 23] 23 #[v, .slice (some ⟨w.heap.size, 0, none⟩) 1 1]).run Tryz.prog (w.alloc (.cells #[.int .i64 x] 3)) = .ok (.slice a (l.length + 1) cap) w' ∧
   QRow w' (.slice a (l.length + 1) cap) (l ++ [x]) ∧ Chg (fun b => rowBlk v = some b) w w' ∧ (∀ b, rowBlk (.slice a (l.length + 1) cap) = some b → rowBlk v = some b ∨ w.heap.size ≤ b) := by
 obtain ⟨h1, ⟨rfl, a0, rfl⟩ | ⟨b, off, cap, cur, rfl, h3, h4, h5, h6, h7⟩⟩ := h
 · have hrow : Row w 3 1 (.slice a0 0 0) ([] : List Int).length (intCells []) := ⟨by simp [intCells], by simp, .inl ⟨rfl, a0, rfl⟩⟩;obtain ⟨a, c, w', g1, g2, g3, g4⟩ := appOne hrow x (by simp);exact ⟨a, c, w', g1, by have := g2.q; simpa using this, g3, g4⟩
 · obtain ⟨i0, hi, hz0, hz1, hz2⟩ := info_parts iInt;have hC1 : Chg (fun _ => False) w (w.alloc (.cells #[.int .i64 x] 3)) := (Chg.refl _ _).alloc _;have h3' := hC1.at h3 fun h => h;have hblt := lt_of_block h3;have hsrc : ∀ j u, ([Value.int .i64 x] : List Value)[j]? = some u → (w.alloc (.cells #[.int .i64 x] 3)).cell? ((⟨w.heap.size, 0, none⟩ : Addr).add j) = some u := fun j u hj => by
    rw [Addr.add_lit, Nat.zero_add, cellAt (heap_alloc_new w _)];simpa using hj
   by_cases hroom : l.length + 1 ≤ cap + 1
   · have hrun := run_append_room_cells (P := Tryz.prog) (w := w.alloc (.cells #[.int .i64 x] 3)) 23 23 3 i0 uInts hi b off l.length (cap + 1) ⟨w.heap.size, 0, none⟩ 1 1 [.int .i64 x] (by simp [hz1]) hsrc (by simp [Value.oneCell']) hroom (fun j hj => by
      simp only [List.length_singleton] at hj;obtain rfl : j = 0 := by omega
      rw [cellAt h3', hz1, Array.getElem?_eq_getElem (by omega)]; rfl) (fun j hj => freeAt h3' _)
     rw [hz1, Nat.mul_one, setCells_one] at hrun;have hset := heap_setCell h3' (off + l.length) (.int .i64 x);refine ⟨_, _, _, hrun, ⟨by simp only [List.length_append, List.length_singleton]; unfold maxLen; omega, .inr ⟨b, off, cap, _, by rw [List.length_append]; rfl, hset, by simp only [List.length_append, List.length_singleton]; omega, by simpa using h5, h6, ?_⟩⟩, Chg.setCell (F := fun b' => rowBlk (.slice (some ⟨b, off, none⟩) l.length (cap + 1)) = some b') (hC1.mono fun _ _ h => h.elim) (p := ⟨b, off + l.length, none⟩) (fun _ => rfl) _, fun b' hb' => .inl hb'⟩;have h8 : (cur.setIfInBounds (off + l.length) (.int .i64 x)).toList = cur.toList.set (off + l.length) (.int .i64 x) := by simp
     rw [h8];refine List.ext_getElem? fun j => ?_;have h9 : ∀ j, j < l.length → cur.toList[off + j]? = (intCells l)[j]? := fun j hj => by
      have := congrArg (fun l => l[j]?) h7;simp only [List.getElem?_take_of_lt hj, List.getElem?_drop] at this;exact this
     have h10 : intCells (l ++ [x]) = intCells l ++ [.int .i64 x] := by simp [intCells]
     have h11 : (intCells l).length = l.length := by simp [intCells]
     rw [h10];by_cases hj : j < l.length + 1
     · rw [List.getElem?_take_of_lt (by simpa using hj), List.getElem?_drop];by_cases hj2 : j < l.length
       · rw [List.getElem?_set_ne (by omega), List.getElem?_append_left (by omega)];exact h9 j hj2
       · obtain rfl : j = l.length := by omega
         rw [List.getElem?_set_self (by simp; omega), List.getElem?_append_right (by omega), h11];simp
     · rw [List.getElem?_eq_none (by simp; omega), List.getElem?_eq_none (by simp [intCells]; omega)]
   · have hcells : ∀ j u, (intCells l)[j]? = some u → (w.alloc (.cells #[.int .i64 x] 3)).cell? ((⟨b, off, none⟩ : Addr).add j) = some u := fun j u hj => by
      have hjl : j < l.length := by have := (List.getElem?_eq_some_iff.1 hj).1; simpa [intCells] using this
      rw [Addr.add_lit, cellAt h3'];have := congrArg (fun l => l[j]?) h7;simp only [List.getElem?_take_of_lt hjl, List.getElem?_drop, Array.getElem?_toList] at this;rw [this]; exact hj
     obtain ⟨v', w', hrun, ho, hg⟩ := run_append_arg_grows (P := Tryz.prog) (w := w.alloc (.cells #[.int .i64 x] 3)) 23 23 3 i0 _ 1 8 uInts hi hz0 hz1 hz2 rfl (by decide) ⟨b, off, none⟩ l.length (cap + 1) (intCells l) (by simp [intCells]) hcells ⟨w.heap.size, 0, none⟩ 1 1 [.int .i64 x] rfl hsrc (by omega) (by unfold maxLen; omega) (by omega);have ho' : w'.ownsRow 0 3 1 v' (l.length + 1) (intCells l ++ [.int .i64 x]) := ⟨ho.1, ho.2.imp id (fun ⟨g, cap, cur, h1, _, h2⟩ => ⟨g, cap, cur, h1, Nat.zero_le _, h2⟩)⟩;have hrow := Row.of_owns ho' (by unfold maxLen; omega);have e10 : intCells l ++ [.int .i64 x] = intCells (l ++ [x]) := by simp [intCells]
     rw [e10] at hrow;have hrow' : Row w' 3 1 v' (l ++ [x]).length (intCells (l ++ [x])) := by rw [List.length_append]; exact hrow
     obtain ⟨a, c, rfl, _, _, _⟩ := hrow.slice;refine ⟨a, c, w', hrun, ?_, (hC1.mono fun _ _ h => h.elim).trans (grownBy_chg hg) fun b hb e => by simp at e, fun b' hb' => .inr ?_⟩
     · have := hrow'.q; simpa using this
     · have := (ho.lt b' (rowBlk_own hb')).1;simp at this; omega
theorem queue_app (hR : GRep w pb hb Lg G) (hl : G.queue.length ≤ 100000) (x : Int) :
 ∃ a c a3 c3 w3, w.cell? ⟨pb, 6, none⟩ = some (.slice a G.queue.length c) ∧
   (Builtin.append_ #[23, 23] 23 #[.slice a G.queue.length c, .slice (some ⟨w.heap.size, 0, none⟩) 1 1]).run Tryz.prog (w.alloc (.cells #[.int .i64 x] 3)) = .ok (.slice a3 (G.queue.length + 1) c3) w3 ∧
   (∃ u, w3.cell? ⟨pb, 6, none⟩ = some u) ∧ w3.frozen? ⟨pb, 6, none⟩ = false ∧
   GGot w pb hb Lg { G with queue := G.queue ++ [x] } (w3.setCell ⟨pb, 6, none⟩ (.slice a3 (G.queue.length + 1) c3)) := by
 obtain ⟨lab, v, hG⟩ := hR;obtain ⟨a, c, ev, c4, _⟩ := hG.queueC;obtain ⟨a3, c3, w3, happ, hrow3, hC3, hloc3⟩ := appQ hG.r4 x (by omega);have hpb : ¬ rowBlk (v 4) = some pb := fun e => by have := (hG.vlab 4 pb (by omega) e).1; have := hG.plab; omega
 have h3 := hC3.at hG.at_ hpb;rw [ev] at happ;refine ⟨a, c, a3, c3, w3, c4, happ, ⟨_, cellAt h3 6⟩, freeAt h3 6, ?_⟩;have hC4 : Chg (fun b => rowBlk (v 4) = some b ∨ b = pb) w (w3.setCell ⟨pb, 6, none⟩ (.slice a3 (G.queue.length + 1) c3)) := (hC3.mono fun _ _ h => .inl h).setCell (fun _ => .inr rfl) _;have hother : ∀ b, b ≠ pb → (w3.setCell ⟨pb, 6, none⟩ (.slice a3 (G.queue.length + 1) c3)).heap[b]? = w3.heap[b]? := fun b hb => heap_setCell_ne hb _;have hnpb : ∀ b, rowBlk (.slice a3 (G.queue.length + 1) c3) = some b → b ≠ pb := fun b hb e => by
  subst e;rcases hloc3 b hb with h5 | h5
  · exact hpb h5
  · have := lt_of_block hG.at_; omega
 refine hG.set 4 (by omega) (v1 := .slice a3 (G.queue.length + 1) c3) hC4 rfl ?_ (fun b hb => ⟨?_, hloc3 b hb⟩) rfl rfl rfl rfl ?_
 · rw [heap_setCell h3]; rfl
 · have := hrow3.lt hb; simpa using this
 · show QRow _ _ _;exact hrow3.same fun b hb => hother b (hnpb b hb)
theorem wanted_adopt {L : List Int} {v1 : Value} (hR : GRep w pb hb Lg G) (hrow : Row w 3 1 v1 L.length (intCells L)) (hv : ∀ b, rowBlk v1 = some b → b ∉ Lg) :
 (∃ u, w.cell? ⟨pb, 5, none⟩ = some u) ∧ w.frozen? ⟨pb, 5, none⟩ = false ∧ GRep (w.setCell ⟨pb, 5, none⟩ v1) pb hb (Lg ++ (rowBlk v1).toList) { G with wanted := L } ∧ Chg (fun b => b ∈ Lg) w (w.setCell ⟨pb, 5, none⟩ v1) := by
 obtain ⟨lab, v, hG⟩ := hR;have hset := heap_setCell hG.at_ 5 v1;have hC : Chg (fun b => b = pb) w (w.setCell ⟨pb, 5, none⟩ v1) := chg_set1 _ _ _ _;have hne : ∀ k b, k < 5 → rowBlk (v k) = some b → b ≠ pb := fun k b hk hb e => by
  have := (hG.vlab k b hk hb).1;have := hG.plab;subst e; omega
 have hne1 : ∀ b, rowBlk v1 = some b → b ≠ pb := fun b hb e => hv b hb (e ▸ hG.pin);refine ⟨⟨_, cellAt hG.at_ 5⟩, freeAt hG.at_ 5, ⟨fun b => if b ∈ Lg then lab b else 3, fun j => if j = 3 then v1 else v j, ?_⟩, hC.mono fun b _ e => e ▸ hG.pin⟩
 refine ⟨by rw [hset]; rfl, fun b hb => ?_, List.mem_append_left _ hG.pin, by simp only [if_pos hG.pin]; exact hG.plab, hG.r0.same fun b hb => hC.block b (hG.r0.lt hb) (hne 0 b (by omega) hb), hG.r1.same fun b hb => hC.block b (hG.r1.lt hb) (hne 1 b (by omega) hb), hG.r2.same fun b hb => hC.block b (hG.r2.lt hb) (hne 2 b (by omega) hb), hrow.same fun b hb => hC.block b (hrow.lt hb) (hne1 b hb), hG.r4.same fun b hb => hC.block b (hG.r4.lt hb) (hne 4 b (by omega) hb), fun j b hj hb => ?_⟩
 · rcases List.mem_append.1 hb with hb | hb
   · exact Nat.lt_of_lt_of_le (hG.lgs b hb) hC.size
   · exact Nat.lt_of_lt_of_le (hrow.lt (by simpa using hb)) hC.size
 · by_cases e : j = 3
   · subst e;simp only [if_true] at hb;rw [if_neg (hv b hb)];exact ⟨rfl, List.mem_append_right _ (by simpa using hb)⟩
   · simp only [if_neg e] at hb;have h := hG.vlab j b hj hb;simp only [if_pos h.2];exact ⟨h.1, List.mem_append_left _ h.2⟩
theorem gnCells_gone (l : List GN) (k : Nat) (x : GN) (hx : l[k]? = some x) (y : Bool) : (gnCells l).set (k * 4 + 3) (.bool y) = gnCells (l.set k { x with gone := y }) := by
 unfold gnCells;have hf : ∀ x : GN, x.cells.length = 4 := fun _ => rfl;refine List.ext_getElem? fun j => ?_;have hk := (List.getElem?_eq_some_iff.1 hx).1;have hlen := flat_len hf l;have hlen2 := flat_len hf (l.set k { x with gone := y });rw [List.length_set] at hlen2;by_cases hj : j < l.length * 4
 · obtain ⟨q, r, hr, rfl⟩ : ∃ q r, r < 4 ∧ j = q * 4 + r := ⟨j / 4, j % 4, Nat.mod_lt _ (by omega), by omega⟩;have hq : q < l.length := by omega
   obtain ⟨z, hz⟩ : ∃ z, l[q]? = some z := ⟨_, List.getElem?_eq_getElem hq⟩;have h1 := flat_get hf l q r z hz hr;by_cases e : q = k
   · subst e;rw [hz] at hx;simp only [Option.some.injEq] at hx;subst hx;have h2 := flat_get hf (l.set q { z with gone := y }) q r _ (List.getElem?_set_self hk) hr;rw [h2];by_cases e3 : r = 3
     · subst e3;rw [List.getElem?_set_self (by rw [hlen]; omega)]; rfl
     · rw [List.getElem?_set_ne (by omega), h1]
       match r, hr, e3 with
       | 0, _, _ => rfl
       | 1, _, _ => rfl
       | 2, _, _ => rfl
       | 3, _, h => exact absurd rfl h
   · have h2 := flat_get hf (l.set k { x with gone := y }) q r z (by rw [List.getElem?_set_ne (Ne.symm e)]; exact hz) hr;rw [h2, List.getElem?_set_ne (by omega), h1]
 · rw [List.getElem?_eq_none (by rw [List.length_set, hlen]; omega), List.getElem?_eq_none (by rw [hlen2]; omega)]
theorem node_gone {k : Nat} (hR : GRep w pb hb Lg G) (hx : G.nodes[k]? = some x) (y : Bool) :
 ∃ b c, w.cell? ⟨pb, 2, none⟩ = some (.slice (some ⟨b, 0, none⟩) G.nodes.length c) ∧ (∃ u, w.cell? ⟨b, k * 4 + 3, none⟩ = some u) ∧ w.frozen? ⟨b, k * 4 + 3, none⟩ = false ∧ GGot w pb hb Lg { G with nodes := G.nodes.set k { x with gone := y } } (w.setCell ⟨b, k * 4 + 3, none⟩ (.bool y)) := by
 obtain ⟨lab, v, hG⟩ := hR;obtain ⟨a, c, ev, c2, hcell⟩ := hG.nodesC;obtain ⟨b, rfl, _, _, _, k3⟩ := hcell k x hx;have hkl := (List.getElem?_eq_some_iff.1 hx).1;have hrb : rowBlk (v 0) = some b := by
  obtain ⟨b', e1, e2, _⟩ := (by have := hG.r0; rw [ev] at this; exact this.cells (by omega));simp only [Option.some.injEq, Addr.mk.injEq, and_true] at e1;rw [ev, e2, e1]
 have hbpb : b ≠ pb := fun e => by
  have := (hG.vlab 0 b (by omega) hrb).1;have := hG.plab;subst e; omega
 have hfree : w.frozen? ⟨b, k * 4 + 3, none⟩ = false := by
  obtain ⟨_, _, ⟨_, a', e⟩ | ⟨g', cap, cur, e, h4, _⟩⟩ := hG.r0
  · rw [e] at hrb; cases a' <;> simp [rowBlk] at hrb
  · rw [e] at hrb; simp only [rowBlk, Option.some.injEq] at hrb; subst hrb;exact freeAt h4 _
 refine ⟨b, c, c2, ⟨_, k3⟩, hfree, ?_⟩;have hC : Chg (fun z => z = b) w (w.setCell ⟨b, k * 4 + 3, none⟩ (.bool y)) := chg_set1 _ _ _ _;refine hG.set 0 (by omega) (v1 := v 0) (hC.mono fun z _ e => .inl (by rw [e]; exact hrb)) rfl (by rw [heap_setCell_ne (Ne.symm hbpb)]; exact hG.at_) (fun z hz => ⟨Nat.lt_of_lt_of_le (hG.r0.lt hz) hC.size, .inl hz⟩) ?_ rfl rfl rfl rfl;show Row _ _ _ _ (G.nodes.set k _).length _;have h1 := hG.r0.setCell hrb (k * 4 + 3) (.bool y);rw [gnCells_gone _ _ x hx] at h1;rw [List.length_set];exact h1
theorem AdG.turn2 {w5 W' : World} {P P' : Nat → Prop} (h : AdG w5 W pb hb Lg G P) (hC : Chg P W W') (h1 : ∀ b, P' b → P b ∨ W.heap.size ≤ b) (h2 : ∀ b, P b → w5.heap.size ≤ b) : AdG w5 W' pb hb Lg G P' := by
 obtain ⟨Li, g1, g2, g3⟩ := h.ex;refine ⟨⟨Li, g1.frame hC fun b hb hp => g3 b hp hb, g2, fun b hp hb => ?_⟩, ?_⟩
 · rcases h1 b hp with h | h
   · exact g3 b h hb
   · have := g1.lgs b hb; omega
 · refine Chg.trans (F := fun b => b ∈ Lg ∨ P' b) (a := w5) (b := W) ?_ hC fun b hb hp => by have := h2 b hp; omega
   exact ⟨h.chg.os, h.chg.tape, h.chg.output, h.chg.size, fun k hk hn => h.chg.block k hk fun hx => hn (hx.imp id fun hp => by have := h2 k hp; omega)⟩
theorem AdG.end_ {P : Nat → Prop} (h : AdG w W pb hb Lg G P) (hL : ∀ b ∈ Lg, b < w.heap.size) (h2 : ∀ b, P b → w.heap.size ≤ b) : GGot w pb hb Lg G W := by
 obtain ⟨Li, g1, g2, _⟩ := h.ex;have hs := h.chg.size;refine ⟨g1.more (fun b hb => (g2 b hb).elim (List.mem_append_left _) fun h => List.mem_append_right _ (mem_since.2 ⟨h, g1.lgs b hb⟩)) fun b hb => ?_, ?_⟩
 · rcases List.mem_append.1 hb with hb | hb
   · have := hL b hb; omega
   · exact (mem_since.1 hb).2
 · exact ⟨h.chg.os, h.chg.tape, h.chg.output, h.chg.size, fun k hk hn => h.chg.block k hk fun hx => hx.elim hn fun hp => by have := h2 k hp; omega⟩
def goneL (l : List GN) (f : Nat → Bool) (i : Nat) : List GN := l.zipIdx.map fun p => if p.2 < i then { p.1 with gone := !f p.2 } else p.1
theorem goneL_get (l : List GN) (f : Nat → Bool) (i j : Nat) : (goneL l f i)[j]? = (l[j]?).map fun x => if j < i then { x with gone := !f j } else x := by
 unfold goneL;rw [List.getElem?_map, List.getElem?_zipIdx, Nat.zero_add, Option.map_map]; rfl
theorem goneL_len (l : List GN) (f : Nat → Bool) (i : Nat) : (goneL l f i).length = l.length := by simp [goneL]
theorem goneL_zero (l : List GN) (f : Nat → Bool) : goneL l f 0 = l := by
 refine List.ext_getElem? fun j => ?_;rw [goneL_get]; cases l[j]? <;> simp
theorem goneL_next {l : List GN} {f : Nat → Bool} {i : Nat} (hx : (goneL l f i)[i]? = some x) : (goneL l f i).set i { x with gone := !f i } = goneL l f (i + 1) := by
 refine List.ext_getElem? fun j => ?_;have hi := (List.getElem?_eq_some_iff.1 hx).1;rw [goneL_get];by_cases e : i = j
 · subst e;rw [List.getElem?_set_self hi];rw [goneL_get] at hx;obtain ⟨y, hy, rfl⟩ := Option.map_eq_some_iff.1 hx;rw [hy];simp
 · rw [List.getElem?_set_ne e, goneL_get];cases l[j]? with
   | none => rfl
   | some y =>
     simp only [Option.map_some, Option.some.injEq];by_cases h : j < i
     · rw [if_pos h, if_pos (by omega)]
     · rw [if_neg h, if_neg (by omega)]
def dropL (G : GS) (f : Nat → Bool) (j : Nat) : Bool := match G.links[j]? with
 | some l => !f l.frm.toNat || (decide (0 ≤ l.key) && !f l.key.toNat)
 | none => false
theorem collect_g {I : IS} (hR : GRep w pb hb Lg G) (hS : GSim G I) (hO : IOk I) (hG : GOk G) (hfew : I.queue.length + I.reg.length ≤ 8000) :
 Calls Tryz.prog 101 #[.pointer (some ⟨pb, 1, none⟩)] w fun e w' => e = .returned (.tuple #[]) ∧ ∃ G', GGot w pb hb Lg G' w' ∧ GSim G' I.majored ∧ G'.links.length ≤ G.links.length := by
 refine ret_k fun K hK => ?_;have HK := Lib.hid hK;have HR := Lib.hid hR;have HS := Lib.hid hS;have HO := Lib.hid hO;have HG := Lib.hid hG;have HL := Lib.hid hR.lgs;have HRe := Lib.hid (reached_g hR hG);obtain ⟨n, hn⟩ : ∃ n, n = G.nodes.length := ⟨_, rfl⟩;have HN : Hid (n = G.nodes.length ∧ n ≤ 9000) := ⟨hn, by rw [hn]; exact hG.few.1⟩;rw [← hn] at HRe;obtain ⟨nw, hnw⟩ : ∃ nw, nw = G.wanted.length := ⟨_, rfl⟩;have HNw : Hid (nw = G.wanted.length ∧ nw ≤ 9000 ∧ I.queue.length + I.reg.length ≤ 8000) := ⟨hnw, by rw [hnw]; exact hG.few.2.2.2.1, hfew⟩;obtain ⟨f1, hf1⟩ : ∃ f1 : Nat → Bool, f1 = fun j : Nat => dec (SReach G.links G.reachP (j : Int)) := ⟨_, rfl⟩;rw [← hf1] at HRe
 have HF1 : Hid (∀ q : Nat, f1 q = dec (IReach I I.roots (q : Int))) := fun q => by rw [hf1]; exact hS.reachM hO q
 obtain ⟨fI, hfI⟩ : ∃ fI : Int → Bool, fI = fun n => dec (IReach I I.roots n) := ⟨_, rfl⟩;have HFI := Lib.hid hfI;have HW : Hid (∀ m ∈ G.wanted, 0 ≤ m ∧ m < n) := fun m hm => by rw [hn]; exact hG.wanted m hm
 have HPin : Hid (pb ∈ Lg) := by obtain ⟨lab, v, hGr⟩ := hR; exact hGr.pin
 clear hK hR hS hO hG hfew hn hnw hf1 hfI
 go_enter Tryz.func101, Tryz.ntmps101
 go_wp2_with fail
 refine HRe.out.mono ?_; rintro e w1 ⟨sb, rfl, hsb, hM, hC1⟩;have HSb := Lib.hid hsb;have H0 : Hid (AdG w w1 pb hb Lg { G with queue := G.queue ++ (G.wanted.take 0).filter fun x => !fI x } (fun b => b = sb) ∧ MarkAt w1 sb n f1) := by
  refine ⟨⟨⟨Lg, ?_, fun _ h => .inl h, fun b e hb => by have := HL.out b hb; omega⟩, hC1.mono fun _ _ h => h.elim⟩, hM⟩;have e : ({ G with queue := G.queue ++ (G.wanted.take 0).filter fun x => !fI x } : GS) = G := by simp
  rw [e]; exact HR.out.still hC1
 have HS1 : Hid (w.heap.size ≤ w1.heap.size ∧ sb < w1.heap.size) := ⟨hC1.size, hM.lt⟩;clear hsb hM hC1 HRe;go_wp2
 go_loopw [3, 4] (fun s3 s4 wr => ∃ (v : Value) (i : Nat), v = s3 ∧ i ≤ nw ∧ s4 = .int .i64 i ∧ Hid (AdG w wr pb hb Lg { G with queue := G.queue ++ (G.wanted.take i).filter fun x => !fI x } (fun b => b = sb ∨ rowBlk v = some b) ∧ MarkAt wr sb n f1 ∧ Row wr 3 1 v ((G.wanted.take i).filter fI).length (intCells ((G.wanted.take i).filter fI)) ∧ (∀ b, rowBlk v = some b → w1.heap.size ≤ b) ∧ w1.heap.size ≤ wr.heap.size)) (fun _ s4 _ => nw - (intOf s4).toNat)
 case atStart => exact ⟨_, 0, rfl, by omega, rfl, Lib.hid ⟨H0.out.1.turn2 (Chg.refl _ _) (fun b hb => hb.elim .inl fun h => by simp [rowBlk] at h) (fun b e => by have := HSb.out; omega), H0.out.2, Row.nil _ _ _, fun b hb => by simp [rowBlk] at hb, Nat.le_refl _⟩⟩
 case round =>
  obtain ⟨v, i, rfl, hi, rfl, HI⟩ := hrel;clear H0;obtain ⟨hAd, hM, hRow, hnew, hsz⟩ := HI.out;obtain ⟨va, vc, rfl, _, _, _⟩ := hRow.slice;obtain ⟨Li, hRi, hLi, hPi⟩ := hAd.ex;have hcw : ∃ aw cw, wr.cell? ⟨pb, 5, none⟩ = some (.slice aw nw cw) ∧ ∀ j, j < nw → ∃ b, aw = some ⟨b, 0, none⟩ ∧ wr.cell? ⟨b, j, none⟩ = some (.int .i64 (G.wanted.getD j 0)) := by
   obtain ⟨lab, vv, hGr⟩ := hRi;obtain ⟨aw, cw, _, c5, hc5⟩ := hGr.wantedC;exact ⟨aw, cw, by rw [HNw.out.1]; exact c5, fun j hj => hc5 j (by show j < G.wanted.length; rw [← HNw.out.1]; exact hj)⟩
  obtain ⟨aw, cw, c5, hc5⟩ := hcw;by_cases hlt : i < nw
  · have hlt' : (i : Int) < (nw : Int) := by omega
    have hwi : IntKind.i64.wrap ((i : Int) + 1) = (i : Int) + 1 := IntWalk.i64_in _ (by have := HNw.out.2.1; omega);obtain ⟨bw, rfl, k5⟩ := hc5 i hlt;have hil : i < G.wanted.length := by rw [← HNw.out.1]; exact hlt
    have hmem : G.wanted.getD i 0 ∈ G.wanted := by rw [List.getD_eq_getElem?_getD, List.getElem?_eq_getElem hil]; exact List.getElem_mem hil
    obtain ⟨h0, h1⟩ := HW.out _ hmem;have htk := take_nextM hil;have hqlen : (G.queue ++ (G.wanted.take i).filter fun x => !fI x).length ≤ 100000 := by
     rw [List.length_append];have h2 := List.length_filter_le (fun x => !fI x) (G.wanted.take i);have h3 := List.length_take_le i G.wanted;have := HG.out.few.2.2.1;have := HNw.out.2.1;omega
    have hwlen : ((G.wanted.take i).filter fI).length ≤ 9000 := by
     have h2 := List.length_filter_le fI (G.wanted.take i);have h3 := List.length_take_le i G.wanted;have := HNw.out.2.1;omega
    generalize G.wanted.getD i 0 = x at *;obtain ⟨q, rfl⟩ : ∃ q : Nat, x = q := ⟨x.toNat, (Int.toNat_of_nonneg h0).symm⟩;have hqn : q < n := by omega
    have hqn' : (q : Int) < (n : Int) := by omega
    have m4 := hM.cell hqn;have hfq : f1 q = fI q := by rw [HF1.out, HFI.out]
    have HTk := Lib.hid htk;cases hy : fI (q : Int) with
    | true =>
      rw [hfq, hy] at m4;obtain ⟨a3, c3, w3, happ, hr3, hC3, hl3⟩ := appOne hRow (q : Int) (by omega);have HN3 : Hid (AdG w w3 pb hb Lg { G with queue := G.queue ++ (G.wanted.take (i + 1)).filter fun x => !fI x } (fun b => b = sb ∨ rowBlk (.slice a3 (((G.wanted.take i).filter fI).length + 1) c3) = some b) ∧ MarkAt w3 sb n f1 ∧ Row w3 3 1 (.slice a3 (((G.wanted.take i).filter fI).length + 1) c3) ((G.wanted.take (i + 1)).filter fI).length (intCells ((G.wanted.take (i + 1)).filter fI)) ∧ (∀ b, rowBlk (.slice a3 (((G.wanted.take i).filter fI).length + 1) c3) = some b → w1.heap.size ≤ b) ∧ w1.heap.size ≤ w3.heap.size) := by
       have e1 : (G.wanted.take (i + 1)).filter fI = (G.wanted.take i).filter fI ++ [(q : Int)] := by rw [HTk.out, List.filter_append]; simp [hy]
       have e2 : ((G.wanted.take (i + 1)).filter fun x => !fI x) = (G.wanted.take i).filter fun x => !fI x := by rw [HTk.out, List.filter_append]; simp [hy]
       rw [e1, e2];refine ⟨hAd.turn2 (hC3.mono fun b _ h => .inr h) (fun b hb => ?_) (fun b hb => ?_), hM.same (hC3.block sb hM.lt fun h => ?_), hr3, fun b hb => ?_, by have := hC3.size; omega⟩
       · rcases hb with hb | hb
         · exact .inl (.inl hb)
         · exact (hl3 b hb).imp .inr id
       · rcases hb with hb | hb
         · have := HSb.out; omega
         · have := hnew b hb; have := HS1.out; omega
       · have := hnew sb h; have := HS1.out; omega
       · rcases hl3 b hb with h | h
         · exact hnew b h
         · omega
      clear hAd hM hRow hnew hRi hLi hPi hc5 hmem htk hr3 hC3 hl3 HI hfq hlt hil hqlen
      go_wp2_with (at_builtin; go_must (refine wpList_val rfl (exec_append rfl (by exact happ)) ?_))
      go_roundw
      case rel => exact ⟨_, i + 1, rfl, by omega, by go_num, HN3⟩
      case measure => simp [intOf]; omega
    | false =>
      rw [hfq, hy] at m4;have hdw : Chg (fun _ => False) wr (wr.drewN 1) := (Chg.refl _ _).drewN 1;obtain ⟨a6, c6, a3, c3, w3, p6, happ, ⟨_, g0⟩, g1, hGG⟩ := queue_app (hRi.still hdw) hqlen (q : Int);have hAd2 := AdG.got hLi hPi (hAd.chg.trans hdw fun _ _ h => h.elim) (fun b hb => by
       rcases hb with hb | hb
       · have := HS1.out; have := hdw.size; omega
       · have := hRow.lt hb; have := hdw.size; omega) hGG
      have HN3 : Hid (AdG w (w3.setCell ⟨pb, 6, none⟩ (.slice a3 ((G.queue ++ (G.wanted.take i).filter fun x => !fI x).length + 1) c3)) pb hb Lg { G with queue := G.queue ++ (G.wanted.take (i + 1)).filter fun x => !fI x } (fun b => b = sb ∨ rowBlk (.slice va ((G.wanted.take i).filter fI).length vc) = some b) ∧ MarkAt (w3.setCell ⟨pb, 6, none⟩ (.slice a3 ((G.queue ++ (G.wanted.take i).filter fun x => !fI x).length + 1) c3)) sb n f1 ∧ Row (w3.setCell ⟨pb, 6, none⟩ (.slice a3 ((G.queue ++ (G.wanted.take i).filter fun x => !fI x).length + 1) c3)) 3 1 (.slice va ((G.wanted.take i).filter fI).length vc) ((G.wanted.take (i + 1)).filter fI).length (intCells ((G.wanted.take (i + 1)).filter fI)) ∧ (∀ b, rowBlk (.slice va ((G.wanted.take i).filter fI).length vc) = some b → w1.heap.size ≤ b) ∧ w1.heap.size ≤ (w3.setCell ⟨pb, 6, none⟩ (.slice a3 ((G.queue ++ (G.wanted.take i).filter fun x => !fI x).length + 1) c3)).heap.size) := by
       have e1 : (G.wanted.take (i + 1)).filter fI = (G.wanted.take i).filter fI := by rw [HTk.out, List.filter_append]; simp [hy]
       have e2 : ((G.wanted.take (i + 1)).filter fun x => !fI x) = ((G.wanted.take i).filter fun x => !fI x) ++ [(q : Int)] := by rw [HTk.out, List.filter_append]; simp [hy]
       rw [e1, e2, ← List.append_assoc];refine ⟨hAd2.1, hM.same ((hAd2.2 sb (.inl rfl)).trans (hdw.block sb hM.lt fun h => h)), hRow.same fun b hb => (hAd2.2 b (.inr hb)).trans (hdw.block b (hRow.lt hb) fun h => h), hnew, Nat.le_trans hsz (Nat.le_trans hdw.size hGG.chg.size)⟩
      have p6c : wr.cell? ⟨pb, 6, none⟩ = some (.slice a6 (G.queue ++ (G.wanted.take i).filter fun x => !fI x).length c6) := p6;have hA : ∀ X, Chg (fun _ => False) wr (wr.alloc X) := fun X => (Chg.refl _ wr).alloc X;have p6A := fun X => cell_chg (hA X) p6c fun h => h;have c5A := fun X => cell_chg (hA X) c5 fun h => h;have k5A := fun X => cell_chg (hA X) k5 fun h => h;have happ' : (Builtin.append_ #[23, 23] 23 #[.slice a6 (G.queue ++ (G.wanted.take i).filter fun x => !fI x).length c6, .slice (some ⟨(wr.drewN 1).heap.size, 0, none⟩) 1 1]).run Tryz.prog ((wr.drewN 1).alloc (.cells #[.int .i64 q] 3)) = .ok (.slice a3 ((G.queue ++ (G.wanted.take i).filter fun x => !fI x).length + 1) c3) w3 := happ
      clear hAd hAd2 hM hRow hnew hRi hLi hPi hc5 hmem htk HI hfq hlt hil hGG p6 hdw hA happ;generalize (G.queue ++ (G.wanted.take i).filter fun x => !fI x).length = lq at *;generalize ((G.wanted.take i).filter fI).length = lw at *
      go_upto_region 7 with fail
      go_region_law (refine step_val rfl (exec_append rfl happ') ?_)
      all_goals
       clear happ' p6c p6A c5 c5A k5 k5A g0 g1 m4;go_wp2
       go_roundw
       case rel => exact ⟨_, i + 1, rfl, by omega, by go_num, HN3⟩
       case measure => simp [intOf]; omega
  · obtain rfl : i = nw := by omega
    have htk : G.wanted.take i = G.wanted := List.take_of_length_le (by have := HNw.out.1; omega);rw [htk] at hAd hRow hPi hRi hnew;rw [htk];obtain ⟨W1, hW1⟩ : ∃ W1, W1 = G.wanted.filter fI := ⟨_, rfl⟩;obtain ⟨Q1, hQ1⟩ : ∃ Q1, Q1 = G.queue ++ G.wanted.filter fun x => !fI x := ⟨_, rfl⟩;rw [← hW1] at hRow hAd hPi hnew ⊢;rw [← hQ1] at hAd hRi;obtain ⟨⟨_, g0⟩, g1, hR8, hC8⟩ := wanted_adopt hRi hRow (fun b hb => hPi b (.inr hb));have hSA : GSim { G with queue := Q1, wanted := W1 } I.awaited := HS.out.same rfl rfl rfl HS.out.room HS.out.roots (by show W1 = I.reg.filter _; rw [hW1, HFI.out, HS.out.wanted]) (by show Q1 = I.queue ++ I.reg.filter _; rw [hQ1, HFI.out, HS.out.wanted, HS.out.queue])
    have hOA : IOk I.awaited := ⟨⟨HO.out.sh.tab, HO.out.sh.obj, HO.out.sh.len, HO.out.sh.key⟩, fun n hn => HO.out.kept n ((IS.awaited_kept n).1 hn), HO.out.hnod, HO.out.hkey, HO.out.uniq, HO.out.keys⟩;have hGA : GOk { G with queue := Q1, wanted := W1 } := hSA.gok hOA (by
     have h1 := HG.out.few;have h2 : I.nodes.length = G.nodes.length := by rw [HS.out.nodes, List.length_map]
     have h3 : G.roots.length = I.hs.length := by rw [HS.out.roots]
     have h4 := List.length_filter_le (fun n => !dec (IReach I I.roots n)) I.reg;have h5 := List.length_filter_le (fun n => dec (IReach I I.roots n)) I.reg;have h6 := HNw.out.2.2;refine ⟨by show I.nodes.length ≤ 9000; omega, by show I.hs.length ≤ 9000; omega, ?_, ?_, h1.2.2.2.2⟩
     · show (I.queue ++ I.reg.filter fun n => !dec (IReach I I.roots n)).length ≤ 9000;rw [List.length_append]; omega
     · show (I.reg.filter fun n => dec (IReach I I.roots n)).length ≤ 9000;omega)
    have h8 : AdG w (wr.setCell ⟨pb, 5, none⟩ (.slice va W1.length vc)) pb hb Lg { G with queue := Q1, wanted := W1 } (fun _ => False) := by
     have h7 := hAd.turn2 (P' := fun _ => False) (Chg.refl _ _) (fun _ h => h.elim) (fun b hb => by
      rcases hb with hb | hb
      · have := HSb.out; omega
      · have := hnew b hb; have := HS1.out; omega)
     refine ⟨⟨_, hR8, fun b hb => ?_, fun _ h => h.elim⟩, h7.chg.trans hC8 fun b hb hi => ?_⟩
     · rcases List.mem_append.1 hb with hb | hb
       · exact hLi b hb
       · have := hnew b (by simpa using hb); have := HS1.out; exact .inr (by omega)
     · rcases hLi b hi with h | h
       · exact .inl h
       · omega
    have HSA := Lib.hid hSA;have HGA := Lib.hid hGA;have H8 := Lib.hid h8;have HW1 := Lib.hid hW1;have HQ1 := Lib.hid hQ1;clear hAd hM hRow hnew hRi hLi hPi hc5 HI hR8 hC8 hSA hOA hGA h8 htk hsz hlt hW1 hQ1
    go_upto_region 9 with fail
    clear c5 g0 g1;generalize wr.setCell ⟨pb, 5, none⟩ (.slice va W1.length vc) = w8 at *;obtain ⟨Li, hR8, hLi, _⟩ := H8.out.ex;have hKp := kept_g hR8 HGA.out;have hnn : ({ G with queue := Q1, wanted := W1 } : GS).nodes.length = n := HN.out.1.symm;rw [hnn] at hKp;obtain ⟨f2, hf2⟩ : ∃ f2 : Nat → Bool, f2 = fun j : Nat => dec (SReach ({ G with queue := Q1, wanted := W1 } : GS).links ({ G with queue := Q1, wanted := W1 } : GS).keptP (j : Int)) := ⟨_, rfl⟩;rw [← hf2] at hKp;have HF2 : Hid (∀ q : Nat, f2 q = I.live (q : Int)) := fun q => by
     rw [hf2];have h1 := HSA.out.keptM ⟨⟨HO.out.sh.tab, HO.out.sh.obj, HO.out.sh.len, HO.out.sh.key⟩, fun n hn => HO.out.kept n ((IS.awaited_kept n).1 hn), HO.out.hnod, HO.out.hkey, HO.out.uniq, HO.out.keys⟩ (q : Int);show dec (SReach _ _ _) = _;rw [h1];have h2 := IS.awaited_kept (I := I) (q : Int);unfold IS.live;cases hd : dec (I.kept (q : Int)) with
     | true => exact dec_iff.2 (h2.2 (dec_iff.1 hd))
     | false => exact dec_false.2 fun h => (dec_false.1 hd) (h2.1 h)
    have HLi := Lib.hid hLi;have HR8 := Lib.hid hR8;have HKp := Lib.hid hKp;clear hR8 hLi hKp hnn hf2
    go_wp2_with fail
    refine HKp.out.mono ?_; rintro e w9 ⟨sb2, rfl, hsb2, hM2, hC9⟩;obtain ⟨ll, hll⟩ : ∃ ll, ll = G.links.length := ⟨_, rfl⟩;have HLl : Hid (ll = G.links.length ∧ ll ≤ 1000000) := ⟨hll, by rw [hll]; exact HG.out.few.2.2.2.2⟩;obtain ⟨X, hmk, hM0⟩ := make_marks w9 ll HLl.out.2;have hR9 := HR8.out.still hC9;have hA9 := (H8.out.turn2 (P' := fun b => b = sb2) (hC9.mono fun _ _ h => h) (fun b e => .inr (e ▸ hsb2)) (fun _ h => h.elim));have hs8 := H8.out.chg.size;have hs9 := hC9.size;have hA10 := hA9.turn2 (P' := fun b => b = sb2 ∨ b = w9.heap.size) (W' := w9.alloc X) (((Chg.refl (fun _ => False) w9).alloc X).mono fun _ _ h => h.elim) (fun b hb => hb.imp id fun e => by omega) (fun b e => by omega)
    have hb2lt := hM2.lt;have hM2' : MarkAt (w9.alloc X) sb2 n f2 := hM2.same (((Chg.refl (fun _ => False) w9).alloc X).block sb2 hM2.lt fun h => h);have hR10 := hR9.still ((Chg.refl (fun _ => False) w9).alloc X);have h3c : ∃ al cl, w9.cell? ⟨pb, 3, none⟩ = some (.slice al ll cl) := by
     obtain ⟨lab, vv, hGr⟩ := hR9;obtain ⟨al, cl, _, _, c3, _⟩ := hGr.links;exact ⟨al, cl, by rw [hll]; exact c3⟩
    obtain ⟨al0, cl0, c3⟩ := h3c;have HLdb : Hid (∀ b ∈ Li, b < w9.heap.size) := hR9.lgs;have HLtS : Hid (∀ b ∈ Li, b < sb2) := fun b hb => by have := HR8.out.lgs b hb; omega
    have HS9 : Hid (w.heap.size ≤ w9.heap.size ∧ sb2 < w9.heap.size ∧ w.heap.size ≤ sb2) := ⟨by omega, hb2lt, by omega⟩;have HA10 := Lib.hid hA10;have HM0 := Lib.hid hM0;have HM2 := Lib.hid hM2';have HR10 := Lib.hid hR10;clear hM2 hM2' hR10 hA10 hA9 hs8 hs9 hb2lt hC9 hR9 hM0 hll hsb2
    go_upto_region 11 with (first | (at_make; go_must (refine wpList_val rfl (exec_makeSlice rfl (by exact hmk)) ?_)))
    clear hmk c3;generalize w9.alloc X = w10 at *;generalize w9.heap.size = db at *;have H10 : Hid (∀ W, Chg (fun b => b = db) w10 W → GRep W pb hb Li { G with queue := Q1, wanted := W1 } ∧ MarkAt W sb2 n f2) := fun W hC => ⟨HR10.out.frame hC fun b hb e => by have := HLdb.out b hb; omega, HM2.out.same (hC.block sb2 HM2.out.lt fun e => by have := HS9.out; omega)⟩;go_wp2
    go_loopw [6] (fun s6 wr2 => ∃ i : Nat, i ≤ ll ∧ s6 = .int .i64 i ∧ Hid (Chg (fun b => b = db) w10 wr2 ∧ MarkAt wr2 db ll (fun j => decide (j < i) && dropL G f2 j))) (fun s6 _ => ll - (intOf s6).toNat)
    case atStart => exact ⟨0, by omega, rfl, Lib.hid ⟨Chg.refl _ _, HM0.out.ext fun j _ => by simp⟩⟩
    case round =>
     obtain ⟨i2, hi2, rfl, HI2⟩ := hrel;obtain ⟨hCr, hMd⟩ := HI2.out;obtain ⟨hRr, hMr⟩ := H10.out _ hCr;obtain ⟨lab, vv, hGr⟩ := hRr;obtain ⟨al, cl, hv1, _, c3, hcl⟩ := hGr.links;have c3' : wr.cell? ⟨pb, 3, none⟩ = some (.slice al ll cl) := by rw [HLl.out.1]; exact c3
     clear c3;by_cases hlt2 : i2 < ll
     · have hlt2' : (i2 : Int) < (ll : Int) := by omega
       have hwi2 : IntKind.i64.wrap ((i2 : Int) + 1) = (i2 : Int) + 1 := IntWalk.i64_in _ (by have := HLl.out.2; omega);obtain ⟨y, hy⟩ : ∃ y, G.links[i2]? = some y := ⟨_, List.getElem?_eq_getElem (by rw [← HLl.out.1]; exact hlt2)⟩;obtain ⟨bl, rfl, k0, k1, k2, k3, k4⟩ := hcl i2 y hy;obtain ⟨hin1, hin2, _⟩ := HG.out.in_ y (List.mem_of_getElem? hy);rw [← HN.out.1] at hin1 hin2;have hdv : dropL G f2 i2 = (!f2 y.frm.toNat || (decide (0 ≤ y.key) && !f2 y.key.toNat)) := by unfold dropL; rw [hy]
       obtain ⟨yf, ys, yk, yr, yn⟩ := y;simp only at k0 k1 k2 k3 k4 hin1 hin2 hdv;obtain ⟨qf, rfl⟩ : ∃ qf : Nat, yf = qf := ⟨yf.toNat, (Int.toNat_of_nonneg hin1.1).symm⟩;rw [Int.toNat_natCast] at hdv;have hqf : qf < n := by omega
       have hqf' : (qf : Int) < (n : Int) := by omega
       obtain ⟨Dv, hDv⟩ : ∃ Dv, Dv = dropL G f2 i2 := ⟨_, rfl⟩;rw [← hDv] at hdv;obtain ⟨wa, hwa⟩ : ∃ wa, wa = wr.alloc (.cells #[.int .i64 qf, .int .i64 ys, .int .i64 yk, .bool yr, .int .i64 yn] 144) := ⟨_, rfl⟩;have hCa : Chg (fun _ => False) wr wa := by rw [hwa]; exact (Chg.refl _ _).alloc _
       have hb7 : wa.heap[wr.heap.size]? = some (.cells #[.int .i64 qf, .int .i64 ys, .int .i64 yk, .bool yr, .int .i64 yn] 144 (0, 0)) := by rw [hwa]; exact heap_alloc_new _ _
       have hMa := hMd.same (hCa.block db hMd.lt fun h => h);have hMra := hMr.same (hCa.block sb2 hMr.lt fun h => h);have HN3 : Hid (Chg (fun b => b = db) w10 (wa.setCell ⟨db, i2, none⟩ (.bool Dv)) ∧ MarkAt (wa.setCell ⟨db, i2, none⟩ (.bool Dv)) db ll (fun j => decide (j < i2 + 1) && dropL G f2 j)) := by
        refine ⟨(hCr.trans hCa fun _ _ h => h.elim).setCell (p := ⟨db, i2, none⟩) (fun _ => rfl) _, (hMa.putB hlt2 Dv).ext fun j hj => ?_⟩;by_cases e : j = i2
        · subst e; simp [hDv]
        · have : (decide (j < i2 + 1)) = decide (j < i2) := by by_cases h : j < i2 <;> simp [h] <;> omega
          simp [e, this]
       have d4 := hMa.cell hlt2;have d5 := hMa.free i2;have m1 := hMra.cell hqf;have e0 := cellAt hb7 0;have e2 := cellAt hb7 2;have HMra := Lib.hid hMra;generalize (decide (i2 < i2) && dropL G f2 i2) = z0 at d4;clear hDv hMd hMr hMa hMra hCr hGr hcl hv1 hy hCa hb7 HI2 hin1 hlt2
       go_upto_region 15 with fail
       rw [← hwa];generalize wr.heap.size = b7 at e0 e2 ⊢;clear hwa k0 k1 k2 k3 k4 c3';generalize hz1 : f2 qf = z1 at m1 hdv;cases z1 with
       | false =>
         obtain rfl : Dv = true := by rw [hdv]; rfl
         clear hz1 hdv;go_wp2
         go_roundw
         case rel => exact ⟨i2 + 1, by omega, by go_num, HN3⟩
         case measure => simp [intOf]; omega
       | true =>
         by_cases hk0 : 0 ≤ yk
         · have hk1 := hin2.resolve_left (by omega);obtain ⟨qk, rfl⟩ : ∃ qk : Nat, yk = qk := ⟨yk.toNat, (Int.toNat_of_nonneg hk0).symm⟩;have hqk : qk < n := by omega
           have hqk' : (qk : Int) < (n : Int) := by omega
           have m2 := HMra.out.cell hqk;rw [Int.toNat_natCast] at hdv;generalize f2 qk = z2 at m2 hdv;have hge : (0 : Int) ≤ (qk : Int) := by omega
           have hd0 : decide ((0 : Int) ≤ (qk : Int)) = true := decide_eq_true hge;rw [hd0] at hdv;clear hz1 hin2 hk1 hk0 hd0;cases z2 with
           | false =>
             obtain rfl : Dv = true := by rw [hdv]; rfl
             clear hdv;go_wp2
             go_roundw
             case rel => exact ⟨i2 + 1, by omega, by go_num, HN3⟩
             case measure => simp [intOf]; omega
           | true =>
             obtain rfl : Dv = false := by rw [hdv]; rfl
             clear hdv;go_wp2
             go_roundw
             case rel => exact ⟨i2 + 1, by omega, by go_num, HN3⟩
             case measure => simp [intOf]; omega
         · have hd0 : decide ((0 : Int) ≤ yk) = false := decide_eq_false hk0;rw [hd0] at hdv;obtain rfl : Dv = false := by rw [hdv]; rfl
           clear hdv hz1 hin2;go_wp2
           go_roundw
           case rel => exact ⟨i2 + 1, by omega, by go_num, HN3⟩
           case measure => simp [intOf]; omega
     · obtain rfl : i2 = ll := by omega
       have hMD : MarkAt wr db i2 (dropL G f2) := hMd.ext fun j hj => by simp [hj]
       have hkeep : keepL G.links (dropL G f2) G.links.length = G.links.filter fun l => I.live l.frm && (decide (l.key < 0) || I.live l.key) := by
        rw [keepL_filter (P := fun l => !(I.live l.frm && (decide (l.key < 0) || I.live l.key)))]
        · exact List.filter_congr fun l _ => by simp
        · intro j y hy;obtain ⟨hin1, _⟩ := HG.out.in_ y (List.mem_of_getElem? hy);unfold dropL;rw [hy];show (!f2 y.frm.toNat || (decide (0 ≤ y.key) && !f2 y.key.toNat)) = _;rw [HF2.out, HF2.out, Int.toNat_of_nonneg hin1.1];by_cases hk : 0 ≤ y.key
          · have h2 : decide (y.key < 0) = false := decide_eq_false (by omega);rw [Int.toNat_of_nonneg hk, h2, decide_eq_true hk];cases I.live y.frm <;> cases I.live y.key <;> rfl
          · have h2 : decide (y.key < 0) = true := decide_eq_true (by omega);rw [h2, decide_eq_false hk];cases I.live y.frm <;> rfl
       obtain ⟨L2, hL2⟩ : ∃ L2, L2 = G.links.filter fun l => I.live l.frm && (decide (l.key < 0) || I.live l.key) := ⟨_, rfl⟩;have hAdr : AdG w wr pb hb Lg { G with queue := Q1, wanted := W1 } (fun b => b = sb2 ∨ b = db) := HA10.out.turn2 (hCr.mono fun _ _ h => .inr h) (fun _ h => .inl h) (fun b hb => by have := HS9.out; omega);have hRrr := (H10.out _ hCr).1;have hMrr := (H10.out _ hCr).2;have HWo : Hid (Calls Tryz.prog 128 #[.slice al i2 cl, .slice (some ⟨db, 0, none⟩) i2 i2] wr fun e w6 => ∃ va vn vc, e = .returned (.slice va vn vc) ∧ (∃ u, w6.cell? ⟨pb, 3, none⟩ = some u) ∧ w6.frozen? ⟨pb, 3, none⟩ = false ∧
        Hid (AdG w (w6.setCell ⟨pb, 3, none⟩ (.slice va vn vc)) pb hb Lg { G with queue := Q1, wanted := W1, links := L2 } (fun b => b = sb2 ∨ b = db) ∧ MarkAt (w6.setCell ⟨pb, 3, none⟩ (.slice va vn vc)) sb2 n f2)) := by
        have hrow : Row wr 144 5 (.slice al i2 cl) G.links.length (glCells G.links) := by
         rw [HLl.out.1, ← hv1]; exact hGr.r1
        have := without_g hrow (by rw [← HLl.out.1]; exact hMD) (by rw [← HLl.out.1]; exact HLl.out.2);rw [← HLl.out.1] at this;refine this.mono ?_;rintro e w6 ⟨v', rfl, hrow', hnew, hC6⟩;rw [HLl.out.1, hkeep, ← hL2] at hrow';obtain ⟨g1, g2, g3⟩ := links_store hRrr hrow' hnew hC6;obtain ⟨va, vc, rfl, _⟩ := hrow'.slice;obtain ⟨Lj, _, _, _⟩ := hAdr.ex;have hgot := AdG.got (w5 := w) (Lg := Lg) (Li := Li) (P := fun b => b = sb2 ∨ b = db) HLi.out (fun b hb hi => by
         have := HLdb.out b hi;have := HLtS.out b hi;rcases hb with rfl | rfl <;> omega) hAdr.chg (fun b hb => by
         rcases hb with rfl | rfl
         · exact hMrr.lt
         · exact hMd.lt) g3
        exact ⟨va, _, vc, rfl, g1, g2, Lib.hid ⟨hgot.1, hMrr.same (hgot.2 sb2 (.inl rfl))⟩⟩
       have HL2 := Lib.hid hL2;clear hMD hkeep hAdr hRrr hMrr hGr hcl hv1 hCr hMd hMr HI2 hL2
       go_upto_region 17 with (go_at_call 128; refine HWo.out.mono ?_; rintro e w6 ⟨va6, vn6, vc6, rfl, ⟨_, g0⟩, g1, HX⟩)
       clear HWo c3' g0 g1;generalize w6.setCell ⟨pb, 3, none⟩ (.slice va6 vn6 vc6) = w13 at HX ⊢;have HX0 : Hid (AdG w w13 pb hb Lg { G with queue := Q1, wanted := W1, links := L2, nodes := goneL G.nodes f2 0 } (fun b => b = sb2) ∧ MarkAt w13 sb2 n f2) := by
        rw [goneL_zero];exact ⟨HX.out.1.turn2 (Chg.refl _ _) (fun b e => .inl (.inl e)) (fun b hb => by have := HS9.out; omega), HX.out.2⟩
       clear HX;go_wp2
       go_loopw [8] (fun s8 wr3 => ∃ i : Nat, i ≤ n ∧ s8 = .int .i64 i ∧ Hid (AdG w wr3 pb hb Lg { G with queue := Q1, wanted := W1, links := L2, nodes := goneL G.nodes f2 i } (fun b => b = sb2) ∧ MarkAt wr3 sb2 n f2)) (fun s8 _ => n - (intOf s8).toNat)
       case atStart => exact ⟨0, by omega, rfl, HX0⟩
       case round =>
        obtain ⟨i3, hi3, rfl, HI3⟩ := hrel;clear HX0;obtain ⟨hAd3, hM3⟩ := HI3.out;obtain ⟨Lk, hRk, hLk, hPk⟩ := hAd3.ex;have hnl : (goneL G.nodes f2 i3).length = n := by rw [goneL_len]; exact HN.out.1.symm
        by_cases hlt3 : i3 < n
        · have hlt3' : (i3 : Int) < (n : Int) := by omega
          have hwi3 : IntKind.i64.wrap ((i3 : Int) + 1) = (i3 : Int) + 1 := IntWalk.i64_in _ (by have := HN.out.2; omega);obtain ⟨x, hx⟩ : ∃ x, (goneL G.nodes f2 i3)[i3]? = some x := ⟨_, List.getElem?_eq_getElem (by rw [hnl]; exact hlt3)⟩;obtain ⟨bn, cn, c2, ⟨_, k3⟩, f3, hGG⟩ := node_gone (G := { G with queue := Q1, wanted := W1, links := L2, nodes := goneL G.nodes f2 i3 }) hRk hx (!f2 i3);have hgot := AdG.got hLk hPk hAd3.chg (fun b e => e ▸ hM3.lt) hGG;have c2' : wr.cell? ⟨pb, 2, none⟩ = some (.slice (some ⟨bn, 0, none⟩) n cn) := by
           have : ({ G with queue := Q1, wanted := W1, links := L2, nodes := goneL G.nodes f2 i3 } : GS).nodes.length = n := hnl;rw [← this]; exact c2
          have m4 := hM3.cell hlt3;have HN4 : Hid (∀ W, Chg (fun _ => False) (wr.setCell ⟨bn, i3 * 4 + 3, none⟩ (.bool (!f2 i3))) W → AdG w W pb hb Lg { G with queue := Q1, wanted := W1, links := L2, nodes := goneL G.nodes f2 (i3 + 1) } (fun b => b = sb2) ∧ MarkAt W sb2 n f2) := fun W hW => by
           have e := goneL_next hx;refine ⟨?_, (hM3.same (hgot.2 sb2 rfl)).same (hW.block sb2 (Nat.lt_of_lt_of_le hM3.lt hGG.chg.size) fun h => h)⟩;rw [← e];exact hgot.1.turn (hW.mono fun _ _ h => h.elim)
          clear hAd3 hM3 hRk hLk hPk hnl hx hGG hgot HI3 c2 hlt3;generalize f2 i3 = z3 at *;cases z3
          all_goals
           go_upto_region 20 with fail
           go_region
           clear c2' k3 f3 m4;go_wp2
           go_roundw
           case rel => exact ⟨i3 + 1, by omega, by go_num, Lib.hid (HN4.out _ (by first | exact (Chg.refl _ _).drewN 1 | exact (Chg.refl _ _).drew | exact Chg.refl _ _))⟩
           case measure => simp [intOf]; omega
        · obtain rfl : i3 = n := by omega
          have c2 : ∃ an cn, wr.cell? ⟨pb, 2, none⟩ = some (.slice an i3 cn) := by
           obtain ⟨lab, vv, hGr⟩ := hRk;obtain ⟨an, cn, _, c2, _⟩ := hGr.nodesC;exact ⟨an, cn, by rw [← hnl]; exact c2⟩
          obtain ⟨an, cn, c2⟩ := c2;have HZ : Hid (Post K (.returned (.tuple #[])) wr) := by
           refine HK.out _ _ ⟨rfl, _, hAd3.end_ HL.out (fun b hb => by have := HS9.out; omega), HS.out.major HO.out rfl rfl ?_ ?_ ?_ HL2.out, ?_⟩
           · show W1 = I.reg.filter _;rw [HW1.out, HFI.out, HS.out.wanted]
           · show Q1 = I.queue ++ I.reg.filter _;rw [HQ1.out, HFI.out, HS.out.wanted, HS.out.queue]
           · show goneL G.nodes f2 i3 = I.majored.nodes.map gnode;refine List.ext_getElem? fun j => ?_;rw [goneL_get, HS.out.nodes, List.getElem?_map, List.getElem?_map];have hmj : I.majored.nodes[j]? = (I.nodes[j]?).map fun d => { d with gone := !I.live (j : Int) } := by
              have := IS.nd_majored I (j : Int);unfold IS.nd at this;rw [if_pos (by omega), if_pos (by omega), Int.toNat_natCast] at this;exact this
             rw [hmj];cases hd : I.nodes[j]? with
             | none => rfl
             | some d =>
               have hj : j < i3 := by
                have h1 := (List.getElem?_eq_some_iff.1 hd).1;have h2 : G.nodes.length = I.nodes.length := by rw [HS.out.nodes, List.length_map]
                have := HN.out.1;omega
               simp only [Option.map_some, Option.some.injEq, if_pos hj];show ({ gnode d with gone := !f2 j } : GN) = gnode { d with gone := !I.live (j : Int) };rw [HF2.out]; rfl
           · show L2.length ≤ _;rw [HL2.out];exact List.length_filter_le _ _
          clear hAd3 hM3 hRk hLk hPk hnl HI3 HK;go_wp2
          go_end0
          exact HZ.out
end Go.Proofs.YtelghmmcbgfjnaaGreat
