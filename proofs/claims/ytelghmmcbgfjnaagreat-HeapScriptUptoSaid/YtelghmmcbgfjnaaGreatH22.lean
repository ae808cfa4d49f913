/-
  Of, many, grant and Handles of the reference's graph. (A part of the proof, joined of: Vb, Vc, Vd, Ve, Vf, Vg, Vh; made smaller.)
-/
import Derived.Test.YtelghmmcbgfjnaaGreatH21
set_option maxHeartbeats 4000000
set_option maxRecDepth 100000
namespace Go.Proofs.YtelghmmcbgfjnaaGreat
variable {G : GS} {Lg : List Nat} {f f0 g : Nat → Bool} {hb i n pb q sb : Nat} {keys : List Int} {l : GL} {lab : Nat → Nat} {v : Value} {w wx : World}
open Go.RowKit
theorem Row.at_ {α : Type} {e : TypeId} {sz : Nat} {f : α → List Value} (hf : ∀ x, (f x).length = sz) {l : List α} (h : Row w e sz v l.length (l.flatMap f)) :
 ∃ a c, v = .slice a l.length c ∧ l.length ≤ c ∧ c ≤ maxLen ∧ ∀ i x, l[i]? = some x → ∃ b, a = some ⟨b, 0, none⟩ ∧ rowBlk v = some b ∧ ∀ j u, (f x)[j]? = some u → w.cell? ⟨b, i * sz + j, none⟩ = some u := by
 obtain ⟨a, c, rfl, h1, h2, _⟩ := h.slice;refine ⟨a, c, rfl, h1, h2, fun i x hx => ?_⟩;have hi := (List.getElem?_eq_some_iff.1 hx).1;obtain ⟨b, e1, e2, e3⟩ := h.cells (by omega);refine ⟨b, e1, e2, fun j u hu => e3 _ _ ?_⟩;have hj : j < sz := by
  have := (List.getElem?_eq_some_iff.1 hu).1;rw [hf] at this;exact this
 rw [flat_get hf l i j x hx hj];exact hu
theorem GR.roots {v : Nat → Value} (h : GR w pb hb Lg lab v G) : ∃ a c, v 2 = .slice a G.roots.length c ∧ G.roots.length ≤ maxLen ∧ w.cell? ⟨pb, 4, none⟩ = some (.slice a G.roots.length c) ∧ ∀ i x, G.roots[i]? = some x → ∃ b, a = some ⟨b, 0, none⟩ ∧ w.cell? ⟨b, i * 2, none⟩ = some (.int .i64 x.1) ∧ w.cell? ⟨b, i * 2 + 1, none⟩ = some (.int .i64 x.2) := by
 obtain ⟨a, c, e, h1, h2, h3⟩ := Row.at_ (f := rtCells) (fun _ => rfl) h.r2;refine ⟨a, c, e, by omega, by rw [← e]; exact cellAt h.at_ 4, fun i x hx => ?_⟩;obtain ⟨b, e1, _, e2⟩ := h3 i x hx;exact ⟨b, e1, e2 0 _ rfl, e2 1 _ rfl⟩
def GS.of (G : GS) (h : Int) : Int := (G.roots.lookup h).getD (-1)
theorem glook_none : ∀ {l : List (Int × Int)} {h : Int}, (∀ (m : Nat) (x : Int × Int), l[m]? = some x → x.1 ≠ h) → l.lookup h = none
 | [], _, _ => rfl
 | p :: l, h, H => by
   have h1 := H 0 p rfl;rw [List.lookup_cons];have : (h == p.1) = false := by simpa using fun e => h1 e.symm
   rw [this];exact glook_none fun m x hx => H (m + 1) x (by simpa using hx)
theorem glook_at : ∀ {l : List (Int × Int)} {h : Int} {i : Nat} {x : Int × Int}, (∀ (m : Nat) (y : Int × Int), m < i → l[m]? = some y → y.1 ≠ h) → l[i]? = some x → x.1 = h → l.lookup h = some x.2
 | [], _, _, _, _, h, _ => by simp at h
 | p :: l, h, 0, x, _, hx, he => by
   simp only [List.getElem?_cons_zero, Option.some.injEq] at hx;subst hx;rw [List.lookup_cons];simp [he]
 | p :: l, h, i + 1, x, H, hx, he => by
   have h1 := H 0 p (by omega) rfl;rw [List.lookup_cons];have : (h == p.1) = false := by simpa using fun e => h1 e.symm
   rw [this];exact glook_at (i := i) (fun m y hm hy => H (m + 1) y (by omega) (by simpa using hy)) (by simpa using hx) he
theorem of_g (hR : GRep w pb hb Lg G) (h : Int) :
 Calls Tryz.prog 103 #[.pointer (some ⟨pb, 1, none⟩), .int .i64 h] w fun e w' => e = .returned (.int .i64 (G.of h)) ∧ w = w' := by
 refine ret_k fun K hK => ?_;have HK := Lib.hid hK;obtain ⟨lab, v, hG⟩ := hR;obtain ⟨a, c, _, hmax, c4, hcell⟩ := hG.roots;have hmax' : G.roots.length ≤ 9223372036854775807 := by unfold maxLen at hmax; omega
 obtain ⟨l, hl⟩ : ∃ l, l = G.roots := ⟨_, rfl⟩;have HOf : Hid (G.of h = (l.lookup h).getD (-1)) := by rw [hl]; rfl
 rw [← hl] at hcell c4 hmax';have HC := Lib.hid hcell;have HM := Lib.hid hmax';clear hK hG hmax hcell hl hmax';obtain ⟨len, hlen⟩ : ∃ len, len = l.length := ⟨_, rfl⟩;have HLen := Lib.hid hlen;rw [← hlen] at c4 HM;clear hlen
 go_enter Tryz.func103, Tryz.ntmps103
 go_wp2
 go_loopw [5] (fun k wx => ∃ i : Nat, i ≤ len ∧ k = .int .i64 i ∧ w = wx ∧ Hid (∀ m y, m < i → l[m]? = some y → y.1 ≠ h)) (fun k _ => len - (intOf k).toNat)
 case atStart => exact ⟨0, by omega, rfl, rfl, Lib.hid fun m y hm _ => absurd hm (by omega)⟩
 case round =>
  obtain ⟨i, hi, rfl, rfl, HI⟩ := hrel;by_cases hlt : i < len
  · have hlt' : (i : Int) < (len : Int) := by omega
    have hwi : IntKind.i64.wrap ((i : Int) + 1) = (i : Int) + 1 := IntWalk.i64_in _ (by have := HM.out; omega);obtain ⟨x, hx⟩ : ∃ x, l[i]? = some x := ⟨_, List.getElem?_eq_getElem (by rw [← HLen.out]; exact hlt)⟩;obtain ⟨b, rfl, k0, k1⟩ := HC.out i x hx;have HX := Lib.hid hx;obtain ⟨xh, xn⟩ := x;clear hx;by_cases he : xh = h
    · have HZ := Lib.hid (HK.out _ _ ⟨rfl, rfl⟩);have e : G.of h = xn := by rw [HOf.out, glook_at HI.out HX.out he]; rfl
      rw [e] at HZ;clear HK e;go_wp2;go_ret;exact HZ.out
    · have he2 : ¬ (xh = h) := he;have HI2 : Hid (∀ m y, m < i + 1 → l[m]? = some y → y.1 ≠ h) := fun m y hm hy => by
       by_cases e : m = i
       · subst e; rw [HX.out] at hy; simp only [Option.some.injEq] at hy; rw [← hy]; exact he
       · exact HI.out m y (by omega) hy
      clear HI;go_wp2
      go_roundw
      case rel => exact ⟨i + 1, by omega, by go_num, by first | rfl | trivial, HI2⟩
      case measure => simp [intOf]; omega
  · obtain rfl : i = len := by omega
    have e : G.of h = -1 := by
     rw [HOf.out, glook_none fun m x hx => HI.out m x (by rw [HLen.out]; exact (List.getElem?_eq_some_iff.1 hx).1) hx]; rfl
    have HZ := Lib.hid (HK.out _ _ ⟨rfl, rfl⟩);rw [e] at HZ;clear HK e;go_wp2;go_ret;exact HZ.out
theorem many_g (hR : GRep w pb hb Lg G) (hl : G.roots.length < 20000) :
 Calls Tryz.prog 122 #[.pointer (some ⟨pb, 1, none⟩)] w fun e w' => e = .returned (.bool false) ∧ w = w' := by
 obtain ⟨lab, v, hG⟩ := hR;obtain ⟨a, c, _, hmax, c4, hcell⟩ := hG.roots;have hl' : ¬ (20000 ≤ (G.roots.length : Int)) := by omega
 generalize G.roots.length = n at *;clear hG hmax hcell hl
 go_enter Tryz.func122, Tryz.ntmps122
 go_wp2;go_ret;exact ⟨by simp <;> omega, rfl⟩
theorem uRoots : Tryz.prog.underlying 91 = some (.slice 170) := by kernel_rfl
theorem iRoot : (Tryz.prog.info? 170).map (fun i => (i.zero, i.size, i.bytes)) = some (some (.agg #[.int .i64 0, .int .i64 0]), 2, 16) := by kernel_rfl
theorem app_struct {α : Type} (te e : TypeId) (sz bytes : Nat) (z : Value) (uT : Tryz.prog.underlying te = some (.slice e)) (iE : (Tryz.prog.info? e).map (fun i => (i.zero, i.size, i.bytes)) = some (some z, sz, bytes)) (hzs : z.cells.size = sz) (hsz : 0 < sz)
 {f : α → List Value} (hf : ∀ x, (f x).length = sz) (h1 : ∀ x, ∀ u ∈ f x, u.oneCell' = true) {l : List α} (hrow : Row w e sz v l.length (l.flatMap f)) (x : α) (hT : (l.length + 1) * bytes ≤ 140737488355328) (hT2 : l.length < 1000000000000) :
 ∃ a cap w', (Builtin.append_ #[te, te] te #[v, .slice (some ⟨w.heap.size, 0, none⟩) 1 1]).run Tryz.prog (w.alloc (.cells (f x).toArray e)) = .ok (.slice a (l.length + 1) cap) w' ∧
   Row w' e sz (.slice a (l.length + 1) cap) (l ++ [x]).length ((l ++ [x]).flatMap f) ∧ Chg (fun b => rowBlk v = some b) w w' ∧ (∀ b, rowBlk (.slice a (l.length + 1) cap) = some b → rowBlk v = some b ∨ w.heap.size ≤ b) := by
 obtain ⟨i0, hi, hz0, hz1, hz2⟩ := info_parts iE;have h2 : Row (w.alloc (.cells (f x).toArray e)) e sz v l.length (l.flatMap f) := hrow.same fun b hb => by rw [heap_alloc, if_neg (by have := hrow.lt hb; omega)]
 have hsrc : Src' (w.alloc (.cells (f x).toArray e)) sz (.slice (some ⟨w.heap.size, 0, none⟩) 1 1) 1 (f x) := src_block (heap_alloc_new _ _) (by rw [hf]; omega) (by simpa using List.take_of_length_le (by rw [hf]; omega));obtain ⟨v3, w3, happ, hrow3, hC3, hloc3⟩ := run_append_row (P := Tryz.prog) te te e i0 _ sz bytes uT hi hz0 hz1 hz2 hzs hsz h2 hsrc (h1 x) (by unfold maxLen; omega) hT;obtain ⟨a3, cap3, rfl, -⟩ := hrow3.slice;have hCa : Chg (fun b => rowBlk v = some b) w (w.alloc (.cells (f x).toArray e)) := (Chg.refl _ _).alloc _;refine ⟨a3, cap3, w3, happ, ?_, hCa.trans hC3 (fun _ _ h => h), ?_⟩
 · rw [List.flatMap_append, List.length_append, List.length_singleton];simpa using hrow3
 · intro b hb;rcases hloc3 b hb with h2 | h2
   · exact .inl h2
   · simp at h2; exact .inr (by omega)
theorem of_iff (hn : ∀ p ∈ G.roots, 0 ≤ p.2) (h : Int) : 0 ≤ G.of h ↔ h ∈ G.roots.map (·.1) := by
 unfold GS.of;cases hl : G.roots.lookup h with
 | none =>
   have := (look_none (l := G.roots) (n := h)).1 hl;simp only [Option.getD_none];exact ⟨fun h => by omega, fun h => absurd h this⟩
 | some x =>
   have hm := look_mem hl;simp only [Option.getD_some];exact ⟨fun _ => List.mem_map.2 ⟨_, hm, rfl⟩, fun _ => hn _ hm⟩
noncomputable def GS.fresh (G : GS) : Int := freshOf (G.roots.map (·.1))
noncomputable def GS.grant (G : GS) (n : Int) : GS := { G with roots := G.roots ++ [(G.fresh, n)] }
theorem grant_store (hR : GRep w pb hb Lg G) (hl : G.roots.length < 20000) (n node : Int) :
 ∃ a c a3 c3 w3, w.cell? ⟨pb, 4, none⟩ = some (.slice a G.roots.length c) ∧
   (Builtin.append_ #[91, 91] 91 #[.slice a G.roots.length c, .slice (some ⟨w.heap.size, 0, none⟩) 1 1]).run Tryz.prog (w.alloc (.cells #[.int .i64 n, .int .i64 node] 170)) = .ok (.slice a3 (G.roots.length + 1) c3) w3 ∧
   (∃ u, w3.cell? ⟨pb, 4, none⟩ = some u) ∧ w3.frozen? ⟨pb, 4, none⟩ = false ∧
   GGot w pb hb Lg { G with roots := G.roots ++ [(n, node)] } (w3.setCell ⟨pb, 4, none⟩ (.slice a3 (G.roots.length + 1) c3)) := by
 obtain ⟨lab, v, hG⟩ := hR;obtain ⟨a, c, ev, _, c4, _⟩ := hG.roots;obtain ⟨a3, c3, w3, happ, hrow3, hC3, hloc3⟩ := app_struct 91 170 2 16 _ uRoots iRoot rfl (by decide) (f := rtCells) (fun _ => rfl) (fun x u hu => by simp only [rtCells, List.mem_cons, List.not_mem_nil, or_false] at hu; rcases hu with rfl | rfl <;> rfl) hG.r2 (n, node) (by omega) (by omega);have hpb : ¬ rowBlk (v 2) = some pb := fun e => by have := (hG.vlab 2 pb (by omega) e).1; have := hG.plab; omega
 have h3 := hC3.at hG.at_ hpb;rw [ev] at happ;refine ⟨a, c, a3, c3, w3, c4, happ, ⟨_, cellAt h3 4⟩, freeAt h3 4, ?_⟩;have hlt3 := lt_of_block h3;have hC4 : Chg (fun b => rowBlk (v 2) = some b ∨ b = pb) w (w3.setCell ⟨pb, 4, none⟩ (.slice a3 (G.roots.length + 1) c3)) := (hC3.mono fun _ _ h => .inl h).setCell (fun _ => .inr rfl) _;have hother : ∀ b, b ≠ pb → (w3.setCell ⟨pb, 4, none⟩ (.slice a3 (G.roots.length + 1) c3)).heap[b]? = w3.heap[b]? := fun b hb => heap_setCell_ne hb _;have hnpb : ∀ b, rowBlk (.slice a3 (G.roots.length + 1) c3) = some b → b ≠ pb := fun b hb e => by
  subst e;rcases hloc3 b hb with h5 | h5
  · exact hpb h5
  · have := lt_of_block hG.at_; omega
 refine hG.set 2 (by omega) (v1 := .slice a3 (G.roots.length + 1) c3) hC4 rfl ?_ (fun b hb => ⟨?_, hloc3 b hb⟩) rfl rfl ?_ rfl rfl
 · rw [heap_setCell h3]; rfl
 · have := hrow3.lt hb; simpa using this
 · show Row _ _ _ _ _ _;exact hrow3.same fun b hb => hother b (hnpb b hb)
theorem grant_g (hR : GRep w pb hb Lg G) (hl : G.roots.length < 20000) (hn : ∀ p ∈ G.roots, 0 ≤ p.2) (node : Int) :
 Calls Tryz.prog 123 #[.pointer (some ⟨pb, 1, none⟩), .int .i64 node] w fun e w' => e = .returned (.int .i64 G.fresh) ∧ GGot w pb hb Lg (G.grant node) w' := by
 refine ret_k fun K hK => ?_;have HK := Lib.hid hK;have HOf := Lib.hid fun h => of_g hR h;have HR := Lib.hid hR;have HL := Lib.hid hl;have HIff := Lib.hid fun h => of_iff hn h;clear hK hR hl hn
 go_enter Tryz.func123, Tryz.ntmps123
 go_wp2
 go_loopw [5] (fun k wx => ∃ i : Nat, i ≤ 20000 ∧ k = .int .i64 i ∧ w = wx ∧ Hid (∀ m : Nat, m < i → (m : Int) ∈ G.roots.map (·.1))) (fun k _ => 20001 - (intOf k).toNat)
 case atStart => exact ⟨0, by omega, rfl, rfl, Lib.hid fun m hm => absurd hm (by omega)⟩
 case round =>
  obtain ⟨i, hi, rfl, rfl, HI⟩ := hrel;have hlen : i ≤ G.roots.length := by
   have h1 := length_le_of_subset (l := (List.range i).map Int.ofNat) (l' := G.roots.map (·.1)) (by
    unfold List.Nodup;rw [List.pairwise_map];exact (List.nodup_range (n := i)).imp fun h e => h (Int.ofNat.inj e)) (fun x hx => by
    obtain ⟨m, hm, rfl⟩ := List.mem_map.1 hx;exact HI.out m (List.mem_range.1 hm))
   simpa using h1
  have HLi := Lib.hid hlen;clear hlen;have hwi : IntKind.i64.wrap ((i : Int) + 1) = (i : Int) + 1 := IntWalk.i64_in _ (by omega);by_cases hin : (i : Int) ∈ G.roots.map (·.1)
  · have hge : 0 ≤ G.of i := (HIff.out i).2 hin;have HI2 : Hid (∀ m : Nat, m < i + 1 → (m : Int) ∈ G.roots.map (·.1)) := fun m hm => by
     by_cases e : m = i
     · rw [e]; exact hin
     · exact HI.out m (by omega)
    have HO := HOf.out i;generalize G.of i = y at *;clear hin HI
    go_wp2_with (go_at_call 103; refine HO.mono ?_; rintro e w1 ⟨rfl, rfl⟩)
    go_roundw
    case rel => exact ⟨i + 1, by have := HLi.out; have := HL.out; omega, by go_num, by first | rfl | trivial, HI2⟩
    case measure => have := HLi.out; have := HL.out; simp [intOf]; omega
  · have hge : ¬ (0 ≤ G.of i) := fun h => hin ((HIff.out i).1 h);have hfr : G.fresh = i := freshOf_eq ⟨by omega, hin, fun m h0 hm => by
     have := HI.out m.toNat (by omega)
     rwa [Int.toNat_of_nonneg h0] at this⟩
    obtain ⟨a, c, a3, c3, w3, c4, happ, ⟨u, hu⟩, hfz, hG⟩ := grant_store HR.out HL.out i node;have HO := HOf.out i;have hg : GGot w pb hb Lg (G.grant node) (w3.setCell ⟨pb, 4, none⟩ (.slice a3 (G.roots.length + 1) c3)) := by
     unfold GS.grant;rw [hfr]; exact hG
    have HZ := Lib.hid (HK.out _ _ ⟨by rw [hfr], hg⟩);generalize G.of i = y at *;generalize G.roots.length = len at *;clear hin HI hfr hG hg HK HR HL HIff HOf
    go_wp2_with (first | (go_at_call 103; refine HO.mono ?_; rintro e w1 ⟨rfl, rfl⟩) | (at_builtin; go_must (refine wpList_val rfl (exec_append rfl happ) ?_)))
    go_ret;exact HZ.out
def lowK (keys : List Int) (i : Nat) : List Int := ((List.range i).map Int.ofNat).filter fun m => decide (m ∈ keys)
theorem lowK_mem {x : Int} : x ∈ lowK keys i ↔ 0 ≤ x ∧ x < i ∧ x ∈ keys := by
 unfold lowK;rw [List.mem_filter];simp only [List.mem_map, List.mem_range, decide_eq_true_eq];constructor
 · rintro ⟨⟨m, hm, rfl⟩, hk⟩;exact ⟨Int.natCast_nonneg m, Int.ofNat_lt.2 hm, hk⟩
 · rintro ⟨h0, h1, hk⟩;exact ⟨⟨x.toNat, by omega, Int.toNat_of_nonneg h0⟩, hk⟩
theorem range_pair (i : Nat) : ((List.range i).map Int.ofNat).Pairwise (· < ·) := by
 rw [List.pairwise_map];exact (List.pairwise_lt_range (n := i)).imp fun h => Int.ofNat_lt.2 h
theorem lowK_pair (keys : List Int) (i : Nat) : (lowK keys i).Pairwise (· < ·) := (range_pair i).sublist List.filter_sublist
theorem lowK_nodup (keys : List Int) (i : Nat) : (lowK keys i).Nodup := (lowK_pair keys i).imp fun h => by omega
theorem lowK_in (h : (i : Int) ∈ keys) : lowK keys (i + 1) = lowK keys i ++ [(i : Int)] := by
 unfold lowK;rw [List.range_succ, List.map_append, List.filter_append];simp [h]
theorem lowK_out (h : ¬ (i : Int) ∈ keys) : lowK keys (i + 1) = lowK keys i := by
 unfold lowK;rw [List.range_succ, List.map_append, List.filter_append];simp [h]
theorem lowK_le (keys : List Int) (i : Nat) : (lowK keys i).length ≤ keys.length := length_le_of_subset (lowK_nodup keys i) fun _ hx => (lowK_mem.1 hx).2.2
theorem lowK_all (hn : keys.Nodup) (h0 : ∀ k ∈ keys, 0 ≤ k) (hl : keys.length ≤ (lowK keys i).length) : (lowK keys i).Perm keys := by
 refine (List.perm_ext_iff_of_nodup (lowK_nodup keys i) hn).2 fun x => ⟨fun hx => (lowK_mem.1 hx).2.2, fun hx => ?_⟩;by_cases hlt : x < i
 · exact lowK_mem.2 ⟨h0 x hx, hlt, hx⟩
 · have := length_le_of_subset (l := x :: lowK keys i) (l' := keys) (List.nodup_cons.2 ⟨fun h => hlt (lowK_mem.1 h).2.1, lowK_nodup keys i⟩) (fun y hy => by
    rcases List.mem_cons.1 hy with rfl | hy
    · exact hx
    · exact (lowK_mem.1 hy).2.2)
   simp only [List.length_cons] at this;omega
theorem lowK_sort (hn : keys.Nodup) (h0 : ∀ k ∈ keys, 0 ≤ k) (hl : keys.length ≤ (lowK keys i).length) : lowK keys i = sortI keys := by
 have hp := lowK_all hn h0 hl;have tr : ∀ a b c : Int, decide (a ≤ b) = true → decide (b ≤ c) = true → decide (a ≤ c) = true := fun a b c h1 h2 => by simp only [decide_eq_true_eq] at *; omega
 have tot : ∀ a b : Int, (decide (a ≤ b) || decide (b ≤ a)) = true := fun a b => by simp only [Bool.or_eq_true, decide_eq_true_eq]; omega
 refine List.Perm.eq_of_pairwise (le := fun a b => decide (a ≤ b) = true) (fun a b _ _ h1 h2 => ?_) ((lowK_pair keys i).imp fun h => by simp only [decide_eq_true_eq]; omega) (List.pairwise_mergeSort tr tot keys) (hp.trans (sortI_perm keys).symm);simp only [decide_eq_true_eq] at h1 h2; omega
theorem lowK_more (hn : keys.Nodup) {M : Nat} (hM : ∀ k ∈ keys, k < M) (h0 : ∀ k ∈ keys, 0 ≤ k) (hl : (lowK keys i).length < keys.length) : i < M := by
 refine Nat.lt_of_not_le fun hle => ?_;have hp : (lowK keys i).Perm keys := (List.perm_ext_iff_of_nodup (lowK_nodup keys i) hn).2 fun x => ⟨fun hx => (lowK_mem.1 hx).2.2, fun hx => lowK_mem.2 ⟨h0 x hx, by have := hM x hx; omega, hx⟩⟩;have := hp.length_eq;omega
def GS.hands (G : GS) : List Int := sortI (G.roots.map (·.1))
theorem handles_g (hR : GRep w pb hb Lg G) (hl : G.roots.length < 20000) (hn : ∀ p ∈ G.roots, 0 ≤ p.2) (hnod : (G.roots.map (·.1)).Nodup) (hk : ∀ k ∈ G.roots.map (·.1), 0 ≤ k ∧ k < 9000) :
 Calls Tryz.prog 52 #[.pointer (some ⟨pb, 1, none⟩)] w fun e w' => ∃ v, e = .returned v ∧ IRow w' w.heap.size v G.hands ∧ Chg (fun _ => False) w w' := by
 refine ret_k fun K hK => ?_;have HK := Lib.hid hK;have HR := Lib.hid hR;have HIff := Lib.hid fun h => of_iff hn h;have hkl : (G.roots.map (·.1)).length = G.roots.length := by simp
 have HKl := Lib.hid hkl;have HKy := Lib.hid (⟨hnod, hk, hl⟩ : _ ∧ _ ∧ _);obtain ⟨keys, hkeys⟩ : ∃ keys, keys = G.roots.map (·.1) := ⟨_, rfl⟩;rw [← hkeys] at HKl HKy HIff;have HH : Hid (G.hands = sortI keys) := by rw [hkeys]; rfl
 clear hK hR hn hnod hk hl hkl hkeys;obtain ⟨len, hlen⟩ : ∃ len, len = G.roots.length := ⟨_, rfl⟩;have HLen : Hid (keys.length = len ∧ len < 20000) := by rw [hlen]; exact ⟨HKl.out, HKy.out.2.2⟩
 have HC4 : Hid (∀ wx, Chg (fun _ => False) w wx → ∃ a c, wx.cell? ⟨pb, 4, none⟩ = some (.slice a len c)) := fun wx hC => by
  obtain ⟨lab, v, hG⟩ := HR.out.still hC;obtain ⟨a, c, _, _, c4, _⟩ := hG.roots;exact ⟨a, c, by rw [hlen]; exact c4⟩
 clear hlen
 go_enter Tryz.func52, Tryz.ntmps52
 go_wp2
 go_loopw [3, 4] (fun o k wx => ∃ (i : Nat) (a : Option Addr) (c : Nat), i ≤ 9000 ∧ k = .int .i64 i ∧ o = .slice a (lowK keys i).length c ∧ Hid (Chg (fun _ => False) w wx ∧ IRow wx w.heap.size o (lowK keys i))) (fun _ k _ => 9001 - (intOf k).toNat)
 case atStart => exact ⟨0, none, 0, by omega, rfl, rfl, Lib.hid ⟨Chg.refl _ _, Row.nil _ _ _, fun b hb => by simp [rowBlk] at hb⟩⟩
 case round =>
  obtain ⟨i, a, c, hi, rfl, rfl, HI⟩ := hrel;obtain ⟨ar, cr, c4⟩ := HC4.out wr HI.out.1;have HLe := Lib.hid (lowK_le keys i);by_cases hlt : (lowK keys i).length < len
  · have hM := lowK_more HKy.out.1 (M := 9000) (fun k hk => (HKy.out.2.1 k hk).2) (fun k hk => (HKy.out.2.1 k hk).1) (by rw [HLen.out.1]; exact hlt);have HM := Lib.hid hM;have hwi : IntKind.i64.wrap ((i : Int) + 1) = (i : Int) + 1 := IntWalk.i64_in _ (by omega);have HO := Lib.hid (of_g (HR.out.still HI.out.1) i);have hlt' : ((lowK keys i).length : Int) < (len : Int) := by omega
    by_cases hin : (i : Int) ∈ keys
    · have hge : 0 ≤ G.of i := (HIff.out i).2 hin;obtain ⟨a3, c3, w3, happ, hrow3, hC3, hloc3⟩ := appOne HI.out.2.row (i : Int) (by have := HLe.out; have := HLen.out; omega);have hI3 : Chg (fun _ => False) w w3 ∧ IRow w3 w.heap.size (.slice a3 ((lowK keys i).length + 1) c3) (lowK keys (i + 1)) := by
       refine ⟨HI.out.1.trans hC3 fun b hb h => ?_, ?_⟩
       · have := HI.out.2.new b h; omega
       · rw [lowK_in hin];refine ⟨?_, fun b hb => ?_⟩
         · rw [List.length_append, List.length_singleton];rw [List.length_append, List.length_singleton] at hrow3;exact hrow3
         · rcases hloc3 b hb with h | h
           · exact HI.out.2.new b h
           · have := HI.out.1.size; omega
      have hlen3 : (lowK keys i).length + 1 = (lowK keys (i + 1)).length := by rw [lowK_in hin]; simp
      have HI3 := Lib.hid hI3;rw [hlen3] at HI3 happ;generalize G.of i = y at *;generalize (lowK keys i).length = n at *;clear hin HI hlen3 hrow3 hC3 hloc3 hI3 HLe
      go_wp2_with (first | (go_at_call 103; refine HO.out.mono ?_; rintro e w1 ⟨rfl, rfl⟩) | (at_builtin; go_must (refine wpList_val rfl (exec_append rfl happ) ?_)))
      go_roundw
      case rel => exact ⟨i + 1, a3, c3, by have := HM.out; omega, by go_num, rfl, HI3⟩
      case measure => have := HM.out; simp [intOf]; omega
    · have hge : ¬ (0 ≤ G.of i) := fun h => hin ((HIff.out i).1 h);rw [← lowK_out hin] at HI hlt' ⊢;generalize G.of i = y at *;clear hin HLe
      go_wp2_with (go_at_call 103; refine HO.out.mono ?_; rintro e w1 ⟨rfl, rfl⟩)
      go_roundw
      case rel => exact ⟨i + 1, a, c, by have := HM.out; omega, by go_num, rfl, HI⟩
      case measure => have := HM.out; simp [intOf]; omega
  · have hlt' : ¬ ((lowK keys i).length : Int) < (len : Int) := by omega
    have hE := lowK_sort HKy.out.1 (fun k hk => (HKy.out.2.1 k hk).1) (i := i) (by have := HLen.out; omega);have HZ := Lib.hid (HK.out _ _ ⟨_, rfl, by rw [HH.out, ← hE]; exact HI.out.2, HI.out.1⟩);clear hE HK HI;go_wp2;go_ret;exact HZ.out
def updM (f : Nat → Bool) (q : Nat) : Nat → Bool := fun j => if j = q then true else f j
structure MarkAt (w : World) (sb n : Nat) (f : Nat → Bool) : Prop where
 blk : ∃ cur, w.heap[sb]? = some (.cells cur 4 (0, 0)) ∧ cur.size = n ∧ ∀ j, j < n → cur[j]? = some (.bool (f j))
theorem MarkAt.cell (h : MarkAt w sb n f) {j : Nat} (hj : j < n) : w.cell? ⟨sb, j, none⟩ = some (.bool (f j)) := by
 obtain ⟨cur, h1, _, h3⟩ := h.blk;rw [cellAt h1]; exact h3 j hj
theorem MarkAt.free (h : MarkAt w sb n f) (j : Nat) : w.frozen? ⟨sb, j, none⟩ = false := by
 obtain ⟨cur, h1, _, _⟩ := h.blk;exact freeAt h1 j
theorem MarkAt.lt (h : MarkAt w sb n f) : sb < w.heap.size := by
 obtain ⟨cur, h1, _, _⟩ := h.blk;exact lt_of_block h1
theorem MarkAt.put (h : MarkAt w sb n f) (hq : q < n) : MarkAt (w.setCell ⟨sb, q, none⟩ (.bool true)) sb n (updM f q) := by
 obtain ⟨cur, h1, h2, h3⟩ := h.blk;refine ⟨_, heap_setCell h1 q _, by simpa using h2, fun j hj => ?_⟩;by_cases e : j = q
 · subst e;rw [Array.getElem?_setIfInBounds_self_of_lt (by omega)];simp [updM]
 · rw [Array.getElem?_setIfInBounds_ne (by omega)];simp only [updM, e, if_false];exact h3 j hj
theorem MarkAt.same {w' : World} (h : MarkAt w sb n f) (hw : w'.heap[sb]? = w.heap[sb]?) : MarkAt w' sb n f := ⟨by rw [hw]; exact h.blk⟩
theorem MarkAt.ext (h : MarkAt w sb n f) (hfg : ∀ j, j < n → f j = g j) : MarkAt w sb n g := by
 obtain ⟨cur, h1, h2, h3⟩ := h.blk;exact ⟨cur, h1, h2, fun j hj => by rw [← hfg j hj]; exact h3 j hj⟩
theorem make_marks (w : World) (n : Nat) (hn : n ≤ 1000000) : ∃ X, (Instr.makeSlice 48 (.int .i64 n) (.int .i64 n)).run Tryz.prog w = .ok (.slice (some ⟨w.heap.size, 0, none⟩) n n) (w.alloc X) ∧ MarkAt (w.alloc X) w.heap.size n (fun _ => false) := by
 obtain ⟨i0, hi, hz0, hz1, hz2⟩ := info_parts iBool;have h := run_make (P := Tryz.prog) w 48 4 i0 _ uBools hi hz0 .i64 .i64 n n (by omega) (Int.le_refl _) (by rw [hz2]; omega) (by omega);rw [hz1] at h;refine ⟨_, h, ⟨_, heap_alloc_new w _, by simp [size_madeCells], fun j hj => ?_⟩⟩;rw [← Array.getElem?_toList, show (Value.bool false).cells = #[.bool false] from rfl, toList_madeCells_one, List.getElem?_replicate, if_pos (by simpa using hj)]
def cntM (n : Nat) (f : Nat → Bool) : Nat := ((List.range n).filter f).length
theorem cntM_le (n : Nat) (f : Nat → Bool) : cntM n f ≤ n := by
 have := List.length_filter_le f (List.range n);simpa [cntM] using this
theorem cntM_lt (hfg : ∀ j, j < n → f j = true → g j = true) (hq : q < n) (hf : f q = false) (hg : g q = true) : cntM n f < cntM n g := by
 unfold cntM;have h1 : (List.range n).filter f = ((List.range n).filter f).filter (fun j => decide (j ≠ q)) := by
  rw [eq_comm, List.filter_eq_self];intro j hj;have := (List.mem_filter.1 hj).2;simp only [ne_eq, decide_not, Bool.not_eq_true', decide_eq_false_iff_not];intro e; subst e; rw [hf] at this; cases this
 have h2 : ∀ l : List Nat, q ∈ l → (l.filter fun j => decide (j ≠ q)).length < l.length := fun l hl => by
  have := List.length_filter_lt_length_iff_exists (p := fun j => decide (j ≠ q)) (l := l);exact this.2 ⟨q, hl, by simp⟩
 have h3 : ((List.range n).filter f).length ≤ (((List.range n).filter g).filter fun j => decide (j ≠ q)).length := by
  rw [h1, List.filter_filter, List.filter_filter];refine filter_length_le fun j hj hp => ?_;simp only [Bool.and_eq_true] at hp ⊢;exact ⟨hp.1, hfg j (List.mem_range.1 hj) hp.2⟩
 have h4 := h2 ((List.range n).filter g) (List.mem_filter.2 ⟨List.mem_range.2 hq, hg⟩);omega
inductive SReach (links : List GL) (P : Int → Prop) : Int → Prop
 | root {n : Int} : P n → SReach links P n
 | field {l : GL} : l ∈ links → l.ref = true → SReach links P l.frm → l.key < 0 → SReach links P l.num
 | entry {l : GL} : l ∈ links → l.ref = true → SReach links P l.frm → SReach links P l.key → SReach links P l.num
theorem SReach.step {links : List GL} {P : Int → Prop} (h : l ∈ links) (hr : l.ref = true) (h1 : SReach links P l.frm) (h2 : l.key < 0 ∨ SReach links P l.key) : SReach links P l.num :=
 h2.elim (.field h hr h1) (.entry h hr h1)
def GS.In (G : GS) : Prop := ∀ l ∈ G.links, (0 ≤ l.frm ∧ l.frm < G.nodes.length) ∧ (l.key < 0 ∨ (0 ≤ l.key ∧ l.key < G.nodes.length)) ∧ (l.ref = true → 0 ≤ l.num ∧ l.num < G.nodes.length)
def ClosedAt (f : Nat → Bool) (l : GL) : Prop := l.ref = true → f l.frm.toNat = true → (l.key < 0 ∨ f l.key.toNat = true) → f l.num.toNat = true
theorem SReach.closed {links : List GL} {P : Int → Prop} (hP : ∀ n, P n → f n.toNat = true) (hc : ∀ l ∈ links, ClosedAt f l) {n : Int} (h : SReach links P n) : f n.toNat = true := by
 induction h with
 | root h => exact hP _ h
 | field hl hr _ hk ih => exact hc _ hl hr ih (.inl hk)
 | entry hl hr _ _ ih1 ih2 => exact hc _ hl hr ih1 (.inr ih2)
theorem GR.links {v : Nat → Value} (h : GR w pb hb Lg lab v G) : ∃ a c, v 1 = .slice a G.links.length c ∧ G.links.length ≤ maxLen ∧ w.cell? ⟨pb, 3, none⟩ = some (.slice a G.links.length c) ∧ ∀ i x, G.links[i]? = some x → ∃ b, a = some ⟨b, 0, none⟩ ∧ w.cell? ⟨b, i * 5, none⟩ = some (.int .i64 x.frm) ∧ w.cell? ⟨b, i * 5 + 1, none⟩ = some (.int .i64 x.slot) ∧ w.cell? ⟨b, i * 5 + 2, none⟩ = some (.int .i64 x.key) ∧ w.cell? ⟨b, i * 5 + 3, none⟩ = some (.bool x.ref) ∧ w.cell? ⟨b, i * 5 + 4, none⟩ = some (.int .i64 x.num) := by
 obtain ⟨a, c, e, h1, h2, h3⟩ := Row.at_ (f := GL.cells) (fun _ => rfl) h.r1;refine ⟨a, c, e, by omega, by rw [← e]; exact cellAt h.at_ 3, fun i x hx => ?_⟩;obtain ⟨b, e1, _, e2⟩ := h3 i x hx;exact ⟨b, e1, e2 0 _ rfl, e2 1 _ rfl, e2 2 _ rfl, e2 3 _ rfl, e2 4 _ rfl⟩
def PM (n : Nat) (f : Nat → Bool) (m : Int) : Prop := 0 ≤ m ∧ m < n ∧ f m.toNat = true
noncomputable def spreadM (links : List GL) (n : Nat) (f : Nat → Bool) : Nat → Bool := fun j => dec (SReach links (PM n f) (j : Int))
structure SpI (w wx : World) (sb n : Nat) (links : List GL) (f0 f : Nat → Bool) : Prop where
 mark : MarkAt wx sb n f
 chg : Chg (fun b => b = sb) w wx
 low : ∀ j, j < n → f0 j = true → f j = true
 up : ∀ j, j < n → f j = true → SReach links (PM n f0) (j : Int)
theorem SpI.alloc {links : List GL} (h : SpI w wx sb n links f0 f) (X : Obj) : SpI w (wx.alloc X) sb n links f0 f :=
 { h with mark := h.mark.same (by rw [heap_alloc, if_neg (by have := h.mark.lt; omega)]), chg := h.chg.alloc X }
theorem SpI.put {links : List GL} (h : SpI w wx sb n links f0 f) (hq : q < n) (hr : SReach links (PM n f0) (q : Int)) : SpI w (wx.setCell ⟨sb, q, none⟩ (.bool true)) sb n links f0 (updM f q) :=
 { mark := h.mark.put hq
   chg := h.chg.setCell (p := ⟨sb, q, none⟩) (fun _ => rfl) _
   low := fun j hj hf => by unfold updM; split; rfl; exact h.low j hj hf
   up := fun j hj hf => by
    unfold updM at hf
    split at hf
    · rename_i e; rw [e]; exact hr
    · exact h.up j hj hf }
theorem SpI.done {links : List GL} (h : SpI w wx sb n links f0 f) (hc : ∀ l ∈ links, ClosedAt f l) : MarkAt wx sb n (spreadM links n f0) := by
 refine h.mark.ext fun j hj => ?_;cases hf : f j with
 | true => exact (dec_iff.2 (h.up j hj hf)).symm
 | false =>
   cases hd : spreadM links n f0 j with
   | false => rfl
   | true =>
     have := SReach.closed (f := f) (fun m hm => h.low _ (by have := hm.1; have := hm.2.1; omega) hm.2.2) hc (dec_iff.1 hd);rw [Int.toNat_natCast, hf] at this;cases this
theorem spread_g (hR : GRep w pb hb Lg G) (hIn : G.In) (hM : MarkAt w sb G.nodes.length f0) (hsb : sb ∉ Lg) (hbig : G.links.length ≤ 1000000000) :
 Calls Tryz.prog 106 #[.pointer (some ⟨pb, 1, none⟩), .slice (some ⟨sb, 0, none⟩) G.nodes.length G.nodes.length] w fun e w' => e = .returned (.slice (some ⟨sb, 0, none⟩) G.nodes.length G.nodes.length) ∧ MarkAt w' sb G.nodes.length (spreadM G.links G.nodes.length f0) ∧ Chg (fun b => b = sb) w w' := by
 refine ret_k fun K hK => ?_;have HK := Lib.hid hK;have HR := Lib.hid hR;have HIn := Lib.hid hIn;have HSb := Lib.hid hsb;have H0 : Hid (SpI w w sb G.nodes.length G.links f0 f0) := ⟨hM, Chg.refl _ _, fun _ _ h => h, fun j hj h => .root ⟨by omega, by omega, by rwa [Int.toNat_natCast]⟩⟩;have HBig := Lib.hid hbig;clear hK hR hIn hM hsb hbig;obtain ⟨n, hn⟩ : ∃ n, n = G.nodes.length := ⟨_, rfl⟩;have HN := Lib.hid hn;obtain ⟨len, hlen⟩ : ∃ len, len = G.links.length := ⟨_, rfl⟩;have HLen := Lib.hid hlen;rw [← hn] at H0 HK ⊢
 have HC : Hid (∀ wx, Chg (fun b => b = sb) w wx → ∃ a c, wx.cell? ⟨pb, 3, none⟩ = some (.slice a len c) ∧ ∀ i x, G.links[i]? = some x → ∃ b, a = some ⟨b, 0, none⟩ ∧ wx.cell? ⟨b, i * 5, none⟩ = some (.int .i64 x.frm) ∧ wx.cell? ⟨b, i * 5 + 1, none⟩ = some (.int .i64 x.slot) ∧ wx.cell? ⟨b, i * 5 + 2, none⟩ = some (.int .i64 x.key) ∧ wx.cell? ⟨b, i * 5 + 3, none⟩ = some (.bool x.ref) ∧ wx.cell? ⟨b, i * 5 + 4, none⟩ = some (.int .i64 x.num)) := fun wx hC => by
  obtain ⟨lab, v, hG⟩ := HR.out.frame hC (fun b hb e => HSb.out (e ▸ hb));obtain ⟨a, c, _, _, c3, hc⟩ := hG.links;exact ⟨a, c, by rw [hlen]; exact c3, hc⟩
 clear hn hlen
 go_enter Tryz.func106, Tryz.ntmps106
 go_wp2
 go_loopg [5] (n + 2) (fun num s5 wr => ∃ (more : Bool) (f : Nat → Bool), s5 = .bool more ∧ Hid (SpI w wr sb n G.links f0 f ∧ (more = false → ∀ l ∈ G.links, ClosedAt f l) ∧ (if more then n - cntM n f + 1 else 0) ≤ num))
 case atStart => exact ⟨true, f0, rfl, Lib.hid ⟨H0.out, fun h => (by cases h), by simp; omega⟩⟩
 case round =>
  obtain ⟨more, f, rfl, HI⟩ := hrel;clear H0;cases more with
  | false =>
    have HZ := Lib.hid (HK.out _ _ ⟨rfl, HI.out.1.done (HI.out.2.1 rfl), HI.out.1.chg⟩);clear HI HK;go_wp2;go_ret;exact HZ.out
  | true =>
    have HNum : Hid (n - cntM n f + 1 ≤ gk) := Lib.hid (by simpa using HI.out.2.2);go_wp2
    go_loopw [5, 6] (fun s5 s6 wx => ∃ (more : Bool) (g : Nat → Bool) (i : Nat), s5 = .bool more ∧ i ≤ len ∧ s6 = .int .i64 i ∧ Hid (SpI w wx sb n G.links f0 g ∧ (more = false → g = f ∧ ∀ m l, m < i → G.links[m]? = some l → ClosedAt f l) ∧ (more = true → cntM n f < cntM n g) ∧ (∀ j, j < n → f j = true → g j = true))) (fun _ s6 _ => len - (intOf s6).toNat)
    case atStart => exact ⟨false, f, 0, rfl, by omega, rfl, Lib.hid ⟨HI.out.1, fun _ => ⟨rfl, fun m l hm _ => absurd hm (by omega)⟩, fun h => (by cases h), fun _ _ h => h⟩⟩
    case round =>
     obtain ⟨more, g, i, rfl, hi, rfl, HJ⟩ := hrel;clear HI;by_cases hlt : i < len
     · have hlt' : (i : Int) < (len : Int) := by omega
       have hwi : IntKind.i64.wrap ((i : Int) + 1) = (i : Int) + 1 := IntWalk.i64_in _ (by have := HLen.out; have := HBig.out; omega);obtain ⟨a, c, c3, hcell⟩ := HC.out wr HJ.out.1.chg;obtain ⟨x, hx⟩ : ∃ x, G.links[i]? = some x := ⟨_, List.getElem?_eq_getElem (by rw [← HLen.out]; exact hlt)⟩;obtain ⟨b, rfl, k0, k1, k2, k3, k4⟩ := hcell i x hx;have HX := Lib.hid hx;obtain ⟨⟨hi1, hi2⟩, hi3, hi4⟩ := HIn.out x (List.mem_of_getElem? hx);obtain ⟨cond, hcond⟩ : ∃ cond : Bool, cond = (x.ref && (g x.frm.toNat && ((decide (x.key < 0) || g x.key.toNat) && !g x.num.toNat))) := ⟨_, rfl⟩;have HCond := Lib.hid hcond;clear hcond hx hcell;rw [← HN.out] at hi2 hi3 hi4;obtain ⟨xf, xs, xk, xr, xn⟩ := x
       simp only at hi1 hi2 hi3 hi4 k0 k1 k2 k3 k4 HCond;obtain ⟨qf, rfl⟩ : ∃ qf : Nat, xf = qf := ⟨xf.toNat, (Int.toNat_of_nonneg hi1).symm⟩;have HI4 := Lib.hid hi4;have HI3 := Lib.hid hi3;have HQf : Hid (qf < n) := by show _ < _; omega
       clear hi1 hi2 hi3 hi4 hlt
       go_upto_region 8 with fail
       have HA := HJ.out.1.alloc (.cells #[.int .i64 qf, .int .i64 xs, .int .i64 xk, .bool xr, .int .i64 xn] 144);have hbx := heap_alloc_new wr (.cells #[.int .i64 qf, .int .i64 xs, .int .i64 xk, .bool xr, .int .i64 xn] 144);generalize wr.alloc (.cells #[.int .i64 qf, .int .i64 xs, .int .i64 xk, .bool xr, .int .i64 xn] 144) = wb at HA hbx ⊢;generalize wr.heap.size = bb at hbx ⊢;have HJ2 : Hid (SpI w wb sb n G.links f0 g ∧ (more = false → g = f ∧ ∀ m l, m < i → G.links[m]? = some l → ClosedAt f l) ∧ (more = true → cntM n f < cntM n g) ∧ (∀ j, j < n → f j = true → g j = true)) := ⟨HA, HJ.out.2⟩;have b0 := cellAt hbx 0;have b2 := cellAt hbx 2;have b3 := cellAt hbx 3;have b4 := cellAt hbx 4
       have HB4 := Lib.hid b4;clear HA hbx HJ k0 k1 k2 k3 k4 c3
       go_cut [53] from 25 to 52 (fun s53 wx => s53 = .bool cond ∧ wb = wx)
       case first =>
        have m1 := HJ2.out.1.mark.cell HQf.out;have e1 : ((qf : Int)).toNat = qf := Int.toNat_natCast qf;have hqf' : (qf : Int) < (n : Int) := by have := HQf.out; omega
        rw [e1] at HCond;cases xr with
        | false =>
          go_wp2
          go_meet
          exact ⟨by rw [HCond.out]; simp, rfl⟩
        | true =>
          obtain ⟨h41, h42⟩ := HI4.out rfl;obtain ⟨qn, rfl⟩ : ∃ qn : Nat, xn = qn := ⟨xn.toNat, (Int.toNat_of_nonneg h41).symm⟩;have m3 := HJ2.out.1.mark.cell (j := qn) (by omega);have e3 : ((qn : Int)).toNat = qn := Int.toNat_natCast qn;rw [e3] at HCond;by_cases hk : xk < 0
          · generalize g qf = y1 at *;generalize g qn = y3 at *;rw [decide_eq_true hk] at HCond;cases y1 <;> cases y3
            all_goals
             go_wp2
             go_meet
             exact ⟨by rw [HCond.out]; rfl, rfl⟩
          · obtain ⟨h31, h32⟩ := HI3.out.resolve_left hk;obtain ⟨qk, rfl⟩ : ∃ qk : Nat, xk = qk := ⟨xk.toNat, (Int.toNat_of_nonneg h31).symm⟩;have m2 := HJ2.out.1.mark.cell (j := qk) (by omega);have e2 : ((qk : Int)).toNat = qk := Int.toNat_natCast qk;rw [e2, decide_eq_false hk] at HCond;generalize g qf = y1 at *;generalize g qn = y3 at *;generalize g qk = y2 at *;cases y1 <;> cases y2 <;> cases y3
            all_goals
             go_wp2
             go_meet
             exact ⟨by rw [HCond.out]; rfl, rfl⟩
       case rest =>
        obtain ⟨rfl, rfl⟩ := hcut;clear b0 b2 b3;cases cond with
        | false =>
          clear b4;go_wp2
          go_roundw
          case rel =>
           refine ⟨more, g, i + 1, rfl, by omega, by go_num, Lib.hid ⟨HJ2.out.1, fun hm => ⟨(HJ2.out.2.1 hm).1, fun m l hm2 hl => ?_⟩, HJ2.out.2.2⟩⟩;by_cases e : m = i
           · subst e;rw [HX.out] at hl;simp only [Option.some.injEq] at hl;subst hl;intro hr hf hk;have h1 := HCond.out;rw [(HJ2.out.2.1 hm).1] at h1;simp only at hr hf hk ⊢;cases h2 : f xn.toNat with
             | true => rfl
             | false =>
               rw [hr, hf, h2] at h1;rcases hk with hk | hk
               · rw [decide_eq_true hk] at h1; simp at h1
               · rw [hk] at h1; simp at h1
           · exact (HJ2.out.2.1 hm).2 m l (by omega) hl
          case measure => simp [intOf]; omega
        | true =>
          have h1 := HCond.out.symm;simp only [Bool.and_eq_true, Bool.or_eq_true, decide_eq_true_eq, Bool.not_eq_true'] at h1;obtain ⟨hr, hf, hk, hnn⟩ := h1;subst hr;obtain ⟨h41, h42⟩ := HI4.out rfl;obtain ⟨qn, rfl⟩ : ∃ qn : Nat, xn = qn := ⟨xn.toNat, (Int.toNat_of_nonneg h41).symm⟩;have hqn : qn < n := by omega
          have hqn' : (qn : Int) < (n : Int) := by omega
          have e3 : ((qn : Int)).toNat = qn := Int.toNat_natCast qn;have e1 : ((qf : Int)).toNat = qf := Int.toNat_natCast qf;rw [e3] at hnn;rw [e1] at hf;have hreach : SReach G.links (PM n f0) (qn : Int) := by
           refine SReach.step (List.mem_of_getElem? HX.out) rfl (HJ2.out.1.up qf HQf.out hf) ?_;rcases hk with hk | hk
           · exact .inl hk
           · by_cases hk0 : xk < 0
             · exact .inl hk0
             · obtain ⟨h31, h32⟩ := HI3.out.resolve_left hk0;have := HJ2.out.1.up xk.toNat (by omega) hk;rw [Int.toNat_of_nonneg h31] at this;exact .inr this
          have HP : Hid (SpI w (wb.setCell ⟨sb, qn, none⟩ (.bool true)) sb n G.links f0 (updM g qn) ∧ (true = false → updM g qn = f ∧ ∀ m l, m < i + 1 → G.links[m]? = some l → ClosedAt f l) ∧ (true = true → cntM n f < cntM n (updM g qn)) ∧ (∀ j, j < n → f j = true → updM g qn j = true)) := by
           have hsub : ∀ j, j < n → f j = true → updM g qn j = true := fun j hj hfj => by unfold updM; split; rfl; exact HJ2.out.2.2.2 j hj hfj
           refine ⟨HJ2.out.1.put hqn hreach, fun h => (by cases h), fun _ => cntM_lt hsub hqn ?_ (by simp [updM]), hsub⟩;cases h5 : f qn with
           | false => rfl
           | true => rw [HJ2.out.2.2.2 qn hqn h5] at hnn; cases hnn
          have m4 := HJ2.out.1.mark.cell hqn;have m5 := HJ2.out.1.mark.free qn;clear hnn hf hk hreach HCond hqn;go_wp2
          go_roundw
          case rel => exact ⟨true, updM g qn, i + 1, rfl, by omega, by go_num, HP⟩
          case measure => simp [intOf]; omega
     · obtain rfl : i = len := by omega
       obtain ⟨a, c, c3, hcell⟩ := HC.out wr HJ.out.1.chg;clear hcell;go_wp2
       go_roundg (gk - 1)
       case measure => have := HNum.out; omega
       case rel =>
        refine ⟨more, g, rfl, Lib.hid ⟨HJ.out.1, fun hm l hl => ?_, ?_⟩⟩
        · obtain ⟨hg, hc⟩ := HJ.out.2.1 hm;subst hg;obtain ⟨m, hm1, hm2⟩ := List.getElem_of_mem hl;exact hc m l (by rw [HLen.out]; exact hm1) (by rw [List.getElem?_eq_getElem hm1, hm2])
        · have h1 := HNum.out;have h2 := cntM_le n g;cases more with
          | false => simp
          | true => have h3 := HJ.out.2.2.1 rfl; simp only [if_true]; omega
def markL (l : List Int) (f : Nat → Bool) : Nat → Bool := fun j => f j || decide ((j : Int) ∈ l)
theorem markL_next (l : List Int) (f : Nat → Bool) (q : Nat) (j : Nat) : updM (markL l f) q j = markL (l ++ [(q : Int)]) f j := by
 unfold updM markL;by_cases e : j = q
 · subst e; simp
 · have e2 : ¬ ((j : Int) = (q : Int)) := by omega
   simp [e, e2]
theorem MarkAt.next {l : List Int} (h : MarkAt w sb n (markL l f)) (hq : q < n) : MarkAt (w.setCell ⟨sb, q, none⟩ (.bool true)) sb n (markL (l ++ [(q : Int)]) f) :=
 (h.put hq).ext fun j _ => markL_next l f q j
theorem SReach.into {links : List GL} {P Q : Int → Prop} (h : ∀ n, P n → SReach links Q n) {n : Int} (hr : SReach links P n) : SReach links Q n := by
 induction hr with
 | root h1 => exact h _ h1
 | field hl hr _ hk ih => exact .field hl hr ih hk
 | entry hl hr _ _ ih1 ih2 => exact .entry hl hr ih1 ih2
theorem spreadM_iff {links : List GL} {Q : Int → Prop} (h1 : ∀ j, j < n → f j = true → SReach links Q (j : Int)) (h2 : ∀ m, Q m → 0 ≤ m ∧ m < n ∧ f m.toNat = true) (j : Nat) : spreadM links n f j = dec (SReach links Q (j : Int)) := by
 have e : SReach links (PM n f) (j : Int) ↔ SReach links Q (j : Int) := by
  constructor
  · exact SReach.into fun m hm => by
     have := h1 m.toNat (by have := hm.1; have := hm.2.1; omega) hm.2.2
     rwa [Int.toNat_of_nonneg hm.1] at this
  · exact SReach.into fun m hm => .root (h2 m hm)
 unfold spreadM;cases hd : dec (SReach links Q (j : Int)) with
 | true => exact dec_iff.2 (e.2 (dec_iff.1 hd))
 | false =>
   cases hd2 : dec (SReach links (PM n f) (j : Int)) with
   | false => rfl
   | true => rw [dec_iff.2 (e.1 (dec_iff.1 hd2))] at hd; cases hd
theorem GR.nodesC {v : Nat → Value} (h : GR w pb hb Lg lab v G) : ∃ a c, v 0 = .slice a G.nodes.length c ∧ w.cell? ⟨pb, 2, none⟩ = some (.slice a G.nodes.length c) ∧ ∀ i x, G.nodes[i]? = some x → ∃ b, a = some ⟨b, 0, none⟩ ∧ w.cell? ⟨b, i * 4, none⟩ = some (.bool x.table) ∧ w.cell? ⟨b, i * 4 + 1, none⟩ = some (.int .i64 x.tag) ∧ w.cell? ⟨b, i * 4 + 2, none⟩ = some (.int .i64 x.size) ∧ w.cell? ⟨b, i * 4 + 3, none⟩ = some (.bool x.gone) := by
 obtain ⟨a, c, e, h1, h2, h3⟩ := Row.at_ (f := GN.cells) (fun _ => rfl) h.r0;refine ⟨a, c, e, by rw [← e]; exact cellAt h.at_ 2, fun i x hx => ?_⟩;obtain ⟨b, e1, _, e2⟩ := h3 i x hx;exact ⟨b, e1, e2 0 _ rfl, e2 1 _ rfl, e2 2 _ rfl, e2 3 _ rfl⟩
theorem GR.queueC {v : Nat → Value} (h : GR w pb hb Lg lab v G) : ∃ a c, v 4 = .slice a G.queue.length c ∧ w.cell? ⟨pb, 6, none⟩ = some (.slice a G.queue.length c) ∧ ∀ i, i < G.queue.length → ∃ b off, a = some ⟨b, off, none⟩ ∧ w.cell? ⟨b, off + i, none⟩ = some (.int .i64 (G.queue.getD i 0)) := by
 have h4 := h.r4;obtain ⟨a, c, e, _⟩ := h4.slice;rw [e] at h4;exact ⟨a, c, e, by rw [← e]; exact cellAt h.at_ 6, fun i hi => h4.cell hi⟩
theorem GR.wantedC {v : Nat → Value} (h : GR w pb hb Lg lab v G) : ∃ a c, v 3 = .slice a G.wanted.length c ∧ w.cell? ⟨pb, 5, none⟩ = some (.slice a G.wanted.length c) ∧ ∀ i, i < G.wanted.length → ∃ b, a = some ⟨b, 0, none⟩ ∧ w.cell? ⟨b, i, none⟩ = some (.int .i64 (G.wanted.getD i 0)) := by
 have h3 := h.r3;obtain ⟨a, c, e, _⟩ := h3.slice;rw [e] at h3;refine ⟨a, c, e, by rw [← e]; exact cellAt h.at_ 5, fun i hi => ?_⟩;obtain ⟨b, h4, _, h5⟩ := h3.cells (by omega);exact ⟨b, h4, h5 i _ (by simp [intCells, List.getElem?_eq_getElem hi, List.getD_eq_getElem?_getD])⟩
structure GOk (G : GS) : Prop where
 in_ : G.In
 roots : ∀ p ∈ G.roots, 0 ≤ p.2 ∧ p.2 < G.nodes.length
 queue : ∀ n ∈ G.queue, 0 ≤ n ∧ n < G.nodes.length
 wanted : ∀ n ∈ G.wanted, 0 ≤ n ∧ n < G.nodes.length
 few : G.nodes.length ≤ 9000 ∧ G.roots.length ≤ 9000 ∧ G.queue.length ≤ 9000 ∧ G.wanted.length ≤ 9000 ∧ G.links.length ≤ 1000000
theorem take_nextM {l : List Int} (hi : i < l.length) : l.take (i + 1) = l.take i ++ [l.getD i 0] := by
 rw [List.take_add_one, List.getD_eq_getElem?_getD, List.getElem?_eq_getElem hi];simp
def GS.reachP (G : GS) (m : Int) : Prop := m ∈ G.queue ++ G.roots.map (·.2)
def GS.keptP (G : GS) (m : Int) : Prop := m ∈ G.queue ++ G.roots.map (·.2) ++ G.wanted
theorem reached_g (hR : GRep w pb hb Lg G) (hO : GOk G) :
 Calls Tryz.prog 105 #[.pointer (some ⟨pb, 1, none⟩)] w fun e w' => ∃ sb, e = .returned (.slice (some ⟨sb, 0, none⟩) G.nodes.length G.nodes.length) ∧ w.heap.size ≤ sb ∧ MarkAt w' sb G.nodes.length (fun j => dec (SReach G.links G.reachP (j : Int))) ∧ Chg (fun _ => False) w w' := by
 refine ret_k fun K hK => ?_;have HK := Lib.hid hK;have HR := Lib.hid hR;have HO := Lib.hid hO;have HLt : Hid (∀ b ∈ Lg, b < w.heap.size) := Lib.hid hR.lgs;clear hK hR hO;obtain ⟨n, hn⟩ : ∃ n, n = G.nodes.length := ⟨_, rfl⟩;have HN := Lib.hid hn;rw [← hn] at HK;obtain ⟨rs, hrs⟩ : ∃ rs, rs = G.roots.map (·.2) := ⟨_, rfl⟩;obtain ⟨lr, hlr⟩ : ∃ lr, lr = G.roots.length := ⟨_, rfl⟩;obtain ⟨lq, hlq⟩ : ∃ lq, lq = G.queue.length := ⟨_, rfl⟩;have HRs : Hid (rs = G.roots.map (·.2) ∧ rs.length = lr ∧ lr ≤ 9000 ∧ ∀ m ∈ rs, 0 ≤ m ∧ m < n) := ⟨hrs, by rw [hrs, hlr]; simp, by rw [hlr]; exact HO.out.few.2.1, fun m hm => by
  rw [hrs] at hm;obtain ⟨p, hp, rfl⟩ := List.mem_map.1 hm;rw [hn]; exact HO.out.roots p hp⟩
 have HQs : Hid (G.queue.length = lq ∧ lq ≤ 9000 ∧ ∀ m ∈ G.queue, 0 ≤ m ∧ m < n) := ⟨hlq.symm, by rw [hlq]; exact HO.out.few.2.2.1, fun m hm => by rw [hn]; exact HO.out.queue m hm⟩;have HC2 : Hid (∃ a c, w.cell? ⟨pb, 2, none⟩ = some (.slice a n c)) := by
  obtain ⟨lab, v, hG⟩ := HR.out;obtain ⟨a, c, _, c2, _⟩ := hG.nodesC;exact ⟨a, c, by rw [hn]; exact c2⟩
 have HC4 : Hid (∀ wx, Chg (fun _ => False) w wx → ∃ a c, wx.cell? ⟨pb, 4, none⟩ = some (.slice a lr c) ∧ ∀ i, i < lr → ∃ b, a = some ⟨b, 0, none⟩ ∧ wx.cell? ⟨b, i * 2 + 1, none⟩ = some (.int .i64 (rs.getD i 0))) := fun wx hC => by
  obtain ⟨lab, v, hG⟩ := HR.out.still hC;obtain ⟨a, c, _, _, c4, hc⟩ := hG.roots;refine ⟨a, c, by rw [hlr]; exact c4, fun i hi => ?_⟩;obtain ⟨b, e1, _, e2⟩ := hc i _ (List.getElem?_eq_getElem (by rw [← hlr]; exact hi));refine ⟨b, e1, ?_⟩;rw [e2, hrs];simp [List.getD_eq_getElem?_getD, List.getElem?_eq_getElem (show i < G.roots.length by rw [← hlr]; exact hi)]
 have HC6 : Hid (∀ wx, Chg (fun _ => False) w wx → ∃ a c, wx.cell? ⟨pb, 6, none⟩ = some (.slice a lq c) ∧ ∀ i, i < lq → ∃ b off, a = some ⟨b, off, none⟩ ∧ wx.cell? ⟨b, off + i, none⟩ = some (.int .i64 (G.queue.getD i 0))) := fun wx hC => by
  obtain ⟨lab, v, hG⟩ := HR.out.still hC;obtain ⟨a, c, _, c4, hc⟩ := hG.queueC;exact ⟨a, c, by rw [hlq]; exact c4, fun i hi => hc i (by rw [← hlq]; exact hi)⟩
 clear hn hrs hlr hlq;obtain ⟨a2, cc2, c2⟩ := HC2.out;obtain ⟨X, hmk, hM0⟩ := make_marks w n (by have := HO.out.few.1; have := HN.out; omega);have HM0 : Hid (MarkAt (w.alloc X) w.heap.size n (markL [] fun _ => false) ∧ Chg (fun _ => False) w (w.alloc X)) := ⟨hM0.ext fun j _ => by simp [markL], (Chg.refl _ _).alloc X⟩;clear hM0
 go_enter Tryz.func105, Tryz.ntmps105
 go_wp2_with (first | (at_make; go_must (refine wpList_val rfl (exec_makeSlice rfl (by exact hmk)) ?_)))
 generalize w.alloc X = w1 at HM0 ⊢;obtain ⟨sb, hsb⟩ : ∃ sb, sb = w.heap.size := ⟨_, rfl⟩;have HSb := Lib.hid hsb;rw [← hsb] at HM0 ⊢;clear hmk c2 hsb
 go_loopw [4] (fun k wx => ∃ i : Nat, i ≤ lr ∧ k = .int .i64 i ∧ Hid (MarkAt wx sb n (markL (rs.take i) fun _ => false) ∧ Chg (fun _ => False) w wx)) (fun k _ => lr - (intOf k).toNat)
 case atStart => exact ⟨0, by omega, rfl, by simpa using HM0⟩
 case round =>
  obtain ⟨i, hi, rfl, HI⟩ := hrel;clear HM0;obtain ⟨ar, cr, c4, hc4⟩ := HC4.out wr HI.out.2;by_cases hlt : i < lr
  · have hlt' : (i : Int) < (lr : Int) := by omega
    have hwi : IntKind.i64.wrap ((i : Int) + 1) = (i : Int) + 1 := IntWalk.i64_in _ (by have := HRs.out.2.2.1; omega);obtain ⟨b, rfl, k1⟩ := hc4 i hlt;have hil : i < rs.length := by rw [HRs.out.2.1]; exact hlt
    have hmem : rs.getD i 0 ∈ rs := by rw [List.getD_eq_getElem?_getD, List.getElem?_eq_getElem hil]; exact List.getElem_mem hil
    obtain ⟨h0, h1⟩ := HRs.out.2.2.2 _ hmem;have htk := take_nextM hil;generalize rs.getD i 0 = x at *;obtain ⟨q, rfl⟩ : ∃ q : Nat, x = q := ⟨x.toNat, (Int.toNat_of_nonneg h0).symm⟩;have hqn : q < n := by omega
    have HI2 : Hid (MarkAt (wr.setCell ⟨sb, q, none⟩ (.bool true)) sb n (markL (rs.take (i + 1)) fun _ => false) ∧ Chg (fun _ => False) w (wr.setCell ⟨sb, q, none⟩ (.bool true))) := ⟨by rw [htk]; exact HI.out.1.next hqn, HI.out.2.setCell (p := ⟨sb, q, none⟩) (fun h => by have := HSb.out; simp only at h; omega) _⟩;have m4 := HI.out.1.cell hqn;have m5 := HI.out.1.free q;clear hmem htk hc4 hil HI hlt;go_wp2
    go_roundw
    case rel => exact ⟨i + 1, by omega, by go_num, HI2⟩
    case measure => simp [intOf]; omega
  · obtain rfl : i = lr := by omega
    have HI0 : Hid (MarkAt wr sb n (markL (rs ++ []) fun _ => false) ∧ Chg (fun _ => False) w wr) := by
     have := HI.out;rw [List.take_of_length_le (by rw [HRs.out.2.1]; omega)] at this;exact Lib.hid (by simpa using this)
    clear hc4 HI;go_wp2;clear c4
    go_loopw [5] (fun k wx => ∃ i : Nat, i ≤ lq ∧ k = .int .i64 i ∧ Hid (MarkAt wx sb n (markL (rs ++ G.queue.take i) fun _ => false) ∧ Chg (fun _ => False) w wx)) (fun k _ => lq - (intOf k).toNat)
    case atStart => exact ⟨0, by omega, rfl, by simpa using HI0⟩
    case round =>
     obtain ⟨i, hi, rfl, HI⟩ := hrel;clear HI0;obtain ⟨ar, cr, c4, hc4⟩ := HC6.out wr HI.out.2;by_cases hlt : i < lq
     · have hlt' : (i : Int) < (lq : Int) := by omega
       have hwi : IntKind.i64.wrap ((i : Int) + 1) = (i : Int) + 1 := IntWalk.i64_in _ (by have := HQs.out.2.1; omega);obtain ⟨b, off, rfl, k1⟩ := hc4 i hlt;have hil : i < G.queue.length := by rw [HQs.out.1]; exact hlt
       have hmem : G.queue.getD i 0 ∈ G.queue := by rw [List.getD_eq_getElem?_getD, List.getElem?_eq_getElem hil]; exact List.getElem_mem hil
       obtain ⟨h0, h1⟩ := HQs.out.2.2 _ hmem;have htk := take_nextM hil;generalize G.queue.getD i 0 = x at *;obtain ⟨q, rfl⟩ : ∃ q : Nat, x = q := ⟨x.toNat, (Int.toNat_of_nonneg h0).symm⟩;have hqn : q < n := by omega
       have HI2 : Hid (MarkAt (wr.setCell ⟨sb, q, none⟩ (.bool true)) sb n (markL (rs ++ G.queue.take (i + 1)) fun _ => false) ∧ Chg (fun _ => False) w (wr.setCell ⟨sb, q, none⟩ (.bool true))) := ⟨by rw [htk, ← List.append_assoc]; exact HI.out.1.next hqn, HI.out.2.setCell (p := ⟨sb, q, none⟩) (fun h => by have := HSb.out; simp only at h; omega) _⟩;have m4 := HI.out.1.cell hqn;have m5 := HI.out.1.free q;clear hmem htk hc4 hil HI hlt;go_wp2
       go_roundw
       case rel => exact ⟨i + 1, by omega, by go_num, HI2⟩
       case measure => simp [intOf]; omega
     · obtain rfl : i = lq := by omega
       have hI := HI.out;rw [List.take_of_length_le (by rw [HQs.out.1]; omega)] at hI;have hSp := spread_g (HR.out.still hI.2) HO.out.in_ (sb := sb) (by rw [← HN.out]; exact hI.1) (fun hb => by have := HLt.out _ hb; have := HSb.out; omega) (by have := HO.out.few.2.2.2.2; omega);rw [← HN.out] at hSp;have HSp : Hid (Calls Tryz.prog 106 #[.pointer (some ⟨pb, 1, none⟩), .slice (some ⟨sb, 0, none⟩) n n] wr fun e w' => e = .returned (.slice (some ⟨sb, 0, none⟩) n n) ∧ Post K (.returned (.slice (some ⟨sb, 0, none⟩) n n)) w') := by
        refine hSp.mono ?_;rintro e w' ⟨rfl, hM, hC⟩;refine ⟨rfl, HK.out _ _ ⟨sb, rfl, by rw [HSb.out]; omega, hM.ext fun j hj => ?_, hI.2.trans hC fun k hk e => by have := HSb.out; omega⟩⟩;refine spreadM_iff (fun j _ hj => .root ?_) (fun m hm => ?_) j
        · unfold GS.reachP;rw [← HRs.out.1];simp only [markL, Bool.false_or, decide_eq_true_eq, List.mem_append] at hj ⊢;exact hj.symm
        · unfold GS.reachP at hm;rw [← HRs.out.1] at hm;have h0 : 0 ≤ m ∧ m < n := (List.mem_append.1 hm).elim (HQs.out.2.2 m) (HRs.out.2.2.2 m);refine ⟨h0.1, h0.2, ?_⟩;simp only [markL, Bool.false_or, decide_eq_true_eq];rw [Int.toNat_of_nonneg h0.1];exact List.mem_append.2 (List.mem_append.1 hm).symm
       clear hSp hI HI hc4
       go_wp2_with (go_at_call 106; refine HSp.out.mono ?_; rintro e w5 ⟨rfl, hPost⟩)
       go_ret;exact hPost
theorem kept_g (hR : GRep w pb hb Lg G) (hO : GOk G) :
 Calls Tryz.prog 54 #[.pointer (some ⟨pb, 1, none⟩)] w fun e w' => ∃ sb, e = .returned (.slice (some ⟨sb, 0, none⟩) G.nodes.length G.nodes.length) ∧ w.heap.size ≤ sb ∧ MarkAt w' sb G.nodes.length (fun j => dec (SReach G.links G.keptP (j : Int))) ∧ Chg (fun _ => False) w w' := by
 refine ret_k fun K hK => ?_;have HK := Lib.hid hK;have HR := Lib.hid hR;have HO := Lib.hid hO;have HLt := Lib.hid hR.lgs;have HRe := Lib.hid (reached_g hR hO);clear hK hR hO;obtain ⟨n, hn⟩ : ∃ n, n = G.nodes.length := ⟨_, rfl⟩;have HN := Lib.hid hn;rw [← hn] at HK HRe;obtain ⟨lq, hlq⟩ : ∃ lq, lq = G.wanted.length := ⟨_, rfl⟩;have HQs : Hid (G.wanted.length = lq ∧ lq ≤ 9000 ∧ ∀ m ∈ G.wanted, 0 ≤ m ∧ m < n) := ⟨hlq.symm, by rw [hlq]; exact HO.out.few.2.2.2.1, fun m hm => by rw [hn]; exact HO.out.wanted m hm⟩
 have HC6 : Hid (∀ wx, Chg (fun _ => False) w wx → ∃ a c, wx.cell? ⟨pb, 5, none⟩ = some (.slice a lq c) ∧ ∀ i, i < lq → ∃ b, a = some ⟨b, 0, none⟩ ∧ wx.cell? ⟨b, i, none⟩ = some (.int .i64 (G.wanted.getD i 0))) := fun wx hC => by
  obtain ⟨lab, v, hG⟩ := HR.out.still hC;obtain ⟨a, c, _, c4, hc⟩ := hG.wantedC;exact ⟨a, c, by rw [hlq]; exact c4, fun i hi => hc i (by rw [← hlq]; exact hi)⟩
 clear hn hlq
 go_enter Tryz.func54, Tryz.ntmps54
 go_wp2_with (go_at_call 105; refine HRe.out.mono ?_; rintro e w1 ⟨sb, rfl, hsb, hM, hC1⟩)
 have HSb := Lib.hid hsb;have HM0 : Hid (MarkAt w1 sb n (markL [] fun j => dec (SReach G.links G.reachP (j : Int))) ∧ Chg (fun _ => False) w w1) := ⟨hM.ext fun j _ => by simp [markL], hC1⟩;clear hsb hM hC1 HRe
 go_loopw [4] (fun k wx => ∃ i : Nat, i ≤ lq ∧ k = .int .i64 i ∧ Hid (MarkAt wx sb n (markL (G.wanted.take i) fun j => dec (SReach G.links G.reachP (j : Int))) ∧ Chg (fun _ => False) w wx)) (fun k _ => lq - (intOf k).toNat)
 case atStart => exact ⟨0, by omega, rfl, by simpa using HM0⟩
 case round =>
  obtain ⟨i, hi, rfl, HI⟩ := hrel;clear HM0;obtain ⟨ar, cr, c4, hc4⟩ := HC6.out wr HI.out.2;by_cases hlt : i < lq
  · have hlt' : (i : Int) < (lq : Int) := by omega
    have hwi : IntKind.i64.wrap ((i : Int) + 1) = (i : Int) + 1 := IntWalk.i64_in _ (by have := HQs.out.2.1; omega);obtain ⟨b, rfl, k1⟩ := hc4 i hlt;have hil : i < G.wanted.length := by rw [HQs.out.1]; exact hlt
    have hmem : G.wanted.getD i 0 ∈ G.wanted := by rw [List.getD_eq_getElem?_getD, List.getElem?_eq_getElem hil]; exact List.getElem_mem hil
    obtain ⟨h0, h1⟩ := HQs.out.2.2 _ hmem;have htk := take_nextM hil;generalize G.wanted.getD i 0 = x at *;obtain ⟨q, rfl⟩ : ∃ q : Nat, x = q := ⟨x.toNat, (Int.toNat_of_nonneg h0).symm⟩;have hqn : q < n := by omega
    have HI2 : Hid (MarkAt (wr.setCell ⟨sb, q, none⟩ (.bool true)) sb n (markL (G.wanted.take (i + 1)) fun j => dec (SReach G.links G.reachP (j : Int))) ∧ Chg (fun _ => False) w (wr.setCell ⟨sb, q, none⟩ (.bool true))) := ⟨by rw [htk]; exact HI.out.1.next hqn, HI.out.2.setCell (p := ⟨sb, q, none⟩) (fun h => by have := HSb.out; simp only at h; omega) _⟩;have m4 := HI.out.1.cell hqn;have m5 := HI.out.1.free q;generalize hff : markL (G.wanted.take i) (fun j => dec (SReach G.links G.reachP (j : Int))) q = y at m4;clear hmem htk hc4 hil HI hlt hff;go_wp2
    go_roundw
    case rel => exact ⟨i + 1, by omega, by go_num, HI2⟩
    case measure => simp [intOf]; omega
  · obtain rfl : i = lq := by omega
    have hI := HI.out;rw [List.take_of_length_le (by rw [HQs.out.1]; omega)] at hI;have hSp := spread_g (HR.out.still hI.2) HO.out.in_ (sb := sb) (by rw [← HN.out]; exact hI.1) (fun hb => by have := HLt.out _ hb; have := HSb.out; omega) (by have := HO.out.few.2.2.2.2; omega);rw [← HN.out] at hSp;have HSp : Hid (Calls Tryz.prog 106 #[.pointer (some ⟨pb, 1, none⟩), .slice (some ⟨sb, 0, none⟩) n n] wr fun e w' => e = .returned (.slice (some ⟨sb, 0, none⟩) n n) ∧ Post K (.returned (.slice (some ⟨sb, 0, none⟩) n n)) w') := by
     refine hSp.mono ?_;rintro e w' ⟨rfl, hM, hC⟩;refine ⟨rfl, HK.out _ _ ⟨sb, rfl, HSb.out, hM.ext fun j hj => ?_, hI.2.trans hC fun k hk e => by have := HSb.out; omega⟩⟩;refine spreadM_iff (fun j _ hj => ?_) (fun m hm => ?_) j
     · unfold markL at hj;rw [Bool.or_eq_true] at hj;rcases hj with hj | hj
       · exact SReach.into (fun m hm => .root (List.mem_append_left _ hm)) (dec_iff.1 hj)
       · exact .root (List.mem_append_right _ (of_decide_eq_true hj))
     · have h0 : 0 ≤ m ∧ m < n := by
        rw [HN.out];rcases List.mem_append.1 hm with hm | hm
        · rcases List.mem_append.1 hm with hm | hm
          · exact HO.out.queue m hm
          · obtain ⟨p, hp, rfl⟩ := List.mem_map.1 hm;exact HO.out.roots p hp
        · exact HO.out.wanted m hm
       refine ⟨h0.1, h0.2, ?_⟩;unfold markL;rw [Bool.or_eq_true, Int.toNat_of_nonneg h0.1];rcases List.mem_append.1 hm with hm | hm
       · exact .inl (dec_iff.2 (.root (by rw [Int.toNat_of_nonneg h0.1]; exact hm)))
       · exact .inr (decide_eq_true hm)
    clear hSp hI HI hc4
    go_wp2_with (go_at_call 106; refine HSp.out.mono ?_; rintro e w5 ⟨rfl, hPost⟩)
    go_ret;exact hPost
def GN.cost (x : GN) : Nat := if x.table then 1 else 1 + x.size
theorem cost_g (w : World) (x : GN) (hs : x.size ≤ 100000) : Calls Tryz.prog 104 #[.agg #[.bool x.table, .int .i64 x.tag, .int .i64 x.size, .bool x.gone]] w fun e w' => e = .returned (.int .i64 x.cost) ∧ Chg (fun _ => False) w w' := by
 have HC : Hid (∀ X, Chg (fun _ => False) w (w.alloc X)) := fun X => (Chg.refl _ _).alloc X;obtain ⟨t, tag, sz, gn⟩ := x;have hw : IntKind.i64.wrap (1 + (sz : Int)) = 1 + (sz : Int) := IntWalk.i64_in _ (by simp only at hs; omega);cases t
 all_goals
  go_enter Tryz.func104, Tryz.ntmps104
  go_wp2;go_ret;exact ⟨by simp [GN.cost], HC.out _⟩
def GS.nodeSum (G : GS) (f : Nat → Bool) (i : Nat) : Nat := ((List.range i).map fun j => if f j then ((G.nodes[j]?).map GN.cost).getD 0 else 0).sum
def GS.linkCnt (G : GS) (f : Nat → Bool) (i : Nat) : Nat := ((G.links.take i).filter fun l => decide (0 ≤ l.key) && (f l.frm.toNat && f l.key.toNat)).length
def GS.wordsN (G : GS) (f : Nat → Bool) : Nat := G.nodeSum f G.nodes.length + 3 * G.linkCnt f G.links.length
theorem nodeSum_next {x : GN} (hx : G.nodes[i]? = some x) : G.nodeSum f (i + 1) = G.nodeSum f i + if f i then x.cost else 0 := by
 unfold GS.nodeSum;rw [List.range_succ, List.map_append, List.sum_append];simp [hx]
theorem linkCnt_next (hl : G.links[i]? = some l) : G.linkCnt f (i + 1) = G.linkCnt f i + if decide (0 ≤ l.key) && (f l.frm.toNat && f l.key.toNat) then 1 else 0 := by
 unfold GS.linkCnt;rw [List.take_add_one, hl, List.filter_append, List.length_append]
 congr 1
 simp only [Option.toList_some, List.filter_cons, List.filter_nil]
 split <;> simp
theorem nodeSum_le {G : GS} (h : ∀ x ∈ G.nodes, x.size ≤ 1000) (f : Nat → Bool) : ∀ i, G.nodeSum f i ≤ 1001 * i
 | 0 => by simp [GS.nodeSum]
 | i + 1 => by
   have ih := nodeSum_le h f i;unfold GS.nodeSum at ih ⊢;rw [List.range_succ, List.map_append, List.sum_append];have h2 : (if f i then ((G.nodes[i]?).map GN.cost).getD 0 else 0) ≤ 1001 := by
    split
    · cases hx : G.nodes[i]? with
      | none => simp
      | some x =>
        have := h x (List.mem_of_getElem? hx);simp only [Option.map_some, Option.getD_some];unfold GN.cost
        split <;> omega
    · omega
   simp only [List.map_cons, List.map_nil, List.sum_cons, List.sum_nil];omega
theorem linkCnt_le (G : GS) (f : Nat → Bool) (i : Nat) : G.linkCnt f i ≤ i := by
 unfold GS.linkCnt;exact Nat.le_trans (List.length_filter_le _ _) (by rw [List.length_take]; omega)
end Go.Proofs.YtelghmmcbgfjnaaGreat
