/-
  slices.Sort of no numbers; Handles. (A part of the proof, joined of: To, Tq, Tr, Tt, Tu, Tv, Tw, Va; made smaller.)
-/
import Derived.Test.YtelghmmcbgfjnaaGreatH20
set_option maxHeartbeats 8000000
set_option maxRecDepth 100000
namespace Go.Proofs.YtelghmmcbgfjnaaGreat
variable {A : St} {I : IS} {L Lg : List Nat} {T b c hb j k m pb : Nat} {a : Option Addr} {d : Nd} {es : List En} {g : Gh} {l : List Int} {lab : Nat → Nat} {name : Int} {v : Value} {w w' w'' : World} {x : En}
open Go.RowKit
theorem len64_0 (w : World) : Calls Tryz.prog 140 #[.int .u64 0] w fun e w' => e = .returned (.int .i64 0) ∧ w = w' := by
 have h8 : Lib.len8 0 = 0 := by decide
 go_enter Tryz.func140, Tryz.ntmps140
 go_wp2;go_ret;exact ⟨by first | rfl | simp [h8] | (rw [h8]; rfl), rfl⟩
theorem blen_0 (w : World) : Calls Tryz.prog 109 #[.int .u64 0] w fun e w' => e = .returned (.int .i64 0) ∧ w = w' := by
 go_enter Tryz.func109, Tryz.ntmps109
 go_wp2_with (go_at_call 140; refine (len64_0 _).mono ?_; rintro e w1 ⟨rfl, rfl⟩)
 go_ret;exact ⟨rfl, rfl⟩
theorem insertion_0 (w : World) : Calls Tryz.prog 130 #[.slice none 0 0, .int .i64 0, .int .i64 0] w fun e w' => e = .returned (.tuple #[]) ∧ w = w' := by
 go_enter Tryz.func130, Tryz.ntmps130
 go_wp2
 go_loopw [6] (fun s6 wr => s6 = .int .i64 1 ∧ Hid (w = wr)) (fun _ _ => 0)
 case atStart => exact ⟨rfl, Lib.hid rfl⟩
 case round =>
  obtain ⟨rfl, HW⟩ := hrel;go_wp2
  go_end0
  exact ⟨rfl, HW.out⟩
theorem pdq_0 (w : World) : Calls Tryz.prog 108 #[.slice none 0 0, .int .i64 0, .int .i64 0, .int .i64 0] w fun e w' => e = .returned (.tuple #[]) ∧ w = w' := by
 have HI := Lib.hid (insertion_0 w)
 go_enter Tryz.func108, Tryz.ntmps108
 go_wp2
 go_loopw [1, 2, 3] (fun s1 s2 s3 wr => s1 = .int .i64 0 ∧ s2 = .int .i64 0 ∧ s3 = .int .i64 0 ∧ Hid (w = wr)) (fun _ _ _ _ => 0)
 case atStart => exact ⟨rfl, rfl, rfl, Lib.hid rfl⟩
 case round =>
  obtain ⟨rfl, rfl, rfl, HW⟩ := hrel;obtain rfl := HW.out
  go_wp2_with fail
  refine HI.out.mono ?_; rintro e w1 ⟨rfl, rfl⟩;go_wp2;refine bodyPost_ret (results_none rfl _ _ _) rfl ?_;exact ⟨rfl, rfl⟩
theorem sort_nil (w : World) : Calls Tryz.prog 58 #[.slice none 0 0] w fun e w' => e = .returned (.tuple #[]) ∧ w = w' := by
 have HB := Lib.hid (blen_0 w);have HP := Lib.hid (pdq_0 w)
 go_enter Tryz.func58, Tryz.ntmps58
 go_wp2_with fail
 refine HB.out.mono ?_; rintro e w1 ⟨rfl, rfl⟩
 go_wp2_with fail
 refine HP.out.mono ?_; rintro e w1 ⟨rfl, rfl⟩;go_wp2
 go_end0
 exact ⟨rfl, rfl⟩
theorem perm_delKV {k : Int} {v : Value} : ∀ {l : List (Int × Value)}, (l.map (·.1)).Nodup → (k, v) ∈ l → (l.map (·.1)).Perm (k :: (delKV l k).map (·.1))
 | [], _, h => by cases h
 | p :: l, hn, h => by
   simp only [List.map_cons, List.nodup_cons] at hn;rcases List.mem_cons.1 h with rfl | h
   · have e : delKV ((k, v) :: l) k = l := by
      simp only [delKV, List.filter_cons, ne_eq, not_true_eq_false, decide_false, Bool.false_eq_true, if_false];rw [List.filter_eq_self];intro p hp;simp only [decide_not, Bool.not_eq_true', decide_eq_false_iff_not];intro e;exact hn.1 (List.mem_map.2 ⟨p, hp, e⟩)
     rw [e]; exact List.Perm.refl _
   · have hne : p.1 ≠ k := fun e => hn.1 (List.mem_map.2 ⟨_, h, e.symm⟩);have e : delKV (p :: l) k = p :: delKV l k := by simp [delKV, hne]
     rw [e, List.map_cons, List.map_cons];exact ((perm_delKV hn.2 h).cons p.1).trans (List.Perm.swap _ _ _)
theorem sortRow {xs : List Int} (hrow : Row w 3 1 v xs.length (intCells xs)) (hnil : ∀ a, v = .slice a 0 0 → a = none) (hl : xs.length ≤ 1000000000000) :
 Calls Tryz.prog 58 #[v] w fun e w' => e = .returned (.tuple #[]) ∧ Row w' 3 1 v (sortI xs).length (intCells (sortI xs)) ∧ Chg (fun b => rowBlk v = some b) w w' := by
 have h0 := hrow;obtain ⟨h1, h2, ⟨hn, a, rfl⟩ | ⟨g, cap, cur, rfl, hg, _⟩⟩ := hrow
 · obtain rfl := hnil a rfl;have hx : xs = [] := List.eq_nil_of_length_eq_zero hn;subst hx;refine (sort_nil w).mono ?_;rintro e w' ⟨rfl, rfl⟩;have es : sortI [] = [] := by simp [sortI]
   exact ⟨rfl, by rw [es]; exact h0, Chg.refl _ _⟩
 · refine (sort_any h0 (lt_of_block hg) hl).mono ?_;rintro e w' ⟨rfl, h3, h4⟩;exact ⟨rfl, by rw [(sortI_perm xs).length_eq] at h3 ⊢; exact h3, h4.mono fun b _ hb => by simp [rowBlk, hb]⟩
def St.hands (A : St) : List Int := sortI (A.handles.map (·.1))
theorem handles_any (hR : Rep w g A) (hb : A.handles.length < 100000000000) :
 Calls Tryz.prog 22 #[.pointer (some ⟨g.hb, 0, none⟩)] w fun e w' => ∃ v, e = .returned v ∧ Row w' 3 1 v A.hands.length (intCells A.hands) ∧ Chg (fun _ => False) w w' ∧ (∀ b, rowBlk v = some b → w.heap.size ≤ b) := by
 refine ret_k fun K hK => ?_;have hnod : (A.handles.map (·.1)).Nodup := by
  have := hR.mh.nodup;simpa [kvsH, List.map_map, Function.comp_def] using this
 obtain ⟨o', hrun, hit⟩ := run_range_map (P := Tryz.prog) hR.mh uMapI;have c5 : w.cell? ⟨g.hb, 5, none⟩ = some (.map (some g.mh)) := hR.c 5;have HIt := Lib.hid hit;have HNod := Lib.hid hnod;have HK := Lib.hid hK;have hmh : g.mh < w.heap.size := hR.lt _ (by rw [hR.omh]; rfl);clear hit hnod hK hR
 go_enter Tryz.func22, Tryz.ntmps22
 go_wp2_with (at_range; go_must (refine wpList_val rfl (exec_range rfl hrun) ?_))
 clear hrun c5
 go_frame
 go_loopg [3] (A.handles.length) (fun num v3 wr => ∃ (left : List (Int × Value)) (l : List Int) (a : Option Addr) (c : Nat), v3 = .slice a l.length c ∧ Row wr 3 1 (.slice a l.length c) l.length (intCells l) ∧ (∀ a', (.slice a l.length c : Value) = .slice a' 0 0 → a' = none) ∧ IterAt wr w.heap.size g.mh (kvsH A) left ∧ (l ++ left.map (·.1)).Perm (A.handles.map (·.1)) ∧ Chg (fun _ => False) w wr ∧ (∀ b, rowBlk (.slice a l.length c) = some b → w.heap.size ≤ b ∧ b ≠ w.heap.size) ∧ left.length ≤ num)
 case atStart =>
  refine ⟨kvsH A, [], none, 0, rfl, Row.nil _ _ _, fun a' h => by simpa using h.symm, HIt.out, ?_, (Chg.refl _ _).alloc _, fun b hb => by simp [rowBlk] at hb, by simp [kvsH]⟩;simp [kvsH, List.map_map, Function.comp_def]
 case round =>
  obtain ⟨left, l, a, c, rfl, hrow, hnil, hit, hperm, hC, hn, hnum⟩ := hrel;clear HIt;have hs2 := hC.size;have hlen : l.length + left.length = A.handles.length := by have := hperm.length_eq; simpa using this
  cases left with
  | nil =>
    have hrun := fun ty => run_next_over (P := Tryz.prog) hit ty;have hso : sortI l = A.hands := sortI_of_perm (by simpa using hperm);have hs := sortRow hrow hnil (by omega);rw [hso] at hs;have HSo : Hid (Calls Tryz.prog 58 #[.slice a l.length c] wr fun e w' => e = .returned (.tuple #[]) ∧ Post K (.returned (.slice a l.length c)) w') := by
     refine hs.mono ?_;rintro e w' ⟨rfl, h1, h2⟩;exact ⟨rfl, HK.out _ _ ⟨_, rfl, h1, hC.trans h2 (fun j hj e => absurd (hn j e).1 (by omega)), fun b hb => (hn b hb).1⟩⟩
    clear hs hso hrow hit hperm hC hn hnil
    go_wp2_with (first | (at_next; go_must (refine wpList_val rfl (exec_next rfl (by exact hrun _)) ?_)) | (go_at_call 58; refine HSo.out.mono ?_; rintro e w5 ⟨rfl, hPost⟩))
    go_ret;exact hPost
  | cons p left =>
    obtain ⟨k, v, w2, hin, hrun, hit2, hent, hC2⟩ := iter_more (P := Tryz.prog) hit (by simp) 0;have hd := length_delKV hit.nodup hin;have hrt : w.heap.size < w2.heap.size := by
     obtain ⟨h0, es, clock, seen, g1, g2, g3⟩ := hit2;exact lt_of_block g2
    have hrow2 : Row w2 3 1 (.slice a l.length c) l.length (intCells l) := hrow.same fun b hb => hC2.block b (hrow.lt hb) (hn b hb).2;obtain ⟨a3, c3, w3, happ, hrow3, hC3, hloc3⟩ := app1 hrow2 k (by simp only [List.length_cons] at hlen; omega);have hit3 : IterAt w3 w.heap.size g.mh (kvsH A) (delKV (p :: left) k) := hit2.same (hC3.block _ (Nat.lt_of_lt_of_le hmh (Nat.le_trans hs2 hC2.size)) (fun h => absurd (hn _ h).1 (by omega))) (hC3.block _ hrt (fun h => (hn _ h).2 rfl))
    have HF : Hid (∃ (left : List (Int × Value)) (l' : List Int) (a' : Option Addr) (c' : Nat), (Value.slice a3 (l.length + 1) c3) = .slice a' l'.length c' ∧ Row w3 3 1 (.slice a' l'.length c') l'.length (intCells l') ∧ (∀ a'', (.slice a' l'.length c' : Value) = .slice a'' 0 0 → a'' = none) ∧ IterAt w3 w.heap.size g.mh (kvsH A) left ∧ (l' ++ left.map (·.1)).Perm (A.handles.map (·.1)) ∧ Chg (fun _ => False) w w3 ∧ (∀ b, rowBlk (.slice a' l'.length c') = some b → w.heap.size ≤ b ∧ b ≠ w.heap.size) ∧ left.length ≤ gk - 1) := by
     refine ⟨delKV (p :: left) k, l ++ [k], a3, c3, by simp, ?_, fun a'' h => ?_, hit3, ?_, (hC.trans hC2 (fun j hj h => absurd h (by omega))).trans hC3 (fun j hj h => absurd (hn j h).1 (by omega)), ?_, by omega⟩
     · rw [List.length_append, List.length_singleton] at hrow3 ⊢;exact hrow3
     · simp at h
     · refine List.Perm.trans ?_ hperm;rw [List.append_assoc];exact List.Perm.append_left l (by simpa using (perm_delKV hit.nodup hin).symm)
     · intro b hb;rw [List.length_append, List.length_singleton] at hb;rcases hloc3 b hb with h | h
       · exact hn b h
       · omega
    clear hrow hperm hC hn hit hrow2 hrow3 hit2 hit3 hin hC2 hC3 hloc3 hnil
    go_wp2_with (first | (at_next; go_must (refine wpList_val rfl (exec_next rfl (by exact hrun)) ?_)) | (at_builtin; go_must (refine wpList_val rfl (exec_append rfl happ) ?_)))
    go_roundg (gk - 1)
    case measure => omega
    case rel => exact HF.out
theorem handleE_any (hR : Rep w g A) (hF : FreeOk A) (hb : A.handles.length < 9000) (name : Int) :
 Calls Tryz.prog 86 #[.pointer (some ⟨g.hb, 0, none⟩), .int .i64 name] w fun e w' => ∃ n, e = .returned (.int .i64 n) ∧ Hid (∃ A' g', Granted A name n A' ∧ Rep w' g' A' ∧ Step w g A w' g' ∧ g'.vE = g.vE) := by
 refine ret_k fun K hK => ?_;have HK := Lib.hid hK;have hnd := handles_nodup hR;have c5 : w.cell? ⟨g.hb, 5, none⟩ = some (.map (some g.mh)) := hR.c 5;have c9 : w.cell? ⟨g.hb, 9, none⟩ = some (.iface 62 (.pointer (some ⟨g.lb, 0, none⟩))) := hR.c 9;have c10 : w.cell? ⟨g.hb, 10, none⟩ = some (.int .i64 A.next) := hR.c 10;have hce := call_empty;obtain ⟨a, c, hv, _, _, _⟩ := hR.rF.row.slice;have hlb := hR.lb;rw [hv] at hlb;have hme := meth_empty (cellAt hlb 0);have hn9 := hF.next9;have hn0 := hF.next0;rcases Classical.em (A.free = []) with h0 | h0
 · have HE := Lib.hid (leastEmpty_any w a A.free.length c);have e0 : A.free.length = 0 := by rw [h0]; rfl
   rw [e0] at HE hme;have hN := hR.setNums (w' := w.setCell ⟨g.hb, 10, none⟩ (.int .i64 (A.next + 1))) (nm := A.names) (nx := A.next + 1) (chg_set1 _ _ _ _) (by rw [heap_setCell hR.hs]; rfl);obtain ⟨o', hrun, hM⟩ := run_mapUpdate_map (P := Tryz.prog) hN.1.mh uMapI uInt A.next (.int .i64 name)
   have hG := hF.fresh h0 name hb;have hM' : MapAt (World.put (w.setCell ⟨g.hb, 10, none⟩ (.int .i64 (A.next + 1))) g.mh o') g.mh (kvsI (A.handles ++ [(A.next, name)])) := by
    rw [← putKV_new hG.least.new]; exact hM
   have hH := hN.1.setH (chg_put1 _ _ _) hM';have HF := Lib.hid (HK.out _ _ ⟨A.next, rfl, _, _, hG, hH.1, hN.2.trans hH.2 (Int.le_refl _), rfl⟩);have f10 : w.frozen? ⟨g.hb, 10, none⟩ = false := freeAt hR.hs 10;clear hH hM' hG hM hN e0 h0 hlb hv hnd hR hF hb HK hK;generalize A.next = nx at *
   go_enter Tryz.func86, Tryz.ntmps86
   go_wp2_with (go_at_call 170; refine HE.out.mono ?_; rintro e w1 ⟨rfl, rfl⟩)
   go_ret;exact HF.out
 · have HE := Lib.hid (leastEmpty_any w a A.free.length c);have e0 : ¬ (A.free.length = 0) := fun e => h0 (List.eq_nil_of_length_eq_zero e);rw [decide_eq_false e0] at HE;have hFA : FreeAt w g.lb g.vF A.free := ⟨hR.rF.row, hR.lb, fun b hb e => (by have := hR.rF.own b hb; rw [e, hR.olb] at this; cases this), hF.ord⟩;have hPop : Calls Tryz.prog 118 #[.iface 62 (.pointer (some ⟨g.lb, 0, none⟩))] w fun e w3 => ∃ x, e = .returned (.iface 3 (.int .i64 x)) ∧ w3.cell? ⟨g.hb, 5, none⟩ = some (.map (some g.mh)) ∧
    ∃ w4, (Instr.mapUpdate 67 (.map (some g.mh)) (.int .i64 x) (.int .i64 name)).run Tryz.prog w3 = .ok () w4 ∧ Hid (Post K (.returned (.int .i64 x)) w4) := by
    refine (heapPop_any hFA (by have := hF.len; omega) h0).mono ?_;rintro e w3 ⟨x, ys, v', rfl, HH⟩;obtain ⟨hp, hm, hFA', hC, hloc⟩ := HH.out;have hG := hF.again hp hFA'.ord hm name;have hS := hR.setF (Step.refl w g A) (v1 := v') (l := ys) hC hFA'.cell hFA'.row (fun b hb' => .inl (hR.rF.own b (hloc b hb')));obtain ⟨o', hrun, hM⟩ := run_mapUpdate_map (P := Tryz.prog) hS.1.mh uMapI uInt x (.int .i64 name);have hM' : MapAt (World.put w3 g.mh o') g.mh (kvsI (A.handles ++ [(x, name)])) := by
     rw [← putKV_new hG.least.new]; exact hM
    have hH := hS.1.setH (chg_put1 _ _ _) hM';refine ⟨x, rfl, hS.1.c 5, _, hrun, ?_⟩;exact HK.out _ _ ⟨x, rfl, _, _, hG, hH.1, hS.2.trans hH.2 (Int.le_refl _), rfl⟩
   have HPop := Lib.hid hPop;have has := assert_int;clear hPop hFA e0 h0 hlb hv hnd hR hF hb HK hK;generalize A.next = nx at *
   generalize A.free.length = fl at *
   go_enter Tryz.func86, Tryz.ntmps86
   go_wp2_with (first | (go_at_call 170; refine HE.out.mono ?_; rintro e w1 ⟨rfl, rfl⟩) | (go_at_call 118; refine HPop.out.mono ?_; rintro e w3 ⟨x, rfl, d5, w4, hrun, hZ⟩))
   go_ret;exact hZ.out
theorem outE_ref (hR : Rep w g A) (hF : FreeOk A) (hb : A.handles.length < 9000) (name : Int) :
 Calls Tryz.prog 66 #[.pointer (some ⟨g.hb, 0, none⟩), .agg #[.bool true, .int .i64 name]] w fun e w' => ∃ n, e = .returned (.agg #[.bool true, .int .i64 n]) ∧ Hid (∃ A' g', Granted A name n A' ∧ Rep w' g' A' ∧ Step w g A w' g' ∧ g'.vE = g.vE) := by
 refine ret_k fun K hK => ?_;obtain ⟨W, hW⟩ : ∃ W, W = (w.alloc (.cells #[.bool true, .int .i64 name] 113)).alloc (.cells #[.bool false, .int .i64 0] 54) := ⟨_, rfl⟩;have hC : Chg (fun _ => False) w W := by rw [hW]; exact ((Chg.refl _ _).alloc _).alloc _
 have hrb : W.heap[w.heap.size + 1]? = some (.cells #[.bool false, .int .i64 0] 54 (0, 0)) := by
  rw [hW];have := heap_alloc_new (w.alloc (.cells #[.bool true, .int .i64 name] 113)) (.cells #[.bool false, .int .i64 0] 54);simpa using this
 have hH := handleE_any (hR.chg0 hC) hF hb name;have HH : Hid (Calls Tryz.prog 86 #[.pointer (some ⟨g.hb, 0, none⟩), .int .i64 name] W fun e w1 => ∃ n, e = .returned (.int .i64 n) ∧ (w1.cell? ⟨w.heap.size + 1, 0, none⟩ = some (.bool false) ∧ w1.cell? ⟨w.heap.size + 1, 1, none⟩ = some (.int .i64 0) ∧ w1.frozen? ⟨w.heap.size + 1, 0, none⟩ = false ∧ w1.frozen? ⟨w.heap.size + 1, 1, none⟩ = false) ∧
  Hid (Post K (.returned (.agg #[.bool true, .int .i64 n])) ((w1.setCell ⟨w.heap.size + 1, 0, none⟩ (.bool true)).setCell ⟨w.heap.size + 1, 1, none⟩ (.int .i64 n)))) := by
  refine hH.mono ?_;rintro e w1 ⟨n, rfl, hZ⟩;obtain ⟨A', g', hG, hR', hS, hvE⟩ := hZ.out;have hn : g.own (w.heap.size + 1) = none := hR.none_of_ge (by omega);have hat := hS.at hrb hn;refine ⟨n, rfl, ⟨cellAt hat.1 0, cellAt hat.1 1, freeAt hat.1 0, freeAt hat.1 1⟩, hK _ _ ⟨n, rfl, A', g', hG, ?_, ?_, hvE⟩⟩
  · refine hR'.frame (F := fun b => b = w.heap.size + 1) (((Chg.refl (fun b => b = w.heap.size + 1) w1).setCell (p := ⟨w.heap.size + 1, 0, none⟩) (fun _ => rfl) _).setCell (p := ⟨w.heap.size + 1, 1, none⟩) (fun _ => rfl) _) fun b hb => ?_;rw [hb]; exact hat.2
  · have h1 := (Step.chg0 g A hC).trans hS (Int.le_refl _);refine { h1 with chg := ?_ };refine (h1.chg.setCell (p := ⟨w.heap.size + 1, 0, none⟩) (fun h => ?_) _).setCell (p := ⟨w.heap.size + 1, 1, none⟩) (fun h => ?_) _
    · exact absurd h (by simp)
    · exact absurd h (by simp)
 clear hH hrb hC hF hb hR hK;subst hW
 go_enter Tryz.func66, Tryz.ntmps66
 go_wp2_with (go_at_call 86; refine HH.out.mono ?_; rintro e w1 ⟨n, rfl, ⟨q0, q1, q2, q3⟩, hZ⟩)
 refine bodyPost_ret (v := .agg #[.bool true, .int .i64 n]) (by simp [results, Tryz.results66, go_sem, q0, q1]) rfl ?_;exact hZ.out
theorem uHEs : Tryz.prog.underlying 80 = some (.slice 84) := by kernel_rfl
theorem iHE : (Tryz.prog.info? 84).map (fun i => (i.zero, i.size, i.bytes)) = some (some (.agg #[.int .i64 0, .bool false, .int .i64 0]), 3, 24) := by kernel_rfl
theorem appHE {xs : List En} (hrow : Row w 84 3 v xs.length (enCells xs)) (x : En) (hT : xs.length < 1000000000) :
 ∃ a cap w', (Builtin.append_ #[80, 80] 80 #[v, .slice (some ⟨w.heap.size, 0, none⟩) 1 1]).run Tryz.prog (w.alloc (.cells #[.int .i64 x.key, .bool x.val.ref, .int .i64 x.val.num] 84)) = .ok (.slice a (xs.length + 1) cap) w' ∧
   Row w' 84 3 (.slice a (xs.length + 1) cap) (xs ++ [x]).length (enCells (xs ++ [x])) ∧ Chg (fun b => rowBlk v = some b) w w' ∧ (∀ b, rowBlk (.slice a (xs.length + 1) cap) = some b → rowBlk v = some b ∨ w.heap.size ≤ b) := by
 obtain ⟨i0, hi, hz0, hz1, hz2⟩ := info_parts iHE;have h1 : Row (w.alloc (.cells #[.int .i64 x.key, .bool x.val.ref, .int .i64 x.val.num] 84)) 84 3 v xs.length (enCells xs) := hrow.same fun b hb => by rw [heap_alloc, if_neg (by have := hrow.lt hb; omega)]
 have hsrc : Src' (w.alloc (.cells #[.int .i64 x.key, .bool x.val.ref, .int .i64 x.val.num] 84)) 3 (.slice (some ⟨w.heap.size, 0, none⟩) 1 1) 1 [.int .i64 x.key, .bool x.val.ref, .int .i64 x.val.num] := src_block (heap_alloc_new _ _) (by simp) (by simp);obtain ⟨v3, w3, happ, hrow3, hC3, hloc3⟩ := run_append_row (P := Tryz.prog) 80 80 84 i0 _ 3 24 uHEs hi hz0 hz1 hz2 rfl (by decide) h1 hsrc (by simp [Value.oneCell']) (by unfold maxLen; omega) (by omega);obtain ⟨a3, cap3, rfl, -⟩ := hrow3.slice;have hCa : Chg (fun b => rowBlk v = some b) w (w.alloc (.cells #[.int .i64 x.key, .bool x.val.ref, .int .i64 x.val.num] 84)) := (Chg.refl _ _).alloc _
 refine ⟨a3, cap3, w3, happ, ?_, hCa.trans hC3 (fun _ _ h => h), ?_⟩
 · have e : enCells (xs ++ [x]) = enCells xs ++ [.int .i64 x.key, .bool x.val.ref, .int .i64 x.val.num] := by simp [enCells, En.cells]
   rw [e, List.length_append, List.length_singleton];exact hrow3
 · intro b hb;rcases hloc3 b hb with h2 | h2
   · exact .inl h2
   · simp at h2; exact .inr (by omega)
inductive Listed (A : St) : List En → List En → St → Prop
 | nil : Listed A [] [] A
 | num {l out : List En} {A1 A2 : St} {x : En} {q : Int} : Listed A l out A1 → Granted A1 x.key q A2 → x.val.ref = false → Listed A (l ++ [x]) (out ++ [⟨q, ⟨false, x.val.num⟩⟩]) A2
 | ref {l out : List En} {A1 A2 A3 : St} {x : En} {q r : Int} : Listed A l out A1 → Granted A1 x.key q A2 → Granted A2 x.val.num r A3 → x.val.ref = true → Listed A (l ++ [x]) (out ++ [⟨q, ⟨true, r⟩⟩]) A3
theorem Listed.keeps {A' : St} {l out : List En} (h : Listed A l out A') : A'.objs = A.objs ∧ A'.names = A.names ∧ (FreeOk A → FreeOk A') ∧ A'.handles.length ≤ A.handles.length + 2 * l.length ∧ out.length = l.length := by
 induction h with
 | nil => exact ⟨rfl, rfl, fun h => h, by simp, rfl⟩
 | num _ hG _ ih =>
   obtain ⟨F, nx, rfl⟩ := hG.eq;obtain ⟨h1, h2, h3, h4, h5⟩ := ih;refine ⟨h1, h2, fun _ => hG.ok, ?_, by simp [h5]⟩;show (_ ++ [_]).length ≤ _;simp only [List.length_append, List.length_singleton]; omega
 | ref _ hG hG2 _ ih =>
   obtain ⟨F, nx, rfl⟩ := hG.eq;obtain ⟨F2, nx2, rfl⟩ := hG2.eq;obtain ⟨h1, h2, h3, h4, h5⟩ := ih;refine ⟨h1, h2, fun _ => hG2.ok, ?_, by simp [h5]⟩;show ((_ ++ [_]) ++ [_]).length ≤ _;simp only [List.length_append, List.length_singleton]; omega
structure EI (w : World) (g : Gh) (A : St) (es : List En) (v : Value) (j : Nat) (wr : World) : Prop where
 ex : ∃ out Ar gr, Listed A (es.take j) out Ar ∧ Rep wr gr Ar ∧ Step w g A wr gr ∧ gr.vE = g.vE ∧ Row wr 84 3 v out.length (enCells out) ∧ (∀ b, rowBlk v = some b → w.heap.size ≤ b ∧ gr.own b = none) ∧ (FreeOk A → FreeOk Ar)
theorem EI.round {wr : World} (h : EI w g A es v j wr) (hF : FreeOk A) (hh : A.handles.length + 2 * es.length < 9000) (hx : es[j]? = some x) :
 Calls Tryz.prog 86 #[.pointer (some ⟨g.hb, 0, none⟩), .int .i64 x.key] (wr.alloc (.cells #[.int .i64 x.key, .bool x.val.ref, .int .i64 x.val.num] 120)) fun e w2 => ∃ q, e = .returned (.int .i64 q) ∧
  (w2.cell? ⟨wr.heap.size, 0, none⟩ = some (.int .i64 x.key) ∧ w2.cell? ⟨wr.heap.size, 1, none⟩ = some (.bool x.val.ref) ∧ w2.cell? ⟨wr.heap.size, 2, none⟩ = some (.int .i64 x.val.num)) ∧
  Hid (Calls Tryz.prog 66 #[.pointer (some ⟨g.hb, 0, none⟩), .agg #[.bool x.val.ref, .int .i64 x.val.num]] w2 fun e w3 => ∃ r, e = .returned (.agg #[.bool x.val.ref, .int .i64 r]) ∧
   ∃ a cap w4, (Builtin.append_ #[80, 80] 80 #[v, .slice (some ⟨w3.heap.size, 0, none⟩) 1 1]).run Tryz.prog (w3.alloc (.cells #[.int .i64 q, .bool x.val.ref, .int .i64 r] 84)) = .ok (.slice a (j + 1) cap) w4 ∧ Hid (EI w g A es (.slice a (j + 1) cap) (j + 1) w4)) := by
 obtain ⟨out, Ar, gr, hL, hR, hS, hE, hrow, hown, hFr⟩ := h.ex;obtain ⟨k1, k2, k3, k4, k5⟩ := hL.keeps;obtain ⟨hjl, hxe⟩ := List.getElem?_eq_some_iff.1 hx;have htl : (es.take j).length = j := by rw [List.length_take]; omega
 have hol : out.length = j := by rw [k5, htl]
 have htk : es.take (j + 1) = es.take j ++ [x] := by rw [List.take_succ_eq_append_getElem hjl, hxe]
 have hW := (Chg.refl (fun _ => False) wr).alloc (.cells #[.int .i64 x.key, .bool x.val.ref, .int .i64 x.val.num] 120);have hRa := hR.chg0 hW;have hSa := hS.trans (Step.chg0 gr Ar hW) (by rw [k2]; exact Int.le_refl _);have hrb := heap_alloc_new wr (.cells #[.int .i64 x.key, .bool x.val.ref, .int .i64 x.val.num] 120);have hrowa : Row (wr.alloc (.cells #[.int .i64 x.key, .bool x.val.ref, .int .i64 x.val.num] 120)) 84 3 v out.length (enCells out) := hrow.same fun b hb => by rw [heap_alloc, if_neg (by have := hrow.lt hb; omega)]
 have hlow := hS.chg.size;have hehb : gr.hb = g.hb := hS.hb;have hH := handleE_any hRa (hFr hF) (by rw [htl] at k4; omega) x.key;rw [hehb] at hH;refine hH.mono ?_;rintro e w2 ⟨q, rfl, hZ⟩;obtain ⟨A2, g2, hG, hR2, hS2, hE2⟩ := hZ.out;obtain ⟨hb2, ho2⟩ := hS2.at hrb (hR.none_of_ge (Nat.le_refl _));obtain ⟨F2, nx2, eA2⟩ := hG.eq;have hnm2 : Ar.names ≤ A2.names := by rw [eA2]; exact Int.le_refl _
 have hS02 := hSa.trans hS2 (by rw [k2]; exact Int.le_refl _);have hrow2 : Row w2 84 3 v out.length (enCells out) := hrowa.same fun b hb => hS2.chg.block b (hrowa.lt hb) (by rw [(hown b hb).2]; simp);have hown2 : ∀ b, rowBlk v = some b → w.heap.size ≤ b ∧ g2.own b = none := fun b hb => by
  refine ⟨(hown b hb).1, ?_⟩;cases hob : g2.own b with
  | none => rfl
  | some r =>
    have h3 := hS2.own b (hrowa.lt hb) (by rw [hob]; rfl);rw [(hown b hb).2, hob] at h3; cases h3
 have hsz2 := hS02.chg.size;refine ⟨q, rfl, ⟨cellAt hb2 0, cellAt hb2 1, cellAt hb2 2⟩, Lib.hid ?_⟩;have fin : ∀ {A3 : St} {w3 : World} {g3 : Gh} (y : Wd), Listed A (es.take j ++ [x]) (out ++ [⟨q, y⟩]) A3 → Rep w3 g3 A3 → Step w g A w3 g3 → g3.vE = g.vE → Row w3 84 3 v out.length (enCells out) → (∀ b, rowBlk v = some b → w.heap.size ≤ b ∧ g3.own b = none) → (FreeOk A → FreeOk A3) →
  ∃ a cap w4, (Builtin.append_ #[80, 80] 80 #[v, .slice (some ⟨w3.heap.size, 0, none⟩) 1 1]).run Tryz.prog (w3.alloc (.cells #[.int .i64 q, .bool y.ref, .int .i64 y.num] 84)) = .ok (.slice a (j + 1) cap) w4 ∧ Hid (EI w g A es (.slice a (j + 1) cap) (j + 1) w4) := by
  intro A3 w3 g3 y h1 h2 h3 h4 h5 h6 h7;obtain ⟨a, cap, w4, happ, hr4, hC4, hloc⟩ := appHE h5 ⟨q, y⟩ (by omega);rw [hol] at happ;rw [hol] at hloc hr4;refine ⟨a, cap, w4, happ, Lib.hid ⟨out ++ [⟨q, y⟩], A3, g3, by rw [htk]; exact h1, ?_, ?_, h4, hr4, fun b hb => ?_, h7⟩⟩
  · exact h2.frame hC4 fun b hb => (h6 b hb).2
  · exact { h3 with chg := h3.chg.trans hC4 fun b hb hv => by have := (h6 b hv).1; omega }
  · rcases hloc b hb with h8 | h8
    · exact h6 b h8
    · exact ⟨by have := h3.chg.size; omega, h2.none_of_ge h8⟩
 have hh2 : g2.hb = g.hb := hS02.hb;obtain ⟨xk, xr, xn⟩ := x;cases xr with
 | false =>
   refine (out_num w2 _ xn).mono ?_;rintro e w3 ⟨rfl, hC3⟩;obtain ⟨a, cap, w4, h1, h2⟩ := fin ⟨false, xn⟩ (.num hL hG rfl) (hR2.chg0 hC3) (hS02.trans (Step.chg0 g2 A2 hC3) (by rw [← k2]; exact hnm2)) (hE2.trans hE) (hrow2.same fun b hb => hC3.block b (hrow2.lt hb) fun h => h) hown2 (fun _ => hG.ok);exact ⟨xn, rfl, a, cap, w4, h1, h2⟩
 | true =>
   have hO := outE_ref hR2 hG.ok (by rw [eA2]; simp only [List.length_append, List.length_singleton]; rw [htl] at k4; omega) xn;rw [hh2] at hO;refine hO.mono ?_;rintro e w3 ⟨r, rfl, hZ3⟩;obtain ⟨A3, g3, hG3, hR3, hS3, hE3⟩ := hZ3.out;have hown3 : ∀ b, rowBlk v = some b → w.heap.size ≤ b ∧ g3.own b = none := fun b hb => by
    refine ⟨(hown b hb).1, ?_⟩;cases hob : g3.own b with
    | none => rfl
    | some r =>
      have h3 := hS3.own b (hrow2.lt hb) (by rw [hob]; rfl);rw [(hown2 b hb).2, hob] at h3; cases h3
   obtain ⟨a, cap, w4, h1, h2⟩ := fin ⟨true, r⟩ (.ref hL hG hG3 rfl) hR3 (hS02.trans hS3 (by rw [← k2]; exact hnm2)) ((hE3.trans hE2).trans hE) (hrow2.same fun b hb => hS3.chg.block b (hrow2.lt hb) (by rw [(hown2 b hb).2]; simp)) hown3 (fun _ => hG3.ok);exact ⟨r, rfl, a, cap, w4, h1, h2⟩
inductive EntriesSpec (A : St) (t : Int) : List En → Int → St → Prop
 | none : A.handles.lookup t = none → EntriesSpec A t [] 221 A
 | kind {name : Int} {o : Ob} : A.handles.lookup t = some name → A.objs.lookup name = some o → o.table = false → EntriesSpec A t [] 223 A
 | ok {name : Int} {o : Ob} {out : List En} {A' : St} : A.handles.lookup t = some name → A.objs.lookup name = some o → o.table = true → Listed A o.ents out A' → EntriesSpec A t out 0 A'
def RepV (w1 : World) (g1 : Gh) (A : St) (vE : Int → Value) : Prop := ∃ A1, A1.objs = A.objs ∧ Rep w1 g1 A1 ∧ g1.vE = vE
def EntOut (w : World) (g : Gh) (A : St) (t : Int) (v : Value) (er : Int) (w' : World) : Prop := ∃ out A' g', EntriesSpec A t out er A' ∧ Rep w' g' A' ∧ Step w g A w' g' ∧ Row w' 84 3 v out.length (enCells out) ∧ ∀ b, rowBlk v = some b → w.heap.size ≤ b ∧ g'.own b = none
theorem entries_any (hR : Rep w g A) (hg : Good k m A) (t : Int) (hh : ∀ name o, A.objs.lookup name = some o → A.handles.length + 2 * o.ents.length < 9000) :
 Calls Tryz.prog 41 #[.pointer (some ⟨g.hb, 0, none⟩), .int .i64 t] w fun e w' => ∃ v er, e = .returned (.tuple #[v, .int .i64 er]) ∧ Hid (EntOut w g A t v er w') := by
 refine ret_k fun K hK => ?_;cases hl : A.handles.lookup t with
 | none =>
   have HW := Lib.hid (weak_none hR hl);have HP := Lib.hid (hK _ _ ⟨.slice none 0 0, 221, rfl, Lib.hid ⟨[], A, g, .none hl, hR, Step.refl _ _ _, Row.nil _ _ _, fun b hb => by simp [rowBlk] at hb⟩⟩);clear hK hR hg hl hh
   go_enter Tryz.func41, Tryz.ntmps41
   go_wp2_with (go_at_call 70; refine HW.out.mono ?_; rintro e w6 ⟨rfl, rfl⟩)
   go_ret2
   exact HP.out
 | some name =>
   obtain ⟨o, ho⟩ := Option.isSome_iff_exists.1 (hg.wf.hob t name hl);have hW := weak_some hR hl ho;cases ht : o.table with
   | false =>
     rw [ht] at hW;have HW := Lib.hid hW;have HP := Lib.hid (hK _ _ ⟨.slice none 0 0, 223, rfl, Lib.hid ⟨[], A, g, .kind hl ho ht, hR, Step.refl _ _ _, Row.nil _ _ _, fun b hb => by simp [rowBlk] at hb⟩⟩);clear hK hR hg hl hh hW ho ht
     go_enter Tryz.func41, Tryz.ntmps41
     go_wp2_with (go_at_call 70; refine HW.out.mono ?_; rintro e w6 ⟨rfl, rfl⟩)
     go_ret2
     exact HP.out
   | true =>
     rw [ht] at hW;have HW := Lib.hid hW;have hbnd := hh name o ho;obtain ⟨a, c, hv, _, _, _⟩ := (hR.obj name o (mem_of_lookup ho)).row.slice;obtain ⟨ob, hob⟩ : ∃ ob, ob = g.ob name := ⟨_, rfl⟩;obtain ⟨len, hlen⟩ : ∃ len, len = o.ents.length := ⟨_, rfl⟩;have HC4 : Hid (∀ w1, Chg (fun _ => False) w w1 → w1.cell? ⟨ob, 4, none⟩ = some (.slice a len c)) := fun w1 hC => by
      rw [hob, hlen, ← hv]; exact ((hR.chg0 hC).obj name o (mem_of_lookup ho)).c 4
     have HEn : Hid (∀ w1 g1, RepV w1 g1 A g.vE → ∀ j x, o.ents[j]? = some x → ∃ b, a = some ⟨b, 0, none⟩ ∧ w1.cell? ⟨b, j * 3, none⟩ = some (.int .i64 x.key) ∧ w1.cell? ⟨b, j * 3 + 1, none⟩ = some (.bool x.val.ref) ∧ w1.cell? ⟨b, j * 3 + 2, none⟩ = some (.int .i64 x.val.num)) := by
      rintro w1 g1 ⟨A1, e1, hR1, e2⟩ j x hx;obtain ⟨hjl, hje⟩ := List.getElem?_eq_some_iff.1 hx;have hrow := (hR1.obj name o (mem_of_lookup (by rw [e1]; exact ho))).row;rw [e2, hv] at hrow;obtain ⟨b, rfl, _, c0, c1, c2⟩ := hrow.entCell j hjl;rw [hje] at c0 c1 c2;exact ⟨b, rfl, c0, c1, c2⟩
     have HSp : Hid (∀ w1, Chg (fun _ => False) w w1 → ∀ n : Nat, n ≤ 2 * len → Calls Tryz.prog 60 #[.pointer (some ⟨g.hb, 0, none⟩), .int .i64 n] w1 fun e w2 => e = .returned (.bool true) ∧ w1 = w2) := fun w1 hC n hn => spare_any (hR.chg0 hC) n (by omega) (by omega);have HE0 : Hid (∀ w1, Chg (fun _ => False) w w1 → EI w g A o.ents (.slice none 0 0) 0 w1) := fun w1 hC => ⟨[], A, g, .nil, hR.chg0 hC, Step.chg0 g A hC, rfl, Row.nil _ _ _, fun b hb => by simp [rowBlk] at hb, fun h => h⟩;have HRep : Hid (∀ w1, Chg (fun _ => False) w w1 → RepV w1 g A g.vE) := fun w1 hC => ⟨A, rfl, hR.chg0 hC, rfl⟩;have HEI : Hid (∀ v j w1, EI w g A o.ents v j w1 → ∃ g1, RepV w1 g1 A g.vE) := by
      rintro v j w1 h;obtain ⟨out, Ar, gr, hL, hR1, hS, hE, _⟩ := h.ex;exact ⟨gr, Ar, hL.keeps.1, hR1, hE⟩
     have HRd : Hid (∀ v j w1, EI w g A o.ents v j w1 → ∀ x, o.ents[j]? = some x → _) := fun v j w1 h x hx => h.round hg.free (by omega) hx;have HFin : Hid (∀ v w1, EI w g A o.ents v len w1 → Post K (.returned (.tuple #[v, .int .i64 0])) w1) := fun v w1 h => by
      obtain ⟨out, Ar, gr, hL, hR1, hS, hE, hrow, hown, _⟩ := h.ex;rw [hlen, List.take_of_length_le (Nat.le_refl _)] at hL;exact hK _ _ ⟨v, 0, rfl, Lib.hid ⟨out, Ar, gr, .ok hl ho ht hL, hR1, hS, hrow, hown⟩⟩
     have HLen : Hid (len = o.ents.length ∧ len < 9000) := ⟨hlen, by omega⟩;have HL9 : Hid (∀ j, j < len → ∃ x, o.ents[j]? = some x) := fun j hj => ⟨_, List.getElem?_eq_getElem (by omega)⟩;have c40 := HC4.out w (Chg.refl _ _);rw [← hob] at HW;clear hK hR hg hl hh hW ho ht hv hbnd hob hlen
     go_enter Tryz.func41, Tryz.ntmps41
     go_wp2_with (go_at_call 70; refine HW.out.mono ?_; rintro e w6 ⟨rfl, rfl⟩)
     go_loopw [9, 36] (fun s9 s36 wr => ∃ j n : Nat, j ≤ len ∧ n ≤ len + j ∧ s9 = .int .i64 n ∧ s36 = .int .i64 j ∧ Hid (Chg (fun _ => False) w wr)) (fun _ s36 _ => len - (intOf s36).toNat)
     case atStart => exact ⟨0, len, by omega, by omega, rfl, rfl, Lib.hid (Chg.refl _ _)⟩
     case round =>
      obtain ⟨j, n, hj, hn, rfl, rfl, HC⟩ := hrel;clear c40;by_cases hlt : j < len
      · have hjl : (j : Int) < (len : Int) := by omega
        obtain ⟨x, hx⟩ := HL9.out j hlt;obtain ⟨b, e1, q0, q1, q2⟩ := HEn.out wr g (HRep.out wr HC.out) j x hx;subst e1;have hl9 := HLen.out.2;have hwn : IntKind.i64.wrap ((n : Int) + 1) = (n : Int) + 1 := IntWalk.i64_in _ (by omega);have hwj : IntKind.i64.wrap ((j : Int) + 1) = (j : Int) + 1 := IntWalk.i64_in _ (by omega);have HCn : Hid (∀ X, Chg (fun _ => False) w (wr.alloc X)) := fun X => HC.out.alloc X;clear hx;cases hr : x.val.ref with
        | false =>
          rw [hr] at q1;go_wp2
          go_roundw
          case rel => exact ⟨j + 1, n, by omega, by omega, rfl, by go_num, Lib.hid (HCn.out _)⟩
          case measure => simp [intOf]; omega
        | true =>
          rw [hr] at q1;go_wp2
          go_roundw
          case rel => exact ⟨j + 1, n + 1, by omega, by omega, by go_num, by go_num, Lib.hid (HCn.out _)⟩
          case measure => simp [intOf]; omega
      · obtain rfl : j = len := by omega
        have HS := Lib.hid (HSp.out wr HC.out n (by omega));have c4 := HC4.out wr HC.out;have HE := Lib.hid (HE0.out wr HC.out);have hjl : ¬ ((j : Int) < (j : Int)) := by omega
        clear hlt hn HSp HE0 HC4 HRep
        go_wp2_with fail
        refine HS.out.mono ?_; rintro e w7 ⟨rfl, rfl⟩;go_wp2
        go_loopw [12, 55] (fun s12 s55 wr => ∃ (v : Value) (q : Nat), v = s12 ∧ q ≤ j ∧ s55 = .int .i64 q ∧ Hid (EI w g A o.ents v q wr)) (fun _ s55 _ => j - (intOf s55).toNat)
        case atStart => exact ⟨_, 0, rfl, by omega, rfl, HE⟩
        case round =>
         obtain ⟨v, q, rfl, hq, rfl, HEq⟩ := hrel;clear HE HS c4;by_cases hqlt : q < j
         · have hql : (q : Int) < (j : Int) := by omega
           obtain ⟨x, hx⟩ := HL9.out q hqlt;obtain ⟨g1, hrep⟩ := HEI.out _ _ _ HEq.out;obtain ⟨b, e1, q0, q1, q2⟩ := HEn.out _ g1 hrep q x hx;subst e1;have HRo := Lib.hid (HRd.out _ _ _ HEq.out x hx);have hl9 := HLen.out.2;have hwq : IntKind.i64.wrap ((q : Int) + 1) = (q : Int) + 1 := IntWalk.i64_in _ (by omega);clear hrep hx HEq
           go_wp2_with fail
           refine HRo.out.mono ?_; rintro e w8 ⟨kq, rfl, ⟨d0, d1, d2⟩, hO⟩;clear HRo q0 q1 q2
           go_wp2_with fail
           refine hO.out.mono ?_; rintro e w9 ⟨r, rfl, a', cap, w10, happ, hE10⟩;clear hO d0 d1 d2
           go_wp2_with (first | (at_builtin; go_must (refine wpList_val rfl (exec_append rfl (by exact happ)) ?_)))
           go_roundw
           case rel => exact ⟨_, q + 1, rfl, by omega, by go_num, hE10⟩
           case measure => simp [intOf]; omega
         · obtain rfl : q = j := by omega
           have HZ := Lib.hid (HFin.out _ _ HEq.out);clear HEq HFin HRd HEI HEn;go_wp2
           go_ret2
           exact HZ.out
def flatE (l : List En) : List Int := l.flatMap fun x => [x.key, bitI x.val.ref, x.val.num]
theorem flatE_len (l : List En) : (flatE l).length = 3 * l.length := by
 induction l with
 | nil => rfl
 | cons x l ih =>
   show ([x.key, bitI x.val.ref, x.val.num] ++ flatE l).length = _;rw [List.length_append, ih]; simp; omega
theorem flatE_take {l : List En} (hx : l[j]? = some x) : flatE (l.take (j + 1)) = (flatE (l.take j) ++ [x.key]) ++ [bitI x.val.ref, x.val.num] := by
 obtain ⟨hjl, hxe⟩ := List.getElem?_eq_some_iff.1 hx;rw [List.take_succ_eq_append_getElem hjl, hxe];unfold flatE;rw [List.flatMap_append];simp
theorem Row.heCell (hrow : Row w 84 3 (.slice a es.length c) es.length (enCells es)) (k : Nat) (hk : k < es.length) :
 ∃ b, a = some ⟨b, 0, none⟩ ∧ rowBlk (.slice a es.length c) = some b ∧ w.cell? ⟨b, k * 3, none⟩ = some (.int .i64 es[k].key) ∧ w.cell? ⟨b, k * 3 + 1, none⟩ = some (.bool es[k].val.ref) ∧ w.cell? ⟨b, k * 3 + 2, none⟩ = some (.int .i64 es[k].val.num) := by
 obtain ⟨b, rfl, hb, hc⟩ := hrow.cells (by omega);obtain ⟨h0, h1, h2⟩ := enCells_get es k hk;exact ⟨b, rfl, hb, hc _ _ h0, hc _ _ h1, hc _ _ h2⟩
theorem IRow.apps {B : Nat} {u v' : Value} {l' : List Int} (h : IRow w B u l) (h' : Row w 3 1 v' l'.length (intCells l')) (hB : B ≤ w.heap.size) (hl : l.length + l'.length ≤ 100000) :
 ∃ a cap w', (Builtin.append_ #[23, 23] 23 #[u, v']).run Tryz.prog w = .ok (.slice a (l.length + l'.length) cap) w' ∧ IRow w' B (.slice a (l.length + l'.length) cap) (l ++ l') ∧ Chg (fun b => B ≤ b) w w' := by
 obtain ⟨a, cap, w', happ, hr, hC, hloc⟩ := append_rows h.row h' (by omega);refine ⟨a, cap, w', happ, ⟨by rw [List.length_append]; rw [List.length_append] at hr; exact hr, fun b hb => ?_⟩, hC.mono fun b _ hb => h.new b hb⟩;rcases hloc b hb with h1 | h1
 · exact h.new b h1
 · omega
theorem tell_Entries {hv : Value} {k a b : Int} {x : Option Addr} {n : Nat} (hk : k % 18 = 8) {Q : List Int → World → Prop} (hQ : OkQ Q)
 (hM : ∀ w1, Chg (fun _ => False) w w1 → Calls Tryz.prog 41 #[hv, .int .i64 a] w1 fun e w2 => ∃ v er out, e = .returned (.tuple #[v, .int .i64 er]) ∧ Keep w.heap.size w1 w2 ∧ Hid (Row w2 84 3 v out.length (enCells out) ∧ out.length ≤ 1000 ∧ Q (flatE out ++ [er]) w2)) : Tells w hv k a b x n c Q := by
 refine ret_k fun K hK => ?_;have HK := Lib.hid hK;have HM := Lib.hid hM;have HQ := Lib.hid hQ;have hW := which_any (w.alloc (.cells #[.int .i64 k, .int .i64 a, .int .i64 b, .slice x n c] 33)) k a b x n c;rw [hk] at hW;have HW := Lib.hid hW;have HB0 : Hid (BoxAt (w.alloc (.cells #[.int .i64 k, .int .i64 a, .int .i64 b, .slice x n c] 33)) w.heap.size k a b x n c) := ⟨heap_alloc_new _ _⟩;have HA0 : Hid (Chg (fun _ => False) w (w.alloc (.cells #[.int .i64 k, .int .i64 a, .int .i64 b, .slice x n c] 33))) := (Chg.refl _ _).alloc _;obtain ⟨b0, hb0⟩ : ∃ b0, b0 = w.heap.size := ⟨_, rfl⟩;clear hK hM hQ hW hk
 go_enter Tryz.func15, Tryz.ntmps15
 go_wp2_with fail
 refine HW.out.mono ?_; rintro e w1 ⟨rfl, hC1⟩;obtain ⟨c0, c1, c2, c3⟩ := (HB0.out.chg hC1).cells;have HM1 := Lib.hid (HM.out w1 (HA0.out.trans hC1 fun _ _ h => h));have HS1 : Hid (w.heap.size ≤ w1.heap.size) := (HA0.out.trans hC1 fun _ _ h => h).size;rw [← hb0] at c0 c1 c2 c3;rw [← hb0];clear hb0 HW HB0 HA0 HM hC1
 go_wp2_with fail
 refine HM1.out.mono ?_; rintro e w2 ⟨v, er, out, rfl, hKp, hQ2⟩;have HS2 : Hid (w.heap.size ≤ w2.heap.size) := Nat.le_trans HS1.out hKp.size;obtain ⟨va, vc, rfl, _, _, _⟩ := hQ2.out.1.slice;obtain ⟨len, hlen⟩ : ∃ len, len = out.length := ⟨_, rfl⟩;have HLen : Hid (len = out.length ∧ len ≤ 1000) := ⟨hlen, by rw [hlen]; exact hQ2.out.2.1⟩;rw [← hlen];clear HM1 c0 c1 c2 c3 hKp hlen;go_wp2
 go_loopw [20, 21] (fun s20 s21 wr => ∃ (u : Value) (j : Nat), u = s20 ∧ j ≤ len ∧ s21 = .int .i64 j ∧ Hid (Chg (fun _ => False) w2 wr ∧ IRow wr w2.heap.size u (flatE (out.take j)))) (fun _ s21 _ => len - (intOf s21).toNat)
 case atStart => exact ⟨_, 0, rfl, by omega, rfl, Lib.hid ⟨Chg.refl _ _, Row.nil _ _ _, fun b hb => by simp [rowBlk] at hb⟩⟩
 case round =>
  obtain ⟨u, j, rfl, hj, rfl, HI⟩ := hrel;by_cases hlt : j < len
  · have hjl : (j : Int) < (len : Int) := by omega
    obtain ⟨x0, hx0⟩ : ∃ x, out[j]? = some x := ⟨_, List.getElem?_eq_getElem (by have := HLen.out; omega)⟩;obtain ⟨hC, hI⟩ := HI.out;have HCe : Hid (∀ wx, Chg (fun _ => False) w2 wx → ∃ g, va = some ⟨g, 0, none⟩ ∧ wx.cell? ⟨g, j * 3, none⟩ = some (.int .i64 x0.key) ∧ wx.cell? ⟨g, j * 3 + 1, none⟩ = some (.bool x0.val.ref) ∧ wx.cell? ⟨g, j * 3 + 2, none⟩ = some (.int .i64 x0.val.num)) := fun wx hCx => by
     obtain ⟨hjl', hje⟩ := List.getElem?_eq_some_iff.1 hx0;have hrow := hQ2.out.1;obtain ⟨g, e1, _, d0, d1, d2⟩ := hrow.heCell j hjl';rw [hje] at d0 d1 d2;exact ⟨g, e1, cell_chg hCx d0 fun h => h, cell_chg hCx d1 fun h => h, cell_chg hCx d2 fun h => h⟩
    obtain ⟨g, e1, q0, q1, q2⟩ := HCe.out wr hC;subst e1;have HCg : Hid (∀ wx, Chg (fun _ => False) w2 wx → wx.cell? ⟨g, j * 3, none⟩ = some (.int .i64 x0.key) ∧ wx.cell? ⟨g, j * 3 + 1, none⟩ = some (.bool x0.val.ref) ∧ wx.cell? ⟨g, j * 3 + 2, none⟩ = some (.int .i64 x0.val.num)) := fun wx hCx => by
     obtain ⟨g', e1, d0, d1, d2⟩ := HCe.out wx hCx;simp only [Option.some.injEq, Addr.mk.injEq, and_true] at e1;subst e1;exact ⟨d0, d1, d2⟩
    have hfl : (flatE (out.take j)).length ≤ 3000 := by rw [flatE_len, List.length_take]; have := HLen.out; omega
    have HFt : Hid (flatE (out.take (j + 1)) = (flatE (out.take j) ++ [x0.key]) ++ [bitI x0.val.ref, x0.val.num]) := flatE_take hx0;obtain ⟨xk, xv⟩ := x0;obtain ⟨xr, xn⟩ := xv;have HA1 : Hid (∀ W, Chg (fun _ => False) (wr.alloc (.cells #[.int .i64 xk] 3)) W → ∃ a1 cap1 L1 w3, (Builtin.append_ #[23, 23] 23 #[u, .slice (some ⟨wr.heap.size, 0, none⟩) 1 1]).run Tryz.prog W = .ok (.slice a1 L1 cap1) w3 ∧ Hid (Chg (fun _ => False) w2 w3 ∧ IRow w3 w2.heap.size (.slice a1 L1 cap1) (flatE (out.take j) ++ [xk]))) := fun W hW => by
     have h1 := (row1 wr xk).same (w' := W) fun b hb => hW.block b ((row1 wr xk).lt hb) fun h => h;have hW2 := ((hC.alloc (.cells #[.int .i64 xk] 3)).trans hW fun _ _ h => h);obtain ⟨a1, cap1, w3, happ, hI3, hC3⟩ := (hI.chg0 (((Chg.refl (fun _ => False) wr).alloc _).trans hW fun _ _ h => h)).apps h1 hW2.size (by simp; omega);exact ⟨a1, cap1, _, w3, happ, Lib.hid ⟨hW2.trans hC3 fun b hb h => absurd h (by omega), hI3⟩⟩
    have HA2 : Hid (∀ u1 v1 w4, (Chg (fun _ => False) w2 w4 ∧ IRow w4 w2.heap.size u1 (flatE (out.take j) ++ [xk])) → Row w4 3 1 v1 [bitI xr, xn].length (intCells [bitI xr, xn]) → ∃ a1 cap1 L1 w5, (Builtin.append_ #[23, 23] 23 #[u1, v1]).run Tryz.prog w4 = .ok (.slice a1 L1 cap1) w5 ∧ Hid (Chg (fun _ => False) w2 w5 ∧ IRow w5 w2.heap.size (.slice a1 L1 cap1) (flatE (out.take (j + 1))))) := fun u1 v1 w4 h hr => by
     obtain ⟨a1, cap1, w5, happ, hI5, hC5⟩ := h.2.apps hr h.1.size (by simp; omega);exact ⟨a1, cap1, _, w5, happ, Lib.hid ⟨h.1.trans hC5 fun b hb h => absurd h (by omega), by rw [HFt.out]; exact hI5⟩⟩
    have hCw : Hid (Chg (fun _ => False) w2 wr) := hC;have hl9 := HLen.out.2;have hwj : IntKind.i64.wrap ((j : Int) + 1) = (j : Int) + 1 := IntWalk.i64_in _ (by omega);clear hC hI hfl hx0 HCe HI
    go_upto_region 30 with fail
    go_region_held3 (fun wx => wx.cell? ⟨g, j * 3, none⟩ = some (.int .i64 xk) ∧ wx.cell? ⟨g, j * 3 + 1, none⟩ = some (.bool xr) ∧ wx.cell? ⟨g, j * 3 + 2, none⟩ = some (.int .i64 xn))
     (first | exact ⟨q0, q1, q2⟩ | exact HCg.out _ (hCw.out.drew) | exact HCg.out _ (hCw.out.drewN _) | exact HCg.out _ ((hCw.out.alloc _).drew) | exact HCg.out _ ((hCw.out.alloc _)) | exact HCg.out _ (hCw.out.drew.alloc _) | exact HCg.out _ ((hCw.out.alloc _).drewN _))
     (first
      | (obtain ⟨a1, cap1, L1, w3, happ, hI3⟩ := HA1.out _ ((Chg.refl _ _).drew); refine step_val rfl (exec_append rfl happ) ?_; have hCw : Hid (Chg (fun _ => False) w2 w3) := hI3.out.1; obtain ⟨q0, q1, q2⟩ := HCg.out _ hCw.out)
      | (obtain ⟨a1, cap1, L1, w3, happ, hI3⟩ := HA1.out _ ((Chg.refl _ _)); refine step_val rfl (exec_append rfl happ) ?_; have hCw : Hid (Chg (fun _ => False) w2 w3) := hI3.out.1; obtain ⟨q0, q1, q2⟩ := HCg.out _ hCw.out)
      | (go_at_call 37; refine (cell_any _ xr xn).mono ?_; rintro e w4 ⟨v4, rfl, hr4, hC4⟩; have hv4 : Hid (Row w4 3 1 v4 [bitI xr, xn].length (intCells [bitI xr, xn])) := hr4.row; have hI4 : Hid (Chg (fun _ => False) w2 w4 ∧ IRow w4 w2.heap.size (.slice a1 L1 cap1) (flatE (out.take j) ++ [xk])) := ⟨hI3.out.1.trans hC4 (fun _ _ h => h), hI3.out.2.chg0 hC4⟩; have hCw : Hid (Chg (fun _ => False) w2 w4) := hI4.out.1; obtain ⟨q0, q1, q2⟩ := HCg.out _ hCw.out; clear hr4 hC4)
      | (obtain ⟨a1, cap1, L1, w5, happ, hI5⟩ := HA2.out _ _ _ hI4.out hv4.out; refine step_val rfl (exec_append rfl happ) ?_; have hCw : Hid (Chg (fun _ => False) w2 w5) := hI5.out.1; obtain ⟨q0, q1, q2⟩ := HCg.out _ hCw.out))
    all_goals
     go_wp2
     go_roundw
     case rel => exact ⟨_, j + 1, rfl, by omega, by go_num, hI5⟩
     case measure => simp [intOf]; omega
  · obtain rfl : j = len := by omega
    have HT : Hid (flatE (out.take j) = flatE out) := by
     show flatE (out.take j) = flatE out;rw [List.take_of_length_le (by have := HLen.out; omega)]
    have hrow := HI.out.2.row;rw [HT.out] at hrow;have HN := Lib.hid (nums_any wr er hrow (by rw [flatE_len]; have := HLen.out; omega));have hCw : Hid (Chg (fun _ => False) w2 wr) := HI.out.1;clear hrow HI
    go_wp2_with fail
    refine HN.out.mono ?_; rintro e w4 ⟨v', rfl, hI4, hC4⟩;have HZ := Lib.hid (HK.out _ _ (tell_end HQ.out HS2.out (Lib.hid hQ2.out.2.2) hCw.out hI4 hC4));clear HN hI4 hC4 HK HQ hQ2 hCw;go_wp2;go_ret;exact HZ.out
structure SmT (I : IS) (j T : Nat) : Prop where
 nodes : I.nodes.length ≤ j
 hs : I.queue.length + I.hs.length + I.reg.length ≤ T
 ents : ∀ n d, I.nd n = some d → d.ents.length ≤ j
theorem SmT.more {U : Nat} (h : SmT I j T) (hj : j ≤ k) (hT : T ≤ U) : SmT I k U := ⟨by have := h.nodes; omega, by have := h.hs; omega, fun n d hd => by have := h.ents n d hd; omega⟩
theorem SmT.ample (h : SmT I j T) (hj : j ≤ 150) (hT : T ≤ 8900) (hm : m < 9000) : Ample I m := ⟨hm, by have := h.nodes; omega, by have := h.hs; omega, fun n d hd => by have := h.ents n d hd; omega⟩
theorem SmT.start (room : Int) : SmT (IS.start room) 0 0 := by
 refine ⟨by simp [IS.start], by simp [IS.start], fun n d hd => ?_⟩;unfold IS.nd IS.start at hd
 split at hd
 · simp at hd
 · cases hd
theorem SmT.grant (h : SmT I j T) (x : Int) : SmT (I.grant x) (j + 1) (T + 1) := by
 refine ⟨by have := h.nodes; show I.nodes.length ≤ _; omega, ?_, fun n d hd => by have := h.ents n d hd; omega⟩;have := h.hs;show I.queue.length + (I.hs ++ [_]).length + I.reg.length ≤ _;rw [List.length_append, List.length_singleton]; omega
theorem SmT.adds (h : SmT I j T) (n : Nat) (hd : d.ents = []) : SmT (I.adds n d).2.2 (j + 1) (T + 1) := by
 unfold IS.adds
 split
 · have h1 : (I.add d).nodes.length = I.nodes.length + 1 := by simp [IS.add]
   have h2 := h.nodes;have h3 := h.hs;refine ⟨by show (I.add d).nodes.length ≤ _; omega, ?_, fun m x hx => ?_⟩
   · show I.queue.length + (I.hs ++ [_]).length + I.reg.length ≤ _;rw [List.length_append, List.length_singleton]; omega
   · have hx' : (I.add d).nd m = some x := hx;rcases IS.nd_add_cases hx' with ⟨_, rfl⟩ | hx2
     · rw [hd]; simp
     · have := h.ents m x hx2; omega
 · exact h.more (by omega) (by omega)
theorem SmT.setEnts (h : SmT I j T) (hd : I.nd name = some d) (f : List En → List En) (hf : (f d.ents).length ≤ d.ents.length + 1) : SmT (I.setEnts name f) (j + 1) (T + 1) := by
 obtain ⟨h0, _, _⟩ := IS.nd_nat hd;refine ⟨by rw [IS.set_len]; have := h.nodes; omega, by have := h.hs; show I.queue.length + I.hs.length + I.reg.length ≤ _; omega, fun m x hx => ?_⟩;by_cases e : m = name
 · subst e;rw [IS.nd_set hd] at hx;simp only [Option.some.injEq] at hx;subst hx;have := h.ents _ _ hd;show (f d.ents).length ≤ _;omega
 · rw [IS.nd_set_ne f h0 e] at hx;have := h.ents m x hx;omega
theorem SmT.setFld (h : SmT I j T) (hd : I.nd name = some d) (i : Nat) (x : Wd) : SmT (I.setFld name i x) (j + 1) (T + 1) := by
 refine ⟨by rw [IS.fld_len]; have := h.nodes; omega, by have := h.hs; show I.queue.length + I.hs.length + I.reg.length ≤ _; omega, fun m y hy => ?_⟩;rcases IS.nd_fld_cases hd hy with ⟨_, rfl⟩ | ⟨_, hy'⟩
 · have := h.ents _ _ hd;show d.ents.length ≤ _;omega
 · have := h.ents m y hy'; omega
theorem SmT.major (h : SmT I j T) : SmT I.majored j T := by
 refine ⟨by have := h.nodes; simpa [IS.majored] using this, ?_, fun n d hd => ?_⟩
 · have h1 : (I.reg.filter fun n => !dec (IReach I I.roots n)).length + (I.reg.filter fun n => dec (IReach I I.roots n)).length = I.reg.length := by
    rw [Nat.add_comm]; exact filter_both _ _
   have h2 := h.hs;show (I.queue ++ I.reg.filter fun n => !dec (IReach I I.roots n)).length + I.hs.length + (I.reg.filter fun n => dec (IReach I I.roots n)).length ≤ T;rw [List.length_append]; omega
 · obtain ⟨d0, h0, rfl⟩ := IS.nd_majored_some hd;exact h.ents n d0 h0
theorem SmT.put (h : SmT I j T) (t key : Int) (c : Wd) : SmT (I.put t key c).2 (j + 1) (T + 1) := by
 have h1 := h.more (Nat.le_succ j) (Nat.le_succ T);unfold IS.put
 split
 · exact h1
 · split
   · exact h1
   · split
     · split
       · exact h1
       · rename_i d hd
         split
         · split
           · exact h.setEnts hd (fun l => l.map fun x => if KeyIs _ x then ⟨x.key, I.wordC c⟩ else x) (by rw [List.length_map]; omega)
           · split
             · dsimp only;exact h.setEnts hd _ (by rw [List.length_append]; simp)
             · exact h1
         · exact h1
     · exact h1
theorem SmT.tell (h : SmT I j T) (q : Nat) (a b : Int) (cs : List Wd) : SmT (I.tell q a b cs).2 (j + 1) (T + 1) := by
 have h1 := h.more (Nat.le_succ j) (Nat.le_succ T);unfold IS.tell
 split
 · show SmT (I.make a cs).2.2 (j + 1) (T + 1);unfold IS.make
   split
   · split
     · exact h1
     · exact h.adds _ rfl
   · exact h1
 · exact h.adds _ rfl
 · show SmT (I.get a b).2.2 (j + 1) (T + 1);unfold IS.get
   split
   · exact h1
   · split
     · exact h1
     · split
       · exact h1
       · split
         · exact h1
         · split
           · exact h1
           · split
             · exact h.grant _
             · exact h1
 · show SmT (I.set a b (opCell b cs)).2 (j + 1) (T + 1);unfold IS.set
   split
   · exact h1
   · split
     · split
       · exact h1
       · rename_i hd
         split
         · exact h1
         · split
           · exact h1
           · exact h.setFld hd _ _
     · exact h1
 · exact h.put a b _
 · show SmT (I.find a b).2.2.2 (j + 1) (T + 1);unfold IS.find
   split
   · exact h1
   · split
     · exact h1
     · split
       · exact h.grant _
       · exact h1
 · show SmT (I.remove a b).2.2 (j + 1) (T + 1);unfold IS.remove
   split
   · exact h1
   · rename_i ht
     split
     · exact h1
     · exact h.setEnts (IS.tab_nd ht) _ (Nat.le_trans (List.length_filter_le _ _) (Nat.le_succ _))
 · exact h1
 · exact h1
 · show SmT (I.dup a).2.2 (j + 1) (T + 1);unfold IS.dup
   split
   · exact h1
   · exact h.grant _
 · show SmT (I.drop a).2 (j + 1) (T + 1);unfold IS.drop
   split
   · exact h1
   · refine ⟨by have := h.nodes; show I.nodes.length ≤ _; omega, ?_, fun n d hd => by have := h.ents n d hd; omega⟩;have h2 := h.hs;have h3 : (delH I.hs a).length ≤ I.hs.length := List.length_filter_le _ _;show I.queue.length + (delH I.hs a).length + I.reg.length ≤ _;omega
 · show SmT (I.fin a).2.2 (j + 1) (T + 1);unfold IS.fin
   split
   · exact h1
   · split
     · exact h1
     · refine ⟨by have := h.nodes; show I.nodes.length ≤ _; omega, ?_, fun n d hd => by have := h.ents n d hd; omega⟩;have h2 := h.hs;show I.queue.length + I.hs.length + (I.reg ++ [_]).length ≤ _;rw [List.length_append, List.length_singleton]; omega
 · exact h1
 · exact h1
theorem SmT.next (h : SmT I j T) : SmT I.next.2.2.2 (j + 1) (T + 1) := by
 have h1 := h.more (Nat.le_succ j) (Nat.le_succ T);unfold IS.next
 split
 · exact h1
 · rename_i n l hq
   refine ⟨by have := h.nodes; show I.nodes.length ≤ _; omega, ?_, fun n d hd => by have := h.ents n d hd; omega⟩;have h2 := h.hs;rw [hq] at h2;show l.length + (I.hs ++ [_]).length + I.reg.length ≤ _;simp only [List.length_cons] at h2;rw [List.length_append, List.length_singleton]; omega
theorem HP.stepX {w1 : World} {m' : Nat} (h : HP w hb L I m) (hC : Chg (fun _ => False) w w1) {f : FuncId} {args : Array Value} {R : Ending → IS → World → Prop} 
 (hcall : ∀ L', HP w1 hb L' I m → Calls Tryz.prog f args w1 fun e w2 => ∃ J, R e J w2 ∧ Hid (Got w1 hb L' J m' w2)) : Calls Tryz.prog f args w1 fun e w2 => ∃ J, R e J w2 ∧ Keep w.heap.size w1 w2 ∧ Hid (Got w hb L J m' w2) := by
 refine (hcall _ (h.allNew (hC.mono fun _ _ h => h.elim))).mono ?_;rintro e w2 ⟨J, he, hG⟩;exact ⟨J, he, ⟨hG.out.chg.size, fun b h1 h2 => hG.out.chg.block b h2 fun hn => hn (List.mem_append_right _ (List.mem_filter.2 ⟨List.mem_range.2 h2, decide_eq_true h1⟩))⟩, Lib.hid ⟨hG.out.hp.sub fun b hb => List.mem_append_left _ hb, (hC.mono fun _ _ h => h.elim).trans hG.out.chg fun b hb hn hl => hn (List.mem_append_left _ hl)⟩⟩
def HO (w : World) (hb : Nat) (L : List Nat) (I : IS) (m : Nat) (ao : Prop) : Prop := ∃ g A, Rep w g A ∧ HS A I m ∧ g.hb = hb ∧ (∀ b ∈ L, b < w.heap.size ∧ g.own b = none) ∧ (ao → AllOld A)
theorem HP.ho (h : HP w hb L I m) : HO w hb L I m False := by
 obtain ⟨g, A, h1, h2, h3, h4⟩ := h;exact ⟨g, A, h1, h2, h3, h4, fun h => h.elim⟩
def IS.hands (I : IS) : List Int := sortI (I.hs.map (·.1))
theorem HO.handles {ao : Prop} (h : HO w hb L I m ao) (hl : I.hs.length ≤ 9000) :
 Calls Tryz.prog 22 #[.pointer (some ⟨hb, 0, none⟩)] w fun e w' => ∃ v, e = .returned v ∧ Row w' 3 1 v I.hands.length (intCells I.hands) ∧ Chg (fun _ => False) w w' ∧ (∀ b, rowBlk v = some b → w.heap.size ≤ b) := by
 obtain ⟨g, A, h1, h2, rfl, h4, h5⟩ := h;have e : A.hands = I.hands := by unfold St.hands IS.hands; rw [h2.sim.hs]
 rw [← e];exact handles_any h1 (by rw [h2.sim.hs]; omega)
theorem uBools : Tryz.prog.underlying 48 = some (.slice 4) := by kernel_rfl
theorem iBool : (Tryz.prog.info? 4).map (fun i => (i.zero, i.size, i.bytes)) = some (some (.bool false), 1, 1) := by kernel_rfl
structure GN where
 table : Bool
 tag : Int
 size : Nat
 gone : Bool
structure GL where
 frm : Int
 slot : Int
 key : Int
 ref : Bool
 num : Int
structure GS where
 room : Int
 nodes : List GN
 links : List GL
 roots : List (Int × Int)
 wanted : List Int
 queue : List Int
def GN.cells (x : GN) : List Value := [.bool x.table, .int .i64 x.tag, .int .i64 x.size, .bool x.gone]
def GL.cells (x : GL) : List Value := [.int .i64 x.frm, .int .i64 x.slot, .int .i64 x.key, .bool x.ref, .int .i64 x.num]
def rtCells (x : Int × Int) : List Value := [.int .i64 x.1, .int .i64 x.2]
def gnCells (l : List GN) : List Value := l.flatMap GN.cells
def glCells (l : List GL) : List Value := l.flatMap GL.cells
def rtsCells (l : List (Int × Int)) : List Value := l.flatMap rtCells
theorem flat_get {α : Type} {f : α → List Value} {k : Nat} (hf : ∀ x, (f x).length = k) : ∀ (l : List α) (i : Nat) (j : Nat) (x : α), l[i]? = some x → j < k → (l.flatMap f)[i * k + j]? = (f x)[j]?
 | [], i, j, x, h, _ => by simp at h
 | y :: l, 0, j, x, h, hj => by
   simp only [List.getElem?_cons_zero, Option.some.injEq] at h;subst h;rw [List.flatMap_cons, Nat.zero_mul, Nat.zero_add, List.getElem?_append_left (by rw [hf]; exact hj)]
 | y :: l, i + 1, j, x, h, hj => by
   rw [List.getElem?_cons_succ] at h;rw [List.flatMap_cons, List.getElem?_append_right (by rw [hf, Nat.add_mul]; omega), hf, show (i + 1) * k + j - k = i * k + j by rw [Nat.add_mul]; omega];exact flat_get hf l i j x h hj
theorem flat_len {α : Type} {f : α → List Value} {k : Nat} (hf : ∀ x, (f x).length = k) : ∀ (l : List α), (l.flatMap f).length = l.length * k
 | [] => by simp
 | y :: l => by rw [List.flatMap_cons, List.length_append, hf, flat_len hf l, List.length_cons, Nat.add_mul]; omega
def QRow (w : World) (v : Value) (l : List Int) : Prop :=
 l.length ≤ maxLen ∧ ((l = [] ∧ ∃ a, v = .slice a 0 0) ∨
  ∃ b off cap cur, v = .slice (some ⟨b, off, none⟩) l.length (cap + 1) ∧ w.heap[b]? = some (.cells cur 3 (0, 0)) ∧ l.length ≤ cap + 1 ∧ off + (cap + 1) ≤ cur.size ∧ cap + 1 ≤ maxLen ∧ (cur.toList.drop off).take l.length = intCells l)
theorem QRow.same (h : QRow w v l) (hw : ∀ g, rowBlk v = some g → w'.heap[g]? = w.heap[g]?) : QRow w' v l := by
 obtain ⟨h1, h2 | ⟨b, off, cap, cur, rfl, h3, h4⟩⟩ := h
 · exact ⟨h1, .inl h2⟩
 · exact ⟨h1, .inr ⟨b, off, cap, cur, rfl, by rw [hw b rfl]; exact h3, h4⟩⟩
theorem QRow.nil (w : World) : QRow w (.slice none 0 0) [] := ⟨by simp, .inl ⟨rfl, none, rfl⟩⟩
theorem QRow.lt (h : QRow w v l) (hb : rowBlk v = some b) : b < w.heap.size := by
 obtain ⟨_, ⟨_, a, rfl⟩ | ⟨b', off, cap, cur, rfl, h3, _⟩⟩ := h
 · cases a <;> simp [rowBlk] at hb
 · simp only [rowBlk, Option.some.injEq] at hb;subst hb;exact lt_of_block h3
theorem QRow.slice (h : QRow w v l) : ∃ a c, v = .slice a l.length c ∧ l.length ≤ c ∧ c ≤ maxLen := by
 obtain ⟨h1, ⟨rfl, a, rfl⟩ | ⟨b', off, cap, cur, rfl, h3, h4, _, h5, _⟩⟩ := h
 · exact ⟨a, 0, rfl, by simp, by simp⟩
 · exact ⟨_, _, rfl, h4, h5⟩
theorem QRow.cell (h : QRow w (.slice a l.length c) l) {i : Nat} (hi : i < l.length) : ∃ b off, a = some ⟨b, off, none⟩ ∧ w.cell? ⟨b, off + i, none⟩ = some (.int .i64 (l.getD i 0)) := by
 obtain ⟨h1, ⟨rfl, a, _⟩ | ⟨b', off, cap, cur, h2, h3, h4, h5, h6, h7⟩⟩ := h
 · simp at hi
 · simp only [Value.slice.injEq] at h2;obtain ⟨rfl, _, rfl⟩ := h2;refine ⟨b', off, rfl, ?_⟩;rw [cellAt h3];have h8 := congrArg (fun l => l[i]?) h7;simp only [List.getElem?_take_of_lt hi, List.getElem?_drop, Array.getElem?_toList] at h8;rw [h8];simp [intCells, List.getElem?_eq_getElem hi, List.getD_eq_getElem?_getD]
theorem Row.q (h : Row w 3 1 v l.length (intCells l)) : QRow w v l := by
 obtain ⟨h1, h2, ⟨h3, a, rfl⟩ | ⟨g, cap, cur, rfl, h4, h5, h6, h7, h8⟩⟩ := h
 · exact ⟨h2, .inl ⟨List.eq_nil_of_length_eq_zero h3, a, rfl⟩⟩
 · exact ⟨h2, .inr ⟨g, 0, cap, cur, rfl, h4, h5, by omega, h6, by simpa using h8⟩⟩
structure GR (w : World) (pb hb : Nat) (Lg : List Nat) (lab : Nat → Nat) (v : Nat → Value) (G : GS) : Prop where
 at_ : w.heap[pb]? = some (.cells #[.pointer (some ⟨hb, 0, none⟩), .int .i64 G.room, v 0, v 1, v 2, v 3, v 4] 97 (0, 0))
 lgs : ∀ b ∈ Lg, b < w.heap.size
 pin : pb ∈ Lg
 plab : lab pb = 5
 r0 : Row w 140 4 (v 0) G.nodes.length (gnCells G.nodes)
 r1 : Row w 144 5 (v 1) G.links.length (glCells G.links)
 r2 : Row w 170 2 (v 2) G.roots.length (rtsCells G.roots)
 r3 : Row w 3 1 (v 3) G.wanted.length (intCells G.wanted)
 r4 : QRow w (v 4) G.queue
 vlab : ∀ k b, k < 5 → rowBlk (v k) = some b → lab b = k ∧ b ∈ Lg
def GRep (w : World) (pb hb : Nat) (Lg : List Nat) (G : GS) : Prop := ∃ lab v, GR w pb hb Lg lab v G
theorem GR.lt {v : Nat → Value} {G : GS} (h : GR w pb hb Lg lab v G) (hk : k < 5) (hb : rowBlk (v k) = some b) : b < w.heap.size := by
 match k, hk with
 | 0, _ => exact h.r0.lt hb
 | 1, _ => exact h.r1.lt hb
 | 2, _ => exact h.r2.lt hb
 | 3, _ => exact h.r3.lt hb
 | 4, _ => exact h.r4.lt hb
theorem GR.frame {v : Nat → Value} {G : GS} (h : GR w pb hb Lg lab v G) {F : Nat → Prop} (hC : Chg F w w') (hF : ∀ b ∈ Lg, ¬ F b) : GR w' pb hb Lg lab v G :=
 { at_ := hC.at h.at_ (hF _ h.pin)
   lgs := fun b hb => Nat.lt_of_lt_of_le (h.lgs b hb) hC.size
   pin := h.pin
   plab := h.plab
   r0 := h.r0.same fun b hb => hC.block b (h.r0.lt hb) (hF b (h.vlab 0 b (by omega) hb).2)
   r1 := h.r1.same fun b hb => hC.block b (h.r1.lt hb) (hF b (h.vlab 1 b (by omega) hb).2)
   r2 := h.r2.same fun b hb => hC.block b (h.r2.lt hb) (hF b (h.vlab 2 b (by omega) hb).2)
   r3 := h.r3.same fun b hb => hC.block b (h.r3.lt hb) (hF b (h.vlab 3 b (by omega) hb).2)
   r4 := h.r4.same fun b hb => hC.block b (h.r4.lt hb) (hF b (h.vlab 4 b (by omega) hb).2)
   vlab := h.vlab }
theorem GRep.frame {G : GS} (h : GRep w pb hb Lg G) {F : Nat → Prop} (hC : Chg F w w') (hF : ∀ b ∈ Lg, ¬ F b) : GRep w' pb hb Lg G := by
 obtain ⟨lab, v, h⟩ := h;exact ⟨lab, v, h.frame hC hF⟩
theorem GRep.lgs {G : GS} (h : GRep w pb hb Lg G) : ∀ b ∈ Lg, b < w.heap.size := by
 obtain ⟨lab, v, h⟩ := h;exact h.lgs
theorem GRep.still {G : GS} (h : GRep w pb hb Lg G) (hC : Chg (fun _ => False) w w') : GRep w' pb hb Lg G := h.frame hC fun _ _ h => h
theorem GRep.more {Lg' : List Nat} {G : GS} (h : GRep w pb hb Lg G) (hs : ∀ b ∈ Lg, b ∈ Lg') (hl : ∀ b ∈ Lg', b < w.heap.size) : GRep w pb hb Lg' G := by
 obtain ⟨lab, v, h⟩ := h;exact ⟨lab, v, { h with lgs := hl, pin := hs _ h.pin, vlab := fun k b hk hb => ⟨(h.vlab k b hk hb).1, hs _ (h.vlab k b hk hb).2⟩ }⟩
structure GGot (w : World) (pb hb : Nat) (Lg : List Nat) (G : GS) (w' : World) : Prop where
 rep : GRep w' pb hb (Lg ++ since w w') G
 chg : Chg (fun b => b ∈ Lg) w w'
theorem GRep.same {G : GS} (h : GRep w pb hb Lg G) (hC : Chg (fun _ => False) w w') : GGot w pb hb Lg G w' := ⟨(h.still hC).more (fun _ hb => List.mem_append_left _ hb) (fun b hb => (List.mem_append.1 hb).elim (fun hb => Nat.lt_of_lt_of_le (h.lgs b hb) hC.size) fun hb => (mem_since.1 hb).2), hC.mono fun _ _ h => h.elim⟩
theorem since_trans (h1 : w.heap.size ≤ w'.heap.size) (h2 : w'.heap.size ≤ w''.heap.size) : ∀ b ∈ (L ++ since w w') ++ since w' w'', b ∈ L ++ since w w'' := by
 intro b hb;rcases List.mem_append.1 hb with hb | hb
 · rcases List.mem_append.1 hb with hb | hb
   · exact List.mem_append_left _ hb
   · have := mem_since.1 hb;exact List.mem_append_right _ (mem_since.2 ⟨this.1, by omega⟩)
 · have := mem_since.1 hb;exact List.mem_append_right _ (mem_since.2 ⟨by omega, this.2⟩)
theorem GGot.trans {G G' : GS} (h : GGot w pb hb Lg G w') (k : GGot w' pb hb (Lg ++ since w w') G' w'') : GGot w pb hb Lg G' w'' :=
 ⟨k.rep.more (since_trans h.chg.size k.chg.size) (fun b hb => (List.mem_append.1 hb).elim (fun hb => k.rep.lgs b (List.mem_append_left _ (List.mem_append_left _ hb))) fun hb => (mem_since.1 hb).2), h.chg.trans k.chg fun b hb hn => by
  rcases List.mem_append.1 hn with hn | hn
  · exact hn
  · have := (mem_since.1 hn).1; omega⟩
theorem GR.set {v : Nat → Value} {G G' : GS} (h : GR w pb hb Lg lab v G) (k : Nat) (hk : k < 5) {v1 : Value} 
 (hC : Chg (fun b => rowBlk (v k) = some b ∨ b = pb) w w') (hroom : G'.room = G.room)
 (hat : w'.heap[pb]? = some (.cells #[.pointer (some ⟨hb, 0, none⟩), .int .i64 G.room, if 0 = k then v1 else v 0, if 1 = k then v1 else v 1, if 2 = k then v1 else v 2, if 3 = k then v1 else v 3, if 4 = k then v1 else v 4] 97 (0, 0)))
 (hloc : ∀ b, rowBlk v1 = some b → b < w'.heap.size ∧ (rowBlk (v k) = some b ∨ w.heap.size ≤ b))
 (r0 : if 0 = k then Row w' 140 4 v1 G'.nodes.length (gnCells G'.nodes) else G'.nodes = G.nodes)
 (r1 : if 1 = k then Row w' 144 5 v1 G'.links.length (glCells G'.links) else G'.links = G.links)
 (r2 : if 2 = k then Row w' 170 2 v1 G'.roots.length (rtsCells G'.roots) else G'.roots = G.roots)
 (r3 : if 3 = k then Row w' 3 1 v1 G'.wanted.length (intCells G'.wanted) else G'.wanted = G.wanted)
 (r4 : if 4 = k then QRow w' v1 G'.queue else G'.queue = G.queue) : GGot w pb hb Lg G' w' := by
 have hne : ∀ j b, j < 5 → j ≠ k → rowBlk (v j) = some b → ¬ (rowBlk (v k) = some b ∨ b = pb) := fun j b hj hjk hb hn => by
  have h1 := (h.vlab j b hj hb).1;rcases hn with hn | rfl
  · have := (h.vlab k b hk hn).1; omega
  · have := h.plab; omega
 refine ⟨⟨fun b => if b < w.heap.size then lab b else k, fun j => if j = k then v1 else v j, ?_⟩, hC.mono fun b _ hb => hb.elim (fun hb => (h.vlab k b hk hb).2) (fun e => e ▸ h.pin)⟩;have hpb := lt_of_block h.at_;refine ⟨by rw [hroom]; exact hat, fun b hb => (List.mem_append.1 hb).elim (fun hb => Nat.lt_of_lt_of_le (h.lgs b hb) hC.size) fun hb => (mem_since.1 hb).2, List.mem_append_left _ h.pin, by simp only [if_pos hpb]; exact h.plab, ?_, ?_, ?_, ?_, ?_, ?_⟩
 · by_cases e : 0 = k
   · simp only [if_pos e] at r0 ⊢; exact r0
   · simp only [if_neg e] at r0 ⊢;rw [r0]; exact h.r0.same fun b hb => hC.block b (h.r0.lt hb) (hne 0 b (by omega) e hb)
 · by_cases e : 1 = k
   · simp only [if_pos e] at r1 ⊢; exact r1
   · simp only [if_neg e] at r1 ⊢;rw [r1]; exact h.r1.same fun b hb => hC.block b (h.r1.lt hb) (hne 1 b (by omega) e hb)
 · by_cases e : 2 = k
   · simp only [if_pos e] at r2 ⊢; exact r2
   · simp only [if_neg e] at r2 ⊢;rw [r2]; exact h.r2.same fun b hb => hC.block b (h.r2.lt hb) (hne 2 b (by omega) e hb)
 · by_cases e : 3 = k
   · simp only [if_pos e] at r3 ⊢; exact r3
   · simp only [if_neg e] at r3 ⊢;rw [r3]; exact h.r3.same fun b hb => hC.block b (h.r3.lt hb) (hne 3 b (by omega) e hb)
 · by_cases e : 4 = k
   · simp only [if_pos e] at r4 ⊢; exact r4
   · simp only [if_neg e] at r4 ⊢;rw [r4]; exact h.r4.same fun b hb => hC.block b (h.r4.lt hb) (hne 4 b (by omega) e hb)
 · intro j b hj hb;by_cases e : j = k
   · simp only [if_pos e] at hb;obtain ⟨h1, h2 | h2⟩ := hloc b hb
     · have h3 := h.vlab k b hk h2;have h4 := h.lt hk h2;simp only [if_pos h4];exact ⟨by rw [h3.1, e], List.mem_append_left _ h3.2⟩
     · rw [if_neg (by omega)];exact ⟨e.symm, List.mem_append_right _ (mem_since.2 ⟨h2, h1⟩)⟩
   · simp only [if_neg e] at hb;have h3 := h.vlab j b hj hb;simp only [if_pos (h.lt hj hb)];exact ⟨h3.1, List.mem_append_left _ h3.2⟩
end Go.Proofs.YtelghmmcbgfjnaaGreat
