/-
  tell of any kind, exactly; Do of any kind; agrees. (A part of the proof, joined of: So, Sp, Sq, Sr; made smaller.)
-/
import Derived.Test.YtelghmmcbgfjnaaGreatH29
set_option maxHeartbeats 16000000
set_option maxRecDepth 100000
namespace Go.Proofs.YtelghmmcbgfjnaaGreat
variable {G : GS} {I I' Ig Ih : IS} {L Lg : List Nat} {T b6 hb j lk lk' m n pb q : Nat} {W W' w w' w0 wb wx : World} {cs : List Wd} {l : List Int} {o op : OpV} {v : Value} {x : Option Addr}
open Go.RowKit
def CountOk (I : IS) (a : Int) (c er : Int) : Prop := match I.bounds a with
 | .inl e => c = 0 ∧ er = e
 | .inr (lo, hi) => er = 0 ∧ (lo : Int) ≤ c ∧ c ≤ (hi : Int)
theorem HP.countIs (h : HP w hb L I m) (t : Int) :
 Calls Tryz.prog 31 #[.pointer (some ⟨hb, 0, none⟩), .int .i64 t] w fun e w' => ∃ c er, e = .returned (.tuple #[.int .i64 c, .int .i64 er]) ∧ CountOk I t c er ∧ Hid (Got w hb L I m w') := by
 have h0 := h;obtain ⟨g, A, h1, h2, rfl, h4⟩ := h;refine (count_any h1 h2.good.wf t).mono ?_;rintro e w' ⟨c, er, rfl, hS, rfl⟩;refine ⟨c, er, rfl, ?_, Lib.hid h0.same⟩;unfold CountOk IS.bounds;cases hS with
 | none hl => rw [← h2.sim.hs, hl]; exact ⟨rfl, rfl⟩
 | kind hl ho ht =>
   obtain ⟨d, g1, g2, _⟩ := h2.sim.obj _ _ ho;have htd : d.table = false := by rw [← g2]; exact ht
   rw [← h2.sim.hs, hl]; simp only [g1, htd, Bool.false_eq_true, if_false, and_self]
 | ok hl ho ht =>
   obtain ⟨d, g1, g2, _, _, g5, _⟩ := h2.sim.obj _ _ ho;have htd : d.table = true := by rw [← g2]; exact ht
   rw [← h2.sim.hs, hl]; simp only [g1, htd, if_true, true_and];rw [g5];have e1 := filter_length_le (l := d.ents) (p := fun e => I.live e.key) (q := fun e => (A.objs.lookup e.key).isSome) fun x _ hx => h2.sim.keep _ (IS.live_iff.1 hx);have e2 := filter_length_le (l := d.ents) (p := fun e => (A.objs.lookup e.key).isSome) (q := fun e => I.here e.key) fun x _ hx => h2.sim.here hx;exact ⟨by omega, by omega⟩
theorem IS.did_shown (hS : Shown q) (a b : Int) (cs : List Wd) : I.did q a b cs = I.tell q a b cs := by
 unfold Shown at hS;unfold IS.did
 split
 · omega
 · omega
 · omega
 · omega
 · rfl
theorem HP.tellsDid (h : HP w hb L I m) (hS : SmT I j T) (hj : j ≤ 100) (hT : T ≤ 6500) (hm : m < 8000) (k a b : Int) (c : Nat) (hcs : CellsAt w x n cs) (hn : n ≤ 8796093021952) (hq : k % 18 = q) (h7 : q ≠ 7) (h8 : q = 8 → I.sure a = true) :
 Tells w (.pointer (some ⟨hb, 0, none⟩)) k a b x n c (TellQ w hb L (I.did q a b cs) (m + 1)) := by
 have ha : Ample I m := hS.ample (by omega) (by omega) (by omega);by_cases hSh : Shown q
 · rw [IS.did_shown hSh];exact h.tells ha k a b c hcs hn hq hSh
 · have hk : q = 8 ∨ q = 14 ∨ q = 15 ∨ q = 16 := by
    have : q < 18 := by omega
    unfold Shown at hSh;omega
   have hok := tellQ_ok w hb L (I.did q a b cs) (m + 1);rcases hk with rfl | rfl | rfl | rfl
   · refine tell_Entries hq hok fun w1 hC => ?_;refine (h.stepX hC (m' := m) (R := fun e J w2 => J = (I.listOf a).2 ∧ ∃ v er out, e = .returned (.tuple #[v, .int .i64 er]) ∧ Hid (Row w2 84 3 v out.length (enCells out) ∧ out.length ≤ 1000) ∧ flatE out ++ [er] = (I.listOf a).1) fun L' h1 => (h1.entriesIs a (h8 rfl) (by have := hS.hs; omega) fun n d hd => by have := hS.ents n d hd; omega).mono ?_).mono ?_
     · rintro e w2 ⟨v, er, out, rfl, hG, hR, hF⟩;exact ⟨_, ⟨rfl, v, er, out, rfl, hR, hF⟩, hG⟩
     · rintro e w2 ⟨J, ⟨rfl, v, er, out, rfl, hR, hF⟩, hK, hG⟩;exact ⟨v, er, out, rfl, hK, Lib.hid ⟨hR.out.1, hR.out.2, hF, hG.out.hp.more (Nat.le_succ m), hG.out.chg⟩⟩
   · refine tell_Next hq hok fun w1 hC => ?_;refine (h.step hC fun L' h1 => h1.next ha).mono ?_;rintro e w2 ⟨rfl, hK, hG⟩;exact ⟨_, _, _, rfl, hK, Lib.hid ⟨rfl, hG.out⟩⟩
   · refine tell_Minor hq hok fun w1 hC => ?_;refine (h.step hC fun L' h1 => h1.minor (by omega)).mono ?_;rintro e w2 ⟨rfl, hK, hG⟩;exact ⟨rfl, hK, Lib.hid ⟨rfl, hG.out⟩⟩
   · refine tell_Major hq hok fun w1 hC => ?_;refine (h.step hC fun L' h1 => h1.major).mono ?_;rintro e w2 ⟨rfl, hK, hG⟩;exact ⟨rfl, hK, Lib.hid ⟨rfl, hG.out⟩⟩
def CntQ (w : World) (hb : Nat) (L : List Nat) (I : IS) (a : Int) (m : Nat) (l : List Int) (w' : World) : Prop := (∃ c er, l = [c, er] ∧ CountOk I a c er) ∧ Got w hb L I m w'
theorem HP.tellsCount (h : HP w hb L I m) (k a b : Int) (c : Nat) (hq : k % 18 = 7) :
 Tells w (.pointer (some ⟨hb, 0, none⟩)) k a b x n c (CntQ w hb L I a (m + 1)) := by
 refine tell_Count hq (fun _ _ _ h hC => ⟨h.1, h.2.still hC⟩) fun w1 hC => ?_;refine (h.stepX hC (m' := m) (R := fun e J _ => J = I ∧ ∃ c er, e = .returned (.tuple #[.int .i64 c, .int .i64 er]) ∧ CountOk I a c er) fun L' h1 => (h1.countIs a).mono ?_).mono ?_
 · rintro e w2 ⟨c, er, rfl, hO, hG⟩;exact ⟨I, ⟨rfl, c, er, rfl, hO⟩, hG⟩
 · rintro e w2 ⟨J, ⟨rfl, c, er, rfl, hO⟩, hK, hG⟩;exact ⟨c, er, rfl, hK, Lib.hid ⟨⟨c, er, rfl, hO⟩, hG.out.hp.more (Nat.le_succ m), hG.out.chg⟩⟩
theorem do_any (hR : GRep w pb hb Lg G) (hS : GSim G I) (hO : IOk I) (hT : SmT I j T) (hj : j ≤ 100) (hTT : T ≤ 6500) (hlk : G.links.length ≤ 100000)
 (k a b : Int) (c : Nat) (hcs : CellsAt w x n cs) (hn : n ≤ 1000000) (hq : k % 18 = q) (h7 : q ≠ 7) :
 Calls Tryz.prog 51 #[.pointer (some ⟨pb, 1, none⟩), .agg #[.int .i64 k, .int .i64 a, .int .i64 b, .slice x n c]] w fun e w' => ∃ u, e = .returned u ∧ DoW w pb hb Lg G (I.did q a b cs).2 (I.did q a b cs).1 u w' := by
 have hhs := hT.hs;have hnd := hT.nodes;have hG : GOk G := hS.gok hO ⟨by omega, by omega, by omega, by omega, by omega⟩;have hroots : G.roots.length ≤ 6500 := by rw [hS.roots]; omega
 have hnodes : G.nodes.length ≤ 100 := by rw [hS.nodes, List.length_map]; omega
 have hsz : ∀ y ∈ G.nodes, y.size ≤ 1000 := fun y hy => by
  rw [hS.nodes] at hy;obtain ⟨d, hd, rfl⟩ := List.mem_map.1 hy;obtain ⟨i, hi, rfl⟩ := List.getElem_of_mem hd;have : I.nd (i : Int) = some I.nodes[i] := by
   unfold IS.nd;rw [if_pos (by omega), Int.toNat_natCast, List.getElem?_eq_getElem hi]
  have := hO.sh.len _ _ this;show I.nodes[i].flds.length ≤ 1000;omega
 have hents : ∀ n d, I.nd n = some d → d.ents.length ≤ 150 := fun n d hd => by have := hT.ents n d hd; omega
 have hrq : ∀ {l : List Int} {J : IS} {f : FuncId} {args : Array Value} {W : World}, (Calls Tryz.prog f args W fun e w' => ∃ u, e = .returned u ∧ DoQ W pb hb Lg G J l u w') → (Calls Tryz.prog f args W fun e w' => ∃ u, e = .returned u ∧ DoW W pb hb Lg G J l u w') := fun h => h.mono fun e w' ⟨u, h1, h2⟩ => ⟨u, h1, h2.w⟩;have hlt : q < 18 := by omega
 match q, hq, h7, hlt with
 | 0, hq, _, _ => exact do_call hR hq (by simp [doRows]) fun W hC => hrq (made_g (hR.still hC) hS hO hG (by omega) (by omega) (by omega) hsz k a b c (hcs.chg0 hC) hn)
 | 1, hq, _, _ =>
   refine do_call hR hq (f := 92) (args := #[.pointer (some ⟨pb, 1, none⟩), .agg #[.bool true, .int .i64 0, .int .i64 0, .bool false], .slice none 0 0]) (by simp [doRows]) fun W hC => ?_;have h := added_g (hR.still hC) hS hO hG (by omega) (by omega) (by omega) hsz (d := ⟨true, 0, [], [], false⟩) rfl rfl (fun m hm => by simp [refsW] at hm) (by simp) rfl (va := none) (vc := 0) (fun b hb => by simp [rowBlk] at hb) (fun h => by simp at h);refine h.mono ?_;rintro e w' ⟨u, rfl, hTo, G', hR', hC', hSim', hlen'⟩;refine ⟨u, rfl, DoQ.w ⟨hTo, G', ⟨hR', hC'.mono fun b _ h => h.elim id fun h => by simp [rowBlk] at h⟩, hSim', hlen'⟩⟩
 | 2, hq, _, _ => exact do_call hR hq (by simp [doRows]) fun W hC => hrq (got_g (hR.still hC) hS hO (by omega) (by omega) k a b x n c)
 | 3, hq, _, _ => exact do_call hR hq (by simp [doRows]) fun W hC => hrq (changed_g (hR.still hC) hS hO (by omega) k a b c (hcs.chg0 hC))
 | 4, hq, _, _ => exact do_call hR hq (by simp [doRows]) fun W hC => hrq (entered_g (hR.still hC) hS hO hG hsz hents k a b c (hcs.chg0 hC))
 | 5, hq, _, _ => exact do_call hR hq (by simp [doRows]) fun W hC => hrq (found_g (hR.still hC) hS hO (by omega) (by omega) k a b x n c)
 | 6, hq, _, _ => exact do_call hR hq (by simp [doRows]) fun W hC => hrq (removed_g (hR.still hC) hS hO (by omega) k a b x n c)
 | 7, _, h7, _ => exact absurd rfl h7
 | 8, hq, _, _ => exact do_call hR hq (by simp [doRows]) fun W hC => listed_g (hR.still hC) hS hO hG (by omega) (fun n d hd => by have := hents n d hd; omega) k a b x n c
 | 9, hq, _, _ => exact do_call hR hq (by simp [doRows]) fun W hC => hrq (handles_isTable (hR.still hC) hS hO k a b x n c hq)
 | 10, hq, _, _ => exact do_call hR hq (by simp [doRows]) fun W hC => hrq (handles_same (hR.still hC) hS hO k a b x n c hq)
 | 11, hq, _, _ => exact do_call hR hq (by simp [doRows]) fun W hC => hrq (handles_dup (hR.still hC) hS hO (by omega) k a b x n c hq)
 | 12, hq, _, _ => exact do_call hR hq (by simp [doRows]) fun W hC => hrq (handles_drop (hR.still hC) hS hO (by omega) k a b x n c hq)
 | 13, hq, _, _ => exact do_call hR hq (by simp [doRows]) fun W hC => hrq (last_fin (hR.still hC) hS hO (by rw [hS.wanted]; omega) k a b x n c hq)
 | 14, hq, _, _ => exact do_call hR hq (by simp [doRows]) fun W hC => hrq (last_next (hR.still hC) hS hO (by omega) k a b x n c hq)
 | 15, hq, _, _ => exact do_15 hR hq hS
 | 16, hq, _, _ => exact do_16 hR hq fun W hC => collect_g (hR.still hC) hS hO hG (by omega)
 | 17, hq, _, _ => exact do_call hR hq (by simp [doRows]) fun W hC => hrq (handles_tag (hR.still hC) hS hO k a b x n c hq)
 | q + 18, _, _, h => exact absurd h (by omega)
theorem do_count (hR : GRep w pb hb Lg G) (hS : GSim G I) (hO : IOk I) (hT : SmT I j T) (hj : j ≤ 100) (hTT : T ≤ 6500) (hlk : G.links.length ≤ 100000)
 (k a b : Int) (x : Option Addr) (n c : Nat) (hq : k % 18 = 7) :
 Calls Tryz.prog 51 #[.pointer (some ⟨pb, 1, none⟩), .agg #[.int .i64 k, .int .i64 a, .int .i64 b, .slice x n c]] w fun e w' => ∃ u, e = .returned u ∧ CountQ w I a u w' ∧ Chg (fun _ => False) w w' := by
 have hhs := hT.hs;have hnd := hT.nodes;have hG : GOk G := hS.gok hO ⟨by omega, by omega, by omega, by omega, by omega⟩;exact do_7 hR hq fun W hC => counted_g (hR.still hC) hS hO hG k a b x n c
theorem sameInts_q (w : World) {v' : Value} (h : Row w 3 1 v l.length (intCells l)) (h' : QRow w v' l) :
 Calls Tryz.prog 14 #[v, v'] w fun e w' => e = .returned (.bool true) ∧ Chg (fun _ => False) w w' := by
 refine ret_k fun K hK => ?_;have HK := Lib.hid hK;obtain ⟨a, c, rfl, _, hle, _⟩ := h.slice;obtain ⟨a', c', rfl, hle', _⟩ := h'.slice;have HC1 : Hid (∀ j, j < l.length → ∀ w', Chg (fun _ => False) w w' → ∃ g, a = some ⟨g, 0, none⟩ ∧ w'.cell? ⟨g, j, none⟩ = some (.int .i64 (l.getD j 0))) := fun j hj w' hC => by
  obtain ⟨g, h1, _, h2⟩ := h.cells (by omega);have hc := h2 j (.int .i64 (l.getD j 0)) (by simp [intCells, List.getElem?_eq_getElem hj, List.getD_eq_getElem?_getD]);exact ⟨g, h1, cell_chg hC hc fun h => h⟩
 have HC2 : Hid (∀ j, j < l.length → ∀ w', Chg (fun _ => False) w w' → ∃ g off, a' = some ⟨g, off, none⟩ ∧ w'.cell? ⟨g, off + j, none⟩ = some (.int .i64 (l.getD j 0))) := fun j hj w' hC => by
  obtain ⟨g, off, h1, h2⟩ := h'.cell hj;exact ⟨g, off, h1, cell_chg hC h2 fun h => h⟩
 have hmax : l.length ≤ 9223372036854775807 := by
  have := h.2.1;unfold maxLen at this;omega
 have HMx := Lib.hid hmax;clear hK h h' hle hle' hmax;obtain ⟨len, hlen⟩ : ∃ len, len = l.length := ⟨_, rfl⟩;rw [← hlen] at HC1 HC2 HMx ⊢;clear hlen
 go_enter Tryz.func14, Tryz.ntmps14
 go_wp2
 go_loopw [5] (fun i wr => ∃ j : Nat, j ≤ len ∧ i = .int .i64 j ∧ Hid (Chg (fun _ => False) w wr)) (fun i _ => len - (intOf i).toNat)
 case atStart => exact ⟨0, by omega, rfl, Lib.hid (Chg.refl _ _)⟩
 case round =>
  obtain ⟨j, hj, rfl, HC⟩ := hrel;by_cases hlt : j < len
  · obtain ⟨g, e1, k1⟩ := HC1.out j hlt wr HC.out;obtain ⟨g', off, e2, k2⟩ := HC2.out j hlt wr HC.out;subst e1 e2;have hl2 : (j : Int) < (len : Int) := by omega
    have hwj : IntKind.i64.wrap ((j : Int) + 1) = (j : Int) + 1 := IntWalk.i64_in _ (by have := HMx.out; omega);generalize l.getD j 0 = z at *
    go_upto_region 6 with fail
    go_region
    have HC3 : Hid (∀ k, Chg (fun _ => False) w (wr.drewN k)) := fun k => HC.out.drewN k;clear k1 k2;go_wp2
    go_roundw
    case rel => exact ⟨j + 1, by omega, by go_num, Lib.hid (by first | exact HC3.out _ | exact HC.out.drew | exact HC.out)⟩
    case measure => simp [intOf]; omega
  · obtain rfl : j = len := by omega
    have HZ := Lib.hid (HK.out _ _ ⟨rfl, HC.out⟩);clear HC1 HC2 HK;go_wp2;go_ret;exact HZ.out
theorem agrees_w (w : World) {na : Option Addr} {nn nc : Nat} (h : Row w 3 1 v l.length (intCells l)) (h' : QRow w (.slice na nn nc) l) :
 Calls Tryz.prog 50 #[v, .agg #[.slice na nn nc, .bool false, .int .i64 0, .int .i64 0]] w fun e w' => e = .returned (.bool true) ∧ Chg (fun _ => False) w w' := by
 refine ret_k fun K hK => ?_;have HK := Lib.hid hK;have hC1 : Chg (fun _ => False) w (w.alloc (.cells #[.slice na nn nc, .bool false, .int .i64 0, .int .i64 0] 101)) := (Chg.refl _ _).alloc _;have HS := Lib.hid (sameInts_q _ (h.same fun b hb => hC1.block b (h.lt hb) fun h => h) (h'.same fun b hb => hC1.block b (h'.lt hb) fun h => h));have HC1 := Lib.hid hC1;obtain ⟨va, vc, rfl, _⟩ := h.slice;clear hK hC1 h h'
 go_enter Tryz.func50, Tryz.ntmps50
 go_wp2_with fail
 refine HS.out.mono ?_; rintro e w2 ⟨rfl, hC2⟩;have HZ := Lib.hid (HK.out _ _ ⟨rfl, HC1.out.trans hC2 fun _ _ h => h⟩);clear hC2 HS HK HC1;go_wp2;go_ret;exact HZ.out
theorem agrees_open (w : World) {c : Int} {lo hi : Nat} (h : Row w 3 1 v ([c, 0] : List Int).length (intCells [c, 0])) (h1 : (lo : Int) ≤ c) (h2 : c ≤ (hi : Int)) :
 Calls Tryz.prog 50 #[v, .agg #[.slice none 0 0, .bool true, .int .i64 lo, .int .i64 hi]] w fun e w' => e = .returned (.bool true) ∧ Chg (fun _ => False) w w' := by
 refine ret_k fun K hK => ?_;have HK := Lib.hid hK;obtain ⟨va, vc, rfl, _⟩ := h.slice;obtain ⟨g, rfl, _, hcell⟩ := h.cells (by simp);obtain ⟨w1, hw1⟩ : ∃ w1, w1 = w.alloc (.cells #[.slice none 0 0, .bool true, .int .i64 lo, .int .i64 hi] 101) := ⟨_, rfl⟩;have hC1 : Chg (fun _ => False) w w1 := by rw [hw1]; exact (Chg.refl _ _).alloc _
 have hb := heap_alloc_new w (.cells #[.slice none 0 0, .bool true, .int .i64 lo, .int .i64 hi] 101);rw [← hw1] at hb;have k0 := cell_chg hC1 (hcell 0 (.int .i64 c) rfl) fun h => h;have k1 := cell_chg hC1 (hcell 1 (.int .i64 0) rfl) fun h => h;have m1 := cellAt hb 1;have m2 := cellAt hb 2;have m3 := cellAt hb 3;have HZ : Hid (∀ k, Post K (.returned (.bool true)) (w1.drewN k)) := fun k => HK.out _ _ ⟨rfl, hC1.drewN k⟩;have d1 : decide ((lo : Int) ≤ c) = true := decide_eq_true h1;have d2 : decide (c ≤ (hi : Int)) = true := decide_eq_true h2;clear hK h hcell hC1 hb HK
 go_enter Tryz.func50, Tryz.ntmps50
 go_upto_region 1 with fail
 rw [← hw1];generalize w.heap.size = b1 at m1 m2 m3 ⊢;clear hw1
 go_upto_region 2 with fail
 go_quiet (fail)
 all_goals
  go_wp2;go_ret;exact HZ.out _
structure FS (w0 w : World) (pb hb : Nat) (Ih Ig : IS) (m lk : Nat) (X Y : Nat → Prop) : Prop where
 ex : ∃ G Lh Lg, HP w hb Lh Ih m ∧ GRep w pb hb Lg G ∧ GSim G Ig ∧ G.links.length ≤ lk ∧ (∀ b ∈ Lg, b ∈ Lh) ∧ (∀ b, b < w0.heap.size → b ∈ Lh) ∧ (∀ b ∈ Lg, w0.heap.size ≤ b) ∧ (∀ b, X b → b ∈ Lh ∧ b ∉ Lg) ∧ ∀ b, Y b → b < w.heap.size ∧ b ∉ Lg
 chg : Chg (fun _ => False) w0 w
def SameOn (X : Nat → Prop) (w w' : World) : Prop := ∀ b, X b → w'.heap[b]? = w.heap[b]?
theorem HP.lst (h : HP w hb L I m) : ∀ b ∈ L, b < w.heap.size := by
 obtain ⟨g, A, _, _, _, h4⟩ := h;exact fun b hb => (h4 b hb).1
theorem FS.still {X Y X' Y' : Nat → Prop} (h : FS w0 w pb hb Ih Ig m lk X Y) (hC : Chg (fun _ => False) w w') (hX : ∀ b, X' b → X b ∨ (w.heap.size ≤ b ∧ b < w'.heap.size)) (hY : ∀ b, Y' b → Y b ∨ (w.heap.size ≤ b ∧ b < w'.heap.size)) : FS w0 w' pb hb Ih Ig m lk X' Y' := by
 obtain ⟨G, Lh, Lg, h1, h2, h3, h4, h5, h6, h7, h8, h9⟩ := h.ex;have hs := hC.size;refine ⟨⟨G, Lh ++ since w w', Lg, h1.allNew (hC.mono fun _ _ h => h.elim), h2.still hC, h3, h4, fun b hb => List.mem_append_left _ (h5 b hb), fun b hb => List.mem_append_left _ (h6 b hb), h7, fun b hb => ?_, fun b hb => ?_⟩, h.chg.trans hC fun _ _ h => h⟩
 · rcases hX b hb with hx | hx
   · exact ⟨List.mem_append_left _ (h8 b hx).1, (h8 b hx).2⟩
   · exact ⟨List.mem_append_right _ (mem_since.2 hx), fun hg => by have := h2.lgs b hg; omega⟩
 · rcases hY b hb with hx | hx
   · exact ⟨by have := (h9 b hx).1; omega, (h9 b hx).2⟩
   · exact ⟨hx.2, fun hg => by have := h2.lgs b hg; omega⟩
theorem FS.calm {X Y : Nat → Prop} (h : FS w0 w pb hb Ih Ig m lk X Y) (hC : Chg (fun _ => False) w w') : FS w0 w' pb hb Ih Ig m lk X Y := h.still hC (fun _ h => .inl h) (fun _ h => .inl h)
theorem FS.more {m' : Nat} {X Y : Nat → Prop} (h : FS w0 w pb hb Ih Ig m lk X Y) (hm : m ≤ m') (hl : lk ≤ lk') : FS w0 w pb hb Ih Ig m' lk' X Y := by
 obtain ⟨G, Lh, Lg, h1, h2, h3, h4, h5⟩ := h.ex;exact ⟨⟨G, Lh, Lg, h1.more hm, h2, h3, by omega, h5⟩, h.chg⟩
theorem FS.less {X Y X' Y' : Nat → Prop} (h : FS w0 w pb hb Ih Ig m lk X Y) (hX : ∀ b, X' b → X b) (hY : ∀ b, Y' b → Y b) : FS w0 w pb hb Ih Ig m lk X' Y' := by
 obtain ⟨G, Lh, Lg, h1, h2, h3, h4, h5, h6, h7, h8, h9⟩ := h.ex;exact ⟨⟨G, Lh, Lg, h1, h2, h3, h4, h5, h6, h7, fun b hb => h8 b (hX b hb), fun b hb => h9 b (hY b hb)⟩, h.chg⟩
theorem FS.pair {X Y : Nat → Prop} (h : FS w0 w pb hb Ih Ig m lk X Y) : w.cell? ⟨pb, 0, none⟩ = some (.pointer (some ⟨hb, 0, none⟩)) := by
 obtain ⟨G, Lh, Lg, _, h2, _⟩ := h.ex;obtain ⟨lab, v, hGr⟩ := h2;exact cellAt hGr.at_ 0
def TM (I : IS) (q : Nat) (a b : Int) (cs : List Wd) (l : List Int) : Prop := if q = 7 then ∃ c er, l = [c, er] ∧ CountOk I a c er else l = (I.did q a b cs).1
theorem FS.tell {X Y : Nat → Prop} (h : FS w0 w pb hb I I m lk X Y) (hT : SmT I j T) (hj : j ≤ 100) (hTT : T ≤ 6500) (hm : m < 8000) (hcs : CellsAt w o.x o.n o.cs) (hn : o.n ≤ 1000000) (h8 : o.q = 8 → I.sure o.a = true) :
 Calls Tryz.prog 15 #[.pointer (some ⟨hb, 0, none⟩), .agg #[.int .i64 o.kind, .int .i64 o.a, .int .i64 o.b, .slice o.x o.n o.c]] w fun e w' => ∃ v l, e = .returned v ∧ Hid (FS w0 w' pb hb (I.did o.q o.a o.b o.cs).2 I (m + 1) lk X (fun b => rowBlk v = some b) ∧ SameOn X w w' ∧ Row w' 3 1 v l.length (intCells l) ∧ TM I o.q o.a o.b o.cs l) := by
 obtain ⟨G, Lh, Lg, h1, h2, h3, h4, h5, h6, h7, h8', h9⟩ := h.ex;have hkey : ∀ {I' : IS} {v : Value} {l : List Int} {w' : World}, Got w hb Lh I' (m + 1) w' → IRow w' w.heap.size v l → FS w0 w' pb hb I' I (m + 1) lk X (fun b => rowBlk v = some b) ∧ SameOn X w w' := fun hG hI =>
  ⟨⟨⟨G, Lh, Lg, hG.hp, h2.frame hG.chg fun b hb hn => hn (h5 b hb), h3, h4, h5, h6, h7, h8', fun b hb => ⟨hI.row.lt hb, fun hg => by have := h2.lgs b hg; have := hI.new b hb; omega⟩⟩, h.chg.trans hG.chg fun b hb hn => hn (h6 b hb)⟩, fun b hb => hG.chg.block b (h1.lst b (h8' b hb).1) fun hn => hn (h8' b hb).1⟩
 by_cases hq7 : o.q = 7
 · have hk := o.q_eq;rw [hq7] at hk;refine Calls.mono (h1.tellsCount o.kind o.a o.b (x := o.x) (n := o.n) o.c hk) ?_;rintro e w' ⟨v, l, rfl, _, hI, hQ⟩;obtain ⟨hc, hG⟩ := hQ.out;have e2 : (I.did o.q o.a o.b o.cs).2 = I := by rw [hq7]; rfl
   rw [e2];refine ⟨v, l, rfl, Lib.hid ⟨(hkey hG hI).1, (hkey hG hI).2, hI.row, ?_⟩⟩;unfold TM;rw [if_pos hq7]; exact hc
 · refine Calls.mono (h1.tellsDid hT hj hTT hm o.kind o.a o.b o.c hcs (by omega) o.q_eq hq7 h8) ?_;rintro e w' ⟨v, l, rfl, _, hI, hQ⟩;obtain ⟨hc, hG⟩ := hQ.out;refine ⟨v, l, rfl, Lib.hid ⟨(hkey hG hI).1, (hkey hG hI).2, hI.row, ?_⟩⟩;unfold TM;rw [if_neg hq7]; exact hc
theorem FS.graphGot {X Y : Nat → Prop} {G' : GS} {Lh : List Nat} (h1 : HP w hb Lh Ih m) (h5 : ∀ b ∈ Lg, b ∈ Lh) (h6 : ∀ b, b < w0.heap.size → b ∈ Lh) (h7 : ∀ b ∈ Lg, w0.heap.size ≤ b) (h8 : ∀ b, X b → b ∈ Lh ∧ b ∉ Lg) (h9 : ∀ b, Y b → b < w.heap.size ∧ b ∉ Lg) (hc : Chg (fun _ => False) w0 w)
 (hG : GGot w pb hb Lg G' w') (hS : GSim G' I') (hl : G'.links.length ≤ lk') : FS w0 w' pb hb Ih I' m lk' X Y ∧ SameOn (fun b => X b ∨ Y b) w w' := by
 have hno : ∀ b, b < w.heap.size → b ∉ Lg → b ∉ Lg ++ since w w' := fun b hb hn hg => by
  rcases List.mem_append.1 hg with hg | hg
  · exact hn hg
  · have := mem_since.1 hg;omega
 refine ⟨⟨⟨G', Lh ++ since w w', Lg ++ since w w', h1.allNew (hG.chg.mono fun b _ h => h5 b h), hG.rep, hS, hl, fun b hb => ?_, fun b hb => List.mem_append_left _ (h6 b hb), fun b hb => ?_, fun b hb => ⟨List.mem_append_left _ (h8 b hb).1, hno b (h1.lst b (h8 b hb).1) (h8 b hb).2⟩, fun b hb => ⟨Nat.lt_of_lt_of_le (h9 b hb).1 hG.chg.size, hno b (h9 b hb).1 (h9 b hb).2⟩⟩, hc.trans hG.chg fun b hb hg => by have := h7 b hg; omega⟩, fun b hb => ?_⟩
 · rcases List.mem_append.1 hb with hb | hb
   · exact List.mem_append_left _ (h5 b hb)
   · exact List.mem_append_right _ hb
 · rcases List.mem_append.1 hb with hb | hb
   · exact h7 b hb
   · have := mem_since.1 hb;have := hc.size;omega
 · rcases hb with hb | hb
   · exact hG.chg.block b (h1.lst b (h8 b hb).1) (h8 b hb).2
   · exact hG.chg.block b (h9 b hb).1 (h9 b hb).2
theorem GSim.sizes (h : GSim G I) (hO : IOk I) : ∀ y ∈ G.nodes, y.size ≤ 1000 := fun y hy => by
 rw [h.nodes] at hy;obtain ⟨d, hd, rfl⟩ := List.mem_map.1 hy;obtain ⟨i, hi, rfl⟩ := List.getElem_of_mem hd;have : I.nd (i : Int) = some I.nodes[i] := by
  unfold IS.nd;rw [if_pos (by omega), Int.toNat_natCast, List.getElem?_eq_getElem hi]
 have := hO.sh.len _ _ this;show I.nodes[i].flds.length ≤ 1000;omega
theorem FS.doO {X : Nat → Prop} (h : FS w0 w pb hb I' I m lk X (fun b => rowBlk v = some b)) (hO : IOk I) (hT : SmT I j T) (hj : j ≤ 100) (hTT : T ≤ 6500) (hlk : lk ≤ 90000) (hcs : CellsAt w o.x o.n o.cs) (hn : o.n ≤ 1000000) (hrow : Row w 3 1 v l.length (intCells l)) (hTM : TM I o.q o.a o.b o.cs l) (hI' : I' = (I.did o.q o.a o.b o.cs).2) :
 Calls Tryz.prog 51 #[.pointer (some ⟨pb, 1, none⟩), .agg #[.int .i64 o.kind, .int .i64 o.a, .int .i64 o.b, .slice o.x o.n o.c]] w fun e w' => ∃ u, e = .returned u ∧ Hid (FS w0 w' pb hb I' I' m (lk + 200) X (fun _ => False) ∧ SameOn X w w') ∧
  Hid (∀ W, Chg (fun _ => False) w' W → Calls Tryz.prog 50 #[v, u] W fun e W' => e = .returned (.bool true) ∧ Chg (fun _ => False) W W') := by
 obtain ⟨G, Lh, Lg, h1, h2, h3, h4, h5, h6, h7, h8, h9⟩ := h.ex;by_cases hq7 : o.q = 7
 · have hk := o.q_eq;rw [hq7] at hk;refine (do_count h2 h3 hO hT hj hTT (by omega) o.kind o.a o.b o.x o.n o.c hk).mono ?_;rintro e w' ⟨u, rfl, hQ, hC⟩;have e2 : I' = I := by rw [hI', hq7]; rfl
   subst e2;refine ⟨u, rfl, Lib.hid ⟨(h.calm hC).less (fun _ h => h) (fun _ h => h.elim) |>.more (Nat.le_refl _) (Nat.le_add_right _ _), fun b hb => hC.block b (h1.lst b (h8 b hb).1) fun h => h⟩, Lib.hid fun W hW => ?_⟩;have hrow' : Row W 3 1 v l.length (intCells l) := hrow.same fun b hb => (hC.trans hW fun _ _ h => h).block b (hrow.lt hb) fun h => h;unfold TM at hTM;rw [if_pos hq7] at hTM;obtain ⟨c, er, rfl, hcO⟩ := hTM;unfold CountQ at hQ;unfold CountOk at hcO;cases hB : I'.bounds o.a with
   | inl er' =>
     rw [hB] at hQ hcO;obtain ⟨rfl, rfl⟩ := hcO;obtain ⟨nv, rfl, hI⟩ := hQ;obtain ⟨na, nc, rfl, _⟩ := hI.row.slice;exact agrees_w W hrow' (hI.row.q.same fun b hb => hW.block b (hI.row.lt hb) fun h => h)
   | inr p =>
     obtain ⟨lo, hi⟩ := p;rw [hB] at hQ hcO;obtain ⟨rfl, g1, g2⟩ := hcO;have hu : u = .agg #[.slice none 0 0, .bool true, .int .i64 lo, .int .i64 hi] := hQ;rw [hu];exact agrees_open W hrow' g1 g2
 · refine (do_any h2 h3 hO hT hj hTT (by omega) o.kind o.a o.b o.c hcs hn o.q_eq hq7).mono ?_;rintro e w' ⟨u, rfl, hTo, G', hGG, hSim, hlen⟩;have hF := FS.graphGot (I' := I') (lk' := lk + 200) h1 h5 h6 h7 h8 h9 h.chg hGG (by rw [hI']; exact hSim) (by omega);refine ⟨u, rfl, Lib.hid ⟨hF.1.less (fun _ h => h) (fun _ h => h.elim), fun b hb => hF.2 b (.inl hb)⟩, Lib.hid fun W hW => ?_⟩;have hrow' : Row W 3 1 v l.length (intCells l) := (hrow.same fun b hb => hF.2 b (.inr hb)).same fun b hb => hW.block b (Nat.lt_of_lt_of_le (hrow.lt hb) hGG.chg.size) fun h => h;unfold TM at hTM;rw [if_neg hq7] at hTM;obtain ⟨nv, rfl, hI, _⟩ := hTo;obtain ⟨na, nc, rfl, _⟩ := hI.slice;rw [← hTM] at hI;rw [← hTM]
   exact agrees_w W hrow' (hI.same fun b hb => hW.block b (hI.lt hb) fun h => h)
theorem FS.handH {X Y : Nat → Prop} (h : FS w0 w pb hb Ih Ig m lk X Y) (hl : Ih.hs.length ≤ 9000) :
 Calls Tryz.prog 22 #[.pointer (some ⟨hb, 0, none⟩)] w fun e w' => ∃ v, e = .returned v ∧ Row w' 3 1 v Ih.hands.length (intCells Ih.hands) ∧ Chg (fun _ => False) w w' := by
 obtain ⟨G, Lh, Lg, h1, _⟩ := h.ex;refine (h1.ho.handles hl).mono ?_;rintro e w' ⟨v, rfl, hR, hC, _⟩;exact ⟨v, rfl, hR, hC⟩
theorem FS.handG {X Y : Nat → Prop} (h : FS w0 w pb hb Ih Ig m lk X Y) (hO : IOk Ig) (hl : Ig.hs.length ≤ 9000) :
 Calls Tryz.prog 52 #[.pointer (some ⟨pb, 1, none⟩)] w fun e w' => ∃ v, e = .returned v ∧ Row w' 3 1 v Ig.hands.length (intCells Ig.hands) ∧ Chg (fun _ => False) w w' := by
 obtain ⟨G, Lh, Lg, h1, h2, h3, _⟩ := h.ex;refine (handles_g h2 (by rw [h3.roots]; omega) (h3.rootsN hO) (by rw [h3.roots]; exact hO.hnod) (by rw [h3.roots]; exact hO.hkey)).mono ?_;rintro e w' ⟨v, rfl, hI, hC⟩;rw [h3.hands] at hI;exact ⟨v, rfl, hI.row, hC⟩
theorem FS.sure {X Y : Nat → Prop} (h : FS w0 w pb hb I I m lk X Y) (hO : IOk I) (hT : SmT I j T) (hj : j ≤ 100) (hTT : T ≤ 6500) (hlk : lk ≤ 90000) (a : Int) :
 Calls Tryz.prog 49 #[.pointer (some ⟨pb, 1, none⟩), .int .i64 a] w fun e w' => e = .returned (.bool (I.sure a)) ∧ Chg (fun _ => False) w w' := by
 obtain ⟨G, Lh, Lg, h1, h2, h3, h4, _⟩ := h.ex;have hhs := hT.hs;have hnd := hT.nodes;have hG : GOk G := h3.gok hO ⟨by omega, by omega, by omega, by omega, by omega⟩;refine sure_g h2 h3 hO hG a fun lo hi hB => ?_;rw [h3.roots];have hhi : hi ≤ 100 := by
  unfold IS.bounds at hB
  split at hB
  · cases hB
  · split at hB
    · cases hB
    · rename_i d hd
      split at hB
      · simp only [Sum.inr.injEq, Prod.mk.injEq] at hB;have h5 := List.length_filter_le (fun e : En => I.here e.key) d.ents;have := hT.ents _ d hd;omega
      · cases hB
 omega
theorem FS.kept {X Y : Nat → Prop} (h : FS w0 w pb hb Ih I m lk X Y) (hO : IOk I) (hT : SmT I j T) (hj : j ≤ 100) (hTT : T ≤ 6500) (hlk : lk ≤ 90000) :
 Calls Tryz.prog 54 #[.pointer (some ⟨pb, 1, none⟩)] w fun e w' => ∃ sb n, e = .returned (.slice (some ⟨sb, 0, none⟩) n n) ∧ Chg (fun _ => False) w w' ∧
  Hid (∀ W, Chg (fun _ => False) w' W → Calls Tryz.prog 53 #[.pointer (some ⟨pb, 1, none⟩), .slice (some ⟨sb, 0, none⟩) n n] W fun e W' => e = .returned (.int .i64 (I.words I.live)) ∧ Chg (fun _ => False) W W') := by
 obtain ⟨G, Lh, Lg, h1, h2, h3, h4, _⟩ := h.ex;have hhs := hT.hs;have hnd := hT.nodes;have hG : GOk G := h3.gok hO ⟨by omega, by omega, by omega, by omega, by omega⟩;have hwN : G.wordsN (fun j => dec (SReach G.links G.keptP (j : Int))) = I.words I.live := h3.words hO.sh (fun j => h3.keptM hO j) fun n hn => by
  obtain ⟨d', g1, g2⟩ := hO.kept _ (IS.live_iff.1 hn);exact here_of g1 g2
 refine (kept_g h2 hG).mono ?_;rintro e w' ⟨sb, rfl, _, hM, hC⟩;refine ⟨sb, _, rfl, hC, Lib.hid fun W hW => ?_⟩;have := words_g ((h2.still hC).still hW) hG (GSim.sizes h3 hO) (hM.same (hW.block sb hM.lt fun h => h));rw [hwN] at this;exact this
theorem FS.most {X Y : Nat → Prop} (h : FS w0 w pb hb Ih I m lk X Y) (hO : IOk I) (hT : SmT I j T) (hj : j ≤ 100) (hTT : T ≤ 6500) (hlk : lk ≤ 90000) :
 Calls Tryz.prog 55 #[.pointer (some ⟨pb, 1, none⟩)] w fun e w' => e = .returned (.int .i64 (I.words I.here)) ∧ Chg (fun _ => False) w w' := by
 obtain ⟨G, Lh, Lg, h1, h2, h3, h4, _⟩ := h.ex;have hhs := hT.hs;have hnd := hT.nodes;have hG : GOk G := h3.gok hO ⟨by omega, by omega, by omega, by omega, by omega⟩;have hwN : G.wordsN G.hereN = I.words I.here := h3.words hO.sh (fun j => by
  unfold GS.hereN;rw [h3.nodes, List.getElem?_map];unfold IS.here IS.nd;rw [if_pos (by omega), Int.toNat_natCast];cases I.nodes[j]? <;> rfl) fun n hn => hn
 refine (most_g h2 hG (GSim.sizes h3 hO)).mono ?_;rintro e w' ⟨rfl, hC⟩;exact ⟨by rw [hwN], hC⟩
theorem FS.used {X Y : Nat → Prop} (h : FS w0 w pb hb I Ig m lk X Y) :
 Calls Tryz.prog 20 #[.pointer (some ⟨hb, 0, none⟩)] w fun e w' => ∃ u : Nat, e = .returned (.int .i64 u) ∧ (I.words I.live ≤ u ∧ u ≤ I.words I.here) ∧ Hid (FS w0 w' pb hb I Ig m lk X (fun _ => False) ∧ SameOn X w w') := by
 obtain ⟨G, Lh, Lg, h1, h2, h3, h4, h5, h6, h7, h8, h9⟩ := h.ex;refine h1.used.mono ?_;rintro e w' ⟨u, rfl, hu, hG⟩;exact ⟨u, rfl, hu, Lib.hid ⟨⟨⟨G, Lh, Lg, hG.out.hp, h2.frame hG.out.chg fun b hb hn => hn (h5 b hb), h3, h4, h5, h6, h7, h8, fun b hb => hb.elim⟩, h.chg.trans hG.out.chg fun b hb hn => hn (h6 b hb)⟩, fun b hb => hG.out.chg.block b (h1.lst b (h8 b hb).1) fun hn => hn (h8 b hb).1⟩⟩
def FRnd (w0 w : World) (pb hb i : Nat) : Prop := ∃ I, FS w0 w pb hb I I i (200 * i) (fun _ => False) (fun _ => False) ∧ ISh I ∧ SmT I i (i * i)
theorem FS.iok {X Y : Nat → Prop} (h : FS w0 w pb hb I Ig m lk X Y) (hs : ISh I) : IOk I := by
 obtain ⟨G, Lh, Lg, h1, _⟩ := h.ex;exact h1.iok hs
abbrev S5 (W : World) (pb hb b6 : Nat) (op : OpV) : Prop := W.cell? ⟨pb, 0, none⟩ = some (.pointer (some ⟨hb, 0, none⟩)) ∧ W.cell? ⟨b6, 0, none⟩ = some (.int .i64 op.kind) ∧ W.cell? ⟨b6, 1, none⟩ = some (.int .i64 op.a) ∧ W.cell? ⟨b6, 2, none⟩ = some (.int .i64 op.b) ∧ W.cell? ⟨b6, 3, none⟩ = some (.slice op.x op.n op.c)
def Box6 (W : World) (b6 : Nat) (op : OpV) : Prop := W.heap[b6]? = some (.cells #[.int .i64 op.kind, .int .i64 op.a, .int .i64 op.b, .slice op.x op.n op.c] 33 (0, 0))
theorem S5.of {X Y : Nat → Prop} (h : FS w0 W pb hb Ih Ig m lk X Y) (hb6 : Box6 W b6 op) : S5 W pb hb b6 op := ⟨h.pair, cellAt hb6 0, cellAt hb6 1, cellAt hb6 2, cellAt hb6 3⟩
theorem Box6.chg (h : Box6 W b6 op) (hC : Chg (fun _ => False) W W') : Box6 W' b6 op := hC.at h fun h => h
theorem Box6.on (h : Box6 W b6 op) (hC : SameOn (fun b => b = b6) W W') : Box6 W' b6 op := (hC b6 rfl).trans h
structure QC (wb wx : World) (b6 : Nat) (op : OpV) : Prop where
 chg : Chg (fun _ => False) wb wx
 box : Box6 wx b6 op
theorem QC.cells (h : QC wb wx b6 op) : wx.cell? ⟨b6, 0, none⟩ = some (.int .i64 op.kind) ∧ wx.cell? ⟨b6, 1, none⟩ = some (.int .i64 op.a) ∧ wx.cell? ⟨b6, 2, none⟩ = some (.int .i64 op.b) ∧ wx.cell? ⟨b6, 3, none⟩ = some (.slice op.x op.n op.c) := ⟨cellAt h.box 0, cellAt h.box 1, cellAt h.box 2, cellAt h.box 3⟩
theorem QC.call {qi : Int} (h : QC wb wx b6 op) (hW : ∀ W, Calls Tryz.prog 35 #[.agg #[.int .i64 op.kind, .int .i64 op.a, .int .i64 op.b, .slice op.x op.n op.c]] W fun e w' => e = .returned (.int .i64 qi) ∧ Chg (fun _ => False) W w') :
 Calls Tryz.prog 35 #[.agg #[.int .i64 op.kind, .int .i64 op.a, .int .i64 op.b, .slice op.x op.n op.c]] wx fun e w' => e = .returned (.int .i64 qi) ∧ QC wb w' b6 op := by
 refine (hW wx).mono ?_;rintro e w' ⟨rfl, hC⟩;exact ⟨rfl, h.chg.trans hC fun _ _ h => h, h.box.chg hC⟩
theorem follow_any {room : Int} {a : Option Addr} {c : Nat} {o : Nat → OpV} (h0 : FS w0 w pb hb (IS.start room) (IS.start room) 0 0 (fun _ => False) (fun _ => False)) (hops : OpsAt w0 a n o) (hbig : ∀ i, i < n → (o i).n ≤ 1000000) :
 Calls Tryz.prog 17 #[.pointer (some ⟨pb, 0, none⟩), .slice a n c] w fun e w' => e = .returned (.bool true) ∧ Chg (fun _ => False) w0 w' := by
 refine ret_k fun K hK => ?_;have HK := Lib.hid hK;have HO := Lib.hid hops;have HBig := Lib.hid hbig;have H0 : Hid (FRnd w0 w pb hb 0) := ⟨_, h0, ISh.start room, SmT.start room⟩;clear hK hops hbig h0
 go_enter Tryz.func17, Tryz.ntmps17
 go_wp2
 go_loopw [5] (fun s5 wr => ∃ i : Nat, i ≤ 80 ∧ s5 = .int .i64 i ∧ Hid (FRnd w0 wr pb hb i)) (fun s5 _ => 80 - (intOf s5).toNat)
 case atStart => exact ⟨0, by omega, rfl, H0⟩
 case round =>
  obtain ⟨i, hi, rfl, HI⟩ := hrel;clear H0;have HEnd : Hid (Post K (.returned (.bool true)) wr) := by
   obtain ⟨I, hF, _⟩ := HI.out;exact HK.out _ _ ⟨rfl, hF.chg⟩
  by_cases g1 : i < n
  · have g1' : (i : Int) < (n : Int) := by omega
    by_cases g3 : i < 80
    · have g3' : (i : Int) < 80 := by omega
      have hwi : IntKind.i64.wrap ((i : Int) + 1) = (i : Int) + 1 := IntWalk.i64_in _ (by omega);obtain ⟨I, hF, hIS, hSm⟩ := HI.out;obtain ⟨x1, e1, ho⟩ := HO.out i g1;subst e1;have hon := HBig.out i g1;generalize o i = op at ho hon;obtain ⟨q0, q1, q2, q3⟩ := (ho.chg0 hF.chg).op4;have HOp := Lib.hid ho;have HOn : Hid (op.n ≤ 1000000) := hon;have HF := Lib.hid hF;have HSm : Hid (ISh I ∧ SmT I i (i * i) ∧ i * i ≤ 6400) := ⟨hIS, hSm, Nat.le_trans (Nat.mul_le_mul hi hi) (by omega)⟩;clear HI hF hIS hSm ho hon HEnd HK HO HBig
      go_upto_region 5 with fail
      obtain ⟨wb, hwb⟩ : ∃ wb, wb = wr.alloc (.cells #[.int .i64 op.kind, .int .i64 op.a, .int .i64 op.b, .slice op.x op.n op.c] 33) := ⟨_, rfl⟩;have hCb : Chg (fun _ => False) wr wb := by rw [hwb]; exact (Chg.refl _ _).alloc _
      have hbx : Box6 wb wr.heap.size op := by unfold Box6; rw [hwb]; exact heap_alloc_new _ _
      have hsb : wb.heap.size = wr.heap.size + 1 := by rw [hwb]; simp
      have hFb : FS w0 wb pb hb I I i (200 * i) (fun b => b = wr.heap.size) (fun _ => False) := HF.out.still hCb (fun b e => .inr (by omega)) (fun _ h => h.elim);rw [← hwb];generalize wr.heap.size = b6 at hbx hFb ⊢;have HFb := Lib.hid hFb;have HBx := Lib.hid hbx;clear hwb hCb hsb HF q0 q1 q2 q3 hFb hbx;have HWh : Hid (∀ W, Calls Tryz.prog 35 #[.agg #[.int .i64 op.kind, .int .i64 op.a, .int .i64 op.b, .slice op.x op.n op.c]] W fun e w' => e = .returned (.int .i64 op.q) ∧ Chg (fun _ => False) W w') := fun W => by
       have := which_any W op.kind op.a op.b op.x op.n op.c;rw [op.q_eq] at this;exact this
      have HSu : Hid (∀ W, Chg (fun _ => False) wb W → Calls Tryz.prog 49 #[.pointer (some ⟨pb, 1, none⟩), .int .i64 op.a] W fun e w' => e = .returned (.bool (I.sure op.a)) ∧ Chg (fun _ => False) W w') := fun W hC => (HFb.out.calm hC).sure (HFb.out.iok HSm.out.1) HSm.out.2.1 (by omega) (by have := HSm.out.2.2; omega) (by omega) op.a;have HSb : Hid (∀ W, Chg (fun _ => False) wb W → S5 W pb hb b6 op) := fun W hC => S5.of (HFb.out.calm hC) (HBx.out.chg hC);obtain ⟨sk, hsk⟩ : ∃ sk : Bool, sk = (decide (op.q = 8) && !I.sure op.a) := ⟨_, rfl⟩;have HSk := Lib.hid hsk;clear hsk;obtain ⟨p0, x0, x1', x2, x3⟩ := HSb.out wb (Chg.refl _ _)
      go_cut [35] from 24 to 35 (fun s35 wx => s35 = .bool sk ∧ Hid (Chg (fun _ => False) wb wx))
      case first =>
       have hA : Hid (Chg (fun _ => False) wb wb) := Chg.refl _ _;obtain ⟨qq, hqq⟩ : ∃ qq, qq = op.q := ⟨_, rfl⟩;rw [← hqq] at HWh HSk;obtain ⟨sv, hsv⟩ : ∃ sv, sv = I.sure op.a := ⟨_, rfl⟩;rw [← hsv] at HSu HSk;clear hqq hsv;by_cases h8 : qq = 8
       · subst h8;have hskv : sk = !sv := by rw [HSk.out]; rfl
         have HSkv := Lib.hid hskv;clear hskv HSk;cases sv
         all_goals
          go_region_held3 (fun W => S5 W pb hb b6 op)
           (first | exact ⟨p0, x0, x1', x2, x3⟩ | exact HSb.out _ hA.out | exact HSb.out _ (hA.out.drew) | exact HSb.out _ (hA.out.drewN _))
           (first
            | (go_at_call 49; refine (HSu.out _ hA.out).mono ?_; rintro e wn ⟨rfl, hC⟩; have hA : Hid (Chg (fun _ => False) wb wn) := hA.out.trans hC fun _ _ h => h; clear hC)
            | (go_at_call 49; refine (HSu.out _ hA.out.drew).mono ?_; rintro e wn ⟨rfl, hC⟩; have hA : Hid (Chg (fun _ => False) wb wn) := hA.out.drew.trans hC fun _ _ h => h; clear hC)
            | (go_at_call 35; refine (HWh.out _).mono ?_; rintro e wn ⟨rfl, hC⟩; have hA : Hid (Chg (fun _ => False) wb wn) := (by first | exact hA.out.trans hC fun _ _ h => h | exact hA.out.drew.trans hC fun _ _ h => h); clear hC))
          all_goals (go_wp2; go_meet; exact ⟨by rw [HSkv.out] <;> rfl, hA⟩)
       · obtain ⟨qi, hqi⟩ : ∃ qi : Int, qi = (qq : Int) := ⟨_, rfl⟩;rw [← hqi] at HWh;have hne : ¬ (qi = 8) := by omega
         have hne2 : (qi == 8) = false := beq_eq_false_iff_ne.2 hne;have hne3 : decide (qi = 8) = false := decide_eq_false hne;clear hqi;have hskv : sk = false := by rw [HSk.out, decide_eq_false h8]; rfl
         subst hskv;clear HSk h8;have HN : Hid (QC wb (wb.drewN 1) b6 op) := ⟨(Chg.refl _ _).drewN 1, HBx.out.chg ((Chg.refl _ _).drewN 1)⟩;clear p0 x0 x1' x2 x3 hA;refine wp_region_quiet_cls (C := fun wx => QC wb wx b6 op) (by kernel_rfl) (by kernel_rfl) HN.out ?_
         go_big_quiet_want
         refine ⟨.agg #[.int .i64 op.kind, .int .i64 op.a, .int .i64 op.b, .slice op.x op.n op.c], fun wx hCx => ?_, ?_⟩
         · obtain ⟨x0, x1', x2, x3⟩ := hCx.cells;unfold Oper.quietAt
           go_simp
         · go_simp
           go_big_quiet_on
           go_big_quiet_want
           refine ⟨.int .i64 qi, fun wx hCx => ?_, ?_⟩
           · have hcall := hCx.call HWh.out;unfold Oper.quietAt
             go_simp
           · go_simp
             go_big_quiet_on
             go_big_quiet_want
             refine ⟨.bool false, fun wx hCx => ?_, ?_⟩
             · unfold Oper.quietAt
               go_simp
             · go_simp
               go_big_quiet_on
               go_big_quiet_want
               go_big_quiet_op
               go_big_quiet_on
               iterate 7 go_big_quiet_skip
               go_big_quiet_want
               refine ⟨.bool false, fun wx hCx => ?_, ?_⟩
               · unfold Oper.quietAt
                 go_simp
               · go_simp
                 go_big_quiet_on
                 refine wpQuiet_nil ?_;intro wx hCx;have HCx := Lib.hid hCx.chg;clear hCx;go_wp2
                 go_meet
                 exact ⟨rfl, HCx⟩
      case rest =>
       obtain ⟨rfl, HCx⟩ := hcut;clear p0 x0 x1' x2 x3 HSu;cases hskv : sk with
       | true =>
         have HN : Hid (FRnd w0 wc pb hb (i + 1)) := ⟨I, ((HFb.out.calm HCx.out).less (fun _ h => h.elim) (fun _ h => h.elim)).more (by omega) (by omega), HSm.out.1, HSm.out.2.1.more (by omega) (Nat.mul_le_mul (by omega) (by omega))⟩;clear hskv HSk;go_wp2
         go_roundw
         case rel => exact ⟨i + 1, by omega, by go_num, HN⟩
         case measure => simp [intOf]; omega
       | false =>
         have h8 : op.q = 8 → I.sure op.a = true := fun hq => by
          have := HSk.out;rw [hskv, hq] at this;simpa using this.symm
         have H8 := Lib.hid h8;obtain ⟨I', hI'⟩ : ∃ I', I' = (I.did op.q op.a op.b op.cs).2 := ⟨_, rfl⟩;have HI' := Lib.hid hI';have hTl : ∀ W, Chg (fun _ => False) wb W → Calls Tryz.prog 15 #[.pointer (some ⟨hb, 0, none⟩), .agg #[.int .i64 op.kind, .int .i64 op.a, .int .i64 op.b, .slice op.x op.n op.c]] W fun e w' => ∃ v, e = .returned v ∧ S5 w' pb hb b6 op ∧ Hid (∃ l, FS w0 w' pb hb I' I (i + 1) (200 * i) (fun b => b = b6) (fun b => rowBlk v = some b) ∧ Box6 w' b6 op ∧ Row w' 3 1 v l.length (intCells l) ∧ TM I op.q op.a op.b op.cs l) := fun W hC => by
          refine ((HFb.out.calm hC).tell HSm.out.2.1 (by omega) (by have := HSm.out.2.2; omega) (by omega) (HOp.out.chg0 (HFb.out.calm hC).chg).cs HOn.out h8).mono ?_;rintro e w' ⟨v, l, rfl, hH⟩;obtain ⟨k1, k2, k3, k4⟩ := hH.out;rw [← hI'] at k1;have hbx := (HBx.out.chg hC).on k2;exact ⟨v, rfl, S5.of k1 hbx, Lib.hid ⟨l, k1, hbx, k3, k4⟩⟩
         have HTl := Lib.hid hTl;have hA : Hid (Chg (fun _ => False) wb wc) := HCx;obtain ⟨p0, x0, x1', x2, x3⟩ := HSb.out wc HCx.out;clear hskv HSk h8 hI' hTl HCx
         go_upto_region 6 with fail
         go_cut [7] from 36 to 41 (fun s7 wx => ∃ v, v = s7 ∧ Hid (∃ l, FS w0 wx pb hb I' I (i + 1) (200 * i) (fun b => b = b6) (fun b => rowBlk v = some b) ∧ Box6 wx b6 op ∧ Row wx 3 1 v l.length (intCells l) ∧ TM I op.q op.a op.b op.cs l))
         case first =>
          go_region_held3 (fun W => S5 W pb hb b6 op)
           (first | exact ⟨p0, x0, x1', x2, x3⟩ | exact HSb.out _ hA.out | exact HSb.out _ (hA.out.drew) | exact HSb.out _ (hA.out.drewN _))
           (first
            | (go_at_call 15; refine (HTl.out _ hA.out).mono ?_; rintro e wn ⟨v, rfl, ⟨p0, x0, x1', x2, x3⟩, hT⟩)
            | (go_at_call 15; refine (HTl.out _ hA.out.drew).mono ?_; rintro e wn ⟨v, rfl, ⟨p0, x0, x1', x2, x3⟩, hT⟩))
          all_goals (go_wp2; go_meet; exact ⟨_, rfl, hT⟩)
         case rest =>
          obtain ⟨v, rfl, HT⟩ := hcut;clear p0 x0 x1' x2 x3 hA HTl;have hDo : ∀ W, Chg (fun _ => False) wc W → Calls Tryz.prog 51 #[.pointer (some ⟨pb, 1, none⟩), .agg #[.int .i64 op.kind, .int .i64 op.a, .int .i64 op.b, .slice op.x op.n op.c]] W fun e w' => ∃ u, e = .returned u ∧ S5 w' pb hb b6 op ∧ Hid (FS w0 w' pb hb I' I' (i + 1) (200 * (i + 1)) (fun b => b = b6) (fun _ => False) ∧ Box6 w' b6 op) ∧ Hid (∀ W, Chg (fun _ => False) w' W → Calls Tryz.prog 50 #[v, u] W fun e W' => e = .returned (.bool true) ∧ Chg (fun _ => False) W W') := fun W hC => by
           obtain ⟨l, k1, k2, k3, k4⟩ := HT.out;have k1' := k1.calm hC;refine (k1'.doO (HFb.out.iok HSm.out.1) HSm.out.2.1 (by omega) (by have := HSm.out.2.2; omega) (by omega) (HOp.out.chg0 k1'.chg).cs HOn.out (k3.same fun b hb => hC.block b (k3.lt hb) fun h => h) k4 HI'.out).mono ?_;rintro e w' ⟨u, rfl, hH, hAg⟩;obtain ⟨g1, g2⟩ := hH.out;have hbx := (k2.chg hC).on g2;exact ⟨u, rfl, S5.of g1 hbx, Lib.hid ⟨g1.more (Nat.le_refl _) (by omega), hbx⟩, hAg⟩
          have HDo := Lib.hid hDo;have hSw : ∀ W, Chg (fun _ => False) wc W → S5 W pb hb b6 op := fun W hC => by
           obtain ⟨l, k1, k2, _⟩ := HT.out;exact S5.of (k1.calm hC) (k2.chg hC)
          have HSw := Lib.hid hSw;have HHs : Hid (I'.hs.length ≤ 9000 ∧ ISh I' ∧ SmT I' (i + 1) ((i + 1) * (i + 1)) ∧ (i + 1) * (i + 1) ≤ 6400) := by
           have h1 := HSm.out.2.1.did op.q op.a op.b op.cs;rw [← HI'.out] at h1;have h2 : i * i + 2 * i + 1 = (i + 1) * (i + 1) := by rw [Nat.add_mul, Nat.mul_add]; omega
           rw [h2] at h1;have h3 : (i + 1) * (i + 1) ≤ 6400 := Nat.le_trans (Nat.mul_le_mul (by omega : i + 1 ≤ 80) (by omega : i + 1 ≤ 80)) (by omega);refine ⟨by have := h1.hs; omega, ?_, h1, h3⟩;rw [HI'.out];exact HSm.out.1.did (HFb.out.iok HSm.out.1) _ _ _ _
          obtain ⟨p0, x0, x1', x2, x3⟩ := HSw.out wc (Chg.refl _ _);have hA : Hid (Chg (fun _ => False) wc wc) := Chg.refl _ _;clear hDo hSw
          go_upto_region 7 with fail
          go_cut [62] from 42 to 62 (fun s62 wx => s62 = .bool false ∧ Hid (FS w0 wx pb hb I' I' (i + 1) (200 * (i + 1)) (fun b => b = b6) (fun _ => False) ∧ Box6 wx b6 op))
          case first =>
           go_region_held3 (fun W => S5 W pb hb b6 op)
            (first | exact ⟨p0, x0, x1', x2, x3⟩ | exact HSw.out _ hA.out | exact HSw.out _ (hA.out.drew) | exact HSw.out _ (hA.out.drewN _))
            (first
             | (go_at_call 51; refine (HDo.out _ hA.out).mono ?_; rintro e wd ⟨u, rfl, ⟨p0, x0, x1', x2, x3⟩, hD, hAg⟩; have hA2 : Hid (Chg (fun _ => False) wd wd) := Chg.refl _ _)
             | (go_at_call 51; refine (HDo.out _ hA.out.drew).mono ?_; rintro e wd ⟨u, rfl, ⟨p0, x0, x1', x2, x3⟩, hD, hAg⟩; have hA2 : Hid (Chg (fun _ => False) wd wd) := Chg.refl _ _)
             | (go_at_call 50; refine (hAg.out _ hA2.out).mono ?_; rintro e wn ⟨rfl, hC⟩; have hA2 : Hid (Chg (fun _ => False) wd wn) := hA2.out.trans hC fun _ _ h => h; obtain ⟨p0, x0, x1', x2, x3⟩ := S5.of (hD.out.1.calm hA2.out) (hD.out.2.chg hA2.out); clear hC)
             | (go_at_call 14; refine (sameInts_eq _ hH.out hG.out).mono ?_; rintro e wn ⟨rfl, hC⟩; have hA2 : Hid (Chg (fun _ => False) wd wn) := hA2.out.trans hC fun _ _ h => h; obtain ⟨p0, x0, x1', x2, x3⟩ := S5.of (hD.out.1.calm hA2.out) (hD.out.2.chg hA2.out); clear hC)
             | (go_at_call 22; refine ((hD.out.1.calm hA2.out).handH HHs.out.1).mono ?_; rintro e wn ⟨v1, rfl, hr, hC⟩; have hA2 : Hid (Chg (fun _ => False) wd wn) := hA2.out.trans hC fun _ _ h => h; obtain ⟨p0, x0, x1', x2, x3⟩ := S5.of (hD.out.1.calm hA2.out) (hD.out.2.chg hA2.out); have hH : Hid (Row wn 3 1 v1 I'.hands.length (intCells I'.hands)) := hr; try (have hG : Hid (Row wn 3 1 v2 I'.hands.length (intCells I'.hands)) := hG.out.same fun b hb => hC.block b (hG.out.lt hb) fun h => h); clear hC hr)
             | (go_at_call 52; refine ((hD.out.1.calm hA2.out).handG (hD.out.1.iok HHs.out.2.1) HHs.out.1).mono ?_; rintro e wn ⟨v2, rfl, hr, hC⟩; have hA2 : Hid (Chg (fun _ => False) wd wn) := hA2.out.trans hC fun _ _ h => h; obtain ⟨p0, x0, x1', x2, x3⟩ := S5.of (hD.out.1.calm hA2.out) (hD.out.2.chg hA2.out); have hG : Hid (Row wn 3 1 v2 I'.hands.length (intCells I'.hands)) := hr; try (have hH : Hid (Row wn 3 1 v1 I'.hands.length (intCells I'.hands)) := hH.out.same fun b hb => hC.block b (hH.out.lt hb) fun h => h); clear hC hr))
           all_goals (go_wp2; go_meet; exact ⟨by first | rfl | simp, Lib.hid ⟨hD.out.1.calm hA2.out, hD.out.2.chg hA2.out⟩⟩)
          case rest =>
           obtain ⟨rfl, HR⟩ := hcut;clear p0 x0 x1' x2 x3 hA HDo HSw HT;have HOk : Hid (IOk I') := HR.out.1.iok HHs.out.2.1;obtain ⟨lo, hlo⟩ : ∃ lo, lo = I'.words I'.live := ⟨_, rfl⟩;obtain ⟨hw, hhw⟩ : ∃ hw, hw = I'.words I'.here := ⟨_, rfl⟩;have HKp : Hid (∀ W, Chg (fun _ => False) wc W → Calls Tryz.prog 54 #[.pointer (some ⟨pb, 1, none⟩)] W fun e w' => ∃ sb nn, e = .returned (.slice (some ⟨sb, 0, none⟩) nn nn) ∧ Chg (fun _ => False) W w' ∧
            Hid (∀ W, Chg (fun _ => False) w' W → Calls Tryz.prog 53 #[.pointer (some ⟨pb, 1, none⟩), .slice (some ⟨sb, 0, none⟩) nn nn] W fun e W' => e = .returned (.int .i64 lo) ∧ Chg (fun _ => False) W W')) := fun W hC => by
            have := (HR.out.1.calm hC).kept HOk.out HHs.out.2.2.1 (by omega) (by have := HHs.out.2.2.2; omega) (by omega);rw [← hlo] at this;exact this
           have HMo : Hid (∀ W, FS w0 W pb hb I' I' (i + 1) (200 * (i + 1)) (fun b => b = b6) (fun _ => False) → Calls Tryz.prog 55 #[.pointer (some ⟨pb, 1, none⟩)] W fun e w' => e = .returned (.int .i64 hw) ∧ Chg (fun _ => False) W w') := fun W hF => by
            have := hF.most HOk.out HHs.out.2.2.1 (by omega) (by have := HHs.out.2.2.2; omega) (by omega);rw [← hhw] at this;exact this
           have H16 : Hid (op.q = 16 → hw ≤ lo) := fun hq => by
            have e1 : I' = I.majored := by rw [HI'.out, hq]; rfl
            rw [hlo, hhw, e1];exact I.major_words
           have HUs : Hid (∀ W, Chg (fun _ => False) wc W → Calls Tryz.prog 20 #[.pointer (some ⟨hb, 0, none⟩)] W fun e w' => ∃ u : Nat, e = .returned (.int .i64 u) ∧ (lo ≤ u ∧ u ≤ hw) ∧ Hid (FS w0 w' pb hb I' I' (i + 1) (200 * (i + 1)) (fun b => b = b6) (fun _ => False) ∧ Box6 w' b6 op)) := fun W hC => by
            refine (HR.out.1.calm hC).used.mono ?_;rintro e w' ⟨u, rfl, hu, hH⟩;rw [← hlo, ← hhw] at hu;exact ⟨u, rfl, hu, Lib.hid ⟨hH.out.1, (HR.out.2.chg hC).on hH.out.2⟩⟩
           clear hlo hhw;have hA : Hid (Chg (fun _ => False) wc wc) := Chg.refl _ _;have p0 := HR.out.1.pair;have HP0 : Hid (∀ W, Chg (fun _ => False) wc W → W.cell? ⟨pb, 0, none⟩ = some (.pointer (some ⟨hb, 0, none⟩))) := fun W hC => (HR.out.1.calm hC).pair
           go_upto_region 9 with fail
           go_cut [8] from 63 to 70 (fun s8 wx => s8 = .int .i64 lo ∧ Hid (Chg (fun _ => False) wc wx))
           case first =>
            go_region_held3 (fun W => W.cell? ⟨pb, 0, none⟩ = some (.pointer (some ⟨hb, 0, none⟩)))
             (first | exact p0 | exact HP0.out _ hA.out | exact HP0.out _ (hA.out.drew) | exact HP0.out _ (hA.out.drewN _))
             (first
              | (go_at_call 54; refine (HKp.out _ hA.out).mono ?_; rintro e wn ⟨sb, nn, rfl, hC, hWd⟩; have hA : Hid (Chg (fun _ => False) wc wn) := hA.out.trans hC fun _ _ h => h; clear hC)
              | (go_at_call 54; refine (HKp.out _ hA.out.drew).mono ?_; rintro e wn ⟨sb, nn, rfl, hC, hWd⟩; have hA : Hid (Chg (fun _ => False) wc wn) := hA.out.drew.trans hC fun _ _ h => h; clear hC)
              | (go_at_call 53; refine (hWd.out _ (Chg.refl _ _)).mono ?_; rintro e wn ⟨rfl, hC⟩; have hA : Hid (Chg (fun _ => False) wc wn) := hA.out.trans hC fun _ _ h => h; clear hC))
            all_goals (go_wp2; go_meet; exact ⟨rfl, hA⟩)
           case rest =>
            obtain ⟨rfl, HCy⟩ := hcut;clear p0 hA HKp;have p0 := HP0.out _ HCy.out;have hUs := HUs.out _ HCy.out
            go_wp2_with fail
            refine hUs.mono ?_; rintro e w10 ⟨u, rfl, ⟨hu1, hu2⟩, HF10⟩;have hu1' : ¬ ((u : Int) < (lo : Int)) := by omega
            have hu2' : ¬ ((hw : Int) < (u : Int)) := by omega
            have hMo := HMo.out _ HF10.out.1;have HN : Hid (∀ W, Chg (fun _ => False) w10 W → FRnd w0 W pb hb (i + 1)) := fun W hC => ⟨I', ((HF10.out.1.calm hC).less (fun _ h => h.elim) (fun _ h => h)), HHs.out.2.1, HHs.out.2.2.1⟩;have HX : Hid (∀ W, Chg (fun _ => False) w10 W → Box6 W b6 op) := fun W hC => HF10.out.2.chg hC;have HUe : Hid (op.q = 16 → u = lo) := fun hq => by have := H16.out hq; omega
            clear hUs HUs p0 HP0 HCy HMo HR HF10
            go_wp2_with fail
            refine hMo.mono ?_; rintro e w11 ⟨rfl, hC11⟩;obtain x0 := cellAt (HX.out _ hC11) 0;obtain x1' := cellAt (HX.out _ hC11) 1;obtain x2 := cellAt (HX.out _ hC11) 2;obtain x3 := cellAt (HX.out _ hC11) 3;have HC11 := Lib.hid hC11;have hWh := HWh.out w11;clear hMo hC11 HX HWh;obtain ⟨qq, hqq⟩ : ∃ qq, qq = op.q := ⟨_, rfl⟩;rw [← hqq] at hWh HUe;clear hqq;by_cases h16 : qq = 16
            · subst h16;obtain rfl := HUe.out rfl
              go_wp2_with fail
              refine hWh.mono ?_; rintro e w12 ⟨rfl, hC12⟩;have HN2 := Lib.hid (HN.out _ (HC11.out.trans hC12 fun _ _ h => h));clear hC12 HN x0 x1' x2 x3 hWh;go_wp2
              go_roundw
              case rel => exact ⟨i + 1, by omega, by go_num, HN2⟩
              case measure => simp [intOf]; omega
            · obtain ⟨qi, hqi⟩ : ∃ qi : Int, qi = (qq : Int) := ⟨_, rfl⟩;have hWh' : Calls Tryz.prog 35 #[.agg #[.int .i64 op.kind, .int .i64 op.a, .int .i64 op.b, .slice op.x op.n op.c]] w11 fun e w' => e = .returned (.int .i64 qi) ∧ Chg (fun _ => False) w11 w' := by rw [hqi]; exact hWh
              have hne : ¬ (qi = 16) := by omega
              have hne2 : (qi == 16) = false := beq_eq_false_iff_ne.2 hne;clear hqi hWh h16 HUe
              go_wp2_with fail
              refine hWh'.mono ?_; rintro e w12 ⟨rfl, hC12⟩;have HN2 := Lib.hid (HN.out _ (HC11.out.trans hC12 fun _ _ h => h));clear hC12 HN x0 x1' x2 x3 hWh';go_wp2
              go_roundw
              case rel => exact ⟨i + 1, by omega, by go_num, HN2⟩
              case measure => simp [intOf]; omega
    · have g3' : ¬ ((i : Int) < 80) := by omega
      clear HI HK;go_wp2;go_ret;exact HEnd.out
  · have g1' : ¬ ((i : Int) < (n : Int)) := by omega
    clear HI HK;go_wp2;go_ret;exact HEnd.out
theorem refNew_ok (w : World) (young old : Int) (h : 4 ≤ young ∧ young ≤ 60000 ∧ 4 ≤ old ∧ old ≤ 60000) :
 Calls Tryz.prog 48 #[.int .i64 young, .int .i64 old] w fun e w' => e = .returned (.tuple #[.agg #[.int .i64 old, .slice none 0 0, .slice none 0 0, .slice none 0 0, .slice none 0 0, .slice none 0 0], .int .i64 0]) ∧ Chg (fun _ => False) w w' := by
 obtain ⟨h1, h2, h3, h4⟩ := h;have g1 : ¬ (young < 4) := by omega
 have g2 : ¬ (60000 < young) := by omega
 have g3 : ¬ (old < 4) := by omega
 have g4 : ¬ (60000 < old) := by omega
 have HC : Hid (∀ X, Chg (fun _ => False) w (w.alloc X)) := fun X => (Chg.refl _ _).alloc X;clear h1 h2 h3 h4
 go_enter Tryz.func48, Tryz.ntmps48
 go_wp2;refine bodyPost_ret (v := .tuple #[.agg #[.int .i64 old, .slice none 0 0, .slice none 0 0, .slice none 0 0, .slice none 0 0, .slice none 0 0], .int .i64 0]) (by simp [results, Tryz.results48, go_sem]) rfl ⟨rfl, ?_⟩;exact HC.out _
theorem refNew_no (w : World) (young old : Int) (h : young < 4 ∨ 60000 < young ∨ old < 4 ∨ 60000 < old) :
 Calls Tryz.prog 48 #[.int .i64 young, .int .i64 old] w fun e w' => e = .returned (.tuple #[.agg #[.int .i64 0, .slice none 0 0, .slice none 0 0, .slice none 0 0, .slice none 0 0, .slice none 0 0], .int .i64 1]) ∧ Chg (fun _ => False) w w' := by
 have hcase : young < 4 ∨ (¬ (young < 4) ∧ 60000 < young) ∨ (¬ (young < 4) ∧ ¬ (60000 < young) ∧ old < 4) ∨ (¬ (young < 4) ∧ ¬ (60000 < young) ∧ ¬ (old < 4) ∧ 60000 < old) := by omega
 have HC : Hid (∀ X, Chg (fun _ => False) w (w.alloc X)) := fun X => (Chg.refl _ _).alloc X;clear h;rcases hcase with g1 | ⟨g1, g2⟩ | ⟨g1, g2, g3⟩ | ⟨g1, g2, g3, g4⟩
 all_goals
  go_enter Tryz.func48, Tryz.ntmps48
  go_wp2;refine bodyPost_ret (v := .tuple #[.agg #[.int .i64 0, .slice none 0 0, .slice none 0 0, .slice none 0 0, .slice none 0 0, .slice none 0 0], .int .i64 1]) (by simp [results, Tryz.results48, go_sem]) rfl ⟨rfl, ?_⟩;exact HC.out _
theorem FS.start {w1 w3 w5 : World} {old : Int} (hG : Got w1 hb (List.range w1.heap.size) (IS.start old) 0 w3) (hC : Chg (fun _ => False) w3 w5) (hpb : w5.heap[pb]? = some (.cells #[.pointer (some ⟨hb, 0, none⟩), .int .i64 old, .slice none 0 0, .slice none 0 0, .slice none 0 0, .slice none 0 0, .slice none 0 0] 97 (0, 0))) (hnew : w3.heap.size ≤ pb) :
 FS w1 w5 pb hb (IS.start old) (IS.start old) 0 0 (fun _ => False) (fun _ => False) := by
 have hlt := lt_of_block hpb;have hs := hG.chg.size;refine ⟨⟨⟨old, [], [], [], [], []⟩, List.range w1.heap.size ++ since w3 w5, [pb], hG.hp.allNew (hC.mono fun _ _ h => h.elim), ⟨fun _ => 5, fun _ => .slice none 0 0, ?_⟩, ?_, Nat.le_refl _, fun b hb => ?_, fun b hb => List.mem_append_left _ (List.mem_range.2 hb), fun b hb => ?_, fun b hb => hb.elim, fun b hb => hb.elim⟩, (hG.chg.trans hC fun _ _ h => h.elim).mono fun b hb hn => hn (List.mem_range.2 hb)⟩
 · refine ⟨hpb, fun b hb => ?_, List.mem_singleton.2 rfl, rfl, Row.nil _ _ _, Row.nil _ _ _, Row.nil _ _ _, Row.nil _ _ _, QRow.nil _, fun k b _ hb => by simp [rowBlk] at hb⟩;rw [List.mem_singleton.1 hb]; exact hlt
 · have hnd : ∀ n d, (IS.start old).nd n = some d → False := fun n d hd => by
    unfold IS.nd IS.start at hd
    split at hd
    · simp at hd
    · cases hd
   exact ⟨rfl, rfl, rfl, rfl, rfl, fun n d hd => (hnd n d hd).elim, fun n d hd => (hnd n d hd).elim, fun l hl => by simp at hl, by simp, fun l hl => by simp at hl⟩
 · rw [List.mem_singleton.1 hb];exact List.mem_append_right _ (mem_since.2 ⟨hnew, hlt⟩)
 · rw [List.mem_singleton.1 hb]; omega
theorem begin_ok (w : World) (young old : Int) (h : 4 ≤ young ∧ young ≤ 60000 ∧ 4 ≤ old ∧ old ≤ 60000) :
 Calls Tryz.prog 16 #[.int .i64 young, .int .i64 old] w fun e w' => ∃ pb hb, e = .returned (.tuple #[.pointer (some ⟨pb, 0, none⟩), .bool true]) ∧ Hid (FS w w' pb hb (IS.start old) (IS.start old) 0 0 (fun _ => False) (fun _ => False)) := by
 refine ret_k fun K hK => ?_;have HK := Lib.hid hK;have HNew := Lib.hid (HP.new w young old h (L := List.range w.heap.size) (fun b hb => List.mem_range.1 hb));have HRef := Lib.hid fun w => refNew_ok w young old h;clear hK h
 go_enter Tryz.func16, Tryz.ntmps16
 go_wp2_with fail
 refine HNew.out.mono ?_; rintro e w3 ⟨hb, rfl, hG⟩
 go_wp2_with fail
 refine (HRef.out w3).mono ?_; rintro e w4 ⟨rfl, hC4⟩;have HZ : Hid (Post K (.returned (.tuple #[.pointer (some ⟨w4.heap.size + 1, 0, none⟩), .bool true])) ((w4.alloc (.cells #[.int .i64 old, .slice none 0 0, .slice none 0 0, .slice none 0 0, .slice none 0 0, .slice none 0 0] 93)).alloc (.cells #[.pointer (some ⟨hb, 0, none⟩), .int .i64 old, .slice none 0 0, .slice none 0 0, .slice none 0 0, .slice none 0 0, .slice none 0 0] 97))) := by
  have hC : Chg (fun _ => False) w3 ((w4.alloc (.cells #[.int .i64 old, .slice none 0 0, .slice none 0 0, .slice none 0 0, .slice none 0 0, .slice none 0 0] 93)).alloc (.cells #[.pointer (some ⟨hb, 0, none⟩), .int .i64 old, .slice none 0 0, .slice none 0 0, .slice none 0 0, .slice none 0 0, .slice none 0 0] 97)) := (hC4.alloc _).alloc _;have := hC4.size;exact HK.out _ _ ⟨_, hb, rfl, Lib.hid (FS.start hG.out hC (heap_alloc2_new _ _ _) (by omega))⟩
 clear hG hC4 HK HNew HRef;go_wp2
 go_ret2
 exact HZ.out
theorem begin_no (w : World) (young old : Int) (h : young < 4 ∨ 60000 < young ∨ old < 4 ∨ 60000 < old) :
 Calls Tryz.prog 16 #[.int .i64 young, .int .i64 old] w fun e w' => e = .returned (.tuple #[.pointer none, .bool true]) ∧ Chg (fun _ => False) w w' := by
 refine ret_k fun K hK => ?_;have HK := Lib.hid hK;have HNew := Lib.hid (new_no w young old h);have HRef := Lib.hid fun w => refNew_no w young old h;clear hK h
 go_enter Tryz.func16, Tryz.ntmps16
 go_wp2_with fail
 refine HNew.out.mono ?_; rintro e w3 ⟨rfl, hC3⟩
 go_wp2_with fail
 refine (HRef.out w3).mono ?_; rintro e w4 ⟨rfl, hC4⟩;have HZ : Hid (∀ X, Post K (.returned (.tuple #[.pointer none, .bool true])) (w4.alloc X)) := fun X => HK.out _ _ ⟨rfl, (hC3.trans hC4 fun _ _ h => h).alloc X⟩;clear hC3 hC4 HK HNew HRef;go_wp2
 go_ret2
 exact HZ.out _
theorem heapScript_any (w : World) (young old : Int) (a : Option Addr) (n c : Nat) (o : Nat → OpV) (hops : OpsAt w a n o) (hbig : ∀ i, i < n → (o i).n ≤ 1000000) :
 Calls Tryz.prog 4 #[.int .i64 young, .int .i64 old, .slice a n c] w fun e w' => e = .returned (.bool true) ∧ Chg (fun _ => False) w w' := by
 refine ret_k fun K hK => ?_;have HK := Lib.hid hK;have HS := Lib.hid (sane_any w);by_cases h : 4 ≤ young ∧ young ≤ 60000 ∧ 4 ≤ old ∧ old ≤ 60000
 · have HBe := Lib.hid fun w => begin_ok w young old h;have HOps := Lib.hid hops;have HBig := Lib.hid hbig;clear hK h hops hbig
   go_enter Tryz.func4, Tryz.ntmps4
   go_wp2_with fail
   refine HS.out.mono ?_; rintro e w1 ⟨rfl, hC1⟩
   go_wp2_with fail
   refine (HBe.out w1).mono ?_; rintro e w2 ⟨pb, hb, rfl, hF⟩;have HFo := Lib.hid (follow_any hF.out (HOps.out.chg0 hC1) HBig.out (c := c));have HC1 := Lib.hid hC1;clear hC1 hF HS HBe HOps HBig
   go_wp2_with fail
   refine HFo.out.mono ?_; rintro e w3 ⟨rfl, hC3⟩;have HZ := Lib.hid (HK.out _ _ ⟨rfl, HC1.out.trans hC3 fun _ _ h => h⟩);clear hC3 HK HFo;go_wp2;go_ret;exact HZ.out
 · have HBe := Lib.hid fun w => begin_no w young old (by omega);clear hK h hops hbig
   go_enter Tryz.func4, Tryz.ntmps4
   go_wp2_with fail
   refine HS.out.mono ?_; rintro e w1 ⟨rfl, hC1⟩
   go_wp2_with fail
   refine (HBe.out w1).mono ?_; rintro e w2 ⟨rfl, hC2⟩;have HZ := Lib.hid (HK.out _ _ ⟨rfl, hC1.trans hC2 fun _ _ h => h⟩);clear hC1 hC2 HK HS HBe;go_wp2;go_ret;exact HZ.out
end Go.Proofs.YtelghmmcbgfjnaaGreat
