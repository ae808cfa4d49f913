/-
  Words and Most of the reference's graph. (A part of the proof, joined of: Vi, Vj, Vk, Vl, Vm, Vn, Vo, Vp; made smaller.)
-/
import Derived.Test.YtelghmmcbgfjnaaGreatH22
set_option maxHeartbeats 4000000
set_option maxRecDepth 100000
namespace Go.Proofs.YtelghmmcbgfjnaaGreat
variable {G G' : GS} {I : IS} {L l : List GL} {Lg : List Nat} {c : Wd} {d : Nd} {f : Nat → Bool} {hb i pb sb : Nat} {kn n x : Int} {v : Value} {w : World}
open Go.RowKit
theorem words_g (hR : GRep w pb hb Lg G) (hO : GOk G) (hsz : ∀ x ∈ G.nodes, x.size ≤ 1000) (hM : MarkAt w sb G.nodes.length f) :
 Calls Tryz.prog 53 #[.pointer (some ⟨pb, 1, none⟩), .slice (some ⟨sb, 0, none⟩) G.nodes.length G.nodes.length] w fun e w' => e = .returned (.int .i64 (G.wordsN f)) ∧ Chg (fun _ => False) w w' := by
 refine ret_k fun K hK => ?_;have HK := Lib.hid hK;have HR := Lib.hid hR;have HO := Lib.hid hO;have HSz := Lib.hid hsz;have HMk : Hid (∀ wx, Chg (fun _ => False) w wx → MarkAt wx sb G.nodes.length f) := fun wx hC => hM.same (hC.block _ hM.lt fun h => h);clear hK hR hO hsz hM;obtain ⟨n, hn⟩ : ∃ n, n = G.nodes.length := ⟨_, rfl⟩;have HN : Hid (n = G.nodes.length ∧ n ≤ 9000) := ⟨hn, by rw [hn]; exact HO.out.few.1⟩;obtain ⟨len, hlen⟩ : ∃ len, len = G.links.length := ⟨_, rfl⟩;have HLen : Hid (len = G.links.length ∧ len ≤ 1000000) := ⟨hlen, by rw [hlen]; exact HO.out.few.2.2.2.2⟩
 have HC2 : Hid (∀ wx, Chg (fun _ => False) w wx → ∃ a c, wx.cell? ⟨pb, 2, none⟩ = some (.slice a n c) ∧ ∀ i x, G.nodes[i]? = some x → ∃ b, a = some ⟨b, 0, none⟩ ∧ wx.cell? ⟨b, i * 4, none⟩ = some (.bool x.table) ∧ wx.cell? ⟨b, i * 4 + 1, none⟩ = some (.int .i64 x.tag) ∧ wx.cell? ⟨b, i * 4 + 2, none⟩ = some (.int .i64 x.size) ∧ wx.cell? ⟨b, i * 4 + 3, none⟩ = some (.bool x.gone)) := fun wx hC => by
  obtain ⟨lab, v, hG⟩ := HR.out.still hC;obtain ⟨a, c, _, c2, hc⟩ := hG.nodesC;exact ⟨a, c, by rw [hn]; exact c2, hc⟩
 have HC3 : Hid (∀ wx, Chg (fun _ => False) w wx → ∃ a c, wx.cell? ⟨pb, 3, none⟩ = some (.slice a len c) ∧ ∀ i x, G.links[i]? = some x → ∃ b, a = some ⟨b, 0, none⟩ ∧ wx.cell? ⟨b, i * 5, none⟩ = some (.int .i64 x.frm) ∧ wx.cell? ⟨b, i * 5 + 1, none⟩ = some (.int .i64 x.slot) ∧ wx.cell? ⟨b, i * 5 + 2, none⟩ = some (.int .i64 x.key) ∧ wx.cell? ⟨b, i * 5 + 3, none⟩ = some (.bool x.ref) ∧ wx.cell? ⟨b, i * 5 + 4, none⟩ = some (.int .i64 x.num)) := fun wx hC => by
  obtain ⟨lab, v, hG⟩ := HR.out.still hC;obtain ⟨a, c, _, _, c3, hc⟩ := hG.links;exact ⟨a, c, by rw [hlen]; exact c3, hc⟩
 have HCo := Lib.hid cost_g;rw [← hn] at HMk ⊢;have HW : Hid (G.wordsN f = G.nodeSum f n + 3 * G.linkCnt f len) := by unfold GS.wordsN; rw [hn, hlen]; exact rfl
 clear hn hlen
 go_enter Tryz.func53, Tryz.ntmps53
 go_wp2
 go_loopw [5, 6] (fun s k wx => ∃ i t : Nat, i ≤ n ∧ k = .int .i64 i ∧ s = .int .i64 t ∧ Hid (t = G.nodeSum f i ∧ t ≤ 1001 * i) ∧ Hid (Chg (fun _ => False) w wx)) (fun _ k _ => n - (intOf k).toNat)
 case atStart => exact ⟨0, 0, by omega, rfl, rfl, Lib.hid ⟨rfl, by omega⟩, Lib.hid (Chg.refl _ _)⟩
 case round =>
  obtain ⟨i, t, hi, rfl, rfl, HT, HI⟩ := hrel;obtain ⟨ar, cr, c2, hc2⟩ := HC2.out wr HI.out;by_cases hlt : i < n
  · have hlt' : (i : Int) < (n : Int) := by omega
    have hwi : IntKind.i64.wrap ((i : Int) + 1) = (i : Int) + 1 := IntWalk.i64_in _ (by have := HN.out.2; omega);obtain ⟨x, hx⟩ : ∃ x, G.nodes[i]? = some x := ⟨_, List.getElem?_eq_getElem (by rw [← HN.out.1]; exact hlt)⟩;obtain ⟨b, rfl, k0, k1, k2, k3⟩ := hc2 i x hx;have m0 := (HMk.out wr HI.out).cell hlt;have hnx := nodeSum_next (f := f) hx;cases hf : f i with
    | false =>
      rw [hf] at m0 hnx;have HT2 : Hid (t = G.nodeSum f (i + 1) ∧ t ≤ 1001 * (i + 1)) := ⟨by rw [hnx, ← HT.out.1]; simp, by have := HT.out.2; omega⟩;clear hc2 k0 k1 k2 k3 hx hnx hlt HT hf;go_wp2
      go_roundw
      case rel => exact ⟨i + 1, t, by omega, by go_num, rfl, HT2, HI⟩
      case measure => simp [intOf]; omega
    | true =>
      rw [hf] at m0 hnx;have hxs := HSz.out x (List.mem_of_getElem? hx);have hxc : x.cost ≤ 1001 := by unfold GN.cost; split <;> omega
      have HCx := Lib.hid (HCo.out wr x (by omega));have hwt : IntKind.i64.wrap ((t : Int) + (x.cost : Int)) = ((t + x.cost : Nat) : Int) := by rw [IntWalk.i64_in _ (by have := HT.out.2; have := HN.out.2; omega)]; omega
      have HT2 : Hid (t + x.cost = G.nodeSum f (i + 1) ∧ t + x.cost ≤ 1001 * (i + 1)) := ⟨by rw [hnx, ← HT.out.1]; simp, by have := HT.out.2; omega⟩;clear hc2 hx hnx hlt HT hf hxs hxc;generalize x.cost = xc at *
      go_wp2_with (go_at_call 104; refine HCx.out.mono ?_; rintro e w5 ⟨rfl, hC5⟩)
      go_roundw
      case rel => exact ⟨i + 1, t + xc, by omega, by go_num, by first | rfl | rw [hwt], HT2, Lib.hid (HI.out.trans hC5 fun _ _ h => h)⟩
      case measure => simp [intOf]; omega
  · obtain rfl : i = n := by omega
    clear hc2;go_wp2;clear c2
    go_loopw [5, 7] (fun s k wx => ∃ i2 t2 : Nat, i2 ≤ len ∧ k = .int .i64 i2 ∧ s = .int .i64 t2 ∧ Hid (t2 = G.nodeSum f i + 3 * G.linkCnt f i2 ∧ t2 ≤ 1001 * i + 3 * i2) ∧ Hid (Chg (fun _ => False) w wx)) (fun _ k _ => len - (intOf k).toNat)
    case atStart => exact ⟨0, t, by omega, rfl, rfl, Lib.hid ⟨by rw [HT.out.1]; simp [GS.linkCnt], HT.out.2⟩, HI⟩
    case round =>
     obtain ⟨i2, t2, hi2, rfl, rfl, HT2, HI2⟩ := hrel;clear HT HI;obtain ⟨ar, cr, c3, hc3⟩ := HC3.out wr HI2.out;by_cases hlt2 : i2 < len
     · have hlt' : (i2 : Int) < (len : Int) := by omega
       have hwi : IntKind.i64.wrap ((i2 : Int) + 1) = (i2 : Int) + 1 := IntWalk.i64_in _ (by have := HLen.out.2; omega);have hwt : IntKind.i64.wrap ((t2 : Int) + 3) = ((t2 + 3 : Nat) : Int) := by rw [IntWalk.i64_in _ (by have := HT2.out.2; have := HN.out.2; have := HLen.out.2; omega)]; omega
       obtain ⟨x, hx⟩ : ∃ x, G.links[i2]? = some x := ⟨_, List.getElem?_eq_getElem (by rw [← HLen.out.1]; exact hlt2)⟩;obtain ⟨b, rfl, k0, k1, k2, k3, k4⟩ := hc3 i2 x hx;obtain ⟨⟨hi1, hi2'⟩, hi3, hi4⟩ := HO.out.in_ x (List.mem_of_getElem? hx);rw [← HN.out.1] at hi2' hi3;obtain ⟨cond, hcond⟩ : ∃ cond : Bool, cond = (decide (0 ≤ x.key) && (f x.frm.toNat && f x.key.toNat)) := ⟨_, rfl⟩;have HCond := Lib.hid hcond;have HNx := Lib.hid (linkCnt_next (f := f) hx);rw [← hcond] at HNx;clear hcond hx hc3 hi4;obtain ⟨xf, xs, xk, xr, xn⟩ := x;simp only at hi1 hi2' hi3 k0 k1 k2 k3 k4 HCond;obtain ⟨qf, rfl⟩ : ∃ qf : Nat, xf = qf := ⟨xf.toNat, (Int.toNat_of_nonneg hi1).symm⟩;have HI3 := Lib.hid hi3
       have HQf : Hid (qf < i) := by show _ < _; omega
       clear hi1 hi2' hi3 hlt2
       go_upto_region 11 with fail
       have hCb : Chg (fun _ => False) w (wr.alloc (.cells #[.int .i64 qf, .int .i64 xs, .int .i64 xk, .bool xr, .int .i64 xn] 144)) := HI2.out.alloc _;have hbx := heap_alloc_new wr (.cells #[.int .i64 qf, .int .i64 xs, .int .i64 xk, .bool xr, .int .i64 xn] 144);generalize wr.alloc (.cells #[.int .i64 qf, .int .i64 xs, .int .i64 xk, .bool xr, .int .i64 xn] 144) = wb at hCb hbx ⊢;generalize wr.heap.size = bb at hbx ⊢;have HCb := Lib.hid hCb;have b0 := cellAt hbx 0;have b2 := cellAt hbx 2;clear hbx hCb k0 k1 k2 k3 k4 c3
       go_cut [64] from 48 to 63 (fun s64 wx => s64 = .bool cond ∧ wb = wx)
       case first =>
        have m1 := (HMk.out wb HCb.out).cell HQf.out;have e1 : ((qf : Int)).toNat = qf := Int.toNat_natCast qf;have hqf' : (qf : Int) < (i : Int) := by have := HQf.out; omega
        rw [e1] at HCond;by_cases hk : 0 ≤ xk
        · obtain ⟨h31, h32⟩ := HI3.out.resolve_left (by omega);obtain ⟨qk, rfl⟩ : ∃ qk : Nat, xk = qk := ⟨xk.toNat, (Int.toNat_of_nonneg h31).symm⟩;have m2 := (HMk.out wb HCb.out).cell (j := qk) (by omega);have e2 : ((qk : Int)).toNat = qk := Int.toNat_natCast qk;rw [e2, decide_eq_true hk] at HCond;generalize f qf = y1 at *;generalize f qk = y2 at *;cases y1 <;> cases y2
          all_goals
           go_wp2
           go_meet
           exact ⟨by rw [HCond.out]; rfl, rfl⟩
        · rw [decide_eq_false hk] at HCond;go_wp2
          go_meet
          exact ⟨by rw [HCond.out]; rfl, rfl⟩
       case rest =>
        obtain ⟨rfl, rfl⟩ := hcut;clear b0 b2;cases cond with
        | false =>
          have HT3 : Hid (t2 = G.nodeSum f i + 3 * G.linkCnt f (i2 + 1) ∧ t2 ≤ 1001 * i + 3 * (i2 + 1)) := ⟨by rw [HNx.out]; have := HT2.out.1; simp; omega, by have := HT2.out.2; omega⟩;go_wp2
          go_roundw
          case rel => exact ⟨i2 + 1, t2, by omega, by go_num, rfl, HT3, HCb⟩
          case measure => simp [intOf]; omega
        | true =>
          have HT3 : Hid (t2 + 3 = G.nodeSum f i + 3 * G.linkCnt f (i2 + 1) ∧ t2 + 3 ≤ 1001 * i + 3 * (i2 + 1)) := ⟨by rw [HNx.out]; have := HT2.out.1; simp; omega, by have := HT2.out.2; omega⟩;go_wp2
          go_roundw
          case rel => exact ⟨i2 + 1, t2 + 3, by omega, by go_num, by first | rfl | rw [hwt], HT3, HCb⟩
          case measure => simp [intOf]; omega
     · obtain rfl : i2 = len := by omega
       have e : t2 = G.wordsN f := by rw [HW.out]; exact HT2.out.1
       have HZ := Lib.hid (HK.out _ _ ⟨by rw [← e], HI2.out⟩);clear hc3 HK e;go_wp2;go_ret;exact HZ.out
theorem MarkAt.putB {n : Nat} (h : MarkAt w sb n f) {q : Nat} (hq : q < n) (y : Bool) : MarkAt (w.setCell ⟨sb, q, none⟩ (.bool y)) sb n (fun j => if j = q then y else f j) := by
 obtain ⟨cur, h1, h2, h3⟩ := h.blk;refine ⟨_, heap_setCell h1 q _, by simpa using h2, fun j hj => ?_⟩;by_cases e : j = q
 · subst e;rw [Array.getElem?_setIfInBounds_self_of_lt (by omega)];simp
 · rw [Array.getElem?_setIfInBounds_ne (by omega)];simp only [e, if_false];exact h3 j hj
def GS.hereN (G : GS) (j : Nat) : Bool := ((G.nodes[j]?).map fun x => !x.gone).getD false
theorem most_g (hR : GRep w pb hb Lg G) (hO : GOk G) (hsz : ∀ x ∈ G.nodes, x.size ≤ 1000) :
 Calls Tryz.prog 55 #[.pointer (some ⟨pb, 1, none⟩)] w fun e w' => e = .returned (.int .i64 (G.wordsN G.hereN)) ∧ Chg (fun _ => False) w w' := by
 refine ret_k fun K hK => ?_;have HK := Lib.hid hK;have HR := Lib.hid hR;have HO := Lib.hid hO;have HSz := Lib.hid hsz;clear hK hR hO hsz;obtain ⟨n, hn⟩ : ∃ n, n = G.nodes.length := ⟨_, rfl⟩;have HN : Hid (n = G.nodes.length ∧ n ≤ 9000) := ⟨hn, by rw [hn]; exact HO.out.few.1⟩;have HC2 : Hid (∀ wx, Chg (fun _ => False) w wx → ∃ a c, wx.cell? ⟨pb, 2, none⟩ = some (.slice a n c) ∧ ∀ i x, G.nodes[i]? = some x → ∃ b, a = some ⟨b, 0, none⟩ ∧ wx.cell? ⟨b, i * 4, none⟩ = some (.bool x.table) ∧ wx.cell? ⟨b, i * 4 + 1, none⟩ = some (.int .i64 x.tag) ∧ wx.cell? ⟨b, i * 4 + 2, none⟩ = some (.int .i64 x.size) ∧ wx.cell? ⟨b, i * 4 + 3, none⟩ = some (.bool x.gone)) := fun wx hC => by
  obtain ⟨lab, v, hG⟩ := HR.out.still hC;obtain ⟨a, c, _, c2, hc⟩ := hG.nodesC;exact ⟨a, c, by rw [hn]; exact c2, hc⟩
 clear hn;obtain ⟨a2, cc2, c2, hc2⟩ := HC2.out w (Chg.refl _ _);obtain ⟨X, hmk, hM0⟩ := make_marks w n (by have := HN.out.2; omega);have HM0 : Hid (MarkAt (w.alloc X) w.heap.size n (fun j => decide (j < 0) && G.hereN j) ∧ Chg (fun _ => False) w (w.alloc X)) := ⟨hM0.ext fun j _ => by simp, (Chg.refl _ _).alloc X⟩;clear hM0 hc2
 go_enter Tryz.func55, Tryz.ntmps55
 go_wp2_with (first | (at_make; go_must (refine wpList_val rfl (exec_makeSlice rfl (by exact hmk)) ?_)))
 generalize w.alloc X = w1 at HM0 ⊢;obtain ⟨sb, hsb⟩ : ∃ sb, sb = w.heap.size := ⟨_, rfl⟩;have HSb := Lib.hid hsb;rw [← hsb] at HM0 ⊢;clear hmk c2 hsb
 go_loopw [4] (fun k wx => ∃ i : Nat, i ≤ n ∧ k = .int .i64 i ∧ Hid (MarkAt wx sb n (fun j => decide (j < i) && G.hereN j) ∧ Chg (fun _ => False) w wx)) (fun k _ => n - (intOf k).toNat)
 case atStart => exact ⟨0, by omega, rfl, HM0⟩
 case round =>
  obtain ⟨i, hi, rfl, HI⟩ := hrel;clear HM0;obtain ⟨ar, cr, c2, hc2⟩ := HC2.out wr HI.out.2;by_cases hlt : i < n
  · have hlt' : (i : Int) < (n : Int) := by omega
    have hwi : IntKind.i64.wrap ((i : Int) + 1) = (i : Int) + 1 := IntWalk.i64_in _ (by have := HN.out.2; omega);obtain ⟨x, hx⟩ : ∃ x, G.nodes[i]? = some x := ⟨_, List.getElem?_eq_getElem (by rw [← HN.out.1]; exact hlt)⟩;obtain ⟨b, rfl, k0, k1, k2, k3⟩ := hc2 i x hx;have m4 := HI.out.1.cell hlt;have m5 := HI.out.1.free i;have hxe : G.hereN i = !x.gone := by unfold GS.hereN; rw [hx]; rfl
    have HI2 : Hid (MarkAt (wr.setCell ⟨sb, i, none⟩ (.bool (!x.gone))) sb n (fun j => decide (j < i + 1) && G.hereN j) ∧ Chg (fun _ => False) w (wr.setCell ⟨sb, i, none⟩ (.bool (!x.gone)))) := by
     refine ⟨(HI.out.1.putB hlt _).ext fun j hj => ?_, HI.out.2.setCell (p := ⟨sb, i, none⟩) (fun h => by have := HSb.out; simp only at h; omega) _⟩;by_cases e : j = i
     · subst e; simp [hxe]
     · have : (decide (j < i + 1)) = decide (j < i) := by by_cases h : j < i <;> simp [h] <;> omega
       simp [e, this]
    generalize x.gone = y at *;generalize (decide (i < i) && G.hereN i) = z at m4;clear hc2 k0 k1 k2 hx hxe HI hlt;cases y
    all_goals
     go_wp2
     go_roundw
     case rel => exact ⟨i + 1, by omega, by go_num, HI2⟩
     case measure => simp [intOf]; omega
  · obtain rfl : i = n := by omega
    have hM : MarkAt wr sb i G.hereN := HI.out.1.ext fun j hj => by simp [hj]
    have hW := words_g (HR.out.still HI.out.2) HO.out HSz.out (sb := sb) (f := G.hereN) (by rw [← HN.out.1]; exact hM);rw [← HN.out.1] at hW;have HW : Hid (Calls Tryz.prog 53 #[.pointer (some ⟨pb, 1, none⟩), .slice (some ⟨sb, 0, none⟩) i i] wr fun e w' => e = .returned (.int .i64 (G.wordsN G.hereN)) ∧ Post K (.returned (.int .i64 (G.wordsN G.hereN))) w') := by
     refine hW.mono ?_;rintro e w' ⟨rfl, hC⟩;exact ⟨rfl, HK.out _ _ ⟨rfl, HI.out.2.trans hC fun _ _ h => h⟩⟩
    clear hW hM HI hc2 HK
    go_wp2_with (go_at_call 53; refine HW.out.mono ?_; rintro e w5 ⟨rfl, hPost⟩)
    go_ret;exact hPost
def isEnt (node : Int) (o : Option GL) : Bool := match o with
 | some l => decide (l.frm = node) && decide (0 ≤ l.key)
 | none => false
def GS.entIdx (G : GS) (node : Int) (i : Nat) : List Int := ((List.range i).filter fun j => isEnt node G.links[j]?).map Int.ofNat
theorem entIdx_next {node : Int} : G.entIdx node (i + 1) = G.entIdx node i ++ if isEnt node G.links[i]? then [(i : Int)] else [] := by
 unfold GS.entIdx;rw [List.range_succ, List.filter_append, List.map_append]
 congr 1
 simp only [List.filter_cons, List.filter_nil]
 split <;> simp
theorem entIdx_len (G : GS) (node : Int) (i : Nat) : (G.entIdx node i).length ≤ i := by
 unfold GS.entIdx;rw [List.length_map];have := List.length_filter_le (fun j => isEnt node G.links[j]?) (List.range i);simpa using this
theorem entries_g (hR : GRep w pb hb Lg G) (hbig : G.links.length ≤ 1000000) (node : Int) :
 Calls Tryz.prog 120 #[.pointer (some ⟨pb, 1, none⟩), .int .i64 node] w fun e w' => ∃ v, e = .returned v ∧ IRow w' w.heap.size v (G.entIdx node G.links.length) ∧ Chg (fun _ => False) w w' := by
 refine ret_k fun K hK => ?_;have HK := Lib.hid hK;have HR := Lib.hid hR;clear hK hR;obtain ⟨len, hlen⟩ : ∃ len, len = G.links.length := ⟨_, rfl⟩;have HLen : Hid (len = G.links.length ∧ len ≤ 1000000) := ⟨hlen, by rw [hlen]; exact hbig⟩;have HC3 : Hid (∀ wx, Chg (fun _ => False) w wx → ∃ a c, wx.cell? ⟨pb, 3, none⟩ = some (.slice a len c) ∧ ∀ i x, G.links[i]? = some x → ∃ b, a = some ⟨b, 0, none⟩ ∧ wx.cell? ⟨b, i * 5, none⟩ = some (.int .i64 x.frm) ∧ wx.cell? ⟨b, i * 5 + 1, none⟩ = some (.int .i64 x.slot) ∧ wx.cell? ⟨b, i * 5 + 2, none⟩ = some (.int .i64 x.key) ∧ wx.cell? ⟨b, i * 5 + 3, none⟩ = some (.bool x.ref) ∧ wx.cell? ⟨b, i * 5 + 4, none⟩ = some (.int .i64 x.num)) := fun wx hC => by
  obtain ⟨lab, v, hG⟩ := HR.out.still hC;obtain ⟨a, c, _, _, c3, hc⟩ := hG.links;exact ⟨a, c, by rw [hlen]; exact c3, hc⟩
 rw [← hlen] at HK;clear hlen hbig
 go_enter Tryz.func120, Tryz.ntmps120
 go_wp2
 go_loopw [5, 6] (fun o k wx => ∃ (i : Nat) (u : Value), u = o ∧ i ≤ len ∧ k = .int .i64 i ∧ Hid (Chg (fun _ => False) w wx ∧ IRow wx w.heap.size u (G.entIdx node i))) (fun _ k _ => len - (intOf k).toNat)
 case atStart => exact ⟨0, _, rfl, by omega, rfl, Lib.hid ⟨Chg.refl _ _, Row.nil _ _ _, fun b hb => by simp [rowBlk] at hb⟩⟩
 case round =>
  obtain ⟨i, u, rfl, hi, rfl, HI⟩ := hrel;obtain ⟨ar, cr, c3, hc3⟩ := HC3.out wr HI.out.1;by_cases hlt : i < len
  · have hlt' : (i : Int) < (len : Int) := by omega
    have hwi : IntKind.i64.wrap ((i : Int) + 1) = (i : Int) + 1 := IntWalk.i64_in _ (by have := HLen.out.2; omega);obtain ⟨x, hx⟩ : ∃ x, G.links[i]? = some x := ⟨_, List.getElem?_eq_getElem (by rw [← HLen.out.1]; exact hlt)⟩;obtain ⟨b, rfl, k0, k1, k2, k3, k4⟩ := hc3 i x hx;have hle := entIdx_len G node i;have hnx := entIdx_next (G := G) (node := node) (i := i);rw [hx] at hnx;obtain ⟨xf, xs, xk, xr, xn⟩ := x;simp only [isEnt] at k0 k2 hnx;by_cases hf : xf = node
    · by_cases hk : 0 ≤ xk
      · subst hf;replace hnx : G.entIdx xf (i + 1) = G.entIdx xf i ++ [(i : Int)] := by rw [hnx]; simp [hk]
        obtain ⟨a3, c3', w3, happ, hrow3, hC3, hloc3⟩ := appOne HI.out.2.row (i : Int) (by have := HLen.out.2; omega);have hI3 : Chg (fun _ => False) w w3 ∧ IRow w3 w.heap.size (.slice a3 ((G.entIdx xf i).length + 1) c3') (G.entIdx xf (i + 1)) := by
         refine ⟨HI.out.1.trans hC3 fun b hb h => ?_, ?_⟩
         · have := HI.out.2.new b h; omega
         · rw [hnx];refine ⟨?_, fun b hb => ?_⟩
           · rw [List.length_append, List.length_singleton];rw [List.length_append, List.length_singleton] at hrow3;exact hrow3
           · rcases hloc3 b hb with h | h
             · exact HI.out.2.new b h
             · have := HI.out.1.size; omega
        have HI3 := Lib.hid hI3;generalize (G.entIdx xf i).length = n at *;clear HI hrow3 hC3 hloc3 hI3 hle hnx hc3 hx hlt k1 k3 k4
        go_wp2_with (first | (at_builtin; go_must (refine wpList_val rfl (exec_append rfl happ) ?_)))
        go_roundw
        case rel => exact ⟨i + 1, _, rfl, by omega, by go_num, HI3⟩
        case measure => simp [intOf]; omega
      · replace hnx : G.entIdx node (i + 1) = G.entIdx node i := by rw [hnx]; simp [hk]
        rw [← hnx] at HI;clear hnx hc3 hx hlt k1 k3 k4 hle;subst hf;go_wp2
        go_roundw
        case rel => exact ⟨i + 1, u, rfl, by omega, by go_num, HI⟩
        case measure => simp [intOf]; omega
    · replace hnx : G.entIdx node (i + 1) = G.entIdx node i := by rw [hnx]; simp [hf]
      rw [← hnx] at HI;clear hnx hc3 hx hlt k1 k3 k4 hle;go_wp2
      go_roundw
      case rel => exact ⟨i + 1, u, rfl, by omega, by go_num, HI⟩
      case measure => simp [intOf]; omega
  · obtain rfl : i = len := by omega
    have HZ := Lib.hid (HK.out _ _ ⟨_, rfl, HI.out.2, HI.out.1⟩);clear HK HI hc3;go_wp2;go_ret;exact HZ.out
def keepL (l : List GL) (f : Nat → Bool) (i : Nat) : List GL := ((List.range i).filter fun j => !f j).filterMap fun j => l[j]?
theorem keepL_next {x : GL} (hx : l[i]? = some x) : keepL l f (i + 1) = keepL l f i ++ if f i then [] else [x] := by
 unfold keepL;rw [List.range_succ, List.filter_append, List.filterMap_append]
 congr 1
 simp only [List.filter_cons, List.filter_nil];cases f i <;> simp [hx]
theorem keepL_len (l : List GL) (f : Nat → Bool) (i : Nat) : (keepL l f i).length ≤ i := by
 unfold keepL;have h1 := List.length_filterMap_le (fun j => l[j]?) ((List.range i).filter fun j => !f j);have h2 := List.length_filter_le (fun j => !f j) (List.range i);simp only [List.length_range] at h2;omega
theorem keepL_filter {P : GL → Bool} (h : ∀ j x, l[j]? = some x → f j = P x) : keepL l f l.length = l.filter fun x => !P x := by
 have : ∀ i, i ≤ l.length → keepL l f i = (l.take i).filter fun x => !P x := by
  intro i
  induction i with
  | zero => intro _; simp [keepL]
  | succ i ih =>
    intro hi;obtain ⟨x, hx⟩ : ∃ x, l[i]? = some x := ⟨_, List.getElem?_eq_getElem (by omega)⟩;rw [keepL_next hx, ih (by omega), h i x hx, List.take_add_one, hx, List.filter_append]
    congr 1
    simp only [Option.toList_some];cases hP : P x <;> simp [hP]
 rw [this _ (Nat.le_refl _), List.take_length]
theorem uLinks : Tryz.prog.underlying 90 = some (.slice 144) := by kernel_rfl
theorem iLink : (Tryz.prog.info? 144).map (fun i => (i.zero, i.size, i.bytes)) = some (some (.agg #[.int .i64 0, .int .i64 0, .int .i64 0, .bool false, .int .i64 0]), 5, 40) := by kernel_rfl
theorem glOne (x : GL) : ∀ u ∈ x.cells, u.oneCell' = true := fun u hu => by
 simp only [GL.cells, List.mem_cons, List.not_mem_nil, or_false] at hu;rcases hu with rfl | rfl | rfl | rfl | rfl <;> rfl
theorem without_g (hrow : Row w 144 5 v l.length (glCells l)) {db : Nat} (hM : MarkAt w db l.length f) (hbig : l.length ≤ 1000000) :
 Calls Tryz.prog 128 #[v, .slice (some ⟨db, 0, none⟩) l.length l.length] w fun e w' => ∃ v', e = .returned v' ∧ Row w' 144 5 v' (keepL l f l.length).length (glCells (keepL l f l.length)) ∧ (∀ b, rowBlk v' = some b → w.heap.size ≤ b) ∧ Chg (fun _ => False) w w' := by
 refine ret_k fun K hK => ?_;have HK := Lib.hid hK;clear hK;obtain ⟨len, hlen⟩ : ∃ len, len = l.length := ⟨_, rfl⟩;have HLen : Hid (len = l.length ∧ len ≤ 1000000) := ⟨hlen, by rw [hlen]; exact hbig⟩;obtain ⟨a0, c0, e0, _, _, hcell⟩ := Row.at_ (f := GL.cells) (fun _ => rfl) hrow;rw [← hlen] at HK hM e0 ⊢;rw [e0];have HMk : Hid (∀ wx, Chg (fun _ => False) w wx → MarkAt wx db len f) := fun wx hC => hM.same (hC.block _ hM.lt fun h => h)
 have HC3 : Hid (∀ wx, Chg (fun _ => False) w wx → ∀ i x, l[i]? = some x → ∃ b, a0 = some ⟨b, 0, none⟩ ∧ wx.cell? ⟨b, i * 5, none⟩ = some (.int .i64 x.frm) ∧ wx.cell? ⟨b, i * 5 + 1, none⟩ = some (.int .i64 x.slot) ∧ wx.cell? ⟨b, i * 5 + 2, none⟩ = some (.int .i64 x.key) ∧ wx.cell? ⟨b, i * 5 + 3, none⟩ = some (.bool x.ref) ∧ wx.cell? ⟨b, i * 5 + 4, none⟩ = some (.int .i64 x.num)) := fun wx hC i x hx => by
  obtain ⟨b, e1, _, e2⟩ := hcell i x hx;exact ⟨b, e1, cell_chg hC (e2 0 _ rfl) (fun h => h), cell_chg hC (e2 1 _ rfl) (fun h => h), cell_chg hC (e2 2 _ rfl) (fun h => h), cell_chg hC (e2 3 _ rfl) (fun h => h), cell_chg hC (e2 4 _ rfl) (fun h => h)⟩
 clear hlen hbig hcell hM e0 hrow
 go_enter Tryz.func128, Tryz.ntmps128
 go_wp2
 go_loopw [5, 6] (fun o k wx => ∃ (i : Nat) (u : Value), u = o ∧ i ≤ len ∧ k = .int .i64 i ∧ Hid (Chg (fun _ => False) w wx ∧ Row wx 144 5 u (keepL l f i).length (glCells (keepL l f i)) ∧ ∀ b, rowBlk u = some b → w.heap.size ≤ b)) (fun _ k _ => len - (intOf k).toNat)
 case atStart => exact ⟨0, _, rfl, by omega, rfl, Lib.hid ⟨Chg.refl _ _, Row.nil _ _ _, fun b hb => by simp [rowBlk] at hb⟩⟩
 case round =>
  obtain ⟨i, u, rfl, hi, rfl, HI⟩ := hrel;by_cases hlt : i < len
  · have hlt' : (i : Int) < (len : Int) := by omega
    have hwi : IntKind.i64.wrap ((i : Int) + 1) = (i : Int) + 1 := IntWalk.i64_in _ (by have := HLen.out.2; omega);obtain ⟨x, hx⟩ : ∃ x, l[i]? = some x := ⟨_, List.getElem?_eq_getElem (by rw [← HLen.out.1]; exact hlt)⟩;obtain ⟨b, rfl, k0, k1, k2, k3, k4⟩ := HC3.out wr HI.out.1 i x hx;have m0 := (HMk.out wr HI.out.1).cell hlt;have hle := keepL_len l f i;have hnx := keepL_next (f := f) hx;cases hf : f i with
    | true =>
      rw [hf] at m0 hnx;simp only [if_true, List.append_nil] at hnx;rw [← hnx] at HI;clear hnx hx hlt k0 k1 k2 k3 k4 hle hf;go_wp2
      go_roundw
      case rel => exact ⟨i + 1, u, rfl, by omega, by go_num, HI⟩
      case measure => simp [intOf]; omega
    | false =>
      rw [hf] at m0 hnx;simp only [Bool.false_eq_true, if_false] at hnx;obtain ⟨a3, c3', w3, happ, hrow3, hC3, hloc3⟩ := app_struct 90 144 5 40 _ uLinks iLink rfl (by decide) (f := GL.cells) (fun _ => rfl) glOne HI.out.2.1 x (by have := HLen.out.2; omega) (by have := HLen.out.2; omega);have HI3 : Hid (Chg (fun _ => False) w w3 ∧ Row w3 144 5 (.slice a3 ((keepL l f i).length + 1) c3') (keepL l f (i + 1)).length (glCells (keepL l f (i + 1))) ∧ ∀ b, rowBlk (.slice a3 ((keepL l f i).length + 1) c3') = some b → w.heap.size ≤ b) := by
       refine ⟨HI.out.1.trans hC3 fun b hb h => ?_, by rw [hnx]; exact hrow3, fun b hb => ?_⟩
       · have := HI.out.2.2 b h; omega
       · rcases hloc3 b hb with h | h
         · exact HI.out.2.2 b h
         · have := HI.out.1.size; omega
      obtain ⟨xf, xs, xk, xr, xn⟩ := x;have happ' : (Builtin.append_ #[90, 90] 90 #[u, .slice (some ⟨wr.heap.size, 0, none⟩) 1 1]).run Tryz.prog (wr.alloc (.cells #[.int .i64 xf, .int .i64 xs, .int .i64 xk, .bool xr, .int .i64 xn] 144)) = .ok (.slice a3 ((keepL l f i).length + 1) c3') w3 := happ;simp only at k0 k1 k2 k3 k4;generalize (keepL l f i).length = n at *;clear HI hrow3 hC3 hloc3 hle hnx hx hlt happ hf
      go_wp2_with (first | (at_builtin; go_must (refine wpList_val rfl (exec_append rfl happ') ?_)))
      go_roundw
      case rel => exact ⟨i + 1, _, rfl, by omega, by go_num, HI3⟩
      case measure => simp [intOf]; omega
  · obtain rfl : i = len := by omega
    have HZ := Lib.hid (HK.out _ _ ⟨_, rfl, HI.out.2.1, HI.out.2.2, HI.out.1⟩);clear HK HI;go_wp2;go_ret;exact HZ.out
def gnode (d : Nd) : GN := ⟨d.table, d.tag, d.flds.length, d.gone⟩
def gfld (n : Int) (p : Wd × Nat) : GL := ⟨n, p.2, -1, p.1.ref, p.1.num⟩
def gflds (n : Int) (l : List Wd) : List GL := l.zipIdx.map (gfld n)
def gent (n : Int) (x : En) : GL := ⟨n, -1, x.key, x.val.ref, x.val.num⟩
def GL.id (l : GL) : Int × Int × Int := (l.frm, l.slot, l.key)
def isFld (n : Int) (l : GL) : Bool := decide (l.frm = n) && decide (l.key < 0)
def isEn (n : Int) (l : GL) : Bool := decide (l.frm = n) && decide (0 ≤ l.key)
structure GSim (G : GS) (I : IS) : Prop where
 room : G.room = I.room
 roots : G.roots = I.hs
 wanted : G.wanted = I.reg
 queue : G.queue = I.queue
 nodes : G.nodes = I.nodes.map gnode
 flds : ∀ n d, I.nd n = some d → d.gone = false → G.links.filter (isFld n) = gflds n d.flds
 ents : ∀ n d, I.nd n = some d → d.gone = false → G.links.filter (isEn n) = (d.ents.filter fun x => I.here x.key).map (gent n)
 dead : ∀ l ∈ G.links, ∃ d : Nd, I.nd l.frm = some d ∧ d.gone = false
 nodup : (G.links.map GL.id).Nodup
 num : ∀ l ∈ G.links, l.ref = true → (I.nd l.num).isSome
structure ISh (I : IS) : Prop where
 tab : ∀ n d, I.nd n = some d → d.table = true → d.flds = []
 obj : ∀ n d, I.nd n = some d → d.table = false → d.ents = []
 len : ∀ n d, I.nd n = some d → d.flds.length ≤ 200
 key : ∀ n d, I.nd n = some d → ∀ x ∈ d.ents, 0 ≤ x.key
structure IOk (I : IS) : Prop where
 sh : ISh I
 kept : ∀ n, I.kept n → ∃ d, I.nd n = some d ∧ d.gone = false
 hnod : (I.hs.map (·.1)).Nodup
 hkey : ∀ k ∈ I.hs.map (·.1), 0 ≤ k ∧ k < 9000
 uniq : ∀ n d, I.nd n = some d → (d.ents.map (·.key)).Nodup
 keys : ∀ n d, I.nd n = some d → ∀ x ∈ d.ents, x.key < I.nodes.length
theorem HP.iok {L : List Nat} {m : Nat} (h : HP w hb L I m) (hs : ISh I) : IOk I := by
 obtain ⟨g, A, h1, h2, rfl, h4⟩ := h;refine ⟨hs, fun n hn => ?_, ?_, fun k hk => ?_, h2.uniq, h2.keys⟩
 · obtain ⟨o, ho⟩ := Option.isSome_iff_exists.1 (h2.sim.keep n hn);obtain ⟨d, g1, _, _, _, _, g6⟩ := h2.sim.obj _ _ ho;exact ⟨d, g1, g6⟩
 · have := handles_nodup h1
   rwa [h2.sim.hs] at this
 · rw [← h2.sim.hs] at hk;have := h2.good.free.key k hk;have := h2.good.free.next9;omega
theorem IOk.held (h : IOk I) {k : Int} (hl : I.hs.lookup k = some n) : ∃ d, I.nd n = some d ∧ d.gone = false :=
 h.kept n (.root (List.mem_append_left _ (List.mem_append_right _ (held_of hl))))
theorem mem_gflds {l : List Wd} {x : GL} : x ∈ gflds n l ↔ ∃ (i : Nat) (c : Wd), l[i]? = some c ∧ x = ⟨n, i, -1, c.ref, c.num⟩ := by
 unfold gflds gfld;rw [List.mem_map];constructor
 · rintro ⟨⟨c, i⟩, h, rfl⟩;have := List.mem_zipIdx_iff_getElem?.1 h;exact ⟨i, c, this, rfl⟩
 · rintro ⟨i, c, h, rfl⟩;exact ⟨(c, i), List.mem_zipIdx_iff_getElem?.2 h, rfl⟩
theorem GSim.fld_of (h : GSim G I) {l : GL} (hl : l ∈ G.links) (hk : l.key < 0) : ∃ (d : Nd) (i : Nat) (c : Wd), I.nd l.frm = some d ∧ d.gone = false ∧ d.flds[i]? = some c ∧ l = ⟨l.frm, i, -1, c.ref, c.num⟩ := by
 obtain ⟨d, h1, h2⟩ := h.dead l hl;have h3 : l ∈ G.links.filter (isFld l.frm) := List.mem_filter.2 ⟨hl, by simp [isFld, hk]⟩;rw [h.flds _ d h1 h2] at h3;obtain ⟨i, c, h4, h5⟩ := mem_gflds.1 h3;exact ⟨d, i, c, h1, h2, h4, h5⟩
theorem GSim.ent_of (h : GSim G I) {l : GL} (hl : l ∈ G.links) (hk : 0 ≤ l.key) : ∃ d x, I.nd l.frm = some d ∧ d.gone = false ∧ x ∈ d.ents ∧ I.here x.key = true ∧ l = gent l.frm x := by
 obtain ⟨d, h1, h2⟩ := h.dead l hl;have h3 : l ∈ G.links.filter (isEn l.frm) := List.mem_filter.2 ⟨hl, by simp [isEn, hk]⟩;rw [h.ents _ d h1 h2] at h3;obtain ⟨x, h4, h5⟩ := List.mem_map.1 h3;obtain ⟨h6, h7⟩ := List.mem_filter.1 h4;exact ⟨d, x, h1, h2, h6, h7, h5.symm⟩
theorem GSim.of_fld (h : GSim G I) (hd : I.nd n = some d) (hg : d.gone = false) (hc : d.flds[i]? = some c) : (⟨n, i, -1, c.ref, c.num⟩ : GL) ∈ G.links := by
 have : (⟨n, i, -1, c.ref, c.num⟩ : GL) ∈ G.links.filter (isFld n) := by rw [h.flds n d hd hg]; exact mem_gflds.2 ⟨i, c, hc, rfl⟩
 exact (List.mem_filter.1 this).1
theorem GSim.of_ent (h : GSim G I) (hd : I.nd n = some d) (hg : d.gone = false) {x : En} (hx : x ∈ d.ents) (hh : I.here x.key = true) : gent n x ∈ G.links := by
 have : gent n x ∈ G.links.filter (isEn n) := by rw [h.ents n d hd hg]; exact List.mem_map.2 ⟨x, List.mem_filter.2 ⟨hx, hh⟩, rfl⟩
 exact (List.mem_filter.1 this).1
theorem here_of (hd : I.nd n = some d) (hg : d.gone = false) : I.here n = true := by unfold IS.here; rw [hd]; simp [hg]
theorem of_here (h : I.here n = true) : ∃ d, I.nd n = some d ∧ d.gone = false := by
 unfold IS.here at h;cases hd : I.nd n with
 | none => rw [hd] at h; cases h
 | some d => rw [hd] at h; exact ⟨d, rfl, by simpa using h⟩
theorem mem_refsW {l : List Wd} {m : Int} : m ∈ refsW l ↔ ∃ (i : Nat) (c : Wd), l[i]? = some c ∧ c.ref = true ∧ c.num = m := by
 unfold refsW;constructor
 · intro h;obtain ⟨c, h1, rfl⟩ := List.mem_map.1 h;obtain ⟨h2, h3⟩ := List.mem_filter.1 h1;obtain ⟨i, hi, rfl⟩ := List.getElem_of_mem h2;exact ⟨i, _, List.getElem?_eq_getElem hi, h3, rfl⟩
 · rintro ⟨i, c, h1, h2, rfl⟩;exact List.mem_map.2 ⟨c, List.mem_filter.2 ⟨List.mem_of_getElem? h1, h2⟩, rfl⟩
theorem GSim.reach (h : GSim G I) (hs : ISh I) {l : List Int} (hk : ∀ n, IReach I l n → ∃ d, I.nd n = some d ∧ d.gone = false) : SReach G.links (fun m => m ∈ l) n ↔ IReach I l n := by
 constructor
 · intro hr
   induction hr with
   | root h1 => exact .root h1
   | @field x hl hr _ hx ih =>
     obtain ⟨d, i, c, h1, h2, h3, h4⟩ := h.fld_of hl hx;have hcr : c.ref = true := by rw [h4] at hr; exact hr
     have hcn : c.num = x.num := by rw [h4]
     have ht : d.table = false := by
      cases ht : d.table with
      | false => rfl
      | true => rw [hs.tab _ d h1 ht] at h3; simp at h3
     exact .field ih h1 ht (mem_refsW.2 ⟨i, c, h3, hcr, hcn⟩)
   | @entry x hl hr _ hky ih1 ih2 =>
     by_cases hx : 0 ≤ x.key
     · obtain ⟨d, e, h1, h2, h3, h4, h5⟩ := h.ent_of hl hx;have ht : d.table = true := by
        cases ht : d.table with
        | true => rfl
        | false => rw [hs.obj _ d h1 ht] at h3; cases h3
       have e1 : x.key = e.key := by rw [h5]; rfl
       have e2 : x.num = e.val.num := by rw [h5]; rfl
       have e3 : e.val.ref = true := by rw [h5] at hr; exact hr
       rw [e2];rw [e1] at ih2;exact .entry ih1 h1 ht h3 ih2 e3
     · obtain ⟨d, h1, _⟩ := hk _ ih2;have := (IS.nd_nat h1).1;omega
 · intro hr
   induction hr with
   | root h1 => exact .root h1
   | field hp hd ht hm ih =>
     obtain ⟨d', h1, h2⟩ := hk _ hp;rw [hd] at h1;simp only [Option.some.injEq] at h1;subst h1;obtain ⟨i, c, h3, h4, rfl⟩ := mem_refsW.1 hm;exact .field (h.of_fld hd h2 h3) h4 ih (by simp)
   | entry hp hd ht hx hky hr ih1 ih2 =>
     obtain ⟨d', h1, h2⟩ := hk _ hp;rw [hd] at h1;simp only [Option.some.injEq] at h1;subst h1;obtain ⟨d2, h3, h4⟩ := hk _ hky;exact SReach.entry (h.of_ent hd h2 hx (here_of h3 h4)) hr ih1 ih2
theorem GSim.keptM (h : GSim G I) (ho : IOk I) (n : Int) : dec (SReach G.links G.keptP n) = I.live n := by
 have e : SReach G.links G.keptP n ↔ I.kept n := by
  have := h.reach ho.sh (l := I.roots ++ I.reg) ho.kept (n := n);unfold GS.keptP;rw [h.queue, h.roots, h.wanted];exact this
 unfold IS.live;cases hd : dec (I.kept n) with
 | true => exact dec_iff.2 (e.2 (dec_iff.1 hd))
 | false =>
   cases hd2 : dec (SReach G.links G.keptP n) with
   | false => rfl
   | true => rw [dec_iff.2 (e.1 (dec_iff.1 hd2))] at hd; cases hd
theorem GSim.reachM (h : GSim G I) (ho : IOk I) (n : Int) : dec (SReach G.links G.reachP n) = dec (IReach I I.roots n) := by
 have e : SReach G.links G.reachP n ↔ IReach I I.roots n := by
  have := h.reach ho.sh (l := I.roots) (fun n hn => ho.kept n (hn.congr fun m hm => List.mem_append_left _ hm)) (n := n);unfold GS.reachP;rw [h.queue, h.roots];exact this
 cases hd : dec (IReach I I.roots n) with
 | true => exact dec_iff.2 (e.2 (dec_iff.1 hd))
 | false =>
   cases hd2 : dec (SReach G.links G.reachP n) with
   | false => rfl
   | true => rw [dec_iff.2 (e.1 (dec_iff.1 hd2))] at hd; cases hd
theorem filter_parts {Q : GL → Bool} {N : Nat} (h : ∀ l ∈ L, 0 ≤ l.frm ∧ l.frm < N) : (L.filter Q).length = ((List.range N).map fun i : Nat => (L.filter fun l => decide (l.frm = (i : Int)) && Q l).length).sum := by
 induction L with
 | nil =>
   simp only [List.filter_nil, List.length_nil]
   induction (List.range N) with
   | nil => rfl
   | cons a l ih => simp only [List.map_cons, List.sum_cons]; omega
 | cons x L ih =>
   have ih' := ih fun l hl => h l (List.mem_cons_of_mem _ hl);obtain ⟨h0, h1⟩ := h x (List.mem_cons_self ..);have hone : ∀ (M : Nat), ((List.range M).map fun i : Nat => if decide (x.frm = (i : Int)) && Q x then 1 else 0).sum = if x.frm < M ∧ Q x = true then 1 else 0 := by
    intro M
    induction M with
    | zero => simp; omega
    | succ M ihM =>
      rw [List.range_succ, List.map_append, List.sum_append, ihM];simp only [List.map_cons, List.map_nil, List.sum_cons, List.sum_nil];cases hq : Q x with
      | false => simp
      | true =>
        by_cases e : x.frm = (M : Int)
        · have h2 : ¬ (x.frm < (M : Int)) := by omega
          have h3 : x.frm < ((M + 1 : Nat) : Int) := by omega
          simp [e]; omega
        · by_cases h2 : x.frm < (M : Int)
          · have h3 : x.frm < ((M + 1 : Nat) : Int) := by omega
            simp [h2, e]; omega
          · have h3 : ¬ x.frm < ((M + 1 : Nat) : Int) := by omega
            simp [h2, e]; omega
   have hsum : ∀ (M : Nat), ((List.range M).map fun i : Nat => ((x :: L).filter fun l => decide (l.frm = (i : Int)) && Q l).length).sum = ((List.range M).map fun i : Nat => if decide (x.frm = (i : Int)) && Q x then 1 else 0).sum + ((List.range M).map fun i : Nat => (L.filter fun l => decide (l.frm = (i : Int)) && Q l).length).sum := by
    intro M
    induction M with
    | zero => simp
    | succ M ihM =>
      rw [List.range_succ];simp only [List.map_append, List.sum_append, List.map_cons, List.map_nil, List.sum_cons, List.sum_nil] at ihM ⊢;rw [ihM];have : ((x :: L).filter fun l => decide (l.frm = (M : Int)) && Q l).length = (if decide (x.frm = (M : Int)) && Q x then 1 else 0) + (L.filter fun l => decide (l.frm = (M : Int)) && Q l).length := by
       rw [List.filter_cons]
       split
       · simp; omega
       · simp
      rw [this]; omega
   rw [hsum N, hone N, ← ih'];rw [List.filter_cons];cases hq : Q x with
   | false => simp
   | true => simp [h1]; omega
theorem GSim.frmIn (h : GSim G I) : ∀ l ∈ G.links, 0 ≤ l.frm ∧ l.frm < I.nodes.length := fun l hl => by
 obtain ⟨d, h1, _⟩ := h.dead l hl;have := IS.nd_nat h1;omega
theorem GSim.nodeAt (h : GSim G I) (hd : I.nd n = some d) : G.nodes[n.toNat]? = some (gnode d) := by
 obtain ⟨h0, hl, he⟩ := IS.nd_nat hd;rw [h.nodes, List.getElem?_map, he]; rfl
theorem GSim.words (h : GSim G I) (hs : ISh I) {p : Int → Bool} (hfp : ∀ j : Nat, f j = p j) (hp : ∀ n, p n = true → I.here n = true) : G.wordsN f = I.words p := by
 have hN : G.nodes.length = I.nodes.length := by rw [h.nodes, List.length_map]
 unfold GS.wordsN IS.words GS.linkCnt GS.nodeSum;rw [List.take_length, filter_parts h.frmIn, hN];have key : ∀ M : Nat, M ≤ I.nodes.length → ((List.range M).map fun j => if f j then ((G.nodes[j]?).map GN.cost).getD 0 else 0).sum + 3 * ((List.range M).map fun i : Nat => (G.links.filter fun l => decide (l.frm = (i : Int)) && (decide (0 ≤ l.key) && (f l.frm.toNat && f l.key.toNat))).length).sum = ((List.range M).map (I.cost p)).sum := by
  intro M
  induction M with
  | zero => intro _; simp
  | succ M ih =>
    intro hM;have ih := ih (by omega);rw [List.range_succ];simp only [List.map_append, List.sum_append, List.map_cons, List.map_nil, List.sum_cons, List.sum_nil];obtain ⟨d, hd⟩ : ∃ d, I.nodes[M]? = some d := ⟨_, List.getElem?_eq_getElem (by omega)⟩;have hnd : I.nd (M : Int) = some d := by unfold IS.nd; rw [if_pos (by omega), Int.toNat_natCast]; exact hd
    have hg : G.nodes[M]? = some (gnode d) := by rw [h.nodes, List.getElem?_map, hd]; rfl
    have hcost : (if f M then ((G.nodes[M]?).map GN.cost).getD 0 else 0) + 3 * (G.links.filter fun l => decide (l.frm = (M : Int)) && (decide (0 ≤ l.key) && (f l.frm.toNat && f l.key.toNat))).length = I.cost p M := by
     unfold IS.cost;rw [hd, hg];simp only [Option.map_some, Option.getD_some];have hfm := hfp M;cases hpm : p (M : Int) with
     | false =>
       rw [hpm] at hfm;rw [hfm];have : (G.links.filter fun l => decide (l.frm = (M : Int)) && (decide (0 ≤ l.key) && (f l.frm.toNat && f l.key.toNat))) = [] := by
        rw [List.filter_eq_nil_iff];intro l _ hl;simp only [Bool.and_eq_true, decide_eq_true_eq] at hl;obtain ⟨e, _, h2, _⟩ := hl;rw [e, Int.toNat_natCast, hfm] at h2;cases h2
       rw [this]; simp
     | true =>
       rw [hpm] at hfm;have hgone : d.gone = false := by
        obtain ⟨d', h1, h2⟩ := of_here (hp _ hpm);rw [hnd] at h1;simp only [Option.some.injEq] at h1;rw [h1]; exact h2
       have e1 : (G.links.filter fun l => decide (l.frm = (M : Int)) && (decide (0 ≤ l.key) && (f l.frm.toNat && f l.key.toNat))) = (G.links.filter (isEn (M : Int))).filter fun l => f l.key.toNat := by
        rw [List.filter_filter];refine List.filter_congr fun l hl => ?_;unfold isEn;by_cases e : l.frm = (M : Int)
        · simp only [e, decide_true, Bool.true_and, Int.toNat_natCast, hfm];cases f l.key.toNat <;> cases decide (0 ≤ l.key) <;> rfl
        · simp [e]
       have e2 : (((d.ents.filter fun x => I.here x.key).map (gent (M : Int))).filter fun l => f l.key.toNat).length = (d.ents.filter fun x => p x.key).length := by
        rw [List.filter_map, List.length_map, List.filter_filter]
        congr 1
        refine List.filter_congr fun x hx => ?_;have hk0 := hs.key _ d hnd x hx;have e3 : f x.key.toNat = p x.key := by rw [hfp, Int.toNat_of_nonneg hk0]
        show (f (gent (M : Int) x).key.toNat && I.here x.key) = p x.key;rw [show (gent (M : Int) x).key = x.key from rfl, e3];cases hpx : p x.key with
        | false => rfl
        | true =>
          rw [Bool.true_and];exact hp _ hpx
       rw [e1, h.ents _ d hnd hgone, e2, hfm];simp only [if_true];have e4 : (gnode d).cost = 1 + d.flds.length := by
        unfold GN.cost gnode;cases ht : d.table with
        | true => rw [hs.tab _ d hnd ht]; simp
        | false => simp
       rw [e4]
    omega
 exact key _ (Nat.le_refl _)
theorem GSim.same {I' : IS} (h : GSim G I) (hn : I'.nodes = I.nodes) (gn : G'.nodes = G.nodes) (gl : G'.links = G.links) (e1 : G'.room = I'.room) (e2 : G'.roots = I'.hs) (e3 : G'.wanted = I'.reg) (e4 : G'.queue = I'.queue) : GSim G' I' := by
 have hnd : ∀ n, I'.nd n = I.nd n := fun n => by unfold IS.nd; rw [hn]
 have hh : ∀ n, I'.here n = I.here n := fun n => by unfold IS.here; rw [hnd]
 refine ⟨e1, e2, e3, e4, by rw [gn, hn]; exact h.nodes, fun n d hd hg => ?_, fun n d hd hg => ?_, fun l hl => ?_, by rw [gl]; exact h.nodup, fun l hl hr => ?_⟩
 · rw [hnd] at hd; rw [gl]; exact h.flds n d hd hg
 · rw [hnd] at hd; rw [gl]; simp only [hh]; exact h.ents n d hd hg
 · rw [gl] at hl; rw [hnd]; exact h.dead l hl
 · rw [gl] at hl; rw [hnd]; exact h.num l hl hr
theorem GSim.fresh (h : GSim G I) : G.fresh = I.fresh := by unfold GS.fresh IS.fresh; rw [h.roots]
theorem GSim.hands (h : GSim G I) : G.hands = I.hands := by unfold GS.hands IS.hands; rw [h.roots]
theorem GSim.of (h : GSim G I) (n : Int) : G.of n = (I.hs.lookup n).getD (-1) := by unfold GS.of; rw [h.roots]
theorem GSim.grant (h : GSim G I) (n : Int) : GSim (G.grant n) (I.grant n) :=
 h.same rfl rfl rfl h.room (by show G.roots ++ _ = I.hs ++ _; rw [h.roots, h.fresh]) h.wanted h.queue
theorem gflds_get (n : Int) (l : List Wd) (j : Nat) : (gflds n l)[j]? = (l[j]?).map fun c => ⟨n, j, -1, c.ref, c.num⟩ := by
 unfold gflds;rw [List.getElem?_map, List.getElem?_zipIdx];cases l[j]? <;> simp [gfld]
def GS.addN (G : GS) (d : Nd) : GS := { G with nodes := G.nodes ++ [gnode d], links := G.links ++ gflds G.nodes.length d.flds }
theorem GSim.add (h : GSim G I) (hk : ∀ n d, I.nd n = some d → ∀ x ∈ d.ents, x.key < I.nodes.length) (he : d.ents = []) (hg : d.gone = false) (hr : ∀ m ∈ refsW d.flds, (I.nd m).isSome) : GSim (G.addN d) (I.add d) := by
 have hN : G.nodes.length = I.nodes.length := by rw [h.nodes, List.length_map]
 have hh : ∀ n : Int, n < I.nodes.length → (I.add d).here n = I.here n := fun n hn => by
  unfold IS.here;cases hx : I.nd n with
  | some x => rw [IS.nd_add d hx]
  | none =>
    cases hy : (I.add d).nd n with
    | none => rfl
    | some y =>
      rcases IS.nd_add_cases hy with ⟨e, _⟩ | e
      · omega
      · rw [hx] at e; cases e
 have hnew : ∀ l ∈ gflds (G.nodes.length : Int) d.flds, l.frm = I.nodes.length ∧ l.key = -1 := fun l hl => by
  obtain ⟨i, c, _, rfl⟩ := mem_gflds.1 hl;exact ⟨by rw [hN], rfl⟩
 have hold : ∀ l ∈ G.links, l.frm < I.nodes.length := fun l hl => (h.frmIn l hl).2;refine ⟨h.room, h.roots, h.wanted, h.queue, ?_, fun n x hx hxg => ?_, fun n x hx hxg => ?_, fun l hl => ?_, ?_, fun l hl hlr => ?_⟩
 · show G.nodes ++ [gnode d] = (I.nodes ++ [d]).map gnode;rw [List.map_append, h.nodes]; rfl
 · show (G.links ++ gflds G.nodes.length d.flds).filter (isFld n) = _;rw [List.filter_append];rcases IS.nd_add_cases hx with ⟨rfl, rfl⟩ | hx'
   · have e1 : G.links.filter (isFld I.nodes.length) = [] := by
      rw [List.filter_eq_nil_iff];intro l hl hf;have := hold l hl;simp only [isFld, Bool.and_eq_true, decide_eq_true_eq] at hf;omega
     rw [e1, List.nil_append, List.filter_eq_self.2, hN];intro l hl;have := hnew l hl;simp [isFld, this.1, this.2]
   · have hlt := (IS.nd_nat hx');rw [h.flds n x hx' hxg];have e1 : (gflds (G.nodes.length : Int) d.flds).filter (isFld n) = [] := by
      rw [List.filter_eq_nil_iff];intro l hl hf;have := hnew l hl;simp only [isFld, Bool.and_eq_true, decide_eq_true_eq] at hf;omega
     rw [e1, List.append_nil]
 · show (G.links ++ gflds G.nodes.length d.flds).filter (isEn n) = _;rw [List.filter_append];have e2 : (gflds (G.nodes.length : Int) d.flds).filter (isEn n) = [] := by
    rw [List.filter_eq_nil_iff];intro l hl hf;have := hnew l hl;simp only [isEn, Bool.and_eq_true, decide_eq_true_eq] at hf;omega
   rw [e2, List.append_nil];rcases IS.nd_add_cases hx with ⟨rfl, rfl⟩ | hx'
   · rw [he];simp only [List.filter_nil, List.map_nil];rw [List.filter_eq_nil_iff];intro l hl hf;have := hold l hl;simp only [isEn, Bool.and_eq_true, decide_eq_true_eq] at hf;omega
   · rw [h.ents n x hx' hxg]
     congr 1
     exact List.filter_congr fun y hy => (hh _ (hk n x hx' y hy)).symm
 · rcases List.mem_append.1 hl with hl | hl
   · obtain ⟨x, h1, h2⟩ := h.dead l hl;exact ⟨x, IS.nd_add d h1, h2⟩
   · rw [(hnew l hl).1];exact ⟨d, IS.nd_add_new I d, hg⟩
 · show ((G.links ++ gflds G.nodes.length d.flds).map GL.id).Nodup;rw [List.map_append, List.nodup_append];refine ⟨h.nodup, ?_, fun a ha b hb e => ?_⟩
   · unfold List.Nodup;rw [List.pairwise_map, List.pairwise_iff_getElem];intro i j hi hj hij e;have h1 := gflds_get (G.nodes.length : Int) d.flds i;have h2 := gflds_get (G.nodes.length : Int) d.flds j;rw [List.getElem?_eq_getElem hi] at h1;rw [List.getElem?_eq_getElem hj] at h2;cases hc1 : d.flds[i]? with
     | none => rw [hc1] at h1; cases h1
     | some c1 =>
       cases hc2 : d.flds[j]? with
       | none => rw [hc2] at h2; cases h2
       | some c2 =>
         rw [hc1] at h1; rw [hc2] at h2;simp only [Option.map_some, Option.some.injEq] at h1 h2;rw [h1, h2] at e;simp only [GL.id, Prod.mk.injEq] at e;omega
   · obtain ⟨l1, h1, rfl⟩ := List.mem_map.1 ha;obtain ⟨l2, h2, rfl⟩ := List.mem_map.1 hb;have h3 := hold l1 h1;have h4 := (hnew l2 h2).1;simp only [GL.id, Prod.mk.injEq] at e;omega
 · rcases List.mem_append.1 hl with hl | hl
   · obtain ⟨x, h1⟩ := Option.isSome_iff_exists.1 (h.num l hl hlr);rw [IS.nd_add d h1]; rfl
   · obtain ⟨i, c, h1, rfl⟩ := mem_gflds.1 hl;obtain ⟨x, h2⟩ := Option.isSome_iff_exists.1 (hr c.num (mem_refsW.2 ⟨i, c, h1, hlr, rfl⟩));show ((I.add d).nd c.num).isSome = true;rw [IS.nd_add d h2]; rfl
def putL (L : List GL) (k : Int × Int × Int) (c : Wd) : List GL := L.map fun l => if l.id = k then { l with ref := c.ref, num := c.num } else l
theorem putL_filter {k : Int × Int × Int} {P : GL → Bool} (hP : ∀ l r m, P { l with ref := r, num := m } = P l) : (putL L k c).filter P = putL (L.filter P) k c := by
 unfold putL;rw [List.filter_map]
 congr 1
 refine List.filter_congr fun l _ => ?_;show P (if l.id = k then _ else l) = P l
 split
 · exact hP l _ _
 · rfl
theorem putL_none {k : Int × Int × Int} (h : ∀ l ∈ L, l.id ≠ k) : putL L k c = L := by
 unfold putL;rw [List.map_congr_left (g := fun l => l) (fun l hl => if_neg (h l hl))];simp
theorem putL_ids (L : List GL) (k : Int × Int × Int) (c : Wd) : (putL L k c).map GL.id = L.map GL.id := by
 unfold putL;rw [List.map_map];refine List.map_congr_left fun l _ => ?_;show GL.id (if l.id = k then _ else l) = _
 split <;> rfl
theorem putL_gflds {l : List Wd} : putL (gflds n l) (n, i, -1) c = gflds n (l.set i c) := by
 refine List.ext_getElem? fun j => ?_;unfold putL;rw [List.getElem?_map, gflds_get, gflds_get, List.getElem?_set];by_cases e : i = j
 · subst e;cases hl : l[i]? with
   | none =>
     have := List.getElem?_eq_none_iff.1 hl;simp; omega
   | some x =>
     have := (List.getElem?_eq_some_iff.1 hl).1;simp [GL.id, this]
 · cases hl : l[j]? with
   | none => simp [e]
   | some x =>
     have : ¬ ((j : Int) = (i : Int)) := by omega
     simp [GL.id, e, this]
theorem isFld_put (n : Int) (l : GL) (r : Bool) (m : Int) : isFld n { l with ref := r, num := m } = isFld n l := rfl
theorem isEn_put (n : Int) (l : GL) (r : Bool) (m : Int) : isEn n { l with ref := r, num := m } = isEn n l := rfl
theorem here_fld (hd : I.nd x = some d) (n : Int) : (I.setFld x i c).here n = I.here n := by
 unfold IS.here;by_cases e : n = x
 · subst e; rw [IS.nd_fld hd, hd]
 · rw [IS.nd_fld_ne i c (IS.nd_nat hd).1 e]
theorem here_set {f : List En → List En} (hd : I.nd x = some d) (n : Int) : (I.setEnts x f).here n = I.here n := by
 unfold IS.here;by_cases e : n = x
 · subst e; rw [IS.nd_set hd, hd]
 · rw [IS.nd_set_ne f (IS.nd_nat hd).1 e]
theorem nd_fld_isSome (hd : I.nd x = some d) (h : (I.nd n).isSome) : ((I.setFld x i c).nd n).isSome := by
 by_cases e : n = x
 · subst e; rw [IS.nd_fld hd]; rfl
 · rw [IS.nd_fld_ne i c (IS.nd_nat hd).1 e]; exact h
theorem nd_set_isSome {f : List En → List En} (hd : I.nd x = some d) (h : (I.nd n).isSome) : ((I.setEnts x f).nd n).isSome := by
 by_cases e : n = x
 · subst e; rw [IS.nd_set hd]; rfl
 · rw [IS.nd_set_ne f (IS.nd_nat hd).1 e]; exact h
theorem nodes_mod {l : List Nd} {f : Nd → Nd} (hf : ∀ d, gnode (f d) = gnode d) : (l.modify i f).map gnode = l.map gnode := by
 refine List.ext_getElem? fun j => ?_;rw [List.getElem?_map, List.getElem?_map, List.getElem?_modify];cases l[j]? with
 | none => rfl
 | some x =>
   by_cases e : i = j
   · simp [e, hf]
   · simp [e]
theorem GSim.setFld (h : GSim G I) (hd : I.nd x = some d) (hg : d.gone = false) (hc : c.ref = true → (I.nd c.num).isSome) : GSim { G with links := putL G.links (x, i, -1) c } (I.setFld x i c) := by
 refine ⟨h.room, h.roots, h.wanted, h.queue, ?_, fun n y hy hyg => ?_, fun n y hy hyg => ?_, fun l hl => ?_, by rw [putL_ids]; exact h.nodup, fun l hl hr => ?_⟩
 · show G.nodes = (I.nodes.modify _ _).map gnode;rw [nodes_mod (fun d => by simp [gnode])]; exact h.nodes
 · show (putL G.links (x, i, -1) c).filter (isFld n) = _;rw [putL_filter (isFld_put n)];rcases IS.nd_fld_cases hd hy with ⟨rfl, rfl⟩ | ⟨hne, hy'⟩
   · rw [h.flds _ d hd hg, putL_gflds]
   · rw [h.flds _ y hy' hyg, putL_none];intro l hl e;obtain ⟨j, c', _, rfl⟩ := mem_gflds.1 hl;simp only [GL.id, Prod.mk.injEq] at e;exact hne e.1
 · show (putL G.links (x, i, -1) c).filter (isEn n) = _;have hent : ∃ e, e.ents = y.ents ∧ I.nd n = some e ∧ e.gone = false := by
    rcases IS.nd_fld_cases hd hy with ⟨rfl, rfl⟩ | ⟨hne, hy'⟩
    · exact ⟨d, rfl, hd, hg⟩
    · exact ⟨y, rfl, hy', hyg⟩
   obtain ⟨e, e1, e2, e3⟩ := hent;rw [putL_filter (isEn_put n), h.ents _ e e2 e3, putL_none]
   · rw [e1]; simp only [here_fld hd]
   · intro l hl e;obtain ⟨z, _, rfl⟩ := List.mem_map.1 hl;simp only [GL.id, gent, Prod.mk.injEq] at e;omega
 · obtain ⟨l0, h0, rfl⟩ := List.mem_map.1 hl;obtain ⟨y, h1, h2⟩ := h.dead l0 h0;have hfrm : (if l0.id = (x, (i : Int), -1) then { l0 with ref := c.ref, num := c.num } else l0).frm = l0.frm := by split <;> rfl
   rw [hfrm];by_cases e : l0.frm = x
   · rw [e] at h1 ⊢; rw [hd] at h1; simp only [Option.some.injEq] at h1; subst h1; exact ⟨_, IS.nd_fld hd, h2⟩
   · exact ⟨y, by rw [IS.nd_fld_ne i c (IS.nd_nat hd).1 e]; exact h1, h2⟩
 · obtain ⟨l0, h0, rfl⟩ := List.mem_map.1 hl;refine nd_fld_isSome hd ?_
   revert hr
   split
   · exact fun hr => hc hr
   · exact fun hr => h.num l0 h0 hr
theorem GSim.setL (h : GSim G I) (hd : I.nd x = some d) {f : List En → List En} 
 (hf : ∀ n, L.filter (isFld n) = G.links.filter (isFld n)) (he : ∀ n, n ≠ x → L.filter (isEn n) = G.links.filter (isEn n)) (hx : L.filter (isEn x) = ((f d.ents).filter fun y => I.here y.key).map (gent x))
 (hfrm : ∀ l ∈ L, ∃ e, I.nd l.frm = some e ∧ e.gone = false) (hn : (L.map GL.id).Nodup) (hr : ∀ l ∈ L, l.ref = true → (I.nd l.num).isSome) : GSim { G with links := L } (I.setEnts x f) := by
 have hcase : ∀ {n y}, (I.setEnts x f).nd n = some y → (n = x ∧ y = { d with ents := f d.ents }) ∨ (n ≠ x ∧ I.nd n = some y) := fun {n y} hy => by
  by_cases e : n = x
  · subst e; rw [IS.nd_set hd] at hy; simp only [Option.some.injEq] at hy; exact .inl ⟨rfl, hy.symm⟩
  · rw [IS.nd_set_ne f (IS.nd_nat hd).1 e] at hy; exact .inr ⟨e, hy⟩
 refine ⟨h.room, h.roots, h.wanted, h.queue, ?_, fun n y hy hyg => ?_, fun n y hy hyg => ?_, fun l hl => ?_, hn, fun l hl hlr => nd_set_isSome hd (hr l hl hlr)⟩
 · show G.nodes = (I.nodes.modify _ _).map gnode;rw [nodes_mod (fun d => by simp [gnode])]; exact h.nodes
 · show L.filter (isFld n) = _;rw [hf];rcases hcase hy with ⟨rfl, rfl⟩ | ⟨_, hy'⟩
   · exact h.flds _ d hd hyg
   · exact h.flds _ y hy' hyg
 · show L.filter (isEn n) = _;simp only [here_set hd];rcases hcase hy with ⟨rfl, rfl⟩ | ⟨hne, hy'⟩
   · exact hx
   · rw [he n hne]; exact h.ents _ y hy' hyg
 · obtain ⟨e, h1, h2⟩ := hfrm l hl;by_cases e' : l.frm = x
   · rw [e'] at h1 ⊢; rw [hd] at h1; simp only [Option.some.injEq] at h1; subst h1; exact ⟨_, IS.nd_set hd, h2⟩
   · exact ⟨e, by rw [IS.nd_set_ne f (IS.nd_nat hd).1 e']; exact h1, h2⟩
theorem GSim.putE (h : GSim G I) (hd : I.nd x = some d) (hg : d.gone = false) (hkn : 0 ≤ kn) (hc : c.ref = true → (I.nd c.num).isSome) :
 GSim { G with links := putL G.links (x, -1, kn) c } (I.setEnts x fun l => l.map fun e => if KeyIs kn e then ⟨e.key, c⟩ else e) := by
 refine h.setL hd (fun n => ?_) (fun n hne => ?_) ?_ (fun l hl => ?_) (by rw [putL_ids]; exact h.nodup) (fun l hl hr => ?_)
 · rw [putL_filter (isFld_put n), putL_none];intro l hl e;have := (List.mem_filter.1 hl).2;simp only [isFld, Bool.and_eq_true, decide_eq_true_eq] at this;simp only [GL.id, Prod.mk.injEq] at e;omega
 · rw [putL_filter (isEn_put n), putL_none];intro l hl e;have := (List.mem_filter.1 hl).2;simp only [isEn, Bool.and_eq_true, decide_eq_true_eq] at this;simp only [GL.id, Prod.mk.injEq] at e;exact hne (by omega)
 · rw [putL_filter (isEn_put x), h.ents x d hd hg];unfold putL;rw [List.map_map, List.filter_map, List.map_map];have e1 : (d.ents.filter ((fun y => I.here y.key) ∘ fun e => if KeyIs kn e then ⟨e.key, c⟩ else e)) = d.ents.filter fun y => I.here y.key := List.filter_congr fun y _ => by
    show I.here (if KeyIs kn y then (⟨y.key, c⟩ : En) else y).key = _
    split <;> rfl
   rw [e1];refine List.map_congr_left fun y _ => ?_;show (if (gent x y).id = (x, -1, kn) then _ else gent x y) = gent x (if KeyIs kn y then ⟨y.key, c⟩ else y);by_cases e : y.key = kn
   · simp [GL.id, gent, KeyIs, e]
   · simp [GL.id, gent, KeyIs, e]
 · obtain ⟨l0, h0, rfl⟩ := List.mem_map.1 hl;have hfrm : (if l0.id = (x, -1, kn) then { l0 with ref := c.ref, num := c.num } else l0).frm = l0.frm := by split <;> rfl
   rw [hfrm]; exact h.dead l0 h0
 · obtain ⟨l0, h0, rfl⟩ := List.mem_map.1 hl
   revert hr
   split
   · exact fun hr => hc hr
   · exact fun hr => h.num l0 h0 hr
theorem GSim.appE (h : GSim G I) (hd : I.nd x = some d) (hg : d.gone = false) (hkn : 0 ≤ kn) (hh : I.here kn = true) (hc : c.ref = true → (I.nd c.num).isSome) (hno : ∀ e ∈ d.ents, e.key ≠ kn) :
 GSim { G with links := G.links ++ [gent x ⟨kn, c⟩] } (I.setEnts x fun l => l ++ [⟨kn, c⟩]) := by
 refine h.setL hd (fun n => ?_) (fun n hne => ?_) ?_ (fun l hl => ?_) ?_ (fun l hl hr => ?_)
 · rw [List.filter_append];have : isFld n (gent x ⟨kn, c⟩) = false := by
    have : ¬ (kn < 0) := by omega
    simp [isFld, gent, this]
   simp [this]
 · rw [List.filter_append];have : isEn n (gent x ⟨kn, c⟩) = false := by simp [isEn, gent, Ne.symm hne]
   simp [this]
 · rw [List.filter_append, List.filter_append, List.map_append, h.ents x d hd hg];have : isEn x (gent x ⟨kn, c⟩) = true := by simp [isEn, gent, hkn]
   simp [this, hh]
 · rcases List.mem_append.1 hl with hl | hl
   · exact h.dead l hl
   · simp only [List.mem_singleton] at hl;subst hl;exact ⟨d, hd, hg⟩
 · rw [List.map_append, List.nodup_append];refine ⟨h.nodup, by simp, fun a ha b hb e => ?_⟩;obtain ⟨l, h1, rfl⟩ := List.mem_map.1 ha;simp only [List.map_cons, List.map_nil, List.mem_singleton] at hb;subst hb;simp only [GL.id, gent, Prod.mk.injEq] at e;obtain ⟨d', y, h2, _, h3, _, h4⟩ := h.ent_of h1 (by omega);rw [e.1, hd] at h2;simp only [Option.some.injEq] at h2;subst h2;refine hno y h3 ?_;have : l.key = y.key := by rw [h4]; rfl
   omega
 · rcases List.mem_append.1 hl with hl | hl
   · exact h.num l hl hr
   · simp only [List.mem_singleton] at hl;subst hl;exact hc hr
theorem GSim.remE (h : GSim G I) (hd : I.nd x = some d) (hg : d.gone = false) (hkn : 0 ≤ kn) :
 GSim { G with links := G.links.filter fun l => decide (l.id ≠ (x, -1, kn)) } (I.setEnts x fun l => l.filter fun e => !KeyIs kn e) := by
 refine h.setL hd (fun n => ?_) (fun n hne => ?_) ?_ (fun l hl => h.dead l (List.mem_filter.1 hl).1) (h.nodup.sublist (List.Sublist.map _ List.filter_sublist)) (fun l hl hr => h.num l (List.mem_filter.1 hl).1 hr)
 · rw [List.filter_filter];refine List.filter_congr fun l _ => ?_;cases hf : isFld n l with
   | false => rfl
   | true =>
     simp only [isFld, Bool.and_eq_true, decide_eq_true_eq] at hf;have : l.id ≠ (x, -1, kn) := fun e => by simp only [GL.id, Prod.mk.injEq] at e; omega
     simp [this]
 · rw [List.filter_filter];refine List.filter_congr fun l _ => ?_;cases hf : isEn n l with
   | false => rfl
   | true =>
     simp only [isEn, Bool.and_eq_true, decide_eq_true_eq] at hf;have : l.id ≠ (x, -1, kn) := fun e => by simp only [GL.id, Prod.mk.injEq] at e; exact hne (by omega)
     simp [this]
 · rw [List.filter_filter];have e1 : (G.links.filter fun a => isEn x a && decide (a.id ≠ (x, -1, kn))) = (G.links.filter (isEn x)).filter fun a => decide (a.id ≠ (x, -1, kn)) := by
    rw [List.filter_filter];exact List.filter_congr fun l _ => Bool.and_comm _ _
   rw [e1, h.ents x d hd hg, List.filter_map, List.filter_filter, List.filter_filter]
   congr 1
   refine List.filter_congr fun y _ => ?_;show (decide ((gent x y).id ≠ (x, -1, kn)) && I.here y.key) = (I.here y.key && !KeyIs kn y);by_cases e : y.key = kn
   · simp [GL.id, gent, KeyIs, e]
   · simp [GL.id, gent, KeyIs, e]
theorem GSim.major (h : GSim G I) (ho : IOk I) (hroom : G'.room = G.room) (hroots : G'.roots = G.roots) (hw : G'.wanted = I.majored.reg) (hq : G'.queue = I.majored.queue)
 (hn : G'.nodes = I.majored.nodes.map gnode) (hl : G'.links = G.links.filter fun l => I.live l.frm && (decide (l.key < 0) || I.live l.key)) : GSim G' I.majored := by
 have hlive : ∀ n, I.live n = true → ∃ d, I.nd n = some d ∧ d.gone = false := fun n hn => ho.kept n (IS.live_iff.1 hn);have hhere : ∀ n, I.majored.here n = I.live n := fun n => by
  unfold IS.here;rw [IS.nd_majored];cases hd : I.nd n with
  | none =>
    cases hlv : I.live n with
    | false => rfl
    | true => obtain ⟨d, h1, _⟩ := hlive n hlv; rw [hd] at h1; cases h1
  | some d => simp
 refine ⟨hroom.trans h.room, hroots.trans h.roots, hw, hq, hn, fun n d' hd' hg' => ?_, fun n d' hd' hg' => ?_, fun l hl' => ?_, by rw [hl]; exact h.nodup.sublist (List.Sublist.map _ List.filter_sublist), fun l hl' hr => ?_⟩
 · obtain ⟨d, hd, rfl⟩ := IS.nd_majored_some hd';have hlv : I.live n = true := by simpa using hg'
   obtain ⟨d2, h1, h2⟩ := hlive n hlv;rw [hd] at h1; simp only [Option.some.injEq] at h1; subst h1;rw [hl, List.filter_filter];show _ = gflds n d.flds;rw [← h.flds n d hd h2];refine List.filter_congr fun l _ => ?_;cases hf : isFld n l with
   | false => rfl
   | true =>
     simp only [isFld, Bool.and_eq_true, decide_eq_true_eq] at hf;simp [hf.1, hf.2, hlv]
 · obtain ⟨d, hd, rfl⟩ := IS.nd_majored_some hd';have hlv : I.live n = true := by simpa using hg'
   obtain ⟨d2, h1, h2⟩ := hlive n hlv;rw [hd] at h1; simp only [Option.some.injEq] at h1; subst h1;rw [hl, List.filter_filter];simp only [hhere];show _ = (d.ents.filter fun x => I.live x.key).map (gent n);have e1 : (G.links.filter fun a => isEn n a && (I.live a.frm && (decide (a.key < 0) || I.live a.key))) = (G.links.filter (isEn n)).filter fun a => I.live a.key := by
    rw [List.filter_filter];refine List.filter_congr fun l _ => ?_;cases hf : isEn n l with
    | false => simp
    | true =>
      simp only [isEn, Bool.and_eq_true, decide_eq_true_eq] at hf;have : ¬ (l.key < 0) := by omega
      simp [hf.1, this, hlv]
   rw [e1, h.ents n d hd h2, List.filter_map, List.filter_filter]
   congr 1
   refine List.filter_congr fun y _ => ?_;show (I.live (gent n y).key && I.here y.key) = I.live y.key;show (I.live y.key && I.here y.key) = I.live y.key;cases hy : I.live y.key with
   | false => rfl
   | true => obtain ⟨e, h3, h4⟩ := hlive _ hy; rw [here_of h3 h4]; rfl
 · rw [hl] at hl';obtain ⟨h1, h2⟩ := List.mem_filter.1 hl';simp only [Bool.and_eq_true] at h2;obtain ⟨d, h3, h4⟩ := hlive _ h2.1;exact ⟨_, by rw [IS.nd_majored, h3]; rfl, by simp [h2.1]⟩
 · rw [hl] at hl';obtain ⟨h1, _⟩ := List.mem_filter.1 hl';obtain ⟨d, h3⟩ := Option.isSome_iff_exists.1 (h.num l h1 hr);rw [IS.nd_majored, h3]; rfl
theorem structOf {P : Program} {t : TypeId} (h : (P.underlying t).map (fun d => match d with | .struct _ => true | _ => false) = some true) : ∃ fs, P.underlying t = some (.struct fs) := by
 cases hu : P.underlying t with
 | none => rw [hu] at h; cases h
 | some d =>
   rw [hu] at h;cases d with
   | struct fs => exact ⟨fs, rfl⟩
   | _ => simp at h
theorem sTold : (Tryz.prog.underlying 101).map (fun d => match d with | .struct _ => true | _ => false) = some true := by kernel_rfl
theorem zTold : (Tryz.prog.info? 101).map (·.size) = some 4 := by kernel_rfl
def ToldAt (B : Nat) (w' : World) (v : Value) (l : List Int) : Prop := ∃ nv, v = .agg #[nv, .bool false, .int .i64 0, .int .i64 0] ∧ IRow w' B nv l
theorem ToldAt.low {B B' : Nat} {w' : World} {l : List Int} (h : ToldAt B w' v l) (hb : B' ≤ B) : ToldAt B' w' v l := by
 obtain ⟨nv, h1, h2⟩ := h;exact ⟨nv, h1, h2.low hb⟩
theorem told_g (w : World) (er : Int) {l : List Int} (h : Row w 3 1 v l.length (intCells l)) (hl : l.length ≤ 100000) :
 Calls Tryz.prog 100 #[.int .i64 er, v] w fun e w' => ∃ u, e = .returned u ∧ ToldAt w.heap.size w' u (l ++ [er]) ∧ Chg (fun _ => False) w w' := by
 refine ret_k fun K hK => ?_;have HK := Lib.hid hK;have HR := Lib.hid h;clear hK;obtain ⟨w1, hw1⟩ : ∃ w1, w1 = w.alloc (.cells #[.slice none 0 0, .bool false, .int .i64 0, .int .i64 0] 101) := ⟨_, rfl⟩;have hC1 : Chg (fun _ => False) w w1 := by rw [hw1]; exact (Chg.refl _ _).alloc _
 have hb1 : w1.heap[w.heap.size]? = some (.cells #[.slice none 0 0, .bool false, .int .i64 0, .int .i64 0] 101 (0, 0)) := by rw [hw1]; exact heap_alloc_new _ _
 have hC2 : Chg (fun _ => False) w1 (w1.alloc (.cells #[] 3)) := (Chg.refl _ _).alloc _;have h0 : Row (w1.alloc (.cells #[] 3)) 3 1 (.slice (some ⟨w1.heap.size, 0, none⟩) 0 0) ([] : List Int).length (intCells []) := ⟨by simp [intCells], by simp, .inl ⟨rfl, _, rfl⟩⟩;have hl2 : Row (w1.alloc (.cells #[] 3)) 3 1 v l.length (intCells l) := h.same fun b hb => (hC1.trans hC2 fun _ _ h => h).block b (h.lt hb) fun h => h;obtain ⟨a3, c3, w3, happ3, hrow3, hC3, hloc3⟩ := append_rows h0 hl2 (by simp; omega);have hC13 : Chg (fun _ => False) w1 w3 := hC2.trans hC3 fun b hb h => by simp [rowBlk] at h
 simp only [List.nil_append, List.length_nil, Nat.zero_add] at hrow3 happ3 hloc3;obtain ⟨a4, c4, w4, happ4, hrow4, hC4, hloc4⟩ := appOne hrow3 er (by omega);have hbs : w.heap.size < w1.heap.size := lt_of_block hb1;have hnew3 : ∀ b, rowBlk (.slice a3 l.length c3) = some b → w1.heap.size ≤ b := fun b hb => by
  rcases hloc3 b hb with h5 | h5
  · simp [rowBlk] at h5
  · have := hC2.size; omega
 have hnew4 : ∀ b, rowBlk (.slice a4 (l.length + 1) c4) = some b → w1.heap.size ≤ b := fun b hb => by
  rcases hloc4 b hb with h5 | h5
  · exact hnew3 b h5
  · have := hC13.size; omega
 have hC14 : Chg (fun _ => False) w1 w4 := hC13.trans hC4 fun b hb h => by have := hnew3 b h; omega
 have hb4 := hC14.at hb1 (fun h => h);have happ3' : (Builtin.append_ #[23, 23] 23 #[.slice (some ⟨w1.heap.size, 0, none⟩) 0 0, v]).run Tryz.prog (w1.alloc (.cells #[] 3)) = .ok (.slice a3 l.length c3) w3 := happ3
 go_enter Tryz.func100, Tryz.ntmps100
 go_upto_region 1 with fail
 rw [← hw1];have q0 := cellAt hb4 0;have q1 := cellAt hb4 1;have q2 := cellAt hb4 2;have q3 := cellAt hb4 3;have g0 := freeAt hb4 0;have g1 := freeAt hb4 1;have g2 := freeAt hb4 2;have g3 := freeAt hb4 3;obtain ⟨bb, hbb⟩ : ∃ bb, bb = w.heap.size := ⟨_, rfl⟩;have HBB := Lib.hid hbb;rw [← hbb] at hb1 hb4 q0 q1 q2 q3 g0 g1 g2 g3 hbs;rw [← hbb];have HRow4 := Lib.hid hrow4;clear h0 hl2 hC2 hC3 hrow3 hC4 hloc3 hloc4 hnew3 happ3 hw1 h hb1 hbb
 go_wp2_with (first | (at_builtin; refine wpList_val rfl (exec_append rfl happ3') ?_; clear happ3') | (at_builtin; go_must (refine wpList_val rfl (exec_append rfl happ4) ?_)))
 have hb5 : ((((w4.setCell ⟨bb, 0, none⟩ (.slice a4 (l.length + 1) c4)).setCell ⟨bb, 1, none⟩ (.bool false)).setCell ⟨bb, 2, none⟩ (.int .i64 0)).setCell ⟨bb, 3, none⟩ (.int .i64 0)).heap[bb]? = some (.cells #[.slice a4 (l.length + 1) c4, .bool false, .int .i64 0, .int .i64 0] 101 (0, 0)) := by
  rw [heap_setCell (heap_setCell (heap_setCell (heap_setCell hb4 0 _) 1 _) 2 _) 3 _];rfl
 obtain ⟨fs, hfs⟩ := structOf sTold;refine bodyPost_ret (results_cell_row rfl _ _ bb 101 _ (0, 0) _ rfl hb5 hfs rfl zTold) rfl ?_;have hC45 : Chg (fun b => b = bb) w4 ((((w4.setCell ⟨bb, 0, none⟩ (.slice a4 (l.length + 1) c4)).setCell ⟨bb, 1, none⟩ (.bool false)).setCell ⟨bb, 2, none⟩ (.int .i64 0)).setCell ⟨bb, 3, none⟩ (.int .i64 0)) :=
  ((((Chg.refl (fun b => b = bb) w4).setCell (p := ⟨bb, 0, none⟩) (fun _ => rfl) _).setCell (p := ⟨bb, 1, none⟩) (fun _ => rfl) _).setCell (p := ⟨bb, 2, none⟩) (fun _ => rfl) _).setCell (p := ⟨bb, 3, none⟩) (fun _ => rfl) _
 refine HK.out _ _ ⟨_, rfl, ⟨_, rfl, ?_, fun b hb => ?_⟩, ?_⟩
 · exact hrow4.same fun b hb => hC45.block b (hrow4.lt hb) fun e => by have := hnew4 b hb; omega
 · have := hnew4 b hb; rw [← HBB.out]; omega
 · exact (hC1.trans hC14 fun _ _ h => h).trans hC45 fun b hb e => by rw [HBB.out] at e; omega
end Go.Proofs.YtelghmmcbgfjnaaGreat
