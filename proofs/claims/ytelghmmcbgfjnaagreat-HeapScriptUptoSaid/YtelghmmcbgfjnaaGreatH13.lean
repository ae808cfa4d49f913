/-
  container/heap: down. (A part of the proof, joined of: Xh, Xj, Xk, Xl, Xm; made smaller.)
-/
import Derived.Test.YtelghmmcbgfjnaaGreatH12
set_option maxHeartbeats 4000000
set_option maxRecDepth 100000
namespace Go.Proofs.YtelghmmcbgfjnaaGreat
variable {A : St} {b c i j j' k lb m n : Nat} {g : Gh} {l l0 xs : List Int} {name x : Int} {v : Value} {w w1 wr : World}
open Go.RowKit
def OrdN (l : List Int) (n : Nat) : Prop := ∀ i x y, 0 < i → i < n → l[(i - 1) / 2]? = some x → l[i]? = some y → x ≤ y
structure DownI (l : List Int) (n j : Nat) : Prop where
 ord : ∀ i x y, 0 < i → i < n → (i - 1) / 2 ≠ j → l[(i - 1) / 2]? = some x → l[i]? = some y → x ≤ y
 kid : ∀ i x y, 0 < i → i < n → (i - 1) / 2 = j → 0 < j → l[(j - 1) / 2]? = some x → l[i]? = some y → x ≤ y
theorem DownI.leaf (h : DownI l n j) (hj : n ≤ 2 * j + 1) : OrdN l n := fun i x y hi hin hx hy => h.ord i x y hi hin (by omega) hx hy
theorem DownI.stop (h : DownI l n j) (hx : l[j]? = some x) (hk : ∀ i y, 0 < i → i < n → (i - 1) / 2 = j → l[i]? = some y → x ≤ y) : OrdN l n := by
 intro i u v hi hin hu hv;by_cases e : (i - 1) / 2 = j
 · rw [e, hx] at hu;simp only [Option.some.injEq] at hu;subst hu;exact hk i v hi hin e hv
 · exact h.ord i u v hi hin e hu hv
theorem DownI.swap (h : DownI l n j) (hk : 0 < k) (hkn : k < n) (hnl : n ≤ l.length) (hpar : (k - 1) / 2 = j) {y : Int} (hx : l[j]? = some x) (hy : l[k]? = some y) (hlt : y < x)
 (hz : ∀ i z, 0 < i → i < n → (i - 1) / 2 = j → l[i]? = some z → y ≤ z) : DownI ((l.set j y).set k x) n k := by
 have hjk : j ≠ k := by omega
 have get : ∀ i, ((l.set j y).set k x)[i]? = if i = k then some x else if i = j then some y else l[i]? := by
  intro i;rw [List.getElem?_set, List.getElem?_set];by_cases e1 : i = k
  · subst e1; simp; omega
  · rw [if_neg (fun e => e1 e.symm), if_neg e1];by_cases e2 : i = j
    · subst e2; simp; omega
    · rw [if_neg (fun e => e2 e.symm), if_neg e2]
 constructor
 · intro i u v hi hin hne hu hv;rw [get] at hu hv;rw [if_neg hne] at hu;by_cases e1 : i = k
   · subst e1;rw [if_pos hpar] at hu;rw [if_pos rfl] at hv;simp only [Option.some.injEq] at hu hv;omega
   · rw [if_neg e1] at hv;by_cases e2 : i = j
     · subst e2;rw [if_pos rfl] at hv;rw [if_neg (by omega)] at hu;simp only [Option.some.injEq] at hv;subst hv;exact h.kid k u _ hk hkn hpar hi hu hy
     · rw [if_neg e2] at hv;by_cases e3 : (i - 1) / 2 = j
       · rw [if_pos e3] at hu;simp only [Option.some.injEq] at hu;subst hu;exact hz i v hi hin e3 hv
       · rw [if_neg e3] at hu;exact h.ord i u v hi hin e3 hu hv
 · intro i u v hi hin hpi h0 hu hv;rw [get] at hu hv;rw [hpar, if_neg hjk, if_pos rfl] at hu;simp only [Option.some.injEq] at hu;subst hu;rw [if_neg (by omega), if_neg (by omega)] at hv;exact h.ord i _ v hi hin (by rw [hpi]; exact fun e => hjk e.symm) (by rw [hpi]; exact hy) hv
theorem UpL.less (hI : UpL w lb b n c l0 l j wr) (hn : n ≤ 1000000000000) (hi : i < n) (hk : k < n) {r : Bool} (hr : decide (l.getD i 0 < l.getD k 0) = r) :
 Calls Tryz.prog 166 #[.slice (some ⟨b, 0, none⟩) n c, .int .i64 i, .int .i64 k] wr fun e w' => e = .returned (.bool r) ∧ UpL w lb b n c l0 l j w' := by
 subst hr;have hc1 := hI.row.intCell hI.len hi;have hc2 := hI.row.intCell hI.len hk;refine (leastLess_any (c := c) hi hk hn hc1 hc2).mono ?_;rintro e w' ⟨rfl, m, rfl⟩;refine ⟨?_, hI.drewN m⟩;have h1 : i < l.length := by rw [hI.len]; exact hi
 have h2 : k < l.length := by rw [hI.len]; exact hk
 rw [List.getD_eq_getElem?_getD, List.getD_eq_getElem?_getD, List.getElem?_eq_getElem h1, List.getElem?_eq_getElem h2];rfl
theorem UpL.swap (hI : UpL w lb b n c l0 l j wr) (hn : n ≤ 1000000000000) (hi : i < n) (hk : k < n) (hne : i ≠ k) (hj' : j' < n) :
 Calls Tryz.prog 169 #[.slice (some ⟨b, 0, none⟩) n c, .int .i64 i, .int .i64 k] wr fun e w' => e = .returned (.tuple #[]) ∧ UpL w lb b n c l0 ((l.set i (l.getD k 0)).set k (l.getD i 0)) j' w' := by
 have hc1 := hI.row.intCell hI.len hi;have hc2 := hI.row.intCell hI.len hk;have h1 : i < l.length := by rw [hI.len]; exact hi
 have h2 : k < l.length := by rw [hI.len]; exact hk
 refine (leastSwap_any (c := c) hi hk hn hc1 hc2 (fun q => hI.row.free hI.blk q)).mono ?_;rintro e w' ⟨rfl, m, rfl⟩;rw [List.getD_eq_getElem?_getD, List.getD_eq_getElem?_getD, List.getElem?_eq_getElem h1, List.getElem?_eq_getElem h2];refine ⟨rfl, hI.row.swapped hI.blk _ _ _ _ m, hI.blk, by simpa using hI.len, ?_, hI.ne, (perm_swap h1 h2 hne).trans hI.perm, hj', ?_⟩
 · rw [heap_setCell_ne (fun e => hI.ne (by have e' : lb = b := e; exact e'.symm)), heap_setCell_ne (fun e => hI.ne (by have e' : lb = b := e; exact e'.symm))];exact hI.lbc
 · exact ((hI.chg.drewN m).setCell (p := ⟨b, i, none⟩) (fun _ => rfl) _).setCell (p := ⟨b, k, none⟩) (fun _ => rfl) _
theorem getD_some (h : i < l.length) : l[i]? = some (l.getD i 0) := by
 rw [List.getD_eq_getElem?_getD, List.getElem?_eq_getElem h]; rfl
theorem least_kid (hml : m ≤ l.length) (h1 : 2 * j + 1 < m) (hk : (2 * j + 2 < m ∧ l.getD (2 * j + 2) 0 < l.getD (2 * j + 1) 0 ∧ k = 2 * j + 2) ∨ (2 * j + 2 < m ∧ ¬ l.getD (2 * j + 2) 0 < l.getD (2 * j + 1) 0 ∧ k = 2 * j + 1) ∨ (¬ 2 * j + 2 < m ∧ k = 2 * j + 1)) :
 0 < k ∧ k < m ∧ (k - 1) / 2 = j ∧ (∀ i z, 0 < i → i < m → (i - 1) / 2 = j → l[i]? = some z → l.getD k 0 ≤ z) := by
 refine ⟨by omega, by omega, by omega, ?_⟩;intro i z hi him hpar hz;have hi2 : i = 2 * j + 1 ∨ i = 2 * j + 2 := by omega
 rw [getD_some (by omega)] at hz;simp only [Option.some.injEq] at hz;subst hz;rcases hi2 with rfl | rfl
 · rcases hk with ⟨_, h2, rfl⟩ | ⟨_, _, rfl⟩ | ⟨_, rfl⟩ <;> omega
 · rcases hk with ⟨_, h2, rfl⟩ | ⟨_, h2, rfl⟩ | ⟨h2, rfl⟩ <;> omega
structure DnL (w : World) (lb b n c m : Nat) (l0 l : List Int) (j : Nat) (wr : World) : Prop where
 up : UpL w lb b n c l0 l j wr
 dn : DownI l m j
 tail : ∀ i, m ≤ i → l[i]? = l0[i]?
theorem down_any (h0 : DnL w lb b n c m l0 l0 0 w) (hm : m ≤ n) (hn : n ≤ 1000000000000) :
 Calls Tryz.prog 141 #[.iface 62 (.pointer (some ⟨lb, 0, none⟩)), .int .i64 0, .int .i64 m] w fun e w' => ∃ r l, e = .returned (.bool r) ∧ UpL w lb b n c l0 l 0 w' ∧ OrdN l m ∧ (∀ i, m ≤ i → l[i]? = l0[i]?) := by
 refine ret_k fun K hK => ?_;have HK := Lib.hid hK;have H0 := Lib.hid h0;have hc1 := call_Less;have hc2 := call_Swap;clear hK h0
 go_enter Tryz.func141, Tryz.ntmps141
 go_wp2
 go_loopw [7] (fun jv wr => ∃ (l : List Int) (j : Nat), jv = .int .i64 j ∧ DnL w lb b n c m l0 l j wr) (fun jv _ => n - (intOf jv).toNat)
 case atStart => exact ⟨l0, 0, rfl, H0.out⟩
 case round =>
  obtain ⟨l, j, rfl, hI⟩ := hrel;clear H0;have hjn := hI.up.jn;have hll := hI.up.len;obtain ⟨q, hq⟩ : ∃ q, q = 2 * j := ⟨_, rfl⟩;obtain ⟨j1, hj1⟩ : ∃ j1, j1 = 2 * j + 1 := ⟨_, rfl⟩;obtain ⟨j2, hj2⟩ : ∃ j2, j2 = 2 * j + 2 := ⟨_, rfl⟩;have e1 : (2 : Int) * (j : Int) = (q : Int) := by omega
  have e2 : (q : Int) + 1 = (j1 : Int) := by omega
  have e3 : (j1 : Int) + 1 = (j2 : Int) := by omega
  have HEnd : Hid (∀ r w', UpL w lb b n c l0 l j w' → OrdN l m → Post K (.returned (.bool r)) w') := Lib.hid fun r w' hu ho =>
   HK.out _ _ ⟨r, l, rfl, ⟨hu.row, hu.blk, hu.len, hu.lbc, hu.ne, hu.perm, by omega, hu.chg⟩, ho, hI.tail⟩
  have hb2 : q ≤ 2000000000000 := by omega
  by_cases h1 : j1 < m
  · have hKid : ∀ k, ((j2 < m ∧ l.getD j2 0 < l.getD j1 0 ∧ k = j2) ∨ (j2 < m ∧ ¬ l.getD j2 0 < l.getD j1 0 ∧ k = j1) ∨ (¬ j2 < m ∧ k = j1)) →
     (l.getD k 0 < l.getD j 0 → k < n ∧ j < k ∧ (∀ w5, UpL w lb b n c l0 l j w5 → Calls Tryz.prog 166 #[.slice (some ⟨b, 0, none⟩) n c, .int .i64 k, .int .i64 j] w5 fun e w' => e = .returned (.bool true) ∧ UpL w lb b n c l0 l j w') ∧
      (∀ w5, UpL w lb b n c l0 l j w5 → Calls Tryz.prog 169 #[.slice (some ⟨b, 0, none⟩) n c, .int .i64 j, .int .i64 k] w5 fun e w' => e = .returned (.tuple #[]) ∧ Hid (∃ (l : List Int) (j : Nat), Value.int .i64 (k : Int) = .int .i64 (j : Int) ∧ DnL w lb b n c m l0 l j w'))) ∧
     (¬ l.getD k 0 < l.getD j 0 → (∀ w5, UpL w lb b n c l0 l j w5 → Calls Tryz.prog 166 #[.slice (some ⟨b, 0, none⟩) n c, .int .i64 k, .int .i64 j] w5 fun e w' => e = .returned (.bool false) ∧ UpL w lb b n c l0 l j w') ∧
      (∀ w5, UpL w lb b n c l0 l j w5 → ∀ r, Post K (.returned (.bool r)) w5)) := by
     intro k hk;have hk' := hk;rw [hj1, hj2] at hk';obtain ⟨hkp, hkm, hkj, hkz⟩ := least_kid (by omega) (by omega) hk';have hkn : k < n := by omega
     have hkne : j ≠ k := by omega
     have hjl := getD_some (l := l) (i := j) (by omega);have hkl := getD_some (l := l) (i := k) (by omega);refine ⟨fun hlt => ⟨hkn, by omega, fun w5 hu => hu.less hn (i := k) (k := j) hkn hjn (decide_eq_true hlt), fun w5 hu => ?_⟩, fun hlt => ⟨fun w5 hu => hu.less hn (i := k) (k := j) hkn hjn (decide_eq_false hlt), fun w5 hu r => ?_⟩⟩
     · refine (hu.swap hn hjn hkn hkne (j' := k) hkn).mono ?_;rintro e w' ⟨rfl, hu2⟩;refine ⟨rfl, _, k, rfl, hu2, hI.dn.swap hkp hkm (by omega) hkj hjl hkl hlt hkz, fun i hi => ?_⟩;rw [List.getElem?_set_ne (by omega), List.getElem?_set_ne (by omega)];exact hI.tail i hi
     · refine HEnd.out r w5 hu (hI.dn.stop hjl fun i y hi him hpar hy => ?_);have := hkz i y hi him hpar hy;omega
    have HKid := Lib.hid hKid;have HUp := Lib.hid hI.up;have hme := meth_Less (lb := lb) (cellAt HUp.out.lbc 0);have w4 : ¬ ((m : Int) ≤ (j1 : Int)) := by omega
    clear HEnd HK hKid;by_cases h2 : j2 < m
    · have w6 : (j2 : Int) < (m : Int) := by omega
      have hl1 : ∀ r, decide (l.getD j2 0 < l.getD j1 0) = r → _ := fun r hr => hI.up.less hn (i := j2) (k := j1) (by omega) (by omega) hr;by_cases h3 : l.getD j2 0 < l.getD j1 0
      · have HL1 := Lib.hid (hl1 _ (decide_eq_true h3));have HKid2 := Lib.hid (HKid.out j2 (.inl ⟨h2, h3, rfl⟩));clear hl1 HKid h3 h2 hI hq hj1 hj2 hll
        go_wp2_with fail
        refine HL1.out.mono ?_;rintro e w5 ⟨rfl, hu5⟩;have hme5 := meth_Less (lb := lb) (cellAt hu5.lbc 0);by_cases h4 : l.getD j2 0 < l.getD j 0
        · obtain ⟨hkn, hjk, hL, hS⟩ := HKid2.out.1 h4;have HL2 := Lib.hid (hL w5 hu5);have HS := Lib.hid hS;clear hS hL h4 hu5 HKid2 HL1
          go_wp2_with fail
          refine HL2.out.mono ?_;rintro e w6 ⟨rfl, hu6⟩;have hms := meth_Swap (lb := lb) (cellAt hu6.lbc 0);have HS6 := Lib.hid (HS.out w6 hu6);clear hu6 HS HL2
          go_wp2_with fail
          refine HS6.out.mono ?_;rintro e w7 ⟨rfl, HZ⟩;go_wp2
          go_roundw
          case rel => exact HZ.out
          case measure => simp [intOf]; omega
        · obtain ⟨hL, hP⟩ := HKid2.out.2 (by omega);have HL2 := Lib.hid (hL w5 hu5);have HP := Lib.hid hP;clear hP hL h4 hu5 HKid2 HL1
          go_wp2_with fail
          refine HL2.out.mono ?_;rintro e w6 ⟨rfl, hu6⟩;have HP6 := Lib.hid (HP.out w6 hu6);clear hu6 HP HL2;go_wp2;go_ret;exact HP6.out _
      · have HL1 := Lib.hid (hl1 _ (decide_eq_false h3));have HKid2 := Lib.hid (HKid.out j1 (.inr (.inl ⟨h2, h3, rfl⟩)));clear hl1 HKid h3 h2 hI hq hj1 hj2 hll
        go_wp2_with fail
        refine HL1.out.mono ?_;rintro e w5 ⟨rfl, hu5⟩;have hme5 := meth_Less (lb := lb) (cellAt hu5.lbc 0);by_cases h4 : l.getD j1 0 < l.getD j 0
        · obtain ⟨hkn, hjk, hL, hS⟩ := HKid2.out.1 h4;have HL2 := Lib.hid (hL w5 hu5);have HS := Lib.hid hS;clear hS hL h4 hu5 HKid2 HL1
          go_wp2_with fail
          refine HL2.out.mono ?_;rintro e w6 ⟨rfl, hu6⟩;have hms := meth_Swap (lb := lb) (cellAt hu6.lbc 0);have HS6 := Lib.hid (HS.out w6 hu6);clear hu6 HS HL2
          go_wp2_with fail
          refine HS6.out.mono ?_;rintro e w7 ⟨rfl, HZ⟩;go_wp2
          go_roundw
          case rel => exact HZ.out
          case measure => simp [intOf]; omega
        · obtain ⟨hL, hP⟩ := HKid2.out.2 (by omega);have HL2 := Lib.hid (hL w5 hu5);have HP := Lib.hid hP;clear hP hL h4 hu5 HKid2 HL1
          go_wp2_with fail
          refine HL2.out.mono ?_;rintro e w6 ⟨rfl, hu6⟩;have HP6 := Lib.hid (HP.out w6 hu6);clear hu6 HP HL2;go_wp2;go_ret;exact HP6.out _
    · have w6 : ¬ ((j2 : Int) < (m : Int)) := by omega
      have HKid2 := Lib.hid (HKid.out j1 (.inr (.inr ⟨h2, rfl⟩)));have hu5 := hI.up;by_cases h4 : l.getD j1 0 < l.getD j 0
      · obtain ⟨hkn, hjk, hL, hS⟩ := HKid2.out.1 h4;have HL2 := Lib.hid (hL wr hu5);have HS := Lib.hid hS;clear hS hL h4 hu5 HKid2 HKid h2 hI hq hj1 hj2 hll
        go_wp2_with fail
        refine HL2.out.mono ?_;rintro e w6 ⟨rfl, hu6⟩;have hms := meth_Swap (lb := lb) (cellAt hu6.lbc 0);have HS6 := Lib.hid (HS.out w6 hu6);clear hu6 HS HL2
        go_wp2_with fail
        refine HS6.out.mono ?_;rintro e w7 ⟨rfl, HZ⟩;go_wp2
        go_roundw
        case rel => exact HZ.out
        case measure => simp [intOf]; omega
      · obtain ⟨hL, hP⟩ := HKid2.out.2 (by omega);have HL2 := Lib.hid (hL wr hu5);have HP := Lib.hid hP;clear hP hL h4 hu5 HKid2 HKid h2 hI hq hj1 hj2 hll
        go_wp2_with fail
        refine HL2.out.mono ?_;rintro e w6 ⟨rfl, hu6⟩;have HP6 := Lib.hid (HP.out w6 hu6);clear hu6 HP HL2;go_wp2;go_ret;exact HP6.out _
  · have HE : Hid (∀ r, Post K (.returned (.bool r)) wr) := Lib.hid fun r => HEnd.out r wr hI.up (hI.dn.leaf (by omega));have w4 : (m : Int) ≤ (j1 : Int) := by omega
    clear HEnd HK hI hq hj1 hj2 hll;go_wp2;go_ret;exact HE.out _
theorem HeapOrd.min (h : HeapOrd l) (hx : l[0]? = some x) : ∀ (i : Nat) (y : Int), l[i]? = some y → x ≤ y := by
 intro i
 induction i using Nat.strongRecOn with
 | ind i ih =>
   intro y hy;rcases Nat.eq_zero_or_pos i with rfl | hi
   · rw [hx] at hy; simp only [Option.some.injEq] at hy; omega
   · have hil : i < l.length := (List.getElem?_eq_some_iff.1 hy).1;have hp : (i - 1) / 2 < i := by omega
     have hg := getD_some (l := l) (i := (i - 1) / 2) (by omega);have h1 := ih _ hp _ hg;have h2 := h i _ _ hi hg hy;omega
theorem UpL.start (hrow : Row w 3 1 (.slice (some ⟨b, 0, none⟩) n c) n (intCells l)) (hblk : rowBlk (.slice (some ⟨b, 0, none⟩) n c) = some b) (hlen : l.length = n)
 (hlb : w.heap[lb]? = some (.cells #[.slice (some ⟨b, 0, none⟩) n c] 63 (0, 0))) (hne : b ≠ lb) (hj : j < n) : UpL w lb b n c l l j w :=
 ⟨hrow, hblk, hlen, hlb, hne, List.Perm.refl _, hj, Chg.refl _ _⟩
theorem UpL.again {w' : World} (h : UpL w lb b n c l0 l j w') (hj : j' < n) : UpL w' lb b n c l l j' w' :=
 ⟨h.row, h.blk, h.len, h.lbc, h.ne, List.Perm.refl _, hj, Chg.refl _ _⟩
structure FreeAt (w : World) (lb : Nat) (v : Value) (xs : List Int) : Prop where
 row : Row w 3 1 v xs.length (intCells xs)
 cell : w.heap[lb]? = some (.cells #[v] 63 (0, 0))
 ne : ∀ b, rowBlk v = some b → b ≠ lb
 ord : HeapOrd xs
theorem heapPush_any (h : FreeAt w lb v xs) (hT : xs.length < 100000000000) (x : Int) :
 Calls Tryz.prog 69 #[.iface 62 (.pointer (some ⟨lb, 0, none⟩)), .iface 3 (.int .i64 x)] w fun e w' => e = .returned (.tuple #[]) ∧
  ∃ v' ys, ys.Perm (xs ++ [x]) ∧ FreeAt w' lb v' ys ∧ Chg (fun b => b = lb ∨ rowBlk v = some b) w w' ∧ (∀ b, rowBlk v' = some b → rowBlk v = some b ∨ w.heap.size ≤ b) := by
 refine ret_k fun K hK => ?_;have hcP := call_Push;have hcL := call_Len;have hmP := meth_Push lb w;have HP := Lib.hid (leastPush_any h.row h.cell h.ne (by omega) x);have hnx : ∀ w', (∃ v', Pushed w lb v xs x w' v') → ∃ (b n c : Nat), n = xs.length + 1 ∧ (method 310 62 (.pointer (some ⟨lb, 0, none⟩)) "Len").run Tryz.prog w' = .ok (165, .slice (some ⟨b, 0, none⟩) n c) w' ∧
  Hid (Calls Tryz.prog 114 #[.iface 62 (.pointer (some ⟨lb, 0, none⟩)), .int .i64 xs.length] w' fun e w'' => e = .returned (.tuple #[]) ∧ Post K (.returned (.tuple #[])) w'') := by
  rintro w' ⟨v', hp⟩;obtain ⟨a, c, hv, hle, _, hcase⟩ := hp.row.slice;rw [List.length_append, List.length_singleton] at hv hle hcase;obtain ⟨b, rfl, hb⟩ : ∃ b, a = some ⟨b, 0, none⟩ ∧ rowBlk v' = some b := by
   rcases hcase with h1 | h1
   · omega
   · exact h1
  have hrow := hp.row;rw [List.length_append, List.length_singleton, hv] at hrow;have hcell := hp.cell;rw [hv] at hcell hb;have hbl : b ≠ lb := fun e => by
   rcases hp.loc b (by rw [hv]; exact hb) with h1 | h1
   · exact h.ne b h1 e
   · have := lt_of_block h.cell; omega
  have hU := UpL.start (j := xs.length) hrow hb (by simp) hcell hbl (by omega);have hI : UpI (xs ++ [x]) xs.length := by
   have low : ∀ {i : Nat} {y : Int}, i < xs.length → (xs ++ [x])[i]? = some y → xs[i]? = some y := fun {i y} hi hy => by rwa [List.getElem?_append_left hi] at hy
   have inn : ∀ {i : Nat} {y : Int}, (xs ++ [x])[i]? = some y → i ≤ xs.length := fun {i y} hy => by
    have := (List.getElem?_eq_some_iff.1 hy).1;simp at this; omega
   refine ⟨fun i u y hi hne hu hy => ?_, fun i u y hi hpar h0 hu hy => ?_⟩
   · have h1 := inn hy;exact h.ord i u y hi (low (by omega) hu) (low (by omega) hy)
   · have h1 := inn hy;omega
  refine ⟨b, xs.length + 1, c, rfl, meth_Len (cellAt hcell 0), ?_⟩;refine (up_any hU hI (by omega)).mono ?_;rintro e w'' ⟨rfl, l, hl, ho⟩;refine ⟨rfl, hK _ _ ⟨rfl, .slice (some ⟨b, 0, none⟩) (xs.length + 1) c, l, hl.perm, ⟨by rw [hl.len]; exact hl.row, hl.lbc, fun b' hb' => ?_, ho⟩, ?_, ?_⟩⟩
  · rw [hb] at hb';simp only [Option.some.injEq] at hb';rw [← hb']; exact hbl
  · exact hp.chg.trans hl.chg fun j hj hh => by
     rcases hp.loc j (by rw [hv, hh]; exact hb) with h1 | h1
     · exact .inr h1
     · omega
  · intro b' hb';exact hp.loc b' (by rw [hv]; exact hb')
 have HNx := Lib.hid hnx;have hxl : xs.length < 100000000000 := hT;clear hnx hK h hT;generalize xs.length = xl at *
 go_enter Tryz.func69, Tryz.ntmps69
 go_wp2_with fail
 refine HP.out.mono ?_;rintro e w1 ⟨rfl, hp⟩;obtain ⟨b, n, c, rfl, hmL, HUp⟩ := HNx.out w1 hp;have HLen := Lib.hid (leastLen_any w1 (some ⟨b, 0, none⟩) (xl + 1) c);clear hp HNx HP
 go_wp2_with fail
 refine HLen.out.mono ?_;rintro e w2 ⟨rfl, rfl⟩
 go_wp2_with fail
 refine HUp.out.mono ?_;rintro e w3 ⟨rfl, hZ⟩;go_wp2
 go_end0
 exact hZ
theorem UpL.swap0 (hI : UpL w lb b n c l l 0 w) (hn : n ≤ 1000000000000) (hk : k < n) :
 Calls Tryz.prog 169 #[.slice (some ⟨b, 0, none⟩) n c, .int .i64 0, .int .i64 k] w fun e w' => e = .returned (.tuple #[]) ∧ UpL w lb b n c l ((l.set 0 (l.getD k 0)).set k (l.getD 0 0)) 0 w' := by
 by_cases e : 0 = k
 · subst e;have hc1 := hI.row.intCell hI.len hk;have h1 : 0 < l.length := by rw [hI.len]; exact hk
   refine (leastSwap_any (c := c) (i := 0) (k := 0) hk hk hn hc1 hc1 (fun q => hI.row.free hI.blk q)).mono ?_;rintro e w' ⟨rfl, m, rfl⟩;rw [List.getD_eq_getElem?_getD, List.getElem?_eq_getElem h1];refine ⟨rfl, hI.row.swapped hI.blk _ _ _ _ m, hI.blk, by simpa using hI.len, ?_, hI.ne, ?_, hk, ?_⟩
   · rw [heap_setCell_ne (fun e => hI.ne (by have e' : lb = b := e; exact e'.symm)), heap_setCell_ne (fun e => hI.ne (by have e' : lb = b := e; exact e'.symm))];exact hI.lbc
   · simp
   · exact (((Chg.refl (fun x => x = b) w).drewN m).setCell (p := ⟨b, 0, none⟩) (fun _ => rfl) _).setCell (p := ⟨b, 0, none⟩) (fun _ => rfl) _
 · exact hI.swap hn (Nat.lt_of_le_of_lt (Nat.zero_le _) hk) hk e (Nat.lt_of_le_of_lt (Nat.zero_le _) hk)
theorem pop_plain {l1 l2 : List Int} (ho : HeapOrd xs) (hn : xs.length = n) (hm : n = m + 1) (h1 : l1 = (xs.set 0 (xs.getD m 0)).set m (xs.getD 0 0)) (hperm1 : l1.Perm xs) :
 DownI l1 m 0 ∧ (OrdN l2 m → l2.Perm l1 → (∀ i, m ≤ i → l2[i]? = l1[i]?) → ∃ ys, l2 = ys ++ [xs.getD 0 0] ∧ ys.length = m ∧ (xs.getD 0 0 :: ys).Perm xs ∧ HeapOrd ys ∧ ∀ y ∈ ys, xs.getD 0 0 ≤ y) := by
 have get : ∀ i, 0 < i → i < m → l1[i]? = xs[i]? := fun i hi him => by
  rw [h1, List.getElem?_set_ne (by omega), List.getElem?_set_ne (by omega)]
 have hl1 : l1.length = n := by rw [h1]; simpa using hn
 constructor
 · refine ⟨fun i x y hi him hne hx hy => ?_, fun i x y hi him hpar h0 => absurd h0 (by omega)⟩;rw [get _ (by omega) (by omega)] at hx;rw [get _ hi him] at hy;exact ho i x y hi hx hy
 · intro hord hperm htail;have hl2 : l2.length = m + 1 := by rw [hperm.length_eq, hl1, hm]
   have hlast : l2[m]? = some (xs.getD 0 0) := by
    rw [htail m (Nat.le_refl _), h1, List.getElem?_set_self (by simp; omega)]
   have hsplit : l2 = l2.take m ++ [xs.getD 0 0] := by
    have e := List.take_append_drop m l2;have hd : l2.drop m = [xs.getD 0 0] := by
     obtain ⟨hml, he⟩ := List.getElem?_eq_some_iff.1 hlast;rw [List.drop_eq_getElem_cons hml, he, List.drop_eq_nil_of_le (by omega)]
    rw [hd] at e;exact e.symm
   have hp2 : (xs.getD 0 0 :: l2.take m).Perm xs := by
    refine List.Perm.trans ?_ (hperm.trans hperm1)
    conv => rhs; rw [hsplit]
    exact (List.perm_append_singleton _ _).symm
   refine ⟨l2.take m, hsplit, by rw [List.length_take]; omega, hp2, ?_, ?_⟩
   · intro i x y hi hx hy;rw [List.getElem?_take] at hx hy
     split at hy
     · rename_i him
       rw [if_pos (by omega)] at hx;exact hord i x y hi him hx hy
     · cases hy
   · intro y hy;have hyx : y ∈ xs := hp2.subset (List.mem_cons_of_mem _ hy);obtain ⟨i, hi⟩ := List.getElem?_of_mem hyx;exact ho.min (getD_some (by omega)) i y hi
theorem heapPop_any (h : FreeAt w lb v xs) (hT : xs.length < 100000000000) (h0 : xs ≠ []) :
 Calls Tryz.prog 118 #[.iface 62 (.pointer (some ⟨lb, 0, none⟩))] w fun e w' => ∃ x ys v', e = .returned (.iface 3 (.int .i64 x)) ∧
  Hid ((x :: ys).Perm xs ∧ (∀ y ∈ ys, x ≤ y) ∧ FreeAt w' lb v' ys ∧ Chg (fun b => b = lb ∨ rowBlk v = some b) w w' ∧ (∀ b, rowBlk v' = some b → rowBlk v = some b)) := by
 refine ret_k fun K hK => ?_;have hcL := call_Len;have hcS := call_Swap;have hcP := call_Pop;obtain ⟨a, c, hv, hle, _, hcase⟩ := h.row.slice;have hx1 : 0 < xs.length := List.length_pos_iff.2 h0;obtain ⟨b, rfl, hb⟩ : ∃ b, a = some ⟨b, 0, none⟩ ∧ rowBlk v = some b := by
  rcases hcase with h1 | h1
  · omega
  · exact h1
 obtain ⟨n, hn⟩ : ∃ n, n = xs.length := ⟨_, rfl⟩;obtain ⟨m, hm⟩ : ∃ m, n = m + 1 := ⟨n - 1, by omega⟩;have hbl : b ≠ lb := h.ne b hb;have hrow := h.row;have hcell := h.cell;rw [← hn] at hv hrow;rw [hv] at hrow hcell hb;have hU := UpL.start (j := 0) hrow hb hn.symm hcell hbl (by omega);have hmL := meth_Len (cellAt hcell 0);have hmS := meth_Swap (cellAt hcell 0);have HLen := Lib.hid (leastLen_any w (some ⟨b, 0, none⟩) n c);obtain ⟨l1, hl1⟩ : ∃ l1, l1 = (xs.set 0 (xs.getD m 0)).set m (xs.getD 0 0) := ⟨_, rfl⟩;have hsw := hU.swap0 (k := m) (by omega) (by omega);rw [← hl1] at hsw;have HSw := Lib.hid hsw
 have HDn : Hid (∀ w1, UpL w lb b n c xs l1 0 w1 → Calls Tryz.prog 141 #[.iface 62 (.pointer (some ⟨lb, 0, none⟩)), .int .i64 0, .int .i64 m] w1 fun e w2 => ∃ r, e = .returned (.bool r) ∧
  Hid (Calls Tryz.prog 167 #[.pointer (some ⟨lb, 0, none⟩)] w2 fun e w' => ∃ x, e = .returned (.iface 3 (.int .i64 x)) ∧ Post K (.returned (.iface 3 (.int .i64 x))) w')) := by
  intro w1 hw1;have hp := fun l2 => pop_plain (l2 := l2) h.ord hn.symm hm hl1 hw1.perm;refine (down_any (m := m) ⟨hw1.again (by omega), (hp []).1, fun _ _ => rfl⟩ (by omega) (by omega)).mono ?_;rintro e w2 ⟨r, l2, rfl, hw2, ho2, ht2⟩;refine ⟨r, rfl, ?_⟩;obtain ⟨ys, rfl, hyl, hyp, hyo, hym⟩ := (hp l2).2 ho2 hw2.perm ht2;have hlen2 : (ys ++ [xs.getD 0 0]).length = n := hw2.len;have hrow2 : Row w2 3 1 (.slice (some ⟨b, 0, none⟩) n c) (ys ++ [xs.getD 0 0]).length (intCells (ys ++ [xs.getD 0 0])) := by rw [hlen2]; exact hw2.row
  refine (leastPop_any hrow2 hw2.lbc (fun b' hb' => by rw [hb] at hb'; simp only [Option.some.injEq] at hb'; rw [← hb']; exact hbl) (by omega)).mono ?_;rintro e w' ⟨rfl, v', hr', hc', hC', hloc'⟩;refine ⟨_, rfl, hK _ _ ⟨_, ys, v', rfl, hyp, hym, ⟨hr', hc', fun b' hb' => ?_, hyo⟩, ?_, ?_⟩⟩
  · have := hloc' b' hb';rw [hb] at this;simp only [Option.some.injEq] at this;rw [← this]; exact hbl
  · have c1 : Chg (fun b' => b' = lb ∨ rowBlk v = some b') w w1 := hw1.chg.mono fun j _ hj => .inr (by rw [hv, hj]; exact hb);have c2 := c1.trans (hw2.chg.mono (F' := fun b' => b' = lb ∨ rowBlk v = some b') fun j _ hj => .inr (by rw [hv, hj]; exact hb)) (fun _ _ h => h);exact c2.trans (hC'.mono (F' := fun b' => b' = lb ∨ rowBlk v = some b') fun j _ hj => .inl hj) (fun _ _ h => h)
  · intro b' hb';rw [hv]; exact hloc' b' hb'
 clear hsw hl1 hU hrow hcell hK h h0 hcase hb hle;subst hv;have hm2 : ((n : Nat) : Int) - 1 = (m : Int) := by omega
 have hnb : n < 100000000000 := by omega
 clear hn hx1;subst hm
 go_enter Tryz.func118, Tryz.ntmps118
 go_wp2_with fail
 refine HLen.out.mono ?_;rintro e w1 ⟨rfl, rfl⟩
 go_wp2_with fail
 refine HSw.out.mono ?_;rintro e w2 ⟨rfl, hw2⟩;have hD := Lib.hid (HDn.out w2 hw2);have hmP := meth_Pop lb;clear hw2
 go_wp2_with fail
 refine hD.out.mono ?_;rintro e w3 ⟨r, rfl, HP⟩
 go_wp2_with fail
 refine HP.out.mono ?_;rintro e w4 ⟨x, rfl, hZ⟩;go_wp2;go_ret;exact hZ
theorem run_len_map {P : Program} {kvs : List (Int × Value)} (h : MapAt w b kvs) {T K E ty : TypeId} (hT : P.underlying T = some (.map K E)) :
 (Builtin.len_ #[T] ty #[.map (some b)]).run P w = .ok (.int .i64 kvs.length) w := by
 obtain ⟨es, clock, h1, h2, _⟩ := h;have hg := run_getObj_at (P := P) h1 (by simp);have hlen : es.size = kvs.length := by have := congrArg List.length h2; simpa using this
 simp [Builtin.len_, run_underlying hT, hg, hlen, goInt]
theorem kvsH_lookup (A : St) (n : Int) : (kvsH A).lookup n = (A.handles.lookup n).map (Value.int .i64) := by
 unfold kvsH
 induction A.handles with
 | nil => rfl
 | cons p l ih =>
   obtain ⟨a, v⟩ := p;by_cases e : n = a
   · subst e; simp [List.lookup]
   · have e2 : (n == a) = false := by simpa using e
     simp only [List.map_cons, List.lookup, e2, ih]
theorem look_mem {l : List (Int × Int)} {n v : Int} (h : l.lookup n = some v) : (n, v) ∈ l := by
 induction l with
 | nil => cases h
 | cons p l ih =>
   obtain ⟨a, x⟩ := p;by_cases e : n = a
   · subst e; simp [List.lookup] at h; subst h; simp
   · have e2 : (n == a) = false := by simpa using e
     simp only [List.lookup, e2] at h;exact List.mem_cons_of_mem _ (ih h)
theorem look_none {l : List (Int × Int)} {n : Int} : l.lookup n = none ↔ n ∉ l.map (·.1) := by
 induction l with
 | nil => simp
 | cons p l ih =>
   obtain ⟨a, x⟩ := p;by_cases e : n = a
   · subst e; simp [List.lookup]
   · have e2 : (n == a) = false := by simpa using e
     simp only [List.lookup, e2, ih, List.map_cons, List.mem_cons, e, false_or]
theorem of_some (hR : Rep w g A) {n : Int} {o : Ob} (hl : A.handles.lookup n = some name) (ho : A.objs.lookup name = some o) :
 Calls Tryz.prog 56 #[.pointer (some ⟨g.hb, 0, none⟩), .int .i64 n] w fun e w' => e = .returned (.tuple #[.pointer (some ⟨g.ob name, 0, none⟩), .int .i64 name, .int .i64 0]) ∧ w = w' := by
 have h1 := run_lookup_map (P := Tryz.prog) hR.mh uMapI uInt zInt n true;rw [kvsH_lookup, hl] at h1;have h2 := lookO_some hR ho;have c0 : w.cell? ⟨g.hb, 0, none⟩ = some (.map (some g.mo)) := hR.c 0;have c5 : w.cell? ⟨g.hb, 5, none⟩ = some (.map (some g.mh)) := hR.c 5;simp only [if_true, Option.map_some, Option.getD_some, Option.isSome_some] at h1;clear hR
 go_enter Tryz.func56, Tryz.ntmps56
 go_wp2
 go_ret3
 exact ⟨rfl, rfl⟩
theorem of_none (hR : Rep w g A) {n : Int} (hl : A.handles.lookup n = none) :
 Calls Tryz.prog 56 #[.pointer (some ⟨g.hb, 0, none⟩), .int .i64 n] w fun e w' => e = .returned (.tuple #[.pointer none, .int .i64 0, .int .i64 221]) ∧ w = w' := by
 have h1 := run_lookup_map (P := Tryz.prog) hR.mh uMapI uInt zInt n true;rw [kvsH_lookup, hl] at h1;have c5 : w.cell? ⟨g.hb, 5, none⟩ = some (.map (some g.mh)) := hR.c 5;simp only [if_true, Option.map_none, Option.getD_none, Option.isSome_none] at h1;clear hR
 go_enter Tryz.func56, Tryz.ntmps56
 go_wp2
 go_ret3
 exact ⟨rfl, rfl⟩
theorem spare_any (hR : Rep w g A) (n : Int) (hn : 0 ≤ n) (hb : A.handles.length + n ≤ 20000) :
 Calls Tryz.prog 60 #[.pointer (some ⟨g.hb, 0, none⟩), .int .i64 n] w fun e w' => e = .returned (.bool true) ∧ w = w' := by
 have h1 := fun ty => run_len_map (P := Tryz.prog) (ty := ty) hR.mh uMapI;have c5 : w.cell? ⟨g.hb, 5, none⟩ = some (.map (some g.mh)) := hR.c 5;have e : (kvsH A).length = A.handles.length := by simp [kvsH]
 rw [e] at h1;clear hR e;generalize A.handles.length = k at *
 go_enter Tryz.func60, Tryz.ntmps60
 go_wp2;go_ret;exact ⟨by simp; try omega, rfl⟩
structure Least (ks : List Int) (n : Int) : Prop where
 pos : 0 ≤ n
 new : n ∉ ks
 all : ∀ m, 0 ≤ m → m < n → m ∈ ks
theorem Least.eq {ks : List Int} {n m : Int} (h : Least ks n) (k : Least ks m) : n = m := by
 rcases Int.lt_trichotomy n m with hlt | rfl | hlt
 · exact absurd (k.all n h.pos hlt) h.new
 · rfl
 · exact absurd (h.all m k.pos hlt) k.new
structure FreeOk (A : St) : Prop where
 ord : HeapOrd A.free
 nod : A.free.Nodup
 mem : ∀ n, n ∈ A.free ↔ (0 ≤ n ∧ n < A.next ∧ n ∉ A.handles.map (·.1))
 key : ∀ n ∈ A.handles.map (·.1), 0 ≤ n ∧ n < A.next
 next0 : 0 ≤ A.next
 next9 : A.next ≤ 9000
theorem length_range (hn : l.Nodup) (h : ∀ n ∈ l, 0 ≤ n ∧ n < m) : l.length ≤ m := by
 have := length_le_of_subset (l := l) (l' := (List.range m).map Int.ofNat) hn fun n hn' => by
  obtain ⟨h1, h2⟩ := h n hn';refine List.mem_map.2 ⟨n.toNat, List.mem_range.2 (by omega), ?_⟩;exact Int.toNat_of_nonneg h1
 simpa using this
theorem FreeOk.len (h : FreeOk A) : A.free.length ≤ 9000 := length_range h.nod fun n hn => by
 have h1 := (h.mem n).1 hn;have h2 := h.next9;omega
structure Granted (A : St) (name n : Int) (A' : St) : Prop where
 least : Least (A.handles.map (·.1)) n
 ok : FreeOk A'
 eq : ∃ F nx, A' = { A with handles := A.handles ++ [(n, name)], free := F, next := nx }
theorem putKV_new {n : Int} (h : n ∉ A.handles.map (·.1)) : putKV (kvsH A) n (.int .i64 name) = kvsI (A.handles ++ [(n, name)]) := by
 unfold putKV;rw [kvsH_lookup, look_none.2 h];simp [kvsH, kvsI]
theorem FreeOk.fresh (h : FreeOk A) (h0 : A.free = []) (name : Int) (hb : A.handles.length < 9000) : Granted A name A.next { A with handles := A.handles ++ [(A.next, name)], next := A.next + 1 } := by
 have hkey : ∀ m, 0 ≤ m → m < A.next → m ∈ A.handles.map (·.1) := fun m h1 h2 => by
  rcases Classical.em (m ∈ A.handles.map (·.1)) with h3 | h3
  · exact h3
  · have := (h.mem m).2 ⟨h1, h2, h3⟩;rw [h0] at this;cases this
 have hlen : A.next ≤ A.handles.length := by
  have := length_le_of_subset (l := (List.range A.next.toNat).map Int.ofNat) (l' := A.handles.map (·.1)) (by
   exact List.Pairwise.map _ (fun a b hab e => hab (Int.ofNat.inj e)) List.nodup_range) fun n hn => by
   obtain ⟨i, hi, rfl⟩ := List.mem_map.1 hn;have := List.mem_range.1 hi;exact hkey _ (Int.natCast_nonneg _) (by show (i : Int) < A.next; omega)
  rw [List.length_map, List.length_map, List.length_range] at this;have := h.next0;omega
 have h00 := h.next0;refine ⟨⟨h00, fun hm => by have := h.key _ hm; omega, hkey⟩, ⟨h.ord, h.nod, fun n => ?_, fun n hn => ?_, by show 0 ≤ A.next + 1; omega, by show A.next + 1 ≤ 9000; omega⟩, A.free, A.next + 1, rfl⟩
 · show n ∈ A.free ↔ (0 ≤ n ∧ n < A.next + 1 ∧ n ∉ (A.handles ++ [(A.next, name)]).map (·.1));rw [h0, List.map_append, List.mem_append];constructor
   · intro hn; cases hn
   · rintro ⟨h1, h2, h3⟩;exfalso;apply h3;by_cases e : n = A.next
     · right; simp [e]
     · left; exact hkey n h1 (by omega)
 · have hn' : n ∈ (A.handles ++ [(A.next, name)]).map (·.1) := hn;rw [List.map_append, List.mem_append] at hn';show 0 ≤ n ∧ n < A.next + 1
   rcases hn' with hn' | hn'
   · have := h.key n hn'; omega
   · simp at hn'; omega
theorem FreeOk.again (h : FreeOk A) {n : Int} {ys : List Int} (hp : (n :: ys).Perm A.free) (ho : HeapOrd ys) (hm : ∀ y ∈ ys, n ≤ y) (name : Int) : Granted A name n { A with handles := A.handles ++ [(n, name)], free := ys } := by
 have hn : n ∈ A.free := hp.subset (by simp);obtain ⟨h1, h2, h3⟩ := (h.mem n).1 hn;have hnd : (n :: ys).Nodup := hp.nodup_iff.2 h.nod;rw [List.nodup_cons] at hnd;have hys : ∀ m, m ∈ ys ↔ m ∈ A.free ∧ m ≠ n := fun m => by
  rw [← hp.mem_iff, List.mem_cons];constructor
  · intro hm';exact ⟨.inr hm', fun e => hnd.1 (e ▸ hm')⟩
  · rintro ⟨rfl | h', h''⟩
    · exact absurd rfl h''
    · exact h'
 refine ⟨⟨h1, h3, fun m hm0 hmn => ?_⟩, ⟨ho, hnd.2, fun m => ?_, fun m hm' => ?_, h.next0, h.next9⟩, ys, A.next, rfl⟩
 · rcases Classical.em (m ∈ A.handles.map (·.1)) with h4 | h4
   · exact h4
   · have hf := (h.mem m).2 ⟨hm0, by omega, h4⟩;have := hm m ((hys m).2 ⟨hf, by omega⟩);omega
 · show m ∈ ys ↔ (0 ≤ m ∧ m < A.next ∧ m ∉ (A.handles ++ [(n, name)]).map (·.1));rw [hys, h.mem, List.map_append, List.mem_append];simp only [List.map_cons, List.map_nil, List.mem_singleton];constructor
   · rintro ⟨⟨a, b, c⟩, d⟩;exact ⟨a, b, fun hh => hh.elim c d⟩
   · rintro ⟨a, b, c⟩;exact ⟨⟨a, b, fun hh => c (.inl hh)⟩, fun hh => c (.inr hh)⟩
 · have hm2 : m ∈ (A.handles ++ [(n, name)]).map (·.1) := hm';rw [List.map_append, List.mem_append] at hm2;rcases hm2 with hm2 | hm2
   · exact h.key m hm2
   · simp at hm2; subst hm2; exact ⟨h1, h2⟩
theorem handles_nodup (hR : Rep w g A) : (A.handles.map (·.1)).Nodup := by
 have := hR.mh.nodup;simpa [kvsH, List.map_map, Function.comp_def] using this
theorem handle_any (hR : Rep w g A) (hF : FreeOk A) (hb : A.handles.length < 9000) (name : Int) :
 Calls Tryz.prog 86 #[.pointer (some ⟨g.hb, 0, none⟩), .int .i64 name] w fun e w' => ∃ n, e = .returned (.int .i64 n) ∧ Hid (∃ A' g', Granted A name n A' ∧ Rep w' g' A' ∧ Step w g A w' g') := by
 refine ret_k fun K hK => ?_;have HK := Lib.hid hK;have hnd := handles_nodup hR;have c5 : w.cell? ⟨g.hb, 5, none⟩ = some (.map (some g.mh)) := hR.c 5;have c9 : w.cell? ⟨g.hb, 9, none⟩ = some (.iface 62 (.pointer (some ⟨g.lb, 0, none⟩))) := hR.c 9;have c10 : w.cell? ⟨g.hb, 10, none⟩ = some (.int .i64 A.next) := hR.c 10;have hce := call_empty;obtain ⟨a, c, hv, _, _, _⟩ := hR.rF.row.slice;have hlb := hR.lb;rw [hv] at hlb;have hme := meth_empty (cellAt hlb 0);have hn9 := hF.next9;have hn0 := hF.next0;rcases Classical.em (A.free = []) with h0 | h0
 · have HE := Lib.hid (leastEmpty_any w a A.free.length c);have e0 : A.free.length = 0 := by rw [h0]; rfl
   rw [e0] at HE hme;have hN := hR.setNums (w' := w.setCell ⟨g.hb, 10, none⟩ (.int .i64 (A.next + 1))) (nm := A.names) (nx := A.next + 1) (chg_set1 _ _ _ _) (by rw [heap_setCell hR.hs]; rfl);obtain ⟨o', hrun, hM⟩ := run_mapUpdate_map (P := Tryz.prog) hN.1.mh uMapI uInt A.next (.int .i64 name)
   have hG := hF.fresh h0 name hb;have hM' : MapAt (World.put (w.setCell ⟨g.hb, 10, none⟩ (.int .i64 (A.next + 1))) g.mh o') g.mh (kvsI (A.handles ++ [(A.next, name)])) := by
    rw [← putKV_new hG.least.new]; exact hM
   have hH := hN.1.setH (chg_put1 _ _ _) hM';have HF := Lib.hid (HK.out _ _ ⟨A.next, rfl, _, _, hG, hH.1, hN.2.trans hH.2 (Int.le_refl _)⟩);have f10 : w.frozen? ⟨g.hb, 10, none⟩ = false := freeAt hR.hs 10;clear hH hM' hG hM hN e0 h0 hlb hv hnd hR hF hb HK hK;generalize A.next = nx at *
   go_enter Tryz.func86, Tryz.ntmps86
   go_wp2_with (go_at_call 170; refine HE.out.mono ?_; rintro e w1 ⟨rfl, rfl⟩)
   go_ret;exact HF.out
 · have HE := Lib.hid (leastEmpty_any w a A.free.length c);have e0 : ¬ (A.free.length = 0) := fun e => h0 (List.eq_nil_of_length_eq_zero e);rw [decide_eq_false e0] at HE;have hFA : FreeAt w g.lb g.vF A.free := ⟨hR.rF.row, hR.lb, fun b hb e => (by have := hR.rF.own b hb; rw [e, hR.olb] at this; cases this), hF.ord⟩;have hPop : Calls Tryz.prog 118 #[.iface 62 (.pointer (some ⟨g.lb, 0, none⟩))] w fun e w3 => ∃ x, e = .returned (.iface 3 (.int .i64 x)) ∧ w3.cell? ⟨g.hb, 5, none⟩ = some (.map (some g.mh)) ∧
    ∃ w4, (Instr.mapUpdate 67 (.map (some g.mh)) (.int .i64 x) (.int .i64 name)).run Tryz.prog w3 = .ok () w4 ∧ Hid (Post K (.returned (.int .i64 x)) w4) := by
    refine (heapPop_any hFA (by have := hF.len; omega) h0).mono ?_;rintro e w3 ⟨x, ys, v', rfl, HH⟩;obtain ⟨hp, hm, hFA', hC, hloc⟩ := HH.out;have hG := hF.again hp hFA'.ord hm name;have hS := hR.setF (Step.refl w g A) (v1 := v') (l := ys) hC hFA'.cell hFA'.row (fun b hb' => .inl (hR.rF.own b (hloc b hb')));obtain ⟨o', hrun, hM⟩ := run_mapUpdate_map (P := Tryz.prog) hS.1.mh uMapI uInt x (.int .i64 name);have hM' : MapAt (World.put w3 g.mh o') g.mh (kvsI (A.handles ++ [(x, name)])) := by
     rw [← putKV_new hG.least.new]; exact hM
    have hH := hS.1.setH (chg_put1 _ _ _) hM';refine ⟨x, rfl, hS.1.c 5, _, hrun, ?_⟩;exact HK.out _ _ ⟨x, rfl, _, _, hG, hH.1, hS.2.trans hH.2 (Int.le_refl _)⟩
   have HPop := Lib.hid hPop;have has := assert_int;clear hPop hFA e0 h0 hlb hv hnd hR hF hb HK hK;generalize A.next = nx at *
   generalize A.free.length = fl at *
   go_enter Tryz.func86, Tryz.ntmps86
   go_wp2_with (first | (go_at_call 170; refine HE.out.mono ?_; rintro e w1 ⟨rfl, rfl⟩) | (go_at_call 118; refine HPop.out.mono ?_; rintro e w3 ⟨x, rfl, d5, w4, hrun, hZ⟩))
   go_ret;exact hZ.out
def Wd.agg (c : Wd) : Value := .agg #[.bool c.ref, .int .i64 c.num]
def St.inW (A : St) (c : Wd) : Wd × Int := if c.ref then (match A.handles.lookup c.num with | some n => (⟨true, n⟩, 0) | none => (⟨true, 0⟩, 221)) else (⟨false, c.num⟩, 0)
theorem in_any (hR : Rep w g A) (c : Wd) (ho : ∀ n name, A.handles.lookup n = some name → (A.objs.lookup name).isSome) :
 Calls Tryz.prog 59 #[.pointer (some ⟨g.hb, 0, none⟩), c.agg] w fun e w' => e = .returned (.tuple #[(A.inW c).1.agg, .int .i64 (A.inW c).2]) ∧ Chg (fun _ => False) w w' := by
 obtain ⟨r, num⟩ := c;cases r with
 | false =>
   have e : A.inW ⟨false, num⟩ = (⟨false, num⟩, 0) := rfl;rw [e];unfold Wd.agg;clear e
   go_enter Tryz.func59, Tryz.ntmps59
   go_wp2;refine bodyPost_ret (v := .tuple #[.agg #[.bool false, .int .i64 num], .int .i64 0]) (by simp [results, Tryz.results59, go_sem]) rfl ⟨rfl, ?_⟩;exact ((Chg.refl _ _).alloc _).alloc _
 | true =>
   cases hl : A.handles.lookup num with
   | none =>
     have e : A.inW ⟨true, num⟩ = (⟨true, 0⟩, 221) := by simp [St.inW, hl]
     rw [e];have HO := Lib.hid fun X Y => of_none ((hR.alloc X).alloc Y) hl;unfold Wd.agg;clear e ho hl
     go_enter Tryz.func59, Tryz.ntmps59
     go_wp2_with (go_at_call 56; refine (HO.out _ _).mono ?_; rintro e w1 ⟨rfl, rfl⟩)
     refine bodyPost_ret (v := .tuple #[.agg #[.bool true, .int .i64 0], .int .i64 221]) (by simp [results, Tryz.results59, go_sem]) rfl ⟨rfl, ?_⟩;exact ((Chg.refl _ _).alloc _).alloc _
   | some name =>
     obtain ⟨o, hob⟩ := Option.isSome_iff_exists.1 (ho num name hl);have e : A.inW ⟨true, num⟩ = (⟨true, name⟩, 0) := by simp [St.inW, hl]
     rw [e];have HO := Lib.hid fun X Y => of_some ((hR.alloc X).alloc Y) hl hob;unfold Wd.agg;clear e ho hl hob
     go_enter Tryz.func59, Tryz.ntmps59
     go_wp2_with (go_at_call 56; refine (HO.out _ _).mono ?_; rintro e w1 ⟨rfl, rfl⟩)
     refine bodyPost_ret (v := .tuple #[.agg #[.bool true, .int .i64 name], .int .i64 0]) (by simp [results, Tryz.results59, go_sem]) rfl ⟨rfl, ?_⟩;exact ((Chg.refl _ _).alloc _).alloc _
theorem out_num (w : World) (p : Value) (num : Int) :
 Calls Tryz.prog 66 #[p, .agg #[.bool false, .int .i64 num]] w fun e w' => e = .returned (.agg #[.bool false, .int .i64 num]) ∧ Chg (fun _ => False) w w' := by
 go_enter Tryz.func66, Tryz.ntmps66
 go_wp2;refine bodyPost_ret (v := .agg #[.bool false, .int .i64 num]) (by simp [results, Tryz.results66, go_sem]) rfl ⟨rfl, ?_⟩;exact ((Chg.refl _ _).alloc _).alloc _
theorem Step.alloc (w : World) (g : Gh) (A : St) (o : Obj) : Step w g A (w.alloc o) g := { Step.refl w g A with chg := (Chg.refl _ _).alloc o }
theorem Step.chg0 (g : Gh) (A : St) (h : Chg (fun _ => False) w w1) : Step w g A w1 g := { Step.refl w g A with chg := h.mono fun _ _ h => h.elim }
theorem Rep.chg0 (hR : Rep w g A) (h : Chg (fun _ => False) w w1) : Rep w1 g A := hR.frame h fun _ h => h.elim
theorem out_ref (hR : Rep w g A) (hF : FreeOk A) (hb : A.handles.length < 9000) (name : Int) :
 Calls Tryz.prog 66 #[.pointer (some ⟨g.hb, 0, none⟩), .agg #[.bool true, .int .i64 name]] w fun e w' => ∃ n, e = .returned (.agg #[.bool true, .int .i64 n]) ∧ Hid (∃ A' g', Granted A name n A' ∧ Rep w' g' A' ∧ Step w g A w' g') := by
 refine ret_k fun K hK => ?_;obtain ⟨W, hW⟩ : ∃ W, W = (w.alloc (.cells #[.bool true, .int .i64 name] 113)).alloc (.cells #[.bool false, .int .i64 0] 54) := ⟨_, rfl⟩;have hC : Chg (fun _ => False) w W := by rw [hW]; exact ((Chg.refl _ _).alloc _).alloc _
 have hrb : W.heap[w.heap.size + 1]? = some (.cells #[.bool false, .int .i64 0] 54 (0, 0)) := by
  rw [hW];have := heap_alloc_new (w.alloc (.cells #[.bool true, .int .i64 name] 113)) (.cells #[.bool false, .int .i64 0] 54);simpa using this
 have hH := handle_any (hR.chg0 hC) hF hb name;have HH : Hid (Calls Tryz.prog 86 #[.pointer (some ⟨g.hb, 0, none⟩), .int .i64 name] W fun e w1 => ∃ n, e = .returned (.int .i64 n) ∧ (w1.cell? ⟨w.heap.size + 1, 0, none⟩ = some (.bool false) ∧ w1.cell? ⟨w.heap.size + 1, 1, none⟩ = some (.int .i64 0) ∧ w1.frozen? ⟨w.heap.size + 1, 0, none⟩ = false ∧ w1.frozen? ⟨w.heap.size + 1, 1, none⟩ = false) ∧
  Hid (Post K (.returned (.agg #[.bool true, .int .i64 n])) ((w1.setCell ⟨w.heap.size + 1, 0, none⟩ (.bool true)).setCell ⟨w.heap.size + 1, 1, none⟩ (.int .i64 n)))) := by
  refine hH.mono ?_;rintro e w1 ⟨n, rfl, hZ⟩;obtain ⟨A', g', hG, hR', hS⟩ := hZ.out;have hn : g.own (w.heap.size + 1) = none := hR.none_of_ge (by omega);have hat := hS.at hrb hn;refine ⟨n, rfl, ⟨cellAt hat.1 0, cellAt hat.1 1, freeAt hat.1 0, freeAt hat.1 1⟩, hK _ _ ⟨n, rfl, A', g', hG, ?_, ?_⟩⟩
  · refine hR'.frame (F := fun b => b = w.heap.size + 1) (((Chg.refl (fun b => b = w.heap.size + 1) w1).setCell (p := ⟨w.heap.size + 1, 0, none⟩) (fun _ => rfl) _).setCell (p := ⟨w.heap.size + 1, 1, none⟩) (fun _ => rfl) _) fun b hb => ?_;rw [hb]; exact hat.2
  · have h1 := (Step.chg0 g A hC).trans hS (Int.le_refl _);refine { h1 with chg := ?_ };refine (h1.chg.setCell (p := ⟨w.heap.size + 1, 0, none⟩) (fun h => ?_) _).setCell (p := ⟨w.heap.size + 1, 1, none⟩) (fun h => ?_) _
    · exact absurd h (by simp)
    · exact absurd h (by simp)
 clear hH hrb hC hF hb hR hK;subst hW
 go_enter Tryz.func66, Tryz.ntmps66
 go_wp2_with (go_at_call 86; refine HH.out.mono ?_; rintro e w1 ⟨n, rfl, ⟨q0, q1, q2, q3⟩, hZ⟩)
 refine bodyPost_ret (v := .agg #[.bool true, .int .i64 n]) (by simp [results, Tryz.results66, go_sem, q0, q1]) rfl ?_;exact hZ.out
theorem cleaned_same (h : Wf k m A) : A.cleaned.names = A.names ∧ A.cleaned.young = A.young ∧ A.cleaned.handles = A.handles ∧ A.cleaned.reg = A.reg ∧ A.cleaned.queue = A.queue ∧ A.cleaned.free = A.free ∧ A.cleaned.next = A.next ∧ A.cleaned.full = A.full :=
 settled_same h.swept.fit
theorem used_q (hR : Rep w g A) (hb : A.used ≤ 1000000000000) (n : Nat) :
 Calls Tryz.prog 57 #[.pointer (some ⟨g.hb, 0, none⟩)] (w.drewN n) fun e w' => e = .returned (.int .i64 A.used) ∧ w'.cell? ⟨g.hb, 11, none⟩ = some (.int .i64 A.full) ∧ Hid (Rep w' g A ∧ Step w g A w' g) := by
 refine (used_any (hR.drewN n) hb).mono ?_;rintro e w' ⟨rfl, hC⟩;have hR' := (hR.drewN n).chg0 hC;exact ⟨rfl, hR'.c 11, hR', (Step.drewN w g A n).trans (Step.chg0 g A hC) (Int.le_refl _)⟩
theorem room_any (hR : Rep w g A) (hw : Wf k m A) (n : Int) (hn : 0 ≤ n ∧ n ≤ 1000) (hf : A.full ≤ 60000) :
 Calls Tryz.prog 61 #[.pointer (some ⟨g.hb, 0, none⟩), .int .i64 n] w fun e w' => ∃ r, e = .returned (.bool r) ∧ Hid (∃ A' g', ((A' = A ∧ A.used + n ≤ A.full ∧ r = true) ∨ (A' = A.cleaned ∧ r = decide (A.cleaned.used + n ≤ A.full))) ∧ Rep w' g' A' ∧ Step w g A w' g') := by
 have hu := hw.used_small;have huc := hw.swept.settled.used_small;have huc' : A.cleaned.used ≤ 1000000000 := huc;have hcs := cleaned_same hw;refine ret_k fun K hK => ?_;have HK := Lib.hid hK;have c11 : w.cell? ⟨g.hb, 11, none⟩ = some (.int .i64 A.full) := hR.c 11;have HU := Lib.hid (used_q hR (by omega));rcases Classical.em (A.used + n ≤ A.full) with h1 | h1
 · have HF : Hid (∀ w1, Rep w1 g A ∧ Step w g A w1 g → Calls Tryz.prog 57 #[.pointer (some ⟨g.hb, 0, none⟩)] w1 fun e w' => e = .returned (.int .i64 A.used) ∧ w'.cell? ⟨g.hb, 11, none⟩ = some (.int .i64 A.full) ∧ Hid (Post K (.returned (.bool true)) w')) := by
    rintro w1 ⟨hR1, hS1⟩;refine (used_q hR1 (by omega) 0).mono ?_;rintro e w' ⟨rfl, h11, hZ⟩;exact ⟨rfl, h11, HK.out _ _ ⟨true, rfl, A, g, .inl ⟨rfl, h1, rfl⟩, hZ.out.1, hS1.trans hZ.out.2 (Int.le_refl _)⟩⟩
   have HFr : Hid (∀ w1, Rep w1 g A → w1.cell? ⟨g.hb, 11, none⟩ = some (.int .i64 A.full)) := fun w1 h => h.c 11;have hd1 : decide (A.full < (A.used : Int) + n) = false := decide_eq_false (by omega);have hd2 : decide ((A.used : Int) + n ≤ A.full) = true := decide_eq_true h1;have hwr : IntKind.i64.wrap ((A.used : Int) + n) = (A.used : Int) + n := IntWalk.i64_in _ (by omega);clear hK HK hR hw hcs huc huc' h1;generalize A.used = u at *;generalize A.full = fu at *
   go_enter Tryz.func61, Tryz.ntmps61
   go_upto_region 1 with fail
   go_cut [15] from 5 to 14 (fun s15 wx => s15 = .bool false ∧ Hid (Rep wx g A ∧ Step w g A wx g))
   case first =>
    go_region_law (go_simp; go_at_call 57; refine (HU.out _).mono ?_; rintro e w1 ⟨rfl, q11, hZ⟩)
    all_goals (go_wp2; go_meet; exact ⟨by first | rfl | exact congrArg Value.bool hd1 | exact congrArg Value.bool (by rw [hwr]; exact hd1), hZ⟩)
   case rest =>
    obtain ⟨rfl, hZ⟩ := hcut;have HF2 := Lib.hid fun n => HF.out (wc.drewN n) ⟨hZ.out.1.drewN n, hZ.out.2.trans (Step.drewN wc g A n) (Int.le_refl _)⟩;have d11 : wc.cell? ⟨g.hb, 11, none⟩ = some (.int .i64 fu) := HFr.out wc hZ.out.1;clear HF HU c11 hZ;go_wp2
    go_region_law (go_simp; go_at_call 57; refine (HF2.out _).mono ?_; rintro e w2 ⟨rfl, q11, hZ2⟩)
    all_goals
     go_wp2
     go_simp
     go_ret
     first | exact hZ2.out | (rw [hwr, hd2]; exact hZ2.out) | (rw [hd2]; exact hZ2.out)
 · have HC := Lib.hid fun (w1 : World) (hR1 : Rep w1 g A) => clean_any hR1 hw;have HF : Hid (∀ w1 g1, Rep w1 g1 A.cleaned ∧ Step w g A w1 g1 → ∀ n', Calls Tryz.prog 57 #[.pointer (some ⟨g.hb, 0, none⟩)] (w1.drewN n') fun e w' => e = .returned (.int .i64 A.cleaned.used) ∧ w'.cell? ⟨g.hb, 11, none⟩ = some (.int .i64 A.full) ∧ Hid (Post K (.returned (.bool (decide (A.cleaned.used + n ≤ A.full)))) w')) := by
    rintro w1 g1 ⟨hR1, hS1⟩ n';have := used_q hR1 (by omega) n';rw [hS1.hb] at this;refine this.mono ?_;rintro e w' ⟨rfl, h11, hZ⟩;rw [hcs.2.2.2.2.2.2.2] at h11;exact ⟨rfl, h11, HK.out _ _ ⟨_, rfl, A.cleaned, g1, .inr ⟨rfl, rfl⟩, hZ.out.1, hS1.trans hZ.out.2 (by rw [hcs.1]; exact Int.le_refl _)⟩⟩
   have HFr : Hid (∀ w1 g1, Rep w1 g1 A.cleaned ∧ Step w g A w1 g1 → w1.cell? ⟨g.hb, 11, none⟩ = some (.int .i64 A.full)) := fun w1 g1 h => by
    have := h.1.c 11;rw [h.2.hb] at this;rw [this];show some (Value.int .i64 A.cleaned.full) = _;rw [hcs.2.2.2.2.2.2.2]
   have hd1 : decide (A.full < (A.used : Int) + n) = true := decide_eq_true (by omega);have hwr : IntKind.i64.wrap ((A.used : Int) + n) = (A.used : Int) + n := IntWalk.i64_in _ (by omega);have hwr2 : IntKind.i64.wrap ((A.cleaned.used : Int) + n) = (A.cleaned.used : Int) + n := IntWalk.i64_in _ (by omega);clear hK HK hR hw hcs huc huc' h1;generalize A.cleaned.used = uc at *;generalize A.used = u at *;generalize A.full = fu at *;generalize A.cleaned = Ac at *
   go_enter Tryz.func61, Tryz.ntmps61
   go_upto_region 1 with fail
   go_cut [15] from 5 to 14 (fun s15 wx => s15 = .bool true ∧ Hid (Rep wx g A ∧ Step w g A wx g))
   case first =>
    go_region_law (go_simp; go_at_call 57; refine (HU.out _).mono ?_; rintro e w1 ⟨rfl, q11, hZ⟩)
    all_goals (go_wp2; go_meet; exact ⟨by first | rfl | exact congrArg Value.bool hd1 | exact congrArg Value.bool (by rw [hwr]; exact hd1), hZ⟩)
   case rest =>
    obtain ⟨rfl, hZ⟩ := hcut;have HC2 : Hid (Calls Tryz.prog 65 #[.pointer (some ⟨g.hb, 0, none⟩)] wc fun e w1 => e = .returned (.tuple #[]) ∧ w1.cell? ⟨g.hb, 11, none⟩ = some (.int .i64 fu) ∧ Hid (∀ n', Calls Tryz.prog 57 #[.pointer (some ⟨g.hb, 0, none⟩)] (w1.drewN n') fun e w' => e = .returned (.int .i64 uc) ∧ w'.cell? ⟨g.hb, 11, none⟩ = some (.int .i64 fu) ∧ Hid (Post K (.returned (.bool (decide (uc + n ≤ fu)))) w'))) := by
     refine (HC.out wc hZ.out.1).mono ?_;rintro e w1 ⟨rfl, g1, hR1, hS1⟩;have h2 := hZ.out.2.trans hS1 (Int.le_refl _);exact ⟨rfl, HFr.out w1 g1 ⟨hR1, h2⟩, HF.out w1 g1 ⟨hR1, h2⟩⟩
    clear HF HU HC HFr c11 hZ
    go_wp2_with (go_at_call 65; refine HC2.out.mono ?_; rintro e w1 ⟨rfl, q12, HU2⟩)
    clear HC2
    go_region_law (go_simp; go_at_call 57; refine (HU2.out _).mono ?_; rintro e w2 ⟨rfl, q11, hZ2⟩)
    all_goals
     go_wp2
     go_simp
     go_ret
     first | exact hZ2.out | (rw [hwr2]; exact hZ2.out)
end Go.Proofs.YtelghmmcbgfjnaaGreat
