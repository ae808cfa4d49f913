/-
  The ideal heap of the law of rings: keys in circles, in a weak table. (A part of the proof, joined of: Yo, Yp, Yq, Yr.)
-/
import Derived.Test.YtelghmmcbgfjnaaH19
/-! The ideal heap of the law of rings: keys in circles, in a weak table. -/
namespace Go.Proofs.Ytelghmmcbgfjnaa
open Go.RowKit

namespace Rings
def key (j : Nat) : Nd := ⟨false, j, [⟨false, j⟩], [], false⟩
def tab (l : List En) : Nd := ⟨true, 0, [], l, false⟩
def R (l : List En) (i : Nat) (hs : List (Int × Int)) : IS := ⟨tab l :: (List.range i).map key, hs, [], [], 400⟩
def rhs (i : Nat) : List (Int × Int) := (List.range i).map fun (j : Nat) => ((j : Int), (j : Int))
def ent (n f j : Nat) : En := ⟨(j : Int) + 1, ⟨true, (((j + f) % n : Nat) : Int) + 1⟩⟩
def ents (n f i : Nat) : List En := (List.range i).map (ent n f)

theorem rhs_lookup {i j : Nat} (h : j < i) : (rhs i).lookup (j : Int) = some (j : Int) := by
  induction i with
  | zero => omega
  | succ i ih =>
    unfold rhs at ih ⊢
    rw [List.range_succ, List.map_append]
    by_cases e : j = i
    · subst e
      rw [lookup_append]
      · simp
      · simp only [List.map_map, List.mem_map, List.mem_range, Function.comp, not_exists, not_and]
        intro x hx; omega
    · have hji : j < i := by omega
      have := ih hji
      have hl : ∀ (a b : List (Int × Int)) (n v : Int), a.lookup n = some v → (a ++ b).lookup n = some v := fun a b n v h => by
        induction a with
        | nil => cases h
        | cons p a iha =>
          obtain ⟨x, y⟩ := p
          rw [List.cons_append, List.lookup_cons]
          rw [List.lookup_cons] at h
          split
          · rename_i hx; rw [hx] at h; exact h
          · rename_i hx; rw [hx] at h; exact iha h
      exact hl _ _ _ _ this

theorem rhs_keys (i : Nat) : (rhs i).map (·.1) = (List.range i).map fun (j : Nat) => (j : Int) := by
  unfold rhs; rw [List.map_map]; rfl
theorem rhs_vals (i : Nat) : (rhs i).map (·.2) = (List.range i).map fun (j : Nat) => (j : Int) := by
  unfold rhs; rw [List.map_map]; rfl
theorem rhs_succ (i : Nat) : rhs (i + 1) = rhs i ++ [((i : Int), (i : Int))] := by
  unfold rhs; rw [List.range_succ, List.map_append]; rfl
theorem rhs_least (i : Nat) : Least ((rhs i).map (·.1)) i := by
  rw [rhs_keys]
  refine ⟨by omega, ?_, fun m h1 h2 => ?_⟩
  · simp only [List.mem_map, List.mem_range, not_exists, not_and]
    intro x hx; omega
  · exact List.mem_map.2 ⟨m.toNat, List.mem_range.2 (by omega), by omega⟩

theorem nd_0 (l : List En) (i : Nat) (hs : List (Int × Int)) : (R l i hs).nd 0 = some (tab l) := rfl
theorem nd_key {l : List En} {i j : Nat} {hs : List (Int × Int)} (h : j < i) : (R l i hs).nd ((j : Int) + 1) = some (key j) := by
  unfold IS.nd
  rw [if_pos (by omega)]
  have e : ((j : Int) + 1).toNat = j + 1 := by omega
  rw [e]
  show (tab l :: (List.range i).map key)[j + 1]? = _
  rw [List.getElem?_cons_succ, List.getElem?_map, List.getElem?_range h]
  rfl
theorem nd_cases {l : List En} {i : Nat} {hs : List (Int × Int)} {n : Int} {d : Nd} (h : (R l i hs).nd n = some d) : (n = 0 ∧ d = tab l) ∨ ∃ j : Nat, j < i ∧ n = (j : Int) + 1 ∧ d = key j := by
  obtain ⟨h0, hl, he⟩ := IS.nd_nat h
  have hl' : n.toNat < i + 1 := by simpa [R] using hl
  by_cases e : n = 0
  · subst e
    rw [nd_0] at h
    simp only [Option.some.injEq] at h
    exact .inl ⟨rfl, h.symm⟩
  · right
    have hn : n = ((n.toNat - 1 : Nat) : Int) + 1 := by omega
    rw [hn, nd_key (by omega)] at h
    simp only [Option.some.injEq] at h
    exact ⟨n.toNat - 1, by omega, hn, h.symm⟩

theorem sum_const (c : Nat) : ∀ n, ((List.range n).map fun _ => c).sum = n * c
  | 0 => by simp
  | n + 1 => by rw [List.range_succ, List.map_append, List.sum_append, sum_const c n]; simp [Nat.add_mul]

/-- The words kept are no more than those of all nodes. -/
theorem words_le (l : List En) (i : Nat) (hs : List (Int × Int)) : (R l i hs).words (R l i hs).live ≤ 1 + 3 * l.length + 2 * i := by
  refine Nat.le_trans (IS.words_le (q := fun _ => true) fun _ _ => rfl) ?_
  unfold IS.words
  have hlen : (R l i hs).nodes.length = i + 1 := by simp [R]
  rw [hlen, List.range_succ_eq_map, List.map_cons, List.sum_cons, List.map_map]
  have h0 : (R l i hs).cost (fun _ => true) 0 = 1 + 3 * l.length := by
    show (if true = true then 1 + 0 + 3 * (l.filter fun _ => true).length else 0) = _
    rw [List.filter_eq_self.2 fun _ _ => rfl]
    simp
  have h1 : (List.range i).map ((R l i hs).cost (fun _ => true) ∘ Nat.succ) = (List.range i).map fun _ => 2 := by
    refine List.map_congr_left fun j hj => ?_
    have hj' := List.mem_range.1 hj
    simp only [Function.comp]
    unfold IS.cost
    have : (R l i hs).nodes[Nat.succ j]? = some (key j) := by
      show (tab l :: (List.range i).map key)[j + 1]? = _
      rw [List.getElem?_cons_succ, List.getElem?_map, List.getElem?_range hj']
      rfl
    rw [this]
    simp [key]
  rw [h0, h1, sum_const]
  omega

theorem table : (IS.start 400).table = (0, 0, R [] 0 (rhs 1)) := by
  have hf : (IS.start 400).fresh = 0 := freshOf_eq Sane.least_0
  have hw : (IS.start 400).words (IS.start 400).live = 0 := rfl
  have hr : (IS.start 400).room = 400 := rfl
  unfold IS.table IS.adds
  rw [hw, hr, if_pos (by omega), hf]
  show (0, 0, ((IS.start 400).add (tab [])).grant 0) = _
  unfold IS.grant
  have : ((IS.start 400).add (tab [])).fresh = 0 := hf
  rw [this]
  rfl

theorem make (i : Nat) (h : i < 20) : (R [] i (rhs (i + 1))).make i [⟨false, i⟩] = ((i : Int) + 1, 0, R [] (i + 1) (rhs (i + 2))) := by
  have hf : (R [] i (rhs (i + 1))).fresh = (i : Int) + 1 := freshOf_eq (rhs_least (i + 1))
  have hr : (R [] i (rhs (i + 1))).room = 400 := rfl
  have hw := words_le [] i (rhs (i + 1))
  simp only [List.length_nil] at hw
  have hm : (R [] i (rhs (i + 1))).make i [⟨false, i⟩] = (R [] i (rhs (i + 1))).adds 2 (key i) := by
    unfold IS.make
    rw [if_pos (by simp [IS.okC]), if_neg (by simp)]
    rfl
  rw [hm]
  unfold IS.adds
  rw [hr, if_pos (by omega), hf]
  unfold IS.grant
  have : ((R [] i (rhs (i + 1))).add (key i)).fresh = (i : Int) + 1 := hf
  rw [this, rhs_succ (i + 1)]
  simp [R, IS.add, List.range_succ]

theorem okC_key {l : List En} {n j : Nat} (h : j < n) : (R l n (rhs (n + 1))).okC ⟨true, (j : Int) + 1⟩ = true ∧ (R l n (rhs (n + 1))).wordC ⟨true, (j : Int) + 1⟩ = ⟨true, (j : Int) + 1⟩ := by
  have := rhs_lookup (i := n + 1) (j := j + 1) (by omega)
  rw [Int.natCast_add, Int.natCast_one] at this
  unfold IS.okC IS.wordC
  simp [R, this]

theorem put (n f i : Nat) (hn : n ≤ 20) (hi : i < n) : (R (ents n f i) n (rhs (n + 1))).put 0 ((i : Int) + 1) ⟨true, (((i + f) % n : Nat) : Int) + 1⟩ = (0, R (ents n f (i + 1)) n (rhs (n + 1))) := by
  have h0 := rhs_lookup (i := n + 1) (j := 0) (by omega)
  have h1 := rhs_lookup (i := n + 1) (j := i + 1) (by omega)
  rw [Int.natCast_zero] at h0
  rw [Int.natCast_add, Int.natCast_one] at h1
  obtain ⟨h2, h3⟩ := okC_key (l := ents n f i) (n := n) (j := (i + f) % n) (Nat.mod_lt _ (by omega))
  have hw := words_le (ents n f i) n (rhs (n + 1))
  have hel : (ents n f i).length = i := by simp [ents]
  rw [hel] at hw
  have hno : (ents n f i).find? (KeyIs ((i : Int) + 1)) = none := List.find?_eq_none.2 fun x hx => by
    obtain ⟨j, hj, rfl⟩ := List.mem_map.1 hx
    have := List.mem_range.1 hj
    simp [KeyIs, ent]; omega
  have hr : (R (ents n f i) n (rhs (n + 1))).room = 400 := rfl
  unfold IS.put
  have e0 : (R (ents n f i) n (rhs (n + 1))).hs.lookup 0 = some 0 := h0
  have e1 : (R (ents n f i) n (rhs (n + 1))).hs.lookup ((i : Int) + 1) = some ((i : Int) + 1) := h1
  rw [e0]; simp only []
  rw [e1]; simp only [h2, if_true]
  rw [nd_0]; simp only [tab, if_true, hno]
  rw [hr, if_pos (by omega), h3]
  have : ents n f (i + 1) = ents n f i ++ [ent n f i] := by unfold ents; rw [List.range_succ, List.map_append]; rfl
  rw [this]
  rfl

/-- The handles behind i rounds of dropping: those of the table, of the key that is held, and of the keys to come. -/
def hsAt (n hold i : Nat) : List (Int × Int) := (rhs (n + 1)).filter fun p => decide (p.1 = 0 ∨ (i : Int) < p.1 ∨ p.1 = (hold : Int) + 1)
theorem hsAt_0 (n hold : Nat) : hsAt n hold 0 = rhs (n + 1) := by
  unfold hsAt
  refine List.filter_eq_self.2 fun p hp => ?_
  obtain ⟨j, _, rfl⟩ := List.mem_map.1 hp
  simp only [decide_eq_true_eq]
  omega
theorem hsAt_keep (n hold : Nat) : hsAt n hold (hold + 1) = hsAt n hold hold := by
  unfold hsAt
  refine List.filter_congr fun p _ => ?_
  simp only [decide_eq_decide]
  omega
theorem filter_lookup {q : Int × Int → Bool} {l : List (Int × Int)} {n v : Int} (h : l.lookup n = some v) (hq : ∀ v, q (n, v) = true) : (l.filter q).lookup n = some v := by
  induction l with
  | nil => cases h
  | cons p l ih =>
    obtain ⟨a, b⟩ := p
    rw [List.lookup_cons] at h
    by_cases e : n = a
    · subst e
      simp at h
      subst h
      rw [List.filter_cons_of_pos (hq _)]
      simp [List.lookup]
    · have ea : (n == a) = false := by simpa using e
      rw [ea] at h
      rw [List.filter_cons]
      split
      · rw [List.lookup_cons, ea]; exact ih h
      · exact ih h
theorem drop (l : List En) (n hold i : Nat) (hi : i < n) (hne : i ≠ hold) : (R l n (hsAt n hold i)).drop ((i : Int) + 1) = (0, R l n (hsAt n hold (i + 1))) := by
  have h1 := rhs_lookup (i := n + 1) (j := i + 1) (by omega)
  rw [Int.natCast_add, Int.natCast_one] at h1
  have h2 : (hsAt n hold i).lookup ((i : Int) + 1) = some ((i : Int) + 1) := filter_lookup h1 fun v => by
    simp only [decide_eq_true_eq]; omega
  have h3 : delH (hsAt n hold i) ((i : Int) + 1) = hsAt n hold (i + 1) := by
    unfold delH hsAt
    rw [List.filter_filter]
    refine List.filter_congr fun p hp => ?_
    obtain ⟨j, _, rfl⟩ := List.mem_map.1 hp
    simp only [ne_eq, decide_not]
    by_cases e : (j : Int) = (i : Int) + 1
    · simp only [e, decide_true, Bool.not_true, Bool.false_and]
      symm
      simp only [decide_eq_false_iff_not]
      omega
    · simp only [e, decide_false, Bool.not_false, Bool.true_and, decide_eq_decide]
      omega
  unfold IS.drop
  have e2 : (R l n (hsAt n hold i)).hs.lookup ((i : Int) + 1) = some ((i : Int) + 1) := h2
  rw [e2]
  simp only []
  show (0, R l n (delH (hsAt n hold i) ((i : Int) + 1))) = _
  rw [h3]

/-- The orbit of hold. -/
inductive Orb (n f hold : Nat) : Nat → Prop
  | start : hold < n → Orb n f hold hold
  | next {j : Nat} : Orb n f hold j → Orb n f hold ((j + f) % n)
theorem Orb.lt {n f hold j : Nat} (h : Orb n f hold j) : j < n := by
  induction h with
  | start h => exact h
  | next _ ih => exact Nat.mod_lt _ (by omega)

theorem hsAt_mem {n hold : Nat} {m : Int} : m ∈ (hsAt n hold n).map (·.2) ↔ m = 0 ∨ (hold < n ∧ m = (hold : Int) + 1) := by
  unfold hsAt
  simp only [List.mem_map, List.mem_filter, decide_eq_true_eq]
  constructor
  · rintro ⟨p, ⟨hp, h⟩, rfl⟩
    obtain ⟨j, hj, rfl⟩ := List.mem_map.1 hp
    have := List.mem_range.1 hj
    simp only [] at h ⊢
    omega
  · rintro (rfl | ⟨h1, rfl⟩)
    · exact ⟨(0, 0), ⟨List.mem_map.2 ⟨0, List.mem_range.2 (by omega), rfl⟩, .inl rfl⟩, rfl⟩
    · exact ⟨((hold : Int) + 1, (hold : Int) + 1), ⟨List.mem_map.2 ⟨hold + 1, List.mem_range.2 (by omega), by simp⟩, .inr (.inr rfl)⟩, rfl⟩

theorem kept_iff {n f hold : Nat} {m : Int} : (R (ents n f n) n (hsAt n hold n)).kept m ↔ m = 0 ∨ ∃ j, Orb n f hold j ∧ m = (j : Int) + 1 := by
  have hroots : (R (ents n f n) n (hsAt n hold n)).roots ++ (R (ents n f n) n (hsAt n hold n)).reg = (hsAt n hold n).map (·.2) := by simp [R, IS.roots]
  unfold IS.kept
  rw [hroots]
  constructor
  · intro h
    induction h with
    | root h1 =>
      rcases hsAt_mem.1 h1 with h2 | ⟨h2, h3⟩
      · exact .inl h2
      · exact .inr ⟨hold, .start h2, h3⟩
    | field _ ho ht hm ih =>
      rcases nd_cases ho with ⟨_, rfl⟩ | ⟨j, _, _, rfl⟩
      · cases ht
      · simp [key, refsW] at hm
    | entry _ ho ht hx _ hr ih1 ih2 =>
      rcases nd_cases ho with ⟨_, rfl⟩ | ⟨j, _, _, rfl⟩
      · have hx' := hx
        obtain ⟨q, hq, rfl⟩ := List.mem_map.1 hx'
        rcases ih2 with h2 | ⟨j, hj, h2⟩
        · simp only [ent] at h2; omega
        · have : q = j := by simp only [ent] at h2; omega
          subst this
          exact .inr ⟨_, .next hj, rfl⟩
      · cases ht
  · rintro (rfl | ⟨j, hj, rfl⟩)
    · exact .root (hsAt_mem.2 (.inl rfl))
    · induction hj with
      | start h => exact .root (hsAt_mem.2 (.inr ⟨h, rfl⟩))
      | @next j hj ih =>
        refine .entry (t := 0) (x := ent n f j) (.root (hsAt_mem.2 (.inl rfl))) (nd_0 _ _ _) rfl ?_ ih rfl
        exact List.mem_map.2 ⟨j, List.mem_range.2 hj.lt, rfl⟩

/-- Count behind Major: the keys of the orbit. -/
theorem counted {n f hold u : Nat} {seen : Nat → Bool} (hs : ∀ j, j < n → (seen j = true ↔ Orb n f hold j))
    (h1 : ((ents n f n).filter fun x => (R (ents n f n) n (hsAt n hold n)).majored.live x.key).length ≤ u) (h2 : u ≤ ((ents n f n).filter fun x => (R (ents n f n) n (hsAt n hold n)).majored.here x.key).length) : u = ((List.range n).filter seen).length := by
  have hlv : ∀ j, j < n → (R (ents n f n) n (hsAt n hold n)).live ((j : Int) + 1) = seen j := fun j hj => by
    have hk := kept_iff (n := n) (f := f) (hold := hold) (m := (j : Int) + 1)
    cases hsj : seen j with
    | true => exact IS.live_iff.2 (hk.2 (.inr ⟨j, (hs j hj).1 hsj, rfl⟩))
    | false =>
      cases hl : (R (ents n f n) n (hsAt n hold n)).live ((j : Int) + 1) with
      | false => rfl
      | true =>
        rcases hk.1 (IS.live_iff.1 hl) with h | ⟨q, hq, h⟩
        · omega
        · have : q = j := by omega
          subst this
          rw [(hs q hj).2 hq] at hsj; cases hsj
  have hmaj : ∀ m, (R (ents n f n) n (hsAt n hold n)).majored.live m = (R (ents n f n) n (hsAt n hold n)).live m := fun m => by
    have := IS.majored_kept (I := R (ents n f n) n (hsAt n hold n)) m
    cases hl : (R (ents n f n) n (hsAt n hold n)).live m with
    | true => exact IS.live_iff.2 (this.2 (IS.live_iff.1 hl))
    | false =>
      cases hl2 : (R (ents n f n) n (hsAt n hold n)).majored.live m with
      | false => rfl
      | true => rw [IS.live_iff.2 (this.1 (IS.live_iff.1 hl2))] at hl; cases hl
  have hhere : ∀ j, j < n → (R (ents n f n) n (hsAt n hold n)).majored.here ((j : Int) + 1) = seen j := fun j hj => by
    unfold IS.here
    rw [IS.nd_majored, nd_key hj]
    simp only [Option.map_some, hlv j hj, Bool.not_not]
  have e : ∀ p : En → Bool, (∀ j, j < n → p (ent n f j) = seen j) → ((ents n f n).filter p).length = ((List.range n).filter seen).length := fun p hp => by
    unfold ents
    rw [List.filter_map, List.length_map]
    congr 1
    exact List.filter_congr fun j hj => hp j (List.mem_range.1 hj)
  rw [e _ fun j hj => by rw [hmaj]; exact hlv j hj] at h1
  rw [e _ fun j hj => hhere j hj] at h2
  omega

theorem ample {l : List En} {i m : Nat} {hs : List (Int × Int)} (hm : m < 9000) (hi : i ≤ 20) (hh : hs.length ≤ 100) (hl : l.length < 200) : Ample (R l i hs) m := by
  refine ⟨hm, by simp [R]; omega, by simp [R]; omega, fun n d hd => ?_⟩
  rcases nd_cases hd with ⟨_, rfl⟩ | ⟨j, _, _, rfl⟩
  · exact hl
  · simp [key]
end Rings

end Go.Proofs.Ytelghmmcbgfjnaa

/-! The law of rings: rounds of its loops. -/
namespace Go.Proofs.Ytelghmmcbgfjnaa
open Go.RowKit

/-- A block that a turn of the caller's own blocks has made is not the heap's. -/
theorem HP.grow {w w' : World} {hb : Nat} {L : List Nat} {I : IS} {m : Nat} (h : HP w hb L I m) (hC : Chg (fun b => b ∈ L) w w') {b : Nat} (hge : w.heap.size ≤ b) (hlt : b < w'.heap.size) : HP w' hb (b :: L) I m := by
  obtain ⟨g, A, h1, h2, h3, h4⟩ := h
  refine ⟨g, A, h1.frame hC fun b hb => (h4 b hb).2, h2, h3, fun c hc => ?_⟩
  rcases List.mem_cons.1 hc with rfl | hc
  · refine ⟨hlt, ?_⟩
    cases ho : g.own c with
    | none => rfl
    | some r => have := h1.lt c (by rw [ho]; rfl); omega
  · exact ⟨Nat.lt_of_lt_of_le (h4 c hc).1 hC.size, (h4 c hc).2⟩

theorem HB.frame {w0 w w' : World} {hb : Nat} {L : List Nat} {I : IS} {m : Nat} (h : HB w0 w hb L I m) {F : Nat → Prop} (hC : Chg F w w') (hF : ∀ b, F b → b ∈ L ∧ w0.heap.size ≤ b) : HB w0 w' hb L I m :=
  ⟨h.hp.frame (hC.mono fun b _ hb => List.mem_append_right _ (hF b hb).1), h.chg.trans hC fun j hj hf => by have := (hF j hf).2; omega⟩
theorem HB.grow {w0 w w' : World} {hb : Nat} {L : List Nat} {I : IS} {m : Nat} (h : HB w0 w hb L I m) {F : Nat → Prop} (hC : Chg F w w') (hF : ∀ b, F b → b ∈ L ∧ w0.heap.size ≤ b) {b : Nat} (hge : w.heap.size ≤ b) (hlt : b < w'.heap.size) : HB w0 w' hb (b :: L) I m :=
  ⟨(h.hp.grow (hC.mono fun b _ hb => List.mem_append_right _ (hF b hb).1) hge hlt).sub fun c hc => by
    simp only [List.mem_append, List.mem_cons] at hc ⊢
    rcases hc with hc | hc | hc
    · exact .inr (.inl hc)
    · exact .inl hc
    · exact .inr (.inr hc), h.chg.trans hC fun j hj hf => by have := (hF j hf).2; omega⟩

/-- One number more behind a slice of numbers. -/
theorem appI {w : World} {v : Value} {xs : List Int} (hrow : Row w 3 1 v xs.length (intCells xs)) (x : Int) (hT : xs.length < 1000000000000) :
    ∃ a cap w', (Builtin.append_ #[34, 34] 34 #[v, .slice (some ⟨w.heap.size, 0, none⟩) 1 1]).run Try.prog (w.alloc (.cells #[.int .i64 x] 3)) = .ok (.slice a (xs.length + 1) cap) w' ∧
      Row w' 3 1 (.slice a (xs.length + 1) cap) (xs ++ [x]).length (intCells (xs ++ [x])) ∧ Chg (fun b => rowBlk v = some b) w w' ∧ (∀ b, rowBlk (.slice a (xs.length + 1) cap) = some b → rowBlk v = some b ∨ w.heap.size ≤ b) := by
  obtain ⟨i0, hi, hz0, hz1, hz2⟩ := info_parts iInt
  have h1 : Row (w.alloc (.cells #[.int .i64 x] 3)) 3 1 v xs.length (intCells xs) := hrow.same fun b hb => by rw [heap_alloc, if_neg (by have := hrow.lt hb; omega)]
  have hsrc : Src' (w.alloc (.cells #[.int .i64 x] 3)) 1 (.slice (some ⟨w.heap.size, 0, none⟩) 1 1) 1 [.int .i64 x] := src_block (heap_alloc_new _ _) (by simp) (by simp)
  obtain ⟨v3, w3, happ, hrow3, hC3, hloc3⟩ := run_append_row (P := Try.prog) 34 34 3 i0 _ 1 8 uInts hi hz0 hz1 hz2 rfl (by decide) h1 hsrc (by simp [Value.oneCell']) (by unfold maxLen; omega) (by omega)
  obtain ⟨a3, cap3, rfl, -⟩ := hrow3.slice
  have hCa : Chg (fun b => rowBlk v = some b) w (w.alloc (.cells #[.int .i64 x] 3)) := (Chg.refl _ _).alloc _
  refine ⟨a3, cap3, w3, happ, ?_, hCa.trans hC3 (fun _ _ h => h), ?_⟩
  · have e : intCells (xs ++ [x]) = intCells xs ++ [.int .i64 x] := by simp [intCells]
    rw [e, List.length_append, List.length_singleton]
    exact hrow3
  · intro b hb
    rcases hloc3 b hb with h2 | h2
    · exact .inl h2
    · simp at h2; exact .inr (by omega)

namespace Rings
def names (k : Nat) : List Int := (List.range k).map fun (j : Nat) => (j : Int) + 1
theorem names_len (k : Nat) : (names k).length = k := by simp [names]
theorem names_succ (k : Nat) : names (k + 1) = names k ++ [(k : Int) + 1] := by unfold names; rw [List.range_succ, List.map_append]; rfl

/-- The heap, and the slice of the keys' handles. -/
structure KI (w0 wr : World) (hb : Nat) (v : Value) (I : IS) (k m : Nat) (L : List Nat) : Prop where
  hp : HB w0 wr hb L I m
  row : Row wr 3 1 v k (intCells (names k))
  own : ∀ b, rowBlk v = some b → b ∈ L ∧ w0.heap.size ≤ b

theorem KI.got {w0 wr w' : World} {hb : Nat} {v : Value} {I I' : IS} {k m m' : Nat} {L : List Nat} (h : KI w0 wr hb v I k m L) (hG : Got wr hb (List.range w0.heap.size ++ L) I' m' w') : KI w0 w' hb v I' k m' L :=
  ⟨h.hp.got hG, h.row.same fun b hb => hG.chg.block b (h.row.lt hb) fun hn => hn (List.mem_append_right _ (h.own b hb).1), h.own⟩
theorem KI.still {w0 wr w' : World} {hb : Nat} {v : Value} {I : IS} {k m : Nat} {L : List Nat} (h : KI w0 wr hb v I k m L) (hC : Chg (fun _ => False) wr w') : KI w0 w' hb v I k m L :=
  ⟨h.hp.still hC, h.row.same fun b hb => hC.block b (h.row.lt hb) fun h => h, h.own⟩
theorem KI.alloc {w0 wr : World} {hb : Nat} {v : Value} {I : IS} {k m : Nat} {L : List Nat} (h : KI w0 wr hb v I k m L) (X : Obj) : KI w0 (wr.alloc X) hb v I k m (wr.heap.size :: L) :=
  ⟨h.hp.alloc X, h.row.same fun b hb => by rw [heap_alloc, if_neg (by have := h.row.lt hb; omega)], fun b hb => ⟨List.mem_cons_of_mem _ (h.own b hb).1, (h.own b hb).2⟩⟩
theorem KI.sub {w0 wr : World} {hb : Nat} {v : Value} {I : IS} {k m : Nat} {L L' : List Nat} (h : KI w0 wr hb v I k m L) (hs : ∀ b ∈ L', b ∈ L) (ho : ∀ b, rowBlk v = some b → b ∈ L') : KI w0 wr hb v I k m L' :=
  ⟨h.hp.sub hs, h.row, fun b hb => ⟨ho b hb, (h.own b hb).2⟩⟩

theorem KI.round1 {w0 wr : World} {hb : Nat} {v : Value} {i m : Nat} {L : List Nat} (h : KI w0 wr hb v (R [] i (rhs (i + 1))) i m L) (hi : i < 20) (hm : m < 8000) :
    Calls Try.prog 13 #[.int .i64 i] wr fun e w2 => e = .returned (.agg #[.bool false, .int .i64 i]) ∧
      Hid (Calls Try.prog 10 #[.pointer (some ⟨hb, 0, none⟩), .int .i64 i, .slice (some ⟨w2.heap.size, 0, none⟩) 1 1] (w2.alloc (.cells #[.bool false, .int .i64 i] 36)) fun e w3 => e = .returned (.tuple #[.int .i64 ((i : Int) + 1), .int .i64 0]) ∧
        ∃ a cap w5, (Builtin.append_ #[34, 34] 34 #[v, .slice (some ⟨w3.heap.size, 0, none⟩) 1 1]).run Try.prog (w3.alloc (.cells #[.int .i64 ((i : Int) + 1)] 3)) = .ok (.slice a (i + 1) cap) w5 ∧
          Hid (∃ L', KI w0 w5 hb (.slice a (i + 1) cap) (R [] (i + 1) (rhs (i + 2))) (i + 1) (m + 1) L')) := by
  refine (num_any wr i).mono ?_
  rintro e w2 ⟨rfl, hC2⟩
  have h2 := (h.still hC2).alloc (.cells #[.bool false, .int .i64 i] 36)
  refine ⟨rfl, Lib.hid ?_⟩
  have hcs : CellsAt (w2.alloc (.cells #[.bool false, .int .i64 i] 36)) (some ⟨w2.heap.size, 0, none⟩) 1 [⟨false, (i : Int)⟩] := ⟨rfl, fun j c hj => by
    match j, hj with
    | 0, hj =>
      simp only [List.getElem?_cons_zero, Option.some.injEq] at hj
      subst hj
      have hn := heap_alloc_new w2 (.cells #[.bool false, .int .i64 i] 36)
      exact ⟨w2.heap.size, 0, rfl, cellAt hn 0, cellAt hn 1⟩
    | j + 1, hj => simp at hj⟩
  refine (h2.hp.hp.make (ample (by omega) (by omega) (by simp [rhs]; omega) (by simp)) i hcs (by omega)).mono ?_
  rw [Rings.make i hi]
  rintro e w3 ⟨rfl, hG⟩
  have h3 := h2.got hG
  refine ⟨rfl, ?_⟩
  have hrow := h3.row
  rw [show Row w3 3 1 v i (intCells (names i)) = Row w3 3 1 v (names i).length (intCells (names i)) by rw [names_len]] at hrow
  obtain ⟨a, cap, w5, happ, hr5, hC5, hloc⟩ := appI hrow ((i : Int) + 1) (by rw [names_len]; omega)
  rw [names_len] at happ hr5 hloc
  rw [← names_succ, names_len] at hr5
  refine ⟨a, cap, w5, happ, Lib.hid ?_⟩
  by_cases hnew : ∃ b, rowBlk (.slice a (i + 1) cap) = some b ∧ w3.heap.size ≤ b
  · obtain ⟨b, hb1, hb2⟩ := hnew
    have h5 := h3.hp.grow hC5 h3.own hb2 (hr5.lt hb1)
    refine ⟨_, h5, hr5, fun c hc => ?_⟩
    rw [hb1] at hc
    simp only [Option.some.injEq] at hc
    subst hc
    have := h3.hp.chg.size
    exact ⟨by simp, by omega⟩
  · refine ⟨_, h3.hp.frame hC5 h3.own, hr5, fun c hc => ?_⟩
    rcases hloc c hc with h6 | h6
    · exact h3.own c h6
    · exact absurd ⟨c, hc, h6⟩ hnew

theorem KI.cell {w0 wr : World} {hb : Nat} {a : Option Addr} {c : Nat} {I : IS} {k m : Nat} {L : List Nat} (h : KI w0 wr hb (.slice a k c) I k m L) (hk : 0 < k) : ∃ g, a = some ⟨g, 0, none⟩ ∧ ∀ j, j < k → wr.cell? ⟨g, j, none⟩ = some (.int .i64 ((j : Int) + 1)) := by
  obtain ⟨g, h1, _, h2⟩ := h.row.cells hk
  refine ⟨g, h1, fun j hj => h2 j _ ?_⟩
  simp [intCells, names, hj]

theorem KI.put {w0 wr : World} {hb : Nat} {v : Value} {n f i m : Nat} {L : List Nat} (h : KI w0 wr hb v (R (ents n f i) n (rhs (n + 1))) n m L) (hn : n ≤ 20) (hi : i < n) (hm : m < 8000) :
    Calls Try.prog 14 #[.pointer (some ⟨hb, 0, none⟩), .int .i64 0, .int .i64 ((i : Int) + 1), .agg #[.bool true, .int .i64 ((((i + f) % n : Nat) : Int) + 1)]] wr fun e w' => e = .returned (.int .i64 0) ∧ Hid (KI w0 w' hb v (R (ents n f (i + 1)) n (rhs (n + 1))) n (m + 1) L) := by
  refine (h.hp.hp.put (ample (by omega) hn (by simp [rhs]; omega) (by simp [ents]; omega)) 0 ((i : Int) + 1) ⟨true, (((i + f) % n : Nat) : Int) + 1⟩).mono ?_
  rw [Rings.put n f i hn hi]
  rintro e w' ⟨rfl, hG⟩
  exact ⟨rfl, Lib.hid (h.got hG)⟩

theorem KI.drop {w0 wr : World} {hb : Nat} {v : Value} {l : List En} {n hold i m : Nat} {L : List Nat} (h : KI w0 wr hb v (R l n (hsAt n hold i)) n m L) (hi : i < n) (hne : i ≠ hold) :
    Calls Try.prog 11 #[.pointer (some ⟨hb, 0, none⟩), .int .i64 ((i : Int) + 1)] wr fun e w' => e = .returned (.int .i64 0) ∧ Hid (KI w0 w' hb v (R l n (hsAt n hold (i + 1))) n (m + 1) L) := by
  refine (h.hp.hp.drop ((i : Int) + 1)).mono ?_
  rw [Rings.drop l n hold i hi hne]
  rintro e w' ⟨rfl, hG⟩
  exact ⟨rfl, Lib.hid (h.got hG)⟩

theorem KI.end_ {w0 wr : World} {hb : Nat} {v : Value} {n f hold m : Nat} {L : List Nat} {seen : Nat → Bool} (h : KI w0 wr hb v (R (ents n f n) n (hsAt n hold n)) n m L) (hm : m < 8000) (hs : ∀ j, j < n → (seen j = true ↔ Orb n f hold j)) :
    Calls Try.prog 16 #[.pointer (some ⟨hb, 0, none⟩)] wr fun e w1 => e = .returned (.tuple #[]) ∧ Hid (Calls Try.prog 17 #[.pointer (some ⟨hb, 0, none⟩)] w1 fun e w2 => e = .returned (.tuple #[]) ∧
      Hid (Calls Try.prog 18 #[.pointer (some ⟨hb, 0, none⟩), .int .i64 0] w2 fun e w3 => e = .returned (.tuple #[.int .i64 ((List.range n).filter seen).length, .int .i64 0]) ∧ Hid (Chg (fun _ => False) w0 w3))) := by
  refine (h.hp.hp.minor (by omega)).mono ?_
  rintro e w1 ⟨rfl, hG1⟩
  have h1 := h.got hG1
  refine ⟨rfl, Lib.hid ?_⟩
  refine h1.hp.hp.major.mono ?_
  rintro e w2 ⟨rfl, hG2⟩
  have h2 := h1.got hG2
  refine ⟨rfl, Lib.hid ?_⟩
  have hl : (R (ents n f n) n (hsAt n hold n)).majored.hs.lookup 0 = some 0 := by
    have := rhs_lookup (i := n + 1) (j := 0) (by omega)
    rw [Int.natCast_zero] at this
    exact filter_lookup this fun v => by simp
  have hd : (R (ents n f n) n (hsAt n hold n)).majored.nd 0 = some { tab (ents n f n) with gone := !(R (ents n f n) n (hsAt n hold n)).live 0 } := by
    rw [IS.nd_majored, nd_0]; rfl
  refine (h2.hp.hp.count hl hd rfl).mono ?_
  rintro e w3 ⟨u, rfl, ⟨hu1, hu2⟩, hG3⟩
  have := counted (n := n) (f := f) (hold := hold) (u := u) hs hu1 hu2
  subst this
  exact ⟨rfl, Lib.hid (h2.hp.got hG3).chg⟩
end Rings

end Go.Proofs.Ytelghmmcbgfjnaa

/-! The law of rings: what is reached from the key that is held, as its loop marks it. -/
namespace Go.Proofs.Ytelghmmcbgfjnaa
open Go.RowKit

namespace Rings
def upd (seen : Nat → Bool) (q : Nat) : Nat → Bool := fun j => if j = q then true else seen j

/-- The marks: q comes next, k are marked. -/
structure Marks (n f hold q k : Nat) (seen : Nat → Bool) : Prop where
  le : q ≤ n
  num : k = ((List.range n).filter seen).length
  orb : ∀ j, j < n → seen j = true → Orb n f hold j
  here : q < n → Orb n f hold q
  next : ∀ j, j < n → seen j = true → seen ((j + f) % n) = true ∨ (j + f) % n = q
  start : hold < n → seen hold = true ∨ q = hold
  out : q = n → hold = n

theorem Marks.zero {n f hold : Nat} (h : hold ≤ n) : Marks n f hold hold 0 (fun _ => false) :=
  ⟨h, (by rw [List.filter_eq_nil_iff.2 (fun _ _ h => (by cases h))]; rfl), fun _ _ h => (by cases h), fun h => .start h, fun _ _ h => (by cases h), fun _ => .inr rfl, fun h => h⟩

theorem count_upd {seen : Nat → Bool} {q : Nat} (hs : seen q = false) : ∀ n, ((List.range n).filter (upd seen q)).length = ((List.range n).filter seen).length + (if q < n then 1 else 0)
  | 0 => by simp
  | n + 1 => by
    rw [List.range_succ, List.filter_append, List.filter_append, List.length_append, List.length_append, count_upd hs n]
    by_cases e : n = q
    · subst e
      simp [upd, hs]
    · have h1 : upd seen q n = seen n := by simp [upd, e]
      have h2 : (if q < n + 1 then 1 else 0) = (if q < n then 1 else 0) := by
        by_cases h3 : q < n
        · rw [if_pos h3, if_pos (by omega)]
        · rw [if_neg h3, if_neg (by omega)]
      rw [h2]
      simp only [List.filter_cons, List.filter_nil, h1]
      omega

theorem Marks.step {n f hold q k : Nat} {seen : Nat → Bool} (h : Marks n f hold q k seen) (hq : q < n) (hs : seen q = false) : Marks n f hold ((q + f) % n) (k + 1) (upd seen q) ∧ k < n := by
  have hlt : (q + f) % n < n := Nat.mod_lt _ (by omega)
  have hc := count_upd hs n
  rw [if_pos hq, ← h.num] at hc
  have hle : ((List.range n).filter (upd seen q)).length ≤ n := by
    have := List.length_filter_le (upd seen q) (List.range n)
    simpa using this
  refine ⟨⟨by omega, hc.symm, fun j hj hsj => ?_, fun _ => .next (h.here hq), fun j hj hsj => ?_, fun hh => ?_, fun e => by omega⟩, by omega⟩
  · by_cases e : j = q
    · rw [e]; exact h.here hq
    · exact h.orb j hj (by simpa [upd, e] using hsj)
  · by_cases e : j = q
    · right; rw [e]
    · have := h.next j hj (by simpa [upd, e] using hsj)
      rcases this with h1 | h1
      · left; simp [upd, h1]
      · left; simp [upd, h1]
  · left
    rcases h.start hh with h1 | h1
    · simp [upd, h1]
    · simp [upd, h1]

theorem Marks.done {n f hold q k : Nat} {seen : Nat → Bool} (h : Marks n f hold q k seen) (hq : q = n ∨ seen q = true) : ∀ j, j < n → (seen j = true ↔ Orb n f hold j) := by
  intro j hj
  refine ⟨h.orb j hj, fun ho => ?_⟩
  induction ho with
  | start hh =>
    rcases hq with hq | hq
    · have := h.out hq; omega
    · rcases h.start hh with h1 | h1
      · exact h1
      · rw [← h1]; exact hq
  | @next j ho ih =>
    have h1 := ih ho.lt
    rcases hq with hq | hq
    · have := h.out hq
      have hno : ∀ x, ¬ Orb n f hold x := fun x hx => by
        induction hx with
        | start hh => omega
        | next _ ih => exact ih
      exact absurd ho (hno j)
    · rcases h.next j ho.lt h1 with h2 | h2
      · exact h2
      · rw [h2]; exact hq

/-- The marks in memory. -/
structure SeenAt (wr : World) (sb n : Nat) (seen : Nat → Bool) : Prop where
  blk : ∃ cs, wr.heap[sb]? = some (.cells cs 4 (0, 0)) ∧ cs.size = n ∧ ∀ j, j < n → cs[j]? = some (.bool (seen j))

theorem SeenAt.cell {wr : World} {sb n : Nat} {seen : Nat → Bool} (h : SeenAt wr sb n seen) {j : Nat} (hj : j < n) : wr.cell? ⟨sb, j, none⟩ = some (.bool (seen j)) ∧ wr.frozen? ⟨sb, j, none⟩ = false := by
  obtain ⟨cs, h1, h2, h3⟩ := h.blk
  exact ⟨by rw [cellAt h1]; exact h3 j hj, freeAt h1 j⟩
theorem SeenAt.set {wr : World} {sb n : Nat} {seen : Nat → Bool} (h : SeenAt wr sb n seen) {q : Nat} (hq : q < n) : SeenAt (wr.setCell ⟨sb, q, none⟩ (.bool true)) sb n (upd seen q) := by
  obtain ⟨cs, h1, h2, h3⟩ := h.blk
  refine ⟨⟨_, heap_setCell h1 q (.bool true), by simp [h2], fun j hj => ?_⟩⟩
  by_cases e : j = q
  · subst e
    rw [Array.getElem?_setIfInBounds_self_of_lt (by omega)]
    simp [upd]
  · rw [Array.getElem?_setIfInBounds_ne (by omega)]
    simp only [upd, e, if_false]
    exact h3 j hj
theorem SeenAt.same {wr w' : World} {sb n : Nat} {seen : Nat → Bool} (h : SeenAt wr sb n seen) (hw : w'.heap[sb]? = wr.heap[sb]?) : SeenAt w' sb n seen := ⟨by rw [hw]; exact h.blk⟩

theorem iBool : (Try.prog.info? 4).map (fun i => (i.zero, i.size, i.bytes)) = some (some (.bool false), 1, 1) := by kernel_rfl
theorem uBools : Try.prog.underlying 39 = some (.slice 4) := by kernel_rfl
theorem make_bools (w : World) (n : Nat) (hn : n ≤ 20) : ∃ X, (Instr.makeSlice 39 (.int .i64 n) (.int .i64 n)).run Try.prog w = .ok (.slice (some ⟨w.heap.size, 0, none⟩) n n) (w.alloc X) ∧ SeenAt (w.alloc X) w.heap.size n (fun _ => false) := by
  obtain ⟨i0, hi, hz0, hz1, hz2⟩ := info_parts iBool
  have h := run_make (P := Try.prog) w 39 4 i0 _ uBools hi hz0 .i64 .i64 n n (by omega) (Int.le_refl _) (by rw [hz2]; omega) (by omega)
  rw [hz1] at h
  refine ⟨_, h, ⟨_, heap_alloc_new w _, by simp [size_madeCells], fun j hj => ?_⟩⟩
  rw [← Array.getElem?_toList, show (Value.bool false).cells = #[.bool false] from rfl, toList_madeCells_one, List.getElem?_replicate, if_pos (by simpa using hj)]
end Rings

end Go.Proofs.Ytelghmmcbgfjnaa

/-! The law of rings walked: it returns true for all its numbers. -/
namespace Go.Proofs.Ytelghmmcbgfjnaa
open Go.RowKit Rings

theorem Rings.KI.start {w0 w : World} {hb m : Nat} {I : IS} (h : HB w0 w hb [] I m) : KI w0 w hb (.slice none 0 0) I 0 m [] :=
  ⟨h, Row.nil _ _ _, fun b hb => by simp [rowBlk] at hb⟩

theorem Rings.c_table {w0 w : World} {hb : Nat} (h : HB w0 w hb [] (IS.start 400) 0) :
    Calls Try.prog 12 #[.pointer (some ⟨hb, 0, none⟩)] w fun e w' => e = .returned (.tuple #[.int .i64 0, .int .i64 0]) ∧ Hid (KI w0 w' hb (.slice none 0 0) (R [] 0 (rhs 1)) 0 1 []) := by
  refine (h.hp.table ⟨by omega, by simp [IS.start], by simp [IS.start], fun n d hd => ?_⟩).mono ?_
  · unfold IS.nd IS.start at hd
    split at hd
    · simp at hd
    · cases hd
  rw [Rings.table]
  rintro e w' ⟨rfl, hG⟩
  exact ⟨rfl, Lib.hid (KI.start (h.got hG))⟩

theorem Rings.KI.ref {w0 wr : World} {hb kb c : Nat} {I : IS} {n m : Nat} {L : List Nat} (h : KI w0 wr hb (.slice (some ⟨kb, 0, none⟩) n c) I n m L) {q t : Nat} (hq : q < n) (ht : t < n) (x : Int) :
    Calls Try.prog 15 #[.int .i64 x] wr fun e w' => e = .returned (.agg #[.bool true, .int .i64 x]) ∧ (w'.cell? ⟨kb, q, none⟩ = some (.int .i64 ((q : Int) + 1)) ∧ w'.cell? ⟨kb, t, none⟩ = some (.int .i64 ((t : Int) + 1))) ∧ Hid (KI w0 w' hb (.slice (some ⟨kb, 0, none⟩) n c) I n m L) := by
  refine (ref_any wr x).mono ?_
  rintro e w' ⟨rfl, hC⟩
  have h1 := h.still hC
  obtain ⟨g, hg, hc⟩ := h1.cell (by omega)
  simp only [Option.some.injEq, Addr.mk.injEq] at hg
  obtain ⟨rfl, -, -⟩ := hg
  exact ⟨rfl, ⟨hc q hq, hc t ht⟩, Lib.hid h1⟩
theorem Rings.KI.putq {w0 wr : World} {hb kb c n f q m : Nat} {L : List Nat} (h : KI w0 wr hb (.slice (some ⟨kb, 0, none⟩) n c) (R (ents n f q) n (rhs (n + 1))) n m L) (hn : n ≤ 20) (hq : q < n) (hm : m < 8000) {t : Nat} (ht : t = (q + f) % n) :
    Calls Try.prog 14 #[.pointer (some ⟨hb, 0, none⟩), .int .i64 0, .int .i64 ((q : Int) + 1), .agg #[.bool true, .int .i64 ((t : Int) + 1)]] wr fun e w' => e = .returned (.int .i64 0) ∧ (w'.cell? ⟨kb, q, none⟩ = some (.int .i64 ((q : Int) + 1)) ∧ w'.cell? ⟨kb, t, none⟩ = some (.int .i64 ((t : Int) + 1))) ∧ Hid (KI w0 w' hb (.slice (some ⟨kb, 0, none⟩) n c) (R (ents n f (q + 1)) n (rhs (n + 1))) n (m + 1) L) := by
  have htn : t < n := by rw [ht]; exact Nat.mod_lt _ (by omega)
  subst ht
  refine (h.put hn hq hm).mono ?_
  rintro e w' ⟨rfl, h1⟩
  obtain ⟨g, hg, hc⟩ := h1.out.cell (by omega)
  simp only [Option.some.injEq, Addr.mk.injEq] at hg
  obtain ⟨rfl, -, -⟩ := hg
  exact ⟨rfl, ⟨hc q hq, hc _ htn⟩, h1⟩
theorem Rings.KI.mark {w0 wr : World} {hb : Nat} {v : Value} {I : IS} {k m : Nat} {L : List Nat} (h : KI w0 wr hb v I k m L) {sb q : Nat} (hsb : sb ∈ L ∧ w0.heap.size ≤ sb) (hv : rowBlk v ≠ some sb) (x : Value) : KI w0 (wr.setCell ⟨sb, q, none⟩ x) hb v I k m L :=
  ⟨h.hp.frame (chg_set1 wr sb q x) fun b hb => by rw [hb]; exact hsb, h.row.same fun b hb => (chg_set1 wr sb q x).block b (h.row.lt hb) fun e => hv (by rw [hb, e]), h.own⟩

set_option maxRecDepth 100000 in
set_option maxHeartbeats 2000000 in
theorem heapRings_any (w : World) (a0 a1 a2 : Int) :
    Calls Try.prog 4 #[.int .i64 a0, .int .i64 a1, .int .i64 a2] w fun e w' => e = .returned (.bool true) ∧ Chg (fun _ => False) w w' := by
  refine ret_k fun K hK => ?_
  have HK := Lib.hid hK
  clear hK
  obtain ⟨p, hp⟩ : ∃ p, p = a0 % 20 := ⟨_, rfl⟩
  obtain ⟨n, hn⟩ : ∃ n : Nat, (n : Int) = 1 + p := ⟨(1 + p).toNat, by omega⟩
  have hn1 : 1 ≤ n ∧ n ≤ 20 := by omega
  obtain ⟨f, hf⟩ : ∃ f : Nat, (f : Int) = a1 % n := ⟨(a1 % n).toNat, by have := Int.emod_nonneg a1 (b := (n : Int)) (by omega); omega⟩
  have hf1 : f < n := by have := Int.emod_lt_of_pos a1 (b := (n : Int)) (by omega); omega
  obtain ⟨hold, hh⟩ : ∃ h : Nat, (h : Int) = a2 % ((n : Int) + 1) := ⟨(a2 % ((n : Int) + 1)).toNat, by have := Int.emod_nonneg a2 (b := (n : Int) + 1) (by omega); omega⟩
  have hh1 : hold ≤ n := by have := Int.emod_lt_of_pos a2 (b := (n : Int) + 1) (by omega); omega
  have hM0 : ∀ w, Calls Try.prog 8 #[.int .i64 a0, .int .i64 20] w fun e w' => e = .returned (.int .i64 p) ∧ w = w' := fun w => by rw [hp]; exact mod_any w a0 20 (by omega)
  have hM1 : ∀ w, Calls Try.prog 8 #[.int .i64 a1, .int .i64 n] w fun e w' => e = .returned (.int .i64 f) ∧ w = w' := fun w => by rw [hf]; exact mod_any w a1 n (by omega)
  have hM2 : ∀ w, Calls Try.prog 8 #[.int .i64 a2, .int .i64 ((n : Int) + 1)] w fun e w' => e = .returned (.int .i64 hold) ∧ w = w' := fun w => by rw [hh]; exact mod_any w a2 ((n : Int) + 1) (by omega)
  have HM0 := Lib.hid hM0
  have HM1 := Lib.hid hM1
  have HM2 := Lib.hid hM2
  have hw1 : IntKind.i64.wrap (1 + p) = (n : Int) := by rw [hn]; exact IntWalk.i64_in _ (by omega)
  clear hM0 hM1 hM2 hp hn hf hh
  have HNew := Lib.hid fun w => HB.new w 40 400 (by omega)
  have HSane := Lib.hid (sane_any w)
  go_enter Try.func4, Try.ntmps4
  go_wp2_with fail
  refine HSane.out.mono ?_; rintro e w1 ⟨rfl, hC1⟩
  have HC1 := Lib.hid hC1
  clear HSane hC1
  go_wp2_with fail
  refine (HM0.out _).mono ?_; rintro e w2 ⟨rfl, rfl⟩
  clear HM0
  go_wp2_with fail
  refine (HNew.out _).mono ?_; rintro e w3 ⟨hb, rfl, hG3⟩
  have HT := Lib.hid (c_table hG3.out)
  clear HNew hG3 hw1
  go_wp2_with fail
  refine HT.out.mono ?_; rintro e w4 ⟨rfl, hK4⟩
  clear HT
  go_wp2
  go_loopw [12, 13] (fun v i wr => ∃ (j : Nat), j ≤ n ∧ i = .int .i64 j ∧ Hid (∃ m L, m ≤ j + 1 ∧ KI w1 wr hb v (R [] j (rhs (j + 1))) j m L)) (fun _ i _ => n - (intOf i).toNat)
  case atStart => exact ⟨0, by omega, rfl, Lib.hid ⟨1, [], by omega, hK4.out⟩⟩
  case round =>
    obtain ⟨j, hj, rfl, HI⟩ := hrel
    clear hK4
    by_cases hlt : j < n
    · obtain ⟨m, L, hm, hI⟩ := HI.out
      have HR := Lib.hid (hI.round1 (by omega) (by omega))
      clear hI HI
      go_wp2_with fail
      refine HR.out.mono ?_; rintro e w5 ⟨rfl, HMk⟩
      clear HR
      go_wp2_with fail
      refine HMk.out.mono ?_; rintro e w6 ⟨rfl, a, cap, w7, happ, HK7⟩
      clear HMk
      have HK8 : Hid (∃ m' L, m' ≤ j + 1 + 1 ∧ KI w1 w7 hb (.slice a (j + 1) cap) (R [] (j + 1) (rhs (j + 2))) (j + 1) m' L) := by
        obtain ⟨L', h⟩ := HK7.out
        exact ⟨m + 1, L', by omega, h⟩
      clear HK7 hm
      go_wp2_with (first | (at_builtin; go_must (refine wpList_val rfl (exec_append rfl (by exact happ)) ?_)))
      go_roundw
      case rel => exact ⟨j + 1, by omega, by go_num, HK8⟩
      case measure => simp [intOf]; omega
    · obtain rfl : j = n := by omega
      obtain ⟨m, L, hm, hI⟩ := HI.out
      obtain ⟨a, c, rfl, _, _, _⟩ := hI.row.slice
      obtain ⟨kb, rfl, _⟩ := hI.cell (by omega)
      have HI2 : Hid (∃ m', m' ≤ j + 1 + 0 ∧ KI w1 wr hb (.slice (some ⟨kb, 0, none⟩) j c) (R (ents j f 0) j (rhs (j + 1))) j m' L) := ⟨m, by omega, hI⟩
      have hj20 : j ≤ 20 := by omega
      clear hI HI hm hn1
      go_wp2
      go_loopw [16] (fun i wr => ∃ q : Nat, q ≤ j ∧ i = .int .i64 q ∧ Hid (∃ m', m' ≤ j + 1 + q ∧ KI w1 wr hb (.slice (some ⟨kb, 0, none⟩) j c) (R (ents j f q) j (rhs (j + 1))) j m' L)) (fun i _ => j - (intOf i).toNat)
      case atStart => exact ⟨0, by omega, rfl, HI2⟩
      case round =>
        obtain ⟨q, hq, rfl, HI⟩ := hrel
        clear HI2
        by_cases hqlt : q < j
        · obtain ⟨m', hm', hI⟩ := HI.out
          obtain ⟨t, ht⟩ : ∃ t, t = (q + f) % j := ⟨_, rfl⟩
          have htn : t < j := by rw [ht]; exact Nat.mod_lt _ (by omega)
          obtain ⟨g, hg, hc⟩ := hI.cell (by omega)
          simp only [Option.some.injEq, Addr.mk.injEq] at hg
          obtain ⟨rfl, -, -⟩ := hg
          have q0 := hc q hqlt
          have q1 := hc t htn
          have hS := Lib.hid hI
          have HT := Lib.hid ht
          have HB8 : Hid (j ≤ 20 ∧ m' < 8000 ∧ m' ≤ j + 1 + q) := ⟨hj20, by omega, hm'⟩
          have hwa : IntKind.i64.wrap ((q : Int) + f) = (q : Int) + f := IntWalk.i64_in _ (by omega)
          have hwt : ((q : Int) + f).tmod j = (t : Int) := by
            rw [Int.tmod_eq_emod_of_nonneg (by omega), ht]; simp
          have hwb : IntKind.i64.wrap (t : Int) = (t : Int) := IntWalk.i64_in _ (by omega)
          have hql : (q : Int) < (j : Int) := by omega
          have htl : (t : Int) < (j : Int) := by omega
          have hj0 : ¬ (j = 0) := by omega
          clear hc hI HI hm' ht
          go_upto_region 18 with fail
          go_cut [86] from 68 to 85 (fun s86 wx => s86 = .bool false ∧ Hid (∃ m', m' ≤ j + 1 + (q + 1) ∧ KI w1 wx hb (.slice (some ⟨kb, 0, none⟩) j c) (R (ents j f (q + 1)) j (rhs (j + 1))) j m' L))
          case first =>
            go_region_held3 (fun wx => wx.cell? ⟨kb, q, none⟩ = some (.int .i64 ((q : Int) + 1)) ∧ wx.cell? ⟨kb, t, none⟩ = some (.int .i64 ((t : Int) + 1)) ∧ Hid (∃ y my, KI w1 wx hb (.slice (some ⟨kb, 0, none⟩) j c) (R (ents j f y) j (rhs (j + 1))) j my L))
              (first | exact ⟨q0, q1, Lib.hid ⟨_, _, hS.out⟩⟩ | exact ⟨q0, q1, Lib.hid ⟨_, _, hS.out.still ((Chg.refl _ _).drewN _)⟩⟩)
              (first
                | (go_at_call 8; refine (HM1.out _).mono ?_; rintro e wn ⟨rfl, rfl⟩)
                | (go_at_call 15; refine (Rings.KI.ref (hS.out.still ((Chg.refl _ _).drewN _)) hqlt htn _).mono ?_; rintro e wn ⟨rfl, ⟨q0, q1⟩, hS⟩)
                | (go_at_call 15; refine (Rings.KI.ref hS.out hqlt htn _).mono ?_; rintro e wn ⟨rfl, ⟨q0, q1⟩, hS⟩)
                | (go_at_call 14; refine (Rings.KI.putq hS.out HB8.out.1 hqlt HB8.out.2.1 HT.out).mono ?_; rintro e wn ⟨rfl, ⟨q0, q1⟩, hS⟩))
            all_goals (go_wp2; go_meet; exact ⟨rfl, Lib.hid ⟨_, by have := HB8.out; omega, hS.out⟩⟩)
          case rest =>
            obtain ⟨rfl, HI3⟩ := hcut
            clear hS q0 q1 hwa hwt hwb htl HB8 HT
            go_wp2
            go_roundw
            case rel => exact ⟨q + 1, by omega, by go_num, HI3⟩
            case measure => simp [intOf]; omega
        · obtain rfl : q = j := by omega
          obtain ⟨m', hm', hI⟩ := HI.out
          obtain ⟨X, hmk, hseen⟩ := make_bools wr q hj20
          have hI3 : KI w1 (wr.alloc X) hb (.slice (some ⟨kb, 0, none⟩) q c) (R (ents q f q) q (hsAt q hold 0)) q m' (wr.heap.size :: L) := by
            rw [hsAt_0]; exact hI.alloc X
          have hsb : wr.heap.size ∈ wr.heap.size :: L ∧ w1.heap.size ≤ wr.heap.size := ⟨by simp, hI.hp.chg.size⟩
          have hkb : rowBlk (.slice (some ⟨kb, 0, none⟩) q c) ≠ some wr.heap.size := fun e => by have := hI.row.lt e; omega
          have HB9 : Hid (m' ≤ 100 ∧ (wr.heap.size ∈ wr.heap.size :: L ∧ w1.heap.size ≤ wr.heap.size) ∧ rowBlk (.slice (some ⟨kb, 0, none⟩) q c) ≠ some wr.heap.size) := ⟨by omega, hsb, hkb⟩
          have HI3 := Lib.hid hI3
          have HSe := Lib.hid hseen
          have hw2 : IntKind.i64.wrap ((q : Int) + 1) = (q : Int) + 1 := IntWalk.i64_in _ (by omega)
          clear hI hI3 hseen hsb hkb hm' HI
          go_wp2_with fail
          refine (HM2.out _).mono ?_; rintro e w9 ⟨rfl, rfl⟩
          go_wp2_with (first | (at_make; go_must (refine wpList_val rfl (exec_makeSlice rfl (by exact hmk)) ?_)))
          clear hw2 hmk
          generalize wr.alloc X = W3 at *
          generalize wr.heap.size = sb at *
          go_loopw [18, 20] (fun k i wr => ∃ (k0 x : Nat) (seen : Nat → Bool), k = .int .i64 k0 ∧ i = .int .i64 x ∧ Hid (Marks q f hold x k0 seen) ∧ Hid (SeenAt wr sb q seen) ∧ Hid (KI w1 wr hb (.slice (some ⟨kb, 0, none⟩) q c) (R (ents q f q) q (hsAt q hold 0)) q m' (sb :: L))) (fun k _ _ => q - (intOf k).toNat)
          case atStart => exact ⟨0, hold, _, rfl, rfl, Lib.hid (Marks.zero hh1), HSe, HI3⟩
          case round =>
            obtain ⟨k0, x, seen, rfl, rfl, HMa, HSe3, HKI⟩ := hrel
            clear HI3 HSe
            have hMa := HMa.out
            have hk0 : k0 ≤ q := by
              rw [hMa.num]
              have := List.length_filter_le seen (List.range q)
              simpa using this
            by_cases hgo : x < q ∧ seen x = false
            · obtain ⟨hx, hs⟩ := hgo
              obtain ⟨hM2, hkl⟩ := hMa.step hx hs
              obtain ⟨cx, fx⟩ := HSe3.out.cell hx
              rw [hs] at cx
              have HS3 := Lib.hid (HSe3.out.set hx)
              have HK3 := Lib.hid (HKI.out.mark (q := x) HB9.out.2.1 HB9.out.2.2 (.bool true))
              obtain ⟨t, ht⟩ : ∃ t, t = (x + f) % q := ⟨_, rfl⟩
              have htn : t < q := by rw [ht]; exact Nat.mod_lt _ (by omega)
              rw [← ht] at hM2
              have HM3 := Lib.hid hM2
              have hwa : IntKind.i64.wrap ((x : Int) + f) = (x : Int) + f := IntWalk.i64_in _ (by omega)
              have hwt : ((x : Int) + f).tmod q = (t : Int) := by
                rw [Int.tmod_eq_emod_of_nonneg (by omega), ht]; simp
              have hwb : IntKind.i64.wrap (t : Int) = (t : Int) := IntWalk.i64_in _ (by omega)
              have hxl : (x : Int) < (q : Int) := by omega
              have hq0 : ¬ (q = 0) := by omega
              clear hMa HMa HSe3 HKI hM2 ht hs HB9 HM2
              go_wp2_with fail
              refine (HM1.out _).mono ?_; rintro e wz ⟨rfl, rfl⟩
              go_wp2
              clear hwa hwt hwb
              go_roundw
              case rel => exact ⟨k0 + 1, t, _, by go_num, by go_num, HM3, HS3, HK3⟩
              case measure => simp [intOf]; omega
            · have hex : x = q ∨ (x < q ∧ seen x = true) := by
                have := hMa.le
                by_cases hx : x < q
                · right
                  refine ⟨hx, ?_⟩
                  cases hs : seen x with
                  | true => rfl
                  | false => exact absurd ⟨hx, hs⟩ hgo
                · left; omega
              have HDone : Hid (∀ j, j < q → (seen j = true ↔ Orb q f hold j)) := hMa.done (hex.elim .inl fun h => .inr h.2)
              have HNum : Hid (k0 = ((List.range q).filter seen).length) := hMa.num
              have HI4 : Hid (∃ m2, m2 ≤ 100 + 0 ∧ KI w1 wr hb (.slice (some ⟨kb, 0, none⟩) q c) (R (ents q f q) q (hsAt q hold 0)) q m2 (sb :: L)) := ⟨m', HB9.out.1, HKI.out⟩
              obtain ⟨cx, hxc⟩ : ∃ bx : Bool, (bx = false → ¬ ((x : Int) < (q : Int))) ∧ (bx = true → (x : Int) < (q : Int) ∧ wr.cell? ⟨sb, x, none⟩ = some (.bool true)) := by
                rcases hex with hxq | ⟨hx, hs⟩
                · exact ⟨false, fun _ => by omega, fun h => by cases h⟩
                · refine ⟨true, fun h => (by cases h), fun _ => ⟨by omega, ?_⟩⟩
                  have := (HSe3.out.cell hx).1
                  rw [hs] at this; exact this
              have HX := Lib.hid hxc
              clear hMa HMa HSe3 HKI HB9 HM1 HM2 hex hgo hxc
              cases cx
              case' false => have hnx := HX.out.1 rfl
              case' true => obtain ⟨hxl, hcx⟩ := HX.out.2 rfl
              all_goals
                clear HX
                go_wp2
                go_loopw [21] (fun i wr => ∃ y : Nat, y ≤ q ∧ i = .int .i64 y ∧ Hid (∃ m2, m2 ≤ 100 + y ∧ KI w1 wr hb (.slice (some ⟨kb, 0, none⟩) q c) (R (ents q f q) q (hsAt q hold y)) q m2 (sb :: L))) (fun i _ => q - (intOf i).toNat)
                case atStart => exact ⟨0, by omega, rfl, HI4⟩
                case round =>
                  obtain ⟨y, hy, rfl, HI⟩ := hrel
                  clear HI4
                  by_cases hylt : y < q
                  · obtain ⟨m2, hm2, hI⟩ := HI.out
                    have hyl : (y : Int) < (q : Int) := by omega
                    by_cases hyh : y = hold
                    · have HI5 : Hid (∃ m2, m2 ≤ 100 + (y + 1) ∧ KI w1 wr hb (.slice (some ⟨kb, 0, none⟩) q c) (R (ents q f q) q (hsAt q hold (y + 1))) q m2 (sb :: L)) := by
                        have e : hsAt q hold (y + 1) = hsAt q hold y := by rw [hyh]; exact hsAt_keep q hold
                        refine ⟨m2, by omega, ?_⟩
                        rw [e]; exact hI
                      have hyi : (y : Int) = (hold : Int) := by omega
                      clear hI HI hm2
                      go_wp2
                      go_roundw
                      case rel => exact ⟨y + 1, by omega, by go_num, HI5⟩
                      case measure => simp [intOf]; omega
                    · have HD := Lib.hid (hI.drop hylt hyh)
                      obtain ⟨g, hg, hc⟩ := hI.cell (by omega)
                      simp only [Option.some.injEq, Addr.mk.injEq] at hg
                      obtain ⟨rfl, -, -⟩ := hg
                      have cy := hc y hylt
                      have HM9 : Hid (m2 ≤ 100 + y) := hm2
                      clear hI HI hm2 hc
                      go_wp2_with (go_at_call 11; refine HD.out.mono ?_; rintro e w8 ⟨rfl, hK8⟩)
                      have HI5 : Hid (∃ m2, m2 ≤ 100 + (y + 1) ∧ KI w1 w8 hb (.slice (some ⟨kb, 0, none⟩) q c) (R (ents q f q) q (hsAt q hold (y + 1))) q m2 (sb :: L)) := ⟨m2 + 1, by have := HM9.out; omega, hK8.out⟩
                      go_roundw
                      case rel => exact ⟨y + 1, by omega, by go_num, HI5⟩
                      case measure => simp [intOf]; omega
                  · obtain rfl : y = q := by omega
                    obtain ⟨m2, hm2, hI⟩ := HI.out
                    have hE := hI.end_ (by omega) HDone.out
                    rw [← HNum.out] at hE
                    have HE := Lib.hid hE
                    clear hE hI HI HDone HNum hm2
                    go_wp2_with fail
                    refine HE.out.mono ?_; rintro e v1 ⟨rfl, HE1⟩
                    clear HE
                    go_wp2_with fail
                    refine HE1.out.mono ?_; rintro e v2 ⟨rfl, HE2⟩
                    clear HE1
                    go_wp2_with fail
                    refine HE2.out.mono ?_; rintro e v3 ⟨rfl, HE3⟩
                    have HZ := Lib.hid (HK.out _ _ ⟨rfl, HC1.out.trans HE3.out (fun _ _ h => h)⟩)
                    clear HE2 HE3 HK HC1
                    go_wp2
                    go_ret
                    exact HZ.out

end Go.Proofs.Ytelghmmcbgfjnaa
