/-
  The words of a state are those of the nodes that it shows. (A part of the proof, joined of: Yc; made smaller.)
-/
import Derived.Test.YtelghmmcbgfjnaaGreatH10
namespace Go.Proofs.YtelghmmcbgfjnaaGreat
variable {A : St} {I : IS} {k m : Nat} {n : Int}
open Go.RowKit
theorem sum_perm {α : Type} {f : α → Nat} {l l' : List α} (h : l.Perm l') : (l.map f).sum = (l'.map f).sum := by
 induction h with
 | nil => rfl
 | cons x _ ih => simp [ih]
 | swap x y l => simp only [List.map_cons, List.sum_cons]; omega
 | trans _ _ ih1 ih2 => exact ih1.trans ih2
theorem sum_of_support {f : Nat → Nat} : ∀ (m : Nat) {K : List Nat}, K.Nodup → (∀ i ∈ K, i < m) → (∀ i, i < m → i ∉ K → f i = 0) → ((List.range m).map f).sum = (K.map f).sum
 | 0, K, _, hK, _ => by
   cases K with
   | nil => rfl
   | cons a K => exact absurd (hK a (by simp)) (Nat.not_lt_zero _)
 | m + 1, K, hn, hK, h0 => by
   rw [List.range_succ, List.map_append, List.sum_append];by_cases hm : m ∈ K
   · have hp := List.perm_cons_erase hm;have hn2 : (m :: K.erase m).Nodup := hp.nodup_iff.1 hn;rw [List.nodup_cons] at hn2;have ih := sum_of_support (f := f) m (K := K.erase m) hn2.2 (fun i hi => by
      have h1 := hK i (List.mem_of_mem_erase hi);have h2 : i ≠ m := fun e => hn2.1 (e ▸ hi);omega)
      (fun i hi hne => h0 i (by omega) (fun hk => hne ((List.mem_erase_of_ne (by omega)).2 hk)))
     rw [ih, sum_perm hp];simp; omega
   · have ih := sum_of_support (f := f) m (K := K) hn (fun i hi => by
      have h1 := hK i hi;have h2 : i ≠ m := fun e => hm (e ▸ hi);omega) (fun i hi hne => h0 i (by omega) hne)
     rw [ih];have := h0 m (by omega) hm;simp [this]
theorem IS.words_list {p : Int → Bool} {K : List Nat} (hn : K.Nodup) (hK : ∀ i ∈ K, i < I.nodes.length) (hp : ∀ i, i < I.nodes.length → i ∉ K → p (i : Int) = false) : I.words p = (K.map (I.cost p)).sum := by
 refine sum_of_support _ hn hK fun i hi hne => ?_;unfold IS.cost;rw [List.getElem?_eq_getElem hi, hp i hi hne];rfl
theorem nodup_map_toNat {l : List Int} (hn : l.Nodup) (h0 : ∀ n ∈ l, 0 ≤ n) : (l.map Int.toNat).Nodup := by
 induction l with
 | nil => simp
 | cons a l ih =>
   rw [List.nodup_cons] at hn;rw [List.map_cons, List.nodup_cons];refine ⟨fun hm => ?_, ih hn.2 fun n hn' => h0 n (by simp [hn'])⟩;obtain ⟨b, hb, e⟩ := List.mem_map.1 hm;have h1 := h0 a (by simp);have h2 := h0 b (by simp [hb]);exact hn.1 (by rw [show a = b from by omega]; exact hb)
theorem IS.nd_nat {d : Nd} (h : I.nd n = some d) : 0 ≤ n ∧ n.toNat < I.nodes.length ∧ I.nodes[n.toNat]? = some d := by
 unfold IS.nd at h
 split at h
 · rename_i h0
   refine ⟨h0, ?_, h⟩;obtain ⟨hl, _⟩ := List.getElem?_eq_some_iff.1 h;exact hl
 · cases h
theorem Sim.used (h : Sim A I) (hn : (A.objs.map (·.1)).Nodup) : A.used = I.words (fun n => (A.objs.lookup n).isSome) := by
 have hd : ∀ p ∈ A.objs, ∃ d, I.nd p.1 = some d ∧ p.2.words = I.cost (fun n => (A.objs.lookup n).isSome) p.1.toNat := by
  intro p hp;have hl := lookup_of_mem hn (k := p.1) (o := p.2) hp;obtain ⟨d, g1, g2, g3, g4, g5, _⟩ := h.obj _ _ hl;obtain ⟨k1, k2, k3⟩ := IS.nd_nat g1;refine ⟨d, g1, ?_⟩;unfold Ob.words IS.cost;rw [k3, Int.toNat_of_nonneg k1];simp [hl, g3, g5]
 have e : A.used = (((A.objs.map (·.1)).map Int.toNat).map (I.cost (fun n => (A.objs.lookup n).isSome))).sum := by
  unfold St.used objsWords;rw [List.map_map, List.map_map]
  congr 1
  refine List.map_congr_left fun p hp => ?_;obtain ⟨d, _, h2⟩ := hd p hp;exact h2
 rw [e];refine (IS.words_list (nodup_map_toNat hn ?_) ?_ ?_).symm
 · intro n hn;obtain ⟨p, hp, rfl⟩ := List.mem_map.1 hn;obtain ⟨d, h1, _⟩ := hd p hp;exact (IS.nd_nat h1).1
 · intro i hi;obtain ⟨n, hn, rfl⟩ := List.mem_map.1 hi;obtain ⟨p, hp, rfl⟩ := List.mem_map.1 hn;obtain ⟨d, h1, _⟩ := hd p hp;exact (IS.nd_nat h1).2.1
 · intro i _ hne;cases hl : A.objs.lookup (i : Int) with
   | none => rfl
   | some o =>
     exact absurd (List.mem_map.2 ⟨(i : Int), List.mem_map.2 ⟨_, mem_of_lookup hl, rfl⟩, by simp⟩) hne
def IS.here (I : IS) (n : Int) : Bool := match I.nd n with
 | some d => !d.gone
 | none => false
theorem Sim.present_here (h : Sim A I) (hp : (A.objs.lookup n).isSome = true) : I.here n = true := by
 obtain ⟨o, ho⟩ := Option.isSome_iff_exists.1 hp;obtain ⟨d, g1, _, _, _, _, g6⟩ := h.obj n o ho;unfold IS.here;rw [g1];simp [g6]
theorem Sim.used_le (h : Sim A I) (hn : (A.objs.map (·.1)).Nodup) : I.words I.live ≤ A.used ∧ A.used ≤ I.words I.here := by
 rw [h.used hn];exact ⟨IS.words_le fun n hl => h.keep n (IS.live_iff.1 hl), IS.words_le fun n hp => h.present_here hp⟩
theorem Sim.used_cleaned (h : Sim A I) (hw : Wf k m A) : A.cleaned.used = I.words I.live := by
 have hs := h.cleaned hw;have hn : (A.cleaned.objs.map (·.1)).Nodup := hw.swept.settled.fit.nodup;refine Nat.le_antisymm ?_ (hs.used_le hn).1;rw [hs.used hn];refine IS.words_le fun n hp => ?_;have h1 : (A.swept.settled.objs.lookup n).isSome = true := hp;rw [settled_isSome hw.swept.fit] at h1;have := swept_is_live h1;rw [h.live] at this;exact this
theorem sum_le_length {α : Type} {f : α → Nat} {c : Nat} : ∀ {l : List α}, (∀ x ∈ l, f x ≤ c) → (l.map f).sum ≤ l.length * c
 | [], _ => by simp
 | x :: l, h => by
   have h1 := h x (by simp);have h2 := sum_le_length (f := f) (c := c) (l := l) (fun y hy => h y (by simp [hy]));simp only [List.map_cons, List.sum_cons, List.length_cons, Nat.add_mul]; omega
theorem Wf.used_small (h : Wf k m A) : A.used ≤ 1000000000 := by
 have hk := h.hk;have hm := h.many;have : A.used ≤ A.objs.length * 4001 := by
  refine sum_le_length fun p hp => ?_;have hl := lookup_of_mem h.fit.nodup (k := p.1) (o := p.2) hp;have h1 := h.fit.size _ _ hl;have h2 := h.fit.ents _ _ hl;unfold Ob.words;omega
 have h2 : A.objs.length * 4001 ≤ 9000 * 4001 := Nat.mul_le_mul_right _ (by omega);omega
end Go.Proofs.YtelghmmcbgfjnaaGreat
