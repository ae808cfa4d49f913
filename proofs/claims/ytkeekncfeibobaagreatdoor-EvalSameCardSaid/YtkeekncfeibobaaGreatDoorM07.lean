/-
A CLOSED RUN. A call that was run once, on a small heap: it is the same wherever its blocks lie.
A CLOSED RUN. A call that was run once: used again.
A CLOSED RUN. A call that is run once, by the kernel.
A CLOSED RUN. A call that needs no block, as a contract.
A CLOSED RUN. For walks by hand: worlds that differ in given blocks, laws at the operation.
A CLOSED RUN. eval.clone: a map is copied, whatever order its entries come in.
A CLOSED RUN. eval.clone as a call that is known.
-/
import Derived.Test.YtkeekncfeibobaaGreatDoorM06
import Derived.Below
import Derived.WalkKit
import Derived.WalkSpells
import Derived.WalkLawsBesides
import Derived.Deep.Upon
import Derived.Maps.RangeWalk
import Derived.Maps.OwnSet
import Derived.Deep.QuietTactic
import Derived.BigQuiet
import Derived.Deep.RegionLaw
import Derived.Deep.LoopGhost
import Derived.Outline
import Derived.Lib.Hide
import Derived.Test.YtkeekncfeibobaaGreatDoorProg
namespace Go.Clo

def eqOL (eq : Value → Value → Bool) : List (Value × Value) → List (Value × Value) → Bool
  | [], [] => true
  | a :: x, b :: y => bif eq a.1 b.1 then (bif eq a.2 b.2 then eqOL eq x y else false) else false
  | _, _ => false
def eqBool (a b : Bool) : Bool := bif a then b else !b
noncomputable def eqO (a b : AO) : Bool := match a, b with
  | .gone, .gone => true
  | .cells c e u, .cells d f v => bif eqLW (eqV 20) c d then (bif Nat.beq e f then eqBool u v else false) else false
  | .ro c, .ro d => eqLW (eqV 20) c d
  | .map t es, .map s fs => bif keyBeq t s then eqOL (eqV 20) es fs else false
  | _, _ => false
theorem eqOL_eq {eq : Value → Value → Bool} (he : ∀ a b, eq a b = true → a = b) : ∀ (x y : List (Value × Value)), eqOL eq x y = true → x = y
  | [], [], _ => rfl
  | a :: x, b :: y, h => by
    simp only [eqOL] at h
    obtain ⟨h1, h2⟩ := bif_and h
    obtain ⟨h2, h3⟩ := bif_and h2
    rw [show a = b from Prod.ext (he _ _ h1) (he _ _ h2), eqOL_eq he x y h3]
  | [], _ :: _, h => by cases h
  | _ :: _, [], h => by cases h
theorem eqBool_eq {a b : Bool} (h : eqBool a b = true) : a = b := by cases a <;> cases b <;> first | rfl | cases h
theorem eqO_eq {a b : AO} (h : eqO a b = true) : a = b := by
  unfold eqO at h
  split at h
  · rfl
  · obtain ⟨h1, h2⟩ := bif_and h
    obtain ⟨h2, h3⟩ := bif_and h2
    rw [eqLW_eq (eqV_eq 20) _ _ h1, Nat.eq_of_beq_eq_true h2, eqBool_eq h3]
  · rw [eqLW_eq (eqV_eq 20) _ _ h]
  · obtain ⟨h1, h2⟩ := bif_and h
    rw [keyBeq_eq h1, eqOL_eq (eqV_eq 20) _ _ h2]
  · cases h

/-- a small heap -/
noncomputable def TH.ofL : List AO → Nat → (TH → TH)
  | [], _ => fun h => h
  | o :: l, k => fun h => TH.ofL l (k + 1) (h.setO k o)
def nthA : List AO → Nat → AO
  | [], _ => .gone
  | o :: _, 0 => o
  | _ :: l, k + 1 => nthA l k
theorem TH.getO_ofL : ∀ (l : List AO) (k : Nat) (h : TH) (j : Nat), (TH.ofL l k h).getO j = if k ≤ j ∧ j < k + l.length then nthA l (j - k) else h.getO j
  | [], k, h, j => by
    rw [if_neg (by simp only [List.length_nil]; omega)]
    rfl
  | o :: l, k, h, j => by
    rw [TH.ofL, TH.getO_ofL l (k + 1), TH.getO_setO]
    by_cases h1 : j = k
    · subst h1
      rw [if_neg (by omega), if_pos rfl, if_pos (by simp only [List.length_cons]; omega)]
      simp [nthA]
    · by_cases h2 : k + 1 ≤ j ∧ j < k + 1 + l.length
      · rw [if_pos h2, if_pos (by simp only [List.length_cons]; omega)]
        obtain ⟨m, rfl⟩ : ∃ m, j = k + 1 + m := ⟨j - (k + 1), by omega⟩
        rw [show k + 1 + m - k = m + 1 by omega, show k + 1 + m - (k + 1) = m by omega]
        rfl
      · rw [if_neg h2, if_neg h1, if_neg (by simp only [List.length_cons]; omega)]
theorem nthA_gone : ∀ (l : List AO) (k : Nat), l.length ≤ k → nthA l k = .gone
  | [], _, _ => rfl
  | o :: l, 0, h => by simp at h
  | o :: l, k + 1, h => nthA_gone l k (by simpa using h)
noncomputable def mkH (l : List AO) : TH := TH.ofL l 0 .e
theorem getO_mkH (l : List AO) (j : Nat) : (mkH l).getO j = nthA l j := by
  rw [mkH, TH.getO_ofL]
  by_cases h : j < l.length
  · rw [if_pos (by omega)]; simp
  · rw [if_neg (by omega), TH.getO_e, nthA_gone l j (by omega)]

/-- a call, run once: its blocks ahead, its value, its blocks behind -/
structure Sum where
  f : FuncId
  args : List Value
  pre : List AO
  v : Value
  post : List (Nat × AO)
  n1 : Nat
def getP : List (Nat × AO) → Nat → AO
  | [], _ => .gone
  | e :: l, k => bif Nat.beq e.1 k then e.2 else getP l k
noncomputable def mkP : List (Nat × AO) → TH
  | [] => .e
  | e :: l => (mkP l).setO e.1 e.2
theorem getO_mkP : ∀ (l : List (Nat × AO)) (k : Nat), (mkP l).getO k = getP l k
  | [], _ => rfl
  | e :: l, k => by
    rw [mkP, TH.getO_setO, getP, getO_mkP l k]
    cases hb : Nat.beq e.1 k with
    | true => rw [if_pos (Nat.eq_of_beq_eq_true hb).symm]; rfl
    | false => rw [if_neg fun q => Nat.ne_of_beq_eq_false hb q.symm]; rfl
structure SumOK (P : Program) (G : Tab) (B0 : Nat) (s : Sum) : Prop where
  enters : Enters P s.f
  call : CallSim P G B0 s.f s.args .no (mkH s.pre) s.pre.length (.ret s.v (mkP s.post) s.n1) .no

section
variable {P : Program} {G : Tab} {B0 : Nat}
/-- where a map of numbers puts what an environment tells -/
noncomputable def Env.un (ρ : Env) (σ : Nat → Nat) (q : Env) : Env :=
  open Classical in
  ⟨fun j => if h : ∃ k, σ k = j then q.loc h.choose else ρ.loc j, fun j => if h : ∃ k, σ k = j then q.cap h.choose else ρ.cap j, fun j => if h : ∃ k, σ k = j then q.off h.choose else ρ.off j⟩
theorem un_at {ρ : Env} {σ : Nat → Nat} {q : Env} (hi : ∀ j k, σ j = σ k → j = k) (k : Nat) : (ρ.un σ q).loc (σ k) = q.loc k ∧ (ρ.un σ q).cap (σ k) = q.cap k ∧ (ρ.un σ q).off (σ k) = q.off k := by
  have h : ∃ j, σ j = σ k := ⟨k, rfl⟩
  have e : h.choose = k := hi _ _ h.choose_spec
  simp only [Env.un, dif_pos h, e, and_self]
theorem un_comp {ρ : Env} {σ : Nat → Nat} {q : Env} (hi : ∀ j k, σ j = σ k → j = k) : (ρ.un σ q).comp σ = q := by
  obtain ⟨a, b, c⟩ := q
  simp only [Env.comp]
  congr 1
  · exact funext fun k => (un_at hi k).1
  · exact funext fun k => (un_at hi k).2.1
  · exact funext fun k => (un_at hi k).2.2
theorem un_off {ρ : Env} {σ : Nat → Nat} {q : Env} {j : Nat} (h : ∀ k, σ k ≠ j) : (ρ.un σ q).loc j = ρ.loc j ∧ (ρ.un σ q).cap j = ρ.cap j ∧ (ρ.un σ q).off j = ρ.off j := by
  have hn : ¬ ∃ k, σ k = j := fun ⟨k, hk⟩ => h k hk
  simp only [Env.un, dif_neg hn, and_self]
/-- live blocks are told of -/
theorem live_in {ρ : Env} {S : Nat → Prop} {h : TH} {n : Nat} {w : World} (hW : ∀ ρ', Agree S ρ ρ' → WEq ρ' G B0 h n w) {k : Nat} (hk : Live h k) : S k := by
  apply Classical.byContradiction
  intro hn
  have hA : Agree S ρ (ρ.put k w.heap.size 0 0) := fun j hj => by
    have : j ≠ k := fun e => hn (e ▸ hj)
    simp [Env.put, this]
  have := (hW _ hA).lt_size hk
  simp [Env.put] at this

/-- a call's blocks named anew -/
theorem call_moved {f : FuncId} {args : List Value} {h0 : TH} {n0 : Nat} {v : Value} {h1 : TH} {n1 : Nat} (hc : CallSim P G B0 f args .no h0 n0 (.ret v h1 n1) .no)
    {σ : Nat → Nat} {d : Nat} {h h' : TH} {n : Nat} (hi : ∀ j k, σ j = σ k → j = k) (hn : n0 ≤ n1) (hlo : ∀ k, k < n0 → Live h (σ k)) (hhi : ∀ k, n0 ≤ k → σ k = n + (k - n0))
    (ha : ∀ x ∈ args, mvOK d x = true) (hv : mvOK d v = true) (h0k : ∀ k, k < n0 → h0.getO k = .gone ∨ (mvOOK d (h0.getO k) = true ∧ h.getO (σ k) = mvO σ d (h0.getO k))) (h0n : ∀ k, n0 ≤ k → h0.getO k = .gone)
    (h1k : ∀ k, k < n1 → h1.getO k = .gone ∧ (h'.getO (σ k) = .gone ∨ (n0 ≤ k ∧ h'.getO (σ k) = h.getO (σ k))) ∨ (mvOOK d (h1.getO k) = true ∧ h'.getO (σ k) = mvO σ d (h1.getO k))) (hout : ∀ j, (∀ k, k < n1 → σ k ≠ j) → h'.getO j = h.getO j) :
    CallSim P G B0 f (args.map (mvV σ d)) .no h n (.ret (mvV σ d v) h' (n + (n1 - n0))) .no := by
  intro ρ S kind cs A M w hS hIn hB hU
  have hσS : ∀ k, k < n0 → S (σ k) := fun k hk => live_in (fun ρ' hA => (hIn ρ' hA).2.1) (hlo k hk)
  have hmg : ∀ o, mvOOK d o = true → o ≠ .gone ∧ mvO σ d o ≠ .gone := fun o ho => by cases o <;> simp [mvOOK, mvO] at ho ⊢
  have h0l : ∀ k, Live h0 k → k < n0 ∧ mvOOK d (h0.getO k) = true ∧ h.getO (σ k) = mvO σ d (h0.getO k) := fun k hk => by
    have hlt : k < n0 := Nat.lt_of_not_le fun q => hk (h0n k q)
    exact ⟨hlt, (h0k k hlt).resolve_left hk⟩
  have hlow : ∀ k, k < n0 → σ k < n := fun k hk => hS _ (hσS k hk)
  -- ahead
  have hIn2 : CallIn G B0 (ρ.comp σ) (fun k => k < n0) args .no h0 n0 A M w := by
    intro q hq
    have hA : Agree S ρ (ρ.un σ q) := fun j hj => by
      by_cases hx : ∃ k, σ k = j
      · obtain ⟨k, rfl⟩ := hx
        have hk : k < n0 := Nat.lt_of_not_le fun hk => by have := hS _ hj; rw [hhi k hk] at this; omega
        have := un_at (ρ := ρ) (q := q) hi k
        have h2 := hq k hk
        exact ⟨this.1.trans h2.1, this.2.1.trans h2.2.1, this.2.2.trans h2.2.2⟩
      · exact un_off fun k hk => hx ⟨k, hk⟩
    obtain ⟨e1, e2, e3⟩ := hIn _ hA
    have hc := un_comp (ρ := ρ) (q := q) hi
    refine ⟨?_, ⟨fun k hk => (h0l k hk).1, fun k hk => ?_, fun k hk => ?_, fun j k hj hk e => ?_⟩, e3⟩
    · rw [e1, List.map_map]
      congr 1
      exact List.map_congr_left fun x hx => by rw [Function.comp, rlV_mv _ σ d x (ha x hx), hc]
    · have := e2.base (σ k) (hlo k (h0l k hk).1)
      rwa [(un_at hi k).1] at this
    · obtain ⟨g1, g2, g3⟩ := h0l k hk
      obtain ⟨p, hp, hO⟩ := e2.obj (σ k) (hlo k g1)
      rw [(un_at hi k).1] at hp
      rw [g3, obj_mv _ σ d k g2, hc] at hO
      exact ⟨p, hp, hO⟩
    · have := e2.inj (σ j) (σ k) (hlo j (h0l j hj).1) (hlo k (h0l k hk).1) (by rw [(un_at hi j).1, (un_at hi k).1, e])
      exact hi _ _ this
  obtain ⟨hU2, ρ2, V, M', w', fr, hA2, _, hO2, hK2, hL, hs⟩ := hc (ρ.comp σ) (fun k => k < n0) kind cs A M w (fun k hk => hk) hIn2 hB hU
  refine ⟨hU2, ρ.un σ ρ2, V, M', w', fr, ?_, by omega, ?_, ?_, hL, hs⟩
  · intro j hj
    by_cases hx : ∃ k, σ k = j
    · obtain ⟨k, rfl⟩ := hx
      have hk : k < n0 := Nat.lt_of_not_le fun hk => by have := hS _ hj; rw [hhi k hk] at this; omega
      have := un_at (ρ := ρ) (q := ρ2) hi k
      have h2 := hA2 k hk
      exact ⟨this.1.trans h2.1, this.2.1.trans h2.2.1, this.2.2.trans h2.2.2⟩
    · exact un_off fun k hk => hx ⟨k, hk⟩
  all_goals
    have hAg : ∀ ρ', Agree (ext S n (n + (n1 - n0))) (ρ.un σ ρ2) ρ' → Agree (ext (fun k => k < n0) n0 n1) ρ2 (ρ'.comp σ) ∧ Agree S ρ ρ' := by
      intro ρ' hA
      constructor
      · intro k hk
        have hk' : k < n1 := by rcases hk with hk | hk <;> omega
        have hin : ext S n (n + (n1 - n0)) (σ k) := by
          by_cases h3 : k < n0
          · exact .inl (hσS k h3)
          · exact .inr (by rw [hhi k (by omega)]; omega)
        have h3 := hA _ hin
        have h4 := un_at (ρ := ρ) (q := ρ2) hi k
        exact ⟨h3.1.trans h4.1, h3.2.1.trans h4.2.1, h3.2.2.trans h4.2.2⟩
      · intro j hj
        have h3 := hA j (.inl hj)
        by_cases hx : ∃ k, σ k = j
        · obtain ⟨k, rfl⟩ := hx
          have hk : k < n0 := Nat.lt_of_not_le fun hk => by have := hS _ hj; rw [hhi k hk] at this; omega
          have h4 := un_at (ρ := ρ) (q := ρ2) hi k
          have h2 := hA2 k hk
          exact ⟨h3.1.trans (h4.1.trans h2.1), h3.2.1.trans (h4.2.1.trans h2.2.1), h3.2.2.trans (h4.2.2.trans h2.2.2)⟩
        · have h4 := un_off (ρ := ρ) (q := ρ2) (fun k hk => hx ⟨k, hk⟩)
          exact ⟨h3.1.trans h4.1, h3.2.1.trans h4.2.1, h3.2.2.trans h4.2.2⟩
  · intro ρ' hA
    obtain ⟨hB1, hB2⟩ := hAg ρ' hA
    obtain ⟨e1, e2, e3⟩ := hO2 _ hB1
    obtain ⟨_, f2, _⟩ := hIn _ hB2
    have hK := hK2 _ hB1
    have hliv : ∀ j, Live h' j → (∃ k, k < n1 ∧ σ k = j ∧ Live h1 k ∧ mvOOK d (h1.getO k) = true ∧ h'.getO j = mvO σ d (h1.getO k)) ∨ ((∀ k, k < n1 → σ k ≠ j) ∧ Live h j ∧ h'.getO j = h.getO j) := by
      intro j hj
      by_cases hx : ∃ k, k < n1 ∧ σ k = j
      · obtain ⟨k, hk, rfl⟩ := hx
        rcases h1k k hk with ⟨_, h3 | h3⟩ | h3
        · exact absurd h3 hj
        · have h4 : Live h (σ k) := by rw [Live, ← h3.2]; exact hj
          have := f2.lt _ h4
          rw [hhi k h3.1] at this
          omega
        · exact .inl ⟨k, hk, rfl, (hmg _ h3.1).1, h3⟩
      · have hx' : ∀ k, k < n1 → σ k ≠ j := fun k hk e => hx ⟨k, hk, e⟩
        refine .inr ⟨hx', ?_, hout j hx'⟩
        rw [Live, hout j hx'] at hj
        exact hj
    have hold : ∀ j, (∀ k, k < n1 → σ k ≠ j) → Live h j → w'.heap[ρ'.loc j]? = w.heap[ρ'.loc j]? ∧ ∀ k, Live h1 k → ρ'.loc (σ k) ≠ ρ'.loc j := fun j hx hj =>
      hK.rest _ (f2.lt_size hj) fun k hk e => by
        have h3 := (h0l k hk).1
        exact hx k (by omega) (f2.inj (σ k) j (hlo k h3) hj e)
    refine ⟨?_, ⟨fun j hj => ?_, fun j hj => ?_, fun j hj => ?_, fun i j hi' hj e => ?_⟩, e3⟩
    · rw [e1, rlV_mv _ σ d v hv]
    · rcases hliv j hj with ⟨k, hk, rfl, _⟩ | ⟨_, h3, _⟩
      · by_cases h4 : k < n0
        · have := hlow k h4; omega
        · rw [hhi k (by omega)]; omega
      · have := f2.lt j h3; omega
    · rcases hliv j hj with ⟨k, hk, rfl, h3, _⟩ | ⟨_, h3, _⟩
      · exact e2.base k h3
      · exact f2.base j h3
    · rcases hliv j hj with ⟨k, hk, rfl, h3, h4, h5⟩ | ⟨hx, h3, h4⟩
      · obtain ⟨p, hp, hO⟩ := e2.obj k h3
        exact ⟨p, hp, by rw [h5, obj_mv _ σ d k h4]; exact hO⟩
      · obtain ⟨p, hp, hO⟩ := f2.obj j h3
        exact ⟨p, by rw [(hold j hx h3).1]; exact hp, by rw [h4]; exact hO⟩
    · rcases hliv i hi' with ⟨a, ha1, rfl, ha2, _⟩ | ⟨hx, h3, _⟩ <;> rcases hliv j hj with ⟨b, hb1, rfl, hb2, _⟩ | ⟨hy, h4, _⟩
      · exact congrArg σ (e2.inj a b ha2 hb2 e)
      · exact absurd e ((hold j hy h4).2 a ha2)
      · exact absurd e.symm ((hold i hx h3).2 b hb2)
      · exact f2.inj i j h3 h4 e
  · intro ρ' hA
    obtain ⟨hB1, hB2⟩ := hAg ρ' hA
    have hK := hK2 _ hB1
    refine ⟨hK.size, hK.os, hK.out, hK.tape, fun b hb hnb => ?_⟩
    obtain ⟨h3, h4⟩ := hK.rest b hb fun k hk => hnb (σ k) (hlo k (h0l k hk).1)
    refine ⟨h3, fun j hj => ?_⟩
    by_cases hx : ∃ k, k < n1 ∧ σ k = j
    · obtain ⟨k, hk, rfl⟩ := hx
      rcases h1k k hk with ⟨_, h5 | h5⟩ | h5
      · exact absurd h5 hj
      · have h6 : Live h (σ k) := by rw [Live, ← h5.2]; exact hj
        have := (hIn _ hB2).2.1.lt _ h6
        rw [hhi k h5.1] at this
        omega
      · exact h4 k (hmg _ h5.1).1
    · have hx' : ∀ k, k < n1 → σ k ≠ j := fun k hk e => hx ⟨k, hk, e⟩
      rw [Live, hout j hx'] at hj
      exact hnb j hj
end
end Go.Clo
namespace Go.Clo

def nthN : List Nat → Nat → Nat
  | [], _ => 0
  | x :: _, 0 => x
  | _ :: l, k + 1 => nthN l k
def sigL (l : List Nat) (n0 n k : Nat) : Nat := bif Nat.blt k n0 then nthN l k else Nat.add n (Nat.sub k n0)
def memB (x : Nat) : List Nat → Bool
  | [] => false
  | y :: l => bif Nat.beq x y then true else memB x l
def nodupB : List Nat → Bool
  | [] => true
  | x :: l => bif memB x l then false else nodupB l
def ltB (n : Nat) : List Nat → Bool
  | [] => true
  | x :: l => bif Nat.blt x n then ltB n l else false
section
variable {β : Type}
/-! results in their form -/
noncomputable def nfA (a : Option Addr) (κ : Option Addr → β) : β := match a with
  | none => κ none
  | some ⟨b, o, s⟩ => forceNat b fun b => κ (some ⟨b, o, s⟩)
noncomputable def nfL (f : Value → (Value → β) → β) : List Value → (List Value → β) → β
  | [] => fun κ => κ []
  | v :: l => fun κ => f v fun v => nfL f l fun l => κ (v :: l)
noncomputable def nfF (f : Fn) (κ : Fn → β) : β := match f with
  | .yield l => forceNat l fun l => κ (.yield l)
  | f => κ f
noncomputable def nfV : Nat → Value → (Value → β) → β
  | 0 => fun v κ => κ v
  | d + 1 => fun v κ => match v with
    | .pointer a => nfA a fun a => κ (.pointer a)
    | .slice a l c => nfA a fun a => κ (.slice a l c)
    | .map (some r) => forceNat r fun r => κ (.map (some r))
    | .func fn ⟨a⟩ ⟨b⟩ => nfF fn fun fn => nfL (nfV d) a fun a => nfL (nfV d) b fun b => κ (.func fn ⟨a⟩ ⟨b⟩)
    | .iface t v => nfV d v fun v => κ (.iface t v)
    | .agg ⟨l⟩ => nfL (nfV d) l fun l => κ (.agg ⟨l⟩)
    | .tuple ⟨l⟩ => nfL (nfV d) l fun l => κ (.tuple ⟨l⟩)
    | v => κ v
noncomputable def nfE (f : Value → (Value → β) → β) : List (Value × Value) → (List (Value × Value) → β) → β
  | [] => fun κ => κ []
  | e :: l => fun κ => f e.1 fun a => f e.2 fun b => nfE f l fun l => κ ((a, b) :: l)
noncomputable def nfO (d : Nat) (o : AO) (κ : AO → β) : β := match o with
  | .cells c e u => nfL (nfV d) c fun c => κ (.cells c e u)
  | .ro c => nfL (nfV d) c fun c => κ (.ro c)
  | .map t es => nfE (nfV d) es fun es => κ (.map t es)
  | o => κ o
theorem nfA_eq (a : Option Addr) (κ : Option Addr → β) : nfA a κ = κ a := by
  cases a with
  | none => rfl
  | some a => exact forceNat_eq _ _
theorem nfL_eq {f : Value → (Value → β) → β} (hf : ∀ v κ, f v κ = κ v) : ∀ l (κ : List Value → β), nfL f l κ = κ l
  | [], _ => rfl
  | v :: l, κ => by simp only [nfL, hf, nfL_eq hf l]
theorem nfV_eq : ∀ d v (κ : Value → β), nfV d v κ = κ v
  | 0, _, _ => rfl
  | d + 1, v, κ => by
    have ih := nfV_eq d
    unfold nfV
    split
    · exact nfA_eq _ _
    · exact nfA_eq _ _
    · exact forceNat_eq _ _
    · rename_i fn a b
      have : nfF fn (fun fn => nfL (nfV d) a fun a => nfL (nfV d) b fun b => κ (.func fn ⟨a⟩ ⟨b⟩)) = nfL (nfV d) a fun a => nfL (nfV d) b fun b => κ (.func fn ⟨a⟩ ⟨b⟩) := by
        cases fn <;> first | rfl | exact forceNat_eq _ _
      rw [this, nfL_eq ih, nfL_eq ih]
    · exact ih _ _
    · exact nfL_eq ih _ _
    · exact nfL_eq ih _ _
    · rfl
theorem nfE_eq {f : Value → (Value → β) → β} (hf : ∀ v κ, f v κ = κ v) : ∀ l (κ : List (Value × Value) → β), nfE f l κ = κ l
  | [], _ => rfl
  | v :: l, κ => by simp only [nfE, hf, nfE_eq hf l]
theorem nfO_eq (d : Nat) (o : AO) (κ : AO → β) : nfO d o κ = κ o := by
  cases o <;> first | rfl | exact nfL_eq (nfV_eq d) _ _ | exact nfE_eq (nfV_eq d) _ _
/-! which blocks? (a guess, looked at below) -/
noncomputable def seeK (b c : Nat) (acc : List Nat) (κ : List Nat → β) : β :=
  ifB (Nat.blt b O) (κ acc) (ifB (Nat.beq (Nat.sub b O) (lenOf acc)) (forceNat (Nat.sub c O) fun c => appK acc [c] κ) (κ acc))
noncomputable def fL (f : Value → Value → List Nat → (List Nat → β) → β) : List Value → List Value → List Nat → (List Nat → β) → β
  | v :: l, w :: m => fun acc κ => f v w acc fun acc => fL f l m acc κ
  | _, _ => fun acc κ => κ acc
noncomputable def fV : Nat → Value → Value → List Nat → (List Nat → β) → β
  | 0 => fun _ _ acc κ => κ acc
  | d + 1 => fun v w acc κ => match v, w with
    | .pointer (some a), .pointer (some b) => seeK a.block b.block acc κ
    | .slice (some a) _ _, .slice (some b) _ _ => seeK a.block b.block acc κ
    | .map (some a), .map (some b) => seeK a b acc κ
    | .func _ ⟨a⟩ ⟨b⟩, .func _ ⟨a'⟩ ⟨b'⟩ => fL (fV d) a a' acc fun acc => fL (fV d) b b' acc κ
    | .iface _ v, .iface _ w => fV d v w acc κ
    | .agg ⟨l⟩, .agg ⟨m⟩ => fL (fV d) l m acc κ
    | .tuple ⟨l⟩, .tuple ⟨m⟩ => fL (fV d) l m acc κ
    | _, _ => κ acc
noncomputable def fE (f : Value → Value → List Nat → (List Nat → β) → β) : List (Value × Value) → List (Value × Value) → List Nat → (List Nat → β) → β
  | v :: l, w :: m => fun acc κ => f v.2 w.2 acc fun acc => fE f l m acc κ
  | _, _ => fun acc κ => κ acc
noncomputable def fO (o p : AO) (acc : List Nat) (κ : List Nat → β) : β := match o, p with
  | .cells c _ _, .cells d _ _ => fL (fV 20) c d acc κ
  | .ro c, .ro d => fL (fV 20) c d acc κ
  | .map _ es, .map _ fs => fE (fV 20) es fs acc κ
  | _, _ => κ acc
noncomputable def goS (h : TH) : List AO → Nat → List Nat → (List Nat → β) → β
  | [], _ => fun acc κ => κ acc
  | o :: l, k => fun acc κ => h.getK (nthN acc k) fun p => fO o p acc fun acc => goS h l (k + 1) acc κ
/-- a function that hands on something -/
def Hands (F : (List Nat → β) → β) : Prop := ∀ κ, ∃ l, F κ = κ l
theorem hands_if (t u : Bool) (z : Nat) (acc : List Nat) : Hands (β := β) fun κ => ifB t (κ acc) (ifB u (forceNat z fun c => appK acc [c] κ) (κ acc)) := fun κ => by
  cases t with
  | true => exact ⟨_, rfl⟩
  | false =>
    cases u with
    | true => exact ⟨acc ++ [z], (forceNat_eq _ _).trans (appK_eq _ _ _)⟩
    | false => exact ⟨_, rfl⟩
theorem hands_see (b c : Nat) (acc : List Nat) : Hands (β := β) (seeK b c acc) := hands_if _ _ _ _
theorem Hands.then {F : (List Nat → β) → β} (h : Hands F) {H : List Nat → (List Nat → β) → β} (hH : ∀ l, Hands (H l)) : Hands fun κ => F fun l => H l κ := fun κ => by
  obtain ⟨l, hl⟩ := h fun l => H l κ
  obtain ⟨m, hm⟩ := hH l κ
  exact ⟨m, hl.trans hm⟩
theorem hands_fL {f : Value → Value → List Nat → (List Nat → β) → β} (hf : ∀ v w acc, Hands (f v w acc)) : ∀ l m acc, Hands (fL f l m acc)
  | v :: l, w :: m, acc => (hf v w acc).then fun acc => hands_fL hf l m acc
  | [], _, _ => fun _ => ⟨_, rfl⟩
  | _ :: _, [], _ => fun _ => ⟨_, rfl⟩
theorem hands_fE {f : Value → Value → List Nat → (List Nat → β) → β} (hf : ∀ v w acc, Hands (f v w acc)) : ∀ l m acc, Hands (fE f l m acc)
  | v :: l, w :: m, acc => (hf v.2 w.2 acc).then fun acc => hands_fE hf l m acc
  | [], _, _ => fun _ => ⟨_, rfl⟩
  | _ :: _, [], _ => fun _ => ⟨_, rfl⟩
theorem hands_fV : ∀ d v w acc, Hands (β := β) (fV d v w acc)
  | 0, _, _, _ => fun _ => ⟨_, rfl⟩
  | d + 1, v, w, acc => fun κ => by
    have ih := hands_fV d
    unfold fV
    split
    · exact hands_see _ _ _ κ
    · exact hands_see _ _ _ κ
    · exact hands_see _ _ _ κ
    · exact ((hands_fL ih _ _ _).then fun acc => hands_fL ih _ _ acc) κ
    · exact ih _ _ _ κ
    · exact hands_fL ih _ _ _ κ
    · exact hands_fL ih _ _ _ κ
    · exact ⟨_, rfl⟩
theorem hands_fO (o p : AO) (acc : List Nat) : Hands (β := β) (fO o p acc) := fun κ => by
  unfold fO
  split
  · exact hands_fL (hands_fV 20) _ _ _ κ
  · exact hands_fL (hands_fV 20) _ _ _ κ
  · exact hands_fE (hands_fV 20) _ _ _ κ
  · exact ⟨_, rfl⟩
theorem hands_goS (h : TH) : ∀ l k acc, Hands (β := β) (goS h l k acc)
  | [], _, _ => fun _ => ⟨_, rfl⟩
  | o :: l, k, acc => fun κ => by
    unfold goS
    rw [TH.getK_eq]
    exact ((hands_fO o _ acc).then fun acc => hands_goS h l (k + 1) acc) κ
/-! the check -/
noncomputable def okB (h : TH) (σ : Nat → Nat) (d : Nat) : List AO → List Nat → Bool
  | [], [] => true
  | o :: l, b :: m => bif h.getK b fun p => eqO p (mvO σ d o) then okB h σ d l m else false
  | _, _ => false
theorem okB_nth {h : TH} {σ : Nat → Nat} {d : Nat} : ∀ {l : List AO} {m : List Nat}, okB h σ d l m = true → m.length = l.length ∧ ∀ k, k < l.length → h.getO (nthN m k) = mvO σ d (nthA l k)
  | [], [], _ => ⟨rfl, fun k hk => by simp at hk⟩
  | o :: l, b :: m, hb => by
    obtain ⟨h1, h2⟩ := bif_and hb
    rw [TH.getK_eq] at h1
    obtain ⟨h3, h4⟩ := okB_nth h2
    refine ⟨by simp [h3], fun k hk => ?_⟩
    cases k with
    | zero => exact eqO_eq h1
    | succ k => exact h4 k (by simpa using hk)
  | [], _ :: _, h => by cases h
  | _ :: _, [], h => by cases h
noncomputable def okS (s : Sum) (d : Nat) (args : List Value) (h : TH) (n : Nat) (m : List Nat) : Bool :=
  bif nodupB m then (bif ltB n m then (bif eqLW (eqV 20) args (mvL (mvV (sigL m (lenOf s.pre) n) d) s.args) then okB h (sigL m (lenOf s.pre) n) d s.pre m else false) else false) else false
noncomputable def putsK (σ : Nat → Nat) (d : Nat) : List (Nat × AO) → TH → (TH → β) → β
  | [] => fun h κ => κ h
  | e :: l => fun h κ => forceNat (σ e.1) fun b => nfO d (mvO σ d e.2) fun o => h.set b o fun h => putsK σ d l h κ
noncomputable def puts (σ : Nat → Nat) (d : Nat) : List (Nat × AO) → TH → TH
  | [] => fun h => h
  | e :: l => fun h => puts σ d l (h.setO (σ e.1) (mvO σ d e.2))
theorem putsK_eq (σ : Nat → Nat) (d : Nat) : ∀ l h (κ : TH → β), putsK σ d l h κ = κ (puts σ d l h)
  | [], _, _ => rfl
  | o :: l, h, κ => by
    unfold putsK
    rw [forceNat_eq, nfO_eq, TH.set_eq, putsK_eq σ d l]
    rfl
end
def keysP : List (Nat × AO) → List Nat
  | [] => []
  | e :: l => e.1 :: keysP l
theorem getP_out : ∀ {l : List (Nat × AO)} {k : Nat}, k ∉ keysP l → getP l k = .gone
  | [], _, _ => rfl
  | e :: l, k, h => by
    simp only [keysP, List.mem_cons, not_or] at h
    have : Nat.beq e.1 k = false := by
      cases hb : Nat.beq e.1 k with
      | false => rfl
      | true => exact absurd (Nat.eq_of_beq_eq_true hb).symm h.1
    rw [getP, this]
    exact getP_out h.2
theorem memB_iff (x : Nat) : ∀ l, memB x l = true ↔ x ∈ l
  | [] => by simp [memB]
  | y :: l => by
    simp only [memB, List.mem_cons]
    cases hb : Nat.beq x y with
    | true => simp [Nat.eq_of_beq_eq_true hb]
    | false => simp [Nat.ne_of_beq_eq_false hb, memB_iff x l]
theorem nodupB_cons {x : Nat} {l : List Nat} (h : nodupB (x :: l) = true) : x ∉ l ∧ nodupB l = true := by
  simp only [nodupB] at h
  cases hb : memB x l with
  | true => rw [hb] at h; cases h
  | false =>
    rw [hb] at h
    exact ⟨fun q => (by rw [(memB_iff x l).2 q] at hb; cases hb), h⟩
theorem puts_get (σ : Nat → Nat) (hi : ∀ j k, σ j = σ k → j = k) (d : Nat) : ∀ l h, nodupB (keysP l) = true → (∀ k ∈ keysP l, (puts σ d l h).getO (σ k) = mvO σ d (getP l k)) ∧ ∀ b, (∀ k ∈ keysP l, σ k ≠ b) → (puts σ d l h).getO b = h.getO b
  | [], h, _ => ⟨fun j h1 => by simp [keysP] at h1, fun b _ => rfl⟩
  | e :: l, h, hn => by
    obtain ⟨n1, n2⟩ := nodupB_cons hn
    obtain ⟨h1, h2⟩ := puts_get σ hi d l (h.setO (σ e.1) (mvO σ d e.2)) n2
    constructor
    · intro k hk
      by_cases q : k = e.1
      · subst q
        rw [puts, h2 _ fun i h3 h4 => n1 (by rw [← hi i e.1 h4]; exact h3), TH.getO_setO_self, getP, Nat.beq_refl]
        rfl
      · have hk2 : k ∈ keysP l := (List.mem_cons.1 hk).resolve_left q
        have : Nat.beq e.1 k = false := by
          cases hb : Nat.beq e.1 k with
          | false => rfl
          | true => exact absurd (Nat.eq_of_beq_eq_true hb).symm q
        rw [puts, h1 k hk2, getP, this]
        rfl
    · intro b hb
      rw [puts, h2 b fun j h3 => hb j (List.mem_cons_of_mem _ h3), TH.getO_setO_ne]
      exact fun q => hb e.1 (List.mem_cons_self ..) q.symm
/-- what may stand in a summary -/
def oksO (d : Nat) : List AO → Bool
  | [] => true
  | o :: l => bif mvOOK d o then oksO d l else false
def isGone (o : AO) : Bool := match o with
  | .gone => true
  | _ => false
def oksP (d : Nat) : List (Nat × AO) → Bool
  | [] => true
  | e :: l => bif (bif isGone e.2 then true else mvOOK d e.2) then oksP d l else false
/-- the blocks from k on, m of them, are told of -/
def covB (l : List Nat) : Nat → Bool
  | 0 => true
  | k + 1 => bif memB k l then covB l k else false
noncomputable def okSum (s : Sum) (d : Nat) : Bool :=
  bif mvOKL (mvOK d) s.args then (bif mvOK d s.v then (bif oksO d s.pre then (bif oksP d s.post then (bif Nat.ble (lenOf s.pre) s.n1 then (bif nodupB (keysP s.post) then
    (bif ltB s.n1 (keysP s.post) then covB (keysP s.post) (lenOf s.pre) else false) else false) else false) else false) else false) else false) else false
theorem covB_mem {l : List Nat} : ∀ {m}, covB l m = true → ∀ k, k < m → k ∈ l
  | 0, _, k, hk => by omega
  | m + 1, h, k, hk => by
    obtain ⟨h1, h2⟩ := bif_and h
    by_cases e : k = m
    · subst e; exact (memB_iff _ _).1 h1
    · exact covB_mem h2 k (by omega)
theorem ltB_mem {n : Nat} : ∀ {l : List Nat}, ltB n l = true → ∀ k ∈ l, k < n
  | [], _, k, hk => by simp at hk
  | x :: l, h, k, hk => by
    obtain ⟨h1, h2⟩ := bif_and h
    rcases List.mem_cons.1 hk with rfl | hk
    · exact blt_iff.1 h1
    · exact ltB_mem h2 k hk
theorem oksO_nth {d : Nat} : ∀ {l : List AO}, oksO d l = true → ∀ k, k < l.length → mvOOK d (nthA l k) = true
  | [], _, k, hk => by simp at hk
  | o :: l, h, k, hk => by
    obtain ⟨h1, h2⟩ := bif_and h
    cases k with
    | zero => exact h1
    | succ k => exact oksO_nth h2 k (by simpa using hk)
theorem oksP_get {d : Nat} : ∀ {l : List (Nat × AO)}, oksP d l = true → ∀ k, getP l k = .gone ∨ mvOOK d (getP l k) = true
  | [], _, k => .inl rfl
  | e :: l, h, k => by
    obtain ⟨h1, h2⟩ := bif_and h
    rw [getP]
    cases Nat.beq e.1 k with
    | true =>
      obtain ⟨_, o⟩ := e
      cases o <;> first | exact .inl rfl | exact .inr h1
    | false => exact oksP_get h2 k
theorem nodupB_nth : ∀ {l : List Nat}, nodupB l = true → ∀ j k, j < l.length → k < l.length → nthN l j = nthN l k → j = k
  | [], _, j, _, h, _, _ => by simp at h
  | x :: l, h, j, k, hj, hk, e => by
    simp only [nodupB] at h
    cases hb : memB x l with
    | true => rw [hb] at h; cases h
    | false =>
      rw [hb] at h
      have hx : x ∉ l := fun q => by rw [(memB_iff x l).2 q] at hb; cases hb
      have hmem : ∀ (l : List Nat) k, k < l.length → nthN l k ∈ l := fun l => by
        induction l with
        | nil => intro k hk; simp at hk
        | cons y l ih =>
          intro k hk
          cases k with
          | zero => simp [nthN]
          | succ k => exact List.mem_cons_of_mem _ (ih k (by simpa using hk))
      cases j with
      | zero =>
        cases k with
        | zero => rfl
        | succ k => exact absurd (show x ∈ l from (show x = nthN l k from e) ▸ hmem l k (by simpa using hk)) hx
      | succ j =>
        cases k with
        | zero => exact absurd (show x ∈ l from (show nthN l j = x from e) ▸ hmem l j (by simpa using hj)) hx
        | succ k => rw [nodupB_nth h j k (by simpa using hj) (by simpa using hk) e]
theorem ltB_nth {n : Nat} : ∀ {l : List Nat}, ltB n l = true → ∀ k, k < l.length → nthN l k < n
  | [], _, k, hk => by simp at hk
  | x :: l, h, k, hk => by
    obtain ⟨h1, h2⟩ := bif_and h
    cases k with
    | zero => exact blt_iff.1 h1
    | succ k => exact ltB_nth h2 k (by simpa using hk)

noncomputable def useS (s : Sum) (d : Nat) (args : List Value) (up : Up) (h : TH) (n : Nat) (κ : CRes → Up → Res) (no : Res) : Res := match up with
  | .no => fL (fV 20) s.args args [] fun m => goS h s.pre 0 m fun m => ifB (okS s d args h n m)
      (putsK (sigL m (lenOf s.pre) n) d s.post h fun h' => nfV d (mvV (sigL m (lenOf s.pre) n) d s.v) fun v => forceNat (Nat.add n (Nat.sub s.n1 (lenOf s.pre))) fun n' => κ (.ret v h' n') .no) no
  | _ => no
noncomputable def sumK (s : Sum) (d : Nat) (cf : CF) : CF := fun f args up h n κ =>
  ifB (Nat.beq f s.f) (useS s d args up h n κ (cf f args up h n κ)) (cf f args up h n κ)

theorem sumK_sim {P : Program} {G : Tab} {B0 : Nat} {s : Sum} {d : Nat} (hs : SumOK P G B0 s) (hd : okSum s d = true) {cf : CF} (hcf : CFok P G B0 cf) : CFok P G B0 (sumK s d cf) := by
  intro f args up h n κ R hR hN
  unfold sumK at hR
  cases hb : Nat.beq f s.f with
  | false => rw [hb] at hR; exact hcf f args up h n κ R hR hN
  | true =>
    rw [hb] at hR
    have ef := Nat.eq_of_beq_eq_true hb
    replace hR : useS s d args up h n κ (cf f args up h n κ) = R := hR
    cases up with
    | quiet => exact hcf f args _ h n κ R hR hN
    | chain v r => exact hcf f args _ h n κ R hR hN
    | no =>
      have hR2 := hR
      clear hR
      simp only [useS] at hR2
      obtain ⟨m, hm⟩ := ((hands_fL (β := Res) (hands_fV 20) s.args args []).then fun m => hands_goS h s.pre 0 m) fun m => ifB (okS s d args h n m)
        (putsK (sigL m (lenOf s.pre) n) d s.post h fun h' => nfV d (mvV (sigL m (lenOf s.pre) n) d s.v) fun v => forceNat (Nat.add n (Nat.sub s.n1 (lenOf s.pre))) fun n' => κ (.ret v h' n') .no) (cf f args .no h n κ)
      replace hR2 := hm.symm.trans hR2
      cases hok : okS s d args h n m with
      | false => rw [hok] at hR2; exact hcf f args _ h n κ R hR2 hN
      | true =>
        rw [hok] at hR2
        replace hR2 : (putsK (sigL m (lenOf s.pre) n) d s.post h fun h' => nfV d (mvV (sigL m (lenOf s.pre) n) d s.v) fun v => forceNat (Nat.add n (Nat.sub s.n1 (lenOf s.pre))) fun n' => κ (.ret v h' n') .no) = R := hR2
        rw [putsK_eq, nfV_eq, forceNat_eq] at hR2
        clear hm
        subst ef
        refine ⟨hs.enters, _, _, hR2, ?_⟩
        obtain ⟨k1, hok⟩ := bif_and hok
        obtain ⟨k2, hok⟩ := bif_and hok
        obtain ⟨k3, k4⟩ := bif_and hok
        obtain ⟨d1, hd⟩ := bif_and hd
        obtain ⟨d2, hd⟩ := bif_and hd
        obtain ⟨d3, hd⟩ := bif_and hd
        obtain ⟨d4, hd⟩ := bif_and hd
        obtain ⟨d5, hd⟩ := bif_and hd
        obtain ⟨d6, hd⟩ := bif_and hd
        obtain ⟨d7, d8⟩ := bif_and hd
        rw [lenOf_eq] at d5 d8
        have d5 := Nat.le_of_ble_eq_true d5
        rw [lenOf_eq] at k3 k4 ⊢
        obtain ⟨k5, k6⟩ := okB_nth k4
        have hlo : ∀ k, k < s.pre.length → sigL m s.pre.length n k = nthN m k := fun k hk => by rw [sigL, blt_iff.2 hk]; rfl
        have hhi : ∀ k, s.pre.length ≤ k → sigL m s.pre.length n k = n + (k - s.pre.length) := fun k hk => by
          have : Nat.blt k s.pre.length = false := by
            cases hq : Nat.blt k s.pre.length with
            | false => rfl
            | true => have := blt_iff.1 hq; omega
          rw [sigL, this]
          rfl
        have hlt : ∀ k, k < s.pre.length → sigL m s.pre.length n k < n := fun k hk => by rw [hlo k hk]; exact ltB_nth k2 k (by omega)
        have hi : ∀ j k, sigL m s.pre.length n j = sigL m s.pre.length n k → j = k := fun j k e => by
          by_cases hj : j < s.pre.length <;> by_cases hk : k < s.pre.length
          · rw [hlo j hj, hlo k hk] at e
            exact nodupB_nth k1 j k (by omega) (by omega) e
          · have := hlt j hj
            rw [e, hhi k (by omega)] at this
            omega
          · have := hlt k hk
            rw [← e, hhi j (by omega)] at this
            omega
          · rw [hhi j (by omega), hhi k (by omega)] at e
            omega
        have ea : args = s.args.map (mvV (sigL m s.pre.length n) d) := by rw [← mvL_eq]; exact eqLW_eq (eqV_eq 20) _ _ k3
        rw [ea]
        obtain ⟨p1, p2⟩ := puts_get (sigL m s.pre.length n) hi d s.post h d6
        have hpre : ∀ k, k < s.pre.length → mvOOK d (nthA s.pre k) = true ∧ h.getO (sigL m s.pre.length n k) = mvO (sigL m s.pre.length n) d (nthA s.pre k) := fun k hk => ⟨oksO_nth d3 k hk, by rw [hlo k hk]; exact k6 k hk⟩
        refine call_moved hs.call hi d5 (fun k hk => ?_) hhi (mvOKL_mem d1) d2 (fun k hk => ?_) (fun k hk => ?_) (fun k hk => ?_) (fun j hj => p2 j fun k hk => hj k (ltB_mem d7 k hk))
        · obtain ⟨g1, g2⟩ := hpre k hk
          intro q
          rw [g2] at q
          revert g1 q
          cases nthA s.pre k <;> simp [mvOOK, mvO]
        · rw [getO_mkH]
          exact .inr (hpre k hk)
        · rw [getO_mkH]
          exact nthA_gone _ _ hk
        · rw [getO_mkP]
          by_cases hkm : k ∈ keysP s.post
          · have e := p1 k hkm
            rcases oksP_get d4 k with g | g
            · exact .inl ⟨g, .inl (by rw [e, g]; rfl)⟩
            · exact .inr ⟨g, e⟩
          · refine .inl ⟨getP_out hkm, .inr ⟨Nat.le_of_not_lt fun q => hkm (covB_mem d8 k q), p2 _ fun i hi' e => hkm (by rw [← hi i k e]; exact hi')⟩⟩
end Go.Clo
namespace Go.Clo

noncomputable def setsK {β : Type} : List AO → Nat → TH → (TH → β) → β
  | [], _ => fun h κ => κ h
  | o :: l, k => fun h κ => h.set k o fun h => setsK l (Nat.succ k) h κ
theorem setsK_eq {β : Type} : ∀ l k h (κ : TH → β), setsK l k h κ = κ (TH.ofL l k h)
  | [], _, _, _ => rfl
  | o :: l, k, h, κ => by
    unfold setsK
    rw [TH.set_eq, setsK_eq l]
    rfl
noncomputable def eqHs (h : TH) : List (Nat × AO) → Bool
  | [] => true
  | e :: l => bif (bif isGone e.2 then true else h.getK e.1 fun p => eqO p e.2) then eqHs h l else false
def yesR : Res := .ret .e ⟨[], .no, none⟩ .e 0
def isYes (r : Res) : Bool := match r with
  | .ret _ _ _ _ => true
  | _ => false
noncomputable def isSum (s : Sum) (r : CRes) : Up → Res := match r with
  | .ret v h n => fun u => (match u with
    | .no => ifB (bif eqV 20 v s.v then (bif Nat.beq n s.n1 then eqHs h s.post else false) else false) yesR (.fail "another end")
    | _ => .fail "another end")
  | _ => fun _ => .fail "another end"
noncomputable def runS (cf : CF) (s : Sum) : Res := setsK s.pre 0 .e fun h => cf s.f s.args .no h (lenOf s.pre) (isSum s)
theorem eqHs_get {h : TH} : ∀ {l : List (Nat × AO)}, eqHs h l = true → ∀ k, getP l k = .gone ∨ getP l k = h.getO k
  | [], _, _ => .inl rfl
  | e :: l, he, k => by
    obtain ⟨h1, h2⟩ := bif_and he
    rw [getP]
    cases hb : Nat.beq e.1 k with
    | false => exact eqHs_get h2 k
    | true =>
      have e1 := Nat.eq_of_beq_eq_true hb
      cases hg : isGone e.2 with
      | true =>
        refine .inl ?_
        show e.2 = .gone
        revert hg
        cases e.2 <;> simp [isGone]
      | false =>
        rw [hg, TH.getK_eq] at h1
        exact .inr (by show e.2 = _; rw [← eqO_eq h1, e1])
/-- fewer blocks are told of -/
theorem CallSim.less {P : Program} {G : Tab} {B0 : Nat} {f : FuncId} {args : List Value} {up : Up} {h : TH} {n : Nat} {v : Value} {h1 h2 : TH} {n1 : Nat} {u : Up} (hc : CallSim P G B0 f args up h n (.ret v h1 n1) u)
    (hl : ∀ k, h2.getO k = .gone ∨ h2.getO k = h1.getO k) : CallSim P G B0 f args up h n (.ret v h2 n1) u := by
  have hlive : ∀ k, Live h2 k → Live h1 k ∧ h2.getO k = h1.getO k := fun k hk => by
    rcases hl k with e | e
    · exact absurd e hk
    · exact ⟨by rw [Live, ← e]; exact hk, e⟩
  intro ρ S kind cs A M w h3 h4 h5 h6
  obtain ⟨g1, ρ1, V, M', w', fr, g2, g3, g4, g5, g6, g7⟩ := hc ρ S kind cs A M w h3 h4 h5 h6
  refine ⟨g1, ρ1, V, M', w', fr, g2, g3, fun ρ' hA => ?_, fun ρ' hA => ?_, g6, g7⟩
  · obtain ⟨e1, e2, e3⟩ := g4 ρ' hA
    refine ⟨e1, ⟨fun k hk => e2.lt k (hlive k hk).1, fun k hk => e2.base k (hlive k hk).1, fun k hk => ?_, fun i j hi hj e => e2.inj i j (hlive i hi).1 (hlive j hj).1 e⟩, e3⟩
    obtain ⟨p, hp, hO⟩ := e2.obj k (hlive k hk).1
    exact ⟨p, hp, by rw [(hlive k hk).2]; exact hO⟩
  · have e := g5 ρ' hA
    exact ⟨e.size, e.os, e.out, e.tape, fun b hb hn => let ⟨q1, q2⟩ := e.rest b hb hn; ⟨q1, fun k hk => q2 k (hlive k hk).1⟩⟩
theorem sum_ok {P : Program} {G : Tab} {B0 : Nat} {cf : CF} (hcf : CFok P G B0 cf) {s : Sum} (h : isYes (runS cf s) = true) : SumOK P G B0 s := by
  have hR : cf s.f s.args .no (mkH s.pre) s.pre.length (isSum s) = runS cf s := by
    unfold runS
    rw [setsK_eq, lenOf_eq]
    rfl
  generalize runS cf s = R at h hR
  have hN : NF R := fun why e => by rw [e] at h; cases h
  obtain ⟨hE, r, u, hr, hS⟩ := hcf _ _ _ _ _ _ _ hR hN
  have hno : ∀ why, isSum s r u ≠ .fail why := fun why e => hN why (by rw [← hr, e])
  unfold isSum at hno
  cases r with
  | panic v h n => exact absurd rfl (hno _)
  | fail w => exact absurd rfl (hno _)
  | ret v h1 n1 =>
    cases u with
    | quiet => exact absurd rfl (hno _)
    | chain v r => exact absurd rfl (hno _)
    | no =>
      simp only at hno
      cases hb : (bif eqV 20 v s.v then (bif Nat.beq n1 s.n1 then eqHs h1 s.post else false) else false) with
      | false => rw [hb] at hno; exact absurd rfl (hno _)
      | true =>
        obtain ⟨b1, b2⟩ := bif_and hb
        obtain ⟨b2, b3⟩ := bif_and b2
        rw [eqV_eq 20 _ _ b1, Nat.eq_of_beq_eq_true b2] at hS
        exact ⟨hE, hS.less fun k => by rw [getO_mkP]; exact eqHs_get b3 k⟩
end Go.Clo
namespace Go.Clo
open Go.RowKit

theorem calls_of_sum {P : Program} {G : Tab} {w : World} {f : FuncId} {v : Value} {n1 : Nat} (hv : plainV v = true) (h : SumOK P G w.heap.size ⟨f, [], [], v, [], n1⟩) : Calls P f #[] w fun e w' => e = .returned v ∧ Below w.heap.size w w' := by
  intro cs
  have hW : ∀ ρ', WEq ρ' G w.heap.size (mkH []) 0 w := fun ρ' => by
    have hno : ∀ k, ¬ Live (mkH []) k := fun k hk => hk (by rw [getO_mkH]; rfl)
    exact ⟨fun k hk => absurd hk (hno k), fun k hk => absurd hk (hno k), fun k hk => absurd hk (hno k), fun k _ hk => absurd hk (hno k)⟩
  obtain ⟨_, ρ1, V, M', w', fr, _, _, hO, hK, hL, hs⟩ := h.call ⟨fun _ => 0, fun _ => 0, fun _ => 0⟩ (fun _ => False) .normal cs #[] none w (fun _ hk => hk.elim) (fun ρ' _ => ⟨rfl, hW ρ', rfl⟩) (Nat.le_refl _) rfl
  obtain ⟨e1, _, e3⟩ := hO ρ1 (.refl _ _)
  have hk := hK ρ1 (.refl _ _)
  have e3 : M' = none := e3
  subst e3
  rw [rlV_plain ρ1 v hv] at e1
  subst e1
  refine ⟨.returned V, w', fr, ⟨rfl, ⟨hk.os, hk.tape, hk.out, hk.size, fun k hk' => (hk.rest k hk' fun j hj => absurd (show (mkH []).getO j = .gone by rw [getO_mkH]; rfl) hj).1⟩⟩, hs, hL.fid, hL.leaving⟩
end Go.Clo
namespace Go.Clo
open Go.RowKit

/-- w' is w but for blocks of F and new blocks. -/
structure Chg (F : Nat → Prop) (w w' : World) : Prop where
  os : w'.os = w.os
  tape : w'.tape = w.tape
  output : w'.output = w.output
  size : w.heap.size ≤ w'.heap.size
  block : ∀ k, k < w.heap.size → ¬ F k → w'.heap[k]? = w.heap[k]?
theorem Chg.refl (F : Nat → Prop) (w : World) : Chg F w w := ⟨rfl, rfl, rfl, Nat.le_refl _, fun _ _ _ => rfl⟩
theorem Chg.trans {F F' : Nat → Prop} {a b c : World} (h : Chg F a b) (k : Chg F' b c) (hF : ∀ j, j < a.heap.size → F' j → F j) : Chg F a c :=
  ⟨k.os.trans h.os, k.tape.trans h.tape, k.output.trans h.output, Nat.le_trans h.size k.size,
   fun j hj hn => (k.block j (Nat.lt_of_lt_of_le hj h.size) (fun hf => hn (hF j hj hf))).trans (h.block j hj hn)⟩
theorem Chg.alloc {F : Nat → Prop} {a b : World} (h : Chg F a b) (o : Obj) : Chg F a (b.alloc o) :=
  ⟨h.os, h.tape, h.output, by have := h.size; simp; omega, fun k hk hn => by
    rw [Go.heap_alloc_old b o (by have := h.size; omega)]; exact h.block k hk hn⟩
theorem chg_set1 (w : World) (r : Nat) (o : Obj) : Chg (fun b => b = r) w (ChangeMaps.setBlock w r o) :=
  ⟨rfl, rfl, rfl, by simp [ChangeMaps.setBlock], fun k _ hn => by simp [ChangeMaps.setBlock, Ne.symm (show k ≠ r from hn)]⟩
theorem Chg.drew {F : Nat → Prop} {a b : World} (h : Chg F a b) : Chg F a b.drew := ⟨h.os, h.tape, h.output, h.size, h.block⟩

section
variable {P : Program} {ops : Array Oper} {Q : Exit → Act → World → Prop} {a : Act} {w : World} {rest : List Oper} {o : Oper}
theorem wpList_val (hg : o.guard = none) {v : Value} {w' : World} (hrun : (execOp a.eval o).run P w = .ok (.value v) w') (h : wpList P ops Q rest (a.put o.dst v) w') : wpList P ops Q (o :: rest) a w :=
  wpList_plain hg fun K hK => by unfold Oper.wp; rw [hrun]; exact hK _ _ h
theorem wpList_skp (hg : o.guard = none) {w' : World} (hrun : (execOp a.eval o).run P w = .ok .skip w') (h : wpList P ops Q rest (a.put o.dst undef) w') : wpList P ops Q (o :: rest) a w :=
  wpList_plain hg fun K hK => by unfold Oper.wp; rw [hrun]; exact hK _ _ h
theorem exec_mapUpdate {T : TypeId} {x k y : Operand} (hop : o.op = Op.mapUpdate T x k y) {w' : World}
    (hrun : (Instr.mapUpdate T (a.eval x) (a.eval k) (a.eval y)).run P w = .ok () w') : (execOp a.eval o).run P w = .ok .skip w' := by
  simp only [execOp, hop, Sem.run_bind, Sem.run_pure, Result.andThen_ok, hrun]
theorem exec_range {T : TypeId} {x : Operand} (hop : o.op = Op.range T x) {v : Value} {w' : World}
    (hrun : (Instr.range T (a.eval x)).run P w = .ok v w') : (execOp a.eval o).run P w = .ok (.value v) w' := by
  simp only [execOp, hop, Sem.run_bind, Sem.run_pure, Result.andThen_ok, hrun]
theorem exec_next {x : Operand} {s : Bool} (hop : o.op = Op.next x s) {v : Value} {w' : World}
    (hrun : (Instr.next (a.eval x) s o.type).run P w = .ok v w') : (execOp a.eval o).run P w = .ok (.value v) w' := by
  simp only [execOp, hop, Sem.run_bind, Sem.run_pure, Result.andThen_ok, hrun]
end
/-- What is to be shown at the end, behind a variable: so that the walk leaves it alone. -/
def Post (K : Ending → World → Prop) (e : Ending) (w : World) : Prop := K e w
theorem ret_k {P : Program} {f : FuncId} {args : Array Value} {w : World} {R : Ending → World → Prop} (h : ∀ K : Ending → World → Prop, (∀ e w', R e w' → Post K e w') → Calls P f args w (Post K)) : Calls P f args w R := h R (fun _ _ h => h)
end Go.Clo
namespace Go.Clo
open Go.RowKit Go.Proofs

def kvOf (E : List MapEntry) : List (Value × Value) := E.map fun e => (e.key, e.val)
theorem left_none (E : Array MapEntry) : leftOf E #[] = E := by
  unfold leftOf
  exact Array.filter_eq_self.2 fun x _ => by simp
/-- an entry comes: what is left without it -/
theorem left_step {E : Array MapEntry} {cl : Nat} (hB : Born E.toList cl) {seen : Array Nat} {e : MapEntry} (he : e ∈ (leftOf E seen).toList) :
    (leftOf E seen).toList.Perm (e :: (leftOf E (seen.push e.born)).toList) := by
  have h1 : (leftOf E (seen.push e.born)).toList = (leftOf E seen).toList.filter fun x => decide (x.born ≠ e.born) := by
    simp only [leftOf, Array.toList_filter, List.filter_filter]
    apply List.filter_congr
    intro x _
    rw [Bool.eq_iff_iff]
    simp
    constructor
    · rintro ⟨h1, h2⟩; exact ⟨fun h => h2 h, h1⟩
    · rintro ⟨h1, h2⟩; exact ⟨h2, fun h => h1 h⟩
  have hn : ((leftOf E seen).toList.map (·.born)).Nodup := by
    simp only [leftOf, Array.toList_filter]
    exact List.Nodup.sublist (List.Sublist.map _ List.filter_sublist) hB.2
  rw [h1]
  revert hn he
  generalize (leftOf E seen).toList = L
  intro he hn
  induction L with
  | nil => simp at he
  | cons x L ih =>
    simp only [List.map_cons, List.nodup_cons] at hn
    by_cases hx : x.born = e.born
    · have hxe : x = e := by
        rcases List.mem_cons.1 he with q | q
        · exact q.symm
        · exact absurd (List.mem_map.2 ⟨e, q, hx.symm⟩) hn.1
      subst hxe
      have : L.filter (fun y => decide (y.born ≠ x.born)) = L := by
        rw [List.filter_eq_self]
        intro y hy
        have : y.born ≠ x.born := fun q => hn.1 (List.mem_map.2 ⟨y, hy, q⟩)
        simpa using this
      rw [List.filter_cons_of_neg (by simp), this]
    · have hm : e ∈ L := by
        rcases List.mem_cons.1 he with q | q
        · exact absurd (congrArg MapEntry.born q).symm hx
        · exact q
      rw [List.filter_cons_of_pos (by simpa using hx)]
      exact ((ih hm hn.2).cons x).trans (List.Perm.swap ..)
theorem keyX_str (s : ByteArray) : keyX .str (.string s) (.string s) = some true := by
  obtain ⟨⟨s⟩⟩ := s
  show some (eqBytes s s) = some true
  rw [eqBytes_eq]
  simp
/-- an entry whose key is new is laid -/
theorem lay_new {P : Program} {G : Tab} (T : TabOK P G) {t kt et : TypeId} (hd : und G t = some (.map kt et)) (hk : xkey G kt = .str) {w : World} {m : Nat} {E : Array MapEntry} {cl : Nat} (hm : w.heap[m]? = some (.map E cl))
    (hS : ∀ e ∈ E.toList, ∃ s, e.key = .string s) {s : ByteArray} (hno : ∀ e ∈ E.toList, e.key ≠ .string s) (v : Value) :
    (Instr.mapUpdate t (.map (some m)) (.string s) v).run P w = .ok () (ChangeMaps.setBlock w m (.map (E.push { key := .string s, val := v, born := cl }) (cl + 1))) := by
  have hkk : keyX (xkey G kt) (.string s) (.string s) = some true := by
    rw [hk]; exact keyX_str s
  have hkl : ∀ e ∈ E.toList, keyX (xkey G kt) e.key e.key = some true := by
    intro e he
    obtain ⟨s, hs⟩ := hS e he
    rw [hs, hk]
    exact keyX_str s
  obtain ⟨r, hrun, hF⟩ := findKey_found (w := w) T rfl hkk hkl
  have hck := checkKey_run (w := w) T rfl hkk false 9998
  simp only [Nat.reduceAdd] at hck
  have hr : r = none := by
    cases r with
    | none => rfl
    | some p =>
      obtain ⟨j, u⟩ := p
      obtain ⟨e, _, he, hek, _⟩ := hF
      exact absurd hek (hno e (List.mem_of_getElem? he))
  subst hr
  simp only [Instr.mapUpdate, Sem.run_bind, T.run_und hd, Result.andThen, MapKept.run_getObj_map hm, hck, hrun, MapKept.run_setObj_map _ hm]
  rfl

set_option maxRecDepth 100000 in
set_option maxHeartbeats 1000000 in
theorem clone_any {G : Tab} (T : TabOK Tryz.prog G) (hd : und G 152 = some (.map 9 3)) (hk : xkey G 9 = .str) {w : World} {b : Nat} {E : Array MapEntry} {cl : Nat} (hb : w.heap[b]? = some (.map E cl)) (hB : Born E.toList cl)
    (hS : ∀ e ∈ E.toList, ∃ s x, e.key = .string s ∧ e.val = .int .i64 x) (hn : (E.toList.map (·.key)).Nodup) :
    Calls Tryz.prog 74 #[.map (some b)] w fun e w' => ∃ E' cl', e = .returned (.map (some w.heap.size)) ∧ w'.heap[w.heap.size]? = some (.map E' cl') ∧ Born E'.toList cl' ∧ (kvOf E'.toList).Perm (kvOf E.toList) ∧ Chg (fun _ => False) w w' := by
  refine ret_k fun K hK => ?_
  have hlt : b < w.heap.size := lt_of_block hb
  have hb1 : (w.alloc (.map #[] 0)).heap[b]? = some (.map E cl) := by rw [Go.heap_alloc_old _ _ hlt]; exact hb
  have hrg : (Instr.range 152 (.map (some b))).run Tryz.prog (w.alloc (.map #[] 0)) = .ok (.pointer (some ⟨w.heap.size + 1, 0, none⟩)) ((w.alloc (.map #[] 0)).alloc (.mapIter (some b) cl #[] cl)) := by
    simpa using run_range_map (P := Tryz.prog) (w.alloc (.map #[] 0)) 152 9 3 b E cl (T.und hd) hb1
  have HK := Lib.hid hK
  have HS := Lib.hid hS
  have HN := Lib.hid hn
  have HB := Lib.hid hB
  have Hb := Lib.hid hb
  have Hlt := Lib.hid hlt
  have HT := Lib.hid T
  have Hd := Lib.hid hd
  have Hk := Lib.hid hk
  clear hK hS hn hB hb hb1 hlt T hd hk
  have hmk : (Instr.makeMap 152 none).run Tryz.prog w = .ok (.map (some w.heap.size)) (w.alloc (.map #[] 0)) := by simp [Instr.makeMap]
  go_enter Tryz.func74, Tryz.ntmps74
  go_wp2_with (at_range; refine wpList_val rfl (exec_range rfl hrg) ?_)
  clear hrg hmk
  go_frame
  go_loopg [4] (E.size) (fun num v4 wr => ∃ (seen : Array Nat) (E' : Array MapEntry) (cl' : Nat), wr.heap[w.heap.size]? = some (.map E' cl') ∧ wr.heap[w.heap.size + 1]? = some (.mapIter (some b) cl seen cl) ∧ Born E'.toList cl' ∧ Chg (fun _ => False) w wr ∧
    (kvOf E'.toList ++ kvOf (leftOf E seen).toList).Perm (kvOf E.toList) ∧ num = (leftOf E seen).size)
  case atStart =>
    refine ⟨#[], #[], 0, ?_, ?_, by simp [Born], ((Chg.refl _ _).alloc _).alloc _, by rw [left_none]; simp [kvOf], by rw [left_none]⟩
    · rw [Go.heap_alloc_old _ _ (by simp)]
      exact Go.heap_alloc_new _ _
    · have := Go.heap_alloc_new (w.alloc (.map #[] 0)) (.mapIter (some b) cl #[] cl)
      simpa using this
  case round =>
    obtain ⟨seen, E', cl', hm, hr, hB', hC, hp, hnum⟩ := hrel
    have hbw : wr.heap[b]? = some (.map E cl) := (hC.block b Hlt.out id).trans Hb.out
    rcases run_next_at (P := Tryz.prog) wr 0 (w.heap.size + 1) b cl cl seen E cl hr hbw HB.out.1 (Nat.le_refl _) with ⟨h0, hrun⟩ | ⟨e, he, w1, hw1, hrun⟩
    · have hl : (leftOf E seen).toList = [] := List.eq_nil_of_length_eq_zero (by simpa using h0)
      have HF : Hid (Post K (.returned (.map (some w.heap.size))) wr) := HK.out _ _ ⟨E', cl', rfl, hm, hB', by rw [hl] at hp; simpa [kvOf] using hp, hC⟩
      clear hm hr hB' hC hp hnum hbw h0 hl HK HS HN HB Hb Hlt HT Hd Hk
      go_wp2_with (at_next; go_must (refine wpList_val rfl (exec_next rfl (by exact hrun)) ?_))
      go_ret
      exact HF.out
    · have hmem : e ∈ E.toList := by
        simp only [leftOf, Array.toList_filter] at he
        exact (List.mem_filter.1 he).1
      obtain ⟨s, x, hek, hev⟩ := HS.out e hmem
      have hstep := left_step HB.out he
      have hlen : (leftOf E (seen.push e.born)).size + 1 = (leftOf E seen).size := by have := hstep.length_eq; simpa using this.symm
      rw [hek, hev] at hrun
      have hsz : w1.heap = wr.heap := by rcases hw1 with rfl | rfl <;> rfl
      have hm2 : (ChangeMaps.setBlock w1 (w.heap.size + 1) (.mapIter (some b) cl (seen.push e.born) cl)).heap[w.heap.size]? = some (.map E' cl') := by
        simp only [ChangeMaps.setBlock]
        rw [Array.getElem?_setIfInBounds_ne (by omega), hsz]
        exact hm
      have hr2 : (ChangeMaps.setBlock w1 (w.heap.size + 1) (.mapIter (some b) cl (seen.push e.born) cl)).heap[w.heap.size + 1]? = some (.mapIter (some b) cl (seen.push e.born) cl) := by
        have := lt_of_block hr
        simp [ChangeMaps.setBlock, hsz, this]
      have hb2 : (ChangeMaps.setBlock w1 (w.heap.size + 1) (.mapIter (some b) cl (seen.push e.born) cl)).heap[b]? = some (.map E cl) := by
        have := Hlt.out
        simp only [ChangeMaps.setBlock]
        rw [Array.getElem?_setIfInBounds_ne (by omega), hsz]
        exact hbw
      have hC2 : Chg (fun _ => False) w (ChangeMaps.setBlock w1 (w.heap.size + 1) (.mapIter (some b) cl (seen.push e.born) cl)) := by
        have h1 : Chg (fun _ => False) w w1 := by
          rcases hw1 with rfl | rfl
          · exact hC
          · exact hC.drew
        exact h1.trans (chg_set1 _ _ _) fun j hj hq => by omega
      generalize ChangeMaps.setBlock w1 (w.heap.size + 1) (.mapIter (some b) cl (seen.push e.born) cl) = w2 at hrun hm2 hr2 hb2 hC2
      have hent := run_entry_at (P := Tryz.prog) w2 (w.heap.size + 1) b cl seen E cl e hr2 hb2 hmem HB.out.2
      rw [hek, hev] at hent
      have hkeys : ((kvOf E'.toList ++ kvOf (leftOf E seen).toList).map (·.1)).Nodup := by
        refine (hp.map (·.1)).nodup_iff.2 ?_
        simpa [kvOf, List.map_map, Function.comp_def] using HN.out
      have hno : ∀ e' ∈ E'.toList, e'.key ≠ .string s := by
        intro e' he' hq
        rw [List.map_append, List.nodup_append] at hkeys
        refine hkeys.2.2 e'.key (List.mem_map.2 ⟨(e'.key, e'.val), List.mem_map.2 ⟨e', he', rfl⟩, rfl⟩) e.key (List.mem_map.2 ⟨(e.key, e.val), List.mem_map.2 ⟨e, he, rfl⟩, rfl⟩) ?_
        rw [hq, hek]
      have hS' : ∀ e' ∈ E'.toList, ∃ s, e'.key = .string s := by
        intro e' he'
        have h1 : (e'.key, e'.val) ∈ kvOf E.toList := hp.mem_iff.1 (List.mem_append_left _ (List.mem_map.2 ⟨e', he', rfl⟩))
        obtain ⟨y, hy, hq⟩ := List.mem_map.1 h1
        simp only [Prod.mk.injEq] at hq
        obtain ⟨s', x', h2, _⟩ := HS.out y hy
        exact ⟨s', by rw [← hq.1, h2]⟩
      have hup := lay_new HT.out Hd.out Hk.out hm2 hS' hno (.int .i64 x)
      have hr3 : (ChangeMaps.setBlock w2 w.heap.size (.map (E'.push { key := .string s, val := .int .i64 x, born := cl' }) (cl' + 1))).heap[w.heap.size + 1]? = some (.mapIter (some b) cl (seen.push e.born) cl) := by
        simp only [ChangeMaps.setBlock]
        rw [Array.getElem?_setIfInBounds_ne (by omega)]
        exact hr2
      have hm3 : (ChangeMaps.setBlock w2 w.heap.size (.map (E'.push { key := .string s, val := .int .i64 x, born := cl' }) (cl' + 1))).heap[w.heap.size]? = some (.map (E'.push { key := .string s, val := .int .i64 x, born := cl' }) (cl' + 1)) := by
        have := lt_of_block hm2
        simp [ChangeMaps.setBlock, this]
      have hC3 : Chg (fun _ => False) w (ChangeMaps.setBlock w2 w.heap.size (.map (E'.push { key := .string s, val := .int .i64 x, born := cl' }) (cl' + 1))) := hC2.trans (chg_set1 _ _ _) fun j hj hq => by omega
      generalize ChangeMaps.setBlock w2 w.heap.size (.map (E'.push { key := .string s, val := .int .i64 x, born := cl' }) (cl' + 1)) = w3 at hup hr3 hm3 hC3
      have hp3 : (kvOf (E'.push { key := .string s, val := .int .i64 x, born := cl' }).toList ++ kvOf (leftOf E (seen.push e.born)).toList).Perm (kvOf E.toList) := by
        refine List.Perm.trans ?_ hp
        have h1 : (kvOf (leftOf E seen).toList).Perm ((e.key, e.val) :: kvOf (leftOf E (seen.push e.born)).toList) := hstep.map fun e : MapEntry => (e.key, e.val)
        refine List.Perm.trans ?_ (h1.symm.append_left _)
        rw [Array.toList_push]
        simp [kvOf, hek, hev]
      have HF : Hid (∃ (seen : Array Nat) (E' : Array MapEntry) (cl' : Nat), w3.heap[w.heap.size]? = some (.map E' cl') ∧ w3.heap[w.heap.size + 1]? = some (.mapIter (some b) cl seen cl) ∧ Born E'.toList cl' ∧ Chg (fun _ => False) w w3 ∧
          (kvOf E'.toList ++ kvOf (leftOf E seen).toList).Perm (kvOf E.toList) ∧ gk - 1 = (leftOf E seen).size) :=
        ⟨seen.push e.born, _, _, hm3, hr3, by rw [Array.toList_push]; exact hB'.push _ _, hC3, hp3, by omega⟩
      have Hnum : Hid (0 < gk) := by show 0 < gk; omega
      clear hm hr hB' hC hp hnum hbw hmem hek hev hstep hlen hm2 hr2 hb2 hC2 hkeys hno hS' hr3 hm3 hC3 hp3 HK HS HN HB Hb Hlt HT Hd Hk he hw1 hsz
      go_wp2_with (first | (at_next; go_must (refine wpList_val rfl (exec_next rfl (by exact hrun)) ?_)) | (at_mapUpdate; go_must (refine wpList_skp rfl (exec_mapUpdate rfl (by exact hup)) ?_)))
      go_roundg (gk - 1)
      case measure => have := Hnum.out; omega
      case rel => exact HF.out
end Go.Clo
namespace Go.Clo
open Go.RowKit Go.Proofs

def okEs : List (Value × Value) → Bool
  | [] => true
  | e :: l => match e with
    | (.string _, .int .i64 _) => okEs l
    | _ => false
noncomputable def cloneB (v : Value) : TH → Nat → (CRes → Up → Res) → Res := match v with
  | .map (some r) => fun h n κ => ownK (.fail "clone of another's") r fun b => h.getK b fun o => mapO o (.fail "clone: no map") fun t es => ifB (keyBeq t .str)
      (ifB (okEs es) (newK h n (.map t es) fun h n' => κ (.ret (.map (some (Nat.add O n))) h n') .no) (.fail "clone: entries")) (.fail "clone: keys")
  | _ => fun _ _ _ => .fail "clone: no map"
noncomputable def cloneK (args : List Value) (up : Up) : TH → Nat → (CRes → Up → Res) → Res := match args, up with
  | [v], .no => cloneB v
  | _, _ => fun _ _ _ => .fail "clone: arguments"
noncomputable def knownC (cf : CF) : CF := fun f args up h n κ => ifB (Nat.beq f 74) (cloneK args up h n κ) (cf f args up h n κ)
theorem okEs_mem : ∀ {es : List (Value × Value)}, okEs es = true → ∀ e ∈ es, ∃ s x, e.1 = .string s ∧ e.2 = .int .i64 x
  | [], _ => by simp
  | (a, b) :: l, h => by
    unfold okEs at h
    split at h
    · rename_i s x hq
      intro e he
      rcases List.mem_cons.1 he with rfl | he
      · simp only [Prod.mk.injEq] at hq
        exact ⟨_, _, hq.1, hq.2⟩
      · exact okEs_mem h e he
    · cases h
theorem cloneK_elim {args : List Value} {up : Up} {h : TH} {n : Nat} {κ : CRes → Up → Res} {R : Res} (hr : cloneK args up h n κ = R) (hN : NF R) :
    ∃ k es, args = [.map (some (O + k))] ∧ up = .no ∧ h.getO k = .map .str es ∧ okEs es = true ∧ κ (.ret (.map (some (O + n))) (h.setO n (.map .str es)) (n + 1)) .no = R := by
  unfold cloneK at hr
  split at hr
  · rename_i v
    unfold cloneB at hr
    split at hr
    · rename_i r
      obtain ⟨k, rfl, h1⟩ := ownK_elim hr fun q => hN _ q.symm
      rw [TH.getK_eq] at h1
      obtain ⟨t, es, ho, h2⟩ := mapO_elim h1 fun q => hN _ q.symm
      obtain ⟨h3, h4⟩ := ifB_elim h2 fun q => hN _ q.symm
      obtain ⟨h5, h6⟩ := ifB_elim h4 fun q => hN _ q.symm
      rw [newK_eq] at h6
      have e := keyBeq_eq h3
      subst e
      exact ⟨k, es, rfl, rfl, ho, h5, h6⟩
    · exact absurd hr.symm (hN _)
  · exact absurd hr.symm (hN _)
theorem WEq.lay_chg {G : Tab} {ρ : Env} {B0 : Nat} {h : TH} {n : Nat} {w w' : World} (hW : WEq ρ G B0 h n w) (hB : B0 ≤ w.heap.size) (hC : Chg (fun _ => False) w w') {o : AO} {p : Obj} (hloc : ρ.loc n = w.heap.size) (hp : w'.heap[w.heap.size]? = some p)
    (hO : ObjEq ρ G n o p) : WEq ρ G B0 (h.setO n o) (n + 1) w' ∧ KeepEq ρ h (h.setO n o) w w' := by
  have hl : ∀ j, Live (h.setO n o) j → j = n ∨ (Live h j ∧ j ≠ n) := by
    intro j hj
    by_cases e : j = n
    · exact .inl e
    · unfold Live at hj; rw [TH.getO_setO_ne h _ e] at hj; exact .inr ⟨hj, e⟩
  refine ⟨⟨fun j hj => ?_, fun j hj => ?_, fun j hj => ?_, fun i j hi hj e => ?_⟩, ⟨hC.size, hC.os, hC.output, hC.tape, fun b hb hne => ⟨hC.block b hb id, fun j hj => ?_⟩⟩⟩
  · rcases hl j hj with rfl | ⟨h1, _⟩
    · omega
    · have := hW.lt j h1; omega
  · rcases hl j hj with rfl | ⟨h1, _⟩
    · omega
    · exact hW.base j h1
  · rcases hl j hj with rfl | ⟨h1, h2⟩
    · exact ⟨p, by rw [hloc]; exact hp, by rw [TH.getO_setO_self]; exact hO⟩
    · obtain ⟨q, hq, hQ⟩ := hW.obj j h1
      exact ⟨q, by rw [hC.block _ (hW.lt_size h1) id]; exact hq, by rw [TH.getO_setO_ne h _ h2]; exact hQ⟩
  · rcases hl i hi with rfl | ⟨h1, _⟩ <;> rcases hl j hj with rfl | ⟨h2, _⟩
    · rfl
    · have := hW.lt_size h2; omega
    · have := hW.lt_size h1; omega
    · exact hW.inj i j h1 h2 e
  · rcases hl j hj with rfl | ⟨h1, _⟩
    · omega
    · exact hne j h1
theorem knownC_sim {G : Tab} {B0 : Nat} (T : TabOK Tryz.prog G) (hd : und G 152 = some (.map 9 3)) (hk : xkey G 9 = .str) {cf : CF} (hcf : CFok Tryz.prog G B0 cf) : CFok Tryz.prog G B0 (knownC cf) := by
  intro f args up h n κ R hR hN
  unfold knownC at hR
  cases hb : Nat.beq f 74 with
  | false => rw [hb] at hR; exact hcf f args up h n κ R hR hN
  | true =>
    rw [hb] at hR
    replace hR : cloneK args up h n κ = R := hR
    have ef := Nat.eq_of_beq_eq_true hb
    subst ef
    obtain ⟨k, es, rfl, rfl, ho, hes, hK⟩ := cloneK_elim hR hN
    refine ⟨enters_of (F := Tryz.f74) Tryz.func74 rfl (by decide), _, _, hK, ?_⟩
    intro ρ S kind cs A M w hS hIn hB hU
    obtain ⟨eA, hW, eM⟩ := hIn ρ (.refl _ _)
    replace eM : M = none := eM
    replace hU : kind = .normal := hU
    subst eM hU
    obtain ⟨E, cl, hE, hEn, hBn⟩ := map_at hW ho
    have hS1 : ∀ e ∈ E.toList, ∃ s x, e.key = .string s ∧ e.val = .int .i64 x := by
      intro e he
      have h1 : (e.key, e.val) ∈ es.map fun x => (x.1, rlV ρ x.2) := hEn.2.2.mem_iff.1 (List.mem_map.2 ⟨e, he, rfl⟩)
      obtain ⟨y, hy, hq⟩ := List.mem_map.1 h1
      simp only [Prod.mk.injEq] at hq
      obtain ⟨s, x, h2, h3⟩ := okEs_mem hes y hy
      exact ⟨s, x, by rw [← hq.1, h2], by rw [← hq.2, h3]; simp [rlV]⟩
    have hcall := clone_any T hd hk hE hBn hS1 hEn.nodup
    have eA2 : A = #[.map (some (ρ.loc k))] := by rw [eA]; simp [rlV]
    subst eA2
    clear eA
    obtain ⟨e, w', fr, ⟨E', cl', rfl, hm, hB', hp, hC⟩, hcomes, hfn, hleave⟩ := hcall cs
    have hag : Agree S ρ (ρ.put n w.heap.size 0 0) := ρ.agree_put _ _ _ hS
    have hat : ∀ ρ', Agree (ext S n (n + 1)) (ρ.put n w.heap.size 0 0) ρ' → ρ'.loc n = w.heap.size ∧ WEq ρ' G B0 h n w ∧ ObjEq ρ' G n (.map .str es) (.map E' cl') := by
      intro ρ' hA
      have h1 := (hA n (.inr ⟨Nat.le_refl _, Nat.lt_succ_self _⟩)).1
      have h2 : Agree S ρ ρ' := hag.trans hA ext_sub
      have hW' := (hIn ρ' h2).2.1
      refine ⟨by rw [h1]; simp [Env.put], hW', ?_⟩
      obtain ⟨E2, cl2, hE2, hEn2, _⟩ := map_at hW' ho
      have hloc : ρ'.loc k = ρ.loc k := (h2 k (live_in (fun ρ' hA => (hIn ρ' hA).2.1) (by rw [Live, ho]; simp))).1
      rw [hloc, hE] at hE2
      simp only [Option.some.injEq, Obj.map.injEq] at hE2
      obtain ⟨rfl, rfl⟩ := hE2
      exact ⟨E', cl', rfl, hB', hEn2.1, hEn2.2.1, hp.trans hEn2.2.2⟩
    obtain ⟨l1, l2, l3, fn, l4, l5⟩ := hleave
    refine ⟨rfl, ρ.put n w.heap.size 0 0, _, none, w', fr, hag, Nat.le_succ _, fun ρ' hA => ?_, fun ρ' hA => ?_, ⟨l1, l2, l3, hfn, fn, l4, l5⟩, hcomes⟩
    · obtain ⟨h1, h2, h3⟩ := hat ρ' hA
      exact ⟨by simp [rlV, h1], (h2.lay_chg hB hC h1 hm h3).1, rfl⟩
    · obtain ⟨h1, h2, h3⟩ := hat ρ' hA
      exact (h2.lay_chg hB hC h1 hm h3).2
end Go.Clo
