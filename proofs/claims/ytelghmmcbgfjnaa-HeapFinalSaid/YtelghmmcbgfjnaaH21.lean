/-
  The ideal heap of the law of weak tables: eight keys that are held, and a table. (A part of the proof, joined of: Ys, Yt, Yu.)
-/
import Derived.Test.YtelghmmcbgfjnaaH20
/-! The ideal heap of the law of weak tables: eight keys that are held, and a table. -/
namespace Go.Proofs.Ytelghmmcbgfjnaa
open Go.RowKit Rings

namespace Weak
def key (j : Nat) : Nd := ⟨false, j, [], [], false⟩
def M (l : List En) (i : Nat) : IS := ⟨tab l :: (List.range i).map key, rhs (i + 1), [], [], 900⟩
def up {α : Type} (f : Nat → α) (k : Nat) (x : α) : Nat → α := fun j => if j = k then x else f j

theorem nd_0 (l : List En) (i : Nat) : (M l i).nd 0 = some (tab l) := rfl
theorem nd_key {l : List En} {i j : Nat} (h : j < i) : (M l i).nd ((j : Int) + 1) = some (key j) := by
  unfold IS.nd
  rw [if_pos (by omega)]
  have e : ((j : Int) + 1).toNat = j + 1 := by omega
  rw [e]
  show (tab l :: (List.range i).map key)[j + 1]? = _
  rw [List.getElem?_cons_succ, List.getElem?_map, List.getElem?_range h]
  rfl
theorem nd_cases {l : List En} {i : Nat} {n : Int} {d : Nd} (h : (M l i).nd n = some d) : (n = 0 ∧ d = tab l) ∨ ∃ j : Nat, j < i ∧ n = (j : Int) + 1 ∧ d = key j := by
  obtain ⟨h0, hl, he⟩ := IS.nd_nat h
  have hl' : n.toNat < i + 1 := by simpa [M] using hl
  by_cases e : n = 0
  · subst e
    rw [nd_0] at h
    simp only [Option.some.injEq] at h
    exact .inl ⟨rfl, h.symm⟩
  · right
    have hn : n = ((n.toNat - 1 : Nat) : Int) + 1 := by omega
    rw [hn, nd_key (by omega)] at h
    simp only [Option.some.injEq] at h
    exact ⟨n.toNat - 1, by omega, hn, h.symm⟩

theorem words_le (l : List En) (i : Nat) : (M l i).words (M l i).live ≤ 1 + 3 * l.length + i := by
  refine Nat.le_trans (IS.words_le (q := fun _ => true) fun _ _ => rfl) ?_
  unfold IS.words
  have hlen : (M l i).nodes.length = i + 1 := by simp [M]
  rw [hlen, List.range_succ_eq_map, List.map_cons, List.sum_cons, List.map_map]
  have h0 : (M l i).cost (fun _ => true) 0 = 1 + 3 * l.length := by
    show (if true = true then 1 + 0 + 3 * (l.filter fun _ => true).length else 0) = _
    rw [List.filter_eq_self.2 fun _ _ => rfl]
    simp
  have h1 : (List.range i).map ((M l i).cost (fun _ => true) ∘ Nat.succ) = (List.range i).map fun _ => 1 := by
    refine List.map_congr_left fun j hj => ?_
    have hj' := List.mem_range.1 hj
    simp only [Function.comp]
    unfold IS.cost
    have : (M l i).nodes[Nat.succ j]? = some (key j) := by
      show (tab l :: (List.range i).map key)[j + 1]? = _
      rw [List.getElem?_cons_succ, List.getElem?_map, List.getElem?_range hj']
      rfl
    rw [this]
    simp [key]
  rw [h0, h1, sum_const]
  omega

theorem table : (IS.start 900).table = (0, 0, M [] 0) := by
  have hf : (IS.start 900).fresh = 0 := freshOf_eq Sane.least_0
  have hw : (IS.start 900).words (IS.start 900).live = 0 := rfl
  have hr : (IS.start 900).room = 900 := rfl
  unfold IS.table IS.adds
  rw [hw, hr, if_pos (by omega), hf]
  show (0, 0, ((IS.start 900).add (tab [])).grant 0) = _
  unfold IS.grant
  have : ((IS.start 900).add (tab [])).fresh = 0 := hf
  rw [this]
  rfl

theorem make (i : Nat) (h : i < 8) : (M [] i).make i [] = ((i : Int) + 1, 0, M [] (i + 1)) := by
  have hf : (M [] i).fresh = (i : Int) + 1 := freshOf_eq (rhs_least (i + 1))
  have hr : (M [] i).room = 900 := rfl
  have hw := words_le [] i
  simp only [List.length_nil] at hw
  have hm : (M [] i).make i [] = (M [] i).adds 1 (key i) := by
    unfold IS.make
    rw [if_pos (by simp), if_neg (by simp)]
    rfl
  rw [hm]
  unfold IS.adds
  rw [hr, if_pos (by omega), hf]
  unfold IS.grant
  have : ((M [] i).add (key i)).fresh = (i : Int) + 1 := hf
  rw [this]
  have e : M [] (i + 1) = ⟨tab [] :: (List.range (i + 1)).map key, rhs (i + 1) ++ [(((i + 1 : Nat) : Int), ((i + 1 : Nat) : Int))], [], [], 900⟩ := by
    unfold M; rw [rhs_succ (i + 1)]
  rw [e]
  simp [M, IS.add, List.range_succ]

structure MapI (has : Nat → Bool) (val : Nat → Int) (l : List En) : Prop where
  keys : ∀ x ∈ l, ∃ k : Nat, k < 8 ∧ x = ⟨(k : Int) + 1, ⟨false, val k⟩⟩ ∧ has k = true
  all : ∀ k : Nat, k < 8 → has k = true → (⟨(k : Int) + 1, ⟨false, val k⟩⟩ : En) ∈ l
  nodup : (l.map (·.key)).Nodup

theorem MapI.nil : MapI (fun _ => false) (fun _ => 0) [] := ⟨fun x hx => (by cases hx), fun k _ h => (by cases h), List.nodup_nil⟩
theorem MapI.find {has : Nat → Bool} {val : Nat → Int} {l : List En} (h : MapI has val l) {k : Nat} (hk : k < 8) : l.find? (KeyIs ((k : Int) + 1)) = if has k then some ⟨(k : Int) + 1, ⟨false, val k⟩⟩ else none := by
  cases hh : has k with
  | true => exact find_key h.nodup (h.all k hk hh) (by simp [KeyIs])
  | false =>
    simp only [Bool.false_eq_true, if_false]
    refine List.find?_eq_none.2 fun x hx => ?_
    obtain ⟨j, _, rfl, hj⟩ := h.keys x hx
    simp only [KeyIs, beq_iff_eq]
    intro e
    have : j = k := by omega
    subst this
    rw [hh] at hj; cases hj
theorem MapI.length {has : Nat → Bool} {val : Nat → Int} {l : List En} (h : MapI has val l) : l.length = ((List.range 8).filter has).length := by
  have hp : (l.map (·.key)).Perm (((List.range 8).filter has).map fun (k : Nat) => (k : Int) + 1) := by
    refine (List.perm_ext_iff_of_nodup h.nodup ?_).2 fun x => ?_
    · refine List.Pairwise.map _ (fun a b hab e => hab (by omega)) (List.Pairwise.filter _ List.nodup_range)
    · simp only [List.mem_map, List.mem_filter, List.mem_range]
      constructor
      · rintro ⟨y, hy, rfl⟩
        obtain ⟨k, hk, rfl, hh⟩ := h.keys y hy
        exact ⟨k, ⟨hk, hh⟩, rfl⟩
      · rintro ⟨k, ⟨hk, hh⟩, rfl⟩
        exact ⟨_, h.all k hk hh, rfl⟩
  have := hp.length_eq
  simpa using this
theorem MapI.len_le {has : Nat → Bool} {val : Nat → Int} {l : List En} (h : MapI has val l) : l.length ≤ 8 := by
  rw [h.length]
  have := List.length_filter_le has (List.range 8)
  simpa using this

theorem MapI.turn {has : Nat → Bool} {val : Nat → Int} {l : List En} (h : MapI has val l) {k : Nat} (hk : k < 8) (hh : has k = true) (v : Int) : MapI (up has k true) (up val k v) (l.map fun x => if KeyIs ((k : Int) + 1) x then ⟨x.key, ⟨false, v⟩⟩ else x) := by
  refine ⟨fun x hx => ?_, fun j hj hj2 => ?_, ?_⟩
  · obtain ⟨y, hy, rfl⟩ := List.mem_map.1 hx
    obtain ⟨j, hj, rfl, hj2⟩ := h.keys y hy
    by_cases e : j = k
    · subst e
      exact ⟨j, hj, by simp [KeyIs, up], by simp [up]⟩
    · have e2 : ¬ ((j : Int) + 1 = (k : Int) + 1) := by omega
      exact ⟨j, hj, by simp [KeyIs, up, e, e2], by simp [up, e, hj2]⟩
  · by_cases e : j = k
    · subst e
      exact List.mem_map.2 ⟨_, h.all j hj hh, by simp [KeyIs, up]⟩
    · have e2 : ¬ ((j : Int) + 1 = (k : Int) + 1) := by omega
      exact List.mem_map.2 ⟨_, h.all j hj (by simpa [up, e] using hj2), by simp [KeyIs, up, e, e2]⟩
  · rw [List.map_map]
    have : ((fun x : En => x.key) ∘ fun x => if KeyIs ((k : Int) + 1) x then (⟨x.key, ⟨false, v⟩⟩ : En) else x) = fun x => x.key := by
      funext x; simp only [Function.comp]; split <;> rfl
    rw [this]; exact h.nodup
theorem MapI.add {has : Nat → Bool} {val : Nat → Int} {l : List En} (h : MapI has val l) {k : Nat} (hk : k < 8) (hh : has k = false) (v : Int) : MapI (up has k true) (up val k v) (l ++ [⟨(k : Int) + 1, ⟨false, v⟩⟩]) := by
  refine ⟨fun x hx => ?_, fun j hj hj2 => ?_, ?_⟩
  · rcases List.mem_append.1 hx with hx | hx
    · obtain ⟨j, hj, rfl, hj2⟩ := h.keys x hx
      have e : j ≠ k := fun e => by subst e; rw [hh] at hj2; cases hj2
      exact ⟨j, hj, by simp [up, e], by simp [up, e, hj2]⟩
    · simp only [List.mem_singleton] at hx
      subst hx
      exact ⟨k, hk, by simp [up], by simp [up]⟩
  · by_cases e : j = k
    · subst e
      exact List.mem_append_right _ (by simp [up])
    · refine List.mem_append_left _ ?_
      have := h.all j hj (by simpa [up, e] using hj2)
      simpa [up, e] using this
  · rw [List.map_append]
    refine List.nodup_append.2 ⟨h.nodup, by simp, fun a ha b hb e => ?_⟩
    simp only [List.map_cons, List.map_nil, List.mem_singleton] at hb
    obtain ⟨y, hy, rfl⟩ := List.mem_map.1 ha
    obtain ⟨j, hj, rfl, hj2⟩ := h.keys y hy
    have : j = k := by simp only [] at e; omega
    subst this
    rw [hh] at hj2; cases hj2
theorem MapI.del {has : Nat → Bool} {val : Nat → Int} {l : List En} (h : MapI has val l) {k : Nat} (_hk : k < 8) : MapI (up has k false) val (l.filter fun x => !KeyIs ((k : Int) + 1) x) := by
  refine ⟨fun x hx => ?_, fun j hj hj2 => ?_, nodup_filter_key _ h.nodup⟩
  · obtain ⟨hx1, hx2⟩ := List.mem_filter.1 hx
    obtain ⟨j, hj, rfl, hj2⟩ := h.keys x hx1
    have e : j ≠ k := fun e => by subst e; simp [KeyIs] at hx2
    exact ⟨j, hj, rfl, by simp [up, e, hj2]⟩
  · have e : j ≠ k := fun e => by subst e; simp [up] at hj2
    have e2 : ¬ ((j : Int) + 1 = (k : Int) + 1) := by omega
    exact List.mem_filter.2 ⟨h.all j hj (by simpa [up, e] using hj2), by simp [KeyIs, e2]⟩
theorem MapI.same {has : Nat → Bool} {val : Nat → Int} {l : List En} (h : MapI has val l) {k : Nat} (_hk : k < 8) (hh : has k = false) : MapI (up has k false) val l := by
  have e : up has k false = has := by
    funext j
    by_cases e : j = k
    · subst e; simp [up, hh]
    · simp [up, e]
  rw [e]; exact h

theorem look (l : List En) {i j : Nat} (h : j < i) : (M l i).hs.lookup ((j : Int) + 1) = some ((j : Int) + 1) := by
  have := rhs_lookup (i := i + 1) (j := j + 1) (by omega)
  rw [Int.natCast_add, Int.natCast_one] at this
  exact this
theorem look0 (l : List En) (i : Nat) : (M l i).hs.lookup 0 = some 0 := by
  have := rhs_lookup (i := i + 1) (j := 0) (by omega)
  rw [Int.natCast_zero] at this
  exact this

theorem put {has : Nat → Bool} {val : Nat → Int} {l : List En} (h : MapI has val l) {k : Nat} (hk : k < 8) (v : Int) : ∃ l', (M l 8).put 0 ((k : Int) + 1) ⟨false, v⟩ = (0, M l' 8) ∧ MapI (up has k true) (up val k v) l' := by
  have hw := words_le l 8
  have hl := h.len_le
  have hr : (M l 8).room = 900 := rfl
  have hok : (M l 8).okC ⟨false, v⟩ = true := rfl
  have hwc : (M l 8).wordC ⟨false, v⟩ = ⟨false, v⟩ := rfl
  have hf := h.find hk
  unfold IS.put
  rw [look0]; simp only []
  rw [look l hk]; simp only [hok, if_true]
  rw [nd_0]; simp only [tab, if_true]
  rw [hwc]
  cases hh : has k with
  | true =>
    rw [hh] at hf
    rw [hf]
    exact ⟨_, rfl, h.turn hk hh v⟩
  | false =>
    rw [hh] at hf
    rw [hf]
    simp only [Bool.false_eq_true, if_false]
    rw [hr, if_pos (by omega)]
    exact ⟨_, rfl, h.add hk hh v⟩
theorem tab_at (l : List En) {k : Nat} (hk : k < 8) : (M l 8).tab 0 ((k : Int) + 1) = .inr (0, (k : Int) + 1, tab l) := by
  unfold IS.tab
  rw [look0]; simp only []
  rw [look l hk]; simp only []
  rw [nd_0]
  rfl
theorem remove {has : Nat → Bool} {val : Nat → Int} {l : List En} (h : MapI has val l) {k : Nat} (hk : k < 8) : ∃ l', (M l 8).remove 0 ((k : Int) + 1) = (has k, 0, M l' 8) ∧ MapI (up has k false) val l' := by
  have hf := h.find hk
  unfold IS.remove
  rw [tab_at l hk]
  simp only [tab]
  cases hh : has k with
  | true =>
    rw [hh] at hf
    rw [hf]
    exact ⟨_, rfl, h.del hk⟩
  | false =>
    rw [hh] at hf
    rw [hf]
    exact ⟨l, rfl, h.same hk hh⟩
theorem find {has : Nat → Bool} {val : Nat → Int} {l : List En} (h : MapI has val l) {k : Nat} (hk : k < 8) : (M l 8).find 0 ((k : Int) + 1) = (⟨false, if has k then val k else 0⟩, has k, 0, M l 8) := by
  have hf := h.find hk
  unfold IS.find
  rw [tab_at l hk]
  simp only [tab]
  cases hh : has k with
  | true => rw [hh] at hf; rw [hf]; rfl
  | false => rw [hh] at hf; rw [hf]; rfl

theorem live (l : List En) {i j : Nat} (h : j < i + 1) : (M l i).live (j : Int) = true := by
  refine IS.live_iff.2 (.root (List.mem_append_left _ (List.mem_append_right _ ?_)))
  show (j : Int) ∈ (rhs (i + 1)).map (·.2)
  rw [rhs_vals]
  exact List.mem_map.2 ⟨j, List.mem_range.2 h, rfl⟩
theorem major (l : List En) (i : Nat) : (M l i).majored = M l i := by
  have hn : (List.range (M l i).nodes.length).map (fun j => ({ (M l i).nodes[j]?.getD ⟨false, 0, [], [], false⟩ with gone := !(M l i).live (j : Int) } : Nd)) = (M l i).nodes := by
    refine List.ext_getElem? fun j => ?_
    rw [List.getElem?_map]
    by_cases hj : j < (M l i).nodes.length
    · rw [List.getElem?_range hj, List.getElem?_eq_getElem hj]
      have hj' : j < i + 1 := by simpa [M] using hj
      have hg : (M l i).nodes[j].gone = false := by
        have hnd : (M l i).nd (j : Int) = some (M l i).nodes[j] := by
          unfold IS.nd
          rw [if_pos (by omega)]
          simp [List.getElem?_eq_getElem hj]
        rcases nd_cases hnd with ⟨_, e⟩ | ⟨q, _, _, e⟩
        · rw [e]; rfl
        · rw [e]; rfl
      simp only [Option.map_some, List.getElem?_eq_getElem hj, Option.getD_some, live l hj', Bool.not_true]
      rw [← hg]
    · rw [List.getElem?_eq_none (by simpa using hj), List.getElem?_eq_none (by omega)]
      rfl
  unfold IS.majored
  rw [hn]
  rfl
theorem counted {has : Nat → Bool} {val : Nat → Int} {l : List En} (h : MapI has val l) {u : Nat} (h1 : (l.filter fun x => (M l 8).live x.key).length ≤ u) (h2 : u ≤ (l.filter fun x => (M l 8).here x.key).length) : u = ((List.range 8).filter has).length := by
  rw [← h.length]
  have e : (l.filter fun x => (M l 8).live x.key) = l := List.filter_eq_self.2 fun x hx => by
    obtain ⟨k, hk, rfl, _⟩ := h.keys x hx
    have := live l (i := 8) (j := k + 1) (by omega)
    rw [Int.natCast_add, Int.natCast_one] at this
    exact this
  rw [e] at h1
  have := List.length_filter_le (fun x => (M l 8).here x.key) l
  omega

theorem ample {l : List En} {i m : Nat} (hm : m < 9000) (hi : i ≤ 8) (hl : l.length ≤ 8) : Ample (M l i) m := by
  refine ⟨hm, by simp [M]; omega, by simp [M, rhs]; omega, fun n d hd => ?_⟩
  rcases nd_cases hd with ⟨_, rfl⟩ | ⟨j, _, _, rfl⟩
  · show l.length < 200; omega
  · simp [key]
end Weak

end Go.Proofs.Ytelghmmcbgfjnaa

/-! The law of weak tables: the methods as its loops call them. -/
namespace Go.Proofs.Ytelghmmcbgfjnaa
open Go.RowKit Rings

namespace Weak
theorem c_table {w0 w : World} {hb : Nat} (h : HB w0 w hb [] (IS.start 900) 0) :
    Calls Try.prog 12 #[.pointer (some ⟨hb, 0, none⟩)] w fun e w' => e = .returned (.tuple #[.int .i64 0, .int .i64 0]) ∧ Hid (KI w0 w' hb (.slice none 0 0) (M [] 0) 0 1 []) := by
  refine (h.hp.table ⟨by omega, by simp [IS.start], by simp [IS.start], fun n d hd => ?_⟩).mono ?_
  · unfold IS.nd IS.start at hd
    split at hd
    · simp at hd
    · cases hd
  rw [Weak.table]
  rintro e w' ⟨rfl, hG⟩
  exact ⟨rfl, Lib.hid (Rings.KI.start (h.got hG))⟩

theorem round1 {w0 wr : World} {hb : Nat} {v : Value} {i m : Nat} {L : List Nat} (h : KI w0 wr hb v (M [] i) i m L) (hi : i < 8) (hm : m < 8000) :
    Calls Try.prog 10 #[.pointer (some ⟨hb, 0, none⟩), .int .i64 i, .slice none 0 0] wr fun e w3 => e = .returned (.tuple #[.int .i64 ((i : Int) + 1), .int .i64 0]) ∧
        ∃ a cap w5, (Builtin.append_ #[34, 34] 34 #[v, .slice (some ⟨w3.heap.size, 0, none⟩) 1 1]).run Try.prog (w3.alloc (.cells #[.int .i64 ((i : Int) + 1)] 3)) = .ok (.slice a (i + 1) cap) w5 ∧
          Hid (∃ L', KI w0 w5 hb (.slice a (i + 1) cap) (M [] (i + 1)) (i + 1) (m + 1) L') := by
  refine (h.hp.hp.make (ample (by omega) (by omega) (by simp)) i (cs := []) ⟨rfl, fun j c hj => by simp at hj⟩ (by simp)).mono ?_
  rw [Weak.make i hi]
  rintro e w3 ⟨rfl, hG⟩
  have h3 := h.got hG
  refine ⟨rfl, ?_⟩
  have hrow := h3.row
  rw [show Row w3 3 1 v i (intCells (names i)) = Row w3 3 1 v (names i).length (intCells (names i)) by rw [names_len]] at hrow
  obtain ⟨a, cap, w5, happ, hr5, hC5, hloc⟩ := appI hrow ((i : Int) + 1) (by rw [names_len]; omega)
  rw [names_len] at happ hr5 hloc
  rw [← names_succ, names_len] at hr5
  refine ⟨a, cap, w5, happ, Lib.hid ?_⟩
  by_cases hnew : ∃ b, rowBlk (.slice a (i + 1) cap) = some b ∧ w3.heap.size ≤ b
  · obtain ⟨b, hb1, hb2⟩ := hnew
    have h5 := h3.hp.grow hC5 h3.own hb2 (hr5.lt hb1)
    refine ⟨_, h5, hr5, fun c hc => ?_⟩
    rw [hb1] at hc
    simp only [Option.some.injEq] at hc
    subst hc
    have := h3.hp.chg.size
    exact ⟨by simp, by omega⟩
  · refine ⟨_, h3.hp.frame hC5 h3.own, hr5, fun c hc => ?_⟩
    rcases hloc c hc with h6 | h6
    · exact h3.own c h6
    · exact absurd ⟨c, hc, h6⟩ hnew

/-- A row of eight numbers in a block. -/
structure IntsAt (wr : World) (vb n : Nat) (val : Nat → Int) : Prop where
  blk : ∃ cs, wr.heap[vb]? = some (.cells cs 3 (0, 0)) ∧ cs.size = n ∧ ∀ j, j < n → cs[j]? = some (.int .i64 (val j))
theorem IntsAt.cell {wr : World} {vb n : Nat} {val : Nat → Int} (h : IntsAt wr vb n val) {j : Nat} (hj : j < n) : wr.cell? ⟨vb, j, none⟩ = some (.int .i64 (val j)) ∧ wr.frozen? ⟨vb, j, none⟩ = false := by
  obtain ⟨cs, h1, h2, h3⟩ := h.blk
  exact ⟨by rw [cellAt h1]; exact h3 j hj, freeAt h1 j⟩
theorem IntsAt.set {wr : World} {vb n : Nat} {val : Nat → Int} (h : IntsAt wr vb n val) {q : Nat} (hq : q < n) (x : Int) : IntsAt (wr.setCell ⟨vb, q, none⟩ (.int .i64 x)) vb n (up val q x) := by
  obtain ⟨cs, h1, h2, h3⟩ := h.blk
  refine ⟨⟨_, heap_setCell h1 q (.int .i64 x), by simp [h2], fun j hj => ?_⟩⟩
  by_cases e : j = q
  · subst e
    rw [Array.getElem?_setIfInBounds_self_of_lt (by omega)]
    simp [up]
  · rw [Array.getElem?_setIfInBounds_ne (by omega)]
    simp only [up, e, if_false]
    exact h3 j hj
theorem IntsAt.same {wr w' : World} {vb n : Nat} {val : Nat → Int} (h : IntsAt wr vb n val) (hw : w'.heap[vb]? = wr.heap[vb]?) : IntsAt w' vb n val := ⟨by rw [hw]; exact h.blk⟩
theorem seen_set {wr : World} {sb n : Nat} {seen : Nat → Bool} (h : SeenAt wr sb n seen) {q : Nat} (hq : q < n) (x : Bool) : SeenAt (wr.setCell ⟨sb, q, none⟩ (.bool x)) sb n (up seen q x) := by
  obtain ⟨cs, h1, h2, h3⟩ := h.blk
  refine ⟨⟨_, heap_setCell h1 q (.bool x), by simp [h2], fun j hj => ?_⟩⟩
  by_cases e : j = q
  · subst e
    rw [Array.getElem?_setIfInBounds_self_of_lt (by omega)]
    simp [up]
  · rw [Array.getElem?_setIfInBounds_ne (by omega)]
    simp only [up, e, if_false]
    exact h3 j hj

theorem make_ints (w : World) (n : Nat) (hn : n ≤ 20) : ∃ X, (Instr.makeSlice 34 (.int .i64 n) (.int .i64 n)).run Try.prog w = .ok (.slice (some ⟨w.heap.size, 0, none⟩) n n) (w.alloc X) ∧ IntsAt (w.alloc X) w.heap.size n (fun _ => 0) := by
  obtain ⟨i0, hi, hz0, hz1, hz2⟩ := info_parts iInt
  have h := run_make (P := Try.prog) w 34 3 i0 _ uInts hi hz0 .i64 .i64 n n (by omega) (Int.le_refl _) (by rw [hz2]; omega) (by omega)
  rw [hz1] at h
  refine ⟨_, h, ⟨_, heap_alloc_new w _, by simp [size_madeCells], fun j hj => ?_⟩⟩
  rw [← Array.getElem?_toList, show (Value.int .i64 0).cells = #[.int .i64 0] from rfl, toList_madeCells_one, List.getElem?_replicate, if_pos (by simpa using hj)]

/-- All that a round knows. -/
structure WS (w0 wr : World) (hb kb c sb vb : Nat) (has : Nat → Bool) (val : Nat → Int) (m : Nat) : Prop where
  ex : ∃ l L, MapI has val l ∧ KI w0 wr hb (.slice (some ⟨kb, 0, none⟩) 8 c) (M l 8) 8 m L ∧ sb ∈ L ∧ vb ∈ L
  seen : SeenAt wr sb 8 has
  ints : IntsAt wr vb 8 val
  low : w0.heap.size ≤ sb ∧ w0.heap.size ≤ vb
  apart : kb ≠ sb ∧ kb ≠ vb ∧ sb ≠ vb

theorem WS.got {w0 wr w' : World} {hb kb c sb vb : Nat} {has : Nat → Bool} {val : Nat → Int} {m m' : Nat} {l l' : List En} {L : List Nat} (h : WS w0 wr hb kb c sb vb has val m) {has' : Nat → Bool} {val' : Nat → Int}
    (hK : KI w0 wr hb (.slice (some ⟨kb, 0, none⟩) 8 c) (M l 8) 8 m L) (hs : sb ∈ L) (hv : vb ∈ L) (_hM : MapI has' val' l') (hG : Got wr hb (List.range w0.heap.size ++ L) (M l' 8) m' w') :
    KI w0 w' hb (.slice (some ⟨kb, 0, none⟩) 8 c) (M l' 8) 8 m' L ∧ SeenAt w' sb 8 has ∧ IntsAt w' vb 8 val := by
  obtain ⟨cs, h1, _⟩ := h.seen.blk
  obtain ⟨ds, h2, _⟩ := h.ints.blk
  exact ⟨hK.got hG, h.seen.same ((hG.chg.at h1 fun hn => hn (List.mem_append_right _ hs)).trans h1.symm), h.ints.same ((hG.chg.at h2 fun hn => hn (List.mem_append_right _ hv)).trans h2.symm)⟩

theorem WS.still {w0 wr w' : World} {hb kb c sb vb : Nat} {has : Nat → Bool} {val : Nat → Int} {m : Nat} (h : WS w0 wr hb kb c sb vb has val m) (hC : Chg (fun _ => False) wr w') : WS w0 w' hb kb c sb vb has val m := by
  obtain ⟨l, L, hM, hK, hs, hv⟩ := h.ex
  obtain ⟨cs, h1, _⟩ := h.seen.blk
  obtain ⟨ds, h2, _⟩ := h.ints.blk
  exact ⟨⟨l, L, hM, hK.still hC, hs, hv⟩, h.seen.same ((hC.at h1 fun h => h).trans h1.symm), h.ints.same ((hC.at h2 fun h => h).trans h2.symm), h.low, h.apart⟩
theorem WS.more {w0 wr : World} {hb kb c sb vb : Nat} {has : Nat → Bool} {val : Nat → Int} {m m' : Nat} (h : WS w0 wr hb kb c sb vb has val m) (hm : m ≤ m') : WS w0 wr hb kb c sb vb has val m' := by
  obtain ⟨l, L, hM, hK, hs, hv⟩ := h.ex
  exact ⟨⟨l, L, hM, ⟨⟨hK.hp.hp.more hm, hK.hp.chg⟩, hK.row, hK.own⟩, hs, hv⟩, h.seen, h.ints, h.low, h.apart⟩

theorem WS.chg {w0 wr : World} {hb kb c sb vb : Nat} {has : Nat → Bool} {val : Nat → Int} {m : Nat} (h : WS w0 wr hb kb c sb vb has val m) : Chg (fun _ => False) w0 wr := by
  obtain ⟨l, L, hM, hK, hs, hv⟩ := h.ex
  exact hK.hp.chg

/-- The handle of a key. -/
theorem WS.name {w0 wr : World} {hb kb c sb vb : Nat} {has : Nat → Bool} {val : Nat → Int} {m : Nat} (h : WS w0 wr hb kb c sb vb has val m) {k : Nat} (hk : k < 8) : wr.cell? ⟨kb, k, none⟩ = some (.int .i64 ((k : Int) + 1)) := by
  obtain ⟨l, L, hM, hK, hs, hv⟩ := h.ex
  obtain ⟨g, hg, hc⟩ := hK.cell (by omega)
  simp only [Option.some.injEq, Addr.mk.injEq] at hg
  obtain ⟨rfl, -, -⟩ := hg
  exact hc k hk

/-- has: what is in the heap's table; the marks still the old ones: so the maps part for a moment. -/
structure WP (w0 wr : World) (hb kb c sb vb : Nat) (has has' : Nat → Bool) (val val' : Nat → Int) (m : Nat) : Prop where
  ex : ∃ l L, MapI has' val' l ∧ KI w0 wr hb (.slice (some ⟨kb, 0, none⟩) 8 c) (M l 8) 8 m L ∧ sb ∈ L ∧ vb ∈ L
  seen : SeenAt wr sb 8 has
  ints : IntsAt wr vb 8 val
  low : w0.heap.size ≤ sb ∧ w0.heap.size ≤ vb
  apart : kb ≠ sb ∧ kb ≠ vb ∧ sb ≠ vb
theorem WP.ws {w0 wr : World} {hb kb c sb vb : Nat} {has : Nat → Bool} {val : Nat → Int} {m : Nat} (h : WP w0 wr hb kb c sb vb has has val val m) : WS w0 wr hb kb c sb vb has val m := ⟨h.ex, h.seen, h.ints, h.low, h.apart⟩

theorem WP.setSeen {w0 wr : World} {hb kb c sb vb : Nat} {has has' : Nat → Bool} {val val' : Nat → Int} {m : Nat} (h : WP w0 wr hb kb c sb vb has has' val val' m) {k : Nat} (hk : k < 8) (x : Bool) : WP w0 (wr.setCell ⟨sb, k, none⟩ (.bool x)) hb kb c sb vb (up has k x) has' val val' m := by
  obtain ⟨l, L, hM, hK, hs, hv⟩ := h.ex
  refine ⟨⟨l, L, hM, ?_, hs, hv⟩, seen_set h.seen hk x, h.ints.same ((chg_set1 wr sb k (.bool x)).block vb ?_ fun e => h.apart.2.2 e.symm), h.low, h.apart⟩
  · refine ⟨hK.hp.frame (chg_set1 wr sb k (.bool x)) fun b hb => by rw [hb]; exact ⟨hs, h.low.1⟩, hK.row.same fun b hb => (chg_set1 wr sb k (.bool x)).block b (hK.row.lt hb) fun e => ?_, hK.own⟩
    cases c with
    | zero => simp [rowBlk] at hb
    | succ c => simp [rowBlk] at hb; exact h.apart.1 (by omega)
  · obtain ⟨ds, h2, _⟩ := h.ints.blk
    exact lt_of_block h2
theorem WP.setInts {w0 wr : World} {hb kb c sb vb : Nat} {has has' : Nat → Bool} {val val' : Nat → Int} {m : Nat} (h : WP w0 wr hb kb c sb vb has has' val val' m) {k : Nat} (hk : k < 8) (x : Int) : WP w0 (wr.setCell ⟨vb, k, none⟩ (.int .i64 x)) hb kb c sb vb has has' (up val k x) val' m := by
  obtain ⟨l, L, hM, hK, hs, hv⟩ := h.ex
  refine ⟨⟨l, L, hM, ?_, hs, hv⟩, h.seen.same ((chg_set1 wr vb k (.int .i64 x)).block sb ?_ fun e => h.apart.2.2 e), h.ints.set hk x, h.low, h.apart⟩
  · refine ⟨hK.hp.frame (chg_set1 wr vb k (.int .i64 x)) fun b hb => by rw [hb]; exact ⟨hv, h.low.2⟩, hK.row.same fun b hb => (chg_set1 wr vb k (.int .i64 x)).block b (hK.row.lt hb) fun e => ?_, hK.own⟩
    cases c with
    | zero => simp [rowBlk] at hb
    | succ c => simp [rowBlk] at hb; exact h.apart.2.1 (by omega)
  · obtain ⟨ds, h2, _⟩ := h.seen.blk
    exact lt_of_block h2

theorem WS.put {w0 wr : World} {hb kb c sb vb : Nat} {has : Nat → Bool} {val : Nat → Int} {m : Nat} (h : WS w0 wr hb kb c sb vb has val m) (hm : m < 8000) {k : Nat} (hk : k < 8) (x : Int) :
    Calls Try.prog 14 #[.pointer (some ⟨hb, 0, none⟩), .int .i64 0, .int .i64 ((k : Int) + 1), .agg #[.bool false, .int .i64 x]] wr fun e w' => e = .returned (.int .i64 0) ∧ Hid (WP w0 w' hb kb c sb vb has (up has k true) val (up val k x) (m + 1)) := by
  obtain ⟨l, L, hM, hK, hs, hv⟩ := h.ex
  obtain ⟨l', hp, hM'⟩ := Weak.put hM hk x
  refine (hK.hp.hp.put (ample (by omega) (by omega) hM.len_le) 0 ((k : Int) + 1) ⟨false, x⟩).mono ?_
  rw [hp]
  rintro e w' ⟨rfl, hG⟩
  obtain ⟨h1, h2, h3⟩ := h.got hK hs hv hM' hG
  exact ⟨rfl, Lib.hid ⟨⟨l', L, hM', h1, hs, hv⟩, h2, h3, h.low, h.apart⟩⟩
theorem WS.remove {w0 wr : World} {hb kb c sb vb : Nat} {has : Nat → Bool} {val : Nat → Int} {m : Nat} (h : WS w0 wr hb kb c sb vb has val m) {k : Nat} (hk : k < 8) :
    Calls Try.prog 19 #[.pointer (some ⟨hb, 0, none⟩), .int .i64 0, .int .i64 ((k : Int) + 1)] wr fun e w' => e = .returned (.tuple #[.bool (has k), .int .i64 0]) ∧ Hid (WP w0 w' hb kb c sb vb has (up has k false) val val (m + 1)) := by
  obtain ⟨l, L, hM, hK, hs, hv⟩ := h.ex
  obtain ⟨l', hp, hM'⟩ := Weak.remove hM hk
  refine (hK.hp.hp.remove 0 ((k : Int) + 1)).mono ?_
  rw [hp]
  rintro e w' ⟨rfl, hG⟩
  obtain ⟨h1, h2, h3⟩ := h.got hK hs hv hM' hG
  exact ⟨rfl, Lib.hid ⟨⟨l', L, hM', h1, hs, hv⟩, h2, h3, h.low, h.apart⟩⟩
theorem WS.find {w0 wr : World} {hb kb c sb vb : Nat} {has : Nat → Bool} {val : Nat → Int} {m : Nat} (h : WS w0 wr hb kb c sb vb has val m) (hm : m < 8000) {k : Nat} (hk : k < 8) :
    Calls Try.prog 20 #[.pointer (some ⟨hb, 0, none⟩), .int .i64 0, .int .i64 ((k : Int) + 1)] wr fun e w' => e = .returned (.tuple #[.agg #[.bool false, .int .i64 (if has k then val k else 0)], .bool (has k), .int .i64 0]) ∧ Hid (WS w0 w' hb kb c sb vb has val (m + 1)) := by
  obtain ⟨l, L, hM, hK, hs, hv⟩ := h.ex
  refine (hK.hp.hp.find (ample (by omega) (by omega) hM.len_le) 0 ((k : Int) + 1)).mono ?_
  rw [Weak.find hM hk]
  rintro e w' ⟨rfl, hG⟩
  obtain ⟨h1, h2, h3⟩ := h.got hK hs hv hM hG
  exact ⟨rfl, Lib.hid ⟨⟨l, L, hM, h1, hs, hv⟩, h2, h3, h.low, h.apart⟩⟩
theorem WS.minor {w0 wr : World} {hb kb c sb vb : Nat} {has : Nat → Bool} {val : Nat → Int} {m : Nat} (h : WS w0 wr hb kb c sb vb has val m) (hm : m < 8000) :
    Calls Try.prog 16 #[.pointer (some ⟨hb, 0, none⟩)] wr fun e w' => e = .returned (.tuple #[]) ∧ Hid (WS w0 w' hb kb c sb vb has val (m + 1)) := by
  obtain ⟨l, L, hM, hK, hs, hv⟩ := h.ex
  refine (hK.hp.hp.minor (by omega)).mono ?_
  rintro e w' ⟨rfl, hG⟩
  obtain ⟨h1, h2, h3⟩ := h.got hK hs hv hM hG
  exact ⟨rfl, Lib.hid ⟨⟨l, L, hM, h1, hs, hv⟩, h2, h3, h.low, h.apart⟩⟩
theorem WS.major {w0 wr : World} {hb kb c sb vb : Nat} {has : Nat → Bool} {val : Nat → Int} {m : Nat} (h : WS w0 wr hb kb c sb vb has val m) :
    Calls Try.prog 17 #[.pointer (some ⟨hb, 0, none⟩)] wr fun e w' => e = .returned (.tuple #[]) ∧ Hid (WS w0 w' hb kb c sb vb has val (m + 1)) := by
  obtain ⟨l, L, hM, hK, hs, hv⟩ := h.ex
  have hj := hK.hp.hp.major
  rw [Weak.major] at hj
  refine hj.mono ?_
  rintro e w' ⟨rfl, hG⟩
  obtain ⟨h1, h2, h3⟩ := h.got hK hs hv hM hG
  exact ⟨rfl, Lib.hid ⟨⟨l, L, hM, h1, hs, hv⟩, h2, h3, h.low, h.apart⟩⟩
theorem WS.count {w0 wr : World} {hb kb c sb vb : Nat} {has : Nat → Bool} {val : Nat → Int} {m : Nat} (h : WS w0 wr hb kb c sb vb has val m) :
    Calls Try.prog 18 #[.pointer (some ⟨hb, 0, none⟩), .int .i64 0] wr fun e w' => e = .returned (.tuple #[.int .i64 ((List.range 8).filter has).length, .int .i64 0]) ∧ Hid (WS w0 w' hb kb c sb vb has val m) := by
  obtain ⟨l, L, hM, hK, hs, hv⟩ := h.ex
  refine (hK.hp.hp.count (Weak.look0 l 8) (Weak.nd_0 l 8) rfl).mono ?_
  rintro e w' ⟨u, rfl, ⟨hu1, hu2⟩, hG⟩
  have := counted hM hu1 hu2
  subst this
  obtain ⟨h1, h2, h3⟩ := h.got hK hs hv hM hG
  exact ⟨rfl, Lib.hid ⟨⟨l, L, hM, h1, hs, hv⟩, h2, h3, h.low, h.apart⟩⟩

theorem WS.start {w0 wr : World} {hb kb c m : Nat} {L : List Nat} (h : KI w0 wr hb (.slice (some ⟨kb, 0, none⟩) 8 c) (M [] 8) 8 m L) {X Y : Obj} (hX : SeenAt (wr.alloc X) wr.heap.size 8 (fun _ => false)) (hY : IntsAt ((wr.alloc X).alloc Y) (wr.alloc X).heap.size 8 (fun _ => 0)) :
    WS w0 ((wr.alloc X).alloc Y) hb kb c wr.heap.size (wr.alloc X).heap.size (fun _ => false) (fun _ => 0) m := by
  have hs : (wr.alloc X).heap.size = wr.heap.size + 1 := by simp
  have hkb : kb < wr.heap.size := by
    obtain ⟨g, hg, hc⟩ := h.cell (by omega)
    simp only [Option.some.injEq, Addr.mk.injEq] at hg
    obtain ⟨rfl, -, -⟩ := hg
    exact World.block_lt_of_cell? wr ⟨kb, 0, none⟩ (hc 0 (by omega))
  have hlow := h.hp.chg.size
  refine ⟨⟨[], _, MapI.nil, (h.alloc X).alloc Y, by simp, by simp⟩, hX.same ?_, hY, ⟨hlow, by omega⟩, ⟨by omega, by omega, by omega⟩⟩
  rw [heap_alloc, if_neg (by omega)]
end Weak

end Go.Proofs.Ytelghmmcbgfjnaa

/-! The law of weak tables walked. -/
namespace Go.Proofs.Ytelghmmcbgfjnaa
open Go.RowKit Rings Weak

/-- A slice of integers that came in: its first n cells. -/
def ArgAt (w : World) (a : Option Addr) (n : Nat) (z : Nat → Int) : Prop := ∀ i, i < n → ∃ x, a = some x ∧ (x.add i).block < w.heap.size ∧ w.cell? (x.add i) = some (.int .i64 (z i))

theorem ArgAt.get {w wr : World} {a : Option Addr} {n : Nat} {z : Nat → Int} (h : ArgAt w a n z) (hC : Chg (fun _ => False) w wr) {i : Nat} (hi : i < n) : ∃ x, a = some x ∧ wr.cell? (x.add i) = some (.int .i64 (z i)) := by
  obtain ⟨x, h1, h2, h3⟩ := h i hi
  refine ⟨x, h1, ?_⟩
  rw [World.cell?_of_block (w := w) (hC.block (x.add i).block h2 fun h => h)]
  exact h3
theorem ArgAt.chg {w w' : World} {a : Option Addr} {n : Nat} {z : Nat → Int} (h : ArgAt w a n z) (hC : Chg (fun _ => False) w w') : ArgAt w' a n z := fun i hi => by
  obtain ⟨x, h1, h2, h3⟩ := h i hi
  refine ⟨x, h1, Nat.lt_of_lt_of_le h2 hC.size, ?_⟩
  rw [World.cell?_of_block (w := w) (hC.block (x.add i).block h2 fun h => h)]
  exact h3

structure VS (w0 wr : World) (hb kb c sb vb bb : Nat) (has : Nat → Bool) (val : Nat → Int) (m : Nat) (x : Int) : Prop where
  ws : WS w0 wr hb kb c sb vb has val m
  blk : wr.heap[bb]? = some (.cells #[.bool false, .int .i64 x] 36 (0, 0))
theorem VS.still {w0 wr w' : World} {hb kb c sb vb bb : Nat} {has : Nat → Bool} {val : Nat → Int} {m : Nat} {x : Int} (h : VS w0 wr hb kb c sb vb bb has val m x) (hC : Chg (fun _ => False) wr w') : VS w0 w' hb kb c sb vb bb has val m x :=
  ⟨h.ws.still hC, hC.at h.blk fun h => h⟩
theorem VS.cells {w0 wr : World} {hb kb c sb vb bb : Nat} {has : Nat → Bool} {val : Nat → Int} {m : Nat} {x : Int} (h : VS w0 wr hb kb c sb vb bb has val m x) {y : Nat} (hy : y < 8) (hh : has y = true) :
    wr.cell? ⟨bb, 0, none⟩ = some (.bool false) ∧ wr.cell? ⟨bb, 1, none⟩ = some (.int .i64 x) ∧ wr.cell? ⟨sb, y, none⟩ = some (.bool true) ∧ wr.cell? ⟨vb, y, none⟩ = some (.int .i64 (val y)) := by
  have h1 := (h.ws.seen.cell hy).1
  rw [hh] at h1
  exact ⟨cellAt h.blk 0, cellAt h.blk 1, h1, (h.ws.ints.cell hy).1⟩
theorem VS.num {w0 wr : World} {hb kb c sb vb bb : Nat} {has : Nat → Bool} {val : Nat → Int} {m : Nat} {x : Int} (h : VS w0 wr hb kb c sb vb bb has val m x) {y : Nat} (hy : y < 8) (hh : has y = true) (n : Int) :
    Calls Try.prog 13 #[.int .i64 n] wr fun e w' => e = .returned (.agg #[.bool false, .int .i64 n]) ∧ (w'.cell? ⟨bb, 0, none⟩ = some (.bool false) ∧ w'.cell? ⟨bb, 1, none⟩ = some (.int .i64 x) ∧ w'.cell? ⟨sb, y, none⟩ = some (.bool true) ∧ w'.cell? ⟨vb, y, none⟩ = some (.int .i64 (val y))) ∧ Hid (VS w0 w' hb kb c sb vb bb has val m x) := by
  refine (num_any wr n).mono ?_
  rintro e w' ⟨rfl, hC⟩
  exact ⟨rfl, (h.still hC).cells hy hh, Lib.hid (h.still hC)⟩

theorem Weak.WS.wp {w0 wr : World} {hb kb c sb vb : Nat} {has : Nat → Bool} {val : Nat → Int} {m : Nat} (h : WS w0 wr hb kb c sb vb has val m) : WP w0 wr hb kb c sb vb has has val val m := ⟨h.ex, h.seen, h.ints, h.low, h.apart⟩
theorem Weak.WP.chg {w0 wr : World} {hb kb c sb vb : Nat} {has has' : Nat → Bool} {val val' : Nat → Int} {m : Nat} (h : WP w0 wr hb kb c sb vb has has' val val' m) : Chg (fun _ => False) w0 wr := by
  obtain ⟨l, L, hM, hK, hs, hv⟩ := h.ex
  exact hK.hp.chg
theorem Weak.WP.name {w0 wr : World} {hb kb c sb vb : Nat} {has has' : Nat → Bool} {val val' : Nat → Int} {m : Nat} (h : WP w0 wr hb kb c sb vb has has' val val' m) {k : Nat} (hk : k < 8) : wr.cell? ⟨kb, k, none⟩ = some (.int .i64 ((k : Int) + 1)) := by
  obtain ⟨l, L, hM, hK, hs, hv⟩ := h.ex
  obtain ⟨g, hg, hc⟩ := hK.cell (by omega)
  simp only [Option.some.injEq, Addr.mk.injEq] at hg
  obtain ⟨rfl, -, -⟩ := hg
  exact hc k hk
theorem Weak.WP.still {w0 wr w' : World} {hb kb c sb vb : Nat} {has has' : Nat → Bool} {val val' : Nat → Int} {m : Nat} (h : WP w0 wr hb kb c sb vb has has' val val' m) (hC : Chg (fun _ => False) wr w') : WP w0 w' hb kb c sb vb has has' val val' m := by
  obtain ⟨l, L, hM, hK, hs, hv⟩ := h.ex
  obtain ⟨cs, h1, _⟩ := h.seen.blk
  obtain ⟨ds, h2, _⟩ := h.ints.blk
  exact ⟨⟨l, L, hM, hK.still hC, hs, hv⟩, h.seen.same ((hC.at h1 fun h => h).trans h1.symm), h.ints.same ((hC.at h2 fun h => h).trans h2.symm), h.low, h.apart⟩
theorem Weak.WP.num {w0 wr : World} {hb kb c sb vb : Nat} {has has' : Nat → Bool} {val val' : Nat → Int} {m : Nat} (h : WP w0 wr hb kb c sb vb has has' val val' m) {k : Nat} (hk : k < 8) {x : Addr} {v : Value} (hA : ∀ wx, Chg (fun _ => False) w0 wx → wx.cell? x = some v) (n : Int) :
    Calls Try.prog 13 #[.int .i64 n] wr fun e w' => e = .returned (.agg #[.bool false, .int .i64 n]) ∧ (w'.cell? ⟨kb, k, none⟩ = some (.int .i64 ((k : Int) + 1)) ∧ w'.cell? x = some v) ∧ Hid (WP w0 w' hb kb c sb vb has has' val val' m) := by
  refine (num_any wr n).mono ?_
  rintro e w' ⟨rfl, hC⟩
  exact ⟨rfl, ⟨(h.still hC).name hk, hA _ (h.still hC).chg⟩, Lib.hid (h.still hC)⟩
theorem Weak.WP.puts {w0 wr : World} {hb kb c sb vb : Nat} {has : Nat → Bool} {val : Nat → Int} {m : Nat} (h : WP w0 wr hb kb c sb vb has has val val m) (hm : m < 8000) {k : Nat} (hk : k < 8) {x : Addr} {v : Value} (hA : ∀ wx, Chg (fun _ => False) w0 wx → wx.cell? x = some v) (n : Int) :
    Calls Try.prog 14 #[.pointer (some ⟨hb, 0, none⟩), .int .i64 0, .int .i64 ((k : Int) + 1), .agg #[.bool false, .int .i64 n]] wr fun e w' => e = .returned (.int .i64 0) ∧ (w'.cell? ⟨kb, k, none⟩ = some (.int .i64 ((k : Int) + 1)) ∧ w'.cell? x = some v) ∧ Hid (WP w0 w' hb kb c sb vb has (up has k true) val (up val k n) (m + 1)) := by
  refine (h.ws.put hm hk n).mono ?_
  rintro e w' ⟨rfl, hP⟩
  exact ⟨rfl, ⟨hP.out.name hk, hA _ hP.out.chg⟩, hP⟩

set_option maxRecDepth 100000 in
set_option maxHeartbeats 4000000 in
theorem heapMap_any (w : World) (a0 a1 a2 : Option Addr) (n0 c0 n1 c1 n2 c2 : Nat) (z0 z1 z2 : Nat → Int) (h0 : ArgAt w a0 n0 z0) (h1 : ArgAt w a1 n1 z1) (h2 : ArgAt w a2 n2 z2) :
    Calls Try.prog 5 #[.slice a0 n0 c0, .slice a1 n1 c1, .slice a2 n2 c2] w fun e w' => e = .returned (.bool true) ∧ Chg (fun _ => False) w w' := by
  refine ret_k fun K hK => ?_
  have HK := Lib.hid hK
  clear hK
  have H0 := Lib.hid h0
  have H1 := Lib.hid h1
  have H2 := Lib.hid h2
  clear h0 h1 h2
  have HNew := Lib.hid fun w => HB.new w 30 900 (by omega)
  have HSane := Lib.hid (sane_any w)
  go_enter Try.func5, Try.ntmps5
  go_wp2_with fail
  refine HSane.out.mono ?_; rintro e w1 ⟨rfl, hC1⟩
  have HC1 := Lib.hid hC1
  have HA0 := Lib.hid (H0.out.chg hC1)
  have HA1 := Lib.hid (H1.out.chg hC1)
  have HA2 := Lib.hid (H2.out.chg hC1)
  clear HSane hC1 H0 H1 H2
  go_wp2_with fail
  refine (HNew.out _).mono ?_; rintro e w3 ⟨hb, rfl, hG3⟩
  have HT := Lib.hid (Weak.c_table hG3.out)
  clear HNew hG3
  go_wp2_with fail
  refine HT.out.mono ?_; rintro e w4 ⟨rfl, hK4⟩
  clear HT
  go_wp2
  go_loopw [11, 12] (fun v i wr => ∃ (j : Nat), j ≤ 8 ∧ i = .int .i64 j ∧ Hid (∃ m L, m ≤ j + 1 ∧ KI w1 wr hb v (M [] j) j m L)) (fun _ i _ => 8 - (intOf i).toNat)
  case atStart => exact ⟨0, by omega, rfl, Lib.hid ⟨1, [], by omega, hK4.out⟩⟩
  case round =>
    obtain ⟨j, hj, rfl, HI⟩ := hrel
    clear hK4
    by_cases hlt : j < 8
    · obtain ⟨m, L, hm, hI⟩ := HI.out
      have HR := Lib.hid (Weak.round1 hI hlt (by omega))
      have hl8 : (j : Int) < 8 := by omega
      clear hI HI
      go_wp2_with fail
      refine HR.out.mono ?_; rintro e w6 ⟨rfl, a, cap, w7, happ, HK7⟩
      clear HR
      have HK8 : Hid (∃ m' L, m' ≤ j + 1 + 1 ∧ KI w1 w7 hb (.slice a (j + 1) cap) (M [] (j + 1)) (j + 1) m' L) := by
        obtain ⟨L', h⟩ := HK7.out
        exact ⟨m + 1, L', by omega, h⟩
      clear HK7 hm
      go_wp2_with (first | (at_builtin; go_must (refine wpList_val rfl (exec_append rfl (by exact happ)) ?_)))
      go_roundw
      case rel => exact ⟨j + 1, by omega, by go_num, HK8⟩
      case measure => simp [intOf]; omega
    · obtain rfl : j = 8 := by omega
      obtain ⟨m, L, hm, hI⟩ := HI.out
      obtain ⟨a, c, rfl, _, _, _⟩ := hI.row.slice
      obtain ⟨kb, rfl, _⟩ := hI.cell (by omega)
      obtain ⟨X, hmkX, hX⟩ := make_bools wr 8 (by omega)
      obtain ⟨Y, hmkY, hY⟩ := make_ints (wr.alloc X) 8 (by omega)
      have hvb : (wr.alloc X).heap.size = wr.heap.size + 1 := by simp
      have hS0 := WS.start hI hX hY
      rw [hvb] at hS0
      have HS := Lib.hid hS0
      clear hS0 hvb
      have HB : Hid (m ≤ 100) := by show m ≤ 100; omega
      have hg8 : ¬ (((8 : Nat) : Int) < 8) := by omega
      clear hI HI hX hY hm
      go_wp2_with (at_make; go_must (first | (refine wpList_val rfl (exec_makeSlice rfl (by exact hmkX)) ?_) | (refine wpList_val rfl (exec_makeSlice rfl (by exact hmkY)) ?_)))
      clear hmkX hmkY hg8
      generalize (wr.alloc X).alloc Y = W at *
      generalize wr.heap.size = sb at *
      go_loopw [17] (fun i wr => ∃ j : Nat, j ≤ 60 ∧ i = .int .i64 j ∧ Hid (∃ has val m, m ≤ 100 + 20 * j ∧ WS w1 wr hb kb c sb (sb + 1) has val m)) (fun i _ => 60 - (intOf i).toNat)
      case atStart => exact ⟨0, by omega, rfl, Lib.hid ⟨_, _, m, by have := HB.out; omega, HS.out⟩⟩
      case round =>
        obtain ⟨j, hj, rfl, HI⟩ := hrel
        clear HS HB
        have HEnd : Hid (Post K (.returned (.bool true)) wr) := by
          obtain ⟨has, val, m', _, h⟩ := HI.out
          exact HK.out _ _ ⟨rfl, HC1.out.trans h.chg (fun _ _ h => h)⟩
        by_cases g0 : j < n0
        · have g0' : (j : Int) < (n0 : Int) := by omega
          by_cases g1 : j < n1
          · have g1' : (j : Int) < (n1 : Int) := by omega
            by_cases g2 : j < n2
            · have g2' : (j : Int) < (n2 : Int) := by omega
              by_cases g3 : j < 60
              · have g3' : (j : Int) < 60 := by omega
                obtain ⟨has, val, m', hm', hS⟩ := HI.out
                obtain ⟨x0, e0, k0⟩ := HA0.out.get hS.chg g0
                obtain ⟨x1, e1, k1⟩ := HA1.out.get hS.chg g1
                obtain ⟨x2, e2, k2⟩ := HA2.out.get hS.chg g2
                obtain ⟨k, hk⟩ : ∃ k : Nat, (k : Int) = z0 j % 8 := ⟨(z0 j % 8).toNat, by omega⟩
                obtain ⟨q, hq⟩ : ∃ q : Nat, (q : Int) = z2 j % 4 := ⟨(z2 j % 4).toNat, by omega⟩
                have HMk : Hid (∀ w, Calls Try.prog 8 #[.int .i64 (z0 j), .int .i64 8] w fun e w' => e = .returned (.int .i64 k) ∧ w = w') := fun w => by rw [hk]; exact mod_any w (z0 j) 8 (by omega)
                have HMq : Hid (∀ w, Calls Try.prog 8 #[.int .i64 (z2 j), .int .i64 4] w fun e w' => e = .returned (.int .i64 q) ∧ w = w') := fun w => by rw [hq]; exact mod_any w (z2 j) 4 (by omega)
                have hk8 : k < 8 := by omega
                have hq4 : q = 0 ∨ q = 1 ∨ q = 2 ∨ q = 3 := by omega
                have HSS := Lib.hid hS
                subst e0 e1 e2
                clear hk hq hS HI HEnd
                go_wp2_with fail
                refine (HMk.out _).mono ?_; rintro e w8 ⟨rfl, rfl⟩
                go_wp2_with fail
                refine (HMq.out _).mono ?_; rintro e w8 ⟨rfl, rfl⟩
                clear HMk HMq
                have hkl : (k : Int) < 8 := by omega
                have co := HSS.out.name hk8
                obtain ⟨cs, fs⟩ := HSS.out.seen.cell hk8
                have HB9 : Hid (m' ≤ 100 + 20 * j ∧ j < 60) := ⟨hm', g3⟩
                have hm8 : m' < 8000 := by omega
                clear hm'
                rcases hq4 with rfl | rfl | rfl | rfl
                case' inl =>
                  have HArg : Hid (∀ wx, Chg (fun _ => False) w1 wx → wx.cell? (x1.add j) = some (.int .i64 (z1 j))) := fun wx hC => by
                    obtain ⟨x, hx, hc⟩ := HA1.out.get hC g1
                    simp only [Option.some.injEq] at hx
                    subst hx; exact hc
                  have hS : Hid (WP w1 wr hb kb c sb (sb + 1) has has val val m') := HSS.out.wp
                  have q0 := co
                  have q1 := k1
                  clear HSS
                  go_upto_region 23 with fail
                  go_cut [110] from 98 to 109 (fun s110 wx => s110 = .bool false ∧ Hid (WP w1 wx hb kb c sb (sb + 1) has (up has k true) val (up val k (z1 j)) (m' + 1)))
                  case first =>
                    go_region_held3 (fun wx => wx.cell? ⟨kb, k, none⟩ = some (.int .i64 ((k : Int) + 1)) ∧ wx.cell? (x1.add j) = some (.int .i64 (z1 j)) ∧ Hid (∃ has' val' my, WP w1 wx hb kb c sb (sb + 1) has has' val val' my))
                      (first | exact ⟨q0, q1, Lib.hid ⟨_, _, _, hS.out⟩⟩ | exact ⟨q0, q1, Lib.hid ⟨_, _, _, hS.out.still ((Chg.refl _ _).drewN _)⟩⟩)
                      (first
                        | (go_at_call 13; refine (WP.num (hS.out.still ((Chg.refl _ _).drewN _)) hk8 HArg.out _).mono ?_; rintro e wn ⟨rfl, ⟨q0, q1⟩, hS⟩)
                        | (go_at_call 13; refine (WP.num hS.out hk8 HArg.out _).mono ?_; rintro e wn ⟨rfl, ⟨q0, q1⟩, hS⟩)
                        | (go_at_call 14; refine (WP.puts hS.out hm8 hk8 HArg.out _).mono ?_; rintro e wn ⟨rfl, ⟨q0, q1⟩, hS⟩))
                    all_goals (go_wp2; go_meet; exact ⟨rfl, hS⟩)
                  case' rest =>
                    obtain ⟨rfl, HP⟩ := hcut
                    obtain ⟨ds, es⟩ := HP.out.seen.cell hk8
                    have hP1 := HP.out.setSeen hk8 true
                    have q1c := HArg.out _ HP.out.chg
                    have q1V := HArg.out _ hP1.chg
                    obtain ⟨cvV, fvV⟩ := hP1.ints.cell hk8
                    have HW : Hid (∃ has val m, m ≤ 100 + 20 * j + 1 ∧ WS w1 ((wc.setCell ⟨sb, k, none⟩ (.bool true)).setCell ⟨sb + 1, k, none⟩ (.int .i64 (z1 j))) hb kb c sb (sb + 1) has val m) := ⟨_, _, _, by have := HB9.out; omega, (hP1.setInts hk8 (z1 j)).ws⟩
                    clear HP hP1 q0 q1 hS HArg co cs fs k1
                    go_wp2
                case' inr.inl =>
                  have HRm := Lib.hid (HSS.out.remove hk8)
                  clear HSS
                  go_wp2_with fail
                  refine HRm.out.mono ?_; rintro e w9 ⟨rfl, HP⟩
                  obtain ⟨ds, es⟩ := HP.out.seen.cell hk8
                  have HW : Hid (∃ has val m, m ≤ 100 + 20 * j + 1 ∧ WS w1 (w9.setCell ⟨sb, k, none⟩ (.bool false)) hb kb c sb (sb + 1) has val m) := ⟨_, _, _, by have := HB9.out; omega, (HP.out.setSeen hk8 false).ws⟩
                  clear HRm HP co cs fs
                  go_wp2
                case' inr.inr.inl =>
                  have HMi := Lib.hid (HSS.out.minor hm8)
                  clear HSS
                  go_wp2_with fail
                  refine HMi.out.mono ?_; rintro e w9 ⟨rfl, HP⟩
                  have HW : Hid (∃ has val m, m ≤ 100 + 20 * j + 1 ∧ WS w1 w9 hb kb c sb (sb + 1) has val m) := ⟨_, _, _, by have := HB9.out; omega, HP.out⟩
                  clear HMi HP co cs fs
                  go_wp2
                case' inr.inr.inr =>
                  have HMi := Lib.hid HSS.out.major
                  clear HSS
                  go_wp2_with fail
                  refine HMi.out.mono ?_; rintro e w9 ⟨rfl, HP⟩
                  have HW : Hid (∃ has val m, m ≤ 100 + 20 * j + 1 ∧ WS w1 w9 hb kb c sb (sb + 1) has val m) := ⟨_, _, _, by have := HB9.out; omega, HP.out⟩
                  clear HMi HP co cs fs
                  go_wp2
                all_goals
                  obtain ⟨has2, val2, m2, hm2, hS2⟩ := HW.out
                  have HW2 := Lib.hid hS2
                  have HM2 : Hid (m2 ≤ 100 + 20 * j + 1 ∧ j < 60) := ⟨hm2, HB9.out.2⟩
                  clear hS2 hm2 HW hm8 HB9
                  go_loopw [21, 22] (fun s21 s22 wr => ∃ (y n1 : Nat), y ≤ 8 ∧ s22 = .int .i64 y ∧ s21 = .int .i64 n1 ∧ Hid (n1 = ((List.range y).filter has2).length) ∧ Hid (∃ m, m ≤ 100 + 20 * j + 1 + y ∧ WS w1 wr hb kb c sb (sb + 1) has2 val2 m)) (fun _ s22 _ => 8 - (intOf s22).toNat)
                  case atStart => exact ⟨0, 0, by omega, rfl, rfl, Lib.hid (by simp), Lib.hid ⟨m2, HM2.out.1, HW2.out⟩⟩
                  case round =>
                    obtain ⟨y, n1, hy, rfl, rfl, HN, HI3⟩ := hrel
                    clear HW2
                    have HN8 : Hid (n1 ≤ 8) := by
                      show n1 ≤ 8
                      rw [HN.out]
                      have := List.length_filter_le has2 (List.range y)
                      simp at this; omega
                    by_cases hylt : y < 8
                    · obtain ⟨m3, hm3, hS3⟩ := HI3.out
                      have hyl : (y : Int) < 8 := by omega
                      have cy := hS3.name hylt
                      have hF := hS3.find (by have := HM2.out; omega) hylt
                      have HM3 : Hid (m3 ≤ 100 + 20 * j + 1 + y) := hm3
                      clear hS3 HI3 hm3
                      cases hh : has2 y with
                      | false =>
                        rw [hh] at hF
                        simp only [Bool.false_eq_true, if_false] at hF
                        have HF := Lib.hid hF
                        have HH := Lib.hid hh
                        clear hF hh
                        go_wp2_with fail
                        refine HF.out.mono ?_; rintro e w10 ⟨rfl, HS4⟩
                        have cz := (HS4.out.seen.cell hylt).1
                        rw [HH.out] at cz
                        have cz1 : ∀ X, (w10.alloc X).cell? ⟨sb, y, none⟩ = some (.bool false) := fun X => by
                          have := ((HS4.out.still (((Chg.refl (fun _ => False) w10).alloc X))).seen.cell hylt).1
                          rw [HH.out] at this; exact this
                        clear HF cy
                        go_upto_region 39 with fail
                        go_quiet (fail)
                        have HS5 := Lib.hid fun X n => HS4.out.still (((Chg.refl (fun _ => False) w10).alloc X).drewN n)
                        clear cz cz1 HS4
                        go_wp2
                        go_roundw
                        case rel =>
                          refine ⟨y + 1, n1, by omega, by go_num, rfl, ?_, Lib.hid ⟨m3 + 1, by have := HM3.out; omega, HS5.out _ _⟩⟩
                          show n1 = _
                          rw [List.range_succ, List.filter_append, List.length_append, ← HN.out]
                          simp [HH.out]
                        case measure => simp [intOf]; omega
                      | true =>
                        rw [hh] at hF
                        simp only [if_true] at hF
                        have HF := Lib.hid hF
                        have HH := Lib.hid hh
                        clear hF hh
                        go_wp2_with fail
                        refine HF.out.mono ?_; rintro e w10 ⟨rfl, HS4⟩
                        clear HF cy
                        obtain ⟨bb, hbb⟩ : ∃ bb, bb = w10.heap.size := ⟨_, rfl⟩
                        obtain ⟨W5, hW5⟩ : ∃ W5, W5 = w10.alloc (.cells #[.bool false, .int .i64 (val2 y)] 36) := ⟨_, rfl⟩
                        have hV : Hid (VS w1 W5 hb kb c sb (sb + 1) bb has2 val2 (m3 + 1) (val2 y)) := by
                          rw [hW5, hbb]
                          exact ⟨HS4.out.still ((Chg.refl _ _).alloc _), heap_alloc_new _ _⟩
                        obtain ⟨q0, q1, q2, q3⟩ := hV.out.cells hylt HH.out
                        clear HS4
                        go_upto_region 39 with fail
                        rw [← hbb, ← hW5]
                        clear hbb hW5
                        go_cut [186] from 165 to 185 (fun s186 wx => s186 = .bool false ∧ Hid (WS w1 wx hb kb c sb (sb + 1) has2 val2 (m3 + 1)))
                        case first =>
                          go_region_held3 (fun wx => wx.cell? ⟨bb, 0, none⟩ = some (.bool false) ∧ wx.cell? ⟨bb, 1, none⟩ = some (.int .i64 (val2 y)) ∧ wx.cell? ⟨sb, y, none⟩ = some (.bool true) ∧ wx.cell? ⟨sb + 1, y, none⟩ = some (.int .i64 (val2 y)) ∧ Hid (VS w1 wx hb kb c sb (sb + 1) bb has2 val2 (m3 + 1) (val2 y)))
                            (first | exact ⟨q0, q1, q2, q3, hV⟩ | exact ⟨q0, q1, q2, q3, Lib.hid (hV.out.still ((Chg.refl _ _).drewN _))⟩)
                            (first
                              | (go_at_call 13; refine (VS.num (hV.out.still ((Chg.refl _ _).drewN _)) hylt HH.out _).mono ?_; rintro e wn ⟨rfl, ⟨q0, q1, q2, q3⟩, hV⟩)
                              | (go_at_call 13; refine (VS.num hV.out hylt HH.out _).mono ?_; rintro e wn ⟨rfl, ⟨q0, q1, q2, q3⟩, hV⟩))
                          all_goals (go_wp2; go_meet; exact ⟨rfl, Lib.hid hV.out.ws⟩)
                        case rest =>
                          obtain ⟨rfl, HS5⟩ := hcut
                          have hwn : IntKind.i64.wrap ((n1 : Int) + 1) = (n1 : Int) + 1 := IntWalk.i64_in _ (by have := HN8.out; omega)
                          clear hV q0 q1 q2 q3
                          go_wp2
                          clear hwn
                          go_roundw
                          case rel =>
                            refine ⟨y + 1, n1 + 1, by omega, by go_num, by go_num, ?_, Lib.hid ⟨m3 + 1, by have := HM3.out; omega, HS5.out⟩⟩
                            show n1 + 1 = _
                            rw [List.range_succ, List.filter_append, List.length_append, ← HN.out]
                            simp [HH.out]
                          case measure => simp [intOf]; omega
                    · obtain rfl : y = 8 := by omega
                      obtain ⟨m3, hm3, hS3⟩ := HI3.out
                      have hC := hS3.count
                      rw [← HN.out] at hC
                      have HC := Lib.hid hC
                      have HM3 : Hid (m3 ≤ 100 + 20 * (j + 1)) := by show m3 ≤ _; omega
                      clear hC hS3 HI3 hm3
                      go_wp2_with fail
                      refine HC.out.mono ?_; rintro e w11 ⟨rfl, HS5⟩
                      clear HC HN HN8
                      go_wp2
                      go_roundw
                      case rel => exact ⟨j + 1, by omega, by go_num, Lib.hid ⟨_, _, m3, HM3.out, HS5.out⟩⟩
                      case measure => simp [intOf]; omega
              · have g3' : ¬ ((j : Int) < 60) := by omega
                clear HI HK
                go_wp2
                go_ret
                exact HEnd.out
            · have g2' : ¬ ((j : Int) < (n2 : Int)) := by omega
              clear HI HK
              go_wp2
              go_ret
              exact HEnd.out
          · have g1' : ¬ ((j : Int) < (n1 : Int)) := by omega
            clear HI HK
            go_wp2
            go_ret
            exact HEnd.out
        · have g0' : ¬ ((j : Int) < (n0 : Int)) := by omega
          clear HI HK
          go_wp2
          go_ret
          exact HEnd.out

end Go.Proofs.Ytelghmmcbgfjnaa
