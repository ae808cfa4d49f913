/-
  Mod, num and ref walked. (A part of the proof, joined of: Yj, Yk.)
-/
import Derived.Test.YtelghmmcbgfjnaaH17
import Derived.IntWalk
/-! Mod, num and ref walked. -/
namespace Go.Proofs.Ytelghmmcbgfjnaa
open Go.RowKit

theorem tmod_emod {a b : Int} (hb : 0 < b) : (if a.tmod b < 0 then a.tmod b + b else a.tmod b) = a % b := by
  rcases Int.le_total 0 a with h | h
  · have h1 := Int.tmod_eq_emod_of_nonneg (b := b) h
    have h2 := Int.emod_nonneg a (show b ≠ 0 by omega)
    rw [h1, if_neg (by omega)]
  · have h1 := Int.tmod_eq_emod (a := a) (b := b)
    have h2 := Int.emod_nonneg a (show b ≠ 0 by omega)
    have h3 := Int.emod_lt_of_pos a hb
    by_cases hd : b ∣ a
    · have h4 : a % b = 0 := Int.emod_eq_zero_of_dvd hd
      rw [if_pos (.inr hd), h4] at h1
      rw [h1, h4]; simp
    · by_cases h0 : 0 ≤ a
      · rw [if_pos (.inl h0)] at h1
        rw [h1, if_neg (by omega)]; omega
      · rw [if_neg (by simp [h0, hd])] at h1
        rw [h1, if_pos (by omega)]; omega

theorem mod_any (w : World) (a b : Int) (hb : 0 < b ∧ b ≤ 1000000) :
    Calls Try.prog 8 #[.int .i64 a, .int .i64 b] w fun e w' => e = .returned (.int .i64 (a % b)) ∧ w = w' := by
  have he := tmod_emod (a := a) hb.1
  have hz : ¬ b = 0 := by omega
  have h1 : (a.tmod b).natAbs < b.natAbs := by
    rw [Int.natAbs_tmod]
    exact Nat.mod_lt _ (by omega)
  have hw : IntKind.i64.wrap (a.tmod b) = a.tmod b := IntWalk.i64_in _ (by omega)
  have hw2 : IntKind.i64.wrap (a.tmod b + b) = a.tmod b + b := IntWalk.i64_in _ (by omega)
  go_enter Try.func8, Try.ntmps8
  by_cases hlt : a.tmod b < 0
  · rw [if_pos hlt] at he
    go_wp2
    go_ret
    exact ⟨rfl, rfl⟩
  · rw [if_neg hlt] at he
    go_wp2
    go_ret
    exact ⟨by first | rfl | rw [← he]; rfl, rfl⟩

theorem num_any (w : World) (n : Int) :
    Calls Try.prog 13 #[.int .i64 n] w fun e w' => e = .returned (Wd.agg ⟨false, n⟩) ∧ Chg (fun _ => False) w w' := by
  go_enter Try.func13, Try.ntmps13
  go_wp2
  refine bodyPost_ret (v := .agg #[.bool false, .int .i64 n]) (by simp [results, Try.results13, go_sem]) rfl ⟨rfl, ?_⟩
  exact (Chg.refl _ _).alloc _
theorem ref_any (w : World) (n : Int) :
    Calls Try.prog 15 #[.int .i64 n] w fun e w' => e = .returned (Wd.agg ⟨true, n⟩) ∧ Chg (fun _ => False) w w' := by
  go_enter Try.func15, Try.ntmps15
  go_wp2
  refine bodyPost_ret (v := .agg #[.bool true, .int .i64 n]) (by simp [results, Try.results15, go_sem]) rfl ⟨rfl, ?_⟩
  exact (Chg.refl _ _).alloc _

end Go.Proofs.Ytelghmmcbgfjnaa

/-! The chapter's examples: the function sane returns true. -/
namespace Go.Proofs.Ytelghmmcbgfjnaa
open Go.RowKit

/-- An ideal heap in a world that has grown out of w0; the blocks of w0 and of L are not its own. -/
structure HB (w0 w : World) (hb : Nat) (L : List Nat) (I : IS) (m : Nat) : Prop where
  hp : HP w hb (List.range w0.heap.size ++ L) I m
  chg : Chg (fun _ => False) w0 w

theorem HB.got {w0 w w' : World} {hb : Nat} {L : List Nat} {I I' : IS} {m m' : Nat} (h : HB w0 w hb L I m) (hG : Got w hb (List.range w0.heap.size ++ L) I' m' w') : HB w0 w' hb L I' m' :=
  ⟨hG.hp, h.chg.trans hG.chg fun _ hj hn => hn (List.mem_append_left _ (List.mem_range.2 hj))⟩
theorem HB.still {w0 w w' : World} {hb : Nat} {L : List Nat} {I : IS} {m : Nat} (h : HB w0 w hb L I m) (hC : Chg (fun _ => False) w w') : HB w0 w' hb L I m := ⟨h.hp.still hC, h.chg.trans hC fun _ _ h => h⟩
theorem HB.drewN {w0 w : World} {hb : Nat} {L : List Nat} {I : IS} {m : Nat} (h : HB w0 w hb L I m) (n : Nat) : HB w0 (w.drewN n) hb L I m := h.still ((Chg.refl _ _).drewN n)
theorem HB.sub {w0 w : World} {hb : Nat} {L L' : List Nat} {I : IS} {m : Nat} (h : HB w0 w hb L I m) (hs : ∀ b ∈ L', b ∈ L) : HB w0 w hb L' I m :=
  ⟨h.hp.sub fun b hb => by
    rcases List.mem_append.1 hb with hb | hb
    · exact List.mem_append_left _ hb
    · exact List.mem_append_right _ (hs b hb), h.chg⟩
theorem HB.alloc {w0 w : World} {hb : Nat} {L : List Nat} {I : IS} {m : Nat} (h : HB w0 w hb L I m) (X : Obj) : HB w0 (w.alloc X) hb (w.heap.size :: L) I m :=
  ⟨(h.hp.alloc X).sub fun b hb => by
    simp only [List.mem_append, List.mem_cons] at hb ⊢
    rcases hb with hb | hb | hb
    · exact .inr (.inl hb)
    · exact .inl hb
    · exact .inr (.inr hb), h.chg.alloc X⟩
/-- A block of the caller's own stays. -/
theorem HB.keeps {w0 w w' : World} {hb : Nat} {L : List Nat} {I : IS} {m : Nat} {I' : IS} {m' : Nat} (_h : HB w0 w hb L I m) (hG : Got w hb (List.range w0.heap.size ++ L) I' m' w') {b : Nat} (hb : b ∈ L) {x : Obj} (hx : w.heap[b]? = some x) : w'.heap[b]? = some x :=
  hG.chg.at hx (fun h => h (List.mem_append_right _ hb))

/-- The same, and a cell of the caller's own. -/
structure SP (w0 w : World) (hb b : Nat) (c : Wd) (I : IS) (m : Nat) : Prop where
  hp : HB w0 w hb [b] I m
  at_ : w.heap[b]? = some (.cells #[.bool c.ref, .int .i64 c.num] 36 (0, 0))

theorem SP.drewN {w0 w : World} {hb b : Nat} {c : Wd} {I : IS} {m : Nat} (h : SP w0 w hb b c I m) (n : Nat) : SP w0 (w.drewN n) hb b c I m := ⟨h.hp.drewN n, h.at_⟩
theorem SP.still {w0 w w' : World} {hb b : Nat} {c : Wd} {I : IS} {m : Nat} (h : SP w0 w hb b c I m) (hC : Chg (fun _ => False) w w') : SP w0 w' hb b c I m := ⟨h.hp.still hC, hC.at h.at_ (fun h => h)⟩
theorem SP.got {w0 w w' : World} {hb b : Nat} {c : Wd} {I I' : IS} {m m' : Nat} (h : SP w0 w hb b c I m) (hG : Got w hb (List.range w0.heap.size ++ [b]) I' m' w') : SP w0 w' hb b c I' m' := ⟨h.hp.got hG, h.hp.keeps hG (by simp) h.at_⟩
theorem SP.c0 {w0 w : World} {hb b : Nat} {c : Wd} {I : IS} {m : Nat} (h : SP w0 w hb b c I m) : w.cell? ⟨b, 0, none⟩ = some (.bool c.ref) ∧ w.cell? ⟨b, 1, none⟩ = some (.int .i64 c.num) := ⟨cellAt h.at_ 0, cellAt h.at_ 1⟩
theorem SP.make {w0 w : World} {hb : Nat} {L : List Nat} {I : IS} {m : Nat} (h : HB w0 w hb L I m) (c : Wd) : SP w0 (w.alloc (.cells #[.bool c.ref, .int .i64 c.num] 36)) hb w.heap.size c I m :=
  ⟨(h.alloc _).sub (by simp), heap_alloc_new w _⟩

theorem SP.num {w0 w : World} {hb b : Nat} {c : Wd} {I : IS} {m : Nat} (h : SP w0 w hb b c I m) (n : Int) :
    Calls Try.prog 13 #[.int .i64 n] w fun e w' => e = .returned (.agg #[.bool false, .int .i64 n]) ∧ (w'.cell? ⟨b, 0, none⟩ = some (.bool c.ref) ∧ w'.cell? ⟨b, 1, none⟩ = some (.int .i64 c.num)) ∧ Hid (SP w0 w' hb b c I m) := by
  refine (num_any w n).mono ?_
  rintro e w' ⟨rfl, hC⟩
  exact ⟨rfl, (h.still hC).c0, Lib.hid (h.still hC)⟩
theorem SP.ref {w0 w : World} {hb b : Nat} {c : Wd} {I : IS} {m : Nat} (h : SP w0 w hb b c I m) (n : Int) :
    Calls Try.prog 15 #[.int .i64 n] w fun e w' => e = .returned (.agg #[.bool true, .int .i64 n]) ∧ (w'.cell? ⟨b, 0, none⟩ = some (.bool c.ref) ∧ w'.cell? ⟨b, 1, none⟩ = some (.int .i64 c.num)) ∧ Hid (SP w0 w' hb b c I m) := by
  refine (ref_any w n).mono ?_
  rintro e w' ⟨rfl, hC⟩
  exact ⟨rfl, (h.still hC).c0, Lib.hid (h.still hC)⟩
theorem HB.num {w0 w : World} {hb : Nat} {L : List Nat} {I : IS} {m : Nat} (h : HB w0 w hb L I m) (n : Int) :
    Calls Try.prog 13 #[.int .i64 n] w fun e w' => e = .returned (.agg #[.bool false, .int .i64 n]) ∧ Hid (HB w0 w' hb L I m) := by
  refine (num_any w n).mono ?_
  rintro e w' ⟨rfl, hC⟩
  exact ⟨rfl, Lib.hid (h.still hC)⟩
theorem HB.ref {w0 w : World} {hb : Nat} {L : List Nat} {I : IS} {m : Nat} (h : HB w0 w hb L I m) (n : Int) :
    Calls Try.prog 15 #[.int .i64 n] w fun e w' => e = .returned (.agg #[.bool true, .int .i64 n]) ∧ Hid (HB w0 w' hb L I m) := by
  refine (ref_any w n).mono ?_
  rintro e w' ⟨rfl, hC⟩
  exact ⟨rfl, Lib.hid (h.still hC)⟩
theorem HB.used {w0 w : World} {hb : Nat} {L : List Nat} {I : IS} {m : Nat} (h : HB w0 w hb L I m) {u : Nat} (h1 : I.words I.live = u) (h2 : I.words I.here = u) :
    Calls Try.prog 25 #[.pointer (some ⟨hb, 0, none⟩)] w fun e w' => e = .returned (.int .i64 u) ∧ Hid (HB w0 w' hb L I m) := by
  refine (h.hp.used_eq h1 h2).mono ?_
  rintro e w' ⟨rfl, hG⟩
  exact ⟨rfl, Lib.hid (h.got hG)⟩

theorem SP.used {w0 w : World} {hb b : Nat} {c : Wd} {I : IS} {m : Nat} (h : SP w0 w hb b c I m) {u : Nat} (h1 : I.words I.live = u) (h2 : I.words I.here = u) :
    Calls Try.prog 25 #[.pointer (some ⟨hb, 0, none⟩)] w fun e w' => e = .returned (.int .i64 u) ∧ (w'.cell? ⟨b, 0, none⟩ = some (.bool c.ref) ∧ w'.cell? ⟨b, 1, none⟩ = some (.int .i64 c.num)) ∧ Hid (SP w0 w' hb b c I m) := by
  refine (h.hp.hp.used_eq h1 h2).mono ?_
  rintro e w' ⟨rfl, hG⟩
  exact ⟨rfl, (h.got hG).c0, Lib.hid (h.got hG)⟩

namespace Sane
/-- The calls of sane. -/
theorem c_make1 {w0 w : World} {hb : Nat} {L : List Nat} {m : Nat} (h : HB w0 w hb L (IS.start 40) m) (hm : m < 9000) :
    Calls Try.prog 10 #[.pointer (some ⟨hb, 0, none⟩), .int .i64 0, .slice none 0 0] w fun e w' => e = .returned (.tuple #[.int .i64 0, .int .i64 0]) ∧ Hid (HB w0 w' hb L I1 (m + 1)) := by
  refine (h.hp.make (ample hm (by simp [IS.start]) (by simp [IS.start]) (by simp [IS.start])) 0 (cs := []) ⟨rfl, fun j c hj => by simp at hj⟩ (by simp)).mono ?_
  rw [make1]
  rintro e w' ⟨rfl, hG⟩
  exact ⟨rfl, Lib.hid (h.got hG)⟩
theorem c_table {w0 w : World} {hb : Nat} {L : List Nat} {m : Nat} (h : HB w0 w hb L I1 m) (hm : m < 9000) :
    Calls Try.prog 12 #[.pointer (some ⟨hb, 0, none⟩)] w fun e w' => e = .returned (.tuple #[.int .i64 1, .int .i64 0]) ∧ Hid (HB w0 w' hb L I2 (m + 1)) := by
  refine (h.hp.table (ample hm (by simp [I1, S]) (by simp [I1, S]) (by simp [I1, S, n0]))).mono ?_
  rw [Sane.table]
  rintro e w' ⟨rfl, hG⟩
  exact ⟨rfl, Lib.hid (h.got hG)⟩
theorem c_put {w0 w : World} {hb : Nat} {L : List Nat} {m : Nat} (h : HB w0 w hb L I2 m) (hm : m < 9000) :
    Calls Try.prog 14 #[.pointer (some ⟨hb, 0, none⟩), .int .i64 1, .int .i64 0, .agg #[.bool false, .int .i64 5]] w fun e w' => e = .returned (.int .i64 0) ∧ Hid (HB w0 w' hb L I3 (m + 1)) := by
  refine (h.hp.put (ample hm (by simp [I2, S]) (by simp [I2, S]) (by simp [I2, S, n0, nt])) 1 0 ⟨false, 5⟩).mono ?_
  rw [Sane.put]
  rintro e w' ⟨rfl, hG⟩
  exact ⟨rfl, Lib.hid (h.got hG)⟩
theorem c_find {w0 w : World} {hb : Nat} {L : List Nat} {m : Nat} (h : HB w0 w hb L I3 m) (hm : m < 9000) :
    Calls Try.prog 20 #[.pointer (some ⟨hb, 0, none⟩), .int .i64 1, .int .i64 0] w fun e w' => e = .returned (.tuple #[.agg #[.bool false, .int .i64 5], .bool true, .int .i64 0]) ∧ Hid (HB w0 w' hb L I3 (m + 1)) := by
  refine (h.hp.find (ample hm (by simp [I3, S]) (by simp [I3, S]) (by simp [I3, S, n0, nt])) 1 0).mono ?_
  rw [Sane.find]
  rintro e w' ⟨rfl, hG⟩
  exact ⟨rfl, Lib.hid (h.got hG)⟩
theorem c_set {w0 w : World} {hb b : Nat} {c : Wd} {m : Nat} (h : SP w0 w hb b c I3 m) :
    Calls Try.prog 26 #[.pointer (some ⟨hb, 0, none⟩), .int .i64 0, .int .i64 0, .agg #[.bool false, .int .i64 1]] w fun e w' => e = .returned (.int .i64 222) ∧ (w'.cell? ⟨b, 0, none⟩ = some (.bool c.ref) ∧ w'.cell? ⟨b, 1, none⟩ = some (.int .i64 c.num)) ∧ Hid (SP w0 w' hb b c I3 m) := by
  refine (h.hp.hp.set_index (n := 0) (name := 0) (d := n0) (c := ⟨false, 1⟩) (i := 0) rfl rfl rfl rfl (.inr (by simp [n0]))).mono ?_
  rintro e w' ⟨rfl, hG⟩
  exact ⟨rfl, (h.got hG).c0, Lib.hid (h.got hG)⟩
theorem c_make2 {w0 w : World} {hb : Nat} {L : List Nat} {m : Nat} (h : HB w0 w hb L I3 m) (hm : m < 9000) {b : Nat} (h0 : w.heap[b]? = some (.cells #[.bool true, .int .i64 0, .bool false, .int .i64 7] 36 (0, 0))) :
    Calls Try.prog 10 #[.pointer (some ⟨hb, 0, none⟩), .int .i64 1, .slice (some ⟨b, 0, none⟩) 2 2] w fun e w' => e = .returned (.tuple #[.int .i64 2, .int .i64 0]) ∧ Hid (HB w0 w' hb L I4 (m + 1)) := by
  refine (h.hp.make (ample hm (by simp [I3, S]) (by simp [I3, S]) (by simp [I3, S, n0, nt])) 1 (cs := [⟨true, 0⟩, ⟨false, 7⟩]) ⟨rfl, fun j c hj => ?_⟩ (by simp)).mono ?_
  · match j, hj with
    | 0, hj => simp at hj; subst hj; exact ⟨b, 0, rfl, cellAt h0 0, cellAt h0 1⟩
    | 1, hj => simp at hj; subst hj; exact ⟨b, 0, rfl, cellAt h0 2, cellAt h0 3⟩
    | j + 2, hj => simp at hj
  rw [Sane.make2]
  rintro e w' ⟨rfl, hG⟩
  exact ⟨rfl, Lib.hid (h.got hG)⟩
theorem c_drop1 {w0 w : World} {hb : Nat} {L : List Nat} {m : Nat} (h : HB w0 w hb L I4 m) :
    Calls Try.prog 11 #[.pointer (some ⟨hb, 0, none⟩), .int .i64 0] w fun e w' => e = .returned (.int .i64 0) ∧ Hid (HB w0 w' hb L I5 (m + 1)) := by
  refine (h.hp.drop 0).mono ?_
  rw [Sane.drop1]
  rintro e w' ⟨rfl, hG⟩
  exact ⟨rfl, Lib.hid (h.got hG)⟩
theorem c_major1 {w0 w : World} {hb : Nat} {L : List Nat} {m : Nat} (h : HB w0 w hb L I5 m) :
    Calls Try.prog 17 #[.pointer (some ⟨hb, 0, none⟩)] w fun e w' => e = .returned (.tuple #[]) ∧ Hid (HB w0 w' hb L I5 (m + 1)) := by
  have := h.hp.major
  rw [Sane.major1] at this
  refine this.mono ?_
  rintro e w' ⟨rfl, hG⟩
  exact ⟨rfl, Lib.hid (h.got hG)⟩
theorem c_count1 {w0 w : World} {hb : Nat} {L : List Nat} {m : Nat} (h : HB w0 w hb L I5 m) :
    Calls Try.prog 18 #[.pointer (some ⟨hb, 0, none⟩), .int .i64 1] w fun e w' => e = .returned (.tuple #[.int .i64 1, .int .i64 0]) ∧ Hid (HB w0 w' hb L I5 m) := by
  refine (h.hp.count (t := 1) (name := 1) (d := nt [e5]) rfl rfl rfl).mono ?_
  rintro e w' ⟨u, rfl, ⟨h1, h2⟩, hG⟩
  have h3 : 1 ≤ u := by have := count1.2.1; simp only [nt] at h1; omega
  have h4 : u ≤ 1 := by have := count1.2.2; simp only [nt] at h2; omega
  have : u = 1 := by omega
  subst this
  exact ⟨rfl, Lib.hid (h.got hG)⟩
theorem c_get {w0 w : World} {hb : Nat} {L : List Nat} {m : Nat} (h : HB w0 w hb L I5 m) (hm : m < 9000) :
    Calls Try.prog 24 #[.pointer (some ⟨hb, 0, none⟩), .int .i64 2, .int .i64 0] w fun e w' => e = .returned (.tuple #[.agg #[.bool true, .int .i64 0], .int .i64 0]) ∧ Hid (HB w0 w' hb L I7 (m + 1)) := by
  refine (h.hp.get_ref (ample hm (by simp [I5, S]) (by simp [I5, S]) (by simp [I5, S, n0, nt, nb])) (n := 2) (name := 2) (d := nb) (i := 0) (x := 0) rfl rfl rfl rfl).mono ?_
  rw [fresh5, grant5]
  rintro e w' ⟨rfl, hG⟩
  exact ⟨rfl, Lib.hid (h.got hG)⟩
theorem c_drop2 {w0 w : World} {hb : Nat} {L : List Nat} {m : Nat} (h : HB w0 w hb L I7 m) :
    Calls Try.prog 11 #[.pointer (some ⟨hb, 0, none⟩), .int .i64 0] w fun e w' => e = .returned (.int .i64 0) ∧ Hid (HB w0 w' hb L I5 (m + 1)) := by
  refine (h.hp.drop 0).mono ?_
  rw [Sane.drop2]
  rintro e w' ⟨rfl, hG⟩
  exact ⟨rfl, Lib.hid (h.got hG)⟩
theorem c_drop3 {w0 w : World} {hb : Nat} {L : List Nat} {m : Nat} (h : HB w0 w hb L I5 m) :
    Calls Try.prog 11 #[.pointer (some ⟨hb, 0, none⟩), .int .i64 2] w fun e w' => e = .returned (.int .i64 0) ∧ Hid (HB w0 w' hb L I9 (m + 1)) := by
  refine (h.hp.drop 2).mono ?_
  rw [Sane.drop3]
  rintro e w' ⟨rfl, hG⟩
  exact ⟨rfl, Lib.hid (h.got hG)⟩
theorem c_major2 {w0 w : World} {hb : Nat} {L : List Nat} {m : Nat} (h : HB w0 w hb L I9 m) :
    Calls Try.prog 17 #[.pointer (some ⟨hb, 0, none⟩)] w fun e w' => e = .returned (.tuple #[]) ∧ Hid (HB w0 w' hb L I10 (m + 1)) := by
  have := h.hp.major
  rw [Sane.major2] at this
  refine this.mono ?_
  rintro e w' ⟨rfl, hG⟩
  exact ⟨rfl, Lib.hid (h.got hG)⟩
theorem c_count2 {w0 w : World} {hb : Nat} {L : List Nat} {m : Nat} (h : HB w0 w hb L I10 m) :
    Calls Try.prog 18 #[.pointer (some ⟨hb, 0, none⟩), .int .i64 1] w fun e w' => e = .returned (.tuple #[.int .i64 0, .int .i64 0]) ∧ Hid (HB w0 w' hb L I10 m) := by
  refine (h.hp.count (t := 1) (name := 1) (d := nt [e5]) rfl rfl rfl).mono ?_
  rintro e w' ⟨u, rfl, ⟨h1, h2⟩, hG⟩
  have h4 : u ≤ 0 := by have := count2.2; simp only [nt] at h2; omega
  have : u = 0 := by omega
  subst this
  exact ⟨rfl, Lib.hid (h.got hG)⟩
end Sane

end Go.Proofs.Ytelghmmcbgfjnaa
