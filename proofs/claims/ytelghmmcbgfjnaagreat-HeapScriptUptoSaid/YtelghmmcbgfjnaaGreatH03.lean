/-
  The state of a heap as a structure of lists, and what it means that a world represents it. (A part of the proof, joined of: Rep; made smaller.)
-/
import Derived.Test.YtelghmmcbgfjnaaGreatH02
import Derived.Test.YtelghmmcbgfjnaaGreatRows
namespace Go.Proofs.YtelghmmcbgfjnaaGreat
variable {w w' : World}
open Go.RowKit
structure Wd where
 ref : Bool
 num : Int
 deriving DecidableEq
structure En where
 key : Int
 val : Wd
 deriving DecidableEq
structure Ob where
 table : Bool
 size : Nat
 old : Bool
 at_ : Nat
 ents : List En
 deriving DecidableEq
structure St where
 objs : List (Int × Ob)
 names : Int
 memN : List Wd
 memT : List Wd
 young : Int
 handles : List (Int × Int)
 reg : List Int
 queue : List Int
 rem : List Int
 free : List Int
 next : Int
 full : Int
def Wd.cells (x : Wd) : List Value := [.bool x.ref, .int .i64 x.num]
def wdCells (l : List Wd) : List Value := l.flatMap Wd.cells
def En.cells (x : En) : List Value := [.int .i64 x.key, .bool x.val.ref, .int .i64 x.val.num]
def enCells (l : List En) : List Value := l.flatMap En.cells
def intCells (l : List Int) : List Value := l.map (Value.int .i64)
def St.mem (A : St) (old : Bool) : List Wd := if old then A.memT else A.memN
def St.fields (A : St) (o : Ob) : List Wd := ((A.mem o.old).drop (o.at_ + 1)).take o.size
inductive Role where
 | hs | mo | mh | mr | lb | la | memN | memT | reg | queue
 | obj (n : Int)
 | ents (n : Int)
 deriving DecidableEq
structure Gh where
 hb : Nat
 mo : Nat
 mh : Nat
 mr : Nat
 lb : Nat
 vN : Value
 vT : Value
 vR : Value
 vQ : Value
 vF : Value
 ob : Int → Nat
 vE : Int → Value
 own : Nat → Option Role
def hsCells (g : Gh) (A : St) : Array Value :=
 #[.map (some g.mo), .int .i64 A.names, g.vN, g.vT, .int .i64 A.young, .map (some g.mh), g.vR, g.vQ, .map (some g.mr),
  .iface 62 (.pointer (some ⟨g.lb, 0, none⟩)), .int .i64 A.next, .int .i64 A.full]
def obCells (g : Gh) (n : Int) (o : Ob) : Array Value := #[.bool o.table, .int .i64 o.size, .bool o.old, .int .i64 o.at_, g.vE n]
def kvsO (g : Gh) (A : St) : List (Int × Value) := A.objs.map fun p => (p.1, .pointer (some ⟨g.ob p.1, 0, none⟩))
def kvsH (A : St) : List (Int × Value) := A.handles.map fun p => (p.1, .int .i64 p.2)
def kvsR (A : St) : List (Int × Value) := A.rem.map fun n => (n, .bool true)
structure ObAt (w : World) (g : Gh) (n : Int) (o : Ob) : Prop where
 own : g.own (g.ob n) = some (.obj n)
 blk : w.heap[g.ob n]? = some (.cells (obCells g n o) 110 (0, 0))
 row : Row w 120 3 (g.vE n) o.ents.length (enCells o.ents)
 rown : ∀ b, rowBlk (g.vE n) = some b → g.own b = some (.ents n)
structure RowAt (w : World) (g : Gh) (r : Role) (e : TypeId) (sz : Nat) (v : Value) (n : Nat) (xs : List Value) : Prop where
 row : Row w e sz v n xs
 own : ∀ b, rowBlk v = some b → g.own b = some r
structure Rep (w : World) (g : Gh) (A : St) : Prop where
 lt : ∀ b, (g.own b).isSome → b < w.heap.size
 ohs : g.own g.hb = some .hs
 omo : g.own g.mo = some .mo
 omh : g.own g.mh = some .mh
 omr : g.own g.mr = some .mr
 olb : g.own g.lb = some .lb
 hs : w.heap[g.hb]? = some (.cells (hsCells g A) 74 (0, 0))
 mo : MapAt w g.mo (kvsO g A)
 mh : MapAt w g.mh (kvsH A)
 mr : MapAt w g.mr (kvsR A)
 lb : w.heap[g.lb]? = some (.cells #[g.vF] 63 (0, 0))
 rF : RowAt w g .la 3 1 g.vF A.free.length (intCells A.free)
 rN : RowAt w g .memN 113 2 g.vN A.memN.length (wdCells A.memN)
 rT : RowAt w g .memT 113 2 g.vT A.memT.length (wdCells A.memT)
 rR : RowAt w g .reg 3 1 g.vR A.reg.length (intCells A.reg)
 rQ : RowAt w g .queue 3 1 g.vQ A.queue.length (intCells A.queue)
 obj : ∀ n o, (n, o) ∈ A.objs → ObAt w g n o
abbrev ChgR (g : Gh) (T : Role → Prop) (w w' : World) : Prop := Chg (fun b => ∀ r, g.own b = some r → T r) w w'
structure Step (w : World) (g : Gh) (A : St) (w' : World) (g' : Gh) : Prop where
 chg : Chg (fun b => (g.own b).isSome) w w'
 own : ∀ b, b < w.heap.size → (g'.own b).isSome → g'.own b = g.own b
 hb : g'.hb = g.hb
 mo : g'.mo = g.mo
 mh : g'.mh = g.mh
 mr : g'.mr = g.mr
 lb : g'.lb = g.lb
 ob : ∀ n, n < A.names → g'.ob n = g.ob n
theorem Step.refl (w : World) (g : Gh) (A : St) : Step w g A w g := ⟨Chg.refl _ _, fun _ _ _ => rfl, rfl, rfl, rfl, rfl, rfl, fun _ _ => rfl⟩
theorem Step.trans {w'' : World} {g g' g'' : Gh} {A A' : St} (h : Step w g A w' g') (k : Step w' g' A' w'' g'') (hA : A.names ≤ A'.names) : Step w g A w'' g'' :=
 ⟨h.chg.trans k.chg (fun j hj hh => by rw [h.own j hj hh] at hh; exact hh),
  fun b hb hs => by
   have e := k.own b (Nat.lt_of_lt_of_le hb h.chg.size) hs;rw [e] at hs ⊢;exact h.own b hb hs,
  k.hb.trans h.hb, k.mo.trans h.mo, k.mh.trans h.mh, k.mr.trans h.mr, k.lb.trans h.lb,
  fun n hn => (k.ob n (by omega)).trans (h.ob n hn)⟩
theorem Step.drewN (w : World) (g : Gh) (A : St) (n : Nat) : Step w g A (w.drewN n) g := { Step.refl w g A with chg := (Chg.refl _ _).drewN n }
theorem Step.at {w w' : World} {g g' : Gh} {A : St} (h : Step w g A w' g') {b : Nat} {x : Obj} (hx : w.heap[b]? = some x) (hn : g.own b = none) : w'.heap[b]? = some x ∧ g'.own b = none :=
 ⟨h.chg.at hx (by simp [hn]), by
  cases hb : g'.own b with
  | none => rfl
  | some r => have := h.own b (lt_of_block hx) (by rw [hb]; rfl); rw [hb, hn] at this; cases this⟩
theorem RowAt.same {g : Gh} {r : Role} {e : TypeId} {sz : Nat} {v : Value} {n : Nat} {xs : List Value} (h : RowAt w g r e sz v n xs) {T : Role → Prop} (hC : ChgR g T w w') (hT : ¬ T r)
 {g' : Gh} (hg : ∀ b, b < w.heap.size → g'.own b = g.own b) : RowAt w' g' r e sz v n xs := by
 refine ⟨h.row.same fun b hb => hC.block b (h.row.lt hb) ?_, fun b hb => by rw [hg b (h.row.lt hb)]; exact h.own b hb⟩;exact fun hh => hT (hh r (h.own b hb))
theorem Rep.move {g g' : Gh} {A A' : St} {T : Role → Prop} (hR : Rep w g A) (hC : ChgR g T w w')
 (hlt : ∀ b, (g'.own b).isSome → b < w'.heap.size) (hown : ∀ b, b < w.heap.size → g'.own b = g.own b := by intro _ _; rfl)
 (e1 : g'.hb = g.hb := by rfl) (e2 : g'.mo = g.mo := by rfl) (e3 : g'.mh = g.mh := by rfl) (e4 : g'.mr = g.mr := by rfl) (e5 : g'.lb = g.lb := by rfl)
 (hs : (¬ T .hs ∧ hsCells g' A' = hsCells g A) ∨ w'.heap[g.hb]? = some (.cells (hsCells g' A') 74 (0, 0)) := by exact .inl ⟨by simp, rfl⟩)
 (mo : (¬ T .mo ∧ kvsO g' A' = kvsO g A) ∨ MapAt w' g.mo (kvsO g' A') := by exact .inl ⟨by simp, rfl⟩)
 (mh : (¬ T .mh ∧ A'.handles = A.handles) ∨ MapAt w' g.mh (kvsH A') := by exact .inl ⟨by simp, rfl⟩)
 (mr : (¬ T .mr ∧ A'.rem = A.rem) ∨ MapAt w' g.mr (kvsR A') := by exact .inl ⟨by simp, rfl⟩)
 (lb : (¬ T .lb ∧ g'.vF = g.vF) ∨ w'.heap[g.lb]? = some (.cells #[g'.vF] 63 (0, 0)) := by exact .inl ⟨by simp, rfl⟩)
 (rF : (¬ T .la ∧ g'.vF = g.vF ∧ A'.free = A.free) ∨ RowAt w' g' .la 3 1 g'.vF A'.free.length (intCells A'.free) := by exact .inl ⟨by simp, rfl, rfl⟩)
 (rN : (¬ T .memN ∧ g'.vN = g.vN ∧ A'.memN = A.memN) ∨ RowAt w' g' .memN 113 2 g'.vN A'.memN.length (wdCells A'.memN) := by exact .inl ⟨by simp, rfl, rfl⟩)
 (rT : (¬ T .memT ∧ g'.vT = g.vT ∧ A'.memT = A.memT) ∨ RowAt w' g' .memT 113 2 g'.vT A'.memT.length (wdCells A'.memT) := by exact .inl ⟨by simp, rfl, rfl⟩)
 (rR : (¬ T .reg ∧ g'.vR = g.vR ∧ A'.reg = A.reg) ∨ RowAt w' g' .reg 3 1 g'.vR A'.reg.length (intCells A'.reg) := by exact .inl ⟨by simp, rfl, rfl⟩)
 (rQ : (¬ T .queue ∧ g'.vQ = g.vQ ∧ A'.queue = A.queue) ∨ RowAt w' g' .queue 3 1 g'.vQ A'.queue.length (intCells A'.queue) := by exact .inl ⟨by simp, rfl, rfl⟩)
 (obj : ∀ n o, (n, o) ∈ A'.objs → ((n, o) ∈ A.objs ∧ g'.ob n = g.ob n ∧ g'.vE n = g.vE n ∧ ¬ T (.obj n) ∧ ¬ T (.ents n)) ∨ ObAt w' g' n o := by exact fun n o h => .inl ⟨h, rfl, rfl, by simp, by simp⟩) :
 Rep w' g' A' := by
 have old : ∀ {b r}, g.own b = some r → ¬ T r → w'.heap[b]? = w.heap[b]? := fun {b r} ho hT => hC.block b (hR.lt b (by rw [ho]; rfl)) (fun hh => hT (hh r ho));have ow : ∀ {b r}, g.own b = some r → g'.own b = some r := fun {b r} ho => by rw [hown b (hR.lt b (by rw [ho]; rfl)), ho]
 refine { lt := hlt, ohs := ?_, omo := ?_, omh := ?_, omr := ?_, olb := ?_, hs := ?_, mo := ?_, mh := ?_, mr := ?_, lb := ?_, rF := ?_, rN := ?_, rT := ?_, rR := ?_, rQ := ?_, obj := ?_ }
 · rw [e1]; exact ow hR.ohs
 · rw [e2]; exact ow hR.omo
 · rw [e3]; exact ow hR.omh
 · rw [e4]; exact ow hR.omr
 · rw [e5]; exact ow hR.olb
 · rw [e1];rcases hs with ⟨h1, h2⟩ | h
   · rw [old hR.ohs h1, hR.hs, h2]
   · exact h
 · rw [e2];rcases mo with ⟨h1, h2⟩ | h
   · rw [h2]; exact hR.mo.same (old hR.omo h1)
   · exact h
 · rw [e3];rcases mh with ⟨h1, h2⟩ | h
   · unfold kvsH; rw [h2]; exact hR.mh.same (old hR.omh h1)
   · exact h
 · rw [e4];rcases mr with ⟨h1, h2⟩ | h
   · unfold kvsR; rw [h2]; exact hR.mr.same (old hR.omr h1)
   · exact h
 · rw [e5];rcases lb with ⟨h1, h2⟩ | h
   · rw [old hR.olb h1, hR.lb, h2]
   · exact h
 · rcases rF with ⟨h1, h2, h3⟩ | h
   · rw [h2, h3]; exact hR.rF.same hC h1 hown
   · exact h
 · rcases rN with ⟨h1, h2, h3⟩ | h
   · rw [h2, h3]; exact hR.rN.same hC h1 hown
   · exact h
 · rcases rT with ⟨h1, h2, h3⟩ | h
   · rw [h2, h3]; exact hR.rT.same hC h1 hown
   · exact h
 · rcases rR with ⟨h1, h2, h3⟩ | h
   · rw [h2, h3]; exact hR.rR.same hC h1 hown
   · exact h
 · rcases rQ with ⟨h1, h2, h3⟩ | h
   · rw [h2, h3]; exact hR.rQ.same hC h1 hown
   · exact h
 · intro n o hm;rcases obj n o hm with ⟨h1, h2, h3, h4, h5⟩ | h
   · have ho := hR.obj n o h1;refine ⟨by rw [h2]; exact ow ho.own, by rw [h2, old ho.own h4, ho.blk]; simp [obCells, h3], ?_, ?_⟩
     · rw [h3];exact ho.row.same fun b hb => old (ho.rown b hb) h5
     · rw [h3];exact fun b hb => ow (ho.rown b hb)
   · exact h
theorem Rep.frame {g : Gh} {A : St} {F : Nat → Prop} (hR : Rep w g A) (hC : Chg F w w') (hF : ∀ b, F b → g.own b = none) : Rep w' g A :=
 hR.move (T := fun _ => False) (hC.mono fun b _ hb r hr => by rw [hF b hb] at hr; cases hr) (fun b hb => Nat.lt_of_lt_of_le (hR.lt b hb) hC.size)
  (mh := .inl ⟨by simp, rfl⟩) (obj := fun n o h => .inl ⟨h, rfl, rfl, by simp, by simp⟩)
theorem Rep.drewN {g : Gh} {A : St} (hR : Rep w g A) (n : Nat) : Rep (w.drewN n) g A := hR.frame (F := fun _ => False) ((Chg.refl _ _).drewN n) (fun _ h => h.elim)
theorem Rep.alloc {g : Gh} {A : St} (hR : Rep w g A) (o : Obj) : Rep (w.alloc o) g A := hR.frame (F := fun _ => False) ((Chg.refl _ _).alloc o) (fun _ h => h.elim)
end Go.Proofs.YtelghmmcbgfjnaaGreat
