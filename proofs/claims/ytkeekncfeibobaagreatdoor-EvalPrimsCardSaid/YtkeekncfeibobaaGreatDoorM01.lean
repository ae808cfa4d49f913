/-
A CLOSED RUN. Trees, lists: what the kernel runs quickly (recursors, handed-on results), and what each comes to.
A CLOSED RUN. The code with its types looked up ahead (XOp, XC), the heap, and the machine that the kernel runs.
A CLOSED RUN. Values moved: own blocks (numbers from O on) stand for blocks of the memory.
A CLOSED RUN. The translation of the model's code, types looked up ahead.
A CLOSED RUN. The machine.
-/
import Derived.Control
namespace Go.Clo

/-- a way to a place of a tree -/
inductive Pa where
  | z
  | l (p : Pa)
  | r (p : Pa)
  deriving DecidableEq

def Pa.go : Nat → Nat → Pa
  | 0, _ => .z
  | f + 1, k => match k with
    | 0 => .z
    | k + 1 => bif Nat.beq (Nat.mod k 2) 0 then .l (Pa.go f (Nat.div k 2)) else .r (Pa.go f (Nat.div k 2))
def Pa.of (k : Nat) : Pa := Pa.go k k
def Pa.num : Pa → Nat
  | .z => 0
  | .l p => 2 * p.num + 1
  | .r p => 2 * p.num + 2
theorem Pa.num_go : ∀ f k, k ≤ f → (Pa.go f k).num = k
  | 0, k, h => by have : k = 0 := by omega
                  subst this; rfl
  | f + 1, 0, _ => rfl
  | f + 1, k + 1, h => by
    have h2 := Pa.num_go f (k / 2) (by omega)
    have h3 : Nat.mod k 2 = k % 2 := rfl
    have h4 : Nat.div k 2 = k / 2 := rfl
    simp only [Pa.go, h3, h4]
    cases hb : Nat.beq (k % 2) 0
    · simp only [cond_false, Pa.num, h2]
      have := Nat.ne_of_beq_eq_false hb
      omega
    · simp only [cond_true, Pa.num, h2]
      have := Nat.eq_of_beq_eq_true hb
      omega
theorem Pa.num_of (k : Nat) : (Pa.of k).num = k := Pa.num_go k k (Nat.le_refl k)
theorem Pa.of_inj {j k : Nat} (h : Pa.of j = Pa.of k) : j = k := by rw [← Pa.num_of j, h, Pa.num_of]

inductive TV where
  | e
  | n (l : TV) (v : Value) (r : TV)
def undefV : Value := .tuple #[]

/-- a table -/
inductive TT (α : Type) where
  | e
  | n (l : TT α) (v : Option α) (r : TT α)
def TT.get {α : Type} : TT α → Nat → Option α
  | .e, _ => none
  | .n l v r, k => match k with
    | 0 => v
    | k + 1 => bif Nat.beq (Nat.mod k 2) 0 then l.get (Nat.div k 2) else r.get (Nat.div k 2)

def getV : Pa → TV → Value
  | .z, .e => undefV
  | .z, .n _ v _ => v
  | .l _, .e => undefV
  | .l p, .n l _ _ => getV p l
  | .r _, .e => undefV
  | .r p, .n _ _ r => getV p r
def setT : Pa → TV → Value → TV
  | .z, .e, v => .n .e v .e
  | .z, .n l _ r, v => .n l v r
  | .l p, .e, v => .n (setT p .e v) undefV .e
  | .l p, .n l x r, v => .n (setT p l v) x r
  | .r p, .e, v => .n .e undefV (setT p .e v)
  | .r p, .n l x r, v => .n l x (setT p r v)
theorem getV_e (p : Pa) : getV p .e = undefV := by cases p <;> rfl
theorem getV_setT : ∀ (p q : Pa) (t : TV) (v : Value), getV q (setT p t v) = if p = q then v else getV q t
  | .z, .z, .e, _ | .z, .z, .n _ _ _, _ => by simp [setT, getV]
  | .z, .l q, .e, _ | .z, .r q, .e, _ => by simp [setT, getV, getV_e]
  | .z, .l _, .n _ _ _, _ | .z, .r _, .n _ _ _, _ => by simp [setT, getV]
  | .l _, .z, .e, _ | .l _, .z, .n _ _ _, _ | .r _, .z, .e, _ | .r _, .z, .n _ _ _, _ => by simp [setT, getV]
  | .l p, .l q, .e, v => by simp only [setT, getV, getV_setT p q .e v, Pa.l.injEq, getV_e]
  | .l p, .l q, .n l _ _, v => by simp only [setT, getV, getV_setT p q l v, Pa.l.injEq]
  | .r p, .r q, .e, v => by simp only [setT, getV, getV_setT p q .e v, Pa.r.injEq, getV_e]
  | .r p, .r q, .n _ _ r, v => by simp only [setT, getV, getV_setT p q r v, Pa.r.injEq]
  | .l p, .r q, .e, _ | .r p, .l q, .e, _ => by simp [setT, getV, getV_e]
  | .l p, .r q, .n _ _ _, _ | .r p, .l q, .n _ _ _, _ => by simp [setT, getV]

section hot
variable {β : Type}
noncomputable def getK (p : Pa) : TV → (Value → β) → β :=
  Pa.rec (motive := fun _ => TV → (Value → β) → β)
    (fun t => TV.rec (motive := fun _ => (Value → β) → β) (fun κ => κ undefV) (fun _ v _ _ _ κ => κ v) t)
    (fun _ ih t => TV.rec (motive := fun _ => (Value → β) → β) (fun κ => κ undefV) (fun l _ _ _ _ => ih l) t)
    (fun _ ih t => TV.rec (motive := fun _ => (Value → β) → β) (fun κ => κ undefV) (fun _ _ r _ _ => ih r) t) p
theorem getK_eq : ∀ (p : Pa) (t : TV) (κ : Value → β), getK p t κ = κ (getV p t)
  | .z, .e, _ | .z, .n _ _ _, _ => rfl
  | .l _, .e, _ | .r _, .e, _ => rfl
  | .l p, .n l _ _, κ => getK_eq p l κ
  | .r p, .n _ _ r, κ => getK_eq p r κ
noncomputable def mkV (p : Pa) : Value → (TV → β) → β :=
  Pa.rec (motive := fun _ => Value → (TV → β) → β)
    (fun v κ => κ (.n .e v .e))
    (fun _ ih v κ => ih v (fun t => κ (.n t undefV .e)))
    (fun _ ih v κ => ih v (fun t => κ (.n .e undefV t))) p
theorem mkV_eq : ∀ (p : Pa) (v : Value) (κ : TV → β), mkV p v κ = κ (setT p .e v)
  | .z, _, _ => rfl
  | .l p, v, κ => mkV_eq p v (fun t => κ (.n t undefV .e))
  | .r p, v, κ => mkV_eq p v (fun t => κ (.n .e undefV t))
noncomputable def setV (p : Pa) : TV → Value → (TV → β) → β :=
  Pa.rec (motive := fun _ => TV → Value → (TV → β) → β)
    (fun t => TV.rec (motive := fun _ => Value → (TV → β) → β) (fun v κ => κ (.n .e v .e)) (fun l _ r _ _ v κ => κ (.n l v r)) t)
    (fun p ih t => TV.rec (motive := fun _ => Value → (TV → β) → β) (fun v κ => mkV p v (fun t => κ (.n t undefV .e))) (fun l x r _ _ v κ => ih l v (fun l => κ (.n l x r))) t)
    (fun p ih t => TV.rec (motive := fun _ => Value → (TV → β) → β) (fun v κ => mkV p v (fun t => κ (.n .e undefV t))) (fun l x r _ _ v κ => ih r v (fun r => κ (.n l x r))) t) p
theorem setV_eq : ∀ (p : Pa) (t : TV) (v : Value) (κ : TV → β), setV p t v κ = κ (setT p t v)
  | .z, .e, _, _ | .z, .n _ _ _, _, _ => rfl
  | .l p, .e, v, κ => mkV_eq p v (fun t => κ (.n t undefV .e))
  | .r p, .e, v, κ => mkV_eq p v (fun t => κ (.n .e undefV t))
  | .l p, .n l x r, v, κ => setV_eq p l v (fun l => κ (.n l x r))
  | .r p, .n l x r, v, κ => setV_eq p r v (fun r => κ (.n l x r))

noncomputable def dropK (no : β) (n : Nat) : List Value → (List Value → β) → β :=
  Nat.rec (motive := fun _ => List Value → (List Value → β) → β) (fun l κ => κ l)
    (fun _ ih l => List.rec (motive := fun _ => (List Value → β) → β) (fun _ => no) (fun _ t _ => ih t) l) n
theorem dropK_eq (no : β) : ∀ (n : Nat) (l : List Value) (κ : List Value → β), dropK no n l κ = if n ≤ l.length then κ (l.drop n) else no
  | 0, l, κ => by rw [if_pos (Nat.zero_le _)]; rfl
  | n + 1, [], κ => by simp [dropK]
  | n + 1, _ :: t, κ => by
    have := dropK_eq no n t κ
    simp only [List.length_cons, Nat.add_le_add_iff_right, List.drop_succ_cons]
    exact this
noncomputable def takeK (no : β) (n : Nat) : List Value → (List Value → β) → β :=
  Nat.rec (motive := fun _ => List Value → (List Value → β) → β) (fun _ κ => κ [])
    (fun _ ih l => List.rec (motive := fun _ => (List Value → β) → β) (fun _ => no) (fun v t _ κ => ih t (fun r => κ (v :: r))) l) n
theorem takeK_eq (no : β) : ∀ (n : Nat) (l : List Value) (κ : List Value → β), takeK no n l κ = if n ≤ l.length then κ (l.take n) else no
  | 0, l, κ => by rw [if_pos (Nat.zero_le _)]; rfl
  | n + 1, [], κ => by simp [takeK]
  | n + 1, v :: t, κ => by
    have := takeK_eq no n t (fun r => κ (v :: r))
    simp only [List.length_cons, Nat.add_le_add_iff_right, List.take_succ_cons]
    exact this
noncomputable def nthK (no : β) (n : Nat) : List Value → (Value → β) → β :=
  Nat.rec (motive := fun _ => List Value → (Value → β) → β)
    (fun l => List.rec (motive := fun _ => (Value → β) → β) (fun _ => no) (fun v _ _ κ => κ v) l)
    (fun _ ih l => List.rec (motive := fun _ => (Value → β) → β) (fun _ => no) (fun _ t _ => ih t) l) n
theorem nthK_eq (no : β) : ∀ (n : Nat) (l : List Value) (κ : Value → β), nthK no n l κ = match l[n]? with | some v => κ v | none => no
  | 0, [], _ => rfl
  | 0, _ :: _, _ => rfl
  | _ + 1, [], _ => rfl
  | n + 1, _ :: t, κ => by
    have := nthK_eq no n t κ
    simp only [List.getElem?_cons_succ]
    exact this
noncomputable def overK (no : β) (vs : List Value) : List Value → (List Value → β) → β :=
  List.rec (motive := fun _ => List Value → (List Value → β) → β) (fun l κ => κ l)
    (fun v _ ih l => List.rec (motive := fun _ => (List Value → β) → β) (fun _ => no) (fun _ t _ κ => ih t (fun r => κ (v :: r))) l) vs
theorem overK_eq (no : β) : ∀ (vs l : List Value) (κ : List Value → β), overK no vs l κ = if vs.length ≤ l.length then κ (vs ++ l.drop vs.length) else no
  | [], l, κ => by simp [overK]
  | _ :: _, [], _ => by simp [overK]
  | v :: vs, _ :: t, κ => by
    have := overK_eq no vs t (fun r => κ (v :: r))
    simp only [List.length_cons, Nat.add_le_add_iff_right, List.drop_succ_cons, List.cons_append]
    exact this
noncomputable def putK (no : β) (n : Nat) : List Value → List Value → (List Value → β) → β :=
  Nat.rec (motive := fun _ => List Value → List Value → (List Value → β) → β) (fun l vs κ => overK no vs l κ)
    (fun _ ih l => List.rec (motive := fun _ => List Value → (List Value → β) → β) (fun _ _ => no) (fun x t _ vs κ => ih t vs (fun r => κ (x :: r))) l) n
/-- the list with vs at n -/
def putL (l : List Value) (n : Nat) (vs : List Value) : List Value := l.take n ++ (vs ++ l.drop (n + vs.length))
theorem putK_eq (no : β) : ∀ (n : Nat) (l vs : List Value) (κ : List Value → β), n + vs.length ≤ l.length → putK no n l vs κ = κ (putL l n vs)
  | 0, l, vs, κ, h => by
    have := overK_eq no vs l κ
    rw [if_pos (by omega)] at this
    have e : putK no 0 l vs κ = overK no vs l κ := rfl
    rw [e, this]
    simp [putL]
  | n + 1, [], vs, κ, h => by simp at h
  | n + 1, x :: t, vs, κ, h => by
    have := putK_eq no n t vs (fun r => κ (x :: r)) (by simp at h; omega)
    have e : n + 1 + vs.length = (n + vs.length) + 1 := by omega
    simp only [putL, List.take_succ_cons, List.cons_append, e, List.drop_succ_cons]
    exact this
theorem putK_no (no : β) : ∀ (n : Nat) (l vs : List Value) (κ : List Value → β), vs ≠ [] → ¬ n + vs.length ≤ l.length → putK no n l vs κ = no
  | 0, l, vs, κ, _, h => by
    have := overK_eq no vs l κ
    rw [if_neg (by omega)] at this
    exact this
  | n + 1, [], _, _, _, _ => rfl
  | n + 1, x :: t, vs, κ, hv, h => putK_no no n t vs (fun r => κ (x :: r)) hv (by simp at h; omega)

noncomputable def appK {α : Type} (x : List α) : List α → (List α → β) → β :=
  List.rec (motive := fun _ => List α → (List α → β) → β) (fun y κ => κ y) (fun e _ ih y κ => ih y (fun r => κ (e :: r))) x
theorem appK_eq {α : Type} : ∀ (x y : List α) (κ : List α → β), appK x y κ = κ (x ++ y)
  | [], _, _ => rfl
  | e :: x, y, κ => appK_eq x y (fun r => κ (e :: r))
noncomputable def ifB (b : Bool) (x y : β) : β := Bool.rec (motive := fun _ => β) y x b
theorem ifB_eq (b : Bool) (x y : β) : ifB b x y = if b then x else y := by cases b <;> rfl
noncomputable def forceNat (n : Nat) : (Nat → β) → β := Nat.rec (motive := fun _ => (Nat → β) → β) (fun κ => κ 0) (fun n _ κ => κ (Nat.succ n)) n
theorem forceNat_eq (n : Nat) (κ : Nat → β) : forceNat n κ = κ n := by cases n <;> rfl
noncomputable def forceInt (n : Int) : (Int → β) → β := Int.rec (motive := fun _ => (Int → β) → β)
  (fun n κ => forceNat n (fun n => κ (.ofNat n))) (fun n κ => forceNat n (fun n => κ (.negSucc n))) n
theorem forceInt_eq (n : Int) (κ : Int → β) : forceInt n κ = κ n := by cases n <;> exact forceNat_eq _ _
end hot
noncomputable def eqBytes (x : List UInt8) : List UInt8 → Bool :=
  List.rec (motive := fun _ => List UInt8 → Bool) (fun y => List.rec (motive := fun _ => Bool) true (fun _ _ _ => false) y)
    (fun a _ ih y => List.rec (motive := fun _ => Bool) false (fun b t _ => Bool.rec (motive := fun _ => Bool) false (ih t) (Nat.beq a.toNat b.toNat)) y) x
theorem eqBytes_eq : ∀ (x y : List UInt8), eqBytes x y = decide (x = y)
  | [], [] => by simp [eqBytes]
  | [], _ :: _ => by simp [eqBytes]
  | _ :: _, [] => by simp [eqBytes]
  | a :: x, b :: y => by
    have ih := eqBytes_eq x y
    have e : eqBytes (a :: x) (b :: y) = Bool.rec (motive := fun _ => Bool) false (eqBytes x y) (Nat.beq a.toNat b.toNat) := rfl
    rw [e, ih]
    cases h : Nat.beq a.toNat b.toNat
    · have h2 := Nat.ne_of_beq_eq_false h
      have : a ≠ b := fun hab => h2 (by rw [hab])
      simp [this]
    · have h2 : a = b := UInt8.toNat_inj.1 (Nat.eq_of_beq_eq_true h)
      simp [h2]
noncomputable def lenOf {α : Type} (l : List α) : Nat := List.rec (motive := fun _ => Nat) 0 (fun _ _ ih => Nat.succ ih) l
theorem lenOf_eq {α : Type} : ∀ l : List α, lenOf l = l.length
  | [] => rfl
  | _ :: l => congrArg Nat.succ (lenOf_eq l)
noncomputable def bytesOf (l : List UInt8) : List Value := List.rec (motive := fun _ => List Value) [] (fun b _ ih => .int .u8 (.ofNat b.toNat) :: ih) l
theorem bytesOf_eq : ∀ l : List UInt8, bytesOf l = l.map fun b => .int .u8 (.ofNat b.toNat)
  | [] => rfl
  | _ :: l => congrArg _ (bytesOf_eq l)
end Go.Clo
namespace Go.Clo

inductive XO where
  | tmp (p : Pa)
  | const (v : Value)
/-- how two values of a type are held against each other -/
inductive XE where
  | int (k : IntKind)
  | str | bool | ptr | nilS | nilM | nilF | iface
  | struct (fs : List XE)
  | bad

inductive XOp where
  | move (x : XO)
  | pick (c a b : XO)
  | alloc (zero : List Value) (e : TypeId)
  | box (e : TypeId) (x : XO)
  | build (zero : List Value) (parts : List (Nat × Nat × XO))
  | buildSlice (e : TypeId) (len : Nat) (zero : List Value) (parts : List (Nat × Nat × XO))
  | load1 (x : XO)
  | loadN (s : Nat) (x : XO)
  | store (s : Nat) (x y : XO)
  | nilCheck (x : XO)
  | bin (op : BinOp) (eq : XE) (x y : XO)
  | not (x : XO)
  | convInt (k : IntKind) (x : XO)
  | convStr (e : TypeId) (x : XO)
  | convBytes (x : XO)
  | unsafeP (e : TypeId) (s : Nat) (x : XO)
  | convSS (x : XO)
  | mkIface (t : TypeId) (x : XO)
  | mkFunc (fn : Fn) (first captured : List XO)
  | mkMap (t : XE)
  | mkSlice (e : TypeId) (zero : List Value) (l c : XO)
  | sliceStr (x : XO) (lo hi : Option XO)
  | sliceS (e size : Nat) (x : XO) (lo hi mx : Option XO)
  | fieldAddr (off : Nat) (x : XO)
  | field1 (off : Nat) (x : XO)
  | fieldN (off s : Nat) (x : XO)
  | idxA (len s : Nat) (x i : XO)
  | idxS (s : Nat) (x i : XO)
  | index1 (len : Nat) (x i : XO)
  | indexStr (x i : XO)
  | lookup (kt : XE) (zero : Value) (x i : XO) (ok : Bool)
  | mapUpdate (kt : XE) (m k v : XO)
  | assertC (t : TypeId) (zero : Value) (x : XO) (ok : Bool)
  | assertI (want : Array (String × TypeId)) (zero : Value) (x : XO) (ok : Bool)
  | extract (x : XO) (i : Nat)
  | callF (f : FuncId) (args : List XO)
  | callV (x : XO) (args : List XO)
  | callI (x : XO) (name : String) (args : List XO)
  | lenStr (x : XO)
  | lenSl (x : XO)
  | lenMap (x : XO)
  | cap (x : XO)
  | append (e size : Nat) (s x : XO)
  | appendMake (e size : Nat) (zero : List Value) (s x : XO)
  | minmax (mx : Bool) (xs : List XO)
  | clear (size : Nat) (zero : List Value) (x : XO)
  | sliceData (x : XO)
  | unsafeString (e : TypeId) (x l : XO)
  | recover
  | deferV (x : XO) (args : List XO)
  | panic (x : XO)
  | bad

structure XOper where
  op : XOp
  dst : Option Pa
  guard : Option (Pa × Bool)

/-- operations that read the heap -/
def isR : XOp → Bool
  | .load1 _ | .loadN _ _ | .lookup _ _ _ _ _ | .lenMap _ | .convBytes _ | .unsafeP _ _ _ | .sliceData _ | .sliceS _ _ _ _ _ _ => true
  | _ => false
/-- operations that change it, that hand on -/
def isE : XOp → Bool
  | .store _ _ _ | .mapUpdate _ _ _ _ | .append _ _ _ _ | .appendMake _ _ _ _ _ | .clear _ _ _ | .unsafeString _ _ _ | .callF _ _ | .callV _ _ | .callI _ _ _ | .recover | .deferV _ _ | .panic _ | .bad => true
  | _ => false
def isPanic : XOp → Bool
  | .panic _ => true
  | _ => false
/-- operations that may lay a block -/
def isA : XOp → Bool
  | .alloc _ _ | .box _ _ | .buildSlice _ _ _ _ | .mkMap _ | .mkSlice _ _ _ _ | .convStr _ _ => true
  | _ => false
/-- what an operation looks at -/
def xops : XOp → List XO
  | .move x => [x] | .pick c a b => [c, a, b] | .alloc _ _ => [] | .box _ x => [x] | .build _ ps => ps.map (·.2.2) | .buildSlice _ _ _ ps => ps.map (·.2.2)
  | .load1 x => [x] | .loadN _ x => [x] | .store _ x y => [x, y] | .nilCheck x => [x] | .bin _ _ x y => [x, y] | .not x => [x] | .convInt _ x => [x] | .convStr _ x => [x] | .convBytes x => [x]
  | .unsafeP _ _ x => [x] | .convSS x => [x] | .mkIface _ x => [x] | .mkFunc _ f c => f ++ c | .mkMap _ => [] | .mkSlice _ _ l c => [l, c] | .sliceStr x lo hi => x :: (lo.toList ++ hi.toList)
  | .sliceS _ _ x lo hi mx => x :: (lo.toList ++ (hi.toList ++ mx.toList)) | .fieldAddr _ x => [x] | .field1 _ x => [x] | .fieldN _ _ x => [x] | .idxA _ _ x i => [x, i] | .idxS _ x i => [x, i] | .index1 _ x i => [x, i] | .indexStr x i => [x, i]
  | .lookup _ _ x i _ => [x, i] | .mapUpdate _ m k v => [m, k, v] | .assertC _ _ x _ => [x] | .assertI _ _ x _ => [x] | .extract x _ => [x] | .callF _ l => l | .callV x l => x :: l | .callI x _ l => x :: l
  | .lenStr x => [x] | .lenSl x => [x] | .lenMap x => [x] | .cap x => [x] | .append _ _ s x => [s, x] | .appendMake _ _ _ s x => [s, x] | .minmax _ l => l | .clear _ _ x => [x] | .sliceData x => [x] | .unsafeString _ x l => [x, l]
  | .recover => [] | .deferV x l => x :: l | .panic x => [x] | .bad => []

/-- a stage of a drawn region: blocks told of ahead of it, the operation, the readings looked at again, those that may be done now -/
structure XStage where
  adopts : List Nat
  eff : Nat
  effX : XOper
  rechecks : List (Nat × XOper)
  evals : List (Nat × XOper)
  /-- another entry laid into the same map, in either order -/
  pair : Option (Nat × XOper)
inductive XC where
  | skip
  | region (ops : List XOper)
  | drawn (evals : List (Nat × XOper)) (stages : List XStage) (last : List Nat)
  | seq (a b : XC)
  | cond (c : XO) (thn els : XC)
  | block (id : Nat) (body : XC)
  | loop (body : XC)
  | rangeFunc (f : XO) (params : List Pa) (assign body : XC)
  | exit (id : Nat)
  | scope (body : XC)
  | ret
  | bad

inductive AO where
  | gone
  | cells (c : List Value) (elem : TypeId) (unk : Bool)
  | ro (c : List Value)
  | map (t : XE) (es : List (Value × Value))
  | loop (st : LoopState) (pend : Option Code) (fn : FuncId) (tm : TV) (params : List Pa) (assign body : XC) (defers : Nat)
  | deferred (taken : Bool)

inductive TH where
  | e
  | n (l : TH) (o : AO) (r : TH)

def TH.getO : TH → Nat → AO
  | .e, _ => .gone
  | .n l o r, k => match k with
    | 0 => o
    | k + 1 => bif Nat.beq (Nat.mod k 2) 0 then l.getO (Nat.div k 2) else r.getO (Nat.div k 2)
section
variable {β : Type}
noncomputable def TH.getK (t : TH) : Nat → (AO → β) → β :=
  TH.rec (motive := fun _ => Nat → (AO → β) → β) (fun _ κ => κ .gone)
    (fun _ o _ gl gr k => Nat.rec (motive := fun _ => (AO → β) → β) (fun κ => κ o)
      (fun k _ => Bool.rec (motive := fun _ => (AO → β) → β) (gr (Nat.div k 2)) (gl (Nat.div k 2)) (Nat.beq (Nat.mod k 2) 0)) k) t
theorem TH.getK_eq : ∀ (t : TH) (k : Nat) (κ : AO → β), t.getK k κ = κ (t.getO k)
  | .e, _, _ => rfl
  | .n _ _ _, 0, _ => rfl
  | .n l o r, k + 1, κ => by
    have hl := TH.getK_eq l (Nat.div k 2) κ
    have hr := TH.getK_eq r (Nat.div k 2) κ
    have e : (TH.n l o r).getK (k + 1) κ = Bool.rec (motive := fun _ => (AO → β) → β) (r.getK (Nat.div k 2)) (l.getK (Nat.div k 2)) (Nat.beq (Nat.mod k 2) 0) κ := rfl
    rw [e]
    simp only [TH.getO]
    cases Nat.beq (Nat.mod k 2) 0
    · exact hr
    · exact hl
noncomputable def TH.mk (f : Nat) : Nat → AO → (TH → β) → β :=
  Nat.rec (motive := fun _ => Nat → AO → (TH → β) → β) (fun _ o κ => κ (.n .e o .e))
    (fun _ ih k => Nat.rec (motive := fun _ => AO → (TH → β) → β) (fun o κ => κ (.n .e o .e))
      (fun k _ o κ => Bool.rec (motive := fun _ => β) (ih (Nat.div k 2) o (fun t => κ (.n .e .gone t))) (ih (Nat.div k 2) o (fun t => κ (.n t .gone .e))) (Nat.beq (Nat.mod k 2) 0)) k) f
noncomputable def TH.set (t : TH) : Nat → AO → (TH → β) → β :=
  TH.rec (motive := fun _ => Nat → AO → (TH → β) → β) (fun k => TH.mk k k)
    (fun l x r sl sr k => Nat.rec (motive := fun _ => AO → (TH → β) → β) (fun o κ => κ (.n l o r))
      (fun k _ o κ => Bool.rec (motive := fun _ => β) (sr (Nat.div k 2) o (fun t => κ (.n l x t))) (sl (Nat.div k 2) o (fun t => κ (.n t x r))) (Nat.beq (Nat.mod k 2) 0)) k) t
end
theorem TH.getO_e (k : Nat) : TH.e.getO k = .gone := rfl
/-- what 'mk' and 'set' hand on -/
theorem TH.mk_ex : ∀ (f k : Nat) (o : AO), k ≤ f → ∃ t : TH, (∀ {β : Type} (κ : TH → β), TH.mk f k o κ = κ t) ∧ ∀ j, t.getO j = if j = k then o else .gone
  | 0, k, o, h => by
    have : k = 0 := by omega
    subst this
    refine ⟨.n .e o .e, fun κ => rfl, fun j => ?_⟩
    cases j with
    | zero => rfl
    | succ j => simp only [TH.getO]; cases Nat.beq (Nat.mod j 2) 0 <;> simp
  | f + 1, 0, o, _ => by
    refine ⟨.n .e o .e, fun κ => rfl, fun j => ?_⟩
    cases j with
    | zero => rfl
    | succ j => simp only [TH.getO]; cases Nat.beq (Nat.mod j 2) 0 <;> simp
  | f + 1, k + 1, o, h => by
    have e3 : Nat.mod k 2 = k % 2 := rfl
    have e4 : Nat.div k 2 = k / 2 := rfl
    obtain ⟨t, ht, hg⟩ := TH.mk_ex f (Nat.div k 2) o (by rw [e4]; omega)
    cases hb : Nat.beq (Nat.mod k 2) 0 with
    | false =>
      refine ⟨.n .e .gone t, fun {β} κ => ?_, fun j => ?_⟩
      · have e : TH.mk (f + 1) (k + 1) o κ = Bool.rec (motive := fun _ => β) (TH.mk f (Nat.div k 2) o (fun t => κ (.n .e .gone t))) (TH.mk f (Nat.div k 2) o (fun t => κ (.n t .gone .e))) (Nat.beq (Nat.mod k 2) 0) := rfl
        rw [e, hb]; exact ht _
      · cases j with
        | zero => simp [TH.getO]
        | succ j =>
          have j3 : Nat.mod j 2 = j % 2 := rfl
          have j4 : Nat.div j 2 = j / 2 := rfl
          have hb' := Nat.ne_of_beq_eq_false hb
          cases hj : Nat.beq (Nat.mod j 2) 0 with
          | false =>
            have hj' := Nat.ne_of_beq_eq_false hj
            simp only [TH.getO, hj, cond_false, hg]
            have : (Nat.div j 2 = Nat.div k 2) = (j + 1 = k + 1) := by rw [j4, e4]; apply propext; omega
            simp only [this]
          | true =>
            have hj' := Nat.eq_of_beq_eq_true hj
            simp only [TH.getO, hj, cond_true]
            rw [if_neg (by omega)]
    | true =>
      refine ⟨.n t .gone .e, fun {β} κ => ?_, fun j => ?_⟩
      · have e : TH.mk (f + 1) (k + 1) o κ = Bool.rec (motive := fun _ => β) (TH.mk f (Nat.div k 2) o (fun t => κ (.n .e .gone t))) (TH.mk f (Nat.div k 2) o (fun t => κ (.n t .gone .e))) (Nat.beq (Nat.mod k 2) 0) := rfl
        rw [e, hb]; exact ht _
      · cases j with
        | zero => simp [TH.getO]
        | succ j =>
          have j3 : Nat.mod j 2 = j % 2 := rfl
          have j4 : Nat.div j 2 = j / 2 := rfl
          have hb' := Nat.eq_of_beq_eq_true hb
          cases hj : Nat.beq (Nat.mod j 2) 0 with
          | true =>
            have hj' := Nat.eq_of_beq_eq_true hj
            simp only [TH.getO, hj, cond_true, hg]
            have : (Nat.div j 2 = Nat.div k 2) = (j + 1 = k + 1) := by rw [j4, e4]; apply propext; omega
            simp only [this]
          | false =>
            have hj' := Nat.ne_of_beq_eq_false hj
            simp only [TH.getO, hj, cond_false]
            rw [if_neg (by omega)]
theorem TH.set_ex : ∀ (t : TH) (k : Nat) (o : AO), ∃ t' : TH, (∀ {β : Type} (κ : TH → β), t.set k o κ = κ t') ∧ ∀ j, t'.getO j = if j = k then o else t.getO j
  | .e, k, o => by
    obtain ⟨t, ht, hg⟩ := TH.mk_ex k k o (Nat.le_refl k)
    exact ⟨t, ht, fun j => by rw [hg, TH.getO_e]⟩
  | .n l x r, 0, o => by
    refine ⟨.n l o r, fun κ => rfl, fun j => ?_⟩
    cases j with
    | zero => rfl
    | succ j => simp only [TH.getO]; cases Nat.beq (Nat.mod j 2) 0 <;> simp
  | .n l x r, k + 1, o => by
    have e3 : Nat.mod k 2 = k % 2 := rfl
    have e4 : Nat.div k 2 = k / 2 := rfl
    cases hb : Nat.beq (Nat.mod k 2) 0 with
    | false =>
      obtain ⟨t, ht, hg⟩ := TH.set_ex r (Nat.div k 2) o
      refine ⟨.n l x t, fun {β} κ => ?_, fun j => ?_⟩
      · have e : (TH.n l x r).set (k + 1) o κ = Bool.rec (motive := fun _ => β) (r.set (Nat.div k 2) o (fun t => κ (.n l x t))) (l.set (Nat.div k 2) o (fun t => κ (.n t x r))) (Nat.beq (Nat.mod k 2) 0) := rfl
        rw [e, hb]; exact ht _
      · cases j with
        | zero => simp [TH.getO]
        | succ j =>
          have j3 : Nat.mod j 2 = j % 2 := rfl
          have j4 : Nat.div j 2 = j / 2 := rfl
          have hb' := Nat.ne_of_beq_eq_false hb
          cases hj : Nat.beq (Nat.mod j 2) 0 with
          | false =>
            have hj' := Nat.ne_of_beq_eq_false hj
            simp only [TH.getO, hj, cond_false, hg]
            have : (Nat.div j 2 = Nat.div k 2) = (j + 1 = k + 1) := by rw [j4, e4]; apply propext; omega
            simp only [this]
          | true =>
            have hj' := Nat.eq_of_beq_eq_true hj
            simp only [TH.getO, hj, cond_true]
            rw [if_neg (by omega)]
    | true =>
      obtain ⟨t, ht, hg⟩ := TH.set_ex l (Nat.div k 2) o
      refine ⟨.n t x r, fun {β} κ => ?_, fun j => ?_⟩
      · have e : (TH.n l x r).set (k + 1) o κ = Bool.rec (motive := fun _ => β) (r.set (Nat.div k 2) o (fun t => κ (.n l x t))) (l.set (Nat.div k 2) o (fun t => κ (.n t x r))) (Nat.beq (Nat.mod k 2) 0) := rfl
        rw [e, hb]; exact ht _
      · cases j with
        | zero => simp [TH.getO]
        | succ j =>
          have j3 : Nat.mod j 2 = j % 2 := rfl
          have j4 : Nat.div j 2 = j / 2 := rfl
          have hb' := Nat.eq_of_beq_eq_true hb
          cases hj : Nat.beq (Nat.mod j 2) 0 with
          | true =>
            have hj' := Nat.eq_of_beq_eq_true hj
            simp only [TH.getO, hj, cond_true, hg]
            have : (Nat.div j 2 = Nat.div k 2) = (j + 1 = k + 1) := by rw [j4, e4]; apply propext; omega
            simp only [this]
          | false =>
            have hj' := Nat.ne_of_beq_eq_false hj
            simp only [TH.getO, hj, cond_false]
            rw [if_neg (by omega)]
end Go.Clo
namespace Go.Clo

def O : Nat := 1000000
def unkCap : Nat := 18446744073709551616

/-- where an own block lies, how many elements it holds (where that is open); where an empty slice of open capacity points -/
structure Env where
  loc : Nat → Nat
  cap : Nat → Nat
  off : Nat → Nat

def rlB (ρ : Env) (b : Nat) : Nat := if b < O then b else ρ.loc (b - O)
def rlA (ρ : Env) (a : Addr) : Addr := ⟨rlB ρ a.block, a.off, a.spot⟩
/-- a slice's address: a spot marks an empty slice of which it is open where it points -/
def rlS (ρ : Env) (a : Addr) : Addr := match a.spot with
  | none => rlA ρ a
  | some _ => ⟨ρ.loc (a.block - O), ρ.off (a.block - O), none⟩
@[simp] theorem rlS_none (ρ : Env) (b off : Nat) : rlS ρ ⟨b, off, none⟩ = ⟨rlB ρ b, off, none⟩ := rfl
@[simp] theorem rlS_some (ρ : Env) (k off s : Nat) : rlS ρ ⟨O + k, off, some s⟩ = ⟨ρ.loc k, ρ.off k, none⟩ := by simp [rlS]
def rlC (ρ : Env) (a : Option Addr) (c : Nat) : Nat :=
  if c < unkCap then c else match a with
    | some a => ρ.cap (a.block - O) - (c - unkCap)
    | none => c
def rlF (ρ : Env) : Fn → Fn
  | .yield l => .yield (rlB ρ l)
  | .func f => .func f
  | .method n => .method n
  | .methodOf t n => .methodOf t n
  | .via t p f b => .via t p f b

mutual
def rlV (ρ : Env) : Value → Value
  | .bool b => .bool b
  | .int k n => .int k n
  | .float k n => .float k n
  | .complex k a b => .complex k a b
  | .string s => .string s
  | .pointer a => .pointer (a.map (rlA ρ))
  | .slice a l c => .slice (a.map (rlS ρ)) l (rlC ρ a c)
  | .map r => .map (r.map (rlB ρ))
  | .chan r => .chan r
  | .func fn a b => .func (rlF ρ fn) (rlR ρ a) (rlR ρ b)
  | .nilFunc => .nilFunc
  | .iface t v => .iface t (rlV ρ v)
  | .nilIface => .nilIface
  | .agg l => .agg (rlR ρ l)
  | .tuple l => .tuple (rlR ρ l)
def rlR (ρ : Env) : Array Value → Array Value
  | ⟨l⟩ => ⟨rlL ρ l⟩
def rlL (ρ : Env) : List Value → List Value
  | [] => []
  | v :: l => rlV ρ v :: rlL ρ l
end
theorem rlL_eq (ρ : Env) : ∀ l, rlL ρ l = l.map (rlV ρ)
  | [] => by simp [rlL]
  | v :: l => by simp [rlL, rlL_eq ρ l]
theorem rlR_eq (ρ : Env) (a : Array Value) : rlR ρ a = ⟨a.toList.map (rlV ρ)⟩ := by
  cases a with
  | mk l => rw [rlR, rlL_eq]
@[simp] theorem rlR_mk (ρ : Env) (l : List Value) : rlR ρ ⟨l⟩ = ⟨l.map (rlV ρ)⟩ := rlR_eq ρ ⟨l⟩
@[simp] theorem rlR_size (ρ : Env) (a : Array Value) : (rlR ρ a).size = a.size := by rw [rlR_eq]; simp

/-- a value that no move turns: no own block, no open capacity -/
def plain0 : Value → Bool
  | .bool _ | .int _ _ | .string _ | .nilFunc | .nilIface | .float _ _ | .complex _ _ _ => true
  | .pointer none | .map none | .chan _ => true
  | .pointer (some a) => Nat.blt a.block O
  | .slice none _ c => Nat.blt c unkCap
  | .func (.func _) ⟨[]⟩ ⟨[]⟩ => true
  | _ => false
def plainL : List Value → Bool
  | [] => true
  | v :: l => bif plain0 v then plainL l else false
def plainV : Value → Bool
  | .agg ⟨l⟩ => plainL l
  | v => plain0 v
theorem blt_iff {a b : Nat} : Nat.blt a b = true ↔ a < b := by
  rw [Nat.blt, Nat.ble_eq]; omega
theorem rlV_plain0 (ρ : Env) (v : Value) (h : plain0 v = true) : rlV ρ v = v := by
  unfold plain0 at h
  split at h <;> first
    | rfl
    | (simp at h)
    | skip
  · simp [rlV, rlA, rlB, h]
  · simp [rlV, rlC, h]
theorem rlV_plainL (ρ : Env) : ∀ l, plainL l = true → l.map (rlV ρ) = l
  | [], _ => rfl
  | v :: l, h => by
    simp only [plainL] at h
    cases hv : plain0 v
    · rw [hv] at h; simp at h
    · rw [hv] at h
      simp only [cond_true] at h
      rw [List.map_cons, rlV_plain0 ρ v hv, rlV_plainL ρ l h]
theorem rlV_plain (ρ : Env) (v : Value) (h : plainV v = true) : rlV ρ v = v := by
  unfold plainV at h
  split at h
  · simp [rlV, rlV_plainL ρ _ h]
  · exact rlV_plain0 ρ v h

@[simp] theorem rlV_undef (ρ : Env) : rlV ρ undefV = undefV := by simp [undefV, rlV]
theorem undefV_eq : undefV = undef := rfl

/-- a cell of one value: neither aggregate nor tuple -/
def oneCell : Value → Bool
  | .agg _ | .tuple _ => false
  | _ => true
@[simp] theorem oneCell_rlV (ρ : Env) (v : Value) : oneCell (rlV ρ v) = oneCell v := by cases v <;> simp [rlV, oneCell]
def oneL : List Value → Bool
  | [] => true
  | v :: l => bif oneCell v then oneL l else false
theorem oneL_iff : ∀ l, oneL l = true ↔ ∀ v ∈ l, oneCell v = true
  | [] => by simp [oneL]
  | v :: l => by
    have := oneL_iff l
    cases h : oneCell v <;> simp [oneL, h, this]
theorem oneL_rlV (ρ : Env) (l : List Value) : oneL (l.map (rlV ρ)) = oneL l := by
  induction l with
  | nil => rfl
  | cons v l ih => simp [oneL, ih]

theorem cells_rlV (ρ : Env) (v : Value) : (rlV ρ v).cells.toList = v.cells.toList.map (rlV ρ) := by
  cases v with
  | agg l => cases l; simp [rlV, Value.cells]
  | _ => simp [rlV, Value.cells]
theorem cells_size_rlV (ρ : Env) (v : Value) : (rlV ρ v).cells.size = v.cells.size := by
  have := congrArg List.length (cells_rlV ρ v)
  simpa using this
end Go.Clo
namespace Go.Clo

structure Tab where
  tt : TT TypeInfo
  ff : TT Func
  /-- struct types that may be held against each other -/
  eqs : List TypeId
  /-- externs that hand their argument back -/
  ids : List FuncId

section xl
variable (G : Tab) (N : Nat)
def und (t : TypeId) : Option TypeDesc :=
  match G.tt.get t with
  | some i => match i.desc with
    | .named _ u => match G.tt.get u with
      | some j => some j.desc
      | none => none
    | d => some d
  | none => none
def isAggD : TypeDesc → Bool
  | .struct _ | .array _ _ => true
  | _ => false
def size? (t : TypeId) : Option Nat := match G.tt.get t with | some i => some i.size | none => none
/-- the zero value, if it is plain and as long as its type -/
def zero? (t : TypeId) : Option Value := match G.tt.get t with
  | some i => match i.zero with
    | some z => bif plainV z then (bif Nat.beq z.cells.toList.length i.size then some z else none) else none
    | none => none
  | none => none
def plainX : Operand → Bool
  | .tmp t => Nat.blt t N
  | .const v => plainV v
  | .global g => Nat.blt g O
  | .func _ => true
def plainXs : List Operand → Bool
  | [] => true
  | x :: l => bif plainX N x then plainXs l else false
def xo : Operand → XO
  | .tmp t => .tmp (Pa.of t)
  | .const v => .const v
  | .global g => .const (.pointer (some ⟨g, 0, none⟩))
  | .func f => .const (.func (.func f) #[] #[])
def xbase (t : TypeId) : XE := match und G t with
  | some (.int k) => .int k
  | some .string => .str
  | some .bool => .bool
  | _ => .bad
/-- the fields of a struct, one cell each -/
def xfields : List Field → Nat → List XE
  | [], _ => []
  | f :: fs, i => (bif Nat.beq f.offset i then (bif f.name == "_" then .bad else xbase G f.type) else .bad) :: xfields fs (i + 1)
def memN : List Nat → Nat → Bool
  | [], _ => false
  | a :: l, b => bif Nat.beq a b then true else memN l b
/-- the keys of maps: integers, strings, structs of such -/
def xkey (t : TypeId) : XE := match und G t with
  | some (.int k) => .int k
  | some .string => .str
  | some .bool => .bool
  | some (.struct fs) => bif memN G.eqs t then .struct (xfields G fs.toList 0) else .bad
  | _ => .bad
def xeq (t : TypeId) : XE := match und G t with
  | some (.int k) => .int k
  | some .string => .str
  | some .bool => .bool
  | some (.pointer e) => match size? G e with
    | some (_ + 1) => .ptr
    | _ => .bad
  | some (.slice _) => .nilS
  | some (.map _ _) => .nilM
  | some (.func _ _ _) => .nilF
  | some (.interface ms) => bif ms.isEmpty then .iface else .bad
  | some (.struct fs) => bif memN G.eqs t then .struct (xfields G fs.toList 0) else .bad
  | _ => .bad
def nthF : List Field → Nat → Option Field
  | [], _ => none
  | f :: l, k => match k with
    | 0 => some f
    | k + 1 => nthF l k
def field? (t : TypeId) (i : Nat) : Option Field := match und G t with
  | some (.struct fs) => nthF fs.toList i
  | _ => none
def reps {α : Type} (z : List α) : Nat → List α
  | 0 => []
  | n + 1 => z ++ reps z n
/-- the places of a struct's fields -/
def places : List Field → Option (List (Nat × Nat))
  | [] => some []
  | f :: fs => match size? G f.type, places fs with
    | some s, some l => some ((f.offset, s) :: l)
    | _, _ => none
def nth2 : List (Nat × Nat) → Nat → Option (Nat × Nat)
  | [], _ => none
  | f :: l, k => match k with
    | 0 => some f
    | k + 1 => nth2 l k
def xparts (pl : Nat → Option (Nat × Nat)) : List (Nat × Operand) → Option (List (Nat × Nat × XO))
  | [] => some []
  | (i, x) :: l => match pl i, xparts pl l with
    | some (o, s), some r => some ((o, s, xo x) :: r)
    | _, _ => none
def xcall (b : Builtin) (at_ : List TypeId) (args : List Operand) : XOp :=
  match b, args with
  | .len, [x] => match at_ with
    | t :: _ => match und G t with
      | some .string => .lenStr (xo x)
      | some (.slice _) => .lenSl (xo x)
      | some (.map _ _) => .lenMap (xo x)
      | _ => .bad
    | _ => .bad
  | .cap, [x] => match at_ with
    | t :: _ => match und G t with
      | some (.slice _) => .cap (xo x)
      | _ => .bad
    | _ => .bad
  | .append, [s, x] => match at_ with
    | [t, t2] => match und G t with
      | some (.slice e) => match und G t2, zero? G e, G.tt.get e with
        | some (.int _), some z, some i => bif Nat.blt 0 i.size && Nat.blt 0 i.bytes && Nat.ble i.bytes 4096 then .appendMake e i.size z.cells.toList (xo s) (xo x) else .bad
        | some (.slice _), some _, some i => bif Nat.blt 0 i.size && Nat.blt 0 i.bytes && Nat.ble i.bytes 4096 then .append e i.size (xo s) (xo x) else .bad
        | some .string, some _, some i => bif Nat.beq i.size 1 && Nat.blt 0 i.bytes && Nat.ble i.bytes 4096 then .append e i.size (xo s) (xo x) else .bad
        | _, _, _ => .bad
      | _ => .bad
    | _ => .bad
  | .min, x :: xs => .minmax false (xo x :: xs.map xo)
  | .max, x :: xs => .minmax true (xo x :: xs.map xo)
  | .clear, [x] => match at_ with
    | t :: _ => match und G t with
      | some (.slice e) => match zero? G e, G.tt.get e with
        | some z, some i => bif Nat.blt 0 i.size then .clear i.size z.cells.toList (xo x) else .bad
        | _, _ => .bad
      | _ => .bad
    | _ => .bad
  | .unsafeSliceData, [x] => .sliceData (xo x)
  | .unsafeString, [x, l] => match at_ with
    | t :: _ => match und G t with
      | some (.pointer e) => match und G e with
        | some (.int .u8) => match size? G e with
          | some 1 => .unsafeString e (xo x) (xo l)
          | _ => .bad
        | _ => .bad
      | _ => .bad
    | _ => .bad
  | .recover, [] => .recover
  | .panic, [x] => .panic (xo x)
  | _, _ => .bad
def xop (o : Oper) : XOp :=
  match o.op with
  | .move x => .move (xo x)
  | .assign x => .move (xo x)
  | .pick c a b => .pick (xo c) (xo a) (xo b)
  | .alloc e => match zero? G e with
    | some z => .alloc z.cells.toList e
    | none => .bad
  | .box e x => .box e (xo x)
  | .build t parts => match zero? G t, und G t with
    | some z, some (.struct fs) => match places G fs.toList with
      | some pl => match xparts (nth2 pl) parts.toList with
        | some ps => .build z.cells.toList ps
        | none => .bad
      | none => .bad
    | some z, some (.array _ e) => match size? G e with
      | some s => match xparts (fun i => some (i * s, s)) parts.toList with
        | some ps => .build z.cells.toList ps
        | none => .bad
      | none => .bad
    | _, _ => .bad
  | .buildSlice t len parts => match und G t with
    | some (.slice e) => match zero? G e, size? G e with
      | some z, some s => match xparts (fun i => some (i * s, s)) parts.toList with
        | some ps => bif Nat.blt 0 s && Nat.ble (len * s) 4096 then .buildSlice e len (reps z.cells.toList len) ps else .bad
        | none => .bad
      | _, _ => .bad
    | _ => .bad
  | .load t x => match und G t, size? G t with
    | some d, some s => bif isAggD d then .loadN s (xo x) else .load1 (xo x)
    | _, _ => .bad
  | .store t x y => match size? G t with
    | some s => .store s (xo x) (xo y)
    | none => .bad
  | .nilCheck x => .nilCheck (xo x)
  | .binOp op t x y _ => .bin op (match op with | .eql => xeq G t | .neq => xeq G t | _ => .bad) (xo x) (xo y)
  | .unOp op _ x => match op with
    | .not => .not (xo x)
    | _ => .bad
  | .convert src dst x => match und G src, und G dst with
    | some (.int _), some (.int k) => .convInt k (xo x)
    | some .string, some .string => .convSS (xo x)
    | some .string, some (.slice e) => match und G e with
      | some (.int .u8) => .convStr e (xo x)
      | _ => .bad
    | some (.slice e), some .string => match und G e with
      | some (.int .u8) => match size? G e with
        | some 1 => .convBytes (xo x)
        | _ => .bad
      | _ => .bad
    | some (.pointer e), some .unsafePointer => match size? G e with
      | some (s + 1) => .unsafeP e (s + 1) (xo x)
      | _ => .bad
    | some .unsafePointer, some (.pointer e) => match size? G e with
      | some (s + 1) => .unsafeP e (s + 1) (xo x)
      | _ => .bad
    | _, _ => .bad
  | .makeInterface t x => match und G t with
    | some (.interface _) => .bad
    | some _ => .mkIface t (xo x)
    | none => .bad
  | .makeFunc fn first cap => match fn with
    | .yield _ => .bad
    | _ => .mkFunc fn (first.toList.map xo) (cap.toList.map xo)
  | .makeMap t r => match r, und G t with
    | none, some (.map k _) => .mkMap (xkey G k)
    | _, _ => .bad
  | .makeSlice t l c => match und G t with
    | some (.slice e) => match zero? G e, G.tt.get e with
      | some z, some i => bif Nat.blt 0 i.size && Nat.blt 0 i.bytes && Nat.ble i.bytes 4096 then .mkSlice e z.cells.toList (xo l) (xo c) else .bad
      | _, _ => .bad
    | _ => .bad
  | .slice t x lo hi mx => match und G t with
    | some .string => match mx with
      | none => .sliceStr (xo x) (lo.map xo) (hi.map xo)
      | some _ => .bad
    | some (.slice e) => match size? G e with
      | some s => match hi, mx with
        | none, some _ => .bad
        | _, _ => bif Nat.blt 0 s then .sliceS e s (xo x) (lo.map xo) (hi.map xo) (mx.map xo) else .bad
      | none => .bad
    | _ => .bad
  | .fieldAddr s x i => match field? G s i with
    | some f => match size? G f.type with
      | some (_ + 1) => .fieldAddr f.offset (xo x)
      | _ => .bad
    | none => .bad
  | .field t x i => match field? G t i with
    | some f => match und G f.type, size? G f.type with
      | some d, some s => bif isAggD d then .fieldN f.offset s (xo x) else .field1 f.offset (xo x)
      | _, _ => .bad
    | none => .bad
  | .indexAddr t x i => match und G t with
    | some (.array len e) => match size? G e with
      | some s => .idxA len s (xo x) (xo i)
      | none => .bad
    | some (.slice e) => match size? G e with
      | some s => .idxS s (xo x) (xo i)
      | none => .bad
    | _ => .bad
  | .index t x i => match und G t with
    | some (.array len e) => match und G e, size? G e with
      | some d, some 1 => bif isAggD d then .bad else .index1 len (xo x) (xo i)
      | _, _ => .bad
    | some .string => .indexStr (xo x) (xo i)
    | _ => .bad
  | .lookup t x i ok => match und G t with
    | some (.map kt et) => match zero? G et with
      | some z => .lookup (xkey G kt) z (xo x) (xo i) ok
      | none => .bad
    | _ => .bad
  | .mapUpdate t m k x => match und G t with
    | some (.map kt _) => .mapUpdate (xkey G kt) (xo m) (xo k) (xo x)
    | _ => .bad
  | .insert t m k x => match und G t with
    | some (.map kt _) => .mapUpdate (xkey G kt) (xo m) (xo k) (xo x)
    | _ => .bad
  | .typeAssert x _ t ok => match und G t, zero? G t with
    | some (.interface want), some z => .assertI want z (xo x) ok
    | some _, some z => .assertC t z (xo x) ok
    | _, _ => .bad
  | .extract x i => .extract (xo x) i
  | .call c => match c.callee with
    | .builtin b => xcall G b c.argTypes.toList c.args.toList
    | .invoke r name => .callI (xo r) name (c.args.toList.map xo)
    | .value f => match f with
      | .func g => bif memN G.ids g then (match c.args.toList with | [x] => .move (xo x) | _ => .bad) else .callF g (c.args.toList.map xo)
      | f => .callV (xo f) (c.args.toList.map xo)
  | .defer c => match c.callee with
    | .value f => .deferV (xo f) (c.args.toList.map xo)
    | _ => .bad
  | .panic x => .panic (xo x)
  | _ => .bad
def okDst : Option Tmp → Bool
  | none => true
  | some d => Nat.blt d N
def nthO : List Oper → Nat → Option Oper
  | [], _ => none
  | f :: l, k => match k with
    | 0 => some f
    | k + 1 => nthO l k
def xoper (ops : List Oper) (o : Oper) : XOper :=
  bif plainXs N o.op.operands.toList && okDst N o.dst then
    match o.guard with
    | none => ⟨xop G o, o.dst.map Pa.of, none⟩
    | some (j, want) => match nthO ops j with
      | some p => match p.dst with
        | some d => bif Nat.blt d N then ⟨xop G o, o.dst.map Pa.of, some (Pa.of d, want)⟩ else ⟨.bad, none, none⟩
        | none => ⟨.bad, none, none⟩
      | none => ⟨.bad, none, none⟩
  else ⟨.bad, none, none⟩
/-- what an operation waits for -/
def predsOf (o : Oper) : List Nat := preds o.after.toList where
  preds : List Edge → List Nat
    | [] => []
    | e :: l => bif Region.binds .any e then e.on :: preds l else preds l
def nthM : List Nat → Nat → Nat
  | [], _ => 0
  | a :: l, k => match k with
    | 0 => a
    | k + 1 => nthM l k
/-- all that it waits for, as bits -/
def maskOf (ms : List Nat) : List Nat → Nat
  | [] => 0
  | p :: l => Nat.lor (Nat.lor (Nat.pow 2 p) (nthM ms p)) (maskOf ms l)
def masksOf : List Oper → List Nat → List Nat
  | [], ms => ms
  | o :: l, ms => masksOf l (ms ++ [maskOf ms (predsOf o)])
def bit (m i : Nat) : Bool := Nat.beq (Nat.mod (Nat.div m (Nat.pow 2 i)) 2) 1
structure PItem where
  i : Nat
  x : XOper
  m : Nat
def pitems : Nat → List XOper → List Nat → List PItem
  | i, x :: xs, m :: ms => ⟨i, x, m⟩ :: pitems (i + 1) xs ms
  | _, _, _ => []
def effMask : List PItem → Nat
  | [] => 0
  | p :: l => bif isE p.x.op then Nat.lor (Nat.pow 2 p.i) (effMask l) else effMask l
def sub (a b : Nat) : Bool := Nat.beq (Nat.land a b) a
def evals0 (em : Nat) : List PItem → List (Nat × XOper)
  | [] => []
  | p :: l => bif isE p.x.op then evals0 em l else bif Nat.beq (Nat.land p.m em) 0 then (p.i, p.x) :: evals0 em l else evals0 em l
def evalsOf (em prev cur : Nat) : List PItem → List (Nat × XOper)
  | [] => []
  | p :: l => bif isE p.x.op then evalsOf em prev cur l else bif sub (Nat.land p.m em) prev then evalsOf em prev cur l else
    bif sub (Nat.land p.m em) cur then (p.i, p.x) :: evalsOf em prev cur l else evalsOf em prev cur l
def rechecksOf (em prev mE : Nat) : List PItem → List (Nat × XOper)
  | [] => []
  | p :: l => bif isR p.x.op then (bif bit mE p.i then rechecksOf em prev mE l else bif sub (Nat.land p.m em) prev then (p.i, p.x) :: rechecksOf em prev mE l else rechecksOf em prev mE l) else rechecksOf em prev mE l
def adoptsOf (anc mE : Nat) : List PItem → List Nat
  | [] => []
  | p :: l => bif isA p.x.op then (bif bit mE p.i then (bif bit anc p.i then adoptsOf anc mE l else p.i :: adoptsOf anc mE l) else adoptsOf anc mE l) else adoptsOf anc mE l
def stagesOf (em : Nat) (all : List PItem) : Nat → Nat → List PItem → List XStage × Nat
  | _, anc, [] => ([], anc)
  | prev, anc, p :: l => bif isE p.x.op then
      match stagesOf em all (Nat.lor prev (Nat.pow 2 p.i)) (Nat.lor anc p.m) l with
      | (ss, a) => (⟨adoptsOf anc p.m all, p.i, p.x, rechecksOf em prev p.m all, evalsOf em prev (Nat.lor prev (Nat.pow 2 p.i)) all, none⟩ :: ss, a)
    else stagesOf em all prev anc l
def lastOf (anc : Nat) : List PItem → List Nat
  | [] => []
  | p :: l => bif isA p.x.op then (bif bit anc p.i then lastOf anc l else p.i :: lastOf anc l) else lastOf anc l
def nthL : List (List Nat) → Nat → List Nat
  | [], _ => []
  | a :: l, k => match k with
    | 0 => a
    | k + 1 => nthL l k
def ancL (ps : List (List Nat)) : Nat → List Nat → List Nat
  | 0, L => L
  | i + 1, L => bif memN L i then ancL ps i (nthL ps i ++ L) else ancL ps i L
def isU (x : XOper) : Bool := match x.op, x.dst, x.guard with
  | .mapUpdate _ _ _ _, none, none => true
  | _, _, _ => false
def noneL {α : Type} : List α → Bool
  | [] => true
  | _ => false
/-- entries that no edge orders -/
def pairUp (ps : List (List Nat)) : List XStage → List XStage
  | [] => []
  | a :: l => match l with
    | [] => [a]
    | b :: m => bif isU a.effX && isU b.effX && noneL a.evals && noneL b.adopts && !(memN (ancL ps b.eff (nthL ps b.eff)) a.eff) then
        { adopts := a.adopts, eff := a.eff, effX := a.effX, rechecks := a.rechecks, evals := b.evals, pair := some (b.eff, b.effX) } :: m else a :: pairUp ps l
/-- a drawn region, in stages -/
def plan (ops : List Oper) : XC :=
  match pitems 0 (ops.map (xoper G N ops)) (masksOf ops []) with
  | all => match effMask all with
    | em => match stagesOf em all 0 0 all with
      | (ss, anc) => .drawn (evals0 em all) (pairUp (ops.map predsOf) ss) (lastOf anc all)
/-! is the plan right? -/
def allIn (C : List Nat) : List Nat → Bool
  | [] => true
  | a :: l => bif memN C a then allIn C l else false
def allBelow (n : Nat) : List Nat → Bool
  | [] => true
  | a :: l => bif Nat.blt a n then allBelow n l else false
def dstIdx (t : Nat) : List Oper → Nat → Option Nat
  | [], _ => none
  | o :: l, i => match o.dst with
    | some d => bif Nat.beq d t then some i else dstIdx t l (i + 1)
    | none => dstIdx t l (i + 1)
/-- the writers of the slots that are looked at are waited for, or wait -/
def ownOK (ops : List Oper) (pss : List (List Nat)) (i : Nat) (ps : List Nat) : List Operand → Bool
  | [] => true
  | x :: l => bif (match x with
    | .tmp t => match dstIdx t ops 0 with
      | some j => memN ps j || Nat.beq j i || memN (ancL pss j (nthL pss j)) i
      | none => true
    | _ => true) then ownOK ops pss i ps l else false
def paBeq : Pa → Pa → Bool
  | .z, .z => true
  | .l p, .l q => paBeq p q
  | .r p, .r q => paBeq p q
  | _, _ => false
def inOps (p : Pa) : List Operand → Bool
  | [] => false
  | x :: l => match x with
    | .tmp t => bif paBeq (Pa.of t) p then true else inOps p l
    | _ => inOps p l
def xopsIn (l : List Operand) : List XO → Bool
  | [] => true
  | y :: ys => match y with
    | .tmp p => bif inOps p l then xopsIn l ys else false
    | .const _ => xopsIn l ys
def operOK (ops : List Oper) (pss : List (List Nat)) (i : Nat) (o : Oper) : Bool :=
  plainXs N o.op.operands.toList && okDst N o.dst && ownOK ops pss i (predsOf o) o.op.operands.toList && xopsIn o.op.operands.toList (xops (xop G o)) && allBelow i (predsOf o) &&
  (match o.dst with
    | some d => match dstIdx d ops 0 with
      | some j => Nat.beq j i
      | none => false
    | none => true) &&
  (match o.guard with
    | some (j, _) => memN (predsOf o) j
    | none => true) && !(isPanic (xop G o)) && !(match o.op with | .select _ _ => true | _ => false)
def opersOK (ops : List Oper) (pss : List (List Nat)) : Nat → List Oper → Bool
  | _, [] => true
  | i, o :: l => bif operOK G N ops pss i o then opersOK ops pss (i + 1) l else false
/-- what is not done, but for 'next', waits for something -/
def restOK (C : List Nat) (next : Option Nat) : Nat → List (List Nat) → Bool
  | _, [] => true
  | i, p :: ps => bif (memN C i || (match next with | some j => Nat.beq j i | none => false) || !(allIn C p)) then restOK C next (i + 1) ps else false
def evC (ps : List (List Nat)) (m : Nat) : List (Nat × XOper) → List Nat → Option (List Nat)
  | [], C => some C
  | p :: l, C => bif !(memN C p.1) && Nat.blt p.1 m && allIn C (nthL ps p.1) then evC ps m l (p.1 :: C) else none
def nthX : List XOper → Nat → Option XOper
  | [], _ => none
  | a :: l, k => match k with
    | 0 => some a
    | k + 1 => nthX l k
def isRead (xs : List XOper) (i : Nat) : Bool := match nthX xs i with
  | some x => isR x.op
  | none => true
def readsOK (xs : List XOper) (A rs : List Nat) : List Nat → Bool
  | [] => true
  | i :: C => bif isRead xs i then (bif memN A i || memN rs i then readsOK xs A rs C else false) else readsOK xs A rs C
/-- all writers of the slots that are looked at are waited for -/
def strictOK (ops : List Oper) (ps : List Nat) : List Operand → Bool
  | [] => true
  | x :: l => bif (match x with
    | .tmp t => match dstIdx t ops 0 with
      | some j => memN ps j
      | none => true
    | _ => true) then strictOK ops ps l else false
def strictL (ops : List Oper) : Nat → List Oper → List Nat
  | _, [] => []
  | i, o :: l => bif strictOK ops (predsOf o) o.op.operands.toList then i :: strictL ops (i + 1) l else strictL ops (i + 1) l
def chkOK (xs : List XOper) (ps : List (List Nat)) (st : List Nat) (m : Nat) (adopts : List Nat) (eff : Nat) (rs : List Nat) (C : List Nat) : Bool :=
    !(memN C eff) && Nat.blt eff m &&
    (match ancL ps eff (nthL ps eff) with
      | A => allIn A adopts && readsOK xs A rs C && allIn st rs && allIn C rs)
def stagesOK (xs : List XOper) (ps : List (List Nat)) (st : List Nat) (m : Nat) : List XStage → List Nat → Bool
  | [], C => restOK C none 0 ps
  | s :: ss, C => match s.pair with
    | none => restOK C (some s.eff) 0 ps && chkOK xs ps st m s.adopts s.eff (s.rechecks.map (·.1)) C &&
      (match evC ps m s.evals (s.eff :: C) with
        | some C' => stagesOK xs ps st m ss C'
        | none => false)
    | some e => chkOK xs ps st m s.adopts s.eff (s.rechecks.map (·.1)) C && chkOK xs ps st m s.adopts e.1 (s.rechecks.map (·.1)) C &&
      (restOK (s.eff :: C) (some e.1) 0 ps && chkOK xs ps st m [] e.1 (s.rechecks.map (·.1)) (s.eff :: C) &&
        (match evC ps m s.evals (e.1 :: s.eff :: C) with
          | some C' => stagesOK xs ps st m ss C'
          | none => false)) &&
      (restOK (e.1 :: C) (some s.eff) 0 ps && chkOK xs ps st m [] s.eff (s.rechecks.map (·.1)) (e.1 :: C) &&
        (match evC ps m s.evals (s.eff :: e.1 :: C) with
          | some C' => stagesOK xs ps st m ss C'
          | none => false))
def planOK (ops : List Oper) : Bool :=
  opersOK G N ops (ops.map predsOf) 0 ops &&
  (match plan G N ops with
    | .drawn ev ss _ => (match ops.map predsOf with
      | ps => match evC ps ops.length ev [] with
        | some C => stagesOK (ops.map (xoper G N ops)) ps (strictL ops 0 ops) ops.length ss C
        | none => false)
    | _ => false)
def allLt : List Nat → Bool
  | [] => true
  | t :: l => bif Nat.blt t N then allLt l else false
def xc : Code → XC
  | .skip => .skip
  | .label _ => .skip
  | .region _ ops draw => bif draw then plan G N ops.toList else .region (ops.toList.map (xoper G N ops.toList))
  | .seq a b => .seq (xc a) (xc b)
  | .cond c a b => bif plainX N c then .cond (xo c) (xc a) (xc b) else .bad
  | .block id b => .block id (xc b)
  | .loop b => .loop (xc b)
  | .rangeFunc f ps a b => bif plainX N f && allLt N ps.toList then .rangeFunc (xo f) (ps.toList.map Pa.of) (xc a) (xc b) else .bad
  | .exit id => .exit id
  | .scope b => .scope (xc b)
  | .goto _ => .bad
  | .ret => .ret
  | .refuse _ => .bad
/-- all drawn regions are planned rightly -/
def okC : Code → Bool
  | .region _ ops draw => bif draw then planOK G N ops.toList else true
  | .seq a b => bif okC a then okC b else false
  | .cond _ a b => bif okC a then okC b else false
  | .block _ b => okC b
  | .loop b => okC b
  | .rangeFunc _ _ a b => bif okC a then okC b else false
  | .scope b => okC b
  | _ => true
end xl

/-- a result: a temporary; or a cell's address, its size, whether aggregate -/
inductive XR where
  | tmp (x : XO)
  | cell (x : XO) (s : Nat) (ag : Bool)
  | bad
structure XF where
  nparams : Nat
  body : XC
  results : List XR
  params : List Pa
def xres (G : Tab) (N : Nat) : ResultVar → XR
  | .tmp t => bif Nat.blt t N then .tmp (.tmp (Pa.of t)) else .bad
  | .cell a t => bif Nat.blt a N then (match und G t, size? G t with
    | some d, some s => .cell (.tmp (Pa.of a)) s (isAggD d)
    | _, _ => .bad) else .bad
def pas : Nat → Nat → List Pa
  | 0, _ => []
  | n + 1, i => Pa.of i :: pas n (i + 1)
def xf (G : Tab) (f : Func) : Option XF :=
  match f.body with
  | none => none
  | some c => bif f.name == "runtime.NumGoroutine" then none else some { nparams := f.ntmps, body := xc G f.ntmps c, results := f.results.toList.map (xres G f.ntmps), params := pas f.ntmps 0 }
end Go.Clo
namespace Go.Clo

inductive Up where
  | no
  | quiet
  | chain (v : Value) (recovered : Bool)
structure Fx where
  ds : List Deferred
  up : Up
  round : Option Nat
inductive CRes where
  | ret (v : Value) (h : TH) (n : Nat)
  | panic (v : Value) (h : TH) (n : Nat)
  | fail (why : String)
inductive Res where
  | normal (tm : TV) (fx : Fx) (h : TH) (n : Nat)
  | exit (id : Nat) (tm : TV) (fx : Fx) (h : TH) (n : Nat)
  | ret (tm : TV) (fx : Fx) (h : TH) (n : Nat)
  | panic (v : Value) (tm : TV) (fx : Fx) (h : TH) (n : Nat)
  | fail (why : String)
inductive OR where
  | val (v : Value) (h : TH) (n : Nat)
  | call (f : FuncId) (args : List Value)
  | yield (l : Nat) (args : List Value)
  | defer (d : Deferred)
  | recover
  | panic (v : Value)
  | fail (why : String)

def goN (n : Nat) : Value := .int .i64 (.ofNat n)
def ilt : Int → Int → Bool
  | .ofNat a, .ofNat b => Nat.blt a b
  | .ofNat _, .negSucc _ => false
  | .negSucc _, .ofNat _ => true
  | .negSucc a, .negSucc b => Nat.blt b a
def ieq : Int → Int → Bool
  | .ofNat a, .ofNat b => Nat.beq a b
  | .negSucc a, .negSucc b => Nat.beq a b
  | _, _ => false
def wrapK (k : IntKind) (n : Int) : Int :=
  match k with
  | .i64 => match n with
    | .ofNat m => bif Nat.blt m 4611686018427387904 then n else k.wrap n
    | .negSucc m => bif Nat.blt m 4611686018427387904 then n else k.wrap n
  | _ => k.wrap n
def iadd : Int → Int → Int
  | .ofNat a, .ofNat b => .ofNat (Nat.add a b)
  | x, y => Int.add x y
def isub : Int → Int → Int
  | .ofNat a, .ofNat b => bif Nat.ble b a then .ofNat (Nat.sub a b) else .negSucc (Nat.sub (Nat.sub b a) 1)
  | x, y => Int.sub x y
def kindNo : IntKind → Nat
  | .i8 => 0 | .i16 => 1 | .i32 => 2 | .i64 => 3 | .u8 => 4 | .u16 => 5 | .u32 => 6 | .u64 => 7

section views
variable {β : Type}
def ptrV (v : Value) : β → (Nat → Nat → β) → β := match v with
  | .pointer (some ⟨b, off, none⟩) => fun _ κ => κ b off
  | _ => fun no _ => no
def sliceV (v : Value) : β → (Option Addr → Nat → Nat → β) → β := match v with
  | .slice a l c => fun _ κ => κ a l c
  | _ => fun no _ => no
def strV (v : Value) : β → (List UInt8 → β) → β := match v with
  | .string ⟨⟨s⟩⟩ => fun _ κ => κ s
  | _ => fun no _ => no
def aggV (v : Value) : β → (List Value → β) → β := match v with
  | .agg ⟨l⟩ => fun _ κ => κ l
  | _ => fun no _ => no
def tupV (v : Value) : β → (List Value → β) → β := match v with
  | .tuple ⟨l⟩ => fun _ κ => κ l
  | _ => fun no _ => no
def boolV (v : Value) : β → (Bool → β) → β := match v with
  | .bool b => fun _ κ => κ b
  | _ => fun no _ => no
def intV (v : Value) : β → (IntKind → Int → β) → β := match v with
  | .int k n => fun _ κ => κ k n
  | _ => fun no _ => no
def natV (v : Value) : β → (Nat → β) → β := match v with
  | .int _ (.ofNat n) => fun _ κ => κ n
  | _ => fun no _ => no
def ifaceV (v : Value) : β → β → (TypeId → Value → β) → β := match v with
  | .iface t v => fun _ _ κ => κ t v
  | .nilIface => fun _ nil _ => nil
  | _ => fun no _ _ => no
def funcV (v : Value) : β → (Fn → List Value → List Value → β) → β := match v with
  | .func fn ⟨a⟩ ⟨b⟩ => fun _ κ => κ fn a b
  | _ => fun no _ => no
def cellsV (v : Value) : (List Value → β) → β := match v with
  | .agg ⟨l⟩ => fun κ => κ l
  | v => fun κ => κ [v]
def rdO (o : AO) : β → (List Value → β) → β := match o with
  | .cells c _ _ => fun _ κ => κ c
  | .ro c => fun _ κ => κ c
  | _ => fun no _ => no
def wrO (o : AO) : β → (List Value → TypeId → Bool → β) → β := match o with
  | .cells c e u => fun _ κ => κ c e u
  | _ => fun no _ => no
def mapO (o : AO) : β → (XE → List (Value × Value) → β) → β := match o with
  | .map t es => fun _ κ => κ t es
  | _ => fun no _ => no
noncomputable def evK (x : XO) : TV → (Value → β) → β := XO.rec (motive := fun _ => TV → (Value → β) → β) (fun p => getK p) (fun v _ κ => κ v) x
noncomputable def ownK (no : β) (b : Nat) (κ : Nat → β) : β := ifB (Nat.blt b O) no (κ (Nat.sub b O))
noncomputable def rdK (no : β) (h : TH) (b : Nat) (κ : List Value → β) : β := ownK no b fun b => h.getK b fun o => rdO o no κ
noncomputable def wrK (no : β) (h : TH) (b : Nat) (κ : Nat → List Value → TypeId → Bool → β) : β := ownK no b fun b => h.getK b fun o => wrO o no (κ b)
noncomputable def newK (h : TH) (n : Nat) (o : AO) (κ : TH → Nat → β) : β := h.set n o fun h => κ h (Nat.succ n)
end views

def ptr (k : Nat) : Value := .pointer (some ⟨Nat.add O k, 0, none⟩)
def sl (k len cap : Nat) : Value := .slice (some ⟨Nat.add O k, 0, none⟩) len cap

noncomputable def baseX (t : XE) : Value → Value → Option Bool := match t with
  | .int k => fun x y => intV x none fun j a => intV y none fun j' b => ifB (Nat.beq (kindNo j) (kindNo k)) (ifB (Nat.beq (kindNo j') (kindNo k)) (some (ieq a b)) none) none
  | .str => fun x y => strV x none fun a => strV y none fun b => some (eqBytes a b)
  | .bool => fun x y => boolV x none fun a => boolV y none fun b => some (ifB a b (ifB b false true))
  | _ => fun _ _ => none
noncomputable def structX (fs : List XE) : List Value → List Value → Option Bool :=
  List.rec (motive := fun _ => List Value → List Value → Option Bool)
    (fun xs ys => List.rec (motive := fun _ => Option Bool) (List.rec (motive := fun _ => Option Bool) (some true) (fun _ _ _ => none) ys) (fun _ _ _ => none) xs)
    (fun t _ ih xs ys => List.rec (motive := fun _ => Option Bool) none (fun x xs _ => List.rec (motive := fun _ => Option Bool) none (fun y ys _ =>
      Option.rec (motive := fun _ => Option Bool) none (fun b => ifB b (ih xs ys) (some false)) (baseX t x y)) ys) xs) fs
def baseBeq : XE → XE → Bool
  | .int j, .int k => Nat.beq (kindNo j) (kindNo k)
  | .str, .str => true
  | .bool, .bool => true
  | _, _ => false
def baseBeqL : List XE → List XE → Bool
  | [], [] => true
  | a :: l, b :: m => bif baseBeq a b then baseBeqL l m else false
  | _, _ => false
def keyBeq : XE → XE → Bool
  | .struct l, .struct m => baseBeqL l m
  | a, b => baseBeq a b
def ptrX (x y : Value) : Option Bool := match x, y with
  | .pointer none, .pointer none => some true
  | .pointer none, .pointer (some _) => some false
  | .pointer (some _), .pointer none => some false
  | .pointer (some ⟨a, o, none⟩), .pointer (some ⟨b, p, none⟩) => bif Nat.beq a b then some (Nat.beq o p) else none
  | _, _ => none
def nilSX (x y : Value) : Option Bool := match x, y with
  | .slice none _ _, .slice none _ _ => some true
  | .slice none _ _, .slice (some _) _ _ => some false
  | .slice (some _) _ _, .slice none _ _ => some false
  | _, _ => none
def nilMX (x y : Value) : Option Bool := match x, y with
  | .map none, .map none => some true
  | .map none, .map (some _) => some false
  | .map (some _), .map none => some false
  | _, _ => none
def nilFX (x y : Value) : Option Bool := match x, y with
  | .nilFunc, .nilFunc => some true
  | .nilFunc, .func _ _ _ => some false
  | .func _ _ _, .nilFunc => some false
  | _, _ => none
def ifaceX (x y : Value) : Option Bool := match x, y with
  | .nilIface, .nilIface => some true
  | .nilIface, .iface _ _ => some false
  | .iface _ _, .nilIface => some false
  | _, _ => none
noncomputable def eqX (t : XE) : Value → Value → Option Bool := match t with
  | .ptr => ptrX
  | .nilS => nilSX
  | .nilM => nilMX
  | .nilF => nilFX
  | .iface => ifaceX
  | .struct fs => fun x y => aggV x none fun xs => aggV y none fun ys => structX fs xs ys
  | t => baseX t

section
variable {β : Type}
/-- keys: integers, strings, structs of such -/
noncomputable def keyX (t : XE) : Value → Value → Option Bool := match t with
  | .struct fs => fun x y => aggV x none fun xs => aggV y none fun ys => structX fs xs ys
  | t => baseX t
noncomputable def findX (es : List (Value × Value)) : XE → Value → Nat → β → β → (Nat → Value → β) → β :=
  List.rec (motive := fun _ => XE → Value → Nat → β → β → (Nat → Value → β) → β) (fun _ _ _ _ nf _ => nf)
    (fun e _ ih t k i no nf κ => Option.rec (motive := fun _ => β) no (fun b => ifB b (κ i e.2) (ih t k (Nat.succ i) no nf κ)) (keyX t k e.1)) es
/-- may it be a key of this type? -/
noncomputable def keyOk (t : XE) (k : Value) (no yes : β) : β := Option.rec (motive := fun _ => β) no (fun b => ifB b (ifB (plainV k) yes no) no) (keyX t k k)
noncomputable def modK (es : List (Value × Value)) : Nat → Value → Value → (List (Value × Value) → β) → β :=
  List.rec (motive := fun _ => Nat → Value → Value → (List (Value × Value) → β) → β) (fun _ _ _ κ => κ [])
    (fun e es ih i => Nat.rec (motive := fun _ => Value → Value → (List (Value × Value) → β) → β) (fun k v κ => κ ((k, v) :: es)) (fun i _ k v κ => ih i k v fun r => κ (e :: r)) i) es
/-- the entries of a map, its block (0: none) -/
noncomputable def mapK (x : Value) : XE → β → TH → (List (Value × Value) → Nat → β) → β := match x with
  | .map none => fun _ _ _ κ => κ [] 0
  | .map (some r) => fun kt no h κ => ownK no r fun b => TH.getK h b fun o => mapO o no fun t es => ifB (keyBeq t kt) (κ es (Nat.succ b)) no
  | _ => fun _ no _ _ => no
/-- the number of entries -/
noncomputable def cntK (x : Value) : β → TH → (Nat → β) → β := match x with
  | .map none => fun _ _ κ => κ 0
  | .map (some r) => fun no h κ => ownK no r fun b => TH.getK h b fun o => mapO o no fun _ es => κ (lenOf es)
  | _ => fun no _ _ => no
noncomputable def boundK (no : β) (tm : TV) (x : Option XO) (d : Nat) (κ : Nat → β) : β :=
  Option.rec (motive := fun _ => β) (κ d) (fun x => evK x tm fun v => natV v no κ) x
noncomputable def fillK (no : β) (tm : TV) (ps : List (Nat × Nat × XO)) : List Value → (List Value → β) → β :=
  List.rec (motive := fun _ => List Value → (List Value → β) → β) (fun cs κ => κ cs)
    (fun p _ ih cs κ => evK p.2.2 tm fun v => cellsV v fun vs => ifB (Nat.beq (lenOf vs) p.2.1) (ifB (Nat.ble (Nat.add p.1 (lenOf vs)) (lenOf cs)) (putK no p.1 cs vs fun cs => ih cs κ) no) no) ps
noncomputable def evL (tm : TV) (xs : List XO) : (List Value → β) → β :=
  List.rec (motive := fun _ => (List Value → β) → β) (fun κ => κ []) (fun x _ ih κ => ih fun r => evK x tm fun v => κ (v :: r)) xs
noncomputable def bindK (no : β) (vs : List Value) : List Pa → TV → (TV → β) → β :=
  List.rec (motive := fun _ => List Pa → TV → (TV → β) → β) (fun _ tm κ => κ tm)
    (fun v _ ih ps => List.rec (motive := fun _ => TV → (TV → β) → β) (fun _ _ => no) (fun p ps _ tm κ => setV p tm v fun tm => ih ps tm κ) ps) vs
end

noncomputable def bInt (op : BinOp) : IntKind → Int → Int → OR → (Value → OR) → OR := match op with
  | .add => fun k a b _ κ => forceInt (wrapK k (iadd a b)) fun n => κ (.int k n)
  | .sub => fun k a b _ κ => forceInt (wrapK k (isub a b)) fun n => κ (.int k n)
  | .mul => fun k a b _ κ => forceInt (wrapK k (a * b)) fun n => κ (.int k n)
  | .quo => fun k a b no κ => ifB (ieq b 0) no (forceInt (k.wrap (a.tdiv b)) fun n => κ (.int k n))
  | .eql => fun _ a b _ κ => ifB (ieq a b) (κ (.bool true)) (κ (.bool false))
  | .neq => fun _ a b _ κ => ifB (ieq a b) (κ (.bool false)) (κ (.bool true))
  | .lss => fun _ a b _ κ => ifB (ilt a b) (κ (.bool true)) (κ (.bool false))
  | .leq => fun _ a b _ κ => ifB (ilt b a) (κ (.bool false)) (κ (.bool true))
  | .gtr => fun _ a b _ κ => ifB (ilt b a) (κ (.bool true)) (κ (.bool false))
  | .geq => fun _ a b _ κ => ifB (ilt a b) (κ (.bool false)) (κ (.bool true))
  | _ => fun _ _ _ no _ => no
noncomputable def bStr (op : BinOp) : List UInt8 → List UInt8 → OR → (Value → OR) → OR := match op with
  | .add => fun a b no κ => appK a b fun l => ifB (Nat.ble (lenOf l) 1000000) (κ (.string ⟨⟨l⟩⟩)) no
  | .eql => fun a b _ κ => ifB (eqBytes a b) (κ (.bool true)) (κ (.bool false))
  | .neq => fun a b _ κ => ifB (eqBytes a b) (κ (.bool false)) (κ (.bool true))
  | _ => fun _ _ no _ => no
noncomputable def bEq (op : BinOp) : Option Bool → OR → (Value → OR) → OR := match op with
  | .eql => fun r no κ => Option.rec (motive := fun _ => OR) no (fun b => ifB b (κ (.bool true)) (κ (.bool false))) r
  | .neq => fun r no κ => Option.rec (motive := fun _ => OR) no (fun b => ifB b (κ (.bool false)) (κ (.bool true))) r
  | _ => fun _ no _ => no
noncomputable def binX (x : Value) : BinOp → XE → Value → OR → (Value → OR) → OR := match x with
  | .int k a => fun op _ y no κ => intV y no fun j b => ifB (Nat.beq (kindNo k) (kindNo j)) (bInt op k a b no κ) no
  | .string ⟨⟨a⟩⟩ => fun op _ y no κ => strV y no fun b => bStr op a b no κ
  | .float _ _ => fun _ _ _ no _ => no
  | .complex _ _ _ => fun _ _ _ no _ => no
  | x => fun op t y no κ => bEq op (eqX t x y) no κ

/-- an address that is told -/
noncomputable def adK {β : Type} (a : Option Addr) (no : β) (κ : Nat → Nat → β) : β := ptrV (.pointer a) no κ
/-- the cells of a slice's elements, their number -/
noncomputable def elemsK {β : Type} (x : Value) : β → TH → Nat → (Nat → List Value → β) → β := match x with
  | .slice a n _ => fun no h size κ => ifB (Nat.beq n 0) (κ 0 []) (adK a no fun b off => rdK no h b fun c => dropK no off c fun l => takeK no (Nat.mul n size) l fun r => κ n r)
  | .string ⟨⟨s⟩⟩ => fun no _ size κ => ifB (Nat.beq size 1) (κ (lenOf s) (bytesOf s)) no
  | _ => fun no _ _ _ => no
/-- in the room that is there -/
noncomputable def appIn (base : Option Addr) (len cap : Nat) (h : TH) (n size : Nat) (new : List Value) (need : Nat) : OR :=
  adK base (.fail "append: address") fun b off => wrK (.fail "append: no block") h b fun b c e u => ifB (Nat.ble (Nat.add (Nat.add off (Nat.mul len size)) (lenOf new)) (lenOf c))
    (putK (.fail "append: put") (Nat.add off (Nat.mul len size)) c new fun c => h.set b (.cells c e u) fun h => .val (.slice base need cap) h n) (.fail "append: put")
/-- beyond the room that is there -/
noncomputable def appNew (s : Value) (h : TH) (n elem size : Nat) (new : List Value) (need : Nat) : OR :=
  elemsK s (.fail "append") h size fun _ old => appK old new fun c => newK h n (.cells c elem true) fun h n' => .val (sl n need unkCap) h n'
/-- where it is open whether there is room -/
noncomputable def appOpen (base : Option Addr) (len cap : Nat) (h : TH) (n elem size : Nat) (new : List Value) (need : Nat) : OR :=
  adK base (.fail "append: address") fun b off => wrK (.fail "append: no block (open)") h b fun b c e u => ifB u (ifB (Nat.beq off 0) (ifB (Nat.beq cap unkCap) (ifB (Nat.beq e elem)
    (takeK (.fail "append: short") (Nat.mul len size) c fun old => appK old new fun c => h.set b .gone fun h => newK h n (.cells c elem true) fun h n' => .val (sl n need unkCap) h n')
    (.fail "append: elem")) (.fail "append: cap")) (.fail "append: offset")) (.fail "append: kind")
/-- nothing appended to a slice of open capacity: that it is no longer than its room is looked up -/
noncomputable def appOpen0 (s : Value) (base : Option Addr) (len cap : Nat) (h : TH) (n elem size : Nat) : OR :=
  adK base (.fail "append: address") fun b _ => wrK (.fail "append: no block (open)") h b fun _ c e u => ifB u (ifB (Nat.beq e elem)
    (ifB (Nat.ble (Nat.mul (Nat.add (Nat.sub cap unkCap) len) size) (lenOf c)) (.val s h n) (.fail "append: short")) (.fail "append: elem")) (.fail "append: kind")
noncomputable def appendX (s : Value) (h : TH) (n : Nat) (elem size : Nat) (m : Nat) (new : List Value) : OR :=
  sliceV s (.fail "append") fun base len cap => forceNat (Nat.add len m) fun need =>
    ifB (Nat.beq m 0) (ifB (Nat.blt cap unkCap) (ifB (Nat.ble len cap) (.val s h n) (.fail "append")) (appOpen0 s base len cap h n elem size)) <| ifB (Nat.ble need 1000000)
    (ifB (Nat.blt cap unkCap) (ifB (Nat.ble need cap) (appIn base len cap h n size new need) (appNew s h n elem size new need)) (appOpen base len cap h n elem size new need))
    (.fail "append: long")

def byteOfV (v : Value) : Option UInt8 := match v with
  | .int .u8 (.ofNat x) => bif Nat.blt x 256 then some (UInt8.ofNat x) else none
  | _ => none
noncomputable def strK {β : Type} (no : β) (l : List Value) : (List UInt8 → β) → β :=
  List.rec (motive := fun _ => (List UInt8 → β) → β) (fun κ => κ []) (fun v _ ih κ => Option.rec (motive := fun _ => β) no (fun b => ih fun r => κ (b :: r)) (byteOfV v)) l
def minX (mx : Bool) : IntKind → Int → List Value → Option Value
  | k, a, [] => some (.int k a)
  | k, a, .int _ b :: rest => minX mx k (bif (bif mx then ilt a b else ilt b a) then b else a) rest
  | _, _, _ => none

abbrev RunX := TV → TH → Nat → OR
noncomputable def oMove (x : XO) : RunX := fun tm h n => evK x tm fun v => .val v h n
noncomputable def oPick (c a b : XO) : RunX := fun tm h n => evK c tm fun v => boolV v (.fail "pick") fun t => ifB t (evK a tm fun v => .val v h n) (evK b tm fun v => .val v h n)
noncomputable def oAlloc (z : List Value) (e : TypeId) : RunX := fun _ h n => newK h n (.cells z e false) fun h n' => .val (ptr n) h n'
noncomputable def oBox (e : TypeId) (x : XO) : RunX := fun tm h n => evK x tm fun v => cellsV v fun c => ifB (oneL c) (newK h n (.cells c e false) fun h n' => .val (ptr n) h n') (.fail "box")
noncomputable def oBuild (z : List Value) (ps : List (Nat × Nat × XO)) : RunX := fun tm h n => fillK (.fail "build") tm ps z fun cs => .val (.agg ⟨cs⟩) h n
noncomputable def oBuildSlice (e : TypeId) (len : Nat) (z : List Value) (ps : List (Nat × Nat × XO)) : RunX := fun tm h n =>
  fillK (.fail "buildSlice") tm ps z fun cs => ifB (oneL cs) (newK h n (.cells cs e false) fun h n' => .val (sl n len len) h n') (.fail "buildSlice")
noncomputable def oLoad1 (x : XO) : RunX := fun tm h n => evK x tm fun v => ptrV v (.fail "load") fun b off =>
  rdK (.fail "load: no cells") h b fun c => nthK (.fail "load: off") off c fun v => .val v h n
noncomputable def oLoadN (s : Nat) (x : XO) : RunX := fun tm h n => evK x tm fun v => ptrV v (.fail "load") fun b off =>
  rdK (.fail "load: no cells") h b fun c => dropK (.fail "load") off c fun l => takeK (.fail "load") s l fun l => .val (.agg ⟨l⟩) h n
noncomputable def oStore (s : Nat) (x y : XO) : RunX := fun tm h n => evK x tm fun v => ptrV v (.fail "store") fun b off => evK y tm fun w => cellsV w fun vs =>
  ifB (Nat.beq (lenOf vs) s) (ifB (oneL vs) (wrK (.fail "store: no cells") h b fun b c e u => ifB (Nat.ble (Nat.add off s) (lenOf c)) (putK (.fail "store") off c vs fun c => h.set b (.cells c e u) fun h => .val undefV h n) (.fail "store: short")) (.fail "store: cells")) (.fail "store: size")
def okNil (v : Value) : Bool := match v with
  | .pointer (some _) => true
  | .func (.func _) _ _ => true
  | .func (.yield _) _ _ => true
  | .iface _ _ => true
  | _ => false
noncomputable def oNil (x : XO) : RunX := fun tm h n => evK x tm fun v => ifB (okNil v) (.val v h n) (.fail "nilCheck")
noncomputable def oBin (op : BinOp) (t : XE) (x y : XO) : RunX := fun tm h n => evK x tm fun a => evK y tm fun b => binX a op t b (.fail "binop") fun v => .val v h n
noncomputable def oNot (x : XO) : RunX := fun tm h n => evK x tm fun v => boolV v (.fail "not") fun b => ifB b (.val (.bool false) h n) (.val (.bool true) h n)
noncomputable def oConvInt (k : IntKind) (x : XO) : RunX := fun tm h n => evK x tm fun v => intV v (.fail "conv") fun _ a => forceInt (wrapK k a) fun m => .val (.int k m) h n
noncomputable def oConvStr (_e : TypeId) (x : XO) : RunX := fun tm h n => evK x tm fun v => strV v (.fail "conv") fun s =>
  newK h n (.ro (bytesOf s)) fun h n' => .val (sl n (lenOf s) unkCap) h n'
noncomputable def oConvBytes (x : XO) : RunX := fun tm h n => evK x tm fun v => sliceV v (.fail "conv") fun _ _ _ => elemsK v (.fail "conv") h 1 fun _ l => strK (.fail "conv") l fun s => .val (.string ⟨⟨s⟩⟩) h n
noncomputable def oUnsafeP (e : TypeId) (s : Nat) (x : XO) : RunX := fun tm h n => evK x tm fun v => ptrV v (.fail "raw pointer") fun b off =>
  ifB (Nat.beq off 0) (wrK (.fail "raw pointer: block") h b fun _ c e' _ => ifB (Nat.beq e' e) (ifB (Nat.ble s (lenOf c)) (.val (.pointer (some ⟨b, 0, none⟩)) h n) (.fail "raw pointer: short")) (.fail "raw pointer: type")) (.fail "raw pointer: offset")
noncomputable def oConvSS (x : XO) : RunX := fun tm h n => evK x tm fun v => strV v (.fail "conv") fun _ => .val v h n
noncomputable def oIface (t : TypeId) (x : XO) : RunX := fun tm h n => evK x tm fun v => .val (.iface t v) h n
noncomputable def oFunc (fn : Fn) (f c : List XO) : RunX := fun tm h n => evL tm f fun f => evL tm c fun c => .val (.func fn ⟨f⟩ ⟨c⟩) h n
noncomputable def oMap (t : XE) : RunX := fun _ h n => newK h n (.map t []) fun h n' => .val (.map (some (Nat.add O n))) h n'
noncomputable def oMkSlice (e : TypeId) (z : List Value) (l c : XO) : RunX := fun tm h n => evK l tm fun l => natV l (.fail "makeSlice") fun l => evK c tm fun c => natV c (.fail "makeSlice") fun c =>
  ifB (Nat.ble l c) (ifB (Nat.ble c 1000000) (newK h n (.cells (reps z c) e false) fun h n' => .val (sl n l c) h n') (.fail "makeSlice")) (.fail "makeSlice")
noncomputable def oSliceStr (x : XO) (lo hi : Option XO) : RunX := fun tm h n => evK x tm fun v => strV v (.fail "slice") fun s =>
  boundK (.fail "slice") tm lo 0 fun l => boundK (.fail "slice") tm hi (lenOf s) fun r =>
  ifB (Nat.ble l r) (ifB (Nat.ble r (lenOf s)) (.val (.string ⟨⟨(s.drop l).take (Nat.sub r l)⟩⟩) h n) (.fail "slice")) (.fail "slice")
/-- may the slice go up to r? -/
noncomputable def okUp (h : TH) (a : Option Addr) (cap e size r : Nat) : Bool :=
  ifB (Nat.blt cap unkCap) (Nat.ble r cap) (adK a false fun b _ => wrK false h b fun _ c e' u => ifB u (ifB (Nat.beq e' e) (Nat.ble (Nat.mul (Nat.add (Nat.sub cap unkCap) r) size) (lenOf c)) false) false)
/-- with a capacity that is known -/
noncomputable def reKnown (a : Option Addr) (l r size cap : Nat) (h : TH) (n : Nat) : OR :=
  Option.rec (motive := fun _ => OR) (ifB (Nat.beq r 0) (ifB (Nat.beq cap 0) (.val (.slice none 0 0) h n) (.fail "slice of nil")) (.fail "slice of nil"))
    (fun a => forceNat (Nat.sub r l) fun len => forceNat cap fun cap => ifB (Nat.beq l 0) (.val (.slice (some a) len cap) h n) (ifB (Nat.beq cap 0) (.val (.slice (some a) len 0) h n)
      (adK (some a) (.fail "slice: address") fun b off => forceNat (Nat.add off (Nat.mul l size)) fun off => .val (.slice (some ⟨b, off, none⟩) len cap) h n))) a
/-- with one that is open -/
noncomputable def reOpen (a : Option Addr) (l r size cap : Nat) (h : TH) (n : Nat) : OR :=
  ifB (Nat.beq l 0) (forceNat r fun r => .val (.slice a r cap) h n) (ifB (Nat.beq r l) (.val (.slice (some ⟨Nat.add O n, 0, some 0⟩) 0 unkCap) h (Nat.succ n))
    (adK a (.fail "slice: address") fun b off => forceNat (Nat.sub r l) fun len => forceNat (Nat.add cap l) fun cap => forceNat (Nat.add off (Nat.mul l size)) fun off => .val (.slice (some ⟨b, off, none⟩) len cap) h n))
noncomputable def oSliceS (e size : Nat) (x : XO) (lo hi mx : Option XO) : RunX := fun tm h n => evK x tm fun v => sliceV v (.fail "slice") fun a len cap =>
  boundK (.fail "slice") tm lo 0 fun l => boundK (.fail "slice") tm hi len fun r => ifB (Nat.ble l r)
    (Option.rec (motive := fun _ => OR)
      (ifB (okUp h a cap e size r) (ifB (Nat.blt cap unkCap) (reKnown a l r size (Nat.sub cap l) h n) (reOpen a l r size cap h n)) (.fail "slice bounds"))
      (fun m => evK m tm fun m => natV m (.fail "slice max") fun m => ifB (Nat.ble r m) (ifB (Nat.blt m 1000000) (ifB (okUp h a cap e size m) (reKnown a l r size (Nat.sub m l) h n) (.fail "slice bounds")) (.fail "slice max")) (.fail "slice max")) mx)
    (.fail "slice bounds")
noncomputable def oFieldAddr (off : Nat) (x : XO) : RunX := fun tm h n => evK x tm fun v => ptrV v (.fail "fieldAddr") fun b o => forceNat (Nat.add o off) fun o => .val (.pointer (some ⟨b, o, none⟩)) h n
noncomputable def oField1 (off : Nat) (x : XO) : RunX := fun tm h n => evK x tm fun v => aggV v (.fail "field") fun cs => nthK (.fail "field") off cs fun v => .val v h n
noncomputable def oFieldN (off s : Nat) (x : XO) : RunX := fun tm h n => evK x tm fun v => aggV v (.fail "field") fun cs => dropK (.fail "field") off cs fun l => takeK (.fail "field") s l fun l => .val (.agg ⟨l⟩) h n
noncomputable def oIdxA (len s : Nat) (x i : XO) : RunX := fun tm h n => evK x tm fun v => ptrV v (.fail "index") fun b o => evK i tm fun i => natV i (.fail "index") fun i =>
  ifB (Nat.blt i len) (forceNat (Nat.add o (Nat.mul i s)) fun o => .val (.pointer (some ⟨b, o, none⟩)) h n) (.fail "index range")
noncomputable def oIdxS (s : Nat) (x i : XO) : RunX := fun tm h n => evK x tm fun v => sliceV v (.fail "index") fun a len _ => evK i tm fun i => natV i (.fail "index") fun i =>
  ifB (Nat.blt i len) (adK a (.fail "index nil") fun b o => forceNat (Nat.add o (Nat.mul i s)) fun o => .val (.pointer (some ⟨b, o, none⟩)) h n) (.fail "index range")
noncomputable def oIndex1 (len : Nat) (x i : XO) : RunX := fun tm h n => evK x tm fun v => aggV v (.fail "index") fun cs => evK i tm fun i => natV i (.fail "index") fun i =>
  ifB (Nat.blt i len) (nthK (.fail "index") i cs fun v => .val v h n) (.fail "index range")
noncomputable def oIndexStr (x i : XO) : RunX := fun tm h n => evK x tm fun v => strV v (.fail "index") fun s => evK i tm fun i => natV i (.fail "index") fun i =>
  List.rec (motive := fun _ => OR) (.fail "index string") (fun b _ _ => .val (.int .u8 (.ofNat b.toNat)) h n) (s.drop i)
noncomputable def oLookup (kt : XE) (z : Value) (x i : XO) (ok : Bool) : RunX := fun tm h n => evK x tm fun x => evK i tm fun i => keyOk kt i (.fail "lookup: key") <| mapK x kt (.fail "lookup: map") h fun es _ =>
  findX es kt i 0 (.fail "lookup: key") (ifB ok (.val (.tuple ⟨[z, .bool false]⟩) h n) (.val z h n)) fun _ v => ifB ok (.val (.tuple ⟨[v, .bool true]⟩) h n) (.val v h n)
noncomputable def oUpdate (kt : XE) (m k v : XO) : RunX := fun tm h n => evK m tm fun m => evK k tm fun k => evK v tm fun v => keyOk kt k (.fail "update: key") <| mapK m kt (.fail "update: map") h fun es r =>
  Nat.rec (motive := fun _ => OR) (.fail "update: nil") (fun r _ => findX es kt k 0 (.fail "update: key")
    (appK es [(k, v)] fun es => h.set r (.map kt es) fun h => .val undefV h n)
    (fun i _ => modK es i k v fun es => h.set r (.map kt es) fun h => .val undefV h n)) r
noncomputable def oAssertC (t : TypeId) (z : Value) (x : XO) (ok : Bool) : RunX := fun tm h n => evK x tm fun x =>
  ifaceV x (.fail "assert") (ifB ok (.val (.tuple ⟨[z, .bool false]⟩) h n) (.fail "assert")) fun u v =>
    ifB (Nat.beq u t) (ifB ok (.val (.tuple ⟨[v, .bool true]⟩) h n) (.val v h n)) (ifB ok (.val (.tuple ⟨[z, .bool false]⟩) h n) (.fail "assert"))
noncomputable def oAssertI (G : Tab) (want : Array (String × TypeId)) (z : Value) (x : XO) (ok : Bool) : RunX := fun tm h n => evK x tm fun x =>
  ifaceV x (.fail "assert") (ifB ok (.val (.tuple ⟨[z, .bool false]⟩) h n) (.fail "assert")) fun u v => (match G.tt.get u with
      | some i => ifB (Instr.missingMethod want i.methods).isSome (ifB ok (.val (.tuple ⟨[z, .bool false]⟩) h n) (.fail "assert"))
        (ifB ok (.val (.tuple ⟨[.iface u v, .bool true]⟩) h n) (.val (.iface u v) h n))
      | none => .fail "assert")
noncomputable def oExtract (x : XO) (i : Nat) : RunX := fun tm h n => evK x tm fun x => tupV x (.fail "extract") fun vs => nthK (.fail "extract") i vs fun v => .val v h n
noncomputable def oCallF (f : FuncId) (args : List XO) : RunX := fun tm _ _ => evL tm args fun args => .call f args
def callFn (fn : Fn) : List Value → List Value → List Value → OR := match fn with
  | .func g => fun a c args => .call g (a ++ args ++ c)
  | .yield l => fun a _ args => .yield l (a ++ args)
  | _ => fun _ _ _ => .fail "call: other"
noncomputable def oCallV (x : XO) (args : List XO) : RunX := fun tm _ _ => evL tm args fun args => evK x tm fun x => funcV x (.fail "call") fun fn a c => callFn fn a c args
noncomputable def oCallI (G : Tab) (x : XO) (name : String) (args : List XO) : RunX := fun tm _ _ => evL tm args fun args => evK x tm fun x => ifaceV x (.fail "method") (.fail "method") fun t v =>
    (match G.tt.get t with
      | some i => (match i.methods.find? (fun m => m.name == name) with
        | some ⟨_, _, ⟨[]⟩, some (f, p)⟩ => (match und G t, p with
          | some (.pointer _), true => .call f (v :: args)
          | some (.pointer _), false => .fail "method: pointer"
          | some _, false => .call f (v :: args)
          | _, _ => .fail "method")
        | _ => .fail "method")
      | none => .fail "method")
noncomputable def oLenStr (x : XO) : RunX := fun tm h n => evK x tm fun x => strV x (.fail "len") fun s => forceNat (lenOf s) fun m => .val (goN m) h n
noncomputable def oLenSl (x : XO) : RunX := fun tm h n => evK x tm fun x => sliceV x (.fail "len") fun _ m _ => .val (goN m) h n
noncomputable def oLenMap (x : XO) : RunX := fun tm h n => evK x tm fun x => cntK x (.fail "len") h fun m => forceNat m fun m => .val (goN m) h n
noncomputable def oCap (x : XO) : RunX := fun tm h n => evK x tm fun x => sliceV x (.fail "cap") fun _ _ c => ifB (Nat.blt c unkCap) (.val (goN c) h n) (.fail "cap")
noncomputable def oAppend (e size : Nat) (s x : XO) : RunX := fun tm h n => evK x tm fun x => elemsK x (.fail "append elems") h size fun m l => evK s tm fun s => appendX s h n e size m l
noncomputable def oAppendMake (e size : Nat) (z : List Value) (s x : XO) : RunX := fun tm h n => evK x tm fun x => natV x (.fail "append make") fun m => evK s tm fun s =>
  ifB (Nat.ble m 1000000) (appendX s h n e size m (reps z m)) (.fail "append make")
noncomputable def oMinMax (mx : Bool) (xs : List XO) : RunX := fun tm h n => evL tm xs fun l => (match l with
    | .int k a :: rest => (match minX mx k a rest with | some v => .val v h n | none => .fail "min")
    | _ => .fail "min")
noncomputable def oClear (size : Nat) (z : List Value) (x : XO) : RunX := fun tm h n => evK x tm fun x => sliceV x (.fail "clear") fun a m _ => ifB (Nat.beq m 0) (.val undefV h n)
    (adK a (.fail "clear") fun b off => wrK (.fail "clear") h b fun b c e u => ifB (Nat.ble (Nat.add off (Nat.mul m size)) (lenOf c)) (putK (.fail "clear") off c (reps z m) fun c => h.set b (.cells c e u) fun h => .val undefV h n) (.fail "clear"))
noncomputable def oSliceData (x : XO) : RunX := fun tm h n => evK x tm fun x => sliceV x (.fail "sliceData") fun a m c => ifB (Nat.beq m 0) (.fail "sliceData") (ifB (Nat.beq c unkCap) (adK a (.fail "sliceData") fun b off => ifB (Nat.beq off 0) (wrK (.fail "sliceData") h b fun _ cs _ u => ifB u (ifB (Nat.beq (lenOf cs) 0) (.fail "sliceData") (.val (.pointer (some ⟨b, 0, none⟩)) h n)) (.fail "sliceData")) (.fail "sliceData")) (.fail "sliceData"))
noncomputable def oUnsafeString (e : TypeId) (x l : XO) : RunX := fun tm h n => evK l tm fun l => natV l (.fail "unsafeString") fun m => evK x tm fun x => ptrV x (.fail "unsafeString") fun b off =>
  ifB (Nat.beq off 0) (ifB (Nat.beq m 0) (.fail "unsafeString") (ifB (Nat.ble m 1000000) (wrK (.fail "unsafeString") h b fun b c e' _ => ifB (Nat.beq e' e) (takeK (.fail "unsafeString") m c fun l => strK (.fail "unsafeString") l fun s => h.set b .gone fun h => .val (.string ⟨⟨s⟩⟩) h n) (.fail "unsafeString")) (.fail "unsafeString"))) (.fail "unsafeString")
noncomputable def oRecover : RunX := fun _ _ _ => .recover
noncomputable def oDefer (x : XO) (args : List XO) : RunX := fun tm _ _ => evK x tm fun x => funcV x (.fail "defer") fun fn a c => evL tm args fun args => .defer ⟨.fn fn ⟨c⟩, ⟨a ++ args⟩⟩
noncomputable def oPanic (x : XO) : RunX := fun tm _ _ => evK x tm fun x => ifaceV x (.fail "panic") (.fail "panic") fun t v => .panic (.iface t v)
noncomputable def oBad : RunX := fun _ _ _ => .fail "bad"

noncomputable def execX (G : Tab) (o : XOp) : RunX :=
  XOp.rec (motive := fun _ => RunX) oMove oPick oAlloc oBox oBuild oBuildSlice oLoad1 oLoadN oStore oNil oBin oNot oConvInt oConvStr oConvBytes oUnsafeP oConvSS oIface oFunc
    oMap oMkSlice oSliceStr oSliceS oFieldAddr oField1 oFieldN oIdxA oIdxS oIndex1 oIndexStr oLookup oUpdate
    oAssertC (oAssertI G) oExtract oCallF oCallV (oCallI G) oLenStr oLenSl oLenMap oCap oAppend oAppendMake oMinMax oClear oSliceData oUnsafeString oRecover oDefer oPanic oBad o

abbrev CF := FuncId → List Value → Up → TH → Nat → (CRes → Up → Res) → Res
abbrev YF := Nat → List Value → TH → Nat → (CRes → Res) → Res
abbrev NextK := TV → TH → Nat → Fx → Res
abbrev Body := TV → Fx → TH → Nat → Res

noncomputable def wantK (g : Option (Pa × Bool)) (tm : TV) (no yes : Res) : Res :=
  Option.rec (motive := fun _ => Res) yes (fun g => getK g.1 tm fun v => boolV v no fun b => ifB b (ifB g.2 yes no) (ifB g.2 no yes)) g
noncomputable def setD (d : Option Pa) (tm : TV) (v : Value) (κ : TV → Res) : Res := Option.rec (motive := fun _ => Res) (κ tm) (fun p => setV p tm v κ) d

section
variable (cf : CF) (yf : YF)
noncomputable def kVal (v : Value) (h : TH) (n : Nat) (dst : Option Pa) (tm : TV) (fx : Fx) (_ : TH) (_ : Nat) (κ : NextK) : Res := setD dst tm v fun tm => κ tm h n fx
noncomputable def afterCall (r : CRes) : Option Pa → TV → Fx → NextK → Res := match r with
  | .ret v h n => fun dst tm fx κ => setD dst tm v fun tm => κ tm h n fx
  | .panic v h n => fun _ tm fx _ => .panic v tm fx h n
  | .fail why => fun _ _ _ _ => .fail why
noncomputable def kCall (f : FuncId) (args : List Value) (dst : Option Pa) (tm : TV) (fx : Fx) (h : TH) (n : Nat) (κ : NextK) : Res :=
  cf f args .no h n fun r _ => afterCall r dst tm fx κ
noncomputable def kYield (l : Nat) (args : List Value) (dst : Option Pa) (tm : TV) (fx : Fx) (h : TH) (n : Nat) (κ : NextK) : Res :=
  yf l args h n fun r => afterCall r dst tm fx κ
noncomputable def kDefer (d : Deferred) (dst : Option Pa) (tm : TV) (fx : Fx) (h : TH) (n : Nat) (κ : NextK) : Res := match fx with
  | ⟨ds, up, none⟩ => setD dst tm undefV fun tm => κ tm h n ⟨d :: ds, up, none⟩
  | _ => .fail "defer in a round"
noncomputable def kRecover (dst : Option Pa) (tm : TV) (fx : Fx) (h : TH) (n : Nat) (κ : NextK) : Res := match fx with
  | ⟨ds, .chain v false, none⟩ => setD dst tm v fun tm => κ tm h n ⟨ds, .chain v true, none⟩
  | ⟨ds, .quiet, none⟩ => setD dst tm .nilIface fun tm => κ tm h n ⟨ds, .quiet, none⟩
  | _ => .fail "recover"
noncomputable def kPanic (v : Value) (_ : Option Pa) (tm : TV) (fx : Fx) (h : TH) (n : Nat) (_ : NextK) : Res := .panic v tm fx h n
noncomputable def kFail (why : String) (_ : Option Pa) (_ : TV) (_ : Fx) (_ : TH) (_ : Nat) (_ : NextK) : Res := .fail why
noncomputable def stepL (r : OR) : Option Pa → TV → Fx → TH → Nat → NextK → Res :=
  OR.rec (motive := fun _ => Option Pa → TV → Fx → TH → Nat → NextK → Res) kVal (kCall cf) (kYield yf) kDefer kRecover kPanic kFail r
noncomputable def execL (G : Tab) (l : List XOper) : NextK :=
  List.rec (motive := fun _ => NextK) (fun tm h n fx => .normal tm fx h n)
    (fun o _ ih => XOper.rec (motive := fun _ => NextK) (fun op dst g tm h n fx => wantK g tm (setD dst tm undefV fun tm => ih tm h n fx) (stepL cf yf (execX G op tm h n) dst tm fx h n ih)) o) l

noncomputable def stepO (G : Tab) (o : XOper) (tm : TV) (h : TH) (n : Nat) (fx : Fx) (κ : NextK) : Res :=
  XOper.rec (motive := fun _ => Res) (fun op dst g => wantK g tm (setD dst tm undefV fun tm => κ tm h n fx) (stepL cf yf (execX G op tm h n) dst tm fx h n κ)) o
end
/-- are two values the same? -/
def eqLW (eq : Value → Value → Bool) : List Value → List Value → Bool
  | [], [] => true
  | a :: x, b :: y => bif eq a b then eqLW eq x y else false
  | _, _ => false
def eqA (a b : Option Addr) : Bool := match a, b with
  | none, none => true
  | some ⟨x, o, none⟩, some ⟨y, p, none⟩ => bif Nat.beq x y then Nat.beq o p else false
  | _, _ => false
def eqFn : Fn → Fn → Bool
  | .func f, .func g => Nat.beq f g
  | .yield f, .yield g => Nat.beq f g
  | _, _ => false
noncomputable def eqV : Nat → Value → Value → Bool
  | 0 => fun _ _ => false
  | f + 1 => fun x y => match x, y with
    | .bool a, .bool b => bif a then b else !b
    | .int j a, .int k b => bif Nat.beq (kindNo j) (kindNo k) then ieq a b else false
    | .string ⟨⟨a⟩⟩, .string ⟨⟨b⟩⟩ => eqBytes a b
    | .pointer a, .pointer b => eqA a b
    | .slice a l c, .slice b m d => bif eqA a b then (bif Nat.beq l m then Nat.beq c d else false) else false
    | .map none, .map none => true
    | .map (some a), .map (some b) => Nat.beq a b
    | .func g ⟨a⟩ ⟨b⟩, .func k ⟨c⟩ ⟨d⟩ => bif eqFn g k then (bif eqLW (eqV f) a c then eqLW (eqV f) b d else false) else false
    | .nilFunc, .nilFunc => true
    | .iface t a, .iface u b => bif Nat.beq t u then eqV f a b else false
    | .nilIface, .nilIface => true
    | .agg ⟨a⟩, .agg ⟨b⟩ => eqLW (eqV f) a b
    | .tuple ⟨a⟩, .tuple ⟨b⟩ => eqLW (eqV f) a b
    | _, _ => false
/-- the same entries, in some order? -/
noncomputable def rmE (e : Value × Value) : List (Value × Value) → Option (List (Value × Value))
  | [] => none
  | x :: l => bif (bif eqV 20 e.1 x.1 then eqV 20 e.2 x.2 else false) then some l else match rmE e l with
    | some m => some (x :: m)
    | none => none
noncomputable def permE : List (Value × Value) → List (Value × Value) → Bool
  | [], [] => true
  | [], _ :: _ => false
  | e :: l, m => match rmE e m with
    | some m => permE l m
    | none => false
noncomputable def permO (o p : AO) : Bool := match o, p with
  | .map t es, .map u fs => bif keyBeq t u then permE es fs else false
  | _, _ => false
noncomputable def sameMap {β : Type} (v w : Value) (no : β) (κ : Nat → β) : β := match v, w with
  | .map (some r), .map (some q) => ifB (Nat.beq r q) (ownK no r κ) no
  | _, _ => no
/-! drawn regions -/
abbrev PA := List (Nat × Nat × AO)
abbrev DK := PA → NextK
noncomputable def valK (r : OR) : (Value → TH → Nat → Res) → Res :=
  OR.rec (motive := fun _ => (Value → TH → Nat → Res) → Res) (fun v h n κ => κ v h n) (fun _ _ _ => .fail "quiet: a call") (fun _ _ _ => .fail "quiet: a round") (fun _ _ => .fail "quiet: defer") (fun _ => .fail "quiet: recover") (fun _ _ => .fail "quiet: panic") (fun why _ => .fail why) r
noncomputable def quietK (G : Tab) (i : Nat) (x : XOper) (κ : DK) : DK := fun pa tm h n fx =>
  XOper.rec (motive := fun _ => Res) (fun op dst g => wantK g tm (setD dst tm undefV fun tm => κ pa tm h n fx)
    (ifB (isR op) (valK (execX G op tm h n) fun v _ n1 => ifB (Nat.beq n1 n) (setD dst tm v fun tm => κ pa tm h n fx) (setD dst tm v fun tm => κ ((i, n, .gone) :: pa) tm h n1 fx))
      (valK (execX G op tm .e n) fun v h1 n1 => ifB (Nat.beq n1 n) (setD dst tm v fun tm => κ pa tm h n fx)
        (h1.getK n fun o => setD dst tm v fun tm => κ ((i, n, o) :: pa) tm h n1 fx)))) x
noncomputable def recheckK (G : Tab) (x : XOper) (κ : NextK) : NextK := fun tm h n fx =>
  XOper.rec (motive := fun _ => Res) (fun op dst g => wantK g tm (κ tm h n fx)
    (valK (execX G op tm h n) fun v _ n1 => ifB (Nat.beq n1 n) (Option.rec (motive := fun _ => Res) (κ tm h n fx) (fun p => getK p tm fun u => ifB (eqV 50 v u) (κ tm h n fx) (.fail "a reading has changed")) dst) (.fail "a reading that counts"))) x
noncomputable def adoptK (i : Nat) (pa : PA) : (PA → TH → Res) → TH → Res :=
  List.rec (motive := fun _ => (PA → TH → Res) → TH → Res) (fun κ h => κ [] h) (fun e r ih κ h => ifB (Nat.beq e.1 i) (h.set e.2.1 e.2.2 fun h => κ r h) (ih (fun r h => κ (e :: r) h) h)) pa
noncomputable def evalsK (G : Tab) (l : List (Nat × XOper)) (κ : DK) : DK := List.rec (motive := fun _ => DK) κ (fun p _ ih => quietK G p.1 p.2 ih) l
noncomputable def rechecksK (G : Tab) (l : List (Nat × XOper)) (κ : NextK) : NextK := List.rec (motive := fun _ => NextK) κ (fun p _ ih => recheckK G p.2 ih) l
noncomputable def adoptsK (l : List Nat) (κ : DK) : DK := List.rec (motive := fun _ => DK) κ (fun i _ ih pa tm h n fx => adoptK i pa (fun pa h => ih pa tm h n fx) h) l
/-- a panic may pass where no deferred call is left -/
def okPan (r : CRes) : List Deferred → Res → Res := match r with
  | .panic _ _ _ => fun ds R => (match ds with
    | [] => R
    | _ => .fail "panic in a drawn region")
  | _ => fun _ R => R
section
variable (cf : CF) (yf : YF)
noncomputable def guardC (ds : List Deferred) : CF := fun f args up h n κ => cf f args up h n fun r u => okPan r ds (κ r u)
noncomputable def guardY (ds : List Deferred) : YF := fun l args h n κ => yf l args h n fun r => okPan r ds (κ r)
noncomputable def effK (G : Tab) (x : XOper) (κ : DK) : DK := fun pa tm h n fx => stepO (guardC cf fx.ds) (guardY yf fx.ds) G x tm h n fx (κ pa)
noncomputable def effR (G : Tab) (x : XOper) (rs : List (Nat × XOper)) (κ : DK) : DK := effK cf yf G x fun pa => rechecksK G rs fun tm h n fx => κ pa tm h n fx
/-- two entries laid in one order, and, to see that it is the same, in the other -/
noncomputable def pairR (G : Tab) (x y : XOper) (m m' : XO) (rs : List (Nat × XOper)) (κ : DK) : DK := fun pa tm h n fx =>
  effR cf yf G x rs (effR cf yf G y rs fun pa2 tm2 h2 n2 fx2 => effR cf yf G y rs (effR cf yf G x rs fun _ _ h4 _ _ =>
    evK m tm fun v => evK m' tm fun v' => sameMap v v' (.fail "pair: maps") fun b => h2.getK b fun o => h4.getK b fun p => ifB (permO o p) (κ pa2 tm2 h2 n2 fx2) (.fail "pair: another")) pa tm h n fx) pa tm h n fx
noncomputable def pairK (G : Tab) (x y : XOper) (rs : List (Nat × XOper)) (κ : DK) : DK := match x, y with
  | ⟨.mapUpdate kt m k v, none, none⟩, ⟨.mapUpdate kt' m' k' v', none, none⟩ => pairR cf yf G ⟨.mapUpdate kt m k v, none, none⟩ ⟨.mapUpdate kt' m' k' v', none, none⟩ m m' rs κ
  | _, _ => fun _ _ _ _ _ => .fail "pair"
noncomputable def stageK (G : Tab) (s : XStage) (κ : DK) : DK := match s.pair with
  | none => adoptsK s.adopts (effK cf yf G s.effX fun pa => rechecksK G s.rechecks fun tm h n fx => evalsK G s.evals κ pa tm h n fx)
  | some e => adoptsK s.adopts (pairK cf yf G s.effX e.2 s.rechecks (evalsK G s.evals κ))
noncomputable def stagesK (G : Tab) (l : List XStage) (κ : DK) : DK := List.rec (motive := fun _ => DK) κ (fun s _ ih => stageK cf yf G s ih) l
noncomputable def drawK (G : Tab) (evals : List (Nat × XOper)) (stages : List XStage) (last : List Nat) : NextK :=
  evalsK G evals (stagesK cf yf G stages (adoptsK last fun _ tm h n fx => .normal tm fx h n)) []

noncomputable def thenC (r : Res) : Body → Res := match r with
  | .normal tm fx h n => fun b => b tm fx h n
  | .exit id tm fx h n => fun _ => .exit id tm fx h n
  | .ret tm fx h n => fun _ => .ret tm fx h n
  | .panic v tm fx h n => fun _ => .panic v tm fx h n
  | .fail why => fun _ => .fail why
noncomputable def again (body : Body) (k : Nat) : Body :=
  Nat.rec (motive := fun _ => Body) body (fun _ ih tm fx h n => thenC (ih tm fx h n) ih) k
noncomputable def loopEnd (r : Res) : Res := match r with
  | .normal _ _ _ _ => .fail "loop"
  | r => r
noncomputable def blockEnd (r : Res) : Nat → Res := match r with
  | .exit id' tm fx h n => fun id => ifB (Nat.beq id' id) (.normal tm fx h n) (.exit id' tm fx h n)
  | r => fun _ => r
noncomputable def pendK (pend : Option Code) : Body := match pend with
  | none => .normal
  | some .ret => .ret
  | some (.exit id) => .exit id
  | _ => fun _ _ _ _ => .fail "pending"
noncomputable def endRF (r : CRes) : Nat → TV → Fx → Res := match r with
  | .ret _ h n' => fun l tm fx => h.getK l fun o => (match o with
    | .loop .busy _ _ _ _ _ _ _ => .fail "loop busy"
    | .loop _ pend fn tm' params a b d => h.set l (.loop .exhausted pend fn tm' params a b d) fun h => pendK pend tm fx h n'
    | _ => .fail "loop gone")
  | .panic v h n' => fun _ tm fx => .panic v tm fx h n'
  | .fail why => fun _ _ _ => .fail why
noncomputable def goRF (g : FuncId) (first captured : List Value) (fn : FuncId) (params : List Pa) (a b : XC) (tm : TV) (fx : Fx) (d : Nat) (h : TH) (n : Nat) : Res :=
  newK h n (.loop .ready none fn tm params a b d) fun h n' => cf g (first ++ (.func (.yield (Nat.add O n)) #[] #[] :: captured)) .no h n' fun r _ => endRF r n tm fx
noncomputable def cRange (fn : FuncId) (f : XO) (params : List Pa) (a b : XC) : Body := fun tm fx h n => evK f tm fun f => funcV f (.fail "rangeFunc") fun g first captured =>
  (match g with
  | .func g => (match fx with
    | ⟨ds, up, none⟩ => newK h n (.deferred false) fun h n' => goRF cf g first captured fn params a b tm ⟨⟨.collected (Nat.add O n), #[]⟩ :: ds, up, none⟩ (Nat.add O n) h n'
    | ⟨ds, up, some l⟩ => ownK (.fail "rangeFunc in a round") l fun k => h.getK k fun o => (match o with
      | .loop _ _ _ _ _ _ _ d => goRF cf g first captured fn params a b tm ⟨ds, up, some l⟩ d h n
      | _ => .fail "rangeFunc in a round"))
  | _ => .fail "rangeFunc")
noncomputable def execC (G : Tab) (fn : FuncId) (c : XC) : Body :=
  XC.rec (motive := fun _ => Body)
    (fun tm fx h n => .normal tm fx h n)
    (fun ops tm fx h n => execL cf yf G ops tm h n fx)
    (fun evals stages last tm fx h n => drawK cf yf G evals stages last tm h n fx)
    (fun _ _ iha ihb tm fx h n => thenC (iha tm fx h n) ihb)
    (fun c _ _ iha ihb tm fx h n => evK c tm fun v => boolV v (.fail "cond") fun t => ifB t (iha tm fx h n) (ihb tm fx h n))
    (fun id _ ih tm fx h n => blockEnd (ih tm fx h n) id)
    (fun _ ih tm fx h n => loopEnd (again ih 20 tm fx h n))
    (fun f params a b _ _ => cRange cf fn f params a b)
    (fun id => .exit id)
    (fun _ ih => ih)
    .ret
    (fun _ _ _ _ => .fail "bad code") c
end

section exec
variable (G : Tab) (xt : FuncId → Option XF) (cf : CF) (yf : YF)
noncomputable def leaveY (l : Nat) (h : TH) (n : Nat) (j : Option Code) (b : Bool) (κ : CRes → Res) : Res := h.getK l fun o => (match o with
  | .loop _ _ fn tm params a c d => h.set l (.loop (ifB b .ready .done) j fn tm params a c d) fun h => κ (.ret (.bool b) h n)
  | _ => .fail "round: loop gone")
noncomputable def endY (r : Res) : Nat → (CRes → Res) → Res := match r with
  | .normal _ _ h n => fun l κ => leaveY l h n none true κ
  | .exit id _ _ h n => fun l κ => leaveY l h n (some (.exit id)) false κ
  | .ret _ _ h n => fun l κ => leaveY l h n (some .ret) false κ
  | .panic v _ _ h n => fun _ κ => κ (.panic v h n)
  | .fail why => fun _ _ => .fail why
noncomputable def beginY (l : Nat) (body : Body) : Body := fun tm fx h n => h.getK l fun o => (match o with
  | .loop .ready pend fn tm' params a b d => h.set l (.loop .busy pend fn tm' params a b d) fun h => body tm fx h n
  | _ => .fail "round: loop gone")
/-- a round of a loop over a function -/
noncomputable def execY (l : Nat) (args : List Value) (h : TH) (n : Nat) (κ : CRes → Res) : Res :=
  ownK (.fail "round: no loop") l fun k => h.getK k fun o => (match o with
  | .loop _ _ fn tm params a b _ => ifB (Nat.beq (lenOf args) (lenOf params)) (bindK (.fail "round: arguments") args params tm fun tm' =>
          endY (thenC (execC cf yf G fn a tm' ⟨[], .no, some l⟩ h n) (beginY k (execC cf yf G fn b))) k κ) (.fail "round: arguments")
  | _ => .fail "round: no loop")
noncomputable def rTmp (x : XO) (tm : TV) (_ : TH) (κ : Value → Res) : Res := evK x tm κ
noncomputable def rCell (x : XO) (s : Nat) (ag : Bool) (tm : TV) (h : TH) (κ : Value → Res) : Res :=
  evK x tm fun v => ptrV v (.fail "results") fun b off => rdK (.fail "results") h b fun c =>
        ifB ag (dropK (.fail "results") off c fun c => takeK (.fail "results") s c fun c => κ (.agg ⟨c⟩))
          (nthK (.fail "results") off c κ)
noncomputable def resK (tm : TV) (h : TH) (l : List XR) : (List Value → Res) → Res :=
  List.rec (motive := fun _ => (List Value → Res) → Res) (fun κ => κ [])
    (fun x _ ih κ => XR.rec (motive := fun _ => TV → TH → (Value → Res) → Res) rTmp rCell (fun _ _ _ => .fail "results") x tm h fun v => ih fun vs => κ (v :: vs)) l
def oneV (vs : List Value) : Value := match vs with
  | [v] => v
  | vs => .tuple ⟨vs⟩
noncomputable def endD (xf : XF) (tm : TV) (u : Up) (h : TH) (n : Nat) (κ : CRes → Res) : Res := match u with
  | .chain v _ => κ (.panic v h n)
  | _ => resK tm h xf.results fun vs => κ (.ret (oneV vs) h n)
def settleU (u : Up) : Up := match u with
  | .chain _ true => .quiet
  | u => u
/-- the deferred calls; then the function is left -/
noncomputable def leaveK (xf : XF) (tm : TV) (ds : List Deferred) : Up → TH → Nat → (CRes → Res) → Res :=
  List.rec (motive := fun _ => Up → TH → Nat → (CRes → Res) → Res) (fun u h n κ => endD xf tm u h n κ)
    (fun d _ ih u h n κ => (match d with
      | ⟨.collected b, _⟩ => ownK (.fail "collected") b fun b => h.getK b fun o => (match o with
        | .deferred false => h.set b (.deferred true) fun h => ih u h n κ
        | _ => .fail "collected")
      | ⟨.fn (.func f) captured, args⟩ => cf f (args.toList ++ captured.toList) u h n fun r u => (match r with
        | .ret _ h n => ih (settleU u) h n κ
        | .panic _ _ _ => .fail "panic in a deferred call"
        | .fail why => .fail why)
      | _ => .fail "deferred")) ds
noncomputable def endF (r : Res) : XF → (CRes → Up → Res) → Res := match r with
  | .normal tm ⟨ds, up, _⟩ h n => fun xf κ => leaveK cf xf tm ds .quiet h n fun r => κ r up
  | .ret tm ⟨ds, up, _⟩ h n => fun xf κ => leaveK cf xf tm ds .quiet h n fun r => κ r up
  | .panic v tm ⟨ds, up, _⟩ h n => fun xf κ => leaveK cf xf tm ds (.chain v false) h n fun r => κ r up
  | .fail why => fun _ _ => .fail why
  | _ => fun _ _ => .fail "left"
noncomputable def callK (f : FuncId) (args : List Value) (up : Up) (h : TH) (n : Nat) (κ : CRes → Up → Res) : Res :=
  match xt f with
  | some xf => bindK (.fail "arguments") args xf.params .e fun tm => endF cf (execC cf yf G f xf.body tm ⟨[], up, none⟩ h n) xf κ
  | none => .fail "no function"
end exec

/-- calls, and rounds, to a depth; ahead of them the calls that are known -/
noncomputable def runD (G : Tab) (xt : FuncId → Option XF) (known : CF → CF) (d : Nat) : CF × YF :=
  Nat.rec (motive := fun _ => CF × YF) (fun _ _ _ _ _ _ => .fail "depth", fun _ _ _ _ _ => .fail "depth")
    (fun _ ih => (known (callK G xt ih.1 ih.2), execY G ih.1 ih.2)) d
end Go.Clo
