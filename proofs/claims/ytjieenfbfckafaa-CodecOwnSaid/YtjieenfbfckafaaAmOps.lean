/- The abstract machine's code: operations with their types' sizes laid in, their effects, and the run of a list of them. -/
import Derived.Test.YtjieenfbfckafaaAmSteps
namespace Go.Proofs.Ytjieenfbfckafaa.Am
open Go
set_option linter.unusedVariables false
set_option linter.unusedSimpArgs false

/-! ### Lists of pairs -/
def look {α : Type} : List (Nat × α) → Nat → Option α
  | [], _ => none
  | (k, v) :: r, i => match Nat.beq i k with
    | true => some v
    | false => look r i
theorem look_nil {α : Type} (i : Nat) : look ([] : List (Nat × α)) i = none := rfl
theorem look_cons {α : Type} (k : Nat) (v : α) (r : List (Nat × α)) (i : Nat) : look ((k, v) :: r) i = if i = k then some v else look r i := by
  show (match Nat.beq i k with | true => some v | false => look r i) = _
  cases h : Nat.beq i k with
  | true => rw [if_pos (Nat.eq_of_beq_eq_true h)]
  | false => rw [if_neg (Nat.ne_of_beq_eq_false h)]
def put {α : Type} : List (Nat × α) → Nat → α → List (Nat × α)
  | [], i, x => [(i, x)]
  | (k, v) :: r, i, x => if i = k then (i, x) :: r else (k, v) :: put r i x
def del {α : Type} : List (Nat × α) → Nat → List (Nat × α)
  | [], _ => []
  | (k, v) :: r, i => if i = k then del r i else (k, v) :: del r i
theorem look_put {α : Type} (i : Nat) (x : α) (j : Nat) : ∀ l : List (Nat × α), look (put l i x) j = if j = i then some x else look l j
  | [] => by simp [put, look_cons, look_nil]
  | (k, v) :: r => by
    by_cases h : i = k
    · subst h; by_cases hj : j = i <;> simp [put, look_cons, look_nil, hj]
    · by_cases hj : j = k
      · subst hj
        have : ¬ j = i := fun e => h e.symm
        simp [put, look_cons, look_nil, h, this]
      · simp [put, look_cons, look_nil, h, hj, look_put i x j r]
theorem look_del {α : Type} (i j : Nat) : ∀ l : List (Nat × α), look (del l i) j = if j = i then none else look l j
  | [] => by simp [del, look_cons, look_nil]
  | (k, v) :: r => by
    by_cases h : i = k
    · subst h
      by_cases hj : j = i
      · subst hj; simp [del, look_del j j r]
      · simp [del, look_cons, look_nil, hj, look_del i j r]
    · by_cases hj : j = k
      · subst hj
        have : ¬ j = i := fun e => h e.symm
        simp [del, look_cons, look_nil, h, this]
      · simp [del, look_cons, look_nil, h, hj, look_del i j r]

/-! ### Other names -/
def DV.ren (f : Nat → Nat) : DV → DV
  | .p x => .p x
  | .ptr id off => .ptr (f id) off
  | .ref id off n sz => .ref (f id) off n sz
mutual
def TV.ren (f : Nat → Nat) : TV → TV
  | .c d => .c (d.ren f)
  | .agg ds => .agg (ds.map (DV.ren f))
  | .tup ts => .tup (TV.rens f ts)
def TV.rens (f : Nat → Nat) : List TV → List TV
  | [] => []
  | t :: ts => t.ren f :: TV.rens f ts
end
def Ob.ren (f : Nat → Nat) (o : Ob) : Ob := ⟨o.e, o.xs.map (DV.ren f)⟩

/-! ### States -/
structure S where
  env : List (Nat × TV)
  hp : List (Nat × Ob)
  nx : Nat

/-- An operation's effect: what it yields; the objects that it looks at; those that it writes, makes and takes away; the names that it gives. -/
structure Eff where
  r : TV
  rd : List Nat
  wr : List (Nat × Option Ob)
  nw : Nat

def Eff.of (r : TV) : Eff := ⟨r, [], [], 0⟩

def upds : List (Nat × Ob) → List (Nat × Option Ob) → List (Nat × Ob)
  | h, [] => h
  | h, (i, some o) :: r => upds (put h i o) r
  | h, (i, none) :: r => upds (del h i) r

def setT (env : List (Nat × TV)) (dst : Option Nat) (r : TV) : List (Nat × TV) :=
  match dst with
  | some d => put env d r
  | none => env
def unT (env : List (Nat × TV)) (dst : Option Nat) : List (Nat × TV) :=
  match dst with
  | some d => put env d (.tup [])
  | none => env
def S.app (s : S) (dst : Option Nat) (e : Eff) : S := ⟨setT s.env dst e.r, upds s.hp e.wr, s.nx + e.nw⟩
def S.skip (s : S) (dst : Option Nat) : S := ⟨unT s.env dst, s.hp, s.nx⟩
def S.known (s : S) (t : Nat) (b : Bool) : S := ⟨put s.env t (.c (.p (.v (.bool b)))), s.hp, s.nx⟩

/-! ### Operands -/
inductive Opd where
  | t (n : Nat)
  | k (v : Value)
  | ka (cs : List Value)
  | f (n : Nat)

def ev (s : S) : Opd → Option TV
  | .t n => look s.env n
  | .k v => some (.c (.p (.v v)))
  | .ka cs => some (.agg (cs.map fun x => .p (.v x)))
  | .f n => some (.c (.p (.v (.func (.func n) #[] #[]))))

/-! ### A contract of a function -/
/-- The arguments and the objects that they lead to (named 0, 1, ..), the result, the objects behind the call. -/
structure Spec where
  args : List TV
  hp : List (Nat × Ob)
  k : Nat
  r : TV
  hp' : List (Nat × Ob)
  k' : Nat

def Meets (P : Program) (f : FuncId) (sp : Spec) : Prop :=
  ∀ (X : Ctx) (w : World) (vs : List Value), HeapOk w X (look sp.hp) → (∀ id, X.dm id → id < sp.k) → TVRs w X sp.args vs →
    Calls P f vs.toArray w fun e w' => ∃ v X', e = .returned v ∧ TVR w' X' sp.r v ∧ HeapOk w' X' (look sp.hp') ∧ EvolP sp.k X w (look sp.hp) X' w' (look sp.hp') ∧ ∀ id, X'.dm id → id < sp.k'

/-- The caller's names of the callee's: those that it was handed, those that it has made, and one that nothing bears. -/
def nameOf (sg : List Nat) (nx new : Nat) (j : Nat) : Nat := if j < sg.length then sg.getD j 0 else nx + min (j - sg.length) new

/-- What is of one value is of the other. -/
def Sub (a b : TV) : Prop := ∀ w X u, TVR w X a u → TVR w X b u
def Subs : List TV → List TV → Prop
  | [], [] => True
  | a :: as, b :: bs => Sub a b ∧ Subs as bs
  | _, _ => False
theorem Sub.refl (a : TV) : Sub a a := fun _ _ _ h => h
theorem Subs.refl : ∀ l, Subs l l
  | [] => trivial
  | _ :: l => ⟨Sub.refl _, Subs.refl l⟩

def evs (s : S) : List Opd → Option (List TV)
  | [] => some []
  | x :: r => match ev s x, evs s r with
    | some d, some ds => some (d :: ds)
    | _, _ => none

/-- The kinds of the cells of a type that '==' compares cell by cell. -/
inductive CK where
  | tb | ti (k : IntKind) | ts
def fitCK : CK → DV → Prop
  | .tb, .p (.v (.bool _)) => True
  | .ti k, .p (.v (.int k' _)) => k' = k
  | .ts, .p (.v (.string _)) => True
  | _, _ => False
/-- So many cells of a kind, so many of another, and so on. -/
def fitCKs : List (Nat × CK) → List DV → Prop
  | [], ds => ds = []
  | (n, c) :: r, ds => n ≤ ds.length ∧ (∀ d ∈ ds.take n, fitCK c d) ∧ fitCKs r (ds.drop n)

/-! ### Operations -/
inductive AOp where
  | mov (x : Opd)
  | pick (c a b : Opd)
  | bin (op : BinOp) (x y : Opd)
  | binw (op : BinOp) (x y : Opd)
  | eqb (neq : Bool) (x y : Opd)
  | eqa (neq : Bool) (cks : List (Nat × CK)) (x y : Opd)
  | un (op : UnOp) (x : Opd)
  | conv (k : IntKind) (x : Opd)
  | same (x : Opd)
  | tostr (x : Opd)
  | tobytes (e : TypeId) (x : Opd)
  | build (zero : List Value) (parts : List (Nat × Nat × Opd))
  | lit (e sz len : Nat) (zero : List Value) (parts : List (Nat × Opd)) (own : Bool)
  | box (e : Nat) (x : Opd)
  | alloc (e : Nat) (zero : List Value)
  | load (n : Option Nat) (x : Opd)
  | store (n : Nat) (x y : Opd)
  | nilck (x : Opd)
  | fld (off : Nat) (x : Opd)
  | get (off : Nat) (n : Option Nat) (x : Opd)
  | idxa (sz : Nat) (x i : Opd)
  | idxr (len sz : Nat) (x i : Opd)
  | idxv (len sz : Nat) (n : Option Nat) (x i : Opd)
  | idxs (x i : Opd)
  | sl (sz : Nat) (x : Opd) (lo hi mx : Option Opd)
  | sls (x : Opd) (lo hi : Option Opd)
  | slr (len sz : Nat) (x : Opd) (lo hi mx : Option Opd)
  | make (e sz bytes : Nat) (zero : List Value) (n c : Opd) (own : Bool)
  | ext (i : Nat) (x : Opd)
  | call (f : Nat) (args : List Opd)
  | app (e sz bytes : Nat) (x y : Opd)
  | apps (e : Nat) (x y : Opd)
  | copy (sz : Nat) (x y : Opd)
  | len (x : Opd)
  | lens (x : Opd)
  | bconv (x : Opd)
  | mm (mx : Bool) (x y : Opd)

/-- What must be the same, asked in a form that works itself out. -/
def andN (x y : Nat) (p : Prop) : Prop :=
  match Nat.beq x y with
  | true => p
  | false => False
def andK (k k' : IntKind) (p : Prop) : Prop :=
  match decide (k = k') with
  | true => p
  | false => False
theorem andN_iff {x y : Nat} {p : Prop} : andN x y p ↔ x = y ∧ p := by
  unfold andN
  cases h : Nat.beq x y with
  | true => simp [Nat.eq_of_beq_eq_true h]
  | false => simp [Nat.ne_of_beq_eq_false h]
theorem andK_iff {k k' : IntKind} {p : Prop} : andK k k' p ↔ k = k' ∧ p := by
  unfold andK
  by_cases h : k = k'
  · simp [h]
  · simp [h]

/-- By cases, in a form that works itself out where the answer is known. -/
def onB (b : Bool) (A B : Prop) : Prop :=
  match b with
  | true => A
  | false => B
def onW (want b : Bool) (A B : Prop) : Prop :=
  match want with
  | true => onB b A B
  | false => onB b B A
theorem onB_intro {b : Bool} {A B : Prop} (h1 : b = true → A) (h2 : b = false → B) : onB b A B := by cases b <;> simp_all [onB]
theorem onB_iff {b : Bool} {A B : Prop} : onB b A B ↔ (b = true → A) ∧ (b = false → B) := by cases b <;> simp [onB]
theorem onW_iff {want b : Bool} {A B : Prop} : onW want b A B ↔ (b = want → A) ∧ (b = !want → B) := by cases want <;> cases b <;> simp [onW, onB]

/-! Values that are asked for. -/
def asI (d : Option TV) (K : IntKind → Int → Prop) : Prop :=
  match d with
  | some (.c (.p (.v (.int k n)))) => K k n
  | _ => False
def asB (d : Option TV) (K : Bool → Prop) : Prop :=
  match d with
  | some (.c (.p (.v (.bool b)))) => K b
  | _ => False
/-- A guard: its answer, or that it was not asked. -/
def asG (d : Option TV) (K : Bool → Prop) (Z : Prop) : Prop :=
  match d with
  | some (.c (.p (.v (.bool b)))) => K b
  | some (.tup []) => Z
  | _ => False
def asS (d : Option TV) (K : ByteArray → Prop) : Prop :=
  match d with
  | some (.c (.p (.v (.string s)))) => K s
  | _ => False
def asV (d : Option TV) (K : Value → Prop) : Prop :=
  match d with
  | some (.c (.p (.v v))) => K v
  | _ => False
def asA (d : Option TV) (K : List DV → Prop) : Prop :=
  match d with
  | some (.agg xs) => K xs
  | _ => False
def asD (d : Option TV) (K : TV → Prop) : Prop :=
  match d with
  | some d => K d
  | none => False
def asC (d : Option TV) (K : DV → Prop) : Prop :=
  match d with
  | some (.c d) => K d
  | _ => False

def retV (v : Value) (K : Eff → Prop) : Prop := K (.of (.c (.p (.v v))))
def retB (b : Bool) (K : Eff → Prop) : Prop := K (.of (.c (.p (.v (.bool b)))))

def binI (op : BinOp) (k : IntKind) (a b : Int) (K : Eff → Prop) : Prop :=
  match op with
  | .add => retV (.int k (k.wrap (a + b))) K
  | .sub => retV (.int k (k.wrap (a - b))) K
  | .mul => retV (.int k (k.wrap (a * b))) K
  | .quo => b ≠ 0 ∧ retV (.int k (k.wrap (a.tdiv b))) K
  | .rem => b ≠ 0 ∧ retV (.int k (a.tmod b)) K
  | .and => retV (.int k (bits .and k a b)) K
  | .or => retV (.int k (bits .or k a b)) K
  | .xor => retV (.int k (bits .xor k a b)) K
  | .andNot => retV (.int k (bits .andNot k a b)) K
  | .eql => retB (decide (a = b)) K
  | .neq => retB (!decide (a = b)) K
  | .lss => retB (decide (a < b)) K
  | .leq => retB (decide (a ≤ b)) K
  | .gtr => retB (decide (b < a)) K
  | .geq => retB (decide (b ≤ a)) K
  | _ => False
def binS (op : BinOp) (a b : ByteArray) (K : Eff → Prop) : Prop :=
  match op with
  | .add => ((a.size + b.size : Nat) : Int) ≤ 9223372036854775807 ∧ retV (.string (a ++ b)) K
  | .eql => retB (a.toList == b.toList) K
  | .neq => retB (!(a.toList == b.toList)) K
  | .lss => retB (Op.bytesLess a.toList b.toList) K
  | .leq => retB (Op.bytesLess a.toList b.toList || a.toList == b.toList) K
  | .gtr => retB (!(Op.bytesLess a.toList b.toList || a.toList == b.toList)) K
  | .geq => retB (!Op.bytesLess a.toList b.toList) K
  | _ => False
def shI (op : BinOp) (k : IntKind) (a b : Int) (K : Eff → Prop) : Prop :=
  0 ≤ b ∧ match op with
  | .shl => retV (.int k (k.wrap (a * 2 ^ min b.toNat k.bits))) K
  | .shr => retV (.int k (a.fdiv (2 ^ min b.toNat k.bits))) K
  | _ => False
def binV (op : BinOp) (x y : Value) (K : Eff → Prop) : Prop :=
  match x, y with
  | .int k a, .int k' b => match op with
    | .shl => shI .shl k a b K
    | .shr => shI .shr k a b K
    | op => andK k k' (binI op k a b K)
  | .string a, .string b => binS op a b K
  | _, _ => False
/-- The same, where sums, differences and products of 64 bits with a sign are asked to fit. -/
def exI (n : Int) (K : Eff → Prop) : Prop := (-9223372036854775808 ≤ n ∧ n ≤ 9223372036854775807) ∧ retV (.int .i64 n) K
def binE (op : BinOp) (x y : Value) (K : Eff → Prop) : Prop :=
  match op with
  | .add => match x, y with
    | .int .i64 a, .int .i64 b => exI (a + b) K
    | x, y => binV .add x y K
  | .sub => match x, y with
    | .int .i64 a, .int .i64 b => exI (a - b) K
    | x, y => binV .sub x y K
  | .mul => match x, y with
    | .int .i64 a, .int .i64 b => exI (a * b) K
    | x, y => binV .mul x y K
  | op => binV op x y K
def unV (op : UnOp) (x : Value) (K : Eff → Prop) : Prop :=
  match op, x with
  | .neg, .int k n => retV (.int k (k.wrap (0 - n))) K
  | .xor, .int k n => retV (.int k (bits .xor k (if k.signed then -1 else k.max) n)) K
  | .not, .bool b => retB (!b) K
  | _, _ => False

def oneOr (n : Option Nat) (xs : List DV) (K : Eff → Prop) : Prop :=
  match n with
  | some m => m ≤ xs.length ∧ K (.of (.agg (xs.take m)))
  | none => match xs with
    | x :: _ => K (.of (.c x))
    | [] => False
def oneOrI (n : Option Nat) (id : Nat) (xs : List DV) (K : Eff → Prop) : Prop :=
  match n with
  | some m => m ≤ xs.length ∧ K ⟨.agg (xs.take m), [id], [], 0⟩
  | none => match xs with
    | x :: _ => K ⟨.c x, [id], [], 0⟩
    | [] => False

def pb1 (b : UInt8) : PV := .v (.int .u8 (b.toNat : Int))
def pb (l : List UInt8) : List PV := l.map pb1

def cellsT : TV → Option (List DV)
  | .c d => some [d]
  | .agg xs => some xs
  | .tup _ => none

def someL {α : Type} (x : Option α) (K : α → Prop) : Prop :=
  match x with
  | some a => K a
  | none => False

/-- Parts laid over cells. -/
def lay (s : S) (cells : List DV) (ps : List (Nat × Nat × Opd)) (K : List DV → Prop) : Prop :=
  match ps with
  | [] => K cells
  | (off, n, x) :: r => asD (ev s x) fun d => someL (cellsT d) fun ds => ds.length = n ∧ off + n ≤ cells.length ∧ lay s (cells.take off ++ ds ++ cells.drop (off + n)) r K
def zeros (z : List Value) : Nat → List DV
  | 0 => []
  | n + 1 => z.map (fun x => DV.p (.v x)) ++ zeros z n
def zerosP (z : List Value) : Nat → List PV
  | 0 => []
  | n + 1 => z.map PV.v ++ zerosP z n

/-- The pure cells behind a slice that is read: of one that stays, or of the call's own. -/
def cellsOf (s : S) (sz : Nat) (d : DV) (K : Nat → List DV → List Nat → Prop) : Prop :=
  match d with
  | .p (.val n cs) => cs.length = n * sz ∧ K n (cs.map DV.p) []
  | .p (.v (.slice none 0 0)) => K 0 [] []
  | .ref id off n z => andN z sz (someL (look s.hp id) fun o => off + n * sz ≤ o.xs.length ∧ K n ((o.xs.drop off).take (n * sz)) [id])
  | _ => False

def optI (s : S) (x : Option Opd) (dflt : Int) (K : Int → Prop) : Prop :=
  match x with
  | none => K dflt
  | some x => asI (ev s x) fun _ n => K n

/-- An append to an object of the call's own, or to nil. -/
def appK (s : S) (nx e sz bytes m : Nat) (cs : List DV) (rd : List Nat) (K : Eff → Prop) (d : DV) : Prop :=
  match d with
  | .ref id off n z => andN z sz (andN off 0 (someL (look s.hp id) fun o => andN o.e e (n * sz ≤ o.xs.length ∧ (n + m) * bytes ≤ 140737488355328 ∧ n + m ≤ 140737488355328 ∧
      K ⟨.c (.ref nx 0 (n + m) sz), id :: rd, [(id, none), (nx, some ⟨e, o.xs.take (n * sz) ++ cs⟩)], 1⟩)))
  | .p (.v (.slice none 0 0)) => m * bytes ≤ 140737488355328 ∧ m ≤ 140737488355328 ∧ K ⟨.c (.ref nx 0 m sz), rd, [(nx, some ⟨e, cs⟩)], 1⟩
  | _ => False

/-- What a call asks for. -/
structure CallOk (P : Program) (s : S) (nx f : Nat) (ds : List TV) (K : Eff → Prop) : Prop where
  ex : ∃ (sp : Spec) (sg : List Nat), Meets P f sp ∧ sp.k = sg.length ∧ sg.Nodup ∧ sp.k ≤ sp.k' ∧
      (∀ p ∈ sp.hp, p.1 < sp.k) ∧ (∀ p ∈ sp.hp', p.1 < sp.k') ∧ (sp.hp'.map (·.1)).Nodup ∧
      Subs ds (TV.rens (nameOf sg nx (sp.k' - sp.k)) sp.args) ∧ (∀ j, j < sp.k → look s.hp (sg.getD j 0) = (look sp.hp j).map (Ob.ren (nameOf sg nx (sp.k' - sp.k))) ∧ (look sp.hp j).isSome) ∧
      K ⟨sp.r.ren (nameOf sg nx (sp.k' - sp.k)), sg, sg.map (fun i => (i, none)) ++ sp.hp'.map (fun p => (nameOf sg nx (sp.k' - sp.k) p.1, some (p.2.ren (nameOf sg nx (sp.k' - sp.k))))), sp.k' - sp.k + 1⟩

def AOp.effN (P : Program) (o : AOp) (s : S) (nx : Nat) (K : Eff → Prop) : Prop :=
  match o with
  | .mov x => asD (ev s x) fun d => K (.of d)
  | .pick c a b => asB (ev s c) fun c => onB c (asD (ev s a) fun d => K (.of d)) (asD (ev s b) fun d => K (.of d))
  | .bin op x y => asV (ev s x) fun x => asV (ev s y) fun y => binE op x y K
  | .binw op x y => asV (ev s x) fun x => asV (ev s y) fun y => binV op x y K
  | .eqb neq x y => asB (ev s x) fun x => asB (ev s y) fun y => retB (if neq then !(x == y) else x == y) K
  | .eqa neq cks x y => asA (ev s x) fun xs => asA (ev s y) fun ys => fitCKs cks xs ∧ fitCKs cks ys ∧ ∀ b : Bool, (b = true ↔ xs = ys) → retB (if neq then !b else b) K
  | .un op x => asV (ev s x) fun x => unV op x K
  | .conv k x => asI (ev s x) fun _ n => retV (.int k (k.wrap n)) K
  | .same x => asS (ev s x) fun b => retV (.string b) K
  | .tostr x => asC (ev s x) fun d => cellsOf s 1 d fun _ cs rd => ∃ bs : List UInt8, cs = (pb bs).map DV.p ∧ K ⟨.c (.p (.v (.string ⟨bs.toArray⟩))), rd, [], 0⟩
  | .tobytes e x => asS (ev s x) fun b => b.size ≤ 140737488355328 ∧ K (.of (.c (.p (.val b.size (pb b.data.toList)))))
  | .build zero parts => lay s (zero.map fun x => .p (.v x)) parts fun xs => K (.of (.agg xs))
  | .lit e sz ln zero parts own => lay s (zeros zero ln) (parts.map fun p => (p.1 * sz, sz, p.2)) fun xs =>
      onB own (K ⟨.c (.ref nx 0 ln sz), [], [(nx, some ⟨e, xs⟩)], 1⟩) (∃ cs : List PV, xs = cs.map DV.p ∧ K (.of (.c (.p (.val ln cs)))))
  | .box e x => asD (ev s x) fun d => someL (cellsT d) fun ds => K ⟨.c (.ptr nx 0), [], [(nx, some ⟨e, ds⟩)], 1⟩
  | .alloc e zero => K ⟨.c (.ptr nx 0), [], [(nx, some ⟨e, zero.map fun x => .p (.v x)⟩)], 1⟩
  | .load n x => asC (ev s x) fun d => match d with
    | .ptr id off => someL (look s.hp id) fun o => oneOrI n id (o.xs.drop off) K
    | .p (.vptr cs) => oneOr n (cs.map DV.p) K
    | _ => False
  | .store n x y => asC (ev s x) fun d => asD (ev s y) fun u => someL (cellsT u) fun ds => match d with
    | .ptr id off => someL (look s.hp id) fun o => ds.length = n ∧ off + n ≤ o.xs.length ∧
        K ⟨.tup [], [id], [(id, some ⟨o.e, o.xs.take off ++ ds ++ o.xs.drop (off + n)⟩)], 0⟩
    | _ => False
  | .nilck x => asC (ev s x) fun d => match d with
    | .ptr id off => K (.of (.c d))
    | .p (.vptr cs) => K (.of (.c d))
    | _ => False
  | .fld off x => asC (ev s x) fun d => match d with
    | .ptr id o => K (.of (.c (.ptr id (o + off))))
    | .p (.vptr cs) => K (.of (.c (.p (.vptr (cs.drop off)))))
    | _ => False
  | .get off n x => asA (ev s x) fun xs => oneOr n (xs.drop off) K
  | .idxa sz x i => asC (ev s x) fun d => asI (ev s i) fun _ i => match d with
    | .p (.val n cs) => (0 ≤ i ∧ i < n) ∧ K (.of (.c (.p (.vptr ((cs.drop (i.toNat * sz)).take sz)))))
    | .ref id off n z => (0 ≤ i ∧ i < n) ∧ K (.of (.c (.ptr id (off + i.toNat * sz))))
    | _ => False
  | .idxr ln sz x i => asC (ev s x) fun d => asI (ev s i) fun _ i => (0 ≤ i ∧ i < ln) ∧ match d with
    | .ptr id off => K (.of (.c (.ptr id (off + i.toNat * sz))))
    | .p (.vptr cs) => K (.of (.c (.p (.vptr (cs.drop (i.toNat * sz))))))
    | _ => False
  | .idxv ln sz n x i => asA (ev s x) fun xs => asI (ev s i) fun _ i => (0 ≤ i ∧ i < ln) ∧ oneOr n (xs.drop (i.toNat * sz)) K
  | .idxs x i => asS (ev s x) fun b => asI (ev s i) fun _ i => ∃ h : 0 ≤ i ∧ i < b.size, retV (.int .u8 ((b[i.toNat]'(by omega)).toNat : Int)) K
  | .sl sz x lo hi mx => asC (ev s x) fun d => match d with
    | .p (.val n cs) => optI s lo 0 fun l => optI s hi n fun h => optI s mx n fun m => (0 ≤ l ∧ l ≤ h ∧ h ≤ m ∧ m ≤ n) ∧ K (.of (.c (.p (.val (h - l).toNat ((cs.drop (l.toNat * sz)).take ((h - l).toNat * sz))))))
    | .ref id off n z => andN z sz (optI s lo 0 fun l => optI s hi n fun h => optI s mx n fun m => (0 ≤ l ∧ l ≤ h ∧ h ≤ m ∧ m ≤ n) ∧ K (.of (.c (.ref id (off + l.toNat * sz) (h - l).toNat sz))))
    | .p (.v (.slice none 0 0)) => optI s lo 0 fun l => optI s hi 0 fun h => optI s mx 0 fun m => (l = 0 ∧ h = 0 ∧ m = 0) ∧ K (.of (.c d))
    | _ => False
  | .sls x lo hi => asS (ev s x) fun b => optI s lo 0 fun l => optI s hi b.size fun h => (0 ≤ l ∧ l ≤ h ∧ h ≤ b.size) ∧ retV (.string (b.extract l.toNat h.toNat)) K
  | .slr ln sz x lo hi mx => asC (ev s x) fun d => match d with
    | .ptr id off => optI s lo 0 fun l => optI s hi ln fun h => optI s mx ln fun m => (0 ≤ l ∧ l ≤ h ∧ h ≤ m ∧ m ≤ ln) ∧
        someL (look s.hp id) fun o => off + ln * sz ≤ o.xs.length ∧ K ⟨.c (.ref id (off + l.toNat * sz) (h - l).toNat sz), [id], [], 0⟩
    | .p (.vptr cs) => optI s lo 0 fun l => optI s hi ln fun h => optI s mx ln fun m => (0 ≤ l ∧ l ≤ h ∧ h ≤ m ∧ m ≤ ln) ∧ K (.of (.c (.p (.val (h - l).toNat ((cs.drop (l.toNat * sz)).take ((h - l).toNat * sz))))))
    | _ => False
  | .make e sz bytes zero n c own => asI (ev s n) fun _ n => asI (ev s c) fun _ c => (0 ≤ n ∧ n ≤ c ∧ c * bytes ≤ 281474976710656 ∧ c ≤ 281474976710656) ∧
      onB own (K ⟨.c (.ref nx 0 n.toNat sz), [], [(nx, some ⟨e, zeros zero n.toNat⟩)], 1⟩) (K (.of (.c (.p (.val n.toNat (zerosP zero n.toNat))))))
  | .ext i x => match ev s x with
    | some (.tup ts) => someL ts[i]? fun d => K (.of d)
    | _ => False
  | .call f args => someL (evs s args) fun ds => CallOk P s nx f ds K
  | .app e sz bytes x y => asC (ev s x) fun d => asC (ev s y) fun u => cellsOf s sz u fun m cs rd => appK s nx e sz bytes m cs rd K d
  | .apps e x y => asC (ev s x) fun d => asS (ev s y) fun b => appK s nx e 1 1 b.size ((pb b.data.toList).map DV.p) [] K d
  | .copy sz x y => asC (ev s x) fun d => asC (ev s y) fun u => cellsOf s sz u fun m cs rd => match d with
    | .ref id off n z => andN z sz (someL (look s.hp id) fun o => off + n * sz ≤ o.xs.length ∧
        K ⟨.c (.p (.v (.int .i64 (min m n : Nat)))), id :: rd, [(id, some ⟨o.e, o.xs.take off ++ cs.take (min m n * sz) ++ o.xs.drop (off + min m n * sz)⟩)], 0⟩)
    | _ => False
  | .len x => match ev s x with
    | some (.c (.p (.val n cs))) => retV (.int .i64 n) K
    | some (.c (.ref id off n z)) => retV (.int .i64 n) K
    | some (.c (.p (.v (.slice none 0 0)))) => retV (.int .i64 0) K
    | _ => False
  | .lens x => asS (ev s x) fun b => retV (.int .i64 b.size) K
  | .bconv x => asC (ev s x) fun d => match d with
    | .ref id off n z => andN z 1 (someL (look s.hp id) fun o => ∃ cs : List PV, o.xs = cs.map DV.p ∧ 0 < n ∧ K ⟨.c (.p (.val n ((cs.drop off).take (n * 1)))), [id], [(id, none)], 0⟩)
    | _ => False
  | .mm mx x y => asI (ev s x) fun k a => asI (ev s y) fun k' b => retV (.int k (if mx then max a b else min a b)) K
abbrev AOp.eff (P : Program) (o : AOp) (s : S) (K : Eff → Prop) : Prop := o.effN P s s.nx K

/-- An operation in its place: where it writes, under which guard (the guard's temporary and the answer that is wanted). -/
structure GOp where
  dst : Option Nat
  g : Option (Nat × Bool)
  op : AOp

def Eff.acc (e : Eff) : List Nat := e.rd ++ e.wr.map (·.1)
def Eff.wrs (e : Eff) : List Nat := e.wr.map (·.1)

/-- The run of operations in the order of the text; what each looked at and wrote is noted, the last first. -/
def run (P : Program) : List GOp → S → List (List Nat × List Nat) → (S → List (List Nat × List Nat) → Prop) → Prop
  | [], s, fp, K => K s fp
  | o :: os, s, fp, K => match o.g with
    | none => o.op.eff P s fun e => run P os (s.app o.dst e) ((e.acc, e.wrs) :: fp) K
    | some (t, want) => asG (look s.env t) (fun b => onW want b
        (o.op.eff P (s.known t want) fun e => run P os ((s.known t want).app o.dst e) ((e.acc, e.wrs) :: fp) K)
        (run P os ((s.known t !want).skip o.dst) (([], []) :: fp) K)) (run P os (s.skip o.dst) (([], []) :: fp) K)

end Go.Proofs.Ytjieenfbfckafaa.Am
