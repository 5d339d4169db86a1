/-
  Abstract values, abstract memory, and an evaluator of the model's code over them: one run that stands for all runs. Written for the kernel: flat types, structures instead of tries, closures instead of dispatch.
-/
import GoSem.Step
import Derived.Control
namespace CSim
set_option linter.unusedSimpArgs false
set_option linter.unusedVariables false
open Go
noncomputable section

/-- a value of one cell that is no int, bool, pointer -/
inductive AX where
  | any
  | one
  | rng (k : Nat) (lo hi : Int)
  | float (k bits : Nat)
  | complex (k re im : Nat)
  | str (s : List Nat)
  | nilptr
  | nilslice
  | slice (b o len cap es : Nat) (exact : Bool)
  | nilmap
  | map (b : Nat)
  | func (f : Nat) (cap : List (Nat × Nat))
  | yield (l : Nat)
  | nilfunc
  deriving Inhabited
/-- a value of one cell; an int's kind is a number: twice its bits, and one if it has a sign -/
inductive AV where
  | int (k : Nat) (n : Int)
  | bool (b : Bool)
  | ptr (b o : Nat)
  | oth (x : AX)
  deriving Inhabited
/-- a value -/
inductive V where
  | s (a : AV)
  | agg (l : List AV)
  | tup (l : List V)
  deriving Inhabited

abbrev V.int (k : Nat) (n : Int) : V := .s (.int k n)
abbrev V.x (x : AX) : V := .s (.oth x)
/-- what a slot has that was not written -/
def undefA : V := .tup []
/-- the kind of int -/
abbrev kI : Nat := 129
abbrev kByte : Nat := 16

/-- a name that the kernel opens in a loop of its own: it keeps the kernel's stack low -/
def go {α : Type} (x : α) : α := x

/-! numbers are made literal before they go on -/
def fNat {β : Type} (n : Nat) (f : Nat → β) : β := match n with
  | 0 => f 0
  | k + 1 => f (Nat.succ k)
def fInt {β : Type} (n : Int) (f : Int → β) : β := match n with
  | .ofNat m => fNat m fun m => f (.ofNat m)
  | .negSucc m => fNat m fun m => f (.negSucc m)
def fBool {β : Type} (b : Bool) (f : Bool → β) : β := match b with
  | true => f true
  | false => f false

/-! eight of something -/
structure N8 (α : Type) where
  (a b c d e f g h : α)
def N8.all {α : Type} (x : α) : N8 α := ⟨x, x, x, x, x, x, x, x⟩
def N8.ua {α : Type} (n : N8 α) (x : α) : N8 α := ⟨x, n.b, n.c, n.d, n.e, n.f, n.g, n.h⟩
def N8.ub {α : Type} (n : N8 α) (x : α) : N8 α := ⟨n.a, x, n.c, n.d, n.e, n.f, n.g, n.h⟩
def N8.uc {α : Type} (n : N8 α) (x : α) : N8 α := ⟨n.a, n.b, x, n.d, n.e, n.f, n.g, n.h⟩
def N8.ud {α : Type} (n : N8 α) (x : α) : N8 α := ⟨n.a, n.b, n.c, x, n.e, n.f, n.g, n.h⟩
def N8.ue {α : Type} (n : N8 α) (x : α) : N8 α := ⟨n.a, n.b, n.c, n.d, x, n.f, n.g, n.h⟩
def N8.uf {α : Type} (n : N8 α) (x : α) : N8 α := ⟨n.a, n.b, n.c, n.d, n.e, x, n.g, n.h⟩
def N8.ug {α : Type} (n : N8 α) (x : α) : N8 α := ⟨n.a, n.b, n.c, n.d, n.e, n.f, x, n.h⟩
def N8.uh {α : Type} (n : N8 α) (x : α) : N8 α := ⟨n.a, n.b, n.c, n.d, n.e, n.f, n.g, x⟩
/-- which of eight -/
def sel8 {β : Type} (i : Nat) (a b c d e f g h : β) : β := match i with
  | 0 => a
  | i + 1 => match i with
    | 0 => b
    | i + 1 => match i with
      | 0 => c
      | i + 1 => match i with
        | 0 => d
        | i + 1 => match i with
          | 0 => e
          | i + 1 => match i with
            | 0 => f
            | i + 1 => match i with
              | 0 => g
              | _ + 1 => h
def N8.at {α : Type} (i : Nat) : N8 α → α := sel8 i N8.a N8.b N8.c N8.d N8.e N8.f N8.g N8.h
def N8.up {α : Type} (i : Nat) : N8 α → α → N8 α := sel8 i N8.ua N8.ub N8.uc N8.ud N8.ue N8.uf N8.ug N8.uh

/-! slots: 512 -/
abbrev E1 : Type := N8 V
abbrev E2 : Type := N8 E1
abbrev E : Type := N8 E2
def E.empty : E := N8.all (N8.all (N8.all undefA))
def get3 (g2 : E → E2) (g1 : E2 → E1) (g0 : E1 → V) (e : E) : V := g0 (g1 (g2 e))
def put3 (g2 : E → E2) (g1 : E2 → E1) (u2 : E → E2 → E) (u1 : E2 → E1 → E2) (u0 : E1 → V → E1) (e : E) (x : V) : E := u2 e (u1 (g2 e) (u0 (g1 (g2 e)) x))
abbrev Getter : Type := E → V
abbrev Setter : Type := E → V → E
def getter (i : Nat) : Getter := get3 (N8.at (Nat.div i 64)) (N8.at (Nat.mod (Nat.div i 8) 8)) (N8.at (Nat.mod i 8))
def setter (i : Nat) : Setter := put3 (N8.at (Nat.div i 64)) (N8.at (Nat.mod (Nat.div i 8) 8)) (N8.up (Nat.div i 64)) (N8.up (Nat.mod (Nat.div i 8) 8)) (N8.up (Nat.mod i 8))
/-- the same, found out when code is compiled -/
def withSel {α β : Type} (i : Nat) (f : (N8 α → α) → (N8 α → α → N8 α) → β) : β := sel8 i (f N8.a N8.ua) (f N8.b N8.ub) (f N8.c N8.uc) (f N8.d N8.ud) (f N8.e N8.ue) (f N8.f N8.uf) (f N8.g N8.ug) (f N8.h N8.uh)
def withGetter {β : Type} (i : Nat) (f : Getter → β) : β :=
  withSel (Nat.div i 64) fun g2 _ => withSel (Nat.mod (Nat.div i 8) 8) fun g1 _ => withSel (Nat.mod i 8) fun g0 _ => f (get3 g2 g1 g0)
def withSetter {β : Type} (i : Nat) (f : Setter → β) : β :=
  withSel (Nat.div i 64) fun g2 u2 => withSel (Nat.mod (Nat.div i 8) 8) fun g1 u1 => withSel (Nat.mod i 8) fun _ u0 => f (put3 g2 g1 u2 u1 u0)

/-! lists -/
def takeN {α : Type} (n : Nat) : List α → Option (List α) :=
  Nat.rec (motive := fun _ => List α → Option (List α)) (fun _ => some [])
    (fun _ ih l => List.rec none (fun x l _ => Option.rec none (fun r => some (x :: r)) (ih l)) l) n
def over {α : Type} (xs : List α) : List α → Option (List α) :=
  List.rec (motive := fun _ => List α → Option (List α)) (fun l => some l)
    (fun x _ ih l => List.rec none (fun _ l _ => Option.rec none (fun r => some (x :: r)) (ih l)) l) xs
def splice {α : Type} (n : Nat) : List α → List α → Option (List α) :=
  Nat.rec (motive := fun _ => List α → List α → Option (List α)) (fun l xs => over xs l)
    (fun _ ih l xs => List.rec none (fun y l _ => Option.rec none (fun r => some (y :: r)) (ih l xs)) l) n
def dropN {α : Type} (n : Nat) : List α → List α :=
  Nat.rec (motive := fun _ => List α → List α) (fun l => l)
    (fun _ ih l => List.rec [] (fun _ l _ => ih l) l) n
def lenL {α : Type} (l : List α) : Nat := List.rec 0 (fun _ _ n => Nat.succ n) l
def app {α : Type} (l m : List α) : List α := List.rec m (fun x _ r => x :: r) l
/-- a list of numbers, compared -/
def eqList (l : List Nat) : List Nat → Bool :=
  List.rec (motive := fun _ => List Nat → Bool) (fun m => List.rec true (fun _ _ _ => false) m)
    (fun a _ ih m => List.rec false (fun b y _ => Bool.rec false (go (ih y)) (Nat.beq a b)) m) l
def bytesL (l : List Nat) : List AV := List.rec [] (fun b _ r => .int kByte (Int.ofNat b) :: r) l
def ltList : List Nat → List Nat → Bool
  | _, [] => false
  | [], _ :: _ => true
  | a :: x, b :: y => match Nat.blt a b with
    | true => true
    | false => match Nat.beq a b with
      | true => go (ltList x y)
      | false => false
def rep (z : List AV) : Nat → List AV
  | 0 => []
  | n + 1 => app z (rep z n)

/-! memory: blocks by number, below 8^5 -/
inductive AExit where
  | normal | exit (id : Nat) | goto (l : Nat) | ret
  deriving Inhabited
/-- rows of cells: a tree of 512 -/
abbrev R0 : Type := Option (List AV)
abbrev R1 : Type := N8 R0
abbrev R2 : Type := N8 R1
abbrev R3 : Type := N8 R2
abbrev Rows : Type := N8 R3
def Rows.empty : Rows := N8.all (N8.all (N8.all (N8.all none)))
def Rows.get (t : Rows) (i : Nat) : R0 := N8.at (Nat.mod i 8) (N8.at (Nat.mod (Nat.div i 8) 8) (N8.at (Nat.mod (Nat.div i 64) 8) (N8.at (Nat.div i 512) t)))
def up2 {α : Type} (i : Nat) (t : N8 (N8 α)) (j : Nat) (x : α) : N8 (N8 α) := N8.up i t (N8.up j (N8.at i t) x)
def Rows.set (t : Rows) (i : Nat) (x : R0) : Rows :=
  N8.up (Nat.div i 512) t (N8.up (Nat.mod (Nat.div i 64) 8) (N8.at (Nat.div i 512) t) (up2 (Nat.mod (Nat.div i 8) 8) (N8.at (Nat.mod (Nat.div i 64) 8) (N8.at (Nat.div i 512) t)) (Nat.mod i 8) x))

inductive AObj where
  | cells (fz : Bool) (l : List AV)
  | rows (c n : Nat) (z : List AV) (t : Rows)
  | map (es : List (AV × V))
  | loop (st : Nat) (pend : Option AExit) (e : E) (ps : List Nat) (asg body : Code) (n : Nat)
abbrev H0 : Type := Option AObj
abbrev H1 : Type := N8 H0
abbrev H2 : Type := N8 H1
abbrev H3 : Type := N8 H2
abbrev H4 : Type := N8 H3
abbrev Mem : Type := N8 H4
def Mem.empty : Mem := N8.all (N8.all (N8.all (N8.all (N8.all none))))
def Mem.low (t : H2) (i : Nat) : H0 := N8.at (Nat.mod i 8) (N8.at (Nat.mod (Nat.div i 8) 8) t)
def Mem.get (t : Mem) (i : Nat) : H0 := Mem.low (N8.at (Nat.mod (Nat.div i 64) 8) (N8.at (Nat.mod (Nat.div i 512) 8) (N8.at (Nat.div i 4096) t))) i
def Mem.lowSet (t : H2) (i : Nat) (x : H0) : H2 := up2 (Nat.mod (Nat.div i 8) 8) t (Nat.mod i 8) x
def Mem.midSet (t : H4) (i : Nat) (x : H0) : H4 :=
  N8.up (Nat.mod (Nat.div i 512) 8) t (N8.up (Nat.mod (Nat.div i 64) 8) (N8.at (Nat.mod (Nat.div i 512) 8) t)
    (Mem.lowSet (N8.at (Nat.mod (Nat.div i 64) 8) (N8.at (Nat.mod (Nat.div i 512) 8) t)) i x))
def Mem.set (t : Mem) (i : Nat) (x : H0) : Mem := N8.up (Nat.div i 4096) t (Mem.midSet (N8.at (Nat.div i 4096) t) i x)
/-- one more than the greatest number of a block -/
def most : Nat := 32768

structure Heap where
  next : Nat
  m : Mem

inductive Res where
  | no
  | ok (v : V) (h : Heap)
inductive XRes where
  | no
  | ok (x : AExit) (e : E) (h : Heap)
inductive ORes where
  | no
  | ok (e : E) (h : Heap)

/-- so many rows from one on, joined -/
def rowsFrom (z : List AV) (t : Rows) : Nat → Nat → List AV
  | 0, _ => []
  | k + 1, q => app ((t.get q).getD z) (rowsFrom z t k (Nat.succ q))
def rowsRead (c rn : Nat) (z : List AV) (t : Rows) (off n : Nat) : Option (List AV) :=
  match Nat.beq c 0 with
  | true => none
  | false =>
    match Nat.ble (Nat.add (Nat.mod off c) n) c with
    | true => match Nat.blt (Nat.div off c) rn with
      | true => takeN n (dropN (Nat.mod off c) ((t.get (Nat.div off c)).getD z))
      | false => none
    | false => match Nat.beq (Nat.mod off c) 0 && Nat.beq (Nat.mod n c) 0 && Nat.ble (Nat.add (Nat.div off c) (Nat.div n c)) rn with
      | true => some (rowsFrom z t (Nat.div n c) (Nat.div off c))
      | false => none
def AObj.read (o : AObj) (off n : Nat) : Option (List AV) := match o with
  | .cells _ l => takeN n (dropN off l)
  | .rows c rn z t => rowsRead c rn z t off n
  | _ => none
def rowsWrite (c rn : Nat) (z : List AV) (t : Rows) (off : Nat) (xs : List AV) : Option AObj :=
  match Nat.beq c 0 with
  | true => none
  | false =>
    match Nat.blt (Nat.div off c) rn with
    | true => match splice (Nat.mod off c) ((t.get (Nat.div off c)).getD z) xs with
      | some row => some (.rows c rn z (t.set (Nat.div off c) (some row)))
      | none => none
    | false => none
def AObj.write (o : AObj) (off : Nat) (xs : List AV) : Option AObj := match o with
  | .cells fz l => match splice off l xs with
    | some l => some (.cells fz l)
    | none => none
  | .rows c rn z t => rowsWrite c rn z t off xs
  | _ => none

def Heap.get (h : Heap) (b : Nat) : H0 := match Nat.blt b most with
  | true => h.m.get b
  | false => none
def Heap.read (h : Heap) (b off n : Nat) : Option (List AV) := match h.get b with
  | some o => o.read off n
  | none => none
/-- a block is another one -/
def Heap.upd (h : Heap) (b : Nat) (o : H0) : Heap := ⟨h.next, h.m.set b o⟩
def Heap.write {β : Type} (h : Heap) (b off : Nat) (xs : List AV) (d : β) (f : Heap → β) : β := match h.get b with
  | some o => match o.write off xs with
    | some o => f (h.upd b (some o))
    | none => d
  | none => d
def Heap.new (h : Heap) (o : AObj) (f : Nat → V) : Res :=
  fNat h.next fun i => match Nat.blt i most with
    | true => .ok (f i) ⟨Nat.succ i, h.m.set i (some o)⟩
    | false => .no

/-- a list cut into rows -/
def chunks (c : Nat) : Nat → List AV → Nat → Rows → Rows
  | 0, _, _, t => t
  | k + 1, l, q, t => match takeN c l with
    | some r => chunks c k (dropN c l) (Nat.succ q) (t.set q (some r))
    | none => t
/-- is an object cut into rows? how many rows may there be -/
def mostRows : Nat := 4096
/-- 'n' elements of 'es' cells -/
def mkObj (fz : Bool) (es n : Nat) (z : List AV) (l : List AV) : AObj := match Nat.blt 15 es && Nat.blt n mostRows with
  | true => .rows es n z (chunks es n l 0 .empty)
  | false => .cells fz l

/-- how cells are compared -/
inductive EK where
  | bool | int | float | cplx | str | ptr | slice | map | func | skip

inductive Opnd where
  | t (g : Getter)
  | c (v : V)
abbrev Env := Opnd → V
def evO (e : E) : Opnd → V
  | .t g => g e
  | .c v => v

abbrev CallF := Nat → List V → Heap → Res
/-- what calls do; in which round of a loop over a function the code lies -/
structure Calls where
  fn : CallF
  yield : CallF
  round : Option Nat
def Calls.at (c : Calls) (r : Option Nat) : Calls := ⟨c.fn, c.yield, r⟩
abbrev Run := Calls → Env → Heap → Res

/-- a value, and the memory as it was -/
def rv (h : Heap) (x : Option AV) : Res := match x with
  | some x => .ok (.s x) h
  | none => .no
def mkInt (k : Nat) (n : Int) : Option AV := fInt n fun n => some (.int k n)
def mkBool (b : Bool) : Option AV := fBool b fun b => some (.bool b)

/-! numbers -/
def all1 (k : Nat) : Nat := Nat.sub (Nat.pow 2 (Nat.div k 2)) 1
/-- a number of bits, as a number of a kind -/
def ofBits (k : Nat) (m : Nat) : Int := match Nat.beq (Nat.mod k 2) 1 && Nat.ble (Nat.pow 2 (Nat.sub (Nat.div k 2) 1)) m with
  | true => Int.negSucc (Nat.sub (all1 k) m)
  | false => Int.ofNat m
/-- the lowest bits of a number -/
def low (k : Nat) (x : Int) : Nat := match x with
  | .ofNat n => Nat.mod n (Nat.pow 2 (Nat.div k 2))
  | .negSucc n => Nat.sub (all1 k) (Nat.mod n (Nat.pow 2 (Nat.div k 2)))
def wrapA (k : Nat) (n : Int) : Int := ofBits k (low k n)

def beqI (a b : Int) : Bool := match a with
  | .ofNat a => (match b with | .ofNat b => Nat.beq a b | .negSucc _ => false)
  | .negSucc a => (match b with | .ofNat _ => false | .negSucc b => Nat.beq a b)
def bltI (a b : Int) : Bool := match a with
  | .ofNat a => (match b with | .ofNat b => Nat.blt a b | .negSucc _ => false)
  | .negSucc a => (match b with | .ofNat _ => true | .negSucc b => Nat.blt b a)
def bleI (a b : Int) : Bool := !bltI b a
def addI (a b : Int) : Int := match a with
  | .ofNat m => (match b with | .ofNat n => .ofNat (Nat.add m n) | .negSucc n => Int.add (.ofNat m) (.negSucc n))
  | .negSucc m => Int.add (.negSucc m) b
def subI (a b : Int) : Int := match a with
  | .ofNat m => (match b with
    | .ofNat n => (match Nat.ble n m with | true => .ofNat (Nat.sub m n) | false => .negSucc (Nat.sub (Nat.sub n m) 1))
    | .negSucc n => Int.sub (.ofNat m) (.negSucc n))
  | .negSucc m => Int.sub (.negSucc m) b

abbrev IOp := Nat → Int → Int → Option AV
def iAdd : IOp := fun k a b => mkInt k (wrapA k (addI a b))
def iSub : IOp := fun k a b => mkInt k (wrapA k (subI a b))
def iMul : IOp := fun k a b => mkInt k (wrapA k (Int.mul a b))
def iQuo : IOp := fun k a b => match beqI b 0 with
  | true => none
  | false => mkInt k (wrapA k (Int.tdiv a b))
def iRem : IOp := fun k a b => match beqI b 0 with
  | true => none
  | false => mkInt k (Int.tmod a b)
def iAnd : IOp := fun k a b => mkInt k (ofBits k (Nat.land (low k a) (low k b)))
def iOr : IOp := fun k a b => mkInt k (ofBits k (Nat.lor (low k a) (low k b)))
def iXor : IOp := fun k a b => mkInt k (ofBits k (Nat.xor (low k a) (low k b)))
def iAndNot : IOp := fun k a b => mkInt k (ofBits k (Nat.land (low k a) (Nat.sub (all1 k) (low k b))))
def iEql : IOp := fun _ a b => mkBool (beqI a b)
def iNeq : IOp := fun _ a b => mkBool (!beqI a b)
def iLss : IOp := fun _ a b => mkBool (bltI a b)
def iLeq : IOp := fun _ a b => mkBool (bleI a b)
def iGtr : IOp := fun _ a b => mkBool (bltI b a)
def iGeq : IOp := fun _ a b => mkBool (bleI b a)
def iNo : IOp := fun _ _ _ => none
def intBin (op : BinOp) : IOp := match op with
  | .add => iAdd | .sub => iSub | .mul => iMul | .quo => iQuo | .rem => iRem | .and => iAnd | .or => iOr | .xor => iXor | .andNot => iAndNot
  | .eql => iEql | .neq => iNeq | .lss => iLss | .leq => iLeq | .gtr => iGtr | .geq => iGeq | .shl | .shr => iNo

def shiftA (left : Bool) (k : Nat) (a b : Int) : Option AV := match b with
  | .negSucc _ => none
  | .ofNat n => match left with
    | true => mkInt k (wrapA k (Int.mul a (Int.ofNat (Nat.pow 2 (Nat.min n (Nat.div k 2))))))
    | false => match a with
      | .ofNat m => mkInt k (.ofNat (Nat.div m (Nat.pow 2 (Nat.min n (Nat.div k 2)))))
      | .negSucc m => mkInt k (Int.fdiv (.negSucc m) (Int.ofNat (Nat.pow 2 (Nat.min n (Nat.div k 2)))))

def fk (k : Nat) : FloatKind := match Nat.beq k 32 with
  | true => .f32
  | false => .f64
def fl (k : Nat) (r : Option Nat) : Option AV := match r with
  | some r => fNat r fun r => some (.oth (.float k r))
  | none => none
def floatBin (op : BinOp) (k : Nat) (x y : Nat) : Option AV := match op with
  | .add => fl k ((fk k).format.add x y)
  | .sub => fl k ((fk k).format.sub x y)
  | .mul => fl k ((fk k).format.mul x y)
  | .quo => fl k ((fk k).format.div x y)
  | .eql => mkBool ((fk k).format.order x y == some .eq)
  | .neq => mkBool ((fk k).format.order x y != some .eq)
  | .lss => mkBool ((fk k).format.order x y == some .lt)
  | .leq => mkBool ((fk k).format.order x y == some .lt || (fk k).format.order x y == some .eq)
  | .gtr => mkBool ((fk k).format.order x y == some .gt)
  | .geq => mkBool ((fk k).format.order x y == some .gt || (fk k).format.order x y == some .eq)
  | _ => none
def strBin (op : BinOp) (x y : List Nat) : Option AV := match op with
  | .add => (match Nat.ble (Nat.add (lenL x) (lenL y)) 1099511627776 with
    | true => some (.oth (.str (app x y)))
    | false => none)
  | .eql => mkBool (eqList x y)
  | .neq => mkBool (!eqList x y)
  | .lss => mkBool (ltList x y)
  | .leq => mkBool (ltList x y || eqList x y)
  | .gtr => mkBool (!(ltList x y || eqList x y))
  | .geq => mkBool (!ltList x y)
  | _ => none
def cx (k : Nat) (r s : Option Nat) : Option AV := match r, s with
  | some r, some s => fNat r fun r => fNat s fun s => some (.oth (.complex k r s))
  | _, _ => none
def cEq (k : Nat) (a b c d : Nat) : Bool := (fk k).format.order a c == some .eq && (fk k).format.order b d == some .eq
def cMul (k : Nat) (a b c d : Nat) : Option AV := match Nat.beq k 64 with
  | true => match (fk k).format.mul a c, (fk k).format.mul b d, (fk k).format.mul a d, (fk k).format.mul b c with
    | some ac, some bd, some ad, some bc => cx k ((fk k).format.sub ac bd) ((fk k).format.add ad bc)
    | _, _, _, _ => none
  | false => none
def cplxBin (op : BinOp) (k : Nat) (a b c d : Nat) : Option AV := match op with
  | .add => cx k ((fk k).format.add a c) ((fk k).format.add b d)
  | .sub => cx k ((fk k).format.sub a c) ((fk k).format.sub b d)
  | .mul => cMul k a b c d
  | .eql => mkBool (cEq k a b c d)
  | .neq => mkBool (!cEq k a b c d)
  | _ => none

/-! values, taken apart -/
def V.sc {β : Type} (v : V) (d : β) (f : AV → β) : β := match v with
  | .s a => f a
  | _ => d
def asInt {β : Type} (v : V) (d : β) (f : Nat → Int → β) : β := match v with
  | .s a => (match a with | .int k n => f k n | _ => d)
  | _ => d
def asPtr {β : Type} (v : V) (d : β) (f : Nat → Nat → β) : β := match v with
  | .s a => (match a with | .ptr b o => f b o | _ => d)
  | _ => d
def asOth {β : Type} (v : V) (d : β) (f : AX → β) : β := match v with
  | .s a => (match a with | .oth x => f x | _ => d)
  | _ => d

def binOth (op : BinOp) (x y : AX) : Option AV := match x with
  | .str a => (match y with | .str b => strBin op a b | _ => none)
  | .float k a => (match y with | .float k' b => (match Nat.beq k k' with | true => floatBin op k a b | false => none) | _ => none)
  | .complex k a b => (match y with | .complex k' c d => (match Nat.beq k k' with | true => cplxBin op k a b c d | false => none) | _ => none)
  | _ => none
/-- ints between bounds, two of them, of a kind -/
def rngTest (yes no : Bool) : Option AV := match yes with
  | true => some (.bool true)
  | false => (match no with | true => some (.bool false) | false => none)
/-- do numbers fit a kind? -/
def fitsK (k : Nat) (lo hi : Int) : Bool := beqI (wrapA k lo) lo && beqI (wrapA k hi) hi
def mkRng (k : Nat) (lo hi : Int) : Option AV := match fitsK k lo hi with
  | true => fInt lo fun lo => fInt hi fun hi => some (.oth (.rng k lo hi))
  | false => none
def rngBin (op : BinOp) (k : Nat) (lo hi lo' hi' : Int) : Option AV := match op with
  | .lss => rngTest (bltI hi lo') (bleI hi' lo)
  | .leq => rngTest (bleI hi lo') (bltI hi' lo)
  | .gtr => rngTest (bltI hi' lo) (bleI hi lo')
  | .geq => rngTest (bleI hi' lo) (bltI hi lo')
  | .eql => rngTest false (bltI hi lo' || bltI hi' lo)
  | .neq => rngTest (bltI hi lo' || bltI hi' lo) false
  | .add => mkRng k (addI lo lo') (addI hi hi')
  | .sub => mkRng k (subI lo hi') (subI hi lo')
  | _ => none
def rngOf (x : AX) (k' : Nat) (f : Int → Int → Option AV) : Option AV := match x with
  | .rng k lo hi => (match Nat.beq k k' with | true => f lo hi | false => none)
  | _ => none
def binY (op : BinOp) (x : AX) (y : AV) : Option AV := match y with
  | .oth y => binOth op x y
  | _ => none
def binX (op : BinOp) (x : AX) (y : AV) : Option AV := match x with
  | .rng k lo hi => (match y with
    | .int k' b => (match Nat.beq k k' with | true => rngBin op k lo hi b b | false => none)
    | .oth y => rngOf y k fun lo' hi' => rngBin op k lo hi lo' hi'
    | _ => none)
  | x => binY op x y
def binA (op : BinOp) (f : IOp) (x y : AV) : Option AV := match x with
  | .int k a => (match y with
    | .int k' b => (match Nat.beq k k' with | true => f k a b | false => none)
    | .oth y => rngOf y k fun lo hi => rngBin op k a a lo hi
    | _ => none)
  | .oth x => binX op x y
  | _ => none
def shA (left : Bool) (x y : AV) : Option AV := match x with
  | .int k a => (match y with | .int _ b => shiftA left k a b | _ => none)
  | _ => none

/-- is a block there, and may no string share it? -/
def Heap.plain (h : Heap) (b : Nat) : Bool := match h.get b with
  | some (.cells fz _) => !fz
  | some (.rows ..) => true
  | _ => false

/-- two keys, compared -/
def eqVal (x y : AV) : Option Bool := match x with
  | .int k a => (match y with | .int k' b => (match Nat.beq k k' with | true => some (beqI a b) | false => none) | _ => none)
  | .oth x => (match y with | .oth y => (match x with | .str a => (match y with | .str b => some (eqList a b) | _ => none) | _ => none) | _ => none)
  | _ => none
def isNilptr (x : AX) : Bool := match x with
  | .nilptr => true
  | _ => false
def eqPtr (h : Heap) (x y : AV) : Option Bool := match x with
  | .ptr b o => (match y with
    | .ptr b' o' => (match Nat.beq b b' with
      | true => some (Nat.beq o o')
      | false => match h.plain b && h.plain b' with
        | true => some false
        | false => none)
    | .oth x => (match isNilptr x with | true => some false | false => none)
    | _ => none)
  | .oth x => (match isNilptr x with
    | true => (match y with
      | .ptr .. => some false
      | .oth y => (match isNilptr y with | true => some true | false => none)
      | _ => none)
    | false => none)
  | _ => none
def isNil (k : EK) (x : AX) : Option Bool := match k with
  | .slice => (match x with | .nilslice => some true | .slice .. => some false | _ => none)
  | .map => (match x with | .nilmap => some true | .map _ => some false | _ => none)
  | .func => (match x with | .nilfunc => some true | .func .. => some false | _ => none)
  | _ => none
def eqNil (a b : Option Bool) : Option Bool := match a with
  | some a => (match b with
    | some b => (match a with
      | true => some b
      | false => (match b with | true => some false | false => none))
    | none => none)
  | none => none
def eqX (k : EK) (x y : AX) : Option Bool := match k with
  | .str => (match x with | .str a => (match y with | .str b => some (eqList a b) | _ => none) | _ => none)
  | .float => (match x with | .float k a => (match y with | .float k' b => (match Nat.beq k k' with | true => some ((fk k).format.order a b == some .eq) | false => none) | _ => none) | _ => none)
  | .cplx => (match x with | .complex k a b => (match y with | .complex k' c d => (match Nat.beq k k' with | true => some (cEq k a b c d) | false => none) | _ => none) | _ => none)
  | k => eqNil (isNil k x) (isNil k y)
/-- two cells, compared -/
def eqCell (h : Heap) (k : EK) (x y : AV) : Option Bool := match k with
  | .skip => some true
  | .bool => (match x with | .bool a => (match y with | .bool b => some (a == b) | _ => none) | _ => none)
  | .int => (match x with | .int k a => (match y with | .int k' b => (match Nat.beq k k' with | true => some (beqI a b) | false => none) | _ => none) | _ => none)
  | .ptr => eqPtr h x y
  | k => (match x with | .oth x => (match y with | .oth y => eqX k x y | _ => none) | _ => none)
def eqCells (h : Heap) : List EK → List AV → List AV → Option Bool
  | [], [], [] => some true
  | k :: ks, x :: xs, y :: ys => match eqCell h k x y with
    | some true => eqCells h ks xs ys
    | some false => some false
    | none => none
  | _, _, _ => none

def isAny (a : AV) : Bool := match a with
  | .oth x => (match x with | .any => true | _ => false)
  | _ => false
def cellsOf (v : V) : Option (List AV) := match v with
  | .s a => (match isAny a with | true => none | false => some [a])
  | .agg l => some l
  | .tup _ => none

def fillA (ev : Env) : List (Nat × Nat × Opnd) → List AV → Option (List AV)
  | [], l => some l
  | (off, size, x) :: r, l => match cellsOf (ev x) with
    | some cs => match Nat.beq (lenL cs) size with
      | true => match splice off l cs with
        | some l => fillA ev r l
        | none => none
      | false => none
    | none => none

def natOf (v : V) : Option Nat := asInt v none fun _ n => match n with
  | .ofNat n => some n
  | .negSucc _ => none
/-- an index below a bound -/
def below (v : V) (n : Nat) : Option Nat := match natOf v with
  | some i => match Nat.blt i n with
    | true => some i
    | false => none
  | none => none
def upto (v : V) (n : Nat) : Option Nat := match natOf v with
  | some i => match Nat.ble i n with
    | true => some i
    | false => none
  | none => none
def uptoOr (ev : Env) (x : Option Opnd) (n d : Nat) : Option Nat := match x with
  | some v => upto (ev v) n
  | none => some d

def fSlice {β : Type} (b o len cap es : Nat) (exact : Bool) (f : V → β) : β :=
  fNat o fun o => fNat len fun len => fNat cap fun cap => fBool exact fun exact => f (.x (.slice b o len cap es exact))

def byteOf (x : AV) : Option Nat := match x with
  | .int k n => (match Nat.beq k kByte with
    | true => (match n with
      | .ofNat n => (match Nat.blt n 256 with | true => some n | false => none)
      | .negSucc _ => none)
    | false => none)
  | _ => none
def unbytes : List AV → Option (List Nat)
  | [] => some []
  | x :: l => match byteOf x with
    | some n => match unbytes l with
      | some r => some (n :: r)
      | none => none
    | none => none

def findA (k : AV) : List (AV × V) → Option (Option V)
  | [] => some none
  | (k', v) :: l => match eqVal k k' with
    | some true => some (some v)
    | some false => findA k l
    | none => none
def putA (k : AV) (v : V) : List (AV × V) → Option (List (AV × V))
  | [] => some [(k, v)]
  | (k', v') :: l => match eqVal k k' with
    | some true => some ((k, v) :: l)
    | some false => match putA k v l with
      | some r => some ((k', v') :: r)
      | none => none
    | none => none
/-- may it be a key, of a map whose keys are ints, or texts? -/
def keyOf (ints : Bool) (v : V) : Option AV := match v with
  | .s a => (match a with
    | .int k n => (match ints with | true => some (.int k n) | false => none)
    | .oth x => (match x with | .str s => (match ints with | true => none | false => some (.oth (.str s))) | _ => none)
    | _ => none)
  | _ => none

def maxF (mx : Bool) (k a b : Nat) : Option AV := match (fk k).format.order a b with
  | none => none
  | some .lt => (match mx with | true => some (.oth (.float k b)) | false => some (.oth (.float k a)))
  | some .gt => (match mx with | true => some (.oth (.float k a)) | false => some (.oth (.float k b)))
  | some .eq => (match ((fk k).decode a).neg with
    | true => (match mx with | true => some (.oth (.float k b)) | false => some (.oth (.float k a)))
    | false => (match mx with | true => some (.oth (.float k a)) | false => some (.oth (.float k b))))
def maxI (mx : Bool) (a b : Int) : Int := match mx with
  | true => (match bltI a b with | true => b | false => a)
  | false => (match bltI b a with | true => b | false => a)
def rngMax (mx : Bool) (k : Nat) (lo hi lo' hi' : Int) : Option AV := fInt (maxI mx lo lo') fun lo => fInt (maxI mx hi hi') fun hi => some (.oth (.rng k lo hi))
def max2X (mx : Bool) (x : AX) (y : AV) : Option AV := match x with
  | .rng k lo hi => (match y with
    | .int k' b => (match Nat.beq k k' with | true => rngMax mx k lo hi b b | false => none)
    | .oth y => rngOf y k fun lo' hi' => rngMax mx k lo hi lo' hi'
    | _ => none)
  | .float k a => (match y with
    | .oth y => (match y with
      | .float k' b => (match Nat.beq k k' with
        | true => maxF mx k a b
        | false => none)
      | _ => none)
    | _ => none)
  | _ => none
def max2A (mx : Bool) (x y : AV) : Option AV := match x with
  | .int k a => (match y with
    | .int k' b => (match Nat.beq k k' with
      | true => (match (match mx with | true => bltI a b | false => bltI b a) with | true => some (.int k b) | false => some (.int k a))
      | false => none)
    | .oth y => rngOf y k fun lo hi => rngMax mx k a a lo hi
    | _ => none)
  | .oth x => max2X mx x y
  | _ => none
def foldA (mx : Bool) (ev : Env) (x : AV) : List Opnd → Option AV
  | [] => some x
  | y :: l => (ev y).sc none fun y => match max2A mx x y with
    | some z => foldA mx ev z l
    | none => none

def evs (ev : Env) : List Opnd → List V
  | [] => []
  | x :: l => ev x :: evs ev l
/-- captured variables: addresses -/
def capsOf (ev : Env) : List Opnd → Option (List (Nat × Nat))
  | [] => some []
  | x :: l => asPtr (ev x) none fun b o => match capsOf ev l with
    | some r => some ((b, o) :: r)
    | none => none
def capV : List (Nat × Nat) → List V
  | [] => []
  | (b, o) :: l => .s (.ptr b o) :: capV l

/-! the operations -/
def rMv (x : Opnd) : Run := fun _ ev h => .ok (ev x) h
def rPick (c a b : Opnd) : Run := fun _ ev h => (ev c).sc .no fun c => match c with
  | .bool t => (match t with | true => .ok (ev a) h | false => .ok (ev b) h)
  | _ => .no
def rAlloc (z : List AV) : Run := fun _ _ h => h.new (.cells false z) fun i => .s (.ptr i 0)
def rBox (x : Opnd) : Run := fun _ ev h => match cellsOf (ev x) with
  | some l => h.new (.cells false l) fun i => .s (.ptr i 0)
  | none => .no
def rBuild (z : List AV) (ps : List (Nat × Nat × Opnd)) : Run := fun _ ev h => match fillA ev ps z with
  | some l => .ok (.agg l) h
  | none => .no
def rBuildSlice (fz : Bool) (es n : Nat) (z l : List AV) (ps : List (Nat × Nat × Opnd)) : Run := fun _ ev h => match fillA ev ps l with
  | some l => h.new (mkObj fz es n z l) fun i => .x (.slice i 0 n n es true)
  | none => .no
/-- cells, as a value -/
def loaded {β : Type} (agg : Bool) (l : List AV) (d : β) (f : V → β) : β := match agg with
  | true => f (.agg l)
  | false => match l with
    | [] => d
    | x :: l => match l with
      | [] => f (.s x)
      | _ => d
def rLoad (agg : Bool) (size : Nat) (a : Opnd) : Run := fun _ ev h => asPtr (ev a) .no fun b o => match h.read b o size with
  | some l => loaded agg l .no fun v => .ok v h
  | none => .no
def rStore (size : Nat) (a x : Opnd) : Run := fun _ ev h => asPtr (ev a) .no fun b o => match cellsOf (ev x) with
  | some l => match Nat.beq (lenL l) size with
    | true => h.write b o l .no fun h => .ok undefA h
    | false => .no
  | none => .no
def notNil (v : V) (h : Heap) : Res := match v with
  | .s a => (match a with
    | .ptr b o => .ok (.s (.ptr b o)) h
    | .oth x => (match x with | .func f c => .ok (.x (.func f c)) h | _ => .no)
    | _ => .no)
  | _ => .no
def rNilCheck (x : Opnd) : Run := fun _ ev h => notNil (ev x) h
def rBin (op : BinOp) (f : IOp) (x y : Opnd) : Run := fun _ ev h => (ev x).sc .no fun x => (ev y).sc .no fun y => rv h (binA op f x y)
def rShift (left : Bool) (x y : Opnd) : Run := fun _ ev h => (ev x).sc .no fun x => (ev y).sc .no fun y => rv h (shA left x y)
def flipB (neg r : Bool) : Bool := match neg with
  | true => !r
  | false => r
/-- the cells of a value that is made of several, or is not -/
def cellsK (agg : Bool) (v : V) : Option (List AV) := match v with
  | .s a => (match agg with | true => none | false => (match isAny a with | true => none | false => some [a]))
  | .agg l => (match agg with | true => some l | false => none)
  | .tup _ => none
def rEq (neg agg : Bool) (ks : List EK) (x y : Opnd) : Run := fun _ ev h => match cellsK agg (ev x) with
  | some a => match cellsK agg (ev y) with
    | some b => match Nat.beq (lenL a) (lenL ks) && Nat.beq (lenL b) (lenL ks) with
      | true => (match eqCells h ks a b with
        | some r => rv h (mkBool (flipB neg r))
        | none => .no)
      | false => .no
    | none => .no
  | none => .no
def rNot (x : Opnd) : Run := fun _ ev h => (ev x).sc .no fun x => match x with
  | .bool b => rv h (mkBool (!b))
  | _ => .no
def rNeg (x : Opnd) : Run := fun _ ev h => asInt (ev x) .no fun k n => rv h (mkInt k (wrapA k (subI 0 n)))
def rCompl (x : Opnd) : Run := fun _ ev h => asInt (ev x) .no fun k n => rv h (mkInt k (ofBits k (Nat.sub (all1 k) (low k n))))
def rI2i (k : Nat) (x : Opnd) : Run := fun _ ev h => asInt (ev x) .no fun _ n => rv h (mkInt k (wrapA k n))
def rI2f (k : Nat) (x : Opnd) : Run := fun _ ev h => asInt (ev x) .no fun _ n => fNat ((fk k).nearest n) fun b => .ok (.x (.float k b)) h
def rF2i (k : Nat) (lo hi : Int) (x : Opnd) : Run := fun _ ev h => asOth (ev x) .no fun x => match x with
  | .float s b => match ((fk s).decode b).toInt .zero with
    | some n => match bleI lo n && bleI n hi with
      | true => rv h (mkInt k n)
      | false => .no
    | none => .no
  | _ => .no
def rSame (x : Opnd) : Run := fun _ ev h => asOth (ev x) .no fun x => match x with
  | .str s => .ok (.x (.str s)) h
  | _ => .no
def rS2b (x : Opnd) : Run := fun _ ev h => asOth (ev x) .no fun x => match x with
  | .str s => fNat (lenL s) fun n => h.new (.cells true (bytesL s)) fun i => .x (.slice i 0 n n 1 false)
  | _ => .no
def rB2s (x : Opnd) : Run := fun _ ev h => asOth (ev x) .no fun x => match x with
  | .nilslice => .ok (.x (.str [])) h
  | .slice b o n _ es _ => match Nat.beq es 1 with
    | true => match h.read b o n with
      | some l => match unbytes l with
        | some l => .ok (.x (.str l)) h
        | none => .no
      | none => .no
    | false => .no
  | _ => .no
def rShared (x : Opnd) : Run := fun _ ev h => asOth (ev x) .no fun x => match x with
  | .slice b o len cap es exact => match h.get b with
    | some (.cells fz _) => (match fz with | true => .ok (.x (.slice b o len cap es exact)) h | false => .no)
    | _ => .no
  | _ => .no
def rS2ap (n es : Nat) (x : Opnd) : Run := fun _ ev h => asOth (ev x) .no fun x => match x with
  | .slice b o len _ es' _ => match Nat.ble n len && Nat.blt 0 n && Nat.beq es es' with
    | true => .ok (.s (.ptr b o)) h
    | false => .no
  | _ => .no
def rMakeFunc (f : Nat) (b : List Opnd) : Run := fun _ ev h => match capsOf ev b with
  | some l => .ok (.x (.func f l)) h
  | none => .no
def rMakeMap : Run := fun _ _ h => h.new (.map []) fun i => .x (.map i)
def zeroObj (es n : Nat) (z : List AV) : AObj := match Nat.blt 15 es && Nat.blt n mostRows with
  | true => .rows es n z .empty
  | false => .cells false (rep z n)
/-- how many bytes may be made at once -/
def room : Nat := 1099511627776
def rMakeSlice (es bytes : Nat) (z : List AV) (l c : Opnd) : Run := fun _ ev h => match natOf (ev l) with
  | some l => match natOf (ev c) with
    | some c => match Nat.ble l c && Nat.ble (Nat.mul bytes c) room with
      | true => fNat l fun l => fNat c fun c => h.new (zeroObj es c z) fun i => .x (.slice i 0 l c es true)
      | false => .no
    | none => .no
  | none => .no
def cutBounds (ev : Env) (lo hi mx : Option Opnd) (len cap : Nat) (f : Nat → Nat → Nat → Res) : Res := match uptoOr ev mx cap cap with
  | some m => match uptoOr ev hi m len with
    | some hi => match uptoOr ev lo hi 0 with
      | some lo => f lo hi m
      | none => .no
    | none => .no
  | none => .no
def rCutStr (x : Opnd) (lo hi : Option Opnd) : Run := fun _ ev h => asOth (ev x) .no fun x => match x with
  | .str s => fNat (lenL s) fun n => cutBounds ev lo hi none n n fun lo hi _ => match takeN (Nat.sub hi lo) (dropN lo s) with
    | some r => .ok (.x (.str r)) h
    | none => .no
  | _ => .no
/-- a slice's part -/
def cut (b o es : Nat) (exact : Bool) (lo hi m : Nat) (h : Heap) : Res := match exact && Nat.beq m lo with
  | true => fSlice b o (Nat.sub hi lo) (Nat.sub m lo) es exact fun s => .ok s h
  | false => fSlice b (Nat.add o (Nat.mul lo es)) (Nat.sub hi lo) (Nat.sub m lo) es exact fun s => .ok s h
def rCutSl (es : Nat) (x : Opnd) (lo hi mx : Option Opnd) : Run := fun _ ev h => asOth (ev x) .no fun x => match x with
  | .nilslice => cutBounds ev lo hi mx 0 0 fun _ _ _ => .ok (.x .nilslice) h
  | .slice b o len cap es' exact => match Nat.beq es es' with
    | false => .no
    | true => cutBounds ev lo hi mx len cap fun lo hi m => cut b o es (exact || mx.isSome) lo hi m h
  | _ => .no
def rCutArr (n es : Nat) (x : Opnd) (lo hi mx : Option Opnd) : Run := fun _ ev h => asPtr (ev x) .no fun b o =>
  match h.read b o (Nat.mul n es) with
  | some _ => cutBounds ev lo hi mx n n fun lo hi m => cut b o es true lo hi m h
  | none => .no
def rFieldAddr (off : Nat) (x : Opnd) : Run := fun _ ev h => asPtr (ev x) .no fun b o => fNat (Nat.add o off) fun o => .ok (.s (.ptr b o)) h
def rField (agg : Bool) (off size : Nat) (x : Opnd) : Run := fun _ ev h => match ev x with
  | .agg l => match takeN size (dropN off l) with
    | some r => loaded agg r .no fun v => .ok v h
    | none => .no
  | _ => .no
def rAddrArr (n es : Nat) (x i : Opnd) : Run := fun _ ev h => asPtr (ev x) .no fun b o => match below (ev i) n with
  | some i => fNat (Nat.add o (Nat.mul i es)) fun o => .ok (.s (.ptr b o)) h
  | none => .no
def rAddrSl (es : Nat) (x i : Opnd) : Run := fun _ ev h => asOth (ev x) .no fun x => match x with
  | .slice b o len _ es' _ => match Nat.beq es es' with
    | true => match below (ev i) len with
      | some i => fNat (Nat.add o (Nat.mul i es)) fun o => .ok (.s (.ptr b o)) h
      | none => .no
    | false => .no
  | _ => .no
def rIdxArr (n es : Nat) (agg : Bool) (x i : Opnd) : Run := fun _ ev h => match ev x with
  | .agg l => match below (ev i) n with
    | some i => match takeN es (dropN (Nat.mul i es) l) with
      | some r => loaded agg r .no fun v => .ok v h
      | none => .no
    | none => .no
  | _ => .no
def rIdxStr (x i : Opnd) : Run := fun _ ev h => asOth (ev x) .no fun x => match x with
  | .str s => match natOf (ev i) with
    | some i => match dropN i s with
      | b :: _ => .ok (.int kByte (Int.ofNat b)) h
      | [] => .no
    | none => .no
  | _ => .no
def found (ok : Bool) (z : V) (r : Option (Option V)) (h : Heap) : Res := match r with
  | none => .no
  | some r => match ok with
    | true => (match r with | some x => .ok (.tup [x, .s (.bool true)]) h | none => .ok (.tup [z, .s (.bool false)]) h)
    | false => (match r with | some x => .ok x h | none => .ok z h)
def rLookup (ints : Bool) (z : V) (ok : Bool) (m k : Opnd) : Run := fun _ ev h => match keyOf ints (ev k) with
  | none => .no
  | some k => asOth (ev m) .no fun m => match m with
    | .nilmap => found ok z (some none) h
    | .map b => match h.get b with
      | some (.map es) => found ok z (findA k es) h
      | _ => .no
    | _ => .no
def rMapUpdate (ints : Bool) (m k x : Opnd) : Run := fun _ ev h => match keyOf ints (ev k) with
  | none => .no
  | some k => asOth (ev m) .no fun m => match m with
    | .map b => match h.get b with
      | some (.map es) => match putA k (ev x) es with
        | some es => .ok undefA (h.upd b (some (.map es)))
        | none => .no
      | _ => .no
    | _ => .no
def rExtract (x : Opnd) (i : Nat) : Run := fun _ ev h => match ev x with
  | .tup vs => match dropN i vs with
    | x :: _ => .ok x h
    | [] => .no
  | _ => .no
inductive Src where
  | slice | str | zeros
/-- how many elements are appended, and their cells -/
def more (es bytes : Nat) (z : List AV) (src : Src) (v : V) (h : Heap) : Option (Nat × List AV) := match src with
  | .slice => asOth v none fun x => match x with
    | .nilslice => some (0, [])
    | .slice b o len _ es' _ => match Nat.beq es es' with
      | true => match h.read b o (Nat.mul len es) with
        | some l => some (len, l)
        | none => none
      | false => none
    | _ => none
  | .str => asOth v none fun x => match x with
    | .str s => match Nat.beq es 1 with
      | true => some (lenL s, bytesL s)
      | false => none
    | _ => none
  | .zeros => asInt v none fun k n => match n with
    | .ofNat n => match Nat.beq k kI && Nat.ble (Nat.mul n bytes) room with
      | true => some (n, rep z n)
      | false => none
    | .negSucc _ => none
def grow (es n : Nat) (z new : List AV) (h : Heap) : Res := h.new (mkObj false es n z new) fun i => .x (.slice i 0 n n es false)
/-- the same, where the old block may be the one that is used on -/
def growIn (es n : Nat) (z new : List AV) (b : Nat) (h : Heap) : Res := match Nat.beq (lenL new) 1 with
  | true => .no
  | false => (match h.get b with
    | some (.cells fz _) => (h.upd b none).new (.cells fz new) fun i => .x (.slice i 0 n n es false)
    | some (.rows ..) => grow es n z new (h.upd b none)
    | _ => .no)
def appendTo (es bytes : Nat) (z : List AV) (n : Nat) (new : List AV) (b o len cap : Nat) (exact : Bool) (h : Heap) : Res :=
  match Nat.ble (Nat.add len n) cap with
  | true => match Nat.beq n 0 with
    | true => .ok (.x (.slice b o len cap es exact)) h
    | false => h.write b (Nat.add o (Nat.mul len es)) new .no fun h => fSlice b o (Nat.add len n) cap es exact fun s => .ok s h
  | false => match Nat.ble (Nat.mul (Nat.add len n) bytes) room with
    | false => .no
    | true => match h.read b o (Nat.mul len es) with
      | none => .no
      | some old => fNat (Nat.add len n) fun k => match exact with
        | true => grow es k z (app old new) h
        | false => growIn es k z (app old new) b h
def rAppend (es bytes : Nat) (z : List AV) (src : Src) (s x : Opnd) : Run := fun _ ev h => match more es bytes z src (ev x) h with
  | none => .no
  | some (n, new) => asOth (ev s) .no fun s => match s with
    | .nilslice => match Nat.beq n 0 with
      | true => .ok (.x .nilslice) h
      | false => match Nat.ble (Nat.mul n bytes) room with
        | true => fNat n fun n => grow es n z new h
        | false => .no
    | .slice b o len cap es' exact => match Nat.beq es es' with
      | false => .no
      | true => appendTo es bytes z n new b o len cap exact h
    | _ => .no
/-- the cells of so many elements that are copied -/
def copySrc (es : Nat) (x : AX) (h : Heap) (n : Nat) : Option (List AV) := match x with
  | .slice b o _ _ _ _ => h.read b o (Nat.mul n es)
  | .str s => takeN n (bytesL s)
  | _ => none
def copyLen (es : Nat) (x : AX) : Option Nat := match x with
  | .nilslice => some 0
  | .slice _ _ len _ es' _ => match Nat.beq es es' with
    | true => some len
    | false => none
  | .str s => match Nat.beq es 1 with
    | true => some (lenL s)
    | false => none
  | _ => none
def rCopy (es : Nat) (d s : Opnd) : Run := fun _ ev h => asOth (ev s) .no fun s => match copyLen es s with
  | none => .no
  | some m => asOth (ev d) .no fun d => match d with
    | .nilslice => .ok (.int kI 0) h
    | .slice b o len _ es' _ => match Nat.beq es es' with
      | false => .no
      | true => fNat (Nat.min m len) fun n => match Nat.beq n 0 with
        | true => .ok (.int kI 0) h
        | false => match copySrc es s h n with
          | some l => h.write b o l .no fun h => .ok (.int kI (Int.ofNat n)) h
          | none => .no
    | _ => .no
def rClearSl (z : List AV) (x : Opnd) : Run := fun _ ev h => asOth (ev x) .no fun x => match x with
  | .nilslice => .ok undefA h
  | .slice b o len _ es _ => match Nat.beq len 0 with
    | true => .ok undefA h
    | false => match Nat.beq es (lenL z) with
      | true => h.write b o (rep z len) .no fun h => .ok undefA h
      | false => .no
  | _ => .no
def rClearMap (x : Opnd) : Run := fun _ ev h => asOth (ev x) .no fun x => match x with
  | .nilmap => .ok undefA h
  | .map b => match h.get b with
    | some (.map _) => .ok undefA (h.upd b (some (.map [])))
    | _ => .no
  | _ => .no
def rLenK (n : Nat) : Run := fun _ _ h => .ok (.int kI (Int.ofNat n)) h
def rLen (k : EK) (x : Opnd) : Run := fun _ ev h => asOth (ev x) .no fun x => match k with
  | .str => (match x with
    | .str s => fNat (lenL s) fun n => .ok (.int kI (Int.ofNat n)) h
    | _ => .no)
  | .slice => (match x with
    | .nilslice => .ok (.int kI 0) h
    | .slice _ _ len _ _ _ => .ok (.int kI (Int.ofNat len)) h
    | _ => .no)
  | .map => (match x with
    | .nilmap => .ok (.int kI 0) h
    | .map b => (match h.get b with
      | some (.map es) => fNat (lenL es) fun n => .ok (.int kI (Int.ofNat n)) h
      | _ => .no)
    | _ => .no)
  | _ => .no
def rMinmax (mx : Bool) (x : Opnd) (l : List Opnd) : Run := fun _ ev h => (ev x).sc .no fun x => rv h (foldA mx ev x l)
def rRe (x : Opnd) : Run := fun _ ev h => asOth (ev x) .no fun x => match x with
  | .complex k a _ => .ok (.x (.float k a)) h
  | _ => .no
def rIm (x : Opnd) : Run := fun _ ev h => asOth (ev x) .no fun x => match x with
  | .complex k _ b => .ok (.x (.float k b)) h
  | _ => .no
def rCplx (x y : Opnd) : Run := fun _ ev h => asOth (ev x) .no fun x => asOth (ev y) .no fun y => match x with
  | .float k a => (match y with
    | .float k' b => (match Nat.beq k k' with | true => .ok (.x (.complex k a b)) h | false => .no)
    | _ => .no)
  | _ => .no
def rCallF (f : Nat) (args : List Opnd) : Run := fun c ev h => c.fn f (evs ev args) h
def rCall (f : Opnd) (args : List Opnd) : Run := fun c ev h => asOth (ev f) .no fun x => match x with
  | .func g cap => c.fn g (app (evs ev args) (capV cap)) h
  | .yield l => c.yield l (evs ev args) h
  | _ => .no
def rBad (_why : String) : Run := fun _ _ _ => .no

structure CO where
  dst : Option Setter
  run : Run
  guard : Option (Getter × Bool)

inductive Kind where
  | pure | alloc | read (back : Nat) | eff

/-- is an operation wanted? -/
def isWanted (w : Bool) (v : V) : Option Bool := match v with
  | .s a => (match a with
    | .bool b => (match b with | true => some w | false => some (!w))
    | _ => none)
  | .tup l => (match l with | [] => some false | _ => none)
  | .agg _ => none
def wantedA (e : E) (g : Option (Getter × Bool)) : Option Bool := match g with
  | none => some true
  | some (g, w) => isWanted w (g e)
def putE (e : E) (d : Option Setter) (x : V) : E := match d with
  | none => e
  | some d => d e x

/-- one operation -/
def stepO (call : Calls) (o : CO) (e : E) (h : Heap) (f : E → Heap → ORes) : ORes := match wantedA e o.guard with
  | some w => (match w with
    | true => (match o.run call (evO e) h with
      | .ok x h => f (putE e o.dst x) h
      | .no => .no)
    | false => f (putE e o.dst undefA) h)
  | none => .no
def runOps (call : Calls) (l : List CO) : E → Heap → ORes :=
  List.rec (motive := fun _ => E → Heap → ORes) (fun e h => .ok e h) (fun o _ ih e h => go (stepO call o e h ih)) l

/-- one value, of scalars -/
def same1 : AV → AV → Bool
  | .bool a, .bool b => a == b
  | .int k a, .int k' b => Nat.beq k k' && beqI a b
  | .ptr a b, .ptr c d => Nat.beq a c && Nat.beq b d
  | .oth x, .oth y => match x, y with
    | .float k a, .float k' b => Nat.beq k k' && Nat.beq a b
    | .rng k a b, .rng k' a' b' => Nat.beq k k' && (beqI a a' && beqI b b')
    | .complex k a b, .complex k' c d => Nat.beq k k' && Nat.beq a c && Nat.beq b d
    | .str a, .str b => eqList a b
    | .nilptr, .nilptr => true
    | .nilslice, .nilslice => true
    | .slice a b c d e f, .slice a' b' c' d' e' f' => Nat.beq a a' && Nat.beq b b' && Nat.beq c c' && Nat.beq d d' && Nat.beq e e' && f == f'
    | .nilmap, .nilmap => true
    | .map a, .map b => Nat.beq a b
    | .nilfunc, .nilfunc => true
    | _, _ => false
  | _, _ => false
def sameL : List AV → List AV → Bool
  | [], [] => true
  | a :: x, b :: y => same1 a b && sameL x y
  | _, _ => false
def sameV : V → V → Bool
  | .agg a, .agg b => sameL a b
  | .s a, .s b => same1 a b
  | .tup [.s a, .s b], .tup [.s c, .s d] => same1 a c && same1 b d
  | .tup [.agg a, .s b], .tup [.agg c, .s d] => sameL a c && same1 b d
  | _, _ => false

/-- does an operation yield a value in some memories more? -/
def stable (o : Run) (call : Calls) (ev : Env) (x : V) : Nat → List Heap → Bool
  | 0, _ => true
  | _ + 1, [] => false
  | k + 1, h :: hs => match o call ev h with
    | .ok y _ => sameV x y && stable o call ev x k hs
    | .no => false

/-- a block is in some memories too -/
def addTo (i : Nat) (o : AObj) : List Heap → List Heap
  | [] => []
  | g :: l => g.upd i (some o) :: addTo i o l

/-- is a number free in some memories? -/
def freeIn (i : Nat) : List Heap → Bool
  | [] => true
  | g :: l => match g.get i with
    | some _ => false
    | none => freeIn i l

/-! one operation of a region that draws; 'hs': the memories behind the operations that change something, the last one first; 'h': the present one -/
def drawEff (call : Calls) (o : CO) (e : E) (h : Heap) (hs : List Heap) (f : E → Heap → List Heap → ORes) : Bool → ORes
  | false => f (putE e o.dst undefA) h (h :: hs)
  | true => (match o.run call (evO e) h with
    | .ok x h' => f (putE e o.dst x) h' (h' :: hs)
    | .no => .no)
def drawPure (call : Calls) (o : CO) (e : E) (h : Heap) (hs : List Heap) (f : E → Heap → List Heap → ORes) : Bool → ORes
  | false => f (putE e o.dst undefA) h hs
  | true => (match o.run call (evO e) h with
    | .ok x _ => f (putE e o.dst x) h hs
    | .no => .no)
def drawAlloc (call : Calls) (o : CO) (e : E) (h : Heap) (hs : List Heap) (f : E → Heap → List Heap → ORes) : Bool → ORes
  | false => f (putE e o.dst undefA) h hs
  | true => (match o.run call (evO e) h with
    | .ok x h' => (match freeIn h.next hs with
      | true => (match h'.get h.next with
        | some b => f (putE e o.dst x) h' (addTo h.next b hs)
        | none => .no)
      | false => .no)
    | .no => .no)
def drawRead (call : Calls) (o : CO) (back : Nat) (e : E) (h : Heap) (hs : List Heap) (f : E → Heap → List Heap → ORes) : Bool → ORes
  | false => f (putE e o.dst undefA) h hs
  | true => (match hs with
    | [] => .no
    | h0 :: hs' => (match o.run call (evO e) h0 with
      | .ok x _ => (match stable o.run call (evO e) x back hs' with
        | true => f (putE e o.dst x) h (h0 :: hs')
        | false => .no)
      | .no => .no))
def drawO (call : Calls) (o : CO) (k : Kind) (e : E) (h : Heap) (hs : List Heap) (f : E → Heap → List Heap → ORes) : ORes :=
  match wantedA e o.guard with
  | none => .no
  | some w => match k with
    | .eff => drawEff call o e h hs f w
    | .pure => drawPure call o e h hs f w
    | .alloc => drawAlloc call o e h hs f w
    | .read back => drawRead call o back e h hs f w
def runDraw (call : Calls) : List (CO × Kind) → E → Heap → List Heap → ORes
  | [], e, h, _ => .ok e h
  | (o, k) :: l, e, h, hs => go (drawO call o k e h hs (runDraw call l))

/-! code: what it does, given what calls do -/
abbrev X := Calls → E → Heap → XRes

def xSkip : X := fun _ e h => .ok .normal e h
def xRegion (ops : List CO) : X := fun c e h => match runOps c ops e h with
  | .ok e h => .ok .normal e h
  | .no => .no
def xDraw (ops : List (CO × Kind)) : X := fun c e h => match runDraw c ops e h [h] with
  | .ok e h => .ok .normal e h
  | .no => .no
def xSeq (a b : X) : X := fun c e h => match go (a c e h) with
  | .ok x e h => (match x with
    | .normal => go (b c e h)
    | x => .ok x e h)
  | .no => .no
def xCond (o : Opnd) (x y : X) : X := fun c e h => (evO e o).sc .no fun v => match v with
  | .bool b => (match b with
    | true => go (x c e h)
    | false => go (y c e h))
  | _ => .no
def xBlock (id : Nat) (b : X) : X := fun c e h => match go (b c e h) with
  | .ok x e h => (match x with
    | .exit i => (match Nat.beq i id with
      | true => .ok .normal e h
      | false => .ok (.exit i) e h)
    | x => .ok x e h)
  | .no => .no
def loopN (b : E → Heap → XRes) (k : Nat) : E → Heap → XRes :=
  Nat.rec (motive := fun _ => E → Heap → XRes) (fun _ _ => .no)
    (fun _ ih e h => match go (b e h) with
      | .ok x e h => (match x with
        | .normal => go (ih e h)
        | x => .ok x e h)
      | .no => .no) k
def rounds : Nat := 1000000000
def xLoop (b : X) : X := fun c e h => loopN (b c) rounds e h
def xExit (x : AExit) : X := fun _ e h => .ok x e h
def xBad (_why : String) : X := fun _ _ _ => .no

def findL (l : Nat) : List (Nat × X) → Option X
  | [] => none
  | (i, c) :: r => match Nat.beq i l with
    | true => some c
    | false => findL l r
/-- where labels lie: the code behind each -/
def scopeN (ls : List (Nat × X)) (c : Calls) : Nat → X → E → Heap → XRes
  | 0, _, _, _ => .no
  | k + 1, b, e, h => match go (b c e h) with
    | .ok x e h => (match x with
      | .goto l => (match findL l ls with
        | some b => go (scopeN ls c k b e h)
        | none => .no)
      | x => .ok x e h)
    | .no => .no
def xScope (ls : List (Nat × X)) (b : X) : X := fun c e h => scopeN ls c rounds b e h

/-- is the record of the round that the code lies in still there? -/
def roundOk (r : Option Nat) (h : Heap) : Bool := match r with
  | none => true
  | some l => match h.get l with
    | some (.loop ..) => true
    | _ => false
/-- behind the one call -/
def endRange (e : E) (h : Heap) (l : Nat) : XRes := match h.get l with
  | some (.loop st pend _ _ _ _ _) => (match Nat.beq st 1 with
    | true => .no
    | false => (match pend with
      | none => .ok .normal e (h.upd l none)
      | some x => .ok x e (h.upd l none)))
  | _ => .no
/-- a loop over a function: its record, the one call, what is pending -/
def xRange (g : Opnd) (ps : List Nat) (asg body : Code) (n : Nat) : X := fun c e h => asOth (evO e g) .no fun x => match x with
  | .func f cap => match roundOk c.round h with
    | false => .no
    | true => (match h.new (.loop 0 none e ps asg body n) fun l => .x (.yield l) with
      | .ok y h' => (match c.fn f (y :: capV cap) h' with
        | .ok _ h'' => endRange e h'' h.next
        | .no => .no)
      | .no => .no)
  | _ => .no

def setTs : List Nat → List V → Nat → E → Option E
  | [], vs, _, e => (match vs with | [] => some e | _ => none)
  | p :: ps, vs, n, e => match vs with
    | v :: vs => (match Nat.blt p n with
      | true => setTs ps vs n (setter p e v)
      | false => none)
    | [] => none

/-- a round's end: 0 ready, 1 busy, 2 done -/
def endRoundA (l : Nat) (x : AExit) (h : Heap) : Res := match h.get l with
  | some (.loop _ _ e ps asg body n) => (match x with
    | .normal => .ok (.s (.bool true)) (h.upd l (some (.loop 0 none e ps asg body n)))
    | x => .ok (.s (.bool false)) (h.upd l (some (.loop 2 (some x) e ps asg body n))))
  | _ => .no
/-- a round's body -/
def bodyRoundA (run : Nat → Code → E → Heap → XRes) (l : Nat) (n : Nat) (body : Code) (e : E) (h : Heap) : Res := match h.get l with
  | some (.loop st pend e' ps asg bd n') => (match Nat.beq st 0 with
    | true => (match run n body e (h.upd l (some (.loop 1 pend e' ps asg bd n'))) with
      | .ok x _ h => endRoundA l x h
      | .no => .no)
    | false => .no)
  | _ => .no
/-- a round of a loop over a function -/
def yieldA (run : Nat → Code → E → Heap → XRes) (l : Nat) (args : List V) (h : Heap) : Res := match h.get l with
  | some (.loop _ _ e ps asg body n) => (match setTs ps args n e with
    | some e1 => (match run n asg e1 h with
      | .ok x e2 h => (match x with
        | .normal => bodyRoundA run l n body e2 h
        | _ => .no)
      | .no => .no)
    | none => .no)
  | _ => .no

structure CFunc where
  np : Nat           -- how many slots there are
  body : X
  res : List (Option (Bool × Nat) × Getter)     -- a cell's (is it made of several cells? how many), and the slot

def resA (h : Heap) (e : E) : List (Option (Bool × Nat) × Getter) → Option (List V)
  | [] => some []
  | (none, g) :: l => match resA h e l with
    | some r => some (g e :: r)
    | none => none
  | (some (agg, size), g) :: l => asPtr (g e) none fun b o => match h.read b o size with
    | some cs => loaded agg cs none fun v => match resA h e l with
      | some r => some (v :: r)
      | none => none
    | none => none

def resV : List V → V
  | [v] => v
  | vs => .tup vs

def initE : List V → Nat → E → E
  | [], _, e => e
  | v :: l, i, e => initE l (Nat.succ i) (setter i e v)

def leave (res : List (Option (Bool × Nat) × Getter)) (e : E) (h : Heap) : Res := match resA h e res with
  | some vs => .ok (resV vs) h
  | none => .no
def enterA (fs : Nat → Option CFunc) (c : Calls) (f : Nat) (args : List V) (h : Heap) : Res := match fs f with
  | none => .no
  | some fn => match Nat.ble (lenL args) fn.np with
    | true => (match go (fn.body c (initE args 0 .empty) h) with
      | .ok x e h => (match x with
        | .normal => leave fn.res e h
        | .ret => leave fn.res e h
        | _ => .no)
      | .no => .no)
    | false => .no

abbrev Ext := Nat → List V → Heap → Option Res

/-- what calls do, so deep -/
def callsStep (fs : Nat → Option CFunc) (comp : Nat → Code → X) (ext : Ext) (c : Calls) : Calls :=
  ⟨fun f args h => match ext f args h with
      | some r => r
      | none => enterA fs (c.at none) f args h,
   fun l args h => yieldA (fun n code e h => comp n code (c.at (some l)) e h) l args h,
   none⟩
def callN (fs : Nat → Option CFunc) (comp : Nat → Code → X) (ext : Ext) : Nat → Calls
  | 0 => ⟨fun _ _ _ => .no, fun _ _ _ => .no, none⟩
  | k + 1 => callsStep fs comp ext (callN fs comp ext k)

end
end CSim
