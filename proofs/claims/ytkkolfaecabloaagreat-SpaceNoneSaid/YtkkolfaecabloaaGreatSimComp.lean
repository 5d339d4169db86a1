import Derived.Test.YtkkolfaecabloaaGreatSimDefs
namespace CSim
set_option linter.unusedSimpArgs false
set_option linter.unusedVariables false
open Go
noncomputable section

/-- an int's kind, as a number -/
def kOf : IntKind → Nat
  | .i64 => 129 | .i32 => 65 | .i16 => 33 | .i8 => 17 | .u64 => 128 | .u32 => 64 | .u16 => 32 | .u8 => 16
def fOf : FloatKind → Nat
  | .f64 => 64 | .f32 => 32

def scal : Value → Option AV
  | .bool b => some (.bool b)
  | .int k n => some (.int (kOf k) n)
  | .float k b => some (.oth (.float (fOf k) b))
  | .complex k a b => some (.oth (.complex (fOf k) a b))
  | .string s => some (.oth (.str (s.data.toList.map UInt8.toNat)))
  | .pointer none => some (.oth .nilptr)
  | .slice none 0 0 => some (.oth .nilslice)
  | .map none => some (.oth .nilmap)
  | .nilFunc => some (.oth .nilfunc)
  | .func (.func f) first captured => match first.toList, captured.toList with
    | [], [] => some (.oth (.func f []))
    | _, _ => none
  | _ => none
def scals : List Value → Option (List AV)
  | [] => some []
  | v :: l => match scal v, scals l with
    | some x, some r => some (x :: r)
    | _, _ => none
def avOf : Value → Option V
  | .agg cs => match scals cs.toList with
    | some l => some (.agg l)
    | none => none
  | v => match scal v with
    | some a => some (.s a)
    | none => none

/-- 'n': how many slots there are -/
def opnd (n : Nat) : Operand → Option Opnd
  | .tmp t => match Nat.blt t n with
    | true => withGetter t fun g => some (.t g)
    | false => none
  | .const v => match avOf v with
    | some x => some (.c x)
    | none => none
  | .func f => some (.c (.x (.func f [])))
  | .global _ => none
def opnds (n : Nat) : List Operand → Option (List Opnd)
  | [] => some []
  | x :: l => match opnd n x, opnds n l with
    | some a, some r => some (a :: r)
    | _, _ => none
def opndO (n : Nat) : Option Operand → Option (Option Opnd)
  | none => some none
  | some x => match opnd n x with
    | some a => some (some a)
    | none => none

variable (P : Program) (n : Nat)

def und (t : TypeId) : TypeDesc := (P.underlying t).getD .invalid
def aggD : TypeDesc → Bool
  | .struct _ | .array _ _ => true
  | _ => false
/-- is a type's value made of cells? -/
def isAggT (t : TypeId) : Option Bool := match P.underlying t with
  | some d => some (aggD d)
  | none => none
def sizeT (t : TypeId) : Option Nat := (P.info? t).map (·.size)
def bytesT (t : TypeId) : Option Nat := (P.info? t).map (·.bytes)
def zeroV (t : TypeId) : Option V := match (P.info? t).bind (·.zero) with
  | some v => avOf v
  | none => none
def zeroT (t : TypeId) : Option (List AV) := match zeroV P t with
  | some v => cellsOf v
  | none => none

/-- how a struct's cells are compared -/
def eksF (g : TypeId → Option (List EK)) : Nat → List Field → Option (List EK)
  | _, [] => some []
  | off, f :: fs => match g f.type, isAggT P f.type, eksF g (off + (sizeT P f.type).getD 0) fs with
    | some a, some _, some r => match Nat.beq f.offset off && (sizeT P f.type == some a.length) with
      | true => match f.name == "_" with
        | true => some (a.map (fun _ => EK.skip) ++ r)
        | false => some (a ++ r)
      | false => none
    | _, _, _ => none
/-- how a type's cells are compared -/
def eks : Nat → TypeId → Option (List EK)
  | 0, _ => none
  | d + 1, t => match P.underlying t with
    | some (.struct fs) => match P.stoodInHeld t with
      | true => none
      | false => eksF P (eks d) 0 fs.toList
    | some (.array m e) => match eks d e, isAggT P e with
      | some a, some _ => match sizeT P e == some a.length with
        | true => some ((List.replicate m a).flatten)
        | false => none
      | _, _ => none
    | some .bool => some [.bool]
    | some (.int _) => some [.int]
    | some (.float _) => some [.float]
    | some (.complex _) => some [.cplx]
    | some .string => some [.str]
    | some (.pointer e) => match sizeT P e with
      | some (_ + 1) => some [.ptr]
      | _ => none
    | some (.slice _) => some [.slice]
    | some (.map ..) => some [.map]
    | some (.func ..) => some [.func]
    | _ => none

/-- is it a comparison; is it turned? -/
def isCmp : BinOp → Option Bool
  | .eql => some false
  | .neq => some true
  | _ => none
/-- a type that is compared cell by cell -/
def eqType (t : TypeId) : Bool := match P.underlying t with
  | some (.pointer _) | some (.struct _) | some (.array ..) | some (.slice _) | some (.map ..) | some (.func ..) | some .bool => true
  | _ => false

def partsOf (ps : List (Nat × Operand)) (place : Nat → Option (Nat × Nat)) : Option (List (Nat × Nat × Opnd)) := match ps with
  | [] => some []
  | (i, x) :: l => match place i, opnd n x, partsOf l place with
    | some (a, b), some x, some r => some ((a, b, x) :: r)
    | _, _, _ => none

/-- where a struct's fields lie -/
def placesT : List Field → Option (List (Nat × Nat))
  | [] => some []
  | f :: fs => match sizeT P f.type, placesT fs with
    | some s, some r => some ((f.offset, s) :: r)
    | _, _ => none

inductive RBox where
  | mk (r : Run)

def compRun (o : Oper) : RBox := match o.op with
  | .move x | .assign x => match opnd n x with
    | some x => .mk (rMv x)
    | none => .mk (rBad "operand")
  | .pick c a b => match opnd n c, opnd n a, opnd n b with
    | some c, some a, some b => .mk (rPick c a b)
    | _, _, _ => .mk (rBad "operand")
  | .alloc t => match zeroT P t with
    | some z => .mk (rAlloc z)
    | none => .mk (rBad "zero")
  | .box _ x => match opnd n x with
    | some x => .mk (rBox x)
    | none => .mk (rBad "operand")
  | .build t ps => match zeroT P t, und P t with
    | some z, .struct fs => match placesT P fs.toList with
      | some pl => match partsOf n ps.toList (fun i => pl[i]?) with
        | some ps => .mk (rBuild z ps)
        | none => .mk (rBad "parts")
      | none => .mk (rBad "parts")
    | some z, .array _ e => match sizeT P e with
      | some s => match partsOf n ps.toList (fun i => some (i * s, s)) with
        | some ps => .mk (rBuild z ps)
        | none => .mk (rBad "parts")
      | none => .mk (rBad "size")
    | _, _ => .mk (rBad "build")
  | .buildSlice t m ps => match und P t with
    | .slice e => match zeroT P e, sizeT P e with
      | some z, some s => match partsOf n ps.toList (fun i => some (i * s, s)), Nat.ble (m * s) 4096 && Nat.blt 0 s && Nat.beq (lenL z) s with
        | some ps, true => .mk (rBuildSlice (match und P e with | .int .u8 => true | _ => false) s m z (rep z m) ps)
        | _, _ => .mk (rBad "parts")
      | _, _ => .mk (rBad "size")
    | _ => .mk (rBad "buildSlice")
  | .load t a => match sizeT P t, isAggT P t, opnd n a with
    | some s, some true, some a => .mk (rLoad true s a)
    | some _, some false, some a => .mk (rLoad false 1 a)
    | _, _, _ => .mk (rBad "load")
  | .store t a x => match sizeT P t, opnd n a, opnd n x with
    | some s, some a, some x => .mk (rStore s a x)
    | _, _, _ => .mk (rBad "store")
  | .nilCheck x => match opnd n x with
    | some x => .mk (rNilCheck x)
    | none => .mk (rBad "operand")
  | .binOp op t x y _ => match opnd n x, opnd n y with
    | some x, some y => match isCmp op, eqType P t with
      | some neg, true => match eks P 50 t, isAggT P t, P.eqGuardType P.depth t with
        | some ks, some g, false => .mk (rEq neg g ks x y)
        | _, _, _ => .mk (rBad "eq")
      | _, _ => match op with
        | .shl => .mk (rShift true x y)
        | .shr => .mk (rShift false x y)
        | op => .mk (rBin op (intBin op) x y)
    | _, _ => .mk (rBad "operand")
  | .unOp op t x => match opnd n x with
    | some x => match op, und P t with
      | .not, .bool => .mk (rNot x)
      | .neg, .int _ => .mk (rNeg x)
      | .xor, .int _ => .mk (rCompl x)
      | _, _ => .mk (rBad "unary")
    | none => .mk (rBad "operand")
  | .convert s d x => match opnd n x with
    | none => .mk (rBad "operand")
    | some x => match und P s, und P d with
      | .int _, .int k => .mk (rI2i (kOf k) x)
      | .int _, .float k => .mk (rI2f (fOf k) x)
      | .float _, .int k => .mk (rF2i (kOf k) k.min k.max x)
      | .string, .string => .mk (rSame x)
      | .string, .slice e => match und P e with
        | .int .u8 => .mk (rS2b x)
        | _ => .mk (rBad "convert")
      | .slice e, .string => match und P e with
        | .int .u8 => .mk (rB2s x)
        | _ => .mk (rBad "convert")
      | .slice _, .slice e => match Nat.beq s d, und P e with
        | true, .int .u8 => .mk (rShared x)
        | _, _ => .mk (rBad "convert")
      | _, _ => .mk (rBad "convert")
  | .sliceToArrayPointer t x => match und P t, opnd n x with
    | .array m e, some x => match sizeT P e with
      | some s => .mk (rS2ap m s x)
      | none => .mk (rBad "s2ap")
    | _, _ => .mk (rBad "s2ap")
  | .makeFunc (.func f) a b => match a.toList, opnds n b.toList with
    | [], some b => .mk (rMakeFunc f b)
    | _, _ => .mk (rBad "operand")
  | .makeMap _ none => .mk (rMakeMap)
  | .makeSlice t l c => match und P t with
    | .slice e => match zeroT P e, sizeT P e, bytesT P e, opnd n l, opnd n c with
      | some z, some s, some b, some l, some c => match Nat.blt 0 s && Nat.beq (lenL z) s && Nat.blt 0 b with
        | true => .mk (rMakeSlice s b z l c)
        | false => .mk (rBad "makeSlice")
      | _, _, _, _, _ => .mk (rBad "makeSlice")
    | _ => .mk (rBad "makeSlice")
  | .slice t x lo hi mx => match opnd n x, opndO n lo, opndO n hi, opndO n mx with
    | some x, some lo, some hi, some mx => match und P t with
      | .string => match mx with
        | none => .mk (rCutStr x lo hi)
        | some _ => .mk (rBad "cut")
      | .slice e => match sizeT P e, mx, hi with
        | some _, some _, none => .mk (rBad "cut")
        | some s, _, _ => .mk (rCutSl s x lo hi mx)
        | _, _, _ => .mk (rBad "cut")
      | .array m e => match sizeT P e, mx, hi with
        | some _, some _, none => .mk (rBad "cut")
        | some (s + 1), _, _ => .mk (rCutArr m (s + 1) x lo hi mx)
        | _, _, _ => .mk (rBad "cut")
      | .pointer a => match und P a with
        | .array m e => match sizeT P e, mx, hi with
          | some _, some _, none => .mk (rBad "cut")
          | some (s + 1), _, _ => .mk (rCutArr m (s + 1) x lo hi mx)
          | _, _, _ => .mk (rBad "cut")
        | _ => .mk (rBad "cut")
      | _ => .mk (rBad "cut")
    | _, _, _, _ => .mk (rBad "operand")
  | .fieldAddr s x i => match und P s, opnd n x with
    | .struct fs, some x => match fs[i]? with
      | some f => match sizeT P f.type with
        | some (_ + 1) => .mk (rFieldAddr f.offset x)
        | _ => .mk (rBad "fieldAddr")
      | none => .mk (rBad "fieldAddr")
    | _, _ => .mk (rBad "fieldAddr")
  | .field s x i => match und P s, opnd n x with
    | .struct fs, some x => match fs[i]? with
      | some f => match sizeT P f.type, isAggT P f.type with
        | some z, some true => .mk (rField true f.offset z x)
        | some 1, some false => .mk (rField false f.offset 1 x)
        | _, _ => .mk (rBad "field")
      | none => .mk (rBad "field")
    | _, _ => .mk (rBad "field")
  | .indexAddr t x i => match opnd n x, opnd n i with
    | some x, some i => match und P t with
      | .array m e => match sizeT P e with
        | some s => .mk (rAddrArr m s x i)
        | none => .mk (rBad "size")
      | .slice e => match sizeT P e with
        | some s => .mk (rAddrSl s x i)
        | none => .mk (rBad "size")
      | _ => .mk (rBad "indexAddr")
    | _, _ => .mk (rBad "operand")
  | .index t x i => match opnd n x, opnd n i with
    | some x, some i => match und P t with
      | .array m e => match sizeT P e, isAggT P e with
        | some s, some true => .mk (rIdxArr m s true x i)
        | some 1, some false => .mk (rIdxArr m 1 false x i)
        | _, _ => .mk (rBad "size")
      | .string => .mk (rIdxStr x i)
      | _ => .mk (rBad "index")
    | _, _ => .mk (rBad "operand")
  | .lookup t m k ok => match und P t, opnd n m, opnd n k with
    | .map kt e, some m, some k => match und P kt, zeroV P e with
      | .int _, some z => .mk (rLookup true z ok m k)
      | .string, some z => .mk (rLookup false z ok m k)
      | _, _ => .mk (rBad "lookup")
    | _, _, _ => .mk (rBad "lookup")
  | .mapUpdate t m k x => match und P t, opnd n m, opnd n k, opnd n x with
    | .map kt _, some m, some k, some x => match und P kt with
      | .int _ => .mk (rMapUpdate true m k x)
      | .string => .mk (rMapUpdate false m k x)
      | _ => .mk (rBad "mapUpdate")
    | _, _, _, _ => .mk (rBad "mapUpdate")
  | .extract x i => match opnd n x with
    | some x => .mk (rExtract x i)
    | none => .mk (rBad "operand")
  | .call { callee := .value f, args, .. } => match opnds n args.toList with
    | some args => match f with
      | .func f => .mk (rCallF f args)
      | f => match opnd n f with
        | some f => .mk (rCall f args)
        | none => .mk (rBad "operand")
    | none => .mk (rBad "operand")
  | .call { callee := .builtin b, args, argTypes } => match opnds n args.toList with
    | none => .mk (rBad "operand")
    | some as => match b, as with
      | .append, [s, x] => match argTypes[0]?, argTypes[1]? with
        | some st, some xt => match und P st with
          | .slice e => match zeroT P e, sizeT P e, bytesT P e with
            | some z, some es, some by_ => match Nat.blt 0 es && Nat.beq (lenL z) es && Nat.blt 0 by_ with
              | false => .mk (rBad "append")
              | true => match und P xt with
                | .int _ => .mk (rAppend es by_ z .zeros s x)
                | .string => .mk (rAppend es by_ z .str s x)
                | .slice _ => .mk (rAppend es by_ z .slice s x)
                | _ => .mk (rBad "append")
            | _, _, _ => .mk (rBad "append")
          | _ => .mk (rBad "append")
        | _, _ => .mk (rBad "append")
      | .copy, [d, s] => match argTypes[0]? with
        | some dt => match und P dt with
          | .slice e => match sizeT P e with
            | some es => match Nat.blt 0 es with
              | true => .mk (rCopy es d s)
              | false => .mk (rBad "copy")
            | none => .mk (rBad "copy")
          | _ => .mk (rBad "copy")
        | none => .mk (rBad "copy")
      | .clear, [x] => match argTypes[0]? with
        | some t => match und P t with
          | .slice e => match zeroT P e with
            | some z => .mk (rClearSl z x)
            | none => .mk (rBad "clear")
          | .map .. => .mk (rClearMap x)
          | _ => .mk (rBad "clear")
        | none => .mk (rBad "clear")
      | .len, [x] => match argTypes[0]? with
        | some t => match und P t with
          | .array m _ => .mk (rLenK m)
          | .pointer a => match und P a with
            | .array m _ => .mk (rLenK m)
            | _ => .mk (rBad "len")
          | .string => .mk (rLen .str x)
          | .slice _ => .mk (rLen .slice x)
          | .map .. => .mk (rLen .map x)
          | _ => .mk (rBad "len")
        | none => .mk (rBad "len")
      | .max, x :: xs => .mk (rMinmax true x xs)
      | .min, x :: xs => .mk (rMinmax false x xs)
      | .real, [x] => .mk (rRe x)
      | .imag, [x] => .mk (rIm x)
      | .complex, [x, y] => .mk (rCplx x y)
      | _, _ => .mk (rBad "builtin")
  | _ => .mk (rBad "op")

/-- what an operation does to memory: it changes something; or it makes something; or it reads -/
def effOf : Op → Kind
  | .store .. | .mapUpdate .. | .insert .. => .eff
  | .call { callee := .value _, .. } => .eff
  | .call { callee := .builtin b, .. } => match b with
    | .max | .min | .real | .imag | .complex => .pure
    | .len => .read 0
    | _ => .eff
  | .move _ | .assign _ | .pick .. | .build .. | .nilCheck _ | .unOp .. | .sliceToArrayPointer .. | .makeFunc .. | .fieldAddr .. | .field ..
  | .indexAddr .. | .index .. | .extract .. => .pure
  | .slice .. => .read 0
  | .binOp op .. => match op with
    | .eql | .neq => .read 0
    | _ => .pure
  | .alloc _ | .box .. | .buildSlice .. | .makeSlice .. | .makeMap .. => .alloc
  | .convert s d _ => match und P s, und P d with
    | .string, .slice _ => .alloc
    | .slice _, _ => .read 0
    | _, _ => .pure
  | .load .. | .lookup .. => .read 0
  | _ => .eff
def isEff (o : Oper) : Bool := match effOf P o.op with
  | .eff => true
  | _ => false

def guardOf (ops : Array Oper) (o : Oper) : Option (Option (Getter × Bool)) := match o.guard with
  | none => some none
  | some (j, w) => match (ops[j]?).bind (·.dst) with
    | some t => match Nat.blt t n with
      | true => withGetter t fun g => some (some (g, w))
      | false => none
    | none => none
def dstOf (d : Option Nat) : Option (Option Setter) := match d with
  | none => some none
  | some t => match Nat.blt t n with
    | true => withSetter t fun u => some (some u)
    | false => none

def compCO (ops : Array Oper) (o : Oper) : Option CO := match guardOf n ops o with
  | some g => match dstOf n o.dst with
    | some d => match compRun P n o with
      | .mk r => some ⟨d, r, g⟩
    | none => none
  | none => none
def compOps (ops : Array Oper) : List Oper → Option (List CO)
  | [] => some []
  | o :: l => match compCO P n ops o, compOps ops l with
    | some co, some r => some (co :: r)
    | _, _ => none

def tmpsOf (ops : Array Oper) (o : Oper) : List Tmp :=
  (o.op.operands.toList.filterMap fun | .tmp t => some t | _ => none) ++
  (match o.guard with
   | some (g, _) => ((ops[g]?).bind (·.dst)).toList
   | none => [])

def memN (x : Nat) : List Nat → Bool
  | [] => false
  | y :: l => match Nat.beq x y with
    | true => true
    | false => memN x l

def hasBit (m i : Nat) : Bool := Nat.beq (Nat.shiftRight m i % 2) 1

def listI {α : Type} : Nat → List α → List (Nat × α)
  | _, [] => []
  | i, x :: l => (i, x) :: listI (i + 1) l

/-- what must be ahead of an operation, as bits; 'acc': of those with lower numbers -/
def befE (acc : List Nat) : List Edge → Nat
  | [] => 0
  | e :: l => match Region.binds .any e with
    | true => Nat.lor (Nat.lor (Nat.pow 2 e.on) (acc.getD e.on 0)) (befE acc l)
    | false => befE acc l
def befs : List Oper → List Nat → List Nat
  | [], acc => acc
  | o :: l, acc => fNat (befE acc o.after.toList) fun v => befs l (acc ++ [v])
/-- must 'i' be ahead of 'j'? -/
def bef (b : List Nat) (i j : Nat) : Bool := hasBit (b.getD j 0) i
def reads (ops : Array Oper) (d : Option Nat) (o : Oper) : Bool := match d with
  | some d => memN d (tmpsOf ops o)
  | none => false
def sameDst (d d' : Option Nat) : Bool := match d with
  | some d => (match d' with | some d' => Nat.beq d d' | none => false)
  | none => false
/-- 'i' comes ahead of 'j' in the order: may it? -/
def pairOk (ops : Array Oper) (b : List Nat) (i : Nat) (o : Oper) (j : Nat) : Bool := match ops[j]? with
  | none => false
  | some o' => !Nat.beq i j && !bef b j i && !sameDst o.dst o'.dst && (bef b i j || (!reads ops o.dst o' && !reads ops o'.dst o && !(isEff P o && isEff P o')))
def firstEff (ops : Array Oper) : List Nat → Option Nat
  | [] => none
  | j :: l => match ops[j]? with
    | none => none
    | some o => match isEff P o with
      | true => some j
      | false => firstEff ops l
def backOk (b : List Nat) (k : Kind) (i : Nat) (pe : List Nat) : Bool := match k with
  | .read back => (dropN back pe).all fun u => bef b u i
  | _ => true
/-- an order is fine; 'pe': those that change something and are ahead, the last one first -/
def orderOk (ops : Array Oper) (b : List Nat) (kind : Nat → Oper → Kind) : List Nat → List Nat → Bool
  | [], _ => true
  | i :: l, pe => match ops[i]? with
    | none => false
    | some o => (l.all fun j => pairOk P ops b i o j) && backOk b (kind i o) i pe &&
      (match isEff P o with
        | true => orderOk ops b kind l (i :: pe)
        | false => (match firstEff P ops l with | none => true | some j => bef b i j) && orderOk ops b kind l pe)
/-- edges go to lower numbers -/
def edgesOk : Nat → List Oper → Bool
  | _, [] => true
  | j, o :: l => (o.after.toList.all fun e => !Region.binds .any e || Nat.blt e.on j) && edgesOk (Nat.succ j) l
/-- are all numbers below a bound there? -/
def allIn (l : List Nat) : Nat → Bool
  | 0 => true
  | k + 1 => memN k l && allIn l k

/-- an order: those that change something, each behind those that must be ahead of it; then the rest -/
def orderOf (l : List Nat) (b : List Nat) : List Nat → List Nat → List Nat
  | done, [] => done ++ (l.filter fun i => !memN i done)
  | done, e :: es => orderOf l b (done ++ ((l.filter fun i => !memN i done && hasBit (b.getD e 0) i) ++ [e])) es

def kindOf (effs : List Nat) (b : List Nat) (i : Nat) (o : Oper) : Kind := match effOf P o.op with
  | .read _ => .read ((effs.filter fun e => !hasBit (b.getD e 0) i && !hasBit (b.getD i 0) e).length)
  | k => k

def compDrawL (ops : Array Oper) (effs b : List Nat) : List Nat → Option (List (CO × Kind))
  | [] => some []
  | i :: l => match ops[i]? with
    | some o => match compCO P n ops o, compDrawL ops effs b l with
      | some co, some r => some ((co, kindOf P effs b i o) :: r)
      | _, _ => none
    | none => none

def drawOk (ops : Array Oper) (effs b l : List Nat) : Bool := edgesOk 0 ops.toList && allIn l ops.size && orderOk P ops b (kindOf P effs b) l []
def drawWith (ops : Array Oper) (effs b l : List Nat) : X := match drawOk P ops effs b l with
  | false => xBad "draw"
  | true => match compDrawL P n ops effs b l with
    | some l => xDraw l
    | none => xBad "draw"
def effsOf (ops : Array Oper) : List Nat := ((listI 0 ops.toList).filter fun (_, o) => isEff P o).map (·.1)
def compDraw (ops : Array Oper) : X :=
  drawWith P n ops (effsOf P ops) (befs ops.toList []) (orderOf ((listI 0 ops.toList).map (·.1)) (befs ops.toList []) [] (effsOf P ops))

inductive Box where
  | mk (x : X)
def Box.x : Box → X
  | .mk x => x
def box {α : Type} (o : Option α) (f : α → X) : Box := match o with
  | some a => .mk (f a)
  | none => .mk (xBad "operand")

def labelsOf : Code → List Nat
  | .label l => [l]
  | .seq a b => labelsOf a ++ labelsOf b
  | .block _ b => labelsOf b
  | .cond _ a b => labelsOf a ++ labelsOf b
  | .loop b => labelsOf b
  | _ => []

def bop (a b : Box) (f : X → X → X) : Box := match a with
  | .mk a => match b with
    | .mk b => .mk (f a b)
def bop1 (a : Box) (f : X → X) : Box := match a with
  | .mk a => .mk (f a)
def comp : Code → Box
  | .skip => .mk xSkip
  | .region _ ops draw => match draw with
    | false => box (compOps P n ops ops.toList) xRegion
    | true => .mk (compDraw P n ops)
  | .seq a b => bop (comp a) (comp b) xSeq
  | .cond c a b => match opnd n c with
    | some c => bop (comp a) (comp b) (xCond c)
    | none => .mk (xBad "operand")
  | .block i b => bop1 (comp b) (xBlock i)
  | .loop b => bop1 (comp b) xLoop
  | .exit i => .mk (xExit (.exit i))
  | .label _ => .mk xSkip
  | .goto l => .mk (xExit (.goto l))
  | .ret => .mk (xExit .ret)
  | .scope _ => .mk (xBad "scope")
  | .rangeFunc g ps asg body => box (opnd n g) fun g => xRange g ps.toList asg body n
  | .refuse w => .mk (xBad w)

def compLs (b : Code) : List Nat → List (Nat × X)
  | [] => []
  | l :: r => match findLabel b l with
    | some c => match comp P n c with
      | .mk x => (l, x) :: compLs b r
    | none => compLs b r
/-- a body that lies in a scope -/
def compTop : Code → Box
  | .scope b => bop1 (comp P n b) (xScope (compLs P n b (labelsOf b)))
  | .seq a b => bop (compTop a) (compTop b) xSeq
  | c => comp P n c

def compRes : List ResultVar → Option (List (Option (Bool × Nat) × Getter))
  | [] => some []
  | .tmp t :: l => match Nat.blt t n, compRes l with
    | true, some r => withGetter t fun g => some ((none, g) :: r)
    | _, _ => none
  | .cell a t :: l => match sizeT P t, isAggT P t, Nat.blt a n, compRes l with
    | some s, some true, true, some r => withGetter a fun g => some ((some (true, s), g) :: r)
    | some _, some false, true, some r => withGetter a fun g => some ((some (false, 1), g) :: r)
    | _, _, _, _ => none

/-- the body of a function -/
def bodyF (fn : Func) (c : Code) : Option CFunc := match Nat.ble fn.ntmps 512 && Nat.ble (Nat.add fn.params.size fn.nfree) fn.ntmps with
  | true => match compRes P fn.ntmps fn.results.toList with
    | some r => match compTop P fn.ntmps c with
      | .mk x => some ⟨fn.ntmps, x, r⟩
    | none => none
  | false => none
def compF (f : Nat) : Option CFunc := match P.funcs[f]? with
  | some fn => match fn.body with
    | some c => bodyF P fn c
    | none => none
  | none => none

/-- a program's calls, so deep -/
def run (ext : Ext) (fuel : Nat) : Calls := callN (compF P) (fun n c => (comp P n c).x) ext fuel
end
end CSim
