/-
  AM, second text: operations, regions, code, calls. Definitions alone.
-/
import Derived.Test.YtjfgannabdaemaaGreatAm0
set_option linter.all false
namespace Go.Am

inductive Ex where
  | normal
  | ret
  | exit (id : Nat)

/-- a callee's contract: of a function of deep values, or of one whose first argument points at a variable (what it holds, before and behind) -/
inductive Fn where
  | fn (ps res : Ty) (nres : Nat) (f : ps.den → Option res.den)
  | mth (recv ps res : Ty) (nres : Nat) (f : recv.den → ps.den → Option (recv.den × res.den))

abbrev Cut := (R : Type) → St → (Ex → St → Option R) → Option R

structure Cfg where
  P : Program
  env : FuncId → Option Fn
  cuts : FuncId → Nat → Option Cut
  keepH : FuncId → Nat → List Nat
  keepX : FuncId → Nat → Nat → List Nat
  rounds : Nat
  force : Bool

/-- the greatest length that is made -/
noncomputable def lim : Nat := 4294967296

noncomputable def optChain (f : TypeId → Option Ty) : List Field → Option Ty
  | [] => some .unit
  | x :: r => match f x.type with
    | some a => match optChain f r with
      | some b => some (.pair a b)
      | none => none
    | none => none

noncomputable def tyOf (P : Program) : Nat → TypeId → Option Ty
  | 0, _ => none
  | n + 1, t => match P.underlying t with
    | some .bool => some .bool
    | some (.int k) => some (.int k)
    | some .string => some .str
    | some (.slice e) => match tyOf P n e with
      | some a => some (.sl a)
      | none => none
    | some (.array m e) => match tyOf P n e with
      | some a => some (.arr m a)
      | none => none
    | some (.struct fs) => optChain (tyOf P n) fs.toList
    | _ => none

noncomputable def zeroChain (f : TypeId → Option AV) : List Field → Option AV
  | [] => some .unit
  | x :: r => match f x.type with
    | some a => match zeroChain f r with
      | some b => some (.pair a b)
      | none => none
    | none => none

noncomputable def zeroAV (P : Program) : Nat → TypeId → Option AV
  | 0, _ => none
  | n + 1, t => match P.underlying t with
    | some .bool => some (.bool false)
    | some (.int k) => some (.int k 0)
    | some .string => some (.str [])
    | some (.slice _) => some .nilsl
    | some (.array m e) => match tyOf P n e with
      | some a => some (.dar m a (List.replicate m a.zero))
      | none => none
    | some (.struct fs) => zeroChain (zeroAV P n) fs.toList
    | some (.pointer _) => some .nilptr
    | some (.func ..) => some .nilfunc
    | some (.map ..) => some .nilmap
    | _ => none

noncomputable def depth : Nat := 12

noncomputable def timesN (f : List Value → Option (List Value)) : Nat → List Value → Option (List Value)
  | 0, r => some r
  | n + 1, r => match f r with
    | some r => timesN f n r
    | none => none

noncomputable def zBool (cs : List Value) : Option (List Value) := match cs with | .bool false :: r => some r | _ => none
noncomputable def zInt (k : IntKind) (cs : List Value) : Option (List Value) := match cs with
  | .int l n :: r => match kindB k l && decide (n = 0) with
    | true => some r
    | false => none
  | _ => none
noncomputable def zStr (cs : List Value) : Option (List Value) := match cs with
  | .string s :: r => match s.data.toList with
    | [] => some r
    | _ => none
  | _ => none
noncomputable def zSlice (cs : List Value) : Option (List Value) := match cs with | .slice none 0 0 :: r => some r | _ => none

/-- do cells begin with a type's zero? what is behind it -/
noncomputable def zeroT : Ty → List Value → Option (List Value)
  | .bool, cs => zBool cs
  | .int k, cs => zInt k cs
  | .str, cs => zStr cs
  | .unit, r => some r
  | .pair a b, r => match zeroT a r with
    | some r => zeroT b r
    | none => none
  | .arr n t, r => timesN (zeroT t) n r
  | .sl _, cs => zSlice cs
  | .fr _, cs => zSlice cs

noncomputable def zeroB : AV → List Value → Option (List Value)
  | .unit, r => some r
  | .pair a b, r => match zeroB a r with
    | some r => zeroB b r
    | none => none
  | .bool b, cs => match b with | false => zBool cs | true => none
  | .int k n, cs => match decide (n = 0) with | true => zInt k cs | false => none
  | .str s, cs => match s with | [] => zStr cs | _ => none
  | .nilsl, cs => zSlice cs
  | .dar n t _, r => timesN (zeroT t) n r
  | .nilptr, cs => match cs with | .pointer none :: r => some r | _ => none
  | .nilfunc, cs => match cs with | .nilFunc :: r => some r | _ => none
  | .nilmap, cs => match cs with | .map none :: r => some r | _ => none
  | _, _ => none

/-- a type's zero, as the program's tables have it -/
noncomputable def zeroOK (P : Program) (t : TypeId) (v : AV) : Bool :=
  match P.info? t with
  | some i => match i.zero with
    | some z => match zeroB v z.cells.toList with
      | some [] => true
      | _ => false
    | none => false
  | none => false

/-- a type's zero, as the machine's value -/
noncomputable def inj0 : Ty → AV
  | .bool => .bool false
  | .int k => .int k 0
  | .str => .str []
  | .unit => .unit
  | .pair a b => .pair (inj0 a) (inj0 b)
  | .arr n t => .dar n t (List.replicate n t.zero)
  | .sl _ => .nilsl
  | .fr _ => .nilsl

/-- an element's type, of a size that fits -/
noncomputable def elemAt (P : Program) (e : TypeId) : Option Ty :=
  match tyOf P depth e with
  | some T => match T.size.beq (P.cellsOf e) && (P.bytesOf e).ble 4096 && Nat.blt 0 T.size && zeroOK P e (inj0 T) with
    | true => some T
    | false => none
  | none => none

noncomputable def elemTy (P : Program) (t : TypeId) : Option Ty :=
  match P.underlying t with
  | some (.slice e) => elemAt P e
  | _ => none

noncomputable def kindLo : IntKind → Int
  | .i8 => -128 | .i16 => -32768 | .i32 => -2147483648 | .i64 => -9223372036854775808
  | _ => 0

noncomputable def kindHi : IntKind → Int
  | .i8 => 127 | .i16 => 32767 | .i32 => 2147483647 | .i64 => 9223372036854775807
  | .u8 => 255 | .u16 => 65535 | .u32 => 4294967295 | .u64 => 18446744073709551615

noncomputable def constAV : Value → AV
  | .int k n => match decide (kindLo k ≤ n) && decide (n ≤ kindHi k) with
    | true => .int k n
    | false => .dead
  | .bool b => .bool b
  | .string s => .str (s.data.toList.map fun b => (b.toNat : Int))
  | .slice none 0 0 => .nilsl
  | .pointer none => .nilptr
  | .nilFunc => .nilfunc
  | .map none => .nilmap
  | _ => .dead

noncomputable def St.eval (s : St) : Operand → AV
  | .tmp t => nthD s.tmps t
  | .const v => constAV v
  | .func f => .func f .unit
  | .global _ => .dead

noncomputable def St.putT (s : St) (dst : Option Tmp) (v : AV) : St :=
  match dst with
  | some t => { s with tmps := setR s.tmps t v }
  | none => s

noncomputable def chain : List AV → AV
  | [] => .unit
  | a :: l => .pair a (chain l)

noncomputable def unchain : AV → List AV
  | .pair a b => a :: unchain b
  | _ => []

variable {R : Type}

/-! ## Numbers -/

noncomputable def bits (k : IntKind) (op : BinOp) (x y : Int) : Option Int :=
  let a := BitVec.ofInt k.bits x
  let b := BitVec.ofInt k.bits y
  match op with
  | .and => some (k.wrap (a &&& b).toNat)
  | .or => some (k.wrap (a ||| b).toNat)
  | .xor => some (k.wrap (a ^^^ b).toNat)
  | .andNot => some (k.wrap (a &&& ~~~b).toNat)
  | _ => none

noncomputable def intOp (op : BinOp) (k : IntKind) (x y : Int) (K : AV → Option R) : Option R :=
  match op with
  | .add => K (.int k (k.wrap (x + y)))
  | .sub => K (.int k (k.wrap (x - y)))
  | .mul => K (.int k (k.wrap (x * y)))
  | .quo => br (decide (y = 0)) none (K (.int k (k.wrap (x.tdiv y))))
  | .rem => br (decide (y = 0)) none (K (.int k (x.tmod y)))
  | .eql => K (.bool (x == y))
  | .neq => K (.bool (x != y))
  | .lss => K (.bool (decide (x < y)))
  | .leq => K (.bool (decide (x ≤ y)))
  | .gtr => K (.bool (decide (x > y)))
  | .geq => K (.bool (decide (x ≥ y)))
  | op => match bits k op x y with
    | some n => K (.int k n)
    | none => none

noncomputable def shiftOp (op : BinOp) (k : IntKind) (x y : Int) (K : AV → Option R) : Option R :=
  br (decide (y < 0)) none
    (match op with
    | .shl => K (.int k (k.wrap (x * 2 ^ (min y.toNat k.bits))))
    | .shr => K (.int k (x.fdiv (2 ^ (min y.toNat k.bits))))
    | _ => none)

noncomputable def strOp (op : BinOp) (x y : List Int) (K : AV → Option R) : Option R :=
  match op with
  | .add => br (decide (x.length + y.length ≤ lim)) (K (.str (x ++ y))) none
  | .eql => K (.bool (decide (x = y)))
  | .neq => K (.bool (!decide (x = y)))
  | _ => none

/-- a type that the model compares cell by cell: its size -/
noncomputable def eqChain (P : Program) (f : TypeId → Option Nat) : List Field → Nat → Option Nat
  | [], off => some off
  | x :: r, off => match f x.type with
    | some s => match decide (x.name ≠ "_") && x.offset.beq off && (P.cellsOf x.type).beq s with
      | true => eqChain P f r (off + s)
      | false => none
    | none => none

noncomputable def eqSz (P : Program) : Nat → TypeId → Option Nat
  | 0, _ => none
  | n + 1, t => match P.underlying t with
    | some .bool | some (.int _) | some .string => some 1
    | some (.struct fs) => match P.stoodInHeld t with
      | false => eqChain P (eqSz P n) fs.toList 0
      | true => none
    | some (.array m e) => match eqSz P n e with
      | some s => match (P.cellsOf e).beq s with
        | true => some (m * s)
        | false => none
      | none => none
    | _ => none

noncomputable def structOp (P : Program) (H : Heap) (op : BinOp) (t : TypeId) (x y : AV) (K : AV → Option R) : Option R :=
  match tyOf P depth t with
  | some T => match T.plain && x.isAgg && y.isAgg && (eqSz P depth t).isSome with
    | true => match deep H T x, deep H T y with
      | some a, some b => match op with
        | .eql => K (.bool (T.eqB a b))
        | .neq => K (.bool (!T.eqB a b))
        | _ => none
      | _, _ => none
    | false => none
  | none => none

noncomputable def nilOp (H : Heap) (x : AV) (K : Bool → Option R) : Option R :=
  match x with
  | .nilsl => K true
  | .dsl _ l _ => br l.isEmpty (agree (K true) (K false)) (K false)
  | .lsl id _ _ _ => match nthB H id with
    | some (.row _ _ _ true) => K false
    | some (.row _ l _ false) => br l.isEmpty (agree (K true) (K false)) (K false)
    | _ => none
  | _ => none

noncomputable def nilCmp (P : Program) (H : Heap) (op : BinOp) (t : TypeId) (x : AV) (K : AV → Option R) : Option R :=
  match P.underlying t with
  | some (.slice _) => match op with
    | .eql => nilOp H x fun b => K (.bool b)
    | .neq => nilOp H x fun b => K (.bool !b)
    | _ => none
  | _ => none

noncomputable def intBin (op : BinOp) (k : IntKind) (a : Int) (l : IntKind) (b : Int) (K : AV → Option R) : Option R :=
  match op with
  | .shl => shiftOp .shl k a b K
  | .shr => shiftOp .shr k a b K
  | op => match kindB k l with
    | true => intOp op k a b K
    | false => none

noncomputable def boolOp (P : Program) (op : BinOp) (t : TypeId) (a b : Bool) (K : AV → Option R) : Option R :=
  match P.underlying t with
  | some .bool => match op with
    | .eql => K (.bool (a == b))
    | .neq => K (.bool (!(a == b)))
    | _ => none
  | _ => none

noncomputable def binAV (P : Program) (H : Heap) (op : BinOp) (t : TypeId) (x y : AV) (K : AV → Option R) : Option R :=
  match x, y with
  | .int k a, .int l b => intBin op k a l b K
  | .str a, .str b => strOp op a b K
  | .bool a, .bool b => boolOp P op t a b K
  | x, .nilsl => nilCmp P H op t x K
  | .nilsl, y => nilCmp P H op t y K
  | x, y => structOp P H op t x y K

noncomputable def unAV (op : UnOp) (x : AV) (K : AV → Option R) : Option R :=
  match op, x with
  | .neg, .int k n => K (.int k (k.wrap (0 - n)))
  | .xor, .int k n => match bits k .xor (if k.signed then -1 else k.max) n with
    | some m => K (.int k m)
    | none => none
  | .not, .bool b => K (.bool !b)
  | _, _ => none

noncomputable def fieldTy (P : Program) (t : TypeId) (f : Nat) : TypeId :=
  match P.underlying t with
  | some (.struct fs) => match fs[f]? with
    | some x => x.type
    | none => 0
  | _ => 0

/-- are a slice's elements of this size? -/
noncomputable def sliceB (P : Program) (t : TypeId) (T : Ty) : Bool :=
  match P.underlying t with
  | some (.slice e) => (P.cellsOf e).beq T.size && Nat.blt 0 T.size
  | _ => false

noncomputable def arrayB (P : Program) (t : TypeId) (n : Nat) (T : Ty) : Bool :=
  match P.underlying t with
  | some (.array m e) => m.beq n && (P.cellsOf e).beq T.size && Nat.blt 0 T.size
  | _ => false

noncomputable def arrayT (P : Program) (t : TypeId) (n : Nat) (T : Ty) : Bool :=
  match P.underlying t with
  | some (.array m e) => m.beq n && (P.cellsOf e).beq T.size && (match tyOf P depth e with | some U => U.same T | none => false)
  | _ => false

noncomputable def isString (P : Program) (t : TypeId) : Bool :=
  match P.underlying t with
  | some .string => true
  | _ => false

noncomputable def isSlice (P : Program) (t : TypeId) : Bool :=
  match P.underlying t with
  | some (.slice e) => Nat.blt 0 (P.cellsOf e)
  | _ => false

/-! ## Rows -/

noncomputable def push (H : Heap) (b : Blk) : Heap := H ++ [some b]

/-- a deep list out of a slice or a text -/
noncomputable def listOf (H : Heap) (T : Ty) (x : AV) : Option (List T.den) :=
  match x with
  | .str s => Ty.castL (.int .u8) T s
  | x => deep H (.sl T) x

noncomputable def kept (H : Heap) (T : Ty) (x : AV) : Heap :=
  match T.flat with
  | true => H
  | false => freeze H x.rows

noncomputable def setBlk (H : Heap) (id : Nat) (b : Blk) : Heap := setR H id (some b)

noncomputable def grow (T : Ty) (s : AV) (xs : List T.den) (st : St) (K : AV → St → Option R) : Option R :=
  match s with
  | .nilsl => br xs.isEmpty (K .nilsl st)
      (br (decide (xs.length ≤ lim)) (K (.lsl st.heap.length 0 xs.length true) { st with heap := push st.heap (.row T xs false true) }) none)
  | .lsl id off len full => match nthB st.heap id with
    | some (.row t l false r) => match Ty.castL t T l with
      | some l => match full with
        | true => br (decide (len + xs.length ≤ lim))
            (let st := st.kill id
             K (.lsl id 0 (len + xs.length) true) { st with heap := setBlk st.heap id (.row T (l.drop off ++ xs) false (r && xs.isEmpty || !xs.isEmpty)) }) none
        | false => br (decide (off + len + xs.length ≤ l.length))
            (K (.lsl id off (len + xs.length) false) { st with heap := setBlk st.heap id (.row T (l.take (off + len) ++ xs ++ l.drop (off + len + xs.length)) false r) })
            (br (decide (len + xs.length ≤ lim))
              (let st := st.kill id
               K (.lsl id 0 (len + xs.length) true) { st with heap := setBlk st.heap id (.row T ((l.drop off).take len ++ xs) false true) }) none)
      | none => none
    | _ => none
  | _ => none

noncomputable def appendAV (P : Program) (t tx : TypeId) (s x : AV) (st : St) (K : AV → St → Option R) : Option R :=
  match elemTy P t with
  | none => none
  | some T => match P.underlying tx with
    | some (.slice _) => match deep st.heap (.sl T) x with
      | some xs => grow T s xs { st with heap := kept st.heap T x } K
      | none => none
    | some .string => match x with
      | .str l => match Ty.castL (.int .u8) T l with
        | some xs => grow T s xs st K
        | none => none
      | _ => none
    | some (.int _) => match s, x with
      | .nilsl, .int _ n => br (decide (n = 0)) (K .nilsl st) (br (decide (0 < n ∧ n ≤ (lim : Int)))
          (K (.lsl st.heap.length 0 n.toNat true) { st with heap := push st.heap (.row T (List.replicate n.toNat T.zero) false true) }) none)
      | _, _ => none
    | _ => none

/-- some elements of a row, set anew -/
noncomputable def splice {α : Type} (l : List α) (at_ : Nat) (xs : List α) : List α := l.take at_ ++ xs ++ l.drop (at_ + xs.length)

noncomputable def copyAV (P : Program) (t : TypeId) (d x : AV) (st : St) (K : AV → St → Option R) : Option R :=
  match elemTy P t with
  | none => none
  | some T => match listOf st.heap T x with
    | none => none
    | some xs => match d with
      | .lsl id off len _ => match nthB (kept st.heap T x) id with
        | some (.row t l false r) => match Ty.castL t T l with
          | some l => br ((min len xs.length).ble lim) (K (.int .i64 (min len xs.length : Nat)) { st with heap := setBlk (kept st.heap T x) id (.row T (splice l off (xs.take (min len xs.length))) false r) }) none
          | none => none
        | _ => none
      | _ => none

noncomputable def lenAV (P : Program) (t : TypeId) (st : St) (x : AV) : Option Nat :=
  match P.underlying t, x with
  | some (.slice _), .nilsl => some 0
  | some (.slice _), .dsl _ l _ => some l.length
  | some (.slice _), .lsl _ _ len _ => some len
  | some .string, .str s => some s.length
  | some (.array n _), _ => some n
  | some (.map ..), .nilmap => some 0
  | some (.map ..), .map id => match nthB st.heap id with
    | some (.mp _ _ l) => some l.length
    | _ => none
  | _, _ => none

noncomputable def AV.toInt : AV → Option Int
  | .int _ n => some n
  | _ => none

noncomputable def optInt (s : St) : Option Operand → Option (Option Int)
  | none => some none
  | some x => match (s.eval x).toInt with
    | some n => some (some n)
    | none => none

noncomputable def sliceDeep (T : Ty) (l : List T.den) (lo hi mx : Option Int) (H : Heap) (st : St) (K : AV → St → Option R) : Option R :=
  let a := lo.getD 0
  let b := hi.getD l.length
  let st := { st with heap := H }
  match mx with
  | none => br (decide (0 ≤ a ∧ a ≤ b ∧ b ≤ (l.length : Int))) (K (.dsl T ((l.take b.toNat).drop a.toNat) false) st) none
  | some m => match hi with
    | none => none
    | some _ => br (decide (0 ≤ a ∧ a ≤ b ∧ b ≤ m ∧ m ≤ (l.length : Int)))
      (br (decide (b = m)) (K (.dsl T ((l.take b.toNat).drop a.toNat) true) st) (K (.dsl T ((l.take b.toNat).drop a.toNat) false) st)) none

noncomputable def sliceAV (P : Program) (t : TypeId) (x : AV) (lo hi mx : Option Int) (st : St) (K : AV → St → Option R) : Option R :=
  match x with
  | .nilsl => match isSlice P t with
    | true => match mx, hi with
      | some _, none => none
      | _, _ => br (decide (lo.getD 0 = 0 ∧ hi.getD 0 = 0 ∧ mx.getD 0 = 0)) (K .nilsl st) none
    | false => none
  | .str s => match isString P t, mx with
    | true, none => br (decide (0 ≤ lo.getD 0 ∧ lo.getD 0 ≤ hi.getD s.length ∧ hi.getD s.length ≤ (s.length : Int)))
      (K (.str ((s.take (hi.getD s.length).toNat).drop (lo.getD 0).toNat)) st) none
    | _, _ => none
  | .dsl T l _ => match sliceB P t T with
    | true => sliceDeep T l lo hi mx st.heap st K
    | false => none
  | .rptr (.dar n T l) => match arrayB P t n T with
    | true => sliceDeep T l lo hi mx st.heap st K
    | false => none
  | .lsl id off len full => match nthB st.heap id with
    | some (.row T l _ _) => match sliceB P t T with
      | true => match mx with
        | some _ => sliceDeep T ((l.drop off).take len) lo hi mx (freeze1 st.heap id) st K
        | none =>
          let a := lo.getD 0
          match hi with
          | none => br (decide (0 ≤ a ∧ a ≤ (len : Int))) (K (.lsl id (off + a.toNat) (len - a.toNat) full) st) none
          | some b => br (decide (0 ≤ a ∧ a ≤ b ∧ (off : Int) + b ≤ (l.length : Int))) (K (.lsl id (off + a.toNat) (b.toNat - a.toNat) false) st) none
      | false => none
    | _ => none
  | .ptr id p => match load st.heap id p with
    | some (.dar n T l) => match arrayB P t n T with
      | true => sliceDeep T l lo hi mx (freeze1 st.heap id) st K
      | false => none
    | _ => none
  | _ => none

/-! ## Maps -/

noncomputable def find {α β : Type} (f : α → Bool) : List (α × β) → Option β
  | [] => none
  | (a, b) :: r => match f a with
    | true => some b
    | false => find f r

noncomputable def update {α β : Type} (f : α → Bool) (a : α) (b : β) : List (α × β) → List (α × β)
  | [] => [(a, b)]
  | (x, y) :: r => match f x with
    | true => (x, b) :: r
    | false => (x, y) :: update f a b r

noncomputable def brL {α β : Type} (f : α → Bool) (l : List (α × β)) (k : β → Option R) (n : Option R) : Option R :=
  match l with
  | [] => n
  | (a, b) :: r => br (f a) (k b) (brL f r k n)

/-! ## One operation -/

structure Hand (R : Type) where
  call : FuncId → List AV → St → (AV → St → Option R) → Option R

noncomputable def fieldOffB (P : Program) (t : TypeId) (f : Nat) (v : AV) : Bool :=
  match P.underlying t with
  | some (.struct fs) => match fs[f]? with
    | some x => x.offset.beq (v.fldOff f) && Nat.blt 0 (P.cellsOf x.type)
    | none => false
  | _ => false

noncomputable def fits (P : Program) (t : TypeId) (v : AV) : Bool :=
  match P.underlying t with
  | some (.struct _) | some (.array ..) => v.isAgg && (P.cellsOf t).beq v.size
  | some _ => !v.isAgg && v.size.beq 1 && (P.cellsOf t).beq 1
  | none => false

noncomputable def partsIn (s : St) (v : AV) (step : Nat → Step) (ok : Nat → AV → AV → Bool) : List (Nat × Operand) → Option AV
  | [] => some v
  | (i, x) :: r => match ok i v (s.eval x) with
    | true => match v.put s.heap [step i] (s.eval x) with
      | some u => partsIn s u step ok r
      | none => none
    | false => none

/-- a part at the place, and of the size, that the tables tell -/
noncomputable def partOK (P : Program) (t : TypeId) (i : Nat) (v x : AV) : Bool :=
  match P.underlying t with
  | some (.struct fs) => match fs[i]? with
    | some f => f.offset.beq (v.fldOff i) && (P.cellsOf f.type).beq x.size
    | none => false
  | some (.array _ e) => (P.cellsOf e).beq x.size
  | _ => false

noncomputable def partsRow (s : St) (T : Ty) (l : List T.den) : List (Nat × Operand) → Option (List T.den)
  | [] => some l
  | (i, x) :: r => match deep s.heap T (s.eval x) with
    | some d => match i.blt l.length with
      | true => partsRow s T (setR l i d) r
      | false => none
    | none => none

noncomputable def rowsIn (s : St) : List (Nat × Operand) → List Nat
  | [] => []
  | (_, x) :: r => (s.eval x).rows ++ rowsIn s r

noncomputable def convAV (P : Program) (src dst : TypeId) (x : AV) (st : St) (K : AV → St → Option R) : Option R :=
  match P.underlying src, P.underlying dst, x with
  | some _, some (.int k), .int _ n => K (.int k (k.wrap n)) st
  | some _, some .string, .int _ n => br (decide (0 ≤ n ∧ n < 128)) (K (.str [n]) st) none
  | some _, some .string, .str s => K (.str s) st
  | some (.slice _), some (.slice e), .lsl id o n f => match P.underlying e, src.beq dst && Nat.blt 0 n, nthB st.heap id with
    | some (.int .u8), true, some (.row _ _ false _) => K (.lsl id o n f) st
    | _, _, _ => none
  | some (.slice e), some .string, x => match P.underlying e with
    | some (.int .u8) => match deep st.heap (.sl (.int .u8)) x with
      | some l => K (.str l) st
      | none => none
    | _ => none
  | some .string, some (.slice e), .str s => match P.underlying e with
    | some (.int .u8) => K (.lsl st.heap.length 0 s.length true) { st with heap := push st.heap (.row (.int .u8) s false true) }
    | _ => none
  | _, _, _ => none

noncomputable def minmax (g : Int → Int → Int) (k : IntKind) : Int → List AV → Option AV
  | n, [] => some (.int k n)
  | n, .int l m :: r => match kindB k l with
    | true => minmax g k (g n m) r
    | false => none
  | _, _ => none

noncomputable def builtinAV (P : Program) (b : Builtin) (ts : List TypeId) (args : List AV) (st : St) (K : AV → St → Option R) : Option R :=
  match b, args, ts with
  | .len, [x], t :: _ => match lenAV P t st x with
    | some n => br (n.ble lim) (K (.int .i64 (n : Nat)) st) none
    | none => none
  | .cap, [.nilsl], t :: _ => match isSlice P t with
    | true => K (.int .i64 0) st
    | false => none
  | .min, .int k n :: r, _ => match minmax min k n r with
    | some v => K v st
    | none => none
  | .max, .int k n :: r, _ => match minmax max k n r with
    | some v => K v st
    | none => none
  | .append, [s, x], [t, tx] => appendAV P t tx s x st K
  | .copy, [d, x], t :: _ => copyAV P t d x st K
  | _, _, _ => none

noncomputable def isAlloc : Op → Bool
  | .alloc _ | .box .. | .buildSlice .. | .makeSlice .. | .makeMap .. => true
  | _ => false

noncomputable def setSlot (st : St) (slot : Nat) (b : Blk) : St := { st with heap := setBlk st.heap slot b }

noncomputable def opPick (P : Program) (h : Hand R) (c a b : Operand) (slot : Nat) (st : St) (K : AV → St → Option R) : Option R :=
  match st.eval c with
    | .bool t => br t (K (st.eval a) st) (K (st.eval b) st)
    | _ => none

noncomputable def opAlloc (P : Program) (h : Hand R) (t : TypeId) (slot : Nat) (st : St) (K : AV → St → Option R) : Option R :=
  match zeroAV P depth t with
    | some v => match zeroOK P t v with
      | true => K (.ptr slot []) (setSlot st slot (.var v false))
      | false => none
    | none => none

noncomputable def opBox (P : Program) (h : Hand R) (t : TypeId) (x : Operand) (slot : Nat) (st : St) (K : AV → St → Option R) : Option R :=
  match fits P t (st.eval x) && (st.eval x).storable with
    | true => K (.ptr slot []) (setSlot st slot (.var (st.eval x) false))
    | false => none

noncomputable def opBuild (P : Program) (h : Hand R) (t : TypeId) (ps : Array (Nat × Operand)) (slot : Nat) (st : St) (K : AV → St → Option R) : Option R :=
  match zeroAV P depth t with
    | some v => match zeroOK P t v with
      | true => match P.underlying t with
        | some (.struct _) => match partsIn st v .fld (partOK P t) ps.toList with
          | some u => K u st
          | none => none
        | some (.array ..) => match partsIn st v .idx (partOK P t) ps.toList with
          | some u => K u st
          | none => none
        | _ => none
      | false => none
    | none => none

noncomputable def opBuildSlice (P : Program) (h : Hand R) (t : TypeId) (n : Nat) (ps : Array (Nat × Operand)) (slot : Nat) (st : St) (K : AV → St → Option R) : Option R :=
  match elemTy P t with
    | some T => match Nat.ble (n * T.size) 16777216 with
     | false => none
     | true => match partsRow st T (List.replicate n T.zero) ps.toList with
      | some l => K (.lsl slot 0 n true) (setSlot { st with heap := (match T.flat with | true => st.heap | false => freeze st.heap (rowsIn st ps.toList)) } slot (.row T l false true))
      | none => none
    | none => none

noncomputable def opLoad (P : Program) (h : Hand R) (t : TypeId) (a : Operand) (slot : Nat) (st : St) (K : AV → St → Option R) : Option R :=
  match st.eval a with
    | .rptr v => match fits P t v with
      | true => K v st
      | false => none
    | .ptr id p => match p with
      | .idx i :: q => match nthB st.heap id with
        | some (.row T l _ _) => obind (idxN l i) fun x => match (inj T x).get st.heap q with
          | some v => match fits P t v with
            | true => K v st
            | false => none
          | none => none
        | some (.var u _) => match u.get st.heap p with
          | some v => match fits P t v with
            | true => K v st
            | false => none
          | none => none
        | _ => none
      | p => match load st.heap id p with
        | some v => match fits P t v with
          | true => K v st
          | false => none
        | none => none
    | _ => none

noncomputable def opStore (P : Program) (h : Hand R) (t : TypeId) (a x : Operand) (slot : Nat) (st : St) (K : AV → St → Option R) : Option R :=
  match fits P t (st.eval x) with
    | true => match st.eval a with
      | .ptr id p => obind (store st.heap id p (st.eval x)) fun H => K .dead { st with heap := H }
      | _ => none
    | false => none

noncomputable def opNilCheck (P : Program) (h : Hand R) (x : Operand) (slot : Nat) (st : St) (K : AV → St → Option R) : Option R :=
  match st.eval x with
    | .ptr id p => K (.ptr id p) st
    | .rptr v => K (.rptr v) st
    | .func f c => K (.func f c) st
    | _ => none

noncomputable def opSliceToArrayPointer (P : Program) (h : Hand R) (t : TypeId) (x : Operand) (slot : Nat) (st : St) (K : AV → St → Option R) : Option R :=
  match P.underlying t with
    | some (.array n e) => match elemAt P e with
      | some T => match deep st.heap (.sl T) (st.eval x) with
        | some l => br (decide (0 < n ∧ n ≤ l.length)) (K (.rptr (.dar n T (l.take n))) { st with heap := freeze st.heap (st.eval x).rows }) none
        | none => none
      | none => none
    | _ => none

noncomputable def opMakeMap (P : Program) (h : Hand R) (t : TypeId) (slot : Nat) (st : St) (K : AV → St → Option R) : Option R :=
  match P.underlying t with
    | some (.map k v) => match tyOf P depth k, tyOf P depth v with
      | some k, some v => K (.map slot) (setSlot st slot (.mp k v []))
      | _, _ => none
    | _ => none

noncomputable def opMakeSlice (P : Program) (h : Hand R) (t : TypeId) (n c : Operand) (slot : Nat) (st : St) (K : AV → St → Option R) : Option R :=
  match elemTy P t, st.eval n, st.eval c with
    | some T, .int _ a, .int _ b => br (decide (0 ≤ a ∧ a ≤ b ∧ b ≤ (lim : Int)))
        (match n, c with
         | .tmp i, .tmp j => match i.beq j with
           | true => K (.lsl slot 0 a.toNat true) (setSlot st slot (.row T (List.replicate a.toNat T.zero) false true))
           | false => K (.lsl slot 0 a.toNat false) (setSlot st slot (.row T (List.replicate b.toNat T.zero) false true))
         | .const (.int _ i), .const (.int _ j) => br (decide (i = j)) (K (.lsl slot 0 a.toNat true) (setSlot st slot (.row T (List.replicate a.toNat T.zero) false true)))
             (K (.lsl slot 0 a.toNat false) (setSlot st slot (.row T (List.replicate b.toNat T.zero) false true)))
         | _, _ => K (.lsl slot 0 a.toNat false) (setSlot st slot (.row T (List.replicate b.toNat T.zero) false true))) none
    | _, _, _ => none

noncomputable def opSlice (P : Program) (h : Hand R) (t : TypeId) (x : Operand) (lo hi mx : Option Operand) (slot : Nat) (st : St) (K : AV → St → Option R) : Option R :=
  match optInt st lo, optInt st hi, optInt st mx with
    | some a, some b, some c => sliceAV P t (st.eval x) a b c st K
    | _, _, _ => none

noncomputable def opFieldAddr (P : Program) (h : Hand R) (t : TypeId) (x : Operand) (f : Nat) (slot : Nat) (st : St) (K : AV → St → Option R) : Option R :=
  match st.eval x with
    | .rptr v => match fieldOffB P t f v with
      | true => match v.fld f with
        | some u => K (.rptr u) st
        | none => none
      | false => none
    | .ptr id p => match load st.heap id p with
      | some v => match fieldOffB P t f v with
        | true => match v.fld f with
          | some _ => K (.ptr id (p ++ [.fld f])) st
          | none => none
        | false => none
      | none => none
    | _ => none

noncomputable def opField (P : Program) (h : Hand R) (t : TypeId) (x : Operand) (f : Nat) (slot : Nat) (st : St) (K : AV → St → Option R) : Option R :=
  match fieldOffB P t f (st.eval x) with
    | true => match (st.eval x).fld f with
      | some u => match fits P (fieldTy P t f) u with
        | true => K u st
        | false => none
      | none => none
    | false => none

noncomputable def opIndexAddr (P : Program) (h : Hand R) (t : TypeId) (x i : Operand) (slot : Nat) (st : St) (K : AV → St → Option R) : Option R :=
  match st.eval i with
    | .int _ n => match st.eval x with
      | .dsl T l _ => match sliceB P t T with
        | true => obind (idx l n) fun x => K (.rptr (inj T x)) st
        | false => none
      | .lsl id off len _ => match nthB st.heap id with
        | some (.row T _ _ _) => match sliceB P t T with
          | true => br (decide (0 ≤ n ∧ n < (len : Int))) (K (.ptr id [.idx (off + n.toNat)]) st) none
          | false => none
        | _ => none
      | .rptr (.dar m T l) => match arrayB P t m T with
        | true => obind (idx l n) fun x => K (.rptr (inj T x)) st
        | false => none
      | .ptr id p => match load st.heap id p with
        | some (.dar m T _) => match arrayB P t m T with
          | true => br (decide (0 ≤ n ∧ n < (m : Int))) (K (.ptr id (p ++ [.idx n.toNat])) st) none
          | false => none
        | _ => none
      | _ => none
    | _ => none

noncomputable def opIndex (P : Program) (h : Hand R) (t : TypeId) (x i : Operand) (slot : Nat) (st : St) (K : AV → St → Option R) : Option R :=
  match st.eval i with
    | .int _ n => match st.eval x with
      | .dar m T l => match arrayT P t m T with
        | true => obind (idx l n) fun x => K (inj T x) st
        | false => none
      | .str s => match isString P t with
        | true => obind (idx s n) fun x => K (.int .u8 x) st
        | false => none
      | _ => none
    | _ => none

noncomputable def opLookup (P : Program) (h : Hand R) (m k : Operand) (ok : Bool) (slot : Nat) (st : St) (K : AV → St → Option R) : Option R :=
  match st.eval m with
    | .map id => match nthB st.heap id with
      | some (.mp kt vt l) => match deep st.heap kt (st.eval k) with
        | some a => brL (kt.eqB a) l (fun b => K (match ok with | true => .tup (.pair (inj vt b) (.pair (.bool true) .unit)) | false => inj vt b) st)
            (K (match ok with | true => .tup (.pair (inj vt vt.zero) (.pair (.bool false) .unit)) | false => inj vt vt.zero) st)
        | none => none
      | _ => none
    | _ => none

noncomputable def opMapUpdate (P : Program) (h : Hand R) (m k x : Operand) (slot : Nat) (st : St) (K : AV → St → Option R) : Option R :=
  match st.eval m with
    | .map id => match nthB st.heap id with
      | some (.mp kt vt l) => match deep st.heap kt (st.eval k), deep st.heap vt (st.eval x) with
        | some a, some b => K .dead (setSlot st id (.mp kt vt (update (kt.eqB a) a b l)))
        | _, _ => none
      | _ => none
    | _ => none

/-- over a map that is nil -/
noncomputable def opRange (P : Program) (t : TypeId) (x : Operand) (st : St) (K : AV → St → Option R) : Option R :=
  match P.underlying t with
  | some (.map _ _) => match st.eval x with
    | .nilmap => K .iter0 st
    | _ => none
  | _ => none

noncomputable def opNext (it : Operand) (isString : Bool) (st : St) (K : AV → St → Option R) : Option R :=
  match isString with
  | true => none
  | false => match st.eval it with
    | .iter0 => K (.tup (.pair (.bool false) .unit)) st
    | _ => none

noncomputable def opExtract (P : Program) (h : Hand R) (x : Operand) (i : Nat) (slot : Nat) (st : St) (K : AV → St → Option R) : Option R :=
  match st.eval x with
    | .tup v => match v.fld i with
      | some u => K u st
      | none => none
    | _ => none

noncomputable def opCall (P : Program) (h : Hand R) (c : Call) (slot : Nat) (st : St) (K : AV → St → Option R) : Option R :=
  match c.callee with
    | .builtin b => builtinAV P b c.argTypes.toList (c.args.toList.map st.eval) st K
    | .value f => match st.eval f with
      | .func g caps => h.call g (c.args.toList.map st.eval ++ unchain caps) st K
      | _ => none
    | .invoke .. => none

noncomputable def doOp (P : Program) (h : Hand R) (o : Op) (slot : Nat) (st : St) (K : AV → St → Option R) : Option R :=
  match o with
  | .move x | .assign x => K (st.eval x) st
  | .pick c a b => opPick P h c a b slot st K
  | .alloc t => opAlloc P h t slot st K
  | .box t x => opBox P h t x slot st K
  | .build t ps => opBuild P h t ps slot st K
  | .buildSlice t n ps => opBuildSlice P h t n ps slot st K
  | .load t a => opLoad P h t a slot st K
  | .store t a x => opStore P h t a x slot st K
  | .nilCheck x => opNilCheck P h x slot st K
  | .binOp op t x y _ => binAV P st.heap op t (st.eval x) (st.eval y) fun v => K v st
  | .unOp op _ x => unAV op (st.eval x) fun v => K v st
  | .convert s d x => convAV P s d (st.eval x) st K
  | .sliceToArrayPointer t x => opSliceToArrayPointer P h t x slot st K
  | .makeFunc (.func f) first caps => match first.size with
    | 0 => K (.func f (chain (caps.toList.map st.eval))) st
    | _ => none
  | .makeSlice t n c => opMakeSlice P h t n c slot st K
  | .slice t x lo hi mx => opSlice P h t x lo hi mx slot st K
  | .fieldAddr t x f => opFieldAddr P h t x f slot st K
  | .field t x f => opField P h t x f slot st K
  | .indexAddr t x i => opIndexAddr P h t x i slot st K
  | .index t x i => opIndex P h t x i slot st K
  | .extract x i => opExtract P h x i slot st K
  | .range t x => opRange P t x st K
  | .next it b => opNext it b st K
  | .call c => opCall P h c slot st K
  | _ => none



/-! ## Forcing: the same state, spelled out (for runs at closed arguments) -/

noncomputable def forceS {α : Type} (l : List α) : (List α → Option R) → Option R :=
  List.rec (motive := fun _ => (List α → Option R) → Option R) (fun K => K []) (fun a _ ih K => ih fun l => K (a :: l)) l

noncomputable def forceA : AV → (AV → Option R) → Option R
  | .pair a b, K => forceA a fun a => forceA b fun b => K (.pair a b)
  | .rptr v, K => forceA v fun v => K (.rptr v)
  | .tup v, K => forceA v fun v => K (.tup v)
  | .func f c, K => forceA c fun c => K (.func f c)
  | .dead, K => K .dead
  | .unit, K => K .unit
  | .int k n, K => K (.int k n)
  | .bool b, K => match b with
    | true => K (.bool true)
    | false => K (.bool false)
  | .str s, K => K (.str s)
  | .nilsl, K => K .nilsl
  | .dsl t l c, K => K (.dsl t l c)
  | .lsl i o n f, K => K (.lsl i o n f)
  | .dar n t l, K => forceS l fun l => K (.dar n t l)
  | .nilptr, K => K .nilptr
  | .ptr i p, K => K (.ptr i p)
  | .nilfunc, K => K .nilfunc
  | .nilmap, K => K .nilmap
  | .iter0, K => K .iter0
  | .map i, K => K (.map i)

noncomputable def forceL (l : List AV) : (List AV → Option R) → Option R :=
  List.rec (motive := fun _ => (List AV → Option R) → Option R) (fun K => K []) (fun a _ ih K => forceA a fun a => ih fun l => K (a :: l)) l

noncomputable def forceB : Option Blk → (Option Blk → Option R) → Option R
  | none, K => K none
  | some (.var v f), K => forceA v fun v => K (some (.var v f))
  | some (.row t l f r), K => forceS l fun l => K (some (.row t l f r))
  | some (.mp k v l), K => forceS l fun l => K (some (.mp k v l))
  | some (.iter k v l), K => forceS l fun l => K (some (.iter k v l))

noncomputable def forceH (l : Heap) : (Heap → Option R) → Option R :=
  List.rec (motive := fun _ => (Heap → Option R) → Option R) (fun K => K []) (fun a _ ih K => forceB a fun a => ih fun l => K (a :: l)) l

noncomputable def force (on : Bool) (st : St) (K : St → Option R) : Option R :=
  match on with
  | true => forceL st.tmps fun t => forceL st.saved fun s => forceH st.heap fun h => K { tmps := t, saved := s, heap := h }
  | false => K st

/-! ## Regions and code -/

/-- is an operation wanted? A guard that is asked is decided from there on. -/
noncomputable def guarded (ops : Array Oper) (o : Oper) (st : St) (yes no : St → Option R) : Option R :=
  match o.guard with
  | none => yes st
  | some (j, want) => match (ops[j]?).bind (·.dst) with
    | none => none
    | some t => match nthD st.tmps t with
      | .bool b => match want with
        | true => br b (yes { st with tmps := setR st.tmps t (.bool true) }) (no { st with tmps := setR st.tmps t (.bool false) })
        | false => br b (no { st with tmps := setR st.tmps t (.bool true) }) (yes { st with tmps := setR st.tmps t (.bool false) })
      | .tup _ => no st
      | _ => none

/-- is the place free that an operation fills? -/
noncomputable def slotOK (o : Op) (slot : Nat) (st : St) : Bool :=
  match isAlloc o with
  | false => true
  | true => match nthB st.heap slot with
    | none => slot.blt st.heap.length
    | some _ => false

noncomputable def runOps (P : Program) (h : Hand R) (ops : Array Oper) : List Oper → Nat → St → (St → Option R) → Option R
  | [], _, st, K => K st
  | o :: r, slot, st, K => guarded ops o st
      (fun st => match slotOK o.op slot st with
        | true => doOp P h o.op slot st fun v st => runOps P h ops r (match isAlloc o.op with | true => slot + 1 | false => slot) (st.putT o.dst v) K
        | false => none)
      (fun st => runOps P h ops r (match isAlloc o.op with | true => slot + 1 | false => slot) (st.putT o.dst (.tup .unit)) K)

noncomputable def allocs : List Oper → Nat
  | [] => 0
  | o :: r => match isAlloc o.op with
    | true => allocs r + 1
    | false => allocs r

noncomputable def room (st : St) (n : Nat) : St := { st with heap := st.heap ++ List.replicate n none }

noncomputable def Code.key : Code → Nat
  | .region id _ _ => id
  | .seq a _ => key a
  | .block _ c | .loop c | .scope c => key c
  | _ => 0

noncomputable def AV.refs : AV → List Nat
  | .pair a b => a.refs ++ b.refs
  | .lsl id _ _ _ => [id]
  | .ptr id _ => [id]
  | .rptr v => v.refs
  | .func _ c => c.refs
  | .tup v => v.refs
  | .map id => [id]
  | _ => []

noncomputable def memB (l : List Nat) (i : Nat) : Bool := l.any (Nat.beq i)

noncomputable def blkRefs : Option Blk → List Nat
  | some (.var v _) => v.refs
  | _ => []

/-- what can be come to -/
noncomputable def marks (H : Heap) : Nat → List Nat → List Nat → List Nat
  | 0, _, done => done
  | _ + 1, [], done => done
  | n + 1, i :: todo, done => match memB done i with
    | true => marks H n todo done
    | false => marks H n (blkRefs (nthB H i) ++ todo) (i :: done)

noncomputable def keepT (ks : List Nat) : List AV → Nat → List AV
  | [], _ => []
  | v :: l, i => (match memB ks i with | true => v | false => .dead) :: keepT ks l (i + 1)

noncomputable def maskH (mk : List Nat) : Heap → Nat → Heap
  | [], _ => []
  | b :: l, i => (match memB mk i with | true => b | false => none) :: maskH mk l (i + 1)

/-- nothing at the end is left out -/
noncomputable def trimH : Heap → Heap
  | [] => []
  | b :: l => match trimH l, b with
    | [], none => []
    | r, b => b :: r

noncomputable def refsL : List AV → List Nat
  | [] => []
  | v :: l => v.refs ++ refsL l

noncomputable def insideV (mk : List Nat) (v : AV) : Bool := allB (memB mk) v.refs

/-- what is not wanted any more is forgotten -/
noncomputable def gcWith (mk : List Nat) (t : List AV) (st : St) : St :=
  match allB (insideV mk) t && allB (insideV mk) st.saved && allB (fun i => allB (memB mk) (blkRefs (nthB st.heap i))) mk with
  | true => { tmps := t, saved := st.saved, heap := trimH (maskH mk st.heap 0) }
  | false => st

noncomputable def gc (ks : List Nat) (st : St) : St :=
  gcWith (marks st.heap 4000 (refsL (keepT ks st.tmps 0) ++ refsL st.saved) []) (keepT ks st.tmps 0) st

noncomputable def Ex.code : Ex → Nat
  | .exit id => id + 1
  | _ => 0

/-! ## What goes on behind a piece of code -/

noncomputable def seqK (eb : St → (Ex → St → Option R) → Option R) (K : Ex → St → Option R) : Ex → St → Option R :=
  fun e st => match e with
    | .normal => eb st K
    | e => K e st

noncomputable def blockK (id : Nat) (K : Ex → St → Option R) : Ex → St → Option R :=
  fun e st => match e with
    | .exit j => match j.beq id with
      | true => K .normal st
      | false => K (.exit j) st
    | e => K e st

noncomputable def exitK (keep : Nat → List Nat) (K : Ex → St → Option R) : Ex → St → Option R :=
  fun e st => K e (gc (keep e.code) st)

noncomputable def roundsK (on : Bool) (ex : St → (Ex → St → Option R) → Option R) (tidy : St → St) : Nat → St → (Ex → St → Option R) → Option R
  | 0, _, _ => none
  | n + 1, st, K => ex st (seqK (fun st K => force on (tidy st) fun st => roundsK on ex tidy n st K) K)

noncomputable def apart (l m : List Nat) : Bool := allB (fun a => !(m.any (Nat.beq a))) l

/-! ## Regions whose order is drawn -/

/-- the result of a call, as the caller has it -/
noncomputable def packed (n : Nat) (v : AV) : AV :=
  match n, v with
  | 1, .pair a _ => a
  | _, v => .tup v

/-- a call's result, as the caller has it -/
noncomputable def packR (res : Ty) (nres : Nat) (r : res.den) : AV := packed nres (match nres with | 1 => .pair (inj res r) .unit | _ => inj res r)

noncomputable def Ty.noFr : Ty → Bool
  | .fr _ => false
  | .pair a b => a.noFr && b.noFr
  | _ => true

noncomputable def frozenAll (H : Heap) (l : List Nat) : Bool :=
  allB (fun i => match nthB H i with | some (.row _ _ f _) => f | _ => false) l

/-- the rows that a call makes read-only -/
noncomputable def rowsF (F : Fn) (H : Heap) (args : List AV) : List Nat :=
  match F with
  | .fn _ res _ _ => match res.flat || frozenAll H (chain args).rows with
    | true => []
    | false => (chain args).rows
  | .mth .. => []

/-- a call by a contract, in a region whose order is drawn -/
noncomputable def callCalm (F : Fn) (args : List AV) (st : St) (K : AV → St → Option R) : Option R :=
  match F with
  | .fn ps res nres f => match res.noFr with
    | true => match deep st.heap ps (chain args) with
      | some p => obind (f p) fun r => K (packR res nres r) { st with heap := freeze st.heap (rowsF (.fn ps res nres f) st.heap args) }
      | none => none
    | false => none
  | .mth .. => none

noncomputable def calmHand (env : FuncId → Option Fn) : Hand R :=
  { call := fun f args st K => match env f with
      | some F => callCalm F args st K
      | none => none }

noncomputable def AV.ids : AV → List Nat
  | .ptr id _ => [id]
  | v => v.rows

noncomputable def AV.own : AV → List Nat
  | .ptr id _ => [id]
  | _ => []

noncomputable def rowsOps (st : St) : List Operand → List Nat
  | [] => []
  | x :: r => (st.eval x).rows ++ rowsOps st r

/-- is an operation of a kind that may stand in a region whose order is drawn? -/
noncomputable def calm (P : Program) (o : Op) (st : St) : Bool :=
  match o with
  | .move _ | .assign _ | .pick .. | .alloc _ | .box .. | .build .. | .buildSlice .. | .load .. | .store .. | .nilCheck _ | .unOp ..
  | .sliceToArrayPointer .. | .makeFunc .. | .makeSlice .. | .fieldAddr .. | .field .. | .indexAddr .. | .index .. | .extract .. => true
  | .slice _ _ _ _ mx => mx.isNone
  | .binOp _ _ x y _ => match st.eval x, st.eval y with
    | _, .nilsl => false
    | .nilsl, _ => false
    | _, _ => true
  | .convert _ d _ => match P.underlying d with
    | some (.slice _) => false
    | _ => true
  | .call c => match c.callee with
    | .builtin .len | .builtin .cap | .builtin .min | .builtin .max => match c.args.toList.map st.eval with
      | [.map _] => false
      | _ => true
    | .builtin _ => false
    | .value _ => true
    | .invoke .. => false
  | _ => false

/-- the blocks that an operation looks at -/
noncomputable def footR (o : Op) (st : St) : List Nat :=
  match o with
  | .load _ a | .fieldAddr _ a _ => (st.eval a).ids
  | .indexAddr _ x _ | .slice _ x _ _ _ => (st.eval x).ids
  | .binOp _ _ x y _ => (st.eval x).rows ++ (st.eval y).rows
  | .convert _ _ x | .sliceToArrayPointer _ x | .store _ _ x => (st.eval x).rows
  | .build _ ps | .buildSlice _ _ ps => rowsIn st ps.toList
  | .call c => match c.callee with
    | .value f => rowsOps st c.args.toList ++ (st.eval f).rows
    | _ => rowsOps st c.args.toList
  | _ => []

/-- the blocks that an operation sets -/
noncomputable def footW (env : FuncId → Option Fn) (o : Op) (slot : Nat) (st : St) : List Nat :=
  match o with
  | .call c => match c.callee with
    | .value f => match st.eval f with
      | .func g caps => match env g with
        | some F => rowsF F st.heap (c.args.toList.map st.eval ++ unchain caps)
        | none => []
      | _ => []
    | _ => []
  | .alloc _ | .box .. | .makeSlice .. => [slot]
  | .buildSlice _ _ ps => slot :: rowsIn st ps.toList
  | .store _ a x => (st.eval a).ids ++ (st.eval x).rows
  | .sliceToArrayPointer _ x => (st.eval x).rows
  | .slice _ x _ _ _ => (st.eval x).own
  | _ => []

structure Foot where
  idx : Nat
  o : Oper
  r : List Nat
  w : List Nat
  mask : Nat

noncomputable def nthN (l : List Nat) : Nat → Nat :=
  List.rec (motive := fun _ => Nat → Nat) (fun _ => 0) (fun a _ ih n => Nat.rec (motive := fun _ => Nat) a (fun m _ => ih m) n) l

/-- all that is ahead of an operation -/
noncomputable def maskOf (masks : List Nat) : List Edge → Nat
  | [] => 0
  | e :: r => match Region.binds .any e with
    | true => 2 ^ e.on ||| nthN masks e.on ||| maskOf masks r
    | false => maskOf masks r

noncomputable def backOK (i : Nat) : List Edge → Bool
  | [] => true
  | e :: r => (!Region.binds .any e || e.on.blt i) && backOK i r

noncomputable def looksTmps (ops : Array Oper) (o : Oper) : List Nat :=
  match o.guard with
  | none => opTmps o.op.operands.toList
  | some (j, _) => match (ops[j]?).bind (·.dst) with
    | some t => t :: opTmps o.op.operands.toList
    | none => opTmps o.op.operands.toList
  where
  opTmps : List Operand → List Nat
    | [] => []
    | .tmp t :: r => t :: opTmps r
    | _ :: r => opTmps r

noncomputable def apartT (ops : Array Oper) (x y : Oper) : Bool :=
  (match x.dst with
   | some d => !((looksTmps ops y).any (Nat.beq d)) && (match y.dst with | some e => !(d.beq e) | none => true)
   | none => true) &&
  (match y.dst with
   | some d => !((looksTmps ops x).any (Nat.beq d))
   | none => true)

/-- may two operations stand in either order? -/
noncomputable def apartF (ops : Array Oper) (x y : Foot) : Bool :=
  y.mask.testBit x.idx || (apartT ops x.o y.o && apart x.w y.r && apart x.w y.w && apart y.w x.r)

noncomputable def apartL (ops : Array Oper) (y : Foot) : List Foot → Bool
  | [] => true
  | x :: r => apartF ops x y && apartL ops y r

/-- the last one first -/
noncomputable def apartAll (ops : Array Oper) : List Foot → Bool
  | [] => true
  | y :: r => backOK y.idx y.o.after.toList && apartL ops y r && apartAll ops r

noncomputable def runDr (P : Program) (env : FuncId → Option Fn) (ops : Array Oper) : List Oper → Nat → List Nat → Nat → List Foot → St → (List Foot → St → Option R) → Option R
  | [], _, _, _, acc, st, K => K acc st
  | o :: r, i, masks, slot, acc, st, K => guarded ops o st
      (fun st => match calm P o.op st && slotOK o.op slot st with
        | true => doOp P (calmHand env) o.op slot st fun v st' =>
            runDr P env ops r (i + 1) (masks ++ [maskOf masks o.after.toList]) (match isAlloc o.op with | true => slot + 1 | false => slot)
              ({ idx := i, o := o, r := footR o.op st, w := footW env o.op slot st, mask := maskOf masks o.after.toList } :: acc) (st'.putT o.dst v) K
        | false => none)
      (fun st => runDr P env ops r (i + 1) (masks ++ [maskOf masks o.after.toList]) (match isAlloc o.op with | true => slot + 1 | false => slot)
              ({ idx := i, o := o, r := [], w := [], mask := maskOf masks o.after.toList } :: acc) (st.putT o.dst (.tup .unit)) K)

noncomputable def exec (cfg : Cfg) (h : Hand R) (f : FuncId) : Code → St → (Ex → St → Option R) → Option R
  | .skip, st, K => K .normal st
  | .region _ ops drawn, st, K => match drawn with
    | false => runOps cfg.P h ops ops.toList st.heap.length (room st (allocs ops.toList)) fun st => force cfg.force st (K .normal)
    | true => match cfg.P.follows .mixedOrders with
      | true => runDr cfg.P cfg.env ops ops.toList 0 [] st.heap.length [] (room st (allocs ops.toList)) fun acc st => match apartAll ops acc with
        | true => force cfg.force st (K .normal)
        | false => none
      | false => none
  | .seq a b, st, K => exec cfg h f a st (seqK (fun st K => exec cfg h f b st K) K)
  | .cond c a b, st, K => match c with
    | .tmp t => match nthD st.tmps t with
      | .bool v => br v (exec cfg h f a { st with tmps := setR st.tmps t (.bool true) } K) (exec cfg h f b { st with tmps := setR st.tmps t (.bool false) } K)
      | _ => none
    | .const (.bool v) => br v (exec cfg h f a st K) (exec cfg h f b st K)
    | _ => none
  | .block id c, st, K => exec cfg h f c st (blockK id K)
  | .loop c, st, K => match cfg.cuts f (Code.key c) with
    | some cut => cut R st K
    | none => roundsK cfg.force (fun st K => exec cfg h f c st K) (gc (cfg.keepH f (Code.key c))) cfg.rounds (gc (cfg.keepH f (Code.key c)) st) (exitK (cfg.keepX f (Code.key c)) K)
  | .exit id, st, K => K (.exit id) st
  | .label _, st, K => K .normal st
  | .ret, st, K => K .ret st
  | _, _, _ => none

/-! ## Calls -/

noncomputable def resultsAV (P : Program) (st : St) : List ResultVar → Option AV
  | [] => some .unit
  | .tmp t :: r => match resultsAV P st r with
    | some v => some (.pair (nthD st.tmps t) v)
    | none => none
  | .cell t ty :: r => match nthD st.tmps t with
    | .ptr id p => match load st.heap id p with
      | some u => match fits P ty u with
        | true => match resultsAV P st r with
          | some v => some (.pair u v)
          | none => none
        | false => none
      | none => none
    | _ => none

noncomputable def injR : (t : Ty) → t.den → Heap → AV × Heap
  | .fr t, l, H => (.lsl H.length 0 l.length true, push H (.row t l false false))
  | .pair a b, x, H => let p := injR a x.1 H; let q := injR b x.2 p.2; (.pair p.1 q.1, q.2)
  | t, x, H => (inj t x, H)

noncomputable def distinct : List Nat → Bool
  | [] => true
  | a :: l => !(l.any (Nat.beq a)) && distinct l

noncomputable def liveRows (H : Heap) (l : List Nat) : Bool :=
  allB (fun i => match nthB H i with | some (.row _ _ false _) => true | _ => false) l

noncomputable def St.killAll (st : St) : List Nat → St
  | [] => st
  | i :: r => (st.kill i).killAll r

noncomputable def callFn (F : Fn) (args : List AV) (st : St) (K : AV → St → Option R) : Option R :=
  match F with
  | .fn ps res nres f => match deep st.heap ps (chain args) with
    | some p => obind (f p) fun r =>
        let H := match res.flat with | true => st.heap | false => freeze st.heap (chain args).rows
        let q := injR res r H
        K (packed nres (match nres with | 1 => .pair q.1 .unit | _ => q.1)) { st with heap := q.2 }
    | none => none
  | .mth recv ps res nres f => match args with
    | .ptr id [] :: rest => match nthB st.heap id with
      | some (.var u false) => match deep st.heap recv u, deep st.heap ps (chain rest) with
        | some c, some a =>
          match distinct (rowsFresh recv u) && apart (rowsFresh recv u) (rowsRead recv u ++ (chain rest).rows) && liveRows st.heap (rowsFresh recv u) with
          | true => obind (f c a) fun r =>
              let H := freeze st.heap (rowsRead recv u ++ (chain rest).rows)
              let w := injR recv r.1 H
              let st := ({ st with heap := setBlk w.2 id (.var w.1 false) } : St).killAll (rowsFresh recv u)
              let q := injR res r.2 st.heap
              K (packed nres (match nres with | 1 => .pair q.1 .unit | _ => q.1)) { st with heap := q.2 }
          | false => none
        | _, _ => none
      | _ => none
    | _ => none

noncomputable def callK (P : Program) (fn : Func) (n : Nat) (K : AV → St → Option R) : Ex → St → Option R :=
  fun e s => match e with
    | .exit _ => none
    | _ => match resultsAV P s fn.results.toList with
      | some v => K (packed fn.results.size v) { tmps := s.saved.take n, saved := s.saved.drop n, heap := s.heap }
      | none => none

noncomputable def topK (P : Program) (fn : Func) (K : AV → Heap → Option R) : Ex → St → Option R :=
  fun e s => match e with
    | .exit _ => none
    | _ => match resultsAV P s fn.results.toList with
      | some v => K v s.heap
      | none => none

noncomputable def inl (cfg : Cfg) : Nat → Hand R
  | 0 => { call := fun _ _ _ _ => none }
  | n + 1 => { call := fun f args st K =>
      match cfg.env f with
      | some F => callFn F args st K
      | none => match cfg.P.funcs[f]? with
        | some fn => match fn.body with
          | some c => exec cfg (inl cfg n) f c { tmps := args ++ List.replicate (fn.ntmps - args.length) .dead, saved := st.tmps ++ st.saved, heap := st.heap } (callK cfg.P fn st.tmps.length K)
          | none => none
        | none => none }

/-- what a function hands back, as deep values; rows that are handed over are its own, each once -/
noncomputable def handed (H : Heap) (res : Ty) (nres : Nat) (v : AV) : Option res.den :=
  let v := match nres with | 1 => packed 1 v | _ => v
  match deep H res v with
  | some r => match distinct (rowsFresh res v) && apart (rowsFresh res v) (rowsRead res v) && liveRows H (rowsFresh res v) with
    | true => some r
    | false => none
  | none => none

noncomputable def runCode (cfg : Cfg) (n : Nat) (f : FuncId) (args : List AV) (H : Heap) (K : AV → Heap → Option R) : Option R :=
  match cfg.P.funcs[f]? with
  | some fn => match fn.body with
    | some code => exec cfg (inl cfg n) f code { tmps := args ++ List.replicate (fn.ntmps - args.length) .dead, saved := [], heap := H } (topK cfg.P fn K)
    | none => none
  | none => none

/-- a function's run at deep arguments -/
noncomputable def runFn (cfg : Cfg) (n : Nat) (f : FuncId) (ps res : Ty) (nres : Nat) (p : ps.den) : Option res.den :=
  runCode cfg n f (unchain (inj ps p)) [] fun v H => handed H res nres v

/-- a method's run: at what its receiver's variable holds -/
noncomputable def runMth (cfg : Cfg) (n : Nat) (f : FuncId) (recv ps res : Ty) (nres : Nat) (c : recv.den) (p : ps.den) : Option (recv.den × res.den) :=
  let q := injR recv c [none]
  runCode cfg n f (.ptr 0 [] :: unchain (inj ps p)) (setR q.2 0 (some (.var q.1 false))) fun v H =>
    match nthB H 0 with
    | some (.var u false) => match handed H (.pair recv (.pair res .unit)) 2 (.pair u (.pair (match nres with | 1 => packed 1 v | _ => v) .unit)) with
      | some r => some (r.1, r.2.1)
      | none => none
    | _ => none

end Go.Am
