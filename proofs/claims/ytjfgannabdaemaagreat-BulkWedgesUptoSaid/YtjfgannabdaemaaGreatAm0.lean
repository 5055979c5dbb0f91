/-
  AM: an abstract machine over the loaded code: typed deep values, a small heap of its own, continuations. Definitions alone.
-/
import Derived.Calls
set_option linter.all false
namespace Go.Am

/-! ## Types of deep values -/

inductive Ty where
  | bool | int (k : IntKind) | str | unit
  | pair (a b : Ty)
  | arr (n : Nat) (t : Ty)
  | sl (t : Ty)
  | fr (t : Ty)

@[reducible] def Ty.den : Ty → Type
  | .bool => Bool
  | .int _ => Int
  | .str => List Int
  | .unit => Unit
  | .pair a b => a.den × b.den
  | .arr _ t => List t.den
  | .sl t => List t.den
  | .fr t => List t.den

noncomputable def kindB : IntKind → IntKind → Bool
  | .i8, .i8 | .i16, .i16 | .i32, .i32 | .i64, .i64 | .u8, .u8 | .u16, .u16 | .u32, .u32 | .u64, .u64 => true
  | _, _ => false

theorem kindB_eq : ∀ {a b : IntKind}, kindB a b = true → a = b := by
  intro a b h; cases a <;> cases b <;> first | rfl | (simp [kindB] at h)

noncomputable def Ty.same : Ty → Ty → Bool
  | .bool, .bool | .str, .str | .unit, .unit => true
  | .int k, .int l => kindB k l
  | .pair a b, .pair c d => a.same c && b.same d
  | .arr n t, .arr m u => n.beq m && t.same u
  | .sl t, .sl u | .fr t, .fr u => t.same u
  | _, _ => false

theorem Ty.same_eq : ∀ {a b : Ty}, a.same b = true → a = b := by
  intro a
  induction a with
  | bool => intro b h; cases b <;> first | rfl | (simp [Ty.same] at h)
  | str => intro b h; cases b <;> first | rfl | (simp [Ty.same] at h)
  | unit => intro b h; cases b <;> first | rfl | (simp [Ty.same] at h)
  | int k => intro b h; cases b <;> first | (simp only [Ty.same] at h; rw [kindB_eq h]) | (simp [Ty.same] at h)
  | pair a b iha ihb =>
    intro c h
    cases c <;> first
      | (simp only [Ty.same, Bool.and_eq_true] at h; rw [iha h.1, ihb h.2])
      | (simp [Ty.same] at h)
  | arr n t ih =>
    intro c h
    cases c <;> first
      | (simp only [Ty.same, Bool.and_eq_true] at h; rw [Nat.eq_of_beq_eq_true h.1, ih h.2])
      | (simp [Ty.same] at h)
  | sl t ih => intro c h; cases c <;> first | (simp only [Ty.same] at h; rw [ih h]) | (simp [Ty.same] at h)
  | fr t ih => intro c h; cases c <;> first | (simp only [Ty.same] at h; rw [ih h]) | (simp [Ty.same] at h)

/-- a value at another name of its own type -/
noncomputable def Ty.castL (a b : Ty) (l : List a.den) : Option (List b.den) :=
  match h : a.same b with
  | true => some ((Ty.same_eq h) ▸ l)
  | false => none

/-- cells of a type -/
noncomputable def Ty.size : Ty → Nat
  | .bool | .int _ | .str | .sl _ | .fr _ => 1
  | .unit => 0
  | .pair a b => a.size + b.size
  | .arr n t => n * t.size

noncomputable def Ty.zero : (t : Ty) → t.den
  | .bool => false
  | .int _ => (0 : Int)
  | .str => []
  | .unit => ()
  | .pair a b => (a.zero, b.zero)
  | .arr n t => List.replicate n t.zero
  | .sl _ => []
  | .fr _ => []

noncomputable def listB {α : Type} (f : α → α → Bool) : List α → List α → Bool
  | [], [] => true
  | a :: l, b :: m => f a b && listB f l m
  | _, _ => false

/-- Go's '==' (no slices) -/
noncomputable def Ty.eqB : (t : Ty) → t.den → t.den → Bool
  | .bool, a, b => a == b
  | .int _, a, b => decide (a = b)
  | .str, a, b => decide (a = b)
  | .unit, _, _ => true
  | .pair s t, a, b => s.eqB a.1 b.1 && t.eqB a.2 b.2
  | .arr _ t, a, b => listB t.eqB a b
  | .sl _, _, _ => false
  | .fr _, _, _ => false

/-- may it be compared? -/
noncomputable def Ty.plain : Ty → Bool
  | .bool | .int _ | .str | .unit => true
  | .pair a b => a.plain && b.plain
  | .arr _ t => t.plain
  | .sl _ | .fr _ => false

/-- no slice within -/
noncomputable def Ty.flat : Ty → Bool
  | .bool | .int _ | .str | .unit => true
  | .pair a b => a.flat && b.flat
  | .arr _ t => t.flat
  | .sl _ | .fr _ => false

/-! ## Values of the machine -/

inductive Step where
  | fld (k : Nat)
  | idx (i : Nat)

inductive AV where
  | dead
  | unit
  | pair (a b : AV)
  | int (k : IntKind) (n : Int)
  | bool (b : Bool)
  | str (s : List Int)
  | nilsl
  | dsl (t : Ty) (l : List t.den) (tight : Bool)
  | lsl (id off len : Nat) (full : Bool)
  | dar (n : Nat) (t : Ty) (l : List t.den)
  | nilptr
  | ptr (id : Nat) (path : List Step)
  | rptr (v : AV)
  | nilfunc
  | func (f : FuncId) (caps : AV)
  | tup (vs : AV)
  | nilmap
  | map (id : Nat)
  | iter0

inductive Blk where
  | var (v : AV) (frz : Bool)
  | row (t : Ty) (l : List t.den) (frz real : Bool)
  | mp (k v : Ty) (l : List (k.den × v.den))
  | iter (k v : Ty) (l : List (k.den × v.den))

abbrev Heap := List (Option Blk)

structure St where
  tmps : List AV
  saved : List AV
  heap : Heap

/-! ## Lists, by their recursor (the kernel is quick at these) -/

noncomputable def nthD (l : List AV) : Nat → AV :=
  List.rec (motive := fun _ => Nat → AV) (fun _ => .dead) (fun a _ ih n => Nat.rec (motive := fun _ => AV) a (fun m _ => ih m) n) l

noncomputable def nthB (l : Heap) : Nat → Option Blk :=
  List.rec (motive := fun _ => Nat → Option Blk) (fun _ => none) (fun a _ ih n => Nat.rec (motive := fun _ => Option Blk) a (fun m _ => ih m) n) l

noncomputable def setR {α : Type} (l : List α) : Nat → α → List α :=
  List.rec (motive := fun _ => Nat → α → List α) (fun _ _ => []) (fun a l ih n v => Nat.rec (motive := fun _ => List α) (v :: l) (fun m _ => a :: ih m v) n) l

noncomputable def idxN {α : Type} (l : List α) : Nat → Option α :=
  List.rec (motive := fun _ => Nat → Option α) (fun _ => none) (fun a _ ih n => Nat.rec (motive := fun _ => Option α) (some a) (fun m _ => ih m) n) l

theorem nthD_eq : ∀ (l : List AV) (n : Nat), nthD l n = l.getD n .dead := by
  intro l
  induction l with
  | nil => intro n; rfl
  | cons a l ih => intro n; cases n with
    | zero => rfl
    | succ n => exact (ih n).trans (by simp)

theorem nthB_eq : ∀ (l : Heap) (n : Nat), nthB l n = l.getD n none := by
  intro l
  induction l with
  | nil => intro n; rfl
  | cons a l ih => intro n; cases n with
    | zero => rfl
    | succ n => exact (ih n).trans (by simp)

theorem setR_eq {α : Type} : ∀ (l : List α) (n : Nat) (v : α), setR l n v = l.set n v := by
  intro l
  induction l with
  | nil => intro n v; rfl
  | cons a l ih => intro n v; cases n with
    | zero => rfl
    | succ n => exact congrArg (a :: ·) (ih n v)

theorem idxN_eq {α : Type} : ∀ (l : List α) (n : Nat), idxN l n = l[n]? := by
  intro l
  induction l with
  | nil => intro n; rfl
  | cons a l ih => intro n; cases n with
    | zero => rfl
    | succ n => exact (ih n).trans (by simp)

/-! ## Ways -/

variable {R : Type}

noncomputable def br (c : Bool) (x y : Option R) : Option R :=
  match c with
  | true => x
  | false => y

noncomputable def obind {α : Type} (x : Option α) (k : α → Option R) : Option R :=
  match x with
  | some a => k a
  | none => none

open Classical in
noncomputable def agree (x y : Option R) : Option R := if x = y then x else none

noncomputable def idx {α : Type} (l : List α) (i : Int) : Option α :=
  match i with
  | .ofNat n => idxN l n
  | .negSucc _ => none

noncomputable def inj : (t : Ty) → t.den → AV
  | .bool, b => .bool b
  | .int k, n => .int k n
  | .str, s => .str s
  | .unit, _ => .unit
  | .pair a b, x => .pair (inj a x.1) (inj b x.2)
  | .arr n t, l => .dar n t l
  | .sl t, l => .dsl t l false
  | .fr t, l => .dsl t l false

noncomputable def AV.size : AV → Nat
  | .unit => 0
  | .pair a b => a.size + b.size
  | .dar n t _ => n * t.size
  | _ => 1

noncomputable def AV.isAgg : AV → Bool
  | .unit | .pair .. | .dar .. => true
  | _ => false

noncomputable def AV.fld : AV → Nat → Option AV
  | .pair a _, 0 => some a
  | .pair _ b, k + 1 => b.fld k
  | _, _ => none

noncomputable def AV.setFld : AV → Nat → AV → Option AV
  | .pair _ b, 0, v => some (.pair v b)
  | .pair a b, k + 1, v => match b.setFld k v with
    | some b => some (.pair a b)
    | none => none
  | _, _, _ => none

/-- the same layout? -/
noncomputable def AV.like : AV → AV → Bool
  | .pair a b, .pair c d => a.like c && b.like d
  | .unit, .unit => true
  | .dar n t _, .dar m u _ => n.beq m && t.same u
  | u, v => !u.isAgg && !v.isAgg

/-- may it lie in a variable's cells? -/
noncomputable def AV.okIn : AV → Bool
  | .tup _ => false
  | .pair a b => a.okIn && b.okIn
  | _ => true

noncomputable def AV.storable : AV → Bool
  | .dead => false
  | v => v.okIn

/-- where field k begins -/
noncomputable def AV.fldOff : AV → Nat → Nat
  | .pair _ _, 0 => 0
  | .pair a b, k + 1 => a.size + b.fldOff k
  | _, _ => 0

/-! ## Deep reading -/

/-- what a row holds -/
noncomputable def rowOf (H : Heap) (id : Nat) (t : Ty) : Option (List t.den) :=
  match nthB H id with
  | some (.row u l _ _) => Ty.castL u t l
  | _ => none

noncomputable def deep (H : Heap) : (t : Ty) → AV → Option t.den
  | .bool, .bool b => some b
  | .int k, .int l n => match kindB k l with
    | true => some n
    | false => none
  | .str, .str s => some s
  | .unit, .unit => some ()
  | .pair a b, .pair x y => match deep H a x with
    | some p => match deep H b y with
      | some q => some (p, q)
      | none => none
    | none => none
  | .arr n t, .dar m u l => match n.beq m with
    | true => Ty.castL u t l
    | false => none
  | .sl _, .nilsl => some []
  | .sl t, .dsl u l _ => Ty.castL u t l
  | .sl t, .lsl id off len full => match rowOf H id t with
    | some l => match full with
      | true => some (l.drop off)
      | false => some ((l.drop off).take len)
    | none => none
  | .fr _, .nilsl => some []
  | .fr t, .lsl id 0 _ true => rowOf H id t
  | _, _ => none

/-- rows that are read, and rows that are handed over -/
noncomputable def rowsRead : Ty → AV → List Nat
  | .pair a b, .pair x y => rowsRead a x ++ rowsRead b y
  | .sl _, .lsl id _ _ _ => [id]
  | _, _ => []

noncomputable def rowsFresh : Ty → AV → List Nat
  | .pair a b, .pair x y => rowsFresh a x ++ rowsFresh b y
  | .fr _, .lsl id _ _ _ => [id]
  | _, _ => []

noncomputable def AV.rows : AV → List Nat
  | .pair a b => a.rows ++ b.rows
  | .lsl id _ _ _ => [id]
  | .rptr v => v.rows
  | .func _ c => c.rows
  | .tup v => v.rows
  | _ => []

noncomputable def freeze1 (H : Heap) (id : Nat) : Heap :=
  match nthB H id with
  | some (.row t l _ r) => setR H id (some (.row t l true r))
  | some (.var v _) => setR H id (some (.var v true))
  | _ => H

noncomputable def freeze (H : Heap) : List Nat → Heap
  | [] => H
  | i :: r => freeze (freeze1 H i) r

/-! ## Paths -/

noncomputable def AV.get (H : Heap) : AV → List Step → Option AV
  | v, [] => some v
  | v, .fld k :: p => match v.fld k with
    | some u => u.get H p
    | none => none
  | .dar _ t l, .idx i :: p => obind (idxN l i) fun x => (inj t x).get H p
  | _, .idx _ :: _ => none

/-- a part of a deep value, set anew -/
noncomputable def putD (H : Heap) : (t : Ty) → t.den → List Step → AV → Option t.den
  | t, _, [], v => deep H t v
  | .pair a b, x, .fld 0 :: p, v => match putD H a x.1 p v with
    | some y => some (y, x.2)
    | none => none
  | .pair a b, x, .fld (k + 1) :: p, v => match putD H b x.2 (.fld k :: p) v with
    | some y => some (x.1, y)
    | none => none
  | .arr _ t, l, .idx i :: p, v => obind (idxN l i) fun x => match putD H t x p v with
    | some y => some (setR l i y)
    | none => none
  | _, _, _, _ => none

noncomputable def AV.put (H : Heap) : AV → List Step → AV → Option AV
  | u, [], v => match u.like v && v.storable with
    | true => some v
    | false => none
  | u, .fld k :: p, v => match u.fld k with
    | some x => match x.put H p v with
      | some y => u.setFld k y
      | none => none
    | none => none
  | .dar n t l, .idx i :: p, v => match t.flat with
    | true => obind (idxN l i) fun x => match putD H t x p v with
      | some y => some (.dar n t (setR l i y))
      | none => none
    | false => none
  | _, .idx _ :: _, _ => none

/-- what lies there -/
noncomputable def load (H : Heap) (id : Nat) (p : List Step) : Option AV :=
  match nthB H id with
  | some (.var v _) => v.get H p
  | some (.row t l _ _) => match p with
    | .idx i :: q => obind (idxN l i) fun x => (inj t x).get H q
    | _ => none
  | _ => none

/-- a store; rows that a deep place comes to share are made read-only -/
noncomputable def store (H : Heap) (id : Nat) (p : List Step) (v : AV) : Option Heap :=
  match nthB H id with
  | some (.var u false) => match u.put H p v with
    | some x => some (setR H id (some (.var x false)))
    | none => none
  | some (.row t l false r) => match p with
    | .idx i :: q => match v.rows.any (Nat.beq id) with
      | true => none
      | false => obind (idxN l i) fun x => match putD H t x q v with
        | some y => some (setR (freeze H v.rows) id (some (.row t (setR l i y) false r)))
        | none => none
    | _ => none
  | _ => none

/-! ## Dead references -/

noncomputable def AV.kill (i : Nat) : AV → AV
  | .pair a b => .pair (a.kill i) (b.kill i)
  | .lsl id o n f => match id.beq i with
    | true => .dead
    | false => .lsl id o n f
  | .ptr id p => match id.beq i with
    | true => .dead
    | false => .ptr id p
  | .rptr v => .rptr (v.kill i)
  | .func f c => .func f (c.kill i)
  | .tup v => .tup (v.kill i)
  | .map id => match id.beq i with
    | true => .dead
    | false => .map id
  | v => v

noncomputable def killBlk (i : Nat) : Option Blk → Option Blk
  | some (.var v f) => some (.var (v.kill i) f)
  | b => b

noncomputable def St.kill (i : Nat) (s : St) : St := { tmps := s.tmps.map (AV.kill i), saved := s.saved.map (AV.kill i), heap := s.heap.map (killBlk i) }

/-- does it speak of none from n on? -/
noncomputable def AV.under (n : Nat) : AV → Bool
  | .pair a b => a.under n && b.under n
  | .lsl id _ _ _ => id.blt n
  | .ptr id _ => id.blt n
  | .rptr v => v.under n
  | .func _ c => c.under n
  | .tup v => v.under n
  | .map id => id.blt n
  | _ => true

noncomputable def Blk.under (n : Nat) : Option Blk → Bool
  | some (.var v _) => v.under n
  | _ => true

noncomputable def allB {α : Type} (f : α → Bool) : List α → Bool
  | [] => true
  | a :: l => f a && allB f l

end Go.Am
