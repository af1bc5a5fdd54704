/- The abstract machine: how operations and code are carried out. Own work. -/
import Derived.Test.YtikjkclmninbmaaK01
import Derived.OrdersIn
set_option linter.unusedSimpArgs false
set_option linter.unusedVariables false
set_option linter.unnecessarySimpa false
namespace Av
open Go

/-- What is known of a type. -/
structure TI where
  size : Nat := 0
  agg : Bool := false
  zero : List AV := []
  fields : List (Nat × Nat) := []
  ftys : List TypeId := []
  elem : Nat := 0
  len : Nat := 0
  sl : Bool := false
  ety : Option ETy := none
  ik : Option IntKind := none
  mkd : Option IntKind := none
  flt : Bool := false
  flat : Bool := false
  bl : Bool := false
deriving Inhabited

/-- Orders: one operation and what follows; or several that may be first. -/
inductive OT where
  | done
  | one (i : Nat) (t : OT)
  | alt (a b : OT)

def OT.lin : List Nat → OT
  | [] => .done
  | i :: is => .one i (OT.lin is)

def OT.depth : OT → Nat
  | .done => 0
  | .one _ t => t.depth + 1
  | .alt a b => max a.depth b.depth

def OT.heads : OT → List Nat
  | .done => []
  | .one i _ => [i]
  | .alt a b => a.heads ++ b.heads

structure Ctx where
  P : Program
  tb : Nat → TI
  located : List Nat := []
  dyn : List Nat := []
  ords : List (Nat × List Nat) := []
  trees : List (Nat × OT) := []
  owns : List Nat := []
  wild : List Nat := []

/-! Forced spines. -/
def getK : List AV → Nat → (AV → Prop) → Prop
  | [], _, _ => False
  | x :: _, 0, k => k x
  | _ :: xs, n + 1, k => getK xs n k

def setK : List AV → Nat → AV → (List AV → Prop) → Prop
  | [], _, _, _ => False
  | _ :: xs, 0, v, k => k (v :: xs)
  | x :: xs, n + 1, v, k => setK xs n v fun ys => k (x :: ys)

def takeK : List AV → Nat → (List AV → Prop) → Prop
  | _, 0, k => k []
  | [], _ + 1, _ => False
  | x :: xs, n + 1, k => takeK xs n fun ys => k (x :: ys)

def cutK : List AV → Nat → Nat → (List AV → Prop) → Prop
  | xs, 0, n, k => takeK xs n k
  | [], _ + 1, _, _ => False
  | _ :: xs, j + 1, n, k => cutK xs j n k

def overK : List AV → List AV → (List AV → Prop) → Prop
  | xs, [], k => k xs
  | [], _ :: _, _ => False
  | _ :: xs, v :: vs, k => overK xs vs fun ys => k (v :: ys)

/-- xs with vs from place j on. -/
def patchK : List AV → Nat → List AV → (List AV → Prop) → Prop
  | xs, 0, vs, k => overK xs vs k
  | [], _ + 1, _, _ => False
  | x :: xs, j + 1, vs, k => patchK xs j vs fun ys => k (x :: ys)

def hgetK : List AObj → Nat → (AObj → Prop) → Prop
  | [], _, _ => False
  | x :: _, 0, k => k x
  | _ :: xs, n + 1, k => hgetK xs n k

def hsetK : List AObj → Nat → AObj → (List AObj → Prop) → Prop
  | [], _, _, _ => False
  | _ :: xs, 0, v, k => k (v :: xs)
  | x :: xs, n + 1, v, k => hsetK xs n v fun ys => k (x :: ys)

/-- The place behind a row's last one, as a literal where there is one. -/
def placeK : List AObj → List Nat → Nat → (Nat → Prop) → Prop
  | [], m :: _, n, k => match Nat.beq m n with
    | true => k m
    | false => k n
  | [], [], n, k => k n
  | _ :: xs, [], n, k => placeK xs [] (n + 1) k
  | _ :: xs, _ :: ms, n, k => placeK xs ms (n + 1) k

def appK : List AObj → AObj → (List AObj → Prop) → Prop
  | [], o, k => k [o]
  | x :: xs, o, k => appK xs o fun ys => k (x :: ys)

def places : List Nat := [0, 1, 2, 3, 4, 5, 6, 7, 8, 9, 10, 11, 12, 13, 14, 15, 16, 17, 18, 19, 20, 21, 22, 23, 24, 25, 26, 27, 28, 29, 30, 31, 32, 33, 34, 35, 36, 37, 38, 39, 40, 41, 42, 43, 44, 45, 46, 47, 48, 49, 50, 51, 52, 53, 54, 55, 56, 57, 58, 59]

def pushK (H : List AObj) (o : AObj) (k : Nat → List AObj → Prop) : Prop := placeK H places 0 fun l => appK H o fun H' => k l H'

def condK (b : Bool) (A B : Prop) : Prop := match b with
  | true => A
  | false => B

/-! Operands. -/
def ofConst : Value → AV
  | .int k n => .int k n
  | .bool b => .bool b
  | .float .f64 b => .flt b
  | .complex .f64 a b => .cpx a b
  | .pointer none => .nilp
  | .slice none 0 0 => .nilsl
  | .nilFunc => .nilfn
  | _ => .junk

/-- A value, its head laid open. -/
def headK (v : AV) (k : AV → Prop) : Prop := match v with
  | .junk => k .junk
  | .int a n => k (.int a n)
  | .bool b => k (.bool b)
  | .flt b => k (.flt b)
  | .cpx a b => k (.cpx a b)
  | .nilp => k .nilp
  | .ptr a b c d => k (.ptr a b c d)
  | .vptr a b => k (.vptr a b)
  | .nilsl => k .nilsl
  | .sl t l o => k (.sl t l o)
  | .osl a b c d => k (.osl a b c d)
  | .map a => k (.map a)
  | .fn a b c => k (.fn a b c)
  | .yield a => k (.yield a)
  | .nilfn => k .nilfn
  | .agg a => k (.agg a)
  | .tup a => k (.tup a)

def ev (s : List AV) (x : Operand) (k : AV → Prop) : Prop :=
  match x with
  | .tmp t => getK s t k
  | .const v => headK (ofConst v) k
  | .func f => k (.fn f [] [])
  | .global _ => False

def evs (s : List AV) : List Operand → (List AV → Prop) → Prop
  | [], k => k []
  | x :: xs, k => ev s x fun v => evs s xs fun vs => k (v :: vs)

def catK : List AV → List AV → (List AV → Prop) → Prop
  | [], ys, k => k ys
  | x :: xs, ys, k => catK xs ys fun zs => k (x :: zs)

/-- A row, laid open. -/
def rowK : List AV → (List AV → Prop) → Prop
  | [], k => k []
  | x :: xs, k => headK x fun x => rowK xs fun xs => k (x :: xs)

/-- A nil slice gets its type. -/
def typed (C : Ctx) (t : TypeId) : AV → AV
  | .nilsl => match (C.tb t).ety with
    | some e => .sl e [] .clip
    | none => .nilsl
  | v => v

def typedK (C : Ctx) (t : TypeId) (v : AV) (k : AV → Prop) : Prop := headK (typed C t v) k

def typedsK (C : Ctx) : List TypeId → List AV → (List AV → Prop) → Prop
  | t :: ts, v :: vs, k => typedK C t v fun v => typedsK C ts vs fun vs => k (v :: vs)
  | _, vs, k => k vs

def cellsOf : AV → List AV
  | .agg cs => cs
  | v => [v]

def cellsK (v : AV) (k : List AV → Prop) : Prop := rowK (cellsOf v) k

/-! Scalars. -/
def ikBeq : IntKind → IntKind → Bool
  | .i8, .i8 => true
  | .i16, .i16 => true
  | .i32, .i32 => true
  | .i64, .i64 => true
  | .u8, .u8 => true
  | .u16, .u16 => true
  | .u32, .u32 => true
  | .u64, .u64 => true
  | _, _ => false

def guardK (b : Bool) (A : Prop) : Prop := match b with
  | true => A
  | false => False

def binK (op : BinOp) (x y : AV) (k : AV → Prop) : Prop :=
  match x, y with
  | .int a m, .int b n =>
    match op with
    | .shl => guardK (decide (0 ≤ n)) <| k (.int a (a.wrap (m * 2 ^ (min n.toNat a.bits))))
    | .shr => guardK (decide (0 ≤ n)) <| k (.int a (m.fdiv (2 ^ (min n.toNat a.bits))))
    | .add => guardK (ikBeq a b) <| k (.int a (a.wrap (m + n)))
    | .sub => guardK (ikBeq a b) <| k (.int a (a.wrap (m - n)))
    | .mul => guardK (ikBeq a b) <| k (.int a (a.wrap (m * n)))
    | .quo => guardK (ikBeq a b) <| n ≠ 0 ∧ k (.int a (a.wrap (m.tdiv n)))
    | .rem => guardK (ikBeq a b) <| n ≠ 0 ∧ k (.int a (m.tmod n))
    | .and => guardK (ikBeq a b) <| k (.int a (a.wrap (BitVec.ofInt a.bits m &&& BitVec.ofInt a.bits n).toNat))
    | .or => guardK (ikBeq a b) <| k (.int a (a.wrap (BitVec.ofInt a.bits m ||| BitVec.ofInt a.bits n).toNat))
    | .eql => guardK (ikBeq a b) <| k (.bool (m == n))
    | .neq => guardK (ikBeq a b) <| k (.bool (m != n))
    | .lss => guardK (ikBeq a b) <| k (.bool (decide (m < n)))
    | .leq => guardK (ikBeq a b) <| k (.bool (decide (m ≤ n)))
    | .gtr => guardK (ikBeq a b) <| k (.bool (decide (m > n)))
    | .geq => guardK (ikBeq a b) <| k (.bool (decide (m ≥ n)))
    | _ => False
  | _, _ => False

/-- Are rows of numbers and bools the same? -/
def eqCells : List AV → List AV → (Bool → Prop) → Prop
  | [], [], k => k true
  | .int a m :: xs, .int b n :: ys, k => guardK (ikBeq a b) <| eqCells xs ys fun r => k (m == n && r)
  | .bool m :: xs, .bool n :: ys, k => eqCells xs ys fun r => k (m == n && r)
  | _, _, _ => False

/-- Numbers where numbers are, bools where bools are. -/
def alike : List AV → List AV → Bool
  | [], [] => true
  | .int _ _ :: xs, .int _ _ :: ys => alike xs ys
  | .bool _ :: xs, .bool _ :: ys => alike xs ys
  | _, _ => false

def ETy.is : ETy → ETy → Bool
  | .u64, .u64 => true
  | .int, .int => true
  | .node, .node => true
  | .op, .op => true
  | .ans, .ans => true
  | .entry, .entry => true
  | .thread, .thread => true
  | .rows a, .rows b => a.is b
  | _, _ => false

def etyIs (i : TI) (t : ETy) : Bool := match i.ety with
  | some u => u.is t
  | none => false

def mkIs (i : TI) (k : IntKind) : Bool := match i.mkd with
  | some k' => ikBeq k' k
  | none => false

/-- A value of so many cells, an aggregate or not. -/
def valK (agg : Bool) (r : List AV) (k : AV → Prop) : Prop :=
  match agg, r with
  | true, r => k (.agg r)
  | false, [v] => k v
  | _, _ => False

/-- So many, one at least. -/
def lenIs : List AV → Nat → Bool
  | [_], 1 => true
  | _ :: xs, n + 1 => lenIs xs n
  | _, _ => false

def notJunk : AV → Bool
  | .junk => false
  | _ => true

/-- None of them an aggregate. -/
def plainCells : List AV → Bool
  | [] => true
  | v :: vs => (match v with
    | .agg _ => false
    | .tup _ => false
    | .junk => false
    | _ => true) && plainCells vs

def has : List Nat → Nat → Bool
  | [], _ => false
  | x :: xs, n => Nat.beq x n || has xs n

def dstIn (l : List Nat) : Option Tmp → Bool
  | none => false
  | some d => has l d

/-! Memory. -/
def loadK (C : Ctx) (dyn : Bool) (t : TypeId) (p : AV) (H : List AObj) (k : AV → Prop) : Prop :=
  match p with
  | .vptr cs j => cutK cs j (C.tb t).size fun r => valK (C.tb t).agg r k
  | .ptr loc i e j => hgetK H loc fun
    | .box cs => guardK (Nat.beq i 0) <| match dyn with
      | true => ∃ v, cs[j]? = some v ∧ cutK [v] 0 (C.tb t).size fun r => valK (C.tb t).agg r k
      | false => cutK cs j (C.tb t).size fun r => valK (C.tb t).agg r k
    | .arr u l _ => guardK (Nat.beq e (esz u)) <| ∃ x, l[i]? = some x ∧ cutK (enc u x) j (C.tb t).size fun r => valK (C.tb t).agg r k
    | .raw e' els _ => guardK (Nat.beq e e') <| ∃ cs, els[i]? = some cs ∧ cutK cs j (C.tb t).size fun r => valK (C.tb t).agg r k
    | _ => False
  | _ => False

def storeK (C : Ctx) (dyn : Bool) (t : TypeId) (p v : AV) (H : List AObj) (k : List AObj → Prop) : Prop :=
  cellsK v fun vs => guardK (lenIs vs (C.tb t).size) <| guardK (plainCells vs) <|
  match p with
  | .ptr loc i e j => hgetK H loc fun
    | .box cs => guardK (Nat.beq i 0) <| match dyn with
      | true => match vs with
        | [v] => j < cs.length ∧ hsetK H loc (.box (cs.set j v)) k
        | _ => False
      | false => patchK cs j vs fun cs' => hsetK H loc (.box cs') k
    | .arr u l false => guardK (Nat.beq e (esz u)) <| ∃ x, l[i]? = some x ∧ patchK (enc u x) j vs fun cs' => match dec u cs' with
      | some y => hsetK H loc (.arr u (l.set i y) false) k
      | none => False
    | _ => False
  | _ => False

def nthK {α : Type} : List α → Nat → (α → Prop) → Prop
  | [], _, _ => False
  | x :: _, 0, k => k x
  | _ :: xs, n + 1, k => nthK xs n k

def addrK (p : AV) (n : Nat) (k : AV → Prop) : Prop :=
  match p with
  | .ptr loc i e j => k (.ptr loc i e (j + n))
  | .vptr cs j => k (.vptr cs (j + n))
  | _ => False

def indexAddrK (C : Ctx) (t : TypeId) (x i : AV) (k : AV → Prop) : Prop :=
  match i with
  | .int _ n => match x with
    | .sl u l _ => guardK (etyIs (C.tb t) u) (∃ y, (0 ≤ n ∧ l[n.toNat]? = some y) ∧ k (.vptr (enc u y) 0))
    | .osl loc lo len e => guardK (C.tb t).sl <| guardK (!Nat.beq e 0) <| guardK (Nat.beq e (C.tb (C.tb t).elem).size) ((0 ≤ n ∧ n < (len : Int)) ∧ k (.ptr loc (lo + n.toNat) e 0))
    | .ptr loc a e j => guardK (!Nat.beq (C.tb t).len 0) <| guardK (!Nat.beq (C.tb (C.tb t).elem).size 0) ((0 ≤ n ∧ n < ((C.tb t).len : Int)) ∧ k (.ptr loc a e (j + n.toNat * (C.tb (C.tb t).elem).size)))
    | .vptr cs j => guardK (!Nat.beq (C.tb t).len 0) <| guardK (!Nat.beq (C.tb (C.tb t).elem).size 0) ((0 ≤ n ∧ n < ((C.tb t).len : Int)) ∧ k (.vptr cs (j + n.toNat * (C.tb (C.tb t).elem).size)))
    | _ => False
  | _ => False

/-- The bounds of a slice expression: from, to. -/
def loK (s : List AV) (x : Option Operand) (k : Int → Prop) : Prop :=
  match x with
  | none => k 0
  | some x => ev s x fun
    | .int _ n => k n
    | _ => False
def hiK (s : List AV) (x : Option Operand) (d : Int) (k : Int → Prop) : Prop :=
  match x with
  | none => k d
  | some x => ev s x fun
    | .int _ n => k n
    | _ => False

def sliceK (C : Ctx) (s : List AV) (t : TypeId) (x : AV) (lo hi mx : Option Operand) (k : AV → Prop) : Prop :=
  typedK C t x fun
  | .sl u l _ => guardK (etyIs (C.tb t) u) <|
    loK s lo fun a => hiK s hi (l.length : Int) fun b => (0 ≤ a ∧ a ≤ b ∧ b ≤ (l.length : Int)) ∧
      match mx with
      | none => k (.sl u ((l.take b.toNat).drop a.toNat) .none)
      | some m => match hi with
        | none => False
        | some _ => ev s m fun
          | .int _ c => c = b ∧ k (.sl u ((l.take b.toNat).drop a.toNat) .clip)
          | _ => False
  | .osl loc l0 len e => guardK (C.tb t).sl <| guardK (!Nat.beq e 0) <| guardK (Nat.beq e (C.tb (C.tb t).elem).size) <|
    loK s lo fun a => hiK s hi (len : Int) fun b => (0 ≤ a ∧ a ≤ b ∧ b ≤ (len : Int)) ∧
      match mx with
      | none => k (.osl loc (l0 + a.toNat) (b.toNat - a.toNat) e)
      | some _ => False
  | _ => False

/-- The rows of a literal: parts laid over so many zero elements. -/
def rowsK (zero : List AV) : Nat → (List (List AV) → Prop) → Prop
  | 0, k => k []
  | n + 1, k => rowsK zero n fun l => k (zero :: l)

def setRowK : List (List AV) → Nat → List AV → (List (List AV) → Prop) → Prop
  | [], _, _, _ => False
  | _ :: xs, 0, v, k => k (v :: xs)
  | x :: xs, n + 1, v, k => setRowK xs n v fun ys => k (x :: ys)

def partsK (C : Ctx) (s : List AV) (e : TypeId) : List (Nat × Operand) → List (List AV) → (List (List AV) → Prop) → Prop
  | [], els, k => k els
  | (i, x) :: ps, els, k => ev s x fun v => typedK C e v fun v => guardK (notJunk v) <| cellsK v fun vs => guardK (lenIs vs (C.tb e).size) (setRowK els i vs fun els' => partsK C s e ps els' k)

def decAll (t : ETy) : List (List AV) → Option (List t.C)
  | [] => some []
  | c :: cs => (dec t c).bind fun x => (decAll t cs).map fun xs => x :: xs

/-- A new row of elements: located, or a value that owns what lies behind it. -/
def newRowK (draw located : Bool) (t : ETy) (l : List t.C) (H : List AObj) (k : AV → List AObj → Prop) : Prop :=
  match draw, located with
  | true, true => False
  | true, false => k (.sl t l .none) H
  | false, true => pushK H (.arr t l false) fun loc H' => k (.osl loc 0 l.length (esz t)) H'
  | false, false => pushK H (.app 0) fun loc H' => k (.sl t l (.own loc 0)) H'

def fieldsK (C : Ctx) (s : List AV) (fs : List (Nat × Nat)) (tys : Nat → TypeId) : List (Nat × Operand) → List AV → (List AV → Prop) → Prop
  | [], cs, k => k cs
  | (i, x) :: ps, cs, k => nthK fs i fun (off, size) => ev s x fun v => typedK C (tys i) v fun v => guardK (notJunk v) <| cellsK v fun vs => guardK (lenIs vs size)
      (patchK cs off vs fun cs' => fieldsK C s fs tys ps cs' k)

def updMap : List (Int × AV) → Int → AV → List (Int × AV)
  | [], n, v => [(n, v)]
  | (m, u) :: es, n, v => if m = n then (n, v) :: es else (m, u) :: updMap es n v

/-! Deep conversions: what a value is without objects. -/
def fz (H : List AObj) : AV → AV
  | .osl loc lo len _ => match H[loc]? with
    | some (.arr t l _) => .sl t ((l.drop lo).take len) .none
    | _ => .junk
  | .sl t l _ => .sl t l .none
  | v => v

def fzs (H : List AObj) : AV → AV
  | .agg cs => .agg (cs.map (fz H))
  | .tup vs => .tup (vs.map fun v => match v with
    | .agg cs => .agg (cs.map (fz H))
    | v => fz H v)
  | v => fz H v

/-! Built-in functions. -/
def lenOf (C : Ctx) (t : TypeId) (x : AV) (k : Int → Prop) : Prop :=
  guardK (C.tb t).sl <| match x with
  | .sl _ l _ => k l.length
  | .osl _ _ len _ => k len
  | .nilsl => k 0
  | _ => False

/-- What is appended: a slice's elements. -/
def srcK (H : List AObj) (t : ETy) (x : AV) (k : List t.C → Prop) : Prop :=
  match x with
  | .osl loc lo len e => hgetK H loc fun
    | .arr u l _ => match slOf t (.sl u ((l.drop lo).take len) .none) with
      | some l' => guardK (Nat.beq e (esz u)) (lo + len ≤ l.length ∧ k l')
      | none => False
    | _ => False
  | x => match slOf t x with
    | some l => k l
    | none => False

def appendK (C : Ctx) (draw located own : Bool) (t t2 : TypeId) (s x : AV) (H : List AObj) (k : AV → List AObj → Prop) : Prop :=
  guardK (C.tb t2).sl <| typedK C t s fun
  | .sl u l tok => guardK (etyIs (C.tb t) u) <| srcK H u x fun l' => ((l.length + l'.length) * ebytes u ≤ 2 ^ 47) ∧
    match tok with
    | .none => False
    | .clip => match located with
      | true => match l with
        | [] => newRowK draw true u l' H k
        | _ => False
      | false => newRowK draw false u (l ++ l') H k
    | .own loc ver => guardK (!located) <| guardK (!draw || own) <| hgetK H loc fun
      | .app v => v = ver ∧ hsetK H loc (.app (ver + 1)) fun H' => k (.sl u (l ++ l') (.own loc (ver + 1))) H'
      | _ => False
  | _ => False

def copyK (C : Ctx) (t : TypeId) (d x : AV) (H : List AObj) (k : AV → List AObj → Prop) : Prop :=
  match d with
  | .osl loc lo len e => hgetK H loc fun
    | .arr u l false => guardK (etyIs (C.tb t) u) <| guardK (Nat.beq e (esz u)) <| lo + len ≤ l.length ∧ srcK H u x fun l' =>
      hsetK H loc (.arr u (l.take lo ++ l'.take len ++ l.drop (lo + min l'.length len)) false) fun H' => k (i64 (min l'.length len : Nat)) H'
    | _ => False
  | _ => False

def minmaxK (isMax : Bool) (k : AV → Prop) : List AV → Prop
  | [.int a x, .int b y] => guardK (ikBeq a b) <| k (.int a (match isMax with | true => if y > x then y else x | false => if y < x then y else x))
  | _ => False

def builtinK (C : Ctx) (draw located own : Bool) (b : Builtin) (argTypes : List TypeId) (args : List AV) (H : List AObj) (k : AV → List AObj → Prop) : Prop :=
  match b with
  | .len => match argTypes, args with
    | [t], [x] => lenOf C t x fun n => k (i64 n) H
    | _, _ => False
  | .append => match argTypes, args with
    | [t, t2], [s, x] => appendK C draw located own t t2 s x H k
    | _, _ => False
  | .copy => match argTypes, args with
    | [t, _], [d, x] => copyK C t d x H k
    | _, _ => False
  | .min => minmaxK false (fun v => k v H) args
  | .max => minmaxK true (fun v => k v H) args
  | .real => match args with
    | [.cpx a _] => k (.flt a) H
    | _ => False
  | .imag => match args with
    | [.cpx _ b] => k (.flt b) H
    | _ => False
  | .complex => match args with
    | [.flt a, .flt b] => k (.cpx a b) H
    | _ => False
  | _ => False

def pures : List AV → Bool
  | [] => true
  | v :: vs => (match v with
    | .int _ _ => true
    | .bool _ => true
    | .sl _ _ _ => true
    | .flt _ => true
    | .cpx _ _ => true
    | .agg cs => pures1 cs
    | _ => false) && pures vs
where
  pures1 : List AV → Bool
  | [] => true
  | v :: vs => (match v with
    | .int _ _ => true
    | .bool _ => true
    | .sl _ _ _ => true
    | _ => false) && pures1 vs

def untok : AV → AV
  | .sl t l _ => .sl t l .none
  | .agg cs => .agg (cs.map fun v => match v with
    | .sl t l _ => .sl t l .none
    | v => v)
  | v => v

def callK (C : Ctx) (draw own wild : Bool) (f : Nat) (args : List AV) (H : List AObj) (k : AV → List AObj → Prop) : Prop :=
  match draw with
  | false => RealCall C.P f args H k
  | true => match own with
    | false => guardK (pures args) (∃ r, PureCall C.P f (args.map untok) r ∧ k r H)
    | true => match wild with
      | false => RealCall C.P f args H fun r H' => (∃ X, H' = H ++ X) ∧ k r H'
      | true => RealCall C.P f args H k

def doCallK (C : Ctx) (draw located own wild : Bool) (s : List AV) (H : List AObj) (c : Call) (k : AV → List AObj → Prop) : Prop :=
  evs s c.args.toList fun args =>
  match c.callee with
  | .builtin b => builtinK C draw located own b c.argTypes.toList args H k
  | .value f => ev s f fun
    | .fn g first caps => typedsK C c.argTypes.toList args fun args => catK args caps fun args => catK first args fun args => callK C draw own wild g args H k
    | _ => False
  | .invoke _ _ => False

def zeroK (C : Ctx) (t : TypeId) (k : AV → Prop) : Prop := rowK (C.tb t).zero fun z => match (C.tb t).agg, z with
  | true, z => k (.agg z)
  | false, [v] => k v
  | _, _ => False

/-- A zero value whose slice may be appended to at once. -/
def ownZeroK (own : Bool) (v : AV) (H : List AObj) (k : AV → List AObj → Prop) : Prop :=
  match own, v with
  | true, .sl t [] .clip => pushK H (.app 0) fun loc H' => k (.sl t [] (.own loc 0)) H'
  | _, v => k v H

def convK (C : Ctx) (draw : Bool) (dst : TypeId) (x : AV) (k : AV → Prop) : Prop :=
  match (C.tb dst).ik, x with
  | some kd, .int _ n => k (.int kd (kd.wrap n))
  | some kd, .flt b => guardK (!draw) (∀ n, kd.min ≤ n → n ≤ kd.max → k (.int kd n)) ∨ ∃ n, (∀ w, (Conv.floatToInt .f64 b kd).run C.P w = .ok (.int kd n) w) ∧ k (.int kd n)
  | none, .int _ n => guardK (C.tb dst).flt (k (.flt (FloatKind.f64.nearest n)))
  | _, _ => False

def binOpK (C : Ctx) (draw : Bool) (op : BinOp) (t : TypeId) (a b : AV) (k : AV → Prop) : Prop :=
  match a, b with
  | .agg as, .agg bs => guardK (C.tb t).flat <| guardK (C.tb t).agg <| guardK (alike as (C.tb t).zero) <| match op with
    | .eql => eqCells as bs fun r => k (.bool r)
    | .neq => eqCells as bs fun r => k (.bool (!r))
    | _ => False
  | .bool m, .bool n => guardK (C.tb t).bl <| match op with
    | .eql => k (.bool (m == n))
    | .neq => k (.bool (!(m == n)))
    | _ => False
  | .cpx a b, .cpx c d => match op with
    | .add => guardK (!draw) (∀ e f, k (.cpx e f)) ∨ ∃ e f, (∀ w, (Op.complexOp .add .f64 a b c d).run C.P w = .ok (.complex .f64 e f) w) ∧ k (.cpx e f)
    | .mul => guardK (!draw) (∀ e f, k (.cpx e f)) ∨ ∃ e f, (∀ w, (Op.complexOp .mul .f64 a b c d).run C.P w = .ok (.complex .f64 e f) w) ∧ k (.cpx e f)
    | _ => False
  | .sl _ l _, .nilsl => guardK (!draw) <| guardK (C.tb t).sl <| match op with
    | .eql => (l = [] → k (.bool true)) ∧ k (.bool false)
    | _ => False
  | a, b => binK op a b k

def unOpK (op : UnOp) (v : AV) (k : AV → Prop) : Prop :=
  match v with
  | .bool b => match op with
    | .not => k (.bool (!b))
    | _ => False
  | _ => False

def pickK (s : List AV) (p : AV) (a b : Operand) (k : AV → Prop) : Prop :=
  match p with
  | .bool p => match p with
    | true => ev s a k
    | false => ev s b k
  | _ => False

def nilK (v : AV) (k : AV → Prop) : Prop :=
  match v with
  | .ptr a b c d => k (.ptr a b c d)
  | .vptr a b => k (.vptr a b)
  | .fn a b c => k (.fn a b c)
  | _ => False

def extractK (v : AV) (i : Nat) (k : AV → Prop) : Prop :=
  match v with
  | .tup vs => getK vs i fun v => headK v k
  | _ => False

def litK (draw located : Bool) (u : ETy) (o : Option (List u.C)) (H : List AObj) (k : AV → List AObj → Prop) : Prop :=
  match o with
  | some [] => k (.sl u [] .clip) H
  | some l => newRowK draw located u l H k
  | none => False

def makeK (C : Ctx) (draw located : Bool) (t : TypeId) (n c : AV) (H : List AObj) (k : AV → List AObj → Prop) : Prop :=
  match n, c with
  | .int _ n, .int _ c => (c = n ∧ 0 ≤ n) ∧ match (C.tb t).ety with
    | some u => n * ebytes u ≤ 2 ^ 47 ∧ match dec u (C.tb (C.tb t).elem).zero with
      | some z => newRowK draw located u (List.replicate n.toNat z) H k
      | none => False
    | none => False
  | _, _ => False

def lookupK (C : Ctx) (t : TypeId) (m x : AV) (ok : Bool) (H : List AObj) (k : AV → Prop) : Prop :=
  match m, x with
  | .map loc, .int kd n => hgetK H loc fun
    | .map kd' es => guardK (mkIs (C.tb t) kd) <| guardK (ikBeq kd kd') <| match es.lookup n with
      | some v => match ok with | true => k (.tup [v, .bool true]) | false => headK v fun v => k v
      | none => zeroK C (C.tb t).elem fun z => match ok with | true => k (.tup [z, .bool false]) | false => k z
    | _ => False
  | _, _ => False

def known (i : TI) : Bool := match i.ik with
  | some _ => true
  | none => i.flt

/-- An array's places. -/
def arrF (size : Nat) : Nat → Nat → List (Nat × Nat)
  | _, 0 => []
  | off, n + 1 => (off, size) :: arrF size (off + size) n

def buildK (C : Ctx) (s : List AV) (t : TypeId) (ps : List (Nat × Operand)) (k : AV → Prop) : Prop :=
  match Nat.beq (C.tb t).len 0 with
  | true => guardK (C.tb t).agg (rowK (C.tb t).zero fun z => guardK (!(C.tb t).fields.isEmpty) <| fieldsK C s (C.tb t).fields (fun i => (C.tb t).ftys.getD i 0) ps z fun cs => k (.agg cs))
  | false => guardK (C.tb t).agg (guardK (!Nat.beq (C.tb t).size 0) (guardK (!Nat.beq (C.tb (C.tb t).elem).size 0) (rowK (C.tb t).zero fun z => fieldsK C s (arrF (C.tb (C.tb t).elem).size 0 (C.tb t).len) (fun _ => (C.tb t).elem) ps z fun cs => k (.agg cs))))

def opK (C : Ctx) (draw : Bool) (op : Go.Op) (ty : TypeId) (dst : Option Tmp) (s : List AV) (H : List AObj) (k : AV → List AObj → Prop) : Prop :=
  match op with
  | .move x => ev s x fun v => k v H
  | .assign x => ev s x fun v => typedK C ty v fun v => ownZeroK (dstIn C.located dst) v H k
  | .pick c a b => ev s c fun p => pickK s p a b fun v => k v H
  | .alloc t => zeroK C t fun v => ownZeroK (dstIn C.located dst) v H fun v H => cellsK v fun cs => pushK H (.box cs) fun loc H' => k (.ptr loc 0 0 0) H'
  | .box t x => ev s x fun v => typedK C t v fun v => guardK (notJunk v) <| cellsK v fun cs => pushK H (.box cs) fun loc H' => k (.ptr loc 0 0 0) H'
  | .build t ps => buildK C s t ps.toList fun v => k v H
  | .buildSlice t n ps => guardK (Nat.ble (n * (C.tb (C.tb t).elem).size) 16777216) <| guardK (!Nat.beq (C.tb (C.tb t).elem).size 0) <| rowK (C.tb (C.tb t).elem).zero fun z => match (C.tb t).ety with
    | some u => rowsK z n fun els => partsK C s (C.tb t).elem ps.toList els fun els => litK draw (dstIn C.located dst) u (decAll u els) H k
    | none => guardK (!draw) <| guardK (C.tb t).sl <| rowsK z n fun els => partsK C s (C.tb t).elem ps.toList els fun els =>
        pushK H (.raw (C.tb (C.tb t).elem).size els false) fun loc H' => k (.osl loc 0 n (C.tb (C.tb t).elem).size) H'
  | .load t x => ev s x fun p => loadK C (dstIn C.dyn dst) t p H fun v => headK v fun v => k v H
  | .store t x y => ev s x fun p => ev s y fun v => typedK C t v fun v => storeK C (dstIn C.dyn (match x with | .tmp d => some d | _ => none)) t p v H fun H' => k .junk H'
  | .nilCheck x => ev s x fun v => nilK v fun v => k v H
  | .binOp op t x y _ => ev s x fun a => ev s y fun b => binOpK C draw op t a b fun v => k v H
  | .unOp op _ x => ev s x fun v => unOpK op v fun v => k v H
  | .convert src dst x => guardK (known (C.tb src)) <| ev s x fun v => convK C draw dst v fun v => k v H
  | .makeFunc fn as bs => match fn with
    | .func f => evs s as.toList fun as => evs s bs.toList fun bs => k (.fn f as bs) H
    | _ => False
  | .makeMap t r => match (C.tb t).mkd, r with
    | some kd, none => pushK H (.map kd []) fun loc H' => k (.map loc) H'
    | _, _ => False
  | .makeSlice t n c => ev s n fun n => ev s c fun c => makeK C draw (dstIn C.located dst) t n c H k
  | .slice t x lo hi mx => ev s x fun v => sliceK C s t v lo hi mx fun v => k v H
  | .fieldAddr t x i => ev s x fun p => nthK (C.tb t).fields i fun (off, _) => addrK p off fun p => k p H
  | .indexAddr t x i => ev s x fun p => ev s i fun i => typedK C t p fun p => indexAddrK C t p i fun p => k p H
  | .lookup t m x ok => ev s m fun m => ev s x fun x => lookupK C t m x ok H fun v => k v H
  | .insert t m x v => ev s m fun m => ev s x fun x => ev s v fun v => insK C t m x v H k
  | .extract x i => ev s x fun v => extractK v i fun v => k v H
  | .call c => doCallK C draw (dstIn C.located dst) (dstIn C.owns dst) (dstIn C.wild dst) s H c k
  | _ => False
where
  insK (C : Ctx) (t : TypeId) (m x v : AV) (H : List AObj) (k : AV → List AObj → Prop) : Prop :=
    match m, x with
    | .map loc, .int kd n => typedK C (C.tb t).elem v fun v => guardK (notJunk v) <| cellsK v fun vs => guardK (lenIs vs 1) <| hgetK H loc fun
      | .map kd' es => guardK (mkIs (C.tb t) kd) <| guardK (ikBeq kd kd') <| hsetK H loc (.map kd (updMap es n v)) fun H' => k .junk H'
      | _ => False
    | _, _ => False

def putK (s : List AV) (d : Option Tmp) (v : AV) (k : List AV → Prop) : Prop :=
  match d with
  | none => k s
  | some d => setK s d v k

def dstOf : List Oper → Nat → Option Tmp
  | [], _ => none
  | o :: _, 0 => o.dst
  | _ :: os, n + 1 => dstOf os n

/-- What a tmp holds whose operation wasn't wanted. -/
abbrev AV.undef : AV := .tup []

/-- One operation, if it is wanted. -/
def stepK (C : Ctx) (draw : Bool) (all : List Oper) (o : Oper) (s : List AV) (H : List AObj) (k : List AV → List AObj → Prop) : Prop :=
  match o.guard with
  | none => opK C draw o.op o.type o.dst s H fun v H => putK s o.dst v fun s => k s H
  | some (j, want) => match dstOf all j with
    | none => False
    | some d => getK s d fun
      | .bool p => match p with
        | true => setK s d (.bool true) fun s => match want with
          | true => opK C draw o.op o.type o.dst s H fun v H => putK s o.dst v fun s => k s H
          | false => putK s o.dst .undef fun s => k s H
        | false => setK s d (.bool false) fun s => match want with
          | false => opK C draw o.op o.type o.dst s H fun v H => putK s o.dst v fun s => k s H
          | true => putK s o.dst .undef fun s => k s H
      | .tup [] => putK s o.dst .undef fun s => k s H
      | _ => False

/-- One after the other. -/
def opsK (C : Ctx) (all : List Oper) : List Oper → List AV → List AObj → (List AV → List AObj → Prop) → Prop
  | [], s, H, k => k s H
  | o :: os, s, H, k => stepK C false all o s H fun s H => opsK C all os s H k

/-- In these orders. -/
def opsD (C : Ctx) (all : List Oper) : OT → List AV → List AObj → (List AV → List AObj → Prop) → Prop
  | .done, s, H, k => k s H
  | .one i t, s, H, k => nthK all i fun o => stepK C true all o s H fun s H => opsD C all t s H k
  | .alt a b, s, H, k => opsD C all a s H k ∧ opsD C all b s H k

def ordOf : List (Nat × List Nat) → Nat → List Nat
  | [], _ => []
  | (i, l) :: r, n => match Nat.beq i n with
    | true => l
    | false => ordOf r n

def treeOf : List (Nat × OT) → List (Nat × List Nat) → Nat → OT
  | [], l, n => .lin (ordOf l n)
  | (i, t) :: r, l, n => match Nat.beq i n with
    | true => t
    | false => treeOf r l n

/-! Which orders come to the same. -/
def readsHeap : Go.Op → Bool
  | .load _ _ => true
  | .lookup _ _ _ _ => true
  | .call { callee := .builtin .append, .. } => true
  | _ => false

/-- No object is made or changed. -/
def quietOp (located owns : List Nat) (dst : Option Tmp) : Go.Op → Bool
  | .alloc _ => false
  | .box _ _ => false
  | .store _ _ _ => false
  | .insert _ _ _ _ => false
  | .makeMap _ _ => false
  | .assign _ => !dstIn located dst
  | .call { callee := .builtin .copy, .. } => false
  | .call { callee := .builtin .append, .. } => !dstIn owns dst
  | .call { callee := .value _, .. } => !dstIn owns dst
  | _ => true

/-- Objects may be made, none is changed. -/
def pushOp (wild : List Nat) (dst : Option Tmp) : Go.Op → Bool
  | .alloc _ => true
  | .box _ _ => true
  | .makeMap _ _ => true
  | .assign _ => true
  | .call { callee := .value _, .. } => !dstIn wild dst
  | _ => false

def allFrom (p : Nat → Oper → Bool) : List Oper → Nat → Bool
  | [], _ => true
  | o :: os, i => p i o && allFrom p os (i + 1)

def onNone (i : Nat) : List Edge → Bool
  | [] => true
  | e :: es => !(Nat.beq e.on i && Region.binds .any e) && onNone i es

/-- Does it wait, through what isn't listed yet, for i? -/
def waits (ops : Array Oper) (listed : Array Bool) (i : Nat) : Nat → Oper → Bool
  | 0, q => !onNone i q.after.toList
  | f + 1, q => q.after.toList.any fun e => Region.binds .any e && (Nat.beq e.on i || (!listed.getD e.on true && match ops.toList[e.on]? with
    | some q' => waits ops listed i f q'
    | none => false))

/-- An order: quiet ones apart from what is left; the others alone; or all that may be first. -/
def drawOk (located owns wild : List Nat) (ops : Array Oper) : OT → Array Bool → Bool
  | .done, listed => match Region.ready .any ops listed with
    | [] => true
    | _ => false
  | .one i t, listed => (match ops.toList[i]? with
    | none => false
    | some o => (Region.ready .any ops listed).contains i &&
      (match Region.ready .any ops listed with
        | [_] => true
        | _ => quietOp located owns o.dst o.op && allFrom (fun j q => Nat.beq j i || listed.getD j true || waits ops listed i 8 q || (Oper.apart ops o q && (!readsHeap o.op || quietOp located owns q.dst q.op || pushOp wild q.dst q.op))) ops.toList 0)) &&
    drawOk located owns wild ops t (listed.setIfInBounds i true)
  | .alt a b, listed => !(Region.ready .any ops listed).isEmpty && (Region.ready .any ops listed).all (fun i => (a.heads ++ b.heads).contains i) && drawAlt located owns wild ops a listed && drawAlt located owns wild ops b listed
where
  drawAlt (located owns wild : List Nat) (ops : Array Oper) : OT → Array Bool → Bool
  | .done, _ => false
  | .one i t, listed => (ops.toList[i]?).isSome && drawOk located owns wild ops t (listed.setIfInBounds i true)
  | .alt a b, listed => drawAlt located owns wild ops a listed && drawAlt located owns wild ops b listed

def drawnOk (C : Ctx) (ops : Array Oper) (t : OT) : Bool := Nat.ble t.depth ops.size && drawOk C.located C.owns C.wild ops t (Array.replicate ops.size false)

/-- What is done behind a piece of code. -/
abbrev Kont := Out → List AV → List AObj → Prop

def awp (C : Ctx) : Code → (Out → St → Prop) → List AV → List AObj → Prop
  | .skip, Q, s, H => Q .normal ⟨s, H⟩
  | .label _, Q, s, H => Q .normal ⟨s, H⟩
  | .seq a b, Q, s, H => awp C a (fun o s' => match o, s' with
    | .normal, ⟨s, H⟩ => awp C b Q s H
    | .exit i, s' => Q (.exit i) s'
    | .goto l, s' => Q (.goto l) s'
    | .ret, s' => Q .ret s') s H
  | .cond c a b, Q, s, H => ev s c fun
    | .bool p => match p with
      | true => awp C a Q s H
      | false => awp C b Q s H
    | _ => False
  | .block id b, Q, s, H => awp C b (fun o s' => match o with
    | .normal => Q .normal s'
    | .exit i => match Nat.beq i id with
      | true => Q .normal s'
      | false => Q (.exit i) s'
    | .goto l => Q (.goto l) s'
    | .ret => Q .ret s') s H
  | .exit id, Q, s, H => Q (.exit id) ⟨s, H⟩
  | .goto l, Q, s, H => Q (.goto l) ⟨s, H⟩
  | .ret, Q, s, H => Q .ret ⟨s, H⟩
  | .region id ops draw, Q, s, H => match draw with
    | false => opsK C ops.toList ops.toList s H fun s H => Q .normal ⟨s, H⟩
    | true => drawnOk C ops (treeOf C.trees C.ords id) = true ∧ opsD C ops.toList (treeOf C.trees C.ords id) s H fun s H => Q .normal ⟨s, H⟩
  | .loop b, Q, s, H => RealCode C.P (.loop b) Q ⟨s, H⟩
  | .scope b, Q, s, H => RealCode C.P (.scope b) Q ⟨s, H⟩
  | .rangeFunc _ _ _ _, _, _, _ => False
  | .refuse _, _, _, _ => False

end Av
namespace Av
inductive TTree where
  | leaf
  | node (k : Nat) (v : TI) (l r : TTree)

def TTree.get : TTree → Nat → TI
  | .leaf, _ => {}
  | .node k v l r, n => match Nat.beq n k with
    | true => v
    | false => match Nat.blt n k with
      | true => l.get n
      | false => r.get n
end Av
