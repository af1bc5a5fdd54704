/- The abstract machine: data, values, objects, evaluation. The abstract machine: what its values and objects stand for in a world. Own work. -/
import Derived.CallsIn
import Derived.KernelRfl
section
set_option linter.unusedSimpArgs false
set_option linter.unusedVariables false
set_option linter.unnecessarySimpa false
namespace Av
open Go

structure Head where
  tag : Int
  len : Int
  map : Int
deriving DecidableEq, Inhabited

structure Node where
  h : Head
  f : List Int
deriving DecidableEq, Inhabited

structure OpD where
  kind : Int
  h : Int
  i : Int
  k : Int
  v : Int
  new : Head
deriving DecidableEq, Inhabited

structure Answer where
  e : Int
  v : Int
  yes : Bool
deriving DecidableEq, Inhabited

structure Entry where
  obj : Int
  field : Int
deriving DecidableEq, Inhabited

structure Thread where
  stack : List Int
  bufAt : Int
  bufEnd : Int
  log : List Entry
  left : List OpD
  pend : List Entry
  want : Bool
  done : List Answer
deriving DecidableEq, Inhabited

inductive ETy where
  | u64 | int | node | op | ans | entry | thread
  | rows (e : ETy)
deriving DecidableEq, Inhabited

def ETy.C : ETy → Type
  | .u64 => Int
  | .int => Int
  | .node => Node
  | .op => OpD
  | .ans => Answer
  | .entry => Entry
  | .thread => Thread
  | .rows e => List e.C

inductive Tok where
  | none
  | clip
  | own (loc ver : Nat)
deriving DecidableEq, Inhabited

inductive AV : Type where
  | junk
  | int (k : IntKind) (n : Int)
  | bool (b : Bool)
  | flt (bits : Nat)
  | cpx (re im : Nat)
  | nilp
  | ptr (loc i esz j : Nat)
  | vptr (cs : List AV) (j : Nat)
  | nilsl
  | sl (t : ETy) (l : List t.C) (tok : Tok)
  | osl (loc lo len esz : Nat)
  | map (loc : Nat)
  | fn (f : Nat) (first caps : List AV)
  | yield (loc : Nat)
  | nilfn
  | agg (cs : List AV)
  | tup (vs : List AV)

instance : Inhabited AV := ⟨.junk⟩

abbrev i64 (n : Int) : AV := .int .i64 n
abbrev u64 (n : Int) : AV := .int .u64 n

def encHead (h : Head) : List AV := [i64 h.tag, i64 h.len, u64 h.map]

def enc : (t : ETy) → t.C → List AV
  | .u64, n => [.int .u64 n]
  | .int, n => [.int .i64 n]
  | .node, (x : Node) => [i64 x.h.tag, i64 x.h.len, u64 x.h.map, .sl .u64 x.f .none]
  | .op, (x : OpD) => [i64 x.kind, i64 x.h, i64 x.i, i64 x.k, u64 x.v, i64 x.new.tag, i64 x.new.len, u64 x.new.map]
  | .ans, (x : Answer) => [i64 x.e, u64 x.v, .bool x.yes]
  | .entry, (x : Entry) => [u64 x.obj, i64 x.field]
  | .thread, (x : Thread) => [.sl .u64 x.stack .none, i64 x.bufAt, i64 x.bufEnd, .sl .entry x.log .none, .sl .op x.left .none, .sl .entry x.pend .none, .bool x.want, .sl .ans x.done .none]
  | .rows e, l => [.sl e l .none]

def esz : ETy → Nat
  | .node => 4
  | .op => 8
  | .ans => 3
  | .entry => 2
  | .thread => 8
  | _ => 1

/-- How many bytes an element takes. -/
def ebytes : ETy → Nat
  | .u64 => 8
  | .int => 8
  | .node => 48
  | .op => 64
  | .ans => 24
  | .entry => 16
  | .thread => 144
  | .rows _ => 24

def slOf (t : ETy) : AV → Option (List t.C)
  | .sl t' l _ => if h : t' = t then some (h ▸ l) else Option.none
  | .nilsl => some []
  | _ => Option.none

def iOf : AV → Option Int
  | .int .i64 n => some n
  | _ => Option.none

def uOf : AV → Option Int
  | .int .u64 n => some n
  | _ => Option.none

def bOf : AV → Option Bool
  | .bool b => some b
  | _ => Option.none

def decNode (cs : List AV) : Option Node := match cs with
  | [a0, a1, a2, a3] => (iOf a0).bind fun a0 => (iOf a1).bind fun a1 => (uOf a2).bind fun a2 => (slOf .u64 a3).bind fun a3 => some ⟨⟨a0, a1, a2⟩, a3⟩
  | _ => Option.none

def decOpD (cs : List AV) : Option OpD := match cs with
  | [a0, a1, a2, a3, a4, a5, a6, a7] => (iOf a0).bind fun a0 => (iOf a1).bind fun a1 => (iOf a2).bind fun a2 => (iOf a3).bind fun a3 => (uOf a4).bind fun a4 => (iOf a5).bind fun a5 => (iOf a6).bind fun a6 => (uOf a7).bind fun a7 => some ⟨a0, a1, a2, a3, a4, ⟨a5, a6, a7⟩⟩
  | _ => Option.none

def decAnswer (cs : List AV) : Option Answer := match cs with
  | [a0, a1, a2] => (iOf a0).bind fun a0 => (uOf a1).bind fun a1 => (bOf a2).bind fun a2 => some ⟨a0, a1, a2⟩
  | _ => Option.none

def decEntry (cs : List AV) : Option Entry := match cs with
  | [a0, a1] => (uOf a0).bind fun a0 => (iOf a1).bind fun a1 => some ⟨a0, a1⟩
  | _ => Option.none

def decThread (cs : List AV) : Option Thread := match cs with
  | [a0, a1, a2, a3, a4, a5, a6, a7] => (slOf .u64 a0).bind fun a0 => (iOf a1).bind fun a1 => (iOf a2).bind fun a2 => (slOf .entry a3).bind fun a3 => (slOf .op a4).bind fun a4 => (slOf .entry a5).bind fun a5 => (bOf a6).bind fun a6 => (slOf .ans a7).bind fun a7 => some ⟨a0, a1, a2, a3, a4, a5, a6, a7⟩
  | _ => Option.none

def dec (t : ETy) (cs : List AV) : Option t.C :=
  match t with
  | .u64 => match cs with
    | [a] => uOf a
    | _ => Option.none
  | .int => match cs with
    | [a] => iOf a
    | _ => Option.none
  | .node => decNode cs
  | .op => decOpD cs
  | .ans => decAnswer cs
  | .entry => decEntry cs
  | .thread => decThread cs
  | .rows e => match cs with
    | [a] => slOf e a
    | _ => Option.none

inductive AObj : Type where
  | dead
  | box (cs : List AV)
  | arr (t : ETy) (l : List t.C) (frozen : Bool)
  | raw (e : Nat) (els : List (List AV)) (frozen : Bool)
  | map (k : IntKind) (es : List (Int × AV))
  | app (ver : Nat)
  | dfr
  | lrec (fn : Nat) (tmps : List AV) (params : List Nat) (assign body : Code) (live : Bool) (pending : Option Code)

instance : Inhabited AObj := ⟨.dead⟩
end Av
end
section
set_option linter.unusedSimpArgs false
set_option linter.unusedVariables false
set_option linter.unnecessarySimpa false
namespace Av
open Go

/-- What is known of a world beside the abstract state: which cells don't change any more; each object's block; each row's version, and where its block may be gone on with. -/
structure Gh where
  prot : Nat → Nat → Prop
  mu : Nat → Nat
  ver : Nat → Nat
  tk : Nat → Option (Nat × (Nat × Nat))

def cellAt (w : World) (b o : Nat) : Option Value := w.cell? ⟨b, o, none⟩

/-- A row's token: what it allows. -/
def TokOk (G : Gh) (n : Nat) (tok : Tok) (len cap : Nat) (b : Nat) (e : Nat × Nat) : Prop :=
  match tok with
  | .none => True
  | .clip => cap = len
  | .own loc v => loc < n ∧ v ≤ G.ver loc ∧ (v = G.ver loc → cap = len ∨ G.tk loc = some (b, e))

def TokNil (G : Gh) (n : Nat) (tok : Tok) : Prop :=
  match tok with
  | .own loc v => loc < n ∧ v ≤ G.ver loc
  | _ => True

/-- Where an empty slice lies. -/
def OkA (a : Option Addr) (cap : Nat) : Prop := cap = 0 ∨ ∃ b o, a = some ⟨b, o, none⟩

inductive Rep (G : Gh) (n : Nat) (w : World) : Value → AV → Prop
  | junk (v) : Rep G n w v .junk
  | int (k m) : Rep G n w (.int k m) (.int k m)
  | bool (b) : Rep G n w (.bool b) (.bool b)
  | flt (b) : Rep G n w (.float .f64 b) (.flt b)
  | cpx (a b) : Rep G n w (.complex .f64 a b) (.cpx a b)
  | nilp : Rep G n w (.pointer none) .nilp
  | ptr (loc i e j) : loc < n → Rep G n w (.pointer (some ⟨G.mu loc, i * e + j, none⟩)) (.ptr loc i e j)
  | vptr (b o cs j) (vs : Nat → Value) : (∀ k, k < cs.length → G.prot b (o + k) ∧ cellAt w b (o + k) = some (vs k)) → (∀ k, k < cs.length → Rep G n w (vs k) (cs.getD k .junk)) →
      Rep G n w (.pointer (some ⟨b, o + j, none⟩)) (.vptr cs j)
  | nilsl : Rep G n w (.slice none 0 0) .nilsl
  | slnil (t tok) (a : Option Addr) : TokNil G n tok → Rep G n w (.slice a 0 0) (.sl t [] tok)
  | sl (t) (l : List t.C) (tok b o cap) (vs : Nat → Nat → Value) : l.length ≤ cap →
      (∀ i j, i < l.length → j < esz t → G.prot b (o + i * esz t + j) ∧ cellAt w b (o + i * esz t + j) = some (vs i j)) →
      (∀ i j (h : i < l.length), j < esz t → Rep G n w (vs i j) ((enc t l[i]).getD j .junk)) →
      TokOk G n tok l.length cap b (o + l.length * esz t, o + cap * esz t) →
      Rep G n w (.slice (some ⟨b, o, none⟩) l.length cap) (.sl t l tok)
  | osl (loc lo len e cap) : loc < n → len ≤ cap → len ≠ 0 → Rep G n w (.slice (some ⟨G.mu loc, lo * e, none⟩) len cap) (.osl loc lo len e)
  | osl0 (loc lo e a cap) : loc < n → OkA a cap → Rep G n w (.slice a 0 cap) (.osl loc lo 0 e)
  | map (loc) : loc < n → Rep G n w (.map (some (G.mu loc))) (.map loc)
  | fn (f) (xs ys : Array Value) (as bs : List AV) : xs.size = as.length → ys.size = bs.length → (∀ k, k < as.length → Rep G n w (xs.getD k undef) (as.getD k .junk)) →
      (∀ k, k < bs.length → Rep G n w (ys.getD k undef) (bs.getD k .junk)) → Rep G n w (.func (.func f) xs ys) (.fn f as bs)
  | yield (loc) : loc < n → Rep G n w (.func (.yield (G.mu loc)) #[] #[]) (.yield loc)
  | nilfn : Rep G n w .nilFunc .nilfn
  | agg (xs : Array Value) (as : List AV) : xs.size = as.length → (∀ k, k < as.length → Rep G n w (xs.getD k undef) (as.getD k .junk)) → Rep G n w (.agg xs) (.agg as)
  | tup (xs : Array Value) (as : List AV) : xs.size = as.length → (∀ k, k < as.length → Rep G n w (xs.getD k undef) (as.getD k .junk)) → Rep G n w (.tuple xs) (.tup as)

/-- Rows of values. -/
def Reps (G : Gh) (n : Nat) (w : World) (xs : Array Value) (as : List AV) : Prop :=
  xs.size = as.length ∧ ∀ k, k < as.length → Rep G n w (xs.getD k undef) (as.getD k .junk)

/-- What was known stays known. -/
structure Le (G : Gh) (n : Nat) (w : World) (G' : Gh) (n' : Nat) (w' : World) : Prop where
  nn : n ≤ n'
  mu : ∀ loc, loc < n → G'.mu loc = G.mu loc
  ver : ∀ loc, loc < n → G.ver loc ≤ G'.ver loc
  tk : ∀ loc, loc < n → G'.ver loc = G.ver loc → G'.tk loc = G.tk loc
  prot : ∀ b o, G.prot b o → G'.prot b o ∧ cellAt w' b o = cellAt w b o

theorem Le.refl (G n w) : Le G n w G n w := ⟨Nat.le_refl _, fun _ _ => rfl, fun _ _ => Nat.le_refl _, fun _ _ _ => rfl, fun _ _ h => ⟨h, rfl⟩⟩

theorem Le.trans {G n w G1 n1 w1 G2 n2 w2} (h : Le G n w G1 n1 w1) (h' : Le G1 n1 w1 G2 n2 w2) : Le G n w G2 n2 w2 where
  nn := Nat.le_trans h.nn h'.nn
  mu loc hl := (h'.mu loc (Nat.lt_of_lt_of_le hl h.nn)).trans (h.mu loc hl)
  ver loc hl := Nat.le_trans (h.ver loc hl) (h'.ver loc (Nat.lt_of_lt_of_le hl h.nn))
  tk loc hl e := by
    have h1 := h.ver loc hl
    have h2 := h'.ver loc (Nat.lt_of_lt_of_le hl h.nn)
    have e1 : G1.ver loc = G.ver loc := by omega
    have e2 : G2.ver loc = G1.ver loc := by omega
    exact (h'.tk loc (Nat.lt_of_lt_of_le hl h.nn) e2).trans (h.tk loc hl e1)
  prot b o hp := by
    obtain ⟨p1, c1⟩ := h.prot b o hp
    obtain ⟨p2, c2⟩ := h'.prot b o p1
    exact ⟨p2, c2.trans c1⟩

theorem TokOk.mono {G n w G' n' w'} (h : Le G n w G' n' w') {tok len cap b e} (ht : TokOk G n tok len cap b e) : TokOk G' n' tok len cap b e := by
  cases tok with
  | none => trivial
  | clip => exact ht
  | own loc v =>
    obtain ⟨h1, h2, h3⟩ := ht
    refine ⟨Nat.lt_of_lt_of_le h1 h.nn, Nat.le_trans h2 (h.ver loc h1), fun hv => ?_⟩
    have := h.ver loc h1
    have e1 : G'.ver loc = G.ver loc := by omega
    rcases h3 (by omega) with h3 | h3
    · exact .inl h3
    · exact .inr ((h.tk loc h1 e1).trans h3)

theorem TokNil.mono {G n w G' n' w'} (h : Le G n w G' n' w') {tok} (ht : TokNil G n tok) : TokNil G' n' tok := by
  cases tok with
  | none => trivial
  | clip => trivial
  | own loc v => exact ⟨Nat.lt_of_lt_of_le ht.1 h.nn, Nat.le_trans ht.2 (h.ver loc ht.1)⟩

theorem Rep.mono {G n w G' n' w'} (h : Le G n w G' n' w') {v a} (hr : Rep G n w v a) : Rep G' n' w' v a := by
  induction hr with
  | junk v => exact .junk v
  | int k m => exact .int k m
  | bool b => exact .bool b
  | flt b => exact .flt b
  | cpx a b => exact .cpx a b
  | nilp => exact .nilp
  | ptr loc i e j hl => rw [← h.mu loc hl]; exact .ptr loc i e j (Nat.lt_of_lt_of_le hl h.nn)
  | vptr b o cs j vs hc _ ih =>
    refine .vptr b o cs j vs (fun k hk => ?_) ih
    obtain ⟨p, c⟩ := h.prot _ _ (hc k hk).1
    exact ⟨p, c.trans (hc k hk).2⟩
  | nilsl => exact .nilsl
  | slnil t tok a ht => exact .slnil t tok a (ht.mono h)
  | sl t l tok b o cap vs h1 hc _ ht ih =>
    refine .sl t l tok b o cap vs h1 (fun i j hi hj => ?_) (fun i j hi hj => ih i j hi hj) (ht.mono h)
    obtain ⟨p, c⟩ := h.prot _ _ (hc i j hi hj).1
    exact ⟨p, c.trans (hc i j hi hj).2⟩
  | osl loc lo len e cap hl h1 h2 => rw [← h.mu loc hl]; exact .osl loc lo len e cap (Nat.lt_of_lt_of_le hl h.nn) h1 h2
  | osl0 loc lo e a cap hl ha => exact .osl0 loc lo e a cap (Nat.lt_of_lt_of_le hl h.nn) ha
  | map loc hl => rw [← h.mu loc hl]; exact .map loc (Nat.lt_of_lt_of_le hl h.nn)
  | fn f xs ys as bs h1 h2 _ _ i1 i2 => exact .fn f xs ys as bs h1 h2 i1 i2
  | yield loc hl => rw [← h.mu loc hl]; exact .yield loc (Nat.lt_of_lt_of_le hl h.nn)
  | nilfn => exact .nilfn
  | agg xs as h1 _ ih => exact .agg xs as h1 ih
  | tup xs as h1 _ ih => exact .tup xs as h1 ih

theorem Reps.mono {G n w G' n' w'} (h : Le G n w G' n' w') {xs as} (hr : Reps G n w xs as) : Reps G' n' w' xs as :=
  ⟨hr.1, fun k hk => (hr.2 k hk).mono h⟩

/-- Objects that have a block of their own. -/
def AObj.real : AObj → Bool
  | .dead => false
  | .app _ => false
  | .arr _ l _ => !l.isEmpty
  | .raw _ els _ => !els.isEmpty
  | _ => true

/-- Objects whose block may be written. -/
def AObj.mut : AObj → Bool
  | .arr _ _ true => false
  | .raw _ _ true => false
  | o => o.real

/-- The cells of a block. -/
def block (w : World) (b : Nat) (c : Array Value) : Prop := ∃ el, w.heap[b]? = some (.cells c el (0, 0))

def ObjRep (G : Gh) (n : Nat) (w : World) (loc : Nat) : AObj → Prop
  | .dead => True
  | .box cs => ∃ c, block w (G.mu loc) c ∧ Reps G n w c cs
  | .arr t l _ => l ≠ [] → ∃ c, block w (G.mu loc) c ∧ l.length * esz t ≤ c.size ∧ ∀ i j (h : i < l.length), j < esz t → Rep G n w (c.getD (i * esz t + j) undef) ((enc t l[i]).getD j .junk)
  | .raw e els _ => els ≠ [] → ∃ c, block w (G.mu loc) c ∧ els.length * e ≤ c.size ∧ ∀ i, i < els.length → (els.getD i []).length = e ∧ ∀ j, j < e → Rep G n w (c.getD (i * e + j) undef) ((els.getD i []).getD j .junk)
  | .map k es => ∃ en clock, w.heap[G.mu loc]? = some (.map en clock) ∧ en.size = es.length ∧ ∀ i, i < es.length → (en.getD i default).key = .int k (es.getD i (0, .junk)).1 ∧ Rep G n w (en.getD i default).val (es.getD i (0, .junk)).2
  | .app v => G.ver loc = v
  | .dfr => w.heap[G.mu loc]? = some (.deferred (some []))
  | .lrec fn tmps ps assign body live pend => ∃ l : Loop, w.heap[G.mu loc]? = some (.loop l) ∧ l.fn = fn ∧ Reps G n w l.tmps tmps ∧ l.params.toList = ps ∧ l.assign = assign ∧ l.body = body ∧ l.pending = pend ∧
      l.state = (if live then .ready else .done)

/-- Which blocks may be written by who has these objects. -/
def Owned (G : Gh) (H : List AObj) (b : Nat) : Prop :=
  (∃ loc o, H[loc]? = some o ∧ o.mut = true ∧ G.mu loc = b) ∨ (∃ loc v e, H[loc]? = some (.app v) ∧ G.tk loc = some (b, e))

structure Sim (G : Gh) (H : List AObj) (w : World) : Prop where
  obj : ∀ loc o, H[loc]? = some o → ObjRep G H.length w loc o
  lt : ∀ loc o, H[loc]? = some o → o.real = true → G.mu loc < w.heap.size
  free : ∀ loc o, H[loc]? = some o → o.mut = true → ∀ p, ¬ G.prot (G.mu loc) p
  inj : ∀ l1 l2 o1 o2, H[l1]? = some o1 → H[l2]? = some o2 → o1.real = true → o2.real = true → G.mu l1 = G.mu l2 → l1 = l2
  tail : ∀ loc v b e, H[loc]? = some (.app v) → G.tk loc = some (b, e) → (∃ c, block w b c ∧ e.2 ≤ c.size) ∧ (∀ p, e.1 ≤ p → ¬ G.prot b p)
  tobj : ∀ loc v b e l2 o2, H[loc]? = some (.app v) → G.tk loc = some (b, e) → H[l2]? = some o2 → o2.real = true → G.mu l2 ≠ b
  tinj : ∀ l1 l2 v1 v2 b e1 e2, H[l1]? = some (.app v1) → H[l2]? = some (.app v2) → G.tk l1 = some (b, e1) → G.tk l2 = some (b, e2) → l1 = l2
  pv : ∀ b o, G.prot b o → b < w.heap.size

/-- What was done: blocks grew; what isn't owned lies as it lay. -/
structure Ext (G : Gh) (H : List AObj) (w : World) (G' : Gh) (H' : List AObj) (w' : World) : Prop where
  size : w.heap.size ≤ w'.heap.size
  le : Le G H.length w G' H'.length w'
  frame : ∀ b, b < w.heap.size → ¬ Owned G H b → w'.heap[b]? = w.heap[b]?
  prot : ∀ b o, G'.prot b o → ¬ G.prot b o → w.heap.size ≤ b ∨ Owned G H b
  own : ∀ b, Owned G' H' b → w.heap.size ≤ b ∨ Owned G H b
  os : w'.os = w.os
  tape : w'.tape = w.tape
  output : w'.output = w.output

end Av
namespace Av
open Go

/-- A function with a body. -/
def HasFn (P : Program) (f : Nat) : Prop := ∃ fn c, P.funcs[f]? = some fn ∧ fn.body = some c ∧ (fn.name == "runtime.NumGoroutine") = false

/-- A call comes to a value and to objects of which K holds. -/
structure RealCall (P : Program) (f : Nat) (args : List AV) (H : List AObj) (K : AV → List AObj → Prop) : Prop where
  fn : HasFn P f
  run : ∀ G w vs, Sim G H w → Reps G H.length w vs args → CallsIn Fence.wide 0 P f vs w fun e w' =>
    ∃ v r H' G', e = .returned v ∧ K r H' ∧ Sim G' H' w' ∧ Rep G' H'.length w' v r ∧ Ext G H w G' H' w'

/-- A call that asks for no object, and makes none that is told. -/
structure PureCall (P : Program) (f : Nat) (args : List AV) (r : AV) : Prop where
  fn : HasFn P f
  run : ∀ G w vs, (∀ b o, G.prot b o → b < w.heap.size) → Reps G 0 w vs args → CallsIn Fence.wide 0 P f vs w fun e w' =>
    ∃ v G', e = .returned v ∧ (∀ b o, G'.prot b o → b < w'.heap.size) ∧ Rep G' 0 w' v r ∧ Ext G [] w G' [] w'

structure St where
  tmps : List AV
  heap : List AObj

inductive Out where
  | normal
  | exit (id : Nat)
  | goto (l : Nat)
  | ret
deriving DecidableEq

def Out.exit' : Out → Exit
  | .normal => .normal
  | .exit i => .exit i
  | .goto l => .goto l
  | .ret => .ret

structure SimS (G : Gh) (s : St) (a : Act) (w : World) : Prop where
  sim : Sim G s.heap w
  tmps : Reps G s.heap.length w a.tmps s.tmps
  defers : a.defers = []

/-- A piece of code comes to an end and a state of which Q holds. -/
structure RealCode (P : Program) (c : Code) (Q : Out → St → Prop) (s : St) : Prop where
  run : ∀ G a w, SimS G s a w → c.wpIn Fence.wide 0 P (fun e a' w' =>
    ∃ o s' G', e = o.exit' ∧ Q o s' ∧ SimS G' s' a' w' ∧ Ext G s.heap w G' s'.heap w') a w

end Av
end
