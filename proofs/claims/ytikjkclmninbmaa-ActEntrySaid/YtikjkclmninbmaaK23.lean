/- What the functions come to: plain definitions. The walk: size. Own work. -/
import Derived.Test.YtikjkclmninbmaaK21
import Derived.Test.YtikjkclmninbmaaK20
section
set_option linter.unusedSimpArgs false
set_option linter.unusedVariables false
namespace Av
open Go
noncomputable abbrev PP : Program := Go.Proofs.Try.prog
abbrev wi (n : Int) : Int := IntKind.i64.wrap n
abbrev wu (n : Int) : Int := IntKind.u64.wrap n
abbrev su (l : List Int) : AV := .sl .u64 l .none

/-- Memory. -/
structure Mm where
  w : Int
  a : List Int
  b : List Int

abbrev Mm.cs (m : Mm) : List AV := [i64 m.w, su m.a, su m.b]
abbrev Mm.av (m : Mm) : AV := .agg m.cs

structure Mm.Ok (m : Mm) : Prop where
  lo : 0 ≤ m.w
  hi : m.w ≤ 4096
  a : (m.a.length : Int) = m.w
  b : (m.b.length : Int) = m.w

def Mm.sp (m : Mm) (s : Int) : List Int := if s = 0 then m.a else m.b
def Mm.with (m : Mm) (s : Int) (l : List Int) : Mm := if s = 0 then { m with a := l } else { m with b := l }

def addF (a b : Int) : Int × Bool := if a < 0 then (0, false) else if b < 0 then (0, false) else if wi (a + b) < 0 then (0, false) else (wi (a + b), true)
def fitsF (at' n words : Int) : Bool := (addF at' n).2 && decide ((addF at' n).1 ≤ words)
def whS (a : Int) : Int := wi (wi (a.fdiv (2 ^ 32)) - 1)
def whA (a : Int) : Int := wi (wu (BitVec.ofInt 64 a &&& BitVec.ofInt 64 4294967295).toNat)
def whF (a : Int) : Int × Int × Bool := if whS a < 0 then (0, 0, false) else if whS a > 1 then (0, 0, false) else (whS a, whA a, true)

theorem whA_lo (a : Int) : 0 ≤ whA a := by
  unfold whA
  generalize hb : (BitVec.ofInt 64 a &&& BitVec.ofInt 64 4294967295) = b
  have h1 : b.toNat ≤ 4294967295 := by
    rw [← hb, BitVec.toNat_and]
    exact Nat.and_le_right
  have h2 : wu (b.toNat : Int) = b.toNat := by simp only [wu, IntKind.wrap, IntKind.bits]; simp; omega
  rw [h2]
  simp only [wi, IntKind.wrap, IntKind.bits]
  simp
  omega

abbrev hav (h : Head) : AV := .agg [i64 h.tag, i64 h.len, u64 h.map]
def shr (m n : Int) : Int := m.fdiv (2 ^ (min n.toNat 64))
def rightF (h : Head) : Int :=
  if h.tag = 255 then (if h.len < 0 then 1 else if h.len > 65535 then 3 else if shr h.map 0 ≠ 0 then 8 else 0)
  else if h.tag < 1 then 1 else if h.tag > 200 then 1 else if h.len < 0 then 1 else if h.len > 16 then 3 else if shr h.map h.len ≠ 0 then 8 else 0
def objWF (n : Int) : Int := if n < 0 then 0 else if n > 16 then 0 else wi (n + 2)
def objEF (n : Int) : Int := if n < 0 then 1 else if n > 16 then 3 else 0
def wordsF (h : Head) : Int := if h.tag = 255 then wi (h.len + 1) else objWF h.len
def andu (a b : Int) : Int := wu (BitVec.ofInt 64 a &&& BitVec.ofInt 64 b).toNat
def oru (a b : Int) : Int := wu (BitVec.ofInt 64 a ||| BitVec.ofInt 64 b).toNat
def takeH (w : Int) : Head := ⟨wi (shr w 56), wi (andu (shr w 32) 16777215), andu w 4294967295⟩
def takeF (w : Int) : Head × Int := if rightF (takeH w) ≠ 0 then (⟨0, 0, 0⟩, 10) else (takeH w, 0)
def wordW (h : Head) : Int := oru (oru (wu (wu h.tag * 2 ^ 56)) (wu (wu h.len * 2 ^ 32))) h.map
def wordF (h : Head) : Int × Int := if rightF h ≠ 0 then (0, rightF h) else (wordW h, 0)
def ptrF (h : Head) (i : Int) : Bool := decide (i ≥ 0) && decide (i < h.len) && decide (i < 64) && (andu (shr h.map i) 1 == 1)

def FitsP (a n w : Int) : Prop := 0 ≤ a ∧ 0 ≤ n ∧ 0 ≤ wi (a + n) ∧ wi (a + n) ≤ w
instance (a n w : Int) : Decidable (FitsP a n w) := inferInstanceAs (Decidable (0 ≤ a ∧ 0 ≤ n ∧ 0 ≤ wi (a + n) ∧ wi (a + n) ≤ w))
def ThP (m : Mm) (a n : Int) : Prop := (0 ≤ whS a ∧ whS a ≤ 1) ∧ whA a < m.w ∧ FitsP (whA a) n m.w
instance (m : Mm) (a n : Int) : Decidable (ThP m a n) := inferInstanceAs (Decidable ((0 ≤ whS a ∧ whS a ≤ 1) ∧ whA a < m.w ∧ FitsP (whA a) n m.w))
def loadV (m : Mm) (a : Int) : Int := (m.sp (whS a)).getD (whA a).toNat 0
def storeM (m : Mm) (a v : Int) : Mm := m.with (whS a) ((m.sp (whS a)).set (whA a).toNat v)
def loadF (m : Mm) (a : Int) : AV := if ThP m a 1 then .tup [u64 (loadV m a), i64 0] else .tup [u64 0, i64 2]
def storeF (m : Mm) (a v : Int) : AV := if ThP m a 1 then .tup [(storeM m a v).av, i64 0] else .tup [m.av, i64 2]
theorem Mm.Ok.sp {m : Mm} (h : m.Ok) (s : Int) : ((m.sp s).length : Int) = m.w := by
  unfold Mm.sp
  split
  · exact h.a
  · exact h.b
theorem Mm.Ok.store {m : Mm} (h : m.Ok) (a v : Int) : (storeM m a v).Ok ∧ (storeM m a v).w = m.w := by
  unfold storeM Mm.with Mm.sp
  split
  · exact ⟨⟨h.lo, h.hi, by simpa using h.a, h.b⟩, rfl⟩
  · exact ⟨⟨h.lo, h.hi, h.a, by simpa using h.b⟩, rfl⟩

def sum1 (a i : Int) : Int := wu (a + wu i)
def sum2 (a i j : Int) : Int := wu (wu (a + wu i) + wu j)
def h0 : Head := ⟨0, 0, 0⟩
/-- The head of the object at an address. -/
def atF (m : Mm) (a : Int) : Head × Int :=
  if ThP m a 1 then
    if (takeF (loadV m a)).2 ≠ 0 then (h0, (takeF (loadV m a)).2)
    else if ThP m a (wordsF (takeF (loadV m a)).1) then ((takeF (loadV m a)).1, 0) else (h0, 2)
  else (h0, 2)
def realF (m : Mm) (a : Int) : Head × Int := if (atF m a).2 = 0 ∧ (atF m a).1.tag = 255 then (h0, 8) else atF m a
def fieldF (m : Mm) (a i : Int) : Int × Bool × Int :=
  if (realF m a).2 ≠ 0 then (0, false, (realF m a).2)
  else if i < 0 then (0, false, 7)
  else if i ≥ (realF m a).1.len then (0, false, 7)
  else (sum2 a 2 i, ptrF (realF m a).1 i, 0)
def getF (m : Mm) (a i : Int) : Int × Bool × Int :=
  if (fieldF m a i).2.2 ≠ 0 then (0, false, (fieldF m a i).2.2)
  else ((if ThP m (fieldF m a i).1 1 then loadV m (fieldF m a i).1 else 0), (fieldF m a i).2.1, 0)
/-- Memory and an error behind a store. -/
def stF (m : Mm) (a v : Int) : Mm × Int := if ThP m a 1 then (storeM m a v, 0) else (m, 2)
def setF (m : Mm) (a i v : Int) : Mm × Int :=
  if (fieldF m a i).2.2 ≠ 0 then (m, (fieldF m a i).2.2) else stF m (fieldF m a i).1 v

def addrF (m n : Int) : Int := if m < 0 then 0 else if m > 1 then 0 else if n < 0 then 0 else if n > 4294967295 then 0 else oru (wu (wu (wi (m + 1)) * 2 ^ 32)) (wu n)
def putL (a : Int) : Mm → Int → Nat → Mm
  | m, _, 0 => m
  | m, i, k + 1 => putL a (stF m (sum1 a i) 0).1 (wi (i + 1)) k
/-- An object put. -/
def putF (m : Mm) (a : Int) (h : Head) : Mm × Int :=
  if (wordF h).2 ≠ 0 then (m, (wordF h).2)
  else if ThP m a (wordsF h) then ((if h.tag = 255 then (stF m a (wordF h).1).1 else putL a (stF m a (wordF h).1).1 1 (wordsF h - 1).toNat), 0)
  else (m, 2)
def fillF (m : Mm) (a n : Int) : Mm × Int := if n < 1 then (m, 1) else if n > 65536 then (m, 1) else putF m a ⟨255, wi (n - 1), 0⟩

structure Bp where
  s : Int
  at' : Int
  lim : Int
abbrev Bp.cs (b : Bp) : List AV := [i64 b.s, i64 b.at', i64 b.lim]
abbrev Bp.av (b : Bp) : AV := .agg b.cs
structure Bp.Ok (b : Bp) : Prop where
  s : 0 ≤ b.s ∧ b.s ≤ 1
  lo : 0 ≤ b.at'
  hi : b.at' ≤ b.lim
  top : b.lim ≤ 4096
instance (b : Bp) : Decidable b.Ok := decidable_of_iff ((0 ≤ b.s ∧ b.s ≤ 1) ∧ 0 ≤ b.at' ∧ b.at' ≤ b.lim ∧ b.lim ≤ 4096) ⟨fun ⟨a, b, c, d⟩ => ⟨a, b, c, d⟩, fun h => ⟨h.s, h.lo, h.hi, h.top⟩⟩

/-- A room. -/
structure Rm where
  m : Mm
  b : Bp
  t : Int
  e : Int
abbrev Rm.cs (x : Rm) : List AV := [i64 x.m.w, su x.m.a, su x.m.b, i64 x.b.s, i64 x.b.at', i64 x.b.lim, i64 x.t, i64 x.e]
abbrev Rm.av (x : Rm) : AV := .agg x.cs
structure Rm.Ok (x : Rm) : Prop where
  m : x.m.Ok
  b : x.b.Ok
  l : x.b.lim = x.m.w
  t : 0 ≤ x.t ∧ x.t ≤ x.e ∧ x.e ≤ x.b.at'
theorem stF_ok {m : Mm} (h : m.Ok) (a v : Int) : (stF m a v).1.Ok ∧ (stF m a v).1.w = m.w := by
  unfold stF
  split
  · exact h.store a v
  · exact ⟨h, rfl⟩
theorem putL_ok (a : Int) : ∀ (k : Nat) {m : Mm} (h : m.Ok) (i : Int), (putL a m i k).Ok ∧ (putL a m i k).w = m.w
  | 0, m, h, i => ⟨h, rfl⟩
  | k + 1, m, h, i => by
    obtain ⟨h1, h2⟩ := stF_ok h (sum1 a i) 0
    obtain ⟨h3, h4⟩ := putL_ok a k h1 (wi (i + 1))
    exact ⟨h3, h4.trans h2⟩
theorem putF_ok {m : Mm} (h : m.Ok) (a : Int) (d : Head) : (putF m a d).1.Ok ∧ (putF m a d).1.w = m.w := by
  unfold putF
  split
  · exact ⟨h, rfl⟩
  · split
    · obtain ⟨h1, h2⟩ := stF_ok h a (wordF d).1
      split
      · exact ⟨h1, h2⟩
      · obtain ⟨h3, h4⟩ := putL_ok a (wordsF d - 1).toNat h1 1
        exact ⟨h3, h4.trans h2⟩
    · exact ⟨h, rfl⟩
theorem fillF_ok {m : Mm} (h : m.Ok) (a n : Int) : (fillF m a n).1.Ok ∧ (fillF m a n).1.w = m.w := by
  unfold fillF
  split
  · exact ⟨h, rfl⟩
  · split
    · exact ⟨h, rfl⟩
    · exact putF_ok h a _
theorem setF_ok {m : Mm} (h : m.Ok) (a i v : Int) : (setF m a i v).1.Ok ∧ (setF m a i v).1.w = m.w := by
  unfold setF
  split
  · exact ⟨h, rfl⟩
  · exact stF_ok h _ v
theorem wi_id {n : Int} (h : -9223372036854775808 ≤ n ∧ n < 9223372036854775808) : wi n = n := by
  simp only [wi, IntKind.wrap, IntKind.bits, IntKind.signed]
  simp
  omega
theorem wu_id {n : Int} (h : 0 ≤ n ∧ n < 18446744073709551616) : wu n = n := by
  simp only [wu, IntKind.wrap, IntKind.bits, IntKind.signed]
  simp
  omega

def retF (x : Rm) : Rm := if x.e - x.t > 0 then { x with m := (fillF x.m (addrF x.b.s x.t) (x.e - x.t)).1, t := 0, e := 0 } else { x with t := 0, e := 0 }
def putR (x : Rm) (a : Int) (h : Head) : Rm := { x with m := (putF x.m a h).1 }
/-- So many words, or all. -/
def mostK (b : Bp) (n : Int) : Int := if n ≤ b.lim - b.at' then n else b.lim - b.at'
/-- A new piece. -/
def pieceF (x : Rm) (most : Int) : Rm := { retF x with b := { x.b with at' := x.b.at' + mostK x.b most }, t := x.b.at', e := x.b.at' + mostK x.b most }
def makeF (x : Rm) (h : Head) (most : Int) : Rm × Int × Int :=
  if rightF h ≠ 0 then (x, 0, 1) else if h.tag = 255 then (x, 0, 1)
  else if wordsF h ≤ x.e - x.t then (putR { x with t := x.t + wordsF h } (addrF x.b.s x.t) h, addrF x.b.s x.t, 0)
  else if 2 * wordsF h > most then
    if wordsF h ≤ x.b.lim - x.b.at' then (putR { x with b := { x.b with at' := x.b.at' + wordsF h } } (addrF x.b.s x.b.at') h, addrF x.b.s x.b.at', 0)
    else (x, 0, 4)
  else if x.b.lim - x.b.at' < wordsF h then (retF x, 0, 4)
  else (putR { pieceF x most with t := x.b.at' + wordsF h } (addrF x.b.s x.b.at') h, addrF x.b.s x.b.at', 0)

theorem rightF_words {h : Head} (h1 : rightF h = 0) (h2 : h.tag ≠ 255) : 2 ≤ wordsF h ∧ wordsF h ≤ 18 := by
  unfold rightF at h1
  rw [if_neg h2] at h1
  split at h1
  · cases h1
  · split at h1
    · cases h1
    · split at h1
      · cases h1
      · split at h1
        · cases h1
        · rw [wordsF, if_neg h2, objWF, if_neg (by omega), if_neg (by omega), wi_id (by omega)]
          omega
theorem retF_ok {x : Rm} (h : x.Ok) : (retF x).Ok := by
  have hb := h.b.lo
  unfold retF
  split
  · obtain ⟨h1, h2⟩ := fillF_ok h.m (addrF x.b.s x.t) (x.e - x.t)
    exact ⟨h1, h.b, h.l.trans h2.symm, by show (0:Int) ≤ 0 ∧ (0:Int) ≤ 0 ∧ 0 ≤ x.b.at'; omega⟩
  · exact ⟨h.m, h.b, h.l, by show (0:Int) ≤ 0 ∧ (0:Int) ≤ 0 ∧ 0 ≤ x.b.at'; omega⟩
noncomputable def C4 : Ctx := { CT with ords := [(6, [0, 1, 2, 3, 4, 5, 6, 7, 8, 9, 10, 11, 12, 13, 14, 15, 16, 17, 18, 19, 20, 21, 22, 23, 24]), (12, [0, 1, 2, 3, 4, 5, 6, 7, 8, 9, 10, 11, 12, 13, 14, 15, 16, 17, 18, 19, 20, 21, 22, 23, 24, 25, 26, 27, 28, 29, 30, 31, 32, 33, 34, 35, 36, 37, 38, 39, 40, 41, 42, 43, 44, 45, 46, 47, 48, 49, 50, 51, 52, 53, 54]), (18, [0, 1, 2, 3, 4, 5, 6, 7, 8, 9, 10, 11, 12, 13, 14, 15, 16, 17, 18, 19, 20, 21, 22, 23, 24, 25, 26, 27, 28, 29, 30, 31, 32, 33, 34, 35, 36, 37, 38, 39, 40, 41, 42])] }
noncomputable def C7 : Ctx := { CT with ords := [(1, [0, 1, 2, 3, 4, 5])] }
noncomputable def C12 : Ctx := { CT with ords := [(8, [0, 1, 2, 3, 4, 5, 6, 7, 8, 9, 10, 11])] }
noncomputable def C15 : Ctx := { CT with ords := [(3, [0, 1, 2, 3, 4, 5, 6, 7, 8, 9, 10])] }
noncomputable def C16 : Ctx := { CT with ords := [(1, [0, 1, 2, 3, 4, 5, 6, 7, 8, 9])] }
noncomputable def C23 : Ctx := { CT with ords := [(6, [0, 1, 2, 3, 4, 5, 6, 7, 8])] }
noncomputable def C25 : Ctx := { CT with ords := [(6, [0, 1, 2, 3, 4, 5, 6, 7, 8])] }
noncomputable def C29 : Ctx := { CT with ords := [(1, [0, 1, 2, 3, 4, 5, 6, 7, 8, 9, 10, 11, 12, 13, 14, 15]), (9, [0, 1, 2, 3, 4, 5, 6, 7, 8, 9, 10, 11, 12, 13, 14, 15, 16, 17, 18])] }
noncomputable def C41 : Ctx := { CT with ords := [(1, [0, 1, 2, 3, 4, 5, 6, 7, 8, 9])] }
noncomputable def C43 : Ctx := { CT with ords := [(6, [0, 1, 2, 3, 4, 5, 6, 7, 8])] }
noncomputable def C44 : Ctx := { CT with ords := [(6, [0, 1, 2, 3, 4, 5, 6, 7, 8])] }
noncomputable def C45 : Ctx := { CT with ords := [(6, [0, 1, 2, 3, 4, 5, 6, 7, 8])] }

/-- A thread, an operation, an answer, a heap. -/
abbrev tcs (t : Thread) : List AV := [su t.stack, i64 t.bufAt, i64 t.bufEnd, .sl .entry t.log .none, .sl .op t.left .none, .sl .entry t.pend .none, .bool t.want, .sl .ans t.done .none]
abbrev ocs (o : OpD) : List AV := [i64 o.kind, i64 o.h, i64 o.i, i64 o.k, u64 o.v, i64 o.new.tag, i64 o.new.len, u64 o.new.map]
abbrev acs (a : Answer) : List AV := [i64 a.e, u64 a.v, .bool a.yes]
abbrev ecs (e : Entry) : List AV := [u64 e.obj, i64 e.field]

structure Hp where
  m : Mm
  f : Bp
  t : Bp
  size : Int
  log : Int
  threads : List Thread
  phase : Int
  scan : Int
  flips : Int
  order : List Int
  broken : Int
abbrev Hp.cs (h : Hp) : List AV := [i64 h.m.w, su h.m.a, su h.m.b, i64 h.f.s, i64 h.f.at', i64 h.f.lim, i64 h.t.s, i64 h.t.at', i64 h.t.lim, i64 h.size, i64 h.log, .sl .thread h.threads .none, i64 h.phase, i64 h.scan, i64 h.flips, .sl .int h.order .none, i64 h.broken]
abbrev Hp.av (h : Hp) : AV := .agg h.cs
abbrev zheap : List AV := [i64 0, .sl .u64 [] .clip, .sl .u64 [] .clip, i64 0, i64 0, i64 0, i64 0, i64 0, i64 0, i64 0, i64 0, .sl .thread [] .clip, i64 0, i64 0, i64 0, .sl .int [] .clip, i64 0]

/-- No row is so long that one thing more would be too much. -/
structure SmallT (t : Thread) : Prop where
  stack : (t.stack.length + 1) * 8 ≤ 2 ^ 47
  log : (t.log.length + 1) * 16 ≤ 2 ^ 47
  left : (t.left.length + 1) * 64 ≤ 2 ^ 47
  done : (t.done.length + 1) * 24 ≤ 2 ^ 47
structure SmallH (h : Hp) : Prop where
  th : h.threads.length * 144 ≤ 2 ^ 47
  each : ∀ t ∈ h.threads, SmallT t
  order : (h.order.length + 1) * 8 ≤ 2 ^ 47

def thr (h : Hp) (i : Int) : Thread := h.threads.getD i.toNat default
def writesF (k : Int) : Bool := k == 4 || k == 5 || k == 6 || k == 7
def opP (t : Thread) : OpD := t.left.getD 0 default
/-- May a thread go on? -/
def CanP (h : Hp) (i : Int) : Prop := 0 ≤ i ∧ i < h.threads.length ∧ h.broken = 0 ∧
  ((thr h i).pend ≠ [] ∨ ((thr h i).left ≠ [] ∧ (thr h i).want = false ∧ h.phase ≠ 2 ∧ (writesF (opP (thr h i)).kind = false ∨ h.phase ≠ 1 ∨ ((thr h i).log.length : Int) < h.log)))
def ansT (t : Thread) (a : Answer) : Thread := { t with done := t.done ++ [a], left := t.left.drop 1 }
def ansF (h : Hp) (i : Int) (a : Answer) : Hp := { h with threads := h.threads.set i.toNat (ansT (thr h i) a), order := h.order ++ [i] }
def getS (l : List Int) (i : Int) : Int × Int := if i < 0 then (0, 5) else if i ≥ l.length then (0, 5) else (l.getD i.toNat 0, 0)
def realS (l : List Int) (i : Int) : Int × Int := if (getS l i).2 = 0 ∧ (getS l i).1 = 0 then (0, 6) else getS l i
def pushS (l : List Int) (a : Int) : List Int × Int := if (l.length : Int) ≥ 16 then (l, 4) else (l ++ [a], 0)
def popS (l : List Int) : List Int × Int := if l = [] then (l, 9) else (l.take (l.length - 1), 0)
def logF (l : List Entry) (e : Entry) : List Entry × Int := if (l.length : Int) ≥ 64 then (l, 4) else (l ++ [e], 0)
end Av
end
section
set_option linter.unusedSimpArgs false
set_option linter.unusedVariables false
namespace Av
open Go
set_option maxRecDepth 100000

theorem c93 (a b : Int) : RealCall PP 93 [.ptr 0 0 0 0, .ptr 1 0 0 0] [.box [i64 a], .box [i64 b]] fun r H => (∃ p, r = .bool p ∧ (p = true ↔ (a < 0 ∨ b < 0))) ∧ H = [.box [i64 a], .box [i64 b]] := by
  refine rc_rule CT_ok (f := 93) (fn := Go.Proofs.Try.f93) (by kernel_rfl) rfl (by kernel_rfl) 2 (Nat.le_refl _) _ rfl ?_
  conv => whnf
  split <;> rename_i h
  · conv => whnf
    refine ⟨⟨_, rfl, ?_⟩, rfl⟩
    simpa using Or.inl (of_decide_eq_true h)
  · conv => whnf
    refine ⟨⟨_, rfl, ?_⟩, rfl⟩
    have := of_decide_eq_false h
    rw [decide_eq_true_iff]
    omega

theorem e91 (a b : Int) : EC PP 91 [i64 a, i64 b] fun r => (r = .tup [i64 (wi (a + b)), .bool true] ∧ 0 ≤ a ∧ 0 ≤ b ∧ 0 ≤ wi (a + b)) ∨ (r = .tup [i64 0, .bool false] ∧ (a < 0 ∨ b < 0 ∨ wi (a + b) < 0)) := by
  refine ec_rule CT_ok (f := 91) (fn := Go.Proofs.Try.f91) (by kernel_rfl) rfl (by kernel_rfl) (.tup [i64 (addF a b).1, .bool (addF a b).2]) ?_ _ rfl ?_
  · unfold addF
    split
    · exact .inr ⟨rfl, by omega⟩
    · split
      · exact .inr ⟨rfl, by omega⟩
      · split
        · exact .inr ⟨rfl, by omega⟩
        · exact .inl ⟨rfl, by omega, by omega, by omega⟩
  · conv => whnf
    refine (c93 a b).mono ?_
    rintro r H ⟨⟨p, rfl, hp⟩, rfl⟩
    cases p
    · conv => whnf
      have h1 : ¬ a < 0 := fun h => by simp [h] at hp
      have h2 : ¬ b < 0 := fun h => by simp [h] at hp
      split <;> (rename_i h; conv => whnf)
      · have h : wi (a + b) < 0 := of_decide_eq_true h
        simp only [addF, if_neg h1, if_neg h2, if_pos h, and_self]
      · have h : ¬ wi (a + b) < 0 := of_decide_eq_false h
        simp only [addF, if_neg h1, if_neg h2, if_neg h, and_self]
    · conv => whnf
      have h1 : a < 0 ∨ b < 0 := hp.1 rfl
      by_cases q : a < 0
      · simp only [addF, if_pos q, and_self]
      · have q2 : b < 0 := by omega
        simp only [addF, if_neg q, if_pos q2, and_self]

theorem e84 (a n w : Int) : EC PP 84 [i64 a, i64 n, i64 w] fun r => (r = .bool true ∧ FitsP a n w) ∨ (r = .bool false ∧ ¬ FitsP a n w) := by
  refine ec_rule CT_ok (f := 84) (fn := Go.Proofs.Try.f84) (by kernel_rfl) rfl (by kernel_rfl) (.bool (decide (FitsP a n w))) ?_ _ rfl ?_
  · by_cases q : FitsP a n w
    · exact .inl ⟨by simp only [q, decide_true], q⟩
    · exact .inr ⟨by simp only [q, decide_false], q⟩
  · conv => whnf
    refine EC.real (e91 _ _) rfl ?_
    rintro _ (⟨rfl, h1, h2, h3⟩ | ⟨rfl, h1⟩)
    · conv => whnf
      refine ⟨congrArg AV.bool ?_, rfl⟩
      rw [decide_eq_decide]
      exact ⟨fun h => ⟨h1, h2, h3, h⟩, fun h => h.2.2.2⟩
    · conv => whnf
      have : ¬ FitsP a n w := fun h => by obtain ⟨a1, a2, a3, a4⟩ := h; omega
      simp only [this, decide_false, and_self]

noncomputable def C83 : Ctx := { CT with ords := [(4, [0, 1, 2, 3, 4, 5, 6])] }

theorem e83 (a : Int) : EC PP 83 [u64 a] fun r => (∃ s t, r = .tup [i64 s, i64 t, .bool true] ∧ s = whS a ∧ t = whA a ∧ 0 ≤ s ∧ s ≤ 1) ∨ (r = .tup [i64 0, i64 0, .bool false] ∧ ¬ (0 ≤ whS a ∧ whS a ≤ 1)) := by
  refine ec_rule (CT_okc (C := C83) rfl rfl) (f := 83) (fn := Go.Proofs.Try.f83) (by kernel_rfl) rfl (by kernel_rfl) (.tup [i64 (whF a).1, i64 (whF a).2.1, .bool (whF a).2.2]) ?_ _ rfl ?_
  · unfold whF
    split
    · exact .inr ⟨rfl, by omega⟩
    · split
      · exact .inr ⟨rfl, by omega⟩
      · exact .inl ⟨_, _, rfl, rfl, rfl, by omega, by omega⟩
  · conv => whnf
    split <;> rename_i q
    · conv => whnf
      have q1 : whS a = -1 := by
        simp only [Bool.and_eq_true, beq_iff_eq] at q
        exact q.1
      refine ⟨?_, rfl⟩
      simp [whF, q1]
    · conv => whnf
      split <;> rename_i q2
      · conv => whnf
        have q1 : whS a < 0 := of_decide_eq_true q2
        refine ⟨?_, rfl⟩
        simp [whF, q1]
      · have q1 : ¬ whS a < 0 := of_decide_eq_false q2
        conv => whnf
        split <;> rename_i q3
        · conv => whnf
          have q4 : whS a > 1 := of_decide_eq_true q3
          refine ⟨?_, rfl⟩
          simp only [whF, if_neg q1, if_pos q4]
        · have q4 : ¬ whS a > 1 := of_decide_eq_false q3
          conv => whnf
          refine ⟨by kernel_rfl, ?_⟩
          conv => whnf
          refine ⟨?_, rfl⟩
          simp only [whF, if_neg q1, if_neg q4]
          rfl
end Av
end
