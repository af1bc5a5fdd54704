/- The abstract machine: quiet operations come to one value, whatever is made beside them. Own work. -/
import Derived.Test.YtikjkclmninbmaaK14
set_option linter.unusedSimpArgs false
set_option linter.unusedVariables false
set_option linter.unnecessarySimpa false
namespace Av
open Go

/-- One outcome. -/
def Det {α : Type} (f : (α → Prop) → Prop) : Prop := ∀ k, f k → ∃ v, k v ∧ ∀ k' : α → Prop, k' v → f k'

theorem Det.ret {α : Type} (v : α) : Det (fun k : α → Prop => k v) := fun k h => ⟨v, h, fun k' h' => h'⟩
theorem Det.no {α : Type} : Det (fun _ : α → Prop => False) := fun k h => h.elim
theorem Det.bind {α β : Type} {f : (α → Prop) → Prop} {g : α → (β → Prop) → Prop} (hf : Det f) (hg : ∀ a, Det (g a)) : Det (fun k => f fun a => g a k) := fun k h => by
  obtain ⟨a, h1, h2⟩ := hf _ h
  obtain ⟨v, h3, h4⟩ := hg a k h1
  exact ⟨v, h3, fun k' h' => h2 _ (h4 k' h')⟩
theorem Det.and {α : Type} {A : Prop} {f : (α → Prop) → Prop} (hf : Det f) : Det (fun k => A ∧ f k) := fun k h => by
  obtain ⟨v, h1, h2⟩ := hf k h.2
  exact ⟨v, h1, fun k' h' => ⟨h.1, h2 k' h'⟩⟩
theorem Det.guard {α : Type} {b : Bool} {f : (α → Prop) → Prop} (hf : Det f) : Det (fun k => guardK b (f k)) := by
  cases b with
  | true => exact hf
  | false => exact Det.no
theorem Det.ex {α β : Type} {A : β → Prop} {f : β → (α → Prop) → Prop} (hf : ∀ b, Det (f b)) : Det (fun k => ∃ b, A b ∧ f b k) := fun k h => by
  obtain ⟨b, ha, h⟩ := h
  obtain ⟨v, h1, h2⟩ := hf b k h
  exact ⟨v, h1, fun k' h' => ⟨b, ha, h2 k' h'⟩⟩
theorem Det.iff {α : Type} {f g : (α → Prop) → Prop} (h : ∀ k, f k ↔ g k) (hg : Det g) : Det f := fun k hk => by
  obtain ⟨v, h1, h2⟩ := hg k ((h k).1 hk)
  exact ⟨v, h1, fun k' h' => (h k').2 (h2 k' h')⟩

theorem det_headK (v : AV) : Det (headK v) := .iff (fun _ => headK_iff) (.ret v)
theorem det_getK (s : List AV) (t : Nat) : Det (getK s t) := .iff (fun _ => getK_iff) (.ex fun v => .ret v)
theorem det_ev (s : List AV) (x : Operand) : Det (ev s x) := by
  cases x with
  | tmp t => exact det_getK s t
  | const v => exact det_headK _
  | func f => exact .ret _
  | global g => exact .no
theorem det_evs (s : List AV) : ∀ xs : List Operand, Det (evs s xs)
  | [] => .ret _
  | x :: xs => (det_ev s x).bind fun v => (det_evs s xs).bind fun vs => .ret _
theorem det_nthK {α : Type} (xs : List α) (n : Nat) : Det (nthK xs n) := .iff (fun _ => nthK_iff) (.ex fun v => .ret v)
theorem det_rowK (xs : List AV) : Det (rowK xs) := .iff (fun _ => rowK_iff) (.ret _)
theorem det_catK (xs ys : List AV) : Det (catK xs ys) := .iff (fun _ => catK_iff) (.ret _)
theorem det_typedK (C : Ctx) (t : TypeId) (v : AV) : Det (typedK C t v) := .iff (fun _ => typedK_iff) (.ret _)
theorem det_typedsK (C : Ctx) (ts : List TypeId) (vs : List AV) : Det (typedsK C ts vs) := .iff (fun _ => typedsK_iff) (.ret _)
theorem det_cellsK (v : AV) : Det (cellsK v) := .iff (fun _ => cellsK_iff) (.ret _)
theorem det_cutK (xs : List AV) (j n : Nat) : Det (cutK xs j n) := .iff (fun _ => cutK_iff) (.iff (g := fun k => ((j + n ≤ xs.length ∨ (j = 0 ∧ n = 0)) ∧ j ≤ xs.length) ∧ k ((xs.drop j).take n)) (fun k => ⟨fun h => ⟨⟨h.1, h.2.2⟩, h.2.1⟩, fun h => ⟨h.1.1, h.2, h.1.2⟩⟩) (.and (.ret _)))
theorem det_patchK (xs : List AV) (j : Nat) (vs : List AV) : Det (patchK xs j vs) := .iff (fun _ => patchK_iff) (.and (.ret _))
theorem det_valK (agg : Bool) (r : List AV) : Det (valK agg r) := by
  unfold valK
  split <;> first | exact .ret _ | exact .no
theorem det_loK (s : List AV) (x : Option Operand) : Det (loK s x) := by
  cases x with
  | none => exact .ret _
  | some x => exact (det_ev s x).bind fun v => by cases v <;> first | exact .ret _ | exact .no
theorem det_hiK (s : List AV) (x : Option Operand) (d : Int) : Det (hiK s x d) := by
  cases x with
  | none => exact .ret _
  | some x => exact (det_ev s x).bind fun v => by cases v <;> first | exact .ret _ | exact .no
theorem det_addrK (p : AV) (n : Nat) : Det (addrK p n) := by
  cases p <;> first | exact .ret _ | exact .no
theorem det_zeroK (C : Ctx) (t : TypeId) : Det (zeroK C t) := (det_rowK _).bind fun z => by
  split <;> first | exact .ret _ | exact .no
theorem det_eqCells : ∀ xs ys : List AV, Det (eqCells xs ys)
  | [], [] => .ret _
  | x :: xs, [] => by cases x <;> exact .no
  | [], y :: ys => .no
  | x :: xs, y :: ys => by
    cases x <;> cases y <;> first
      | exact .no
      | exact .guard ((det_eqCells xs ys).bind fun r => .ret _)
      | exact (det_eqCells xs ys).bind fun r => .ret _
theorem det_binK (op : BinOp) (x y : AV) : Det (binK op x y) := by
  cases x <;> cases y <;> first
    | exact .no
    | (cases op <;> first
        | exact .no
        | exact .guard (.and (.ret _))
        | exact .guard (.ret _))
theorem det_convK (C : Ctx) (dst : TypeId) (x : AV) : Det (convK C true dst x) := by
  unfold convK
  split
  · exact .ret _
  · exact .iff (fun k => ⟨fun h => h.resolve_left (fun h => h), .inr⟩) (.ex fun n => .ret _)
  · exact .guard (.ret _)
  · exact .no
theorem det_fieldsK (C : Ctx) (s : List AV) (fs : List (Nat × Nat)) (tys : Nat → TypeId) : ∀ (ps : List (Nat × Operand)) (cs : List AV), Det (fieldsK C s fs tys ps cs)
  | [], cs => .ret _
  | (i, x) :: ps, cs => (det_nthK fs i).bind fun p => (det_ev s x).bind fun v => (det_typedK C _ v).bind fun v => .guard <| (det_cellsK v).bind fun vs => .guard <| (det_patchK _ _ _).bind fun cs' => det_fieldsK C s fs tys ps cs'
theorem det_rowsK (z : List AV) (n : Nat) : Det (rowsK z n) := .iff (fun _ => rowsK_iff) (.ret _)
theorem det_setRowK (els : List (List AV)) (i : Nat) (v : List AV) : Det (setRowK els i v) := .iff (fun _ => setRowK_iff) (.and (.ret _))
theorem det_partsK (C : Ctx) (s : List AV) (e : TypeId) : ∀ (ps : List (Nat × Operand)) (els : List (List AV)), Det (partsK C s e ps els)
  | [], els => .ret _
  | (i, x) :: ps, els => (det_ev s x).bind fun v => (det_typedK C e v).bind fun v => .guard <| (det_cellsK v).bind fun vs => .guard <| (det_setRowK els i vs).bind fun els' => det_partsK C s e ps els'
theorem det_indexAddrK (C : Ctx) (t : TypeId) (x i : AV) : Det (indexAddrK C t x i) := by
  cases i <;> first | exact .no | skip
  cases x <;> first
    | exact .no
    | exact .guard (.ex fun y => .ret _)
    | exact .guard (.guard (.guard (.and (.ret _))))
    | exact .guard (.guard (.and (.ret _)))
theorem det_sliceK (C : Ctx) (s : List AV) (t : TypeId) (x : AV) (lo hi mx : Option Operand) : Det (sliceK C s t x lo hi mx) := (det_typedK C t x).bind fun v => by
  cases v <;> first
    | exact .no
    | (refine .guard ((det_loK s lo).bind fun a => (det_hiK s hi _).bind fun b => .and ?_)
       cases mx with
       | none => exact .ret _
       | some m =>
         cases hi with
         | none => exact .no
         | some h => exact (det_ev s m).bind fun c => by cases c <;> first | exact .no | exact .and (.ret _))
    | (refine .guard (.guard (.guard ((det_loK s lo).bind fun a => (det_hiK s hi _).bind fun b => .and ?_)))
       cases mx with
       | none => exact .ret _
       | some m => exact .no)
theorem det_lenOf (C : Ctx) (t : TypeId) (x : AV) : Det (lenOf C t x) := .guard (by cases x <;> first | exact .ret _ | exact .no)
theorem det_minmaxK (m : Bool) (as : List AV) : Det (fun k => minmaxK m k as) := by
  unfold minmaxK
  split <;> first | exact .guard (.ret _) | exact .no

theorem hgetK_app {H X : List AObj} {loc : Nat} {k : AObj → Prop} (h : hgetK H loc k) : hgetK (H ++ X) loc k := by
  obtain ⟨o, ho, hk⟩ := hgetK_iff.1 h
  exact hgetK_iff.2 ⟨o, by rw [List.getElem?_append_left (lt_of_get ho)]; exact ho, hk⟩

theorem det_hgetK (H : List AObj) (loc : Nat) : Det (hgetK H loc) := .iff (fun _ => hgetK_iff) (.ex fun v => .ret v)

theorem det_loadK (C : Ctx) (dyn : Bool) (t : TypeId) (p : AV) (H : List AObj) : Det (loadK C dyn t p H) := by
  cases p <;> first
    | exact .no
    | exact (det_cutK _ _ _).bind fun r => det_valK _ r
    | (refine (det_hgetK H _).bind fun o => ?_
       cases o <;> first
         | exact .no
         | (refine .guard ?_
            cases dyn with
            | true => exact .ex fun v => (det_cutK _ _ _).bind fun r => det_valK _ r
            | false => exact (det_cutK _ _ _).bind fun r => det_valK _ r)
         | exact .guard (.ex fun v => (det_cutK _ _ _).bind fun r => det_valK _ r))

theorem loadK_app {C : Ctx} {dyn : Bool} {t : TypeId} {p : AV} {H X : List AObj} {k : AV → Prop} (h : loadK C dyn t p H k) : loadK C dyn t p (H ++ X) k := by
  cases p <;> first
    | exact h
    | exact hgetK_app h

theorem det_srcK (H : List AObj) (t : ETy) (x : AV) : Det (srcK H t x) := by
  have one : ∀ x, (∀ k, srcK H t x k ↔ ∃ l, slOf t x = some l ∧ k l) → Det (srcK H t x) := fun x h => .iff h (.ex fun l => .ret _)
  by_cases hx : ∃ loc lo len e, x = .osl loc lo len e
  · obtain ⟨loc, lo, len, e, rfl⟩ := hx
    refine (det_hgetK H _).bind fun o => ?_
    cases o <;> first | exact .no | skip
    rename_i u l fr
    cases hs : slOf t (.sl u ((l.drop lo).take len) .none) with
    | none => exact .iff (g := fun _ => False) (fun k => by simp only [hs]) .no
    | some l' => exact .iff (g := fun k => guardK (Nat.beq e (esz u)) (lo + len ≤ l.length ∧ k l')) (fun k => by simp only [hs]) (.guard (.and (.ret _)))
  · refine one x fun k => ?_
    unfold srcK
    split
    · exact absurd ⟨_, _, _, _, rfl⟩ hx
    · cases slOf t x <;> simp

theorem srcK_app {H X : List AObj} {t : ETy} {x : AV} {k : List t.C → Prop} (h : srcK H t x k) : srcK (H ++ X) t x k := by
  cases x <;> first
    | exact h
    | exact hgetK_app h

theorem det_binOpK (C : Ctx) (op : BinOp) (t : TypeId) (a b : AV) : Det (binOpK C true op t a b) := by
  unfold binOpK
  split
  · cases op <;> first
      | exact .guard (.guard (.guard ((det_eqCells _ _).bind fun r => .ret _)))
      | exact .guard (.guard (.guard .no))
  · cases op <;> first
      | exact .guard (.ret _)
      | exact .guard .no
  · cases op <;> first
      | exact .no
      | exact .iff (fun k => ⟨fun h => by
          obtain ⟨e, f, h1, h2⟩ := h.resolve_left (fun h => h)
          exact ⟨(e, f), h1, h2⟩, fun ⟨p, h1, h2⟩ => .inr ⟨p.1, p.2, h1, h2⟩⟩) (.ex (A := fun p : Nat × Nat => ∀ w, (Op.complexOp _ .f64 _ _ _ _).run C.P w = .ok (.complex .f64 p.1 p.2) w) fun p => .ret _)
  · exact .no
  · exact det_binK _ _ _
theorem det_unOpK (op : UnOp) (v : AV) : Det (unOpK op v) := by
  cases v <;> first | exact .no | skip
  cases op <;> first | exact .no | exact .ret _
theorem det_pickK (s : List AV) (p : AV) (a b : Operand) : Det (pickK s p a b) := by
  cases p <;> first
    | exact .no
    | (rename_i p; cases p <;> exact det_ev s _)
theorem det_nilK (v : AV) : Det (nilK v) := by cases v <;> first | exact .no | exact .ret _
theorem det_extractK (v : AV) (i : Nat) : Det (extractK v i) := by cases v <;> first | exact .no | exact (det_getK _ i).bind fun v => det_headK v

theorem det_lookupK (C : Ctx) (t : TypeId) (m x : AV) (ok : Bool) (H : List AObj) : Det (lookupK C t m x ok H) := by
  cases m <;> first | exact .no | skip
  cases x <;> first | exact .no | skip
  refine (det_hgetK H _).bind fun o => ?_
  cases o <;> first | exact .no | skip
  rename_i kd' es
  refine .guard (.guard ?_)
  rename_i n _
  split
  · cases ok with
    | true => exact .ret _
    | false => exact (det_headK _).bind fun v => .ret _
  · refine (det_zeroK C _).bind fun z => ?_
    cases ok <;> exact .ret _

theorem lookupK_app {C : Ctx} {t : TypeId} {m x : AV} {ok : Bool} {H X : List AObj} {k : AV → Prop} (h : lookupK C t m x ok H k) : lookupK C t m x ok (H ++ X) k := by
  cases m <;> first | exact h | skip
  cases x <;> first | exact h | exact hgetK_app h

/-- Rows made in a region of any order. -/
def rowD (located : Bool) (v : AV) (k : AV → Prop) : Prop := match located with
  | true => False
  | false => k v
theorem det_rowD (located : Bool) (v : AV) : Det (rowD located v) := by cases located <;> first | exact .no | exact .ret _
theorem newRowK_d {located : Bool} {u : ETy} {l : List u.C} {H : List AObj} {k : AV → List AObj → Prop} : newRowK true located u l H k ↔ rowD located (.sl u l .none) fun v => k v H := by cases located <;> exact Iff.rfl

def litD (located : Bool) (u : ETy) (o : Option (List u.C)) (k : AV → Prop) : Prop := match o with
  | some [] => k (.sl u [] .clip)
  | some l => rowD located (.sl u l .none) k
  | none => False
theorem det_litD (located : Bool) (u : ETy) (o : Option (List u.C)) : Det (litD located u o) := by
  unfold litD
  split
  · exact .ret _
  · exact det_rowD _ _
  · exact .no
theorem litK_d {located : Bool} {u : ETy} {o : Option (List u.C)} {H : List AObj} {k : AV → List AObj → Prop} : litK true located u o H k ↔ litD located u o fun v => k v H := by
  cases o with
  | none => exact Iff.rfl
  | some l =>
    cases l with
    | nil => exact Iff.rfl
    | cons x xs => exact newRowK_d

def makeD (C : Ctx) (located : Bool) (t : TypeId) (n c : AV) (k : AV → Prop) : Prop :=
  match n, c with
  | .int _ n, .int _ c => (c = n ∧ 0 ≤ n) ∧ match (C.tb t).ety with
    | some u => n * ebytes u ≤ 2 ^ 47 ∧ match dec u (C.tb (C.tb t).elem).zero with
      | some z => rowD located (.sl u (List.replicate n.toNat z) .none) k
      | none => False
    | none => False
  | _, _ => False
theorem det_makeD (C : Ctx) (located : Bool) (t : TypeId) (n c : AV) : Det (makeD C located t n c) := by
  unfold makeD
  split
  · refine .and ?_
    split
    · refine .and ?_
      split
      · exact det_rowD _ _
      · exact .no
    · exact .no
  · exact .no
theorem makeK_d {C : Ctx} {located : Bool} {t : TypeId} {n c : AV} {H : List AObj} {k : AV → List AObj → Prop} : makeK C true located t n c H k ↔ makeD C located t n c fun v => k v H := by
  unfold makeK makeD
  cases n <;> first | exact Iff.rfl | skip
  cases c <;> first | exact Iff.rfl | skip
  refine and_congr Iff.rfl ?_
  cases (C.tb t).ety with
  | none => exact Iff.rfl
  | some u =>
    refine and_congr Iff.rfl ?_
    cases dec u (C.tb (C.tb t).elem).zero with
    | none => exact Iff.rfl
    | some z => exact newRowK_d

def appendD (C : Ctx) (located : Bool) (t t2 : TypeId) (s x : AV) (H : List AObj) (k : AV → Prop) : Prop :=
  guardK (C.tb t2).sl <| typedK C t s fun
  | .sl u l tok => guardK (etyIs (C.tb t) u) <| srcK H u x fun l' => ((l.length + l'.length) * ebytes u ≤ 2 ^ 47) ∧
    match tok with
    | .clip => rowD located (.sl u (l ++ l') .none) k
    | _ => False
  | _ => False
theorem det_appendD (C : Ctx) (located : Bool) (t t2 : TypeId) (s x : AV) (H : List AObj) : Det (appendD C located t t2 s x H) := by
  refine .guard ((det_typedK C t s).bind fun v => ?_)
  cases v <;> first | exact .no | skip
  rename_i u l tok
  refine .guard ((det_srcK H u x).bind fun l' => .and ?_)
  cases tok <;> first | exact .no | exact det_rowD _ _
theorem appendK_d {C : Ctx} {located : Bool} {t t2 : TypeId} {s x : AV} {H : List AObj} {k : AV → List AObj → Prop} : appendK C true located false t t2 s x H k ↔ appendD C located t t2 s x H fun v => k v H := by
  unfold appendK appendD
  · rw [guardK_iff, guardK_iff]
    refine and_congr Iff.rfl ?_
    rw [typedK_iff, typedK_iff]
    generalize typed C t s = vv
    cases vv <;> first | exact Iff.rfl | skip
    rename_i u l tok
    simp only
    rw [guardK_iff, guardK_iff]
    refine and_congr Iff.rfl ?_
    have key : ∀ l' : List u.C, (((l.length + l'.length) * ebytes u ≤ 2 ^ 47) ∧ (match tok with
      | .none => False
      | .clip => match located with
        | true => match l with
          | [] => newRowK true true u l' H k
          | _ => False
        | false => newRowK true false u (l ++ l') H k
      | .own loc ver => guardK (!located) <| guardK (!true || false) <| hgetK H loc fun
        | .app v => v = ver ∧ hsetK H loc (.app (ver + 1)) fun H' => k (.sl u (l ++ l') (.own loc (ver + 1))) H'
        | _ => False)) ↔ (((l.length + l'.length) * ebytes u ≤ 2 ^ 47) ∧ match tok with
      | .clip => rowD located (.sl u (l ++ l') .none) fun v => k v H
      | _ => False) := by
      intro l'
      refine and_congr Iff.rfl ?_
      cases tok with
      | none => exact Iff.rfl
      | clip =>
        cases located with
        | true => cases l <;> exact Iff.rfl
        | false => exact Iff.rfl
      | own loc ver =>
        simp only
        rw [guardK_iff]
        exact ⟨fun h => h.2, False.elim⟩
    constructor
    · intro h
      obtain ⟨l', h1, h2⟩ := det_srcK H u x _ h
      exact h2 _ ((key l').1 h1)
    · intro h
      obtain ⟨l', h1, h2⟩ := det_srcK H u x _ h
      exact h2 _ ((key l').2 h1)
theorem appendD_app {C : Ctx} {located : Bool} {t t2 : TypeId} {s x : AV} {H X : List AObj} {k : AV → Prop} (h : appendD C located t t2 s x H k) : appendD C located t t2 s x (H ++ X) k := by
  unfold appendD at *
  obtain ⟨h1, h⟩ := guardK_iff.1 h
  rw [typedK_iff] at h
  rw [guardK_iff, typedK_iff]
  refine ⟨h1, ?_⟩
  cases hv : typed C t s <;> rw [hv] at h <;> first | exact h | skip
  obtain ⟨h2, h⟩ := guardK_iff.1 h
  exact guardK_iff.2 ⟨h2, srcK_app h⟩

theorem det_buildK (C : Ctx) (s : List AV) (t : TypeId) (ps : List (Nat × Operand)) : Det (buildK C s t ps) := by
  unfold buildK
  split
  · exact .guard ((det_rowK _).bind fun z => .guard ((det_fieldsK C s _ _ _ _).bind fun cs => .ret _))
  · exact .guard (.guard (.guard ((det_rowK _).bind fun z => (det_fieldsK C s _ _ _ _).bind fun cs => .ret _)))

def pureCallD (C : Ctx) (g : Nat) (args : List AV) (k : AV → Prop) : Prop := guardK (pures args) (∃ r, PureCall C.P g (args.map untok) r ∧ k r)
theorem det_pureCallD (C : Ctx) (g : Nat) (args : List AV) : Det (pureCallD C g args) := .guard (.ex fun r => .ret _)

/-- A quiet operation comes to one value, wherever it is carried out. -/
theorem quiet_out {C : Ctx} {op : Go.Op} {ty : TypeId} {dst : Option Tmp} {s : List AV} {H : List AObj} {k : AV → List AObj → Prop} (hq : quietOp C.located C.owns dst op = true) (h : opK C true op ty dst s H k) :
    ∃ v, k v H ∧ ∀ (H' : List AObj) (k' : AV → List AObj → Prop), (readsHeap op = true → ∃ X, H' = H ++ X) → k' v H' → opK C true op ty dst s H' k' := by
  have free : ∀ {F : (AV → Prop) → Prop}, Det F → (∀ H' k', opK C true op ty dst s H' k' ↔ F fun v => k' v H') →
      ∃ v, k v H ∧ ∀ (H' : List AObj) (k' : AV → List AObj → Prop), (readsHeap op = true → ∃ X, H' = H ++ X) → k' v H' → opK C true op ty dst s H' k' := fun hF hi => by
    obtain ⟨v, h1, h2⟩ := hF _ ((hi H k).1 h)
    exact ⟨v, h1, fun H' k' _ hk => (hi H' k').2 (h2 _ hk)⟩
  have heap : ∀ {F : List AObj → (AV → Prop) → Prop}, readsHeap op = true → Det (F H) → (∀ H' k', opK C true op ty dst s H' k' ↔ F H' fun v => k' v H') → (∀ X k, F H k → F (H ++ X) k) →
      ∃ v, k v H ∧ ∀ (H' : List AObj) (k' : AV → List AObj → Prop), (readsHeap op = true → ∃ X, H' = H ++ X) → k' v H' → opK C true op ty dst s H' k' := fun hr hF hi happ => by
    obtain ⟨v, h1, h2⟩ := hF _ ((hi H k).1 h)
    refine ⟨v, h1, fun H' k' hX hk => (hi H' k').2 ?_⟩
    obtain ⟨X, rfl⟩ := hX hr
    exact happ X _ (h2 _ hk)
  cases op
  case move x => exact free (det_ev s x) fun _ _ => Iff.rfl
  case assign x =>
    have hd : dstIn C.located dst = false := by simpa [quietOp] using hq
    refine free (F := fun K => ev s x fun v => typedK C ty v K) ((det_ev s x).bind fun v => det_typedK C ty v) fun H' k' => ?_
    simp only [opK, hd]
    exact Iff.rfl
  case pick c a b => exact free ((det_ev s c).bind fun v => det_pickK s v a b) fun _ _ => Iff.rfl
  case build t ps => exact free (F := fun K => buildK C s t ps.toList K) (det_buildK C s t ps.toList) fun _ _ => Iff.rfl
  case buildSlice t n ps =>
    cases he : (C.tb t).ety with
    | none =>
      refine free (F := fun _ => False) .no fun H' k' => ?_
      simp only [opK, he]
      constructor
      · intro h
        obtain ⟨_, h⟩ := guardK_iff.1 h
        obtain ⟨_, h⟩ := guardK_iff.1 h
        have h := rowK_iff.1 h
        obtain ⟨h, _⟩ := guardK_iff.1 h
        cases h
      · exact False.elim
    | some u =>
      refine free (F := fun K => guardK (Nat.ble (n * (C.tb (C.tb t).elem).size) 16777216) <| guardK (!Nat.beq (C.tb (C.tb t).elem).size 0) <| rowK (C.tb (C.tb t).elem).zero fun z => rowsK z n fun els => partsK C s (C.tb t).elem ps.toList els fun els => litD (dstIn C.located dst) u (decAll u els) K)
        (.guard (.guard ((det_rowK _).bind fun z => (det_rowsK z n).bind fun els => (det_partsK C s _ _ els).bind fun els => det_litD _ _ _))) fun H' k' => ?_
      simp only [opK, he, litK_d]
  case load t x =>
    exact heap (F := fun H K => ev s x fun p => loadK C (dstIn C.dyn dst) t p H fun v => headK v K) rfl ((det_ev s x).bind fun p => (det_loadK C _ t p H).bind fun v => det_headK v) (fun _ _ => Iff.rfl) fun X K h => by
      obtain ⟨p, hp, h2⟩ := det_ev s x _ h
      exact h2 _ (loadK_app hp)
  case nilCheck x => exact free ((det_ev s x).bind fun v => det_nilK v) fun _ _ => Iff.rfl
  case binOp op t x y wi => exact free ((det_ev s x).bind fun a => (det_ev s y).bind fun b => det_binOpK C op t a b) fun _ _ => Iff.rfl
  case unOp op t x => exact free ((det_ev s x).bind fun v => det_unOpK op v) fun _ _ => Iff.rfl
  case convert src d x => exact free (F := fun K => guardK (known (C.tb src)) <| ev s x fun v => convK C true d v K) (.guard ((det_ev s x).bind fun v => det_convK C d v)) fun _ _ => Iff.rfl
  case makeFunc fn as bs =>
    cases fn <;> first
      | (rename_i f
         exact free (F := fun K => evs s as.toList fun as => evs s bs.toList fun bs => K (.fn f as bs)) ((det_evs s _).bind fun as => (det_evs s _).bind fun bs => .ret _) fun _ _ => Iff.rfl)
      | exact free (F := fun _ => False) .no fun _ _ => Iff.rfl
  case makeSlice t n c =>
    refine free (F := fun K => ev s n fun n => ev s c fun c => makeD C (dstIn C.located dst) t n c K) ((det_ev s n).bind fun n => (det_ev s c).bind fun c => det_makeD C _ t n c) fun H' k' => ?_
    simp only [opK, makeK_d]
  case slice t x lo hi mx => exact free (F := fun K => ev s x fun v => sliceK C s t v lo hi mx K) ((det_ev s x).bind fun v => det_sliceK C s t v lo hi mx) fun _ _ => Iff.rfl
  case fieldAddr t x i => exact free (F := fun K => ev s x fun p => nthK (C.tb t).fields i fun (off, _) => addrK p off K) ((det_ev s x).bind fun p => (det_nthK _ i).bind fun q => det_addrK p q.1) fun _ _ => Iff.rfl
  case indexAddr t x i => exact free (F := fun K => ev s x fun p => ev s i fun i => typedK C t p fun p => indexAddrK C t p i K) ((det_ev s x).bind fun p => (det_ev s i).bind fun i => (det_typedK C t p).bind fun p => det_indexAddrK C t p i) fun _ _ => Iff.rfl
  case lookup t m x ok =>
    exact heap (F := fun H K => ev s m fun m => ev s x fun x => lookupK C t m x ok H K) rfl ((det_ev s m).bind fun m => (det_ev s x).bind fun x => det_lookupK C t m x ok H) (fun _ _ => Iff.rfl) fun X K h => by
      obtain ⟨p, hp, h2⟩ := det_ev s m _ h
      obtain ⟨q, hq, h3⟩ := det_ev s x _ hp
      exact h2 _ (h3 _ (lookupK_app hq))
  case extract x i => exact free ((det_ev s x).bind fun v => det_extractK v i) fun _ _ => Iff.rfl
  case call c =>
    obtain ⟨callee, args, ats⟩ := c
    cases callee with
    | invoke a b =>
      refine free (F := fun _ => False) .no fun H' k' => ⟨fun h => ?_, False.elim⟩
      obtain ⟨_, h, _⟩ := det_evs s _ _ h
      exact h
    | value f =>
      have hd : dstIn C.owns dst = false := by simpa [quietOp] using hq
      refine free (F := fun K => evs s args.toList fun args => ev s f fun v => match v with
        | .fn g first caps => typedsK C ats.toList args fun args => catK args caps fun args => catK first args fun args => pureCallD C g args K
        | _ => False) ((det_evs s _).bind fun args => (det_ev s f).bind fun v => ?_) fun H' k' => ?_
      · cases v <;> first
          | exact .no
          | exact (det_typedsK C _ _).bind fun args => (det_catK _ _).bind fun args => (det_catK _ _).bind fun args => det_pureCallD C _ args
      · simp only [opK, doCallK, hd, callK, pureCallD]
        exact Iff.rfl
    | builtin b =>
      cases b <;> first
        | (refine free (F := fun _ => False) .no fun H' k' => ⟨fun h => ?_, False.elim⟩
           obtain ⟨_, h, _⟩ := det_evs s _ _ h
           exact h)
        | skip
      case append =>
        have hd : dstIn C.owns dst = false := by simpa [quietOp] using hq
        have key : ∀ (args : List AV) (H : List AObj), Det (fun K : AV → Prop => match ats.toList, args with
          | [t, t2], [s, x] => appendD C (dstIn C.located dst) t t2 s x H K
          | _, _ => False) := fun args H => by
          split
          · exact det_appendD _ _ _ _ _ _ _
          · exact .no
        refine heap (F := fun H K => evs s args.toList fun args => match ats.toList, args with
          | [t, t2], [s, x] => appendD C (dstIn C.located dst) t t2 s x H K
          | _, _ => False) rfl ((det_evs s _).bind fun args => key args H) (fun H' k' => ?_) fun X K h => ?_
        · simp only [opK, doCallK, builtinK, hd, appendK_d]
          exact Iff.rfl
        · obtain ⟨as, h1, h2⟩ := det_evs s _ _ h
          refine h2 _ ?_
          split at h1
          · exact appendD_app h1
          · exact h1.elim
      case len =>
        refine free (F := fun K => evs s args.toList fun args => match ats.toList, args with
          | [t], [x] => lenOf C t x fun n => K (i64 n)
          | _, _ => False) ((det_evs s _).bind fun args => ?_) fun H' k' => ?_
        · split
          · exact (det_lenOf C _ _).bind fun n => .ret _
          · exact .no
        · simp only [opK, doCallK, builtinK]
          refine iff_of_eq (congrArg _ (funext fun as => ?_))
          split <;> first | rfl | simp_all | (split <;> simp_all)
      case min => exact free (F := fun K => evs s args.toList fun args => minmaxK false K args) ((det_evs s _).bind fun args => det_minmaxK false args) fun _ _ => Iff.rfl
      case max => exact free (F := fun K => evs s args.toList fun args => minmaxK true K args) ((det_evs s _).bind fun args => det_minmaxK true args) fun _ _ => Iff.rfl
      case real =>
        refine free (F := fun K => evs s args.toList fun args => match args with
          | [.cpx a _] => K (.flt a)
          | _ => False) ((det_evs s _).bind fun args => ?_) fun H' k' => ?_
        · split <;> first | exact .ret _ | exact .no
        · simp only [opK, doCallK, builtinK]
          refine iff_of_eq (congrArg _ (funext fun as => ?_))
          split <;> first | rfl | simp_all | (split <;> simp_all)
      case imag =>
        refine free (F := fun K => evs s args.toList fun args => match args with
          | [.cpx _ b] => K (.flt b)
          | _ => False) ((det_evs s _).bind fun args => ?_) fun H' k' => ?_
        · split <;> first | exact .ret _ | exact .no
        · simp only [opK, doCallK, builtinK]
          refine iff_of_eq (congrArg _ (funext fun as => ?_))
          split <;> first | rfl | simp_all | (split <;> simp_all)
      case complex =>
        refine free (F := fun K => evs s args.toList fun args => match args with
          | [.flt a, .flt b] => K (.cpx a b)
          | _ => False) ((det_evs s _).bind fun args => ?_) fun H' k' => ?_
        · split <;> first | exact .ret _ | exact .no
        · simp only [opK, doCallK, builtinK]
          refine iff_of_eq (congrArg _ (funext fun as => ?_))
          split <;> first | rfl | simp_all | (split <;> simp_all)
      case copy => cases hq
  all_goals first
    | exact h.elim
    | cases hq

end Av
