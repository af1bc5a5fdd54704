/- The abstract machine: more rules. Own work. -/
import Derived.Test.YtikjkclmninbmaaK19
set_option linter.unusedSimpArgs false
set_option linter.unusedVariables false
set_option linter.unnecessarySimpa false
namespace Av
open Go

theorem TokOk.no {G n len cap b e} : TokOk G n .none len cap b e := trivial

theorem Rep.notok {G n w v t} {l : List (ETy.C t)} {tok : Tok} (h : Rep G n w v (.sl t l tok)) : Rep G n w v (.sl t l .none) := by
  cases h with
  | slnil _ _ _ ht => exact .slnil _ _ _ trivial
  | sl _ _ _ b o cap vs h1 h2 h3 h4 => exact .sl _ _ _ b o cap vs h1 h2 h3 trivial

theorem Rep.untok {G n w v a} (h : Rep G n w v a) : Rep G n w v (untok a) := by
  cases h with
  | slnil t tok a ht => exact .slnil _ _ _ trivial
  | sl t l tok b o cap vs h1 h2 h3 h4 => exact .sl _ _ _ b o cap vs h1 h2 h3 trivial
  | agg xs as h1 h2 =>
    refine .agg _ _ (by simpa using h1) fun k hk => ?_
    have hk' : k < as.length := by simpa using hk
    have := h2 k hk'
    simp only [List.getD_eq_getElem?_getD, List.getElem?_map, List.getElem?_eq_getElem hk', Option.map_some, Option.getD_some] at this ⊢
    generalize as[k] = u at this
    cases u with
    | sl t l tok => exact this.notok
    | _ => exact this
  | junk v => exact .junk v
  | int k m => exact .int k m
  | bool b => exact .bool b
  | flt b => exact .flt b
  | cpx a b => exact .cpx a b
  | nilp => exact .nilp
  | ptr loc i e j hl => exact .ptr loc i e j hl
  | vptr b o cs j vs hc h1 => exact .vptr b o cs j vs hc h1
  | nilsl => exact .nilsl
  | osl loc lo len e cap hl h1 h2 => exact .osl loc lo len e cap hl h1 h2
  | osl0 loc lo e a cap hl ha => exact .osl0 loc lo e a cap hl ha
  | map loc hl => exact .map loc hl
  | fn f xs ys as bs h1 h2 h3 h4 => exact .fn f xs ys as bs h1 h2 h3 h4
  | yield loc hl => exact .yield loc hl
  | nilfn => exact .nilfn
  | tup xs as h1 h2 => exact .tup xs as h1 h2

theorem Reps.untoks {G n w xs as} (h : Reps G n w xs as) : Reps G n w xs (as.map Av.untok) := by
  refine ⟨by simpa using h.1, fun k hk => ?_⟩
  have hk' : k < as.length := by simpa using hk
  have := h.2 k hk'
  simp only [List.getD_eq_getElem?_getD, List.getElem?_map, List.getElem?_eq_getElem hk', Option.map_some, Option.getD_some] at this ⊢
  exact this.untok

/-- A call asks nothing of what may be appended to its arguments' slices. -/
theorem RealCall.untoks {P : Program} {f : Nat} {args : List AV} {H : List AObj} {K : AV → List AObj → Prop} (h : RealCall P f (args.map untok) H K) : RealCall P f args H K where
  fn := h.fn
  run G w vs hs hr := h.run G w vs hs hr.untoks

/-- A call whose value is known by what holds of it. -/
def EC (P : Program) (f : Nat) (args : List AV) (Y : AV → Prop) : Prop := ∃ r, PureCall P f args r ∧ Y r

theorem EC.real {P : Program} {f : Nat} {args : List AV} {Y : AV → Prop} (h : EC P f (args.map untok) Y) (hp : pures args = true) {H : List AObj} {k : AV → List AObj → Prop} (hk : ∀ r, Y r → k r H) : RealCall P f args H k := by
  obtain ⟨r, h1, h2⟩ := h
  exact h1.real hp (hk r h2)

theorem EC.draw {P : Program} {f : Nat} {args : List AV} {Y : AV → Prop} (h : EC P f args Y) {k : AV → Prop} (hk : ∀ r, Y r → k r) : ∃ r, PureCall P f args r ∧ k r := by
  obtain ⟨r, h1, h2⟩ := h
  exact ⟨r, h1, hk r h2⟩

theorem EC.mono {P : Program} {f : Nat} {args : List AV} {Y Z : AV → Prop} (h : EC P f args Y) (hk : ∀ r, Y r → Z r) : EC P f args Z := by
  obtain ⟨r, h1, h2⟩ := h
  exact ⟨r, h1, hk r h2⟩

/-! The same machine by recursors alone: what the elaborator's reduction leaves is then what the kernel's leaves. -/
noncomputable def opsR (C : Ctx) (all : List Oper) (l : List Oper) : List AV → List AObj → (List AV → List AObj → Prop) → Prop :=
  @List.rec Oper (fun _ => List AV → List AObj → (List AV → List AObj → Prop) → Prop) (fun s H k => k s H) (fun o _ ih s H k => stepK C false all o s H fun s H => ih s H k) l

theorem opsR_eq (C : Ctx) (all : List Oper) : ∀ l, opsR C all l = opsK C all l
  | [] => rfl
  | o :: os => by
    funext s H k
    show stepK C false all o s H (fun s H => opsR C all os s H k) = opsK C all (o :: os) s H k
    rw [opsR_eq C all os]
    rfl

noncomputable def opsDR (C : Ctx) (all : List Oper) (t : OT) : List AV → List AObj → (List AV → List AObj → Prop) → Prop :=
  @OT.rec (fun _ => List AV → List AObj → (List AV → List AObj → Prop) → Prop) (fun s H k => k s H) (fun i _ ih s H k => nthK all i fun o => stepK C true all o s H fun s H => ih s H k) (fun _ _ ia ib s H k => ia s H k ∧ ib s H k) t

theorem opsDR_eq (C : Ctx) (all : List Oper) : ∀ t, opsDR C all t = opsD C all t
  | .done => rfl
  | .one i t => by
    funext s H k
    show (nthK all i fun o => stepK C true all o s H fun s H => opsDR C all t s H k) = opsD C all (.one i t) s H k
    rw [opsDR_eq C all t]
    rfl
  | .alt a b => by
    funext s H k
    show (opsDR C all a s H k ∧ opsDR C all b s H k) = opsD C all (.alt a b) s H k
    rw [opsDR_eq C all a, opsDR_eq C all b]
    rfl

def seqQ (B : List AV → List AObj → Prop) (Q : Out → St → Prop) (o : Out) (s' : St) : Prop := match o, s' with
    | .normal, ⟨s, H⟩ => B s H
    | .exit i, s' => Q (.exit i) s'
    | .goto l, s' => Q (.goto l) s'
    | .ret, s' => Q .ret s'

def blockQ (id : Nat) (Q : Out → St → Prop) (o : Out) (s' : St) : Prop := match o with
    | .normal => Q .normal s'
    | .exit i => match Nat.beq i id with
      | true => Q .normal s'
      | false => Q (.exit i) s'
    | .goto l => Q (.goto l) s'
    | .ret => Q .ret s'

def condR (v : AV) (A B : Prop) : Prop := match v with
    | .bool p => match p with
      | true => A
      | false => B
    | _ => False

def outQ (Q : Out → St → Prop) (o : Out) (s : List AV) (H : List AObj) : Prop := Q o ⟨s, H⟩

noncomputable def awpR (C : Ctx) (c : Code) : (Out → St → Prop) → List AV → List AObj → Prop :=
  @Code.rec (fun _ => (Out → St → Prop) → List AV → List AObj → Prop)
    (fun Q s H => Q .normal ⟨s, H⟩)
    (fun id ops draw Q s H => match draw with
      | false => opsR C ops.toList ops.toList s H (outQ Q .normal)
      | true => drawnOk C ops (treeOf C.trees C.ords id) = true ∧ opsDR C ops.toList (treeOf C.trees C.ords id) s H (outQ Q .normal))
    (fun _ _ ia ib Q s H => ia (seqQ (ib Q) Q) s H)
    (fun c _ _ ia ib Q s H => ev s c fun v => condR v (ia Q s H) (ib Q s H))
    (fun id _ ib Q s H => ib (blockQ id Q) s H)
    (fun b _ Q s H => RealCode C.P (.loop b) Q ⟨s, H⟩)
    (fun _ _ _ _ _ _ _ _ _ => False)
    (fun id Q s H => Q (.exit id) ⟨s, H⟩)
    (fun b _ Q s H => RealCode C.P (.scope b) Q ⟨s, H⟩)
    (fun _ Q s H => Q .normal ⟨s, H⟩)
    (fun l Q s H => Q (.goto l) ⟨s, H⟩)
    (fun Q s H => Q .ret ⟨s, H⟩)
    (fun _ _ _ _ => False)
    c

theorem awpR_eq (C : Ctx) (c : Code) : awpR C c = awp C c := by
  induction c with
  | skip => rfl
  | label l => rfl
  | exit id => rfl
  | goto l => rfl
  | ret => rfl
  | seq x y ihx ihy =>
    funext Q s H
    show awpR C x (seqQ (awpR C y Q) Q) s H = _
    rw [ihx, ihy]
    rfl
  | cond c x y ihx ihy =>
    funext Q s H
    show (ev s c fun v => condR v (awpR C x Q s H) (awpR C y Q s H)) = _
    rw [ihx, ihy]
    rfl
  | block id x ih =>
    funext Q s H
    show awpR C x (blockQ id Q) s H = _
    rw [ih]
    rfl
  | region id ops draw =>
    funext Q s H
    cases draw with
    | false =>
      show opsR C ops.toList ops.toList s H (outQ Q .normal) = _
      rw [opsR_eq]
      rfl
    | true =>
      show (_ ∧ opsDR C ops.toList (treeOf C.trees C.ords id) s H (outQ Q .normal)) = _
      rw [opsDR_eq]
      rfl
  | loop x ih => rfl
  | scope x ih => rfl
  | rangeFunc f ps x y ihx ihy => rfl
  | refuse why => rfl

theorem awpR_sound {C : Ctx} (hT : CtxOk C) (c : Code) {Q : Out → St → Prop} {s : List AV} {H : List AObj} (h : awpR C c Q s H) : RealCode C.P c Q ⟨s, H⟩ := awp_sound hT c (awpR_eq C c ▸ h)

noncomputable def junks (n : Nat) : List AV := @Nat.rec (fun _ => List AV) [] (fun _ l => .junk :: l) n
theorem junks_eq : ∀ n, junks n = List.replicate n .junk
  | 0 => rfl
  | n + 1 => by show AV.junk :: junks n = _; rw [junks_eq n]; rfl
noncomputable def joined (a b : List AV) : List AV := @List.rec AV (fun _ => List AV) b (fun x _ l => x :: l) a
theorem joined_eq (b : List AV) : ∀ a, joined a b = a ++ b
  | [] => rfl
  | x :: a => by show x :: joined a b = _; rw [joined_eq b a]; rfl

/-- Where a function ends. -/
def endQ (C : Ctx) (rs : List ResultVar) (n : Nat) (K : AV → List AObj → Prop) (o : Out) (s' : St) : Prop := match o with
  | .normal => finK C rs n s'.tmps s'.heap K
  | .ret => finK C rs n s'.tmps s'.heap K
  | _ => False

/-- A function that is called among objects. -/
theorem rc_rule {C : Ctx} (hT : CtxOk C) {f : Nat} {fn : Func} {c : Code} (hf : C.P.funcs[f]? = some fn) (hb : fn.body = some c) (hname : (fn.name == "runtime.NumGoroutine") = false) {args : List AV} {H : List AObj} {K : AV → List AObj → Prop} (n : Nat) (hn : H.length ≤ n)
    (m : Nat) (hm : fn.ntmps - args.length = m) (h : awpR C c (endQ C fn.results.toList n K) (joined args (junks m)) H) : RealCall C.P f args H K :=
  fn_rule hT hf hb hname n hn (s0 := joined args (junks m)) (by rw [joined_eq, junks_eq, hm]) ((awpR_sound hT c h).mono fun o s' hq => by cases o <;> exact hq)

/-! A value without what may be appended to its slices. -/
def untk0K (v : AV) (k : AV → Prop) : Prop := match v with
  | .sl t l _ => k (.sl t l .none)
  | v => k v
def untks0K : List AV → (List AV → Prop) → Prop
  | [], k => k []
  | v :: vs, k => untk0K v fun v => untks0K vs fun vs => k (v :: vs)
def untk1K (v : AV) (k : AV → Prop) : Prop := match v with
  | .agg cs => untks0K cs fun cs => k (.agg cs)
  | v => untk0K v k
def untks1K : List AV → (List AV → Prop) → Prop
  | [], k => k []
  | v :: vs, k => untk1K v fun v => untks1K vs fun vs => k (v :: vs)
def untk2K (v : AV) (k : AV → Prop) : Prop := match v with
  | .tup vs => untks1K vs fun vs => k (.tup vs)
  | v => untk1K v k

def Sub (v u : AV) : Prop := ∀ G n w x, Rep G n w x v → Rep G n w x u

theorem untk0_out {v : AV} {k : AV → Prop} (h : untk0K v k) : ∃ u, k u ∧ Sub v u := by
  unfold untk0K at h
  split at h
  · exact ⟨_, h, fun G n w x hr => hr.notok⟩
  · exact ⟨_, h, fun _ _ _ _ hr => hr⟩

def Subs (vs us : List AV) : Prop := vs.length = us.length ∧ ∀ i, i < vs.length → Sub (vs.getD i .junk) (us.getD i .junk)

theorem Subs.cons {v u : AV} {vs us : List AV} (h : Sub v u) (hs : Subs vs us) : Subs (v :: vs) (u :: us) := by
  refine ⟨by simp [hs.1], fun i hi => ?_⟩
  cases i with
  | zero => exact h
  | succ i => simpa using hs.2 i (by simpa using hi)

theorem untks0_out : ∀ {vs : List AV} {k : List AV → Prop}, untks0K vs k → ∃ us, k us ∧ Subs vs us
  | [], k, h => ⟨[], h, rfl, fun i hi => absurd hi (by simp)⟩
  | v :: vs, k, h => by
    obtain ⟨u, h, hu⟩ := untk0_out h
    obtain ⟨us, h, hus⟩ := untks0_out h
    exact ⟨_, h, .cons hu hus⟩

theorem untk1_out {v : AV} {k : AV → Prop} (h : untk1K v k) : ∃ u, k u ∧ Sub v u := by
  unfold untk1K at h
  split at h
  · obtain ⟨us, h, hl, hus⟩ := untks0_out h
    refine ⟨_, h, fun G n w x hr => ?_⟩
    cases hr with
    | agg xs as h1 h2 => exact .agg _ _ (h1.trans hl) fun i hi => hus i (hl ▸ hi) G n w _ (h2 i (hl ▸ hi))
  · exact untk0_out h

theorem untks1_out : ∀ {vs : List AV} {k : List AV → Prop}, untks1K vs k → ∃ us, k us ∧ Subs vs us
  | [], k, h => ⟨[], h, rfl, fun i hi => absurd hi (by simp)⟩
  | v :: vs, k, h => by
    obtain ⟨u, h, hu⟩ := untk1_out h
    obtain ⟨us, h, hus⟩ := untks1_out h
    exact ⟨_, h, .cons hu hus⟩

theorem untk2_out {v : AV} {k : AV → Prop} (h : untk2K v k) : ∃ u, k u ∧ Sub v u := by
  unfold untk2K at h
  split at h
  · obtain ⟨us, h, hl, hus⟩ := untks1_out h
    refine ⟨_, h, fun G n w x hr => ?_⟩
    cases hr with
    | tup xs as h1 h2 => exact .tup _ _ (h1.trans hl) fun i hi => hus i (hl ▸ hi) G n w _ (h2 i (hl ▸ hi))
  · exact untk1_out h

theorem pure_rule2 {P : Program} {f : Nat} {args : List AV} {r : AV} (h : RealCall P f args [] fun r' H' => untk2K r' fun u => u = r ∧ H' = []) : PureCall P f args r where
  fn := h.fn
  run G w vs hp hr := by
    have hs : Sim G [] w := ⟨fun l o h => by simp at h, fun l o h => by simp at h, fun l o h => by simp at h, fun l1 l2 o1 o2 h => by simp at h, fun l v b e h => by simp at h, fun l v b e l2 o2 h => by simp at h, fun l1 l2 v1 v2 b e1 e2 h => by simp at h, hp⟩
    refine CallsIn.mono (h.run G w vs hs hr) ?_
    rintro e w' ⟨v, r', H', G', rfl, hk, h1, h2, h3⟩
    obtain ⟨u, ⟨rfl, rfl⟩, hsub⟩ := untk2_out hk
    exact ⟨v, G', rfl, h1.pv, hsub _ _ _ _ h2, h3⟩

/-- A function that is called with plain values alone. -/
theorem ec_rule {C : Ctx} (hT : CtxOk C) {f : Nat} {fn : Func} {c : Code} (hf : C.P.funcs[f]? = some fn) (hb : fn.body = some c) (hname : (fn.name == "runtime.NumGoroutine") = false) {args : List AV} {Y : AV → Prop} (r : AV) (hy : Y r)
    (m : Nat) (hm : fn.ntmps - args.length = m) (h : awpR C c (endQ C fn.results.toList 0 fun r' H => untk2K r' fun u => u = r ∧ H = []) (joined args (junks m)) []) : EC C.P f args Y :=
  ⟨r, pure_rule2 (rc_rule hT hf hb hname 0 (Nat.le_refl _) m hm h), hy⟩

/-- Behind a scope's label. -/
def restQ (Q : Out → St → Prop) (o : Out) (s' : St) : Prop := match o with
  | .goto _ => False
  | .normal => Q .normal s'
  | .exit i => Q (.exit i) s'
  | .ret => Q .ret s'
def fwdQ (C : Ctx) (l : Nat) (rest : Code) (Q : Out → St → Prop) (o : Out) (s' : St) : Prop := match o with
  | .goto l' => l' = l ∧ awpR C rest (restQ Q) s'.tmps s'.heap
  | .normal => Q .normal s'
  | .exit i => Q (.exit i) s'
  | .ret => Q .ret s'

/-- A scope whose jumps lead on. -/
theorem scope_fwd {C : Ctx} (hT : CtxOk C) {c rest : Code} {Q : Out → St → Prop} {s : List AV} {H : List AObj} (l : Nat) (hf : findLabel c l = some rest) (h : awpR C c (fwdQ C l rest Q) s H) : RealCode C.P (.scope c) Q ⟨s, H⟩ := by
  refine scope_rule l (fun s' => awpR C rest (restQ Q) s'.tmps s'.heap) (fun _ => 0) hf ?_ ?_
  · refine (awpR_sound hT c h).mono fun o s' hq => ?_
    cases o <;> exact hq
  · intro s' hi
    refine (awpR_sound hT rest hi).mono fun o s' hq => ?_
    cases o with
    | goto _ => exact hq.elim
    | _ => exact hq

def roundQ (R : St → Prop) (Q : Out → St → Prop) (o : Out) (s' : St) : Prop := match o with
  | .normal => R s'
  | .exit i => Q (.exit i) s'
  | .goto l => Q (.goto l) s'
  | .ret => Q .ret s'
/-- So many rounds of a loop. -/
noncomputable def Rounds (C : Ctx) (b : Code) (Q : Out → St → Prop) (n : Nat) : St → Prop :=
  @Nat.rec (fun _ => St → Prop) (fun _ => False) (fun _ ih s => awpR C b (roundQ ih Q) s.tmps s.heap) n

theorem rounds_real {C : Ctx} (hT : CtxOk C) {b : Code} {Q : Out → St → Prop} {n : Nat} {s : St} (h : Rounds C b Q (n + 1) s) : RealCode C.P b (roundQ (Rounds C b Q n) Q) s := awpR_sound hT b h

open Classical in
theorem loop_rounds {C : Ctx} (hT : CtxOk C) {b : Code} {Q : Out → St → Prop} {s : St} (n : Nat) (h : Rounds C b Q n s) : RealCode C.P (.loop b) Q s := by
  refine loop_rule (fun s => ∃ n, Rounds C b Q n s) (fun s => least fun n => Rounds C b Q n s) ⟨n, h⟩ fun s hs => ?_
  obtain ⟨h1, h2⟩ := least_spec hs
  generalize least (fun n => Rounds C b Q n s) = m at h1 h2
  cases m with
  | zero => exact False.elim h1
  | succ m =>
    refine RealCode.mono (rounds_real hT h1) fun o s' hq => ?_
    cases o with
    | normal =>
      refine ⟨⟨m, hq⟩, ?_⟩
      have := (least_spec (p := fun n => Rounds C b Q n s') ⟨m, hq⟩).2 m hq
      show least (fun n => Rounds C b Q n s') < m + 1
      omega
    | _ => exact hq

def passQ (l : Nat) (R : St → Prop) (Q : Out → St → Prop) (o : Out) (s' : St) : Prop := match o with
  | .goto l' => l' = l ∧ R s'
  | .exit i => Q (.exit i) s'
  | .normal => Q .normal s'
  | .ret => Q .ret s'
/-- So many passes behind a label. -/
noncomputable def Passes (C : Ctx) (l : Nat) (rest : Code) (Q : Out → St → Prop) (n : Nat) : St → Prop :=
  @Nat.rec (fun _ => St → Prop) (fun _ => False) (fun _ ih s => awpR C rest (passQ l ih Q) s.tmps s.heap) n

theorem passes_real {C : Ctx} (hT : CtxOk C) {l : Nat} {rest : Code} {Q : Out → St → Prop} {n : Nat} {s : St} (h : Passes C l rest Q (n + 1) s) : RealCode C.P rest (passQ l (Passes C l rest Q n) Q) s := awpR_sound hT rest h

open Classical in
theorem scope_passes {C : Ctx} (hT : CtxOk C) {c rest : Code} {Q : Out → St → Prop} {s : List AV} {H : List AObj} (l n : Nat) (hf : findLabel c l = some rest)
    (h : awpR C c (passQ l (Passes C l rest Q n) Q) s H) : RealCode C.P (.scope c) Q ⟨s, H⟩ := by
  refine scope_rule l (fun s => ∃ n, Passes C l rest Q n s) (fun s => least fun n => Passes C l rest Q n s) hf ?_ fun s hs => ?_
  · refine RealCode.mono (awpR_sound hT c h) fun o s' hq => ?_
    cases o with
    | goto l' => exact ⟨hq.1, n, hq.2⟩
    | _ => exact hq
  · obtain ⟨h1, h2⟩ := least_spec hs
    generalize least (fun n => Passes C l rest Q n s) = m at h1 h2
    cases m with
    | zero => exact False.elim h1
    | succ m =>
      refine RealCode.mono (passes_real hT h1) fun o s' hq => ?_
      cases o with
      | goto l' =>
        refine ⟨hq.1, ⟨m, hq.2⟩, ?_⟩
        have := (least_spec (p := fun n => Passes C l rest Q n s') ⟨m, hq.2⟩).2 m hq.2
        show least (fun n => Passes C l rest Q n s') < m + 1
        omega
      | _ => exact hq

/-- A loop with what holds ahead of each round. -/
theorem loop_inv {C : Ctx} (hT : CtxOk C) {b : Code} {Q : Out → St → Prop} {s : List AV} {H : List AObj} (I : Nat → List AV → List AObj → Prop) (n : Nat) (h0 : I n s H)
    (round : ∀ n s H, I n s H → awpR C b (roundQ (fun s' => ∃ m, m < n ∧ I m s'.tmps s'.heap) Q) s H) : RealCode C.P (.loop b) Q ⟨s, H⟩ := by
  refine loop_rule (fun s => ∃ n, I n s.tmps s.heap) (fun s => least fun n => I n s.tmps s.heap) ⟨n, h0⟩ fun s hs => ?_
  obtain ⟨h1, h2⟩ := least_spec hs
  generalize least (fun n => I n s.tmps s.heap) = m at h1 h2
  refine RealCode.mono (awpR_sound hT b (round m s.tmps s.heap h1)) fun o s' hq => ?_
  cases o with
  | normal =>
    obtain ⟨k, hk, hi⟩ := hq
    refine ⟨⟨k, hi⟩, ?_⟩
    have := (least_spec (p := fun n => I n s'.tmps s'.heap) ⟨k, hi⟩).2 k hi
    show least (fun n => I n s'.tmps s'.heap) < m
    omega
  | _ => exact hq

/-- Only what is marked is still known. -/
def keep : List Bool → List AV → List AV
  | [], s => s
  | _ :: _, [] => []
  | true :: bs, x :: s => x :: keep bs s
  | false :: bs, _ :: s => .junk :: keep bs s

theorem keep_len : ∀ (bs : List Bool) (s : List AV), (keep bs s).length = s.length
  | [], s => rfl
  | _ :: _, [] => rfl
  | true :: bs, x :: s => by simp [keep, keep_len bs s]
  | false :: bs, x :: s => by simp [keep, keep_len bs s]

theorem keep_get : ∀ (bs : List Bool) (s : List AV) (k : Nat), k < s.length → (keep bs s).getD k .junk = s.getD k .junk ∨ (keep bs s).getD k .junk = .junk
  | [], s, k, h => .inl rfl
  | _ :: _, [], k, h => by simp at h
  | true :: bs, x :: s, 0, h => .inl rfl
  | false :: bs, x :: s, 0, h => .inr rfl
  | true :: bs, x :: s, k + 1, h => by simpa [keep] using keep_get bs s k (by simpa using h)
  | false :: bs, x :: s, k + 1, h => by simpa [keep] using keep_get bs s k (by simpa using h)

theorem Reps.keep {G n w xs s} (h : Reps G n w xs s) (bs : List Bool) : Reps G n w xs (keep bs s) := by
  refine ⟨by rw [keep_len]; exact h.1, fun k hk => ?_⟩
  have hk' : k < s.length := by rwa [keep_len] at hk
  rcases keep_get bs s k hk' with e | e
  · rw [e]; exact h.2 k hk'
  · rw [e]; exact .junk _

theorem RealCode.keep {P : Program} {c : Code} {Q : Out → St → Prop} {s : List AV} {H : List AObj} (bs : List Bool) (h : RealCode P c Q ⟨keep bs s, H⟩) : RealCode P c Q ⟨s, H⟩ where
  run G a w hs := h.run G a w ⟨hs.sim, hs.tmps.keep bs, hs.defers⟩

/-- A loop with what holds ahead of each round, of what is marked. -/
theorem loop_keep {C : Ctx} (hT : CtxOk C) {b : Code} {Q : Out → St → Prop} {s : List AV} {H : List AObj} (bs : List Bool) (I : Nat → List AV → List AObj → Prop) (n : Nat) (h0 : I n (keep bs s) H)
    (round : ∀ n s H, I n s H → awpR C b (roundQ (fun s' => ∃ m, m < n ∧ I m (keep bs s'.tmps) s'.heap) Q) s H) : RealCode C.P (.loop b) Q ⟨s, H⟩ := by
  refine loop_rule (fun s => ∃ n, I n (keep bs s.tmps) s.heap) (fun s => least fun n => I n (keep bs s.tmps) s.heap) ⟨n, h0⟩ fun s hs => ?_
  obtain ⟨h1, h2⟩ := least_spec hs
  generalize least (fun n => I n (keep bs s.tmps) s.heap) = m at h1 h2
  refine RealCode.mono (RealCode.keep bs (awpR_sound hT b (round m _ s.heap h1))) fun o s' hq => ?_
  cases o with
  | normal =>
    obtain ⟨k, hk, hi⟩ := hq
    refine ⟨⟨k, hi⟩, ?_⟩
    have := (least_spec (p := fun n => I n (keep bs s'.tmps) s'.heap) ⟨k, hi⟩).2 k hi
    show least (fun n => I n (keep bs s'.tmps) s'.heap) < m
    omega
  | _ => exact hq

/-- So many, marked where said. -/
def marks (l : List Nat) : Nat → Nat → List Bool
  | _, 0 => []
  | k, n + 1 => has l k :: marks l (k + 1) n

/-- A call that asks for no object and tells of none; its value may be any of which Y holds. -/
structure NC (P : Program) (f : Nat) (args : List AV) (Y : AV → Prop) : Prop where
  fn : HasFn P f
  run : ∀ G w vs, (∀ b o, G.prot b o → b < w.heap.size) → Reps G 0 w vs args → CallsIn Fence.wide 0 P f vs w fun e w' =>
    ∃ v r G', e = .returned v ∧ Y r ∧ (∀ b o, G'.prot b o → b < w'.heap.size) ∧ Rep G' 0 w' v r ∧ Ext G [] w G' [] w'

theorem NC.real {P : Program} {f : Nat} {args : List AV} {Y : AV → Prop} (h : NC P f (args.map untok) Y) (hp : pures args = true) {H : List AObj} {K : AV → List AObj → Prop} (hk : ∀ r, Y r → K r H) : RealCall P f args H K where
  fn := h.fn
  run G w vs hs hr := by
    refine CallsIn.mono (h.run G w vs hs.pv (hr.pures hp)) fun e w' => ?_
    rintro ⟨v, r, G', rfl, hy, hpv, hrep, hext⟩
    obtain ⟨h1, h2⟩ := hs.after hext hpv
    exact ⟨v, r, H, _, rfl, hk r hy, h1, hrep.zero (fun b o hp => ⟨hp, rfl⟩), h2⟩

theorem nc_rule {C : Ctx} (hT : CtxOk C) {f : Nat} {fn : Func} {c : Code} (hf : C.P.funcs[f]? = some fn) (hb : fn.body = some c) (hname : (fn.name == "runtime.NumGoroutine") = false) {args : List AV} {Y : AV → Prop}
    (m : Nat) (hm : fn.ntmps - args.length = m) (h : awpR C c (endQ C fn.results.toList 0 fun r' H => untk2K r' fun u => Y u ∧ H = []) (joined args (junks m)) []) : NC C.P f args Y where
  fn := (rc_rule hT hf hb hname 0 (Nat.le_refl _) m hm h).fn
  run G w vs hp hr := by
    have hs : Sim G [] w := ⟨fun l o h => by simp at h, fun l o h => by simp at h, fun l o h => by simp at h, fun l1 l2 o1 o2 h => by simp at h, fun l v b e h => by simp at h, fun l v b e l2 o2 h => by simp at h, fun l1 l2 v1 v2 b e1 e2 h => by simp at h, hp⟩
    refine CallsIn.mono ((rc_rule hT hf hb hname 0 (Nat.le_refl _) m hm h).run G w vs hs hr) ?_
    rintro e w' ⟨v, r', H', G', rfl, hk, h1, h2, h3⟩
    obtain ⟨u, ⟨hy, rfl⟩, hsub⟩ := untk2_out hk
    exact ⟨v, u, G', rfl, hy, h1.pv, hsub _ _ _ _ h2, h3⟩

theorem NC.ofEC {P : Program} {f : Nat} {args : List AV} {Y : AV → Prop} (h : EC P f args Y) : NC P f args Y := by
  obtain ⟨r, h1, h2⟩ := h
  exact ⟨h1.fn, fun G w vs hp hr => CallsIn.mono (h1.run G w vs hp hr) fun e w' ⟨v, G', e1, rest⟩ => ⟨v, r, G', e1, h2, rest⟩⟩

end Av
