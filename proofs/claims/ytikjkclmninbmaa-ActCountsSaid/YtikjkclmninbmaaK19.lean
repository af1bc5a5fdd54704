/- The abstract machine: functions. The abstract machine: a table of types, checked by reduction. Own work. -/
import Derived.Test.YtikjkclmninbmaaK18
section
set_option linter.unusedSimpArgs false
set_option linter.unusedVariables false
set_option linter.unnecessarySimpa false
namespace Av
open Go

def resK (C : Ctx) : List ResultVar → List AV → List AObj → (List AV → Prop) → Prop
  | [], s, H, k => k []
  | .tmp t :: rs, s, H, k => getK s t fun v => resK C rs s H fun vs => k (v :: vs)
  | .cell a t :: rs, s, H, k => getK s a fun p => loadK C false t p H fun v => headK v fun v => resK C rs s H fun vs => k (v :: vs)

def retK (vs : List AV) (k : AV → Prop) : Prop := match vs with
  | [v] => k v
  | vs => k (.tup vs)

/-- What a function comes to: its results; so many objects are told of. -/
def finK (C : Ctx) (rs : List ResultVar) (n : Nat) (s : List AV) (H : List AObj) (K : AV → List AObj → Prop) : Prop :=
  resK C rs s H fun vs => retK vs fun v => trim2K n H v fun r => trimHK n H n H fun H' => K r H'

theorem run_asAddr_of_load {P : Program} {w w' : World} {t : TypeId} {x y : Value} (h : (Instr.loadAt t x).run P w = .ok y w') : (do loadVar t (← asAddr x) : Sem Value).run P w = .ok y w' := by
  unfold Instr.loadAt Instr.sureAddr at h
  cases x with
  | pointer a =>
    cases a with
    | some a => simpa [asAddr] using h
    | none => simp at h
  | _ => simp at h

theorem resK_out {C : Ctx} (hT : TabOk C) {G : Gh} {H : List AObj} {w : World} (hs : Sim G H w) {tmps : Array Value} {s : List AV} (ht : Reps G H.length w tmps s) {g : ResultVar → Sem Value} (g1 : ∀ t, g (.tmp t) = pure (tmps.getD t undef))
    (g2 : ∀ a t, g (.cell a t) = do loadVar t (← asAddr (tmps.getD a undef))) : ∀ {rs : List ResultVar} {k : List AV → Prop}, resK C rs s H k →
    ∃ xs vs, (rs.mapM g).run C.P w = .ok xs w ∧ k vs ∧ Reps G H.length w xs.toArray vs
  | [], k, h => ⟨[], [], by simp, h, reps_nil⟩
  | .tmp t :: rs, k, h => by
    obtain ⟨v, hv, h⟩ := getK_iff.1 h
    obtain ⟨xs, vs, hrun, hk, hr⟩ := resK_out hT hs ht g1 g2 h
    exact ⟨_ :: xs, v :: vs, by simp only [List.mapM_cons, Sem.run_bind, g1, Sem.run_pure, Result.andThen_ok, hrun], hk, .cons (ht.get hv) hr⟩
  | .cell a t :: rs, k, h => by
    obtain ⟨p, hp, h⟩ := getK_iff.1 h
    obtain ⟨y, v, hld, h, hv⟩ := loadK_out hT hs (ht.get hp) h
    obtain ⟨xs, vs, hrun, hk, hr⟩ := resK_out hT hs ht g1 g2 (headK_iff.1 h)
    have hl := run_asAddr_of_load hld
    rw [← g2] at hl
    exact ⟨y :: xs, v :: vs, by rw [List.mapM_cons, Sem.run_bind, hl]; simp only [Result.andThen_ok, Sem.run_bind, hrun, Sem.run_pure], hk, .cons hv hr⟩

theorem results_eq (fn : Func) (tmps : Array Value) : ∃ g : ResultVar → Sem Value, (∀ t, g (.tmp t) = pure (tmps.getD t undef)) ∧ (∀ a t, g (.cell a t) = do loadVar t (← asAddr (tmps.getD a undef))) ∧
    results fn tmps = (do
      let vs ← fn.results.mapM g
      pure (if h : vs.size = 1 then vs[0] else .tuple vs)) := by
  refine ⟨_, ?_, ?_, rfl⟩
  · intro t; rfl
  · intro a t; rfl

theorem results_out {C : Ctx} (hT : TabOk C) {G : Gh} {H : List AObj} {w : World} (hs : Sim G H w) {tmps : Array Value} {s : List AV} (ht : Reps G H.length w tmps s) {fn : Func} {k : AV → Prop} (h : resK C fn.results.toList s H fun vs => retK vs k) :
    ∃ x v, (results fn tmps).run C.P w = .ok x w ∧ k v ∧ Rep G H.length w x v := by
  obtain ⟨g, g1, g2, hg⟩ := results_eq fn tmps
  obtain ⟨xs, vs, hrun, hk, hr⟩ := resK_out hT hs ht g1 g2 h
  rw [hg, Array.mapM_eq_mapM_toList]
  simp only [Sem.run_bind, Sem.run_map]
  rw [hrun]
  simp only [Result.andThen_ok, Sem.run_pure]
  have hl : xs.length = vs.length := by have := hr.1; simpa using this
  unfold retK at hk
  split at hk
  · rename_i v
    match xs, hl with
    | [x], _ =>
      refine ⟨_, _, rfl, hk, ?_⟩
      have := hr.2 0 (by simp)
      simpa using this
  · rename_i hne
    have h1 : xs.toArray.size ≠ 1 := by
      intro e
      have : vs.length = 1 := by rw [← hl]; simpa using e
      obtain ⟨v, rfl⟩ := List.length_eq_one_iff.1 this
      exact hne v rfl
    refine ⟨_, _, rfl, hk, ?_⟩
    rw [dif_neg h1]
    exact .tup _ _ hr.1 hr.2

theorem reps_junk {G n w} (m : Nat) : Reps G n w (Array.replicate m undef) (List.replicate m .junk) := by
  refine ⟨by simp, fun k hk => ?_⟩
  have hk' : k < m := by simpa using hk
  simp [List.getD_eq_getElem?_getD, hk']
  exact .junk _

theorem fn_rule {C : Ctx} (hT : CtxOk C) {f : Nat} {fn : Func} {c : Code} (hf : C.P.funcs[f]? = some fn) (hb : fn.body = some c) (hname : (fn.name == "runtime.NumGoroutine") = false) {args s0 : List AV} {H : List AObj} {K : AV → List AObj → Prop} (n : Nat)
    (hn : H.length ≤ n) (h0 : s0 = args ++ List.replicate (fn.ntmps - args.length) .junk)
    (h : RealCode C.P c (fun o s' => match o with
      | .normal => finK C fn.results.toList n s'.tmps s'.heap K
      | .ret => finK C fn.results.toList n s'.tmps s'.heap K
      | _ => False) ⟨s0, H⟩) : RealCall C.P f args H K where
  fn := ⟨fn, c, hf, hb, hname⟩
  run G w vs hs hr := by
    refine callsIn_of_wp hf hb trivial ?_
    have hsz : vs.size = args.length := hr.1
    have hst : SimS G ⟨s0, H⟩ { tmps := vs ++ Array.replicate (fn.ntmps - vs.size) undef, defers := [] } w := by
      refine ⟨hs, ?_, rfl⟩
      rw [h0, hsz]
      exact hr.cat (reps_junk _)
    have fin : ∀ {s' : St} {G' : Gh} {a' : Act} {w' : World}, finK C fn.results.toList n s'.tmps s'.heap K → SimS G' s' a' w' → Ext G H w G' s'.heap w' → a'.defers = [] ∧ ∃ v, (results fn a'.tmps).run C.P w' = .ok v w' ∧
        ∃ v2 r H' G', Ending.returned v = .returned v2 ∧ K r H' ∧ Sim G' H' w' ∧ Rep G' H'.length w' v2 r ∧ Ext G H w G' H' w' := by
      intro s' G' a' w' hk hs' he
      obtain ⟨x, v, hrun, hk, hv⟩ := results_out hT.toTabOk hs'.sim hs'.tmps hk
      obtain ⟨r, hk, hr⟩ := trim2_out hs'.sim hv hk
      obtain ⟨H', hk, hl, h1, h2⟩ := hs'.sim.trim he hn hk
      exact ⟨hs'.defers, x, hrun, x, r, H', _, rfl, hk, h1, by rw [hl]; exact hr, h2⟩
    refine wpIn_mono (h.run G _ w hst) ?_
    rintro e a' w' ⟨o, s', G', rfl, hq, hs', he⟩
    cases o with
    | normal => exact fin hq hs' he
    | ret => exact fin hq hs' he
    | exit i => exact hq.elim
    | goto l => exact hq.elim

theorem pure_rule {P : Program} {f : Nat} {args : List AV} {r : AV} (h : RealCall P f args [] fun r' H' => r' = r ∧ H' = []) : PureCall P f args r where
  fn := h.fn
  run G w vs hp hr := by
    have hs : Sim G [] w := ⟨fun l o h => by simp at h, fun l o h => by simp at h, fun l o h => by simp at h, fun l1 l2 o1 o2 h => by simp at h, fun l v b e h => by simp at h, fun l v b e l2 o2 h => by simp at h, fun l1 l2 v1 v2 b e1 e2 h => by simp at h, hp⟩
    refine CallsIn.mono (h.run G w vs hs hr) ?_
    rintro e w' ⟨v, r', H', G', rfl, ⟨rfl, rfl⟩, h1, h2, h3⟩
    exact ⟨v, G', rfl, h1.pv, h2, h3⟩

end Av
end
section
set_option linter.unusedSimpArgs false
set_option linter.unusedVariables false
set_option linter.unnecessarySimpa false
namespace Av
open Go

def fieldsB (P : Program) : List Field → List (Nat × Nat) → List TypeId → Bool
  | [], [], [] => true
  | f :: fs, (off, size) :: os, t :: ts => Nat.beq f.type t && Nat.beq f.offset off && (match P.info? f.type with
    | some inf => Nat.beq inf.size size && !Nat.beq size 0
    | none => false) && fieldsB P fs os ts
  | _, _, _ => false

def tiB (P : Program) (t : TypeId) (i : TI) : Bool :=
  (match Nat.beq i.size 0 with
    | true => !i.agg && i.zero.isEmpty
    | false => (match P.info? t with
      | some inf => Nat.beq inf.size i.size && (match inf.zero with
        | some z => (isAggV z == i.agg) && zRow z.cells.toList i.zero && Nat.beq z.cells.size i.size
        | none => false)
      | none => false) && (match P.underlying t with
      | some d => isAggD d == i.agg
      | none => false)) &&
  (i.fields.isEmpty || (i.agg && !Nat.beq i.size 0 && (match P.underlying t with
    | some (.struct fs) => fieldsB P fs.toList i.fields i.ftys
    | _ => false))) &&
  (!i.sl || (match P.underlying t with
    | some (.slice e) => Nat.beq e i.elem
    | _ => false)) &&
  (match i.ety with
    | none => true
    | some u => i.sl && (match P.info? i.elem with
      | some inf => Nat.beq inf.size (esz u) && Nat.beq inf.bytes (ebytes u) && (match inf.zero with
        | some z => Nat.beq z.cells.size (esz u)
        | none => false)
      | none => false)) &&
  (Nat.beq i.len 0 || ((match P.underlying t with
    | some (.array n e) => Nat.beq n i.len && Nat.beq e i.elem
    | _ => false) && (P.info? i.elem).isSome)) &&
  (match i.ik with
    | none => true
    | some k => (match P.underlying t with
      | some (.int k') => ikBeq k k'
      | _ => false)) &&
  (match i.mkd with
    | none => true
    | some k => (match P.underlying t with
      | some (.map key e) => Nat.beq e i.elem && (match P.underlying key with
        | some (.int k') => ikBeq k k'
        | _ => false)
      | _ => false)) &&
  (!i.flt || (match P.underlying t with
    | some (.float .f64) => true
    | _ => false)) &&
  (!i.bl || (match P.underlying t with
    | some .bool => true
    | _ => false)) &&
  (!i.flat || (flatT P 30 i.zero t && !P.eqGuardType P.depth t))

theorem nbeq {a b : Nat} (h : Nat.beq a b = true) : a = b := Nat.eq_of_beq_eq_true h

theorem fieldsB_out {P : Program} : ∀ {fs : List Field} {os : List (Nat × Nat)} {ts : List TypeId}, fieldsB P fs os ts = true → fs.length = os.length ∧ ∀ (k : Nat) (f : Field), fs[k]? = some f →
    ∃ inf : TypeInfo, P.info? f.type = some inf ∧ os[k]? = some (f.offset, inf.size) ∧ ts[k]? = some f.type ∧ inf.size ≠ 0
  | [], [], [], _ => ⟨rfl, fun k f h => by simp at h⟩
  | [], [], _ :: _, h => by cases h
  | [], _ :: _, _, h => by cases h
  | _ :: _, [], _, h => by cases h
  | _ :: _, (_, _) :: _, [], h => by cases h
  | f :: fs, (off, size) :: os, t :: ts, h => by
    simp only [fieldsB, Bool.and_eq_true] at h
    obtain ⟨⟨⟨h1, h2⟩, h3⟩, h4⟩ := h
    obtain ⟨g1, g2⟩ := fieldsB_out h4
    refine ⟨by simp [g1], fun k q hq => ?_⟩
    cases k with
    | zero =>
      cases hq
      split at h3
      · rename_i inf hi
        simp only [Bool.and_eq_true, Bool.not_eq_true'] at h3
        refine ⟨inf, hi, by rw [nbeq h2, nbeq h3.1]; rfl, by rw [nbeq h1]; rfl, fun e => ?_⟩
        rw [← nbeq h3.1, e] at h3
        cases h3.2
      · cases h3
    | succ k => exact g2 k q (by simpa using hq)

theorem tiB_out {P : Program} {t : TypeId} {i : TI} (h : tiB P t i = true) : TIOk P t i ∧ (i.size = 0 → i.agg = false ∧ i.zero = []) := by
  simp only [tiB, Bool.and_eq_true] at h
  obtain ⟨⟨⟨⟨⟨⟨⟨⟨⟨h1, h2⟩, h3⟩, h4⟩, h5⟩, h6⟩, h7⟩, h8⟩, h9⟩, h10⟩ := h
  have big : i.size ≠ 0 → Nat.beq i.size 0 = false := fun hne => by
    cases hb : Nat.beq i.size 0 with
    | true => exact absurd (nbeq hb) hne
    | false => rfl
  refine ⟨⟨fun hne => ?_, fun hne => ?_, fun hne => ?_, fun hs => ?_, fun u hu => ?_, fun hne => ?_, fun k hk => ?_, fun k hk => ?_, fun hf => ?_, fun hf => ?_, fun hf => ?_⟩, fun e => ?_⟩
  · rw [big hne] at h1
    simp only [Bool.and_eq_true] at h1
    obtain ⟨h1, _⟩ := h1
    split at h1
    · rename_i inf hi
      simp only [Bool.and_eq_true] at h1
      obtain ⟨g1, g2⟩ := h1
      split at g2
      · rename_i z hz
        simp only [Bool.and_eq_true, beq_iff_eq] at g2
        exact ⟨inf, z, hi, nbeq g1, hz, g2.1.1, g2.1.2, nbeq g2.2⟩
      · cases g2
    · cases h1
  · rw [big hne] at h1
    simp only [Bool.and_eq_true] at h1
    obtain ⟨_, h1⟩ := h1
    split at h1
    · rename_i d hd
      exact ⟨d, hd, by simpa using h1⟩
    · cases h1
  · have he : i.fields.isEmpty = false := by cases hf : i.fields with
      | nil => exact absurd hf hne
      | cons x xs => rfl
    rw [he, Bool.false_or] at h2
    simp only [Bool.and_eq_true, Bool.not_eq_true'] at h2
    obtain ⟨⟨g1, g2⟩, g3⟩ := h2
    split at g3
    · rename_i fs hd
      obtain ⟨q1, q2⟩ := fieldsB_out g3
      exact ⟨g1, (fun e => by rw [e] at g2; cases g2), fs, hd, by simpa using q1, fun k f hk => q2 k f (by simpa using hk)⟩
    · cases g3
  · rw [hs] at h3
    simp only [Bool.not_true, Bool.false_or] at h3
    split at h3
    · rename_i e hd; rw [hd, nbeq h3]
    · cases h3
  · rw [hu] at h4
    simp only [Bool.and_eq_true] at h4
    obtain ⟨g1, g2⟩ := h4
    split at g2
    · rename_i inf hi
      simp only [Bool.and_eq_true] at g2
      obtain ⟨⟨q1, q2⟩, q3⟩ := g2
      split at q3
      · rename_i z hz
        exact ⟨g1, inf, z, hi, nbeq q1, nbeq q2, hz, nbeq q3⟩
      · cases q3
    · cases g2
  · have hb : Nat.beq i.len 0 = false := by
      cases hb : Nat.beq i.len 0 with
      | true => exact absurd (nbeq hb) hne
      | false => rfl
    rw [hb, Bool.false_or] at h5
    simp only [Bool.and_eq_true] at h5
    obtain ⟨g1, g2⟩ := h5
    split at g1
    · rename_i n e hd
      simp only [Bool.and_eq_true] at g1
      exact ⟨by rw [hd, nbeq g1.1, nbeq g1.2], Option.isSome_iff_exists.1 g2⟩
    · cases g1
  · rw [hk] at h6
    simp only at h6
    split at h6
    · rename_i k' hd; rw [hd, ikBeq_eq h6]
    · cases h6
  · rw [hk] at h7
    simp only at h7
    split at h7
    · rename_i key e hd
      simp only [Bool.and_eq_true] at h7
      obtain ⟨g1, g2⟩ := h7
      split at g2
      · rename_i k' hd2
        exact ⟨key, by rw [hd, nbeq g1], by rw [hd2, ikBeq_eq g2]⟩
      · cases g2
    · cases h7
  · rw [hf] at h8
    simp only [Bool.not_true, Bool.false_or] at h8
    split at h8
    · assumption
    · cases h8
  · rw [hf] at h9
    simp only [Bool.not_true, Bool.false_or] at h9
    split at h9
    · assumption
    · cases h9
  · rw [hf] at h10
    simp only [Bool.not_true, Bool.false_or, Bool.and_eq_true, Bool.not_eq_true'] at h10
    exact h10
  · rw [e] at h1
    have : Nat.beq 0 0 = true := rfl
    simp only [this, Bool.and_eq_true, Bool.not_eq_true', List.isEmpty_iff] at h1
    exact h1

def TTree.allB (P : Program) : TTree → Bool
  | .leaf => true
  | .node k v l r => tiB P k v && (l.allB P && r.allB P)

theorem tiB_default (P : Program) (t : TypeId) : tiB P t {} = true := rfl

theorem TTree.allB_out {P : Program} : ∀ {T : TTree}, T.allB P = true → ∀ t, tiB P t (T.get t) = true
  | .leaf, _, t => tiB_default P t
  | .node k v l r, h, t => by
    simp only [TTree.allB, Bool.and_eq_true] at h
    simp only [TTree.get]
    cases hb : Nat.beq t k with
    | true => rw [nbeq hb]; exact h.1
    | false =>
      simp only
      cases Nat.blt t k with
      | true => exact allB_out h.2.1 t
      | false => exact allB_out h.2.2 t

theorem tab_ok {C : Ctx} {T : TTree} (ht : C.tb = T.get) (h : T.allB C.P = true) (hm : C.P.follows .mixedOrders = true) : CtxOk C where
  ok t := by rw [ht]; exact (tiB_out (TTree.allB_out h t)).1
  agg0 t := by rw [ht]; exact fun e => ((tiB_out (TTree.allB_out h t)).2 e).1
  zero0 t := by rw [ht]; exact fun e => ((tiB_out (TTree.allB_out h t)).2 e).2
  mixed := hm

end Av
end
