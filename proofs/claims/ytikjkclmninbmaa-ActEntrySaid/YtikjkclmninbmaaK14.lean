/- The abstract machine: how code runs (1): one operation; regions in the text's order. The abstract machine: how code runs (2): regions in the text's order; any order. Own work. -/
import Derived.Test.YtikjkclmninbmaaK13
section
set_option linter.unusedSimpArgs false
set_option linter.unusedVariables false
set_option linter.unnecessarySimpa false
namespace Av
open Go

def typeds (C : Ctx) : List TypeId → List AV → List AV
  | t :: ts, v :: vs => typed C t v :: typeds C ts vs
  | _, vs => vs

theorem typedsK_iff {C : Ctx} : ∀ {ts : List TypeId} {vs : List AV} {k : List AV → Prop}, typedsK C ts vs k ↔ k (typeds C ts vs)
  | [], [], _ => Iff.rfl
  | [], _ :: _, _ => Iff.rfl
  | _ :: _, [], _ => Iff.rfl
  | t :: ts, v :: vs, k => by
    simp only [typedsK, typeds]
    rw [typedK_iff]
    exact typedsK_iff (ts := ts) (vs := vs) (k := fun vs => k (typed C t v :: vs))

theorem typeds_len {C : Ctx} : ∀ {ts : List TypeId} {vs : List AV}, (typeds C ts vs).length = vs.length
  | [], [] => rfl
  | [], _ :: _ => rfl
  | _ :: _, [] => rfl
  | t :: ts, v :: vs => by simp [typeds, typeds_len (ts := ts) (vs := vs)]

theorem typeds_get {C : Ctx} : ∀ {ts : List TypeId} {vs : List AV} {k : Nat} {v : AV}, (typeds C ts vs)[k]? = some v → ∃ u, vs[k]? = some u ∧ ∀ {G n w x}, Rep G n w x u → Rep G n w x v
  | [], [], _, _, h => ⟨_, h, fun h => h⟩
  | [], _ :: _, _, _, h => ⟨_, h, fun h => h⟩
  | _ :: _, [], _, _, h => ⟨_, h, fun h => h⟩
  | t :: ts, v :: vs, 0, u, h => by
    cases h
    exact ⟨v, rfl, fun h => h.typed C t⟩
  | t :: ts, v :: vs, k + 1, u, h => typeds_get (ts := ts) (vs := vs) (k := k) h

theorem Reps.typeds {G n w} {C : Ctx} {ts : List TypeId} {xs : Array Value} {vs : List AV} (h : Reps G n w xs vs) : Reps G n w xs (typeds C ts vs) := by
  rw [reps_iff] at *
  refine ⟨by rw [typeds_len]; exact h.1, fun k v hv => ?_⟩
  obtain ⟨u, hu, hr⟩ := typeds_get hv
  obtain ⟨x, hx, hxu⟩ := h.2 k u hu
  exact ⟨x, hx, hr hxu⟩

theorem Reps.cat {G n w} {xs ys : Array Value} {as bs : List AV} (h : Reps G n w xs as) (h' : Reps G n w ys bs) : Reps G n w (xs ++ ys) (as ++ bs) := by
  have := Reps.app (xs := xs.toList) (ys := ys.toList) (by simpa using h) (by simpa using h')
  have e : (xs.toList ++ ys.toList).toArray = xs ++ ys := by apply Array.ext'; simp
  rwa [e] at this

/-! Calls that ask for no object. -/
theorem Rep.zero {G : Gh} {w : World} {v : Value} {a : AV} (h : Rep G 0 w v a) {G' : Gh} {n' : Nat} {w' : World} (hp : ∀ b o, G.prot b o → G'.prot b o ∧ cellAt w' b o = cellAt w b o) : Rep G' n' w' v a := by
  have ht : ∀ {tok len cap b e}, TokOk G 0 tok len cap b e → TokOk G' n' tok len cap b e := by
    intro tok len cap b e h
    cases tok with
    | none => trivial
    | clip => exact h
    | own l v => exact absurd h.1 (Nat.not_lt_zero _)
  generalize hn : (0 : Nat) = n at h
  induction h with
  | junk v => exact .junk v
  | int k m => exact .int k m
  | bool b => exact .bool b
  | flt b => exact .flt b
  | cpx a b => exact .cpx a b
  | nilp => exact .nilp
  | ptr loc i e j hl => subst hn; exact absurd hl (Nat.not_lt_zero _)
  | vptr b o cs j vs hc _ ih => exact .vptr b o cs j vs (fun k hk => ⟨(hp _ _ (hc k hk).1).1, (hp _ _ (hc k hk).1).2.trans (hc k hk).2⟩) ih
  | nilsl => exact .nilsl
  | slnil t tok a h =>
    refine .slnil t tok a ?_
    cases tok with
    | none => trivial
    | clip => trivial
    | own l v => subst hn; exact absurd h.1 (Nat.not_lt_zero _)
  | sl t l tok b o cap vs h1 hc _ h4 ih => exact .sl t l tok b o cap vs h1 (fun i j hi hj => ⟨(hp _ _ (hc i j hi hj).1).1, (hp _ _ (hc i j hi hj).1).2.trans (hc i j hi hj).2⟩) ih (by subst hn; exact ht h4)
  | osl loc lo len e cap hl h1 h2 => subst hn; exact absurd hl (Nat.not_lt_zero _)
  | osl0 loc lo e a cap hl _ => subst hn; exact absurd hl (Nat.not_lt_zero _)
  | map loc hl => subst hn; exact absurd hl (Nat.not_lt_zero _)
  | fn f xs ys as bs h1 h2 _ _ i1 i2 => exact .fn f xs ys as bs h1 h2 i1 i2
  | yield loc hl => subst hn; exact absurd hl (Nat.not_lt_zero _)
  | nilfn => exact .nilfn
  | agg xs as h1 _ ih => exact .agg xs as h1 ih
  | tup xs as h1 _ ih => exact .tup xs as h1 ih

/-- What stands for itself. -/
theorem enc_zero {G n w} (t : ETy) (x : t.C) (j : Nat) (hj : j < esz t) : ∀ v, Rep G n w v ((enc t x).getD j .junk) → Rep G 0 w v ((enc t x).getD j .junk) := by
  have none : ∀ {u : ETy} {l : List u.C} {v : Value}, (∀ {i j} (h : i < l.length), j < esz u → ∀ v, Rep G n w v ((enc u l[i]).getD j .junk) → Rep G 0 w v ((enc u l[i]).getD j .junk)) → Rep G n w v (.sl u l .none) → Rep G 0 w v (.sl u l .none) := by
    intro u l v ih h
    cases h with
    | slnil => exact .slnil _ _ _ trivial
    | sl _ _ _ b o cap vs h1 h2 h3 h4 => exact .sl _ _ _ b o cap vs h1 h2 (fun i j hi hj => ih hi hj _ (h3 i j hi hj)) trivial
  have int : ∀ {k m v}, Rep G n w v (.int k m) → Rep G 0 w v (.int k m) := fun h => by cases h; exact .int _ _
  have bool : ∀ {m v}, Rep G n w v (.bool m) → Rep G 0 w v (.bool m) := fun h => by cases h; exact .bool _
  have base : ∀ (u : ETy), (u = .u64 ∨ u = .int ∨ u = .op ∨ u = .ans ∨ u = .entry) → ∀ (x : u.C) (j : Nat), j < esz u → ∀ v, Rep G n w v ((enc u x).getD j .junk) → Rep G 0 w v ((enc u x).getD j .junk) := by
    rintro u (rfl | rfl | rfl | rfl | rfl) x j hj v hv
    · match j, hj with
      | 0, _ => exact int hv
    · match j, hj with
      | 0, _ => exact int hv
    · match j, hj with
      | 0, _ => exact int hv
      | 1, _ => exact int hv
      | 2, _ => exact int hv
      | 3, _ => exact int hv
      | 4, _ => exact int hv
      | 5, _ => exact int hv
      | 6, _ => exact int hv
      | 7, _ => exact int hv
    · match j, hj with
      | 0, _ => exact int hv
      | 1, _ => exact int hv
      | 2, _ => exact bool hv
    · match j, hj with
      | 0, _ => exact int hv
      | 1, _ => exact int hv
  induction t generalizing j with
  | u64 => exact base _ (by simp) x j hj
  | int => exact base _ (by simp) x j hj
  | op => exact base _ (by simp) x j hj
  | ans => exact base _ (by simp) x j hj
  | entry => exact base _ (by simp) x j hj
  | node =>
    intro v hv
    match j, hj with
    | 0, _ => exact int hv
    | 1, _ => exact int hv
    | 2, _ => exact int hv
    | 3, _ => exact none (fun h hj v hv => base .u64 (by simp) _ _ hj v hv) hv
  | thread =>
    intro v hv
    match j, hj with
    | 0, _ => exact none (fun h hj v hv => base .u64 (by simp) _ _ hj v hv) hv
    | 1, _ => exact int hv
    | 2, _ => exact int hv
    | 3, _ => exact none (fun h hj v hv => base .entry (by simp) _ _ hj v hv) hv
    | 4, _ => exact none (fun h hj v hv => base .op (by simp) _ _ hj v hv) hv
    | 5, _ => exact none (fun h hj v hv => base .entry (by simp) _ _ hj v hv) hv
    | 6, _ => exact bool hv
    | 7, _ => exact none (fun h hj v hv => base .ans (by simp) _ _ hj v hv) hv
  | rows e ih =>
    intro v hv
    match j, hj with
    | 0, _ => exact none (fun h hj v hv => ih _ _ hj v hv) hv

theorem sl_zero {G n w v} {t : ETy} {l : List t.C} {tok : Tok} (h : Rep G n w v (.sl t l tok)) : Rep G 0 w v (.sl t l .none) := by
  cases h with
  | slnil => exact .slnil _ _ _ trivial
  | sl _ _ _ b o cap vs h1 h2 h3 h4 => exact .sl _ _ _ b o cap vs h1 h2 (fun i j hi hj => enc_zero _ _ _ hj _ (h3 i j hi hj)) trivial

def untok1 : AV → AV
  | .sl t l _ => .sl t l .none
  | v => v

def pure1 : AV → Bool
  | .int _ _ => true
  | .bool _ => true
  | .sl _ _ _ => true
  | _ => false

theorem pure1_zero {G n w v} {a : AV} (h : Rep G n w v a) (hp : pure1 a = true) : Rep G 0 w v (untok1 a) := by
  cases a with
  | int k m => cases h; exact .int _ _
  | bool m => cases h; exact .bool _
  | sl t l tok => exact sl_zero h
  | _ => cases hp

theorem pures1_all : ∀ {cs : List AV}, pures.pures1 cs = true → ∀ (k : Nat) (v : AV), cs[k]? = some v → pure1 v = true
  | [], _, k, v, h => by simp at h
  | c :: cs, hp, 0, v, h => by
    cases h
    simp only [pures.pures1, Bool.and_eq_true] at hp
    exact hp.1
  | c :: cs, hp, k + 1, v, h => by
    simp only [pures.pures1, Bool.and_eq_true] at hp
    exact pures1_all hp.2 k v (by simpa using h)

theorem pures_zero {G n w} : ∀ {as : List AV}, pures as = true → ∀ (k : Nat) (a : AV), as[k]? = some a → ∀ v, Rep G n w v a → Rep G 0 w v (untok a)
  | [], _, k, v, h => by simp at h
  | c :: cs, hp, k + 1, v, h => by
    simp only [pures, Bool.and_eq_true] at hp
    exact pures_zero hp.2 k v (by simpa using h)
  | c :: cs, hp, 0, a, h => by
    intro v hv
    cases h
    simp only [pures, Bool.and_eq_true] at hp
    have hp := hp.1
    cases c with
    | int k m => cases hv; exact .int _ _
    | bool m => cases hv; exact .bool _
    | flt b => cases hv; exact .flt _
    | cpx b c => cases hv; exact .cpx _ _
    | sl t l tok => exact sl_zero hv
    | agg cs =>
      cases hv with
      | agg xs _ h1 h2 =>
        have hr : Reps G n w xs cs := ⟨h1, h2⟩
        have hr' : Reps G 0 w xs (cs.map untok1) := by
          rw [reps_iff] at *
          refine ⟨by simpa using hr.1, fun k u hu => ?_⟩
          rw [List.getElem?_map] at hu
          obtain ⟨u', hu', rfl⟩ := Option.map_eq_some_iff.1 hu
          obtain ⟨x, hx, hxr⟩ := hr.2 k u' hu'
          exact ⟨x, hx, pure1_zero hxr (pures1_all hp k u' hu')⟩
        exact .agg _ _ hr'.1 hr'.2
    | _ => cases hp

theorem Reps.pures {G n w xs} {as : List AV} (h : Reps G n w xs as) (hp : Av.pures as = true) : Reps G 0 w xs (as.map untok) := by
  rw [reps_iff] at *
  refine ⟨by simpa using h.1, fun k u hu => ?_⟩
  rw [List.getElem?_map] at hu
  obtain ⟨u', hu', rfl⟩ := Option.map_eq_some_iff.1 hu
  obtain ⟨x, hx, hxr⟩ := h.2 k u' hu'
  exact ⟨x, hx, pures_zero hp k u' hu' x hxr⟩

/-- What a pure call leaves. -/
theorem Sim.after {G H w G' w'} (h : Sim G H w) (he : Ext G [] w G' [] w') (hpv : ∀ b o, G'.prot b o → b < w'.heap.size) :
    Sim { G with prot := G'.prot } H w' ∧ Ext G H w { G with prot := G'.prot } H w' := by
  have hno : ∀ b, ¬ Owned G [] b := by
    rintro b (⟨l, o, h, _⟩ | ⟨l, v, e, h, _⟩) <;> simp at h
  have hold : ∀ b, b < w.heap.size → w'.heap[b]? = w.heap[b]? := fun b hb => he.frame b hb (hno b)
  have hpn : ∀ b o, G'.prot b o → G.prot b o ∨ w.heap.size ≤ b := fun b o hp => by
    by_cases q : G.prot b o
    · exact .inl q
    · rcases he.prot b o hp q with r | r
      · exact .inr r
      · exact absurd r (hno b)
  have hle : Le G H.length w { G with prot := G'.prot } H.length w' := ⟨Nat.le_refl _, fun _ _ => rfl, fun _ _ => Nat.le_refl _, fun _ _ _ => rfl, fun b o hp => he.le.prot b o hp⟩
  refine ⟨⟨fun l o ho => (h.obj l o ho).mono hle (lt_of_get ho) (fun hr => hold _ (h.lt l o ho hr)) (fun _ _ => rfl), fun l o ho hr => Nat.lt_of_lt_of_le (h.lt l o ho hr) he.size, ?_, h.inj, ?_, h.tobj, h.tinj, hpv⟩,
    ⟨he.size, hle, fun b hb _ => hold b hb, fun b o p q => ?_, fun _ o => .inr o, he.os, he.tape, he.output⟩⟩
  · intro l o ho hm p hp
    rcases hpn _ _ hp with q | q
    · exact h.free l o ho hm p q
    · have := h.lt l o ho (AObj.real_of_mut hm)
      simp only at q; omega
  · intro l v b e ho ht
    obtain ⟨⟨c', hc, hcs'⟩, hf⟩ := h.tail l v b e ho ht
    refine ⟨⟨c', hc.congr (hold b hc.lt), hcs'⟩, fun p hp hpr => ?_⟩
    rcases hpn _ _ hpr with q | q
    · exact hf p hp q
    · have := hc.lt; omega
  · rcases hpn _ _ p with r | r
    · exact absurd r q
    · exact .inl r

/-- A pure call, among objects. -/
theorem PureCall.real {P : Program} {f : Nat} {args : List AV} {r : AV} (h : PureCall P f (args.map untok) r) (hp : pures args = true) {H : List AObj} {K : AV → List AObj → Prop} (hk : K r H) : RealCall P f args H K where
  fn := h.fn
  run G w vs hs hr := by
    refine CallsIn.mono (h.run G w vs hs.pv (hr.pures hp)) fun e w' => ?_
    rintro ⟨v, G', rfl, hpv, hrep, hext⟩
    obtain ⟨h1, h2⟩ := hs.after hext hpv
    exact ⟨v, r, H, _, rfl, hk, h1, hrep.zero (fun b o hp => ⟨hp, rfl⟩), h2⟩

/-! One operation. -/
theorem run_callFunc {P : Program} {f : Nat} {args : Array Value} {w : World} (h : HasFn P f) : (callFunc f args).run P w = .ok (.enter f args) w := by
  obtain ⟨fn, c, h1, h2, h3⟩ := h
  have h3' : ¬ fn.name = "runtime.NumGoroutine" := by simpa using h3
  simp [callFunc, h1, h2, h3']

theorem wide_depth (h : Fence.wide.depth.isSome = true) : False := by simp [Fence.wide] at h

theorem op_sound {C : Ctx} (hT : TabOk C) {draw : Bool} {G : Gh} {s : List AV} {H : List AObj} {a : Act} {w : World} (hs : Sim G H w) (ht : Reps G H.length w a.tmps s) {o : Oper} {k : AV → List AObj → Prop}
    (h : opK C draw o.op o.type o.dst s H k) {next : Act → World → Prop} {Q : Exit → Act → World → Prop}
    (hn : ∀ v H' G' x w', k v H' → Sim G' H' w' → Rep G' H'.length w' x v → Ext G H w G' H' w' → next (a.put o.dst x) w') : o.wpIn Fence.wide 0 C.P a w next Q := by
  refine ⟨fun _ _ => trivial, ?_⟩
  show o.uponIn Fence.wide 0 C.P a next Q ((execOp a.eval o).run C.P w)
  by_cases hc : ∀ c, o.op = .call c → ∃ b, c.callee = .builtin b
  · obtain ⟨nx, x, w', v, H', G', hrun, hnx, hk, h1, h2, h3⟩ := opK_out hT hs ht hc h
    rw [hrun]
    rcases hnx with rfl | ⟨rfl, rfl⟩
    · exact hn v H' G' x w' hk h1 h2 h3
    · exact hn v H' G' _ w' hk h1 h2 h3
  · obtain ⟨dst, op, ty, pos, after, gd⟩ := o
    cases op with
    | call c =>
      obtain ⟨callee, args, ats⟩ := c
      cases callee with
      | builtin b => exact absurd (fun c e => by cases e; exact ⟨b, rfl⟩) hc
      | invoke a b =>
        obtain ⟨vs, h, hvs⟩ := evs_out ht h
        exact h.elim
      | value f =>
        obtain ⟨vs, h, hvs⟩ := evs_out ht h
        obtain ⟨v, h, hv⟩ := ev_out ht h
        rw [← arr_map] at hvs
        cases v with
        | fn g first caps =>
          have h := catK_iff.1 (catK_iff.1 (typedsK_iff.1 h))
          generalize hf : a.eval f = fv at hv
          cases hv with
          | fn _ xs ys _ _ h1 h2 h3 h4 =>
            have hargs : Reps G H.length w (xs ++ args.map a.eval ++ ys) (first ++ (typeds C ats.toList vs ++ caps)) := by
              rw [← List.append_assoc]
              exact Reps.cat (Reps.cat ⟨h1, h3⟩ hvs.typeds) ⟨h2, h4⟩
            have hrc : RealCall C.P g (first ++ (typeds C ats.toList vs ++ caps)) H k := by
              cases draw with
              | false => exact h
              | true =>
                simp only [callK] at h
                split at h
                · obtain ⟨hp, r, hpc, hk⟩ := guardK_iff.1 h
                  exact hpc.real hp hk
                · split at h
                  · refine ⟨h.fn, fun G w vs hs hr => CallsIn.mono (h.run G w vs hs hr) ?_⟩
                    rintro e w' ⟨v, r, H', G', e1, hk, h5⟩
                    exact ⟨v, r, H', G', e1, hk.2, h5⟩
                  · exact h
            have hrun : (execOp a.eval ⟨dst, .call ⟨.value f, args, ats⟩, ty, pos, after, gd⟩).run C.P w = .ok (.enter g (xs ++ args.map a.eval ++ ys)) w := by
              simp only [execOp, resolve, hf, Deferred.ofValue, Sem.run_bind, Sem.run_pure, Result.andThen_ok, invoke]
              exact run_callFunc hrc.fn
            rw [hrun]
            refine ⟨fun h => (wide_depth h).elim, CallsIn.mono (hrc.run G w _ hs hargs) ?_⟩
            rintro e w' ⟨v, r, H', G', rfl, hk, h5, h6, h7⟩
            exact hn r H' G' v w' hk h5 h6 h7
        | _ => exact h.elim
    | _ => exact absurd (fun c e => by cases e) hc

end Av
end
section
set_option linter.unusedSimpArgs false
set_option linter.unusedVariables false
set_option linter.unnecessarySimpa false
namespace Av
open Go

theorem dstOf_eq : ∀ {l : List Oper} {j : Nat}, dstOf l j = (l[j]?).bind (·.dst)
  | [], j => by simp [dstOf]
  | o :: l, 0 => rfl
  | o :: l, j + 1 => by simp [dstOf, dstOf_eq (l := l) (j := j)]

def put1 (s : List AV) (d : Option Tmp) (v : AV) : List AV := match d with
  | none => s
  | some d => s.set d v

def putOk (s : List AV) (d : Option Tmp) : Prop := ∀ d', d = some d' → d' < s.length

theorem putK_iff {s : List AV} {d : Option Tmp} {v : AV} {k : List AV → Prop} : putK s d v k ↔ putOk s d ∧ k (put1 s d v) := by
  cases d with
  | none => simp [putK, putOk, put1]
  | some d => simp [putK, putOk, put1, setK_iff]

theorem SimS.put {G : Gh} {s : List AV} {H : List AObj} {a : Act} {w : World} (hs : Sim G H w) (ht : Reps G H.length w a.tmps s) (hd : a.defers = []) (d : Option Tmp) {x : Value} {v : AV} (hv : Rep G H.length w x v) :
    SimS G ⟨put1 s d v, H⟩ (a.put d x) w := by
  cases d with
  | none => exact ⟨hs, ht, hd⟩
  | some d => exact ⟨hs, ht.set hv, hd⟩

theorem set_same {s : List AV} {d : Nat} {v : AV} (h : s[d]? = some v) : s.set d v = s := by
  obtain ⟨h1, h2⟩ := List.getElem?_eq_some_iff.1 h
  rw [← h2]; exact List.set_getElem_self h1

/-- What is asked of one operation: without its guard. -/
def opThen (C : Ctx) (draw : Bool) (o : Oper) (s : List AV) (H : List AObj) (k : List AV → List AObj → Prop) : Prop :=
  opK C draw o.op o.type o.dst s H fun v H => putK s o.dst v fun s => k s H

def guardOk (all : List Oper) (o : Oper) (s : List AV) : Option Bool :=
  match o.guard with
  | none => some true
  | some (j, want) => match dstOf all j with
    | none => none
    | some d => match s[d]? with
      | some (.bool p) => some (p == want)
      | some (.tup []) => some false
      | _ => none

theorem stepK_iff {C : Ctx} {draw : Bool} {all : List Oper} {o : Oper} {s : List AV} {H : List AObj} {k : List AV → List AObj → Prop} :
    stepK C draw all o s H k ↔ (guardOk all o s = some true ∧ opThen C draw o s H k) ∨ (guardOk all o s = some false ∧ putK s o.dst .undef fun s => k s H) := by
  unfold stepK guardOk opThen
  rcases hg : o.guard with _ | ⟨j, want⟩
  · simp
  · simp only
    cases hd : dstOf all j with
    | none => simp
    | some d =>
      simp only
      rw [getK_iff]
      cases hv : s[d]? with
      | none => simp
      | some v =>
        simp only [Option.some.injEq, exists_eq_left']
        cases v with
        | bool p =>
          cases p <;> cases want <;> simp [setK_iff, set_same hv, lt_of_get hv]
        | tup vs => cases vs <;> simp
        | _ => simp

theorem step_sound {C : Ctx} (hT : TabOk C) {draw : Bool} {ops : Array Oper} {i : Nat} {o : Oper} (hi : ops[i]? = some o) {G : Gh} {s : List AV} {H : List AObj} {a : Act} {w : World} (hs : SimS G ⟨s, H⟩ a w) {k : List AV → List AObj → Prop}
    (h : stepK C draw ops.toList o s H k) {K : Act → World → Prop} {Q : Exit → Act → World → Prop}
    (hn : ∀ s' H' G' a' w', k s' H' → SimS G' ⟨s', H'⟩ a' w' → Ext G H w G' H' w' → K a' w') : wpOpIn Fence.wide 0 C.P ops Q i K a w := by
  unfold wpOpIn
  simp only [hi]
  have hw : ∀ b, guardOk ops.toList o s = some b → Region.wanted o (yielded ops a.tmps) = b := by
    intro b hb
    unfold guardOk at hb
    unfold Region.wanted
    split at hb
    · rename_i hg; rw [hg]; simpa using hb
    · rename_i j want hg
      rw [hg]
      split at hb
      · cases hb
      · rename_i d hd
        split at hb
        · rename_i p hp
          rw [dstOf_eq] at hd
          obtain ⟨x, hx, hxr⟩ := (reps_iff.1 hs.tmps).2 d _ hp
          have hx' := rep_bool hxr
          subst hx'
          have : yielded ops a.tmps j = some p := by
            unfold yielded
            have hd' : (ops[j]?).bind (·.dst) = some d := by simpa using hd
            rw [hd']
            simp only [Option.bind_some, hx]
          simp only [this]
          cases hb
          cases p <;> cases want <;> rfl
        · rename_i hp
          rw [dstOf_eq] at hd
          obtain ⟨x, hx, hxr⟩ := (reps_iff.1 hs.tmps).2 d _ hp
          have : yielded ops a.tmps j = none := by
            unfold yielded
            have hd' : (ops[j]?).bind (·.dst) = some d := by simpa using hd
            rw [hd']
            cases hxr
            simp only [Option.bind_some, hx]
          simp only [this]
          cases hb
          rfl
        · cases hb
  rcases stepK_iff.1 h with ⟨hg, h⟩ | ⟨hg, h⟩
  · rw [if_pos (hw true hg)]
    refine op_sound hT hs.sim hs.tmps h fun v H' G' x w' hk h1 h2 h3 => ?_
    exact hn _ _ G' _ _ (putK_iff.1 hk).2 (SimS.put h1 (hs.tmps.mono h3.le) hs.defers o.dst h2) h3
  · rw [hw false hg]
    simp only [Bool.false_eq_true, if_false]
    exact ⟨fun _ _ => trivial, hn _ _ G _ _ (putK_iff.1 h).2 (SimS.put hs.sim hs.tmps hs.defers o.dst (.tup _ _ rfl fun k hk => absurd hk (by simp))) (Ext.refl _ _ _)⟩

/-- Operations in the text's order. -/
theorem ops_sound {C : Ctx} (hT : TabOk C) {ops : Array Oper} {Q : Exit → Act → World → Prop} : ∀ (m i : Nat), i + m = ops.size → ∀ {G : Gh} {s : List AV} {H : List AObj} {a : Act} {w : World}, SimS G ⟨s, H⟩ a w → ∀ {k : List AV → List AObj → Prop},
    opsK C ops.toList (ops.toList.drop i) s H k → (∀ s' H' G' a' w', k s' H' → SimS G' ⟨s', H'⟩ a' w' → Ext G H w G' H' w' → Q .normal a' w') → wpOpsIn Fence.wide 0 C.P ops Q (List.range' i m) a w
  | 0, i, hm, G, s, H, a, w, hs, k, h, hn => by
    rw [List.drop_eq_nil_of_le (by simp; omega)] at h
    exact hn s H G a w h hs (Ext.refl _ _ _)
  | m + 1, i, hm, G, s, H, a, w, hs, k, h, hn => by
    have hi : i < ops.toList.length := by simp; omega
    rw [List.drop_eq_getElem_cons hi] at h
    simp only [opsK] at h
    rw [List.range'_succ, wpOpsIn_cons]
    refine step_sound hT (o := ops.toList[i]) (by simp at hi; simp [hi]) hs h fun s' H' G' a' w' hk hs' he => ?_
    exact ops_sound hT m (i + 1) (by omega) hs' hk fun s2 H2 G2 a2 w2 hk2 hs2 he2 => hn s2 H2 G2 a2 w2 hk2 hs2 (he.trans he2)

theorem region_sound {C : Ctx} (hT : TabOk C) {id : Nat} {ops : Array Oper} {s : List AV} {H : List AObj} {Q : Out → St → Prop} (h : opsK C ops.toList ops.toList s H fun s H => Q .normal ⟨s, H⟩) : RealCode C.P (.region id ops false) Q ⟨s, H⟩ where
  run G a w hs := by
    refine wpIn_region ?_
    rw [List.range_eq_range']
    exact ops_sound hT ops.size 0 (by omega) hs (by simpa using h) fun s' H' G' a' w' hk hs' he => ⟨.normal, _, G', rfl, hk, hs', he⟩

/-! Any order. -/
def anyK (C : Ctx) (ops : Array Oper) (k : List AV → List AObj → Prop) : Nat → Array Bool → List AV → List AObj → Prop
  | 0, listed, s, H => Region.ready .any ops listed = [] ∧ k s H
  | n + 1, listed, s, H => (Region.ready .any ops listed = [] → k s H) ∧ ∀ i ∈ Region.ready .any ops listed, ∃ o, ops[i]? = some o ∧ stepK C true ops.toList o s H (anyK C ops k n (listed.setIfInBounds i true))

theorem any_sound {C : Ctx} (hT : TabOk C) {ops : Array Oper} {Q : Exit → Act → World → Prop} {k : List AV → List AObj → Prop} : ∀ (n : Nat) (listed : Array Bool) {G : Gh} {s : List AV} {H : List AObj} {a : Act} {w : World}, SimS G ⟨s, H⟩ a w →
    anyK C ops k n listed s H → (∀ s' H' G' a' w', k s' H' → SimS G' ⟨s', H'⟩ a' w' → Ext G H w G' H' w' → Q .normal a' w') → wpAnyIn Fence.wide 0 C.P .any ops Q n listed a w
  | 0, listed, G, s, H, a, w, hs, h, hn => ⟨h.1, hn s H G a w h.2 hs (Ext.refl _ _ _)⟩
  | n + 1, listed, G, s, H, a, w, hs, h, hn => ⟨fun he => hn s H G a w (h.1 he) hs (Ext.refl _ _ _), fun i hi => by
      obtain ⟨o, ho, hst⟩ := h.2 i hi
      exact step_sound hT ho hs hst fun s' H' G' a' w' hk hs' he => any_sound hT n _ hs' hk fun s2 H2 G2 a2 w2 hk2 hs2 he2 => hn s2 H2 G2 a2 w2 hk2 hs2 (he.trans he2)⟩

end Av
end
