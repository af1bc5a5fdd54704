/- The abstract machine: what the forced forms say. The abstract machine: how operations run (1): memory. Own work. -/
import Derived.Test.YtikjkclmninbmaaK03
import Derived.Laws.CopyRow
import Derived.Laws.Tables
section
set_option linter.unusedSimpArgs false
set_option linter.unusedVariables false
set_option linter.unnecessarySimpa false
namespace Av
open Go

theorem headK_iff {v : AV} {k : AV → Prop} : headK v k ↔ k v := by cases v <;> exact Iff.rfl

theorem getK_iff {xs : List AV} {n : Nat} {k : AV → Prop} : getK xs n k ↔ ∃ v, xs[n]? = some v ∧ k v := by
  induction xs generalizing n with
  | nil => simp [getK]
  | cons x xs ih => cases n <;> simp [getK, ih]

theorem setK_iff {xs : List AV} {n : Nat} {v : AV} {k : List AV → Prop} : setK xs n v k ↔ n < xs.length ∧ k (xs.set n v) := by
  induction xs generalizing n k with
  | nil => simp [setK]
  | cons x xs ih => cases n <;> simp [setK, ih]

theorem takeK_iff {xs : List AV} {n : Nat} {k : List AV → Prop} : takeK xs n k ↔ n ≤ xs.length ∧ k (xs.take n) := by
  induction xs generalizing n k with
  | nil => cases n <;> simp [takeK]
  | cons x xs ih => cases n <;> simp [takeK, ih]

theorem cutK_iff {xs : List AV} {j n : Nat} {k : List AV → Prop} : cutK xs j n k ↔ (j + n ≤ xs.length ∨ (j = 0 ∧ n = 0)) ∧ k ((xs.drop j).take n) ∧ (j ≤ xs.length) := by
  induction xs generalizing j k with
  | nil => cases j <;> simp [cutK, takeK_iff]
  | cons x xs ih =>
    cases j with
    | zero =>
      simp only [cutK, takeK_iff, List.length_cons, List.drop_zero]
      constructor
      · rintro ⟨h1, h2⟩; exact ⟨.inl (by omega), h2, by omega⟩
      · rintro ⟨h1, h2, _⟩; exact ⟨by omega, h2⟩
    | succ j =>
      simp only [cutK, ih, List.length_cons, List.drop_succ_cons]
      constructor
      · rintro ⟨h | ⟨rfl, rfl⟩, h2, h3⟩
        · exact ⟨.inl (by omega), h2, by omega⟩
        · exact ⟨.inl (by omega), h2, by omega⟩
      · rintro ⟨h | ⟨h, _⟩, h2, h3⟩
        · exact ⟨.inl (by omega), h2, by omega⟩
        · omega

theorem cutK_le {xs : List AV} {j n : Nat} {k : List AV → Prop} (h : cutK xs j n k) : j + n ≤ xs.length ∧ k ((xs.drop j).take n) := by
  obtain ⟨h1, h2, h3⟩ := cutK_iff.1 h
  exact ⟨by omega, h2⟩

theorem overK_iff {xs vs : List AV} {k : List AV → Prop} : overK xs vs k ↔ vs.length ≤ xs.length ∧ k (vs ++ xs.drop vs.length) := by
  induction xs generalizing vs k with
  | nil => cases vs <;> simp [overK]
  | cons x xs ih => cases vs <;> simp [overK, ih]

theorem patchK_iff {xs : List AV} {j : Nat} {vs : List AV} {k : List AV → Prop} : patchK xs j vs k ↔ (j ≤ xs.length ∧ j + vs.length ≤ xs.length) ∧ k (xs.take j ++ vs ++ xs.drop (j + vs.length)) := by
  induction xs generalizing j k with
  | nil => cases j <;> simp [patchK, overK_iff]
  | cons x xs ih =>
    cases j with
    | zero => simp [patchK, overK_iff]
    | succ j =>
      simp only [patchK, ih, List.length_cons, List.take_succ_cons, List.cons_append, show j + 1 + vs.length = (j + vs.length) + 1 from by omega, List.drop_succ_cons]
      constructor <;> rintro ⟨⟨h1, h2⟩, h3⟩ <;> exact ⟨⟨by omega, by omega⟩, h3⟩

theorem hgetK_iff {H : List AObj} {n : Nat} {k : AObj → Prop} : hgetK H n k ↔ ∃ o, H[n]? = some o ∧ k o := by
  induction H generalizing n with
  | nil => simp [hgetK]
  | cons x xs ih => cases n <;> simp [hgetK, ih]

theorem hsetK_iff {H : List AObj} {n : Nat} {v : AObj} {k : List AObj → Prop} : hsetK H n v k ↔ n < H.length ∧ k (H.set n v) := by
  induction H generalizing n k with
  | nil => simp [hsetK]
  | cons x xs ih => cases n <;> simp [hsetK, ih]

theorem appK_iff {H : List AObj} {o : AObj} {k : List AObj → Prop} : appK H o k ↔ k (H ++ [o]) := by
  induction H generalizing k with
  | nil => simp [appK]
  | cons x xs ih => simp [appK, ih]

theorem placeK_iff {H : List AObj} {ms : List Nat} {n : Nat} {k : Nat → Prop} : placeK H ms n k ↔ k (n + H.length) := by
  induction H generalizing ms n with
  | nil =>
    cases ms with
    | nil => simp [placeK]
    | cons m ms =>
      simp only [placeK, List.length_nil, Nat.add_zero]
      split
      · rename_i h; rw [Nat.eq_of_beq_eq_true h]
      · exact Iff.rfl
  | cons x xs ih =>
    cases ms <;> simp only [placeK, ih, List.length_cons, show n + 1 + xs.length = n + (xs.length + 1) from by omega]

theorem pushK_iff {H : List AObj} {o : AObj} {k : Nat → List AObj → Prop} : pushK H o k ↔ k H.length (H ++ [o]) := by
  simp [pushK, placeK_iff, appK_iff]

theorem rowK_iff {xs : List AV} {k : List AV → Prop} : rowK xs k ↔ k xs := by
  induction xs generalizing k with
  | nil => exact Iff.rfl
  | cons x xs ih => simp [rowK, headK_iff, ih]

theorem catK_iff {xs ys : List AV} {k : List AV → Prop} : catK xs ys k ↔ k (xs ++ ys) := by
  induction xs generalizing k with
  | nil => exact Iff.rfl
  | cons x xs ih => simp [catK, ih]

theorem nthK_iff {α : Type} {xs : List α} {n : Nat} {k : α → Prop} : nthK xs n k ↔ ∃ v, xs[n]? = some v ∧ k v := by
  induction xs generalizing n with
  | nil => simp [nthK]
  | cons x xs ih => cases n <;> simp [nthK, ih]

theorem guardK_iff {b : Bool} {A : Prop} : guardK b A ↔ b = true ∧ A := by cases b <;> simp [guardK]

theorem lenIs_eq {xs : List AV} {n : Nat} (h : lenIs xs n = true) : xs.length = n ∧ n ≠ 0 := by
  induction xs generalizing n with
  | nil => cases n <;> cases h
  | cons x xs ih =>
    cases xs with
    | nil =>
      cases n with
      | zero => cases h
      | succ n =>
        cases n with
        | zero => exact ⟨rfl, by omega⟩
        | succ n => simp [lenIs] at h
    | cons y ys =>
      cases n with
      | zero => cases h
      | succ n =>
        have : lenIs (y :: ys) n = true := by
          cases n with
          | zero => simp [lenIs] at h
          | succ n => simpa [lenIs] using h
        obtain ⟨h1, h2⟩ := ih this
        exact ⟨by simp only [List.length_cons] at h1 ⊢; omega, by omega⟩

theorem typedK_iff {C : Ctx} {t : TypeId} {v : AV} {k : AV → Prop} : typedK C t v k ↔ k (typed C t v) := headK_iff

theorem cellsK_iff {v : AV} {k : List AV → Prop} : cellsK v k ↔ k (cellsOf v) := rowK_iff

theorem valK_out {agg : Bool} {r : List AV} {k : AV → Prop} (h : valK agg r k) : (agg = true ∧ k (.agg r)) ∨ (agg = false ∧ ∃ v, r = [v] ∧ k v) := by
  unfold valK at h
  split at h
  · exact .inl ⟨rfl, h⟩
  · exact .inr ⟨rfl, _, rfl, h⟩
  · exact h.elim

theorem has_iff {l : List Nat} {n : Nat} : has l n = true ↔ n ∈ l := by
  induction l with
  | nil => simp [has]
  | cons x xs ih =>
    simp only [has, Bool.or_eq_true, ih, List.mem_cons]
    constructor
    · rintro (h | h)
      · exact .inl (Nat.eq_of_beq_eq_true h).symm
      · exact .inr h
    · rintro (h | h)
      · exact .inl (by subst h; exact Nat.beq_refl _)
      · exact .inr h

/-! Values behind operands. -/
theorem Rep.typed {G n w v a} (C : Ctx) (t : TypeId) (h : Rep G n w v a) : Rep G n w v (typed C t a) := by
  cases h with
  | nilsl =>
    simp only [Av.typed]
    split
    · exact .slnil _ _ _ trivial
    · exact .nilsl
  | _ => simp only [Av.typed]; constructor <;> assumption

theorem ofConst_rep {G n w} (v : Value) : Rep G n w v (ofConst v) := by
  unfold ofConst
  split <;> constructor

theorem ev_out {G n w} {a : Act} {s : List AV} {x : Operand} {k : AV → Prop} (ht : Reps G n w a.tmps s) (h : ev s x k) : ∃ v, k v ∧ Rep G n w (a.eval x) v := by
  cases x with
  | tmp t =>
    obtain ⟨v, hv, hk⟩ := getK_iff.1 h
    refine ⟨v, hk, ?_⟩
    have := ht.2 t (lt_of_get hv)
    rw [List.getD_eq_getElem?_getD, hv] at this
    exact this
  | const v => exact ⟨_, headK_iff.1 h, ofConst_rep v⟩
  | func f => exact ⟨_, h, .fn f #[] #[] [] [] rfl rfl (fun k hk => absurd hk (by simp)) (fun k hk => absurd hk (by simp))⟩
  | global g => exact h.elim

theorem reps_nil {G n w} : Reps G n w #[] [] := ⟨rfl, fun k hk => absurd hk (by simp)⟩

theorem Reps.cons {G n w} {x : Value} {xs : List Value} {a : AV} {as : List AV} (h : Rep G n w x a) (hs : Reps G n w xs.toArray as) : Reps G n w (x :: xs).toArray (a :: as) := by
  refine ⟨by have := hs.1; simp at this ⊢; exact this, fun k hk => ?_⟩
  cases k with
  | zero => exact h
  | succ k => have := hs.2 k (by simpa using hk); simpa using this

theorem evs_out {G n w} {a : Act} {s : List AV} : ∀ {xs : List Operand} {k : List AV → Prop}, Reps G n w a.tmps s → evs s xs k → ∃ vs, k vs ∧ Reps G n w (xs.map a.eval).toArray vs
  | [], _, _, h => ⟨[], h, reps_nil⟩
  | x :: xs, k, ht, h => by
    obtain ⟨v, hv, hr⟩ := ev_out (x := x) ht h
    obtain ⟨vs, hk, hrs⟩ := evs_out ht hv
    exact ⟨v :: vs, hk, .cons hr hrs⟩

theorem Reps.get {G n w xs as} (h : Reps G n w xs as) {k : Nat} {a : AV} (ha : as[k]? = some a) : Rep G n w (xs.getD k undef) a := by
  have := h.2 k (lt_of_get ha)
  rw [List.getD_eq_getElem?_getD, ha] at this
  exact this

theorem Reps.set {G n w xs as} (h : Reps G n w xs as) {k : Nat} {x : Value} {a : AV} (ha : Rep G n w x a) : Reps G n w (xs.setIfInBounds k x) (as.set k a) := by
  refine ⟨by simp [h.1], fun i hi => ?_⟩
  have hi' : i < as.length := by simpa using hi
  have hx : i < xs.size := by rw [h.1]; exact hi'
  by_cases e : i = k
  · subst e
    simpa [hi', hx] using ha
  · have := h.2 i hi'
    simp [List.getElem?_set_ne (Ne.symm e), Array.getElem?_setIfInBounds_ne (Ne.symm e)] at this ⊢
    exact this

end Av
end
section
set_option linter.unusedSimpArgs false
set_option linter.unusedVariables false
set_option linter.unnecessarySimpa false
namespace Av
open Go

/-- An operation ran, and came to what is asked. -/
def Ran (r : Result Next) (G : Gh) (H : List AObj) (w : World) (k : AV → List AObj → Prop) : Prop :=
  ∃ nx x w' v H' G', r = .ok nx w' ∧ (nx = .value x ∨ (nx = .skip ∧ x = undef)) ∧ k v H' ∧ Sim G' H' w' ∧ Rep G' H'.length w' x v ∧ Ext G H w G' H' w'

structure Pre (G : Gh) (s : List AV) (H : List AObj) (a : Act) (w : World) : Prop where
  sim : Sim G H w
  tmps : Reps G H.length w a.tmps s

theorem run_v {P : Program} {s : Sem Value} {w w' : World} {x : Value} (h : s.run P w = .ok x w') : (do pure (Next.value (← s)) : Sem Next).run P w = .ok (.value x) w' := by
  simp only [Sem.run_bind, h, Result.andThen_ok, Sem.run_pure]

theorem run_u {P : Program} {s : Sem Unit} {w w' : World} (h : s.run P w = .ok () w') : (do s; pure Next.skip : Sem Next).run P w = .ok .skip w' := by
  simp only [Sem.run_bind, h, Result.andThen_ok, Sem.run_pure]

theorem Ran.value {P : Program} {s : Sem Value} {G H w k} {x : Value} {v : AV} (hs : s.run P w = .ok x w) (hsim : Sim G H w) (hk : k v H) (hr : Rep G H.length w x v) :
    Ran ((do pure (Next.value (← s)) : Sem Next).run P w) G H w k :=
  ⟨.value x, x, w, v, H, G, run_v hs, .inl rfl, hk, hsim, hr, Ext.refl _ _ _⟩

theorem run_typeInfo {P : Program} {w : World} {t : TypeId} {inf : TypeInfo} (h : P.info? t = some inf) : (typeInfo t).run P w = .ok inf w := by
  simp [typeInfo, h]

theorem run_sizeOf {P : Program} {w : World} {t : TypeId} {inf : TypeInfo} (h : P.info? t = some inf) : (Go.sizeOf t).run P w = .ok inf.size w := by
  simp [Go.sizeOf, run_typeInfo h]

theorem run_zeroValue {P : Program} {w : World} {t : TypeId} {inf : TypeInfo} {z : Value} (h : P.info? t = some inf) (hz : inf.zero = some z) : (zeroValue t).run P w = .ok z w := by
  simp [zeroValue, run_typeInfo h, hz]

theorem run_under {P : Program} {w : World} {t : TypeId} {d : TypeDesc} (h : P.underlying t = some d) : (underlying t).run P w = .ok d w := by
  simp [underlying, h]

theorem run_isAgg {P : Program} {w : World} {t : TypeId} {d : TypeDesc} (h : P.underlying t = some d) : (isAgg t).run P w = .ok (isAggD d) w := by
  unfold isAgg
  simp only [Sem.run_bind, run_under h, Result.andThen_ok]
  cases d <;> rfl

theorem add_block (b o n : Nat) : (⟨b, o, none⟩ : Addr).add n = ⟨b, o + n, none⟩ := by
  unfold Addr.add; split <;> simp_all

/-- A row of cells, loaded as a variable. -/
theorem run_loadVar {P : Program} {w : World} {t : TypeId} {b o : Nat} {d : TypeDesc} {inf : TypeInfo} (hd : P.underlying t = some d) (hi : P.info? t = some inf)
    (f : Nat → Value) (hc : ∀ j, j < inf.size → cellAt w b (o + j) = some (f j)) (h1 : isAggD d = false → inf.size = 1) :
    (loadVar t ⟨b, o, none⟩).run P w = .ok (if isAggD d then .agg ((List.range inf.size).map f).toArray else f 0) w := by
  unfold loadVar
  simp only [Sem.run_bind, run_isAgg hd, Result.andThen_ok]
  cases hag : isAggD d with
  | true =>
    simp only [if_true, Sem.run_bind, run_sizeOf hi, Result.andThen_ok]
    rw [run_loadCells w _ inf.size f (fun j hj => by rw [add_block]; exact hc j hj)]
    rfl
  | false =>
    have := hc 0 (by rw [h1 hag]; omega)
    simp only [Bool.false_eq_true, if_false, run_load]
    rw [show w.cell? ⟨b, o, none⟩ = some (f 0) from by simpa [cellAt] using this]

theorem reps_range {G n w} {m : Nat} {f : Nat → Value} {as : List AV} (hl : as.length = m) (h : ∀ j, j < m → Rep G n w (f j) (as.getD j .junk)) : Reps G n w ((List.range m).map f).toArray as := by
  refine ⟨by simp [hl], fun k hk => ?_⟩
  have := h k (by omega)
  simp only [Array.getD_eq_getD_getElem?, List.getElem?_toArray, List.getElem?_map]
  rw [List.getElem?_range (by omega)]
  exact this

/-- Cells of an object, loaded: what valK makes of them. -/
theorem ran_load {C : Ctx} (hT : TabOk C) {G : Gh} {H : List AObj} {w : World} {t : TypeId} {b o : Nat} {cs : List AV} {j : Nat} (f : Nat → Value)
    (hf : ∀ i, i < cs.length → cellAt w b (o + i) = some (f i) ∧ Rep G H.length w (f i) (cs.getD i .junk)) {k : AV → Prop}
    (h : cutK cs j (C.tb t).size fun r => valK (C.tb t).agg r k) :
    ∃ x v, (loadVar t ⟨b, o + j, none⟩).run C.P w = .ok x w ∧ k v ∧ Rep G H.length w x v := by
  obtain ⟨hle, h⟩ := cutK_le h
  have hne : (C.tb t).size ≠ 0 := by
    intro e
    rcases valK_out h with ⟨ha, _⟩ | ⟨_, v, hv, _⟩
    · rw [hT.agg0 t e] at ha; cases ha
    · rw [e] at hv; simp at hv
  obtain ⟨inf, z, hi, hsz, _⟩ := (hT.ok t).info hne
  obtain ⟨d, hd, hag⟩ := (hT.ok t).desc hne
  have hrep : ∀ i, i < (C.tb t).size → Rep G H.length w (f (j + i)) (((cs.drop j).take (C.tb t).size).getD i .junk) := by
    intro i hi'
    have := (hf (j + i) (by omega)).2
    rw [List.getD_eq_getElem?_getD] at this ⊢
    rw [List.getElem?_take_of_lt hi', List.getElem?_drop]
    exact this
  have hlen : ((cs.drop j).take (C.tb t).size).length = (C.tb t).size := by simp; omega
  have hrun := run_loadVar (w := w) (b := b) (o := o + j) hd hi (fun i => f (j + i)) (fun i hi' => by
    have := (hf (j + i) (by omega)).1
    rwa [← Nat.add_assoc] at this) (fun hfl => by
      rcases valK_out h with ⟨ha, _⟩ | ⟨_, v, hv, _⟩
      · rw [hag] at hfl; rw [ha] at hfl; cases hfl
      · rw [hsz]; rw [hv] at hlen; simpa using hlen.symm)
  rcases valK_out h with ⟨ha, hk⟩ | ⟨ha, v, hv, hk⟩
  · rw [hag, ha] at hrun
    refine ⟨_, _, hrun, hk, ?_⟩
    simp only [if_true]
    have := reps_range (f := fun i => f (j + i)) hlen hrep
    rw [hsz]
    exact .agg _ _ this.1 this.2
  · rw [hag, ha] at hrun
    refine ⟨_, _, hrun, hk, ?_⟩
    simp only [Bool.false_eq_true, if_false]
    have := hrep 0 (by omega)
    rw [hv] at this
    exact this

theorem Reps.cells {G n w xs as} (h : Reps G n w xs as) (i : Nat) (hi : i < as.length) : xs[i]? = some (xs.getD i undef) := by
  have : i < xs.size := by rw [h.1]; exact hi
  simp [this]

theorem enc_len (t : ETy) (x : t.C) : (enc t x).length = esz t := by cases t <;> rfl

/-- A pointer into an object, or into cells that don't change: where its cells are. -/
theorem loadK_out {C : Ctx} (hT : TabOk C) {G H w} (hs : Sim G H w) {dyn : Bool} {t : TypeId} {p : AV} {x : Value} (hp : Rep G H.length w x p) {k : AV → Prop} (h : loadK C dyn t p H k) :
    ∃ y v, (Instr.loadAt t x).run C.P w = .ok y w ∧ k v ∧ Rep G H.length w y v := by
  unfold loadK at h
  cases hp with
  | vptr b o cs j vs hc hr =>
    obtain ⟨y, v, h1, h2, h3⟩ := ran_load hT (b := b) (o := o) vs (fun i hi => ⟨(hc i hi).2, hr i hi⟩) h
    exact ⟨y, v, by simpa [Instr.loadAt, Instr.sureAddr] using h1, h2, h3⟩
  | ptr loc i e j hl =>
    obtain ⟨o, ho, h⟩ := hgetK_iff.1 h
    cases o with
    | box cs =>
      obtain ⟨hi0, h⟩ := guardK_iff.1 h
      obtain rfl := Nat.eq_of_beq_eq_true hi0
      obtain ⟨c, hb, hreps⟩ := hs.obj loc _ ho
      have hcell : ∀ i, i < cs.length → cellAt w (G.mu loc) i = some (c.getD i undef) ∧ Rep G H.length w (c.getD i undef) (cs.getD i .junk) := fun i hi =>
        ⟨by rw [cellAt_block hb]; exact hreps.cells i hi, hreps.2 i hi⟩
      cases dyn with
      | false =>
        obtain ⟨y, v, h1, h2, h3⟩ := ran_load hT (b := G.mu loc) (o := 0) (fun i => c.getD i undef) (fun i hi => by rw [Nat.zero_add]; exact hcell i hi) h
        exact ⟨y, v, by simpa [Instr.loadAt, Instr.sureAddr] using h1, h2, h3⟩
      | true =>
        obtain ⟨v0, hv0, h⟩ := h
        have hj := lt_of_get hv0
        obtain ⟨y, v, h1, h2, h3⟩ := ran_load hT (b := G.mu loc) (o := j) (fun i => c.getD (j + i) undef) (fun i hi => by
          have : i = 0 := by simpa using hi
          subst this
          have := hcell j hj
          rw [List.getD_eq_getElem?_getD, hv0] at this
          exact this) h
        exact ⟨y, v, by simpa [Instr.loadAt, Instr.sureAddr] using h1, h2, h3⟩
    | arr u l fr =>
      obtain ⟨he, x, hx, h'⟩ := guardK_iff.1 h
      obtain rfl := Nat.eq_of_beq_eq_true he
      have hil := lt_of_get hx
      obtain ⟨c, hb, hsz, hreps⟩ := hs.obj loc _ ho (by intro e; rw [e] at hil; simp at hil)
      have hxe : l[i] = x := by rw [List.getElem?_eq_getElem hil] at hx; exact Option.some.inj hx
      obtain ⟨y, v, h1, h2, h3⟩ := ran_load hT (b := G.mu loc) (o := i * esz u) (fun q => c.getD (i * esz u + q) undef) (fun q hq => by
        rw [enc_len] at hq
        have hr := hreps i q hil hq
        rw [hxe] at hr
        refine ⟨?_, hr⟩
        rw [cellAt_block hb]
        have hlt : i * esz u + q < c.size := by
          have : (i + 1) * esz u ≤ l.length * esz u := Nat.mul_le_mul_right _ hil
          rw [Nat.add_mul] at this; omega
        simp [hlt]) h'
      exact ⟨y, v, by simpa [Instr.loadAt, Instr.sureAddr] using h1, h2, h3⟩
    | raw e' els fr =>
      obtain ⟨he, cs, hx, h'⟩ := guardK_iff.1 h
      obtain rfl := Nat.eq_of_beq_eq_true he
      have hil := lt_of_get hx
      obtain ⟨c, hb, hsz, hreps⟩ := hs.obj loc _ ho (by intro e; rw [e] at hil; simp at hil)
      have hxe : els.getD i [] = cs := by rw [List.getD_eq_getElem?_getD, hx]; rfl
      obtain ⟨hlen, hr⟩ := hreps i hil
      rw [hxe] at hlen hr
      obtain ⟨y, v, h1, h2, h3⟩ := ran_load hT (b := G.mu loc) (o := i * e) (fun q => c.getD (i * e + q) undef) (fun q hq => by
        refine ⟨?_, hr q (by omega)⟩
        rw [cellAt_block hb]
        have hlt : i * e + q < c.size := by
          have : (i + 1) * e ≤ els.length * e := Nat.mul_le_mul_right _ hil
          rw [Nat.add_mul] at this; omega
        simp [hlt]) h'
      exact ⟨y, v, by simpa [Instr.loadAt, Instr.sureAddr] using h1, h2, h3⟩
    | _ => exact h.elim
  | _ => exact h.elim

end Av
end
