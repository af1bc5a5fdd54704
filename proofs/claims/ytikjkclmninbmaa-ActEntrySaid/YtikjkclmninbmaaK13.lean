/- The abstract machine: how operations run (13): every operation but a call of a function. Own work. -/
import Derived.Test.YtikjkclmninbmaaK12
import Derived.Laws.Closers25b
set_option linter.unusedSimpArgs false
set_option linter.unusedVariables false
set_option linter.unnecessarySimpa false
namespace Av
open Go

theorem Ran.v {P : Program} {s : Sem Value} {G H w k} {x : Value} {w' : World} {v : AV} {H' G'} (hs : s.run P w = .ok x w') (hk : k v H') (h1 : Sim G' H' w') (h2 : Rep G' H'.length w' x v) (h3 : Ext G H w G' H' w') :
    Ran ((do pure (Next.value (← s)) : Sem Next).run P w) G H w k := ⟨.value x, x, w', v, H', G', run_v hs, .inl rfl, hk, h1, h2, h3⟩

theorem Ran.u {P : Program} {s : Sem Unit} {G H w} {k : AV → List AObj → Prop} {w' : World} {H' G'} (hs : s.run P w = .ok () w') (hk : k .junk H') (h1 : Sim G' H' w') (h3 : Ext G H w G' H' w') :
    Ran ((do s; pure Next.skip : Sem Next).run P w) G H w k := ⟨.skip, undef, w', .junk, H', G', run_u hs, .inr ⟨rfl, rfl⟩, hk, h1, .junk _, h3⟩

theorem Ran.p {P : Program} {G H w} {k : AV → List AObj → Prop} {x : Value} {v : AV} (hs : Sim G H w) (hk : k v H) (hr : Rep G H.length w x v) : Ran ((pure (Next.value x) : Sem Next).run P w) G H w k :=
  ⟨.value x, x, w, v, H, G, rfl, .inl rfl, hk, hs, hr, Ext.refl _ _ _⟩

/-- Where nothing was done to objects. -/
def Lik (w w' : World) : Prop := w'.heap = w.heap ∧ w'.os = w.os ∧ w'.tape = w.tape ∧ w'.output = w.output

theorem Lik.refl (w : World) : Lik w w := ⟨rfl, rfl, rfl, rfl⟩
theorem Lik.trans {a b c : World} (h : Lik a b) (h' : Lik b c) : Lik a c := ⟨h'.1.trans h.1, h'.2.1.trans h.2.1, h'.2.2.1.trans h.2.2.1, h'.2.2.2.trans h.2.2.2⟩

theorem run_farith {P : Program} {w : World} {op : BinOp} (ho : op = .add ∨ op = .sub ∨ op = .mul) {x y : Nat} : ∃ r w', (Op.floatArith op .f64 x y).run P w = .ok (.float .f64 r) w' ∧ Lik w w' := by
  unfold Op.floatArith
  rcases ho with rfl | rfl | rfl <;> simp only [Sem.run_bind, Sem.run_pure, Result.andThen_ok]
  all_goals
    split
    · exact ⟨_, w, rfl, .refl w⟩
    · simp only [Sem.run_bind, run_choose]
      split
      · exact ⟨_, w, rfl, .refl w⟩
      · exact ⟨_, _, rfl, rfl, rfl, rfl, rfl⟩

theorem run_carith' {P : Program} {w : World} {op : BinOp} (ho : op = .add ∨ op = .sub ∨ op = .mul) {x y : Nat} : ∃ r w', (Op.Complex.arith op .f64 x y).run P w = .ok r w' ∧ Lik w w' := by
  obtain ⟨r, w', h, hl⟩ := run_farith (P := P) (w := w) ho (x := x) (y := y)
  exact ⟨r, w', by unfold Op.Complex.arith; simp only [Sem.run_bind, h, Result.andThen_ok, Sem.run_pure], hl⟩

theorem run_complex_any {P : Program} {w : World} {op : BinOp} (ho : op = .add ∨ op = .mul) {a b c d : Nat} : ∃ e f w', (Op.complexOp op .f64 a b c d).run P w = .ok (.complex .f64 e f) w' ∧ Lik w w' := by
  rcases ho with rfl | rfl
  · obtain ⟨r, w1, h1, l1⟩ := run_carith' (P := P) (w := w) (op := .add) (.inl rfl) (x := a) (y := c)
    obtain ⟨r2, w2, h2, l2⟩ := run_carith' (P := P) (w := w1) (op := .add) (.inl rfl) (x := b) (y := d)
    exact ⟨r, r2, w2, by simp only [Op.complexOp, Sem.run_bind, h1, h2, Result.andThen_ok, Sem.run_pure], l1.trans l2⟩
  · have hc : ∀ (x : Nat) (w : World), (Op.Complex.conv .f64 x .f64).run P w = .ok x w := fun x w => by simp [Op.Complex.conv]
    obtain ⟨r1, w1, h1, l1⟩ := run_carith' (P := P) (w := w) (op := .mul) (.inr (.inr rfl)) (x := a) (y := c)
    obtain ⟨r2, w2, h2, l2⟩ := run_carith' (P := P) (w := w1) (op := .mul) (.inr (.inr rfl)) (x := b) (y := d)
    obtain ⟨r3, w3, h3, l3⟩ := run_carith' (P := P) (w := w2) (op := .sub) (.inr (.inl rfl)) (x := r1) (y := r2)
    obtain ⟨r4, w4, h4, l4⟩ := run_carith' (P := P) (w := w3) (op := .mul) (.inr (.inr rfl)) (x := a) (y := d)
    obtain ⟨r5, w5, h5, l5⟩ := run_carith' (P := P) (w := w4) (op := .mul) (.inr (.inr rfl)) (x := b) (y := c)
    obtain ⟨r6, w6, h6, l6⟩ := run_carith' (P := P) (w := w5) (op := .add) (.inl rfl) (x := r4) (y := r5)
    refine ⟨r3, r6, w6, ?_, ((((l1.trans l2).trans l3).trans l4).trans l5).trans l6⟩
    have hm : (BinOp.mul == BinOp.mul) = true := by decide
    simp only [Op.complexOp, Sem.run_bind, hc, Result.andThen_ok, hm, if_true, Op.Complex.product, Op.Complex.mul, Op.Complex.sub, Op.Complex.add, h1, h2, h3, h4, h5, h6, Sem.run_pure]

theorem run_floatToInt_any {P : Program} {w : World} {kd : IntKind} {b : Nat} : ∃ n w', (Conv.floatToInt .f64 b kd).run P w = .ok (.int kd n) w' ∧ kd.min ≤ n ∧ n ≤ kd.max ∧ Lik w w' := by
  have any : ∃ n w', (do pure (.int kd (kd.wrap (← choose (.floatToInt .f64 b kd)))) : Sem Value).run P w = .ok (.int kd n) w' ∧ kd.min ≤ n ∧ n ≤ kd.max ∧ Lik w w' := by
    simp only [Sem.run_bind, run_choose]
    split
    · exact ⟨_, w, rfl, (wrap_within kd _).1, (wrap_within kd _).2, .refl w⟩
    · exact ⟨_, _, rfl, (wrap_within kd _).1, (wrap_within kd _).2, rfl, rfl, rfl, rfl⟩
  unfold Conv.floatToInt
  simp only
  split
  · split
    · rename_i h
      exact ⟨_, w, rfl, h.1, h.2, .refl w⟩
    · exact any
  · exact any

theorem convK_out {C : Ctx} (hT : TabOk C) {draw : Bool} {G : Gh} {n : Nat} {w : World} {src dst : TypeId} {x : Value} {v : AV} (hv : Rep G n w x v) {d0 : TypeDesc} (hsrc : C.P.underlying src = some d0) {k : AV → Prop} (h : convK C draw dst v k) :
    ∃ y u w', (Go.convert src dst x).run C.P w = .ok y w' ∧ k u ∧ Rep G n w y u ∧ Lik w w' := by
  unfold convK at h
  split at h
  · rename_i kd kx m hik
    have hd := (hT.ok dst).ik kd hik
    cases hv
    refine ⟨_, _, w, ?_, h, .int _ _, .refl w⟩
    cases d0 <;> simp [Go.convert, run_underlying hsrc, run_underlying hd, Conv.intToInt]
  · rename_i kd b hik
    have hd := (hT.ok dst).ik kd hik
    cases hv
    rcases h with h | ⟨m, hrun, h⟩
    · obtain ⟨_, h⟩ := guardK_iff.1 h
      obtain ⟨m, w', hrun, h1, h2, hl⟩ := run_floatToInt_any (P := C.P) (w := w) (kd := kd) (b := b)
      refine ⟨_, _, w', ?_, h m h1 h2, .int _ _, hl⟩
      cases d0 <;> simp [Go.convert, run_underlying hsrc, run_underlying hd, hrun]
    · refine ⟨_, _, w, ?_, h, .int _ _, .refl w⟩
      cases d0 <;> simp [Go.convert, run_underlying hsrc, run_underlying hd, hrun]
  · rename_i kx m hik
    obtain ⟨hf, h⟩ := guardK_iff.1 h
    have hd := (hT.ok dst).flt hf
    cases hv
    refine ⟨_, _, w, ?_, h, .flt _, .refl w⟩
    cases d0 <;> simp [Go.convert, run_underlying hsrc, run_underlying hd, Conv.intToFloat]
  · exact h.elim

theorem Ran.l {P : Program} {s : Sem Value} {G H w k} {x : Value} {w' : World} {v : AV} (hs : s.run P w = .ok x w') (hk : k v H) (h1 : Sim G H w) (h2 : Rep G H.length w x v) (hl : Lik w w') :
    Ran ((do pure (Next.value (← s)) : Sem Next).run P w) G H w k := Ran.v hs hk (h1.same hl.1) (h2.mono (Le.same hl.1)) (Ext.same hl.1 hl.2.1 hl.2.2.1 hl.2.2.2)

theorem known_out {C : Ctx} (hT : TabOk C) {t : TypeId} (h : known (C.tb t) = true) : ∃ d, C.P.underlying t = some d := by
  unfold known at h
  split at h
  · rename_i k hk
    exact ⟨_, (hT.ok t).ik k hk⟩
  · exact ⟨_, (hT.ok t).flt h⟩

theorem run_equalIn_slice_nil {P : Program} {w : World} (d : Nat) {t e : TypeId} {b : Option Addr} {n c : Nat} (ht : P.underlying t = some (.slice e)) :
    (Op.equalIn (d + 1) t (.slice b n c) (.slice none 0 0)).run P w = .ok b.isNone w := by
  cases b <;> simp [Op.equalIn, run_underlying ht]

theorem run_eq_slice_nil {P : Program} {w : World} {t e : TypeId} {b : Option Addr} {n c : Nat} {x y : Operand} (ht : P.underlying t = some (.slice e)) :
    (do eqGuard .eql t x y (.slice b n c) (.slice none 0 0); Go.binOp .eql t (.slice b n c) (.slice none 0 0) : Sem Value).run P w = .ok (.bool b.isNone) w := by
  have h : (Op.equal t (.slice b n c) (.slice none 0 0)).run P w = .ok b.isNone w := run_equalIn_slice_nil 9999 ht
  have hg : (eqGuard .eql t x y (.slice b n c) (.slice none 0 0)).run P w = .ok () w := by simp [eqGuard]
  simp only [Sem.run_bind, hg, Result.andThen_ok, Go.binOp, h, Sem.run_pure]

theorem rep_fn_arr {G n w} {f : Nat} {xs ys : Array Value} {as bs : List AV} (h : Reps G n w xs as) (h' : Reps G n w ys bs) : Rep G n w (.func (.func f) xs ys) (.fn f as bs) := .fn f xs ys as bs h.1 h'.1 h.2 h'.2

theorem arr_map {a : Act} {xs : Array Operand} : xs.map a.eval = (xs.toList.map a.eval).toArray := by
  apply Array.ext'; simp

theorem opK_out {C : Ctx} (hT : TabOk C) {draw : Bool} {G : Gh} {s : List AV} {H : List AObj} {a : Act} {w : World} (hs : Sim G H w) (ht : Reps G H.length w a.tmps s) {o : Oper}
    (hn : ∀ c, o.op = .call c → ∃ b, c.callee = .builtin b) {dst : Option Tmp} {k : AV → List AObj → Prop} (h : opK C draw o.op o.type dst s H k) : Ran ((execOp a.eval o).run C.P w) G H w k := by
  obtain ⟨dst0, op, ty, pos, after, gd⟩ := o
  unfold execOp
  cases op <;> dsimp only at h ⊢
  case move x =>
    obtain ⟨v, hk, hv⟩ := ev_out ht h
    exact Ran.p (P := C.P) hs hk hv
  case assign x =>
    obtain ⟨v, h, hv⟩ := ev_out ht h
    obtain ⟨v', H', G', hk, h1, h2, h3, _⟩ := ownZeroK_out hs (typedK_iff.1 h)
    exact ⟨_, _, w, v', H', G', rfl, .inl rfl, hk, h1, h3 _ (hv.typed C _), h2⟩
  case pick c x y =>
    obtain ⟨v, h, hv⟩ := ev_out ht h
    unfold pickK at h
    cases v with
    | bool p =>
      have e := rep_bool hv
      simp only [e, asBool, Sem.run_bind, Sem.run_pure, Result.andThen_ok]
      cases p with
      | true =>
        obtain ⟨v, hk, hv⟩ := ev_out ht h
        exact Ran.p (P := C.P) (x := if true = true then a.eval x else a.eval y) hs hk hv
      | false =>
        obtain ⟨v, hk, hv⟩ := ev_out ht h
        exact Ran.p (P := C.P) (x := if false = true then a.eval x else a.eval y) hs hk hv
    | _ => exact h.elim
  case alloc t =>
    obtain ⟨x, w', v, H', G', hrun, hk, h1, h2, h3⟩ := alloc_out hT hs h
    exact Ran.v hrun hk h1 h2 h3
  case box t x =>
    obtain ⟨v, h, hv⟩ := ev_out ht h
    obtain ⟨x, w', v, H', G', hrun, hk, h1, h2, h3⟩ := box_out (C := C) hs hv h
    exact Ran.v hrun hk h1 h2 h3
  case build t ps =>
    obtain ⟨x, v, hrun, hk, h2⟩ := buildK_out hT ht (k := fun v => k v H) h
    exact Ran.v hrun hk hs h2 (Ext.refl _ _ _)
  case buildSlice t n ps =>
    obtain ⟨x, w', v, H', G', hrun, hk, h1, h2, h3⟩ := buildSlice_out hT hs ht h
    exact Ran.v hrun hk h1 h2 h3
  case load t x =>
    obtain ⟨v, h, hv⟩ := ev_out ht h
    obtain ⟨y, u, hrun, hk, h2⟩ := loadK_out hT hs hv h
    exact Ran.v hrun (headK_iff.1 hk) hs h2 (Ext.refl _ _ _)
  case store t x y =>
    obtain ⟨v, h, hv⟩ := ev_out ht h
    obtain ⟨u, h, hu⟩ := ev_out ht h
    obtain ⟨H', w', hrun, hk, h1, h2, h3⟩ := storeK_out hT hs hv (hu.typed C t) (typedK_iff.1 h)
    exact Ran.u hrun hk h2 h3
  case nilCheck x =>
    obtain ⟨v, h, hv⟩ := ev_out ht h
    unfold nilK at h
    cases v with
    | ptr p q r z =>
      generalize a.eval x = y at hv ⊢
      cases hv with
      | ptr _ _ _ _ hl => exact Ran.p (P := C.P) hs h (.ptr _ _ _ _ hl)
    | vptr cs j =>
      generalize a.eval x = y at hv ⊢
      cases hv with
      | vptr b o _ _ vs g1 g2 => exact Ran.p (P := C.P) hs h (.vptr b o cs j vs g1 g2)
    | fn f as bs =>
      generalize a.eval x = y at hv ⊢
      cases hv with
      | fn _ xs ys _ _ h1 h2 h3 h4 => exact Ran.p (P := C.P) hs h (.fn f xs ys as bs h1 h2 h3 h4)
    | _ => exact h.elim
  case binOp op t x y wi =>
    obtain ⟨u, h, hu⟩ := ev_out ht h
    obtain ⟨v, h, hv⟩ := ev_out ht h
    unfold binOpK at h
    split at h
    · rename_i as bs
      obtain ⟨hfl, h⟩ := guardK_iff.1 h
      obtain ⟨hag, h⟩ := guardK_iff.1 h
      obtain ⟨hal, h⟩ := guardK_iff.1 h
      have hne : (C.tb t).size ≠ 0 := fun e => by rw [hT.agg0 t e] at hag; cases hag
      obtain ⟨d, hd, hda⟩ := (hT.ok t).desc hne
      have hagg : isAggD ((C.P.underlying t).getD .bool) = true := by rw [hd]; simpa using hda.trans hag
      cases op <;> first | (exact h.elim) | skip
      · obtain ⟨r, hr, hk⟩ := eqCells_out _ _ h
        obtain ⟨xs, ys, e1, e2, hrun, hg⟩ := eq_agg_out hT (w := w) hu hv hfl hal hr hagg
        rw [e1, e2] at hrun ⊢
        refine Ran.v (x := .bool r) (w' := w) ?_ hk hs (.bool _) (Ext.refl _ _ _)
        simp only [Sem.run_bind, run_eqGuard_agg (hm := hg), Result.andThen_ok, run_eql_struct, hrun]
      · obtain ⟨r, hr, hk⟩ := eqCells_out _ _ h
        obtain ⟨xs, ys, e1, e2, hrun, hg⟩ := eq_agg_out hT (w := w) hu hv hfl hal hr hagg
        rw [e1, e2] at hrun ⊢
        refine Ran.v (x := .bool (!r)) (w' := w) ?_ hk hs (.bool _) (Ext.refl _ _ _)
        simp only [Sem.run_bind, run_eqGuard_agg (hm := hg), Result.andThen_ok, run_neq_struct, hrun]
    · rename_i m l
      obtain ⟨hbl, h⟩ := guardK_iff.1 h
      have hd := (hT.ok t).bl hbl
      have e1 := rep_bool hu
      have e2 := rep_bool hv
      rw [e1, e2]
      cases op <;> first | (exact h.elim) | skip
      · refine Ran.v (x := .bool _) (w' := w) ?_ h hs (.bool _) (Ext.refl _ _ _)
        simp [eqGuard, run_eql_bool (h := hd)]
      · refine Ran.v (x := .bool _) (w' := w) ?_ h hs (.bool _) (Ext.refl _ _ _)
        simp [eqGuard, run_neq_bool (h := hd)]
    · rename_i p q r z hz
      have cpx : ∀ {x : Value} {a b : Nat}, Rep G H.length w x (.cpx a b) → x = .complex .f64 a b := fun h => by cases h; rfl
      rw [cpx hu, cpx hv]
      have core : ∀ {o : BinOp}, (o = .add ∨ o = .mul) → (guardK (!draw) (∀ e f, k (.cpx e f) H) ∨ ∃ e f, (∀ w, (Op.complexOp o .f64 p q r z).run C.P w = .ok (.complex .f64 e f) w) ∧ k (.cpx e f) H) →
          Ran ((do pure (Next.value (← (do eqGuard o t x y (.complex .f64 p q) (.complex .f64 r z); Go.binOp o t (.complex .f64 p q) (.complex .f64 r z) : Sem Value))) : Sem Next).run C.P w) G H w k := by
        intro o ho h
        have hg : (eqGuard o t x y (.complex .f64 p q) (.complex .f64 r z)).run C.P w = .ok () w := by rcases ho with rfl | rfl <;> simp [eqGuard]
        have hb : Go.binOp o t (.complex .f64 p q) (.complex .f64 r z) = Op.complexOp o .f64 p q r z := by rcases ho with rfl | rfl <;> simp [Go.binOp]
        rcases h with h | ⟨e, f, hrun, h⟩
        · obtain ⟨_, h⟩ := guardK_iff.1 h
          obtain ⟨e, f, w', hrun, hl⟩ := run_complex_any (P := C.P) (w := w) ho (a := p) (b := q) (c := r) (d := z)
          exact Ran.l (by simp only [Sem.run_bind, hg, Result.andThen_ok, hb, hrun]) (h e f) hs (.cpx _ _) hl
        · exact Ran.l (by simp only [Sem.run_bind, hg, Result.andThen_ok, hb, hrun]) h hs (.cpx _ _) (.refl w)
      cases op <;> first | (exact h.elim) | skip
      · exact core (.inl rfl) h
      · exact core (.inr rfl) h
    · rename_i t' l tok
      obtain ⟨_, h⟩ := guardK_iff.1 h
      obtain ⟨hsl, h⟩ := guardK_iff.1 h
      have hd := (hT.ok t).sl hsl
      cases op <;> first | (exact h.elim) | skip
      obtain ⟨h1, h2⟩ := h
      have e2 : a.eval y = .slice none 0 0 := by
        generalize a.eval y = z at hv
        cases hv; rfl
      rw [e2]
      rcases sl_inv hu with ⟨rfl, ⟨bb, e⟩, _⟩ | ⟨b, o, cap, vs, e, _, _, _, _⟩
      · rw [e]
        cases bb with
        | none => exact Ran.v (x := .bool true) (w' := w) (run_eq_slice_nil hd) (h1 rfl) hs (.bool _) (Ext.refl _ _ _)
        | some bb => exact Ran.v (x := .bool false) (w' := w) (run_eq_slice_nil hd) h2 hs (.bool _) (Ext.refl _ _ _)
      · rw [e]
        exact Ran.v (x := .bool false) (w' := w) (run_eq_slice_nil hd) h2 hs (.bool _) (Ext.refl _ _ _)
    · obtain ⟨z, r, hrun, hk, hr⟩ := binK_out (P := C.P) (t := t) (x := x) (y := y) hu hv h
      exact Ran.v hrun hk hs hr (Ext.refl _ _ _)
  case unOp op t x =>
    obtain ⟨v, h, hv⟩ := ev_out ht h
    unfold unOpK at h
    cases v with
    | bool b =>
      cases op <;> first | (exact h.elim) | skip
      rw [rep_bool hv]
      exact Ran.v (x := .bool (!b)) (w' := w) rfl h hs (.bool _) (Ext.refl _ _ _)
    | _ => exact h.elim
  case convert src dst x =>
    obtain ⟨hkn, h⟩ := guardK_iff.1 h
    obtain ⟨d, hd⟩ := known_out hT hkn
    obtain ⟨v, h, hv⟩ := ev_out ht h
    obtain ⟨y, u, w', hrun, hk, hr, hl⟩ := convK_out hT hv hd h
    exact Ran.l hrun hk hs hr hl
  case makeFunc fn as bs =>
    cases fn with
    | func f =>
      obtain ⟨us, h, hus⟩ := evs_out ht h
      obtain ⟨vs, h, hvs⟩ := evs_out ht h
      rw [← arr_map] at hus hvs
      exact Ran.v (w' := w) (s := Instr.makeFunc _ _ _) rfl h hs (rep_fn_arr hus hvs) (Ext.refl _ _ _)
    | _ => exact h.elim
  case makeMap t r =>
    cases r with
    | some r => simp only [opK] at h; split at h <;> first | exact h.elim | (rename_i hh; cases hh)
    | none =>
      simp only [opK] at h
      split at h
      · have h := pushK_iff.1 h
        obtain ⟨G', hrun, h1, h2, h3⟩ := makeMap_out (P := C.P) hs (t := t)
        exact Ran.v hrun h h1 (by simpa using h2) h3
      · exact h.elim
  case makeSlice t n c =>
    obtain ⟨u, h, hu⟩ := ev_out ht h
    obtain ⟨v, h, hv⟩ := ev_out ht h
    unfold makeK at h
    cases u with
    | int kd m =>
      cases v with
      | int kd' m' =>
        obtain ⟨⟨rfl, h0⟩, h⟩ := h
        split at h
        · rename_i u' hu'
          obtain ⟨hb, h⟩ := h
          split at h
          · rename_i z hz
            rw [rep_int hu, rep_int hv]
            obtain ⟨y, w', v, H', G', hrun, hk, h1, h2, h3⟩ := makeSlice_out hT hs (kd := kd) (kd' := kd') hu' h0 hb hz h
            exact Ran.v hrun hk h1 h2 h3
          · exact h.elim
        · exact h.elim
      | _ => exact h.elim
    | _ => exact h.elim
  case slice t x lo hi mx =>
    obtain ⟨v, h, hv⟩ := ev_out ht h
    obtain ⟨y, u, hrun, hk, hr⟩ := sliceK_out hT ht hv h
    exact Ran.v hrun hk hs hr (Ext.refl _ _ _)
  case fieldAddr t x i =>
    obtain ⟨v, h, hv⟩ := ev_out ht h
    obtain ⟨y, u, hrun, hk, hr⟩ := fieldAt_out hT (w := w) hv (k := fun p => k p H) h
    exact Ran.v hrun hk hs hr (Ext.refl _ _ _)
  case indexAddr t x i =>
    obtain ⟨v, h, hv⟩ := ev_out ht h
    obtain ⟨u, h, hu⟩ := ev_out ht h
    obtain ⟨y, u, hrun, hk, hr⟩ := indexAddrK_out hT (hv.typed C t) hu (typedK_iff.1 h)
    exact Ran.v hrun hk hs hr (Ext.refl _ _ _)
  case lookup t m x ok =>
    obtain ⟨v, h, hv⟩ := ev_out ht h
    obtain ⟨u, h, hu⟩ := ev_out ht h
    obtain ⟨y, u, hrun, hk, hr⟩ := lookup_out hT hs hv hu (ok := ok) h
    exact Ran.v hrun hk hs hr (Ext.refl _ _ _)
  case insert t m x v =>
    obtain ⟨p, h, hp⟩ := ev_out ht h
    obtain ⟨q, h, hq⟩ := ev_out ht h
    obtain ⟨r, h, hr⟩ := ev_out ht h
    obtain ⟨w', H', hrun, hk, h1, h2⟩ := insK_out hT hs hp hq hr h
    exact Ran.u hrun hk h1 h2
  case extract x i =>
    obtain ⟨v, h, hv⟩ := ev_out ht h
    unfold extractK at h
    cases v with
    | tup vs =>
      obtain ⟨u, hu, hk⟩ := getK_iff.1 h
      have hk := headK_iff.1 hk
      generalize a.eval x = y at hv ⊢
      cases hv with
      | tup xs _ h1 h2 =>
        have hr : Reps G H.length w xs vs := ⟨h1, h2⟩
        obtain ⟨q, hq, hrq⟩ := (reps_iff.1 hr).2 i u hu
        exact Ran.v (x := q) (w' := w) (by simp [Instr.extract, hq]) hk hs hrq (Ext.refl _ _ _)
    | _ => exact h.elim
  case call c =>
    obtain ⟨b, hb⟩ := hn c rfl
    obtain ⟨callee, args, ats⟩ := c
    simp only at hb
    subst hb
    obtain ⟨vs, h, hvs⟩ := evs_out ht h
    rw [← arr_map] at hvs
    simp only [resolve, invoke, Sem.run_bind, Sem.run_pure, Result.andThen_ok]
    exact builtin_out hT hs hvs h
  all_goals exact h.elim

end Av
