/- The plain law: what a thread's step keeps. The plain law: what a step counts, what it leaves, what an entry tells. Own work. -/
import Derived.Test.YtikjkclmninbmaaK31
section
set_option linter.unusedSimpArgs false
set_option linter.unusedVariables false
namespace Av
open Go

/-- A room goes on. -/
structure RK (x y : Rm) : Prop where
  ok : y.Ok
  s : y.b.s = x.b.s
  lim : y.b.lim = x.b.lim
  le : x.b.at' ≤ y.b.at'
  w : y.m.w = x.m.w

theorem RK.refl {x : Rm} (h : x.Ok) : RK x x := ⟨h, rfl, rfl, Int.le_refl _, rfl⟩
theorem RK.trans {x y z : Rm} (h : RK x y) (g : RK y z) : RK x z := ⟨g.ok, g.s.trans h.s, g.lim.trans h.lim, Int.le_trans h.le g.le, g.w.trans h.w⟩

theorem putR_rk {x : Rm} (h : x.Ok) (a : Int) (d : Head) : RK x (putR x a d) := by
  obtain ⟨h1, h2⟩ := putF_ok h.m a d
  exact ⟨⟨h1, h.b, h.l.trans h2.symm, h.t⟩, rfl, rfl, Int.le_refl _, h2⟩

theorem retF_rk {x : Rm} (h : x.Ok) : RK x (retF x) := by
  refine ⟨retF_ok h, ?_, ?_, ?_, ?_⟩
  · unfold retF; split <;> rfl
  · unfold retF; split <;> rfl
  · unfold retF; split <;> exact Int.le_refl _
  · unfold retF
    split
    · exact (fillF_ok h.m _ _).2
    · rfl

theorem makeF_rk {x : Rm} (h : x.Ok) (d : Head) (most : Int) (hm : 0 ≤ most ∧ most ≤ 4096) : RK x (makeF x d most).1 := by
  have hb1 := h.b.lo
  have hb2 := h.b.hi
  have hb3 := h.b.top
  have ht := h.t
  unfold makeF
  split
  · exact .refl h
  · rename_i q1
    split
    · exact .refl h
    · rename_i q2
      have hw := rightF_words (Classical.not_not.1 q1) q2
      split
      · have h2 : Rm.Ok { x with t := x.t + wordsF d } := ⟨h.m, h.b, h.l, by show 0 ≤ x.t + wordsF d ∧ x.t + wordsF d ≤ x.e ∧ x.e ≤ x.b.at'; omega⟩
        exact (⟨h2, rfl, rfl, Int.le_refl _, rfl⟩ : RK x _).trans (putR_rk h2 _ _)
      · split
        · split
          · have h2 : Rm.Ok { x with b := { x.b with at' := x.b.at' + wordsF d } } :=
              ⟨h.m, ⟨h.b.s, by show 0 ≤ x.b.at' + wordsF d; omega, by show x.b.at' + wordsF d ≤ x.b.lim; omega, h.b.top⟩, h.l, by show 0 ≤ x.t ∧ x.t ≤ x.e ∧ x.e ≤ x.b.at' + wordsF d; omega⟩
            exact (⟨h2, rfl, rfl, by show x.b.at' ≤ x.b.at' + wordsF d; omega, rfl⟩ : RK x _).trans (putR_rk h2 _ _)
          · exact .refl h
        · split
          · exact retF_rk h
          · have hr := retF_rk h
            have hk : wordsF d ≤ mostK x.b most ∧ mostK x.b most ≤ x.b.lim - x.b.at' := by unfold mostK; split <;> omega
            have h2 : Rm.Ok { pieceF x most with t := x.b.at' + wordsF d } :=
              ⟨hr.ok.m, ⟨h.b.s, by show 0 ≤ x.b.at' + mostK x.b most; omega, by show x.b.at' + mostK x.b most ≤ x.b.lim; omega, h.b.top⟩, h.l.trans hr.w.symm,
                by show 0 ≤ x.b.at' + wordsF d ∧ x.b.at' + wordsF d ≤ x.b.at' + mostK x.b most ∧ x.b.at' + mostK x.b most ≤ x.b.at' + mostK x.b most; omega⟩
            exact (⟨h2, rfl, rfl, by show x.b.at' ≤ x.b.at' + mostK x.b most; omega, hr.w⟩ : RK x _).trans (putR_rk h2 _ _)

/-- A step goes on rightly. -/
structure WK (w v : Wk) : Prop where
  room : RK (roomW w) (roomW v)
  pend : v.t.pend.length ≤ 1

theorem actW_wk (x : Int) {w : Wk} (hr : (roomW w).Ok) (hs : 0 ≤ w.h.size ∧ w.h.size ≤ 4096) (hp : w.t.pend.length ≤ 1) : WK w (actW x w) := by
  have same : ∀ {v : Wk}, roomW v = roomW w → v.t.pend = w.t.pend → WK w v := fun h1 h2 => ⟨by rw [h1]; exact RK.refl hr, by rw [h2]; exact hp⟩
  have fs : ∀ p, roomW (fieldW w p).2.2.2 = roomW w ∧ (fieldW w p).2.2.2.t.pend = w.t.pend ∧ (fieldW w p).2.2.2.h = w.h := fun p => by
    obtain ⟨h1, h2, _, _⟩ := fieldW_same w p
    exact ⟨by unfold roomW; rw [h1, h2], by rw [h2], h1⟩
  have set : ∀ {v : Wk} (a b : Int), roomW v = roomW w → v.t.pend = w.t.pend → WK w (setW v a b) := by
    intro v a b h1 h2
    have hv : (roomW v).Ok := h1 ▸ hr
    obtain ⟨g1, g2⟩ := setF_ok hv.m a v.o.i b
    refine ⟨?_, ?_⟩
    · rw [← h1]
      exact ⟨⟨g1, hv.b, hv.l.trans g2.symm, hv.t⟩, rfl, rfl, Int.le_refl _, g2⟩
    · show (if v.h.phase = 1 then [(⟨a, v.o.i⟩ : Entry)] else v.t.pend).length ≤ 1
      split
      · exact Nat.le_refl _
      · rw [h2]; exact hp
  have hwrite : WK w (writeW x w) := by
    unfold writeW
    split
    · exact set _ _ (fs false).1 (fs false).2.1
    · exact same (fs false).1 (fs false).2.1
  unfold actW
  repeat' split
  · unfold allocW
    repeat' split
    · exact same rfl rfl
    · exact same rfl rfl
    · exact same rfl rfl
    · exact ⟨makeF_rk hr _ _ hs, hp⟩
    · exact ⟨makeF_rk hr _ _ hs, hp⟩
  · unfold getW
    split
    · exact same (fs false).1 (fs false).2.1
    · exact same (fs false).1 (fs false).2.1
  · unfold followW
    split
    · exact same (fs true).1 (fs true).2.1
    · exact same (fs true).1 (fs true).2.1
  · exact hwrite
  · exact hwrite
  · exact hwrite
  · unfold linkW
    repeat' split
    · exact set _ _ (fs true).1 (fs true).2.1
    · exact same (fs true).1 (fs true).2.1
    · exact same (fs true).1 (fs true).2.1
  · unfold sameW
    repeat' split
    all_goals exact same rfl rfl
  · unfold dupW
    split
    all_goals exact same rfl rfl
  · exact same rfl rfl
  · exact same rfl rfl
  · exact same rfl rfl

/-- What the thread is behind its step. -/
def stepT (w : Wk) : Thread := if w.wt then wantT w else ansT (wantT w) w.a

theorem goF_eq (x : Int) (h : Hp) (i : Int) (hi : 0 ≤ i ∧ i < h.threads.length) :
    goF x h i = { (actW x (startW h i)).h with threads := h.threads.set i.toNat (stepT (actW x (startW h i))), order := if (actW x (startW h i)).wt then h.order else h.order ++ [i] } := by
  have hk := actW_keeps x (startW h i)
  unfold goF
  generalize actW x (startW h i) = w at hk
  have e1 : w.h.threads = h.threads := hk.threads
  have e2 : w.h.order = h.order := hk.order
  have hlt : i.toNat < h.threads.length := by omega
  have hthr : thr (wantH w i) i = wantT w := by
    unfold thr wantH
    rw [e1, List.getD_eq_getElem?_getD]
    simp [hlt]
  cases hw : w.wt with
  | true =>
    rw [if_pos rfl, if_pos rfl]
    unfold wantH stepT
    rw [hw, if_pos rfl, e1, ← e2]
  | false =>
    rw [if_neg Bool.false_ne_true, if_neg Bool.false_ne_true]
    unfold ansF
    rw [hthr]
    unfold wantH stepT
    rw [hw, if_neg Bool.false_ne_true, e1, List.set_set, e2]

theorem doF_len (x : Int) (h : Hp) (i : Int) (hi : 0 ≤ i ∧ i < h.threads.length) : (doF x h i).threads.length = h.threads.length := by
  unfold doF
  split
  · rw [goF_eq x h i hi]; simp
  · unfold pendF; simp

/-- Where no step changes anything. -/
theorem doF_other (x : Int) (h : Hp) (i : Int) (hi : 0 ≤ i ∧ i < h.threads.length) (j : Nat) (hj : j ≠ i.toNat) : (doF x h i).threads[j]? = h.threads[j]? := by
  unfold doF
  split
  · rw [goF_eq x h i hi]; simp only; rw [List.getElem?_set_ne (Ne.symm hj)]
  · unfold pendF; simp only; rw [List.getElem?_set_ne (Ne.symm hj)]

theorem doF_this (x : Int) (h : Hp) (i : Int) (hi : 0 ≤ i ∧ i < h.threads.length) : thr (doF x h i) i = if (thr h i).pend = [] then stepT (actW x (startW h i)) else pendT (thr h i) := by
  have hlt : i.toNat < h.threads.length := by omega
  unfold doF
  split
  · rw [goF_eq x h i hi]
    unfold thr
    simp only
    rw [List.getD_eq_getElem?_getD]
    simp [hlt]
  · unfold pendF thr
    simp only
    rw [List.getD_eq_getElem?_getD]
    simp [hlt]

theorem doF_rest (x : Int) (h : Hp) (i : Int) (hi : 0 ≤ i ∧ i < h.threads.length) : (doF x h i).t = h.t ∧ (doF x h i).size = h.size ∧ (doF x h i).log = h.log ∧ (doF x h i).phase = h.phase ∧ (doF x h i).scan = h.scan ∧ (doF x h i).flips = h.flips ∧ (doF x h i).broken = h.broken := by
  have hk := actW_keeps x (startW h i)
  unfold doF
  split
  · rw [goF_eq x h i hi]
    exact ⟨hk.to, hk.size, hk.log, hk.phase, hk.scan, hk.flips, hk.broken⟩
  · exact ⟨rfl, rfl, rfl, rfl, rfl, rfl, rfl⟩

theorem RightP.hok {h : Hp} (r : RightP h) (s : SmallH h) : HOk h :=
  ⟨r.m.ok, r.f, r.fl, r.size, fun t ht => ⟨(r.each t ht).lo, (r.each t ht).le, (r.each t ht).hi⟩, s⟩

theorem stepT_buf (w : Wk) : (stepT w).bufAt = w.t.bufAt ∧ (stepT w).bufEnd = w.t.bufEnd ∧ (stepT w).pend = w.t.pend ∧ (stepT w).log = w.t.log ∧ (stepT w).stack = w.t.stack := by
  unfold stepT
  split <;> exact ⟨rfl, rfl, rfl, rfl, rfl⟩

/-- A right heap stays right. -/
theorem doF_right (x : Int) {h : Hp} (r : RightP h) (s : SmallH h) {i : Int} (hc : CanP h i) : RightP (doF x h i) := by
  have hi : 0 ≤ i ∧ i < h.threads.length := ⟨hc.1, hc.2.1⟩
  obtain ⟨g1, g2, g3, g4, g5, g6, g7⟩ := doF_rest x h i hi
  have hok := r.hok s
  have hw := startW_ok hok hi
  have ht := r.each _ (thr_mem hi)
  have key : (doF x h i).m.Right ∧ (doF x h i).f.Ok ∧ (doF x h i).f.s = h.f.s ∧ (doF x h i).f.lim = h.f.lim ∧ (doF x h i).m.w = h.m.w ∧ h.f.at' ≤ (doF x h i).f.at' ∧ ThOk (doF x h i).f (thr (doF x h i) i) := by
    rw [doF_this x h i hi]
    unfold doF
    split
    · rename_i hp
      rw [goF_eq x h i hi]
      have hk := actW_wk x hw.room hw.size ht.pend
      have ho := hk.room.ok
      refine ⟨⟨?_, ?_, ho.m.a, ho.m.b⟩, ho.b, hk.room.s, hk.room.lim, hk.room.w, hk.room.le, ?_⟩
      · have := r.m.lo; have e : (actW x (startW h i)).h.m.w = h.m.w := hk.room.w; rw [e]; exact this
      · have := r.m.hi; have e : (actW x (startW h i)).h.m.w = h.m.w := hk.room.w; rw [e]; exact this
      · obtain ⟨b1, b2, b3, _, _⟩ := stepT_buf (actW x (startW h i))
        exact ⟨by rw [b1]; exact ho.t.1, by rw [b1, b2]; exact ho.t.2.1, by rw [b2]; exact ho.t.2.2, by rw [b3]; exact hk.pend⟩
    · exact ⟨r.m, r.f, rfl, rfl, rfl, Int.le_refl _, ⟨ht.lo, ht.le, ht.hi, Nat.zero_le _⟩⟩
  obtain ⟨k1, k2, k3, k4, k5, k6, k7⟩ := key
  refine ⟨k1, k2, by rw [g1]; exact r.t, by rw [k3, g1]; exact r.ne, by rw [k4, k5]; exact r.fl, by rw [g1, k5]; exact r.tl, by rw [g2]; exact r.size, by rw [g3]; exact r.log, by rw [doF_len x h i hi]; exact r.th, fun t hm => ?_, by rw [g4]; exact r.phase, by rw [g5, g1]; exact r.scan⟩
  obtain ⟨j, hj, rfl⟩ := List.getElem_of_mem hm
  by_cases hji : j = i.toNat
  · subst hji
    have e : (doF x h i).threads[i.toNat] = thr (doF x h i) i := by
      unfold thr
      rw [List.getD_eq_getElem?_getD, List.getElem?_eq_getElem hj]; rfl
    rw [e]; exact k7
  · have e := doF_other x h i hi j hji
    rw [List.getElem?_eq_getElem hj] at e
    have hj2 : j < h.threads.length := by rw [← doF_len x h i hi]; exact hj
    rw [List.getElem?_eq_getElem hj2] at e
    have e : (doF x h i).threads[j] = h.threads[j] := Option.some.inj e
    rw [e]
    have q := r.each _ (List.getElem_mem hj2)
    exact ⟨q.lo, q.le, Int.le_trans q.hi k6, q.pend⟩
end Av
end
section
set_option linter.unusedSimpArgs false
set_option linter.unusedVariables false
namespace Av
open Go

/-- Behind a step ahead of which nothing was pending: answered, or wanting. -/
theorem go_counts (x : Int) {h : Hp} {i : Int} (hc : CanP h i) (hp : (thr h i).pend = []) :
    ((thr (doF x h i) i).done = (thr h i).done ∧ (thr (doF x h i) i).left = (thr h i).left ∧ (doF x h i).order = h.order ∧ (thr (doF x h i) i).want = true ∨
     (thr (doF x h i) i).done = (thr h i).done ++ [(actW x (startW h i)).a] ∧ (thr (doF x h i) i).left = (thr h i).left.drop 1 ∧ (doF x h i).order = h.order ++ [i] ∧ (thr (doF x h i) i).want = false) ∧
    (thr (doF x h i) i).log = (thr h i).log := by
  have hi : 0 ≤ i ∧ i < h.threads.length := ⟨hc.1, hc.2.1⟩
  have hk := actW_keeps x (startW h i)
  have ho : (doF x h i).order = if (actW x (startW h i)).wt then h.order else h.order ++ [i] := by
    unfold doF
    rw [if_pos hp, goF_eq x h i hi]
  rw [doF_this x h i hi, if_pos hp, ho]
  refine ⟨?_, (stepT_buf _).2.2.2.1.trans hk.tlog⟩
  cases hw : (actW x (startW h i)).wt with
  | true =>
    refine .inl ?_
    unfold stepT
    rw [hw, if_pos rfl]
    exact ⟨hk.done, hk.left, by simp, hw⟩
  | false =>
    refine .inr ?_
    unfold stepT
    rw [hw, if_neg Bool.false_ne_true]
    refine ⟨?_, ?_, by simp, hw⟩
    · show (actW x (startW h i)).t.done ++ _ = _
      rw [hk.done]; rfl
    · show (actW x (startW h i)).t.left.drop 1 = _
      rw [hk.left]; rfl

theorem pend_counts (x : Int) {h : Hp} {i : Int} (hc : CanP h i) (hp : (thr h i).pend ≠ []) :
    thr (doF x h i) i = pendT (thr h i) ∧ doF x h i = pendF h i := by
  have hi : 0 ≤ i ∧ i < h.threads.length := ⟨hc.1, hc.2.1⟩
  exact ⟨by rw [doF_this x h i hi, if_neg hp], by unfold doF; rw [if_neg hp]⟩

/-- What doesn't write or make leaves the heap. -/
theorem actW_h (x : Int) (w : Wk) (h1 : writesF w.o.kind = false) (h2 : w.o.kind ≠ 1) : (actW x w).h = w.h := by
  have fs : ∀ p, (fieldW w p).2.2.2.h = w.h := fun p => (fieldW_same w p).1
  simp only [writesF, Bool.or_eq_false_iff, beq_eq_false_iff_ne] at h1
  obtain ⟨⟨⟨k4, k5⟩, k6⟩, k7⟩ := h1
  unfold actW
  rw [if_neg h2]
  split
  · unfold getW
    split
    · exact fs false
    · exact fs false
  · split
    · unfold followW
      split
      · exact fs true
      · exact fs true
    · split
      · unfold sameW
        repeat' split
        all_goals rfl
      · split
        · unfold dupW
          split <;> rfl
        · split
          · rfl
          · split <;> rfl

theorem reads_same (x : Int) {h : Hp} {i : Int} (hc : CanP h i) (hq : (thr h i).pend ≠ [] ∨ (writesF (opP (thr h i)).kind = false ∧ (opP (thr h i)).kind ≠ 1)) :
    (doF x h i).m = h.m ∧ (doF x h i).f = h.f ∧ (doF x h i).t = h.t ∧ (doF x h i).phase = h.phase := by
  have hi : 0 ≤ i ∧ i < h.threads.length := ⟨hc.1, hc.2.1⟩
  by_cases hp : (thr h i).pend = []
  · obtain ⟨h1, h2⟩ := hq.resolve_left (fun q => q hp)
    unfold doF
    rw [if_pos hp, goF_eq x h i hi]
    have e := actW_h x (startW h i) h1 h2
    simp only [e]
    exact ⟨rfl, rfl, rfl, rfl⟩
  · rw [(pend_counts x hc hp).2]
    exact ⟨rfl, rfl, rfl, rfl⟩

/-- A field that is there is that of a handle's object. -/
theorem fieldW_ok (w : Wk) (p : Bool) : ((fieldW w p).2.2.1 = true ∧ (fieldW w p).2.2.2 = w ∧ 0 ≤ w.o.h ∧ w.o.h < w.t.stack.length ∧ (fieldW w p).1 = w.t.stack.getD w.o.h.toNat 0) ∨
    ((fieldW w p).2.2.1 = false ∧ (fieldW w p).2.2.2.a.e ≠ 0 ∧ (fieldW w p).2.2.2.t = w.t) := by
  unfold fieldW
  split
  · rename_i q; exact .inr ⟨rfl, q, rfl⟩
  · rename_i q
    split
    · exact .inr ⟨rfl, (show (10 : Int) ≠ 0 by decide), rfl⟩
    · split
      · exact .inr ⟨rfl, (show (10 : Int) ≠ 0 by decide), rfl⟩
      · split
        · rename_i q4; exact .inr ⟨rfl, q4, rfl⟩
        · split
          · refine .inl ⟨rfl, rfl, ?_⟩
            have q : (realS w.t.stack w.o.h).2 = 0 := Classical.not_not.1 q
            show 0 ≤ w.o.h ∧ w.o.h < w.t.stack.length ∧ (realS w.t.stack w.o.h).1 = w.t.stack.getD w.o.h.toNat 0
            unfold realS at *
            split at q
            · cases q
            · rename_i q6
              rw [if_neg q6]
              unfold getS at *
              split at q
              · cases q
              · rename_i q7
                rw [if_neg q7]
                split at q
                · cases q
                · rename_i q8
                  rw [if_neg q8]
                  exact ⟨by omega, by omega, rfl⟩
          · exact .inr ⟨rfl, (show (8 : Int) ≠ 0 by decide), rfl⟩

/-- What a write comes to while objects are copied. -/
theorem write_entry (x : Int) (w : Wk) (h1 : writesF w.o.kind = true) (h2 : w.h.phase = 1) (h3 : w.t.pend = []) (h4 : w.a.e = 0) (h5 : w.wt = false) :
    (actW x w).wt = false ∧ (((actW x w).a.e ≠ 0 ∧ (actW x w).t.pend = []) ∨
      ((actW x w).a.e = 0 ∧ 0 ≤ w.o.h ∧ w.o.h < w.t.stack.length ∧ (actW x w).t.pend = [⟨w.t.stack.getD w.o.h.toNat 0, w.o.i⟩])) := by
  have set : ∀ (v : Wk) (a b : Int), v.h = w.h → v.o = w.o → (setW v a b).t.pend = [⟨a, w.o.i⟩] := by
    intro v a b e1 e2
    show (if v.h.phase = 1 then [(⟨a, v.o.i⟩ : Entry)] else v.t.pend) = _
    rw [e1, if_pos h2, e2]
  have hwrite : (writeW x w).wt = false ∧ (((writeW x w).a.e ≠ 0 ∧ (writeW x w).t.pend = []) ∨
      ((writeW x w).a.e = 0 ∧ 0 ≤ w.o.h ∧ w.o.h < w.t.stack.length ∧ (writeW x w).t.pend = [⟨w.t.stack.getD w.o.h.toNat 0, w.o.i⟩])) := by
    unfold writeW
    rcases fieldW_ok w false with ⟨f1, f2, f3, f4, f5⟩ | ⟨f1, f2, f3⟩
    · rw [f1, f2, if_pos rfl]
      exact ⟨h5, .inr ⟨h4, f3, f4, by rw [set w _ _ rfl rfl, f5]⟩⟩
    · rw [f1, if_neg Bool.false_ne_true]
      refine ⟨?_, .inl ⟨f2, by rw [f3]; exact h3⟩⟩
      rw [(fieldW_same w false).2.2.2]; exact h5
  have hlink : (linkW w).wt = false ∧ (((linkW w).a.e ≠ 0 ∧ (linkW w).t.pend = []) ∨
      ((linkW w).a.e = 0 ∧ 0 ≤ w.o.h ∧ w.o.h < w.t.stack.length ∧ (linkW w).t.pend = [⟨w.t.stack.getD w.o.h.toNat 0, w.o.i⟩])) := by
    unfold linkW
    rcases fieldW_ok w true with ⟨f1, f2, f3, f4, f5⟩ | ⟨f1, f2, f3⟩
    · rw [f1, f2, if_pos rfl]
      unfold handleW
      simp only
      by_cases q : (getS w.t.stack w.o.k).2 = 0
      · rw [decide_eq_true q, if_pos rfl]
        exact ⟨h5, .inr ⟨q, f3, f4, by rw [set (noW w _) _ _ rfl rfl, f5]⟩⟩
      · rw [decide_eq_false q, if_neg Bool.false_ne_true]
        exact ⟨h5, .inl ⟨q, h3⟩⟩
    · rw [f1, if_neg Bool.false_ne_true]
      refine ⟨?_, .inl ⟨f2, by rw [f3]; exact h3⟩⟩
      rw [(fieldW_same w true).2.2.2]; exact h5
  obtain ⟨a1, a2, a3, a4, a5, a6, a7, a8, a9, a10, a11⟩ := actW_kind (x := x) (w := w)
  simp only [writesF, Bool.or_eq_true, beq_iff_eq] at h1
  rcases h1 with ((k | k) | k) | k
  · rw [a4 k]; exact hwrite
  · rw [a7 k]; exact hlink
  · rw [a5 k]; exact hwrite
  · rw [a6 k]; exact hwrite

/-- Rows with room for some things more. -/
structure Wide (h : Hp) : Prop where
  th : h.threads.length * 144 ≤ 2 ^ 47
  each : ∀ t ∈ h.threads, (t.stack.length + 3) * 8 ≤ 2 ^ 47 ∧ (t.log.length + 3) * 16 ≤ 2 ^ 47 ∧ (t.left.length + 3) * 64 ≤ 2 ^ 47 ∧ (t.done.length + 3) * 24 ≤ 2 ^ 47 ∧ (t.pend.length + 3) * 16 ≤ 2 ^ 47
  order : (h.order.length + 3) * 8 ≤ 2 ^ 47

theorem room3 {n c B : Nat} (h : (n + 3) * c ≤ B) {m : Nat} (hm : m ≤ n + 3) : m * c ≤ B := Nat.le_trans (Nat.mul_le_mul_right c hm) h

theorem Wide.small {h : Hp} (w : Wide h) : SmallH h :=
  ⟨w.th, fun t ht => by
    obtain ⟨a, b, c, d, e⟩ := w.each t ht
    exact ⟨by omega, by omega, by omega, by omega⟩, by have := w.order; omega⟩

theorem wide_this (x : Int) {h : Hp} (w : Wide h) {i : Int} (hc : CanP h i) : SmallT (thr (doF x h i) i) := by
  have hi : 0 ≤ i ∧ i < h.threads.length := ⟨hc.1, hc.2.1⟩
  obtain ⟨a, b, c, d, e⟩ := w.each _ (thr_mem hi)
  clear w
  by_cases hp : (thr h i).pend = []
  · obtain ⟨h1, h2⟩ := go_counts x hc hp
    have hs : (thr (doF x h i) i).stack.length ≤ (thr h i).stack.length ∨ (thr (doF x h i) i).stack.length ≤ 16 := by
      rw [doF_this x h i hi, if_pos hp, (stepT_buf _).2.2.2.2]
      exact (actW_keeps x (startW h i)).stack
    generalize thr (doF x h i) i = T at h1 h2 hs
    generalize thr h i = S at a b c d e h1 h2 hs
    generalize (actW x (startW h i)).a = A at h1
    have l1 : T.left.length ≤ S.left.length := by
      rcases h1 with ⟨_, h3, _⟩ | ⟨_, h3, _⟩
      · rw [h3]; exact Nat.le_refl _
      · rw [h3, List.length_drop]; exact Nat.sub_le _ _
    have l2 : T.done.length ≤ S.done.length + 1 := by
      rcases h1 with ⟨h3, _⟩ | ⟨h3, _⟩
      · rw [h3]; exact Nat.le_succ _
      · rw [h3, List.length_append]; exact Nat.le_refl _
    have l3 : T.log.length = S.log.length := by rw [h2]
    clear h1 h2
    exact ⟨by omega, by omega, by omega, by omega⟩
  · rw [(pend_counts x hc hp).1]
    clear hp
    generalize thr h i = S at a b c d e ⊢
    have k1 := room3 a (m := S.stack.length + 1) (Nat.add_le_add_left (by decide) _)
    have k2 := room3 b (m := S.log.length + 1 + 1) (Nat.add_le_add_left (show 2 ≤ 3 by decide) _)
    have k3 := room3 c (m := S.left.length + 1) (Nat.add_le_add_left (by decide) _)
    have k4 := room3 d (m := S.done.length + 1) (Nat.add_le_add_left (by decide) _)
    have l3 : (pendT S).log.length = S.log.length + 1 := by unfold pendT; simp
    exact ⟨k1, by rw [l3]; exact k2, k3, k4⟩

theorem wide_order (x : Int) {h : Hp} (w : Wide h) {i : Int} (hc : CanP h i) : ((doF x h i).order.length + 1) * 8 ≤ 2 ^ 47 := by
  have hw := w.order
  have hl : (doF x h i).order.length ≤ h.order.length + 1 := by
    by_cases hp : (thr h i).pend = []
    · rcases (go_counts x hc hp).1 with ⟨_, _, h3, _⟩ | ⟨_, _, h3, _⟩
      · rw [h3]; exact Nat.le_succ _
      · rw [h3, List.length_append]; exact Nat.le_refl _
    · rw [(pend_counts x hc hp).2]
      exact Nat.le_succ _
  omega

theorem doF_small (x : Int) {h : Hp} (w : Wide h) {i : Int} (hc : CanP h i) : SmallH (doF x h i) := by
  have hi : 0 ≤ i ∧ i < h.threads.length := ⟨hc.1, hc.2.1⟩
  refine ⟨by rw [doF_len x h i hi]; exact w.th, fun t hm => ?_, wide_order x w hc⟩
  obtain ⟨j, hj, rfl⟩ := List.getElem_of_mem hm
  by_cases hji : j = i.toNat
  · subst hji
    have e : (doF x h i).threads[i.toNat] = thr (doF x h i) i := by
      unfold thr
      rw [List.getD_eq_getElem?_getD, List.getElem?_eq_getElem hj]; rfl
    rw [e]; exact wide_this x w hc
  · have e := doF_other x h i hi j hji
    rw [List.getElem?_eq_getElem hj] at e
    have hj2 : j < h.threads.length := by rw [← doF_len x h i hi]; exact hj
    rw [List.getElem?_eq_getElem hj2] at e
    have e : (doF x h i).threads[j] = h.threads[j] := Option.some.inj e
    rw [e]
    exact w.small.each _ (List.getElem_mem hj2)
end Av
end
