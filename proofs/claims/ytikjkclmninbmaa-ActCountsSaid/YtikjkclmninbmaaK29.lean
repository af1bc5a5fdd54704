/- The walk: a thread's step. Own work. -/
import Derived.Test.YtikjkclmninbmaaK28
set_option linter.unusedSimpArgs false
set_option linter.unusedVariables false
namespace Av
open Go
set_option maxRecDepth 100000

def range : Nat → Nat → List Nat
  | _, 0 => []
  | i, n + 1 => i :: range (i + 1) n
noncomputable def C9 : Ctx := { CT with ords := [(3, range 0 9), (5, range 0 18), (7, range 0 14), (9, range 0 16), (12, [0, 2, 3, 4, 5, 6, 1, 7, 8, 9, 10, 11, 12]), (17, range 0 16), (20, range 0 11)], owns := [101] }

theorem wantT_small {w v : Wk} (hs : SmallT w.t) (hk : Keeps w v) : SmallT (wantT v) := by
  have h1 := hk.stack
  have h2 := hs.stack
  exact ⟨by show (v.t.stack.length + 1) * 8 ≤ 2 ^ 47; omega, by show (v.t.log.length + 1) * 16 ≤ 2 ^ 47; rw [hk.tlog]; exact hs.log, by show (v.t.left.length + 1) * 64 ≤ 2 ^ 47; rw [hk.left]; exact hs.left,
    by show (v.t.done.length + 1) * 24 ≤ 2 ^ 47; rw [hk.done]; exact hs.done⟩

theorem n9 (h : Hp) (i : Int) (hh : HOk h) : NC PP 9 [h.av, i64 i] fun r => ∃ x k, r = Hp.av k ∧ ((¬ CanP h i ∧ k = h) ∨ (CanP h i ∧ k = doF x h i)) := by
  refine nc_rule (CT_okc (C := C9) rfl rfl) (f := 9) (fn := Go.Proofs.Try.f9) (by kernel_rfl) rfl (by kernel_rfl) _ rfl ?_
  conv => whnf
  refine EC.real (e11 h i) rfl ?_
  rintro _ (⟨rfl, hc⟩ | ⟨rfl, hc⟩)
  · conv => whnf
    refine ⟨by kernel_rfl, ?_⟩
    conv => whnf
    have hi : 0 ≤ i ∧ i < h.threads.length := ⟨hc.1, hc.2.1⟩
    have hlt : i.toNat < h.threads.length := by omega
    refine ⟨_, ⟨hi.1, List.getElem?_eq_getElem hlt⟩, ?_⟩
    have ht : thr h i = h.threads[i.toNat] := by rw [thr, List.getD_eq_getElem?_getD, List.getElem?_eq_getElem hlt]; rfl
    rw [← ht]
    have hsT : SmallT (thr h i) := hh.small.each _ (thr_mem hi)
    generalize hT : thr h i = T at hsT
    conv => whnf
    split <;> rename_i q1
    · have q1 : ((T.pend.length : Nat) : Int) > 0 := of_decide_eq_true q1
      have hp0 : 0 < T.pend.length := by omega
      have hpn : T.pend ≠ [] := fun e => by rw [e] at hp0; simp at hp0
      conv => whnf
      refine ⟨by kernel_rfl, ?_⟩
      conv => whnf
      refine ⟨_, ⟨by decide, List.getElem?_eq_getElem hp0⟩, ?_⟩
      have hpd : T.pend.getD 0 default = T.pend[0] := by rw [List.getD_eq_getElem?_getD, List.getElem?_eq_getElem hp0]; rfl
      rw [← hpd]
      generalize hP : T.pend.getD 0 default = P
      conv => whnf
      refine EC.draw (e15 T.log P hsT.log) ?_
      rintro _ ⟨l, e, rfl, hl⟩
      have hl1 : l = (logF T.log P).1 := congrArg Prod.fst hl
      have hl2 : e = (logF T.log P).2 := congrArg Prod.snd hl
      have fin : ∀ l', l' = T.log ++ [P] → doF 0 h i = { h with threads := h.threads.set i.toNat { T with log := l', pend := [] } } := by
        intro l' e
        rw [doF, hT, if_neg hpn, pendF, hT, pendT, hP, e]
      conv => whnf
      split <;> rename_i q2
      · have q2 : e ≠ 0 := by simpa using q2
        conv => whnf
        refine ⟨by kernel_rfl, ?_⟩
        conv => whnf
        refine ⟨_, ⟨by decide, List.getElem?_eq_getElem hp0⟩, ?_⟩
        rw [← hpd, hP]
        conv => whnf
        refine EC.draw (e16 T.log P hsT.log) ?_
        rintro _ rfl
        conv => whnf
        refine ⟨by kernel_rfl, ?_⟩
        conv => whnf
        refine EC.draw (e17 h.threads hh.small.th i hi { T with log := T.log ++ [P], pend := [] }) ?_
        rintro _ rfl
        conv => whnf
        exact ⟨⟨0, { h with threads := h.threads.set i.toNat { T with log := T.log ++ [P], pend := [] } }, rfl, .inr ⟨hc, (fin _ rfl).symm⟩⟩, rfl⟩
      · have q2 : ¬ e ≠ 0 := by simpa using q2
        have q3 : l = T.log ++ [P] := by
          rw [hl2] at q2
          rw [hl1]
          unfold logF at *
          split at q2
          · exact absurd (show (4 : Int) ≠ 0 by decide) q2
          · rename_i q; rw [if_neg q]
        conv => whnf
        refine ⟨by kernel_rfl, ?_⟩
        conv => whnf
        refine EC.draw (e17 h.threads hh.small.th i hi { T with log := l, pend := [] }) ?_
        rintro _ rfl
        conv => whnf
        exact ⟨⟨0, { h with threads := h.threads.set i.toNat { T with log := l, pend := [] } }, rfl, .inr ⟨hc, (fin l q3).symm⟩⟩, rfl⟩
    · have q1 : ¬ ((T.pend.length : Nat) : Int) > 0 := of_decide_eq_false q1
      have q1' : (thr h i).pend = [] := by rw [hT]; exact List.eq_nil_of_length_eq_zero (by omega)
      have hl0 : 0 < T.left.length := by
        have := hc.2.2.2
        rw [hT] at this q1'
        rcases this with h1 | h1
        · exact absurd q1' h1
        · exact List.length_pos_iff.2 h1.1
      have hop : opP T = T.left[0] := by rw [opP, List.getD_eq_getElem?_getD, List.getElem?_eq_getElem hl0]; rfl
      conv => whnf
      refine ⟨_, ⟨by decide, List.getElem?_eq_getElem hl0⟩, ?_⟩
      rw [← hop]
      generalize hO : opP T = O
      obtain ⟨kd, oh, oi, ok, ov, onew⟩ := O
      have hw0 : startW h i = ⟨h, T, ⟨kd, oh, oi, ok, ov, onew⟩, ⟨0, 0, false⟩, false⟩ := by rw [startW, hT, hO]
      have hwo := startW_ok hh hi
      rw [hw0] at hwo
      by_cases k1 : kd = 1
      · subst k1
        generalize hw00 : (⟨h, T, ⟨1, oh, oi, ok, ov, onew⟩, ⟨0, 0, false⟩, false⟩ : Wk) = w0 at hw0 hwo
        conv => whnf
        refine ⟨by kernel_rfl, ?_⟩
        conv => whnf
        refine (c18 h ⟨h, T, ⟨1, oh, oi, ok, ov, onew⟩, ⟨0, 0, false⟩, false⟩).mono ?_
        rintro _ _ ⟨rfl, rfl⟩
        refine ⟨⟨[.box [.ptr 2 0 0 0], .map .i64 actsEs], rfl⟩, ?_⟩
        conv => whnf
        subst hw00
        refine (c27 h _ hwo).mono ?_
        rintro _ _ ⟨w', rfl, hw'⟩
        have hact : w' = actW 0 ⟨h, T, ⟨1, oh, oi, ok, ov, onew⟩, ⟨0, 0, false⟩, false⟩ := hw'.trans ((actW_kind (x := 0) (w := ⟨h, T, ⟨1, oh, oi, ok, ov, onew⟩, ⟨0, 0, false⟩, false⟩)).1 rfl).symm
        have hk := actW_keeps 0 ⟨h, T, ⟨1, oh, oi, ok, ov, onew⟩, ⟨0, 0, false⟩, false⟩
        rw [← hact] at hk
        have hi2 : 0 ≤ i ∧ i < w'.h.threads.length := by rw [hk.threads]; exact hi
        conv => whnf
        refine ⟨by kernel_rfl, ?_⟩
        conv => whnf
        refine EC.draw (e17 w'.h.threads (by rw [hk.threads]; exact hh.small.th) i hi2 (wantT w')) ?_
        rintro _ rfl
        conv => whnf
        split <;> rename_i q
        · conv => whnf
          refine ⟨⟨0, wantH w' i, rfl, .inr ⟨hc, ?_⟩⟩, rfl⟩
          rw [doF, if_pos q1', goF, hw0, ← hact, if_pos q]
        · conv => whnf
          refine ⟨by kernel_rfl, ?_⟩
          conv => whnf
          have hsm : SmallH (wantH w' i) := hh.small.set (i := i) (t := wantT w') (by show w'.h.order.length = _; rw [hk.order]) (wantT_small hsT hk) (by show w'.h.threads.set _ _ = _; rw [hk.threads])
          refine EC.draw (e20 (wantH w' i) hsm i (by show 0 ≤ i ∧ i < ((w'.h.threads.set i.toNat (wantT w')).length : Int); rw [List.length_set]; exact hi2) w'.a) ?_
          rintro _ ⟨k, rfl, hk2⟩
          conv => whnf
          refine ⟨⟨0, k, rfl, .inr ⟨hc, ?_⟩⟩, rfl⟩
          rw [doF, if_pos q1', goF, hw0, ← hact, if_neg (by rw [q]; exact Bool.false_ne_true), hk2]
      · skip
        by_cases k2 : kd = 2
        · subst k2
          generalize hw00 : (⟨h, T, ⟨2, oh, oi, ok, ov, onew⟩, ⟨0, 0, false⟩, false⟩ : Wk) = w0 at hw0 hwo
          conv => whnf
          refine ⟨by kernel_rfl, ?_⟩
          conv => whnf
          refine (c18 h ⟨h, T, ⟨2, oh, oi, ok, ov, onew⟩, ⟨0, 0, false⟩, false⟩).mono ?_
          rintro _ _ ⟨rfl, rfl⟩
          refine ⟨⟨[.box [.ptr 2 0 0 0], .map .i64 actsEs], rfl⟩, ?_⟩
          conv => whnf
          subst hw00
          refine (c28 h _ hwo.m).mono ?_
          rintro _ _ ⟨w', rfl, hw'⟩
          have hact : w' = actW 0 ⟨h, T, ⟨2, oh, oi, ok, ov, onew⟩, ⟨0, 0, false⟩, false⟩ := hw'.trans ((actW_kind (x := 0) (w := ⟨h, T, ⟨2, oh, oi, ok, ov, onew⟩, ⟨0, 0, false⟩, false⟩)).2.1 rfl).symm
          have hk := actW_keeps 0 ⟨h, T, ⟨2, oh, oi, ok, ov, onew⟩, ⟨0, 0, false⟩, false⟩
          rw [← hact] at hk
          have hi2 : 0 ≤ i ∧ i < w'.h.threads.length := by rw [hk.threads]; exact hi
          conv => whnf
          refine ⟨by kernel_rfl, ?_⟩
          conv => whnf
          refine EC.draw (e17 w'.h.threads (by rw [hk.threads]; exact hh.small.th) i hi2 (wantT w')) ?_
          rintro _ rfl
          conv => whnf
          split <;> rename_i q
          · conv => whnf
            refine ⟨⟨0, wantH w' i, rfl, .inr ⟨hc, ?_⟩⟩, rfl⟩
            rw [doF, if_pos q1', goF, hw0, ← hact, if_pos q]
          · conv => whnf
            refine ⟨by kernel_rfl, ?_⟩
            conv => whnf
            have hsm : SmallH (wantH w' i) := hh.small.set (i := i) (t := wantT w') (by show w'.h.order.length = _; rw [hk.order]) (wantT_small hsT hk) (by show w'.h.threads.set _ _ = _; rw [hk.threads])
            refine EC.draw (e20 (wantH w' i) hsm i (by show 0 ≤ i ∧ i < ((w'.h.threads.set i.toNat (wantT w')).length : Int); rw [List.length_set]; exact hi2) w'.a) ?_
            rintro _ ⟨k, rfl, hk2⟩
            conv => whnf
            refine ⟨⟨0, k, rfl, .inr ⟨hc, ?_⟩⟩, rfl⟩
            rw [doF, if_pos q1', goF, hw0, ← hact, if_neg (by rw [q]; exact Bool.false_ne_true), hk2]
        · skip
          by_cases k3 : kd = 3
          · subst k3
            generalize hw00 : (⟨h, T, ⟨3, oh, oi, ok, ov, onew⟩, ⟨0, 0, false⟩, false⟩ : Wk) = w0 at hw0 hwo
            conv => whnf
            refine ⟨by kernel_rfl, ?_⟩
            conv => whnf
            refine (c18 h ⟨h, T, ⟨3, oh, oi, ok, ov, onew⟩, ⟨0, 0, false⟩, false⟩).mono ?_
            rintro _ _ ⟨rfl, rfl⟩
            refine ⟨⟨[.box [.ptr 2 0 0 0], .map .i64 actsEs], rfl⟩, ?_⟩
            conv => whnf
            subst hw00
            refine (c30 h _ hwo.m hwo.stack).mono ?_
            rintro _ _ ⟨w', rfl, hw'⟩
            have hact : w' = actW 0 ⟨h, T, ⟨3, oh, oi, ok, ov, onew⟩, ⟨0, 0, false⟩, false⟩ := hw'.trans ((actW_kind (x := 0) (w := ⟨h, T, ⟨3, oh, oi, ok, ov, onew⟩, ⟨0, 0, false⟩, false⟩)).2.2.1 rfl).symm
            have hk := actW_keeps 0 ⟨h, T, ⟨3, oh, oi, ok, ov, onew⟩, ⟨0, 0, false⟩, false⟩
            rw [← hact] at hk
            have hi2 : 0 ≤ i ∧ i < w'.h.threads.length := by rw [hk.threads]; exact hi
            conv => whnf
            refine ⟨by kernel_rfl, ?_⟩
            conv => whnf
            refine EC.draw (e17 w'.h.threads (by rw [hk.threads]; exact hh.small.th) i hi2 (wantT w')) ?_
            rintro _ rfl
            conv => whnf
            split <;> rename_i q
            · conv => whnf
              refine ⟨⟨0, wantH w' i, rfl, .inr ⟨hc, ?_⟩⟩, rfl⟩
              rw [doF, if_pos q1', goF, hw0, ← hact, if_pos q]
            · conv => whnf
              refine ⟨by kernel_rfl, ?_⟩
              conv => whnf
              have hsm : SmallH (wantH w' i) := hh.small.set (i := i) (t := wantT w') (by show w'.h.order.length = _; rw [hk.order]) (wantT_small hsT hk) (by show w'.h.threads.set _ _ = _; rw [hk.threads])
              refine EC.draw (e20 (wantH w' i) hsm i (by show 0 ≤ i ∧ i < ((w'.h.threads.set i.toNat (wantT w')).length : Int); rw [List.length_set]; exact hi2) w'.a) ?_
              rintro _ ⟨k, rfl, hk2⟩
              conv => whnf
              refine ⟨⟨0, k, rfl, .inr ⟨hc, ?_⟩⟩, rfl⟩
              rw [doF, if_pos q1', goF, hw0, ← hact, if_neg (by rw [q]; exact Bool.false_ne_true), hk2]
          · skip
            by_cases k4 : kd = 4
            · subst k4
              generalize hw00 : (⟨h, T, ⟨4, oh, oi, ok, ov, onew⟩, ⟨0, 0, false⟩, false⟩ : Wk) = w0 at hw0 hwo
              conv => whnf
              refine ⟨by kernel_rfl, ?_⟩
              conv => whnf
              refine (c18 h ⟨h, T, ⟨4, oh, oi, ok, ov, onew⟩, ⟨0, 0, false⟩, false⟩).mono ?_
              rintro _ _ ⟨rfl, rfl⟩
              refine ⟨⟨[.box [.ptr 2 0 0 0], .map .i64 actsEs], rfl⟩, ?_⟩
              conv => whnf
              subst hw00
              refine (c32 h _ hwo.m).mono ?_
              rintro _ _ ⟨x, w', rfl, hw'⟩
              have hact : w' = actW x ⟨h, T, ⟨4, oh, oi, ok, ov, onew⟩, ⟨0, 0, false⟩, false⟩ := hw'.trans ((actW_kind (x := x) (w := ⟨h, T, ⟨4, oh, oi, ok, ov, onew⟩, ⟨0, 0, false⟩, false⟩)).2.2.2.1 rfl).symm
              have hk := actW_keeps x ⟨h, T, ⟨4, oh, oi, ok, ov, onew⟩, ⟨0, 0, false⟩, false⟩
              rw [← hact] at hk
              have hi2 : 0 ≤ i ∧ i < w'.h.threads.length := by rw [hk.threads]; exact hi
              conv => whnf
              refine ⟨by kernel_rfl, ?_⟩
              conv => whnf
              refine EC.draw (e17 w'.h.threads (by rw [hk.threads]; exact hh.small.th) i hi2 (wantT w')) ?_
              rintro _ rfl
              conv => whnf
              split <;> rename_i q
              · conv => whnf
                refine ⟨⟨x, wantH w' i, rfl, .inr ⟨hc, ?_⟩⟩, rfl⟩
                rw [doF, if_pos q1', goF, hw0, ← hact, if_pos q]
              · conv => whnf
                refine ⟨by kernel_rfl, ?_⟩
                conv => whnf
                have hsm : SmallH (wantH w' i) := hh.small.set (i := i) (t := wantT w') (by show w'.h.order.length = _; rw [hk.order]) (wantT_small hsT hk) (by show w'.h.threads.set _ _ = _; rw [hk.threads])
                refine EC.draw (e20 (wantH w' i) hsm i (by show 0 ≤ i ∧ i < ((w'.h.threads.set i.toNat (wantT w')).length : Int); rw [List.length_set]; exact hi2) w'.a) ?_
                rintro _ ⟨k, rfl, hk2⟩
                conv => whnf
                refine ⟨⟨x, k, rfl, .inr ⟨hc, ?_⟩⟩, rfl⟩
                rw [doF, if_pos q1', goF, hw0, ← hact, if_neg (by rw [q]; exact Bool.false_ne_true), hk2]
            · skip
              by_cases k6 : kd = 6
              · subst k6
                generalize hw00 : (⟨h, T, ⟨6, oh, oi, ok, ov, onew⟩, ⟨0, 0, false⟩, false⟩ : Wk) = w0 at hw0 hwo
                conv => whnf
                refine ⟨by kernel_rfl, ?_⟩
                conv => whnf
                refine (c18 h ⟨h, T, ⟨6, oh, oi, ok, ov, onew⟩, ⟨0, 0, false⟩, false⟩).mono ?_
                rintro _ _ ⟨rfl, rfl⟩
                refine ⟨⟨[.box [.ptr 2 0 0 0], .map .i64 actsEs], rfl⟩, ?_⟩
                conv => whnf
                subst hw00
                refine (c32 h _ hwo.m).mono ?_
                rintro _ _ ⟨x, w', rfl, hw'⟩
                have hact : w' = actW x ⟨h, T, ⟨6, oh, oi, ok, ov, onew⟩, ⟨0, 0, false⟩, false⟩ := hw'.trans ((actW_kind (x := x) (w := ⟨h, T, ⟨6, oh, oi, ok, ov, onew⟩, ⟨0, 0, false⟩, false⟩)).2.2.2.2.1 rfl).symm
                have hk := actW_keeps x ⟨h, T, ⟨6, oh, oi, ok, ov, onew⟩, ⟨0, 0, false⟩, false⟩
                rw [← hact] at hk
                have hi2 : 0 ≤ i ∧ i < w'.h.threads.length := by rw [hk.threads]; exact hi
                conv => whnf
                refine ⟨by kernel_rfl, ?_⟩
                conv => whnf
                refine EC.draw (e17 w'.h.threads (by rw [hk.threads]; exact hh.small.th) i hi2 (wantT w')) ?_
                rintro _ rfl
                conv => whnf
                split <;> rename_i q
                · conv => whnf
                  refine ⟨⟨x, wantH w' i, rfl, .inr ⟨hc, ?_⟩⟩, rfl⟩
                  rw [doF, if_pos q1', goF, hw0, ← hact, if_pos q]
                · conv => whnf
                  refine ⟨by kernel_rfl, ?_⟩
                  conv => whnf
                  have hsm : SmallH (wantH w' i) := hh.small.set (i := i) (t := wantT w') (by show w'.h.order.length = _; rw [hk.order]) (wantT_small hsT hk) (by show w'.h.threads.set _ _ = _; rw [hk.threads])
                  refine EC.draw (e20 (wantH w' i) hsm i (by show 0 ≤ i ∧ i < ((w'.h.threads.set i.toNat (wantT w')).length : Int); rw [List.length_set]; exact hi2) w'.a) ?_
                  rintro _ ⟨k, rfl, hk2⟩
                  conv => whnf
                  refine ⟨⟨x, k, rfl, .inr ⟨hc, ?_⟩⟩, rfl⟩
                  rw [doF, if_pos q1', goF, hw0, ← hact, if_neg (by rw [q]; exact Bool.false_ne_true), hk2]
              · skip
                by_cases k7 : kd = 7
                · subst k7
                  generalize hw00 : (⟨h, T, ⟨7, oh, oi, ok, ov, onew⟩, ⟨0, 0, false⟩, false⟩ : Wk) = w0 at hw0 hwo
                  conv => whnf
                  refine ⟨by kernel_rfl, ?_⟩
                  conv => whnf
                  refine (c18 h ⟨h, T, ⟨7, oh, oi, ok, ov, onew⟩, ⟨0, 0, false⟩, false⟩).mono ?_
                  rintro _ _ ⟨rfl, rfl⟩
                  refine ⟨⟨[.box [.ptr 2 0 0 0], .map .i64 actsEs], rfl⟩, ?_⟩
                  conv => whnf
                  subst hw00
                  refine (c32 h _ hwo.m).mono ?_
                  rintro _ _ ⟨x, w', rfl, hw'⟩
                  have hact : w' = actW x ⟨h, T, ⟨7, oh, oi, ok, ov, onew⟩, ⟨0, 0, false⟩, false⟩ := hw'.trans ((actW_kind (x := x) (w := ⟨h, T, ⟨7, oh, oi, ok, ov, onew⟩, ⟨0, 0, false⟩, false⟩)).2.2.2.2.2.1 rfl).symm
                  have hk := actW_keeps x ⟨h, T, ⟨7, oh, oi, ok, ov, onew⟩, ⟨0, 0, false⟩, false⟩
                  rw [← hact] at hk
                  have hi2 : 0 ≤ i ∧ i < w'.h.threads.length := by rw [hk.threads]; exact hi
                  conv => whnf
                  refine ⟨by kernel_rfl, ?_⟩
                  conv => whnf
                  refine EC.draw (e17 w'.h.threads (by rw [hk.threads]; exact hh.small.th) i hi2 (wantT w')) ?_
                  rintro _ rfl
                  conv => whnf
                  split <;> rename_i q
                  · conv => whnf
                    refine ⟨⟨x, wantH w' i, rfl, .inr ⟨hc, ?_⟩⟩, rfl⟩
                    rw [doF, if_pos q1', goF, hw0, ← hact, if_pos q]
                  · conv => whnf
                    refine ⟨by kernel_rfl, ?_⟩
                    conv => whnf
                    have hsm : SmallH (wantH w' i) := hh.small.set (i := i) (t := wantT w') (by show w'.h.order.length = _; rw [hk.order]) (wantT_small hsT hk) (by show w'.h.threads.set _ _ = _; rw [hk.threads])
                    refine EC.draw (e20 (wantH w' i) hsm i (by show 0 ≤ i ∧ i < ((w'.h.threads.set i.toNat (wantT w')).length : Int); rw [List.length_set]; exact hi2) w'.a) ?_
                    rintro _ ⟨k, rfl, hk2⟩
                    conv => whnf
                    refine ⟨⟨x, k, rfl, .inr ⟨hc, ?_⟩⟩, rfl⟩
                    rw [doF, if_pos q1', goF, hw0, ← hact, if_neg (by rw [q]; exact Bool.false_ne_true), hk2]
                · skip
                  by_cases k5 : kd = 5
                  · subst k5
                    generalize hw00 : (⟨h, T, ⟨5, oh, oi, ok, ov, onew⟩, ⟨0, 0, false⟩, false⟩ : Wk) = w0 at hw0 hwo
                    conv => whnf
                    refine ⟨by kernel_rfl, ?_⟩
                    conv => whnf
                    refine (c18 h ⟨h, T, ⟨5, oh, oi, ok, ov, onew⟩, ⟨0, 0, false⟩, false⟩).mono ?_
                    rintro _ _ ⟨rfl, rfl⟩
                    refine ⟨⟨[.box [.ptr 2 0 0 0], .map .i64 actsEs], rfl⟩, ?_⟩
                    conv => whnf
                    subst hw00
                    refine (c33 h _ hwo.m).mono ?_
                    rintro _ _ ⟨w', rfl, hw'⟩
                    have hact : w' = actW 0 ⟨h, T, ⟨5, oh, oi, ok, ov, onew⟩, ⟨0, 0, false⟩, false⟩ := hw'.trans ((actW_kind (x := 0) (w := ⟨h, T, ⟨5, oh, oi, ok, ov, onew⟩, ⟨0, 0, false⟩, false⟩)).2.2.2.2.2.2.1 rfl).symm
                    have hk := actW_keeps 0 ⟨h, T, ⟨5, oh, oi, ok, ov, onew⟩, ⟨0, 0, false⟩, false⟩
                    rw [← hact] at hk
                    have hi2 : 0 ≤ i ∧ i < w'.h.threads.length := by rw [hk.threads]; exact hi
                    conv => whnf
                    refine ⟨by kernel_rfl, ?_⟩
                    conv => whnf
                    refine EC.draw (e17 w'.h.threads (by rw [hk.threads]; exact hh.small.th) i hi2 (wantT w')) ?_
                    rintro _ rfl
                    conv => whnf
                    split <;> rename_i q
                    · conv => whnf
                      refine ⟨⟨0, wantH w' i, rfl, .inr ⟨hc, ?_⟩⟩, rfl⟩
                      rw [doF, if_pos q1', goF, hw0, ← hact, if_pos q]
                    · conv => whnf
                      refine ⟨by kernel_rfl, ?_⟩
                      conv => whnf
                      have hsm : SmallH (wantH w' i) := hh.small.set (i := i) (t := wantT w') (by show w'.h.order.length = _; rw [hk.order]) (wantT_small hsT hk) (by show w'.h.threads.set _ _ = _; rw [hk.threads])
                      refine EC.draw (e20 (wantH w' i) hsm i (by show 0 ≤ i ∧ i < ((w'.h.threads.set i.toNat (wantT w')).length : Int); rw [List.length_set]; exact hi2) w'.a) ?_
                      rintro _ ⟨k, rfl, hk2⟩
                      conv => whnf
                      refine ⟨⟨0, k, rfl, .inr ⟨hc, ?_⟩⟩, rfl⟩
                      rw [doF, if_pos q1', goF, hw0, ← hact, if_neg (by rw [q]; exact Bool.false_ne_true), hk2]
                  · skip
                    by_cases k8 : kd = 8
                    · subst k8
                      generalize hw00 : (⟨h, T, ⟨8, oh, oi, ok, ov, onew⟩, ⟨0, 0, false⟩, false⟩ : Wk) = w0 at hw0 hwo
                      conv => whnf
                      refine ⟨by kernel_rfl, ?_⟩
                      conv => whnf
                      refine (c18 h ⟨h, T, ⟨8, oh, oi, ok, ov, onew⟩, ⟨0, 0, false⟩, false⟩).mono ?_
                      rintro _ _ ⟨rfl, rfl⟩
                      refine ⟨⟨[.box [.ptr 2 0 0 0], .map .i64 actsEs], rfl⟩, ?_⟩
                      conv => whnf
                      subst hw00
                      refine (c36 h _).mono ?_
                      rintro _ _ ⟨w', rfl, hw'⟩
                      have hact : w' = actW 0 ⟨h, T, ⟨8, oh, oi, ok, ov, onew⟩, ⟨0, 0, false⟩, false⟩ := hw'.trans ((actW_kind (x := 0) (w := ⟨h, T, ⟨8, oh, oi, ok, ov, onew⟩, ⟨0, 0, false⟩, false⟩)).2.2.2.2.2.2.2.1 rfl).symm
                      have hk := actW_keeps 0 ⟨h, T, ⟨8, oh, oi, ok, ov, onew⟩, ⟨0, 0, false⟩, false⟩
                      rw [← hact] at hk
                      have hi2 : 0 ≤ i ∧ i < w'.h.threads.length := by rw [hk.threads]; exact hi
                      conv => whnf
                      refine ⟨by kernel_rfl, ?_⟩
                      conv => whnf
                      refine EC.draw (e17 w'.h.threads (by rw [hk.threads]; exact hh.small.th) i hi2 (wantT w')) ?_
                      rintro _ rfl
                      conv => whnf
                      split <;> rename_i q
                      · conv => whnf
                        refine ⟨⟨0, wantH w' i, rfl, .inr ⟨hc, ?_⟩⟩, rfl⟩
                        rw [doF, if_pos q1', goF, hw0, ← hact, if_pos q]
                      · conv => whnf
                        refine ⟨by kernel_rfl, ?_⟩
                        conv => whnf
                        have hsm : SmallH (wantH w' i) := hh.small.set (i := i) (t := wantT w') (by show w'.h.order.length = _; rw [hk.order]) (wantT_small hsT hk) (by show w'.h.threads.set _ _ = _; rw [hk.threads])
                        refine EC.draw (e20 (wantH w' i) hsm i (by show 0 ≤ i ∧ i < ((w'.h.threads.set i.toNat (wantT w')).length : Int); rw [List.length_set]; exact hi2) w'.a) ?_
                        rintro _ ⟨k, rfl, hk2⟩
                        conv => whnf
                        refine ⟨⟨0, k, rfl, .inr ⟨hc, ?_⟩⟩, rfl⟩
                        rw [doF, if_pos q1', goF, hw0, ← hact, if_neg (by rw [q]; exact Bool.false_ne_true), hk2]
                    · skip
                      by_cases k9 : kd = 9
                      · subst k9
                        generalize hw00 : (⟨h, T, ⟨9, oh, oi, ok, ov, onew⟩, ⟨0, 0, false⟩, false⟩ : Wk) = w0 at hw0 hwo
                        conv => whnf
                        refine ⟨by kernel_rfl, ?_⟩
                        conv => whnf
                        refine (c18 h ⟨h, T, ⟨9, oh, oi, ok, ov, onew⟩, ⟨0, 0, false⟩, false⟩).mono ?_
                        rintro _ _ ⟨rfl, rfl⟩
                        refine ⟨⟨[.box [.ptr 2 0 0 0], .map .i64 actsEs], rfl⟩, ?_⟩
                        conv => whnf
                        subst hw00
                        refine (c37 h _ hwo.stack).mono ?_
                        rintro _ _ ⟨w', rfl, hw'⟩
                        have hact : w' = actW 0 ⟨h, T, ⟨9, oh, oi, ok, ov, onew⟩, ⟨0, 0, false⟩, false⟩ := hw'.trans ((actW_kind (x := 0) (w := ⟨h, T, ⟨9, oh, oi, ok, ov, onew⟩, ⟨0, 0, false⟩, false⟩)).2.2.2.2.2.2.2.2.1 rfl).symm
                        have hk := actW_keeps 0 ⟨h, T, ⟨9, oh, oi, ok, ov, onew⟩, ⟨0, 0, false⟩, false⟩
                        rw [← hact] at hk
                        have hi2 : 0 ≤ i ∧ i < w'.h.threads.length := by rw [hk.threads]; exact hi
                        conv => whnf
                        refine ⟨by kernel_rfl, ?_⟩
                        conv => whnf
                        refine EC.draw (e17 w'.h.threads (by rw [hk.threads]; exact hh.small.th) i hi2 (wantT w')) ?_
                        rintro _ rfl
                        conv => whnf
                        split <;> rename_i q
                        · conv => whnf
                          refine ⟨⟨0, wantH w' i, rfl, .inr ⟨hc, ?_⟩⟩, rfl⟩
                          rw [doF, if_pos q1', goF, hw0, ← hact, if_pos q]
                        · conv => whnf
                          refine ⟨by kernel_rfl, ?_⟩
                          conv => whnf
                          have hsm : SmallH (wantH w' i) := hh.small.set (i := i) (t := wantT w') (by show w'.h.order.length = _; rw [hk.order]) (wantT_small hsT hk) (by show w'.h.threads.set _ _ = _; rw [hk.threads])
                          refine EC.draw (e20 (wantH w' i) hsm i (by show 0 ≤ i ∧ i < ((w'.h.threads.set i.toNat (wantT w')).length : Int); rw [List.length_set]; exact hi2) w'.a) ?_
                          rintro _ ⟨k, rfl, hk2⟩
                          conv => whnf
                          refine ⟨⟨0, k, rfl, .inr ⟨hc, ?_⟩⟩, rfl⟩
                          rw [doF, if_pos q1', goF, hw0, ← hact, if_neg (by rw [q]; exact Bool.false_ne_true), hk2]
                      · skip
                        by_cases k10 : kd = 10
                        · subst k10
                          generalize hw00 : (⟨h, T, ⟨10, oh, oi, ok, ov, onew⟩, ⟨0, 0, false⟩, false⟩ : Wk) = w0 at hw0 hwo
                          conv => whnf
                          refine ⟨by kernel_rfl, ?_⟩
                          conv => whnf
                          refine (c18 h ⟨h, T, ⟨10, oh, oi, ok, ov, onew⟩, ⟨0, 0, false⟩, false⟩).mono ?_
                          rintro _ _ ⟨rfl, rfl⟩
                          refine ⟨⟨[.box [.ptr 2 0 0 0], .map .i64 actsEs], rfl⟩, ?_⟩
                          conv => whnf
                          subst hw00
                          refine (c38 h _ hwo.stack).mono ?_
                          rintro _ _ ⟨w', rfl, hw'⟩
                          have hact : w' = actW 0 ⟨h, T, ⟨10, oh, oi, ok, ov, onew⟩, ⟨0, 0, false⟩, false⟩ := hw'.trans ((actW_kind (x := 0) (w := ⟨h, T, ⟨10, oh, oi, ok, ov, onew⟩, ⟨0, 0, false⟩, false⟩)).2.2.2.2.2.2.2.2.2.1 rfl).symm
                          have hk := actW_keeps 0 ⟨h, T, ⟨10, oh, oi, ok, ov, onew⟩, ⟨0, 0, false⟩, false⟩
                          rw [← hact] at hk
                          have hi2 : 0 ≤ i ∧ i < w'.h.threads.length := by rw [hk.threads]; exact hi
                          conv => whnf
                          refine ⟨by kernel_rfl, ?_⟩
                          conv => whnf
                          refine EC.draw (e17 w'.h.threads (by rw [hk.threads]; exact hh.small.th) i hi2 (wantT w')) ?_
                          rintro _ rfl
                          conv => whnf
                          split <;> rename_i q
                          · conv => whnf
                            refine ⟨⟨0, wantH w' i, rfl, .inr ⟨hc, ?_⟩⟩, rfl⟩
                            rw [doF, if_pos q1', goF, hw0, ← hact, if_pos q]
                          · conv => whnf
                            refine ⟨by kernel_rfl, ?_⟩
                            conv => whnf
                            have hsm : SmallH (wantH w' i) := hh.small.set (i := i) (t := wantT w') (by show w'.h.order.length = _; rw [hk.order]) (wantT_small hsT hk) (by show w'.h.threads.set _ _ = _; rw [hk.threads])
                            refine EC.draw (e20 (wantH w' i) hsm i (by show 0 ≤ i ∧ i < ((w'.h.threads.set i.toNat (wantT w')).length : Int); rw [List.length_set]; exact hi2) w'.a) ?_
                            rintro _ ⟨k, rfl, hk2⟩
                            conv => whnf
                            refine ⟨⟨0, k, rfl, .inr ⟨hc, ?_⟩⟩, rfl⟩
                            rw [doF, if_pos q1', goF, hw0, ← hact, if_neg (by rw [q]; exact Bool.false_ne_true), hk2]
                        · skip
                          by_cases k11 : kd = 11
                          · subst k11
                            generalize hw00 : (⟨h, T, ⟨11, oh, oi, ok, ov, onew⟩, ⟨0, 0, false⟩, false⟩ : Wk) = w0 at hw0 hwo
                            conv => whnf
                            refine ⟨by kernel_rfl, ?_⟩
                            conv => whnf
                            refine (c18 h ⟨h, T, ⟨11, oh, oi, ok, ov, onew⟩, ⟨0, 0, false⟩, false⟩).mono ?_
                            rintro _ _ ⟨rfl, rfl⟩
                            refine ⟨⟨[.box [.ptr 2 0 0 0], .map .i64 actsEs], rfl⟩, ?_⟩
                            conv => whnf
                            subst hw00
                            refine (c40 h _).mono ?_
                            rintro _ _ ⟨w', rfl, hw'⟩
                            have hact : w' = actW 0 ⟨h, T, ⟨11, oh, oi, ok, ov, onew⟩, ⟨0, 0, false⟩, false⟩ := hw'.trans ((actW_kind (x := 0) (w := ⟨h, T, ⟨11, oh, oi, ok, ov, onew⟩, ⟨0, 0, false⟩, false⟩)).2.2.2.2.2.2.2.2.2.2 rfl).symm
                            have hk := actW_keeps 0 ⟨h, T, ⟨11, oh, oi, ok, ov, onew⟩, ⟨0, 0, false⟩, false⟩
                            rw [← hact] at hk
                            have hi2 : 0 ≤ i ∧ i < w'.h.threads.length := by rw [hk.threads]; exact hi
                            conv => whnf
                            refine ⟨by kernel_rfl, ?_⟩
                            conv => whnf
                            refine EC.draw (e17 w'.h.threads (by rw [hk.threads]; exact hh.small.th) i hi2 (wantT w')) ?_
                            rintro _ rfl
                            conv => whnf
                            split <;> rename_i q
                            · conv => whnf
                              refine ⟨⟨0, wantH w' i, rfl, .inr ⟨hc, ?_⟩⟩, rfl⟩
                              rw [doF, if_pos q1', goF, hw0, ← hact, if_pos q]
                            · conv => whnf
                              refine ⟨by kernel_rfl, ?_⟩
                              conv => whnf
                              have hsm : SmallH (wantH w' i) := hh.small.set (i := i) (t := wantT w') (by show w'.h.order.length = _; rw [hk.order]) (wantT_small hsT hk) (by show w'.h.threads.set _ _ = _; rw [hk.threads])
                              refine EC.draw (e20 (wantH w' i) hsm i (by show 0 ≤ i ∧ i < ((w'.h.threads.set i.toNat (wantT w')).length : Int); rw [List.length_set]; exact hi2) w'.a) ?_
                              rintro _ ⟨k, rfl, hk2⟩
                              conv => whnf
                              refine ⟨⟨0, k, rfl, .inr ⟨hc, ?_⟩⟩, rfl⟩
                              rw [doF, if_pos q1', goF, hw0, ← hact, if_neg (by rw [q]; exact Bool.false_ne_true), hk2]
                          · skip
                            have hnone : List.lookup kd actsEs = none := by
                              simp only [actsEs, List.lookup, beq_eq_false_iff_ne.2 k1, beq_eq_false_iff_ne.2 k2, beq_eq_false_iff_ne.2 k3, beq_eq_false_iff_ne.2 k4, beq_eq_false_iff_ne.2 k5, beq_eq_false_iff_ne.2 k6, beq_eq_false_iff_ne.2 k7, beq_eq_false_iff_ne.2 k8, beq_eq_false_iff_ne.2 k9, beq_eq_false_iff_ne.2 k10, beq_eq_false_iff_ne.2 k11]
                            conv => whnf
                            refine ⟨by kernel_rfl, ?_⟩
                            conv => whnf
                            refine (c18 h ⟨h, T, ⟨kd, oh, oi, ok, ov, onew⟩, ⟨0, 0, false⟩, false⟩).mono ?_
                            rintro _ _ ⟨rfl, rfl⟩
                            refine ⟨⟨[.box [.ptr 2 0 0 0], .map .i64 actsEs], rfl⟩, ?_⟩
                            conv => whnf
                            split
                            · rename_i v hv
                              have hv : List.lookup kd actsEs = some v := hv
                              rw [hnone] at hv
                              cases hv
                            · conv => whnf
                              refine (c19 h ⟨h, T, ⟨kd, oh, oi, ok, ov, onew⟩, ⟨0, 0, false⟩, false⟩ 1).mono ?_
                              rintro _ _ ⟨w', rfl, rfl, hw'⟩
                              have hact : w' = actW 0 ⟨h, T, ⟨kd, oh, oi, ok, ov, onew⟩, ⟨0, 0, false⟩, false⟩ := by
                                rw [hw']
                                simp only [actW, k1, k2, k3, k4, k5, k6, k7, k8, k9, k10, k11, if_false]
                              have hk := actW_keeps 0 ⟨h, T, ⟨kd, oh, oi, ok, ov, onew⟩, ⟨0, 0, false⟩, false⟩
                              rw [← hact] at hk
                              have hi2 : 0 ≤ i ∧ i < w'.h.threads.length := by rw [hk.threads]; exact hi
                              conv => whnf
                              refine ⟨by kernel_rfl, ?_⟩
                              conv => whnf
                              refine EC.draw (e17 w'.h.threads (by rw [hk.threads]; exact hh.small.th) i hi2 (wantT w')) ?_
                              rintro _ rfl
                              conv => whnf
                              split <;> rename_i q
                              · conv => whnf
                                refine ⟨⟨0, wantH w' i, rfl, .inr ⟨hc, ?_⟩⟩, rfl⟩
                                rw [doF, if_pos q1', goF, hw0, ← hact, if_pos q]
                              · conv => whnf
                                refine ⟨by kernel_rfl, ?_⟩
                                conv => whnf
                                have hsm : SmallH (wantH w' i) := hh.small.set (i := i) (t := wantT w') (by show w'.h.order.length = _; rw [hk.order]) (wantT_small hsT hk) (by show w'.h.threads.set _ _ = _; rw [hk.threads])
                                refine EC.draw (e20 (wantH w' i) hsm i (by show 0 ≤ i ∧ i < ((w'.h.threads.set i.toNat (wantT w')).length : Int); rw [List.length_set]; exact hi2) w'.a) ?_
                                rintro _ ⟨k, rfl, hk2⟩
                                conv => whnf
                                refine ⟨⟨0, k, rfl, .inr ⟨hc, ?_⟩⟩, rfl⟩
                                rw [doF, if_pos q1', goF, hw0, ← hact, if_neg (by rw [q]; exact Bool.false_ne_true), hk2]
  · conv => whnf
    exact ⟨⟨0, h, rfl, .inl ⟨hc, rfl⟩⟩, rfl⟩
end Av
