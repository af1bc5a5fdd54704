/- The walk: the laws ActReads and ActCounts. Own work. -/
import Derived.Test.YtikjkclmninbmaaL1
set_option linter.unusedSimpArgs false
set_option linter.unusedVariables false
namespace Av
open Go
set_option maxRecDepth 100000

theorem n6 (h : Hp) (w : Wide h) (i : Int) : NC PP 6 [h.av, i64 i] fun r => r = .bool true := by
  refine nc_rule CT_ok (f := 6) (fn := Go.Proofs.Try.f6) (by kernel_rfl) rfl (by kernel_rfl) _ rfl ?_
  conv => whnf
  refine NC.real n7 rfl ?_
  rintro _ rfl
  conv => whnf
  refine EC.real (e8 h) rfl ?_
  rintro _ (⟨rfl, hR, hW⟩ | ⟨rfl, _⟩)
  · conv => whnf
    obtain ⟨l1, l2, l3⟩ := hR.len
    have hS := w.small
    refine EC.real (e11 h i) rfl ?_
    rintro _ (⟨rfl, hc⟩ | ⟨rfl, hc⟩)
    · have hi : 0 ≤ i ∧ i < h.threads.length := ⟨hc.1, hc.2.1⟩
      have hlt : i.toNat < h.threads.length := by omega
      have ht : thr h i = h.threads[i.toNat] := by rw [thr, List.getD_eq_getElem?_getD, List.getElem?_eq_getElem hlt]; rfl
      conv => whnf
      refine ⟨_, ⟨hi.1, List.getElem?_eq_getElem hlt⟩, ?_⟩
      rw [← ht]
      generalize hT : thr h i = T
      conv => whnf
      refine NC.real (n9 h i (hR.hok hS)) rfl ?_
      rintro _ ⟨x, k, rfl, hk⟩
      have hkd : k = doF x h i := by
        rcases hk with ⟨hn, _⟩ | ⟨_, e⟩
        · exact absurd hc hn
        · exact e
      have fin : ((thr h i).pend ≠ [] ∨ (writesF (opP (thr h i)).kind = false ∧ (opP (thr h i)).kind ≠ 1)) → k.m = h.m ∧ k.f = h.f ∧ k.t = h.t ∧ k.phase = h.phase := fun q => by
        rw [hkd]; exact reads_same x hc q
      clear hkd hk
      conv => whnf
      split <;> rename_i q1
      · have q1 : ((T.pend.length : Nat) : Int) = 0 := eq_of_beq (α := Int) q1
        have q1 : T.pend = [] := List.eq_nil_of_length_eq_zero (by omega)
        have hl0 : 0 < T.left.length := by
          have := hc.2.2.2
          rw [hT] at this
          rcases this with h1 | h1
          · exact absurd q1 h1
          · exact List.length_pos_iff.2 h1.1
        have hop : opP T = T.left[0] := by rw [opP, List.getD_eq_getElem?_getD, List.getElem?_eq_getElem hl0]; rfl
        conv => whnf
        refine ⟨_, ⟨by decide, List.getElem?_eq_getElem hl0⟩, ?_⟩
        rw [← hop]
        generalize hO : opP T = O
        conv => whnf
        refine EC.real (e13 O) rfl ?_
        rintro _ (⟨rfl, hw⟩ | ⟨rfl, hw⟩)
        · conv => whnf
          exact ⟨rfl, rfl⟩
        · conv => whnf
          refine ⟨_, ⟨by decide, List.getElem?_eq_getElem hl0⟩, ?_⟩
          rw [← hop, hO]
          conv => whnf
          split <;> rename_i q2
          · conv => whnf
            exact ⟨rfl, rfl⟩
          · have q2 : ¬ O.kind = 1 := by simpa using q2
            obtain ⟨g1, g2, g3, g4⟩ := fin (.inr ⟨by rw [hT, hO]; exact hw, by rw [hT, hO]; exact q2⟩)
            clear fin
            obtain ⟨km, kf, kt, ks, kl, kth, kp, ksc, kfl, ko, kb⟩ := k
            simp only at g1 g2 g3 g4
            subst g1 g2 g3 g4
            conv => whnf
            refine EC.real (e14 h.m l1 l2) rfl ?_
            rintro _ rfl
            conv => whnf
            split <;> rename_i a1
            · conv => whnf
              split <;> rename_i a2
              · conv => whnf
                refine ⟨congrArg AV.bool ?_, rfl⟩
                exact beq_self_eq_true _
              · simp at a2
            · simp at a1
      · have q1 : ¬ ((T.pend.length : Nat) : Int) = 0 := (beq_eq_false_iff_ne (α := Int)).1 q1
        have q1 : T.pend ≠ [] := fun e => by rw [e] at q1; exact q1 rfl
        obtain ⟨g1, g2, g3, g4⟩ := fin (.inl (by rw [hT]; exact q1))
        clear fin
        obtain ⟨km, kf, kt, ks, kl, kth, kp, ksc, kfl, ko, kb⟩ := k
        simp only at g1 g2 g3 g4
        subst g1 g2 g3 g4
        conv => whnf
        refine EC.real (e14 h.m l1 l2) rfl ?_
        rintro _ rfl
        conv => whnf
        split <;> rename_i a1
        · conv => whnf
          split <;> rename_i a2
          · conv => whnf
            refine ⟨congrArg AV.bool ?_, rfl⟩
            exact beq_self_eq_true _
          · simp at a2
        · simp at a1
    · conv => whnf
      exact ⟨rfl, rfl⟩
  · conv => whnf
    exact ⟨rfl, rfl⟩

theorem d0 (n : Nat) : wi ((n : Int) - n) = 0 := by rw [Int.sub_self]; exact wi_id (by decide)
theorem d1 {α : Type} (l : List α) (a : α) : wi (((l ++ [a]).length : Int) - l.length) = 1 := by
  have : ((l ++ [a]).length : Int) - l.length = 1 := by simp; omega
  rw [this]; exact wi_id (by decide)
theorem d2 {α : Type} (l : List α) (h : l ≠ []) : wi ((l.length : Int) - (l.drop 1).length) = 1 := by
  have h1 := List.length_pos_iff.2 h
  have : (l.length : Int) - (l.drop 1).length = 1 := by rw [List.length_drop]; omega
  rw [this]; exact wi_id (by decide)
theorem d3 {α : Type} (l : List α) (a : α) (h : l.length ≤ 2 ^ 62) : ((l ++ [a]).length : Int) = wi ((l.length : Int) + 1) := by
  rw [wi_id (by omega)]; simp

theorem d4 {α : Type} (l : List α) (a : α) (h : l.length ≤ 2 ^ 62) : wi (((l ++ [a]).length : Int) - 1) = l.length := by
  have : ((l ++ [a]).length : Int) - 1 = l.length := by simp
  rw [this]; exact wi_id (by omega)


set_option maxHeartbeats 2000000 in
theorem n5 (h : Hp) (w : Wide h) (i : Int) : NC PP 5 [h.av, i64 i] fun r => r = .bool true := by
  refine nc_rule CT_ok (f := 5) (fn := Go.Proofs.Try.f5) (by kernel_rfl) rfl (by kernel_rfl) _ rfl ?_
  conv => whnf
  refine NC.real n7 rfl ?_
  rintro _ rfl
  conv => whnf
  refine EC.real (e8 h) rfl ?_
  rintro _ (⟨rfl, hR, hW⟩ | ⟨rfl, _⟩)
  · conv => whnf
    have hS := w.small
    refine EC.real (e11 h i) rfl ?_
    rintro _ (⟨rfl, hc⟩ | ⟨rfl, hc⟩)
    · have hi : 0 ≤ i ∧ i < h.threads.length := ⟨hc.1, hc.2.1⟩
      have hlt : i.toNat < h.threads.length := by omega
      have ht : h.threads[i.toNat]? = some (thr h i) := by rw [thr, List.getD_eq_getElem?_getD, List.getElem?_eq_getElem hlt]; rfl
      have hsm := w.each _ (thr_mem hi)
      conv => whnf
      refine NC.real (n9 h i (hR.hok hS)) rfl ?_
      rintro _ ⟨x, k, rfl, hk⟩
      have hkd : k = doF x h i := by
        rcases hk with ⟨hn, _⟩ | ⟨_, e⟩
        · exact absurd hc hn
        · exact e
      have hlen : k.threads.length = h.threads.length := by rw [hkd]; exact doF_len x h i hi
      have hb : k.threads[i.toNat]? = some (thr k i) := by
        rw [thr, List.getD_eq_getElem?_getD, List.getElem?_eq_getElem (by omega)]; rfl
      have hleft : (thr h i).pend = [] → (thr h i).left ≠ [] := fun q => by
        rcases hc.2.2.2 with h1 | h1
        · exact absurd q h1
        · exact h1.1
      have hp1 : (thr h i).pend ≠ [] → thr k i = pendT (thr h i) ∧ k.order = h.order := fun q => by
        obtain ⟨h1, h2⟩ := pend_counts x hc q
        rw [hkd]
        exact ⟨h1, by rw [h2]; rfl⟩
      have hp2 : (thr h i).pend = [] → ∃ A, ((thr k i).done = (thr h i).done ∧ (thr k i).left = (thr h i).left ∧ k.order = h.order ∧ (thr k i).want = true ∨
          (thr k i).done = (thr h i).done ++ [A] ∧ (thr k i).left = (thr h i).left.drop 1 ∧ k.order = h.order ++ [i] ∧ (thr k i).want = false) ∧ (thr k i).log = (thr h i).log := fun q => by
        rw [hkd]
        exact ⟨_, go_counts x hc q⟩
      clear hkd hk
      generalize thr h i = T at ht hsm hleft hp1 hp2
      generalize thr k i = B at hb hp1 hp2
      conv => whnf
      split <;> rename_i q0
      · exact absurd (congrArg Int.ofNat hlen) ((bne_iff_ne (α := Int)).1 q0)
      · conv => whnf
        refine ⟨_, ⟨hi.1, ht⟩, ?_⟩
        conv => whnf
        refine ⟨_, ⟨hi.1, hb⟩, ?_⟩
        clear hb ht hlen
        by_cases hp : T.pend = []
        · obtain ⟨A, h1, h2⟩ := hp2 hp
          have h3 := hleft hp
          clear hp1 hp2 hleft
          obtain ⟨km, kf, kt, ks, kl, kth, kp, ksc, kfl, ko, kb⟩ := k
          obtain ⟨bs, ba, be, bl, bleft, bp, bw, bd⟩ := B
          simp only at h1 h2
          subst h2
          rcases h1 with ⟨g1, g2, g3, g4⟩ | ⟨g1, g2, g3, g4⟩
          · subst g1 g2 g3 g4
            conv => whnf
            split <;> rename_i a0
            · exact absurd (of_decide_eq_true a0) (by rw [hp]; decide)
            · conv => whnf
              split <;> rename_i a1
              · conv => whnf
                split <;> rename_i a2
                · conv => whnf
                  split <;> rename_i a3
                  · conv => whnf
                    split <;> rename_i a4
                    · exact absurd ((d0 T.done.length).symm.trans (eq_of_beq (α := Int) a4) : (0 : Int) = 1) (by decide)
                    · conv => whnf
                      split <;> rename_i a5
                      · conv => whnf
                        split <;> rename_i a6
                        · conv => whnf
                          exact ⟨rfl, rfl⟩
                        · exact Bool.noConfusion ((beq_iff_eq.2 (d0 _)).symm.trans a6)
                      · exact Bool.noConfusion ((beq_iff_eq.2 (d0 _)).symm.trans a5)
                  · exact Bool.noConfusion ((beq_iff_eq.2 (rfl)).symm.trans a3)
                · exact Bool.noConfusion ((beq_iff_eq.2 ((d0 _).trans (d0 _).symm)).symm.trans a2)
              · exact Bool.noConfusion ((beq_iff_eq.2 ((d0 _).trans (d0 _).symm)).symm.trans a1)
          · subst g1 g2 g3 g4
            conv => whnf
            split <;> rename_i a0
            · exact absurd (of_decide_eq_true a0) (by rw [hp]; decide)
            · conv => whnf
              split <;> rename_i a1
              · conv => whnf
                split <;> rename_i a2
                · conv => whnf
                  split <;> rename_i a3
                  · conv => whnf
                    split <;> rename_i a4
                    · conv => whnf
                      split <;> rename_i a6
                      · exact absurd ((d1 h.order i).symm.trans (eq_of_beq (α := Int) a6) : (1 : Int) = 0) (by decide)
                      · conv => whnf
                        refine ⟨i, ⟨?_, ?_⟩, ?_⟩
                        · show 0 ≤ wi (((h.order ++ [i]).length : Int) - 1)
                          rw [d4 h.order i (by have := w.order; omega)]
                          omega
                        · show (h.order ++ [i])[(wi (((h.order ++ [i]).length : Int) - 1)).toNat]? = some i
                          rw [d4 h.order i (by have := w.order; omega)]
                          simp
                        · conv => whnf
                          refine ⟨congrArg AV.bool ?_, rfl⟩
                          exact beq_self_eq_true _
                    · exact Bool.noConfusion ((beq_iff_eq.2 (d1 T.done A)).symm.trans a4)
                  · exact Bool.noConfusion ((beq_iff_eq.2 (rfl)).symm.trans a3)
                · exact Bool.noConfusion ((beq_iff_eq.2 ((d1 T.done A).trans (d1 h.order i).symm)).symm.trans a2)
              · exact Bool.noConfusion ((beq_iff_eq.2 ((d1 T.done A).trans (d2 T.left h3).symm)).symm.trans a1)
        · obtain ⟨h1, h2⟩ := hp1 hp
          have hlog : T.log.length ≤ 2 ^ 62 := by have := hsm.2.1; omega
          clear hp1 hp2 hleft
          obtain ⟨km, kf, kt, ks, kl, kth, kp, ksc, kfl, ko, kb⟩ := k
          simp only at h2
          subst h1 h2
          conv => whnf
          split <;> rename_i a0
          · conv => whnf
            split <;> rename_i a1
            · conv => whnf
              split <;> rename_i a2
              · conv => whnf
                split <;> rename_i a3
                · conv => whnf
                  split <;> rename_i a4
                  · conv => whnf
                    exact ⟨rfl, rfl⟩
                  · exact Bool.noConfusion ((beq_iff_eq.2 (d3 T.log _ hlog)).symm.trans a4)
                · exact Bool.noConfusion ((beq_iff_eq.2 (d0 _)).symm.trans a3)
              · exact Bool.noConfusion ((beq_iff_eq.2 (d0 _)).symm.trans a2)
            · exact Bool.noConfusion ((beq_iff_eq.2 (d0 _)).symm.trans a1)
          · exact absurd (Int.ofNat_lt.2 (List.length_pos_iff.2 hp) : ((0 : Nat) : Int) < (T.pend.length : Int)) (of_decide_eq_false a0)
    · conv => whnf
      exact ⟨rfl, rfl⟩
  · conv => whnf
    exact ⟨rfl, rfl⟩
end Av
