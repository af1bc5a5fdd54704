/- The walk: the law ActEntry. Own work. -/
import Derived.Test.YtikjkclmninbmaaP3
import Derived.Test.YtikjkclmninbmaaL2
set_option linter.unusedSimpArgs false
set_option linter.unusedVariables false
namespace Av
open Go
set_option maxRecDepth 100000

theorem thr_at {h : Hp} {i : Int} (hi : 0 ≤ i ∧ i < h.threads.length) : h.threads[i.toNat]? = some (thr h i) := by
  rw [thr, List.getD_eq_getElem?_getD, List.getElem?_eq_getElem (by omega)]; rfl

set_option maxHeartbeats 4000000 in
theorem n4 (h : Hp) (w : Wide h) (i : Int) : NC PP 4 [h.av, i64 i] fun r => r = .bool true := by
  refine nc_rule (CT_okc (C := C4) rfl rfl) (f := 4) (fn := Go.Proofs.Try.f4) (by kernel_rfl) rfl (by kernel_rfl) _ rfl ?_
  conv => whnf
  refine NC.real n7 rfl ?_
  rintro _ rfl
  conv => whnf
  refine EC.real (e8 h) rfl ?_
  rintro _ (⟨rfl, hR, hW⟩ | ⟨rfl, _⟩)
  · conv => whnf
    have hS := w.small
    split <;> rename_i q0
    · conv => whnf
      exact ⟨rfl, rfl⟩
    · have q0 : h.phase = 1 := by simpa using q0
      conv => whnf
      refine EC.real (e11 h i) rfl ?_
      rintro _ (⟨rfl, hc⟩ | ⟨rfl, hc⟩)
      · have hi : 0 ≤ i ∧ i < h.threads.length := ⟨hc.1, hc.2.1⟩
        have ht := thr_at hi
        conv => whnf
        refine ⟨_, ⟨hi.1, ht⟩, ?_⟩
        conv => whnf
        split <;> rename_i q1
        · conv => whnf
          exact ⟨rfl, rfl⟩
        · have q1 : ¬ (0 : Int) < ((thr h i).pend.length : Nat) := of_decide_eq_false q1
          have q1 : (thr h i).pend = [] := List.eq_nil_of_length_eq_zero (by omega)
          have hl0 : 0 < (thr h i).left.length := by
            rcases hc.2.2.2 with h1 | h1
            · exact absurd q1 h1
            · exact List.length_pos_iff.2 h1.1
          have hop : (thr h i).left[0]? = some (opP (thr h i)) := by rw [opP, List.getD_eq_getElem?_getD, List.getElem?_eq_getElem hl0]; rfl
          conv => whnf
          refine ⟨_, ⟨hi.1, ht⟩, ?_⟩
          conv => whnf
          refine ⟨_, ⟨by decide, hop⟩, ?_⟩
          conv => whnf
          refine EC.real (e13 (opP (thr h i))) rfl ?_
          rintro _ (⟨rfl, hw⟩ | ⟨rfl, hw⟩)
          · conv => whnf
            refine NC.real (n9 h i (hR.hok hS)) rfl ?_
            rintro _ ⟨x, k, rfl, hk⟩
            have hkd : k = doF x h i := by
              rcases hk with ⟨hn, _⟩ | ⟨_, e⟩
              · exact absurd hc hn
              · exact e
            have hlen : k.threads.length = h.threads.length := by rw [hkd]; exact doF_len x h i hi
            have hik : 0 ≤ i ∧ i < k.threads.length := by rw [hlen]; exact hi
            have hb := thr_at hik
            have hRk : RightP k := by rw [hkd]; exact doF_right x hR hS hc
            have hSk : SmallH k := by rw [hkd]; exact doF_small x w hc
            obtain ⟨A, hd, hA⟩ := entry_law x hc q1 q0 hw
            have hcan := can_pend x hc
            have hdl : (thr h i).done.length ≤ 2 ^ 62 := by have := (w.each _ (thr_mem hi)).2.2.2.1; omega
            rw [← hkd] at hd hA hcan
            have hl1 : 0 ≤ wi (((thr k i).done.length : Int) - 1) := by
              rw [hd, d4 _ _ hdl]; exact Int.natCast_nonneg _
            have hl2 : (thr k i).done[(wi (((thr k i).done.length : Int) - 1)).toNat]? = some A := by
              rw [hd, d4 _ _ hdl]; simp
            conv => whnf
            refine ⟨by kernel_rfl, ?_⟩
            conv => whnf
            split <;> rename_i q2
            · exact absurd (congrArg Int.ofNat hlen) ((bne_iff_ne (α := Int)).1 q2)
            · conv => whnf
              refine ⟨_, ⟨hik.1, hb⟩, ?_⟩
              conv => whnf
              refine ⟨_, ⟨hi.1, ht⟩, ?_⟩
              conv => whnf
              split <;> rename_i q3
              · exact absurd (by rw [hd]; exact d3 _ _ hdl) ((bne_iff_ne (α := Int)).1 q3)
              · conv => whnf
                refine ⟨_, ⟨hik.1, hb⟩, ?_⟩
                conv => whnf
                refine ⟨A, ⟨hl1, hl2⟩, ?_⟩
                · conv => whnf
                  split <;> rename_i q4
                  · have q4 : ¬ A.e = 0 := (bne_iff_ne (α := Int)).1 q4
                    have hA : (thr k i).pend = [] := by
                      rcases hA with h1 | h1
                      · exact h1.2
                      · exact absurd h1.1 q4
                    conv => whnf
                    refine ⟨congrArg AV.bool ?_, rfl⟩
                    rw [hA]; rfl
                  · have q4 : A.e = 0 := (bne_eq_false_iff_eq (α := Int)).1 q4
                    obtain ⟨o1, o2, hA⟩ : 0 ≤ (opP (thr h i)).h ∧ (opP (thr h i)).h < (thr h i).stack.length ∧ (thr k i).pend = [⟨(thr h i).stack.getD (opP (thr h i)).h.toNat 0, (opP (thr h i)).i⟩] := by
                      rcases hA with h1 | h1
                      · exact absurd q4 h1.1
                      · exact h1.2
                    have hca := hcan (by rw [hA]; exact List.cons_ne_nil _ _)
                    have hp0 : (thr k i).pend[0]? = some ⟨(thr h i).stack.getD (opP (thr h i)).h.toNat 0, (opP (thr h i)).i⟩ := by rw [hA]; rfl
                    have hst : (thr h i).stack[(opP (thr h i)).h.toNat]? = some ((thr h i).stack.getD (opP (thr h i)).h.toNat 0) := by
                      rw [List.getD_eq_getElem?_getD, List.getElem?_eq_getElem (by omega)]; rfl
                    conv => whnf
                    refine ⟨_, ⟨hi.1, ht⟩, ?_⟩
                    conv => whnf
                    refine ⟨_, ⟨by decide, hop⟩, ?_⟩
                    conv => whnf
                    refine ⟨by kernel_rfl, ?_⟩
                    conv => whnf
                    split <;> rename_i a1
                    · exact absurd (by rw [hA]; rfl) ((bne_iff_ne (α := Int)).1 a1)
                    · conv => whnf
                      refine ⟨_, ⟨by decide, hp0⟩, ?_⟩
                      conv => whnf
                      split <;> rename_i a2
                      · exact absurd rfl ((bne_iff_ne (α := Int)).1 a2)
                      · conv => whnf
                        split <;> rename_i a3
                        · exact absurd (of_decide_eq_true a3 : (opP (thr h i)).h < 0) (by omega)
                        · conv => whnf
                          refine ⟨_, ⟨hi.1, ht⟩, ?_⟩
                          conv => whnf
                          split <;> rename_i a4
                          · exact absurd (of_decide_eq_true a4 : (opP (thr h i)).h ≥ ((thr h i).stack.length : Nat)) (by omega)
                          · conv => whnf
                            refine ⟨_, ⟨by decide, hp0⟩, ?_⟩
                            conv => whnf
                            refine ⟨_, ⟨hi.1, ht⟩, ?_⟩
                            conv => whnf
                            refine ⟨_, ⟨o1, hst⟩, ?_⟩
                            conv => whnf
                            split <;> rename_i a5
                            · exact absurd rfl ((bne_iff_ne (α := Int)).1 a5)
                            · conv => whnf
                              refine EC.draw (e11 k i) ?_
                              rintro _ (⟨rfl, _⟩ | ⟨rfl, hn⟩)
                              · conv => whnf
                                refine NC.real (n9 k i (hRk.hok hSk)) rfl ?_
                                rintro _ ⟨y, n, rfl, hn⟩
                                have hnd : n = doF y k i := by
                                  rcases hn with ⟨hn, _⟩ | ⟨_, e⟩
                                  · exact absurd hca hn
                                  · exact e
                                have hpk : (thr k i).pend ≠ [] := by rw [hA]; exact List.cons_ne_nil _ _
                                obtain ⟨e1, e2⟩ := pend_counts y hca hpk
                                rw [← hnd] at e1 e2
                                have hln : n.threads.length = k.threads.length := by rw [hnd]; exact doF_len y k i hik
                                have hbn : n.threads[i.toNat]? = some (pendT (thr k i)) := by
                                  rw [← e1]; exact thr_at (by rw [hln]; exact hik)
                                have hon : n.order = k.order := by rw [e2]; rfl
                                have hll : (thr k i).log.length ≤ 2 ^ 62 := by have := (hSk.each _ (thr_mem hik)).log; omega
                                have hpl : (pendT (thr k i)).log = (thr k i).log ++ [⟨(thr h i).stack.getD (opP (thr h i)).h.toNat 0, (opP (thr h i)).i⟩] := by
                                  show (thr k i).log ++ [(thr k i).pend.getD 0 default] = _
                                  rw [hA]; rfl
                                have hg1 : ((pendT (thr k i)).log.length : Int) = wi (((thr k i).log.length : Int) + 1) := by
                                  rw [hpl]; exact d3 _ _ hll
                                have hg2 : 0 ≤ wi (((pendT (thr k i)).log.length : Int) - 1) := by
                                  rw [hpl, d4 _ _ hll]; exact Int.natCast_nonneg _
                                have hg3 : (pendT (thr k i)).log[(wi (((pendT (thr k i)).log.length : Int) - 1)).toNat]? = some ⟨(thr h i).stack.getD (opP (thr h i)).h.toNat 0, (opP (thr h i)).i⟩ := by
                                  rw [hpl, d4 _ _ hll]; simp
                                conv => whnf
                                split <;> rename_i b1
                                · exact absurd (congrArg Int.ofNat hln) ((bne_iff_ne (α := Int)).1 b1)
                                · conv => whnf
                                  refine ⟨_, ⟨hi.1, hbn⟩, ?_⟩
                                  conv => whnf
                                  refine ⟨by kernel_rfl, ?_⟩
                                  conv => whnf
                                  split <;> rename_i b2
                                  · conv => whnf
                                    refine ⟨_, ⟨hg2, hg3⟩, ?_⟩
                                    conv => whnf
                                    refine ⟨_, ⟨by decide, hp0⟩, ?_⟩
                                    conv => whnf
                                    split <;> rename_i b3
                                    · conv => whnf
                                      refine ⟨_, ⟨hi.1, hbn⟩, ?_⟩
                                      conv => whnf
                                      exact ⟨congrArg AV.bool (beq_iff_eq.2 (by rw [hon])), rfl⟩
                                    · simp at b3
                                  · exact Bool.noConfusion ((beq_iff_eq.2 hg1).symm.trans b2)
                              · exact absurd hca hn
          · conv => whnf
            exact ⟨rfl, rfl⟩
      · conv => whnf
        exact ⟨rfl, rfl⟩
  · conv => whnf
    exact ⟨rfl, rfl⟩
end Av
