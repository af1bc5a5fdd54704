/- The walk: references: which heaps are right, and the same. Own work. -/
import Derived.Test.YtikjkclmninbmaaK30
set_option linter.unusedSimpArgs false
set_option linter.unusedVariables false
namespace Av
open Go
set_option maxRecDepth 100000

structure ThOk (f : Bp) (t : Thread) : Prop where
  lo : 0 ≤ t.bufAt
  le : t.bufAt ≤ t.bufEnd
  hi : t.bufEnd ≤ f.at'
  pend : t.pend.length ≤ 1

structure RightP (h : Hp) : Prop where
  m : h.m.Right
  f : h.f.Ok
  t : h.t.Ok
  ne : h.f.s ≠ h.t.s
  fl : h.f.lim = h.m.w
  tl : h.t.lim = h.m.w
  size : 0 ≤ h.size ∧ h.size ≤ 4096
  log : 1 ≤ h.log ∧ h.log ≤ 64
  th : 1 ≤ h.threads.length ∧ h.threads.length ≤ 4
  each : ∀ t ∈ h.threads, ThOk h.f t
  phase : 0 ≤ h.phase ∧ h.phase ≤ 2
  scan : 0 ≤ h.scan ∧ h.scan ≤ h.t.at'

open Classical in
theorem e10 (h : Hp) : EC PP 10 [h.av] fun r => (r = .bool true ∧ RightP h) ∨ (r = .bool false ∧ ¬ RightP h) := by
  refine ec_rule CT_ok (f := 10) (fn := Go.Proofs.Try.f10) (by kernel_rfl) rfl (by kernel_rfl) (.bool (decide (RightP h))) ?_ _ rfl ?_
  · by_cases q : RightP h
    · exact .inl ⟨by simp only [q, decide_true], q⟩
    · exact .inr ⟨by simp only [q, decide_false], q⟩
  · have no : ∀ {p : Bool}, p = false → ¬ RightP h → AV.bool p = .bool (decide (RightP h)) := fun h1 h2 => by rw [h1, decide_eq_false h2]
    conv => whnf
    refine EC.real (e21 h.m) rfl ?_
    rintro _ (⟨rfl, a1⟩ | ⟨rfl, a1⟩)
    · conv => whnf
      refine EC.real (e22 h.f) rfl ?_
      rintro _ (⟨rfl, a2⟩ | ⟨rfl, a2⟩)
      · conv => whnf
        refine EC.real (e22 h.t) rfl ?_
        rintro _ (⟨rfl, a3⟩ | ⟨rfl, a3⟩)
        · conv => whnf
          split <;> rename_i q1
          · have q1 : h.f.s = h.t.s := eq_of_beq q1
            conv => whnf
            exact ⟨no rfl (fun r => r.ne q1), rfl⟩
          · have q1 : ¬ h.f.s = h.t.s := beq_eq_false_iff_ne.1 q1
            conv => whnf
            split <;> rename_i q2
            · have q2 : h.f.lim ≠ h.m.w := bne_iff_ne.1 q2
              conv => whnf
              exact ⟨no rfl (fun r => q2 r.fl), rfl⟩
            · have q2 : h.f.lim = h.m.w := by simpa using q2
              conv => whnf
              split <;> rename_i q3
              · have q3 : h.t.lim ≠ h.m.w := bne_iff_ne.1 q3
                conv => whnf
                exact ⟨no rfl (fun r => q3 r.tl), rfl⟩
              · have q3 : h.t.lim = h.m.w := by simpa using q3
                conv => whnf
                split <;> rename_i q4
                · have q4 := of_decide_eq_true q4
                  conv => whnf
                  exact ⟨no rfl (fun r => by have := r.size; omega), rfl⟩
                · have q4 := of_decide_eq_false q4
                  conv => whnf
                  split <;> rename_i q5
                  · have q5 := of_decide_eq_true q5
                    conv => whnf
                    exact ⟨no rfl (fun r => by have := r.size; omega), rfl⟩
                  · have q5 := of_decide_eq_false q5
                    conv => whnf
                    split <;> rename_i q6
                    · have q6 := of_decide_eq_true q6
                      conv => whnf
                      exact ⟨no rfl (fun r => by have := r.log; omega), rfl⟩
                    · have q6 := of_decide_eq_false q6
                      conv => whnf
                      split <;> rename_i q7
                      · have q7 := of_decide_eq_true q7
                        conv => whnf
                        exact ⟨no rfl (fun r => by have := r.log; omega), rfl⟩
                      · have q7 := of_decide_eq_false q7
                        conv => whnf
                        split <;> rename_i q8
                        · have q8 : (h.threads.length : Int) < 1 := of_decide_eq_true q8
                          conv => whnf
                          exact ⟨no rfl (fun r => by have := r.th; omega), rfl⟩
                        · have q8 : ¬ (h.threads.length : Int) < 1 := of_decide_eq_false q8
                          conv => whnf
                          split <;> rename_i q9
                          · have q9 : (h.threads.length : Int) > 4 := of_decide_eq_true q9
                            conv => whnf
                            exact ⟨no rfl (fun r => by have := r.th; omega), rfl⟩
                          · have q9 : ¬ (h.threads.length : Int) > 4 := of_decide_eq_false q9
                            conv => whnf
                            refine loop_trim CT_ok (marks [1, 6] 0 160) (fun k s H => ∃ i : Int, s = joined [.junk, .ptr 0 0 0 0, .junk, .junk, .junk, .junk, i64 i] (junks 153) ∧ H = [.box h.cs] ∧ 0 ≤ i ∧ i ≤ h.threads.length ∧ k = h.threads.length - i.toNat ∧ ∀ j (hj : j < h.threads.length), (j : Int) < i → ThOk h.f h.threads[j]) h.threads.length 1 rfl ⟨0, rfl, rfl, by omega, by omega, by simp, fun j hj hj2 => by omega⟩ ?_
                            rintro k s H ⟨i, rfl, rfl, h1, h2, hk, hall⟩
                            conv => whnf
                            split <;> rename_i q10
                            · have q10 : i < (h.threads.length : Int) := of_decide_eq_true q10
                              have hlt : i.toNat < h.threads.length := by omega
                              have bad : ¬ ThOk h.f h.threads[i.toNat] → ¬ RightP h := fun hn r => hn (r.each _ (List.getElem_mem hlt))
                              have good : ThOk h.f h.threads[i.toNat] → ∀ j (hj : j < h.threads.length), (j : Int) < wi (i + 1) → ThOk h.f h.threads[j] := by
                                intro hg j hj hj2
                                rw [wi_id (by omega)] at hj2
                                by_cases hji : j = i.toNat
                                · subst hji; exact hg
                                · exact hall j hj (by omega)
                              have flo := a2.lo
                              conv => whnf
                              refine ⟨_, ⟨h1, List.getElem?_eq_getElem hlt⟩, ?_⟩
                              generalize hT : h.threads[i.toNat] = T at bad good
                              have w1 : 0 ≤ wi (i + 1) := by rw [wi_id (by omega)]; omega
                              have w2 : wi (i + 1) ≤ h.threads.length := by rw [wi_id (by omega)]; omega
                              have w3 : h.threads.length - (i + 1).toNat = h.threads.length - (wi (i + 1)).toNat := by rw [wi_id (by omega)]
                              conv => whnf
                              split <;> rename_i p0
                              · have p0 : T.bufAt = 0 := eq_of_beq p0
                                conv => whnf
                                split <;> rename_i p5
                                · have p5 : ¬ T.bufEnd = 0 := by simpa using p5
                                  conv => whnf
                                  split <;> rename_i p1
                                  · have p1 := of_decide_eq_true p1
                                    conv => whnf
                                    exact ⟨no rfl (bad fun g => by have := g.lo; omega), rfl⟩
                                  · have p1 := of_decide_eq_false p1
                                    conv => whnf
                                    split <;> rename_i p2
                                    · have p2 := of_decide_eq_true p2
                                      conv => whnf
                                      exact ⟨no rfl (bad fun g => by have := g.le; omega), rfl⟩
                                    · have p2 := of_decide_eq_false p2
                                      conv => whnf
                                      split <;> rename_i p3
                                      · have p3 := of_decide_eq_true p3
                                        conv => whnf
                                        exact ⟨no rfl (bad fun g => by have := g.hi; omega), rfl⟩
                                      · have p3 := of_decide_eq_false p3
                                        conv => whnf
                                        split <;> rename_i p4
                                        · have p4 : ((T.pend.length : Nat) : Int) > 1 := of_decide_eq_true p4
                                          conv => whnf
                                          exact ⟨no rfl (bad fun g => by have := g.pend; omega), rfl⟩
                                        · have p4 : ¬ ((T.pend.length : Nat) : Int) > 1 := of_decide_eq_false p4
                                          conv => whnf
                                          exact ⟨_, (by omega : h.threads.length - (i + 1).toNat < k), wi (i + 1), rfl, rfl, w1, w2, w3, good ⟨by omega, by omega, by omega, by omega⟩⟩
                                · have p5 : T.bufEnd = 0 := by simpa using p5
                                  conv => whnf
                                  split <;> rename_i p4
                                  · have p4 : ((T.pend.length : Nat) : Int) > 1 := of_decide_eq_true p4
                                    conv => whnf
                                    exact ⟨no rfl (bad fun g => by have := g.pend; omega), rfl⟩
                                  · have p4 : ¬ ((T.pend.length : Nat) : Int) > 1 := of_decide_eq_false p4
                                    conv => whnf
                                    exact ⟨_, (by omega : h.threads.length - (i + 1).toNat < k), wi (i + 1), rfl, rfl, w1, w2, w3, good ⟨by omega, by omega, by omega, by omega⟩⟩
                              · have p0 : ¬ T.bufAt = 0 := beq_eq_false_iff_ne.1 p0
                                conv => whnf
                                split <;> rename_i p1
                                · have p1 := of_decide_eq_true p1
                                  conv => whnf
                                  exact ⟨no rfl (bad fun g => by have := g.lo; omega), rfl⟩
                                · have p1 := of_decide_eq_false p1
                                  conv => whnf
                                  split <;> rename_i p2
                                  · have p2 := of_decide_eq_true p2
                                    conv => whnf
                                    exact ⟨no rfl (bad fun g => by have := g.le; omega), rfl⟩
                                  · have p2 := of_decide_eq_false p2
                                    conv => whnf
                                    split <;> rename_i p3
                                    · have p3 := of_decide_eq_true p3
                                      conv => whnf
                                      exact ⟨no rfl (bad fun g => by have := g.hi; omega), rfl⟩
                                    · have p3 := of_decide_eq_false p3
                                      conv => whnf
                                      split <;> rename_i p4
                                      · have p4 : ((T.pend.length : Nat) : Int) > 1 := of_decide_eq_true p4
                                        conv => whnf
                                        exact ⟨no rfl (bad fun g => by have := g.pend; omega), rfl⟩
                                      · have p4 : ¬ ((T.pend.length : Nat) : Int) > 1 := of_decide_eq_false p4
                                        conv => whnf
                                        exact ⟨_, (by omega : h.threads.length - (i + 1).toNat < k), wi (i + 1), rfl, rfl, w1, w2, w3, good ⟨by omega, by omega, by omega, by omega⟩⟩
                            · have q10 : ¬ i < (h.threads.length : Int) := of_decide_eq_false q10
                              have each : ∀ t ∈ h.threads, ThOk h.f t := by
                                intro t ht
                                obtain ⟨j, hj, rfl⟩ := List.getElem_of_mem ht
                                exact hall j hj (by omega)
                              conv => whnf
                              split <;> rename_i q11
                              · have q11 := of_decide_eq_true q11
                                conv => whnf
                                split <;> rename_i q12
                                · have q12 := of_decide_eq_true q12
                                  conv => whnf
                                  split <;> rename_i q13
                                  · have q13 := of_decide_eq_true q13
                                    conv => whnf
                                    refine ⟨congrArg AV.bool ?_, rfl⟩
                                    rw [decide_eq_decide]
                                    exact ⟨fun q => ⟨a1, a2, a3, q1, q2, q3, ⟨by omega, by omega⟩, ⟨by omega, by omega⟩, ⟨by omega, by omega⟩, each, ⟨q11, q12⟩, ⟨q13, q⟩⟩, fun r => r.scan.2⟩
                                  · have q13 := of_decide_eq_false q13
                                    conv => whnf
                                    exact ⟨no rfl (fun r => q13 r.scan.1), rfl⟩
                                · have q12 := of_decide_eq_false q12
                                  conv => whnf
                                  exact ⟨no rfl (fun r => q12 r.phase.2), rfl⟩
                              · have q11 := of_decide_eq_false q11
                                conv => whnf
                                exact ⟨no rfl (fun r => q11 r.phase.1), rfl⟩
        · conv => whnf
          exact ⟨no rfl (fun r => a3 r.t), rfl⟩
      · conv => whnf
        refine EC.real (e22 h.t) rfl ?_
        rintro _ (⟨rfl, a3⟩ | ⟨rfl, a3⟩)
        · conv => whnf
          exact ⟨no rfl (fun r => a2 r.f), rfl⟩
        · conv => whnf
          exact ⟨no rfl (fun r => a2 r.f), rfl⟩
    · conv => whnf
      refine EC.real (e22 h.f) rfl ?_
      rintro _ (⟨rfl, a2⟩ | ⟨rfl, a2⟩)
      · conv => whnf
        refine EC.real (e22 h.t) rfl ?_
        rintro _ (⟨rfl, a3⟩ | ⟨rfl, a3⟩)
        · conv => whnf
          exact ⟨no rfl (fun r => a1 r.m), rfl⟩
        · conv => whnf
          exact ⟨no rfl (fun r => a1 r.m), rfl⟩
      · conv => whnf
        refine EC.real (e22 h.t) rfl ?_
        rintro _ (⟨rfl, a3⟩ | ⟨rfl, a3⟩)
        · conv => whnf
          exact ⟨no rfl (fun r => a1 r.m), rfl⟩
        · conv => whnf
          exact ⟨no rfl (fun r => a1 r.m), rfl⟩

theorem e12 (h : Hp) (hs : SmallH h) (hp : ∀ t ∈ h.threads, t.pend.length ≤ 2 ^ 62) (h1 : h.m.a.length ≤ 2 ^ 62) (h2 : h.m.b.length ≤ 2 ^ 62) : EC PP 12 [h.av, h.av] fun r => r = .bool true := by
  have ho := hs.order
  have hl := hs.th
  refine ec_rule (CT_okc (C := C12) rfl rfl) (f := 12) (fn := Go.Proofs.Try.f12) (by kernel_rfl) rfl (by kernel_rfl) _ rfl _ rfl ?_
  conv => whnf
  refine EC.real (e14 h.m h1 h2) rfl ?_
  rintro _ rfl
  conv => whnf
  refine EC.real (e23 h.order (by omega)) rfl ?_
  rintro _ rfl
  conv => whnf
  split <;> rename_i q
  · exact absurd rfl ((bne_iff_ne (α := Int)).1 q)
  · conv => whnf
    refine loop_keep (CT_okc (C := C12) rfl rfl) (marks [2, 3, 7] 0 108) (fun k s H => ∃ i : Int, s = joined [.junk, .junk, .ptr 0 0 0 0, .ptr 1 0 0 0, .junk, .junk, .junk, i64 i] (junks 100) ∧ H = [.box h.cs, .box h.cs] ∧ 0 ≤ i ∧ i ≤ h.threads.length ∧ k = h.threads.length - i.toNat) h.threads.length ⟨0, rfl, rfl, by omega, by omega, by simp⟩ ?_
    rintro k s H ⟨i, rfl, rfl, h1, h2, hk⟩
    conv => whnf
    split <;> rename_i q2
    · have q2 : i < (h.threads.length : Int) := of_decide_eq_true q2
      have hlt : i.toNat < h.threads.length := by omega
      have hmem : h.threads[i.toNat] ∈ h.threads := List.getElem_mem hlt
      conv => whnf
      refine ⟨by kernel_rfl, ?_⟩
      conv => whnf
      refine ⟨_, ⟨h1, List.getElem?_eq_getElem hlt⟩, ?_⟩
      conv => whnf
      refine ⟨_, ⟨h1, List.getElem?_eq_getElem hlt⟩, ?_⟩
      conv => whnf
      refine EC.draw (e24 h.threads[i.toNat] (hs.each _ hmem) (hp _ hmem)) ?_
      rintro _ rfl
      conv => whnf
      refine ⟨h.threads.length - (i + 1).toNat, by omega, wi (i + 1), rfl, rfl, ?_, ?_, ?_⟩
      · rw [wi_id (by omega)]; omega
      · rw [wi_id (by omega)]; omega
      · rw [wi_id (by omega)]
    · conv => whnf
      split <;> rename_i a1
      · conv => whnf
        split <;> rename_i a2
        · conv => whnf
          split <;> rename_i a3
          · conv => whnf
            split <;> rename_i a4
            · conv => whnf
              split <;> rename_i a5
              · conv => whnf
                split <;> rename_i a6
                · conv => whnf
                  split <;> rename_i a7
                  · conv => whnf
                    refine ⟨congrArg AV.bool ?_, rfl⟩
                    exact beq_self_eq_true _
                  · simp at a7
                · simp at a6
              · simp at a5
            · simp at a4
          · simp at a3
        · simp at a2
      · simp at a1

open Classical in
theorem e8 (h : Hp) : EC PP 8 [h.av] fun r => (r = .bool true ∧ RightP h ∧ h.m.w ≤ 200) ∨ (r = .bool false ∧ ¬ (RightP h ∧ h.m.w ≤ 200)) := by
  refine ec_rule CT_ok (f := 8) (fn := Go.Proofs.Try.f8) (by kernel_rfl) rfl (by kernel_rfl) (.bool (decide (RightP h ∧ h.m.w ≤ 200))) ?_ _ rfl ?_
  · by_cases q : RightP h ∧ h.m.w ≤ 200
    · exact .inl ⟨by simp only [q, decide_true, and_self], q⟩
    · exact .inr ⟨by simp only [q, decide_false], q⟩
  · conv => whnf
    refine EC.real (e10 h) rfl ?_
    rintro _ (⟨rfl, a1⟩ | ⟨rfl, a1⟩)
    · conv => whnf
      refine ⟨congrArg AV.bool ?_, rfl⟩
      rw [decide_eq_decide]
      exact ⟨fun q => ⟨a1, q⟩, fun q => q.2⟩
    · conv => whnf
      refine ⟨congrArg AV.bool ?_, rfl⟩
      exact (decide_eq_false (fun q => a1 q.1)).symm
end Av
