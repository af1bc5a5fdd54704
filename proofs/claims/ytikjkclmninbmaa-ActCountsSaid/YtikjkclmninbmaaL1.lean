/- The walk: the law ActStays. Own work. -/
import Derived.Test.YtikjkclmninbmaaK32
import Derived.Test.YtikjkclmninbmaaK33
set_option linter.unusedSimpArgs false
set_option linter.unusedVariables false
namespace Av
open Go
set_option maxRecDepth 100000

theorem RightP.len {h : Hp} (r : RightP h) : h.m.a.length ≤ 2 ^ 62 ∧ h.m.b.length ≤ 2 ^ 62 ∧ ∀ t ∈ h.threads, t.pend.length ≤ 2 ^ 62 := by
  have h1 := r.m.a
  have h2 := r.m.b
  have h3 := r.m.hi
  exact ⟨by omega, by omega, fun t ht => by have := (r.each t ht).pend; omega⟩

theorem one_small {h : Hp} (s : SmallH h) {t : Thread} (ht : t ∈ h.threads) : SmallH { h with threads := [t] } :=
  ⟨(show 1 * 144 ≤ 2 ^ 47 by decide), fun u hu => by rw [List.mem_singleton.1 hu]; exact s.each t ht, s.order⟩

theorem n3 (h : Hp) (w : Wide h) (i j : Int) : NC PP 3 [h.av, i64 i, i64 j] fun r => r = .bool true := by
  refine nc_rule CT_ok (f := 3) (fn := Go.Proofs.Try.f3) (by kernel_rfl) rfl (by kernel_rfl) _ rfl ?_
  conv => whnf
  refine NC.real n7 rfl ?_
  rintro _ rfl
  conv => whnf
  refine EC.real (e8 h) rfl ?_
  rintro _ (⟨rfl, hR, hW⟩ | ⟨rfl, _⟩)
  · conv => whnf
    obtain ⟨l1, l2, l3⟩ := hR.len
    have hS := w.small
    refine NC.real (n9 h i (hR.hok hS)) rfl ?_
    rintro _ ⟨x, k, rfl, hk⟩
    have hRk : RightP k := by
      rcases hk with ⟨_, rfl⟩ | ⟨hc, rfl⟩
      · exact hR
      · exact doF_right x hR hS hc
    have hlen : k.threads.length = h.threads.length := by
      rcases hk with ⟨_, rfl⟩ | ⟨hc, rfl⟩
      · rfl
      · exact doF_len x h i ⟨hc.1, hc.2.1⟩
    conv => whnf
    refine EC.real (e10 k) rfl ?_
    rintro _ (⟨rfl, _⟩ | ⟨rfl, hn⟩)
    · conv => whnf
      split <;> rename_i q
      · exact absurd (congrArg Int.ofNat hlen) ((bne_iff_ne (α := Int)).1 q)
      · conv => whnf
        refine EC.real (e11 h i) rfl ?_
        rintro _ (⟨rfl, hc⟩ | ⟨rfl, hc⟩)
        · have hkd : k = doF x h i := by
            rcases hk with ⟨hn, _⟩ | ⟨_, e⟩
            · exact absurd hc hn
            · exact e
          have hi : 0 ≤ i ∧ i < h.threads.length := ⟨hc.1, hc.2.1⟩
          conv => whnf
          split <;> rename_i q1
          · conv => whnf
            exact ⟨rfl, rfl⟩
          · have q1 := of_decide_eq_false q1
            conv => whnf
            split <;> rename_i q2
            · conv => whnf
              exact ⟨rfl, rfl⟩
            · have q2 : ¬ j ≥ (h.threads.length : Int) := of_decide_eq_false q2
              conv => whnf
              split <;> rename_i q3
              · conv => whnf
                exact ⟨rfl, rfl⟩
              · have q3 : ¬ j = i := by simpa using q3
                have hlt : j.toNat < h.threads.length := by omega
                have hoth : k.threads[j.toNat]? = some h.threads[j.toNat] := by
                  rw [hkd, doF_other x h i hi j.toNat (by omega), List.getElem?_eq_getElem hlt]
                obtain ⟨g1, g2, g3, g4, g5, g6, g7⟩ := doF_rest x h i hi
                rw [← hkd] at g1 g2 g3 g4 g5 g6 g7
                clear hkd hk hRk hlen
                obtain ⟨km, kf, kt, ks, kl, kth, kp, ksc, kfl, ko, kb⟩ := k
                simp only at g1 g2 g3 g4 g5 g6 g7
                subst g1 g2 g3 g4 g5 g6 g7
                conv => whnf
                refine ⟨_, ⟨by omega, List.getElem?_eq_getElem hlt⟩, ?_⟩
                conv => whnf
                refine ⟨_, ⟨by omega, hoth⟩, ?_⟩
                conv => whnf
                have hmem : h.threads[j.toNat] ∈ h.threads := List.getElem_mem hlt
                refine EC.real (e12 { h with threads := [h.threads[j.toNat]] } (one_small hS hmem) (fun t ht => l3 t (by rw [List.mem_singleton.1 ht]; exact hmem)) l1 l2) rfl ?_
                rintro _ rfl
                conv => whnf
                exact ⟨rfl, rfl⟩
        · have hkh : k = h := by
            rcases hk with ⟨_, e⟩ | ⟨hn, _⟩
            · exact e
            · exact absurd hn hc
          subst hkh
          conv => whnf
          refine EC.real (e12 k hS l3 l1 l2) rfl ?_
          rintro _ rfl
          conv => whnf
          exact ⟨rfl, rfl⟩
    · exact absurd hRk hn
  · conv => whnf
    exact ⟨rfl, rfl⟩
end Av
