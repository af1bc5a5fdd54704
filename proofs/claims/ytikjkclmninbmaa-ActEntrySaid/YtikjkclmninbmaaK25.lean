/- The walk: object. The walk: objects put; bump. Own work. -/
import Derived.Test.YtikjkclmninbmaaK24
section
set_option linter.unusedSimpArgs false
set_option linter.unusedVariables false
namespace Av
open Go
set_option maxRecDepth 100000

abbrev sn (l : List Int) : AV := .sl .int l .none

theorem e78a (a i : Int) : EC PP 78 [u64 a, sn [i]] fun r => ∃ b, r = u64 b ∧ b = sum1 a i := by
  refine ec_rule CT_ok (f := 78) (fn := Go.Proofs.Try.f78) (by kernel_rfl) rfl (by kernel_rfl) (u64 (sum1 a i)) ⟨_, rfl, rfl⟩ _ rfl ?_
  conv => whnf
  refine loop_rounds CT_ok 2 ?_
  conv => whnf
  refine ⟨_, ⟨by decide, rfl⟩, ?_⟩
  conv => whnf
  exact ⟨rfl, rfl⟩

theorem e78b (a i j : Int) : EC PP 78 [u64 a, sn [i, j]] fun r => ∃ b, r = u64 b ∧ b = sum2 a i j := by
  refine ec_rule CT_ok (f := 78) (fn := Go.Proofs.Try.f78) (by kernel_rfl) rfl (by kernel_rfl) (u64 (sum2 a i j)) ⟨_, rfl, rfl⟩ _ rfl ?_
  conv => whnf
  refine loop_rounds CT_ok 3 ?_
  conv => whnf
  refine ⟨_, ⟨by decide, rfl⟩, ?_⟩
  conv => whnf
  refine ⟨_, ⟨by decide, rfl⟩, ?_⟩
  conv => whnf
  exact ⟨rfl, rfl⟩

abbrev atRaw : AObj := .raw 1 [[.fn 66 [] [.ptr 0 0 0 0, .ptr 1 0 0 0, .ptr 4 0 0 0]], [.fn 68 [] [.ptr 4 0 0 0, .ptr 3 0 0 0]], [.fn 70 [] [.ptr 0 0 0 0, .ptr 1 0 0 0, .ptr 3 0 0 0]]] false
abbrev atH (m : Mm) (a : Int) (h : Head) (w : Int) : List AObj := [.box m.cs, .box [u64 a], .box [i64 0, i64 0, u64 0], .box [i64 h.tag, i64 h.len, u64 h.map], .box [u64 w], atRaw]

theorem c66 (m : Mm) (hm : m.Ok) (a : Int) (h : Head) (w : Int) : RealCall PP 66 [.ptr 0 0 0 0, .ptr 1 0 0 0, .ptr 4 0 0 0] (atH m a h w) fun r H => (r = i64 0 ∧ ThP m a 1 ∧ H = atH m a h (loadV m a)) ∨ (r = i64 2 ∧ ¬ ThP m a 1 ∧ H = atH m a h 0) := by
  refine rc_rule CT_ok (f := 66) (fn := Go.Proofs.Try.f66) (by kernel_rfl) rfl (by kernel_rfl) 6 (Nat.le_refl _) _ rfl ?_
  conv => whnf
  refine EC.real (e67 m hm a) rfl ?_
  rintro _ (⟨v, rfl, hp, rfl⟩ | ⟨rfl, hp⟩)
  · conv => whnf
    exact .inl ⟨rfl, hp, rfl⟩
  · conv => whnf
    exact .inr ⟨rfl, hp, rfl⟩

theorem c68 (m : Mm) (a : Int) (h : Head) (w : Int) : RealCall PP 68 [.ptr 4 0 0 0, .ptr 3 0 0 0] (atH m a h w) fun r H => ∃ k e, r = i64 e ∧ (k, e) = takeF w ∧ H = atH m a k w := by
  refine rc_rule CT_ok (f := 68) (fn := Go.Proofs.Try.f68) (by kernel_rfl) rfl (by kernel_rfl) 6 (Nat.le_refl _) _ rfl ?_
  conv => whnf
  refine EC.real (e69 w) rfl ?_
  rintro _ ⟨k, e, rfl, hk⟩
  conv => whnf
  exact ⟨k, e, rfl, hk, rfl⟩

noncomputable def C70 : Ctx := { CT with ords := [(1, [0, 1, 2, 3, 4, 5])] }

theorem c70 (m : Mm) (a : Int) (h : Head) (w : Int) : RealCall PP 70 [.ptr 0 0 0 0, .ptr 1 0 0 0, .ptr 3 0 0 0] (atH m a h w) fun r H => ((r = i64 0 ∧ ThP m a (wordsF h)) ∨ (r = i64 2 ∧ ¬ ThP m a (wordsF h))) ∧ H = atH m a h w := by
  refine rc_rule (CT_okc (C := C70) rfl rfl) (f := 70) (fn := Go.Proofs.Try.f70) (by kernel_rfl) rfl (by kernel_rfl) 6 (Nat.le_refl _) _ rfl ?_
  conv => whnf
  refine ⟨by kernel_rfl, ?_⟩
  conv => whnf
  refine EC.draw (e57 h) ?_
  rintro _ ⟨n, rfl, hn⟩
  conv => whnf
  refine EC.draw (e71 m a n) ?_
  rintro _ (⟨rfl, hp⟩ | ⟨rfl, hp⟩)
  · conv => whnf
    exact ⟨.inl ⟨rfl, hn ▸ hp⟩, rfl⟩
  · conv => whnf
    exact ⟨.inr ⟨rfl, hn ▸ hp⟩, rfl⟩

theorem e49 (m : Mm) (hm : m.Ok) (a : Int) : EC PP 49 [m.av, u64 a] fun r => ∃ h e, r = .tup [hav h, i64 e] ∧ (h, e) = atF m a := by
  refine ec_rule CT_ok (f := 49) (fn := Go.Proofs.Try.f49) (by kernel_rfl) rfl (by kernel_rfl) (.tup [hav (atF m a).1, i64 (atF m a).2]) ⟨_, _, rfl, rfl⟩ _ rfl ?_
  conv => whnf
  refine scope_passes CT_ok 0 2 rfl ?_
  conv => whnf
  refine ⟨by decide, ?_⟩
  conv => whnf
  refine ⟨_, rfl, ?_⟩
  conv => whnf
  refine (c66 m hm a ⟨0, 0, 0⟩ 0).mono ?_
  rintro _ _ (⟨rfl, hp, rfl⟩ | ⟨rfl, hp, rfl⟩)
  · conv => whnf
    refine ⟨rfl, ?_⟩
    conv => whnf
    refine ⟨by decide, ?_⟩
    conv => whnf
    refine ⟨_, rfl, ?_⟩
    conv => whnf
    refine (c68 m a ⟨0, 0, 0⟩ (loadV m a)).mono ?_
    rintro _ _ ⟨k, e, rfl, hk, rfl⟩
    conv => whnf
    have hk1 : k = (takeF (loadV m a)).1 := congrArg Prod.fst hk
    have hk2 : e = (takeF (loadV m a)).2 := congrArg Prod.snd hk
    split <;> rename_i q
    · have q : e ≠ 0 := by simpa using q
      conv => whnf
      refine ⟨?_, rfl⟩
      rw [atF, if_pos hp, if_pos (hk2 ▸ q), ← hk2]
      rfl
    · have q : ¬ e ≠ 0 := by simpa using q
      conv => whnf
      refine ⟨rfl, ?_⟩
      conv => whnf
      refine ⟨by decide, ?_⟩
      conv => whnf
      refine ⟨_, rfl, ?_⟩
      conv => whnf
      refine (c70 m a k (loadV m a)).mono ?_
      rintro _ _ ⟨⟨rfl, hq⟩ | ⟨rfl, hq⟩, rfl⟩
      · conv => whnf
        refine ⟨?_, rfl⟩
        rw [atF, if_pos hp, if_neg (hk2 ▸ q), if_pos (hk1 ▸ hq), ← hk1]
      · conv => whnf
        refine ⟨?_, rfl⟩
        rw [atF, if_pos hp, if_neg (hk2 ▸ q), if_neg (hk1 ▸ hq)]
        rfl
  · conv => whnf
    refine ⟨?_, rfl⟩
    rw [atF, if_neg hp]
    rfl

theorem e85 (m : Mm) (hm : m.Ok) (a : Int) : EC PP 85 [m.av, u64 a] fun r => ∃ h e, r = .tup [hav h, i64 e] ∧ (h, e) = realF m a := by
  refine ec_rule CT_ok (f := 85) (fn := Go.Proofs.Try.f85) (by kernel_rfl) rfl (by kernel_rfl) (.tup [hav (realF m a).1, i64 (realF m a).2]) ⟨_, _, rfl, rfl⟩ _ rfl ?_
  conv => whnf
  refine EC.real (e49 m hm a) rfl ?_
  rintro _ ⟨h, e, rfl, hk⟩
  have hk1 : h = (atF m a).1 := congrArg Prod.fst hk
  have hk2 : e = (atF m a).2 := congrArg Prod.snd hk
  conv => whnf
  split <;> rename_i q
  · have q : e = 0 := by simpa using q
    conv => whnf
    split <;> rename_i q2
    · have q2 : h.tag = 255 := by simpa using q2
      conv => whnf
      refine ⟨?_, rfl⟩
      rw [realF, if_pos ⟨hk2 ▸ q, hk1 ▸ q2⟩]
      rfl
    · have q2 : ¬ h.tag = 255 := by simpa using q2
      conv => whnf
      refine ⟨?_, rfl⟩
      rw [realF, if_neg (fun hh => q2 (hk1 ▸ hh.2)), ← hk1, ← hk2]
  · have q : ¬ e = 0 := by simpa using q
    conv => whnf
    refine ⟨?_, rfl⟩
    rw [realF, if_neg (fun hh => q (hk2 ▸ hh.1)), ← hk1, ← hk2]

noncomputable def C72 : Ctx := { CT with ords := [(6, [0, 1, 2, 3, 4, 5, 6, 7, 8, 9])] }

theorem e72 (m : Mm) (hm : m.Ok) (a i : Int) : EC PP 72 [m.av, u64 a, i64 i] fun r => ∃ v p e, r = .tup [u64 v, .bool p, i64 e] ∧ (v, p, e) = fieldF m a i := by
  refine ec_rule (CT_okc (C := C72) rfl rfl) (f := 72) (fn := Go.Proofs.Try.f72) (by kernel_rfl) rfl (by kernel_rfl) (.tup [u64 (fieldF m a i).1, .bool (fieldF m a i).2.1, i64 (fieldF m a i).2.2]) ⟨_, _, _, rfl, rfl⟩ _ rfl ?_
  conv => whnf
  refine EC.real (e85 m hm a) rfl ?_
  rintro _ ⟨h, e, rfl, hk⟩
  have hk1 : h = (realF m a).1 := congrArg Prod.fst hk
  have hk2 : e = (realF m a).2 := congrArg Prod.snd hk
  conv => whnf
  split <;> rename_i q
  · have q : e ≠ 0 := by simpa using q
    conv => whnf
    refine ⟨?_, rfl⟩
    rw [fieldF, if_pos (hk2 ▸ q), hk2]
  · have q : ¬ e ≠ 0 := by simpa using q
    conv => whnf
    split <;> rename_i q2
    · have q2 := of_decide_eq_true q2
      conv => whnf
      refine ⟨?_, rfl⟩
      rw [fieldF, if_neg (hk2 ▸ q), if_pos q2]
    · have q2 := of_decide_eq_false q2
      conv => whnf
      split <;> rename_i q3
      · have q3 := of_decide_eq_true q3
        conv => whnf
        refine ⟨?_, rfl⟩
        rw [fieldF, if_neg (hk2 ▸ q), if_neg q2, if_pos (hk1 ▸ q3)]
      · have q3 := of_decide_eq_false q3
        conv => whnf
        refine ⟨by kernel_rfl, ?_⟩
        conv => whnf
        refine EC.draw (e78b a 2 i) ?_
        rintro _ ⟨b, rfl, hb⟩
        conv => whnf
        refine EC.draw (e86 h i) ?_
        rintro _ ⟨p, rfl, hp⟩
        conv => whnf
        refine ⟨?_, rfl⟩
        rw [fieldF, if_neg (hk2 ▸ q), if_neg q2, if_neg (hk1 ▸ q3), ← hk1, hb, hp]

theorem e50 (m : Mm) (hm : m.Ok) (a i : Int) : EC PP 50 [m.av, u64 a, i64 i] fun r => ∃ v p e, r = .tup [u64 v, .bool p, i64 e] ∧ (v, p, e) = getF m a i := by
  refine ec_rule CT_ok (f := 50) (fn := Go.Proofs.Try.f50) (by kernel_rfl) rfl (by kernel_rfl) (.tup [u64 (getF m a i).1, .bool (getF m a i).2.1, i64 (getF m a i).2.2]) ⟨_, _, _, rfl, rfl⟩ _ rfl ?_
  conv => whnf
  refine EC.real (e72 m hm a i) rfl ?_
  rintro _ ⟨v, p, e, rfl, hk⟩
  have hk1 : v = (fieldF m a i).1 := congrArg Prod.fst hk
  have hk2 : p = (fieldF m a i).2.1 := congrArg (fun x => x.2.1) hk
  have hk3 : e = (fieldF m a i).2.2 := congrArg (fun x => x.2.2) hk
  conv => whnf
  split <;> rename_i q
  · have q : e ≠ 0 := by simpa using q
    conv => whnf
    refine ⟨?_, rfl⟩
    rw [getF, if_pos (hk3 ▸ q), hk3]
  · have q : ¬ e ≠ 0 := by simpa using q
    conv => whnf
    refine EC.real (e67 m hm v) rfl ?_
    rintro _ (⟨x, rfl, hp, hx⟩ | ⟨rfl, hp⟩)
    · conv => whnf
      refine ⟨?_, rfl⟩
      rw [getF, if_neg (hk3 ▸ q), ← hk1, if_pos hp, hx, hk2]
    · conv => whnf
      refine ⟨?_, rfl⟩
      rw [getF, if_neg (hk3 ▸ q), ← hk1, if_neg hp, hk2]

theorem e75' (m : Mm) (hm : m.Ok) (a v : Int) : EC PP 75 [m.av, u64 a, u64 v] fun r => ∃ (m' : Mm) (e : Int), r = .tup [m'.av, i64 e] ∧ (m', e) = stF m a v := by
  refine (e75 m hm a v).mono ?_
  rintro _ (⟨m', rfl, hp, rfl⟩ | ⟨rfl, hp⟩)
  · exact ⟨_, _, rfl, by rw [stF, if_pos hp]⟩
  · exact ⟨_, _, rfl, by rw [stF, if_neg hp]⟩

theorem e55 (m : Mm) (hm : m.Ok) (a i v : Int) : EC PP 55 [m.av, u64 a, i64 i, u64 v] fun r => ∃ (m' : Mm) (e : Int), r = .tup [m'.av, i64 e] ∧ (m', e) = setF m a i v := by
  refine ec_rule CT_ok (f := 55) (fn := Go.Proofs.Try.f55) (by kernel_rfl) rfl (by kernel_rfl) (.tup [(setF m a i v).1.av, i64 (setF m a i v).2]) ⟨_, _, rfl, rfl⟩ _ rfl ?_
  conv => whnf
  refine EC.real (e72 m hm a i) rfl ?_
  rintro _ ⟨x, p, e, rfl, hk⟩
  have hk1 : x = (fieldF m a i).1 := congrArg Prod.fst hk
  have hk3 : e = (fieldF m a i).2.2 := congrArg (fun x => x.2.2) hk
  conv => whnf
  split <;> rename_i q
  · have q : e ≠ 0 := by simpa using q
    conv => whnf
    refine ⟨?_, rfl⟩
    rw [setF, if_pos (hk3 ▸ q), hk3]
  · have q : ¬ e ≠ 0 := by simpa using q
    conv => whnf
    refine EC.real (e75' m hm x v) rfl ?_
    rintro _ ⟨m', e', rfl, hs⟩
    have hs1 : m' = (stF m x v).1 := congrArg Prod.fst hs
    have hs2 : e' = (stF m x v).2 := congrArg Prod.snd hs
    conv => whnf
    refine ⟨?_, rfl⟩
    rw [setF, if_neg (hk3 ▸ q), ← hk1, ← hs1, ← hs2]
end Av
end
section
set_option linter.unusedSimpArgs false
set_option linter.unusedVariables false
namespace Av
open Go
set_option maxRecDepth 100000

theorem e61 (m n : Int) : EC PP 61 [i64 m, i64 n] fun r => ∃ a, r = u64 a ∧ a = addrF m n := by
  refine ec_rule CT_ok (f := 61) (fn := Go.Proofs.Try.f61) (by kernel_rfl) rfl (by kernel_rfl) (u64 (addrF m n)) ⟨_, rfl, rfl⟩ _ rfl ?_
  conv => whnf
  split <;> rename_i q1
  · have q1 := of_decide_eq_true q1
    conv => whnf
    refine ⟨?_, rfl⟩
    rw [addrF, if_pos q1]
  · have q1 := of_decide_eq_false q1
    conv => whnf
    split <;> rename_i q2
    · have q2 := of_decide_eq_true q2
      conv => whnf
      refine ⟨?_, rfl⟩
      rw [addrF, if_neg q1, if_pos q2]
    · have q2 := of_decide_eq_false q2
      conv => whnf
      split <;> rename_i q3
      · have q3 := of_decide_eq_true q3
        conv => whnf
        refine ⟨?_, rfl⟩
        rw [addrF, if_neg q1, if_neg q2, if_pos q3]
      · have q3 := of_decide_eq_false q3
        conv => whnf
        split <;> rename_i q4
        · have q4 := of_decide_eq_true q4
          conv => whnf
          refine ⟨?_, rfl⟩
          rw [addrF, if_neg q1, if_neg q2, if_neg q3, if_pos q4]
        · have q4 := of_decide_eq_false q4
          conv => whnf
          refine ⟨?_, rfl⟩
          rw [addrF, if_neg q1, if_neg q2, if_neg q3, if_neg q4]
          rfl

theorem objWF_le (n : Int) : 0 ≤ objWF n ∧ objWF n ≤ 18 := by
  unfold objWF
  split
  · omega
  · split
    · omega
    · rw [wi_id (by omega)]; omega

noncomputable def C59 : Ctx := { CT with ords := [(4, [0, 1, 2, 3, 4, 5, 6]), (10, [0, 1, 2, 3, 4, 5, 6, 7, 8, 9])] }

abbrev H59 (m : Mm) (h : Head) : List AObj := [.box m.cs, .box [i64 h.tag, i64 h.len, u64 h.map], .box zmem]

theorem e59 (m : Mm) (hm : m.Ok) (a : Int) (h : Head) : EC PP 59 [m.av, u64 a, hav h] fun r => ∃ (m' : Mm) (e : Int), r = .tup [m'.av, i64 e] ∧ (m', e) = putF m a h := by
  refine ec_rule (CT_okc (C := C59) rfl rfl) (f := 59) (fn := Go.Proofs.Try.f59) (by kernel_rfl) rfl (by kernel_rfl) (.tup [(putF m a h).1.av, i64 (putF m a h).2]) ⟨_, _, rfl, rfl⟩ _ rfl ?_
  conv => whnf
  refine EC.real (e77 h) rfl ?_
  rintro _ ⟨v, e, rfl, hk⟩
  have hk1 : v = (wordF h).1 := congrArg Prod.fst hk
  have hk2 : e = (wordF h).2 := congrArg Prod.snd hk
  conv => whnf
  split <;> rename_i q
  · have q : e ≠ 0 := by simpa using q
    conv => whnf
    refine ⟨?_, rfl⟩
    rw [putF, if_pos (hk2 ▸ q), hk2]
  · have q : ¬ e ≠ 0 := by simpa using q
    conv => whnf
    refine ⟨by kernel_rfl, ?_⟩
    conv => whnf
    refine EC.draw (e57 h) ?_
    rintro _ ⟨n, rfl, hn⟩
    conv => whnf
    refine EC.draw (e71 m a n) ?_
    rintro _ (⟨rfl, hp⟩ | ⟨rfl, hp⟩)
    · conv => whnf
      refine EC.real (e75' m hm a v) rfl ?_
      rintro _ ⟨m1, e1, rfl, hs⟩
      have hs1 : m1 = (stF m a v).1 := congrArg Prod.fst hs
      have ho := stF_ok hm a v
      rw [← hs1] at ho
      conv => whnf
      refine loop_keep (CT_okc (C := C59) rfl rfl) (marks [1, 3, 5, 6, 10] 0 57) (fun k s H => ∃ (i : Int) (mm : Mm), s = joined [.junk, u64 a, .junk, .ptr 0 0 0 0, .junk, .ptr 1 0 0 0, .ptr 2 0 0 0, .junk, .junk, .junk, i64 i] (junks 46) ∧ H = H59 mm h ∧
        mm.Ok ∧ 1 ≤ i ∧ i ≤ 20 ∧ k = (n - i).toNat ∧ (h.tag ≠ 255 → putL a mm i k = putL a m1 1 (n - 1).toNat) ∧ (h.tag = 255 → mm = m1)) (n - 1).toNat ⟨1, m1, rfl, rfl, ho.1, by omega, by omega, rfl, fun _ => rfl, fun _ => rfl⟩ ?_
      rintro k s H ⟨i, mm, rfl, rfl, hmm, hi1, hi2, hki, hL1, hL2⟩
      have fin : (h.tag ≠ 255 → k = 0) → (putF m a h) = (mm, 0) := by
        intro hz
        rw [putF, if_neg (hk2 ▸ q), if_pos (hn ▸ hp), ← hk1, ← hs1, ← hn]
        split <;> rename_i ht
        · rw [hL2 ht]
        · rw [← hL1 ht, hz ht]; rfl
      conv => whnf
      refine EC.real (e57 h) rfl ?_
      rintro _ ⟨n', rfl, hn'⟩
      obtain rfl : n' = n := hn'.trans hn.symm
      conv => whnf
      split <;> rename_i q2
      · have q2 := of_decide_eq_true q2
        conv => whnf
        split <;> rename_i q3
        · have q3 : h.tag ≠ 255 := by simpa using q3
          have hle : n' ≤ 18 := by rw [hn, wordsF, if_neg q3]; exact (objWF_le _).2
          conv => whnf
          refine ⟨by kernel_rfl, ?_⟩
          conv => whnf
          refine EC.draw (e78a a i) ?_
          rintro _ ⟨b, rfl, hb⟩
          conv => whnf
          refine EC.draw (e75' mm hmm b 0) ?_
          rintro _ ⟨m2, e2, rfl, hs2⟩
          have hs3 : m2 = (stF mm b 0).1 := congrArg Prod.fst hs2
          have ho2 := stF_ok hmm b 0
          rw [← hs3] at ho2
          conv => whnf
          obtain ⟨k, rfl⟩ : ∃ k', k = k' + 1 := ⟨k - 1, by omega⟩
          refine ⟨k, Nat.lt_succ_self k, wi (i + 1), m2, rfl, rfl, ho2.1, ?_, ?_, ?_, ?_, fun hh => absurd hh q3⟩
          · rw [wi_id (by omega)]; omega
          · rw [wi_id (by omega)]; omega
          · rw [wi_id (by omega)]; omega
          · intro hh
            rw [← hL1 hh, hs3, hb]
            rfl
        · have q3 : h.tag = 255 := by simpa using q3
          conv => whnf
          refine ⟨?_, rfl⟩
          rw [fin (fun hh => absurd q3 hh)]
      · have q2 := of_decide_eq_false q2
        conv => whnf
        refine ⟨?_, rfl⟩
        rw [fin (fun _ => by omega)]
    · conv => whnf
      refine ⟨?_, rfl⟩
      rw [putF, if_neg (hk2 ▸ q), if_neg (hn ▸ hp)]
theorem e81 (m : Mm) (hm : m.Ok) (a n : Int) : EC PP 81 [m.av, u64 a, i64 n] fun r => ∃ (m' : Mm) (e : Int), r = .tup [m'.av, i64 e] ∧ (m', e) = fillF m a n := by
  refine ec_rule CT_ok (f := 81) (fn := Go.Proofs.Try.f81) (by kernel_rfl) rfl (by kernel_rfl) (.tup [(fillF m a n).1.av, i64 (fillF m a n).2]) ⟨_, _, rfl, rfl⟩ _ rfl ?_
  conv => whnf
  split <;> rename_i q1
  · have q1 := of_decide_eq_true q1
    conv => whnf
    refine ⟨?_, rfl⟩
    rw [fillF, if_pos q1]
  · have q1 := of_decide_eq_false q1
    conv => whnf
    split <;> rename_i q2
    · have q2 := of_decide_eq_true q2
      conv => whnf
      refine ⟨?_, rfl⟩
      rw [fillF, if_neg q1, if_pos q2]
    · have q2 := of_decide_eq_false q2
      conv => whnf
      refine EC.real (e59 m hm a ⟨255, wi (n - 1), 0⟩) rfl ?_
      rintro _ ⟨m', e, rfl, hs⟩
      conv => whnf
      refine ⟨?_, rfl⟩
      rw [fillF, if_neg q1, if_neg q2, ← hs]

theorem e80 (b : Bp) : EC PP 80 [b.av] fun r => (r = .bool true ∧ b.Ok) ∨ (r = .bool false ∧ ¬ b.Ok) := by
  refine ec_rule CT_ok (f := 80) (fn := Go.Proofs.Try.f80) (by kernel_rfl) rfl (by kernel_rfl) (.bool (decide b.Ok)) ?_ _ rfl ?_
  · by_cases q : b.Ok
    · exact .inl ⟨by simp only [q, decide_true], q⟩
    · exact .inr ⟨by simp only [q, decide_false], q⟩
  · have rest : ∀ (hs : 0 ≤ b.s ∧ b.s ≤ 1), (decide (b.at' ≥ 0) && decide (b.at' ≤ b.lim) && decide (b.lim ≤ 4096)) = decide b.Ok := by
      intro hs
      by_cases q : b.Ok
      · rw [decide_eq_true q, decide_eq_true q.lo, decide_eq_true q.hi, decide_eq_true q.top]; rfl
      · rw [decide_eq_false q]
        by_cases q1 : b.at' ≥ 0
        · by_cases q2 : b.at' ≤ b.lim
          · have q3 : ¬ b.lim ≤ 4096 := fun q3 => q ⟨hs, q1, q2, q3⟩
            simp [q1, q2, q3]
          · simp [q1, q2]
        · simp [q1]
    conv => whnf
    split <;> rename_i q1
    · have q1 : b.s = 0 := by simpa using q1
      have r := rest (by omega)
      conv => whnf
      split <;> rename_i q2
      · conv => whnf
        split <;> rename_i q3
        · conv => whnf
          refine ⟨congrArg AV.bool ?_, rfl⟩
          rw [← r, q2, q3]; rfl
        · conv => whnf
          refine ⟨congrArg AV.bool ?_, rfl⟩
          rw [← r, q2, q3]; rfl
      · conv => whnf
        refine ⟨congrArg AV.bool ?_, rfl⟩
        rw [← r, q2]; rfl
    · have q1 : ¬ b.s = 0 := by simpa using q1
      conv => whnf
      split <;> rename_i q0
      · have q0 : b.s = 1 := by simpa using q0
        have r := rest (by omega)
        conv => whnf
        split <;> rename_i q2
        · conv => whnf
          split <;> rename_i q3
          · conv => whnf
            refine ⟨congrArg AV.bool ?_, rfl⟩
            rw [← r, q2, q3]; rfl
          · conv => whnf
            refine ⟨congrArg AV.bool ?_, rfl⟩
            rw [← r, q2, q3]; rfl
        · conv => whnf
          refine ⟨congrArg AV.bool ?_, rfl⟩
          rw [← r, q2]; rfl
      · have q0 : ¬ b.s = 1 := by simpa using q0
        conv => whnf
        refine ⟨congrArg AV.bool ?_, rfl⟩
        exact (decide_eq_false (fun h => by have := h.s; omega)).symm

theorem e63 (b : Bp) (hb : b.Ok) : EC PP 63 [b.av] fun r => ∃ n, r = i64 n ∧ n = b.lim - b.at' := by
  refine ec_rule CT_ok (f := 63) (fn := Go.Proofs.Try.f63) (by kernel_rfl) rfl (by kernel_rfl) (i64 (b.lim - b.at')) ⟨_, rfl, rfl⟩ _ rfl ?_
  conv => whnf
  refine EC.real (e80 b) rfl ?_
  rintro _ (⟨rfl, hq⟩ | ⟨rfl, hq⟩)
  · conv => whnf
    refine ⟨?_, rfl⟩
    have := wi_id (n := b.lim - b.at') (by have := hb.lo; have := hb.hi; have := hb.top; omega)
    exact congrArg i64 this
  · exact absurd hb hq

noncomputable def C79 : Ctx := { CT with ords := [(1, [0, 1, 2, 3, 4])] }

theorem c79 (b : Bp) (hb : b.Ok) (n : Int) : RealCall PP 79 [.ptr 1 0 0 0, .ptr 0 0 0 0] [.box b.cs, .box [i64 n], .box [i64 0, i64 0, i64 0]] fun r H => ((r = .bool true ∧ n ≤ b.lim - b.at') ∨ (r = .bool false ∧ ¬ n ≤ b.lim - b.at')) ∧ H = [.box b.cs, .box [i64 n], .box [i64 0, i64 0, i64 0]] := by
  refine rc_rule (CT_okc (C := C79) rfl rfl) (f := 79) (fn := Go.Proofs.Try.f79) (by kernel_rfl) rfl (by kernel_rfl) 3 (Nat.le_refl _) _ rfl ?_
  conv => whnf
  refine ⟨by kernel_rfl, ?_⟩
  conv => whnf
  refine EC.draw (e63 b hb) ?_
  rintro _ ⟨l, rfl, rfl⟩
  conv => whnf
  refine ⟨?_, rfl⟩
  by_cases q : n ≤ b.lim - b.at'
  · exact .inl ⟨by rw [decide_eq_true q], q⟩
  · exact .inr ⟨by rw [decide_eq_false q], q⟩

theorem e62 (b : Bp) (hb : b.Ok) (n : Int) (hn : 1 ≤ n) : EC PP 62 [b.av, i64 n] fun r => ∃ a, a = addrF b.s b.at' ∧ ((r = .tup [Bp.av ⟨b.s, b.at' + n, b.lim⟩, u64 a, i64 0] ∧ n ≤ b.lim - b.at') ∨ (r = .tup [b.av, u64 0, i64 4] ∧ ¬ n ≤ b.lim - b.at')) := by
  refine ec_rule CT_ok (f := 62) (fn := Go.Proofs.Try.f62) (by kernel_rfl) rfl (by kernel_rfl) (if n ≤ b.lim - b.at' then .tup [Bp.av ⟨b.s, b.at' + n, b.lim⟩, u64 (addrF b.s b.at'), i64 0] else .tup [b.av, u64 0, i64 4]) ?_ _ rfl ?_
  · refine ⟨_, rfl, ?_⟩
    split <;> rename_i q
    · exact .inl ⟨rfl, q⟩
    · exact .inr ⟨rfl, q⟩
  · conv => whnf
    refine EC.real (e80 b) rfl ?_
    rintro _ (⟨rfl, hq⟩ | ⟨rfl, hq⟩)
    · conv => whnf
      split <;> rename_i q
      · conv => whnf
        refine (c79 b hb n).mono ?_
        rintro _ _ ⟨⟨rfl, hl⟩ | ⟨rfl, hl⟩, rfl⟩
        · conv => whnf
          refine EC.real (e61 _ _) rfl ?_
          rintro _ ⟨a, rfl, rfl⟩
          conv => whnf
          refine ⟨?_, rfl⟩
          rw [if_pos hl]
          have e := wi_id (n := b.at' + n) (by have := hb.lo; have := hb.hi; have := hb.top; omega)
          have e2 : AV.tup [AV.agg [i64 b.s, i64 (wi (b.at' + n)), i64 b.lim], u64 (addrF b.s b.at'), i64 0] = AV.tup [Bp.av ⟨b.s, b.at' + n, b.lim⟩, u64 (addrF b.s b.at'), i64 0] := by rw [e]
          exact e2
        · conv => whnf
          refine ⟨?_, rfl⟩
          rw [if_neg hl]
      · exact absurd hn (of_decide_eq_false q)
    · exact absurd hb hq

theorem e65 (b : Bp) (hb : b.Ok) (n : Int) (hn : 1 ≤ n) (hl : 0 < b.lim - b.at') : EC PP 65 [b.av, i64 n] fun r => ∃ a k, r = .tup [Bp.av ⟨b.s, b.at' + k, b.lim⟩, u64 a, i64 k] ∧ k = mostK b n := by
  refine ec_rule CT_ok (f := 65) (fn := Go.Proofs.Try.f65) (by kernel_rfl) rfl (by kernel_rfl) (.tup [Bp.av ⟨b.s, b.at' + mostK b n, b.lim⟩, u64 (addrF b.s b.at'), i64 (mostK b n)]) ⟨_, _, rfl, rfl⟩ _ rfl ?_
  conv => whnf
  refine scope_passes CT_ok 0 1 rfl ?_
  conv => whnf
  refine EC.real (e62 b hb n hn) rfl ?_
  rintro _ ⟨a, rfl, ⟨rfl, h1⟩ | ⟨rfl, h1⟩⟩
  · conv => whnf
    refine ⟨?_, rfl⟩
    rw [mostK, if_pos h1]
  · conv => whnf
    refine EC.real (e63 b hb) rfl ?_
    rintro _ ⟨l, rfl, hlv⟩
    conv => whnf
    split <;> rename_i q
    · conv => whnf
      refine EC.real (e63 b hb) rfl ?_
      rintro _ ⟨l2, rfl, hlv2⟩
      conv => whnf
      refine ⟨rfl, ?_⟩
      conv => whnf
      refine EC.real (e62 b hb l2 (by omega)) rfl ?_
      rintro _ ⟨a, rfl, ⟨rfl, h2⟩ | ⟨rfl, h2⟩⟩
      · conv => whnf
        refine ⟨?_, rfl⟩
        rw [mostK, if_neg h1, hlv2]
      · exact absurd h2 (by omega)
    · exact absurd (of_decide_eq_false q) (by omega)
end Av
end
