/- The walk: head. The walk: arena. Own work. -/
import Derived.Test.YtikjkclmninbmaaK23
section
set_option linter.unusedSimpArgs false
set_option linter.unusedVariables false
namespace Av
open Go
set_option maxRecDepth 100000

theorem e76 (n : Int) : EC PP 76 [i64 n] fun r => ∃ a e, r = .tup [i64 a, i64 e] ∧ a = objWF n ∧ e = objEF n := by
  refine ec_rule CT_ok (f := 76) (fn := Go.Proofs.Try.f76) (by kernel_rfl) rfl (by kernel_rfl) (.tup [i64 (objWF n), i64 (objEF n)]) ⟨_, _, rfl, rfl, rfl⟩ _ rfl ?_
  conv => whnf
  split <;> rename_i h
  · conv => whnf
    have h := of_decide_eq_true h
    simp only [objWF, objEF, if_pos h, and_self]
  · have h := of_decide_eq_false h
    conv => whnf
    split <;> rename_i h2
    · conv => whnf
      have h2 := of_decide_eq_true h2
      simp only [objWF, objEF, if_neg h, if_pos h2, and_self]
    · conv => whnf
      have h2 := of_decide_eq_false h2
      simp only [objWF, objEF, if_neg h, if_neg h2, and_self]

theorem e57 (h : Head) : EC PP 57 [hav h] fun r => ∃ n, r = i64 n ∧ n = wordsF h := by
  refine ec_rule CT_ok (f := 57) (fn := Go.Proofs.Try.f57) (by kernel_rfl) rfl (by kernel_rfl) (i64 (wordsF h)) ⟨_, rfl, rfl⟩ _ rfl ?_
  conv => whnf
  split <;> rename_i q
  · have q : h.tag = 255 := eq_of_beq q
    conv => whnf
    simp only [wordsF, if_pos q, and_self]
  · have q : ¬ h.tag = 255 := by simpa using q
    conv => whnf
    refine EC.real (e76 _) rfl ?_
    rintro _ ⟨a, e, rfl, ha, he⟩
    conv => whnf
    simp only [wordsF, if_neg q, ha, and_self]

theorem c56 (h : Head) (p : Bool) : RealCall PP 56 [.ptr 1 0 0 0] [.box [i64 h.tag, i64 h.len, u64 h.map], .box [.bool p]] fun r H => (∃ m, r = i64 m ∧ (p = true → m = 65535) ∧ (p = false → m = 16)) ∧ H = [.box [i64 h.tag, i64 h.len, u64 h.map], .box [.bool p]] := by
  cases p
  · refine rc_rule CT_ok (f := 56) (fn := Go.Proofs.Try.f56) (by kernel_rfl) rfl (by kernel_rfl) 2 (Nat.le_refl _) _ rfl ?_
    conv => whnf
    exact ⟨⟨_, rfl, fun h => (by cases h), fun _ => rfl⟩, rfl⟩
  · refine rc_rule CT_ok (f := 56) (fn := Go.Proofs.Try.f56) (by kernel_rfl) rfl (by kernel_rfl) 2 (Nat.le_refl _) _ rfl ?_
    conv => whnf
    exact ⟨⟨_, rfl, fun _ => rfl, fun h => (by cases h)⟩, rfl⟩

noncomputable def C46 : Ctx := { CT with ords := [(6, [0, 1, 2, 3, 4, 5])], owns := [35] }

theorem e46 (h : Head) : EC PP 46 [hav h] fun r => ∃ n, r = i64 n ∧ n = rightF h := by
  refine ec_rule (CT_okc (C := C46) rfl rfl) (f := 46) (fn := Go.Proofs.Try.f46) (by kernel_rfl) rfl (by kernel_rfl) (i64 (rightF h)) ⟨_, rfl, rfl⟩ _ rfl ?_
  conv => whnf
  split <;> rename_i q
  · have q : ¬ h.tag = 255 := by simpa using q
    conv => whnf
    split <;> rename_i q1
    · have q1 := of_decide_eq_true q1
      conv => whnf
      simp only [rightF, if_neg q, if_pos q1, and_self]
    · have q1 := of_decide_eq_false q1
      conv => whnf
      split <;> rename_i q2
      · have q2 := of_decide_eq_true q2
        conv => whnf
        simp only [rightF, if_neg q, if_neg q1, if_pos q2, and_self]
      · have q2 := of_decide_eq_false q2
        conv => whnf
        split <;> rename_i q3
        · have q3 := of_decide_eq_true q3
          conv => whnf
          simp only [rightF, if_neg q, if_neg q1, if_neg q2, if_pos q3, and_self]
        · have q3 := of_decide_eq_false q3
          conv => whnf
          refine ⟨by kernel_rfl, ?_⟩
          conv => whnf
          refine (c56 h _).mono ?_
          rintro _ _ ⟨⟨m, rfl, hm1, hm2⟩, rfl⟩
          refine ⟨⟨[], rfl⟩, ?_⟩
          conv => whnf
          have hm := hm2 (by simpa using q)
          subst hm
          split <;> rename_i q4
          · have q4 := of_decide_eq_true q4
            conv => whnf
            simp only [rightF, if_neg q, if_neg q1, if_neg q2, if_neg q3, if_pos q4, and_self]
          · have q4 := of_decide_eq_false q4
            conv => whnf
            split <;> rename_i q5
            · exact absurd (by simpa using q5) q
            · conv => whnf
              split <;> rename_i q6
              · conv => whnf
                split <;> rename_i q7
                · conv => whnf
                  have q7 : shr h.map h.len ≠ 0 := (bne_iff_ne (a := shr h.map h.len) (b := 0)).1 q7
                  simp only [rightF, if_neg q, if_neg q1, if_neg q2, if_neg q3, if_neg q4, if_pos q7, and_self]
                · conv => whnf
                  have q7 : ¬ shr h.map h.len ≠ 0 := fun hn => Bool.noConfusion (((bne_iff_ne (a := shr h.map h.len) (b := 0)).2 hn).symm.trans q7)
                  simp only [rightF, if_neg q, if_neg q1, if_neg q2, if_neg q3, if_neg q4, if_neg q7, and_self]
              · exact absurd (of_decide_eq_false q6) (by omega)
  · have q : h.tag = 255 := by simpa using q
    conv => whnf
    split <;> rename_i q3
    · have q3 := of_decide_eq_true q3
      conv => whnf
      simp only [rightF, if_pos q, if_pos q3, and_self]
    · have q3 := of_decide_eq_false q3
      conv => whnf
      refine ⟨by kernel_rfl, ?_⟩
      conv => whnf
      refine (c56 h _).mono ?_
      rintro _ _ ⟨⟨m, rfl, hm1, hm2⟩, rfl⟩
      refine ⟨⟨[], rfl⟩, ?_⟩
      conv => whnf
      have hm := hm1 (by simpa using q)
      subst hm
      split <;> rename_i q4
      · have q4 := of_decide_eq_true q4
        conv => whnf
        simp only [rightF, if_pos q, if_neg q3, if_pos q4, and_self]
      · have q4 := of_decide_eq_false q4
        conv => whnf
        split <;> rename_i q5
        · conv => whnf
          split <;> rename_i q7
          · conv => whnf
            have q7 : shr h.map 0 ≠ 0 := (bne_iff_ne (a := shr h.map 0) (b := 0)).1 q7
            simp only [rightF, if_pos q, if_neg q3, if_neg q4, if_pos q7, and_self]
          · conv => whnf
            have q7 : ¬ shr h.map 0 ≠ 0 := fun hn => Bool.noConfusion (((bne_iff_ne (a := shr h.map 0) (b := 0)).2 hn).symm.trans q7)
            simp only [rightF, if_pos q, if_neg q3, if_neg q4, if_neg q7, and_self]
        · exact absurd q (by simpa using q5)

theorem e69 (w : Int) : EC PP 69 [u64 w] fun r => ∃ h e, r = .tup [hav h, i64 e] ∧ (h, e) = takeF w := by
  refine ec_rule CT_ok (f := 69) (fn := Go.Proofs.Try.f69) (by kernel_rfl) rfl (by kernel_rfl) (.tup [hav (takeF w).1, i64 (takeF w).2]) ⟨_, _, rfl, rfl⟩ _ rfl ?_
  conv => whnf
  refine EC.real (e46 (takeH w)) rfl ?_
  rintro _ ⟨n, rfl, hn⟩
  conv => whnf
  split <;> rename_i q
  · have q : n ≠ 0 := by simpa using q
    conv => whnf
    simp only [takeF, if_pos (hn ▸ q), and_self]
  · have q : ¬ n ≠ 0 := by simpa using q
    conv => whnf
    refine ⟨?_, rfl⟩
    simp only [takeF, if_neg (hn ▸ q)]
    rfl

theorem e77 (h : Head) : EC PP 77 [hav h] fun r => ∃ v e, r = .tup [u64 v, i64 e] ∧ (v, e) = wordF h := by
  refine ec_rule CT_ok (f := 77) (fn := Go.Proofs.Try.f77) (by kernel_rfl) rfl (by kernel_rfl) (.tup [u64 (wordF h).1, i64 (wordF h).2]) ⟨_, _, rfl, rfl⟩ _ rfl ?_
  conv => whnf
  refine EC.real (e46 h) rfl ?_
  rintro _ ⟨n, rfl, hn⟩
  conv => whnf
  split <;> rename_i q
  · have q : n ≠ 0 := by simpa using q
    conv => whnf
    simp only [wordF, if_pos (hn ▸ q), hn, and_self]
  · have q : ¬ n ≠ 0 := by simpa using q
    conv => whnf
    refine ⟨?_, rfl⟩
    simp only [wordF, if_neg (hn ▸ q)]
    rfl

theorem e86 (h : Head) (i : Int) : EC PP 86 [hav h, i64 i] fun r => ∃ p, r = .bool p ∧ p = ptrF h i := by
  refine ec_rule CT_ok (f := 86) (fn := Go.Proofs.Try.f86) (by kernel_rfl) rfl (by kernel_rfl) (.bool (ptrF h i)) ⟨_, rfl, rfl⟩ _ rfl ?_
  conv => whnf
  split <;> rename_i q1
  · conv => whnf
    split <;> rename_i q2
    · conv => whnf
      split <;> rename_i q3
      · conv => whnf
        split <;> rename_i q4
        · conv => whnf
          refine ⟨?_, rfl⟩
          simp only [ptrF, q1, q2, q3, Bool.true_and]
          rfl
        · exact absurd (of_decide_eq_false q4) (not_not_intro (of_decide_eq_true q1))
      · conv => whnf
        simp only [ptrF, q1, q2, q3, Bool.true_and, Bool.false_and, and_self]
    · conv => whnf
      simp only [ptrF, q1, q2, Bool.true_and, Bool.false_and, and_self]
  · conv => whnf
    simp only [ptrF, q1, Bool.false_and, and_self]
end Av
end
section
set_option linter.unusedSimpArgs false
set_option linter.unusedVariables false
namespace Av
open Go
set_option maxRecDepth 100000

def thR (m : Mm) (a n : Int) : AV := if ThP m a n then .tup [i64 (whS a), i64 (whA a), .bool true] else .tup [i64 0, i64 0, .bool false]

theorem e82 (m : Mm) (a n : Int) : EC PP 82 [m.av, u64 a, i64 n] fun r => (∃ s t, r = .tup [i64 s, i64 t, .bool true] ∧ ThP m a n ∧ s = whS a ∧ t = whA a) ∨ (r = .tup [i64 0, i64 0, .bool false] ∧ ¬ ThP m a n) := by
  refine ec_rule CT_ok (f := 82) (fn := Go.Proofs.Try.f82) (by kernel_rfl) rfl (by kernel_rfl) (thR m a n) ?_ _ rfl ?_
  · unfold thR
    split
    · rename_i h
      exact .inl ⟨_, _, rfl, h, rfl, rfl⟩
    · rename_i h
      exact .inr ⟨rfl, h⟩
  · conv => whnf
    refine EC.real (e83 a) rfl ?_
    rintro _ (⟨s, t, rfl, hs, ht, h1, h2⟩ | ⟨rfl, h1⟩)
    · conv => whnf
      split <;> rename_i q
      · have q := of_decide_eq_true q
        conv => whnf
        refine ⟨?_, rfl⟩
        rw [thR, if_neg (fun h => by have := h.2.1; omega)]
      · have q := of_decide_eq_false q
        conv => whnf
        refine EC.real (e84 _ _ _) rfl ?_
        rintro _ (⟨rfl, h3⟩ | ⟨rfl, h3⟩)
        · conv => whnf
          refine ⟨?_, rfl⟩
          rw [thR, if_pos ⟨⟨by omega, by omega⟩, by omega, ht ▸ h3⟩, hs, ht]
        · conv => whnf
          refine ⟨?_, rfl⟩
          rw [thR, if_neg (fun h => h3 (ht ▸ h.2.2))]
    · conv => whnf
      refine ⟨?_, rfl⟩
      rw [thR, if_neg (fun h => h1 h.1)]

theorem e92 (l : List Int) (hl : l.length * 8 ≤ 2 ^ 47) : EC PP 92 [su l] fun r => r = su l := by
  refine ec_rule CT_ok (f := 92) (fn := Go.Proofs.Try.f92) (by kernel_rfl) rfl (by kernel_rfl) (su l) rfl _ rfl ?_
  conv => whnf
  refine ⟨fun h => ?_, ?_⟩
  · subst h
    conv => whnf
    exact ⟨rfl, rfl⟩
  · conv => whnf
    refine ⟨by show (0 + l.length) * 8 ≤ 2 ^ 47; omega, ?_⟩
    conv => whnf
    exact ⟨rfl, rfl⟩

noncomputable def C92 : Ctx := { CT with located := [7] }

abbrev zmem : List AV := [i64 0, .sl .u64 [] .clip, .sl .u64 [] .clip]

theorem c92 (l : List Int) (hl : l.length * 8 ≤ 2 ^ 47) (hne : l ≠ []) (m : Mm) : RealCall PP 92 [su l] [.box m.cs, .box zmem, .box m.cs] fun r H => r = .osl 3 0 l.length 1 ∧ H = [.box m.cs, .box zmem, .box m.cs, .arr .u64 l false] := by
  refine rc_rule (CT_okc (C := C92) rfl rfl) (f := 92) (fn := Go.Proofs.Try.f92) (by kernel_rfl) rfl (by kernel_rfl) 4 (show 3 ≤ 4 by decide) _ rfl ?_
  conv => whnf
  refine ⟨fun h => absurd h hne, ?_⟩
  conv => whnf
  refine ⟨by show (0 + l.length) * 8 ≤ 2 ^ 47; omega, ?_⟩
  conv => whnf
  exact ⟨rfl, rfl⟩

theorem set_take (l : List Int) (k : Nat) (v : Int) (h : k < l.length) : l.take k ++ [v].take (l.length - k) ++ l.drop (k + min ([v] : List Int).length (l.length - k)) = l.set k v := by
  have h1 : [v].take (l.length - k) = [v] := List.take_of_length_le (by simp; omega)
  have h2 : min ([v] : List Int).length (l.length - k) = 1 := by simp; omega
  rw [h1, h2, List.set_eq_take_append_cons_drop, if_pos h]
  simp

theorem set_take2 (l : List Int) (t v : Int) (h : 0 ≤ t ∧ t < l.length) : List.take (0 + t.toNat) l ++ List.take ((l.length : Int).toNat - t.toNat) [v] ++ List.drop (0 + t.toNat + min ([v] : List Int).length ((l.length : Int).toNat - t.toNat)) l = l.set t.toNat v := by
  have := set_take l t.toNat v (by omega)
  simpa using this

theorem set_take3 (l : List Int) (t v : Int) (h : 0 ≤ t ∧ t < l.length) : 0 + l.length ≤ (List.take (0 + t.toNat) l ++ List.take ((l.length : Int).toNat - t.toNat) [v] ++ List.drop (0 + t.toNat + min ([v] : List Int).length ((l.length : Int).toNat - t.toNat)) l).length := by
  rw [set_take2 l t v h]; simp

theorem set_take4 (l : List Int) (t v : Int) (h : 0 ≤ t ∧ t < l.length) : List.take l.length (List.drop 0 (List.take (0 + t.toNat) l ++ List.take ((l.length : Int).toNat - t.toNat) [v] ++ List.drop (0 + t.toNat + min ([v] : List Int).length ((l.length : Int).toNat - t.toNat)) l)) = l.set t.toNat v := by
  rw [set_take2 l t v h, List.drop_zero, List.take_of_length_le (by simp)]

theorem e90 (m : Mm) (hm : m.Ok) (s t v : Int) (hs : 0 ≤ s ∧ s ≤ 1) (ht : 0 ≤ t ∧ t < m.w) : EC PP 90 [m.av, i64 s, i64 t, su [v]] fun r => r = (m.with s ((m.sp s).set t.toNat v)).av := by
  have hmw := hm.hi
  obtain rfl | rfl : s = 0 ∨ s = 1 := by omega
  · refine ec_rule CT_ok (f := 90) (fn := Go.Proofs.Try.f90) (by kernel_rfl) rfl (by kernel_rfl) _ rfl _ rfl ?_
    have ha := hm.a
    have hne : m.a ≠ [] := fun e => by rw [e] at ha; simp at ha; omega
    conv => whnf
    refine ⟨by decide, ?_⟩
    conv => whnf
    refine (c92 m.a (by omega) hne m).mono ?_
    rintro _ _ ⟨rfl, rfl⟩
    conv => whnf
    refine ⟨by decide, ?_⟩
    conv => whnf
    refine ⟨by decide, ?_⟩
    conv => whnf
    refine ⟨by show 0 ≤ t ∧ t ≤ (m.a.length : Int) ∧ (m.a.length : Int) ≤ m.a.length; omega, ?_⟩
    conv => whnf
    refine ⟨by show 0 + t.toNat + ((m.a.length : Int).toNat - t.toNat) ≤ m.a.length; omega, ?_⟩
    conv => whnf
    refine ⟨set_take3 m.a t v (by omega), ?_⟩
    conv => whnf
    refine ⟨?_, rfl⟩
    have e := set_take4 m.a t v (by omega)
    show AV.agg [i64 m.w, su (List.take m.a.length (List.drop 0 (List.take (0 + t.toNat) m.a ++ List.take ((m.a.length : Int).toNat - t.toNat) [v] ++ List.drop (0 + t.toNat + min ([v] : List Int).length ((m.a.length : Int).toNat - t.toNat)) m.a))), su m.b] = _
    rw [e]
    rfl
  · refine ec_rule CT_ok (f := 90) (fn := Go.Proofs.Try.f90) (by kernel_rfl) rfl (by kernel_rfl) _ rfl _ rfl ?_
    have ha := hm.b
    have hne : m.b ≠ [] := fun e => by rw [e] at ha; simp at ha; omega
    conv => whnf
    refine ⟨by decide, ?_⟩
    conv => whnf
    refine (c92 m.b (by omega) hne m).mono ?_
    rintro _ _ ⟨rfl, rfl⟩
    conv => whnf
    refine ⟨by decide, ?_⟩
    conv => whnf
    refine ⟨by decide, ?_⟩
    conv => whnf
    refine ⟨by show 0 ≤ t ∧ t ≤ (m.b.length : Int) ∧ (m.b.length : Int) ≤ m.b.length; omega, ?_⟩
    conv => whnf
    refine ⟨by show 0 + t.toNat + ((m.b.length : Int).toNat - t.toNat) ≤ m.b.length; omega, ?_⟩
    conv => whnf
    refine ⟨set_take3 m.b t v (by omega), ?_⟩
    conv => whnf
    refine ⟨?_, rfl⟩
    have e := set_take4 m.b t v (by omega)
    show AV.agg [i64 m.w, su m.a, su (List.take m.b.length (List.drop 0 (List.take (0 + t.toNat) m.b ++ List.take ((m.b.length : Int).toNat - t.toNat) [v] ++ List.drop (0 + t.toNat + min ([v] : List Int).length ((m.b.length : Int).toNat - t.toNat)) m.b)))] = _
    rw [e]
    rfl

theorem e67 (m : Mm) (hm : m.Ok) (a : Int) : EC PP 67 [m.av, u64 a] fun r => (∃ v, r = .tup [u64 v, i64 0] ∧ ThP m a 1 ∧ v = loadV m a) ∨ (r = .tup [u64 0, i64 2] ∧ ¬ ThP m a 1) := by
  refine ec_rule CT_ok (f := 67) (fn := Go.Proofs.Try.f67) (by kernel_rfl) rfl (by kernel_rfl) (loadF m a) ?_ _ rfl ?_
  · unfold loadF
    split
    · rename_i h
      exact .inl ⟨_, rfl, h, rfl⟩
    · rename_i h
      exact .inr ⟨rfl, h⟩
  · conv => whnf
    refine EC.real (e82 m a 1) rfl ?_
    rintro _ (⟨s, t, rfl, hp, hs, ht⟩ | ⟨rfl, hp⟩)
    · conv => whnf
      have h1 := hp.1
      have h2 := hp.2.1
      have h3 := hp.2.2.1
      have hv : loadF m a = .tup [u64 (loadV m a), i64 0] := by rw [loadF, if_pos hp]
      have hv2 : loadV m a = (m.sp s).getD t.toNat 0 := by rw [loadV, ← hs, ← ht]
      have hl := hm.sp s
      rw [← hs] at h1
      rw [← ht] at h2 h3
      have hlt : t.toNat < (m.sp s).length := by omega
      obtain rfl | rfl : s = 0 ∨ s = 1 := by omega
      · refine ⟨by decide, ?_⟩
        conv => whnf
        refine ⟨_, ⟨h3, List.getElem?_eq_getElem hlt⟩, ?_⟩
        conv => whnf
        refine ⟨?_, rfl⟩
        rw [hv, hv2, List.getD_eq_getElem?_getD, List.getElem?_eq_getElem hlt]
        rfl
      · refine ⟨by decide, ?_⟩
        conv => whnf
        refine ⟨_, ⟨h3, List.getElem?_eq_getElem hlt⟩, ?_⟩
        conv => whnf
        refine ⟨?_, rfl⟩
        rw [hv, hv2, List.getD_eq_getElem?_getD, List.getElem?_eq_getElem hlt]
        rfl
    · conv => whnf
      refine ⟨?_, rfl⟩
      rw [loadF, if_neg hp]

theorem e75 (m : Mm) (hm : m.Ok) (a v : Int) : EC PP 75 [m.av, u64 a, u64 v] fun r => (∃ m' : Mm, r = .tup [m'.av, i64 0] ∧ ThP m a 1 ∧ m' = storeM m a v) ∨ (r = .tup [m.av, i64 2] ∧ ¬ ThP m a 1) := by
  refine ec_rule CT_ok (f := 75) (fn := Go.Proofs.Try.f75) (by kernel_rfl) rfl (by kernel_rfl) (storeF m a v) ?_ _ rfl ?_
  · unfold storeF
    split
    · rename_i h
      exact .inl ⟨_, rfl, h, rfl⟩
    · rename_i h
      exact .inr ⟨rfl, h⟩
  · conv => whnf
    refine EC.real (e82 m a 1) rfl ?_
    rintro _ (⟨s, t, rfl, hp, hs, ht⟩ | ⟨rfl, hp⟩)
    · conv => whnf
      have h1 := hp.1
      have h2 := hp.2.1
      have h3 := hp.2.2.1
      have hv : storeF m a v = .tup [(storeM m a v).av, i64 0] := by rw [storeF, if_pos hp]
      have hv2 : storeM m a v = m.with s ((m.sp s).set t.toNat v) := by rw [storeM, ← hs, ← ht]
      rw [← hs] at h1
      rw [← ht] at h2 h3
      refine EC.real (e90 m hm s t v h1 ⟨h3, h2⟩) rfl ?_
      rintro _ rfl
      conv => whnf
      refine ⟨?_, rfl⟩
      rw [hv, hv2]
    · conv => whnf
      refine ⟨?_, rfl⟩
      rw [storeF, if_neg hp]

theorem e71 (m : Mm) (a n : Int) : EC PP 71 [m.av, u64 a, i64 n] fun r => (r = .bool true ∧ ThP m a n) ∨ (r = .bool false ∧ ¬ ThP m a n) := by
  refine ec_rule CT_ok (f := 71) (fn := Go.Proofs.Try.f71) (by kernel_rfl) rfl (by kernel_rfl) (.bool (decide (ThP m a n))) ?_ _ rfl ?_
  · by_cases q : ThP m a n
    · exact .inl ⟨by simp only [q, decide_true], q⟩
    · exact .inr ⟨by simp only [q, decide_false], q⟩
  · conv => whnf
    refine EC.real (e83 a) rfl ?_
    rintro _ (⟨s, t, rfl, hs, ht, h1, h2⟩ | ⟨rfl, h1⟩)
    · conv => whnf
      split <;> rename_i q
      · have q := of_decide_eq_true q
        conv => whnf
        refine EC.real (e84 _ _ _) rfl ?_
        rintro _ (⟨rfl, h3⟩ | ⟨rfl, h3⟩)
        · conv => whnf
          refine ⟨congrArg AV.bool ?_, rfl⟩
          exact (decide_eq_true ⟨⟨by omega, by omega⟩, by omega, ht ▸ h3⟩).symm
        · conv => whnf
          refine ⟨congrArg AV.bool ?_, rfl⟩
          exact (decide_eq_false (fun h => h3 (ht ▸ h.2.2))).symm
      · have q := of_decide_eq_false q
        conv => whnf
        refine ⟨congrArg AV.bool ?_, rfl⟩
        exact (decide_eq_false (fun h => by have := h.2.1; omega)).symm
    · conv => whnf
      refine ⟨congrArg AV.bool ?_, rfl⟩
      exact (decide_eq_false (fun h => h1 h.1)).symm
end Av
end
