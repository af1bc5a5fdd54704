/- The walk: buf. The walk: handles, logs, rows. Own work. -/
import Derived.Test.YtikjkclmninbmaaK25
section
set_option linter.unusedSimpArgs false
set_option linter.unusedVariables false
namespace Av
open Go
set_option maxRecDepth 100000

theorem e60 (x : Rm) (hx : x.Ok) : EC PP 60 [x.av] fun r => ∃ n, r = i64 n ∧ n = x.e - x.t := by
  refine ec_rule CT_ok (f := 60) (fn := Go.Proofs.Try.f60) (by kernel_rfl) rfl (by kernel_rfl) (i64 (x.e - x.t)) ⟨_, rfl, rfl⟩ _ rfl ?_
  conv => whnf
  refine ⟨?_, rfl⟩
  have := wi_id (n := x.e - x.t) (by have := hx.t; have := hx.b.hi; have := hx.b.top; omega)
  exact congrArg i64 this

noncomputable def C64 : Ctx := { CT with ords := [(2, [0, 1, 2, 3, 4, 5, 6, 7, 8, 9, 10, 11, 12, 13, 14, 15, 16])] }

theorem e64 (x : Rm) (hx : x.Ok) : EC PP 64 [x.av] fun r => ∃ y : Rm, r = y.av ∧ y = retF x := by
  refine ec_rule (CT_okc (C := C64) rfl rfl) (f := 64) (fn := Go.Proofs.Try.f64) (by kernel_rfl) rfl (by kernel_rfl) (retF x).av ⟨_, rfl, rfl⟩ _ rfl ?_
  conv => whnf
  refine EC.real (e60 x hx) rfl ?_
  rintro _ ⟨n, rfl, hn⟩
  conv => whnf
  split <;> rename_i q
  · have q := of_decide_eq_true q
    conv => whnf
    refine ⟨by kernel_rfl, ?_⟩
    conv => whnf
    refine EC.draw (e61 x.b.s x.t) ?_
    rintro _ ⟨a, rfl, ha⟩
    conv => whnf
    refine EC.draw (e60 x hx) ?_
    rintro _ ⟨n', rfl, hn'⟩
    conv => whnf
    refine EC.draw (e81 x.m hx.m a n') ?_
    rintro _ ⟨m', e, rfl, hf⟩
    have hf1 : m' = (fillF x.m a n').1 := congrArg Prod.fst hf
    conv => whnf
    refine ⟨?_, rfl⟩
    rw [retF, if_pos (hn ▸ q), ← ha, ← hn', ← hf1]
  · have q := of_decide_eq_false q
    conv => whnf
    refine ⟨?_, rfl⟩
    rw [retF, if_neg (hn ▸ q)]

abbrev zroom : List AV := [i64 0, .sl .u64 [] .clip, .sl .u64 [] .clip, i64 0, i64 0, i64 0, i64 0, i64 0]
abbrev hcs (h : Head) : List AV := [i64 h.tag, i64 h.len, u64 h.map]

theorem c58a (x : Rm) (hx : x.m.Ok) (h : Head) (a : Int) : RealCall PP 58 [u64 a, .ptr 0 0 0 0, .ptr 1 0 0 0] [.box x.cs, .box (hcs h), .box zroom] fun r H => ∃ y : Rm, r = .tup [y.av, u64 a, i64 0] ∧ H = [.box y.cs, .box (hcs h), .box zroom] ∧ y = putR x a h := by
  refine rc_rule CT_ok (f := 58) (fn := Go.Proofs.Try.f58) (by kernel_rfl) rfl (by kernel_rfl) 3 (Nat.le_refl _) _ rfl ?_
  conv => whnf
  refine EC.real (e59 x.m hx a h) rfl ?_
  rintro _ ⟨m', e, rfl, hf⟩
  have hf1 : m' = (putF x.m a h).1 := congrArg Prod.fst hf
  conv => whnf
  refine ⟨{ x with m := m' }, rfl, rfl, ?_⟩
  rw [hf1]; rfl

theorem c58b (x : Rm) (hx : x.m.Ok) (h : Head) (a : Int) (b : Bp) : RealCall PP 58 [u64 a, .ptr 0 0 0 0, .ptr 1 0 0 0] [.box x.cs, .box (hcs h), .box zroom, .box b.cs] fun r H => ∃ y : Rm, r = .tup [y.av, u64 a, i64 0] ∧ H = [.box y.cs, .box (hcs h), .box zroom, .box b.cs] ∧ y = putR x a h := by
  refine rc_rule CT_ok (f := 58) (fn := Go.Proofs.Try.f58) (by kernel_rfl) rfl (by kernel_rfl) 4 (Nat.le_refl _) _ rfl ?_
  conv => whnf
  refine EC.real (e59 x.m hx a h) rfl ?_
  rintro _ ⟨m', e, rfl, hf⟩
  have hf1 : m' = (putF x.m a h).1 := congrArg Prod.fst hf
  conv => whnf
  refine ⟨{ x with m := m' }, rfl, rfl, ?_⟩
  rw [hf1]; rfl

theorem e47 (x : Rm) (hx : x.Ok) (h : Head) (most : Int) (hm : 0 ≤ most ∧ most ≤ 4096) : EC PP 47 [x.av, hav h, i64 most] fun r => ∃ (y : Rm) (a e : Int), r = .tup [y.av, u64 a, i64 e] ∧ (y, a, e) = makeF x h most := by
  refine ec_rule CT_ok (f := 47) (fn := Go.Proofs.Try.f47) (by kernel_rfl) rfl (by kernel_rfl) (.tup [(makeF x h most).1.av, u64 (makeF x h most).2.1, i64 (makeF x h most).2.2]) ⟨_, _, _, rfl, rfl⟩ _ rfl ?_
  conv => whnf
  refine scope_passes CT_ok 0 1 rfl ?_
  conv => whnf
  refine EC.real (e46 h) rfl ?_
  rintro _ ⟨n0, rfl, hn0⟩
  conv => whnf
  split <;> rename_i q1
  · have q1 : rightF h ≠ 0 := by rw [← hn0]; simpa using q1
    conv => whnf
    refine ⟨?_, rfl⟩
    rw [makeF, if_pos q1]
  · have q1 : ¬ rightF h ≠ 0 := by rw [← hn0]; simpa using q1
    conv => whnf
    split <;> rename_i q2
    · have q2 : h.tag = 255 := by simpa using q2
      conv => whnf
      refine ⟨?_, rfl⟩
      rw [makeF, if_neg q1, if_pos q2]
    · have q2 : ¬ h.tag = 255 := by simpa using q2
      have hw := rightF_words (Classical.not_not.1 q1) q2
      have hb1 := hx.b.lo
      have hb2 := hx.b.hi
      have hb3 := hx.b.top
      have ht := hx.t
      conv => whnf
      refine EC.real (e57 h) rfl ?_
      rintro _ ⟨n, rfl, hn⟩
      rw [← hn] at hw
      conv => whnf
      refine EC.real (e60 x hx) rfl ?_
      rintro _ ⟨g, rfl, hg⟩
      conv => whnf
      split <;> rename_i q3
      · have q3 := of_decide_eq_true q3
        conv => whnf
        refine EC.real (e61 _ _) rfl ?_
        rintro _ ⟨a, rfl, ha⟩
        conv => whnf
        have e1 : wi (x.t + n) = x.t + n := wi_id (by omega)
        refine (c58a { x with t := wi (x.t + n) } hx.m h a).mono ?_
        rintro _ _ ⟨y, rfl, rfl, hy⟩
        conv => whnf
        refine ⟨?_, rfl⟩
        rw [makeF, if_neg q1, if_neg q2, if_pos (by omega), ← ha, ← hn, ← e1, ← hy]
      · have q3 := of_decide_eq_false q3
        conv => whnf
        have e2 : wi (2 * n) = 2 * n := wi_id (by omega)
        split <;> rename_i q4
        · have q4 : 2 * n > most := by
            have := of_decide_eq_true q4
            rw [← e2]; exact this
          conv => whnf
          refine EC.real (e62 x.b hx.b n (by omega)) rfl ?_
          rintro _ ⟨a, ha, ⟨rfl, h1⟩ | ⟨rfl, h1⟩⟩
          · conv => whnf
            refine (c58b { x with b := { x.b with at' := x.b.at' + n } } hx.m h a _).mono ?_
            rintro _ _ ⟨y, rfl, rfl, hy⟩
            conv => whnf
            refine ⟨?_, rfl⟩
            rw [makeF, if_neg q1, if_neg q2, if_neg (by omega), if_pos (by omega), if_pos (by omega), ← ha, ← hn, ← hy]
          · conv => whnf
            split <;> rename_i q5
            · have q5 : 2 * n ≤ most := by
                have := of_decide_eq_true q5
                rw [← e2]; exact this
              omega
            · conv => whnf
              refine ⟨?_, rfl⟩
              rw [makeF, if_neg q1, if_neg q2, if_neg (by omega), if_pos (by omega), if_neg (by omega)]
        · have q4 : ¬ 2 * n > most := by
            have := of_decide_eq_false q4
            rw [← e2]; exact this
          conv => whnf
          refine EC.real (e63 x.b hx.b) rfl ?_
          rintro _ ⟨l, rfl, hl⟩
          conv => whnf
          split <;> rename_i q5
          · have q5 := of_decide_eq_true q5
            conv => whnf
            split <;> rename_i q6
            · conv => whnf
              refine EC.real (e64 x hx) rfl ?_
              rintro _ ⟨y, rfl, hy⟩
              conv => whnf
              refine ⟨?_, rfl⟩
              rw [makeF, if_neg q1, if_neg q2, if_neg (by omega), if_neg (by omega), if_pos (by omega), ← hy]
            · have q6 : ¬ 2 * n ≤ most := by
                have := of_decide_eq_false q6
                rw [← e2]; exact this
              omega
          · have q5 := of_decide_eq_false q5
            conv => whnf
            refine EC.real (e64 x hx) rfl ?_
            rintro _ ⟨y, rfl, hy⟩
            have hyo := retF_ok hx
            have hyb : y.b = x.b := by rw [hy]; unfold retF; split <;> rfl
            rw [← hy] at hyo
            conv => whnf
            refine EC.real (e65 y.b (hyb ▸ hx.b) most (by omega) (by rw [hyb]; omega)) rfl ?_
            rintro _ ⟨a, k, rfl, hk⟩
            rw [hyb] at hk
            have hk2 : n ≤ k ∧ k ≤ x.b.lim - x.b.at' := by rw [hk, mostK]; split <;> omega
            have e3 : wi (y.b.at' + k) = x.b.at' + k := by rw [hyb]; exact wi_id (by omega)
            conv => whnf
            refine ⟨rfl, ?_⟩
            conv => whnf
            have hya : y.b.at' = x.b.at' := by rw [hyb]
            have hys : y.b.s = x.b.s := by rw [hyb]
            have hyl : y.b.lim = x.b.lim := by rw [hyb]
            have hyk := hyo.b
            have hyt := hyo.l
            have hz : Rm.Ok ⟨y.m, ⟨y.b.s, y.b.at' + k, y.b.lim⟩, y.b.at', wi (y.b.at' + k)⟩ :=
              ⟨hyo.m, ⟨hyk.s, by show 0 ≤ y.b.at' + k; omega, by show y.b.at' + k ≤ y.b.lim; omega, hyk.top⟩, hyt, by show 0 ≤ y.b.at' ∧ y.b.at' ≤ wi (y.b.at' + k) ∧ wi (y.b.at' + k) ≤ y.b.at' + k; omega⟩
            refine EC.real (e60 _ hz) rfl ?_
            rintro _ ⟨g2, rfl, hg2⟩
            have hg3 : g2 = k := by rw [hg2]; show wi (y.b.at' + k) - y.b.at' = k; omega
            conv => whnf
            split <;> rename_i q6
            · conv => whnf
              refine EC.real (e61 _ _) rfl ?_
              rintro _ ⟨a2, rfl, ha2⟩
              conv => whnf
              refine (c58b ⟨y.m, ⟨y.b.s, y.b.at' + k, y.b.lim⟩, wi (y.b.at' + n), wi (y.b.at' + k)⟩ hyo.m h a2 ⟨y.b.s, y.b.at' + k, y.b.lim⟩).mono ?_
              rintro _ _ ⟨z, rfl, rfl, hzz⟩
              conv => whnf
              refine ⟨?_, rfl⟩
              have e4 : wi (y.b.at' + n) = x.b.at' + n := by rw [hya]; exact wi_id (by omega)
              rw [makeF, if_neg q1, if_neg q2, if_neg (by omega), if_neg (by omega), if_neg (by omega), ← hn]
              have e5 : z = putR { pieceF x most with t := x.b.at' + n } (addrF x.b.s x.b.at') h := by
                rw [hzz, e3, e4, ha2, hys, hya, hyl]
                unfold putR pieceF
                rw [← hy, hk]
              rw [← e5, ha2, hys, hya]
            · exact absurd (of_decide_eq_false q6) (by omega)
end Av
end
section
set_option linter.unusedSimpArgs false
set_option linter.unusedVariables false
namespace Av
open Go
set_option maxRecDepth 100000

theorem whole {α : Type} (l : List α) : List.drop (Int.toNat 0) (List.take (l.length : Int).toNat l) = l := by simp

theorem setwhole {α : Type} (l : List α) (k : Nat) (x : α) : List.take l.length (List.drop 0 (l.set (0 + k) x)) = l.set k x := by
  rw [Nat.zero_add, List.drop_zero, List.take_of_length_le (by simp)]

theorem e54 (l : List Int) (i : Int) : EC PP 54 [su l, i64 i] fun r => ∃ a e, r = .tup [u64 a, i64 e] ∧ (a, e) = getS l i := by
  refine ec_rule CT_ok (f := 54) (fn := Go.Proofs.Try.f54) (by kernel_rfl) rfl (by kernel_rfl) (.tup [u64 (getS l i).1, i64 (getS l i).2]) ⟨_, _, rfl, rfl⟩ _ rfl ?_
  conv => whnf
  split <;> rename_i q1
  · have q1 := of_decide_eq_true q1
    conv => whnf
    refine ⟨?_, rfl⟩
    rw [getS, if_pos q1]
  · have q1 := of_decide_eq_false q1
    conv => whnf
    split <;> rename_i q2
    · have q2 : i ≥ (l.length : Int) := of_decide_eq_true q2
      conv => whnf
      refine ⟨?_, rfl⟩
      rw [getS, if_neg q1, if_pos q2]
    · have q2 : ¬ i ≥ (l.length : Int) := of_decide_eq_false q2
      have hlt : i.toNat < l.length := by omega
      conv => whnf
      refine ⟨_, ⟨by omega, List.getElem?_eq_getElem hlt⟩, ?_⟩
      conv => whnf
      refine ⟨?_, rfl⟩
      rw [getS, if_neg q1, if_neg q2, List.getD_eq_getElem?_getD, List.getElem?_eq_getElem hlt]
      rfl

theorem e48 (l : List Int) (i : Int) : EC PP 48 [su l, i64 i] fun r => ∃ a e, r = .tup [u64 a, i64 e] ∧ (a, e) = realS l i := by
  refine ec_rule CT_ok (f := 48) (fn := Go.Proofs.Try.f48) (by kernel_rfl) rfl (by kernel_rfl) (.tup [u64 (realS l i).1, i64 (realS l i).2]) ⟨_, _, rfl, rfl⟩ _ rfl ?_
  conv => whnf
  refine EC.real (e54 l i) rfl ?_
  rintro _ ⟨a, e, rfl, hk⟩
  have hk1 : a = (getS l i).1 := congrArg Prod.fst hk
  have hk2 : e = (getS l i).2 := congrArg Prod.snd hk
  conv => whnf
  split <;> rename_i q
  · have q : e = 0 := by simpa using q
    conv => whnf
    split <;> rename_i q2
    · have q2 : a = 0 := by simpa using q2
      conv => whnf
      refine ⟨?_, rfl⟩
      rw [realS, if_pos ⟨hk2 ▸ q, hk1 ▸ q2⟩, q2]
    · have q2 : ¬ a = 0 := by simpa using q2
      conv => whnf
      refine ⟨?_, rfl⟩
      rw [realS, if_neg (fun hh => q2 (hk1 ▸ hh.2)), ← hk]
  · have q : ¬ e = 0 := by simpa using q
    conv => whnf
    refine ⟨?_, rfl⟩
    rw [realS, if_neg (fun hh => q (hk2 ▸ hh.1)), ← hk]

theorem e51 (l : List Int) (a : Int) (hl : (l.length + 1) * 8 ≤ 2 ^ 47) : EC PP 51 [su l, u64 a] fun r => ∃ l' e, r = .tup [su l', i64 e] ∧ (l', e) = pushS l a := by
  refine ec_rule CT_ok (f := 51) (fn := Go.Proofs.Try.f51) (by kernel_rfl) rfl (by kernel_rfl) (.tup [su (pushS l a).1, i64 (pushS l a).2]) ⟨_, _, rfl, rfl⟩ _ rfl ?_
  conv => whnf
  split <;> rename_i q1
  · have q1 : (l.length : Int) ≥ 16 := of_decide_eq_true q1
    conv => whnf
    refine ⟨?_, rfl⟩
    rw [pushS, if_pos q1]
  · have q1 : ¬ (l.length : Int) ≥ 16 := of_decide_eq_false q1
    conv => whnf
    refine ⟨by show 0 ≤ 0 ∧ 0 ≤ (l.length : Int) ∧ (l.length : Int) ≤ l.length; omega, ?_⟩
    conv => whnf
    refine ⟨rfl, ?_⟩
    conv => whnf
    refine ⟨by show ((List.drop (Int.toNat 0) (List.take (l.length : Int).toNat l)).length + 1) * 8 ≤ 2 ^ 47; rw [whole]; exact hl, ?_⟩
    conv => whnf
    refine ⟨?_, rfl⟩
    show AV.tup [su (List.drop (Int.toNat 0) (List.take (l.length : Int).toNat l) ++ [a]), i64 0] = _
    rw [whole, pushS, if_neg q1]

theorem e39 (l : List Int) (hl : (l.length + 1) * 8 ≤ 2 ^ 47) : EC PP 39 [su l] fun r => ∃ l' e, r = .tup [su l', i64 e] ∧ (l', e) = popS l := by
  refine ec_rule CT_ok (f := 39) (fn := Go.Proofs.Try.f39) (by kernel_rfl) rfl (by kernel_rfl) (.tup [su (popS l).1, i64 (popS l).2]) ⟨_, _, rfl, rfl⟩ _ rfl ?_
  have e : wi ((l.length : Int) - 1) = (l.length : Int) - 1 := wi_id (by omega)
  conv => whnf
  split <;> rename_i q1
  · have q1 : wi ((l.length : Int) - 1) < 0 := of_decide_eq_true q1
    have q : l = [] := List.eq_nil_of_length_eq_zero (by omega)
    conv => whnf
    refine ⟨?_, rfl⟩
    rw [popS, if_pos q]
  · have q1 : ¬ wi ((l.length : Int) - 1) < 0 := of_decide_eq_false q1
    have q : ¬ l = [] := fun h => by subst h; simp at e q1; omega
    conv => whnf
    refine ⟨by show 0 ≤ 0 ∧ 0 ≤ wi ((l.length : Int) - 1) ∧ wi ((l.length : Int) - 1) ≤ l.length; omega, ?_⟩
    conv => whnf
    refine ⟨rfl, ?_⟩
    conv => whnf
    refine ⟨?_, rfl⟩
    show AV.tup [su (List.drop (Int.toNat 0) (List.take (wi ((l.length : Int) - 1)).toNat l)), i64 0] = _
    rw [popS, if_neg q, e, show ((l.length : Int) - 1).toNat = l.length - 1 by omega]
    simp

theorem e16 (l : List Entry) (x : Entry) (hl : (l.length + 1) * 16 ≤ 2 ^ 47) : EC PP 16 [.sl .entry l .none, .agg (ecs x)] fun r => r = .sl .entry (l ++ [x]) .none := by
  refine ec_rule (CT_okc (C := C16) rfl rfl) (f := 16) (fn := Go.Proofs.Try.f16) (by kernel_rfl) rfl (by kernel_rfl) _ rfl _ rfl ?_
  conv => whnf
  refine ⟨by kernel_rfl, ?_⟩
  conv => whnf
  refine ⟨by show 0 ≤ 0 ∧ 0 ≤ (l.length : Int) ∧ (l.length : Int) ≤ l.length; omega, ?_⟩
  conv => whnf
  refine ⟨rfl, ?_⟩
  conv => whnf
  refine ⟨by show ((List.drop (Int.toNat 0) (List.take (l.length : Int).toNat l)).length + 1) * 16 ≤ 2 ^ 47; rw [whole]; exact hl, ?_⟩
  conv => whnf
  refine ⟨?_, rfl⟩
  show AV.sl .entry (List.drop (Int.toNat 0) (List.take (l.length : Int).toNat l) ++ [x]) .none = _
  rw [whole]

theorem e41 (l : List Answer) (x : Answer) (hl : (l.length + 1) * 24 ≤ 2 ^ 47) : EC PP 41 [.sl .ans l .none, .agg (acs x)] fun r => r = .sl .ans (l ++ [x]) .none := by
  refine ec_rule (CT_okc (C := C41) rfl rfl) (f := 41) (fn := Go.Proofs.Try.f41) (by kernel_rfl) rfl (by kernel_rfl) _ rfl _ rfl ?_
  conv => whnf
  refine ⟨by kernel_rfl, ?_⟩
  conv => whnf
  refine ⟨by show 0 ≤ 0 ∧ 0 ≤ (l.length : Int) ∧ (l.length : Int) ≤ l.length; omega, ?_⟩
  conv => whnf
  refine ⟨rfl, ?_⟩
  conv => whnf
  refine ⟨by show ((List.drop (Int.toNat 0) (List.take (l.length : Int).toNat l)).length + 1) * 24 ≤ 2 ^ 47; rw [whole]; exact hl, ?_⟩
  conv => whnf
  refine ⟨?_, rfl⟩
  show AV.sl .ans (List.drop (Int.toNat 0) (List.take (l.length : Int).toNat l) ++ [x]) .none = _
  rw [whole]

theorem e42 (l : List Int) (x : Int) (hl : (l.length + 1) * 8 ≤ 2 ^ 47) : EC PP 42 [.sl .int l .none, i64 x] fun r => r = .sl .int (l ++ [x]) .none := by
  refine ec_rule CT_ok (f := 42) (fn := Go.Proofs.Try.f42) (by kernel_rfl) rfl (by kernel_rfl) _ rfl _ rfl ?_
  conv => whnf
  refine ⟨by show 0 ≤ 0 ∧ 0 ≤ (l.length : Int) ∧ (l.length : Int) ≤ l.length; omega, ?_⟩
  conv => whnf
  refine ⟨rfl, ?_⟩
  conv => whnf
  refine ⟨by show ((List.drop (Int.toNat 0) (List.take (l.length : Int).toNat l)).length + 1) * 8 ≤ 2 ^ 47; rw [whole]; exact hl, ?_⟩
  conv => whnf
  refine ⟨?_, rfl⟩
  show AV.sl .int (List.drop (Int.toNat 0) (List.take (l.length : Int).toNat l) ++ [x]) .none = _
  rw [whole]

theorem e15 (l : List Entry) (x : Entry) (hl : (l.length + 1) * 16 ≤ 2 ^ 47) : EC PP 15 [.sl .entry l .none, .agg (ecs x), i64 64] fun r => ∃ l' e, r = .tup [.sl .entry l' .none, i64 e] ∧ (l', e) = logF l x := by
  refine ec_rule (CT_okc (C := C15) rfl rfl) (f := 15) (fn := Go.Proofs.Try.f15) (by kernel_rfl) rfl (by kernel_rfl) (.tup [.sl .entry (logF l x).1 .none, i64 (logF l x).2]) ⟨_, _, rfl, rfl⟩ _ rfl ?_
  conv => whnf
  split <;> rename_i q1
  · have q1 : (l.length : Int) ≥ 64 := of_decide_eq_true q1
    conv => whnf
    refine ⟨?_, rfl⟩
    rw [logF, if_pos q1]
  · have q1 : ¬ (l.length : Int) ≥ 64 := of_decide_eq_false q1
    conv => whnf
    refine ⟨by kernel_rfl, ?_⟩
    conv => whnf
    refine ⟨by show 0 ≤ 0 ∧ 0 ≤ (l.length : Int) ∧ (l.length : Int) ≤ l.length; omega, ?_⟩
    conv => whnf
    refine ⟨rfl, ?_⟩
    conv => whnf
    refine ⟨by show ((List.drop (Int.toNat 0) (List.take (l.length : Int).toNat l)).length + 1) * 16 ≤ 2 ^ 47; rw [whole]; exact hl, ?_⟩
    conv => whnf
    refine ⟨?_, rfl⟩
    show AV.tup [.sl .entry (List.drop (Int.toNat 0) (List.take (l.length : Int).toNat l) ++ [x]) .none, i64 0] = _
    rw [whole, logF, if_neg q1]

noncomputable def C26 : Ctx := { CT with located := [7] }

theorem c26 (l : List Thread) (hl : l.length * 144 ≤ 2 ^ 47) (hne : l ≠ []) (t : Thread) : RealCall PP 26 [.sl .thread l .none] [.box (tcs t)] fun r H => r = .osl 1 0 l.length 8 ∧ H = [.box (tcs t), .arr .thread l false] := by
  refine rc_rule (CT_okc (C := C26) rfl rfl) (f := 26) (fn := Go.Proofs.Try.f26) (by kernel_rfl) rfl (by kernel_rfl) 2 (show 1 ≤ 2 by decide) _ rfl ?_
  conv => whnf
  refine ⟨fun h => absurd h hne, ?_⟩
  conv => whnf
  refine ⟨by show (0 + l.length) * 144 ≤ 2 ^ 47; omega, ?_⟩
  conv => whnf
  exact ⟨rfl, rfl⟩

theorem e17 (l : List Thread) (hl : l.length * 144 ≤ 2 ^ 47) (i : Int) (hi : 0 ≤ i ∧ i < l.length) (t : Thread) : EC PP 17 [.sl .thread l .none, i64 i, .agg (tcs t)] fun r => r = .sl .thread (l.set i.toNat t) .none := by
  refine ec_rule CT_ok (f := 17) (fn := Go.Proofs.Try.f17) (by kernel_rfl) rfl (by kernel_rfl) _ rfl _ rfl ?_
  have hne : l ≠ [] := fun e => by rw [e] at hi; simp at hi; omega
  have hlt : i.toNat < l.length := by omega
  conv => whnf
  refine (c26 l hl hne t).mono ?_
  rintro _ _ ⟨rfl, rfl⟩
  conv => whnf
  refine ⟨hi, ?_⟩
  conv => whnf
  refine ⟨_, (List.getElem?_eq_getElem (by omega) : l[0 + i.toNat]? = some _), ?_⟩
  conv => whnf
  refine ⟨by show 0 + l.length ≤ (l.set (0 + i.toNat) _).length; simp, ?_⟩
  conv => whnf
  refine ⟨?_, rfl⟩
  exact congrArg (fun z : List Thread => AV.sl .thread z .none) (setwhole l i.toNat t)

theorem e13 (o : OpD) : EC PP 13 [.agg (ocs o)] fun r => (r = .bool true ∧ writesF o.kind = true) ∨ (r = .bool false ∧ writesF o.kind = false) := by
  refine ec_rule CT_ok (f := 13) (fn := Go.Proofs.Try.f13) (by kernel_rfl) rfl (by kernel_rfl) (.bool (writesF o.kind)) ?_ _ rfl ?_
  · cases h : writesF o.kind
    · exact .inr ⟨rfl, rfl⟩
    · exact .inl ⟨rfl, rfl⟩
  · conv => whnf
    split <;> rename_i q1
    · conv => whnf
      refine ⟨congrArg AV.bool ?_, rfl⟩
      rw [writesF, q1]; rfl
    · conv => whnf
      split <;> rename_i q2
      · conv => whnf
        refine ⟨congrArg AV.bool ?_, rfl⟩
        rw [writesF, q1, q2]; rfl
      · conv => whnf
        split <;> rename_i q3
        · conv => whnf
          refine ⟨congrArg AV.bool ?_, rfl⟩
          rw [writesF, q1, q2, q3]; rfl
        · conv => whnf
          refine ⟨congrArg AV.bool ?_, rfl⟩
          rw [writesF, q1, q2, q3]; rfl
end Av
end
