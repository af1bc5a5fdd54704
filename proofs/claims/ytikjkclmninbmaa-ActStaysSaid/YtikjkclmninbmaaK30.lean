/- The abstract machine: loops whose rounds make objects. The walk: references. Printed in part by a program of mine. Own work. -/
import Derived.Test.YtikjkclmninbmaaK21
import Derived.Test.YtikjkclmninbmaaK29
section
set_option linter.unusedSimpArgs false
set_option linter.unusedVariables false
namespace Av
open Go

/-- A loop with what holds ahead of each round; what a round makes goes out of sight. -/
theorem loop_trim {C : Ctx} (hT : CtxOk C) {b : Code} {Q : Out → St → Prop} {s : List AV} {H : List AObj} (bs : List Bool) (I : Nat → List AV → List AObj → Prop) (k0 n : Nat) (hn : H.length = n) (h0 : I k0 (keep bs s) H)
    (round : ∀ k s H, I k s H → awpR C b (roundQ (fun s' => trims1K n s'.heap (keep bs s'.tmps) fun s2 => trimHK n s'.heap n s'.heap fun H2 => ∃ m, m < k ∧ I m s2 H2) Q) s H) : RealCode C.P (.loop b) Q ⟨s, H⟩ where
  run G a w hs := by
    let R : Nat → Act → World → Prop := fun k a1 w1 => ∃ s1 G1, I k s1.tmps s1.heap ∧ SimS G1 s1 a1 w1 ∧ Ext G H w G1 s1.heap w1
    refine wpIn_loop (fun a1 w1 => ∃ k, R k a1 w1) (fun a1 w1 => least fun k => R k a1 w1) ⟨k0, ⟨keep bs s, H⟩, G, h0, ⟨hs.sim, hs.tmps.keep bs, hs.defers⟩, Ext.refl _ _ _⟩ fun a1 w1 hR => ?_
    obtain ⟨⟨s1, G1, hi, hs1, he1⟩, hmin⟩ := least_spec hR
    generalize least (fun k => R k a1 w1) = k at hi hmin
    refine wpIn_mono ((awpR_sound hT b (round k s1.tmps s1.heap hi)).run G1 a1 w1 hs1) ?_
    rintro e a2 w2 ⟨o, s2, G2, rfl, hq, hs2, he2⟩
    cases o with
    | normal =>
      have hq : trims1K n s2.heap (keep bs s2.tmps) fun s3 => trimHK n s2.heap n s2.heap fun H3 => ∃ m, m < k ∧ I m s3 H3 := hq
      obtain ⟨s3, hq, _, hr3⟩ := trims1_arr hs2.sim (hs2.tmps.keep bs) hq
      obtain ⟨H3, ⟨m, hm, hi3⟩, hl3, hsim3, he3⟩ := hs2.sim.trim (he1.trans he2) (Nat.le_of_eq hn) hq
      have hR2 : R m a2 w2 := ⟨⟨s3, H3⟩, _, hi3, ⟨hsim3, by show Reps _ H3.length w2 a2.tmps s3; rw [hl3]; exact hr3, hs2.defers⟩, he3⟩
      refine ⟨⟨_, hR2⟩, ?_⟩
      have := (least_spec (p := fun k => R k a2 w2) ⟨_, hR2⟩).2 _ hR2
      exact Nat.lt_of_le_of_lt this hm
    | exit i => exact ⟨.exit i, s2, G2, rfl, hq, hs2, he1.trans he2⟩
    | goto l => exact ⟨.goto l, s2, G2, rfl, hq, hs2, he1.trans he2⟩
    | ret => exact ⟨.ret, s2, G2, rfl, hq, hs2, he1.trans he2⟩

end Av
end
section
set_option linter.unusedSimpArgs false
set_option linter.unusedVariables false
namespace Av
open Go
set_option maxRecDepth 100000

theorem e23 (l : List Int) (hl : l.length ≤ 2 ^ 62) : EC PP 23 [.sl .int l .none, .sl .int l .none] fun r => r = .bool true := by
  refine ec_rule (CT_okc (C := C23) rfl rfl) (f := 23) (fn := Go.Proofs.Try.f23) (by kernel_rfl) rfl (by kernel_rfl) _ rfl _ rfl ?_
  conv => whnf
  split <;> rename_i q
  · exact absurd rfl ((bne_iff_ne (α := Int)).1 q)
  · conv => whnf
    refine loop_keep (CT_okc (C := C23) rfl rfl) (marks [0, 1, 4, 5] 0 26) (fun k s H => ∃ i : Int, s = joined [.sl .int l .none, .sl .int l .none, .junk, .junk, .bool false, i64 i] (junks 20) ∧ H = [] ∧ 0 ≤ i ∧ i ≤ l.length ∧ k = l.length - i.toNat) l.length ⟨0, rfl, rfl, by omega, by omega, by simp⟩ ?_
    rintro k s H ⟨i, rfl, rfl, h1, h2, hk⟩
    conv => whnf
    split <;> rename_i q2
    · have q2 : i < (l.length : Int) := of_decide_eq_true q2
      have hlt : i.toNat < l.length := by omega
      conv => whnf
      refine ⟨by kernel_rfl, ?_⟩
      conv => whnf
      refine ⟨_, ⟨h1, List.getElem?_eq_getElem hlt⟩, ?_⟩
      conv => whnf
      refine ⟨_, ⟨h1, List.getElem?_eq_getElem hlt⟩, ?_⟩
      conv => whnf
      split <;> rename_i q3
      · exact absurd rfl ((bne_iff_ne (α := Int)).1 q3)
      · conv => whnf
        refine ⟨l.length - (i + 1).toNat, by omega, wi (i + 1), rfl, rfl, ?_, ?_, ?_⟩
        · rw [wi_id (by omega)]; omega
        · rw [wi_id (by omega)]; omega
        · rw [wi_id (by omega)]
    · conv => whnf
      exact ⟨rfl, rfl⟩

theorem e25 (l : List Int) (hl : l.length ≤ 2 ^ 62) : EC PP 25 [.sl .u64 l .none, .sl .u64 l .none] fun r => r = .bool true := by
  refine ec_rule (CT_okc (C := C25) rfl rfl) (f := 25) (fn := Go.Proofs.Try.f25) (by kernel_rfl) rfl (by kernel_rfl) _ rfl _ rfl ?_
  conv => whnf
  split <;> rename_i q
  · exact absurd rfl ((bne_iff_ne (α := Int)).1 q)
  · conv => whnf
    refine loop_keep (CT_okc (C := C25) rfl rfl) (marks [0, 1, 4, 5] 0 26) (fun k s H => ∃ i : Int, s = joined [.sl .u64 l .none, .sl .u64 l .none, .junk, .junk, .bool false, i64 i] (junks 20) ∧ H = [] ∧ 0 ≤ i ∧ i ≤ l.length ∧ k = l.length - i.toNat) l.length ⟨0, rfl, rfl, by omega, by omega, by simp⟩ ?_
    rintro k s H ⟨i, rfl, rfl, h1, h2, hk⟩
    conv => whnf
    split <;> rename_i q2
    · have q2 : i < (l.length : Int) := of_decide_eq_true q2
      have hlt : i.toNat < l.length := by omega
      conv => whnf
      refine ⟨by kernel_rfl, ?_⟩
      conv => whnf
      refine ⟨_, ⟨h1, List.getElem?_eq_getElem hlt⟩, ?_⟩
      conv => whnf
      refine ⟨_, ⟨h1, List.getElem?_eq_getElem hlt⟩, ?_⟩
      conv => whnf
      split <;> rename_i q3
      · exact absurd rfl ((bne_iff_ne (α := Int)).1 q3)
      · conv => whnf
        refine ⟨l.length - (i + 1).toNat, by omega, wi (i + 1), rfl, rfl, ?_, ?_, ?_⟩
        · rw [wi_id (by omega)]; omega
        · rw [wi_id (by omega)]; omega
        · rw [wi_id (by omega)]
    · conv => whnf
      exact ⟨rfl, rfl⟩

theorem e43 (l : List Entry) (hl : l.length ≤ 2 ^ 62) : EC PP 43 [.sl .entry l .none, .sl .entry l .none] fun r => r = .bool true := by
  refine ec_rule (CT_okc (C := C43) rfl rfl) (f := 43) (fn := Go.Proofs.Try.f43) (by kernel_rfl) rfl (by kernel_rfl) _ rfl _ rfl ?_
  conv => whnf
  split <;> rename_i q
  · exact absurd rfl ((bne_iff_ne (α := Int)).1 q)
  · conv => whnf
    refine loop_keep (CT_okc (C := C43) rfl rfl) (marks [0, 1, 4, 5] 0 26) (fun k s H => ∃ i : Int, s = joined [.sl .entry l .none, .sl .entry l .none, .junk, .junk, .bool false, i64 i] (junks 20) ∧ H = [] ∧ 0 ≤ i ∧ i ≤ l.length ∧ k = l.length - i.toNat) l.length ⟨0, rfl, rfl, by omega, by omega, by simp⟩ ?_
    rintro k s H ⟨i, rfl, rfl, h1, h2, hk⟩
    conv => whnf
    split <;> rename_i q2
    · have q2 : i < (l.length : Int) := of_decide_eq_true q2
      have hlt : i.toNat < l.length := by omega
      conv => whnf
      refine ⟨by kernel_rfl, ?_⟩
      conv => whnf
      refine ⟨_, ⟨h1, List.getElem?_eq_getElem hlt⟩, ?_⟩
      conv => whnf
      refine ⟨_, ⟨h1, List.getElem?_eq_getElem hlt⟩, ?_⟩
      conv => whnf
      split <;> rename_i q3
      · exact by simp at q3
      · conv => whnf
        refine ⟨l.length - (i + 1).toNat, by omega, wi (i + 1), rfl, rfl, ?_, ?_, ?_⟩
        · rw [wi_id (by omega)]; omega
        · rw [wi_id (by omega)]; omega
        · rw [wi_id (by omega)]
    · conv => whnf
      exact ⟨rfl, rfl⟩

theorem e44 (l : List OpD) (hl : l.length ≤ 2 ^ 62) : EC PP 44 [.sl .op l .none, .sl .op l .none] fun r => r = .bool true := by
  refine ec_rule (CT_okc (C := C44) rfl rfl) (f := 44) (fn := Go.Proofs.Try.f44) (by kernel_rfl) rfl (by kernel_rfl) _ rfl _ rfl ?_
  conv => whnf
  split <;> rename_i q
  · exact absurd rfl ((bne_iff_ne (α := Int)).1 q)
  · conv => whnf
    refine loop_keep (CT_okc (C := C44) rfl rfl) (marks [0, 1, 4, 5] 0 26) (fun k s H => ∃ i : Int, s = joined [.sl .op l .none, .sl .op l .none, .junk, .junk, .bool false, i64 i] (junks 20) ∧ H = [] ∧ 0 ≤ i ∧ i ≤ l.length ∧ k = l.length - i.toNat) l.length ⟨0, rfl, rfl, by omega, by omega, by simp⟩ ?_
    rintro k s H ⟨i, rfl, rfl, h1, h2, hk⟩
    conv => whnf
    split <;> rename_i q2
    · have q2 : i < (l.length : Int) := of_decide_eq_true q2
      have hlt : i.toNat < l.length := by omega
      conv => whnf
      refine ⟨by kernel_rfl, ?_⟩
      conv => whnf
      refine ⟨_, ⟨h1, List.getElem?_eq_getElem hlt⟩, ?_⟩
      conv => whnf
      refine ⟨_, ⟨h1, List.getElem?_eq_getElem hlt⟩, ?_⟩
      conv => whnf
      split <;> rename_i q3
      · exact by simp at q3
      · conv => whnf
        refine ⟨l.length - (i + 1).toNat, by omega, wi (i + 1), rfl, rfl, ?_, ?_, ?_⟩
        · rw [wi_id (by omega)]; omega
        · rw [wi_id (by omega)]; omega
        · rw [wi_id (by omega)]
    · conv => whnf
      exact ⟨rfl, rfl⟩

theorem e45 (l : List Answer) (hl : l.length ≤ 2 ^ 62) : EC PP 45 [.sl .ans l .none, .sl .ans l .none] fun r => r = .bool true := by
  refine ec_rule (CT_okc (C := C45) rfl rfl) (f := 45) (fn := Go.Proofs.Try.f45) (by kernel_rfl) rfl (by kernel_rfl) _ rfl _ rfl ?_
  conv => whnf
  split <;> rename_i q
  · exact absurd rfl ((bne_iff_ne (α := Int)).1 q)
  · conv => whnf
    refine loop_keep (CT_okc (C := C45) rfl rfl) (marks [0, 1, 4, 5] 0 26) (fun k s H => ∃ i : Int, s = joined [.sl .ans l .none, .sl .ans l .none, .junk, .junk, .bool false, i64 i] (junks 20) ∧ H = [] ∧ 0 ≤ i ∧ i ≤ l.length ∧ k = l.length - i.toNat) l.length ⟨0, rfl, rfl, by omega, by omega, by simp⟩ ?_
    rintro k s H ⟨i, rfl, rfl, h1, h2, hk⟩
    conv => whnf
    split <;> rename_i q2
    · have q2 : i < (l.length : Int) := of_decide_eq_true q2
      have hlt : i.toNat < l.length := by omega
      conv => whnf
      refine ⟨by kernel_rfl, ?_⟩
      conv => whnf
      refine ⟨_, ⟨h1, List.getElem?_eq_getElem hlt⟩, ?_⟩
      conv => whnf
      refine ⟨_, ⟨h1, List.getElem?_eq_getElem hlt⟩, ?_⟩
      conv => whnf
      split <;> rename_i q3
      · exact by simp at q3
      · conv => whnf
        refine ⟨l.length - (i + 1).toNat, by omega, wi (i + 1), rfl, rfl, ?_, ?_, ?_⟩
        · rw [wi_id (by omega)]; omega
        · rw [wi_id (by omega)]; omega
        · rw [wi_id (by omega)]
    · conv => whnf
      exact ⟨rfl, rfl⟩

structure LenH (h : Hp) : Prop where
  a : h.m.a.length ≤ 2 ^ 62
  b : h.m.b.length ≤ 2 ^ 62

theorem e14 (m : Mm) (h1 : m.a.length ≤ 2 ^ 62) (h2 : m.b.length ≤ 2 ^ 62) : EC PP 14 [m.av, m.av] fun r => r = .bool true := by
  refine ec_rule CT_ok (f := 14) (fn := Go.Proofs.Try.f14) (by kernel_rfl) rfl (by kernel_rfl) _ rfl _ rfl ?_
  conv => whnf
  refine ⟨by decide, ?_⟩
  conv => whnf
  refine ⟨by decide, ?_⟩
  conv => whnf
  refine EC.real (e25 m.a h1) rfl ?_
  rintro _ rfl
  conv => whnf
  refine ⟨by decide, ?_⟩
  conv => whnf
  refine ⟨by decide, ?_⟩
  conv => whnf
  refine EC.real (e25 m.b h2) rfl ?_
  rintro _ rfl
  conv => whnf
  refine ⟨congrArg AV.bool ?_, rfl⟩
  exact beq_self_eq_true _

theorem e24 (t : Thread) (hs : SmallT t) (hp : t.pend.length ≤ 2 ^ 62) : EC PP 24 [.agg (tcs t), .agg (tcs t)] fun r => r = .bool true := by
  have h1 := hs.stack
  have h2 := hs.log
  have h3 := hs.left
  have h4 := hs.done
  refine ec_rule CT_ok (f := 24) (fn := Go.Proofs.Try.f24) (by kernel_rfl) rfl (by kernel_rfl) _ rfl _ rfl ?_
  conv => whnf
  refine EC.real (e25 t.stack (by omega)) rfl ?_
  rintro _ rfl
  conv => whnf
  refine EC.real (e43 t.log (by omega)) rfl ?_
  rintro _ rfl
  conv => whnf
  refine EC.real (e43 t.pend hp) rfl ?_
  rintro _ rfl
  conv => whnf
  refine EC.real (e44 t.left (by omega)) rfl ?_
  rintro _ rfl
  conv => whnf
  refine EC.real (e45 t.done (by omega)) rfl ?_
  rintro _ rfl
  conv => whnf
  split <;> rename_i q
  · conv => whnf
    refine ⟨congrArg AV.bool ?_, rfl⟩
    exact beq_self_eq_true _
  · simp at q

theorem e22 (b : Bp) : EC PP 22 [b.av] fun r => (r = .bool true ∧ b.Ok) ∨ (r = .bool false ∧ ¬ b.Ok) := by
  refine ec_rule CT_ok (f := 22) (fn := Go.Proofs.Try.f22) (by kernel_rfl) rfl (by kernel_rfl) (.bool (decide b.Ok)) ?_ _ rfl ?_
  · by_cases q : b.Ok
    · exact .inl ⟨by simp only [q, decide_true], q⟩
    · exact .inr ⟨by simp only [q, decide_false], q⟩
  · have no : ∀ {p : Bool}, p = false → ¬ b.Ok → AV.bool p = .bool (decide b.Ok) := fun h1 h2 => by rw [h1, decide_eq_false h2]
    conv => whnf
    split <;> rename_i q1
    · have q1 := of_decide_eq_true q1
      conv => whnf
      split <;> rename_i q2
      · have q2 := of_decide_eq_true q2
        conv => whnf
        split <;> rename_i q3
        · have q3 := of_decide_eq_true q3
          conv => whnf
          split <;> rename_i q4
          · have q4 := of_decide_eq_true q4
            conv => whnf
            refine ⟨congrArg AV.bool ?_, rfl⟩
            rw [decide_eq_decide]
            exact ⟨fun h => ⟨⟨q1, q2⟩, q3, q4, h⟩, fun h => h.top⟩
          · have q4 := of_decide_eq_false q4
            conv => whnf
            exact ⟨no rfl (fun h => q4 h.hi), rfl⟩
        · have q3 := of_decide_eq_false q3
          conv => whnf
          exact ⟨no rfl (fun h => q3 h.lo), rfl⟩
      · have q2 := of_decide_eq_false q2
        conv => whnf
        exact ⟨no rfl (fun h => q2 h.s.2), rfl⟩
    · have q1 := of_decide_eq_false q1
      conv => whnf
      exact ⟨no rfl (fun h => q1 h.s.1), rfl⟩

structure Mm.Right (m : Mm) : Prop where
  lo : m.w ≥ 16
  hi : m.w ≤ 4096
  a : (m.a.length : Int) = m.w
  b : (m.b.length : Int) = m.w
instance (m : Mm) : Decidable m.Right := decidable_of_iff (m.w ≥ 16 ∧ m.w ≤ 4096 ∧ (m.a.length : Int) = m.w ∧ (m.b.length : Int) = m.w) ⟨fun ⟨a, b, c, d⟩ => ⟨a, b, c, d⟩, fun h => ⟨h.lo, h.hi, h.a, h.b⟩⟩
theorem Mm.Right.ok {m : Mm} (h : m.Right) : m.Ok := ⟨by have := h.lo; omega, h.hi, h.a, h.b⟩

theorem e21 (m : Mm) : EC PP 21 [m.av] fun r => (r = .bool true ∧ m.Right) ∨ (r = .bool false ∧ ¬ m.Right) := by
  refine ec_rule CT_ok (f := 21) (fn := Go.Proofs.Try.f21) (by kernel_rfl) rfl (by kernel_rfl) (.bool (decide m.Right)) ?_ _ rfl ?_
  · by_cases q : m.Right
    · exact .inl ⟨by simp only [q, decide_true], q⟩
    · exact .inr ⟨by simp only [q, decide_false], q⟩
  · have no : ∀ {p : Bool}, p = false → ¬ m.Right → AV.bool p = .bool (decide m.Right) := fun h1 h2 => by rw [h1, decide_eq_false h2]
    conv => whnf
    split <;> rename_i q1
    · have q1 := of_decide_eq_true q1
      conv => whnf
      split <;> rename_i q2
      · have q2 := of_decide_eq_true q2
        conv => whnf
        refine ⟨by decide, ?_⟩
        conv => whnf
        split <;> rename_i q3
        · have q3 : (m.a.length : Int) = m.w := eq_of_beq (α := Int) q3
          conv => whnf
          refine ⟨by decide, ?_⟩
          conv => whnf
          refine ⟨congrArg AV.bool ?_, rfl⟩
          by_cases q4 : (m.b.length : Int) = m.w
          · rw [decide_eq_true (⟨q1, q2, q3, q4⟩ : m.Right)]
            exact beq_iff_eq.2 q4
          · rw [decide_eq_false (fun h : m.Right => q4 h.b)]
            exact beq_eq_false_iff_ne.2 q4
        · have q3 : ¬ (m.a.length : Int) = m.w := (beq_eq_false_iff_ne (α := Int)).1 q3
          conv => whnf
          exact ⟨no rfl (fun h => q3 h.a), rfl⟩
      · have q2 := of_decide_eq_false q2
        conv => whnf
        exact ⟨no rfl (fun h => q2 h.hi), rfl⟩
    · have q1 := of_decide_eq_false q1
      conv => whnf
      exact ⟨no rfl (fun h => q1 h.lo), rfl⟩
end Av
end
