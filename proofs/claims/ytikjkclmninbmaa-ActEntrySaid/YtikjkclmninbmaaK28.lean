/- The walk: what kinds of operations do. What a thread's step comes to: plain definitions and what they keep. Own work. -/
import Derived.Test.YtikjkclmninbmaaK27
section
set_option linter.unusedSimpArgs false
set_option linter.unusedVariables false
namespace Av
open Go
set_option maxRecDepth 100000

theorem fieldW_same (w : Wk) (p : Bool) : (fieldW w p).2.2.2.h = w.h ∧ (fieldW w p).2.2.2.t = w.t ∧ (fieldW w p).2.2.2.o = w.o ∧ (fieldW w p).2.2.2.wt = w.wt := by
  unfold fieldW
  repeat' split
  all_goals exact ⟨rfl, rfl, rfl, rfl⟩

theorem c32 (h0 : Hp) (w : Wk) (hm : w.h.m.Ok) : RealCall PP 32 [.ptr 2 0 0 0] (H5 h0 w) fun r H => ∃ x w', H = H5 h0 w' ∧ w' = writeW x w := by
  refine rc_rule CT_ok (f := 32) (fn := Go.Proofs.Try.f32) (by kernel_rfl) rfl (by kernel_rfl) 5 (Nat.le_refl _) _ rfl ?_
  conv => whnf
  refine (c29 h0 w hm false).mono ?_
  rintro _ _ ⟨a, v, ok, w1, rfl, rfl, hf⟩
  have hf1 : a = (fieldW w false).1 := congrArg Prod.fst hf
  have hf3 : ok = (fieldW w false).2.2.1 := congrArg (fun x => x.2.2.1) hf
  have hf4 : w1 = (fieldW w false).2.2.2 := congrArg (fun x => x.2.2.2) hf
  obtain ⟨s1, s2, s3, s4⟩ := fieldW_same w false
  rw [← hf4] at s1 s2 s3 s4
  have hm1 : w1.h.m.Ok := s1 ▸ hm
  cases ok with
  | false =>
    conv => whnf
    refine ⟨0, w1, rfl, ?_⟩
    rw [writeW, ← hf3, ← hf4]; rfl
  | true =>
    conv => whnf
    split <;> rename_i q1
    · have q1 : w1.o.kind = 6 := by simpa using q1
      conv => whnf
      refine NC.real (n52 v w1.o.v) rfl ?_
      rintro _ ⟨x, rfl⟩
      conv => whnf
      refine (c35 h0 w1 hm1 a x).mono ?_
      rintro _ _ ⟨w', rfl, hw⟩
      conv => whnf
      refine ⟨x, w', rfl, ?_⟩
      rw [hw, writeW, ← hf3, ← hf4, ← hf1, if_pos rfl, ← s3, if_pos q1]
    · have q1 : ¬ w1.o.kind = 6 := by simpa using q1
      conv => whnf
      split <;> rename_i q2
      · have q2 : w1.o.kind = 7 := by simpa using q2
        conv => whnf
        refine NC.real (n53 v w1.o.v) rfl ?_
        rintro _ ⟨x, rfl⟩
        conv => whnf
        refine (c35 h0 w1 hm1 a x).mono ?_
        rintro _ _ ⟨w', rfl, hw⟩
        conv => whnf
        refine ⟨x, w', rfl, ?_⟩
        rw [hw, writeW, ← hf3, ← hf4, ← hf1, if_pos rfl, ← s3, if_neg q1, if_pos q2]
      · have q2 : ¬ w1.o.kind = 7 := by simpa using q2
        conv => whnf
        refine (c35 h0 w1 hm1 a w1.o.v).mono ?_
        rintro _ _ ⟨w', rfl, hw⟩
        conv => whnf
        refine ⟨0, w', rfl, ?_⟩
        rw [hw, writeW, ← hf3, ← hf4, ← hf1, if_pos rfl, ← s3, if_neg q1, if_neg q2]

theorem c28 (h0 : Hp) (w : Wk) (hm : w.h.m.Ok) : RealCall PP 28 [.ptr 3 0 0 0] (H5 h0 w) fun r H => ∃ w', H = H5 h0 w' ∧ w' = getW w := by
  refine rc_rule CT_ok (f := 28) (fn := Go.Proofs.Try.f28) (by kernel_rfl) rfl (by kernel_rfl) 5 (Nat.le_refl _) _ rfl ?_
  conv => whnf
  refine (c29 h0 w hm false).mono ?_
  rintro _ _ ⟨a, v, ok, w1, rfl, rfl, hf⟩
  have hf2 : v = (fieldW w false).2.1 := congrArg (fun x => x.2.1) hf
  have hf3 : ok = (fieldW w false).2.2.1 := congrArg (fun x => x.2.2.1) hf
  have hf4 : w1 = (fieldW w false).2.2.2 := congrArg (fun x => x.2.2.2) hf
  cases ok with
  | false =>
    conv => whnf
    refine ⟨w1, rfl, ?_⟩
    rw [getW, ← hf3, ← hf4]; rfl
  | true =>
    conv => whnf
    refine ⟨{ w1 with a := { w1.a with v := v } }, rfl, ?_⟩
    rw [getW, ← hf3, ← hf4, ← hf2, if_pos rfl]

theorem c30 (h0 : Hp) (w : Wk) (hm : w.h.m.Ok) (hl : (w.t.stack.length + 1) * 8 ≤ 2 ^ 47) : RealCall PP 30 [.ptr 3 0 0 0] (H5 h0 w) fun r H => ∃ w', H = H5 h0 w' ∧ w' = followW w := by
  refine rc_rule CT_ok (f := 30) (fn := Go.Proofs.Try.f30) (by kernel_rfl) rfl (by kernel_rfl) 5 (Nat.le_refl _) _ rfl ?_
  conv => whnf
  refine (c29 h0 w hm true).mono ?_
  rintro _ _ ⟨a, v, ok, w1, rfl, rfl, hf⟩
  have hf2 : v = (fieldW w true).2.1 := congrArg (fun x => x.2.1) hf
  have hf3 : ok = (fieldW w true).2.2.1 := congrArg (fun x => x.2.2.1) hf
  have hf4 : w1 = (fieldW w true).2.2.2 := congrArg (fun x => x.2.2.2) hf
  have s2 := (fieldW_same w true).2.1
  rw [← hf4] at s2
  cases ok with
  | false =>
    conv => whnf
    refine ⟨w1, rfl, ?_⟩
    rw [followW, ← hf3, ← hf4]; rfl
  | true =>
    conv => whnf
    refine (c31 h0 w1 (s2 ▸ hl) v).mono ?_
    rintro _ _ ⟨w', rfl, hw⟩
    conv => whnf
    refine ⟨w', rfl, ?_⟩
    rw [hw, followW, ← hf3, ← hf4, ← hf2, if_pos rfl]

noncomputable def C33 : Ctx := { CT with ords := [(2, [0, 1, 2, 3, 4, 5, 6, 7, 8, 9, 10, 11])], owns := [21], wild := [21] }

theorem c33 (h0 : Hp) (w : Wk) (hm : w.h.m.Ok) : RealCall PP 33 [.ptr 3 0 0 0] (H5 h0 w) fun r H => ∃ w', H = H5 h0 w' ∧ w' = linkW w := by
  refine rc_rule (CT_okc (C := C33) rfl rfl) (f := 33) (fn := Go.Proofs.Try.f33) (by kernel_rfl) rfl (by kernel_rfl) 5 (Nat.le_refl _) _ rfl ?_
  conv => whnf
  refine (c29 h0 w hm true).mono ?_
  rintro _ _ ⟨a, v, ok, w1, rfl, rfl, hf⟩
  have hf1 : a = (fieldW w true).1 := congrArg Prod.fst hf
  have hf3 : ok = (fieldW w true).2.2.1 := congrArg (fun x => x.2.2.1) hf
  have hf4 : w1 = (fieldW w true).2.2.2 := congrArg (fun x => x.2.2.2) hf
  obtain ⟨s1, s2, s3, s4⟩ := fieldW_same w true
  rw [← hf4] at s1 s2 s3 s4
  have hm1 : w1.h.m.Ok := s1 ▸ hm
  cases ok with
  | false =>
    conv => whnf
    refine ⟨w1, rfl, ?_⟩
    rw [linkW, ← hf3, ← hf4]; rfl
  | true =>
    conv => whnf
    refine ⟨by kernel_rfl, ?_⟩
    conv => whnf
    refine (c34 h0 w1 w1.o.k).mono ?_
    rintro _ _ ⟨b, p, w2, rfl, rfl, hh⟩
    rw [s3] at hh
    have hh1 : b = (handleW w1 w.o.k).1 := congrArg Prod.fst hh
    have hh2 : p = (handleW w1 w.o.k).2.1 := congrArg (fun x => x.2.1) hh
    have hh3 : w2 = (handleW w1 w.o.k).2.2 := congrArg (fun x => x.2.2) hh
    cases p with
    | false =>
      conv => whnf
      refine ⟨w2, rfl, ?_⟩
      rw [linkW, ← hf3, ← hf4, ← hh2, ← hh3]; rfl
    | true =>
      conv => whnf
      have hm2 : w2.h.m.Ok := by rw [hh3]; exact hm1
      refine (c35 h0 w2 hm2 a b).mono ?_
      rintro _ _ ⟨w', rfl, hw⟩
      conv => whnf
      refine ⟨w', rfl, ?_⟩
      rw [hw, linkW, ← hf3, ← hf4, ← hf1, ← hh1, ← hh2, ← hh3, if_pos rfl, if_pos rfl]

noncomputable def C36 : Ctx := { CT with ords := [(0, [0, 1, 2, 3, 4, 5, 6, 7, 8, 9, 10, 11]), (2, [0, 1, 2, 3, 4, 5, 6, 7, 8, 9, 10, 11])], owns := [12, 24], wild := [12, 24] }

theorem c36 (h0 : Hp) (w : Wk) : RealCall PP 36 [.ptr 3 0 0 0] (H5 h0 w) fun r H => ∃ w', H = H5 h0 w' ∧ w' = sameW w := by
  refine rc_rule (CT_okc (C := C36) rfl rfl) (f := 36) (fn := Go.Proofs.Try.f36) (by kernel_rfl) rfl (by kernel_rfl) 5 (Nat.le_refl _) _ rfl ?_
  conv => whnf
  refine ⟨by kernel_rfl, ?_⟩
  conv => whnf
  refine (c34 h0 w w.o.h).mono ?_
  rintro _ _ ⟨a, p, w1, rfl, rfl, hh⟩
  have hh1 : a = (handleW w w.o.h).1 := congrArg Prod.fst hh
  have hh2 : p = (handleW w w.o.h).2.1 := congrArg (fun x => x.2.1) hh
  have hh3 : w1 = (handleW w w.o.h).2.2 := congrArg (fun x => x.2.2) hh
  cases p with
  | false =>
    conv => whnf
    refine ⟨w1, rfl, ?_⟩
    rw [sameW, ← hh2, ← hh3]; rfl
  | true =>
    conv => whnf
    refine ⟨by kernel_rfl, ?_⟩
    conv => whnf
    refine (c34 h0 w1 w1.o.k).mono ?_
    rintro _ _ ⟨b, p, w2, rfl, rfl, hg⟩
    have e1 : w1.o = w.o := by rw [hh3]; rfl
    rw [e1] at hg
    have hg1 : b = (handleW w1 w.o.k).1 := congrArg Prod.fst hg
    have hg2 : p = (handleW w1 w.o.k).2.1 := congrArg (fun x => x.2.1) hg
    have hg3 : w2 = (handleW w1 w.o.k).2.2 := congrArg (fun x => x.2.2) hg
    cases p with
    | false =>
      conv => whnf
      refine ⟨w2, rfl, ?_⟩
      rw [sameW, ← hh2, ← hh3, ← hg2, ← hg3]; rfl
    | true =>
      conv => whnf
      refine ⟨{ w2 with a := { w2.a with yes := a == b } }, rfl, ?_⟩
      rw [sameW, ← hh2, ← hh3, ← hh1, ← hg2, ← hg3, ← hg1, if_pos rfl, if_pos rfl]

noncomputable def C37 : Ctx := { CT with ords := [(0, [0, 1, 2, 3, 4, 5, 6, 7, 8, 9, 10, 11])], owns := [10], wild := [10] }

theorem c37 (h0 : Hp) (w : Wk) (hl : (w.t.stack.length + 1) * 8 ≤ 2 ^ 47) : RealCall PP 37 [.ptr 3 0 0 0] (H5 h0 w) fun r H => ∃ w', H = H5 h0 w' ∧ w' = dupW w := by
  refine rc_rule (CT_okc (C := C37) rfl rfl) (f := 37) (fn := Go.Proofs.Try.f37) (by kernel_rfl) rfl (by kernel_rfl) 5 (Nat.le_refl _) _ rfl ?_
  conv => whnf
  refine ⟨by kernel_rfl, ?_⟩
  conv => whnf
  refine (c34 h0 w w.o.h).mono ?_
  rintro _ _ ⟨a, p, w1, rfl, rfl, hh⟩
  have hh1 : a = (handleW w w.o.h).1 := congrArg Prod.fst hh
  have hh2 : p = (handleW w w.o.h).2.1 := congrArg (fun x => x.2.1) hh
  have hh3 : w1 = (handleW w w.o.h).2.2 := congrArg (fun x => x.2.2) hh
  cases p with
  | false =>
    conv => whnf
    refine ⟨w1, rfl, ?_⟩
    rw [dupW, ← hh2, ← hh3]; rfl
  | true =>
    conv => whnf
    have e1 : w1.t = w.t := by rw [hh3]; rfl
    refine (c31 h0 w1 (e1 ▸ hl) a).mono ?_
    rintro _ _ ⟨w', rfl, hw⟩
    conv => whnf
    refine ⟨w', rfl, ?_⟩
    rw [hw, dupW, ← hh2, ← hh3, ← hh1, if_pos rfl]

theorem c38 (h0 : Hp) (w : Wk) (hl : (w.t.stack.length + 1) * 8 ≤ 2 ^ 47) : RealCall PP 38 [.ptr 3 0 0 0] (H5 h0 w) fun r H => ∃ w', H = H5 h0 w' ∧ w' = popW w := by
  refine rc_rule CT_ok (f := 38) (fn := Go.Proofs.Try.f38) (by kernel_rfl) rfl (by kernel_rfl) 5 (Nat.le_refl _) _ rfl ?_
  conv => whnf
  refine EC.real (e39 w.t.stack hl) rfl ?_
  rintro _ ⟨l, e, rfl, hk⟩
  have hk1 : l = (popS w.t.stack).1 := congrArg Prod.fst hk
  have hk2 : e = (popS w.t.stack).2 := congrArg Prod.snd hk
  conv => whnf
  refine (c19 h0 w e).mono ?_
  rintro _ _ ⟨w', rfl, rfl, rfl⟩
  conv => whnf
  refine ⟨{ noW w e with t := { w.t with stack := l } }, rfl, ?_⟩
  rw [popW, ← hk1, ← hk2]

theorem c40 (h0 : Hp) (w : Wk) : RealCall PP 40 [.ptr 3 0 0 0] (H5 h0 w) fun r H => ∃ w', H = H5 h0 w' ∧ w' = { w with wt := true } := by
  refine rc_rule CT_ok (f := 40) (fn := Go.Proofs.Try.f40) (by kernel_rfl) rfl (by kernel_rfl) 5 (Nat.le_refl _) _ rfl ?_
  conv => whnf
  exact ⟨{ w with wt := true }, rfl, rfl⟩

abbrev ot1 (l : List Nat) (t : OT) : OT := match l with
  | [] => t
  | i :: is => .one i (ot1 is t)
def tree27 : OT := ot1 [0, 1, 2, 3, 5, 7, 4, 9, 10, 11] (.alt
  (.one 6 (.alt (.one 8 (.lin [12, 13, 14, 15, 16, 17, 18, 19, 20])) (.one 12 (ot1 [13, 14, 15] (.alt (.one 8 (.lin [16, 17, 18, 19, 20])) (.one 16 (.lin [8, 17, 18, 19, 20])))))))
  (.alt
    (.one 8 (.alt (.one 6 (.lin [12, 13, 14, 15, 16, 17, 18, 19, 20])) (.one 12 (.lin [6, 13, 14, 15, 16, 17, 18, 19, 20]))))
    (.one 12 (.alt (.one 6 (ot1 [13, 14, 15] (.alt (.one 8 (.lin [16, 17, 18, 19, 20])) (.one 16 (.lin [8, 17, 18, 19, 20]))))) (.one 8 (.lin [6, 13, 14, 15, 16, 17, 18, 19, 20]))))))
noncomputable def C27 : Ctx := { CT with ords := [(4, [0, 1, 2, 3, 4, 5, 6, 7, 8, 9, 10, 11, 12, 13, 14, 15, 16, 17, 18, 19, 20, 21, 22, 23, 24, 25, 26, 27, 28, 29, 30, 31, 32, 33, 34])], trees := [(5, tree27)] }

theorem c27 (h0 : Hp) (w : Wk) (hw : WOk w) : RealCall PP 27 [.ptr 2 0 0 0] (H5 h0 w) fun r H => ∃ w', H = H5 h0 w' ∧ w' = allocW w := by
  refine rc_rule (CT_okc (C := C27) rfl rfl) (f := 27) (fn := Go.Proofs.Try.f27) (by kernel_rfl) rfl (by kernel_rfl) 5 (Nat.le_refl _) _ rfl ?_
  conv => whnf
  refine EC.real (e46 w.o.new) rfl ?_
  rintro _ ⟨n, rfl, hn⟩
  conv => whnf
  split <;> rename_i q1
  · have q1 : rightF w.o.new ≠ 0 := by rw [← hn]; simpa using q1
    conv => whnf
    refine (c19 h0 w 1).mono ?_
    rintro _ _ ⟨w', rfl, rfl, rfl⟩
    conv => whnf
    refine ⟨_, rfl, ?_⟩
    rw [allocW, if_pos q1]
  · have q1 : ¬ rightF w.o.new ≠ 0 := by rw [← hn]; simpa using q1
    conv => whnf
    split <;> rename_i q2
    · have q2 : w.o.new.tag = 255 := by simpa using q2
      conv => whnf
      refine (c19 h0 w 1).mono ?_
      rintro _ _ ⟨w', rfl, rfl, rfl⟩
      conv => whnf
      refine ⟨_, rfl, ?_⟩
      rw [allocW, if_neg q1, if_pos q2]
    · have q2 : ¬ w.o.new.tag = 255 := by simpa using q2
      conv => whnf
      split <;> rename_i q3
      · have q3 : (w.t.stack.length : Int) ≥ 16 := of_decide_eq_true q3
        conv => whnf
        refine (c19 h0 w 4).mono ?_
        rintro _ _ ⟨w', rfl, rfl, rfl⟩
        conv => whnf
        refine ⟨_, rfl, ?_⟩
        rw [allocW, if_neg q1, if_neg q2, if_pos q3]
      · have q3 : ¬ (w.t.stack.length : Int) ≥ 16 := of_decide_eq_false q3
        conv => whnf
        refine ⟨by kernel_rfl, ?_⟩
        conv => whnf
        refine EC.draw (e47 (roomW w) hw.room w.o.new w.h.size hw.size) ?_
        rintro _ ⟨y, a, e, rfl, hk⟩
        have hk1 : y = (makeF (roomW w) w.o.new w.h.size).1 := congrArg Prod.fst hk
        have hk2 : a = (makeF (roomW w) w.o.new w.h.size).2.1 := congrArg (fun x => x.2.1) hk
        have hk3 : e = (makeF (roomW w) w.o.new w.h.size).2.2 := congrArg (fun x => x.2.2) hk
        conv => whnf
        refine ⟨by kernel_rfl, ?_⟩
        conv => whnf
        refine ⟨?_, ?_, ?_⟩ <;> (conv => whnf)
        all_goals (refine ⟨?_, ?_⟩ <;> (conv => whnf))
        all_goals (try (refine ⟨?_, ?_⟩ <;> (conv => whnf)))
        all_goals
          split <;> rename_i q4
          · have q4 : e ≠ 0 := by simpa using q4
            conv => whnf
            refine ⟨{ withRoom w y with wt := true }, rfl, ?_⟩
            rw [allocW, if_neg q1, if_neg q2, if_neg q3, if_pos (hk3 ▸ q4), ← hk1]
          · have q4 : ¬ e ≠ 0 := by simpa using q4
            conv => whnf
            refine (c31r h0 (withRoom w y) hw.stack a y).mono ?_
            rintro _ _ ⟨w', rfl, hw'⟩
            conv => whnf
            refine ⟨w', rfl, ?_⟩
            rw [hw', allocW, if_neg q1, if_neg q2, if_neg q3, if_neg (hk3 ▸ q4), ← hk1, ← hk2]

theorem c18 (h0 : Hp) (w : Wk) : RealCall PP 18 [.ptr 2 0 0 0] [.box h0.cs, .box zheap, .box w.cs] fun r H => r = .map 4 ∧ H = H5 h0 w := by
  refine rc_rule CT_ok (f := 18) (fn := Go.Proofs.Try.f18) (by kernel_rfl) rfl (by kernel_rfl) 5 (show 3 ≤ 5 by decide) _ rfl ?_
  conv => whnf
  exact ⟨rfl, rfl⟩
end Av
end
section
set_option linter.unusedSimpArgs false
set_option linter.unusedVariables false
namespace Av
open Go

/-- What a step leaves as it was. -/
structure Keeps (w v : Wk) : Prop where
  threads : v.h.threads = w.h.threads
  order : v.h.order = w.h.order
  size : v.h.size = w.h.size
  log : v.h.log = w.h.log
  phase : v.h.phase = w.h.phase
  scan : v.h.scan = w.h.scan
  flips : v.h.flips = w.h.flips
  broken : v.h.broken = w.h.broken
  to : v.h.t = w.h.t
  o : v.o = w.o
  tlog : v.t.log = w.t.log
  left : v.t.left = w.t.left
  done : v.t.done = w.t.done
  want : v.t.want = w.t.want
  stack : v.t.stack.length ≤ w.t.stack.length ∨ v.t.stack.length ≤ 16

theorem Keeps.refl (w : Wk) : Keeps w w := ⟨rfl, rfl, rfl, rfl, rfl, rfl, rfl, rfl, rfl, rfl, rfl, rfl, rfl, rfl, .inl (Nat.le_refl _)⟩
theorem Keeps.trans {a b c : Wk} (h : Keeps a b) (g : Keeps b c) : Keeps a c :=
  ⟨g.threads.trans h.threads, g.order.trans h.order, g.size.trans h.size, g.log.trans h.log, g.phase.trans h.phase, g.scan.trans h.scan, g.flips.trans h.flips, g.broken.trans h.broken, g.to.trans h.to, g.o.trans h.o,
    g.tlog.trans h.tlog, g.left.trans h.left, g.done.trans h.done, g.want.trans h.want, by
      rcases g.stack with q | q
      · rcases h.stack with r | r
        · exact .inl (by omega)
        · exact .inr (by omega)
      · exact .inr q⟩

theorem noW_keeps (w : Wk) (e : Int) : Keeps w (noW w e) := ⟨rfl, rfl, rfl, rfl, rfl, rfl, rfl, rfl, rfl, rfl, rfl, rfl, rfl, rfl, .inl (Nat.le_refl _)⟩
theorem handleW_keeps (w : Wk) (k : Int) : Keeps w (handleW w k).2.2 := ⟨rfl, rfl, rfl, rfl, rfl, rfl, rfl, rfl, rfl, rfl, rfl, rfl, rfl, rfl, .inl (Nat.le_refl _)⟩
theorem fieldW_keeps (w : Wk) (p : Bool) : Keeps w (fieldW w p).2.2.2 := by
  unfold fieldW
  repeat' split
  all_goals exact ⟨rfl, rfl, rfl, rfl, rfl, rfl, rfl, rfl, rfl, rfl, rfl, rfl, rfl, rfl, .inl (Nat.le_refl _)⟩
theorem setW_keeps (w : Wk) (a v : Int) : Keeps w (setW w a v) := ⟨rfl, rfl, rfl, rfl, rfl, rfl, rfl, rfl, rfl, rfl, rfl, rfl, rfl, rfl, .inl (Nat.le_refl _)⟩
theorem pushS_len (l : List Int) (a : Int) : (pushS l a).1.length ≤ l.length ∨ (pushS l a).1.length ≤ 16 := by
  unfold pushS
  split
  · exact .inl (Nat.le_refl _)
  · right; simp; omega
theorem pushW_keeps (w : Wk) (a : Int) : Keeps w (pushW w a) := ⟨rfl, rfl, rfl, rfl, rfl, rfl, rfl, rfl, rfl, rfl, rfl, rfl, rfl, rfl, pushS_len _ _⟩
theorem popS_len (l : List Int) : (popS l).1.length ≤ l.length := by
  unfold popS
  split
  · exact Nat.le_refl _
  · simp
theorem popW_keeps (w : Wk) : Keeps w (popW w) := ⟨rfl, rfl, rfl, rfl, rfl, rfl, rfl, rfl, rfl, rfl, rfl, rfl, rfl, rfl, .inl (popS_len _)⟩
theorem withRoom_keeps (w : Wk) (x : Rm) : Keeps w (withRoom w x) := ⟨rfl, rfl, rfl, rfl, rfl, rfl, rfl, rfl, rfl, rfl, rfl, rfl, rfl, rfl, .inl (Nat.le_refl _)⟩
theorem writeW_keeps (x : Int) (w : Wk) : Keeps w (writeW x w) := by
  unfold writeW
  split
  · exact (fieldW_keeps w false).trans (setW_keeps _ _ _)
  · exact fieldW_keeps w false
theorem allocW_keeps (w : Wk) : Keeps w (allocW w) := by
  unfold allocW
  repeat' split
  · exact noW_keeps w _
  · exact noW_keeps w _
  · exact noW_keeps w _
  · exact (withRoom_keeps w (makeF (roomW w) w.o.new w.h.size).1).trans ⟨rfl, rfl, rfl, rfl, rfl, rfl, rfl, rfl, rfl, rfl, rfl, rfl, rfl, rfl, .inl (Nat.le_refl _)⟩
  · exact (withRoom_keeps w _).trans (pushW_keeps _ _)
theorem getW_keeps (w : Wk) : Keeps w (getW w) := by
  unfold getW
  split
  · exact (fieldW_keeps w false).trans (⟨rfl, rfl, rfl, rfl, rfl, rfl, rfl, rfl, rfl, rfl, rfl, rfl, rfl, rfl, .inl (Nat.le_refl _)⟩)
  · exact fieldW_keeps w false
theorem followW_keeps (w : Wk) : Keeps w (followW w) := by
  unfold followW
  split
  · exact (fieldW_keeps w true).trans (pushW_keeps _ _)
  · exact fieldW_keeps w true
theorem linkW_keeps (w : Wk) : Keeps w (linkW w) := by
  unfold linkW
  split
  · split
    · exact ((fieldW_keeps w true).trans (handleW_keeps _ _)).trans (setW_keeps _ _ _)
    · exact (fieldW_keeps w true).trans (handleW_keeps _ _)
  · exact fieldW_keeps w true
theorem sameW_keeps (w : Wk) : Keeps w (sameW w) := by
  unfold sameW
  repeat' split
  all_goals exact ⟨rfl, rfl, rfl, rfl, rfl, rfl, rfl, rfl, rfl, rfl, rfl, rfl, rfl, rfl, .inl (Nat.le_refl _)⟩
theorem dupW_keeps (w : Wk) : Keeps w (dupW w) := by
  unfold dupW
  split
  · exact (handleW_keeps w w.o.h).trans (pushW_keeps _ _)
  · exact ⟨rfl, rfl, rfl, rfl, rfl, rfl, rfl, rfl, rfl, rfl, rfl, rfl, rfl, rfl, .inl (Nat.le_refl _)⟩
theorem actW_keeps (x : Int) (w : Wk) : Keeps w (actW x w) := by
  unfold actW
  repeat' split
  · exact allocW_keeps w
  · exact getW_keeps w
  · exact followW_keeps w
  · exact writeW_keeps x w
  · exact writeW_keeps x w
  · exact writeW_keeps x w
  · exact linkW_keeps w
  · exact sameW_keeps w
  · exact dupW_keeps w
  · exact popW_keeps w
  · exact ⟨rfl, rfl, rfl, rfl, rfl, rfl, rfl, rfl, rfl, rfl, rfl, rfl, rfl, rfl, .inl (Nat.le_refl _)⟩
  · exact noW_keeps w 1

/-- Behind an entry that was pending. -/
def pendT (t : Thread) : Thread := { t with log := t.log ++ [t.pend.getD 0 default], pend := [] }
def pendF (h : Hp) (i : Int) : Hp := { h with threads := h.threads.set i.toNat (pendT (thr h i)) }
def startW (h : Hp) (i : Int) : Wk := ⟨h, thr h i, opP (thr h i), ⟨0, 0, false⟩, false⟩
def wantT (w : Wk) : Thread := { w.t with want := w.wt }
def wantH (w : Wk) (i : Int) : Hp := { w.h with threads := w.h.threads.set i.toNat (wantT w) }
def goF (x : Int) (h : Hp) (i : Int) : Hp :=
  if (actW x (startW h i)).wt then wantH (actW x (startW h i)) i else ansF (wantH (actW x (startW h i)) i) i (actW x (startW h i)).a
/-- A step of a thread that can. -/
def doF (x : Int) (h : Hp) (i : Int) : Hp := if (thr h i).pend = [] then goF x h i else pendF h i

theorem actW_kind {x : Int} {w : Wk} : (w.o.kind = 1 → actW x w = allocW w) ∧ (w.o.kind = 2 → actW x w = getW w) ∧ (w.o.kind = 3 → actW x w = followW w) ∧ (w.o.kind = 4 → actW x w = writeW x w) ∧ (w.o.kind = 6 → actW x w = writeW x w) ∧ (w.o.kind = 7 → actW x w = writeW x w) ∧
    (w.o.kind = 5 → actW x w = linkW w) ∧ (w.o.kind = 8 → actW x w = sameW w) ∧ (w.o.kind = 9 → actW x w = dupW w) ∧ (w.o.kind = 10 → actW x w = popW w) ∧ (w.o.kind = 11 → actW x w = { w with wt := true }) := by
  refine ⟨?_, ?_, ?_, ?_, ?_, ?_, ?_, ?_, ?_, ?_, ?_⟩ <;> intro h <;> simp [actW, h]

/-- A heap of which a step may be done. -/
structure HOk (h : Hp) : Prop where
  m : h.m.Ok
  f : h.f.Ok
  lim : h.f.lim = h.m.w
  size : 0 ≤ h.size ∧ h.size ≤ 4096
  buf : ∀ t ∈ h.threads, 0 ≤ t.bufAt ∧ t.bufAt ≤ t.bufEnd ∧ t.bufEnd ≤ h.f.at'
  small : SmallH h

theorem thr_mem {h : Hp} {i : Int} (hi : 0 ≤ i ∧ i < h.threads.length) : thr h i ∈ h.threads := by
  have hlt : i.toNat < h.threads.length := by omega
  rw [thr, List.getD_eq_getElem?_getD, List.getElem?_eq_getElem hlt]
  exact List.getElem_mem hlt

theorem startW_ok {h : Hp} (hh : HOk h) {i : Int} (hi : 0 ≤ i ∧ i < h.threads.length) : WOk (startW h i) :=
  ⟨hh.m, ⟨hh.m, hh.f, hh.lim, hh.buf _ (thr_mem hi)⟩, hh.size, (hh.small.each _ (thr_mem hi)).stack⟩

theorem SmallH.set {h : Hp} (hs : SmallH h) {k : Hp} (ho : k.order.length = h.order.length) {i : Int} {t : Thread} (ht : SmallT t) (hk : k.threads = h.threads.set i.toNat t) : SmallH k := by
  refine ⟨by rw [hk, List.length_set]; exact hs.th, fun u hu => ?_, by rw [ho]; exact hs.order⟩
  rw [hk] at hu
  rcases List.mem_or_eq_of_mem_set hu with q | q
  · exact hs.each u q
  · rw [q]; exact ht
end Av
end
