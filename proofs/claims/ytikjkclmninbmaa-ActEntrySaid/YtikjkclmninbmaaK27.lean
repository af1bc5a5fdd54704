/- The walk: what a thread may do, how it is answered. The walk: numbers; what the pieces of a thread's step come to. What the pieces of a thread's step come to: plain definitions. The walk: the pieces of a thread's step. The walk: the pieces of a thread's step: fields. Own work. -/
import Derived.Test.YtikjkclmninbmaaK26
section
set_option linter.unusedSimpArgs false
set_option linter.unusedVariables false
namespace Av
open Go
set_option maxRecDepth 100000

open Classical in
theorem e11 (h : Hp) (i : Int) : EC PP 11 [h.av, i64 i] fun r => (r = .bool true ∧ CanP h i) ∨ (r = .bool false ∧ ¬ CanP h i) := by
  refine ec_rule CT_ok (f := 11) (fn := Go.Proofs.Try.f11) (by kernel_rfl) rfl (by kernel_rfl) (.bool (decide (CanP h i))) ?_ _ rfl ?_
  · by_cases q : CanP h i
    · exact .inl ⟨by simp only [q, decide_true], q⟩
    · exact .inr ⟨by simp only [q, decide_false], q⟩
  · have yes : ∀ {p : Bool}, p = true → CanP h i → AV.bool p = .bool (decide (CanP h i)) := fun h1 h2 => by rw [h1, decide_eq_true h2]
    have no : ∀ {p : Bool}, p = false → ¬ CanP h i → AV.bool p = .bool (decide (CanP h i)) := fun h1 h2 => by rw [h1, decide_eq_false h2]
    conv => whnf
    split <;> rename_i q1
    · have q1 := of_decide_eq_true q1
      conv => whnf
      exact ⟨no rfl (fun hh => by have := hh.1; omega), rfl⟩
    · have q1 := of_decide_eq_false q1
      conv => whnf
      split <;> rename_i q2
      · have q2 : i ≥ (h.threads.length : Int) := of_decide_eq_true q2
        conv => whnf
        exact ⟨no rfl (fun hh => by have := hh.2.1; omega), rfl⟩
      · have q2 : ¬ i ≥ (h.threads.length : Int) := of_decide_eq_false q2
        have hlt : i.toNat < h.threads.length := by omega
        conv => whnf
        split <;> rename_i q3
        · have q3 : h.broken ≠ 0 := by simpa using q3
          conv => whnf
          exact ⟨no rfl (fun hh => q3 hh.2.2.1), rfl⟩
        · have q3 : h.broken = 0 := by simpa using q3
          conv => whnf
          refine ⟨_, ⟨by omega, List.getElem?_eq_getElem hlt⟩, ?_⟩
          have ht : thr h i = h.threads[i.toNat] := by rw [thr, List.getD_eq_getElem?_getD, List.getElem?_eq_getElem hlt]; rfl
          rw [← ht]
          generalize hT : thr h i = T
          conv => whnf
          split <;> rename_i q4
          · have q4 : ((T.pend.length : Nat) : Int) > 0 := of_decide_eq_true q4
            conv => whnf
            refine ⟨yes rfl ⟨by omega, by omega, q3, .inl ?_⟩, rfl⟩
            rw [hT]
            intro e
            rw [e] at q4
            simp at q4
          · have q4 : ¬ ((T.pend.length : Nat) : Int) > 0 := of_decide_eq_false q4
            have q4 : T.pend = [] := List.eq_nil_of_length_eq_zero (by omega)
            conv => whnf
            split <;> rename_i q5
            · have q5 : ((T.left.length : Nat) : Int) = 0 := eq_of_beq (α := Int) q5
              have q5 : T.left = [] := List.eq_nil_of_length_eq_zero (by omega)
              conv => whnf
              refine ⟨no rfl (fun hh => ?_), rfl⟩
              have := hh.2.2.2
              rw [hT] at this
              rcases this with h1 | h1
              · exact h1 q4
              · exact h1.1 q5
            · have q5 : ¬ ((T.left.length : Nat) : Int) = 0 := (beq_eq_false_iff_ne (α := Int)).1 q5
              have q5' : T.left ≠ [] := fun e => by rw [e] at q5; simp at q5
              conv => whnf
              split <;> rename_i q6
              · have q6 : T.want = true := q6
                conv => whnf
                refine ⟨no rfl (fun hh => ?_), rfl⟩
                have := hh.2.2.2
                rw [hT] at this
                rcases this with h1 | h1
                · exact h1 q4
                · rw [h1.2.1] at q6; cases q6
              · have q6 : T.want = false := q6
                conv => whnf
                split <;> rename_i q7
                · have q7 : h.phase = 2 := by simpa using q7
                  conv => whnf
                  refine ⟨no rfl (fun hh => ?_), rfl⟩
                  have := hh.2.2.2
                  rw [hT] at this
                  rcases this with h1 | h1
                  · exact h1 q4
                  · exact h1.2.2.1 q7
                · have q7 : ¬ h.phase = 2 := by simpa using q7
                  have hl0 : 0 < T.left.length := by omega
                  have hop : opP T = T.left[0] := by rw [opP, List.getD_eq_getElem?_getD, List.getElem?_eq_getElem hl0]; rfl
                  conv => whnf
                  refine ⟨_, ⟨by decide, List.getElem?_eq_getElem hl0⟩, ?_⟩
                  rw [← hop]
                  generalize hO : opP T = O
                  conv => whnf
                  refine EC.real (e13 O) rfl ?_
                  rintro _ (⟨rfl, hw⟩ | ⟨rfl, hw⟩)
                  · conv => whnf
                    split <;> rename_i q8
                    · have q8 : h.phase ≠ 1 := by simpa using q8
                      conv => whnf
                      refine ⟨yes rfl ⟨by omega, by omega, q3, .inr ?_⟩, rfl⟩
                      rw [hT]
                      exact ⟨q5', q6, q7, .inr (.inl q8)⟩
                    · have q8 : ¬ h.phase ≠ 1 := by simpa using q8
                      conv => whnf
                      refine ⟨?_, rfl⟩
                      by_cases q9 : ((T.log.length : Nat) : Int) < h.log
                      · refine yes (decide_eq_true q9) ⟨by omega, by omega, q3, .inr ?_⟩
                        rw [hT]
                        exact ⟨q5', q6, q7, .inr (.inr q9)⟩
                      · refine no (decide_eq_false q9) (fun hh => ?_)
                        have := hh.2.2.2
                        rw [hT, hO] at this
                        rcases this with h1 | h1
                        · exact h1 q4
                        · rcases h1.2.2.2 with h2 | h2 | h2
                          · rw [hw] at h2; cases h2
                          · exact q8 h2
                          · exact q9 h2
                  · conv => whnf
                    refine ⟨yes rfl ⟨by omega, by omega, q3, .inr ?_⟩, rfl⟩
                    rw [hT, hO]
                    exact ⟨q5', q6, q7, .inl hw⟩

theorem e20 (h : Hp) (hs : SmallH h) (i : Int) (hi : 0 ≤ i ∧ i < h.threads.length) (a : Answer) : EC PP 20 [h.av, i64 i, .agg (acs a)] fun r => ∃ k : Hp, r = k.av ∧ k = ansF h i a := by
  refine ec_rule CT_ok (f := 20) (fn := Go.Proofs.Try.f20) (by kernel_rfl) rfl (by kernel_rfl) (ansF h i a).av ⟨_, rfl, rfl⟩ _ rfl ?_
  have hlt : i.toNat < h.threads.length := by omega
  conv => whnf
  split <;> rename_i q1
  · exact absurd (of_decide_eq_true q1) (by omega)
  · conv => whnf
    split <;> rename_i q2
    · have q2 : i ≥ (h.threads.length : Int) := of_decide_eq_true q2
      omega
    · conv => whnf
      refine ⟨_, ⟨by omega, List.getElem?_eq_getElem hlt⟩, ?_⟩
      have ht : thr h i = h.threads[i.toNat] := by rw [thr, List.getD_eq_getElem?_getD, List.getElem?_eq_getElem hlt]; rfl
      have hsT : SmallT (thr h i) := hs.each _ (by rw [ht]; exact List.getElem_mem hlt)
      rw [← ht]
      generalize hT : thr h i = T at hsT
      conv => whnf
      refine EC.real (e41 T.done a hsT.done) rfl ?_
      rintro _ rfl
      conv => whnf
      split <;> rename_i q3
      · have q3 : ((T.left.length : Nat) : Int) > 0 := of_decide_eq_true q3
        conv => whnf
        refine ⟨by show 0 ≤ 1 ∧ 1 ≤ (T.left.length : Int) ∧ (T.left.length : Int) ≤ T.left.length; omega, ?_⟩
        conv => whnf
        refine ⟨rfl, ?_⟩
        conv => whnf
        refine EC.real (e17 h.threads hs.th i hi { T with done := T.done ++ [a], left := List.drop (Int.toNat 1) (List.take (T.left.length : Int).toNat T.left) }) rfl ?_
        rintro _ rfl
        conv => whnf
        refine EC.real (e42 h.order i hs.order) rfl ?_
        rintro _ rfl
        conv => whnf
        refine ⟨?_, rfl⟩
        have e1 : List.drop (Int.toNat 1) (List.take (T.left.length : Int).toNat T.left) = T.left.drop 1 := by simp
        rw [ansF, hT, ansT, ← e1]
      · have q3 : ¬ ((T.left.length : Nat) : Int) > 0 := of_decide_eq_false q3
        have e1 : T.left = T.left.drop 1 := by
          have : T.left = [] := List.eq_nil_of_length_eq_zero (by omega)
          rw [this]; rfl
        conv => whnf
        refine EC.real (e17 h.threads hs.th i hi { T with done := T.done ++ [a] }) rfl ?_
        rintro _ rfl
        conv => whnf
        refine EC.real (e42 h.order i hs.order) rfl ?_
        rintro _ rfl
        conv => whnf
        refine ⟨?_, rfl⟩
        rw [ansF, hT, ansT, ← e1]
end Av
end
section
set_option linter.unusedSimpArgs false
set_option linter.unusedVariables false
namespace Av
open Go
set_option maxRecDepth 100000

theorem n74 (a : Int) : NC PP 74 [u64 a] fun r => ∃ x y, r = .cpx x y := by
  refine nc_rule CT_ok (f := 74) (fn := Go.Proofs.Try.f74) (by kernel_rfl) rfl (by kernel_rfl) _ rfl ?_
  conv => whnf
  have h89 : NC PP 89 [u64 a] fun r => ∃ x y, r = .tup [i64 x, i64 y] := by
    refine nc_rule CT_ok (f := 89) (fn := Go.Proofs.Try.f89) (by kernel_rfl) rfl (by kernel_rfl) _ rfl ?_
    conv => whnf
    exact ⟨⟨_, _, rfl⟩, rfl⟩
  refine NC.real h89 rfl ?_
  rintro _ ⟨x, y, rfl⟩
  conv => whnf
  exact ⟨⟨_, _, rfl⟩, rfl⟩

theorem n87 (b : Nat) : NC PP 87 [.flt b] fun r => ∃ x, r = i64 x := by
  refine nc_rule CT_ok (f := 87) (fn := Go.Proofs.Try.f87) (by kernel_rfl) rfl (by kernel_rfl) _ rfl ?_
  conv => whnf
  refine .inl ?_
  conv => whnf
  intro n h1 h2
  conv => whnf
  exact ⟨⟨_, rfl⟩, rfl⟩

theorem n88 (a b : Int) : NC PP 88 [i64 a, i64 b] fun r => ∃ x, r = u64 x := by
  refine nc_rule CT_ok (f := 88) (fn := Go.Proofs.Try.f88) (by kernel_rfl) rfl (by kernel_rfl) _ rfl ?_
  conv => whnf
  exact ⟨⟨_, rfl⟩, rfl⟩

theorem n73 (a b : Nat) : NC PP 73 [.cpx a b] fun r => ∃ x, r = u64 x := by
  refine nc_rule CT_ok (f := 73) (fn := Go.Proofs.Try.f73) (by kernel_rfl) rfl (by kernel_rfl) _ rfl ?_
  conv => whnf
  refine NC.real (n87 _) rfl ?_
  rintro _ ⟨x, rfl⟩
  conv => whnf
  refine NC.real (n87 _) rfl ?_
  rintro _ ⟨y, rfl⟩
  conv => whnf
  refine NC.real (n88 _ _) rfl ?_
  rintro _ ⟨z, rfl⟩
  conv => whnf
  exact ⟨⟨_, rfl⟩, rfl⟩

theorem n52 (a b : Int) : NC PP 52 [u64 a, u64 b] fun r => ∃ x, r = u64 x := by
  refine nc_rule CT_ok (f := 52) (fn := Go.Proofs.Try.f52) (by kernel_rfl) rfl (by kernel_rfl) _ rfl ?_
  conv => whnf
  refine NC.real (n74 _) rfl ?_
  rintro _ ⟨x1, y1, rfl⟩
  conv => whnf
  refine NC.real (n74 _) rfl ?_
  rintro _ ⟨x2, y2, rfl⟩
  conv => whnf
  refine .inl ?_
  conv => whnf
  intro e f
  conv => whnf
  refine NC.real (n73 _ _) rfl ?_
  rintro _ ⟨x, rfl⟩
  conv => whnf
  exact ⟨⟨_, rfl⟩, rfl⟩

theorem n53 (a b : Int) : NC PP 53 [u64 a, u64 b] fun r => ∃ x, r = u64 x := by
  refine nc_rule CT_ok (f := 53) (fn := Go.Proofs.Try.f53) (by kernel_rfl) rfl (by kernel_rfl) _ rfl ?_
  conv => whnf
  refine NC.real (n74 _) rfl ?_
  rintro _ ⟨x1, y1, rfl⟩
  conv => whnf
  refine NC.real (n74 _) rfl ?_
  rintro _ ⟨x2, y2, rfl⟩
  conv => whnf
  refine .inl ?_
  conv => whnf
  intro e f
  conv => whnf
  refine NC.real (n73 _ _) rfl ?_
  rintro _ ⟨x, rfl⟩
  conv => whnf
  exact ⟨⟨_, rfl⟩, rfl⟩
end Av
end
section
set_option linter.unusedSimpArgs false
set_option linter.unusedVariables false
namespace Av
open Go

/-- A heap of which one thread does a step. -/
structure Wk where
  h : Hp
  t : Thread
  o : OpD
  a : Answer
  wt : Bool
abbrev Wk.cs (w : Wk) : List AV := [i64 w.h.m.w, su w.h.m.a, su w.h.m.b, i64 w.h.f.s, i64 w.h.f.at', i64 w.h.f.lim, i64 w.h.t.s, i64 w.h.t.at', i64 w.h.t.lim, i64 w.h.size, i64 w.h.log, .sl .thread w.h.threads .none, i64 w.h.phase, i64 w.h.scan, i64 w.h.flips, .sl .int w.h.order .none, i64 w.h.broken,
  su w.t.stack, i64 w.t.bufAt, i64 w.t.bufEnd, .sl .entry w.t.log .none, .sl .op w.t.left .none, .sl .entry w.t.pend .none, .bool w.t.want, .sl .ans w.t.done .none,
  i64 w.o.kind, i64 w.o.h, i64 w.o.i, i64 w.o.k, u64 w.o.v, i64 w.o.new.tag, i64 w.o.new.len, u64 w.o.new.map, i64 w.a.e, u64 w.a.v, .bool w.a.yes, .bool w.wt]

abbrev actsEs : List (Int × AV) := [(1, .fn 27 [.ptr 2 0 0 0] []), (2, .fn 28 [] [.ptr 3 0 0 0]), (3, .fn 30 [] [.ptr 3 0 0 0]), (4, .fn 32 [.ptr 2 0 0 0] []), (6, .fn 32 [.ptr 2 0 0 0] []), (7, .fn 32 [.ptr 2 0 0 0] []),
  (5, .fn 33 [] [.ptr 3 0 0 0]), (8, .fn 36 [] [.ptr 3 0 0 0]), (9, .fn 37 [] [.ptr 3 0 0 0]), (10, .fn 38 [] [.ptr 3 0 0 0]), (11, .fn 40 [] [.ptr 3 0 0 0])]
/-- The objects while a thread does its step. -/
abbrev H5 (h0 : Hp) (w : Wk) : List AObj := [.box h0.cs, .box zheap, .box w.cs, .box [.ptr 2 0 0 0], .map .i64 actsEs]

abbrev H6 (h0 : Hp) (w : Wk) (x : List AV) : List AObj := [.box h0.cs, .box zheap, .box w.cs, .box [.ptr 2 0 0 0], .map .i64 actsEs, .box x]

def noW (w : Wk) (e : Int) : Wk := { w with a := ⟨e, 0, false⟩ }
def handleW (w : Wk) (k : Int) : Int × Bool × Wk := ((getS w.t.stack k).1, decide ((getS w.t.stack k).2 = 0), noW w (getS w.t.stack k).2)
def fieldW (w : Wk) (p : Bool) : Int × Int × Bool × Wk :=
  if (realS w.t.stack w.o.h).2 ≠ 0 then (0, 0, false, noW w (realS w.t.stack w.o.h).2)
  else if (atF w.h.m (realS w.t.stack w.o.h).1).2 ≠ 0 then (0, 0, false, noW w 10)
  else if (atF w.h.m (realS w.t.stack w.o.h).1).1.tag = 255 then (0, 0, false, noW w 10)
  else if (getF w.h.m (realS w.t.stack w.o.h).1 w.o.i).2.2 ≠ 0 then (0, 0, false, noW w (getF w.h.m (realS w.t.stack w.o.h).1 w.o.i).2.2)
  else if (getF w.h.m (realS w.t.stack w.o.h).1 w.o.i).2.1 = p then ((realS w.t.stack w.o.h).1, (getF w.h.m (realS w.t.stack w.o.h).1 w.o.i).1, true, w)
  else (0, 0, false, noW w 8)
def setW (w : Wk) (a v : Int) : Wk :=
  { w with h := { w.h with m := (setF w.h.m a w.o.i v).1 }, t := { w.t with pend := if w.h.phase = 1 then [⟨a, w.o.i⟩] else w.t.pend } }
def pushW (w : Wk) (a : Int) : Wk := { noW w (pushS w.t.stack a).2 with t := { w.t with stack := (pushS w.t.stack a).1 } }
/-- A field written; x is what a sum or a product comes to. -/
def writeW (x : Int) (w : Wk) : Wk :=
  if (fieldW w false).2.2.1 then setW (fieldW w false).2.2.2 (fieldW w false).1 (if w.o.kind = 6 then x else if w.o.kind = 7 then x else w.o.v)
  else (fieldW w false).2.2.2
def roomW (w : Wk) : Rm := ⟨w.h.m, w.h.f, w.t.bufAt, w.t.bufEnd⟩
def withRoom (w : Wk) (x : Rm) : Wk := { w with h := { w.h with m := x.m, f := x.b }, t := { w.t with bufAt := x.t, bufEnd := x.e } }
def allocW (w : Wk) : Wk :=
  if rightF w.o.new ≠ 0 then noW w 1 else if w.o.new.tag = 255 then noW w 1
  else if (w.t.stack.length : Int) ≥ 16 then noW w 4
  else if (makeF (roomW w) w.o.new w.h.size).2.2 ≠ 0 then { withRoom w (makeF (roomW w) w.o.new w.h.size).1 with wt := true }
  else pushW (withRoom w (makeF (roomW w) w.o.new w.h.size).1) (makeF (roomW w) w.o.new w.h.size).2.1
def getW (w : Wk) : Wk := if (fieldW w false).2.2.1 then { (fieldW w false).2.2.2 with a := { (fieldW w false).2.2.2.a with v := (fieldW w false).2.1 } } else (fieldW w false).2.2.2
def followW (w : Wk) : Wk := if (fieldW w true).2.2.1 then pushW (fieldW w true).2.2.2 (fieldW w true).2.1 else (fieldW w true).2.2.2
def linkW (w : Wk) : Wk :=
  if (fieldW w true).2.2.1 then
    if (handleW (fieldW w true).2.2.2 w.o.k).2.1 then setW (handleW (fieldW w true).2.2.2 w.o.k).2.2 (fieldW w true).1 (handleW (fieldW w true).2.2.2 w.o.k).1
    else (handleW (fieldW w true).2.2.2 w.o.k).2.2
  else (fieldW w true).2.2.2
def sameW (w : Wk) : Wk :=
  if (handleW w w.o.h).2.1 then
    if (handleW (handleW w w.o.h).2.2 w.o.k).2.1 then { (handleW (handleW w w.o.h).2.2 w.o.k).2.2 with a := { (handleW (handleW w w.o.h).2.2 w.o.k).2.2.a with yes := (handleW w w.o.h).1 == (handleW (handleW w w.o.h).2.2 w.o.k).1 } }
    else (handleW (handleW w w.o.h).2.2 w.o.k).2.2
  else (handleW w w.o.h).2.2
def dupW (w : Wk) : Wk := if (handleW w w.o.h).2.1 then pushW (handleW w w.o.h).2.2 (handleW w w.o.h).1 else (handleW w w.o.h).2.2
def popW (w : Wk) : Wk := { noW w (popS w.t.stack).2 with t := { w.t with stack := (popS w.t.stack).1 } }
/-- What a kind of operation does. -/
def actW (x : Int) (w : Wk) : Wk :=
  if w.o.kind = 1 then allocW w else if w.o.kind = 2 then getW w else if w.o.kind = 3 then followW w
  else if w.o.kind = 4 then writeW x w else if w.o.kind = 6 then writeW x w else if w.o.kind = 7 then writeW x w
  else if w.o.kind = 5 then linkW w else if w.o.kind = 8 then sameW w else if w.o.kind = 9 then dupW w
  else if w.o.kind = 10 then popW w else if w.o.kind = 11 then { w with wt := true } else noW w 1

structure WOk (w : Wk) : Prop where
  m : w.h.m.Ok
  room : (roomW w).Ok
  size : 0 ≤ w.h.size ∧ w.h.size ≤ 4096
  stack : (w.t.stack.length + 1) * 8 ≤ 2 ^ 47
end Av
end
section
set_option linter.unusedSimpArgs false
set_option linter.unusedVariables false
namespace Av
open Go
set_option maxRecDepth 100000

theorem c19 (h0 : Hp) (w : Wk) (e : Int) : RealCall PP 19 [.ptr 2 0 0 0, i64 e] (H5 h0 w) fun r H => ∃ w', r = .bool (e == 0) ∧ H = H5 h0 w' ∧ w' = noW w e := by
  refine rc_rule CT_ok (f := 19) (fn := Go.Proofs.Try.f19) (by kernel_rfl) rfl (by kernel_rfl) 5 (Nat.le_refl _) _ rfl ?_
  conv => whnf
  exact ⟨noW w e, rfl, rfl, rfl⟩

theorem c34 (h0 : Hp) (w : Wk) (k : Int) : RealCall PP 34 [.ptr 2 0 0 0, i64 k] (H5 h0 w) fun r H => ∃ a p w', r = .tup [u64 a, .bool p] ∧ H = H5 h0 w' ∧ (a, p, w') = handleW w k := by
  refine rc_rule CT_ok (f := 34) (fn := Go.Proofs.Try.f34) (by kernel_rfl) rfl (by kernel_rfl) 5 (Nat.le_refl _) _ rfl ?_
  conv => whnf
  refine EC.real (e54 w.t.stack k) rfl ?_
  rintro _ ⟨a, e, rfl, hk⟩
  have hk1 : a = (getS w.t.stack k).1 := congrArg Prod.fst hk
  have hk2 : e = (getS w.t.stack k).2 := congrArg Prod.snd hk
  conv => whnf
  refine (c19 h0 w e).mono ?_
  rintro _ _ ⟨w', rfl, rfl, rfl⟩
  conv => whnf
  refine ⟨a, (e == 0), noW w e, rfl, rfl, ?_⟩
  rw [handleW, ← hk1, ← hk2]
  by_cases q : e = 0
  · rw [decide_eq_true q, beq_iff_eq.2 q]
  · rw [decide_eq_false q, beq_eq_false_iff_ne.2 q]

theorem c31 (h0 : Hp) (w : Wk) (hl : (w.t.stack.length + 1) * 8 ≤ 2 ^ 47) (a : Int) : RealCall PP 31 [.ptr 2 0 0 0, u64 a] (H5 h0 w) fun r H => ∃ w', H = H5 h0 w' ∧ w' = pushW w a := by
  refine rc_rule CT_ok (f := 31) (fn := Go.Proofs.Try.f31) (by kernel_rfl) rfl (by kernel_rfl) 5 (Nat.le_refl _) _ rfl ?_
  conv => whnf
  refine EC.real (e51 w.t.stack a hl) rfl ?_
  rintro _ ⟨l, e, rfl, hk⟩
  have hk1 : l = (pushS w.t.stack a).1 := congrArg Prod.fst hk
  have hk2 : e = (pushS w.t.stack a).2 := congrArg Prod.snd hk
  conv => whnf
  refine (c19 h0 w e).mono ?_
  rintro _ _ ⟨w', rfl, rfl, rfl⟩
  conv => whnf
  refine ⟨{ noW w e with t := { w.t with stack := l } }, rfl, ?_⟩
  rw [pushW, ← hk1, ← hk2]

theorem c19h (h0 : Hp) (w : Wk) (e x y z : Int) : RealCall PP 19 [.ptr 2 0 0 0, i64 e] (H6 h0 w [i64 x, i64 y, u64 z]) fun r H => ∃ w', r = .bool (e == 0) ∧ H = H6 h0 w' [i64 x, i64 y, u64 z] ∧ w' = noW w e := by
  refine rc_rule CT_ok (f := 19) (fn := Go.Proofs.Try.f19) (by kernel_rfl) rfl (by kernel_rfl) 6 (Nat.le_refl _) _ rfl ?_
  conv => whnf
  exact ⟨noW w e, rfl, rfl, rfl⟩

theorem c19r (h0 : Hp) (w : Wk) (e : Int) (x : Rm) : RealCall PP 19 [.ptr 2 0 0 0, i64 e] (H6 h0 w x.cs) fun r H => ∃ w', r = .bool (e == 0) ∧ H = H6 h0 w' x.cs ∧ w' = noW w e := by
  refine rc_rule CT_ok (f := 19) (fn := Go.Proofs.Try.f19) (by kernel_rfl) rfl (by kernel_rfl) 6 (Nat.le_refl _) _ rfl ?_
  conv => whnf
  exact ⟨noW w e, rfl, rfl, rfl⟩

theorem c31r (h0 : Hp) (w : Wk) (hl : (w.t.stack.length + 1) * 8 ≤ 2 ^ 47) (a : Int) (x : Rm) : RealCall PP 31 [.ptr 2 0 0 0, u64 a] (H6 h0 w x.cs) fun r H => ∃ w', H = H6 h0 w' x.cs ∧ w' = pushW w a := by
  refine rc_rule CT_ok (f := 31) (fn := Go.Proofs.Try.f31) (by kernel_rfl) rfl (by kernel_rfl) 6 (Nat.le_refl _) _ rfl ?_
  conv => whnf
  refine EC.real (e51 w.t.stack a hl) rfl ?_
  rintro _ ⟨l, e, rfl, hk⟩
  have hk1 : l = (pushS w.t.stack a).1 := congrArg Prod.fst hk
  have hk2 : e = (pushS w.t.stack a).2 := congrArg Prod.snd hk
  conv => whnf
  refine (c19r h0 w e x).mono ?_
  rintro _ _ ⟨w', rfl, rfl, rfl⟩
  conv => whnf
  refine ⟨{ noW w e with t := { w.t with stack := l } }, rfl, ?_⟩
  rw [pushW, ← hk1, ← hk2]
end Av
end
section
set_option linter.unusedSimpArgs false
set_option linter.unusedVariables false
namespace Av
open Go
set_option maxRecDepth 100000

theorem c29 (h0 : Hp) (w : Wk) (hm : w.h.m.Ok) (p : Bool) : RealCall PP 29 [.ptr 2 0 0 0, .bool p] (H5 h0 w) fun r H => ∃ a v ok w', r = .tup [u64 a, u64 v, .bool ok] ∧ H = H5 h0 w' ∧ (a, v, ok, w') = fieldW w p := by
  refine rc_rule (CT_okc (C := C29) rfl rfl) (f := 29) (fn := Go.Proofs.Try.f29) (by kernel_rfl) rfl (by kernel_rfl) 5 (Nat.le_refl _) _ rfl ?_
  conv => whnf
  refine scope_fwd (CT_okc (C := C29) rfl rfl) 0 rfl ?_
  conv => whnf
  refine ⟨by kernel_rfl, ?_⟩
  conv => whnf
  refine EC.draw (e48 w.t.stack w.o.h) ?_
  rintro _ ⟨a, e, rfl, hk⟩
  have hk1 : a = (realS w.t.stack w.o.h).1 := congrArg Prod.fst hk
  have hk2 : e = (realS w.t.stack w.o.h).2 := congrArg Prod.snd hk
  have bne : ∀ {e : Int}, e ≠ 0 → (e == 0) = false := fun h => beq_eq_false_iff_ne.2 h
  conv => whnf
  split <;> rename_i q1
  · have q1 : e ≠ 0 := by simpa using q1
    conv => whnf
    refine ⟨rfl, ?_⟩
    conv => whnf
    refine (c19h h0 w e 0 0 0).mono ?_
    rintro _ _ ⟨w', rfl, rfl, rfl⟩
    conv => whnf
    refine ⟨0, 0, (e == 0), noW w e, rfl, rfl, ?_⟩
    rw [fieldW, if_pos (hk2 ▸ q1), bne q1, hk2]
  · have q1 : ¬ e ≠ 0 := by simpa using q1
    conv => whnf
    refine EC.real (e49 w.h.m hm a) rfl ?_
    rintro _ ⟨hd, e2, rfl, hd0⟩
    have hd1 : hd = (atF w.h.m a).1 := congrArg Prod.fst hd0
    have hd2 : e2 = (atF w.h.m a).2 := congrArg Prod.snd hd0
    conv => whnf
    split <;> rename_i q2
    · have q2 : e2 ≠ 0 := by simpa using q2
      conv => whnf
      refine ⟨rfl, ?_⟩
      conv => whnf
      refine (c19h h0 w 10 hd.tag hd.len hd.map).mono ?_
      rintro _ _ ⟨w', rfl, rfl, rfl⟩
      conv => whnf
      refine ⟨0, 0, false, noW w 10, rfl, rfl, ?_⟩
      rw [fieldW, if_neg (hk2 ▸ q1), ← hk1, if_pos (hd2 ▸ q2)]
    · have q2 : ¬ e2 ≠ 0 := by simpa using q2
      conv => whnf
      split <;> rename_i q3
      · have q3 : hd.tag = 255 := by simpa using q3
        conv => whnf
        refine ⟨rfl, ?_⟩
        conv => whnf
        refine (c19h h0 w 10 hd.tag hd.len hd.map).mono ?_
        rintro _ _ ⟨w', rfl, rfl, rfl⟩
        conv => whnf
        refine ⟨0, 0, false, noW w 10, rfl, rfl, ?_⟩
        rw [fieldW, if_neg (hk2 ▸ q1), ← hk1, if_neg (hd2 ▸ q2), if_pos (hd1 ▸ q3)]
      · have q3 : ¬ hd.tag = 255 := by simpa using q3
        conv => whnf
        refine ⟨by kernel_rfl, ?_⟩
        conv => whnf
        refine EC.draw (e50 w.h.m hm a w.o.i) ?_
        rintro _ ⟨v, is, e3, rfl, hg⟩
        have hg1 : v = (getF w.h.m a w.o.i).1 := congrArg Prod.fst hg
        have hg2 : is = (getF w.h.m a w.o.i).2.1 := congrArg (fun x => x.2.1) hg
        have hg3 : e3 = (getF w.h.m a w.o.i).2.2 := congrArg (fun x => x.2.2) hg
        conv => whnf
        split <;> rename_i q4
        · have q4 : e3 ≠ 0 := by simpa using q4
          conv => whnf
          refine ⟨rfl, ?_⟩
          conv => whnf
          refine (c19h h0 w e3 hd.tag hd.len hd.map).mono ?_
          rintro _ _ ⟨w', rfl, rfl, rfl⟩
          conv => whnf
          refine ⟨0, 0, (e3 == 0), noW w e3, rfl, rfl, ?_⟩
          rw [fieldW, if_neg (hk2 ▸ q1), ← hk1, if_neg (hd2 ▸ q2), if_neg (hd1 ▸ q3), if_pos (hg3 ▸ q4), bne q4, ← hg3]
        · have q4 : ¬ e3 ≠ 0 := by simpa using q4
          conv => whnf
          split <;> rename_i q5
          · have q5 : is = p := by simpa using q5
            conv => whnf
            refine ⟨a, v, true, w, rfl, rfl, ?_⟩
            rw [fieldW, if_neg (hk2 ▸ q1), ← hk1, if_neg (hd2 ▸ q2), if_neg (hd1 ▸ q3), if_neg (hg3 ▸ q4), if_pos (hg2 ▸ q5), ← hg1]
          · have q5 : ¬ is = p := by simpa using q5
            conv => whnf
            refine (c19h h0 w 8 hd.tag hd.len hd.map).mono ?_
            rintro _ _ ⟨w', rfl, rfl, rfl⟩
            conv => whnf
            refine ⟨0, 0, false, noW w 8, rfl, rfl, ?_⟩
            rw [fieldW, if_neg (hk2 ▸ q1), ← hk1, if_neg (hd2 ▸ q2), if_neg (hd1 ▸ q3), if_neg (hg3 ▸ q4), if_neg (hg2 ▸ q5)]

noncomputable def C35 : Ctx := { CT with ords := [(0, [0, 1, 2, 3, 4, 5, 6, 7, 8, 9, 10, 11, 12, 13, 14, 15, 16, 17, 18, 19, 20])] }

theorem c35 (h0 : Hp) (w : Wk) (hm : w.h.m.Ok) (a v : Int) : RealCall PP 35 [.ptr 2 0 0 0, u64 a, u64 v] (H5 h0 w) fun r H => ∃ w', H = H5 h0 w' ∧ w' = setW w a v := by
  refine rc_rule (CT_okc (C := C35) rfl rfl) (f := 35) (fn := Go.Proofs.Try.f35) (by kernel_rfl) rfl (by kernel_rfl) 5 (Nat.le_refl _) _ rfl ?_
  conv => whnf
  refine ⟨by kernel_rfl, ?_⟩
  conv => whnf
  refine EC.draw (e55 w.h.m hm a w.o.i v) ?_
  rintro _ ⟨m', e, rfl, hs⟩
  have hs1 : m' = (setF w.h.m a w.o.i v).1 := congrArg Prod.fst hs
  conv => whnf
  split <;> rename_i q
  · have q : w.h.phase = 1 := by simpa using q
    conv => whnf
    refine ⟨{ w with h := { w.h with m := m' }, t := { w.t with pend := [⟨a, w.o.i⟩] } }, rfl, ?_⟩
    rw [setW, if_pos q, ← hs1]
  · have q : ¬ w.h.phase = 1 := by simpa using q
    conv => whnf
    refine ⟨{ w with h := { w.h with m := m' } }, rfl, ?_⟩
    rw [setW, if_neg q, ← hs1]
end Av
end
