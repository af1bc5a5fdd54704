/- The abstract machine: how operations run (11): addresses, numbers, comparisons. Own work. -/
import Derived.Test.YtikjkclmninbmaaK10
set_option linter.unusedSimpArgs false
set_option linter.unusedVariables false
set_option linter.unnecessarySimpa false
namespace Av
open Go

theorem indexAddrK_out {C : Ctx} (hT : TabOk C) {G : Gh} {n : Nat} {w : World} {t : TypeId} {x y : Value} {v i : AV} (hv : Rep G n w x v) (hi : Rep G n w y i) {k : AV → Prop} (h : indexAddrK C t v i k) :
    ∃ z u, (Instr.indexAt t x y).run C.P w = .ok z w ∧ k u ∧ Rep G n w z u := by
  unfold indexAddrK at h
  split at h
  case h_2 => exact h.elim
  rename_i kd m
  obtain rfl := rep_int hi
  split at h
  · rename_i u l tok
    obtain ⟨hety, q, ⟨h0, hq⟩, hk⟩ := guardK_iff.1 h
    have hety : (C.tb t).ety = some u := by
      unfold etyIs at hety
      split at hety
      · rename_i u' hu'; rw [hu', ETy.is_eq hety]
      · cases hety
    obtain ⟨hsl, inf, z, hi', hsz, hby, hz, hzs⟩ := (hT.ok t).ety u hety
    have hund := (hT.ok t).sl hsl
    have hlt := lt_of_get hq
    rcases sl_inv hv with ⟨rfl, e, _⟩ | ⟨b, o, cap', vs, rfl, g1, g2, g3, g4⟩
    · simp at hlt
    · refine ⟨.pointer (some ⟨b, o + m.toNat * esz u, none⟩), _, ?_, hk, ?_⟩
      · have h2 : 0 ≤ m ∧ m < (l.length : Int) := ⟨h0, by omega⟩
        simp [Instr.indexAt, asIntOf, run_underlying hund, h2, Go.sizeOf, typeInfo, hi', hsz, add_block]
      · have hq' : l[m.toNat] = q := by rw [List.getElem?_eq_getElem hlt] at hq; exact Option.some.inj hq
        have := Rep.vptr (G := G) (n := n) (w := w) b (o + m.toNat * esz u) (enc u q) 0 (fun j => vs m.toNat j) (fun j hj => by
          rw [enc_len] at hj; exact g2 m.toNat j hlt hj) (fun j hj => by
          rw [enc_len] at hj
          have := g3 m.toNat j hlt hj
          rw [hq'] at this; exact this)
        exact this
  · rename_i loc lo len e
    obtain ⟨hsl, h⟩ := guardK_iff.1 h
    obtain ⟨hne, h⟩ := guardK_iff.1 h
    obtain ⟨he, ⟨h0, h1⟩, hk⟩ := guardK_iff.1 h
    have he := Nat.eq_of_beq_eq_true he
    have hund := (hT.ok t).sl hsl
    have hne : (C.tb (C.tb t).elem).size ≠ 0 := by
      rw [← he]; intro e0; rw [e0] at hne; cases hne
    obtain ⟨inf, z, hi', hs', _⟩ := (hT.ok (C.tb t).elem).info hne
    cases hv with
    | osl0 _ _ _ ad cap hl _ => omega
    | osl _ _ _ _ cap hl hcap hn =>
      refine ⟨_, _, ?_, hk, .ptr loc (lo + m.toNat) e 0 hl⟩
      simp [Instr.indexAt, asIntOf, run_underlying hund, h0, h1, Go.sizeOf, typeInfo, hi', hs', ← he, add_block, Nat.add_mul]
  · rename_i loc p e j
    obtain ⟨hl0, h⟩ := guardK_iff.1 h
    obtain ⟨hne, ⟨h0, h1⟩, hk⟩ := guardK_iff.1 h
    have hl0 : (C.tb t).len ≠ 0 := by intro e0; rw [e0] at hl0; cases hl0
    have hne : (C.tb (C.tb t).elem).size ≠ 0 := by intro e0; rw [e0] at hne; cases hne
    obtain ⟨hund, _⟩ := (hT.ok t).arr hl0
    obtain ⟨inf, z, hi', hs', _⟩ := (hT.ok (C.tb t).elem).info hne
    cases hv with
    | ptr _ _ _ _ hl =>
      refine ⟨_, _, ?_, hk, .ptr loc p e _ hl⟩
      simp [Instr.indexAt, Instr.sureAddr, asIntOf, run_underlying hund, h0, h1, Go.sizeOf, typeInfo, hi', hs', add_block, Nat.add_assoc]
  · rename_i cs j
    obtain ⟨hl0, h⟩ := guardK_iff.1 h
    obtain ⟨hne, ⟨h0, h1⟩, hk⟩ := guardK_iff.1 h
    have hl0 : (C.tb t).len ≠ 0 := by intro e0; rw [e0] at hl0; cases hl0
    have hne : (C.tb (C.tb t).elem).size ≠ 0 := by intro e0; rw [e0] at hne; cases hne
    obtain ⟨hund, _⟩ := (hT.ok t).arr hl0
    obtain ⟨inf, z, hi', hs', _⟩ := (hT.ok (C.tb t).elem).info hne
    cases hv with
    | vptr b o _ _ vs g1 g2 =>
      refine ⟨_, _, ?_, hk, .vptr b o cs _ vs g1 g2⟩
      simp [Instr.indexAt, Instr.sureAddr, asIntOf, run_underlying hund, h0, h1, Go.sizeOf, typeInfo, hi', hs', add_block, Nat.add_assoc]
  · exact h.elim

theorem fieldAt_out {C : Ctx} (hT : TabOk C) {G : Gh} {n : Nat} {w : World} {t : TypeId} {x : Value} {v : AV} {i : Nat} (hv : Rep G n w x v) {k : AV → Prop} (h : nthK (C.tb t).fields i fun (off, _) => addrK v off k) :
    ∃ z u, (Instr.fieldAt t x i).run C.P w = .ok z w ∧ k u ∧ Rep G n w z u := by
  obtain ⟨⟨off, sz⟩, hf, h⟩ := nthK_iff.1 h
  have hne : (C.tb t).fields ≠ [] := by intro e; rw [e] at hf; simp at hf
  obtain ⟨_, _, fs, hd, hfl, hff⟩ := (hT.ok t).fields hne
  have hil := lt_of_get hf
  obtain ⟨inf, h1, h2, _, h4⟩ := hff i fs[i] (by rw [← hfl] at hil; simp [hil])
  rw [hf] at h2
  obtain ⟨e1, e2⟩ := Prod.mk.inj (Option.some.inj h2)
  have hfi : fs[i]? = some fs[i] := by rw [← hfl] at hil; simp [hil]
  have hplace : ∀ ad : Addr, (fieldPlace ad fs[i]).run C.P w = .ok (ad.add off) w := fun ad => by
    simp [fieldPlace, run_sizeOf h1, h4, e1]
  change addrK v off k at h
  unfold addrK at h
  split at h
  · rename_i loc p e j _
    cases hv with
    | ptr _ _ _ _ hl =>
      refine ⟨_, _, ?_, h, .ptr loc p e _ hl⟩
      simp [Instr.fieldAt, Instr.sureAddr, run_underlying hd, hfi, hplace, add_block, Nat.add_assoc]
  · rename_i cs j _
    cases hv with
    | vptr b o _ _ vs g1 g2 =>
      refine ⟨_, _, ?_, h, .vptr b o cs _ vs g1 g2⟩
      simp [Instr.fieldAt, Instr.sureAddr, run_underlying hd, hfi, hplace, add_block, Nat.add_assoc]
  · exact h.elim

/-! Numbers. -/
theorem binK_out {G : Gh} {n : Nat} {w : World} {P : Program} {op : BinOp} {t : TypeId} {x y : Operand} {a b : AV} {u v : Value} (hu : Rep G n w u a) (hv : Rep G n w v b) {k : AV → Prop} (h : binK op a b k) :
    ∃ z r, (do eqGuard op t x y u v; Go.binOp op t u v : Sem Value).run P w = .ok z w ∧ k r ∧ Rep G n w z r := by
  unfold binK at h
  split at h
  · rename_i ka m kb l
    obtain rfl := rep_int hu
    obtain rfl := rep_int hv
    have hg : (eqGuard op t x y (.int ka m) (.int kb l)).run P w = .ok () w := by cases op <;> simp [eqGuard]
    simp only [Sem.run_bind, hg, Result.andThen_ok]
    cases op <;> simp only at h
    case shl =>
      obtain ⟨h0, hk⟩ := guardK_iff.1 h
      have h0 : 0 ≤ l := of_decide_eq_true h0
      exact ⟨_, _, by simp [Go.binOp, Op.shift, show ¬ l < 0 from by omega], hk, .int _ _⟩
    case shr =>
      obtain ⟨h0, hk⟩ := guardK_iff.1 h
      have h0 : 0 ≤ l := of_decide_eq_true h0
      exact ⟨_, _, by simp [Go.binOp, Op.shift, show ¬ l < 0 from by omega], hk, .int _ _⟩
    case quo =>
      obtain ⟨he, h0, hk⟩ := guardK_iff.1 h
      obtain rfl := ikBeq_eq he
      exact ⟨_, _, by simp [Go.binOp, Op.intDiv, h0], hk, .int _ _⟩
    case rem =>
      obtain ⟨he, h0, hk⟩ := guardK_iff.1 h
      obtain rfl := ikBeq_eq he
      exact ⟨_, _, by simp [Go.binOp, Op.intDiv, h0], hk, .int _ _⟩
    case add =>
      obtain ⟨he, hk⟩ := guardK_iff.1 h
      obtain rfl := ikBeq_eq he
      exact ⟨_, _, by simp [Go.binOp, Op.intArith], hk, .int _ _⟩
    case sub =>
      obtain ⟨he, hk⟩ := guardK_iff.1 h
      obtain rfl := ikBeq_eq he
      exact ⟨_, _, by simp [Go.binOp, Op.intArith], hk, .int _ _⟩
    case mul =>
      obtain ⟨he, hk⟩ := guardK_iff.1 h
      obtain rfl := ikBeq_eq he
      exact ⟨_, _, by simp [Go.binOp, Op.intArith], hk, .int _ _⟩
    case and =>
      obtain ⟨he, hk⟩ := guardK_iff.1 h
      obtain rfl := ikBeq_eq he
      exact ⟨_, _, by simp only [Go.binOp, Op.intBits, ne_eq, not_true, if_false, Sem.run_pure], hk, .int _ _⟩
    case or =>
      obtain ⟨he, hk⟩ := guardK_iff.1 h
      obtain rfl := ikBeq_eq he
      exact ⟨_, _, by simp only [Go.binOp, Op.intBits, ne_eq, not_true, if_false, Sem.run_pure], hk, .int _ _⟩
    case eql =>
      obtain ⟨he, hk⟩ := guardK_iff.1 h
      obtain rfl := ikBeq_eq he
      exact ⟨_, _, by simp [Go.binOp, Op.intCmp], hk, .bool _⟩
    case neq =>
      obtain ⟨he, hk⟩ := guardK_iff.1 h
      obtain rfl := ikBeq_eq he
      exact ⟨_, _, by simp [Go.binOp, Op.intCmp], hk, .bool _⟩
    case lss =>
      obtain ⟨he, hk⟩ := guardK_iff.1 h
      obtain rfl := ikBeq_eq he
      exact ⟨_, _, by simp [Go.binOp, Op.intCmp], hk, .bool _⟩
    case leq =>
      obtain ⟨he, hk⟩ := guardK_iff.1 h
      obtain rfl := ikBeq_eq he
      exact ⟨_, _, by simp [Go.binOp, Op.intCmp], hk, .bool _⟩
    case gtr =>
      obtain ⟨he, hk⟩ := guardK_iff.1 h
      obtain rfl := ikBeq_eq he
      exact ⟨_, _, by simp [Go.binOp, Op.intCmp], hk, .bool _⟩
    case geq =>
      obtain ⟨he, hk⟩ := guardK_iff.1 h
      obtain rfl := ikBeq_eq he
      exact ⟨_, _, by simp [Go.binOp, Op.intCmp], hk, .bool _⟩
    all_goals exact h.elim
  · exact h.elim

/-! Rows of numbers and bools: are they the same? -/
def sameC : AV → AV → Option Bool
  | .int a m, .int b n => if a = b then some (m == n) else none
  | .bool m, .bool n => some (m == n)
  | _, _ => none

def sameR : List AV → List AV → Option Bool
  | [], [] => some true
  | x :: xs, y :: ys => match sameC x y, sameR xs ys with
    | some a, some b => some (a && b)
    | _, _ => none
  | _, _ => none

theorem eqCells_out : ∀ (xs ys : List AV) {k : Bool → Prop}, eqCells xs ys k → ∃ r, sameR xs ys = some r ∧ k r
  | [], [], _, h => ⟨true, rfl, h⟩
  | x :: xs, [], _, h => by cases x <;> exact h.elim
  | [], y :: ys, _, h => h.elim
  | x :: xs, y :: ys, k, h => by
    cases x <;> cases y <;> first
      | (exact h.elim)
      | (obtain ⟨he, h⟩ := guardK_iff.1 h
         obtain ⟨r, h1, h2⟩ := eqCells_out xs ys h
         exact ⟨_, by simp only [sameR, sameC, if_pos (ikBeq_eq he), h1], h2⟩)
      | (obtain ⟨r, h1, h2⟩ := eqCells_out xs ys h
         exact ⟨_, by simp only [sameR, sameC, h1], h2⟩)

theorem sameR_len : ∀ {xs ys : List AV} {r : Bool}, sameR xs ys = some r → xs.length = ys.length
  | [], [], _, _ => rfl
  | x :: xs, [], _, h => by cases h
  | [], y :: ys, _, h => by cases h
  | x :: xs, y :: ys, r, h => by
    simp only [sameR] at h
    split at h
    · rename_i a b h1 h2
      simp [sameR_len h2]
    · cases h

/-- The rows' first parts, and what comes behind. -/
theorem sameR_split : ∀ {xs ys : List AV} {r : Bool} (m : Nat), sameR xs ys = some r → ∃ r1 r2, sameR (xs.take m) (ys.take m) = some r1 ∧ sameR (xs.drop m) (ys.drop m) = some r2 ∧ r = (r1 && r2)
  | xs, ys, r, 0, h => ⟨true, r, by simp [sameR], by simpa using h, by simp⟩
  | [], [], r, m + 1, h => by cases h; exact ⟨true, true, rfl, rfl, rfl⟩
  | x :: xs, [], _, _ + 1, h => by cases h
  | [], y :: ys, _, _ + 1, h => by cases h
  | x :: xs, y :: ys, r, m + 1, h => by
    simp only [sameR] at h
    split at h
    · rename_i a b h1 h2
      obtain ⟨r1, r2, g1, g2, g3⟩ := sameR_split m h2
      cases h
      refine ⟨a && r1, r2, by simp only [List.take_succ_cons, sameR, h1, g1], by simpa using g2, by rw [g3, Bool.and_assoc]⟩
    · cases h

theorem Reps.sub {G n w} {c : Array Value} {cs : List AV} (h : Reps G n w c cs) (off size : Nat) (hf : off + size ≤ cs.length) : Reps G n w (c.extract off (off + size)) ((cs.drop off).take size) := by
  have hc : Reps G n w c.toList.toArray cs := by simpa using h
  have := (hc.drop off).take size
  have e : (c.extract off (off + size)) = ((c.toList.drop off).take size).toArray := by
    apply Array.ext'
    simp [List.take_drop]
  rw [e]; exact this

/-- A value of cells. -/
def CellsRep (G : Gh) (n : Nat) (w : World) (P : Program) (t : TypeId) (x : Value) (as : List AV) : Prop :=
  (isAggD ((P.underlying t).getD .bool) = true ∧ ∃ c, x = .agg c ∧ Reps G n w c as) ∨ (isAggD ((P.underlying t).getD .bool) = false ∧ ∃ a, as = [a] ∧ Rep G n w x a)

theorem part_out {P : Program} {G n w} {t : TypeId} {inf : TypeInfo} {d : TypeDesc} (hi : P.info? t = some inf) (hd : P.underlying t = some d) {c : Array Value} {cs : List AV} (h : Reps G n w c cs) {off : Nat}
    (hf : off + inf.size ≤ cs.length) (h1 : isAggD d = false → inf.size = 1) : ∃ x, (part t c off).run P w = .ok x w ∧ CellsRep G n w P t x ((cs.drop off).take inf.size) := by
  unfold part
  simp only [Sem.run_bind, run_isAgg hd, Result.andThen_ok]
  cases hag : isAggD d with
  | true =>
    simp only [if_true, Sem.run_bind, run_sizeOf hi, Result.andThen_ok, Sem.run_pure]
    exact ⟨_, rfl, .inl ⟨by simp [hd, hag], _, rfl, h.sub off inf.size hf⟩⟩
  | false =>
    have hs := h1 hag
    have hlt : off < cs.length := by omega
    have := h.cells off hlt
    simp only [Bool.false_eq_true, if_false, this, Sem.run_pure]
    refine ⟨_, rfl, .inr ⟨by simp [hd, hag], cs.getD off .junk, ?_, h.2 off hlt⟩⟩
    rw [hs]
    simp [List.getD_eq_getElem?_getD, hlt]
    rw [List.drop_eq_getElem_cons hlt]; rfl

theorem alike_len : ∀ {xs ys : List AV}, alike xs ys = true → xs.length = ys.length
  | [], [], _ => rfl
  | [], y :: ys, h => by cases h
  | x :: xs, [], h => by cases x <;> cases h
  | x :: xs, y :: ys, h => by
    cases x <;> cases y <;> first
      | (cases h; done)
      | simp [alike_len (xs := xs) (ys := ys) h]

theorem alike_sub : ∀ {xs ys : List AV} (m : Nat), alike xs ys = true → alike (xs.take m) (ys.take m) = true ∧ alike (xs.drop m) (ys.drop m) = true
  | xs, ys, 0, h => ⟨by simp [alike], by simpa using h⟩
  | [], [], m + 1, h => ⟨rfl, rfl⟩
  | [], y :: ys, _ + 1, h => by cases h
  | x :: xs, [], _ + 1, h => by cases x <;> cases h
  | x :: xs, y :: ys, m + 1, h => by
    cases x <;> cases y <;> first
      | (cases h; done)
      | (obtain ⟨h1, h2⟩ := alike_sub (xs := xs) (ys := ys) m h
         exact ⟨h1, h2⟩)

theorem alike_of_same : ∀ {xs ys zs : List AV} {r : Bool}, sameR xs ys = some r → alike xs zs = true → alike ys zs = true
  | [], [], zs, r, _, h => h
  | [], _ :: _, _, _, h, _ => by cases h
  | _ :: _, [], _, _, h, _ => by cases h
  | x :: xs, y :: ys, [], r, h, h' => by cases x <;> cases h'
  | x :: xs, y :: ys, z :: zs, r, h, h' => by
    simp only [sameR] at h
    split at h
    · rename_i a b h1 h2
      cases x <;> cases y <;> cases z <;> first
        | (cases h'; done)
        | (simp [sameC] at h1; done)
        | exact alike_of_same (xs := xs) (ys := ys) (zs := zs) h2 h'
    · cases h

theorem alike_int {as : List AV} (h : alike as [.int .i64 0] = true) : ∃ k m, as = [.int k m] := by
  rcases as with _ | ⟨a, _ | ⟨b, as⟩⟩
  · cases h
  · cases a <;> first | exact ⟨_, _, rfl⟩ | cases h
  · cases a <;> first | (cases h; done) | (cases b <;> cases h)

theorem alike_bool {as : List AV} (h : alike as [.bool false] = true) : ∃ m, as = [.bool m] := by
  rcases as with _ | ⟨a, _ | ⟨b, as⟩⟩
  · cases h
  · cases a <;> first | exact ⟨_, rfl⟩ | cases h
  · cases a <;> first | (cases h; done) | (cases b <;> cases h)

theorem alike_trans : ∀ {xs ys zs : List AV}, alike xs ys = true → alike ys zs = true → alike xs zs = true
  | [], [], zs, _, h => h
  | [], _ :: _, _, h, _ => by cases h
  | x :: _, [], _, h, _ => by cases x <;> cases h
  | x :: xs, y :: ys, [], h, h' => by cases y <;> cases h'
  | x :: xs, y :: ys, z :: zs, h, h' => by
    cases x <;> cases y <;> first
      | (cases h; done)
      | (cases z <;> first
        | (cases h'; done)
        | exact alike_trans (xs := xs) (ys := ys) (zs := zs) h h')

theorem flat_eq {P : Program} {G : Gh} {n : Nat} {w : World} : ∀ (d : Nat),
    (∀ (dd : Nat) (t : TypeId) (x y : Value) (zs as bs : List AV) (r : Bool), d ≤ dd → flatT P d zs t = true → alike as zs = true → CellsRep G n w P t x as → CellsRep G n w P t y bs → sameR as bs = some r →
      (Op.equalIn dd t x y).run P w = .ok r w) ∧
    (∀ (dd off : Nat) (fs : List Field) (xs ys : Array Value) (zs as bs : List AV) (r : Bool), d ≤ dd → flatFs P d fs off zs = true → alike as zs = true → Reps G n w xs as → Reps G n w ys bs → sameR (as.drop off) (bs.drop off) = some r →
      as.length = bs.length → (Op.eqFields dd xs ys fs).run P w = .ok r w)
  | 0 => by
    refine ⟨fun dd t x y zs as bs r _ h => by simp [flatT] at h, ?_⟩
    intro dd off fs xs ys zs as bs r _ h hl hx hy hs hlen
    have hl' := alike_len hl
    cases fs with
    | nil =>
      simp only [flatFs] at h
      have := Nat.eq_of_beq_eq_true h
      subst this
      rw [List.drop_eq_nil_of_le (by omega), List.drop_eq_nil_of_le (by omega)] at hs
      cases hs
      simp [Op.eqFields]
    | cons f fs => simp [flatFs] at h
  | d + 1 => by
    obtain ⟨ih1, ih2⟩ := flat_eq (P := P) (G := G) (n := n) (w := w) d
    constructor
    · intro dd t x y zs as bs r hdd h hl hx hy hs
      obtain ⟨dd, rfl⟩ : ∃ e, dd = e + 1 := ⟨dd - 1, by omega⟩
      simp only [flatT] at h
      split at h
      · rename_i kd hd
        have ha := alike_trans hl h
        have hb := alike_of_same hs ha
        obtain ⟨k, m, rfl⟩ := alike_int ha
        obtain ⟨k', m', rfl⟩ := alike_int hb
        rcases hx with ⟨e, _⟩ | ⟨_, a, e, hx⟩
        · rw [hd] at e; cases e
        rcases hy with ⟨e', _⟩ | ⟨_, b, e', hy⟩
        · rw [hd] at e'; cases e'
        cases e; cases e'
        obtain rfl := rep_int hx
        obtain rfl := rep_int hy
        simp only [sameR, sameC] at hs
        by_cases e : k = k'
        · subst e
          simp at hs
          rw [run_equalIn_int (h := hd), ← hs]
        · rw [if_neg e] at hs; cases hs
      · rename_i hd
        have ha := alike_trans hl h
        have hb := alike_of_same hs ha
        obtain ⟨m, rfl⟩ := alike_bool ha
        obtain ⟨m', rfl⟩ := alike_bool hb
        rcases hx with ⟨e, _⟩ | ⟨_, a, e, hx⟩
        · rw [hd] at e; cases e
        rcases hy with ⟨e', _⟩ | ⟨_, b, e', hy⟩
        · rw [hd] at e'; cases e'
        cases e; cases e'
        obtain rfl := rep_bool hx
        obtain rfl := rep_bool hy
        simp only [sameR, sameC] at hs
        simp at hs
        rw [run_equalIn_bool (h := hd), ← hs]
      · rename_i fs hd
        simp only [Bool.and_eq_true, Bool.not_eq_true'] at h
        rcases hx with ⟨_, xs, rfl, hx⟩ | ⟨e, _⟩
        rotate_left
        · rw [hd] at e; cases e
        rcases hy with ⟨_, ys, rfl, hy⟩ | ⟨e, _⟩
        rotate_left
        · rw [hd] at e; cases e
        have hfo : P.fieldsOf t = fs := by simp [Program.fieldsOf, hd]
        rw [run_equalIn_struct (ht := by rw [hfo]; exact hd) (hp := h.1), hfo]
        exact ih2 dd 0 fs.toList xs ys zs as bs r (by omega) h.2 hl hx hy (by simpa using hs) (sameR_len hs)
      · cases h
    · intro dd off fs xs ys zs as bs r hdd h hl hx hy hs hlen
      have hl' := alike_len hl
      cases fs with
      | nil =>
        simp only [flatFs] at h
        have := Nat.eq_of_beq_eq_true h
        subst this
        rw [List.drop_eq_nil_of_le (by omega), List.drop_eq_nil_of_le (by omega)] at hs
        cases hs
        simp [Op.eqFields]
      | cons f fs =>
        simp only [flatFs, Bool.and_eq_true] at h
        obtain ⟨⟨hoff, hname⟩, h⟩ := h
        have hoff := Nat.eq_of_beq_eq_true hoff
        split at h
        case h_2 => cases h
        rename_i inf hi
        simp only [Bool.and_eq_true] at h
        obtain ⟨⟨⟨hagg, hfit⟩, hft⟩, hrest⟩ := h
        have hfit := Nat.le_of_ble_eq_true hfit
        split at hagg
        case h_2 => cases hagg
        rename_i ty hd
        have h1 : isAggD ty = false → inf.size = 1 := fun e => by
          rw [e, Bool.false_or] at hagg
          exact Nat.eq_of_beq_eq_true hagg
        obtain ⟨x, hx1, hx2⟩ := part_out hi hd hx (off := off) (by omega) h1
        obtain ⟨y, hy1, hy2⟩ := part_out hi hd hy (off := off) (by omega) h1
        obtain ⟨r1, r2, hs1, hs2, rfl⟩ := sameR_split inf.size hs
        have hal := (alike_sub inf.size (alike_sub off hl).2).1
        have hq := ih1 dd f.type x y _ _ _ r1 (by omega) hft hal hx2 hy2 hs1
        have hname : f.name ≠ "_" := by simpa using hname
        rw [List.drop_drop, List.drop_drop] at hs2
        have hr := ih2 dd (off + inf.size) fs xs ys zs as bs r2 (by omega) hrest hl hx hy hs2 hlen
        simp only [Op.eqFields, hname, ne_eq, not_false_eq_true, if_true, Sem.run_bind, hoff, hx1, hy1, hq, Result.andThen_ok]
        cases r1 with
        | true => simpa using hr
        | false => simp

theorem eq_agg_out {C : Ctx} (hT : TabOk C) {G : Gh} {n : Nat} {w : World} {t : TypeId} {as bs : List AV} {x y : Value} (hx : Rep G n w x (.agg as)) (hy : Rep G n w y (.agg bs)) (hf : (C.tb t).flat = true) (ha : alike as (C.tb t).zero = true) {r : Bool} (hs : sameR as bs = some r)
    (hagg : isAggD ((C.P.underlying t).getD .bool) = true) :
    ∃ xs ys, x = .agg xs ∧ y = .agg ys ∧ (Op.equalIn 10000 t x y).run C.P w = .ok r w ∧ C.P.eqGuardType C.P.depth t = false := by
  obtain ⟨h1, h2⟩ := (hT.ok t).flat hf
  cases hx with
  | agg xs _ g1 g2 =>
    cases hy with
    | agg ys _ q1 q2 =>
      exact ⟨xs, ys, rfl, rfl, (flat_eq 30).1 10000 t _ _ _ as bs r (by omega) h1 ha (.inl ⟨hagg, xs, rfl, g1, g2⟩) (.inl ⟨hagg, ys, rfl, q1, q2⟩) hs, h2⟩

end Av
