/- The abstract machine: how operations run (10): slices, addresses, numbers, comparisons. Own work. -/
import Derived.Test.YtikjkclmninbmaaK09
import Derived.Laws.StructEq
set_option linter.unusedSimpArgs false
set_option linter.unusedVariables false
set_option linter.unnecessarySimpa false
namespace Av
open Go

theorem rep_int {G n w x} {k : IntKind} {m : Int} (h : Rep G n w x (.int k m)) : x = .int k m := by cases h; rfl
theorem rep_bool {G n w x} {b : Bool} (h : Rep G n w x (.bool b)) : x = .bool b := by cases h; rfl

/-! Slices of slices. -/
theorem run_sliceBound {P : Program} {w : World} {k : IntKind} {n : Int} {y : Nat} {c : BoundsCode} (h0 : 0 ≤ n) (h : n ≤ (y : Int)) : (Instr.sliceBound (.int k n) y c).run P w = .ok n.toNat w := by
  simp [Instr.sliceBound, asIntOf, h0, h]

theorem loK_out {G : Gh} {n : Nat} {w : World} {a : Act} {s : List AV} (ht : Reps G n w a.tmps s) {x : Option Operand} {k : Int → Prop} (h : loK s x k) :
    ∃ m, k m ∧ (x.map a.eval = none ∧ m = 0 ∨ ∃ kd, x.map a.eval = some (.int kd m)) := by
  cases x with
  | none => exact ⟨0, h, .inl ⟨rfl, rfl⟩⟩
  | some x =>
    obtain ⟨v, h, hv⟩ := ev_out ht h
    cases v with
    | int kd m => exact ⟨m, h, .inr ⟨kd, by rw [Option.map_some, rep_int hv]⟩⟩
    | _ => exact h.elim

theorem hiK_out {G : Gh} {n : Nat} {w : World} {a : Act} {s : List AV} (ht : Reps G n w a.tmps s) {x : Option Operand} {d : Int} {k : Int → Prop} (h : hiK s x d k) :
    ∃ m, k m ∧ (x = none ∧ x.map a.eval = none ∧ m = d ∨ ∃ kd, x.map a.eval = some (.int kd m)) := by
  cases x with
  | none => exact ⟨d, h, .inl ⟨rfl, rfl, rfl⟩⟩
  | some x =>
    obtain ⟨v, h, hv⟩ := ev_out ht h
    cases v with
    | int kd m => exact ⟨m, h, .inr ⟨kd, by rw [Option.map_some, rep_int hv]⟩⟩
    | _ => exact h.elim

theorem run_bounds {P : Program} {w : World} {len cap : Nat} {lo hi mx : Option Value} {a b : Int} {m : Nat} (ha : lo = none ∧ a = 0 ∨ ∃ kd, lo = some (.int kd a)) (hb : (hi = none ∧ mx = none) ∧ b = (len : Int) ∨ ∃ kd, hi = some (.int kd b))
    (hm : mx = none ∧ m = cap ∨ ∃ kd, mx = some (.int kd (m : Int)) ∧ m ≤ cap) (h0 : 0 ≤ a) (h1 : a ≤ b) (h2 : b ≤ (m : Int)) :
    (Instr.sliceBounds true len cap lo hi mx).run P w = .ok (a.toNat, b.toNat, m) w := by
  have hb0 : 0 ≤ b := by omega
  have e1 : (b.toNat : Int) = b := by omega
  unfold Instr.sliceBounds
  rcases hm with ⟨rfl, rfl⟩ | ⟨kd, rfl, hmc⟩
  · rcases hb with ⟨⟨rfl, _⟩, rfl⟩ | ⟨kb, rfl⟩
    · rcases ha with ⟨rfl, rfl⟩ | ⟨ka, rfl⟩
      · simp
      · have := run_sliceBound (P := P) (w := w) (k := ka) (c := .sliceB) h0 h1
        simp [this]
    · have hr := run_sliceBound (P := P) (w := w) (k := kb) (c := .sliceAcap) hb0 h2
      rcases ha with ⟨rfl, rfl⟩ | ⟨ka, rfl⟩
      · simp [hr]
      · have := run_sliceBound (P := P) (w := w) (k := ka) (y := b.toNat) (c := .sliceB) h0 (by omega)
        simp [hr, this]
  · have hr0 := run_sliceBound (P := P) (w := w) (k := kd) (n := (m : Int)) (y := cap) (c := .slice3Acap) (by omega) (by omega)
    rcases hb with ⟨⟨_, hc⟩, _⟩ | ⟨kb, rfl⟩
    · cases hc
    · have hr := run_sliceBound (P := P) (w := w) (k := kb) (c := .slice3B) hb0 h2
      rcases ha with ⟨rfl, rfl⟩ | ⟨ka, rfl⟩
      · simp [hr0, hr]
      · have := run_sliceBound (P := P) (w := w) (k := ka) (y := b.toNat) (c := .slice3C) h0 (by omega)
        simp [hr0, hr, this]

theorem run_sliceAt {P : Program} {w : World} {t e : TypeId} {inf : TypeInfo} {base : Option Addr} {len cap l h m : Nat} {lo hi mx : Option Value} (ht : P.underlying t = some (.slice e)) (hi' : P.info? e = some inf)
    (hb : (Instr.sliceBounds true len cap lo hi mx).run P w = .ok (l, h, m) w) :
    (Instr.sliceAt t (.slice base len cap) lo hi mx).run P w = .ok (.slice (if m = l then base else base.map (·.add (l * inf.size))) (h - l) (m - l)) w := by
  simp [Instr.sliceAt, Instr.slice, run_underlying ht, hb, Go.sizeOf, typeInfo, hi']

/-- A part of a row. -/
theorem sub_rep {G n w} {u : ETy} {l : List u.C} {b o cap x y m : Nat} {vs : Nat → Nat → Value} (tok : Tok) (hle : l.length ≤ cap)
    (hc : ∀ i j, i < l.length → j < esz u → G.prot b (o + i * esz u + j) ∧ cellAt w b (o + i * esz u + j) = some (vs i j))
    (hr : ∀ i j (h : i < l.length), j < esz u → Rep G n w (vs i j) ((enc u l[i]).getD j .junk)) (hxy : x ≤ y) (hy : y ≤ l.length) (hm : y ≤ m) (htok : tok = .none ∨ tok = .clip ∧ m = y) :
    Rep G n w (.slice (if m = x then some ⟨b, o, none⟩ else (some (⟨b, o, none⟩ : Addr)).map (·.add (x * esz u))) (y - x) (m - x)) (.sl u ((l.take y).drop x) tok) := by
  have hlen : ((l.take y).drop x).length = y - x := by simp; omega
  have htk : ∀ (bb : Nat) (e : Nat × Nat), TokOk G n tok ((l.take y).drop x).length (m - x) bb e := by
    intro bb e
    rcases htok with rfl | ⟨rfl, rfl⟩
    · trivial
    · rw [hlen]; rfl
  have key : ∀ oo : Nat, (oo = o + x * esz u ∨ y - x = 0) → Rep G n w (.slice (some ⟨b, oo, none⟩) (y - x) (m - x)) (.sl u ((l.take y).drop x) tok) := by
    intro oo hoo
    have := Rep.sl (G := G) (n := n) (w := w) u ((l.take y).drop x) tok b oo (m - x) (fun i j => vs (x + i) j) (by rw [hlen]; omega) (fun i j hi hj => ?_) (fun i j hi hj => ?_) (htk _ _)
    · rw [hlen] at this; exact this
    · rw [hlen] at hi
      rcases hoo with rfl | h0
      · have := hc (x + i) j (by omega) hj
        rw [show o + x * esz u + i * esz u + j = o + (x + i) * esz u + j from by rw [Nat.add_mul]; omega]
        exact this
      · omega
    · rw [hlen] at hi
      have e : ((l.take y).drop x)[i]'(by rw [hlen]; exact hi) = l[x + i]'(by omega) := by simp
      rw [e]; exact hr (x + i) j (by omega) hj
  split
  · exact key o (.inr (by omega))
  · simp only [Option.map_some, add_block]; exact key _ (.inl rfl)

theorem sliceK_out {C : Ctx} (hT : TabOk C) {G : Gh} {n : Nat} {w : World} {a : Act} {s : List AV} (ht : Reps G n w a.tmps s) {t : TypeId} {x : Value} {v : AV} (hv : Rep G n w x v) {lo hi mx : Option Operand} {k : AV → Prop}
    (h : sliceK C s t v lo hi mx k) : ∃ y u, (Instr.sliceAt t x (lo.map a.eval) (hi.map a.eval) (mx.map a.eval)).run C.P w = .ok y w ∧ k u ∧ Rep G n w y u := by
  unfold sliceK at h
  have h := typedK_iff.1 h
  have hv := hv.typed C t
  split at h
  · rename_i u l tok heq
    rw [heq] at hv
    obtain ⟨hety, h⟩ := guardK_iff.1 h
    have hety : (C.tb t).ety = some u := by
      unfold etyIs at hety
      split at hety
      · rename_i u' hu'; rw [hu', ETy.is_eq hety]
      · cases hety
    obtain ⟨hsl, i, z, hi', hsz, hby, hz, hzs⟩ := (hT.ok t).ety u hety
    have hund := (hT.ok t).sl hsl
    obtain ⟨p, h, hp⟩ := loK_out ht h
    obtain ⟨q, h, hq⟩ := hiK_out ht h
    obtain ⟨⟨h0, h1, h2⟩, h⟩ := h
    have core : ∀ (m : Nat) (tok : Tok) (base : Option Addr) (cap : Nat), x = .slice base l.length cap → l.length ≤ cap → (Instr.sliceBounds true l.length cap (lo.map a.eval) (hi.map a.eval) (mx.map a.eval)).run C.P w = .ok (p.toNat, q.toNat, m) w →
        q.toNat ≤ m → m ≤ cap → (tok = .none ∨ tok = .clip ∧ m = q.toNat) → k (.sl u ((l.take q.toNat).drop p.toNat) tok) →
        ∃ y u, (Instr.sliceAt t x (lo.map a.eval) (hi.map a.eval) (mx.map a.eval)).run C.P w = .ok y w ∧ k u ∧ Rep G n w y u := by
      intro m tok' base cap hx hcap hb hqm hmc htok hk
      have hrun := run_sliceAt (base := base) hund hi' hb
      rw [← hx] at hrun
      refine ⟨_, _, hrun, hk, ?_⟩
      rcases sl_inv hv with ⟨rfl, ⟨bb, e⟩, _⟩ | ⟨b, o, cap', vs, e, g1, g2, g3, g4⟩
      · rw [hx] at e; cases e
        have e1 : q.toNat = 0 := by simp at h2; omega
        have e2 : p.toNat = 0 := by omega
        have e3 : m = 0 := by omega
        rw [e1, e2, e3]
        refine .slnil _ _ _ ?_
        rcases htok with rfl | ⟨rfl, _⟩ <;> trivial
      · rw [hx] at e; cases e
        rw [hsz]
        exact sub_rep tok' g1 g2 g3 (by omega) (by omega) hqm htok
    have hx : ∃ base cap, x = .slice base l.length cap ∧ l.length ≤ cap := by
      rcases sl_inv hv with ⟨rfl, ⟨bb, e⟩, _⟩ | ⟨b, o, cap', vs, e, g1, g2, g3, g4⟩
      · exact ⟨bb, 0, e, by simp⟩
      · exact ⟨_, _, e, g1⟩
    obtain ⟨base, cap, hx, hcap⟩ := hx
    split at h
    · refine core cap .none base cap hx hcap (run_bounds hp ?_ (.inl ⟨rfl, rfl⟩) h0 h1 (by omega)) (by omega) (Nat.le_refl _) (.inl rfl) h
      rcases hq with ⟨_, e, e2⟩ | r
      · exact .inl ⟨⟨e, rfl⟩, e2⟩
      · exact .inr r
    · rename_i m
      split at h
      · exact h.elim
      · obtain ⟨c, hk, hc⟩ := ev_out ht h
        cases c with
        | int kd c =>
          obtain ⟨rfl, hk⟩ := hk
          have hc := rep_int hc
          rcases hq with ⟨e, _, _⟩ | r
          · cases e
          · refine core c.toNat .clip base cap hx hcap ?_ (Nat.le_refl _) (by omega) (.inr ⟨rfl, rfl⟩) hk
            refine run_bounds hp (.inr r) (.inr ⟨kd, ?_, by omega⟩) h0 h1 (by omega)
            rw [Option.map_some, hc, Int.toNat_of_nonneg (by omega)]
        | _ => exact hk.elim
  · rename_i loc l0 len e heq
    rw [heq] at hv
    obtain ⟨hsl, h⟩ := guardK_iff.1 h
    obtain ⟨hne, h⟩ := guardK_iff.1 h
    obtain ⟨he, h⟩ := guardK_iff.1 h
    have he := Nat.eq_of_beq_eq_true he
    have hund := (hT.ok t).sl hsl
    have hne : (C.tb (C.tb t).elem).size ≠ 0 := by
      rw [← he]; intro e0; rw [e0] at hne; cases hne
    obtain ⟨inf, z, hi', hs', _⟩ := (hT.ok (C.tb t).elem).info hne
    obtain ⟨p, h, hp⟩ := loK_out ht h
    obtain ⟨q, h, hq⟩ := hiK_out ht h
    obtain ⟨⟨h0, h1, h2⟩, hk⟩ := h
    clear h
    split at hk
    · have core : ∀ (base : Option Addr) (cap : Nat), x = .slice base len cap → len ≤ cap → (∀ z, loc < n → Rep G n w z (.osl loc (l0 + p.toNat) (q.toNat - p.toNat) e) → Rep G n w z (.osl loc (l0 + p.toNat) (q.toNat - p.toNat) e)) →
          (Instr.sliceAt t x (lo.map a.eval) (hi.map a.eval) ((none : Option Operand).map a.eval)).run C.P w = .ok (.slice (if cap = p.toNat then base else base.map (·.add (p.toNat * inf.size))) (q.toNat - p.toNat) (cap - p.toNat)) w := by
        intro base cap hx hcap _
        have hb := run_bounds (P := C.P) (w := w) (mx := none) (cap := cap) (len := len) (m := cap) hp (by
          rcases hq with ⟨_, e, e2⟩ | r
          · exact .inl ⟨⟨e, rfl⟩, e2⟩
          · exact .inr r) (.inl ⟨rfl, rfl⟩) h0 h1 (by omega)
        have := run_sliceAt (base := base) hund hi' hb
        rw [← hx] at this
        exact this
      cases hv with
      | osl0 _ _ _ ad cap hl hoa =>
        have e1 : q.toNat = 0 := by omega
        refine ⟨_, _, core _ _ rfl (by omega) (fun _ _ h => h), hk, ?_⟩
        rw [e1, Nat.zero_sub]
        refine .osl0 _ _ _ _ _ hl ?_
        rcases hoa with rfl | ⟨b, o, rfl⟩
        · exact .inl (by simp)
        · refine .inr ?_
          split
          · exact ⟨_, _, rfl⟩
          · exact ⟨_, _, by rw [Option.map_some, add_block]⟩
      | osl _ _ _ _ cap hl hcap hn =>
        refine ⟨_, _, core _ _ rfl hcap (fun _ _ h => h), hk, ?_⟩
        by_cases h3 : q.toNat - p.toNat = 0
        · rw [h3]
          refine .osl0 _ _ _ _ _ hl (.inr ?_)
          split
          · exact ⟨_, _, rfl⟩
          · exact ⟨_, _, by rw [Option.map_some, add_block]⟩
        · rw [if_neg (by omega), Option.map_some, add_block, hs', ← he, ← Nat.add_mul]
          exact .osl _ _ _ _ _ hl (by omega) h3
    · exact hk.elim
  · exact h.elim

end Av
