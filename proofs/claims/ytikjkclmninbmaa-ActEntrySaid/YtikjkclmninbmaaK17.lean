/- The abstract machine: regions of any order come to what one order comes to. The abstract machine: how code runs (3): code. Own work. -/
import Derived.Test.YtikjkclmninbmaaK16
import Derived.ScopeJumps
section
set_option linter.unusedSimpArgs false
set_option linter.unusedVariables false
set_option linter.unnecessarySimpa false
namespace Av
open Go

def AgL (ops : Array Oper) (o : Oper) (s s' : List AV) : Prop := ∀ t, t ∈ o.looksAt ops → s[t]? = s'[t]?

theorem AgL.op {ops : Array Oper} {o : Oper} {s s' : List AV} (h : AgL ops o s s') : ∀ x, x ∈ o.op.operands.toList → Ag s s' x := fun x hx t e => by
  subst e
  exact h t (List.mem_append_left _ (List.mem_filterMap.2 ⟨.tmp t, hx, rfl⟩))

theorem AgL.guard {ops : Array Oper} {o : Oper} {s s' : List AV} (h : AgL ops o s s') : guardOk ops.toList o s = guardOk ops.toList o s' := by
  unfold guardOk
  rcases hg : o.guard with _ | ⟨j, want⟩
  · rfl
  · simp only
    cases hd : dstOf ops.toList j with
    | none => rfl
    | some d =>
      have : s[d]? = s'[d]? := by
        refine h d (List.mem_append_right _ ?_)
        rw [hg]
        rw [dstOf_eq] at hd
        have hd' : (ops[j]?).bind (·.dst) = some d := by simpa using hd
        simp [hd']
      simp only [this]

theorem put1_get {s : List AV} {d : Option Tmp} {v : AV} {t : Nat} (h : d ≠ some t) : (put1 s d v)[t]? = s[t]? := by
  cases d with
  | none => rfl
  | some d => exact List.getElem?_set_ne (fun e => h (by rw [e]))

theorem put1_len {s : List AV} {d : Option Tmp} {v : AV} : (put1 s d v).length = s.length := by cases d <;> simp [put1]

theorem put1_comm {s : List AV} {d e : Option Tmp} {u v : AV} (h : ∀ t, d = some t → e ≠ some t) : put1 (put1 s d u) e v = put1 (put1 s e v) d u := by
  cases d with
  | none => rfl
  | some d =>
    cases e with
    | none => rfl
    | some e =>
      have : d ≠ e := fun q => h d rfl (by rw [q])
      exact List.set_comm _ _ this

theorem stepK_mono {C : Ctx} {all : List Oper} {o : Oper} {s : List AV} {H : List AObj} {K K' : List AV → List AObj → Prop} (h : stepK C true all o s H K)
    (hk : ∀ u H', putOk s o.dst → (quietOp C.located C.owns o.dst o.op = true ∨ pushOp C.wild o.dst o.op = true → ∃ X, H' = H ++ X) → K (put1 s o.dst u) H' → K' (put1 s o.dst u) H') : stepK C true all o s H K' := by
  rcases stepK_iff.1 h with ⟨hg, h⟩ | ⟨hg, h⟩
  · refine stepK_iff.2 (.inl ⟨hg, opK_mono h fun v H' hp h => ?_⟩)
    have h := putK_iff.1 h
    exact putK_iff.2 ⟨h.1, hk v H' h.1 hp h.2⟩
  · have h := putK_iff.1 h
    exact stepK_iff.2 (.inr ⟨hg, putK_iff.2 ⟨h.1, hk .undef H h.1 (fun _ => ⟨[], by simp⟩) h.2⟩⟩)

/-- An operation beside a tmp that it doesn't look at. -/
theorem step_loc {C : Ctx} {ops : Array Oper} {o : Oper} {s : List AV} {H : List AObj} {d : Option Tmp} {v : AV} {K : List AV → List AObj → Prop} (h1 : ∀ t, d = some t → t ∉ o.looksAt ops) (h2 : ∀ t, d = some t → o.dst ≠ some t)
    (h : stepK C true ops.toList o (put1 s d v) H K) :
    stepK C true ops.toList o s H fun s' H' => (quietOp C.located C.owns o.dst o.op = true ∨ pushOp C.wild o.dst o.op = true → ∃ X, H' = H ++ X) ∧ (∃ u, s' = put1 s o.dst u) ∧ putOk s o.dst ∧ K (put1 s' d v) H' := by
  have hag : AgL ops o (put1 s d v) s := fun t ht => put1_get fun e => h1 t e ht
  have hok : putOk (put1 s d v) o.dst → putOk s o.dst := fun h t e => by have := h t e; rwa [put1_len] at this
  rcases stepK_iff.1 h with ⟨hg, h⟩ | ⟨hg, h⟩
  · refine stepK_iff.2 (.inl ⟨by rw [← hag.guard]; exact hg, ?_⟩)
    unfold opThen at *
    rw [opK_congr hag.op] at h
    refine opK_mono h fun u H' hp h => ?_
    have h := putK_iff.1 h
    refine putK_iff.2 ⟨hok h.1, hp, ⟨u, rfl⟩, hok h.1, ?_⟩
    rw [put1_comm (d := o.dst) (e := d) (fun t e q => h2 t q e)]
    exact h.2
  · have h := putK_iff.1 h
    refine stepK_iff.2 (.inr ⟨by rw [← hag.guard]; exact hg, putK_iff.2 ⟨hok h.1, fun _ => ⟨[], by simp⟩, ⟨_, rfl⟩, hok h.1, ?_⟩⟩)
    rw [put1_comm (d := o.dst) (e := d) (fun t e q => h2 t q e)]
    exact h.2

/-- It comes to v, wherever it is carried out. -/
def YieldA (C : Ctx) (ops : Array Oper) (o : Oper) (s0 : List AV) (H0 : List AObj) (v : AV) : Prop :=
  ∀ (s' : List AV) (H' : List AObj) (k' : List AV → List AObj → Prop), AgL ops o s0 s' → (readsHeap o.op = true → ∃ X, H' = H0 ++ X) → putOk s' o.dst → k' (put1 s' o.dst v) H' → stepK C true ops.toList o s' H' k'

theorem any_first {C : Ctx} {ops : Array Oper} {i : Nat} {oi : Oper} (hi : ops[i]? = some oi) (hq : quietOp C.located C.owns oi.dst oi.op = true) {s0 : List AV} {H0 : List AObj} {v : AV} (hy : YieldA C ops oi s0 H0 v) {k : List AV → List AObj → Prop} {B : Nat → Prop}
    (hB : ∀ j oj, ops[j]? = some oj → B j → ∃ e ∈ oj.after, Region.binds .any e = true ∧ (e.on = i ∨ B e.on)) :
    ∀ (n : Nat) (listed : Array Bool) (s : List AV) (H : List AObj), (∀ j, B j → listed.getD j true = false) →
      (∀ j oj, ops[j]? = some oj → j ≠ i → listed.getD j true = false → ¬ B j → oi.apart ops oj = true ∧ (readsHeap oi.op = true → quietOp C.located C.owns oj.dst oj.op = true ∨ pushOp C.wild oj.dst oj.op = true)) →
      i ∈ Region.ready .any ops listed → AgL ops oi s0 s → (readsHeap oi.op = true → ∃ X, H = H0 ++ X) → putOk s oi.dst →
      anyK C ops k n (listed.setIfInBounds i true) (put1 s oi.dst v) H → anyK C ops k (n + 1) listed s H := by
  intro n
  induction n with
  | zero =>
    intro listed s H hBl hfree hr hag hX hok h
    refine ⟨fun e => (by rw [e] at hr; cases hr), fun j hj => ?_⟩
    by_cases hji : j = i
    · subst hji
      exact ⟨oi, hi, hy s H _ hag hX hok h⟩
    · have := ready_mono hj hji
      rw [h.1] at this
      cases this
  | succ n ih =>
    intro listed s H hBl hfree hr hag hX hok h
    refine ⟨fun e => (by rw [e] at hr; cases hr), fun j hj => ?_⟩
    by_cases hji : j = i
    · subst hji
      exact ⟨oi, hi, hy s H _ hag hX hok h⟩
    · obtain ⟨oj, hoj, h1⟩ := h.2 j (ready_mono hj hji)
      refine ⟨oj, hoj, ?_⟩
      obtain ⟨hjun, oj', hoj', hall⟩ := mem_ready.1 hj
      rw [hoj] at hoj'
      cases hoj'
      have hun0 := (mem_ready.1 hr).1
      have hnot : ¬ B j := fun hb => by
        obtain ⟨e, he, hbd, hor⟩ := hB j oj hoj hb
        have h1 := hall e he hbd
        have h0 : listed.getD e.on true = false := by
          rcases hor with heq | hbe
          · rw [heq]; exact hun0
          · exact hBl _ hbe
        rcases Nat.lt_or_ge e.on listed.size with h' | h'
        · simp [h'] at h0 h1; rw [h0] at h1; cases h1
        · simp [Array.getElem?_eq_none h'] at h1
      obtain ⟨hap, hheap⟩ := hfree j oj hoj hji hjun hnot
      obtain ⟨a1, a2, a3⟩ := Oper.apart_spec hap
      refine stepK_mono (step_loc a1 a2 h1) fun u H' _ _ hh => ?_
      obtain ⟨hpre, ⟨u', hu'⟩, _, hrest⟩ := hh
      refine ih (listed.setIfInBounds j true) (put1 s oj.dst u) H' (fun q hq => ?_) ?_ (ready_mono hr (Ne.symm hji)) (fun t ht => ?_) (fun hrd => ?_) (fun t e => by rw [put1_len]; exact hok t e) ?_
      · have hjq : j ≠ q := fun e => hnot (e ▸ hq)
        rw [getD_set_ne true hjq]
        exact hBl q hq
      · intro q oq hoq hqi hun hno
        refine hfree q oq hoq hqi ?_ hno
        by_cases hjq : j = q
        · subst hjq; exact hjun
        · rw [getD_set_ne true hjq] at hun; exact hun
      · rw [put1_get (fun e => a3 t e ht)]; exact hag t ht
      · obtain ⟨X, rfl⟩ := hX hrd
        obtain ⟨Y, rfl⟩ := hpre (hheap hrd)
        exact ⟨X ++ Y, by rw [List.append_assoc]⟩
      · rw [Array.setIfInBounds_comm _ _ hji]
        exact hrest

theorem onNone_iff {i : Nat} : ∀ {l : List Edge}, onNone i l = true ↔ ∀ e ∈ l, Region.binds .any e = true → e.on ≠ i
  | [] => by simp [onNone]
  | e :: l => by
    simp only [onNone, Bool.and_eq_true, onNone_iff (l := l), List.mem_cons, forall_eq_or_imp]
    refine and_congr ?_ Iff.rfl
    simp only [Bool.not_eq_true', Bool.and_eq_false_iff]
    constructor
    · rintro (h | h) hb heq
      · rw [heq, Nat.beq_refl] at h; cases h
      · rw [hb] at h; cases h
    · intro h
      by_cases hb : Region.binds .any e = true
      · left
        cases hq : Nat.beq e.on i with
        | true => exact absurd (Nat.eq_of_beq_eq_true hq) (h hb)
        | false => rfl
      · right; simpa using hb

theorem allFrom_iff {p : Nat → Oper → Bool} : ∀ {l : List Oper} {m : Nat}, allFrom p l m = true → ∀ j o, l[j]? = some o → p (m + j) o = true
  | [], m, _, j, o, h => by simp at h
  | x :: l, m, hp, 0, o, h => by
    simp only [allFrom, Bool.and_eq_true] at hp
    cases h
    exact hp.1
  | x :: l, m, hp, j + 1, o, h => by
    simp only [allFrom, Bool.and_eq_true] at hp
    have := allFrom_iff hp.2 j o (by simpa using h)
    rw [show m + (j + 1) = m + 1 + j from by omega]
    exact this

/-- Those that wait for i. -/
def Waits (ops : Array Oper) (listed : Array Bool) (i j : Nat) : Prop := listed.getD j true = false ∧ ∃ f oj, ops[j]? = some oj ∧ waits ops listed i f oj = true

theorem waits_step {ops : Array Oper} {listed : Array Bool} {i j : Nat} {oj : Oper} (hj : ops[j]? = some oj) (h : Waits ops listed i j) : ∃ e ∈ oj.after, Region.binds .any e = true ∧ (e.on = i ∨ Waits ops listed i e.on) := by
  obtain ⟨_, f, oj', hj', hw⟩ := h
  rw [hj] at hj'
  cases hj'
  cases f with
  | zero =>
    simp only [waits, Bool.not_eq_true'] at hw
    have hn : ¬ onNone i oj.after.toList = true := by rw [hw]; simp
    rw [onNone_iff] at hn
    simp only [Classical.not_forall] at hn
    obtain ⟨e, he, hb, heq⟩ := hn
    exact ⟨e, by simpa using he, hb, .inl (Classical.not_not.1 heq)⟩
  | succ f =>
    simp only [waits, List.any_eq_true, Bool.and_eq_true, Bool.or_eq_true, Bool.not_eq_true'] at hw
    obtain ⟨e, he, hb, hor⟩ := hw
    refine ⟨e, by simpa using he, hb, ?_⟩
    rcases hor with h1 | ⟨h1, h2⟩
    · exact .inl (Nat.eq_of_beq_eq_true h1)
    · right
      split at h2
      · rename_i q' hq'
        exact ⟨h1, f, q', by simpa using hq', h2⟩
      · cases h2

theorem draw_step {C : Ctx} {ops : Array Oper} {k : List AV → List AObj → Prop} {i : Nat} {o : Oper} (ho' : ops[i]? = some o) (n : Nat) (listed : Array Bool) (s : List AV) (H : List AObj)
    (hready : i ∈ Region.ready .any ops listed)
    (hok1 : (match Region.ready .any ops listed with
        | [_] => true
        | _ => quietOp C.located C.owns o.dst o.op && allFrom (fun j q => Nat.beq j i || listed.getD j true || waits ops listed i 8 q || (Oper.apart ops o q && (!readsHeap o.op || quietOp C.located C.owns q.dst q.op || pushOp C.wild q.dst q.op))) ops.toList 0) = true)
    {K : List AV → List AObj → Prop} (hst : stepK C true ops.toList o s H K) (ih : ∀ s' H', K s' H' → anyK C ops k n (listed.setIfInBounds i true) s' H') : anyK C ops k (n + 1) listed s H := by
    split at hok1
    · rename_i j hj
      rw [hj] at hready
      have : i = j := by simpa using hready
      subst this
      refine ⟨fun e => (by rw [hj] at e; cases e), fun q hq => ?_⟩
      rw [hj] at hq
      have : q = i := by simpa using hq
      subst this
      exact ⟨o, ho', stepK_mono hst fun u H' _ _ hh => ih _ _ hh⟩
    · simp only [Bool.and_eq_true] at hok1
      obtain ⟨hq, hall⟩ := hok1
      have hfree : ∀ j oj, ops[j]? = some oj → j ≠ i → listed.getD j true = false → ¬ Waits ops listed i j → o.apart ops oj = true ∧ (readsHeap o.op = true → quietOp C.located C.owns oj.dst oj.op = true ∨ pushOp C.wild oj.dst oj.op = true) := by
        intro j oj hj hji hun hno
        have := allFrom_iff hall j oj (by simpa using hj)
        rw [Nat.zero_add] at this
        have hb : Nat.beq j i = false := by
          cases hb : Nat.beq j i with
          | true => exact absurd (Nat.eq_of_beq_eq_true hb) hji
          | false => rfl
        have hon : waits ops listed i 8 oj = false := by
          cases hw : waits ops listed i 8 oj with
          | true => exact absurd ⟨hun, 8, oj, hj, hw⟩ hno
          | false => rfl
        simp only [hb, hun, hon, Bool.false_or, Bool.or_eq_true, Bool.and_eq_true, Bool.not_eq_true'] at this
        refine ⟨this.1, fun hrd => ?_⟩
        rcases this.2 with (h1 | h1) | h1
        · rw [hrd] at h1; cases h1
        · exact .inl h1
        · exact .inr h1
      rcases stepK_iff.1 hst with ⟨hg, h⟩ | ⟨hg, h⟩
      · obtain ⟨v, h1, h2⟩ := quiet_out hq h
        have h1 := putK_iff.1 h1
        refine any_first (B := Waits ops listed i) ho' hq (hB := fun j oj hj hw => waits_step hj hw) (s0 := s) (H0 := H) (v := v) (fun s' H' k' hag hX hp hk => ?_) n listed s H (fun j hj => hj.1) hfree hready (fun t _ => rfl) (fun _ => ⟨[], by simp⟩) h1.1 (ih _ _ h1.2)
        refine stepK_iff.2 (.inl ⟨by rw [← hag.guard]; exact hg, ?_⟩)
        unfold opThen
        rw [← opK_congr hag.op]
        exact h2 H' _ hX (putK_iff.2 ⟨hp, hk⟩)
      · have h1 := putK_iff.1 h
        refine any_first (B := Waits ops listed i) ho' hq (hB := fun j oj hj hw => waits_step hj hw) (s0 := s) (H0 := H) (v := .undef) (fun s' H' k' hag hX hp hk => ?_) n listed s H (fun j hj => hj.1) hfree hready (fun t _ => rfl) (fun _ => ⟨[], by simp⟩) h1.1 (ih _ _ h1.2)
        exact stepK_iff.2 (.inr ⟨by rw [← hag.guard]; exact hg, putK_iff.2 ⟨hp, hk⟩⟩)

theorem mem_heads {a b : OT} {i : Nat} (h : ((a.heads ++ b.heads).contains i) = true) : i ∈ a.heads ∨ i ∈ b.heads := by
  have : i ∈ a.heads ++ b.heads := by simpa using h
  exact List.mem_append.1 this

theorem draw_any {C : Ctx} {ops : Array Oper} {k : List AV → List AObj → Prop} : ∀ (t : OT), (∀ (n : Nat) (listed : Array Bool) (s : List AV) (H : List AObj), t.depth ≤ n → drawOk C.located C.owns C.wild ops t listed = true →
      opsD C ops.toList t s H k → anyK C ops k n listed s H) ∧
    (∀ (n : Nat) (listed : Array Bool) (s : List AV) (H : List AObj), t.depth ≤ n + 1 → drawOk.drawAlt C.located C.owns C.wild ops t listed = true → opsD C ops.toList t s H k →
      ∀ i ∈ t.heads, ∃ o, ops[i]? = some o ∧ stepK C true ops.toList o s H (anyK C ops k n (listed.setIfInBounds i true)))
  | .done => by
    refine ⟨fun n listed s H hn hok h => ?_, fun n listed s H hn hok h => by simp [drawOk.drawAlt] at hok⟩
    have hr : Region.ready .any ops listed = [] := by
      simp only [drawOk] at hok
      split at hok
      · assumption
      · cases hok
    cases n with
    | zero => exact ⟨hr, h⟩
    | succ n => exact ⟨fun _ => h, fun i hi => by rw [hr] at hi; cases hi⟩
  | .one i t => by
    have ih := (draw_any (C := C) (ops := ops) (k := k) t).1
    refine ⟨fun n listed s H hn hok h => ?_, fun n listed s H hn hok h j hj => ?_⟩
    · obtain ⟨o, ho, hst⟩ := nthK_iff.1 h
      have ho' : ops[i]? = some o := by simpa using ho
      simp only [drawOk, ho, Bool.and_eq_true] at hok
      obtain ⟨⟨hready, hok1⟩, hok2⟩ := hok
      have hready : i ∈ Region.ready .any ops listed := by simpa using hready
      simp only [OT.depth] at hn
      obtain ⟨n, rfl⟩ : ∃ m, n = m + 1 := ⟨n - 1, by omega⟩
      exact draw_step ho' n listed s H hready hok1 hst fun s' H' hh => ih n _ s' H' (by omega) hok2 hh
    · simp only [OT.heads, List.mem_singleton] at hj
      subst hj
      obtain ⟨o, ho, hst⟩ := nthK_iff.1 h
      have ho' : ops[j]? = some o := by simpa using ho
      simp only [drawOk.drawAlt, Bool.and_eq_true] at hok
      simp only [OT.depth] at hn
      exact ⟨o, ho', stepK_mono hst fun u H' _ _ hh => ih n _ _ _ (by omega) hok.2 hh⟩
  | .alt a b => by
    have iha := (draw_any (C := C) (ops := ops) (k := k) a).2
    have ihb := (draw_any (C := C) (ops := ops) (k := k) b).2
    refine ⟨fun n listed s H hn hok h => ?_, fun n listed s H hn hok h j hj => ?_⟩
    · simp only [drawOk, Bool.and_eq_true, List.all_eq_true] at hok
      simp only [OT.depth] at hn
      obtain ⟨⟨⟨h0, h1⟩, h2⟩, h3⟩ := hok
      have hpos : ∀ {t : OT}, drawOk.drawAlt C.located C.owns C.wild ops t listed = true → 1 ≤ t.depth := by
        intro t
        induction t with
        | done => intro h; simp [drawOk.drawAlt] at h
        | one i t _ => intro _; simp [OT.depth]
        | alt a b iha ihb =>
          intro h
          simp only [drawOk.drawAlt, Bool.and_eq_true] at h
          have := iha h.1
          simp only [OT.depth]
          omega
      have p1 := hpos h2
      obtain ⟨n, rfl⟩ : ∃ m, n = m + 1 := ⟨n - 1, by omega⟩
      refine ⟨fun e => ?_, fun i hi => ?_⟩
      · rw [e] at h0; cases h0
      · rcases mem_heads (h1 i hi) with q | q
        · exact iha n listed s H (by omega) h2 h.1 i q
        · exact ihb n listed s H (by omega) h3 h.2 i q
    · simp only [drawOk.drawAlt, Bool.and_eq_true] at hok
      simp only [OT.depth] at hn
      simp only [OT.heads, List.mem_append] at hj
      rcases hj with q | q
      · exact iha n listed s H (by omega) hok.1 h.1 j q
      · exact ihb n listed s H (by omega) hok.2 h.2 j q

end Av
end
section
set_option linter.unusedSimpArgs false
set_option linter.unusedVariables false
set_option linter.unnecessarySimpa false
namespace Av
open Go

structure CtxOk (C : Ctx) : Prop extends TabOk C where
  mixed : C.P.follows .mixedOrders = true

theorem RealCode.mono {P : Program} {c : Code} {Q Q' : Out → St → Prop} {s : St} (h : RealCode P c Q s) (hq : ∀ o s', Q o s' → Q' o s') : RealCode P c Q' s where
  run G a w hs := wpIn_mono (h.run G a w hs) fun e a' w' ⟨o, s', G', e1, q, rest⟩ => ⟨o, s', G', e1, hq o s' q, rest⟩

theorem region_draw_sound {C : Ctx} (hT : CtxOk C) {id : Nat} {ops : Array Oper} {s : List AV} {H : List AObj} {Q : Out → St → Prop} {t : OT} (hok : drawnOk C ops t = true)
    (h : opsD C ops.toList t s H fun s H => Q .normal ⟨s, H⟩) : RealCode C.P (.region id ops true) Q ⟨s, H⟩ where
  run G a w hs := by
    simp only [drawnOk, Bool.and_eq_true] at hok
    refine wpIn_region_any hT.mixed ?_
    have hs' : SimS G ⟨s, H⟩ a { w with drawn := w.drawn + 1 } := ⟨hs.sim.same rfl, hs.tmps.mono (w' := { w with drawn := w.drawn + 1 }) (Le.same (w := w) rfl), hs.defers⟩
    have he : Ext G H w G H { w with drawn := w.drawn + 1 } := Ext.same rfl rfl rfl rfl
    exact any_sound hT.toTabOk ops.size _ hs' ((draw_any t).1 ops.size _ s H (Nat.le_of_ble_eq_true hok.1) hok.2 h) fun s' H' G' a' w' hk hs2 he2 => ⟨.normal, _, G', rfl, hk, hs2, he.trans he2⟩

theorem awp_sound {C : Ctx} (hT : CtxOk C) : ∀ (c : Code) {Q : Out → St → Prop} {s : List AV} {H : List AObj}, awp C c Q s H → RealCode C.P c Q ⟨s, H⟩ := by
  intro c
  induction c with
  | skip => exact fun h => ⟨fun G a w hs => wpIn_skip ⟨.normal, _, G, rfl, h, hs, Ext.refl _ _ _⟩⟩
  | label l => exact fun h => ⟨fun G a w hs => wpIn_label ⟨.normal, _, G, rfl, h, hs, Ext.refl _ _ _⟩⟩
  | exit id => exact fun h => ⟨fun G a w hs => wpIn_exit ⟨.exit id, _, G, rfl, h, hs, Ext.refl _ _ _⟩⟩
  | goto l => exact fun h => ⟨fun G a w hs => wpIn_goto ⟨.goto l, _, G, rfl, h, hs, Ext.refl _ _ _⟩⟩
  | ret => exact fun h => ⟨fun G a w hs => wpIn_ret ⟨.ret, _, G, rfl, h, hs, Ext.refl _ _ _⟩⟩
  | seq x y ihx ihy =>
    intro Q s H h
    refine ⟨fun G a w hs => wpIn_seq (wpIn_mono ((ihx h).run G a w hs) ?_)⟩
    rintro e a1 w1 ⟨o, s1, G1, rfl, hq, hs1, he1⟩
    cases o with
    | normal =>
      obtain ⟨s1, H1⟩ := s1
      exact wpIn_mono ((ihy hq).run G1 a1 w1 hs1) fun e a2 w2 ⟨o, s2, G2, e1, q, hs2, he2⟩ => ⟨o, s2, G2, e1, q, hs2, he1.trans he2⟩
    | exit i => exact ⟨.exit i, s1, G1, rfl, hq, hs1, he1⟩
    | goto l => exact ⟨.goto l, s1, G1, rfl, hq, hs1, he1⟩
    | ret => exact ⟨.ret, s1, G1, rfl, hq, hs1, he1⟩
  | cond c x y ihx ihy =>
    intro Q s H h
    refine ⟨fun G a w hs => ?_⟩
    obtain ⟨v, h, hv⟩ := ev_out hs.tmps h
    cases v with
    | bool p =>
      have e := rep_bool hv
      cases p with
      | true => exact wpIn_cond_true e ((ihx h).run G a w hs)
      | false => exact wpIn_cond_false e ((ihy h).run G a w hs)
    | _ => exact h.elim
  | block id x ih =>
    intro Q s H h
    refine ⟨fun G a w hs => wpIn_block (wpIn_mono ((ih h).run G a w hs) ?_)⟩
    rintro e a1 w1 ⟨o, s1, G1, rfl, hq, hs1, he1⟩
    cases o with
    | normal => exact ⟨.normal, s1, G1, rfl, hq, hs1, he1⟩
    | exit i =>
      simp only at hq
      show if i = id then _ else _
      cases hb : Nat.beq i id with
      | true =>
        rw [hb] at hq
        rw [if_pos (Nat.eq_of_beq_eq_true hb)]
        exact ⟨.normal, s1, G1, rfl, hq, hs1, he1⟩
      | false =>
        rw [hb] at hq
        rw [if_neg (fun e => by subst e; rw [Nat.beq_refl] at hb; cases hb)]
        exact ⟨.exit i, s1, G1, rfl, hq, hs1, he1⟩
    | goto l => exact ⟨.goto l, s1, G1, rfl, hq, hs1, he1⟩
    | ret => exact ⟨.ret, s1, G1, rfl, hq, hs1, he1⟩
  | region id ops draw =>
    intro Q s H h
    cases draw with
    | false => exact region_sound hT.toTabOk h
    | true =>
      obtain ⟨h1, h2⟩ := h
      exact region_draw_sound hT h1 h2
  | loop x ih => exact fun h => h
  | scope x ih => exact fun h => h
  | rangeFunc f ps x y ihx ihy => exact fun h => h.elim
  | refuse why => exact fun h => h.elim

/-! Loops and jumps. -/
theorem exists_least {p : Nat → Prop} (h : ∃ n, p n) : ∃ n, p n ∧ ∀ m, p m → n ≤ m := by
  obtain ⟨n, hn⟩ := h
  induction n using Nat.strongRecOn with
  | _ n ih =>
    by_cases q : ∃ m, m < n ∧ p m
    · obtain ⟨m, hm, hp⟩ := q
      exact ih m hm hp
    · exact ⟨n, hn, fun m hm => Nat.le_of_not_lt fun hl => q ⟨m, hl, hm⟩⟩

open Classical in
noncomputable def least (p : Nat → Prop) : Nat := if h : ∃ n, p n then Classical.choose (exists_least h) else 0

theorem least_spec {p : Nat → Prop} (h : ∃ n, p n) : p (least p) ∧ ∀ m, p m → least p ≤ m := by
  unfold least
  rw [dif_pos h]
  exact Classical.choose_spec (exists_least h)

theorem loop_rule {P : Program} {b : Code} {Q : Out → St → Prop} {s : St} (I : St → Prop) (μ : St → Nat) (h0 : I s)
    (round : ∀ s, I s → RealCode P b (fun o s' => match o with
      | .normal => I s' ∧ μ s' < μ s
      | o => Q o s') s) : RealCode P (.loop b) Q s where
  run G a w hs := by
    let R : Nat → Act → World → Prop := fun n a1 w1 => ∃ s1 G1, I s1 ∧ SimS G1 s1 a1 w1 ∧ Ext G s.heap w G1 s1.heap w1 ∧ μ s1 = n
    refine wpIn_loop (fun a1 w1 => ∃ n, R n a1 w1) (fun a1 w1 => least fun n => R n a1 w1) ⟨_, s, G, h0, hs, Ext.refl _ _ _, rfl⟩ fun a1 w1 hR => ?_
    obtain ⟨⟨s1, G1, hi, hs1, he1, hm⟩, _⟩ := least_spec hR
    refine wpIn_mono ((round s1 hi).run G1 a1 w1 hs1) ?_
    rintro e a2 w2 ⟨o, s2, G2, rfl, hq, hs2, he2⟩
    cases o with
    | normal =>
      have hR2 : R (μ s2) a2 w2 := ⟨s2, G2, hq.1, hs2, he1.trans he2, rfl⟩
      refine ⟨⟨_, hR2⟩, ?_⟩
      have := (least_spec (p := fun n => R n a2 w2) ⟨_, hR2⟩).2 _ hR2
      exact Nat.lt_of_le_of_lt this (by rw [← hm]; exact hq.2)
    | exit i => exact ⟨.exit i, s2, G2, rfl, hq, hs2, he1.trans he2⟩
    | goto l => exact ⟨.goto l, s2, G2, rfl, hq, hs2, he1.trans he2⟩
    | ret => exact ⟨.ret, s2, G2, rfl, hq, hs2, he1.trans he2⟩

theorem scope_rule {P : Program} {c rest : Code} {Q : Out → St → Prop} {s : St} (l : Nat) (I : St → Prop) (μ : St → Nat) (hf : findLabel c l = some rest)
    (first : RealCode P c (fun o s' => match o with
      | .goto l' => l' = l ∧ I s'
      | o => Q o s') s)
    (pass : ∀ s, I s → RealCode P rest (fun o s' => match o with
      | .goto l' => l' = l ∧ I s' ∧ μ s' < μ s
      | o => Q o s') s) : RealCode P (.scope c) Q s where
  run G a w hs := by
    let R : Nat → Act → World → Prop := fun n a1 w1 => ∃ s1 G1, I s1 ∧ SimS G1 s1 a1 w1 ∧ Ext G s.heap w G1 s1.heap w1 ∧ μ s1 = n
    rw [wpIn_wide]
    refine wp_scope_jumps l (fun a1 w1 => ∃ n, R n a1 w1) (fun a1 w1 => least fun n => R n a1 w1) hf ?_ fun a1 w1 hR => ?_
    · rw [← wpIn_wide (n := 0)]
      refine wpIn_mono (first.run G a w hs) ?_
      rintro e a2 w2 ⟨o, s2, G2, rfl, hq, hs2, he2⟩
      cases o with
      | normal => exact ⟨.normal, s2, G2, rfl, hq, hs2, he2⟩
      | exit i => exact ⟨.exit i, s2, G2, rfl, hq, hs2, he2⟩
      | goto l' => exact ⟨hq.1, _, s2, G2, hq.2, hs2, he2, rfl⟩
      | ret => exact ⟨.ret, s2, G2, rfl, hq, hs2, he2⟩
    · rw [← wpIn_wide (n := 0)]
      obtain ⟨⟨s1, G1, hi, hs1, he1, hm⟩, _⟩ := least_spec hR
      refine wpIn_mono ((pass s1 hi).run G1 a1 w1 hs1) ?_
      rintro e a2 w2 ⟨o, s2, G2, rfl, hq, hs2, he2⟩
      cases o with
      | normal => exact ⟨.normal, s2, G2, rfl, hq, hs2, he1.trans he2⟩
      | exit i => exact ⟨.exit i, s2, G2, rfl, hq, hs2, he1.trans he2⟩
      | goto l' =>
        have hR2 : R (μ s2) a2 w2 := ⟨s2, G2, hq.2.1, hs2, he1.trans he2, rfl⟩
        refine ⟨hq.1, ⟨_, hR2⟩, ?_⟩
        have := (least_spec (p := fun n => R n a2 w2) ⟨_, hR2⟩).2 _ hR2
        exact Nat.lt_of_le_of_lt this (by rw [← hm]; exact hq.2.2)
      | ret => exact ⟨.ret, s2, G2, rfl, hq, hs2, he1.trans he2⟩

end Av
end
