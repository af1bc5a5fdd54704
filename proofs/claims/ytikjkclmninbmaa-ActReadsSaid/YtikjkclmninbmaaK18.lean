/- The abstract machine: what a function leaves. Own work. -/
import Derived.Test.YtikjkclmninbmaaK17
set_option linter.unusedSimpArgs false
set_option linter.unusedVariables false
set_option linter.unnecessarySimpa false
namespace Av
open Go

/-! What is told of objects that go out of sight. -/
def keepTok (n : Nat) : Tok → Tok
  | .own l v => match Nat.blt l n with
    | true => .own l v
    | false => .none
  | t => t

def frzK (H : List AObj) (loc lo len e : Nat) (k : AV → Prop) : Prop := hgetK H loc fun
  | .arr t l false => guardK (Nat.beq e (esz t)) ((lo + len ≤ l.length) ∧ k (.sl t ((l.drop lo).take len) .none))
  | _ => k .junk

def trim0K (n : Nat) (H : List AObj) (v : AV) (k : AV → Prop) : Prop := match v with
  | .int a m => k (.int a m)
  | .bool b => k (.bool b)
  | .flt b => k (.flt b)
  | .cpx a b => k (.cpx a b)
  | .nilp => k .nilp
  | .nilsl => k .nilsl
  | .nilfn => k .nilfn
  | .ptr loc i e j => match Nat.blt loc n with
    | true => k (.ptr loc i e j)
    | false => k .junk
  | .sl t l tok => k (.sl t l (keepTok n tok))
  | .osl loc lo len e => match Nat.blt loc n with
    | true => k (.osl loc lo len e)
    | false => frzK H loc lo len e k
  | .map loc => match Nat.blt loc n with
    | true => k (.map loc)
    | false => k .junk
  | _ => k .junk

def trims0K (n : Nat) (H : List AObj) : List AV → (List AV → Prop) → Prop
  | [], k => k []
  | v :: vs, k => trim0K n H v fun v => trims0K n H vs fun vs => k (v :: vs)

def trim1K (n : Nat) (H : List AObj) (v : AV) (k : AV → Prop) : Prop := match v with
  | .agg cs => trims0K n H cs fun cs => k (.agg cs)
  | .fn f as bs => trims0K n H as fun as => trims0K n H bs fun bs => k (.fn f as bs)
  | v => trim0K n H v k

def trims1K (n : Nat) (H : List AObj) : List AV → (List AV → Prop) → Prop
  | [], k => k []
  | v :: vs, k => trim1K n H v fun v => trims1K n H vs fun vs => k (v :: vs)

def trim2K (n : Nat) (H : List AObj) (v : AV) (k : AV → Prop) : Prop := match v with
  | .tup vs => trims1K n H vs fun vs => k (.tup vs)
  | v => trim1K n H v k

def trimMK (n : Nat) (H : List AObj) : List (Int × AV) → (List (Int × AV) → Prop) → Prop
  | [], k => k []
  | (m, v) :: es, k => trim1K n H v fun v => trimMK n H es fun es => k ((m, v) :: es)

def trimRK (n : Nat) (H : List AObj) : List (List AV) → (List (List AV) → Prop) → Prop
  | [], k => k []
  | r :: rs, k => trims1K n H r fun r => trimRK n H rs fun rs => k (r :: rs)

def trimOK (n : Nat) (H : List AObj) (o : AObj) (k : AObj → Prop) : Prop := match o with
  | .dead => k .dead
  | .box cs => trims1K n H cs fun cs => k (.box cs)
  | .arr t l f => k (.arr t l f)
  | .raw e els f => trimRK n H els fun els => k (.raw e els f)
  | .map kd es => trimMK n H es fun es => k (.map kd es)
  | .app v => k (.app v)
  | _ => False

def trimHK (n : Nat) (H : List AObj) : Nat → List AObj → (List AObj → Prop) → Prop
  | 0, _, k => k []
  | _ + 1, [], _ => False
  | m + 1, o :: os, k => trimOK n H o fun o => trimHK n H m os fun os => k (o :: os)

/-- The ghost behind it. -/
def Gh.trim (G : Gh) (H : List AObj) (n : Nat) : Gh :=
  { G with prot := fun b o => G.prot b o ∨ ∃ loc t l, n ≤ loc ∧ H[loc]? = some (.arr t l false) ∧ l ≠ [] ∧ G.mu loc = b ∧ o < l.length * esz t }

theorem blt_true {a b : Nat} (h : Nat.blt a b = true) : a < b := Nat.lt_of_lt_of_le (Nat.lt_succ_self a) (Nat.le_of_ble_eq_true h)
theorem blt_false {a b : Nat} (h : Nat.blt a b = false) : b ≤ a := by
  rcases Nat.lt_or_ge a b with q | q
  · have : Nat.blt a b = true := Nat.ble_eq_true_of_le q
    rw [this] at h; cases h
  · exact q

section
variable {G : Gh} {H : List AObj} {w : World} {n : Nat}

theorem zero_trim {v : Value} {a : AV} (h : Rep G 0 w v a) {m : Nat} : Rep (G.trim H n) m w v a := h.zero fun b o hp => ⟨.inl hp, rfl⟩

theorem trim0_out (hs : Sim G H w) {x : Value} {v : AV} (h : Rep G H.length w x v) {k : AV → Prop} (hk : trim0K n H v k) : ∃ u, k u ∧ Rep (G.trim H n) n w x u := by
  unfold trim0K at hk
  cases h with
  | junk v => exact ⟨_, hk, .junk _⟩
  | int k m => exact ⟨_, hk, .int _ _⟩
  | bool b => exact ⟨_, hk, .bool _⟩
  | flt b => exact ⟨_, hk, .flt _⟩
  | cpx a b => exact ⟨_, hk, .cpx _ _⟩
  | nilp => exact ⟨_, hk, .nilp⟩
  | ptr loc i e j hl =>
    simp only at hk
    split at hk
    · rename_i hb
      exact ⟨_, hk, Rep.ptr (G := G.trim H n) loc i e j (blt_true hb)⟩
    · exact ⟨_, hk, .junk _⟩
  | vptr b o cs j vs hc hr => exact ⟨_, hk, .junk _⟩
  | nilsl => exact ⟨_, hk, .nilsl⟩
  | slnil t tok a ht =>
    refine ⟨_, hk, .slnil _ _ _ ?_⟩
    cases tok with
    | none => trivial
    | clip => trivial
    | own l v =>
      simp only [keepTok]
      split
      · rename_i hb; exact ⟨blt_true hb, ht.2⟩
      · trivial
  | sl t l tok b o cap vs h1 h2 h3 h4 =>
    refine ⟨_, hk, .sl _ _ _ b o cap vs h1 (fun i j hi hj => ⟨.inl (h2 i j hi hj).1, (h2 i j hi hj).2⟩) (fun i j hi hj => zero_trim (enc_zero _ _ _ hj _ (h3 i j hi hj))) ?_⟩
    cases tok with
    | none => trivial
    | clip => exact h4
    | own l v =>
      simp only [keepTok]
      split
      · rename_i hb; exact ⟨blt_true hb, h4.2⟩
      · trivial
  | osl loc lo len e cap hl h1 h2 =>
    simp only at hk
    split at hk
    · rename_i hb
      exact ⟨_, hk, Rep.osl (G := G.trim H n) loc lo len e cap (blt_true hb) h1 h2⟩
    · rename_i hb
      have hn := blt_false hb
      obtain ⟨o, ho, hk⟩ := hgetK_iff.1 hk
      split at hk
      · rename_i t l
        obtain ⟨he, hlen, hk⟩ := guardK_iff.1 hk
        have he := Nat.eq_of_beq_eq_true he
        have hne : l ≠ [] := by intro q; rw [q] at hlen; simp at hlen; omega
        obtain ⟨c, hb, hsz, hr⟩ := hs.obj loc _ ho hne
        refine ⟨_, hk, ?_⟩
        have hll : ((l.drop lo).take len).length = len := by simp; omega
        have := Rep.sl (G := G.trim H n) (n := n) (w := w) t ((l.drop lo).take len) .none (G.mu loc) (lo * e) cap (fun i j => c.getD ((lo + i) * esz t + j) undef) (by rw [hll]; exact h1) (fun i j hi hj => ?_) (fun i j hi hj => ?_) trivial
        · rw [hll] at this; exact this
        · rw [hll] at hi
          have hlt := row_lt (u := t) (i := lo + i) (m := l.length) (j := j) (by omega) hj
          rw [he, ← Nat.add_mul]
          refine ⟨.inr ⟨loc, t, l, hn, ho, hne, rfl, by omega⟩, ?_⟩
          rw [cellAt_block hb]
          have h2 : (lo + i) * esz t + j < c.size := by omega
          simp [h2]
        · rw [hll] at hi
          have e1 : ((l.drop lo).take len)[i]'(by rw [hll]; exact hi) = l[lo + i]'(by omega) := by simp
          rw [e1]
          exact zero_trim (enc_zero _ _ _ hj _ (hr (lo + i) j (by omega) hj))
      · exact ⟨_, hk, .junk _⟩
  | osl0 loc lo e a cap hl hoa =>
    simp only at hk
    split at hk
    · rename_i hb
      exact ⟨_, hk, .osl0 loc lo e a cap (blt_true hb) hoa⟩
    · obtain ⟨o, ho, hk⟩ := hgetK_iff.1 hk
      split at hk
      · rename_i t l
        obtain ⟨he, hlen, hk⟩ := guardK_iff.1 hk
        refine ⟨_, hk, ?_⟩
        have e0 : (l.drop lo).take 0 = [] := by simp
        rw [e0]
        rcases hoa with rfl | ⟨b, o, rfl⟩
        · exact .slnil _ _ _ trivial
        · exact .sl t [] .none b o cap (fun _ _ => undef) (by simp) (fun i j hi => absurd hi (by simp)) (fun i j hi => absurd hi (by simp)) trivial
      · exact ⟨_, hk, .junk _⟩
  | map loc hl =>
    simp only at hk
    split at hk
    · rename_i hb
      exact ⟨_, hk, Rep.map (G := G.trim H n) loc (blt_true hb)⟩
    · exact ⟨_, hk, .junk _⟩
  | fn f xs ys as bs h1 h2 h3 h4 => exact ⟨_, hk, .junk _⟩
  | yield loc hl => exact ⟨_, hk, .junk _⟩
  | nilfn => exact ⟨_, hk, .nilfn⟩
  | agg xs as h1 h2 => exact ⟨_, hk, .junk _⟩
  | tup xs as h1 h2 => exact ⟨_, hk, .junk _⟩
theorem trims0_out (hs : Sim G H w) : ∀ {vs : List AV} {xs : List Value} {k : List AV → Prop}, Reps G H.length w xs.toArray vs → trims0K n H vs k → ∃ us, k us ∧ us.length = vs.length ∧ Reps (G.trim H n) n w xs.toArray us
  | [], xs, k, h, hk => by
    have : xs = [] := List.eq_nil_of_length_eq_zero (by have := h.1; simpa using this)
    subst this
    exact ⟨[], hk, rfl, reps_nil⟩
  | v :: vs, [], k, h, hk => by have := h.1; simp at this
  | v :: vs, x :: xs, k, h, hk => by
    have h0 : Rep G H.length w x v := h.2 0 (by simp)
    have h1 : Reps G H.length w xs.toArray vs := ⟨by have := h.1; simpa using this, fun k hk => by simpa using h.2 (k + 1) (by simpa using hk)⟩
    obtain ⟨u, hk, hu⟩ := trim0_out hs h0 hk
    obtain ⟨us, hk, hl, hus⟩ := trims0_out hs h1 hk
    exact ⟨u :: us, hk, by simp [hl], .cons hu hus⟩

theorem trims0_arr (hs : Sim G H w) {vs : List AV} {xs : Array Value} {k : List AV → Prop} (h : Reps G H.length w xs vs) (hk : trims0K n H vs k) : ∃ us, k us ∧ us.length = vs.length ∧ Reps (G.trim H n) n w xs us := by
  obtain ⟨us, h1, h2, h3⟩ := trims0_out hs (xs := xs.toList) (by simpa using h) hk
  exact ⟨us, h1, h2, by simpa using h3⟩

theorem trim1_out (hs : Sim G H w) {x : Value} {v : AV} (h : Rep G H.length w x v) {k : AV → Prop} (hk : trim1K n H v k) : ∃ u, k u ∧ Rep (G.trim H n) n w x u := by
  unfold trim1K at hk
  split at hk
  · cases h with
    | agg xs _ h1 h2 =>
      obtain ⟨us, hk, _, hr⟩ := trims0_arr hs ⟨h1, h2⟩ hk
      exact ⟨_, hk, .agg _ _ hr.1 hr.2⟩
  · cases h with
    | fn f xs ys _ _ h1 h2 h3 h4 =>
      obtain ⟨us, hk, _, hr⟩ := trims0_arr hs ⟨h1, h3⟩ hk
      obtain ⟨vs, hk, _, hr'⟩ := trims0_arr hs ⟨h2, h4⟩ hk
      exact ⟨_, hk, rep_fn_arr hr hr'⟩
  · exact trim0_out hs h hk

theorem trims1_out (hs : Sim G H w) : ∀ {vs : List AV} {xs : List Value} {k : List AV → Prop}, Reps G H.length w xs.toArray vs → trims1K n H vs k → ∃ us, k us ∧ us.length = vs.length ∧ Reps (G.trim H n) n w xs.toArray us
  | [], xs, k, h, hk => by
    have : xs = [] := List.eq_nil_of_length_eq_zero (by have := h.1; simpa using this)
    subst this
    exact ⟨[], hk, rfl, reps_nil⟩
  | v :: vs, [], k, h, hk => by have := h.1; simp at this
  | v :: vs, x :: xs, k, h, hk => by
    have h0 : Rep G H.length w x v := h.2 0 (by simp)
    have h1 : Reps G H.length w xs.toArray vs := ⟨by have := h.1; simpa using this, fun k hk => by simpa using h.2 (k + 1) (by simpa using hk)⟩
    obtain ⟨u, hk, hu⟩ := trim1_out hs h0 hk
    obtain ⟨us, hk, hl, hus⟩ := trims1_out hs h1 hk
    exact ⟨u :: us, hk, by simp [hl], .cons hu hus⟩

theorem trims1_arr (hs : Sim G H w) {vs : List AV} {xs : Array Value} {k : List AV → Prop} (h : Reps G H.length w xs vs) (hk : trims1K n H vs k) : ∃ us, k us ∧ us.length = vs.length ∧ Reps (G.trim H n) n w xs us := by
  obtain ⟨us, h1, h2, h3⟩ := trims1_out hs (xs := xs.toList) (by simpa using h) hk
  exact ⟨us, h1, h2, by simpa using h3⟩

theorem trim2_out (hs : Sim G H w) {x : Value} {v : AV} (h : Rep G H.length w x v) {k : AV → Prop} (hk : trim2K n H v k) : ∃ u, k u ∧ Rep (G.trim H n) n w x u := by
  unfold trim2K at hk
  split at hk
  · cases h with
    | tup xs _ h1 h2 =>
      obtain ⟨us, hk, _, hr⟩ := trims1_arr hs ⟨h1, h2⟩ hk
      exact ⟨_, hk, .tup _ _ hr.1 hr.2⟩
  · exact trim1_out hs h hk

theorem trimM_out (hs : Sim G H w) {kd : IntKind} : ∀ {es : List (Int × AV)} {l : List MapEntry} {k : List (Int × AV) → Prop}, l.length = es.length → (∀ j (h : j < l.length), (l[j]).key = .int kd (es.getD j (0, .junk)).1 ∧ Rep G H.length w (l[j]).val (es.getD j (0, .junk)).2) →
    trimMK n H es k → ∃ us, k us ∧ us.length = es.length ∧ ∀ j (h : j < l.length), (l[j]).key = .int kd (us.getD j (0, .junk)).1 ∧ Rep (G.trim H n) n w (l[j]).val (us.getD j (0, .junk)).2
  | [], l, k, hl, h, hk => ⟨[], hk, rfl, fun j hj => by rw [hl] at hj; simp at hj⟩
  | (m, v) :: es, [], k, hl, h, hk => by cases hl
  | (m, v) :: es, e :: l, k, hl, h, hk => by
    have h0 := h 0 (by simp)
    simp only [List.getElem_cons_zero, List.getD_cons_zero] at h0
    obtain ⟨u, hk, hu⟩ := trim1_out hs h0.2 hk
    obtain ⟨us, hk, hlen, hus⟩ := trimM_out hs (by simpa using hl) (fun j hj => h (j + 1) (Nat.succ_lt_succ hj)) hk
    refine ⟨_, hk, by simp [hlen], fun j hj => ?_⟩
    cases j with
    | zero => exact ⟨h0.1, hu⟩
    | succ j => simpa using hus j (by simpa using hj)

theorem trimR_out (hs : Sim G H w) {e : Nat} {c : Nat → Value} : ∀ {els : List (List AV)} {i0 : Nat} {k : List (List AV) → Prop}, (∀ i, i < els.length → (els.getD i []).length = e ∧ ∀ j, j < e → Rep G H.length w (c ((i0 + i) * e + j)) ((els.getD i []).getD j .junk)) →
    trimRK n H els k → ∃ us, k us ∧ us.length = els.length ∧ ∀ i, i < us.length → (us.getD i []).length = e ∧ ∀ j, j < e → Rep (G.trim H n) n w (c ((i0 + i) * e + j)) ((us.getD i []).getD j .junk)
  | [], i0, k, h, hk => ⟨[], hk, rfl, fun i hi => by simp at hi⟩
  | r :: rs, i0, k, h, hk => by
    obtain ⟨h1, h2⟩ := h 0 (by simp)
    simp only [List.getD_cons_zero, Nat.add_zero] at h1 h2
    have hr : Reps G H.length w ((List.range e).map fun j => c (i0 * e + j)).toArray r := by
      refine ⟨by simp [h1], fun j hj => ?_⟩
      have hje : j < e := by omega
      have := h2 j hje
      simpa [hje] using this
    obtain ⟨u, hk, hul, hu⟩ := trims1_out hs hr hk
    obtain ⟨us, hk, hl, hus⟩ := trimR_out hs (els := rs) (i0 := i0 + 1) (fun i hi => by
      have := h (i + 1) (by simpa using hi)
      rw [show i0 + 1 + i = i0 + (i + 1) from by omega]
      simpa using this) hk
    refine ⟨_, hk, by simp [hl], fun i hi => ?_⟩
    cases i with
    | zero =>
      simp only [List.getD_cons_zero, Nat.add_zero]
      refine ⟨by omega, fun j hj => ?_⟩
      have := hu.2 j (by omega)
      simpa [hj] using this
    | succ i =>
      have := hus i (by simpa using hi)
      rw [show i0 + 1 + i = i0 + (i + 1) from by omega] at this
      simpa using this

/-- A kept object. -/
theorem trimO_out (hs : Sim G H w) {loc : Nat} {o : AObj} (ho : ObjRep G H.length w loc o) {k : AObj → Prop} (hk : trimOK n H o k) :
    ∃ o', k o' ∧ ObjRep (G.trim H n) n w loc o' ∧ o'.real = o.real ∧ o'.mut = o.mut ∧ (∀ v, o' = .app v ↔ o = .app v) := by
  unfold trimOK at hk
  split at hk
  · exact ⟨_, hk, trivial, rfl, rfl, fun v => by simp⟩
  · obtain ⟨c, hb, hr⟩ := ho
    obtain ⟨us, hk, _, hr'⟩ := trims1_arr hs hr hk
    exact ⟨_, hk, ⟨c, hb, hr'⟩, rfl, rfl, fun v => by simp⟩
  · rename_i t l f
    refine ⟨_, hk, fun hne => ?_, rfl, rfl, fun v => by simp⟩
    obtain ⟨c, hb, hsz, hr⟩ := ho hne
    exact ⟨c, hb, hsz, fun i j hi hj => zero_trim (enc_zero _ _ _ hj _ (hr i j hi hj))⟩
  · rename_i e els f
    by_cases hne : els = []
    · subst hne
      exact ⟨_, hk, fun h => absurd rfl h, rfl, rfl, fun v => by simp⟩
    · obtain ⟨c, hb, hsz, hr⟩ := ho hne
      obtain ⟨us, hk, hl, hus⟩ := trimR_out hs (c := fun p => c.getD p undef) (i0 := 0) (fun i hi => by simpa using hr i hi) hk
      have hus0 : us ≠ [] := fun q => hne (List.eq_nil_of_length_eq_zero (by rw [← hl, q]; rfl))
      refine ⟨_, hk, fun _ => ⟨c, hb, by rw [hl]; exact hsz, fun i hi => by simpa using hus i hi⟩, ?_, ?_, fun v => by simp⟩
      · cases us with
        | nil => exact absurd rfl hus0
        | cons _ _ => cases els with
          | nil => exact absurd rfl hne
          | cons _ _ => rfl
      · cases us with
        | nil => exact absurd rfl hus0
        | cons _ _ => cases els with
          | nil => exact absurd rfl hne
          | cons _ _ => cases f <;> rfl
  · rename_i kd es
    obtain ⟨en, clock, h1, h2, h3⟩ := map_rows ho
    obtain ⟨us, hk, hl, hus⟩ := trimM_out hs h2 h3 hk
    refine ⟨_, hk, ⟨en, clock, h1, by rw [hl, ← h2]; simp, fun j hj => ?_⟩, rfl, rfl, fun v => by simp⟩
    have hj' : j < en.toList.length := by omega
    have := hus j hj'
    have hje : j < en.size := by simpa using hj'
    simpa [hje] using this
  · exact ⟨_, hk, ho, rfl, rfl, fun v => by simp⟩
  · exact hk.elim

theorem trimH_out (hs : Sim G H w) : ∀ (m i : Nat) {os : List AObj} {k : List AObj → Prop}, (∀ j o, os[j]? = some o → H[i + j]? = some o) → trimHK n H m os k →
    ∃ us, k us ∧ us.length = m ∧ ∀ j u, us[j]? = some u → ∃ o, H[i + j]? = some o ∧ ObjRep (G.trim H n) n w (i + j) u ∧ u.real = o.real ∧ u.mut = o.mut ∧ (∀ v, u = .app v ↔ o = .app v)
  | 0, i, os, k, ho, hk => ⟨[], hk, rfl, fun j u h => by simp at h⟩
  | m + 1, i, [], k, ho, hk => hk.elim
  | m + 1, i, o :: os, k, ho, hk => by
    have h0 := ho 0 o rfl
    obtain ⟨o', hk, h1, h2⟩ := trimO_out hs (hs.obj _ _ h0) hk
    obtain ⟨us, hk, hl, hus⟩ := trimH_out hs m (i + 1) (fun j q hq => by rw [show i + 1 + j = i + (j + 1) from by omega]; exact ho (j + 1) q (by simpa using hq)) hk
    refine ⟨_, hk, by simp [hl], fun j u hu => ?_⟩
    cases j with
    | zero => cases hu; exact ⟨o, h0, h1, h2⟩
    | succ j =>
      obtain ⟨q, hq, h3⟩ := hus j u (by simpa using hu)
      rw [show i + 1 + j = i + (j + 1) from by omega] at hq h3
      exact ⟨q, hq, h3⟩

/-- Objects out of sight. -/
theorem Sim.trim (hs : Sim G H w) {G0 : Gh} {H0 : List AObj} {w0 : World} (he : Ext G0 H0 w0 G H w) (hn : H0.length ≤ n) {k : List AObj → Prop} (hk : trimHK n H n H k) :
    ∃ H', k H' ∧ H'.length = n ∧ Sim (G.trim H n) H' w ∧ Ext G0 H0 w0 (G.trim H n) H' w := by
  obtain ⟨us, hk, hl, hus⟩ := trimH_out hs n 0 (os := H) (fun j o h => by simpa using h) hk
  simp only [Nat.zero_add] at hus
  have hlt : n ≤ H.length := by
    rcases Nat.lt_or_ge H.length n with q | q
    · obtain ⟨o, ho, _⟩ := hus H.length us[H.length] (by rw [List.getElem?_eq_getElem])
      have := lt_of_get ho
      omega
    · exact q
  have hnp : ∀ b o, (∃ loc t l, n ≤ loc ∧ H[loc]? = some (.arr t l false) ∧ l ≠ [] ∧ G.mu loc = b ∧ o < l.length * esz t) → ∃ loc ob, n ≤ loc ∧ H[loc]? = some ob ∧ ob.mut = true ∧ ob.real = true ∧ G.mu loc = b ∧ b < w.heap.size := by
    rintro b o ⟨loc, t, l, h1, h2, h3, h4, _⟩
    have hm : (AObj.arr t l false).mut = true := by cases l with
      | nil => exact absurd rfl h3
      | cons x xs => rfl
    exact ⟨loc, _, h1, h2, hm, AObj.real_of_mut hm, h4, h4 ▸ hs.lt loc _ h2 (AObj.real_of_mut hm)⟩
  refine ⟨us, hk, hl, ⟨fun l o ho => ?_, fun l o ho hr => ?_, fun l o ho hm p hp => ?_, fun l1 l2 o1 o2 h1 h2 r1 r2 e => ?_, fun l v b e ho ht => ?_, fun l v b e l2 o2 ho ht h2 r2 => ?_, fun l1 l2 v1 v2 b e1 e2 h1 h2 t1 t2 => ?_, fun b o hp => ?_⟩,
    ⟨he.size, ⟨by rw [hl]; exact hn, he.le.mu, he.le.ver, he.le.tk, fun b o hp => ⟨.inl (he.le.prot b o hp).1, (he.le.prot b o hp).2⟩⟩, he.frame, fun b o p q => ?_, fun b ho => ?_, he.os, he.tape, he.output⟩⟩
  · obtain ⟨q, _, h1, _⟩ := hus l o ho
    rw [hl]; exact h1
  · obtain ⟨q, hq, _, h1, _⟩ := hus l o ho
    exact hs.lt l q hq (h1 ▸ hr)
  · obtain ⟨q, hq, _, h1, h2, _⟩ := hus l o ho
    rcases hp with hp | hp
    · exact hs.free l q hq (h2 ▸ hm) p hp
    · obtain ⟨loc, ob, g1, g2, g3, g4, g5, _⟩ := hnp _ _ hp
      have := hs.inj loc l ob q g2 hq g4 (h1 ▸ AObj.real_of_mut hm) g5
      have := lt_of_get ho
      omega
  · obtain ⟨q1, hq1, _, g1, _⟩ := hus l1 o1 h1
    obtain ⟨q2, hq2, _, g2, _⟩ := hus l2 o2 h2
    exact hs.inj l1 l2 q1 q2 hq1 hq2 (g1 ▸ r1) (g2 ▸ r2) e
  · obtain ⟨q, hq, _, _, _, h3⟩ := hus l _ ho
    have hq' : H[l]? = some (.app v) := by rw [hq]; exact congrArg some ((h3 v).1 rfl)
    obtain ⟨h1, h2⟩ := hs.tail l v b e hq' ht
    refine ⟨h1, fun p hp hpr => ?_⟩
    rcases hpr with hpr | hpr
    · exact h2 p hp hpr
    · obtain ⟨loc, ob, g1, g2, g3, g4, g5, _⟩ := hnp _ _ hpr
      exact hs.tobj l v b e loc ob hq' ht g2 g4 g5
  · obtain ⟨q, hq, _, _, _, h3⟩ := hus l _ ho
    have hq' : H[l]? = some (.app v) := by rw [hq]; exact congrArg some ((h3 v).1 rfl)
    obtain ⟨q2, hq2, _, g2, _⟩ := hus l2 o2 h2
    exact hs.tobj l v b e l2 q2 hq' ht hq2 (g2 ▸ r2)
  · obtain ⟨q1, hq1, _, _, _, g1⟩ := hus l1 _ h1
    obtain ⟨q2, hq2, _, _, _, g2⟩ := hus l2 _ h2
    exact hs.tinj l1 l2 v1 v2 b e1 e2 (by rw [hq1]; exact congrArg some ((g1 v1).1 rfl)) (by rw [hq2]; exact congrArg some ((g2 v2).1 rfl)) t1 t2
  · rcases hp with hp | hp
    · exact hs.pv b o hp
    · obtain ⟨_, _, _, _, _, _, _, h⟩ := hnp _ _ hp
      exact h
  · rcases p with p | p
    · exact he.prot b o p q
    · obtain ⟨loc, ob, g1, g2, g3, g4, g5, _⟩ := hnp _ _ p
      exact he.own b (.inl ⟨loc, ob, g2, g3, g5⟩)
  · rcases ho with ⟨l, o, ho, hm, e⟩ | ⟨l, v, e, ho, ht⟩
    · obtain ⟨q, hq, _, _, h2, _⟩ := hus l o ho
      exact he.own b (.inl ⟨l, q, hq, h2 ▸ hm, e⟩)
    · obtain ⟨q, hq, _, _, _, h3⟩ := hus l _ ho
      exact he.own b (.inr ⟨l, v, e, by rw [hq]; exact congrArg some ((h3 v).1 rfl), ht⟩)
end

end Av
