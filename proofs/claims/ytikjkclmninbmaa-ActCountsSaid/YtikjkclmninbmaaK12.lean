/- The abstract machine: how operations run (12): maps, built-in functions; all of them. Own work. -/
import Derived.Test.YtikjkclmninbmaaK11
import Derived.Laws.Entries
import Derived.MapKept
set_option linter.unusedSimpArgs false
set_option linter.unusedVariables false
set_option linter.unnecessarySimpa false
namespace Av
open Go

theorem mkIs_out {C : Ctx} (hT : TabOk C) {t : TypeId} {kd : IntKind} (h : mkIs (C.tb t) kd = true) : ∃ key, C.P.underlying t = some (.map key (C.tb t).elem) ∧ C.P.underlying key = some (.int kd) := by
  unfold mkIs at h
  split at h
  · rename_i k' hk
    obtain rfl := ikBeq_eq h
    exact (hT.ok t).mkd _ hk
  · cases h

/-- A key's place in a map. -/
theorem findNow_out {G : Gh} {n : Nat} {w : World} {kd : IntKind} {m : Int} {ty : IntKind} : ∀ (l : List MapEntry) (es : List (Int × AV)) (i : Nat), l.length = es.length →
    (∀ j (h : j < l.length), (l[j]).key = .int kd (es.getD j (0, .junk)).1 ∧ Rep G n w (l[j]).val (es.getD j (0, .junk)).2) →
    (∃ j v, Instr.findNow (.int ty) (.int kd m) l i = some (some (i + j, v)) ∧ (∃ u, es.lookup m = some u ∧ Rep G n w v u) ∧ j < l.length ∧ (l.getD j default).key = .int kd m ∧ ∀ u, updMap es m u = es.set j (m, u)) ∨
    (Instr.findNow (.int ty) (.int kd m) l i = some none ∧ es.lookup m = none ∧ ∀ u, updMap es m u = es ++ [(m, u)])
  | [], [], i, _, _ => .inr ⟨rfl, rfl, fun u => rfl⟩
  | [], _ :: _, _, h, _ => by cases h
  | _ :: _, [], _, h, _ => by cases h
  | e :: l, (q, u0) :: es, i, hl, h => by
    have h0 := h 0 (by simp)
    simp only [List.getElem_cons_zero, List.getD_cons_zero] at h0
    have ih := findNow_out (m := m) (ty := ty) l es (i + 1) (by simpa using hl) (fun j hj => by
      have := h (j + 1) (by simpa using hj)
      simpa using this)
    by_cases hq : q = m
    · subst hq
      refine .inl ⟨0, e.val, ?_, ⟨u0, by simp, h0.2⟩, by simp, by simpa using h0.1, fun u => by simp [updMap]⟩
      simp [Instr.findNow, h0.1, Instr.sameNow]
    · have e1 : Instr.findNow (.int ty) (.int kd m) (e :: l) i = Instr.findNow (.int ty) (.int kd m) l (i + 1) := by
        have : (m == q) = false := by simp; exact fun e => hq e.symm
        simp [Instr.findNow, h0.1, Instr.sameNow, this]
      have e2 : List.lookup m ((q, u0) :: es) = List.lookup m es := by
        have : (m == q) = false := by simp; exact fun e => hq e.symm
        simp [List.lookup, this]
      rcases ih with ⟨j, v, g1, g2, g3, g4, g5⟩ | ⟨g1, g2, g3⟩
      · refine .inl ⟨j + 1, v, by rw [e1, g1]; simp; omega, by rw [e2]; exact g2, by simpa using g3, by simpa using g4, fun u => by simp [updMap, hq, g5]⟩
      · exact .inr ⟨by rw [e1, g1], by rw [e2, g2], fun u => by simp [updMap, hq, g3]⟩

theorem run_checkKey_int {P : Program} {w : World} {b : Bool} {d : Nat} {key : TypeId} {kd k' : IntKind} {m : Int} (h : P.underlying key = some (.int kd)) : (Instr.checkKey b (d + 1) key (.int k' m)).run P w = .ok () w := by
  simp [Instr.checkKey, run_underlying h]

theorem run_findKey {P : Program} {w : World} {key : TypeId} {kd : IntKind} {k : Value} {es : List MapEntry} {r : Option (Nat × Value)} (h : P.underlying key = some (.int kd)) (hf : Instr.findNow (.int kd) k es 0 = some r) :
    (Instr.findKey key k es).run P w = .ok r w := by
  simp [Instr.findKey, run_underlying h, hf]

theorem map_rows {G : Gh} {H : List AObj} {w : World} {loc : Nat} {kd : IntKind} {es : List (Int × AV)} (h : ObjRep G H.length w loc (.map kd es)) :
    ∃ (en : Array MapEntry) (clock : Nat), w.heap[G.mu loc]? = some (.map en clock) ∧ en.toList.length = es.length ∧ ∀ j (h : j < en.toList.length), (en.toList[j]).key = .int kd (es.getD j (0, .junk)).1 ∧ Rep G H.length w (en.toList[j]).val (es.getD j (0, .junk)).2 := by
  obtain ⟨en, clock, h1, h2, h3⟩ := h
  refine ⟨en, clock, h1, by simpa using h2, fun j hj => ?_⟩
  have hj' : j < en.size := by simpa using hj
  have := h3 j (by omega)
  simpa [hj'] using this

theorem run_getO {P : Program} {w : World} {r : Nat} {es : Array MapEntry} {c : Nat} (h : w.heap[r]? = some (.map es c)) : (getObj r).run P w = .ok (.map es c) w := by simp [getObj, Sem.run, h]
theorem run_setO {P : Program} {w : World} {r : Nat} {es : Array MapEntry} {c : Nat} (h : w.heap[r]? = some (.map es c)) (o' : Obj) : (setObj r o').run P w = .ok () { w with heap := w.heap.setIfInBounds r o' } := by simp [setObj, Sem.run, h]

theorem lookup_out {C : Ctx} (hT : TabOk C) {G : Gh} {H : List AObj} {w : World} (hs : Sim G H w) {t : TypeId} {x y : Value} {m i : AV} (hx : Rep G H.length w x m) (hy : Rep G H.length w y i) {ok : Bool} {k : AV → Prop}
    (h : lookupK C t m i ok H k) :
    ∃ z u, (Instr.lookup t x y ok).run C.P w = .ok z w ∧ k u ∧ Rep G H.length w z u := by
  have two : ∀ {v : Value} {u : AV} {b : Bool}, Rep G H.length w v u → Rep G H.length w (.tuple #[v, .bool b]) (.tup [u, .bool b]) := fun hv =>
    .tup _ _ rfl fun k hk => by
      match k, hk with
      | 0, _ => exact hv
      | 1, _ => exact .bool _
  unfold lookupK at h
  cases m with
  | map loc => ?_
  | _ => exact h.elim
  cases i with
  | int kd n => ?_
  | _ => exact h.elim
  obtain rfl := rep_int hy
  obtain ⟨o, ho, h⟩ := hgetK_iff.1 h
  split at h
  case h_2 => exact h.elim
  rename_i kd' es
  obtain ⟨hmk, h⟩ := guardK_iff.1 h
  obtain ⟨key, hd1, hd2⟩ := mkIs_out hT hmk
  obtain ⟨hkd, hk⟩ := guardK_iff.1 h
  clear h
  obtain rfl := ikBeq_eq hkd
  obtain ⟨en, clock, hb, hl, hr⟩ := map_rows (hs.obj loc _ ho)
  cases hx with
  | map _ hloc =>
    have hck : ∀ b, (Instr.checkKey b 10000 key (.int kd n)).run C.P w = .ok () w := fun b => run_checkKey_int hd2
    rcases findNow_out (m := n) (ty := kd) en.toList es 0 hl hr with ⟨j, v, g1, ⟨u, g2, g3⟩, _, _, _⟩ | ⟨g1, g2, _⟩
    · rw [g2] at hk
      have hf := run_findKey (w := w) hd2 g1
      cases ok with
      | true =>
        refine ⟨_, _, ?_, hk, two g3⟩
        simp [Instr.lookup, run_underlying hd1, run_getO hb, hck, hf]
      | false =>
        refine ⟨_, _, ?_, headK_iff.1 hk, g3⟩
        simp [Instr.lookup, run_underlying hd1, run_getO hb, hck, hf]
    · rw [g2] at hk
      have hf := run_findKey (w := w) hd2 g1
      obtain ⟨u, inf, z, hk, hi, hz, _, hzr⟩ := zeroK_out hT hk
      cases ok with
      | true =>
        refine ⟨_, _, ?_, hk, two (hzr G H.length w)⟩
        simp [Instr.lookup, run_underlying hd1, run_getO hb, hck, hf, run_zeroValue hi hz]
      | false =>
        refine ⟨_, _, ?_, hk, hzr G H.length w⟩
        simp [Instr.lookup, run_underlying hd1, run_getO hb, hck, hf, run_zeroValue hi hz]

theorem insK_out {C : Ctx} (hT : TabOk C) {G : Gh} {H : List AObj} {w : World} (hs : Sim G H w) {t : TypeId} {x y z : Value} {m i v : AV} (hx : Rep G H.length w x m) (hy : Rep G H.length w y i) (hz : Rep G H.length w z v) {k : AV → List AObj → Prop}
    (h : opK.insK C t m i v H k) :
    ∃ w' H', (Instr.mapUpdate t x y z).run C.P w = .ok () w' ∧ k .junk H' ∧ Sim G H' w' ∧ Ext G H w G H' w' := by
  unfold opK.insK at h
  split at h
  case h_2 => exact h.elim
  rename_i loc kd n
  obtain rfl := rep_int hy
  obtain ⟨hj, h⟩ := guardK_iff.1 (typedK_iff.1 h)
  obtain ⟨_, h⟩ := guardK_iff.1 (cellsK_iff.1 h)
  have hz := hz.typed C (C.tb t).elem
  generalize typed C (C.tb t).elem v = v at hz h
  obtain ⟨o, ho, h⟩ := hgetK_iff.1 h
  split at h
  case h_2 => exact h.elim
  rename_i kd' es
  obtain ⟨hmk, h⟩ := guardK_iff.1 h
  obtain ⟨key, hd1, hd2⟩ := mkIs_out hT hmk
  obtain ⟨hkd, hk⟩ := guardK_iff.1 h
  clear h
  obtain rfl := ikBeq_eq hkd
  obtain ⟨_, hk⟩ := hsetK_iff.1 hk
  have hob := hs.obj loc _ ho
  obtain ⟨en, clock, hb, hl, hr⟩ := map_rows hob
  have hlt := (Array.getElem?_eq_some_iff.1 hb).1
  have key' : ∀ (en' : Array MapEntry) (clock' : Nat), en'.size = (updMap es n v).length →
      (∀ j, j < (updMap es n v).length → (en'.getD j default).key = .int kd ((updMap es n v).getD j (0, .junk)).1 ∧ Rep G H.length w (en'.getD j default).val ((updMap es n v).getD j (0, .junk)).2) →
      Sim G (H.set loc (.map kd (updMap es n v))) { w with heap := w.heap.setIfInBounds (G.mu loc) (.map en' clock') } ∧ Ext G H w G (H.set loc (.map kd (updMap es n v))) { w with heap := w.heap.setIfInBounds (G.mu loc) (.map en' clock') } := by
    intro en' clock' h1 h2
    have hoth : ∀ b, b ≠ G.mu loc → ({ w with heap := w.heap.setIfInBounds (G.mu loc) (.map en' clock') } : World).heap[b]? = w.heap[b]? := fun b hb => by
      show (w.heap.setIfInBounds _ _)[b]? = _
      rw [Array.getElem?_setIfInBounds_ne (Ne.symm hb)]
    have hle : Le G H.length w G H.length { w with heap := w.heap.setIfInBounds (G.mu loc) (.map en' clock') } :=
      ⟨Nat.le_refl _, fun _ _ => rfl, fun _ _ => Nat.le_refl _, fun _ _ _ => rfl, fun b p hp => ⟨hp, cellAt_of_block (hoth b fun e => hs.free loc _ ho rfl p (e ▸ hp)) p⟩⟩
    refine hs.put (o' := .map kd (updMap es n v)) ho rfl rfl (by simp) hoth rfl rfl rfl ⟨en', clock', ?_, h1, fun j hj => ⟨(h2 j hj).1, (h2 j hj).2.mono hle⟩⟩
    show (w.heap.setIfInBounds _ _)[_]? = _
    rw [Array.getElem?_setIfInBounds_self_of_lt hlt]
  cases hx with
  | map _ hloc =>
    have hck : (Instr.checkKey false 10000 key (.int kd n)).run C.P w = .ok () w := run_checkKey_int hd2
    rcases findNow_out (m := n) (ty := kd) en.toList es 0 hl hr with ⟨j, v0, g1, _, g3, g4, g5⟩ | ⟨g1, g2, g3⟩
    · have hf := run_findKey (w := w) hd2 g1
      have hjs : j < en.size := by simpa using g3
      have hkey : (((en[j]?).map (·.key)).getD (.int kd n)) = .int kd n := by
        have : (en.toList.getD j default).key = .int kd n := g4
        simp [hjs] at this ⊢
        exact this
      have hrun : (Instr.mapUpdate t (.map (some (G.mu loc))) (.int kd n) z).run C.P w = .ok () { w with heap := w.heap.setIfInBounds (G.mu loc) (.map (en.modify j fun e => { e with key := .int kd n, val := z }) clock) } := by
        simp [Instr.mapUpdate, run_underlying hd1, run_getO hb, hck, hf, Instr.keyThatStays, hkey, Instr.sameBits, run_setO hb]
      obtain ⟨h1, h2⟩ := key' (en.modify j fun e => { e with key := .int kd n, val := z }) clock (by rw [g5]; simp; simpa using hl) (fun q hq => by
        rw [g5] at hq ⊢
        have hq' : q < es.length := by simpa using hq
        have hqe : q < en.size := by have := hl; simp at this; omega
        by_cases e : q = j
        · subst e
          simp [hqe, hq', Array.getElem_modify, hz]
        · have := hr q (by simpa using hqe)
          simp [hqe, List.getElem?_set_ne (Ne.symm e), Array.getElem_modify, Ne.symm e] at this ⊢
          exact this)
      exact ⟨_, _, hrun, hk, h1, h2⟩
    · have hf := run_findKey (w := w) hd2 g1
      have hrun : (Instr.mapUpdate t (.map (some (G.mu loc))) (.int kd n) z).run C.P w = .ok () { w with heap := w.heap.setIfInBounds (G.mu loc) (.map (en.push { key := .int kd n, val := z, born := clock }) (clock + 1)) } := by
        simp [Instr.mapUpdate, run_underlying hd1, run_getO hb, hck, hf, run_setO hb]
      have hle : en.size = es.length := by simpa using hl
      obtain ⟨h1, h2⟩ := key' (en.push { key := .int kd n, val := z, born := clock }) (clock + 1) (by rw [g3]; simp [hle]) (fun q hq => by
        rw [g3] at hq ⊢
        simp at hq
        by_cases e : q < es.length
        · have := hr q (by simpa using (by omega : q < en.size))
          have hqe : q < en.size := by omega
          simp [Array.getElem?_push, hqe, Nat.ne_of_lt hqe, List.getElem?_append_left e] at this ⊢
          exact this
        · have e' : q = es.length := by omega
          subst e'
          simp [← hle, hz])
      exact ⟨_, _, hrun, hk, h1, h2⟩

theorem makeMap_out {P : Program} {G : Gh} {H : List AObj} {w : World} (hs : Sim G H w) {t : TypeId} {kd : IntKind} : ∃ G', (Instr.makeMap t none).run P w = .ok (.map (some w.heap.size)) (w.alloc (.map #[] 0)) ∧
    Sim G' (H ++ [.map kd []]) (w.alloc (.map #[] 0)) ∧ Rep G' (H.length + 1) (w.alloc (.map #[] 0)) (.map (some w.heap.size)) (.map H.length) ∧ Ext G H w G' (H ++ [.map kd []]) (w.alloc (.map #[] 0)) := by
  obtain ⟨h1, h2⟩ := hs.push (.map kd []) (.map #[] 0) rfl ⟨#[], 0, by simpa [Gh.push] using heap_alloc_new w (.map #[] 0), rfl, fun i hi => absurd hi (by simp)⟩
  refine ⟨_, by simp [Instr.makeMap], h1, ?_, h2⟩
  have := Rep.map (G := G.push H.length w.heap.size) (n := H.length + 1) (w := w.alloc (.map #[] 0)) H.length (Nat.lt_succ_self _)
  simpa [Gh.push] using this

/-! Built-in functions. -/
theorem minmax_out {P : Program} {G : Gh} {n : Nat} {w : World} {isMax : Bool} {xs : Array Value} {as : List AV} {at' : Array TypeId} {ty : TypeId} (hr : Reps G n w xs as) {k : AV → Prop} (h : minmaxK isMax k as) :
    ∃ z u, ((if isMax then Builtin.max_ at' ty xs else Builtin.min_ at' ty xs).run P w = .ok z w) ∧ k u ∧ Rep G n w z u := by
  unfold minmaxK at h
  split at h
  · rename_i a x b y
    obtain ⟨he, hk⟩ := guardK_iff.1 h
    clear h
    obtain rfl := ikBeq_eq he
    have hs := hr.1
    have h0 := hr.2 0 (by simp)
    have h1 := hr.2 1 (by simp)
    obtain ⟨l⟩ := xs
    match l, hs with
    | [p, q], _ =>
      have e0 : p = .int a x := rep_int h0
      have e1 : q = .int a y := rep_int h1
      subst e0; subst e1
      cases isMax with
      | true => exact ⟨_, _, by simp [Builtin.max_, Builtin.max2], hk, .int _ _⟩
      | false => exact ⟨_, _, by simp [Builtin.min_, Builtin.min2], hk, .int _ _⟩
  · exact h.elim

theorem reps_one_inv {G n w} {xs : Array Value} {a : AV} (h : Reps G n w xs [a]) : ∃ x, xs = #[x] ∧ Rep G n w x a := by
  obtain ⟨l⟩ := xs
  have hs := h.1
  match l, hs with
  | [p], _ => exact ⟨p, rfl, h.2 0 (by simp)⟩

theorem reps_two_inv {G n w} {xs : Array Value} {a b : AV} (h : Reps G n w xs [a, b]) : ∃ x y, xs = #[x, y] ∧ Rep G n w x a ∧ Rep G n w y b := by
  obtain ⟨l⟩ := xs
  have hs := h.1
  match l, hs with
  | [p, q], _ => exact ⟨p, q, rfl, h.2 0 (by simp), h.2 1 (by simp)⟩

theorem toList_one {α : Type} {xs : Array α} {x : α} (h : xs.toList = [x]) : xs = #[x] := by
  obtain ⟨l⟩ := xs; simp at h; subst h; rfl
theorem toList_two {α : Type} {xs : Array α} {x y : α} (h : xs.toList = [x, y]) : xs = #[x, y] := by
  obtain ⟨l⟩ := xs; simp at h; subst h; rfl

theorem lenOf_out {C : Ctx} (hT : TabOk C) {G : Gh} {n : Nat} {w : World} {t ty : TypeId} {x : Value} {v : AV} (hv : Rep G n w x v) {k : Int → Prop} (h : lenOf C t v k) : ∃ m, k m ∧ (Builtin.len_ #[t] ty #[x]).run C.P w = .ok (.int .i64 m) w := by
  obtain ⟨hsl, h⟩ := guardK_iff.1 h
  have hund := (hT.ok t).sl hsl
  have key : ∀ (b : Option Addr) (m cap : Nat), (Builtin.len_ #[t] ty #[.slice b m cap]).run C.P w = .ok (.int .i64 m) w := fun b m cap => by
    simp [Builtin.len_, run_underlying hund, goInt]
  split at h
  · rename_i u l tok
    obtain ⟨b, cap, c, rfl, _⟩ := (src_sl hv).first
    exact ⟨_, h, key _ _ _⟩
  · cases hv with
    | osl0 => exact ⟨_, h, key _ _ _⟩
    | osl => exact ⟨_, h, key _ _ _⟩
  · cases hv with
    | nilsl => exact ⟨_, h, key _ _ _⟩
  · exact h.elim

theorem builtin_out {C : Ctx} (hT : TabOk C) {G : Gh} {H : List AObj} {w : World} (hs : Sim G H w) {draw located own : Bool} {b : Go.Builtin} {ts : Array TypeId} {ty : TypeId} {cs : Array Bool} {xs : Array Value} {as : List AV} (hr : Reps G H.length w xs as) {k : AV → List AObj → Prop}
    (h : builtinK C draw located own b ts.toList as H k) : Ran ((Go.builtin b ts ty cs xs).run C.P w) G H w k := by
  unfold builtinK at h
  split at h
  · split at h
    · rename_i t x hts
      obtain ⟨y, rfl, hy⟩ := reps_one_inv hr
      have hts := toList_one hts
      subst hts
      obtain ⟨m, hk, hrun⟩ := lenOf_out hT hy (ty := ty) h
      exact Ran.value (s := Builtin.len_ _ _ _) hrun hs hk (.int _ _)
    · exact h.elim
  · split at h
    · rename_i t t2 x y hts
      obtain ⟨p, q, rfl, hp, hq⟩ := reps_two_inv hr
      have hts := toList_two hts
      subst hts
      obtain ⟨z, w', v, H', G', hrun, hk, h1, h2, h3⟩ := append_out hT hs (ty := ty) hp hq h
      exact ⟨.value z, z, w', v, H', G', run_v hrun, .inl rfl, hk, h1, h2, h3⟩
    · exact h.elim
  · split at h
    · rename_i t t2 x y hts
      obtain ⟨p, q, rfl, hp, hq⟩ := reps_two_inv hr
      have hts := toList_two hts
      subst hts
      obtain ⟨z, w', v, H', G', hrun, hk, h1, h2, h3⟩ := copy_out hT hs (ty := ty) hp hq h
      exact ⟨.value z, z, w', v, H', G', run_v hrun, .inl rfl, hk, h1, h2, h3⟩
    · exact h.elim
  · obtain ⟨z, u, hrun, hk, hz⟩ := minmax_out (P := C.P) (isMax := false) (at' := ts) (ty := ty) hr h
    exact Ran.value (s := Builtin.min_ _ _ _) hrun hs hk hz
  · obtain ⟨z, u, hrun, hk, hz⟩ := minmax_out (P := C.P) (isMax := true) (at' := ts) (ty := ty) hr h
    exact Ran.value (s := Builtin.max_ _ _ _) hrun hs hk hz
  · split at h
    · obtain ⟨y, rfl, hy⟩ := reps_one_inv hr
      cases hy
      exact Ran.value (s := Builtin.real_ _ _ _) (x := .float .f64 _) rfl hs h (.flt _)
    · exact h.elim
  · split at h
    · obtain ⟨y, rfl, hy⟩ := reps_one_inv hr
      cases hy
      exact Ran.value (s := Builtin.imag_ _ _ _) (x := .float .f64 _) rfl hs h (.flt _)
    · exact h.elim
  · split at h
    · obtain ⟨y, z, rfl, hy, hz⟩ := reps_two_inv hr
      cases hy
      cases hz
      exact Ran.value (s := Builtin.complex_ _ _ _) (x := .complex .f64 _ _) rfl hs h (.cpx _ _)
    · exact h.elim
  · exact h.elim

end Av
