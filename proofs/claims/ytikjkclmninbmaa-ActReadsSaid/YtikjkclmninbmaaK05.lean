/- The abstract machine: how operations run (2): stores and new objects. The abstract machine: how operations run (3): stores and new objects. Own work. -/
import Derived.Test.YtikjkclmninbmaaK04
section
set_option linter.unusedSimpArgs false
set_option linter.unusedVariables false
set_option linter.unnecessarySimpa false
namespace Av
open Go

theorem cells_rep {G n w} {x : Value} {v : AV} (h : Rep G n w x v) (hj : notJunk v = true) : Reps G n w x.cells (cellsOf v) := by
  have one : ∀ {y : Value} {u : AV}, Rep G n w y u → Reps G n w #[y] [u] := fun h => ⟨rfl, fun k hk => by
    have : k = 0 := by simpa using hk
    subst this; exact h⟩
  cases h with
  | junk => cases hj
  | agg xs as h1 h2 => exact ⟨h1, h2⟩
  | int k m => exact one (.int k m)
  | bool b => exact one (.bool b)
  | flt b => exact one (.flt b)
  | cpx a b => exact one (.cpx a b)
  | nilp => exact one .nilp
  | ptr loc i e j h => exact one (.ptr loc i e j h)
  | vptr b o cs j vs h1 h2 => exact one (.vptr b o cs j vs h1 h2)
  | nilsl => exact one .nilsl
  | slnil t tok a h => exact one (.slnil t tok a h)
  | sl t l tok b o cap vs h1 h3 h4 h5 => exact one (.sl t l tok b o cap vs h1 h3 h4 h5)
  | osl loc lo len e cap h1 h2 h3 => exact one (.osl loc lo len e cap h1 h2 h3)
  | osl0 loc lo e a cap h h' => exact one (.osl0 loc lo e a cap h h')
  | map loc h => exact one (.map loc h)
  | fn f xs ys as bs h1 h2 h3 h4 => exact one (.fn f xs ys as bs h1 h2 h3 h4)
  | yield loc h => exact one (.yield loc h)
  | nilfn => exact one .nilfn
  | tup xs as h1 h2 => exact one (.tup xs as h1 h2)

theorem plain_one {G n w} {x : Value} {v : AV} (h : Rep G n w x v) (hp : plainCells [v] = true) : x.oneCell' = true := by
  cases h <;> first | rfl | cases hp

theorem plain_get : ∀ {vs : List AV}, plainCells vs = true → ∀ i, i < vs.length → plainCells [vs.getD i .junk] = true
  | v :: vs, h, 0, _ => by simp only [plainCells, Bool.and_eq_true] at h ⊢; exact ⟨h.1, trivial⟩
  | v :: vs, h, i + 1, hi => by
    simp only [plainCells, Bool.and_eq_true] at h
    simpa using plain_get h.2 i (by simpa using hi)

theorem plain_notJunk {v : AV} (h : plainCells (cellsOf v) = true) : notJunk v = true := by
  cases v <;> first | rfl | cases h

theorem reps_one {G n w xs vs} (h : Reps G n w xs vs) (hp : plainCells vs = true) : ∀ v ∈ xs.toList, v.oneCell' = true := by
  intro v hv
  obtain ⟨i, hi, rfl⟩ := List.getElem_of_mem hv
  have hi' : i < vs.length := by rw [← h.1]; simpa using hi
  have := h.2 i hi'
  rw [show xs.getD i undef = xs.toList[i] from by simp at hi; simp [hi]] at this
  exact plain_one this (plain_get hp i hi')

/-- Rows as lists: each one's own reading. -/
theorem reps_iff {G n w xs vs} : Reps G n w xs vs ↔ xs.size = vs.length ∧ ∀ (k : Nat) (v : AV), vs[k]? = some v → ∃ x, xs[k]? = some x ∧ Rep G n w x v := by
  constructor
  · intro h
    refine ⟨h.1, fun k v hv => ?_⟩
    exact ⟨_, h.cells k (lt_of_get hv), h.get hv⟩
  · rintro ⟨h1, h2⟩
    refine ⟨h1, fun k hk => ?_⟩
    obtain ⟨x, hx, hr⟩ := h2 k _ (List.getElem?_eq_getElem hk)
    rw [List.getD_eq_getElem?_getD, List.getElem?_eq_getElem hk]
    rw [show xs.getD k undef = x from by simp [hx]]
    exact hr

theorem Reps.app {G n w} {xs ys : List Value} {as bs : List AV} (h : Reps G n w xs.toArray as) (h' : Reps G n w ys.toArray bs) : Reps G n w (xs ++ ys).toArray (as ++ bs) := by
  rw [reps_iff] at *
  obtain ⟨l1, h1⟩ := h
  obtain ⟨l2, h2⟩ := h'
  simp only [List.size_toArray] at l1 l2
  refine ⟨by simp [l1, l2], fun k v hv => ?_⟩
  by_cases q : k < as.length
  · rw [List.getElem?_append_left q] at hv
    obtain ⟨x, hx, hr⟩ := h1 k v hv
    exact ⟨x, by simpa [List.getElem?_append_left (show k < xs.length by omega)] using hx, hr⟩
  · rw [List.getElem?_append_right (by omega)] at hv
    obtain ⟨x, hx, hr⟩ := h2 _ v hv
    refine ⟨x, ?_, hr⟩
    simp only [List.getElem?_toArray] at hx ⊢
    rw [List.getElem?_append_right (by omega), l1]; exact hx

theorem Reps.take {G n w} {xs : List Value} {as : List AV} (h : Reps G n w xs.toArray as) (j : Nat) : Reps G n w (xs.take j).toArray (as.take j) := by
  rw [reps_iff] at *
  obtain ⟨l1, h1⟩ := h
  simp only [List.size_toArray] at l1
  refine ⟨by simp [l1], fun k v hv => ?_⟩
  have hk : k < j := by have := lt_of_get hv; simp at this; omega
  rw [List.getElem?_take_of_lt hk] at hv
  obtain ⟨x, hx, hr⟩ := h1 k v hv
  exact ⟨x, by simpa [List.getElem?_take_of_lt hk] using hx, hr⟩

theorem Reps.drop {G n w} {xs : List Value} {as : List AV} (h : Reps G n w xs.toArray as) (j : Nat) : Reps G n w (xs.drop j).toArray (as.drop j) := by
  rw [reps_iff] at *
  obtain ⟨l1, h1⟩ := h
  simp only [List.size_toArray] at l1
  refine ⟨by simp [l1], fun k v hv => ?_⟩
  rw [List.getElem?_drop] at hv
  obtain ⟨x, hx, hr⟩ := h1 _ v hv
  exact ⟨x, by simpa [List.getElem?_drop] using hx, hr⟩

theorem Reps.patch {G n w} {c : Array Value} {cs : List AV} {xs : List Value} {vs : List AV} (h : Reps G n w c cs) (h' : Reps G n w xs.toArray vs) (j : Nat) :
    Reps G n w (c.toList.take j ++ xs ++ c.toList.drop (j + xs.length)).toArray (cs.take j ++ vs ++ cs.drop (j + vs.length)) := by
  have hl : xs.length = vs.length := by have := h'.1; simpa using this
  rw [hl]
  have hc : Reps G n w c.toList.toArray cs := by simpa using h
  exact (Reps.app (Reps.take hc j) h').app (Reps.drop hc _)

theorem setRow_os (w : World) (g : Nat) (cs : Array Value) : (w.setRow g cs).os = w.os := rfl

theorem setRow_size (w : World) (g : Nat) (cs : Array Value) : (w.setRow g cs).heap.size = w.heap.size := by simp [World.setRow]

/-- What a decoded element's cells are. -/
theorem slOf_rep {G n w x} {t : ETy} {a : AV} {l : List t.C} (h : slOf t a = some l) (hr : Rep G n w x a) : Rep G n w x (.sl t l .none) := by
  unfold slOf at h
  split at h
  · rename_i t' l' tok
    split at h
    · rename_i e
      subst e
      cases h
      cases hr with
      | slnil t tok a ht => exact .slnil _ _ _ trivial
      | sl t l tok b o cap vs h1 h3 h4 h5 => exact .sl _ _ _ b o cap vs h1 h3 h4 trivial
    · cases h
  · cases h; cases hr; exact .slnil _ _ _ trivial
  · cases h

theorem iOf_eq {a : AV} {n : Int} (h : iOf a = some n) : a = .int .i64 n := by
  unfold iOf at h; split at h <;> first | (cases h; rfl) | cases h
theorem uOf_eq {a : AV} {n : Int} (h : uOf a = some n) : a = .int .u64 n := by
  unfold uOf at h; split at h <;> first | (cases h; rfl) | cases h
theorem bOf_eq {a : AV} {n : Bool} (h : bOf a = some n) : a = .bool n := by
  unfold bOf at h; split at h <;> first | (cases h; rfl) | cases h

theorem decNode_eq {cs : List AV} {y : Node} (h : decNode cs = some y) : ∃ a0 a1 a2 a3 v0 v1 v2 v3, cs = [a0, a1, a2, a3] ∧ y = ⟨⟨v0, v1, v2⟩, v3⟩ ∧ iOf a0 = some v0 ∧ iOf a1 = some v1 ∧ uOf a2 = some v2 ∧ slOf .u64 a3 = some v3 := by
  rcases cs with _ | ⟨a0, cs⟩
  · cases h
  rcases cs with _ | ⟨a1, cs⟩
  · cases h
  rcases cs with _ | ⟨a2, cs⟩
  · cases h
  rcases cs with _ | ⟨a3, cs⟩
  · cases h
  rcases cs with _ | ⟨z, cs⟩
  rotate_left
  · cases h
  simp only [decNode] at h
  obtain ⟨v0, h0, h⟩ := Option.bind_eq_some_iff.1 h
  obtain ⟨v1, h1, h⟩ := Option.bind_eq_some_iff.1 h
  obtain ⟨v2, h2, h⟩ := Option.bind_eq_some_iff.1 h
  obtain ⟨v3, h3, h⟩ := Option.bind_eq_some_iff.1 h
  exact ⟨a0, a1, a2, a3, v0, v1, v2, v3, rfl, (Option.some.inj h).symm, h0, h1, h2, h3⟩

theorem decOpD_eq {cs : List AV} {y : OpD} (h : decOpD cs = some y) : ∃ a0 a1 a2 a3 a4 a5 a6 a7 v0 v1 v2 v3 v4 v5 v6 v7, cs = [a0, a1, a2, a3, a4, a5, a6, a7] ∧ y = ⟨v0, v1, v2, v3, v4, ⟨v5, v6, v7⟩⟩ ∧ iOf a0 = some v0 ∧ iOf a1 = some v1 ∧ iOf a2 = some v2 ∧ iOf a3 = some v3 ∧ uOf a4 = some v4 ∧ iOf a5 = some v5 ∧ iOf a6 = some v6 ∧ uOf a7 = some v7 := by
  rcases cs with _ | ⟨a0, cs⟩
  · cases h
  rcases cs with _ | ⟨a1, cs⟩
  · cases h
  rcases cs with _ | ⟨a2, cs⟩
  · cases h
  rcases cs with _ | ⟨a3, cs⟩
  · cases h
  rcases cs with _ | ⟨a4, cs⟩
  · cases h
  rcases cs with _ | ⟨a5, cs⟩
  · cases h
  rcases cs with _ | ⟨a6, cs⟩
  · cases h
  rcases cs with _ | ⟨a7, cs⟩
  · cases h
  rcases cs with _ | ⟨z, cs⟩
  rotate_left
  · cases h
  simp only [decOpD] at h
  obtain ⟨v0, h0, h⟩ := Option.bind_eq_some_iff.1 h
  obtain ⟨v1, h1, h⟩ := Option.bind_eq_some_iff.1 h
  obtain ⟨v2, h2, h⟩ := Option.bind_eq_some_iff.1 h
  obtain ⟨v3, h3, h⟩ := Option.bind_eq_some_iff.1 h
  obtain ⟨v4, h4, h⟩ := Option.bind_eq_some_iff.1 h
  obtain ⟨v5, h5, h⟩ := Option.bind_eq_some_iff.1 h
  obtain ⟨v6, h6, h⟩ := Option.bind_eq_some_iff.1 h
  obtain ⟨v7, h7, h⟩ := Option.bind_eq_some_iff.1 h
  exact ⟨a0, a1, a2, a3, a4, a5, a6, a7, v0, v1, v2, v3, v4, v5, v6, v7, rfl, (Option.some.inj h).symm, h0, h1, h2, h3, h4, h5, h6, h7⟩

theorem decAnswer_eq {cs : List AV} {y : Answer} (h : decAnswer cs = some y) : ∃ a0 a1 a2 v0 v1 v2, cs = [a0, a1, a2] ∧ y = ⟨v0, v1, v2⟩ ∧ iOf a0 = some v0 ∧ uOf a1 = some v1 ∧ bOf a2 = some v2 := by
  rcases cs with _ | ⟨a0, cs⟩
  · cases h
  rcases cs with _ | ⟨a1, cs⟩
  · cases h
  rcases cs with _ | ⟨a2, cs⟩
  · cases h
  rcases cs with _ | ⟨z, cs⟩
  rotate_left
  · cases h
  simp only [decAnswer] at h
  obtain ⟨v0, h0, h⟩ := Option.bind_eq_some_iff.1 h
  obtain ⟨v1, h1, h⟩ := Option.bind_eq_some_iff.1 h
  obtain ⟨v2, h2, h⟩ := Option.bind_eq_some_iff.1 h
  exact ⟨a0, a1, a2, v0, v1, v2, rfl, (Option.some.inj h).symm, h0, h1, h2⟩

theorem decEntry_eq {cs : List AV} {y : Entry} (h : decEntry cs = some y) : ∃ a0 a1 v0 v1, cs = [a0, a1] ∧ y = ⟨v0, v1⟩ ∧ uOf a0 = some v0 ∧ iOf a1 = some v1 := by
  rcases cs with _ | ⟨a0, cs⟩
  · cases h
  rcases cs with _ | ⟨a1, cs⟩
  · cases h
  rcases cs with _ | ⟨z, cs⟩
  rotate_left
  · cases h
  simp only [decEntry] at h
  obtain ⟨v0, h0, h⟩ := Option.bind_eq_some_iff.1 h
  obtain ⟨v1, h1, h⟩ := Option.bind_eq_some_iff.1 h
  exact ⟨a0, a1, v0, v1, rfl, (Option.some.inj h).symm, h0, h1⟩

theorem decThread_eq {cs : List AV} {y : Thread} (h : decThread cs = some y) : ∃ a0 a1 a2 a3 a4 a5 a6 a7 v0 v1 v2 v3 v4 v5 v6 v7, cs = [a0, a1, a2, a3, a4, a5, a6, a7] ∧ y = ⟨v0, v1, v2, v3, v4, v5, v6, v7⟩ ∧ slOf .u64 a0 = some v0 ∧ iOf a1 = some v1 ∧ iOf a2 = some v2 ∧ slOf .entry a3 = some v3 ∧ slOf .op a4 = some v4 ∧ slOf .entry a5 = some v5 ∧ bOf a6 = some v6 ∧ slOf .ans a7 = some v7 := by
  rcases cs with _ | ⟨a0, cs⟩
  · cases h
  rcases cs with _ | ⟨a1, cs⟩
  · cases h
  rcases cs with _ | ⟨a2, cs⟩
  · cases h
  rcases cs with _ | ⟨a3, cs⟩
  · cases h
  rcases cs with _ | ⟨a4, cs⟩
  · cases h
  rcases cs with _ | ⟨a5, cs⟩
  · cases h
  rcases cs with _ | ⟨a6, cs⟩
  · cases h
  rcases cs with _ | ⟨a7, cs⟩
  · cases h
  rcases cs with _ | ⟨z, cs⟩
  rotate_left
  · cases h
  simp only [decThread] at h
  obtain ⟨v0, h0, h⟩ := Option.bind_eq_some_iff.1 h
  obtain ⟨v1, h1, h⟩ := Option.bind_eq_some_iff.1 h
  obtain ⟨v2, h2, h⟩ := Option.bind_eq_some_iff.1 h
  obtain ⟨v3, h3, h⟩ := Option.bind_eq_some_iff.1 h
  obtain ⟨v4, h4, h⟩ := Option.bind_eq_some_iff.1 h
  obtain ⟨v5, h5, h⟩ := Option.bind_eq_some_iff.1 h
  obtain ⟨v6, h6, h⟩ := Option.bind_eq_some_iff.1 h
  obtain ⟨v7, h7, h⟩ := Option.bind_eq_some_iff.1 h
  exact ⟨a0, a1, a2, a3, a4, a5, a6, a7, v0, v1, v2, v3, v4, v5, v6, v7, rfl, (Option.some.inj h).symm, h0, h1, h2, h3, h4, h5, h6, h7⟩

theorem dec_rep {G n w} {u : ETy} {cs : List AV} {y : u.C} (h : dec u cs = some y) : cs.length = esz u ∧ ∀ q x, Rep G n w x (cs.getD q .junk) → q < esz u → Rep G n w x ((enc u y).getD q .junk) := by
  cases u with
  | u64 =>
    match cs, h with
    | [a], h =>
      rw [uOf_eq h]
      refine ⟨rfl, fun q x hr hq => ?_⟩
      match q, hq with
      | 0, _ => exact hr
  | int =>
    match cs, h with
    | [a], h =>
      rw [iOf_eq h]
      refine ⟨rfl, fun q x hr hq => ?_⟩
      match q, hq with
      | 0, _ => exact hr
  | node =>
    obtain ⟨a0, a1, a2, a3, v0, v1, v2, v3, rfl, rfl, h0, h1, h2, h3⟩ := decNode_eq h
    obtain rfl := iOf_eq h0
    obtain rfl := iOf_eq h1
    obtain rfl := uOf_eq h2
    refine ⟨rfl, fun q x hr hq => ?_⟩
    match q, hq with
    | 0, _ => exact hr
    | 1, _ => exact hr
    | 2, _ => exact hr
    | 3, _ => exact slOf_rep h3 hr
  | op =>
    obtain ⟨a0, a1, a2, a3, a4, a5, a6, a7, v0, v1, v2, v3, v4, v5, v6, v7, rfl, rfl, h0, h1, h2, h3, h4, h5, h6, h7⟩ := decOpD_eq h
    obtain rfl := iOf_eq h0
    obtain rfl := iOf_eq h1
    obtain rfl := iOf_eq h2
    obtain rfl := iOf_eq h3
    obtain rfl := uOf_eq h4
    obtain rfl := iOf_eq h5
    obtain rfl := iOf_eq h6
    obtain rfl := uOf_eq h7
    refine ⟨rfl, fun q x hr hq => ?_⟩
    match q, hq with
    | 0, _ => exact hr
    | 1, _ => exact hr
    | 2, _ => exact hr
    | 3, _ => exact hr
    | 4, _ => exact hr
    | 5, _ => exact hr
    | 6, _ => exact hr
    | 7, _ => exact hr
  | ans =>
    obtain ⟨a0, a1, a2, v0, v1, v2, rfl, rfl, h0, h1, h2⟩ := decAnswer_eq h
    obtain rfl := iOf_eq h0
    obtain rfl := uOf_eq h1
    obtain rfl := bOf_eq h2
    refine ⟨rfl, fun q x hr hq => ?_⟩
    match q, hq with
    | 0, _ => exact hr
    | 1, _ => exact hr
    | 2, _ => exact hr
  | entry =>
    obtain ⟨a0, a1, v0, v1, rfl, rfl, h0, h1⟩ := decEntry_eq h
    obtain rfl := uOf_eq h0
    obtain rfl := iOf_eq h1
    refine ⟨rfl, fun q x hr hq => ?_⟩
    match q, hq with
    | 0, _ => exact hr
    | 1, _ => exact hr
  | thread =>
    obtain ⟨a0, a1, a2, a3, a4, a5, a6, a7, v0, v1, v2, v3, v4, v5, v6, v7, rfl, rfl, h0, h1, h2, h3, h4, h5, h6, h7⟩ := decThread_eq h
    obtain rfl := iOf_eq h1
    obtain rfl := iOf_eq h2
    obtain rfl := bOf_eq h6
    refine ⟨rfl, fun q x hr hq => ?_⟩
    match q, hq with
    | 0, _ => exact slOf_rep h0 hr
    | 1, _ => exact hr
    | 2, _ => exact hr
    | 3, _ => exact slOf_rep h3 hr
    | 4, _ => exact slOf_rep h4 hr
    | 5, _ => exact slOf_rep h5 hr
    | 6, _ => exact hr
    | 7, _ => exact slOf_rep h7 hr
  | rows e =>
    match cs, h with
    | [a], h =>
      refine ⟨rfl, fun q x hr hq => ?_⟩
      match q, hq with
      | 0, _ => exact slOf_rep h hr

end Av
end
section
set_option linter.unusedSimpArgs false
set_option linter.unusedVariables false
set_option linter.unnecessarySimpa false
namespace Av
open Go

theorem run_storeVar {P : Program} {w : World} {t : TypeId} {b o : Nat} {inf : TypeInfo} {v : Value} {c : Array Value} {el : TypeId} (hi : P.info? t = some inf) (hsz : v.cells.size = inf.size)
    (hg : w.heap[b]? = some (.cells c el (0, 0))) (hfit : o + v.cells.size ≤ c.size) (h1 : ∀ x ∈ v.cells.toList, x.oneCell' = true) :
    (storeVar t ⟨b, o, none⟩ v).run P w = .ok () (w.setRow b (c.toList.take o ++ v.cells.toList ++ c.toList.drop (o + v.cells.size)).toArray) := by
  unfold storeVar
  simp only [Sem.run_bind, run_sizeOf hi, Result.andThen_ok]
  rw [if_neg (by simp [hsz])]
  have := run_storeCells_at P b o el v.cells.toList 0 c w hg (by simpa using hfit) h1
  simpa using this

theorem Le.set {G H w loc o} (hs : Sim G H w) (ho : H[loc]? = some o) (hm : o.mut = true) (cs : Array Value) : Le G H.length w G H.length (w.setRow (G.mu loc) cs) :=
  ⟨Nat.le_refl _, fun _ _ => rfl, fun _ _ => Nat.le_refl _, fun _ _ _ => rfl, fun b p hp =>
    ⟨hp, cellAt_of_block (setRow_other w _ _ cs (by intro e; exact hs.free loc o ho hm p (e ▸ hp))) p⟩⟩

theorem getD_patch {α : Type} {c xs : List α} {o k : Nat} {d : α} (ho : o + xs.length ≤ c.length) :
    (c.take o ++ xs ++ c.drop (o + xs.length)).getD k d = if k < o then c.getD k d else if k < o + xs.length then xs.getD (k - o) d else c.getD k d := by
  simp only [List.getD_eq_getElem?_getD]
  by_cases h1 : k < o
  · rw [if_pos h1, List.append_assoc, List.getElem?_append_left (by simp; omega), List.getElem?_take_of_lt h1]
  · rw [if_neg h1]
    have hto : (c.take o).length = o := by simp; omega
    by_cases h2 : k < o + xs.length
    · rw [if_pos h2, List.append_assoc, List.getElem?_append_right (by rw [hto]; omega), hto, List.getElem?_append_left (by omega)]
    · rw [if_neg h2, List.getElem?_append_right (by simp; omega), List.getElem?_drop]
      congr 2
      simp
      omega

theorem patch_len {α : Type} {c xs : List α} {o : Nat} (ho : o + xs.length ≤ c.length) : (c.take o ++ xs ++ c.drop (o + xs.length)).length = c.length := by simp; omega

theorem run_storeAt {P : Program} {w : World} {t : TypeId} {a : Addr} {y : Value} : (Instr.storeAt t (.pointer (some a)) y).run P w = (storeVar t a y).run P w := by
  simp [Instr.storeAt, Instr.sureAddr]

theorem storeK_out {C : Ctx} (hT : TabOk C) {G : Gh} {H : List AObj} {w : World} (hs : Sim G H w) {dyn : Bool} {t : TypeId} {p v : AV} {x y : Value} (hp : Rep G H.length w x p) (hv : Rep G H.length w y v)
    {k : List AObj → Prop} (h : storeK C dyn t p v H k) :
    ∃ H' w', (Instr.storeAt t x y).run C.P w = .ok () w' ∧ k H' ∧ H'.length = H.length ∧ Sim G H' w' ∧ Ext G H w G H' w' := by
  unfold storeK at h
  rw [cellsK_iff, guardK_iff, guardK_iff] at h
  obtain ⟨hlen, hplain, h⟩ := h
  obtain ⟨hlen, hne⟩ := lenIs_eq hlen
  have hreps := cells_rep hv (plain_notJunk hplain)
  obtain ⟨inf, z, hi, hsz, _⟩ := (hT.ok t).info hne
  have hysz : y.cells.size = inf.size := by rw [hreps.1, hlen, hsz]
  have hone := reps_one hreps hplain
  cases hp with
  | ptr loc i e j hl =>
    obtain ⟨o, ho, h⟩ := hgetK_iff.1 h
    cases o with
    | box cs =>
      obtain ⟨hi0, h⟩ := guardK_iff.1 h
      obtain rfl := Nat.eq_of_beq_eq_true hi0
      obtain ⟨c, ⟨el, hb⟩, hc⟩ := hs.obj loc _ ho
      -- the two ways come to one patch
      have key : ∃ cs', hsetK H loc (.box cs') k ∧ (j + (cellsOf v).length ≤ cs.length) ∧ cs' = cs.take j ++ cellsOf v ++ cs.drop (j + (cellsOf v).length) := by
        cases dyn with
        | false =>
          obtain ⟨⟨h1, h2⟩, h3⟩ := patchK_iff.1 h
          exact ⟨_, h3, h2, rfl⟩
        | true =>
          simp only at h
          split at h
          · rename_i v0 hv0
            obtain ⟨hj, h⟩ := h
            refine ⟨_, h, by rw [hv0]; simp; omega, ?_⟩
            rw [hv0, List.set_eq_take_append_cons_drop, if_pos hj]
            simp
          · exact h.elim
      obtain ⟨cs', h, hfit, rfl⟩ := key
      obtain ⟨_, h⟩ := hsetK_iff.1 h
      have hfit' : (0 * e + j) + y.cells.size ≤ c.size := by rw [hreps.1, hc.1]; omega
      have hrun := run_storeVar (o := 0 * e + j) hi hysz hb hfit' hone
      rw [show (0 * e + j) = j from by omega] at hrun ⊢
      refine ⟨_, _, run_storeAt.trans hrun, h, by simp, ?_⟩
      refine hs.put ho rfl rfl (setRow_size _ _ _) (fun b hb' => setRow_other w _ _ _ hb') rfl rfl rfl ?_
      refine ⟨_, ⟨el, setRow_heap w _ c _ el _ hb⟩, ?_⟩
      have hle := Le.set hs ho rfl (c.toList.take j ++ y.cells.toList ++ c.toList.drop (j + y.cells.size)).toArray
      have := (hc.mono hle).patch (xs := y.cells.toList) (by simpa using hreps.mono hle) j
      simpa using this
    | arr u l fr =>
      cases fr with
      | true => exact h.elim
      | false =>
      obtain ⟨he, x0, hx, g0⟩ := guardK_iff.1 h
      obtain rfl := Nat.eq_of_beq_eq_true he
      have hil := lt_of_get hx
      have hlne : l ≠ [] := by intro e; rw [e] at hil; simp at hil
      have hm : (AObj.arr u l false).mut = true := by cases l <;> simp_all [AObj.mut, AObj.real]
      obtain ⟨c, ⟨el, hb⟩, hcs, hc⟩ := hs.obj loc _ ho hlne
      obtain ⟨⟨h1, h2⟩, g⟩ := patchK_iff.1 g0
      rw [enc_len] at h1 h2
      cases hd : dec u ((enc u x0).take j ++ cellsOf v ++ (enc u x0).drop (j + (cellsOf v).length)) with
      | none => rw [hd] at g; exact g.elim
      | some yy =>
        rw [hd] at g
        obtain ⟨_, hk⟩ := hsetK_iff.1 g
        have hmul : (i + 1) * esz u ≤ l.length * esz u := Nat.mul_le_mul_right _ hil
        rw [Nat.add_mul] at hmul
        have hfit' : (i * esz u + j) + y.cells.size ≤ c.size := by rw [hreps.1]; omega
        have hrun := run_storeVar (o := i * esz u + j) hi hysz hb hfit' hone
        refine ⟨_, _, run_storeAt.trans hrun, hk, by simp, ?_⟩
        have hm' : (AObj.arr u (l.set i yy) false).mut = true := by
          have : l.set i yy ≠ [] := by intro e; exact hlne ((List.set_eq_nil_iff _ _).1 e)
          cases hq : l.set i yy <;> simp_all [AObj.mut, AObj.real]
        refine hs.put ho hm hm' (setRow_size _ _ _) (fun b hb' => setRow_other w _ _ _ hb') rfl rfl rfl ?_
        intro _
        refine ⟨_, ⟨el, setRow_heap w _ c _ el _ hb⟩, ?_, ?_⟩
        · have := patch_len (c := c.toList) (xs := y.cells.toList) (o := i * esz u + j) (by simpa using hfit')
          simp only [List.size_toArray, List.length_set]
          simp only [Array.length_toList] at this ⊢
          omega
        · intro q r hq hr
          have hle := Le.set hs ho hm (c.toList.take (i * esz u + j) ++ y.cells.toList ++ c.toList.drop (i * esz u + j + y.cells.size)).toArray
          have hgd : (c.toList.take (i * esz u + j) ++ y.cells.toList ++ c.toList.drop (i * esz u + j + y.cells.size)).toArray.getD (q * esz u + r) undef =
              if q * esz u + r < i * esz u + j then c.getD (q * esz u + r) undef else if q * esz u + r < i * esz u + j + y.cells.size then y.cells.getD (q * esz u + r - (i * esz u + j)) undef else c.getD (q * esz u + r) undef := by
            have := getD_patch (c := c.toList) (xs := y.cells.toList) (o := i * esz u + j) (k := q * esz u + r) (d := undef) (by simpa using hfit')
            simpa [List.getD_eq_getElem?_getD] using this
          rw [hgd]
          rw [List.length_set] at hq
          by_cases hqi : q = i
          · subst hqi
            have e1 : (l.set q yy)[q] = yy := by simp
            rw [e1]
            refine (dec_rep (G := G) (n := H.length) hd).2 r _ ?_ hr
            have hxe : l[q] = x0 := by rw [List.getElem?_eq_getElem hil] at hx; exact Option.some.inj hx
            rw [getD_patch (by rw [enc_len]; exact h2)]
            have hr0 := (hc q r hil hr).mono hle
            rw [hxe] at hr0
            by_cases g1 : r < j
            · rw [if_pos (by omega), if_pos g1]; exact hr0
            · rw [if_neg (by omega), if_neg g1]
              by_cases g2 : r < j + (cellsOf v).length
              · rw [if_pos (by rw [hreps.1]; omega), if_pos g2]
                have := (hreps.2 (r - j) (by omega)).mono hle
                rwa [show q * esz u + r - (q * esz u + j) = r - j from by omega]
              · rw [if_neg (by rw [hreps.1]; omega), if_neg g2]; exact hr0
          · have e1 : (l.set i yy)[q]'(by rw [List.length_set]; exact hq) = l[q] := by rw [List.getElem_set_ne (Ne.symm hqi)]
            rw [e1]
            have hr0 := (hc q r hq hr).mono hle
            have hout : q * esz u + r < i * esz u + j ∨ i * esz u + j + y.cells.size ≤ q * esz u + r := by
              rcases Nat.lt_or_gt_of_ne hqi with g | g
              · left
                have : (q + 1) * esz u ≤ i * esz u := Nat.mul_le_mul_right _ g
                rw [Nat.add_mul] at this; omega
              · right
                have : (i + 1) * esz u ≤ q * esz u := Nat.mul_le_mul_right _ g
                rw [Nat.add_mul] at this; rw [hreps.1]; omega
            rcases hout with g | g
            · rw [if_pos g]; exact hr0
            · rw [if_neg (by omega), if_neg (by omega)]; exact hr0
    | _ => exact h.elim
  | _ => exact h.elim

end Av
end
