/- The row: what arguments stand for. Own work. -/
import Derived.Test.YtikjkclmninbmaaK20
import Derived.Test.YtikjkclmninbmaaK21
import Derived.Test.YtikjkclmninbmaaRows
import Derived.ProofKit
import Derived.OpenShut
import Derived.HandedShaped
set_option linter.unusedSimpArgs false
set_option linter.unusedVariables false
namespace Av
open Go
set_option maxRecDepth 100000

noncomputable abbrev QP : Program := Go.Proofs.Try.prog

def G0 (W : World) : Gh := { prot := fun b _ => b < W.heap.size, mu := fun _ => 0, ver := fun _ => 0, tk := fun _ => none }

theorem exists_list {α : Type} {p : Nat → α → Prop} : ∀ (n : Nat), (∀ i, i < n → ∃ y, p i y) → ∃ l : List α, l.length = n ∧ ∀ i (h : i < l.length), p i l[i]
  | 0, _ => ⟨[], rfl, fun i h => absurd h (by simp)⟩
  | n + 1, h => by
    obtain ⟨l, hl, hp⟩ := exists_list n (fun i hi => h i (by omega))
    obtain ⟨y, hy⟩ := h n (by omega)
    refine ⟨l ++ [y], by simp [hl], fun i hi => ?_⟩
    by_cases q : i < l.length
    · rw [List.getElem_append_left q]; exact hp i q
    · have : i = l.length := by simp at hi; omega
      subst this
      simp
      rw [hl]; exact hy

section
variable {H : Type} {en : TypeId × Value → H} {W : World}

def light (t : TypeId) (d : DataW H) : Prop := (DataW.weights QP t d).all (· ≤ reachBytes) = true

/-- How an element is read. -/
def Reads (en : TypeId × Value → H) (W : World) (t : ETy) (tid : TypeId) (Y : t.C → Prop) : Prop :=
  ∀ (n : Nat) (cs : List Value) (x : DataW H × List MemPlace), DataW.trod en QP W 0 (fun _ => true) true n tid cs = some x → light tid x.1 →
    ∃ y : t.C, cs.length = esz t ∧ (∀ j, j < esz t → Rep (G0 W) 0 W (cs.getD j undef) ((enc t y).getD j .junk)) ∧ Y y

theorem cell_lt {b o : Nat} {v : Value} (h : cellAt W b o = some v) : b < W.heap.size := by
  unfold cellAt World.cell? at h
  split at h
  · rename_i c _ _ hc
    rcases Nat.lt_or_ge b W.heap.size with q | q
    · exact q
    · rw [Array.getElem?_eq_none q] at hc; cases hc
  · cases h

theorem cell_spot {a : Addr} {v : Value} (h : W.cell? a = some v) : a.spot = none := by
  unfold World.cell? at h
  split at h
  · cases hs : a.spot with
    | none => rfl
    | some s => rw [hs] at h; simp at h
  · cases h

theorem cells_get {a : Addr} {n : Nat} {cs : List Value} (h : W.cells? 0 a n = some cs) : cs.length = n ∧ ∀ j, j < n → W.cell? (a.add j) = some (cs.getD j undef) := by
  unfold World.cells? at h
  rw [if_pos (Nat.zero_le _)] at h
  refine ⟨by simpa using mapM_some_length h, fun j hj => ?_⟩
  have := mapM_some_get h j j (by simp [hj])
  rw [this]
  have hl : cs.length = n := by simpa using mapM_some_length h
  simp [List.getD_eq_getElem?_getD, hl, hj]

theorem weightsAll_part {t : TypeId} {p : Nat → Bool} : ∀ {ds : List (DataW H)} {i : Nat} {d : DataW H}, ds[i]? = some d → (DataW.weightsAll QP t ds).all p = true → (DataW.weights QP t d).all p = true
  | [], i, d, h, _ => by simp at h
  | e :: ds, 0, d, h, ha => by
    simp at h; subst h
    unfold DataW.weightsAll at ha
    rw [List.all_append, Bool.and_eq_true] at ha
    exact ha.1
  | e :: ds, i + 1, d, h, ha => by
    unfold DataW.weightsAll at ha
    rw [List.all_append, Bool.and_eq_true] at ha
    exact weightsAll_part (by simpa using h) ha.2

theorem weightsEach_part {p : Nat → Bool} : ∀ {ts : List TypeId} {ds : List (DataW H)} {i : Nat} {t : TypeId} {d : DataW H}, ts[i]? = some t → ds[i]? = some d → (DataW.weightsEach QP ts ds).all p = true → (DataW.weights QP t d).all p = true
  | [], ds, i, t, d, h, _, _ => by simp at h
  | _ :: _, [], i, t, d, _, h, _ => by simp at h
  | u :: ts, e :: ds, 0, t, d, h1, h2, ha => by
    simp at h1 h2; subst h1; subst h2
    unfold DataW.weightsEach at ha
    rw [List.all_append, Bool.and_eq_true] at ha
    exact ha.1
  | u :: ts, e :: ds, i + 1, t, d, h1, h2, ha => by
    unfold DataW.weightsEach at ha
    rw [List.all_append, Bool.and_eq_true] at ha
    exact weightsEach_part (by simpa using h1) (by simpa using h2) ha.2

/-- A slice that comes in. -/
theorem reads_slice {t : ETy} {tid sid : TypeId} {Y : t.C → Prop} (hr : Reads en W t tid Y) (hu : QP.underlying sid = some (.slice tid)) (hc : QP.cellsOf tid = esz t) (hb : QP.bytesOf tid = ebytes t)
    {n : Nat} {cs : List Value} {x : DataW H × List MemPlace} (h : DataW.trod en QP W 0 (fun _ => true) true n sid cs = some x) (hl : light sid x.1) :
    ∃ (v : Value) (l : List t.C), cs = [v] ∧ Rep (G0 W) 0 W v (.sl t l .none) ∧ l.length * ebytes t ≤ reachBytes ∧ ∀ y ∈ l, Y y := by
  rcases DataW.trod_slice hu h with ⟨rfl, rfl⟩ | ⟨a, len, cap, elems, rest, m, _, rfl, rfl, _, hlc, _, hel, hev, hsp, _⟩
  · exact ⟨_, [], rfl, .slnil _ _ _ trivial, by simp, fun y hy => by simp at hy⟩
  · have hw : ((elems.map (·.1)).length + (rest.map (·.1)).length) * ebytes t ≤ reachBytes ∧ (DataW.weightsAll QP tid (elems.map (·.1))).all (· ≤ reachBytes) = true := by
      unfold light DataW.weights at hl
      simp only [hu, List.all_cons, List.all_append, Bool.and_eq_true, decide_eq_true_eq, hb] at hl
      exact ⟨hl.1, hl.2.1⟩
    have each : ∀ i, i < len → ∃ y : t.C, (∀ j, j < esz t → W.cell? ((a.add (i * esz t)).add j) = some (((W.cells? 0 (a.add (i * esz t)) (esz t)).getD []).getD j undef) ∧
        Rep (G0 W) 0 W (((W.cells? 0 (a.add (i * esz t)) (esz t)).getD []).getD j undef) ((enc t y).getD j .junk)) ∧ Y y := by
      intro i hi
      have he := hev i hi
      rw [List.getElem?_eq_getElem (by omega), hc] at he
      obtain ⟨csi, h1, h2⟩ := Option.bind_eq_some_iff.1 he
      obtain ⟨_, h3⟩ := cells_get h1
      obtain ⟨y, _, hy, hY⟩ := hr m csi _ h2 (weightsAll_part (i := i) (by rw [List.getElem?_map, List.getElem?_eq_getElem (by omega)]; rfl) hw.2)
      refine ⟨y, fun j hj => ?_, hY⟩
      rw [h1]
      exact ⟨h3 j hj, hy j hj⟩
    obtain ⟨l, hll, hle⟩ := exists_list len each
    have hbytes : l.length * ebytes t ≤ reachBytes := by
      refine Nat.le_trans (Nat.mul_le_mul_right _ ?_) hw.1
      simp; omega
    refine ⟨_, l, rfl, ?_, hbytes, fun y hy => ?_⟩
    · by_cases hcap : cap = 0
      · have hl0 : len = 0 := by omega
        have : l = [] := List.eq_nil_of_length_eq_zero (by omega)
        subst this
        rw [hcap, hl0]
        exact .slnil _ _ _ trivial
      · have hpos := esz_pos t
        have hspot : a.spot = none := by
          by_cases hl0 : len = 0
          · obtain ⟨hrl, hrv⟩ := hsp rfl
            have he := hrv 0 (by omega)
            rw [hc, hl0, Nat.zero_add, Nat.zero_mul, List.getElem?_eq_getElem (by omega)] at he
            obtain ⟨csi, h1, h2⟩ := Option.bind_eq_some_iff.1 he
            have := (cells_get h1).2 0 hpos
            have h0 : (a.add 0).add 0 = a := rfl
            rw [h0] at this
            exact cell_spot this
          · have he := hev 0 (by omega)
            rw [hc, Nat.zero_mul, List.getElem?_eq_getElem (by omega)] at he
            obtain ⟨csi, h1, h2⟩ := Option.bind_eq_some_iff.1 he
            have := (cells_get h1).2 0 hpos
            have h0 : (a.add 0).add 0 = a := rfl
            rw [h0] at this
            exact cell_spot this
        obtain ⟨b, o, sp⟩ := a
        simp only at hspot
        subst hspot
        have hadd : ∀ o k : Nat, (Addr.add ⟨b, o, none⟩ k) = ⟨b, o + k, none⟩ := by
          intro o k
          unfold Addr.add
          split
          · rename_i q; subst q; rfl
          · rfl
        subst hll
        refine .sl t l .none b o cap (fun i j => ((W.cells? 0 (Addr.add ⟨b, o, none⟩ (i * esz t)) (esz t)).getD []).getD j undef) hlc (fun i j hi hj => ?_) (fun i j hi hj => ((hle i hi).1 j hj).2) trivial
        have := ((hle i hi).1 j hj).1
        rw [hadd, hadd] at this
        have hc' : cellAt W b (o + i * esz t + j) = some (((W.cells? 0 ⟨b, o + i * esz t, none⟩ (esz t)).getD []).getD j undef) := this
        rw [hadd]
        exact ⟨cell_lt hc', hc'⟩
    · obtain ⟨i, hi, rfl⟩ := List.getElem_of_mem hy
      exact (hle i hi).2

/-- A struct that comes in. -/
theorem reads_struct {t : TypeId} {fs : Array Field} (hu : QP.underlying t = some (.struct fs)) {n : Nat} {cs : List Value} {x : DataW H × List MemPlace} (h : DataW.trod en QP W 0 (fun _ => true) true n t cs = some x) (hl : light t x.1) :
    cs.length = QP.cellsOf t ∧ ∀ (i : Nat) (f : Field), fs[i]? = some f → ∃ (m : Nat) (y : DataW H × List MemPlace), DataW.trod en QP W 0 (fun _ => true) true m f.type ((cs.drop f.offset).take (QP.cellsOf f.type)) = some y ∧ light f.type y.1 := by
  obtain ⟨xs, m, _, rfl, hlen, hxl, hf⟩ := DataW.trod_struct hu h
  refine ⟨hlen, fun i f hif => ?_⟩
  have hi : i < xs.length := by
    rw [hxl]
    rcases Nat.lt_or_ge i fs.size with q | q
    · exact q
    · rw [Array.getElem?_eq_none q] at hif; cases hif
  have h1 := hf i f hif
  rw [List.getElem?_eq_getElem hi] at h1
  refine ⟨m, _, h1, ?_⟩
  unfold light DataW.weights at hl
  simp only [hu] at hl
  refine weightsEach_part (i := i) ?_ ?_ hl
  · rw [List.getElem?_map, Array.getElem?_toList, hif]; rfl
  · rw [List.getElem?_map, List.getElem?_eq_getElem hi]; rfl

theorem part_one {cs : List Value} {o : Nat} {c : Value} (h : cs[o]? = some c) : (cs.drop o).take 1 = [c] := by
  rw [List.take_one, List.head?_drop, h]; rfl

theorem reads_int {t : TypeId} {k : IntKind} (hu : QP.underlying t = some (.int k)) (hc : QP.cellsOf t = 1) {n o : Nat} {cs : List Value} {c : Value} {x : DataW H × List MemPlace}
    (h : DataW.trod en QP W 0 (fun _ => true) true n t ((cs.drop o).take (QP.cellsOf t)) = some x) (hget : cs[o]? = some c) : ∃ m, c = .int k m := by
  rw [hc, part_one hget] at h
  obtain ⟨m, e, _⟩ := DataW.trod_int hu h
  exact ⟨m, by simpa using e⟩

theorem reads_bool {t : TypeId} (hu : QP.underlying t = some .bool) (hc : QP.cellsOf t = 1) {n o : Nat} {cs : List Value} {c : Value} {x : DataW H × List MemPlace}
    (h : DataW.trod en QP W 0 (fun _ => true) true n t ((cs.drop o).take (QP.cellsOf t)) = some x) (hget : cs[o]? = some c) : ∃ b, c = .bool b := by
  rw [hc, part_one hget] at h
  obtain ⟨m, e, _⟩ := DataW.trod_bool hu h
  exact ⟨m, by simpa using e⟩

theorem reads_sl {t : ETy} {tid sid : TypeId} {Y : t.C → Prop} (hr : Reads en W t tid Y) (hu : QP.underlying sid = some (.slice tid)) (hc : QP.cellsOf tid = esz t) (hb : QP.bytesOf tid = ebytes t) (hc1 : QP.cellsOf sid = 1)
    {n o : Nat} {cs : List Value} {c : Value} {x : DataW H × List MemPlace} (h : DataW.trod en QP W 0 (fun _ => true) true n sid ((cs.drop o).take (QP.cellsOf sid)) = some x) (hl : light sid x.1) (hget : cs[o]? = some c) :
    ∃ (l : List t.C), Rep (G0 W) 0 W c (.sl t l .none) ∧ l.length * ebytes t ≤ reachBytes ∧ ∀ y ∈ l, Y y := by
  rw [hc1, part_one hget] at h
  obtain ⟨v, l, e, h1, h2, h3⟩ := reads_slice hr hu hc hb h hl
  simp at e
  subst e
  exact ⟨l, h1, h2, h3⟩
end
end Av
