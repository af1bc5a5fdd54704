/- The abstract machine: how operations run (8): append, copy. Own work. -/
import Derived.Test.YtikjkclmninbmaaK07
set_option linter.unusedSimpArgs false
set_option linter.unusedVariables false
set_option linter.unnecessarySimpa false
namespace Av
open Go

theorem growBy_le (need : Nat) : ∀ (r c : Nat), 256 ≤ c → c < 2 * need → Builtin.growBy need r c < 2 * need
  | 0, c, _, h => h
  | r + 1, c, h0, h => by
    unfold Builtin.growBy
    split
    · exact h
    · exact growBy_le need r _ (by omega) (by omega)

theorem nextslicecap_le {need cap : Nat} (h : cap < need) : Builtin.nextslicecap need cap ≤ 2 * need := by
  unfold Builtin.nextslicecap
  split
  · omega
  · split
    · omega
    · have := growBy_le need 4 cap (by omega) (by omega)
      omega

/-- A slice's elements, where they lie. -/
def Src (G : Gh) (n : Nat) (w : World) (x : Value) (u : ETy) (l : List u.C) : Prop :=
  ∃ (b : Option Addr) (cap : Nat) (c : Array Value), x = .slice b l.length cap ∧ c.size = l.length * esz u ∧ RowRep G n w c u l ∧ ∀ (P : Program) (m : Nat) (w' : World), m ≤ l.length → w'.heap = w.heap → (Builtin.firstCells (esz u) m x).run P w' = .ok (c.extract 0 (m * esz u)) w'

theorem getD_range_map {f : Nat → Value} {m i : Nat} (h : i < m) : ((List.range m).map f).toArray.getD i undef = f i := by
  simp [h]

theorem div_row {u : ETy} {i j : Nat} (hj : j < esz u) : (i * esz u + j) / esz u = i ∧ (i * esz u + j) % esz u = j := by
  have := esz_pos u
  constructor
  · rw [Nat.mul_comm, Nat.mul_add_div this, Nat.div_eq_of_lt hj]; omega
  · rw [Nat.mul_comm, Nat.mul_add_mod]; exact Nat.mod_eq_of_lt hj

theorem range_extract {f : Nat → Value} {m k : Nat} (h : k ≤ m) : (((List.range m).map f).toArray.extract 0 k) = ((List.range k).map f).toArray := by
  apply Array.ext'
  simp [← List.map_take, List.take_range, Nat.min_eq_left h]

theorem src_cells {G n w} {u : ETy} {l : List u.C} {b o cap : Nat} (f : Nat → Nat → Value) (hc : ∀ i j, i < l.length → j < esz u → cellAt w b (o + i * esz u + j) = some (f i j))
    (hr : ∀ i j (h : i < l.length), j < esz u → Rep G n w (f i j) ((enc u l[i]).getD j .junk)) : Src G n w (.slice (some ⟨b, o, none⟩) l.length cap) u l := by
  refine ⟨_, _, ((List.range (l.length * esz u)).map fun q => f (q / esz u) (q % esz u)).toArray, rfl, by simp, ⟨by simp, fun i j hi hj => ?_⟩, fun P m w' hm hw => ?_⟩
  · rw [getD_range_map (row_lt hi hj), (div_row hj).1, (div_row hj).2]
    exact hr i j hi hj
  · rw [range_extract (Nat.mul_le_mul_right _ hm)]
    simp only [Builtin.firstCells]
    refine run_loadCells w' _ _ _ fun q hq => ?_
    have hp := esz_pos u
    have h1 : q / esz u < m := by
      rw [Nat.div_lt_iff_lt_mul hp]; exact hq
    have h2 : q % esz u < esz u := Nat.mod_lt _ hp
    have := hc (q / esz u) (q % esz u) (by omega) h2
    rw [add_block]
    rw [Nat.add_assoc, Nat.mul_comm, Nat.div_add_mod] at this
    exact (cellAt_of_block (w := w) (w' := w') (by rw [hw]) _).trans this

theorem src_nil {G n w} {u : ETy} {b : Option Addr} {cap : Nat} : Src G n w (.slice b 0 cap) u [] := by
  refine ⟨b, cap, #[], rfl, by simp, ⟨by simp, fun i j hi => absurd hi (by simp)⟩, fun P m w' hm hw => ?_⟩
  obtain rfl : m = 0 := by simpa using hm
  cases b with
  | none => simp [Builtin.firstCells]
  | some a => simp [Builtin.firstCells, loadCells, loadCellsFrom]

theorem src_sl {G n w x} {u : ETy} {l : List u.C} {tok : Tok} (h : Rep G n w x (.sl u l tok)) : Src G n w x u l := by
  cases h with
  | slnil _ _ _ _ => exact src_nil
  | sl _ _ _ b o cap vs h1 h2 h3 h4 => exact src_cells vs (fun i j hi hj => (h2 i j hi hj).2) h3

theorem slOf_src {G n w x} {u : ETy} {a : AV} {l : List u.C} (h : slOf u a = some l) (hr : Rep G n w x a) : Src G n w x u l := src_sl (slOf_rep h hr)

theorem srcK_out {G : Gh} {H : List AObj} {w : World} (hs : Sim G H w) {u : ETy} {x : Value} {v : AV} (hv : Rep G H.length w x v) {k : List u.C → Prop} (h : srcK H u v k) :
    ∃ l, k l ∧ Src G H.length w x u l := by
  unfold srcK at h
  split at h
  · rename_i loc lo len e
    obtain ⟨o, ho, h⟩ := hgetK_iff.1 h
    cases o with
    | arr u' l' fr =>
      simp only at h
      split at h
      · rename_i l hl
        obtain ⟨he, hb, hk⟩ := guardK_iff.1 h
        have he := Nat.eq_of_beq_eq_true he
        refine ⟨l, hk, ?_⟩
        simp only [slOf] at hl
        split at hl
        · rename_i e'
          subst e'
          cases hl
          cases hv with
          | osl0 _ _ _ a cap hl0 _ => simpa using (src_nil (G := G) (n := H.length) (w := w) (u := u') (b := a) (cap := cap))
          | osl _ _ _ _ cap hl0 hcap hne =>
            obtain ⟨c, hb', hsz, hr⟩ := hs.obj loc _ ho (by intro e; rw [e] at hb; simp at hb; omega)
            have hlen : ((l'.drop lo).take len).length = len := by simp; omega
            have key := src_cells (G := G) (n := H.length) (w := w) (u := u') (l := (l'.drop lo).take len) (b := G.mu loc) (o := lo * e) (cap := cap) (fun i j => c.getD ((lo + i) * esz u' + j) undef) (fun i j hi hj => by
              rw [cellAt_block hb', he, ← Nat.add_mul]
              have := row_lt (u := u') (i := lo + i) (m := l'.length) (j := j) (by omega) hj
              have h2 : (lo + i) * esz u' + j < c.size := by omega
              simp [h2]) (fun i j hi hj => by
              have e1 : ((l'.drop lo).take len)[i] = l'[lo + i]'(by omega) := by simp
              rw [e1]
              exact hr (lo + i) j (by omega) hj)
            rw [hlen] at key
            exact key
        · cases hl
      · exact h.elim
    | _ => exact h.elim
  · split at h
    · rename_i l hl
      exact ⟨l, h, slOf_src hl hv⟩
    · exact h.elim

theorem enc_plain (u : ETy) (x : u.C) : plainCells (enc u x) = true := by cases u <;> rfl

theorem row_one {G n w c} {u : ETy} {l : List u.C} (h : RowRep G n w c u l) (hs : c.size = l.length * esz u) : ∀ v ∈ c.toList, v.oneCell' = true := by
  intro v hv
  obtain ⟨q, hq, rfl⟩ := List.getElem_of_mem hv
  have hp := esz_pos u
  have hq' : q < l.length * esz u := by rw [← hs]; simpa using hq
  have h1 : q / esz u < l.length := by rw [Nat.div_lt_iff_lt_mul hp]; exact hq'
  have h2 : q % esz u < esz u := Nat.mod_lt _ hp
  have := h.2 _ _ h1 h2
  rw [show q / esz u * esz u + q % esz u = q from by rw [Nat.mul_comm]; exact Nat.div_add_mod _ _] at this
  rw [show c.getD q undef = c.toList[q] from by simp at hq; simp [hq]] at this
  exact plain_one this (plain_get (enc_plain u _) _ (by rw [enc_len]; exact h2))

theorem RowRep.app {G n w} {u : ETy} {l l' : List u.C} {c c' r : Array Value} (h : RowRep G n w c u l) (hs : c.size = l.length * esz u) (h' : RowRep G n w c' u l') (hs' : c'.size = l'.length * esz u) :
    RowRep G n w (c ++ c' ++ r) u (l ++ l') := by
  refine ⟨by simp [hs, hs', Nat.add_mul], fun i j hi hj => ?_⟩
  by_cases q : i < l.length
  · have e : (l ++ l')[i] = l[i] := List.getElem_append_left q
    rw [e]
    have hlt := row_lt (u := u) q hj
    have := h.2 i j q hj
    rw [show (c ++ c' ++ r).getD (i * esz u + j) undef = c.getD (i * esz u + j) undef from by
      simp only [Array.getD_eq_getD_getElem?]
      rw [Array.append_assoc, Array.getElem?_append_left (by omega)]]
    exact this
  · have e : (l ++ l')[i] = l'[i - l.length]'(by simp at hi; omega) := List.getElem_append_right (by omega)
    rw [e]
    have hi' : i - l.length < l'.length := by simp at hi; omega
    have hlt := row_lt (u := u) hi' hj
    have := h'.2 (i - l.length) j hi' hj
    have hsplit : i * esz u + j = l.length * esz u + ((i - l.length) * esz u + j) := by
      have : i * esz u = l.length * esz u + (i - l.length) * esz u := by rw [← Nat.add_mul]; congr 1; omega
      omega
    rw [show (c ++ c' ++ r).getD (i * esz u + j) undef = c'.getD ((i - l.length) * esz u + j) undef from by
      simp only [Array.getD_eq_getD_getElem?]
      rw [Array.append_assoc, hsplit, Array.getElem?_append_right (by omega), hs, Nat.add_sub_cancel_left, Array.getElem?_append_left (by omega)]]
    exact this

end Av
