/- The abstract machine: how operations run (6): new variables, literals, makes. The abstract machine: how operations run (7): literals and makes of slices; maps. Own work. -/
import Derived.Test.YtikjkclmninbmaaK06
section
set_option linter.unusedSimpArgs false
set_option linter.unusedVariables false
set_option linter.unnecessarySimpa false
namespace Av
open Go

theorem Sim.newBox {G H w} (h : Sim G H w) {c : Array Value} {cs : List AV} {el : TypeId} (hr : Reps G H.length w c cs) :
    ∃ G', Sim G' (H ++ [.box cs]) (w.alloc (.cells c el)) ∧ Ext G H w G' (H ++ [.box cs]) (w.alloc (.cells c el)) ∧
      Rep G' (H.length + 1) (w.alloc (.cells c el)) (.pointer (some ⟨w.heap.size, 0, none⟩)) (.ptr H.length 0 0 0) := by
  have hle := Le.alloc h (.cells c el)
  obtain ⟨h1, h2⟩ := h.push (.box cs) (.cells c el) rfl ⟨c, ⟨el, by simpa [Gh.push] using heap_alloc_new w (.cells c el)⟩, hr.mono hle⟩
  refine ⟨_, h1, h2, ?_⟩
  have := Rep.ptr (G := G.push H.length w.heap.size) (n := H.length + 1) (w := w.alloc (.cells c el)) H.length 0 0 0 (Nat.lt_succ_self _)
  simpa [Gh.push] using this

theorem run_newVar {P : Program} {w : World} {t : TypeId} {v : Value} : (newVar t v).run P w = .ok ⟨w.heap.size, 0, none⟩ (w.alloc (.cells v.cells t)) := by
  simp [newVar, newRow]

theorem zOk_agg {x : Value} {as : List AV} (h : zOk x (.agg as) = true) : False := by
  unfold zOk at h; split at h <;> simp_all

theorem zeroK_out {C : Ctx} (hT : TabOk C) {t : TypeId} {k : AV → Prop} (h : zeroK C t k) :
    ∃ (v : AV) (inf : TypeInfo) (z : Value), k v ∧ C.P.info? t = some inf ∧ inf.zero = some z ∧ (∀ G n w, Reps G n w z.cells (cellsOf v)) ∧ (∀ G n w, Rep G n w z v) := by
  have h := rowK_iff.1 h
  have hne : (C.tb t).size ≠ 0 := by
    intro e
    rw [hT.agg0 t e, hT.zero0 t e] at h
    exact h.elim
  obtain ⟨inf, z, hi, hs, hz, hzagg, hzr, _⟩ := (hT.ok t).info hne
  split at h
  · rename_i z0 hag
    rw [hag] at hzagg
    cases z with
    | agg xs =>
      have hr : ∀ G n w, Reps G n w xs (C.tb t).zero := fun G n w => by
        obtain ⟨h1, h2⟩ := zRow_reps (G := G) (n := n) (w := w) hzr
        exact ⟨by simpa [Value.cells] using h1, fun k hk => by simpa [Value.cells] using h2 k hk⟩
      exact ⟨_, inf, _, h, hi, hz, hr, fun G n w => .agg _ _ (hr G n w).1 (hr G n w).2⟩
    | _ => cases hzagg
  · rename_i v hag hv
    rw [hag] at hzagg
    rw [hv] at hzr
    have hc : z.cells = #[z] := by cases z <;> first | rfl | cases hzagg
    rw [hc] at hzr
    simp only [zRow, Bool.and_true] at hzr
    have hcv : cellsOf v = [v] := by
      cases v with
      | agg as => exact (zOk_agg hzr).elim
      | _ => rfl
    refine ⟨v, inf, z, h, hi, hz, fun G n w => ?_, fun G n w => zOk_rep hzr⟩
    rw [hc, hcv]
    exact ⟨rfl, fun k hk => by
      have : k = 0 := by simpa using hk
      subst this; exact zOk_rep hzr⟩
  · exact h.elim

/-- A value that may have got a token. -/
theorem ownZeroK_out {G H w} (hs : Sim G H w) {own : Bool} {v : AV} {k : AV → List AObj → Prop} (h : ownZeroK own v H k) :
    ∃ v' H' G', k v' H' ∧ Sim G' H' w ∧ Ext G H w G' H' w ∧ (∀ x, Rep G H.length w x v → Rep G' H'.length w x v') ∧ (∀ c, Reps G H.length w c (cellsOf v) → Reps G' H'.length w c (cellsOf v')) := by
  unfold ownZeroK at h
  split at h
  · rename_i t
    have h := pushK_iff.1 h
    obtain ⟨G', h1, h2, h3⟩ := hs.pushTok
    have key : ∀ x, Rep G H.length w x (.sl t [] .clip) → Rep G' (H ++ [AObj.app 0]).length w x (.sl t [] (.own H.length 0)) := by
      intro x hx
      cases hx with
      | slnil _ _ _ _ => exact .slnil _ _ _ (by simp; exact h3)
      | sl _ _ _ b o cap vs g1 g2 g3 g4 =>
        have hle := h2.le
        refine .sl _ _ _ b o cap vs g1 (fun i j hi => absurd hi (by simp)) (fun i j hi => absurd hi (by simp)) ?_
        refine ⟨by simp, by simpa using h3.2, fun _ => .inl g4⟩
    refine ⟨_, _, G', h, h1, h2, key, fun c hc => ⟨hc.1, fun i hi => ?_⟩⟩
    have : i = 0 := by simpa [cellsOf] using hi
    subst this
    exact key _ (hc.2 0 (by simp [cellsOf]))
  · exact ⟨v, H, G, h, hs, Ext.refl _ _ _, fun x hx => hx, fun c hc => hc⟩

theorem alloc_out {C : Ctx} (hT : TabOk C) {G : Gh} {H : List AObj} {w : World} (hs : Sim G H w) {t : TypeId} {own : Bool} {k : AV → List AObj → Prop}
    (h : zeroK C t fun v => ownZeroK own v H fun v H => cellsK v fun cs => pushK H (.box cs) fun loc H' => k (.ptr loc 0 0 0) H') :
    ∃ x w' v H' G', (Instr.alloc t true (.tuple #[])).run C.P w = .ok x w' ∧ k v H' ∧ Sim G' H' w' ∧ Rep G' H'.length w' x v ∧ Ext G H w G' H' w' := by
  obtain ⟨v, inf, z, h, hi, hz, hr, _⟩ := zeroK_out hT h
  obtain ⟨v', H1, G1, h, hs1, he1, _, hc⟩ := ownZeroK_out hs h
  have h := pushK_iff.1 (cellsK_iff.1 h)
  obtain ⟨G2, hs2, he2, hr2⟩ := hs1.newBox (el := t) (hc _ (hr G H.length w))
  refine ⟨_, _, _, _, G2, ?_, h, hs2, by simpa using hr2, he1.trans he2⟩
  simp only [Instr.alloc, Sem.run_bind, run_zeroValue hi hz, Result.andThen_ok, run_newVar, Sem.run_pure]

theorem box_out {C : Ctx} {G : Gh} {H : List AObj} {w : World} (hs : Sim G H w) {t : TypeId} {x : Value} {v : AV} (hv : Rep G H.length w x v) {k : AV → List AObj → Prop}
    (h : typedK C t v fun v => guardK (notJunk v) <| cellsK v fun cs => pushK H (.box cs) fun loc H' => k (.ptr loc 0 0 0) H') :
    ∃ y w' u H' G', (Instr.box t x).run C.P w = .ok y w' ∧ k u H' ∧ Sim G' H' w' ∧ Rep G' H'.length w' y u ∧ Ext G H w G' H' w' := by
  obtain ⟨hj, h⟩ := guardK_iff.1 (typedK_iff.1 h)
  have h := pushK_iff.1 (cellsK_iff.1 h)
  obtain ⟨G2, hs2, he2, hr2⟩ := hs.newBox (el := t) (cells_rep (hv.typed C t) hj)
  refine ⟨_, _, _, _, G2, ?_, h, hs2, by simpa using hr2, he2⟩
  simp only [Instr.box, Sem.run_bind, run_newVar, Result.andThen_ok, Sem.run_pure]

/-! Literals of slices. -/
theorem rowsK_iff {z : List AV} {n : Nat} {k : List (List AV) → Prop} : rowsK z n k ↔ k (List.replicate n z) := by
  induction n generalizing k with
  | zero => exact Iff.rfl
  | succ n ih => simp [rowsK, ih, List.replicate_succ]

theorem setRowK_iff {els : List (List AV)} {i : Nat} {v : List AV} {k : List (List AV) → Prop} : setRowK els i v k ↔ i < els.length ∧ k (els.set i v) := by
  induction els generalizing i k with
  | nil => simp [setRowK]
  | cons x xs ih => cases i <;> simp [setRowK, ih]

theorem rows_zero {G n w} {z : Array Value} {zs : List AV} {m : Nat} (hz : Reps G n w z zs) (hp : zs.length ≠ 0) :
    RowsRep G n w ((Array.range (m * zs.length)).map fun i => z[i % z.size]!) zs.length (List.replicate m zs) := by
  refine ⟨by simp, fun i hi => ?_⟩
  have hi' : i < m := by simpa using hi
  have e : (List.replicate m zs).getD i [] = zs := by simp [List.getD_eq_getElem?_getD, hi']
  rw [e]
  refine ⟨rfl, fun j hj => ?_⟩
  have hlt : i * zs.length + j < m * zs.length := by
    have : (i + 1) * zs.length ≤ m * zs.length := Nat.mul_le_mul_right _ hi'
    rw [Nat.add_mul] at this; omega
  have hmod : (i * zs.length + j) % z.size = j := by
    rw [hz.1, Nat.mul_comm, Nat.mul_add_mod]; exact Nat.mod_eq_of_lt hj
  have := hz.2 j hj
  have hjz : j < z.size := by rw [hz.1]; exact hj
  have e2 : (((Array.range (m * zs.length)).map fun i => z[i % z.size]!).getD (i * zs.length + j) undef) = z.getD j undef := by
    simp [hlt, hmod, hjz, getElem!_pos]
  rw [e2]; exact this

theorem RowsRep.set {G n w c e els} (h : RowsRep G n w c e els) {i : Nat} (hi : i < els.length) {xs : List Value} {vs : List AV} (hv : Reps G n w xs.toArray vs) (hl : vs.length = e) :
    RowsRep G n w (c.toList.take (i * e) ++ xs ++ c.toList.drop (i * e + xs.length)).toArray e (els.set i vs) := by
  have hxl : xs.length = e := by have := hv.1; simp at this; omega
  have hfit : i * e + xs.length ≤ c.toList.length := by
    have : (i + 1) * e ≤ els.length * e := Nat.mul_le_mul_right _ hi
    rw [Nat.add_mul] at this
    have := h.1
    simp; omega
  refine ⟨by rw [List.size_toArray, patch_len hfit]; simp [h.1], fun q hq => ?_⟩
  have hq' : q < els.length := by simpa using hq
  have hget : ∀ j, (c.toList.take (i * e) ++ xs ++ c.toList.drop (i * e + xs.length)).toArray.getD (q * e + j) undef =
      if q * e + j < i * e then c.getD (q * e + j) undef else if q * e + j < i * e + xs.length then xs.getD (q * e + j - i * e) undef else c.getD (q * e + j) undef := fun j => by
    have := getD_patch (c := c.toList) (xs := xs) (o := i * e) (k := q * e + j) (d := undef) hfit
    simpa [List.getD_eq_getElem?_getD] using this
  by_cases hqi : q = i
  · subst hqi
    have e1 : (els.set q vs).getD q [] = vs := by simp [List.getD_eq_getElem?_getD, hq']
    rw [e1]
    refine ⟨hl, fun j hj => ?_⟩
    rw [hget j, if_neg (by omega), if_pos (by omega), show q * e + j - q * e = j from by omega]
    have := hv.2 j (by omega)
    simpa [List.getD_eq_getElem?_getD] using this
  · have e1 : (els.set i vs).getD q [] = els.getD q [] := by simp [List.getD_eq_getElem?_getD, List.getElem?_set_ne (Ne.symm hqi)]
    rw [e1]
    obtain ⟨h1, h2⟩ := h.2 q hq'
    refine ⟨h1, fun j hj => ?_⟩
    rw [hget j]
    have hout : q * e + j < i * e ∨ i * e + xs.length ≤ q * e + j := by
      rcases Nat.lt_or_gt_of_ne hqi with g | g
      · left
        have : (q + 1) * e ≤ i * e := Nat.mul_le_mul_right _ g
        rw [Nat.add_mul] at this; omega
      · right
        have : (i + 1) * e ≤ q * e := Nat.mul_le_mul_right _ g
        rw [Nat.add_mul] at this; omega
    rcases hout with g | g
    · rw [if_pos g]; exact h2 j hj
    · rw [if_neg (by omega), if_neg (by omega)]; exact h2 j hj

theorem parts_out {C : Ctx} {G : Gh} {n : Nat} {w : World} {a : Act} {s : List AV} (ht : Reps G n w a.tmps s) {t : TypeId} {e : Nat} (he : (C.tb t).size = e) :
    ∀ {ps : List (Nat × Operand)} {c : Array Value} {els : List (List AV)} {k : List (List AV) → Prop}, RowsRep G n w c e els → partsK C s t ps els k →
    ∃ c' els', Instr.fill (fun i => some (i * e, e)) c (ps.map fun (i, x) => (i, a.eval x)) = some c' ∧ k els' ∧ RowsRep G n w c' e els' ∧ els'.length = els.length
  | [], c, els, k, hc, h => ⟨c, els, rfl, h, hc, rfl⟩
  | (i, x) :: ps, c, els, k, hc, h => by
    obtain ⟨v, h, hv⟩ := ev_out ht h
    obtain ⟨hj, h⟩ := guardK_iff.1 (typedK_iff.1 h)
    obtain ⟨hlen, h⟩ := guardK_iff.1 (cellsK_iff.1 h)
    obtain ⟨hi, h⟩ := setRowK_iff.1 h
    have hr := cells_rep (hv.typed C t) hj
    have hl := (lenIs_eq hlen).1
    have hset := hc.set hi (xs := (a.eval x).cells.toList) (vs := cellsOf (typed C t v)) (by simpa using hr) (by rw [hl, he])
    obtain ⟨c', els', h1, h2, h3, h4⟩ := parts_out ht he hset h
    have hsz : (a.eval x).cells.size = e := by rw [hr.1, hl, he]
    refine ⟨c', els', ?_, h2, h3, by rw [h4]; simp⟩
    rw [List.map_cons, fill_one rfl hsz (by
      have : (i + 1) * e ≤ els.length * e := Nat.mul_le_mul_right _ hi
      rw [Nat.add_mul] at this
      have := hc.1; omega)]
    simpa using h1

theorem decAll_rep {u : ETy} : ∀ {els : List (List AV)} {l : List u.C}, decAll u els = some l → l.length = els.length ∧ ∀ i (h : i < l.length), dec u (els.getD i []) = some l[i]
  | [], l, h => by
    cases h
    exact ⟨rfl, fun i h => absurd h (by simp)⟩
  | r :: els, l, h => by
    simp only [decAll, Option.bind_eq_some_iff, Option.map_eq_some_iff] at h
    obtain ⟨x, hx, xs, hxs, rfl⟩ := h
    obtain ⟨h1, h2⟩ := decAll_rep hxs
    refine ⟨by simp [h1], fun i hi => ?_⟩
    cases i with
    | zero => exact hx
    | succ i => simpa using h2 i (by simpa using hi)

theorem RowsRep.row {G n w} {u : ETy} {c : Array Value} {els : List (List AV)} {l : List u.C} (h : RowsRep G n w c (esz u) els) (hd : decAll u els = some l) : RowRep G n w c u l := by
  obtain ⟨h1, h2⟩ := decAll_rep hd
  refine ⟨by rw [h1, h.1]; exact Nat.le_refl _, fun i j hi hj => ?_⟩
  exact (dec_rep (h2 i hi)).2 j _ ((h.2 i (by omega)).2 j hj) hj

end Av
end
section
set_option linter.unusedSimpArgs false
set_option linter.unusedVariables false
set_option linter.unnecessarySimpa false
namespace Av
open Go

theorem elem_info {C : Ctx} (hT : TabOk C) {e : TypeId} (hne : (C.tb e).size ≠ 0) : ∃ (inf : TypeInfo) (z : Value), C.P.info? e = some inf ∧ inf.size = (C.tb e).size ∧ inf.zero = some z ∧ (∀ G n w, Reps G n w z.cells (C.tb e).zero) ∧ z.cells.size = (C.tb e).size := by
  obtain ⟨inf, z, hi, hs, hz, _, hzr, hzs⟩ := (hT.ok e).info hne
  exact ⟨inf, z, hi, hs, hz, fun G n w => by
    obtain ⟨h1, h2⟩ := zRow_reps (G := G) (n := n) (w := w) hzr
    exact ⟨by simpa using h1, fun k hk => by simpa using h2 k hk⟩, hzs⟩

theorem run_newRow {P : Program} {w : World} {t : TypeId} {c : Array Value} : (newRow t c).run P w = .ok ⟨w.heap.size, 0, none⟩ (w.alloc (.cells c t)) := by
  simp [newRow]

theorem buildSlice_run {C : Ctx} (hT : TabOk C) {G : Gh} {n : Nat} {w : World} {a : Act} {s : List AV} (ht : Reps G n w a.tmps s) {t : TypeId} {m : Nat} {ps : Array (Nat × Operand)} {k : List (List AV) → Prop}
    (hsl : (C.tb t).sl = true) (hbig : m * (C.tb (C.tb t).elem).size ≤ 16777216) (hne : (C.tb (C.tb t).elem).size ≠ 0)
    (h : rowsK (C.tb (C.tb t).elem).zero m fun els => partsK C s (C.tb t).elem ps.toList els k) :
    ∃ c els, (Instr.buildSlice t m (ps.map fun (i, x) => (i, a.eval x))).run C.P w = .ok (.slice (some ⟨w.heap.size, 0, none⟩) m m) (w.alloc (.cells c (C.tb t).elem)) ∧ k els ∧
      RowsRep G n w c (C.tb (C.tb t).elem).size els ∧ els.length = m := by
  have hd := (hT.ok t).sl hsl
  obtain ⟨inf, z, hi, hs, hz, hzr, hzs⟩ := elem_info hT hne
  have hzl : (C.tb (C.tb t).elem).zero.length = (C.tb (C.tb t).elem).size := by rw [← (hzr G n w).1, hzs]
  have h0 := rows_zero (m := m) (hzr G n w) (by omega)
  rw [hzl] at h0
  obtain ⟨c, els, h1, h2, h3, h4⟩ := parts_out ht rfl h0 (rowsK_iff.1 h)
  refine ⟨c, els, ?_, h2, h3, by rw [h4]; simp⟩
  unfold Instr.buildSlice
  simp only [Sem.run_bind, run_under hd, Result.andThen_ok, run_sizeOf hi]
  rw [if_neg (by rw [hs]; omega)]
  have hparts : (ps.map fun (i, x) => (i, a.eval x)).toList = ps.toList.map fun (i, x) => (i, a.eval x) := by simp
  have hc0 : ∀ zz : Array Value, (m * inf.size = 0 ∨ zz = z.cells) → ((Array.range (m * inf.size)).map fun i => zz[i % zz.size]!) = (Array.range (m * (C.tb (C.tb t).elem).size)).map fun i => z.cells[i % z.cells.size]! := by
    intro zz hzz
    rw [hs]
    rcases hzz with e | rfl
    · rw [hs] at e; rw [e]; simp
    · rfl
  split
  · rename_i e
    simp only [Sem.run_bind, Sem.run_pure, Result.andThen_ok]
    rw [hc0 #[] (.inl e), hparts, hs, h1]
    simp only [Sem.run_bind, run_newRow, Result.andThen_ok, Sem.run_pure]
  · simp only [Sem.run_bind, Sem.run_pure, run_zeroValue hi hz, Result.andThen_ok]
    rw [hc0 z.cells (.inr rfl), hparts, hs, h1]
    simp only [Sem.run_bind, run_newRow, Result.andThen_ok, Sem.run_pure]

theorem enc_default_len (u : ETy) (x : u.C) : (enc u x).length = esz u := enc_len u x

theorem buildSlice_out {C : Ctx} (hT : TabOk C) {G : Gh} {H : List AObj} {w : World} (hs : Sim G H w) {a : Act} {s : List AV} (ht : Reps G H.length w a.tmps s) {t : TypeId} {m : Nat} {ps : Array (Nat × Operand)} {draw located : Bool}
    {k : AV → List AObj → Prop}
    (h : guardK (Nat.ble (m * (C.tb (C.tb t).elem).size) 16777216) <| guardK (!Nat.beq (C.tb (C.tb t).elem).size 0) <| rowK (C.tb (C.tb t).elem).zero fun z => match (C.tb t).ety with
    | some u => rowsK z m fun els => partsK C s (C.tb t).elem ps.toList els fun els => litK draw located u (decAll u els) H k
    | none => guardK (!draw) <| guardK (C.tb t).sl <| rowsK z m fun els => partsK C s (C.tb t).elem ps.toList els fun els =>
        pushK H (.raw (C.tb (C.tb t).elem).size els false) fun loc H' => k (.osl loc 0 m (C.tb (C.tb t).elem).size) H') :
    ∃ x w' v H' G', (Instr.buildSlice t m (ps.map fun (i, x) => (i, a.eval x))).run C.P w = .ok x w' ∧ k v H' ∧ Sim G' H' w' ∧ Rep G' H'.length w' x v ∧ Ext G H w G' H' w' := by
  obtain ⟨hbig, h⟩ := guardK_iff.1 h
  obtain ⟨hne, h⟩ := guardK_iff.1 h
  have hbig := Nat.le_of_ble_eq_true hbig
  have hne : (C.tb (C.tb t).elem).size ≠ 0 := by intro e; rw [e] at hne; cases hne
  have h := rowK_iff.1 h
  cases he : (C.tb t).ety with
  | some u =>
    rw [he] at h
    obtain ⟨hsl, inf, z, hi, hsz, _⟩ := (hT.ok t).ety u he
    obtain ⟨c, els, hrun, hk, hrows, hlen⟩ := buildSlice_run hT ht hsl hbig hne h
    have hes : (C.tb (C.tb t).elem).size = esz u := by
      obtain ⟨inf', z', hi', hs', _⟩ := elem_info hT hne
      rw [hi] at hi'; cases hi'; omega
    rw [hes] at hrows
    unfold litK at hk
    split at hk
    · rename_i hd
      have hm : m = 0 := by rw [← hlen, ← (decAll_rep hd).1]; rfl
      subst hm
      obtain ⟨h1, h2⟩ := hs.junk (.cells c (C.tb t).elem)
      refine ⟨_, _, _, _, G, hrun, hk, h1, ?_, h2⟩
      exact .sl u [] .clip w.heap.size 0 0 (fun _ _ => undef) (Nat.le_refl _) (fun i j hi => absurd hi (by simp)) (fun i j hi => absurd hi (by simp)) rfl
    · rename_i l hnil hd
      have hm : l.length = m := by rw [(decAll_rep hd).1, hlen]
      obtain ⟨v, H', G', h1, h2, h3, h4⟩ := newRow_out hs (el := (C.tb t).elem) (cap := m) (hrows.row hd) (by omega) (by have := hrows.1; rw [hlen] at this; omega) hk
      rw [hm] at h3
      exact ⟨_, _, v, H', G', hrun, h1, h2, h3, h4⟩
    · exact hk.elim
  | none =>
    rw [he] at h
    obtain ⟨_, h⟩ := guardK_iff.1 h
    obtain ⟨hsl, h⟩ := guardK_iff.1 h
    obtain ⟨c, els, hrun, hk, hrows, hlen⟩ := buildSlice_run hT ht hsl hbig hne h
    have hk := pushK_iff.1 hk
    cases hels : els with
    | nil =>
      obtain rfl : m = 0 := by rw [← hlen, hels]; rfl
      obtain ⟨h1, h2⟩ := hs.junk (.cells c (C.tb t).elem)
      obtain ⟨h3, h4⟩ := h1.push0 (.raw (C.tb (C.tb t).elem).size els false) (by rw [hels]; rfl) (fun v e => by cases e) (fun e => absurd hels e)
      exact ⟨_, _, _, _, G, hrun, hk, h3, .osl0 _ _ _ _ _ (by simp) (.inr ⟨_, _, rfl⟩), h2.trans h4⟩
    | cons r rs =>
      have hm : (AObj.raw (C.tb (C.tb t).elem).size els false).mut = true := by rw [hels]; rfl
      have hle := Le.alloc hs (.cells c (C.tb t).elem)
      obtain ⟨h1, h2⟩ := hs.push (.raw (C.tb (C.tb t).elem).size els false) (.cells c (C.tb t).elem) hm
        (fun _ => ⟨c, ⟨(C.tb t).elem, by simpa [Gh.push] using heap_alloc_new w (.cells c (C.tb t).elem)⟩, by rw [hrows.1]; exact Nat.le_refl _, (hrows.mono hle).2⟩)
      refine ⟨_, _, _, _, _, hrun, hk, h1, ?_, h2⟩
      have := Rep.osl (G := G.push H.length w.heap.size) (n := H.length + 1) (w := w.alloc (.cells c (C.tb t).elem)) H.length 0 m (C.tb (C.tb t).elem).size m (Nat.lt_succ_self _) (Nat.le_refl _) (by rw [← hlen, hels]; simp)
      simpa [Gh.push] using this

theorem row_replicate {G n w} {u : ETy} {z : Array Value} {zs : List AV} {x : u.C} (hz : Reps G n w z zs) (hd : dec u zs = some x) (m : Nat) :
    RowRep G n w ((Array.range (m * esz u)).map fun i => z[i % z.size]!) u (List.replicate m x) := by
  obtain ⟨hl, hr⟩ := dec_rep (G := G) (n := n) (w := w) hd
  refine ⟨by simp, fun i j hi hj => ?_⟩
  have hi' : i < m := by simpa using hi
  have hlt := row_lt (u := u) hi' hj
  have hmod : (i * esz u + j) % z.size = j := by
    rw [hz.1, hl, Nat.mul_comm, Nat.mul_add_mod]; exact Nat.mod_eq_of_lt hj
  have hjz : j < z.size := by rw [hz.1, hl]; exact hj
  have e2 : (((Array.range (m * esz u)).map fun i => z[i % z.size]!).getD (i * esz u + j) undef) = z.getD j undef := by
    simp [hlt, hmod, hjz, getElem!_pos]
  rw [e2, List.getElem_replicate]
  exact hr j _ (hz.2 j (by omega)) hj

theorem dec_ne {u : ETy} {zs : List AV} {x : u.C} (hd : dec u zs = some x) : zs.length = esz u := (dec_rep (G := ⟨fun _ _ => False, fun _ => 0, fun _ => 0, fun _ => none⟩) (n := 0) (w := default) hd).1

theorem esz_pos (u : ETy) : 0 < esz u := by cases u <;> simp [esz]
theorem ebytes_pos (u : ETy) : 0 < ebytes u := by cases u <;> simp [ebytes]

theorem wrap64_id {n : Int} (h0 : 0 ≤ n) (h : n ≤ 2 ^ 47) : IntKind.i64.wrap n = n := by
  have e : n % (2 ^ 64 : Int) = n := Int.emod_eq_of_lt h0 (by omega)
  show (if (true && decide (n % (2 ^ 64 : Int) ≥ (2 ^ 63 : Int))) = true then n % (2 ^ 64 : Int) - (2 ^ 64 : Int) else n % (2 ^ 64 : Int)) = n
  rw [e, if_neg]
  simp
  omega

theorem makeSlice_out {C : Ctx} (hT : TabOk C) {G : Gh} {H : List AObj} {w : World} (hs : Sim G H w) {t : TypeId} {draw located : Bool} {kd kd' : IntKind} {n : Int} {u : ETy} {x : u.C} {k : AV → List AObj → Prop} (he : (C.tb t).ety = some u)
    (h0 : 0 ≤ n) (hb : n * ebytes u ≤ 2 ^ 47) (hd : dec u (C.tb (C.tb t).elem).zero = some x) (h : newRowK draw located u (List.replicate n.toNat x) H k) :
    ∃ y w' v H' G', (Instr.makeSlice t (.int kd n) (.int kd' n)).run C.P w = .ok y w' ∧ k v H' ∧ Sim G' H' w' ∧ Rep G' H'.length w' y v ∧ Ext G H w G' H' w' := by
  obtain ⟨hsl, inf, z, hi, hsz, hby, hz, hzs⟩ := (hT.ok t).ety u he
  have hund := (hT.ok t).sl hsl
  have hne : (C.tb (C.tb t).elem).size ≠ 0 := by
    intro e
    have := hT.zero0 _ e
    rw [this] at hd
    have e1 := dec_ne hd
    have := esz_pos u
    simp at e1; omega
  obtain ⟨inf', z', hi', _, hz', hzr, _⟩ := elem_info hT hne
  rw [hi] at hi'; cases hi'
  rw [hz] at hz'; cases hz'
  have hn : n ≤ 2 ^ 47 := by
    have := ebytes_pos u
    have h1 : n * 1 ≤ n * ebytes u := Int.mul_le_mul_of_nonneg_left (by omega) h0
    omega
  have hw := wrap64_id h0 hn
  obtain ⟨m, rfl⟩ := Int.eq_ofNat_of_zero_le h0
  have hrow := row_replicate (m := m) (hzr G H.length w) hd
  obtain ⟨v, H', G', h1, h2, h3, h4⟩ := newRow_out hs (el := (C.tb t).elem) (cap := m) (by simpa using hrow) (by simp) (by simp) h
  refine ⟨_, _, v, H', G', ?_, h1, h2, h3, h4⟩
  unfold Instr.makeSlice
  simp only [Sem.run_bind, run_under hund, Result.andThen_ok, asInt, asIntOf, Sem.run_pure, run_typeInfo hi, hw]
  have hnot : ¬ ((decide ((m : Int) < 0) || decide ((inf.bytes : Int) * (m : Int) > 2 ^ 48)) || decide ((m : Int) < 0) || decide ((m : Int) > (m : Int))) = true := by
    have h5 : (inf.bytes : Int) * (m : Int) ≤ 2 ^ 47 := by rw [hby, Int.mul_comm]; exact hb
    simp
    omega
  rw [if_neg hnot]
  have hc0 : ∀ zz : Array Value, (m * inf.size = 0 ∨ zz = z.cells) → ((Array.range (m * inf.size)).map fun i => zz[i % zz.size]!) = (Array.range (m * esz u)).map fun i => z.cells[i % z.cells.size]! := by
    intro zz hzz
    rw [hsz]
    rcases hzz with e | rfl
    · rw [hsz] at e; rw [e]; simp
    · rfl
  simp only [Sem.run_bind, run_askRoom, Result.andThen_ok, run_sizeOf hi, Int.toNat_natCast]
  split
  · rename_i e
    simp only [Sem.run_bind, Sem.run_pure, Result.andThen_ok]
    rw [hc0 #[] (.inl e)]
    simp only [Sem.run_bind, run_newRow, Result.andThen_ok, Sem.run_pure, List.length_replicate]
  · simp only [Sem.run_bind, Sem.run_pure, run_zeroValue hi hz, Result.andThen_ok]
    rw [hc0 z.cells (.inr rfl)]
    simp only [Sem.run_bind, run_newRow, Result.andThen_ok, Sem.run_pure, List.length_replicate]

end Av
end
