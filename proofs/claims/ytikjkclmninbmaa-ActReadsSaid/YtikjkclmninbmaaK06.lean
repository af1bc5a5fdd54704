/- The abstract machine: how operations run (4): new objects and rows. The abstract machine: how operations run (5): rows. Own work. -/
import Derived.Test.YtikjkclmninbmaaK05
section
set_option linter.unusedSimpArgs false
set_option linter.unusedVariables false
set_option linter.unnecessarySimpa false
namespace Av
open Go

/-- Rows of cells, e a row. -/
def RowsRep (G : Gh) (n : Nat) (w : World) (c : Array Value) (e : Nat) (els : List (List AV)) : Prop :=
  c.size = els.length * e ∧ ∀ i, i < els.length → (els.getD i []).length = e ∧ ∀ j, j < e → Rep G n w (c.getD (i * e + j) undef) ((els.getD i []).getD j .junk)

theorem RowsRep.mono {G n w G' n' w' c e els} (h : Le G n w G' n' w') (hr : RowsRep G n w c e els) : RowsRep G' n' w' c e els :=
  ⟨hr.1, fun i hi => ⟨(hr.2 i hi).1, fun j hj => ((hr.2 i hi).2 j hj).mono h⟩⟩

theorem foldl_set (xs : List Value) : ∀ (c : Array Value) (off i : Nat), off + i + xs.length ≤ c.size →
    ((xs.zipIdx i).foldl (fun cs (x : Value × Nat) => cs.setIfInBounds (off + x.2) x.1) c).toList = c.toList.take (off + i) ++ xs ++ c.toList.drop (off + i + xs.length) := by
  induction xs with
  | nil => intro c off i h; simp
  | cons x xs ih =>
    intro c off i h
    simp only [List.length_cons] at h
    simp only [List.zipIdx_cons, List.foldl_cons]
    rw [ih (c.setIfInBounds (off + i) x) off (i + 1) (by simp; omega)]
    simp only [Array.toList_setIfInBounds, List.length_cons]
    apply List.ext_getElem?
    intro k
    have e1 : (off + (i + 1)) = off + i + 1 := by omega
    rw [e1]
    by_cases h1 : k < off + i
    · rw [List.append_assoc, List.append_assoc, List.getElem?_append_left (by simp; omega), List.getElem?_append_left (by simp; omega), List.getElem?_take_of_lt (by omega), List.getElem?_take_of_lt h1,
        List.getElem?_set_ne (by omega)]
    · by_cases h2 : k = off + i
      · subst h2
        rw [List.append_assoc, List.append_assoc, List.getElem?_append_left (by simp; omega), List.getElem?_take_of_lt (by omega), List.getElem?_set_self (by simp; omega),
          List.getElem?_append_right (by simp; omega)]
        have : off + i - (List.take (off + i) c.toList).length = 0 := by simp; omega
        rw [this]; rfl
      · have e2 : (List.take (off + i + 1) (c.toList.set (off + i) x)).length = off + i + 1 := by simp; omega
        have e3 : (List.take (off + i) c.toList).length = off + i := by simp; omega
        rw [List.append_assoc, List.append_assoc, List.getElem?_append_right (l₁ := List.take (off + i + 1) (c.toList.set (off + i) x)) (by rw [e2]; omega), e2,
          List.getElem?_append_right (l₁ := List.take (off + i) c.toList) (by rw [e3]; omega), e3]
        have e4 : k - (off + i) = (k - (off + i + 1)) + 1 := by omega
        rw [e4, List.cons_append, List.getElem?_cons_succ]
        by_cases h3 : k - (off + i + 1) < xs.length
        · rw [List.getElem?_append_left h3, List.getElem?_append_left h3]
        · rw [List.getElem?_append_right (by omega), List.getElem?_append_right (by omega), List.getElem?_drop, List.getElem?_drop, List.getElem?_set_ne (by omega)]
          congr 1; omega

theorem fill_one {place : Nat → Option (Nat × Nat)} {c : Array Value} {i off size : Nat} {v : Value} {rest : List (Nat × Value)} (hp : place i = some (off, size)) (hs : v.cells.size = size) (hf : off + v.cells.size ≤ c.size) :
    Instr.fill place c ((i, v) :: rest) = Instr.fill place (c.toList.take off ++ v.cells.toList ++ c.toList.drop (off + v.cells.size)).toArray rest := by
  conv => lhs; unfold Instr.fill
  rw [hp]
  simp only []
  rw [if_neg (by simp; omega)]
  congr 1
  apply Array.ext'
  rw [← Array.foldl_toList, Array.toList_zipIdx]
  have := foldl_set v.cells.toList c off 0 (by simpa using hf)
  simpa using this

/-- A part laid over a struct's or an array's cells. -/
theorem fill_reps {C : Ctx} {G : Gh} {n : Nat} {w : World} {a : Act} {s : List AV} {place : Nat → Option (Nat × Nat)} {fs : List (Nat × Nat)} {tys : Nat → TypeId} (ht : Reps G n w a.tmps s)
    (hpl : ∀ (i off size : Nat), fs[i]? = some (off, size) → place i = some (off, size)) : ∀ {ps : List (Nat × Operand)} {c : Array Value} {cs : List AV} {k : List AV → Prop}, Reps G n w c cs → fieldsK C s fs tys ps cs k →
    ∃ c' cs', Instr.fill place c (ps.map fun (i, x) => (i, a.eval x)) = some c' ∧ k cs' ∧ Reps G n w c' cs'
  | [], c, cs, k, hc, h => ⟨c, cs, rfl, h, hc⟩
  | (i, x) :: ps, c, cs, k, hc, h => by
    obtain ⟨⟨off, size⟩, hfi, h⟩ := nthK_iff.1 h
    obtain ⟨v, h, hv⟩ := ev_out ht h
    have h := guardK_iff.1 (typedK_iff.1 h)
    obtain ⟨hj, h⟩ := h
    have h := guardK_iff.1 (cellsK_iff.1 h)
    obtain ⟨hlen, h⟩ := h
    obtain ⟨⟨_, hfit⟩, h⟩ := patchK_iff.1 h
    have hr := cells_rep (hv.typed C (tys i)) hj
    have hsz := (lenIs_eq hlen).1
    have hpatch := hc.patch (xs := (a.eval x).cells.toList) (by simpa using hr) off
    obtain ⟨c', cs', h1, h2, h3⟩ := fill_reps ht hpl hpatch h
    refine ⟨c', cs', ?_, h2, h3⟩
    rw [List.map_cons, fill_one (hpl i off size hfi) (by rw [hr.1, hsz]) (by rw [hr.1, hc.1]; exact hfit)]
    simpa using h1

theorem run_mapM_list {α β : Type} {P : Program} {w : World} {f : α → Go.Sem β} {g : α → β} : ∀ {l : List α}, (∀ x, x ∈ l → (f x).run P w = .ok (g x) w) → (l.mapM f).run P w = .ok (l.map g) w
  | [], _ => by simp
  | x :: l, h => by
    have ih : (l.mapM f).run P w = .ok (l.map g) w := run_mapM_list (fun y hy => h y (List.mem_cons_of_mem _ hy))
    simp only [List.mapM_cons, Sem.run_bind, h x (List.mem_cons_self ..), Result.andThen_ok, ih, Sem.run_pure, List.map_cons]

theorem run_mapM_array {α β : Type} {P : Program} {w : World} {f : α → Go.Sem β} {g : α → β} {l : Array α} (h : ∀ x, x ∈ l.toList → (f x).run P w = .ok (g x) w) : (l.mapM f).run P w = .ok (l.map g) w := by
  rw [Array.mapM_eq_mapM_toList]
  simp only [Sem.run_map, run_mapM_list h, Result.andThen_ok]
  congr 1
  apply Array.ext'
  simp

/-- A struct's value, out of parts. -/
theorem build_out {C : Ctx} (hT : TabOk C) {G : Gh} {H : List AObj} {w : World} {a : Act} {s : List AV} (ht : Reps G H.length w a.tmps s) {t : TypeId} {ps : Array (Nat × Operand)} {k : AV → Prop}
    (h : guardK (C.tb t).agg (rowK (C.tb t).zero fun z => guardK (!(C.tb t).fields.isEmpty) <| fieldsK C s (C.tb t).fields (fun i => (C.tb t).ftys.getD i 0) ps.toList z fun cs => k (.agg cs))) :
    ∃ x v, (Instr.build t (ps.map fun (i, x) => (i, a.eval x))).run C.P w = .ok x w ∧ k v ∧ Rep G H.length w x v := by
  obtain ⟨hag, h⟩ := guardK_iff.1 h
  obtain ⟨hne, h⟩ := guardK_iff.1 (rowK_iff.1 h)
  have hne : (C.tb t).fields ≠ [] := by intro e; rw [e] at hne; cases hne
  obtain ⟨_, hsz, fs, hd, hfl, hf⟩ := (hT.ok t).fields hne
  obtain ⟨inf, z, hi, hs, hz, hzagg, hzr, _⟩ := (hT.ok t).info hsz
  obtain ⟨hzl, hzr⟩ := zRow_reps (G := G) (n := H.length) (w := w) hzr
  have hz0 : Reps G H.length w z.cells (C.tb t).zero := ⟨by simpa using hzl, fun k hk => by simpa using hzr k hk⟩
  have hplaces : (fs.mapM fun f => (do pure (f.offset, ← Go.sizeOf f.type) : Go.Sem (Nat × Nat))).run C.P w = .ok (fs.map fun f => (f.offset, C.P.cellsOf f.type)) w := by
    refine run_mapM_array fun f hf' => ?_
    obtain ⟨k, hk, rfl⟩ := List.getElem_of_mem hf'
    obtain ⟨inf', h1, _⟩ := hf k fs.toList[k] (by simp at hk; simp [hk])
    simp only [Sem.run_bind, run_sizeOf h1, Result.andThen_ok, Sem.run_pure, Program.cellsOf, h1]
    rfl
  have hpl : ∀ (i off size : Nat), (C.tb t).fields[i]? = some (off, size) → (fun i => (fs.map fun f => (f.offset, C.P.cellsOf f.type))[i]?) i = some (off, size) := by
    intro i off size hfi
    have hil := lt_of_get hfi
    obtain ⟨inf', h1, h2, _⟩ := hf i fs[i] (by rw [← hfl] at hil; simp [hil])
    rw [h2] at hfi
    have := Option.some.inj hfi
    rw [← this]
    rw [← hfl] at hil
    simp [hil, Program.cellsOf, h1]
  obtain ⟨c', cs', h1, h2, h3⟩ := fill_reps ht hpl hz0 h
  refine ⟨.agg c', .agg cs', ?_, h2, .agg _ _ h3.1 h3.2⟩
  unfold Instr.build
  simp only [Sem.run_bind, run_zeroValue hi hz, Result.andThen_ok, run_under hd, hplaces]
  have : (ps.map fun (i, x) => (i, a.eval x)).toList = ps.toList.map fun (i, x) => (i, a.eval x) := by simp
  rw [this, h1]
  rfl


theorem arrF_get {size : Nat} : ∀ {n off i o z : Nat}, (arrF size off n)[i]? = some (o, z) → o = off + i * size ∧ z = size
  | 0, _, _, _, _, h => by simp [arrF] at h
  | n + 1, off, 0, o, z, h => by
    simp only [arrF, List.getElem?_cons_zero, Option.some.injEq, Prod.mk.injEq] at h
    omega
  | n + 1, off, i + 1, o, z, h => by
    simp only [arrF, List.getElem?_cons_succ] at h
    obtain ⟨h1, h2⟩ := arrF_get h
    refine ⟨?_, h2⟩
    rw [h1, Nat.succ_mul]
    omega

/-- A struct's or an array's value, out of parts. -/
theorem buildK_out {C : Ctx} (hT : TabOk C) {G : Gh} {H : List AObj} {w : World} {a : Act} {s : List AV} (ht : Reps G H.length w a.tmps s) {t : TypeId} {ps : Array (Nat × Operand)} {k : AV → Prop} (h : buildK C s t ps.toList k) :
    ∃ x v, (Instr.build t (ps.map fun (i, x) => (i, a.eval x))).run C.P w = .ok x w ∧ k v ∧ Rep G H.length w x v := by
  unfold buildK at h
  split at h
  · exact build_out hT ht h
  · rename_i hlen
    have hlen : (C.tb t).len ≠ 0 := by intro e; rw [e] at hlen; cases hlen
    obtain ⟨hag, h⟩ := guardK_iff.1 h
    obtain ⟨hsz, h⟩ := guardK_iff.1 h
    obtain ⟨hez, h⟩ := guardK_iff.1 h
    have h := rowK_iff.1 h
    have hsz : (C.tb t).size ≠ 0 := by intro e; rw [e] at hsz; cases hsz
    have hez : (C.tb (C.tb t).elem).size ≠ 0 := by intro e; rw [e] at hez; cases hez
    obtain ⟨hd, _⟩ := (hT.ok t).arr hlen
    obtain ⟨inf, z, hi, hs, hz, hzagg, hzr, _⟩ := (hT.ok t).info hsz
    obtain ⟨einf, _, hei, hes, _⟩ := (hT.ok (C.tb t).elem).info hez
    obtain ⟨hzl, hzr⟩ := zRow_reps (G := G) (n := H.length) (w := w) hzr
    have hz0 : Reps G H.length w z.cells (C.tb t).zero := ⟨by simpa using hzl, fun k hk => by simpa using hzr k hk⟩
    have hpl : ∀ (i off size : Nat), (arrF (C.tb (C.tb t).elem).size 0 (C.tb t).len)[i]? = some (off, size) → (fun i => some (i * einf.size, einf.size)) i = some (off, size) := by
      intro i off size hfi
      obtain ⟨h1, h2⟩ := arrF_get hfi
      rw [hes, h1, h2, Nat.zero_add]
    obtain ⟨c', cs', h1, h2, h3⟩ := fill_reps ht hpl hz0 h
    refine ⟨.agg c', .agg cs', ?_, h2, .agg _ _ h3.1 h3.2⟩
    unfold Instr.build
    simp only [Sem.run_bind, run_zeroValue hi hz, Result.andThen_ok, run_under hd, run_sizeOf hei]
    have : (ps.map fun (i, x) => (i, a.eval x)).toList = ps.toList.map fun (i, x) => (i, a.eval x) := by simp
    rw [this, h1]
    rfl

end Av
end
section
set_option linter.unusedSimpArgs false
set_option linter.unusedVariables false
set_option linter.unnecessarySimpa false
namespace Av
open Go

/-- A row of elements in the first cells of c. -/
def RowRep (G : Gh) (n : Nat) (w : World) (c : Array Value) (u : ETy) (l : List u.C) : Prop :=
  l.length * esz u ≤ c.size ∧ ∀ i j (h : i < l.length), j < esz u → Rep G n w (c.getD (i * esz u + j) undef) ((enc u l[i]).getD j .junk)

theorem RowRep.mono {G n w G' n' w' c u l} (h : Le G n w G' n' w') (hr : RowRep G n w c u l) : RowRep G' n' w' c u l :=
  ⟨hr.1, fun i j hi hj => (hr.2 i j hi hj).mono h⟩

theorem row_lt {u : ETy} {i j m : Nat} (hi : i < m) (hj : j < esz u) : i * esz u + j < m * esz u := by
  have : (i + 1) * esz u ≤ m * esz u := Nat.mul_le_mul_right _ hi
  rw [Nat.add_mul] at this; omega

/-- A block that nothing leads to. -/
theorem Sim.junk {G H w} (h : Sim G H w) (ob : Obj) : Sim G H (w.alloc ob) ∧ Ext G H w G H (w.alloc ob) := by
  have hle : Le G H.length w G H.length (w.alloc ob) := ⟨Nat.le_refl _, fun _ _ => rfl, fun _ _ => Nat.le_refl _, fun _ _ _ => rfl, fun b o hp =>
    ⟨hp, cellAt_of_block (heap_alloc_old w ob (h.pv b o hp)) o⟩⟩
  refine ⟨⟨fun l o ho => (h.obj l o ho).mono hle (lt_of_get ho) (fun hr => heap_alloc_old w ob (h.lt l o ho hr)) (fun _ _ => rfl), fun l o ho hr => by have := h.lt l o ho hr; simp; omega, h.free, h.inj, ?_, h.tobj, h.tinj,
    fun b o hp => by have := h.pv b o hp; simp; omega⟩, ⟨by simp, hle, fun b hb _ => heap_alloc_old w ob hb, fun _ _ p q => absurd p q, fun _ o => .inr o, rfl, rfl, rfl⟩⟩
  intro l v b e ho ht
  obtain ⟨⟨c, hc, hcs⟩, hf⟩ := h.tail l v b e ho ht
  exact ⟨⟨c, hc.congr (heap_alloc_old w ob hc.lt), hcs⟩, hf⟩

/-- An object without a block. -/
theorem Sim.push0 {G H w} (h : Sim G H w) (o : AObj) (hr : o.real = false) (ha : ∀ v, o ≠ .app v) (hrep : ObjRep G (H.length + 1) w H.length o) :
    Sim G (H ++ [o]) w ∧ Ext G H w G (H ++ [o]) w := by
  have hle : Le G H.length w G (H ++ [o]).length w := ⟨by simp, fun _ _ => rfl, fun _ _ => Nat.le_refl _, fun _ _ _ => rfl, fun b p hp => ⟨hp, rfl⟩⟩
  have old : ∀ {l : Nat} {o1 : AObj}, (H ++ [o])[l]? = some o1 → o1.real = true → H[l]? = some o1 := by
    intro l o1 ho hr1
    rcases getElem?_snoc ho with ⟨_, g⟩ | ⟨rfl, rfl⟩
    · exact g
    · rw [hr] at hr1; cases hr1
  have olda : ∀ {l v : Nat}, (H ++ [o])[l]? = some (.app v) → H[l]? = some (.app v) := by
    intro l v ho
    rcases getElem?_snoc ho with ⟨_, g⟩ | ⟨rfl, e⟩
    · exact g
    · exact absurd e.symm (ha v)
  refine ⟨⟨?_, fun l o1 ho hr1 => h.lt l o1 (old ho hr1) hr1, fun l o1 ho hm => h.free l o1 (old ho (AObj.real_of_mut hm)) hm, fun l1 l2 o1 o2 h1 h2 r1 r2 => h.inj l1 l2 o1 o2 (old h1 r1) (old h2 r2) r1 r2,
    fun l v b e ho => h.tail l v b e (olda ho), fun l v b e l2 o2 ho ht h2 r2 => h.tobj l v b e l2 o2 (olda ho) ht (old h2 r2) r2, fun l1 l2 v1 v2 b e1 e2 h1 h2 => h.tinj l1 l2 v1 v2 b e1 e2 (olda h1) (olda h2), h.pv⟩,
    ⟨Nat.le_refl _, hle, fun _ _ _ => rfl, fun _ _ p q => absurd p q, ?_, rfl, rfl, rfl⟩⟩
  · intro l o1 ho
    rcases getElem?_snoc ho with ⟨hl, g⟩ | ⟨rfl, rfl⟩
    · exact (h.obj l o1 g).mono hle hl (fun _ => rfl) (fun _ _ => rfl)
    · rw [List.length_append]; exact hrep
  · rintro b (⟨l, o1, ho, hm, e⟩ | ⟨l, v, e, ho, ht⟩)
    · exact .inr (.inl ⟨l, o1, old ho (AObj.real_of_mut hm), hm, e⟩)
    · exact .inr (.inr ⟨l, v, e, olda ho, ht⟩)

theorem snoc_old {H : List AObj} {x o : AObj} {l : Nat} (h : (H ++ [x])[l]? = some o) (hne : l ≠ H.length) : H[l]? = some o := by
  rcases getElem?_snoc h with ⟨_, g⟩ | ⟨e, _⟩
  · exact g
  · exact absurd e hne

/-- A token without a block. -/
theorem Sim.pushTok {G H w} (h : Sim G H w) : ∃ G', Sim G' (H ++ [.app 0]) w ∧ Ext G H w G' (H ++ [.app 0]) w ∧ TokNil G' (H.length + 1) (.own H.length 0) := by
  obtain ⟨h1, h2⟩ := h.note (H' := H ++ [.app 0]) (w' := w) (loc := H.length) (v := 0) (tk := none) (p := fun _ _ => False) (by simp) (by simp) (fun l o ho hne => snoc_old ho hne)
    (fun hl => absurd hl (Nat.lt_irrefl _)) (fun hl => absurd hl (Nat.lt_irrefl _)) (Nat.le_refl _) (fun _ _ hf => hf.elim) (fun _ _ _ => rfl) (fun _ _ _ => rfl) (fun _ _ e => by cases e) rfl rfl rfl
  exact ⟨_, h1, h2, Nat.lt_succ_self _, by rw [Gh.note_ver_eq]; exact Nat.le_refl _⟩

/-- A new row that may be gone on with. -/
theorem Sim.newTok {G H w} (h : Sim G H w) {u : ETy} {l : List u.C} {c : Array Value} {el : TypeId} {cap : Nat} (hr : RowRep G H.length w c u l) (hcap : l.length ≤ cap) (hcs : cap * esz u ≤ c.size) :
    ∃ G', Sim G' (H ++ [.app 0]) (w.alloc (.cells c el)) ∧ Ext G H w G' (H ++ [.app 0]) (w.alloc (.cells c el)) ∧
      Rep G' (H.length + 1) (w.alloc (.cells c el)) (.slice (some ⟨w.heap.size, 0, none⟩) l.length cap) (.sl u l (.own H.length 0)) := by
  obtain ⟨h1, h2⟩ := h.note (H' := H ++ [.app 0]) (w' := w.alloc (.cells c el)) (loc := H.length) (v := 0) (tk := some (w.heap.size, l.length * esz u, cap * esz u)) (p := fun b o => b = w.heap.size ∧ o < l.length * esz u)
    (by simp) (by simp) (fun l o ho hne => snoc_old ho hne) (fun hl => absurd hl (Nat.lt_irrefl _)) (fun hl => absurd hl (Nat.lt_irrefl _)) (by simp)
    (fun b o hb => ⟨by simp; omega, .inl (by omega)⟩) (fun b hb _ => heap_alloc_old w _ hb) (fun b o hp => cellAt_of_block (heap_alloc_old w _ (h.pv b o hp)) o)
    (fun b e he => by
      obtain ⟨rfl, rfl⟩ := Prod.mk.inj (Option.some.inj he)
      exact ⟨⟨c, ⟨el, heap_alloc_new w _⟩, hcs⟩, fun o ho => ⟨fun hp => absurd (h.pv _ _ hp) (Nat.lt_irrefl _), fun hp => by omega⟩, .inl (Nat.le_refl _)⟩) rfl rfl rfl
  refine ⟨_, h1, h2, ?_⟩
  have hle := h2.le
  rw [List.length_append] at hle
  have hb : block (w.alloc (.cells c el)) w.heap.size c := ⟨el, heap_alloc_new w _⟩
  refine .sl u l _ w.heap.size 0 cap (fun i j => c.getD (i * esz u + j) undef) hcap (fun i j hi hj => ?_) (fun i j hi hj => (hr.2 i j hi hj).mono hle) ?_
  · have := row_lt (u := u) hi hj
    refine ⟨.inr ⟨rfl, by omega⟩, ?_⟩
    rw [cellAt_block hb, Nat.zero_add]
    have h3 : i * esz u + j < c.size := by have := hr.1; omega
    simp [h3]
  · exact ⟨Nat.lt_succ_self _, by rw [Gh.note_ver_eq]; exact Nat.le_refl _, fun _ => .inr (by rw [Gh.note_tk_eq, Nat.zero_add, Nat.zero_add])⟩

/-- A new row that may be written. -/
theorem Sim.newArr {G H w} (h : Sim G H w) {u : ETy} {l : List u.C} {c : Array Value} {el : TypeId} {cap : Nat} (hr : RowRep G H.length w c u l) (hcap : l.length ≤ cap) (hcs : cap * esz u ≤ c.size) :
    ∃ G', Sim G' (H ++ [.arr u l false]) (w.alloc (.cells c el)) ∧ Ext G H w G' (H ++ [.arr u l false]) (w.alloc (.cells c el)) ∧
      Rep G' (H.length + 1) (w.alloc (.cells c el)) (.slice (some ⟨w.heap.size, 0, none⟩) l.length cap) (.osl H.length 0 l.length (esz u)) := by
  cases hl : l with
  | nil =>
    obtain ⟨h1, h2⟩ := h.junk (.cells c el)
    obtain ⟨h3, h4⟩ := h1.push0 (.arr u [] false) rfl (fun v e => by cases e) (fun e => absurd rfl e)
    exact ⟨G, h3, h2.trans h4, .osl0 _ _ _ _ _ (Nat.lt_succ_self _) (.inr ⟨_, _, rfl⟩)⟩
  | cons x xs =>
    rw [← hl]
    have hm : (AObj.arr u l false).mut = true := by rw [hl]; rfl
    have hle := Le.alloc h (.cells c el)
    obtain ⟨h1, h2⟩ := h.push (.arr u l false) (.cells c el) hm (fun _ => ⟨c, ⟨el, by simpa [Gh.push] using heap_alloc_new w (.cells c el)⟩, hr.1, fun i j hi hj => (hr.2 i j hi hj).mono hle⟩)
    refine ⟨_, h1, h2, ?_⟩
    have := Rep.osl (G := G.push H.length w.heap.size) (n := H.length + 1) (w := w.alloc (.cells c el)) H.length 0 l.length (esz u) cap (Nat.lt_succ_self _) hcap (by rw [hl]; simp)
    simpa [Gh.push] using this

/-- A new row whose cells don't change any more. -/
theorem Sim.newFix {G H w} (h : Sim G H w) {u : ETy} {l : List u.C} {c : Array Value} {el : TypeId} {cap : Nat} (hr : RowRep G H.length w c u l) (hcap : l.length ≤ cap) (hcs : cap * esz u ≤ c.size) :
    ∃ G', Sim G' H (w.alloc (.cells c el)) ∧ Ext G H w G' H (w.alloc (.cells c el)) ∧ (∀ b o, G.prot b o → G'.prot b o) ∧
      Rep G' H.length (w.alloc (.cells c el)) (.slice (some ⟨w.heap.size, 0, none⟩) l.length cap) (.sl u l .none) := by
  have hle : Le G H.length w { G with prot := fun b o => G.prot b o ∨ (b = w.heap.size ∧ o < l.length * esz u) } H.length (w.alloc (.cells c el)) :=
    ⟨Nat.le_refl _, fun _ _ => rfl, fun _ _ => Nat.le_refl _, fun _ _ _ => rfl, fun b o hp => ⟨.inl hp, cellAt_of_block (heap_alloc_old w _ (h.pv b o hp)) o⟩⟩
  have hb : block (w.alloc (.cells c el)) w.heap.size c := ⟨el, heap_alloc_new w _⟩
  refine ⟨{ G with prot := fun b o => G.prot b o ∨ (b = w.heap.size ∧ o < l.length * esz u) },
    ⟨fun l o ho => (h.obj l o ho).mono hle (lt_of_get ho) (fun hr => heap_alloc_old w _ (h.lt l o ho hr)) (fun _ _ => rfl), fun l o ho hr => by have := h.lt l o ho hr; simp; omega, ?_, h.inj, ?_, h.tobj, h.tinj, ?_⟩,
    ⟨by simp, hle, fun b hb _ => heap_alloc_old w _ hb, fun b o p q => ?_, fun _ o => .inr o, rfl, rfl, rfl⟩, fun b o hp => .inl hp, ?_⟩
  · rintro l o ho hm p (hp | ⟨hp, _⟩)
    · exact h.free l o ho hm p hp
    · have := h.lt l o ho (AObj.real_of_mut hm)
      simp only at hp; omega
  · intro l v b e ho ht
    obtain ⟨⟨c', hc, hcs'⟩, hf⟩ := h.tail l v b e ho ht
    refine ⟨⟨c', hc.congr (heap_alloc_old w _ hc.lt), hcs'⟩, fun p hp => ?_⟩
    rintro (h1 | ⟨h1, _⟩)
    · exact hf p hp h1
    · have := hc.lt; omega
  · rintro b o (hp | ⟨rfl, _⟩)
    · have := h.pv b o hp; simp; omega
    · simp
  · rcases p with p | ⟨rfl, _⟩
    · exact absurd p q
    · exact .inl (Nat.le_refl _)
  · refine .sl u l _ w.heap.size 0 cap (fun i j => c.getD (i * esz u + j) undef) hcap (fun i j hi hj => ?_) (fun i j hi hj => (hr.2 i j hi hj).mono hle) trivial
    have := row_lt (u := u) hi hj
    refine ⟨.inr ⟨rfl, by omega⟩, ?_⟩
    rw [cellAt_block hb, Nat.zero_add]
    have h3 : i * esz u + j < c.size := by have := hr.1; omega
    simp [h3]

/-- A new row, either way. -/
theorem newRow_out {G H w} (h : Sim G H w) {u : ETy} {l : List u.C} {c : Array Value} {el : TypeId} {cap : Nat} (hr : RowRep G H.length w c u l) (hcap : l.length ≤ cap) (hcs : cap * esz u ≤ c.size) {draw located : Bool} {k : AV → List AObj → Prop}
    (hk : newRowK draw located u l H k) : ∃ v H' G', k v H' ∧ Sim G' H' (w.alloc (.cells c el)) ∧ Rep G' H'.length (w.alloc (.cells c el)) (.slice (some ⟨w.heap.size, 0, none⟩) l.length cap) v ∧ Ext G H w G' H' (w.alloc (.cells c el)) := by
  cases draw with
  | true =>
    cases located with
    | true => exact hk.elim
    | false =>
      obtain ⟨G', h1, h2, _, h3⟩ := h.newFix (el := el) hr hcap hcs
      exact ⟨_, _, G', hk, h1, h3, h2⟩
  | false =>
    cases located with
    | true =>
      have hk := pushK_iff.1 hk
      obtain ⟨G', h1, h2, h3⟩ := h.newArr (el := el) hr hcap hcs
      exact ⟨_, _, G', hk, h1, by simpa using h3, h2⟩
    | false =>
      have hk := pushK_iff.1 hk
      obtain ⟨G', h1, h2, h3⟩ := h.newTok (el := el) hr hcap hcs
      exact ⟨_, _, G', hk, h1, by simpa using h3, h2⟩

end Av
end
