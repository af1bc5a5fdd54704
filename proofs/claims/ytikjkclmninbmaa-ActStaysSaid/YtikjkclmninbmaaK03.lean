/- The abstract machine: how what is known goes from world to world. The abstract machine: rows that are appended to. The abstract machine: what is known of types is so. Own work. -/
import Derived.Test.YtikjkclmninbmaaK02
import Derived.Laws.World
import Derived.Laws.Cells
import Derived.Below
import Derived.Laws.Sem
section
set_option linter.unusedSimpArgs false
set_option linter.unusedVariables false
set_option linter.unnecessarySimpa false
namespace Av
open Go

theorem Ext.refl (G H w) : Ext G H w G H w :=
  ⟨Nat.le_refl _, Le.refl _ _ _, fun _ _ _ => rfl, fun _ _ h h' => absurd h h', fun _ h => .inr h, rfl, rfl, rfl⟩

theorem Ext.trans {G H w G1 H1 w1 G2 H2 w2} (h : Ext G H w G1 H1 w1) (k : Ext G1 H1 w1 G2 H2 w2) : Ext G H w G2 H2 w2 where
  size := Nat.le_trans h.size k.size
  le := h.le.trans k.le
  frame b hb ho := by
    have h1 := h.frame b hb ho
    have : ¬ Owned G1 H1 b := fun o => by rcases h.own b o with q | q <;> first | omega | exact ho q
    exact (k.frame b (Nat.lt_of_lt_of_le hb h.size) this).trans h1
  prot b o hp hn := by
    by_cases q : G1.prot b o
    · exact h.prot b o q hn
    · rcases k.prot b o hp q with r | r
      · exact .inl (Nat.le_trans h.size r)
      · exact h.own b r
  own b ho := by
    rcases k.own b ho with r | r
    · exact .inl (Nat.le_trans h.size r)
    · exact h.own b r
  os := k.os.trans h.os
  tape := k.tape.trans h.tape
  output := k.output.trans h.output

theorem cellAt_of_block {w w' : World} {b : Nat} (h : w'.heap[b]? = w.heap[b]?) (o : Nat) : cellAt w' b o = cellAt w b o := by
  simp [cellAt, World.cell?, h]

theorem cellAt_block {w : World} {b : Nat} {c : Array Value} (h : block w b c) (o : Nat) : cellAt w b o = c[o]? := by
  obtain ⟨el, h⟩ := h
  simp [cellAt, World.cell?, h]

theorem block.lt {w : World} {b : Nat} {c : Array Value} (h : block w b c) : b < w.heap.size := by
  obtain ⟨el, h⟩ := h
  exact (Array.getElem?_eq_some_iff.1 h).1

theorem block.frozen {w : World} {b : Nat} {c : Array Value} (h : block w b c) (o : Nat) : w.frozen? ⟨b, o, none⟩ = false := by
  obtain ⟨el, h⟩ := h
  simp [World.frozen?, h]

theorem block.congr {w w' : World} {b : Nat} {c : Array Value} (h : block w b c) (e : w'.heap[b]? = w.heap[b]?) : block w' b c := by
  obtain ⟨el, h⟩ := h
  exact ⟨el, e.trans h⟩

theorem ObjRep.mono {G n w G' n' w' loc o} (h : Le G n w G' n' w') (hl : loc < n) (hb : o.real = true → w'.heap[G.mu loc]? = w.heap[G.mu loc]?)
    (hv : ∀ v, o = .app v → G'.ver loc = G.ver loc) (hr : ObjRep G n w loc o) : ObjRep G' n' w' loc o := by
  have hmu := h.mu loc hl
  cases o with
  | dead => trivial
  | box cs =>
    obtain ⟨c, h1, h2⟩ := hr
    exact ⟨c, by rw [hmu]; exact h1.congr (hb rfl), h2.mono h⟩
  | arr t l fr =>
    intro hne
    obtain ⟨c, h1, h2, h3⟩ := hr hne
    exact ⟨c, by rw [hmu]; exact h1.congr (hb (by cases l <;> simp_all [AObj.real])), h2, fun i j hi hj => (h3 i j hi hj).mono h⟩
  | raw e els fr =>
    intro hne
    obtain ⟨c, h1, h2, h3⟩ := hr hne
    exact ⟨c, by rw [hmu]; exact h1.congr (hb (by cases els <;> simp_all [AObj.real])), h2, fun i hi => ⟨(h3 i hi).1, fun j hj => ((h3 i hi).2 j hj).mono h⟩⟩
  | map k es =>
    obtain ⟨en, clock, h1, h2, h3⟩ := hr
    exact ⟨en, clock, by rw [hmu]; exact (hb rfl).trans h1, h2, fun i hi => ⟨(h3 i hi).1, (h3 i hi).2.mono h⟩⟩
  | app v => exact (hv v rfl).trans hr
  | dfr => show w'.heap[G'.mu loc]? = _; rw [hmu]; exact (hb rfl).trans hr
  | lrec fn tmps ps assign body live pend =>
    obtain ⟨l, h1, h2, h3, h4⟩ := hr
    exact ⟨l, by rw [hmu]; exact (hb rfl).trans h1, h2, h3.mono h, h4⟩

theorem AObj.real_of_mut {o : AObj} (h : o.mut = true) : o.real = true := by
  cases o with
  | arr t l f => cases f <;> simp_all [AObj.mut]
  | raw e l f => cases f <;> simp_all [AObj.mut]
  | _ => simp_all [AObj.mut]

/-- The ghost of one object more, in block b. -/
def Gh.push (G : Gh) (n b : Nat) : Gh := { G with mu := fun l => if l = n then b else G.mu l }

theorem getElem?_snoc {α : Type} {l : List α} {x y : α} {i : Nat} (h : (l ++ [x])[i]? = some y) : (i < l.length ∧ l[i]? = some y) ∨ (i = l.length ∧ y = x) := by
  rcases Nat.lt_trichotomy i l.length with q | q | q
  · rw [List.getElem?_append_left q] at h; exact .inl ⟨q, h⟩
  · subst q; simp at h; exact .inr ⟨rfl, h.symm⟩
  · rw [List.getElem?_eq_none (by simp; omega)] at h; cases h

theorem lt_of_get {α : Type} {l : List α} {y : α} {i : Nat} (h : l[i]? = some y) : i < l.length := (List.getElem?_eq_some_iff.1 h).1

theorem heap_alloc_old (w : World) (ob : Obj) {b : Nat} (h : b < w.heap.size) : (w.alloc ob).heap[b]? = w.heap[b]? := by
  show (w.heap.push ob)[b]? = _
  rw [Array.getElem?_push]; rw [if_neg (by omega)]

theorem heap_alloc_new (w : World) (ob : Obj) : (w.alloc ob).heap[w.heap.size]? = some ob := by
  show (w.heap.push ob)[w.heap.size]? = some ob
  simp

theorem Le.alloc {G H w} (h : Sim G H w) (ob : Obj) : Le G H.length w (G.push H.length w.heap.size) (H.length + 1) (w.alloc ob) where
  nn := Nat.le_succ _
  mu loc hl := by simp only [Gh.push]; rw [if_neg (by omega)]
  ver _ _ := Nat.le_refl _
  tk _ _ _ := rfl
  prot b o hp := ⟨hp, cellAt_of_block (heap_alloc_old w ob (h.pv b o hp)) o⟩

/-- An object more. -/
theorem Sim.push {G H w} (h : Sim G H w) (o : AObj) (ob : Obj) (hm : o.mut = true)
    (hrep : ObjRep (G.push H.length w.heap.size) (H.length + 1) (w.alloc ob) H.length o) :
    Sim (G.push H.length w.heap.size) (H ++ [o]) (w.alloc ob) ∧ Ext G H w (G.push H.length w.heap.size) (H ++ [o]) (w.alloc ob) := by
  have hmo : ∀ l, l < H.length → (G.push H.length w.heap.size).mu l = G.mu l := fun l hl => by simp only [Gh.push]; rw [if_neg (by omega)]
  have hmn : (G.push H.length w.heap.size).mu H.length = w.heap.size := by simp [Gh.push]
  have hle := Le.alloc h ob
  have hold : ∀ l o1, H[l]? = some o1 → o1.real = true → G.mu l < w.heap.size := h.lt
  refine ⟨⟨?_, ?_, ?_, ?_, ?_, ?_, ?_, ?_⟩, ⟨by simp, by simpa using hle, fun b hb _ => heap_alloc_old w ob hb, fun b p q r => absurd q r, ?_, rfl, rfl, rfl⟩⟩
  · intro l o1 ho
    rcases getElem?_snoc ho with ⟨hl, go⟩ | ⟨rfl, rfl⟩
    · have := h.obj l o1 go
      rw [List.length_append]
      exact this.mono hle hl (fun hr => heap_alloc_old w ob (hold l o1 go hr)) (fun _ _ => rfl)
    · rw [List.length_append]; exact hrep
  · intro l o1 ho hr
    rcases getElem?_snoc ho with ⟨hl, go⟩ | ⟨rfl, rfl⟩
    · rw [hmo l hl]; have := hold l o1 go hr; simp; omega
    · rw [hmn]; simp
  · intro l o1 ho hr p hp
    rcases getElem?_snoc ho with ⟨hl, go⟩ | ⟨rfl, rfl⟩
    · rw [hmo l hl] at hp; exact h.free l o1 go hr p hp
    · rw [hmn] at hp; exact absurd (h.pv _ _ hp) (by omega)
  · intro l1 l2 o1 o2 h1 h2 r1 r2 e
    rcases getElem?_snoc h1 with ⟨hl1, g1⟩ | ⟨rfl, rfl⟩ <;> rcases getElem?_snoc h2 with ⟨hl2, g2⟩ | ⟨rfl, rfl⟩
    · rw [hmo _ hl1, hmo _ hl2] at e; exact h.inj _ _ _ _ g1 g2 r1 r2 e
    · rw [hmo _ hl1, hmn] at e; have := hold _ _ g1 r1; omega
    · rw [hmo _ hl2, hmn] at e; have := hold _ _ g2 r2; omega
    · rfl
  · intro l v b e ho ht
    rcases getElem?_snoc ho with ⟨hl, go⟩ | ⟨rfl, rfl⟩
    · obtain ⟨⟨c, hc, hcs⟩, hf⟩ := h.tail l v b e go ht
      exact ⟨⟨c, hc.congr (heap_alloc_old w ob hc.lt), hcs⟩, hf⟩
    · cases hm
  · intro l v b e l2 o2 ho ht h2 r2
    rcases getElem?_snoc ho with ⟨hl, go⟩ | ⟨rfl, rfl⟩
    · rcases getElem?_snoc h2 with ⟨hl2, g2⟩ | ⟨rfl, rfl⟩
      · rw [hmo _ hl2]; exact h.tobj l v b e l2 o2 go ht g2 r2
      · rw [hmn]; obtain ⟨⟨c, hc, hcs⟩, _⟩ := h.tail l v b e go ht; have := hc.lt; omega
    · cases hm
  · intro l1 l2 v1 v2 b e1 e2 h1 h2 t1 t2
    rcases getElem?_snoc h1 with ⟨hl1, g1⟩ | ⟨rfl, rfl⟩
    · rcases getElem?_snoc h2 with ⟨hl2, g2⟩ | ⟨rfl, rfl⟩
      · exact h.tinj l1 l2 v1 v2 b e1 e2 g1 g2 t1 t2
      · cases hm
    · cases hm
  · intro b p hp; have := h.pv b p hp; simp; omega
  · rintro b (⟨l, o1, ho, hr, e⟩ | ⟨l, v, e, ho, ht⟩)
    · rcases getElem?_snoc ho with ⟨hl, go⟩ | ⟨rfl, rfl⟩
      · rw [hmo l hl] at e; exact .inr (.inl ⟨l, o1, go, hr, e⟩)
      · rw [hmn] at e; exact .inl (by omega)
    · rcases getElem?_snoc ho with ⟨hl, go⟩ | ⟨rfl, rfl⟩
      · exact .inr (.inr ⟨l, v, e, go, ht⟩)
      · cases hm

/-- An object is another one, in the same block. -/
theorem Sim.put {G H w} (h : Sim G H w) {loc : Nat} {o o' : AObj} {w' : World} (ho : H[loc]? = some o) (hm : o.mut = true) (hm' : o'.mut = true) (hs : w'.heap.size = w.heap.size)
    (hb : ∀ b, b ≠ G.mu loc → w'.heap[b]? = w.heap[b]?) (hos : w'.os = w.os) (htp : w'.tape = w.tape) (hou : w'.output = w.output) (hrep : ObjRep G H.length w' loc o') :
    Sim G (H.set loc o') w' ∧ Ext G H w G (H.set loc o') w' := by
  have hle : Le G H.length w G H.length w' := ⟨Nat.le_refl _, fun _ _ => rfl, fun _ _ => Nat.le_refl _, fun _ _ _ => rfl, fun b p hp =>
    ⟨hp, cellAt_of_block (hb b fun e => h.free loc o ho hm p (e ▸ hp)) p⟩⟩
  have hset : ∀ {l o1}, (H.set loc o')[l]? = some o1 → (l = loc ∧ o1 = o') ∨ (l ≠ loc ∧ H[l]? = some o1) := by
    intro l o1 hx
    by_cases e : l = loc
    · subst e
      rw [List.getElem?_set_self (lt_of_get ho)] at hx
      exact .inl ⟨rfl, (Option.some.inj hx).symm⟩
    · rw [List.getElem?_set_ne (Ne.symm e)] at hx; exact .inr ⟨e, hx⟩
  refine ⟨⟨?_, ?_, ?_, ?_, ?_, ?_, ?_, ?_⟩, ⟨by omega, by simpa using hle, fun b _ hno => hb b fun e => hno (.inl ⟨loc, o, ho, hm, e.symm⟩), fun b p q r => absurd q r, ?_, hos, htp, hou⟩⟩
  · intro l o1 hx
    rw [List.length_set]
    rcases hset hx with ⟨rfl, rfl⟩ | ⟨hne, gx⟩
    · exact hrep
    · exact (h.obj l o1 gx).mono hle (lt_of_get gx) (fun hr => hb _ fun e => hne (h.inj _ _ _ _ gx ho hr (AObj.real_of_mut hm) e)) (fun _ _ => rfl)
  · intro l o1 hx hr
    rcases hset hx with ⟨rfl, rfl⟩ | ⟨hne, gx⟩
    · rw [hs]; exact h.lt _ _ ho (AObj.real_of_mut hm)
    · rw [hs]; exact h.lt _ _ gx hr
  · intro l o1 hx hr
    rcases hset hx with ⟨rfl, rfl⟩ | ⟨hne, gx⟩
    · exact h.free _ _ ho hm
    · exact h.free _ _ gx hr
  · intro l1 l2 o1 o2 h1 h2 r1 r2 e
    rcases hset h1 with ⟨rfl, rfl⟩ | ⟨n1, g1⟩ <;> rcases hset h2 with ⟨rfl, rfl⟩ | ⟨n2, g2⟩
    · rfl
    · exact h.inj _ _ _ _ ho g2 (AObj.real_of_mut hm) r2 e
    · exact h.inj _ _ _ _ g1 ho r1 (AObj.real_of_mut hm) e
    · exact h.inj _ _ _ _ g1 g2 r1 r2 e
  · intro l v b e hx ht
    rcases hset hx with ⟨rfl, rfl⟩ | ⟨hne, gx⟩
    · cases hm'
    · obtain ⟨⟨c, hc, hcs⟩, hf⟩ := h.tail l v b e gx ht
      refine ⟨⟨c, hc.congr (hb b fun q => ?_), hcs⟩, hf⟩
      exact h.tobj l v b e loc o gx ht ho (AObj.real_of_mut hm) q.symm
  · intro l v b e l2 o2 hx ht h2 r2
    rcases hset hx with ⟨rfl, rfl⟩ | ⟨hne, gx⟩
    · cases hm'
    · rcases hset h2 with ⟨rfl, rfl⟩ | ⟨n2, g2⟩
      · exact h.tobj l v b e _ o gx ht ho (AObj.real_of_mut hm)
      · exact h.tobj l v b e l2 o2 gx ht g2 r2
  · intro l1 l2 v1 v2 b e1 e2 h1 h2 t1 t2
    rcases hset h1 with ⟨rfl, rfl⟩ | ⟨n1, g1⟩
    · cases hm'
    · rcases hset h2 with ⟨rfl, rfl⟩ | ⟨n2, g2⟩
      · cases hm'
      · exact h.tinj l1 l2 v1 v2 b e1 e2 g1 g2 t1 t2
  · intro b p hp; rw [hs]; exact h.pv b p hp
  · rintro b (⟨l, o1, hx, hr, e⟩ | ⟨l, v, e, hx, ht⟩)
    · rcases hset hx with ⟨rfl, rfl⟩ | ⟨hne, gx⟩
      · exact .inr (.inl ⟨_, o, ho, hm, e⟩)
      · exact .inr (.inl ⟨l, o1, gx, hr, e⟩)
    · rcases hset hx with ⟨rfl, rfl⟩ | ⟨hne, gx⟩
      · cases hm'
      · exact .inr (.inr ⟨l, v, e, gx, ht⟩)

end Av
end
section
set_option linter.unusedSimpArgs false
set_option linter.unusedVariables false
set_option linter.unnecessarySimpa false
namespace Av
open Go

theorem Le.same {G n w w'} (h : w'.heap = w.heap) : Le G n w G n w' :=
  ⟨Nat.le_refl _, fun _ _ => rfl, fun _ _ => Nat.le_refl _, fun _ _ _ => rfl, fun b o hp => ⟨hp, cellAt_of_block (by rw [h]) o⟩⟩

theorem Sim.same {G H w w'} (h : Sim G H w) (e : w'.heap = w.heap) : Sim G H w' where
  obj l o ho := (h.obj l o ho).mono (Le.same e) (lt_of_get ho) (fun _ => by rw [e]) (fun _ _ => rfl)
  lt l o ho hr := by rw [e]; exact h.lt l o ho hr
  free := h.free
  inj := h.inj
  tail l v b e' ho ht := by
    obtain ⟨⟨c, hc, hcs⟩, hf⟩ := h.tail l v b e' ho ht
    exact ⟨⟨c, hc.congr (by rw [e]), hcs⟩, hf⟩
  tobj := h.tobj
  tinj := h.tinj
  pv b o hp := by rw [e]; exact h.pv b o hp

theorem Ext.same {G H w w'} (e : w'.heap = w.heap) (hos : w'.os = w.os) (htp : w'.tape = w.tape) (hou : w'.output = w.output) : Ext G H w G H w' :=
  ⟨by rw [e]; exact Nat.le_refl _, Le.same e, fun _ _ _ => by rw [e], fun _ _ h h' => absurd h h', fun _ h => .inr h, hos, htp, hou⟩

def Gh.note (G : Gh) (loc v : Nat) (t : Option (Nat × (Nat × Nat))) (p : Nat → Nat → Prop) : Gh :=
  { mu := G.mu, ver := fun l => if l = loc then v else G.ver l, tk := fun l => if l = loc then t else G.tk l, prot := fun b o => G.prot b o ∨ p b o }

theorem Gh.note_ver_ne {G : Gh} {loc v t p l} (h : l ≠ loc) : (G.note loc v t p).ver l = G.ver l := by simp [Gh.note, h]
theorem Gh.note_tk_ne {G : Gh} {loc v t p l} (h : l ≠ loc) : (G.note loc v t p).tk l = G.tk l := by simp [Gh.note, h]
theorem Gh.note_ver_eq {G : Gh} {loc v t p} : (G.note loc v t p).ver loc = v := by simp [Gh.note]
theorem Gh.note_tk_eq {G : Gh} {loc v t p} : (G.note loc v t p).tk loc = t := by simp [Gh.note]

/-- A row's token, new or turned: where it may go on (tk), what doesn't change any more besides (p). H' is H with it, at loc. -/
theorem Sim.note {G H w} (h : Sim G H w) {H' : List AObj} {w' : World} {loc v : Nat} {tk : Option (Nat × (Nat × Nat))} {p : Nat → Nat → Prop}
    (hlen : H.length ≤ H'.length) (hat : H'[loc]? = some (.app v)) (hold : ∀ l o, H'[l]? = some o → l ≠ loc → H[l]? = some o)
    (hv : loc < H.length → G.ver loc < v ∨ (G.ver loc = v ∧ tk = G.tk loc)) (hlocH : loc < H.length → ∃ v0, H[loc]? = some (.app v0))
    (hs : w.heap.size ≤ w'.heap.size)
    (hp : ∀ b o, p b o → b < w'.heap.size ∧ (w.heap.size ≤ b ∨ ∃ v0 e, H[loc]? = some (.app v0) ∧ G.tk loc = some (b, e) ∧ e.1 ≤ o))
    (hw : ∀ b, b < w.heap.size → (∀ v0 e, H[loc]? = some (.app v0) → G.tk loc = some (b, e) → False) → w'.heap[b]? = w.heap[b]?)
    (hw2 : ∀ b o, G.prot b o → cellAt w' b o = cellAt w b o)
    (htk : ∀ b e, tk = some (b, e) → (∃ c, block w' b c ∧ e.2 ≤ c.size) ∧ (∀ o, e.1 ≤ o → ¬ G.prot b o ∧ ¬ p b o) ∧ (w.heap.size ≤ b ∨ ∃ v0 e0, H[loc]? = some (.app v0) ∧ G.tk loc = some (b, e0)))
    (hos : w'.os = w.os) (htp : w'.tape = w.tape) (hou : w'.output = w.output) :
    Sim (G.note loc v tk p) H' w' ∧ Ext G H w (G.note loc v tk p) H' w' := by
  have hreal : ∀ l o, H'[l]? = some o → o.real = true → l ≠ loc := by
    intro l o ho hr e
    subst e; rw [hat] at ho; cases ho; cases hr
  have hle : Le G H.length w (G.note loc v tk p) H'.length w' := by
    refine ⟨hlen, fun _ _ => rfl, fun l hl => ?_, fun l hl e => ?_, fun b o hpr => ⟨.inl hpr, hw2 b o hpr⟩⟩
    · by_cases q : l = loc
      · subst q; rw [Gh.note_ver_eq]; rcases hv hl with r | ⟨r, _⟩ <;> omega
      · rw [Gh.note_ver_ne q]; exact Nat.le_refl _
    · by_cases q : l = loc
      · subst q
        rw [Gh.note_ver_eq] at e
        rcases hv hl with r | ⟨_, r⟩
        · omega
        · rw [Gh.note_tk_eq, r]
      · rw [Gh.note_tk_ne q]
  have hblk : ∀ l o, H[l]? = some o → o.real = true → w'.heap[G.mu l]? = w.heap[G.mu l]? := by
    intro l o ho hr
    refine hw _ (h.lt l o ho hr) fun v0 e h0 ht => ?_
    exact h.tobj loc v0 _ e l o h0 ht ho hr rfl
  refine ⟨⟨?_, ?_, ?_, ?_, ?_, ?_, ?_, ?_⟩, ⟨hs, hle, fun b hb hno => hw b hb fun v0 e h0 ht => hno (.inr ⟨loc, v0, e, h0, ht⟩), ?_, ?_, hos, htp, hou⟩⟩
  · intro l o ho
    by_cases q : l = loc
    · subst q; rw [hat] at ho; cases ho; exact Gh.note_ver_eq
    · have ho' := hold l o ho q
      exact (h.obj l o ho').mono hle (lt_of_get ho') (fun hr => hblk l o ho' hr) (fun _ _ => Gh.note_ver_ne q)
  · intro l o ho hr
    exact Nat.lt_of_lt_of_le (h.lt l o (hold l o ho (hreal l o ho hr)) hr) hs
  · intro l o ho hm q hq
    have hne := hreal l o ho (AObj.real_of_mut hm)
    have ho' := hold l o ho hne
    rcases hq with hq | hq
    · exact h.free l o ho' hm q hq
    · obtain ⟨_, hq | ⟨v0, e, h0, ht, _⟩⟩ := hp _ _ hq
      · have := h.lt l o ho' (AObj.real_of_mut hm)
        rw [show (G.note loc v tk p).mu l = G.mu l from rfl] at hq; omega
      · exact h.tobj loc v0 _ e l o h0 ht ho' (AObj.real_of_mut hm) rfl
  · intro l1 l2 o1 o2 h1 h2 r1 r2 e
    exact h.inj l1 l2 o1 o2 (hold _ _ h1 (hreal _ _ h1 r1)) (hold _ _ h2 (hreal _ _ h2 r2)) r1 r2 e
  · intro l v1 b e ho ht
    by_cases q : l = loc
    · subst q
      rw [Gh.note_tk_eq] at ht
      obtain ⟨a1, a2, _⟩ := htk b e ht
      exact ⟨a1, fun o ho' hq => hq.elim (a2 o ho').1 (a2 o ho').2⟩
    · rw [Gh.note_tk_ne q] at ht
      have ho' := hold l _ ho q
      obtain ⟨⟨c, hc, hcs⟩, hf⟩ := h.tail l v1 b e ho' ht
      refine ⟨⟨c, hc.congr (hw b hc.lt fun v0 e0 h0 ht0 => q (h.tinj l loc v1 v0 b e e0 ho' h0 ht ht0)), hcs⟩, fun o heo hq => ?_⟩
      rcases hq with hq | hq
      · exact hf o heo hq
      · obtain ⟨_, hq | ⟨v0, e0, h0, ht0, _⟩⟩ := hp _ _ hq
        · have := hc.lt; omega
        · exact q (h.tinj l loc v1 v0 b e e0 ho' h0 ht ht0)
  · intro l v1 b e l2 o2 ho ht h2 r2
    have h2' := hold _ _ h2 (hreal _ _ h2 r2)
    by_cases q : l = loc
    · subst q
      rw [Gh.note_tk_eq] at ht
      obtain ⟨_, _, a3 | ⟨v0, e0, h0, ht0⟩⟩ := htk b e ht
      · have := h.lt l2 o2 h2' r2
        intro e2; rw [show (G.note l v tk p).mu l2 = G.mu l2 from rfl] at e2; omega
      · exact h.tobj l v0 b e0 l2 o2 h0 ht0 h2' r2
    · rw [Gh.note_tk_ne q] at ht
      exact h.tobj l v1 b e l2 o2 (hold l _ ho q) ht h2' r2
  · intro l1 l2 v1 v2 b e1 e2 h1 h2 t1 t2
    by_cases q1 : l1 = loc <;> by_cases q2 : l2 = loc
    · exact q1.trans q2.symm
    · subst q1
      rw [Gh.note_tk_eq] at t1; rw [Gh.note_tk_ne q2] at t2
      obtain ⟨_, _, a3 | ⟨v0, e0, h0, ht0⟩⟩ := htk b e1 t1
      · obtain ⟨⟨c, hc, hcs⟩, _⟩ := h.tail l2 v2 b e2 (hold _ _ h2 q2) t2
        have := hc.lt; omega
      · exact h.tinj _ _ v0 v2 b e0 e2 h0 (hold _ _ h2 q2) ht0 t2
    · subst q2
      rw [Gh.note_tk_eq] at t2; rw [Gh.note_tk_ne q1] at t1
      obtain ⟨_, _, a3 | ⟨v0, e0, h0, ht0⟩⟩ := htk b e2 t2
      · obtain ⟨⟨c, hc, hcs⟩, _⟩ := h.tail l1 v1 b e1 (hold _ _ h1 q1) t1
        have := hc.lt; omega
      · exact h.tinj _ _ v1 v0 b e1 e0 (hold _ _ h1 q1) h0 t1 ht0
    · rw [Gh.note_tk_ne q1] at t1; rw [Gh.note_tk_ne q2] at t2
      exact h.tinj l1 l2 v1 v2 b e1 e2 (hold _ _ h1 q1) (hold _ _ h2 q2) t1 t2
  · intro b o hq
    rcases hq with hq | hq
    · exact Nat.lt_of_lt_of_le (h.pv b o hq) hs
    · exact (hp b o hq).1
  · intro b o hq hn
    rcases hq with hq | hq
    · exact absurd hq hn
    · obtain ⟨_, hq | ⟨v0, e0, h0, ht0, _⟩⟩ := hp _ _ hq
      · exact .inl hq
      · exact .inr (.inr ⟨loc, v0, e0, h0, ht0⟩)
  · rintro b (⟨l, o1, ho, hm, e⟩ | ⟨l, v1, e, ho, ht⟩)
    · exact .inr (.inl ⟨l, o1, hold _ _ ho (hreal _ _ ho (AObj.real_of_mut hm)), hm, e⟩)
    · by_cases q : l = loc
      · subst q
        rw [Gh.note_tk_eq] at ht
        obtain ⟨_, _, a3 | ⟨v0, e0, h0, ht0⟩⟩ := htk b e ht
        · exact .inl a3
        · exact .inr (.inr ⟨l, v0, e0, h0, ht0⟩)
      · rw [Gh.note_tk_ne q] at ht
        exact .inr (.inr ⟨l, v1, e, hold _ _ ho q, ht⟩)

end Av
end
section
set_option linter.unusedSimpArgs false
set_option linter.unusedVariables false
set_option linter.unnecessarySimpa false
namespace Av
open Go

def isAggD : TypeDesc → Bool
  | .struct _ => true
  | .array _ _ => true
  | _ => false

/-- A zero value's cell. -/
def zOk : Value → AV → Bool
  | .int k n, .int k' m => ikBeq k k' && n == m
  | .bool a, .bool b => a == b
  | .slice none 0 0, .sl _ l .clip => l.isEmpty
  | .slice none 0 0, .nilsl => true
  | .pointer none, .nilp => true
  | .nilFunc, .nilfn => true
  | .float .f64 a, .flt b => a == b
  | .complex .f64 a b, .cpx c d => a == c && b == d
  | _, .junk => true
  | _, _ => false

def zRow : List Value → List AV → Bool
  | [], [] => true
  | x :: xs, y :: ys => zOk x y && zRow xs ys
  | _, _ => false

def isAggV : Value → Bool
  | .agg _ => true
  | _ => false

mutual
/-- A type of numbers and bools alone: such are its cells. -/
def flatT (P : Program) : Nat → List AV → TypeId → Bool
  | 0, _, _ => false
  | d + 1, zs, t => match P.underlying t with
    | some (.int _) => alike zs [.int .i64 0]
    | some .bool => alike zs [.bool false]
    | some (.struct fs) => !P.stoodInHeld t && flatFs P d fs.toList 0 zs
    | _ => false
def flatFs (P : Program) : Nat → List Field → Nat → List AV → Bool
  | _, [], off, zs => Nat.beq off zs.length
  | 0, _ :: _, _, _ => false
  | d + 1, f :: fs, off, zs => Nat.beq f.offset off && !(f.name == "_") && (match P.info? f.type with
    | some inf => (match P.underlying f.type with
      | some d => isAggD d || Nat.beq inf.size 1
      | none => false) && Nat.ble (off + inf.size) zs.length && flatT P d ((zs.drop off).take inf.size) f.type && flatFs P d fs (off + inf.size) zs
    | none => false)
end

structure TIOk (P : Program) (t : TypeId) (i : TI) : Prop where
  info : i.size ≠ 0 → ∃ (inf : TypeInfo) (z : Value), P.info? t = some inf ∧ inf.size = i.size ∧ inf.zero = some z ∧ isAggV z = i.agg ∧ zRow z.cells.toList i.zero = true ∧ z.cells.size = i.size
  desc : i.size ≠ 0 → ∃ d, P.underlying t = some d ∧ isAggD d = i.agg
  fields : i.fields ≠ [] → i.agg = true ∧ i.size ≠ 0 ∧ ∃ fs : Array Field, P.underlying t = some (.struct fs) ∧ fs.size = i.fields.length ∧ ∀ (k : Nat) (f : Field), fs[k]? = some f →
    ∃ inf : TypeInfo, P.info? f.type = some inf ∧ i.fields[k]? = some (f.offset, inf.size) ∧ i.ftys[k]? = some f.type ∧ inf.size ≠ 0
  sl : i.sl = true → P.underlying t = some (.slice i.elem)
  ety : ∀ u, i.ety = some u → i.sl = true ∧ ∃ (inf : TypeInfo) (z : Value), P.info? i.elem = some inf ∧ inf.size = esz u ∧ inf.bytes = ebytes u ∧ inf.zero = some z ∧ z.cells.size = esz u
  arr : i.len ≠ 0 → P.underlying t = some (.array i.len i.elem) ∧ ∃ inf : TypeInfo, P.info? i.elem = some inf
  ik : ∀ k, i.ik = some k → P.underlying t = some (.int k)
  mkd : ∀ k, i.mkd = some k → ∃ key, P.underlying t = some (.map key i.elem) ∧ P.underlying key = some (.int k)
  flt : i.flt = true → P.underlying t = some (.float .f64)
  bl : i.bl = true → P.underlying t = some .bool
  flat : i.flat = true → flatT P 30 i.zero t = true ∧ P.eqGuardType P.depth t = false

structure TabOk (C : Ctx) : Prop where
  ok : ∀ t, TIOk C.P t (C.tb t)
  agg0 : ∀ t, (C.tb t).size = 0 → (C.tb t).agg = false
  zero0 : ∀ t, (C.tb t).size = 0 → (C.tb t).zero = []

theorem ikBeq_eq {a b : IntKind} (h : ikBeq a b = true) : a = b := by cases a <;> cases b <;> first | rfl | cases h

theorem ETy.is_eq {a b : ETy} (h : a.is b = true) : a = b := by
  induction a generalizing b with
  | rows a ih => cases b <;> first | cases h | (simp only [ETy.is] at h; rw [ih h])
  | _ => cases b <;> first | rfl | cases h

theorem ETy.is_refl (a : ETy) : a.is a = true := by
  induction a with
  | rows a ih => exact ih
  | _ => rfl

theorem zOk_rep {G n w v a} (h : zOk v a = true) : Rep G n w v a := by
  unfold zOk at h
  split at h
  · simp only [Bool.and_eq_true, beq_iff_eq] at h
    obtain ⟨h1, rfl⟩ := h
    rw [ikBeq_eq h1]; exact .int _ _
  · simp only [beq_iff_eq] at h; subst h; exact .bool _
  · rename_i t l
    cases l with
    | nil => exact .slnil _ _ _ trivial
    | cons x xs => cases h
  · exact .nilsl
  · exact .nilp
  · exact .nilfn
  · simp only [beq_iff_eq] at h; subst h; exact .flt _
  · simp only [Bool.and_eq_true, beq_iff_eq] at h; obtain ⟨rfl, rfl⟩ := h; exact .cpx _ _
  · exact .junk _
  · cases h

theorem zRow_reps {G n w} : ∀ {xs : List Value} {as : List AV}, zRow xs as = true → xs.length = as.length ∧ ∀ k, k < as.length → Rep G n w (xs.getD k undef) (as.getD k .junk)
  | [], [], _ => ⟨rfl, fun k hk => absurd hk (by simp)⟩
  | x :: xs, y :: ys, h => by
    simp only [zRow, Bool.and_eq_true] at h
    obtain ⟨h1, h2⟩ := zRow_reps (G := G) (n := n) (w := w) h.2
    refine ⟨by simp [h1], fun k hk => ?_⟩
    cases k with
    | zero => exact zOk_rep h.1
    | succ k => simpa using h2 k (by simpa using hk)

end Av
end
