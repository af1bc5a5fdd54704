/- The abstract machine: how operations run (9): append, copy. Own work. -/
import Derived.Test.YtikjkclmninbmaaK08
import Derived.Laws.AppendOwn
set_option linter.unusedSimpArgs false
set_option linter.unusedVariables false
set_option linter.unnecessarySimpa false
namespace Av
open Go

theorem hsetK_iff' {xs : List AObj} {n : Nat} {v : AObj} {k : List AObj → Prop} (h : hsetK xs n v k) : n < xs.length ∧ k (xs.set n v) := hsetK_iff.1 h

theorem Src.first {G n w x} {u : ETy} {l : List u.C} (h : Src G n w x u l) : ∃ (b : Option Addr) (cap : Nat) (c : Array Value), x = .slice b l.length cap ∧ c.size = l.length * esz u ∧ RowRep G n w c u l ∧ ∀ (P : Program) (w' : World), w'.heap = w.heap → (Builtin.firstCells (esz u) l.length x).run P w' = .ok c w' := by
  obtain ⟨b, cap, c, h1, h2, h3, h4⟩ := h
  refine ⟨b, cap, c, h1, h2, h3, fun P w' hw => ?_⟩
  rw [h4 P _ w' (Nat.le_refl _) hw, ← h2]
  simp

theorem run_lenOf {P : Program} {w : World} {b : Option Addr} {n cap : Nat} : (Builtin.lenOf (.slice b n cap)).run P w = .ok n w := by simp [Builtin.lenOf]

section
variable {P : Program} {w : World} {t t2 ty e e2 : TypeId} {i : TypeInfo} {z : Value} (ht : P.underlying t = some (.slice e)) (ht2 : P.underlying t2 = some (.slice e2)) (hi : P.info? e = some i) (hz : i.zero = some z)
include ht ht2 hi

theorem run_app_stay {sLen sCap m c : Nat} {b bx : Option Addr} {news : Array Value} (hf : (Builtin.firstCells i.size m (.slice bx m c)).run P w = .ok news w) (hroom : sLen + m ≤ sCap) (hn : news = #[]) :
    (Builtin.append_ #[t, t2] ty #[.slice b sLen sCap, .slice bx m c]).run P w = .ok (.slice b (sLen + m) sCap) w := by
  subst hn
  cases b with
  | none => simp [Builtin.append_, run_underlying ht, run_underlying ht2, Go.sizeOf, typeInfo, hi, Builtin.lenOf, hroom, hf]
  | some a => simp [Builtin.append_, run_underlying ht, run_underlying ht2, Go.sizeOf, typeInfo, hi, Builtin.lenOf, hroom, hf, storeCells]

theorem run_app_room {sLen sCap m c g o : Nat} {bx : Option Addr} {news cur : Array Value} {el : TypeId} (hf : (Builtin.firstCells i.size m (.slice bx m c)).run P w = .ok news w) (hroom : sLen + m ≤ sCap)
    (hg : w.heap[g]? = some (.cells cur el (0, 0))) (hfit : o + sLen * i.size + news.size ≤ cur.size) (h1 : ∀ u ∈ news.toList, u.oneCell' = true) :
    (Builtin.append_ #[t, t2] ty #[.slice (some ⟨g, o, none⟩) sLen sCap, .slice bx m c]).run P w = .ok (.slice (some ⟨g, o, none⟩) (sLen + m) sCap)
      (w.setRow g (cur.toList.take (o + sLen * i.size) ++ news.toList ++ cur.toList.drop (o + sLen * i.size + news.size)).toArray) := by
  have hst := run_storeCells_at P g (o + sLen * i.size) el news.toList 0 cur w hg (by simpa using hfit) h1
  simp only [Nat.add_zero, Array.length_toList] at hst
  simp [Builtin.append_, run_underlying ht, run_underlying ht2, Go.sizeOf, typeInfo, hi, Builtin.lenOf, hroom, hf, add_block, hst]

include hz
theorem run_app_grow {sLen sCap m c : Nat} {b bx : Option Addr} {olds news : Array Value} (ho : (Builtin.firstCells i.size sLen (.slice b sLen sCap)).run P w.drew = .ok olds w.drew)
    (hf : (Builtin.firstCells i.size m (.slice bx m c)).run P w.drew = .ok news w.drew) (hg : sCap < sLen + m) (h63 : ((sLen + m : Nat) : Int) ≤ 9223372036854775807)
    (hfit : Builtin.nextslicecap (sLen + m) sCap * i.bytes ≤ 281474976710656) :
    (Builtin.append_ #[t, t2] ty #[.slice b sLen sCap, .slice bx m c]).run P w = .ok (.slice (some ⟨w.heap.size, 0, none⟩) (sLen + m) (grownCap w (sLen + m) sCap e))
        (w.drew.alloc (.cells (olds ++ news ++ Builtin.zeroCells z.cells (grownCap w (sLen + m) sCap e - (sLen + m))) e)) := by
  have hn : ¬ (sLen + m ≤ sCap) := by omega
  have h63' : ¬ (9223372036854775807 < ((sLen : Int) + (m : Int))) := by omega
  have h48' : ¬ (281474976710656 < Builtin.nextslicecap (sLen + m) sCap * i.bytes) := by omega
  simp [Builtin.append_, run_underlying ht, run_underlying ht2, Go.sizeOf, typeInfo, zeroValue, hi, hz, Builtin.lenOf, hn, h63', h48', Question.forced, hf, ho, newRow, grownCap]
end

theorem hget_set_old {H : List AObj} {loc l : Nat} {o' o : AObj} (h : (H.set loc o')[l]? = some o) (hne : l ≠ loc) : H[l]? = some o := by
  rwa [List.getElem?_set_ne (Ne.symm hne)] at h

/-- A token turned, nothing written. -/
theorem Sim.turn {G H w} (h : Sim G H w) {loc v : Nat} (ho : H[loc]? = some (.app v)) :
    ∃ G', Sim G' (H.set loc (.app (v + 1))) w ∧ Ext G H w G' (H.set loc (.app (v + 1))) w ∧ G'.ver loc = v + 1 ∧ G'.tk loc = G.tk loc := by
  have hv : G.ver loc = v := h.obj loc _ ho
  obtain ⟨h1, h2⟩ := h.note (H' := H.set loc (.app (v + 1))) (w' := w) (loc := loc) (v := v + 1) (tk := G.tk loc) (p := fun _ _ => False) (by simp) (by simp [lt_of_get ho])
    (fun l o hx hne => hget_set_old hx hne) (fun hl => .inl (by omega)) (fun hl => ⟨v, ho⟩) (Nat.le_refl _) (fun _ _ hf => hf.elim) (fun _ _ _ => rfl) (fun _ _ _ => rfl)
    (fun b e he => by
      obtain ⟨h1, h2⟩ := h.tail loc v b e ho he
      exact ⟨h1, fun o hoo => ⟨h2 o hoo, fun hf => hf⟩, .inr ⟨v, e, ho, he⟩⟩) rfl rfl rfl
  exact ⟨_, h1, h2, Gh.note_ver_eq, Gh.note_tk_eq⟩

theorem RowRep.mono' {G n w G' n' w' c u l} (h : Le G n w G' n' w') (hr : RowRep G n w c u l) : RowRep G' n' w' c u l := hr.mono h

/-- A row gone on with in a new block. -/
theorem Sim.regrow {G H w} (h : Sim G H w) {u : ETy} {l : List u.C} {c : Array Value} {el : TypeId} {cap loc v : Nat} (ho : H[loc]? = some (.app v)) (hr : RowRep G H.length w c u l) (hcap : l.length ≤ cap) (hcs : cap * esz u ≤ c.size) :
    ∃ G', Sim G' (H.set loc (.app (v + 1))) (w.alloc (.cells c el)) ∧ Ext G H w G' (H.set loc (.app (v + 1))) (w.alloc (.cells c el)) ∧
      Rep G' H.length (w.alloc (.cells c el)) (.slice (some ⟨w.heap.size, 0, none⟩) l.length cap) (.sl u l (.own loc (v + 1))) := by
  have hv : G.ver loc = v := h.obj loc _ ho
  obtain ⟨h1, h2⟩ := h.note (H' := H.set loc (.app (v + 1))) (w' := w.alloc (.cells c el)) (loc := loc) (v := v + 1) (tk := some (w.heap.size, l.length * esz u, cap * esz u)) (p := fun b o => b = w.heap.size ∧ o < l.length * esz u)
    (by simp) (by simp [lt_of_get ho]) (fun l o hx hne => hget_set_old hx hne) (fun hl => .inl (by omega)) (fun hl => ⟨v, ho⟩) (by simp)
    (fun b o hb => ⟨by simp; omega, .inl (by omega)⟩) (fun b hb _ => heap_alloc_old w _ hb) (fun b o hp => cellAt_of_block (heap_alloc_old w _ (h.pv b o hp)) o)
    (fun b e he => by
      obtain ⟨rfl, rfl⟩ := Prod.mk.inj (Option.some.inj he)
      exact ⟨⟨c, ⟨el, heap_alloc_new w _⟩, hcs⟩, fun o ho => ⟨fun hp => absurd (h.pv _ _ hp) (Nat.lt_irrefl _), fun hp => by omega⟩, .inl (Nat.le_refl _)⟩) rfl rfl rfl
  refine ⟨_, h1, h2, ?_⟩
  have hle := h2.le
  rw [List.length_set] at hle
  have hb : block (w.alloc (.cells c el)) w.heap.size c := ⟨el, heap_alloc_new w _⟩
  refine .sl u l _ w.heap.size 0 cap (fun i j => c.getD (i * esz u + j) undef) hcap (fun i j hi hj => ?_) (fun i j hi hj => (hr.2 i j hi hj).mono hle) ?_
  · have := row_lt (u := u) hi hj
    refine ⟨.inr ⟨rfl, by omega⟩, ?_⟩
    rw [cellAt_block hb, Nat.zero_add]
    have h3 : i * esz u + j < c.size := by have := hr.1; omega
    simp [h3]
  · exact ⟨lt_of_get ho, by rw [Gh.note_ver_eq]; exact Nat.le_refl _, fun _ => .inr (by rw [Gh.note_tk_eq, Nat.zero_add, Nat.zero_add])⟩

/-- A row gone on with in its own block. -/
theorem Sim.goOn {G H w} (h : Sim G H w) {u : ETy} {l l' : List u.C} {b o cap loc v : Nat} {cur news : Array Value} {el : TypeId} {vs : Nat → Nat → Value} (ho : H[loc]? = some (.app v))
    (htk : G.tk loc = some (b, (o + l.length * esz u, o + cap * esz u))) (hb : w.heap[b]? = some (.cells cur el (0, 0)))
    (hc : ∀ i j, i < l.length → j < esz u → G.prot b (o + i * esz u + j) ∧ cellAt w b (o + i * esz u + j) = some (vs i j))
    (hr : ∀ i j (h : i < l.length), j < esz u → Rep G H.length w (vs i j) ((enc u l[i]).getD j .junk))
    (hnew : RowRep G H.length w news u l') (hns : news.size = l'.length * esz u) (hcap : l.length + l'.length ≤ cap) (hfit : o + cap * esz u ≤ cur.size) :
    ∃ G', Sim G' (H.set loc (.app (v + 1))) (w.setRow b (cur.toList.take (o + l.length * esz u) ++ news.toList ++ cur.toList.drop (o + l.length * esz u + news.size)).toArray) ∧
      Ext G H w G' (H.set loc (.app (v + 1))) (w.setRow b (cur.toList.take (o + l.length * esz u) ++ news.toList ++ cur.toList.drop (o + l.length * esz u + news.size)).toArray) ∧
      Rep G' H.length (w.setRow b (cur.toList.take (o + l.length * esz u) ++ news.toList ++ cur.toList.drop (o + l.length * esz u + news.size)).toArray) (.slice (some ⟨b, o, none⟩) (l.length + l'.length) cap) (.sl u (l ++ l') (.own loc (v + 1))) := by
  have hv : G.ver loc = v := h.obj loc _ ho
  obtain ⟨_, hfree⟩ := h.tail loc v b _ ho htk
  have hmul : (l.length + l'.length) * esz u ≤ cap * esz u := Nat.mul_le_mul_right _ hcap
  have hmul2 : (l.length + l'.length) * esz u = l.length * esz u + l'.length * esz u := Nat.add_mul _ _ _
  have hfit' : o + l.length * esz u + news.toList.length ≤ cur.toList.length := by simp; omega
  generalize hcn : (cur.toList.take (o + l.length * esz u) ++ news.toList ++ cur.toList.drop (o + l.length * esz u + news.size)).toArray = cn
  have hcns : cn.size = cur.size := by rw [← hcn, List.size_toArray]; have := patch_len hfit'; simpa using this
  have hblk : block (w.setRow b cn) b cn := by
    refine ⟨el, ?_⟩
    exact setRow_heap w b cur cn el (0, 0) hb
  have hgd : ∀ k, cn.getD k undef = if k < o + l.length * esz u then cur.getD k undef else if k < o + l.length * esz u + news.size then news.getD (k - (o + l.length * esz u)) undef else cur.getD k undef := fun k => by
    have := getD_patch (c := cur.toList) (xs := news.toList) (o := o + l.length * esz u) (k := k) (d := undef) hfit'
    rw [← hcn]
    simpa [List.getD_eq_getElem?_getD] using this
  have hcell : ∀ k, k < cur.size → cellAt (w.setRow b cn) b k = some (cn.getD k undef) := fun k hk => by
    rw [cellAt_block hblk]; simp [hcns, hk]
  have hold : ∀ k, k < cur.size → cellAt w b k = some (cur.getD k undef) := fun k hk => by
    rw [cellAt_block ⟨el, hb⟩]; simp [hk]
  have hkeep : ∀ b' k, G.prot b' k → cellAt (w.setRow b cn) b' k = cellAt w b' k := by
    intro b' k hp
    by_cases e : b' = b
    · subst e
      have hlt : k < o + l.length * esz u := by
        rcases Nat.lt_or_ge k (o + l.length * esz u) with q | q
        · exact q
        · exact absurd hp (hfree k q)
      rw [hcell k (by omega), hold k (by omega), hgd k, if_pos hlt]
    · exact cellAt_of_block (setRow_other w _ _ cn e) k
  obtain ⟨h1, h2⟩ := h.note (H' := H.set loc (.app (v + 1))) (w' := w.setRow b cn) (loc := loc) (v := v + 1) (tk := some (b, o + (l.length + l'.length) * esz u, o + cap * esz u))
    (p := fun b' k => b' = b ∧ o + l.length * esz u ≤ k ∧ k < o + (l.length + l'.length) * esz u)
    (by simp) (by simp [lt_of_get ho]) (fun l o hx hne => hget_set_old hx hne) (fun hl => .inl (by omega)) (fun hl => ⟨v, ho⟩) (by rw [setRow_size]; exact Nat.le_refl _)
    (fun b' k hb' => by
      obtain ⟨rfl, h1, h2⟩ := hb'
      exact ⟨by rw [setRow_size]; exact (Array.getElem?_eq_some_iff.1 hb).1, .inr ⟨v, _, ho, htk, h1⟩⟩)
    (fun b' hb' hne => setRow_other w _ _ cn (fun e => hne v (o + l.length * esz u, o + cap * esz u) ho (by subst e; exact htk))) hkeep
    (fun b' e he => by
      obtain ⟨rfl, rfl⟩ := Prod.mk.inj (Option.some.inj he)
      exact ⟨⟨cn, hblk, by rw [hcns]; exact hfit⟩, fun k hk => ⟨hfree k (by simp only at hk ⊢; omega), fun hp => by simp only at hk; omega⟩, .inr ⟨v, _, ho, htk⟩⟩) rfl rfl rfl
  refine ⟨_, h1, h2, ?_⟩
  have hle := h2.le
  rw [List.length_set] at hle
  have := Rep.sl (G := G.note loc (v + 1) (some (b, o + (l.length + l'.length) * esz u, o + cap * esz u)) fun b' k => b' = b ∧ o + l.length * esz u ≤ k ∧ k < o + (l.length + l'.length) * esz u) (n := H.length) (w := w.setRow b cn)
    u (l ++ l') (.own loc (v + 1)) b o cap (fun i j => cn.getD (o + i * esz u + j) undef) (by simpa using hcap) (fun i j hi hj => ?_) (fun i j hi hj => ?_) ?_
  · rw [List.length_append] at this; exact this
  · rw [List.length_append] at hi
    have hlt := row_lt (u := u) hi hj
    refine ⟨?_, hcell _ (by omega)⟩
    by_cases q : i < l.length
    · exact .inl (hc i j q hj).1
    · right
      have : l.length * esz u ≤ i * esz u := Nat.mul_le_mul_right _ (by omega)
      exact ⟨rfl, by omega, by omega⟩
  · rw [List.length_append] at hi
    have hlt := row_lt (u := u) hi hj
    show Rep _ _ _ (cn.getD (o + i * esz u + j) undef) _
    rw [hgd]
    by_cases q : i < l.length
    · have hlt' := row_lt (u := u) q hj
      rw [if_pos (by omega)]
      have e1 := (hc i j q hj).2
      rw [hold _ (by omega)] at e1
      rw [Option.some.inj e1]
      have e2 : (l ++ l')[i] = l[i] := List.getElem_append_left q
      rw [e2]
      exact (hr i j q hj).mono hle
    · have hi' : i - l.length < l'.length := by omega
      have hlt' := row_lt (u := u) hi' hj
      have hsplit : i * esz u = l.length * esz u + (i - l.length) * esz u := by rw [← Nat.add_mul]; congr 1; omega
      rw [if_neg (by omega), if_pos (by omega)]
      have e2 : (l ++ l')[i] = l'[i - l.length] := List.getElem_append_right (by omega)
      rw [e2, show o + i * esz u + j - (o + l.length * esz u) = (i - l.length) * esz u + j from by omega]
      exact (hnew.2 _ j hi' hj).mono hle
  · refine ⟨lt_of_get ho, by rw [Gh.note_ver_eq]; exact Nat.le_refl _, fun _ => .inr ?_⟩
    rw [Gh.note_tk_eq, List.length_append]

theorem bytes_fit {u : ETy} {n : Nat} (h : n * ebytes u ≤ 2 ^ 47) : ((n : Nat) : Int) ≤ 9223372036854775807 := by
  have := ebytes_pos u
  have : n * 1 ≤ n * ebytes u := Nat.mul_le_mul_left _ this
  omega

theorem sl_inv {G n w s} {u : ETy} {l : List u.C} {tok : Tok} (h : Rep G n w s (.sl u l tok)) : (l = [] ∧ (∃ a, s = .slice a 0 0) ∧ TokNil G n tok) ∨
    ∃ (b o cap : Nat) (vs : Nat → Nat → Value), s = .slice (some ⟨b, o, none⟩) l.length cap ∧ l.length ≤ cap ∧ (∀ i j, i < l.length → j < esz u → G.prot b (o + i * esz u + j) ∧ cellAt w b (o + i * esz u + j) = some (vs i j)) ∧
      (∀ i j (h : i < l.length), j < esz u → Rep G n w (vs i j) ((enc u l[i]).getD j .junk)) ∧ TokOk G n tok l.length cap b (o + l.length * esz u, o + cap * esz u) := by
  cases h with
  | slnil _ _ _ h => exact .inl ⟨rfl, ⟨_, rfl⟩, h⟩
  | sl _ _ _ b o cap vs h1 h2 h3 h4 => exact .inr ⟨b, o, cap, vs, rfl, h1, h2, h3, h4⟩

theorem append_out {C : Ctx} (hT : TabOk C) {G : Gh} {H : List AObj} {w : World} (hs : Sim G H w) {t t2 ty : TypeId} {draw located own : Bool} {s x : Value} {a b : AV} (ha : Rep G H.length w s a) (hb : Rep G H.length w x b)
    {k : AV → List AObj → Prop} (h : appendK C draw located own t t2 a b H k) :
    ∃ y w' v H' G', (Builtin.append_ #[t, t2] ty #[s, x]).run C.P w = .ok y w' ∧ k v H' ∧ Sim G' H' w' ∧ Rep G' H'.length w' y v ∧ Ext G H w G' H' w' := by
  unfold appendK at h
  obtain ⟨hsl2, h⟩ := guardK_iff.1 h
  have h := typedK_iff.1 h
  have ha := ha.typed C t
  split at h
  case h_2 => exact h.elim
  rename_i u l tok heq
  rw [heq] at ha
  obtain ⟨hety, h⟩ := guardK_iff.1 h
  have hety : (C.tb t).ety = some u := by
    unfold etyIs at hety
    split at hety
    · rename_i u' hu'; rw [hu', ETy.is_eq hety]
    · cases hety
  obtain ⟨hsl, i, z, hi, hsz, hby, hz, hzs⟩ := (hT.ok t).ety u hety
  have ht := (hT.ok t).sl hsl
  have ht2 := (hT.ok t2).sl hsl2
  obtain ⟨l', ⟨hbytes, h⟩, hsrc⟩ := srcK_out hs hb h
  obtain ⟨bx, cx, news, rfl, hns, hnr, hnf⟩ := hsrc.first
  have hnf' : ∀ w', w'.heap = w.heap → (Builtin.firstCells i.size l'.length (.slice bx l'.length cx)).run C.P w' = .ok news w' := fun w' hw => by rw [hsz]; exact hnf C.P w' hw
  -- the row itself
  obtain ⟨bs, cs, olds, rfl, hos, hor, hof⟩ := (src_sl ha).first
  have hof' : ∀ w', w'.heap = w.heap → (Builtin.firstCells i.size l.length (.slice bs l.length cs)).run C.P w' = .ok olds w' := fun w' hw => by rw [hsz]; exact hof C.P w' hw
  have hnone : news.toList.all (·.oneCell') = true := by
    rw [List.all_eq_true]; exact row_one hnr hns
  have hlen : (l ++ l').length = l.length + l'.length := List.length_append
  by_cases hroom : l.length + l'.length ≤ cs
  · -- in place
    have same : l' = [] → news = #[] := fun e => by
      subst e
      apply Array.eq_empty_of_size_eq_zero
      simpa using hns
    have stay : l' = [] → (Builtin.append_ #[t, t2] ty #[.slice bs l.length cs, .slice bx l'.length cx]).run C.P w = .ok (.slice bs (l.length + l'.length) cs) w := fun e =>
      run_app_stay ht ht2 hi (hnf' w rfl) hroom (same e)
    cases tok with
    | none => exact h.elim
    | clip =>
      have hcs : cs = l.length := by
        rcases sl_inv ha with ⟨rfl, ⟨_, e⟩, _⟩ | ⟨b, o, cap, vs, e, g1, g2, g3, g4⟩
        · cases e; rfl
        · cases e; exact g4
      have hl' : l' = [] := by cases l' with
        | nil => rfl
        | cons y ys => simp at hroom; omega
      subst hl'
      cases located with
      | true =>
        simp only at h
        split at h
        · cases draw with
          | true => exact h.elim
          | false => ?_
          have h := pushK_iff.1 h
          obtain ⟨h3, h4⟩ := hs.push0 (.arr u [] false) rfl (fun v e => by cases e) (fun e => absurd rfl e)
          exact ⟨_, _, _, _, G, stay rfl, h, h3, .osl0 _ _ _ _ _ (by simp) (by
            rcases sl_inv ha with ⟨_, ⟨_, e⟩, _⟩ | ⟨b, o, cap, vs, e, _⟩
            · cases e; exact .inl rfl
            · cases e; exact .inr ⟨_, _, rfl⟩), h4⟩
        · exact h.elim
      | false =>
        cases draw with
        | true =>
          refine ⟨_, _, _, _, G, stay rfl, h, hs, ?_, Ext.refl _ _ _⟩
          rw [List.append_nil]
          rcases sl_inv ha with ⟨rfl, ⟨_, e⟩, _⟩ | ⟨b, o, cap, vs, e, g1, g2, g3, g4⟩
          · cases e; exact .slnil _ _ _ trivial
          · cases e; exact .sl _ _ _ b o _ vs g1 g2 g3 trivial
        | false => ?_
        have h := pushK_iff.1 h
        obtain ⟨G', h1, h2, h3⟩ := hs.pushTok
        refine ⟨_, _, _, _, G', stay rfl, h, h1, ?_, h2⟩
        rw [List.append_nil]
        have ha' := ha.mono h2.le
        rcases sl_inv ha' with ⟨rfl, ⟨_, e⟩, _⟩ | ⟨b, o, cap, vs, e, g1, g2, g3, g4⟩
        · cases e; exact .slnil _ _ _ (by simpa using h3)
        · cases e; exact .sl _ _ _ b o _ vs g1 g2 g3 ⟨by simp, by simpa using h3.2, fun _ => .inl g4⟩
    | own loc ver =>
      obtain ⟨hloc, h⟩ := guardK_iff.1 h
      obtain ⟨_, h⟩ := guardK_iff.1 h
      obtain ⟨o, ho, h⟩ := hgetK_iff.1 h
      cases o with
      | app v =>
        obtain ⟨rfl, h⟩ := h
        obtain ⟨_, h⟩ := hsetK_iff.1 h
        have hv : G.ver loc = v := hs.obj loc _ ho
        cases hl' : l' with
        | nil =>
          rw [hl'] at h stay
          obtain ⟨G', h1, h2, h3, h4⟩ := hs.turn ho
          refine ⟨_, _, _, _, G', stay rfl, h, h1, ?_, h2⟩
          rw [List.append_nil]
          have ha' := ha.mono h2.le
          rcases sl_inv ha' with ⟨rfl, ⟨_, e⟩, _⟩ | ⟨b, o, cap, vs, e, g1, g2, g3, g4⟩
          · cases e; exact .slnil _ _ _ ⟨by simpa using lt_of_get ho, by omega⟩
          · cases e
            refine .sl _ _ _ b o _ vs g1 g2 g3 ⟨by simpa using lt_of_get ho, by omega, fun _ => ?_⟩
            rcases sl_inv ha with ⟨rfl, ⟨_, e⟩, _⟩ | ⟨b', o', cap', vs', e, q1, q2, q3, q4⟩
            · cases e; exact .inl rfl
            · cases e
              rcases q4.2.2 hv.symm with r | r
              · exact .inl r
              · exact .inr (h4.trans r)
        | cons y ys =>
          rw [← hl']
          have hpos : 0 < l'.length := by rw [hl']; simp
          rcases sl_inv ha with ⟨rfl, ⟨_, e⟩, _⟩ | ⟨b, o, cap, vs, e, q1, q2, q3, q4⟩
          · cases e; simp at hroom; simp [hroom] at hpos
          · cases e
            rcases q4.2.2 hv.symm with r | r
            · omega
            · obtain ⟨⟨cur, ⟨el, hblk⟩, hfit⟩, _⟩ := hs.tail loc v b _ ho r
              obtain ⟨G', h1, h2, h3⟩ := hs.goOn (l' := l') ho r hblk q2 q3 hnr hns hroom hfit
              have hmul : (l.length + l'.length) * esz u ≤ cs * esz u := Nat.mul_le_mul_right _ hroom
              have hmul2 : (l.length + l'.length) * esz u = l.length * esz u + l'.length * esz u := Nat.add_mul _ _ _
              have hrun := run_app_room (ty := ty) ht ht2 hi (sLen := l.length) (sCap := cs) (o := o) (hnf' w rfl) hroom hblk (by rw [hsz, hns]; simp only at hfit; omega) (List.all_eq_true.1 hnone)
              rw [hsz] at hrun
              refine ⟨_, _, _, _, G', hrun, h, h1, by simpa using h3, h2⟩
      | _ => exact h.elim
  · -- grown
    have hg : cs < l.length + l'.length := by omega
    have hfit48 : Builtin.nextslicecap (l.length + l'.length) cs * i.bytes ≤ 281474976710656 := by
      have h1 : Builtin.nextslicecap (l.length + l'.length) cs * i.bytes ≤ 2 * (l.length + l'.length) * i.bytes := Nat.mul_le_mul_right _ (Av.nextslicecap_le hg)
      rw [Nat.mul_assoc, hby] at h1
      rw [hby]
      omega
    have hrun := run_app_grow (w := w) (ty := ty) ht ht2 hi hz (sLen := l.length) (sCap := cs) (hof' w.drew rfl) (hnf' w.drew rfl) hg (bytes_fit hbytes) hfit48
    have hs1 : Sim G H w.drew := hs.same rfl
    have he1 : Ext G H w G H w.drew := Ext.same rfl rfl rfl rfl
    have hge := grownCap_ge w (l.length + l'.length) cs (C.tb t).elem
    generalize hcap : grownCap w (l.length + l'.length) cs (C.tb t).elem = cap at hrun hge
    have hrow : RowRep G H.length w.drew (olds ++ news ++ Builtin.zeroCells z.cells (cap - (l.length + l'.length))) u (l ++ l') := (hor.mono (w := w) (w' := w.drew) (Le.same (w := w) rfl)).app hos (hnr.mono (w := w) (w' := w.drew) (Le.same (w := w) rfl)) hns
    have hcs : cap * esz u ≤ (olds ++ news ++ Builtin.zeroCells z.cells (cap - (l.length + l'.length))).size := by
      rw [Array.size_append, Array.size_append, size_zeroCells, hos, hns, hzs, ← Nat.add_mul, ← Nat.add_mul]
      refine Nat.mul_le_mul_right _ (by omega)
    generalize hc : olds ++ news ++ Builtin.zeroCells z.cells (cap - (l.length + l'.length)) = c at hrun hrow hcs
    cases tok with
    | none => exact h.elim
    | clip =>
      have fin : ∀ {ll : List u.C} {located : Bool}, ll = l ++ l' → newRowK draw located u ll H k → ∃ y w' v H' G', (Builtin.append_ #[t, t2] ty #[.slice bs l.length cs, .slice bx l'.length cx]).run C.P w = .ok y w' ∧ k v H' ∧ Sim G' H' w' ∧ Rep G' H'.length w' y v ∧ Ext G H w G' H' w' := by
        intro ll located e hk
        subst e
        obtain ⟨v, H', G', h1, h2, h3, h4⟩ := newRow_out hs1 (el := (C.tb t).elem) (cap := cap) hrow (by rw [hlen]; exact hge) hcs hk
        rw [hlen] at h3
        exact ⟨_, _, v, H', G', hrun, h1, h2, h3, he1.trans h4⟩
      cases located with
      | true =>
        simp only at h
        split at h
        · exact fin rfl h
        · exact h.elim
      | false => exact fin rfl h
    | own loc ver =>
      obtain ⟨hloc, h⟩ := guardK_iff.1 h
      obtain ⟨_, h⟩ := guardK_iff.1 h
      obtain ⟨o, ho, h⟩ := hgetK_iff.1 h
      cases o with
      | app v =>
        obtain ⟨rfl, h⟩ := h
        obtain ⟨_, h⟩ := hsetK_iff.1 h
        obtain ⟨G', h1, h2, h3⟩ := hs1.regrow (el := (C.tb t).elem) (cap := cap) ho hrow (by rw [hlen]; exact hge) hcs
        rw [hlen] at h3
        exact ⟨_, _, _, _, G', hrun, h, h1, by simpa using h3, he1.trans h2⟩
      | _ => exact h.elim

theorem copy_row {u : ETy} {l l' : List u.C} {lo len q : Nat} (hb : lo + len ≤ l.length) (hq : q < (l.take lo ++ l'.take len ++ l.drop (lo + min l'.length len)).length) :
    (l.take lo ++ l'.take len ++ l.drop (lo + min l'.length len)).length = l.length ∧
    (if h : q < lo then ∃ hx, (l.take lo ++ l'.take len ++ l.drop (lo + min l'.length len))[q] = l[q]'hx else if h2 : q < lo + min l'.length len then ∃ hx, (l.take lo ++ l'.take len ++ l.drop (lo + min l'.length len))[q] = l'[q - lo]'hx
      else ∃ hx, (l.take lo ++ l'.take len ++ l.drop (lo + min l'.length len))[q] = l[q]'hx) := by
  have hm : (l'.take len).length = min l'.length len := by simp [Nat.min_comm]
  have hlen : (l.take lo ++ l'.take len ++ l.drop (lo + min l'.length len)).length = l.length := by
    have := patch_len (c := l) (xs := l'.take len) (o := lo) (by rw [hm]; omega)
    rwa [hm] at this
  refine ⟨hlen, ?_⟩
  have hq' : q < l.length := by omega
  split
  · rename_i h
    refine ⟨by omega, ?_⟩
    rw [List.getElem_append_left (by simp; omega), List.getElem_append_left (by simp; omega), List.getElem_take]
  · split
    · rename_i h h2
      refine ⟨by omega, ?_⟩
      rw [List.getElem_append_left (by simp; omega), List.getElem_append_right (by simp; omega)]
      simp only [List.getElem_take, List.length_take]
      congr 1; omega
    · rename_i h h2
      refine ⟨hq', ?_⟩
      rw [List.getElem_append_right (by simp; omega), List.getElem_drop]
      simp only [List.length_append, List.length_take]
      congr 1; omega

theorem copy_out {C : Ctx} (hT : TabOk C) {G : Gh} {H : List AObj} {w : World} (hs : Sim G H w) {t t2 ty : TypeId} {d x : Value} {a b : AV} (ha : Rep G H.length w d a) (hb : Rep G H.length w x b)
    {k : AV → List AObj → Prop} (h : copyK C t a b H k) :
    ∃ y w' v H' G', (Builtin.copy_ #[t, t2] ty #[d, x]).run C.P w = .ok y w' ∧ k v H' ∧ Sim G' H' w' ∧ Rep G' H'.length w' y v ∧ Ext G H w G' H' w' := by
  unfold copyK at h
  split at h
  case h_2 => exact h.elim
  rename_i loc lo len e
  obtain ⟨o, ho, h⟩ := hgetK_iff.1 h
  split at h
  case h_2 => exact h.elim
  rename_i u l
  obtain ⟨hety, h⟩ := guardK_iff.1 h
  obtain ⟨he, h⟩ := guardK_iff.1 h
  obtain ⟨hlen, hcp⟩ := h
  have he := Nat.eq_of_beq_eq_true he
  subst he
  clear h
  have hety : (C.tb t).ety = some u := by
    unfold etyIs at hety
    split at hety
    · rename_i u' hu'; rw [hu', ETy.is_eq hety]
    · cases hety
  obtain ⟨hsl, i, z, hi, hsz, hby, hz, hzs⟩ := (hT.ok t).ety u hety
  have ht := (hT.ok t).sl hsl
  obtain ⟨l', h, hsrc⟩ := srcK_out hs hb hcp
  obtain ⟨hlt, h⟩ := hsetK_iff.1 h
  obtain ⟨bx, cx, news, rfl, hns, hnr, hnf⟩ := hsrc
  have hnf' := hnf C.P (min l'.length len) w (Nat.min_le_left _ _) rfl
  rw [← hsz] at hnf'
  have hmin : Nat.min l'.length len = min l'.length len := rfl
  have hint : ∀ n : Nat, goInt n = .int .i64 n := fun n => rfl
  by_cases hne : len = 0
  · subst hne
    have e1 : H.set loc (.arr u (l.take lo ++ l'.take 0 ++ l.drop (lo + min l'.length 0)) false) = H := by
      have : l.take lo ++ l'.take 0 ++ l.drop (lo + min l'.length 0) = l := by simp
      rw [this]
      obtain ⟨h1, h2⟩ := List.getElem?_eq_some_iff.1 ho
      rw [← h2]; exact List.set_getElem_self h1
    rw [e1] at h
    refine ⟨_, w, _, H, G, ?_, h, hs, .int .i64 _, Ext.refl _ _ _⟩
    have : (min l'.length 0) = 0 := by simp
    rw [this] at hnf' ⊢
    have e2 : news.extract 0 (0 * i.size) = #[] := by simp
    rw [e2] at hnf'
    cases ha with
    | osl0 _ _ _ a cap _ _ =>
      cases a with
      | none => simp [Builtin.copy_, run_underlying ht, Builtin.lenOf, Go.sizeOf, typeInfo, hi, hnf', goInt]
      | some a => simp [Builtin.copy_, run_underlying ht, Builtin.lenOf, Go.sizeOf, typeInfo, hi, hnf', goInt, storeCells]
    | osl _ _ _ _ cap _ _ hn => exact absurd rfl hn
  · have hlne : l ≠ [] := by intro e; rw [e] at hlen; simp at hlen; omega
    have hm : (AObj.arr u l false).mut = true := by cases l with
      | nil => exact absurd rfl hlne
      | cons y ys => rfl
    have hrow : ∀ q (hq : q < (l.take lo ++ l'.take len ++ l.drop (lo + min l'.length len)).length), _ := fun q hq => copy_row (u := u) (l := l) (l' := l') hlen hq
    have hll : (l.take lo ++ l'.take len ++ l.drop (lo + min l'.length len)).length = l.length := by
      have := patch_len (c := l) (xs := l'.take len) (o := lo) (by simp; omega)
      have hm : (l'.take len).length = min l'.length len := by simp [Nat.min_comm]
      rwa [hm] at this
    generalize hnl : l.take lo ++ l'.take len ++ l.drop (lo + min l'.length len) = nl at h hrow hll
    have hm' : (AObj.arr u nl false).mut = true := by cases nl with
      | nil => simp at hll; exact absurd hll.symm (by simpa using hlne)
      | cons y ys => rfl
    obtain ⟨c, ⟨el, hblk⟩, hcs, hcr⟩ := hs.obj loc _ ho hlne
    have hes : (news.extract 0 (min l'.length len * esz u)).size = min l'.length len * esz u := by
      have : min l'.length len * esz u ≤ l'.length * esz u := Nat.mul_le_mul_right _ (Nat.min_le_left _ _)
      simp; omega
    have hfit : lo * esz u + min l'.length len * esz u ≤ c.size := by
      have : (lo + min l'.length len) * esz u ≤ l.length * esz u := Nat.mul_le_mul_right _ (by omega)
      rw [Nat.add_mul] at this; omega
    rw [hsz] at hnf'
    generalize hxs : news.extract 0 (min l'.length len * esz u) = xs at hnf' hes
    have hxs1 : ∀ v ∈ xs.toList, v.oneCell' = true := fun v hv => by
      rw [← hxs] at hv
      refine row_one hnr hns v ?_
      rw [Array.mem_toList_iff] at hv ⊢
      obtain ⟨q, hq, rfl⟩ := Array.mem_iff_getElem.1 hv
      simp
    have hst := run_storeCells_at C.P (G.mu loc) (lo * esz u) el xs.toList 0 c w hblk (by simpa [hes] using hfit) hxs1
    simp only [Nat.add_zero, Array.length_toList] at hst
    have hfit' : lo * esz u + xs.toList.length ≤ c.toList.length := by simpa [hes] using hfit
    generalize hcn : (c.toList.take (lo * esz u) ++ xs.toList ++ c.toList.drop (lo * esz u + xs.size)).toArray = cn at hst
    have hcns : cn.size = c.size := by rw [← hcn, List.size_toArray]; have := patch_len hfit'; simpa using this
    have hgd : ∀ k, cn.getD k undef = if k < lo * esz u then c.getD k undef else if k < lo * esz u + xs.size then xs.getD (k - lo * esz u) undef else c.getD k undef := fun k => by
      have := getD_patch (c := c.toList) (xs := xs.toList) (o := lo * esz u) (k := k) (d := undef) hfit'
      rw [← hcn]
      simpa [List.getD_eq_getElem?_getD] using this
    have hle := Le.set hs ho hm cn
    have hput := hs.put (o' := .arr u nl false) (w' := w.setRow (G.mu loc) cn) ho hm hm' (Av.setRow_size _ _ _) (fun b hb => setRow_other w _ _ cn hb) rfl rfl rfl (fun _ => by
      refine ⟨cn, ⟨el, setRow_heap w _ c cn el (0, 0) hblk⟩, by rw [hcns, hll]; exact hcs, fun q j hq hj => ?_⟩
      have hr := (hrow q hq).2
      rw [hgd]
      have hq' : q < l.length := by omega
      split at hr
      · rename_i h1
        have := row_lt (u := u) h1 hj
        obtain ⟨_, e⟩ := hr
        rw [if_pos this, e]
        exact (hcr q j hq' hj).mono hle
      · rename_i h1
        have h1' : lo * esz u ≤ q * esz u := Nat.mul_le_mul_right _ (by omega)
        split at hr
        · rename_i h2
          obtain ⟨h', e⟩ := hr
          have h3 := row_lt (u := u) h2 hj
          rw [Nat.add_mul] at h3
          rw [if_neg (by omega), if_pos (by rw [hes]; omega), e]
          have hsub : q * esz u + j - lo * esz u = (q - lo) * esz u + j := by
            have : q * esz u = lo * esz u + (q - lo) * esz u := by rw [← Nat.add_mul]; congr 1; omega
            omega
          rw [hsub]
          have := (hnr.2 (q - lo) j h' hj).mono hle
          rw [← hxs]
          have h4 := row_lt (u := u) (i := q - lo) (m := min l'.length len) (by omega) hj
          rw [show (news.extract 0 (min l'.length len * esz u)).getD ((q - lo) * esz u + j) undef = news.getD ((q - lo) * esz u + j) undef from by
            simp only [Array.getD_eq_getD_getElem?, Array.getElem?_extract]
            have h5 : min l'.length len * esz u ≤ news.size := by rw [hns]; exact Nat.mul_le_mul_right _ (Nat.min_le_left _ _)
            rw [Nat.zero_add, if_pos (by rw [Nat.min_eq_left h5]; omega)]]
          exact this
        · rename_i h2
          obtain ⟨h', e⟩ := hr
          have h3 : (lo + min l'.length len) * esz u ≤ q * esz u := Nat.mul_le_mul_right _ (by omega)
          rw [Nat.add_mul] at h3
          rw [if_neg (by omega), if_neg (by rw [hes]; omega), e]
          exact (hcr q j hq' hj).mono hle)
    refine ⟨_, _, _, _, G, ?_, h, hput.1, .int .i64 _, hput.2⟩
    cases ha with
    | osl0 _ _ _ a cap _ _ => exact absurd rfl hne
    | osl _ _ _ _ cap _ _ hn =>
      rw [← hsz] at hnf'
      simp [Builtin.copy_, run_underlying ht, Builtin.lenOf, Go.sizeOf, typeInfo, hi, hnf', hint, hst]

end Av
