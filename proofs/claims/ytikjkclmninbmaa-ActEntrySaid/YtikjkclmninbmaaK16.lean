/- The abstract machine: regions of any order. Own work. -/
import Derived.Test.YtikjkclmninbmaaK15
set_option linter.unusedSimpArgs false
set_option linter.unusedVariables false
set_option linter.unnecessarySimpa false
namespace Av
open Go

theorem Det.mono {α : Type} {f : (α → Prop) → Prop} (hf : Det f) {k k' : α → Prop} (h : f k) (hk : ∀ v, k v → k' v) : f k' := by
  obtain ⟨v, h1, h2⟩ := hf k h
  exact h2 k' (hk v h1)

theorem det_hsetK (H : List AObj) (n : Nat) (o : AObj) : Det (hsetK H n o) := .iff (fun _ => hsetK_iff) (.and (.ret _))

theorem det_storeK (C : Ctx) (dyn : Bool) (t : TypeId) (p v : AV) (H : List AObj) : Det (storeK C dyn t p v H) := by
  refine (det_cellsK v).bind fun vs => .guard (.guard ?_)
  cases p <;> first | exact .no | skip
  refine (det_hgetK H _).bind fun o => ?_
  cases o <;> first | exact .no | skip
  · refine .guard ?_
    cases dyn with
    | true =>
      dsimp only
      split
      · exact .and (det_hsetK _ _ _)
      · exact .no
    | false => exact (det_patchK _ _ _).bind fun cs' => det_hsetK _ _ _
  · rename_i u l fr
    cases fr with
    | true => exact .no
    | false =>
      refine .guard (.ex fun x => (det_patchK _ _ _).bind fun cs' => ?_)
      split
      · exact det_hsetK _ _ _
      · exact .no

theorem det_insK (C : Ctx) (t : TypeId) (m x v : AV) (H : List AObj) : Det (fun k : List AObj → Prop => opK.insK C t m x v H fun _ H' => k H') := by
  unfold opK.insK
  split
  · refine (det_typedK _ _ _).bind fun v => .guard ((det_cellsK v).bind fun vs => .guard ((det_hgetK H _).bind fun o => ?_))
    cases o <;> first | exact .no | exact .guard (.guard (det_hsetK _ _ _))
  · exact .no

theorem insK_junk {C : Ctx} {t : TypeId} {m x v : AV} {H : List AObj} {k : AV → List AObj → Prop} : opK.insK C t m x v H k ↔ opK.insK C t m x v H fun _ H' => k .junk H' := by
  unfold opK.insK
  split <;> exact Iff.rfl

theorem ownZeroK_mono {b : Bool} {v : AV} {H : List AObj} {k k' : AV → List AObj → Prop} (h : ownZeroK b v H k) (hk : ∀ v X, k v (H ++ X) → k' v (H ++ X)) : ownZeroK b v H k' := by
  unfold ownZeroK at *
  split at h
  · exact pushK_iff.2 (hk _ _ (pushK_iff.1 h))
  · have := hk v []
    rw [List.append_nil] at this
    exact this h

theorem RealCall.mono {P : Program} {f : Nat} {args : List AV} {H : List AObj} {K K' : AV → List AObj → Prop} (h : RealCall P f args H K) (hk : ∀ r H', K r H' → K' r H') : RealCall P f args H K' where
  fn := h.fn
  run G w vs hs hr := CallsIn.mono (h.run G w vs hs hr) fun e w' ⟨v, r, H', G', e1, k, rest⟩ => ⟨v, r, H', G', e1, hk r H' k, rest⟩

/-- What is behind an operation may be weakened; and what it does to objects is known. -/
theorem opK_mono {C : Ctx} {op : Go.Op} {ty : TypeId} {dst : Option Tmp} {s : List AV} {H : List AObj} {k k' : AV → List AObj → Prop} (h : opK C true op ty dst s H k)
    (hk : ∀ v H', (quietOp C.located C.owns dst op = true ∨ pushOp C.wild dst op = true → ∃ X, H' = H ++ X) → k v H' → k' v H') : opK C true op ty dst s H k' := by
  by_cases hq : quietOp C.located C.owns dst op = true
  · obtain ⟨v, h1, h2⟩ := quiet_out hq h
    exact h2 H k' (fun _ => ⟨[], by simp⟩) (hk v H (fun _ => ⟨[], by simp⟩) h1)
  have any : ∀ v H', pushOp C.wild dst op = false → k v H' → k' v H' := fun v H' hp => hk v H' (fun h => by rcases h with h | h; exact absurd h hq; rw [hp] at h; cases h)
  have pre : ∀ v X, k v (H ++ X) → k' v (H ++ X) := fun v X => hk v _ (fun _ => ⟨X, rfl⟩)
  cases op
  case alloc t =>
    simp only [opK] at h ⊢
    refine (det_zeroK C t).mono h fun v h => ownZeroK_mono (k := fun v H => cellsK v fun cs => pushK H (.box cs) fun loc H' => k (.ptr loc 0 0 0) H') (k' := fun v H => cellsK v fun cs => pushK H (.box cs) fun loc H' => k' (.ptr loc 0 0 0) H') h fun v X h =>
      (det_cellsK v).mono (k := fun cs => pushK (H ++ X) (.box cs) fun loc H' => k (.ptr loc 0 0 0) H') (k' := fun cs => pushK (H ++ X) (.box cs) fun loc H' => k' (.ptr loc 0 0 0) H') h fun cs h => ?_
    have h := pushK_iff.1 h
    rw [List.append_assoc] at h
    refine pushK_iff.2 ?_
    rw [List.append_assoc]
    exact pre _ _ h
  case box t x =>
    refine (det_ev s x).mono h fun v h => (det_typedK C t v).mono h fun v h => ?_
    obtain ⟨h1, h⟩ := guardK_iff.1 h
    refine guardK_iff.2 ⟨h1, (det_cellsK v).mono h fun cs h => pushK_iff.2 (pre _ _ (pushK_iff.1 h))⟩
  case store t x y => exact (det_ev s x).mono h fun p h => (det_ev s y).mono h fun v h => (det_typedK C t v).mono h fun v h => (det_storeK C _ t p v H).mono h fun H' h => any _ _ rfl h
  case insert t m x v =>
    refine (det_ev s m).mono h fun m h => (det_ev s x).mono h fun x h => (det_ev s v).mono h fun v h => ?_
    exact insK_junk.2 ((det_insK C t m x v H).mono (insK_junk.1 h) fun H' h => any _ _ rfl h)
  case makeMap t r =>
    simp only [opK] at h ⊢
    split at h
    · exact pushK_iff.2 (pre _ _ (pushK_iff.1 h))
    · exact h.elim
  case assign x => exact (det_ev s x).mono h fun v h => (det_typedK C ty v).mono h fun v h => ownZeroK_mono h fun v X h => pre _ _ h
  case call c =>
    obtain ⟨callee, args, ats⟩ := c
    cases callee with
    | invoke a b =>
      obtain ⟨_, h, _⟩ := det_evs s _ _ h
      exact h.elim
    | value f =>
      refine (det_evs s _).mono h fun args h => (det_ev s f).mono h fun v h => ?_
      cases v <;> first | exact h.elim | skip
      refine (det_typedsK C _ _).mono h fun args h => (det_catK _ _).mono h fun args h => (det_catK _ _).mono h fun args h => ?_
      have hd : dstIn C.owns dst = true := by simpa [quietOp] using hq
      cases hw : dstIn C.wild dst with
      | false =>
        simp only [callK, hd, hw] at h ⊢
        refine RealCall.mono h fun r H' hr => ⟨hr.1, ?_⟩
        obtain ⟨⟨X, rfl⟩, hr⟩ := hr
        exact pre _ _ hr
      | true =>
        simp only [callK, hd, hw] at h ⊢
        exact RealCall.mono h fun r H' hr => any _ _ (by simp [pushOp, hw]) hr
    | builtin b =>
      cases b <;> first
        | (simp [quietOp] at hq; done)
        | (obtain ⟨_, h, _⟩ := det_evs s _ _ h
           exact h.elim)
        | skip
      case append =>
        refine (det_evs s _).mono h fun args h => ?_
        simp only [builtinK] at h ⊢
        split at h
        · unfold appendK at *
          obtain ⟨h1, h⟩ := guardK_iff.1 h
          refine guardK_iff.2 ⟨h1, (det_typedK C _ _).mono h fun v h => ?_⟩
          cases v <;> first | exact h.elim | skip
          obtain ⟨h2, h⟩ := guardK_iff.1 h
          refine guardK_iff.2 ⟨h2, (det_srcK H _ _).mono h fun l' h => ⟨h.1, ?_⟩⟩
          have h := h.2
          split at h
          · exact h.elim
          · split at h
            · split at h
              · exact h.elim
              · exact h.elim
            · exact any _ _ rfl h
          · obtain ⟨h3, h⟩ := guardK_iff.1 h
            obtain ⟨h4, h⟩ := guardK_iff.1 h
            refine guardK_iff.2 ⟨h3, guardK_iff.2 ⟨h4, (det_hgetK H _).mono h fun o h => ?_⟩⟩
            cases o <;> first | exact h.elim | skip
            exact ⟨h.1, (det_hsetK _ _ _).mono h.2 fun H' h => any _ _ rfl h⟩
        · exact h.elim
      case copy =>
        refine (det_evs s _).mono h fun args h => ?_
        simp only [builtinK] at h ⊢
        split at h
        · unfold copyK at *
          split at h
          · refine (det_hgetK H _).mono h fun o h => ?_
            cases o <;> first | exact h.elim | skip
            rename_i u l fr
            cases fr with
            | true => exact h.elim
            | false =>
              obtain ⟨h2, h⟩ := guardK_iff.1 h
              obtain ⟨h3, h⟩ := guardK_iff.1 h
              refine guardK_iff.2 ⟨h2, guardK_iff.2 ⟨h3, h.1, (det_srcK H _ _).mono h.2 fun l' h => (det_hsetK _ _ _).mono h fun H' h => any _ _ rfl h⟩⟩
          · exact h.elim
        · exact h.elim
  all_goals first
    | exact h.elim
    | exact absurd rfl hq

/-! Other tmps. -/
def Ag (s s' : List AV) (x : Operand) : Prop := ∀ t, x = .tmp t → s[t]? = s'[t]?

theorem ev_congr {s s' : List AV} {x : Operand} (h : Ag s s' x) : ev s x = ev s' x := by
  cases x with
  | tmp t =>
    funext k
    show getK s t k = getK s' t k
    have e := h t rfl
    refine propext ?_
    rw [getK_iff, getK_iff, e]
  | _ => rfl

theorem evs_congr {s s' : List AV} : ∀ {xs : List Operand}, (∀ x, x ∈ xs → Ag s s' x) → evs s xs = evs s' xs
  | [], _ => rfl
  | x :: xs, h => by
    funext k
    simp only [evs, ev_congr (h x (List.mem_cons_self ..)), evs_congr fun y hy => h y (List.mem_cons_of_mem _ hy)]

theorem fieldsK_congr {C : Ctx} {s s' : List AV} {fs : List (Nat × Nat)} {tys : Nat → TypeId} : ∀ {ps : List (Nat × Operand)}, (∀ p, p ∈ ps → Ag s s' p.2) → ∀ cs k, fieldsK C s fs tys ps cs k = fieldsK C s' fs tys ps cs k
  | [], _, _, _ => rfl
  | (i, x) :: ps, h, cs, k => by
    simp only [fieldsK, ev_congr (h (i, x) (List.mem_cons_self ..)), fieldsK_congr fun y hy => h y (List.mem_cons_of_mem _ hy)]

theorem partsK_congr {C : Ctx} {s s' : List AV} {e : TypeId} : ∀ {ps : List (Nat × Operand)}, (∀ p, p ∈ ps → Ag s s' p.2) → ∀ els k, partsK C s e ps els k = partsK C s' e ps els k
  | [], _, _, _ => rfl
  | (i, x) :: ps, h, els, k => by
    simp only [partsK, ev_congr (h (i, x) (List.mem_cons_self ..)), partsK_congr fun y hy => h y (List.mem_cons_of_mem _ hy)]

theorem loK_congr {s s' : List AV} {x : Option Operand} (h : ∀ y, x = some y → Ag s s' y) : loK s x = loK s' x := by
  cases x with
  | none => rfl
  | some x => funext k; simp only [loK, ev_congr (h x rfl)]

theorem hiK_congr {s s' : List AV} {x : Option Operand} (h : ∀ y, x = some y → Ag s s' y) : hiK s x = hiK s' x := by
  cases x with
  | none => rfl
  | some x => funext d k; simp only [hiK, ev_congr (h x rfl)]

theorem sliceK_congr {C : Ctx} {s s' : List AV} {t : TypeId} {v : AV} {lo hi mx : Option Operand} {k : AV → Prop} (h1 : ∀ y, lo = some y → Ag s s' y) (h2 : ∀ y, hi = some y → Ag s s' y) (h3 : ∀ y, mx = some y → Ag s s' y) :
    sliceK C s t v lo hi mx k = sliceK C s' t v lo hi mx k := by
  unfold sliceK
  rw [loK_congr h1, hiK_congr h2]
  cases mx with
  | none => rfl
  | some m => simp only [ev_congr (h3 m rfl)]

theorem opK_congr {C : Ctx} {draw : Bool} {op : Go.Op} {ty : TypeId} {dst : Option Tmp} {s s' : List AV} {H : List AObj} {k : AV → List AObj → Prop} (h : ∀ x, x ∈ op.operands.toList → Ag s s' x) :
    opK C draw op ty dst s H k = opK C draw op ty dst s' H k := by
  cases op
  case move x => simp only [opK, ev_congr (h x (by simp [Op.operands]))]
  case assign x => simp only [opK, ev_congr (h x (by simp [Op.operands]))]
  case pick c a b => simp only [opK, pickK, ev_congr (h c (by simp [Op.operands])), ev_congr (h a (by simp [Op.operands])), ev_congr (h b (by simp [Op.operands]))]
  case box t x => simp only [opK, ev_congr (h x (by simp [Op.operands]))]
  case build t ps =>
    have hp : ∀ p, p ∈ ps.toList → Ag s s' p.2 := fun p hp => h p.2 (by simp only [Op.operands]; exact List.mem_map_of_mem hp)
    simp only [opK, buildK, fieldsK_congr hp]
  case buildSlice t n ps =>
    have hp : ∀ p, p ∈ ps.toList → Ag s s' p.2 := fun p hp => h p.2 (by simp only [Op.operands]; exact List.mem_map_of_mem hp)
    simp only [opK, partsK_congr hp]
  case load t x => simp only [opK, ev_congr (h x (by simp [Op.operands]))]
  case store t x y => simp only [opK, ev_congr (h x (by simp [Op.operands])), ev_congr (h y (by simp [Op.operands]))]
  case nilCheck x => simp only [opK, ev_congr (h x (by simp [Op.operands]))]
  case binOp op t x y wi => simp only [opK, ev_congr (h x (by simp [Op.operands])), ev_congr (h y (by simp [Op.operands]))]
  case unOp op t x => simp only [opK, ev_congr (h x (by simp [Op.operands]))]
  case convert a b x => simp only [opK, ev_congr (h x (by simp [Op.operands]))]
  case makeFunc fn as bs =>
    cases fn <;> first
      | rfl
      | (have ha : ∀ x, x ∈ as.toList → Ag s s' x := fun x hx => h x (by simp [Op.operands] at hx ⊢; exact .inl hx)
         have hb : ∀ x, x ∈ bs.toList → Ag s s' x := fun x hx => h x (by simp [Op.operands] at hx ⊢; exact .inr hx)
         simp only [opK, evs_congr ha, evs_congr hb])
  case makeSlice t n c => simp only [opK, ev_congr (h n (by simp [Op.operands])), ev_congr (h c (by simp [Op.operands]))]
  case slice t x lo hi mx =>
    have hx : Ag s s' x := h x (by simp [Op.operands])
    have h1 : ∀ y, lo = some y → Ag s s' y := fun y e => h y (by subst e; simp [Op.operands])
    have h2 : ∀ y, hi = some y → Ag s s' y := fun y e => h y (by subst e; simp [Op.operands])
    have h3 : ∀ y, mx = some y → Ag s s' y := fun y e => h y (by subst e; simp [Op.operands])
    simp only [opK, ev_congr hx, sliceK_congr h1 h2 h3]
  case fieldAddr t x i => simp only [opK, ev_congr (h x (by simp [Op.operands]))]
  case indexAddr t x i => simp only [opK, ev_congr (h x (by simp [Op.operands])), ev_congr (h i (by simp [Op.operands]))]
  case lookup t m x ok => simp only [opK, ev_congr (h m (by simp [Op.operands])), ev_congr (h x (by simp [Op.operands]))]
  case insert t m x v => simp only [opK, ev_congr (h m (by simp [Op.operands])), ev_congr (h x (by simp [Op.operands])), ev_congr (h v (by simp [Op.operands]))]
  case extract x i => simp only [opK, ev_congr (h x (by simp [Op.operands]))]
  case call c =>
    obtain ⟨callee, args, ats⟩ := c
    have ha : ∀ x, x ∈ args.toList → Ag s s' x := fun x hx => h x (by simp [Op.operands, Call.operands] at hx ⊢; exact .inr hx)
    simp only [opK, doCallK, evs_congr ha]
    cases callee with
    | value f => simp only [ev_congr (h f (by simp [Op.operands, Call.operands]))]
    | _ => rfl
  all_goals rfl

end Av
