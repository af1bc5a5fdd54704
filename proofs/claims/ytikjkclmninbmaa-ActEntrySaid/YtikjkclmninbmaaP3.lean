/- The plain law: what an entry tells. Own work. -/
import Derived.Test.YtikjkclmninbmaaK32
set_option linter.unusedSimpArgs false
set_option linter.unusedVariables false
namespace Av
open Go

theorem entry_law (x : Int) {h : Hp} {i : Int} (hc : CanP h i) (hp : (thr h i).pend = []) (hph : h.phase = 1) (hw : writesF (opP (thr h i)).kind = true) :
    ∃ A, (thr (doF x h i) i).done = (thr h i).done ++ [A] ∧ ((A.e ≠ 0 ∧ (thr (doF x h i) i).pend = []) ∨
      (A.e = 0 ∧ 0 ≤ (opP (thr h i)).h ∧ (opP (thr h i)).h < (thr h i).stack.length ∧ (thr (doF x h i) i).pend = [⟨(thr h i).stack.getD (opP (thr h i)).h.toNat 0, (opP (thr h i)).i⟩])) := by
  have hi : 0 ≤ i ∧ i < h.threads.length := ⟨hc.1, hc.2.1⟩
  have hk := actW_keeps x (startW h i)
  obtain ⟨wt, r⟩ := write_entry x (startW h i) hw hph hp rfl rfl
  rw [doF_this x h i hi, if_pos hp]
  unfold stepT
  rw [wt, if_neg Bool.false_ne_true]
  refine ⟨(actW x (startW h i)).a, ?_, r⟩
  show (actW x (startW h i)).t.done ++ _ = _
  rw [hk.done]; rfl

theorem can_pend (x : Int) {h : Hp} {i : Int} (hc : CanP h i) (hp : (thr (doF x h i) i).pend ≠ []) : CanP (doF x h i) i := by
  have hi : 0 ≤ i ∧ i < h.threads.length := ⟨hc.1, hc.2.1⟩
  obtain ⟨g1, g2, g3, g4, g5, g6, g7⟩ := doF_rest x h i hi
  exact ⟨hc.1, by rw [doF_len x h i hi]; exact hc.2.1, by rw [g7]; exact hc.2.2.1, .inl hp⟩
end Av
