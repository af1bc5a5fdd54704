/- The row: what a heap that comes in stands for. The walk: the document's example. Own work. -/
import Derived.Test.YtikjkclmninbmaaK22
import Derived.Test.YtikjkclmninbmaaK32
import Derived.Test.YtikjkclmninbmaaK31
section
set_option linter.unusedSimpArgs false
set_option linter.unusedVariables false
namespace Av
open Go Go.Proofs
set_option maxRecDepth 100000

section
variable {H : Type} {en : TypeId × Value → H} {W : World}

theorem size_u64 : QP.cellsOf 47 = 1 ∧ QP.bytesOf 47 = 8 := ⟨by kernel_rfl, by kernel_rfl⟩
theorem size_int : QP.cellsOf 3 = 1 ∧ QP.bytesOf 3 = 8 := ⟨by kernel_rfl, by kernel_rfl⟩
theorem size_err : QP.cellsOf 30 = 1 := by kernel_rfl
theorem size_bool : QP.cellsOf 4 = 1 := by kernel_rfl
theorem size_entry : QP.cellsOf 55 = 2 ∧ QP.bytesOf 55 = 16 := ⟨by kernel_rfl, by kernel_rfl⟩
theorem size_ans : QP.cellsOf 53 = 3 ∧ QP.bytesOf 53 = 24 := ⟨by kernel_rfl, by kernel_rfl⟩
theorem size_head : QP.cellsOf 49 = 3 := by kernel_rfl
theorem size_op : QP.cellsOf 51 = 8 ∧ QP.bytesOf 51 = 64 := ⟨by kernel_rfl, by kernel_rfl⟩
theorem size_buf : QP.cellsOf 39 = 2 := by kernel_rfl
theorem size_thread : QP.cellsOf 44 = 8 ∧ QP.bytesOf 44 = 144 := ⟨by kernel_rfl, by kernel_rfl⟩
theorem size_22 : QP.cellsOf 22 = 1 := by kernel_rfl
theorem size_28 : QP.cellsOf 28 = 1 := by kernel_rfl
theorem size_29 : QP.cellsOf 29 = 1 := by kernel_rfl
theorem size_40 : QP.cellsOf 40 = 1 := by kernel_rfl
theorem size_41 : QP.cellsOf 41 = 1 := by kernel_rfl
theorem size_42 : QP.cellsOf 42 = 1 := by kernel_rfl
theorem size_23 : QP.cellsOf 23 = 2 := by kernel_rfl
theorem size_mem : QP.cellsOf 25 = 3 := by kernel_rfl
theorem size_bump : QP.cellsOf 27 = 3 := by kernel_rfl
theorem size_heap : QP.cellsOf 32 = 17 := by kernel_rfl

theorem reads_u64 : Reads en W .u64 47 (fun _ => True) := by
  intro n cs x h hl
  obtain ⟨m, rfl, _⟩ := DataW.trod_int Try.underlying47 h
  refine ⟨m, rfl, fun j hj => ?_, trivial⟩
  match j, hj with
  | 0, _ => exact .int _ _
theorem reads_i64 : Reads en W .int 3 (fun _ => True) := by
  intro n cs x h hl
  obtain ⟨m, rfl, _⟩ := DataW.trod_int Try.underlying3 h
  refine ⟨m, rfl, fun j hj => ?_, trivial⟩
  match j, hj with
  | 0, _ => exact .int _ _

theorem reads_entry : Reads en W .entry 55 (fun _ => True) := by
  intro n cs x h hl
  obtain ⟨hlen, hf⟩ := reads_struct Try.underlying55 h hl
  rw [size_entry.1] at hlen
  match cs, hlen with
  | [c0, c1], _ =>
    obtain ⟨m0, x0, h0, _⟩ := hf 0 _ rfl
    obtain ⟨m1, x1, h1, _⟩ := hf 1 _ rfl
    obtain ⟨v0, rfl⟩ := reads_int Try.underlying47 size_u64.1 h0 rfl
    obtain ⟨v1, rfl⟩ := reads_int Try.underlying3 size_int.1 h1 rfl
    refine ⟨⟨v0, v1⟩, rfl, fun j hj => ?_, trivial⟩
    match j, hj with
    | 0, _ => exact .int _ _
    | 1, _ => exact .int _ _

theorem reads_ans : Reads en W .ans 53 (fun _ => True) := by
  intro n cs x h hl
  obtain ⟨hlen, hf⟩ := reads_struct Try.underlying53 h hl
  rw [size_ans.1] at hlen
  match cs, hlen with
  | [c0, c1, c2], _ =>
    obtain ⟨m0, x0, h0, _⟩ := hf 0 _ rfl
    obtain ⟨m1, x1, h1, _⟩ := hf 1 _ rfl
    obtain ⟨m2, x2, h2, _⟩ := hf 2 _ rfl
    obtain ⟨v0, rfl⟩ := reads_int Try.underlying30 size_err h0 rfl
    obtain ⟨v1, rfl⟩ := reads_int Try.underlying47 size_u64.1 h1 rfl
    obtain ⟨v2, rfl⟩ := reads_bool Try.underlying4 size_bool h2 rfl
    refine ⟨⟨v0, v1, v2⟩, rfl, fun j hj => ?_, trivial⟩
    match j, hj with
    | 0, _ => exact .int _ _
    | 1, _ => exact .int _ _
    | 2, _ => exact .bool _

theorem reads_op : Reads en W .op 51 (fun _ => True) := by
  intro n cs x h hl
  obtain ⟨hlen, hf⟩ := reads_struct Try.underlying51 h hl
  rw [size_op.1] at hlen
  match cs, hlen with
  | [c0, c1, c2, c3, c4, c5, c6, c7], _ =>
    obtain ⟨m0, x0, h0, _⟩ := hf 0 _ rfl
    obtain ⟨m1, x1, h1, _⟩ := hf 1 _ rfl
    obtain ⟨m2, x2, h2, _⟩ := hf 2 _ rfl
    obtain ⟨m3, x3, h3, _⟩ := hf 3 _ rfl
    obtain ⟨m4, x4, h4, _⟩ := hf 4 _ rfl
    obtain ⟨m5, x5, h5, l5⟩ := hf 5 _ rfl
    obtain ⟨v0, rfl⟩ := reads_int Try.underlying3 size_int.1 h0 rfl
    obtain ⟨v1, rfl⟩ := reads_int Try.underlying3 size_int.1 h1 rfl
    obtain ⟨v2, rfl⟩ := reads_int Try.underlying3 size_int.1 h2 rfl
    obtain ⟨v3, rfl⟩ := reads_int Try.underlying3 size_int.1 h3 rfl
    obtain ⟨v4, rfl⟩ := reads_int Try.underlying47 size_u64.1 h4 rfl
    have e5 : List.take (QP.cellsOf 49) (List.drop 5 [Value.int .i64 v0, .int .i64 v1, .int .i64 v2, .int .i64 v3, .int .u64 v4, c5, c6, c7]) = [c5, c6, c7] := by rw [size_head]; rfl
    have h5' : DataW.trod en QP W 0 (fun _ => true) true m5 49 [c5, c6, c7] = some x5 := e5 ▸ h5
    obtain ⟨_, hg⟩ := reads_struct Try.underlying49 h5' l5
    obtain ⟨m6, x6, h6, _⟩ := hg 0 _ rfl
    obtain ⟨m7, x7, h7, _⟩ := hg 1 _ rfl
    obtain ⟨m8, x8, h8, _⟩ := hg 2 _ rfl
    obtain ⟨v5, rfl⟩ := reads_int Try.underlying3 size_int.1 h6 rfl
    obtain ⟨v6, rfl⟩ := reads_int Try.underlying3 size_int.1 h7 rfl
    obtain ⟨v7, rfl⟩ := reads_int Try.underlying47 size_u64.1 h8 rfl
    refine ⟨⟨v0, v1, v2, v3, v4, ⟨v5, v6, v7⟩⟩, rfl, fun j hj => ?_, trivial⟩
    match j, hj with
    | 0, _ => exact .int _ _
    | 1, _ => exact .int _ _
    | 2, _ => exact .int _ _
    | 3, _ => exact .int _ _
    | 4, _ => exact .int _ _
    | 5, _ => exact .int _ _
    | 6, _ => exact .int _ _
    | 7, _ => exact .int _ _

def WideT (t : Thread) : Prop := t.stack.length * 8 ≤ reachBytes ∧ t.log.length * 16 ≤ reachBytes ∧ t.left.length * 64 ≤ reachBytes ∧ t.done.length * 24 ≤ reachBytes ∧ t.pend.length * 16 ≤ reachBytes

theorem reads_thread : Reads en W .thread 44 WideT := by
  intro n cs x h hl
  obtain ⟨hlen, hf⟩ := reads_struct Try.underlying44 h hl
  rw [size_thread.1] at hlen
  match cs, hlen with
  | [c0, c1, c2, c3, c4, c5, c6, c7], _ =>
    obtain ⟨m0, x0, h0, l0⟩ := hf 0 _ rfl
    obtain ⟨m1, x1, h1, l1⟩ := hf 1 _ rfl
    obtain ⟨m2, x2, h2, l2⟩ := hf 2 _ rfl
    obtain ⟨m3, x3, h3, l3⟩ := hf 3 _ rfl
    obtain ⟨m4, x4, h4, l4⟩ := hf 4 _ rfl
    obtain ⟨m5, x5, h5, l5⟩ := hf 5 _ rfl
    obtain ⟨m6, x6, h6, l6⟩ := hf 6 _ rfl
    obtain ⟨s0, r0, b0, _⟩ := reads_sl reads_u64 Try.underlying22 size_u64.1 size_u64.2 size_22 h0 l0 rfl
    have e1 : List.take (QP.cellsOf 39) (List.drop 1 [c0, c1, c2, c3, c4, c5, c6, c7]) = [c1, c2] := by rw [size_buf]; rfl
    have h1' : DataW.trod en QP W 0 (fun _ => true) true m1 39 [c1, c2] = some x1 := e1 ▸ h1
    obtain ⟨_, hg⟩ := reads_struct Try.underlying39 h1' l1
    obtain ⟨m7, x7, h7, _⟩ := hg 0 _ rfl
    obtain ⟨m8, x8, h8, _⟩ := hg 1 _ rfl
    obtain ⟨v1, rfl⟩ := reads_int Try.underlying3 size_int.1 h7 rfl
    obtain ⟨v2, rfl⟩ := reads_int Try.underlying3 size_int.1 h8 rfl
    obtain ⟨s2, r2, b2, _⟩ := reads_sl reads_entry Try.underlying40 size_entry.1 size_entry.2 size_40 h2 l2 rfl
    obtain ⟨s3, r3, b3, _⟩ := reads_sl reads_op Try.underlying41 size_op.1 size_op.2 size_41 h3 l3 rfl
    obtain ⟨s4, r4, b4, _⟩ := reads_sl reads_entry Try.underlying40 size_entry.1 size_entry.2 size_40 h4 l4 rfl
    obtain ⟨v5, rfl⟩ := reads_bool Try.underlying4 size_bool h5 rfl
    obtain ⟨s6, r6, b6, _⟩ := reads_sl reads_ans Try.underlying42 size_ans.1 size_ans.2 size_42 h6 l6 rfl
    refine ⟨⟨s0, v1, v2, s2, s3, s4, v5, s6⟩, rfl, fun j hj => ?_, b0, b2, b3, b6, b4⟩
    match j, hj with
    | 0, _ => exact r0
    | 1, _ => exact .int _ _
    | 2, _ => exact .int _ _
    | 3, _ => exact r2
    | 4, _ => exact r3
    | 5, _ => exact r4
    | 6, _ => exact .bool _
    | 7, _ => exact r6

theorem reads_bump {n : Nat} {c0 c1 c2 : Value} {x : DataW H × List MemPlace} (h : DataW.trod en QP W 0 (fun _ => true) true n 27 [c0, c1, c2] = some x) (hl : light 27 x.1) : ∃ a b c, c0 = .int .i64 a ∧ c1 = .int .i64 b ∧ c2 = .int .i64 c := by
  obtain ⟨_, hf⟩ := reads_struct Try.underlying27 h hl
  obtain ⟨m0, x0, h0, _⟩ := hf 0 _ rfl
  obtain ⟨m1, x1, h1, _⟩ := hf 1 _ rfl
  obtain ⟨m2, x2, h2, _⟩ := hf 2 _ rfl
  obtain ⟨v0, rfl⟩ := reads_int Try.underlying3 size_int.1 h0 rfl
  obtain ⟨v1, rfl⟩ := reads_int Try.underlying3 size_int.1 h1 rfl
  obtain ⟨v2, rfl⟩ := reads_int Try.underlying3 size_int.1 h2 rfl
  exact ⟨_, _, _, rfl, rfl, rfl⟩

theorem reads_mem {n : Nat} {c0 c1 c2 : Value} {x : DataW H × List MemPlace} (h : DataW.trod en QP W 0 (fun _ => true) true n 25 [c0, c1, c2] = some x) (hl : light 25 x.1) :
    ∃ (a : Int) (l1 l2 : List Int), c0 = .int .i64 a ∧ Rep (G0 W) 0 W c1 (su l1) ∧ Rep (G0 W) 0 W c2 (su l2) := by
  obtain ⟨_, hf⟩ := reads_struct Try.underlying25 h hl
  obtain ⟨m0, x0, h0, _⟩ := hf 0 _ rfl
  obtain ⟨m1, x1, h1, l1⟩ := hf 1 _ rfl
  obtain ⟨v0, rfl⟩ := reads_int Try.underlying3 size_int.1 h0 rfl
  have e1 : List.take (QP.cellsOf 23) (List.drop 1 [Value.int .i64 v0, c1, c2]) = [c1, c2] := by rw [size_23]; rfl
  have h1' : DataW.trod en QP W 0 (fun _ => true) true m1 23 [c1, c2] = some x1 := e1 ▸ h1
  obtain ⟨xs, m, _, rfl, _, hxl, hx⟩ := DataW.trod_array Try.underlying23 h1'
  have g0 := hx 0 (by decide)
  have g1 := hx 1 (by decide)
  rw [List.getElem?_eq_getElem (by omega)] at g0 g1
  have la : (DataW.weightsAll QP 22 (xs.map (·.1))).all (· ≤ reachBytes) = true := by
    have l1' : light 23 (DataW.agg (xs.map (·.1))) := l1
    unfold light DataW.weights at l1'
    simpa only [Try.underlying23] using l1'
  have k0 := weightsAll_part (i := 0) (by rw [List.getElem?_map, List.getElem?_eq_getElem (by omega)]; rfl) la
  have k1 := weightsAll_part (i := 1) (by rw [List.getElem?_map, List.getElem?_eq_getElem (by omega)]; rfl) la
  have e2 : List.take (QP.cellsOf 22) (List.drop (0 * QP.cellsOf 22) [c1, c2]) = [c1] := by rw [size_22]; rfl
  have e3 : List.take (QP.cellsOf 22) (List.drop (1 * QP.cellsOf 22) [c1, c2]) = [c2] := by rw [size_22]; rfl
  rw [e2] at g0
  rw [e3] at g1
  obtain ⟨w1, r1, q1, p1, _⟩ := reads_slice reads_u64 Try.underlying22 size_u64.1 size_u64.2 g0 k0
  obtain ⟨w2, r2, q2, p2, _⟩ := reads_slice reads_u64 Try.underlying22 size_u64.1 size_u64.2 g1 k1
  simp at q1 q2
  subst q1 q2
  exact ⟨_, r1, r2, rfl, p1, p2⟩

theorem room_wide {n c : Nat} (h : n * c ≤ reachBytes) (hc : c ≤ 144) : (n + 3) * c ≤ 2 ^ 47 := by
  have h1 : reachBytes = 140737488351232 := rfl
  rw [h1] at h
  rw [Nat.add_mul]
  omega

/-- A heap that comes in. -/
theorem reads_heap {n : Nat} {cs : List Value} {x : DataW H × List MemPlace} (h : DataW.trod en QP W 0 (fun _ => true) true n 32 cs = some x) (hl : light 32 x.1) :
    ∃ k : Hp, Wide k ∧ cs.length = 17 ∧ ∀ j, j < 17 → Rep (G0 W) 0 W (cs.getD j undef) (k.cs.getD j .junk) := by
  obtain ⟨hlen, hf⟩ := reads_struct Try.underlying32 h hl
  rw [size_heap] at hlen
  match cs, hlen with
  | [c0, c1, c2, c3, c4, c5, c6, c7, c8, c9, c10, c11, c12, c13, c14, c15, c16], _ =>
    obtain ⟨m0, x0, h0, l0⟩ := hf 0 _ rfl
    obtain ⟨m1, x1, h1, l1⟩ := hf 1 _ rfl
    obtain ⟨m2, x2, h2, l2⟩ := hf 2 _ rfl
    obtain ⟨m3, x3, h3, l3⟩ := hf 3 _ rfl
    obtain ⟨m4, x4, h4, l4⟩ := hf 4 _ rfl
    obtain ⟨m5, x5, h5, l5⟩ := hf 5 _ rfl
    obtain ⟨m6, x6, h6, l6⟩ := hf 6 _ rfl
    obtain ⟨m7, x7, h7, l7⟩ := hf 7 _ rfl
    obtain ⟨m8, x8, h8, l8⟩ := hf 8 _ rfl
    obtain ⟨m9, x9, h9, l9⟩ := hf 9 _ rfl
    obtain ⟨m10, x10, h10, l10⟩ := hf 10 _ rfl
    have e0 : List.take (QP.cellsOf 25) (List.drop 0 [c0, c1, c2, c3, c4, c5, c6, c7, c8, c9, c10, c11, c12, c13, c14, c15, c16]) = [c0, c1, c2] := by rw [size_mem]; rfl
    have e1 : List.take (QP.cellsOf 27) (List.drop 3 [c0, c1, c2, c3, c4, c5, c6, c7, c8, c9, c10, c11, c12, c13, c14, c15, c16]) = [c3, c4, c5] := by rw [size_bump]; rfl
    have e2 : List.take (QP.cellsOf 27) (List.drop 6 [c0, c1, c2, c3, c4, c5, c6, c7, c8, c9, c10, c11, c12, c13, c14, c15, c16]) = [c6, c7, c8] := by rw [size_bump]; rfl
    obtain ⟨v0, s1, s2, rfl, r1, r2⟩ := reads_mem (e0 ▸ h0) l0
    obtain ⟨v3, v4, v5, rfl, rfl, rfl⟩ := reads_bump (e1 ▸ h1) l1
    obtain ⟨v6, v7, v8, rfl, rfl, rfl⟩ := reads_bump (e2 ▸ h2) l2
    obtain ⟨v9, rfl⟩ := reads_int Try.underlying3 size_int.1 h3 rfl
    obtain ⟨v10, rfl⟩ := reads_int Try.underlying3 size_int.1 h4 rfl
    obtain ⟨s11, r11, b11, t11⟩ := reads_sl reads_thread Try.underlying28 size_thread.1 size_thread.2 size_28 h5 l5 rfl
    obtain ⟨v12, rfl⟩ := reads_int Try.underlying3 size_int.1 h6 rfl
    obtain ⟨v13, rfl⟩ := reads_int Try.underlying3 size_int.1 h7 rfl
    obtain ⟨v14, rfl⟩ := reads_int Try.underlying3 size_int.1 h8 rfl
    obtain ⟨s15, r15, b15, _⟩ := reads_sl reads_i64 Try.underlying29 size_int.1 size_int.2 size_29 h9 l9 rfl
    obtain ⟨v16, rfl⟩ := reads_int Try.underlying30 size_err h10 rfl
    refine ⟨⟨⟨v0, s1, s2⟩, ⟨v3, v4, v5⟩, ⟨v6, v7, v8⟩, v9, v10, s11, v12, v13, v14, s15, v16⟩, ⟨?_, fun t ht => ?_, room_wide b15 (by decide)⟩, rfl, fun j hj => ?_⟩
    · exact Nat.le_trans (Nat.mul_le_mul_right 144 (Nat.le_add_right _ 3)) (room_wide (c := 144) b11 (by decide))
    · obtain ⟨a, b, c, d, e⟩ := t11 t ht
      exact ⟨room_wide a (by decide), room_wide b (by decide), room_wide c (by decide), room_wide d (by decide), room_wide e (by decide)⟩
    · match j, hj with
      | 0, _ => exact .int _ _
      | 1, _ => exact r1
      | 2, _ => exact r2
      | 3, _ => exact .int _ _
      | 4, _ => exact .int _ _
      | 5, _ => exact .int _ _
      | 6, _ => exact .int _ _
      | 7, _ => exact .int _ _
      | 8, _ => exact .int _ _
      | 9, _ => exact .int _ _
      | 10, _ => exact .int _ _
      | 11, _ => exact r11
      | 12, _ => exact .int _ _
      | 13, _ => exact .int _ _
      | 14, _ => exact .int _ _
      | 15, _ => exact r15
      | 16, _ => exact .int _ _
      | j + 17, hj => exact absurd hj (by omega)
end
end Av
end
section
set_option linter.unusedSimpArgs false
set_option linter.unusedVariables false
namespace Av
open Go
set_option maxRecDepth 100000

def exT : Thread := { stack := [], bufAt := 0, bufEnd := 0, log := [], left := [⟨11, 0, 0, 0, 0, ⟨0, 0, 0⟩⟩], pend := [], want := false, done := [] }
def exH : Hp := ⟨⟨16, List.replicate 16 0, List.replicate 16 0⟩, ⟨0, 0, 16⟩, ⟨1, 0, 16⟩, 0, 4, [exT], 0, 0, 0, [], 0⟩

theorem exCan : CanP exH 0 := by
  refine ⟨by decide, by decide, rfl, .inr ⟨?_, rfl, by decide, .inl rfl⟩⟩
  show [(⟨11, 0, 0, 0, 0, ⟨0, 0, 0⟩⟩ : OpD)] ≠ []
  simp

theorem exSmall : SmallH exH := by
  refine ⟨by decide, fun t ht => ?_, by decide⟩
  have : t = exT := by simpa [exH] using ht
  subst this
  exact ⟨by decide, by decide, by decide, by decide⟩

theorem exOk : HOk exH := by
  refine ⟨⟨by decide, by decide, by decide, by decide⟩, ⟨by decide, by decide, by decide, by decide⟩, rfl, by decide, fun t ht => ?_, exSmall⟩
  have : t = exT := by simpa [exH] using ht
  subst this
  exact ⟨by decide, by decide, by decide⟩

theorem exDo (x : Int) : doF x exH 0 = { exH with threads := [{ exT with want := true }] } := by
  unfold doF
  have hp : (thr exH 0).pend = [] := rfl
  rw [if_pos hp]
  rfl

theorem n7 : NC PP 7 [] fun r => r = .bool true := by
  refine nc_rule (CT_okc (C := C7) rfl rfl) (f := 7) (fn := Go.Proofs.Try.f7) (by kernel_rfl) rfl (by kernel_rfl) _ rfl ?_
  conv => whnf
  refine ⟨by kernel_rfl, ?_⟩
  conv => whnf
  refine ⟨by decide, ?_⟩
  conv => whnf
  refine ⟨by decide, ?_⟩
  conv => whnf
  refine ⟨by decide, ?_⟩
  conv => whnf
  refine ⟨by decide, ?_⟩
  conv => whnf
  refine NC.real (n9 exH 0 exOk) rfl ?_
  rintro _ ⟨x, k, rfl, ⟨hc, _⟩ | ⟨_, hk⟩⟩
  · exact absurd exCan hc
  · rw [exDo] at hk
    subst hk
    conv => whnf
    refine EC.real (e11 exH 0) rfl ?_
    rintro _ (⟨rfl, _⟩ | ⟨rfl, hc⟩)
    · conv => whnf
      refine EC.real (e11 { exH with threads := [{ exT with want := true }] } 0) rfl ?_
      rintro _ (⟨rfl, hc⟩ | ⟨rfl, _⟩)
      · have := hc.2.2.2
        rcases this with h | h
        · exact absurd rfl h
        · exact absurd h.2.1 (by decide)
      · conv => whnf
        refine ⟨_, ⟨by decide, rfl⟩, ?_⟩
        conv => whnf
        exact ⟨rfl, rfl⟩
    · exact absurd exCan hc
end Av
end
