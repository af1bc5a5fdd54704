/- What the rows share. Own work. -/
import Derived.Test.YtikjkclmninbmaaK33
import Derived.WalkKit
set_option linter.unusedSimpArgs false
set_option linter.unusedVariables false
namespace Av
open Go Go.Proofs Go.RowKit
set_option maxRecDepth 100000

theorem run_law {f : Nat} {ys : List AV} (h : NC PP f ys fun r => r = .bool true) {W : World} {args : Array Value} (hr : Reps (G0 W) 0 W args ys) :
    Calls PP f args W fun e W' => e = .returned (.bool true) ∧ Below W.heap.size W W' := by
  refine callsIn_wide.1 (CallsIn.mono (h.run (G0 W) W args (fun b o hb => hb) hr) fun e w' => ?_)
  rintro ⟨v, r, G', rfl, rfl, _, hv, hx⟩
  refine ⟨?_, hx.os, hx.tape, hx.output, hx.size, fun k hk => hx.frame k hk ?_⟩
  · cases hv; rfl
  · rintro (⟨loc, o, h1, _⟩ | ⟨loc, v, e, h1, _⟩) <;> simp at h1

theorem heap_arg {H : Type} {en : TypeId × Value → H} {W : World} {r : Reach} {base : Nat} {v : Value} {d : DataW H} {p : List MemPlace} (hv : Value.okWide QP W r base 32 v)
    (h : DataW.Trod en QP W 0 (fun _ => true) true 32 v d p) (hl : light 32 d) : ∃ k : Hp, Wide k ∧ Rep (G0 W) 0 W v k.av := by
  obtain ⟨cs, rfl, _⟩ := WideShapes.okWide_struct Try.underlying32 hv
  obtain ⟨n, hn⟩ := h
  obtain ⟨k, h1, h2, h3⟩ := reads_heap hn hl
  refine ⟨k, h1, .agg _ _ (by simpa [Value.cells] using h2) fun j hj => ?_⟩
  have := h3 j hj
  simpa [Value.cells] using this

theorem reps_two {G n w v0 v1 a0 a1} (h0 : Rep G n w v0 a0) (h1 : Rep G n w v1 a1) : Reps G n w #[v0, v1] [a0, a1] :=
  ⟨rfl, fun k hk => match k, hk with | 0, _ => h0 | 1, _ => h1⟩
theorem reps_three {G n w v0 v1 v2 a0 a1 a2} (h0 : Rep G n w v0 a0) (h1 : Rep G n w v1 a1) (h2 : Rep G n w v2 a2) : Reps G n w #[v0, v1, v2] [a0, a1, a2] :=
  ⟨rfl, fun k hk => match k, hk with | 0, _ => h0 | 1, _ => h1 | 2, _ => h2⟩
end Av

namespace Go.Proofs.Ytikjkclmninbmaa
open Go.ChangeShapes Go.WideShapes Go.ChangeAt Go.RowKit

theorem own : ownKnob Try.prog.godebug = none := by kernel_rfl
theorem laidOut : laidOutB Try.prog = true := by kernel_rfl
theorem readable32 : Try.prog.readableRec 32 = true := by kernel_rfl
theorem readable3 : Try.prog.readableRec 3 = true := by kernel_rfl
theorem row32 : 32 < Try.prog.types.size := of_decide_eq_true (by kernel_rfl)
theorem row3 : 3 < Try.prog.types.size := of_decide_eq_true (by kernel_rfl)

abbrev z17 : Value := .agg #[.int .i64 0, .slice none 0 0, .slice none 0 0, .int .i64 0, .int .i64 0, .int .i64 0, .int .i64 0, .int .i64 0, .int .i64 0, .int .i64 0, .int .i64 0, .slice none 0 0, .int .i64 0, .int .i64 0, .int .i64 0, .slice none 0 0, .int .i64 0]

end Go.Proofs.Ytikjkclmninbmaa
