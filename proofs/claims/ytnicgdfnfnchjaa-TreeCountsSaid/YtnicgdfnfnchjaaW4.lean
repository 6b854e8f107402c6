/-
  A step of tree code: 'r.step()'.
-/
import Derived.Test.YtnicgdfnfnchjaaW3
set_option linter.unusedVariables false
set_option maxRecDepth 20000
namespace Go.Proofs.Ytnicgdfnfnchjaa
open Go.Abs

theorem wrap_i64 {x : Int} (h : 0 ≤ x ∧ x < 4611686018427387904) : IntKind.wrap .i64 x = x := by
  simp [IntKind.wrap, IntKind.bits, IntKind.signed]
  omega

/-- The run's block, the fourth of the heap, with so many steps. -/
def runB (c0 c1 c2 c3 c4 c5 c6 : AV) (F x : Int) (c9 : AV) : Blk := .cells [c0, c1, c2, c3, c4, c5, c6, .p (.int .i64 F), .p (.int .i64 x), c9]

theorem c_step (b0 b1 b2 : Blk) (c0 c1 c2 c3 c4 c5 c6 c9 : AV) (F x : Int) (T : List Blk) (hx : x ≠ F ∧ 0 ≤ x ∧ x < 1000000) :
    ACalls Try.prog 150 [.ptr (.g 3) 0] (b0 :: b1 :: b2 :: runB c0 c1 c2 c3 c4 c5 c6 F x c9 :: T) fun r G' => r = .ret (.tuple []) ∧ G' = b0 :: b1 :: b2 :: runB c0 c1 c2 c3 c4 c5 c6 F (x + 1) c9 :: T := by
  refine acalls_fn ⟨20, [], false, fun _ => none, fun _ => none⟩ Try.func150 rfl rfl rfl (by simp) fun hG => ?_
  refine awp_seq (awp_seq (awp_still mixed (by kernel_rfl) rfl ?_))
  refine awp_if (x == F) rfl (fun h => absurd (by simpa using h) hx.1) fun _ => ?_
  refine awp_skip ?_
  refine awp_run rfl ?_
  show leaveQ _ _ _ _ .normal _
  have hw : IntKind.wrap .i64 (x + 1) = x + 1 := wrap_i64 (by omega)
  refine leave_normal (v := .tuple []) rfl ?_ ?_
  · have h1 : okG (b0 :: b1 :: b2 :: runB c0 c1 c2 c3 c4 c5 c6 F (IntKind.wrap .i64 (x + 1)) c9 :: T) := by
      have h0 : Blk.okm (b0 :: b1 :: b2 :: runB c0 c1 c2 c3 c4 c5 c6 F x c9 :: T).length (runB c0 c1 c2 c3 c4 c5 c6 F x c9) = true := List.all_eq_true.1 hG _ (by simp)
      have := okG_set hG 3 (b := runB c0 c1 c2 c3 c4 c5 c6 F (IntKind.wrap .i64 (x + 1)) c9) h0
      exact this
    exact cutOk_same (G := b0 :: b1 :: b2 :: runB c0 c1 c2 c3 c4 c5 c6 F (IntKind.wrap .i64 (x + 1)) c9 :: T) [] h1 (List.append_nil _).symm rfl
  · refine ⟨rfl, ?_⟩
    show List.take _ (b0 :: b1 :: b2 :: runB c0 c1 c2 c3 c4 c5 c6 F (IntKind.wrap .i64 (x + 1)) c9 :: T) = _
    rw [hw]
    exact List.take_of_length_le (by simp)
end Go.Proofs.Ytnicgdfnfnchjaa
