/-
  The tree code's examples: 'awake' answers true.
-/
import Derived.Test.YtnicgdfnfnchjaaW2
set_option linter.unusedVariables false
set_option maxRecDepth 100000
namespace Go.Proofs.Ytnicgdfnfnchjaa
open Go.Abs

def isT : Option (AEnd × List Blk × List Prop) → Bool
  | some (.ret (.p (.bool true)), [], []) => true
  | _ => false

theorem isT_eq {r : Option (AEnd × List Blk × List Prop)} (h : isT r = true) : r = some (.ret (.p (.bool true)), [], []) := by
  unfold isT at h
  split at h
  · rfl
  · cases h

theorem awake_reckoned : isT (xcall Try.prog extOf xdOf heapOf (fun _ _ => none) fzOf 1000 30 12 [] []) = true := by kernel_rfl

theorem c_awake0 : ACalls Try.prog 12 [] [] fun r G => r = .ret (.p (.bool true)) ∧ G = [] :=
  xcall_sound ext_ok xd_ok mixed 30 _ _ _ _ _ _ (isT_eq awake_reckoned) (by simp)

/-- The examples come out right, whatever else there is. -/
theorem c_awake (G : List Blk) : ACalls Try.prog 12 [] G fun r G' => r = .ret (.p (.bool true)) ∧ G' = G := by
  have h := c_awake0.frame (G := G) [] (by simp) rfl rfl (by simp) (fun r H h => by rw [h.2])
  refine h.mono ?_
  rintro r G' ⟨r0, H', ⟨rfl, rfl⟩, rfl, rfl⟩
  exact ⟨rfl, rfl⟩
end Go.Proofs.Ytnicgdfnfnchjaa
