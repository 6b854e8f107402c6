/-
  From a contract over the abstract state to what a statement asks.
-/
import Derived.Test.YtnicgdfnfnchjaaD2
import Derived.RowKit3
set_option linter.unusedVariables false
namespace Go.Abs

/-- All that is there stands for ever; nothing is the call's own. -/
def Sg.top (w : World) : Sg where
  I := fun b o => w.cell? ⟨b, o, none⟩
  blk := fun _ => none
  tok := fun _ => none

theorem top_owns {w : World} {b : Nat} : ¬ (Sg.top w).Owns b := by
  rintro (⟨k, h⟩ | ⟨t, e, l, h⟩) <;> simp [Sg.top] at h

theorem Grown.of_post {σ' : Sg} {w w' : World} (h : Post (Sg.top w) σ' w w') : Go.RowKit.Grown w w' := by
  refine ⟨⟨h.os, h.output, fun i hi => ?_⟩, h.fz, h.size⟩
  rw [h.frame i hi top_owns]
  split
  · rename_i c t fr c' t' fr' h1 h2
    rw [h1] at h2
    cases h2
    exact ⟨rfl, rfl, rfl, fun _ _ => rfl⟩
  · rename_i h1 h2
    rw [h1] at h2
    cases h2
    exact .inr ⟨rfl, rfl⟩
  · rfl

/-- A statement's call, by its contract. -/
theorem calls_law {P : Program} {f : FuncId} {args : List AV} {args' : Array Value} {w : World} {R : AEnd → List Blk → Prop} (h : ACalls P f args [] R) (hsz : args'.size = args.length)
    (hrel : ∀ (i : Nat) (v : AV), args[i]? = some v → Rel (Sg.top w) v (args'.getD i undef)) (hR : ∀ r G, R r G → r = .ret (.p (.bool true))) :
    Calls P f args' w fun e w' => e = .returned (.bool true) ∧ Go.RowKit.Grown w w' := by
  have hs : RelS (Sg.top w) (.args args []) args.length { tmps := args', defers := [] } w := by
    refine ⟨hsz, rfl, fun t x h => ?_, fun k blk h => ?_, fun k blk h => ?_, fun id h => rfl, fun t h => rfl, ⟨?_, ?_, ?_, ?_, ?_, ?_, fun _ _ _ h => h⟩⟩
    · simp only [St.args, get_zipTs, Nat.zero_le, if_true, Nat.sub_zero] at h
      exact ⟨(List.getElem?_eq_some_iff.1 h).1, hrel t x h⟩
    · cases k <;> simp [St.look, St.args, get] at h
    · cases k <;> simp [St.look, St.args, get] at h
    all_goals intros; simp_all [Sg.top]
  refine (h.2 (Sg.top w) args' w hs (fun k b h => by simp [Sg.top] at h) (fun t x h => by simp [Sg.top] at h)).mono ?_
  rintro e w' ⟨r, G', σ', h1, h2, h3, h4, h5, h6⟩
  have := hR _ _ h6
  subst this
  cases h1 with | ret hv _ =>
  exact ⟨by rw [bool_inv hv], Grown.of_post h5⟩
end Go.Abs
