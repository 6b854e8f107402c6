/-
  tree.play's deferred closure.
-/
import Derived.Test.YtnicgdfnfnchjaaRows
import Derived.Test.YtnicgdfnfnchjaaD3
set_option linter.unusedVariables false
set_option maxRecDepth 20000
namespace Go.Proofs.Ytnicgdfnfnchjaa
open Go.Abs

instance closedPP (P : Program) (fn : Func) (m : Nat) (K : List Blk → Prop) : PP (closedQ P fn m K) := ⟨fun v s h => h⟩

theorem mixed : Try.prog.follows .mixedOrders = true := by kernel_rfl

/-- Nothing was thrown. -/
theorem d80_none {G : List Blk} {i j : Nat} (hi : i < G.length) (hj : j < G.length) {K : List Blk → Prop} (h : K G) : ADef Try.prog 80 [.ptr (.g i) 0, .ptr (.g j) 0] G none K := by
  refine adef_recover ⟨14, [], false, fun _ => none, fun _ => none⟩ Try.func80 rfl rfl rfl (by simp) rfl rfl (by simp) rfl fun hG => ?_
  refine vopsL_take 7 rfl ?_
  refine vopsL_done ?_
  refine awp_seq ?_
  refine awp_run rfl ?_
  refine awp_if false rfl (fun e => by cases e) fun _ => ?_
  refine awp_skip ?_
  show closedQ _ _ _ _ .normal _
  simp only [closedQ]
  refine ⟨?_, ?_⟩
  · exact cutOk_same [] hG (List.append_nil G).symm rfl
  · show K (List.take G.length G)
    rw [List.take_length]; exact h

/-- An ending was thrown. -/
theorem d80_some {G : List Blk} {i j : Nat} {x y : AV} {k c : Int} (hne : i ≠ j) (hi : G[i]? = some (.cells [x])) (hj : G[j]? = some (.cells [y])) {K : List Blk → Prop} (h : K ((G.set i (.cells [.p (.int .i64 k)])).set j (.cells [.p (.int .i64 c)]))) :
    ADef Try.prog 80 [.ptr (.g i) 0, .ptr (.g j) 0] G (some (.iface 136 (.agg [.p (.int .i64 k), .p (.int .i64 c)]))) K := by
  refine adef_recover ⟨14, [], false, fun _ => none, fun _ => none⟩ Try.func80 rfl rfl rfl (by simp) rfl rfl (by simp) rfl fun hG => ?_
  refine vopsL_take 7 rfl ?_
  refine vopsL_done ?_
  refine awp_seq ?_
  refine awp_run rfl ?_
  refine awp_if true rfl (fun _ => ?_) (fun e => by cases e)
  have hlen : ((G.set i (.cells [.p (.int .i64 k)])).set j (.cells [.p (.int .i64 c)])).length = G.length := by simp
  have fin : ∀ s : St, s.G = (G.set i (.cells [.p (.int .i64 k)])).set j (.cells [.p (.int .i64 c)]) → closedQ Try.prog Try.f80 G.length K .normal s := fun s hs => by
    simp only [closedQ]
    refine ⟨?_, ?_⟩
    · have := cutOk_same (G := (G.set i (.cells [.p (.int .i64 k)])).set j (.cells [.p (.int .i64 c)])) (s := s) (v := .tuple []) []
        (okG_set (okG_set hG i (by rfl)) j (by rfl)) (by simp [hs]) rfl
      rw [hlen] at this
      exact this
    · show K (List.take G.length s.G)
      rw [hs, List.take_of_length_le (by simp)]; exact h
  have hj' : (G.set i (.cells [.p (.int .i64 k)]))[j]? = some (.cells [y]) := by rw [List.getElem?_set, if_neg hne]; exact hj
  refine awp_open 0 [0, 2] [.ptr (.l 2) 0, .ptr (.l 2) 1] [] [] [] (.two 1 (.two 3 (.one 4 (.one 5 .done)) 4 (.one 3 (.one 5 .done))) 3 (.one 1 (.one 4 (.one 5 .done)))) mixed (by kernel_rfl) rfl (by kernel_rfl) (by kernel_rfl) ?_
  refine ⟨by kernel_rfl, rfl, ?_, ?_⟩
  · refine ⟨fun h => absurd h (by decide), rfl, ?_⟩
    refine vop_st (s' := St.put _ (some 11) (.p (.int .i64 k))) rfl ?_
    refine ⟨by kernel_rfl, rfl, ?_, ?_⟩
    · refine ⟨fun h => absurd h (by decide), rfl, ?_⟩
      refine vop_st (s' := St.put _ (some 13) (.p (.int .i64 c))) rfl ?_
      refine ⟨by kernel_rfl, fun h => absurd h (by decide), rfl, ?_⟩
      refine vop_st (eff_store rfl rfl rfl rfl (cs := [x]) hi (by simp) (by kernel_rfl)) ?_
      refine ⟨by kernel_rfl, fun h => absurd h (by decide), rfl, ?_⟩
      refine vop_st (eff_store rfl rfl rfl rfl (cs := [y]) hj' (by simp) (by kernel_rfl)) ?_
      exact ⟨by kernel_rfl, _, Weak.refl _, fin _ rfl⟩
    · refine ⟨fun h => absurd h (by decide), rfl, ?_⟩
      refine vop_st (eff_store rfl rfl rfl rfl (cs := [x]) hi (by simp) (by kernel_rfl)) ?_
      refine ⟨by kernel_rfl, fun h => absurd h (by decide), rfl, ?_⟩
      refine vop_st (s' := St.put _ (some 13) (.p (.int .i64 c))) rfl ?_
      refine ⟨by kernel_rfl, fun h => absurd h (by decide), rfl, ?_⟩
      refine vop_st (eff_store rfl rfl rfl rfl (cs := [y]) hj' (by simp) (by kernel_rfl)) ?_
      exact ⟨by kernel_rfl, _, Weak.refl _, fin _ rfl⟩
  · refine ⟨fun h => absurd h (by decide), rfl, ?_⟩
    refine vop_st (s' := St.put _ (some 13) (.p (.int .i64 c))) rfl ?_
    refine ⟨by kernel_rfl, fun h => absurd h (by decide), rfl, ?_⟩
    refine vop_st (s' := St.put _ (some 11) (.p (.int .i64 k))) rfl ?_
    refine ⟨by kernel_rfl, fun h => absurd h (by decide), rfl, ?_⟩
    refine vop_st (eff_store rfl rfl rfl rfl (cs := [x]) hi (by simp) (by kernel_rfl)) ?_
    refine ⟨by kernel_rfl, fun h => absurd h (by decide), rfl, ?_⟩
    refine vop_st (eff_store rfl rfl rfl rfl (cs := [y]) hj' (by simp) (by kernel_rfl)) ?_
    exact ⟨by kernel_rfl, _, Weak.refl _, fin _ rfl⟩
end Go.Proofs.Ytnicgdfnfnchjaa
