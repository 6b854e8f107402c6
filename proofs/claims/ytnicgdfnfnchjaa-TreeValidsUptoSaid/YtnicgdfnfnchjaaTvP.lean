/-
  TreeValids is shown for every module of which what it reads is of bulk at most 1048576: which tree code is right is the document's.
-/
import Derived.Test.YtnicgdfnfnchjaaRows
import Derived.JoinedCond
import Derived.Test.YtnicgdfnfnchjaaTvM6
namespace Go.Proofs.Ytnicgdfnfnchjaa.treeValids
open Go.ChangeShapes Go.WideShapes Go.ChangeAt Go.RowKit Go.Abs
set_option linter.unusedVariables false

theorem own : ownKnob Try.prog.godebug = none := by kernel_rfl
theorem laidOut : laidOutB Try.prog = true := by kernel_rfl

theorem weigh (H : Type) : Weigh (Rows.uptoBulk (H := H)) := by
  have hsum : ∀ l : List (DataW H), (l.map Rows.uptoBulk).sum = Rows.uptoBulkAll l := by
    intro l
    induction l with
    | nil => simp [Rows.uptoBulkAll]
    | cons d r ih => simp [Rows.uptoBulkAll, ih]
  refine ⟨fun e s => ?_, fun p => ?_, fun d => ?_⟩
  · rw [hsum]; simp only [Rows.uptoBulk]; omega
  · rw [hsum]; simp only [Rows.uptoBulk]; omega
  · cases d with
    | lit l => cases l <;> simp [Rows.uptoBulk]
    | _ => simp [Rows.uptoBulk]

/-- The walk: the Go text returns true. -/
theorem walk (m : M) (hf : m.fit) (v0 : Value) (W : World) (h0 : Rel (Sg.top W) (.agg (m.row.map .p)) v0) :
    Calls Try.prog 3 #[v0] W fun e w' => e = .returned (.bool true) ∧ Grown W w' ∧ Below W.heap.size W w' :=
  calls_law2 (c_treeValids m hf) rfl (fun i v h => by
    match i with
    | 0 => simp only [List.getElem?_cons_zero, Option.some.injEq] at h; subst h; exact h0
    | i + 1 => simp at h) (fun r G h => h.1)

set_option maxRecDepth 100000 in
theorem lifted (os : Os) (started : os.Started) (H : Type) (enc : TypeId × Value → H) (F0 : Stop.Interp) :
    ReturnsInHanded {} Try.checked os 3 .any ((Rows.OpenSpec.upto Rows.treeValidsSpec).pre6 enc Try.prog Try.f3 Rows.treeValidsUptoRow.domain false) (((Rows.OpenSpec.upto Rows.treeValidsSpec).at F0).post enc Try.prog Try.f3 false true false false) := by
  refine returnsInHanded_of_cond (C := Try.checked) (s := Rows.OpenSpec.upto Rows.treeValidsSpec) (k := Rows.uptoSmall) rfl own started (by kernel_rfl) Try.func3
    (OpenSpec.witness (enc := enc) (C := Try.checked) (s := Rows.OpenSpec.upto Rows.treeValidsSpec) (k := Rows.uptoSmall) rfl false ⟨#[], #[.agg #[.string ⟨#[]⟩, .slice none 0 0, .slice none 0 0]], []⟩ 8 (by kernel_rfl) (by kernel_rfl) (by kernel_rfl)
      (x := ([.agg [.lit (.string []), .nil, .nil]], [], [])) (by kernel_rfl) (by kernel_rfl) (by kernel_rfl)) ?_
  intro W base args ds gs before hval0 hW _ hk _
  have hval : ∀ (j : Nat) t v, Try.f3.params[j]? = some t → args[j]? = some v → Value.okWide Try.prog W .any base t v := hval0
  have hW' := hW
  obtain ⟨p, q, hA0, hV, rfl, hfz, hnd⟩ := hW
  have hA : DataW.TrodAll enc Try.prog W 0 (fun _ => true) true Try.f3.params.toList args.toList ds p := hA0
  have hAk := hA
  rw [Try.params3] at hA hval
  obtain ⟨v0, vs0, d0, ds0, p0, q0, hargs, rfl, rfl, h0, r0⟩ := trodAll_cons hA
  obtain ⟨rfl, rfl, rfl⟩ := trodAll_nil r0
  obtain rfl : args = #[v0] := by cases args; simp_all
  obtain ⟨rfl, rfl⟩ := trodVars_none hV
  obtain ⟨m, hm, hsz⟩ := rel_struct Try.underlying25 (hval 0 25 v0 rfl rfl) h0 (fun n => dec_M (weigh H) n)
  have hfit : m.fit := M.wt_fit (k := 1048576) (by
    have h : Rows.uptoBulkAll ([d0] ++ []) ≤ 1048576 := of_decide_eq_true hk
    simp only [List.append_nil, Rows.uptoBulkAll] at h
    omega) (by omega)
  have hlt := fun x hx => hW'.lt x hx
  refine (walk m hfit v0 W hm).mono fun e W' ⟨he, hg, hbl⟩ => ?_
  subst he
  refine ⟨_, rfl, post_of_same (pa := p0 ++ []) (pv := []) hW' (fun _ _ _ => (trodAll_cons_mk (shut_bool Try.underlying4 _) trodAll_mk0)) (fun sp hsp => ?_) (fun _ _ => rfl) rfl
    (hg.frame _) hg.2.1 (ok_one (by kernel_rfl) rfl (okWide_bool_mk Try.underlying4 _))⟩
  refine trodAll_stays laidOut (fun t ht => ?_) hAk (fun x hx => hbl.same (hlt x (by simpa using hx))) (fun x hx => hsp x (by simpa using hx))
  rw [Try.params3] at ht
  simp only [List.mem_cons, List.not_mem_nil, or_false] at ht
  subst ht
  exact ⟨by kernel_rfl, of_decide_eq_true (by kernel_rfl)⟩

theorem over : Rows.treeValidsUptoRow.holds Try.pinned (Rows.OpenSpec.upto Rows.treeValidsSpec) :=
  OpenClaim.holds_of_cond 3 Try.f3 rfl rfl rfl rfl rfl rfl rfl ⟨rfl, rfl, rfl, rfl, rfl⟩ rfl rfl rfl rfl rfl (by kernel_rfl) Try.func3 (by kernel_rfl)
    (of_decide_eq_true (by kernel_rfl)) (by unfold Func.isWrapper; first | (rw [if_pos (by decide +kernel)]; kernel_rfl) | (rw [if_neg (by decide +kernel)]; exact ⟨rfl, rfl⟩))
    (fun os started H enc _ F0 => lifted os started H enc F0)

/-- The statement. -/
theorem proved : Rows.TreeValidsUptoSaid :=
  over
#print axioms proved
end Go.Proofs.Ytnicgdfnfnchjaa.treeValids
