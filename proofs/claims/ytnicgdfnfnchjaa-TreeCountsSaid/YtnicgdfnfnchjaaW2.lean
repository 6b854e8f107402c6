/-
  What calls of the examples are reckoned with: a copy of nothing; tree.play's closure.
-/
import Derived.Test.YtnicgdfnfnchjaaRows
import Derived.Test.YtnicgdfnfnchjaaW1
import Derived.Test.YtnicgdfnfnchjaaX1
set_option linter.unusedVariables false
set_option maxRecDepth 20000
namespace Go.Proofs.Ytnicgdfnfnchjaa
open Go.Abs
/-- A copy of nothing. -/
theorem c_clone_nil (G : List Blk) : ACalls Try.prog 91 [.p (.vec [])] G (fun r G' => r = .ret (.p (.vec [])) ∧ G' = G) := by
  refine acalls_fn ⟨8, [], false, fun _ => none, fun _ => none⟩ Try.func91 rfl rfl rfl (by simp) fun hG => ?_
  refine awp_seq (awp_run rfl ?_)
  refine awp_seq (awp_seq ?_)
  refine awp_ops ?_
  refine vopsL_take 1 rfl ?_
  refine vopsL_any rfl ?_ rfl fun b => ?_
  · exact rfl
  refine vopsL_done ?_
  refine awp_if b rfl (fun hb => ?_) (fun hb => ?_)
  · refine awp_seq (awp_run rfl (awp_ret ?_))
    repeat refine q_ret ?_
    refine leave_ret_same [] rfl hG ?_ rfl ⟨rfl, rfl⟩
    exact (List.append_nil G).symm
  · refine awp_skip ?_
    refine awp_seq (awp_run rfl (awp_ret ?_))
    repeat refine q_ret ?_
    refine leave_ret_same [] rfl hG ?_ rfl ⟨rfl, rfl⟩
    exact (List.append_nil G).symm

/-- Which variables of which functions are seen outside their frames. -/
def heapOf : Nat → List Nat
  | 18 => [52]
  | 19 => [44]
  | 23 => [5]
  | 25 => [78]
  | 26 => [19]
  | 32 => [10]
  | 33 => [33]
  | 40 => [6, 7]
  | 42 => [11]
  | 67 => [6, 7]
  | 71 => [5]
  | 73 => [60]
  | 83 => [54]
  | 91 => [7]
  | 99 => [2]
  | 111 => [5, 6]
  | 122 => [21]
  | _ => []

def isNil : List AV → Bool
  | [.p (.vec [])] => true
  | _ => false

theorem isNil_eq {l : List AV} (h : isNil l = true) : l = [.p (.vec [])] := by
  unfold isNil at h
  split at h
  · rfl
  · cases h

def extOf : XF := fun f args G => if (f == 91 && isNil args) = true then some (.ret (.p (.vec [])), G, []) else none

theorem ext_ok : extOf.ok Try.prog := by
  intro f args G r G' ps h _
  unfold extOf at h
  split at h
  · rename_i hc
    simp only [Bool.and_eq_true, beq_iff_eq] at hc
    obtain ⟨rfl, hc⟩ := hc
    rw [isNil_eq hc]
    simp only [Option.some.injEq, Prod.mk.injEq] at h
    obtain ⟨rfl, rfl, rfl⟩ := h
    exact c_clone_nil G
  · cases h

def twoPtr : List AV → Option (Nat × Nat)
  | [.ptr (.g i) 0, .ptr (.g j) 0] => some (i, j)
  | _ => none

theorem twoPtr_eq {l : List AV} {i j : Nat} (h : twoPtr l = some (i, j)) : l = [.ptr (.g i) 0, .ptr (.g j) 0] := by
  unfold twoPtr at h
  split at h
  · simp only [Option.some.injEq, Prod.mk.injEq] at h; rw [h.1, h.2]
  · cases h

/-- What an ending says. -/
def endingOf (t : TypeId) : AV → Option (Int × Int)
  | .iface t' (.agg [.p (.int .i64 k), .p (.int .i64 c)]) => if t' = t then some (k, c) else none
  | _ => none

theorem endingOf_eq {t : TypeId} {v : AV} {k c : Int} (h : endingOf t v = some (k, c)) : v = .iface t (.agg [.p (.int .i64 k), .p (.int .i64 c)]) := by
  unfold endingOf at h
  split at h
  · split at h
    · rename_i ht
      simp only [Option.some.injEq, Prod.mk.injEq] at h; rw [ht, h.1, h.2]
    · cases h
  · cases h

def oneCell : Option Blk → Bool
  | some (.cells [_]) => true
  | _ => false

theorem oneCell_eq {b : Option Blk} (h : oneCell b = true) : ∃ x, b = some (.cells [x]) := by
  unfold oneCell at h
  split at h
  · exact ⟨_, rfl⟩
  · cases h

/-- What a closure of type t's endings leaves. -/
def caught (t : TypeId) (caps : List AV) (G : List Blk) (pv : Option AV) : Option (List Blk) :=
  match twoPtr caps with
  | some (i, j) => if oneCell G[i]? && oneCell G[j]? && !(i == j) then match pv with
      | none => some G
      | some v => match endingOf t v with
        | some (k, c) => some ((G.set i (.cells [.p (.int .i64 k)])).set j (.cells [.p (.int .i64 c)]))
        | none => none
    else none
  | none => none

def xdOf : XD := fun g caps G pv => if g = 80 then caught 136 caps G pv else none

theorem xd_ok : xdOf.ok Try.prog := by
  intro g caps G pv G' h K hK
  unfold xdOf at h
  split at h
  · rename_i hg
    subst hg
    unfold caught at h
    split at h
    · rename_i i j hc
      rw [twoPtr_eq hc]
      split at h
      · rename_i hij
        simp only [Bool.and_eq_true, Bool.not_eq_true', beq_eq_false_iff_ne] at hij
        obtain ⟨⟨h1, h2⟩, h3⟩ := hij
        obtain ⟨x, h1⟩ := oneCell_eq h1
        obtain ⟨y, h2⟩ := oneCell_eq h2
        split at h
        · simp only [Option.some.injEq] at h; subst h
          exact d80_none (List.getElem?_eq_some_iff.1 h1).1 (List.getElem?_eq_some_iff.1 h2).1 hK
        · split at h
          · rename_i k c he
            simp only [Option.some.injEq] at h; subst h
            rw [endingOf_eq he]
            exact d80_some h3 h1 h2 hK
          · cases h
      · cases h
    · cases h
  · cases h

def fzOf (f : FuncId) : Bool := f == 48

end Go.Proofs.Ytnicgdfnfnchjaa
