/-
  The texts of TreeCounts, and what is known of the calls of its rounds.
-/
import Derived.Test.YtnicgdfnfnchjaaW4
set_option linter.unusedVariables false
set_option maxRecDepth 100000
namespace Go.Proofs.Ytnicgdfnfnchjaa
open Go.Abs

def bytes0 : ByteArray := { data := #[] }
def bytesF : ByteArray := { data := #[102] }
def i64 (n : Int) : PV := .int .i64 n
def eC (c : Int) : List PV := [i64 1, i64 c, .str bytes0, .vec []]
def eL : List PV := [i64 2, i64 0, .str bytes0, .vec []]
def sB : List PV := [i64 7, i64 0, .vec [], .vec [], .vec []]
def sI : List PV := [i64 5, i64 0, .vec [[i64 4, i64 3, .str bytes0, .vec [eL]]], .vec [sB], .vec []]
def sO : List PV := [i64 4, i64 0, .vec [eL], .vec [], .vec []]
def sD : List PV := [i64 1, i64 0, .vec [[i64 3, i64 2, .str bytes0, .vec [eL, eC 1]]], .vec [], .vec []]
def bodyC : List (List PV) := [sI, sO, sD]
def funC (k : Int) : List PV := [.str bytesF, .bool false, i64 0, i64 1, .vec [[i64 1, i64 0, .vec [eC k], .vec [], .vec []], [i64 6, i64 0, .vec [], .vec bodyC, .vec []]]]
def modC (k : Int) : PV := .vec [[.str bytes0, .vec [funC k], .vec []]]

/-- The heap while TreeCounts' function runs: x steps are done, the local is j. -/
def heapC (fr : List (List PV)) (out : AV) (x j : Int) : List Blk :=
  [.map [(.str bytesF, .p (i64 1), 0)] 1, .map [] 0, .cells [.p (i64 0)],
   runB (.own fr (.c (.g 3) 0)) (.map 0) (.map 1) (.ref (.g 2) 0 1 1) (.p (i64 1)) (.p (.vec [])) out 100000 x (.p (i64 1)),
   .cells [.p (i64 0)], .cells [.p (i64 0)], .cells [.p (i64 j)], .cells [.ref (.g 6) 0 1 1, .p (i64 0), .p (i64 0)]]

def isRun : List AV → Bool
  | [.ptr (.g 3) 0] => true
  | _ => false

theorem isRun_eq {l : List AV} (h : isRun l = true) : l = [.ptr (.g 3) 0] := by
  unfold isRun at h
  split at h
  · rfl
  · cases h

def stepAns : List Blk → Option (AEnd × List Blk × List Prop)
  | b0 :: b1 :: b2 :: .cells [c0, c1, c2, c3, c4, c5, c6, .p (.int .i64 F), .p (.int .i64 x), c9] :: T =>
    some (.ret (.tuple []), b0 :: b1 :: b2 :: runB c0 c1 c2 c3 c4 c5 c6 F (x + 1) c9 :: T, [x ≠ F ∧ 0 ≤ x ∧ x < 1000000])
  | _ => none

/-- Steps, under the condition that there are some left. -/
def extS : XF := fun f args G => if (f == 150 && isRun args) = true then stepAns G else extOf f args G

theorem extS_ok : extS.ok Try.prog := by
  intro f args G r G' ps h hp
  unfold extS at h
  split at h
  · rename_i hc
    simp only [Bool.and_eq_true, beq_iff_eq] at hc
    obtain ⟨rfl, hc⟩ := hc
    rw [isRun_eq hc]
    unfold stepAns at h
    split at h
    · rename_i b0 b1 b2 c0 c1 c2 c3 c4 c5 c6 F x c9 T
      simp only [Option.some.injEq, Prod.mk.injEq] at h
      obtain ⟨rfl, rfl, rfl⟩ := h
      exact c_step b0 b1 b2 c0 c1 c2 c3 c4 c5 c6 c9 F x T (hp _ (List.mem_singleton.2 rfl))
    · cases h
  · exact ext_ok _ _ _ _ _ _ h hp
end Go.Proofs.Ytnicgdfnfnchjaa
