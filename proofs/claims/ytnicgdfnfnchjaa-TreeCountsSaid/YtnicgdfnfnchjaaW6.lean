/-
  The loop of TreeCounts' function, round by round.
-/
import Derived.Test.YtnicgdfnfnchjaaW5
import Derived.Test.YtnicgdfnfnchjaaX2
set_option linter.unusedVariables false
set_option maxRecDepth 100000
namespace Go.Proofs.Ytnicgdfnfnchjaa
open Go.Abs

/-- Which way branches go: z, is the local 0? -/
def orcR (z : Bool) : FuncId → Orc := fun f t => if (f == 149 && t == 3) = true then some z else if (f == 137 && (t == 77 || t == 1000000)) = true then some true else none

noncomputable def xfR (z : Bool) : XF := xcall Try.prog extS xdOf heapOf (orcR z) fzOf 1000 12

theorem xfR_ok (z : Bool) : (xfR z).ok Try.prog := xcall_sound extS_ok xd_ok mixed 12

def S (x : Int) : Prop := x ≠ 100000 ∧ 0 ≤ x ∧ x < 1000000

theorem chunk1 (v : PV) : chunk (Try.prog.cellsOf 5) 1 [v] = [[v]] := by kernel_rfl

def outO (rws : List (List PV)) : AV := .own rws (.c (.g 3) 6)

/-- The slots of the loop's frame that count. -/
def loopS (G : List Blk) : St := { ts := [(0, .ptr (.g 3) 0), (1, .ptr (.g 7) 0), (2, .p (.vec bodyC))], L := [], G := G }

/-- What has been put out after n rounds, from k on. -/
def rowsC (k : Int) (n : Nat) : List (List PV) := (List.range n).map fun (i : Nat) => [PV.int .u8 (IntKind.wrap .u8 (k - i))]

theorem rowsC_succ (k : Int) (n : Nat) : rowsC k (n + 1) = rowsC k n ++ [[PV.int .u8 (IntKind.wrap .u8 (k - n))]] := by
  simp [rowsC, List.range_succ]

theorem rowsC_len (k : Int) (n : Nat) : (rowsC k n).length = n := by simp [rowsC]

theorem rowsC_one (k : Int) (n : Nat) : ∀ row ∈ rowsC k n, row.length = 1 := fun row h => by
  simp only [rowsC, List.mem_map] at h
  obtain ⟨i, _, rfl⟩ := h
  rfl

/-- So many steps on. -/
def up : Nat → Int → Int
  | 0, x => x
  | n + 1, x => up n x + 1

theorem up_eq (n : Nat) (x : Int) : up n x = x + n := by
  induction n with
  | zero => simp [up]
  | succ n ih => simp only [up, ih]; omega

theorem S_up {n : Nat} {x : Int} (h : 0 ≤ x) (h2 : x + n < 100000) : S (up n x) := by
  rw [up_eq]; unfold S; omega

theorem c_loop (fr : List (List PV)) (k : Nat) (x : Int) (hk : k ≤ 255) (hx : 0 ≤ x ∧ x ≤ 50) :
    ACalls Try.prog 153 [.ptr (.g 3) 0, .ptr (.g 7) 0, .p (.vec bodyC)] (heapC fr (.full []) x k) fun r G' => r = .ret (.p (i64 0)) ∧ G' = heapC fr (outO (rowsC k k)) (x + 10 * k + 5) 0 := by
  refine acalls_fn ⟨38, [], false, fun _ => none, fun _ => none⟩ Try.func153 rfl rfl rfl (by simp) fun hG => ?_
  refine awp_seq (awp_run rfl ?_)
  refine awp_scope (awp_seq (awp_label ?_))
  refine awp_seq (awp_block ?_)
  refine awp_weak (s' := loopS (heapC fr (outO []) x k)) ?_ ?_
  · refine (weak3 (G := heapC fr (.full []) x k) rfl rfl rfl rfl rfl).trans ?_
    intro σ nt a w hr
    exact ⟨σ, hr.lessCell (k := .g 3) (off := 6) (y := outO []) rfl rfl (fun z h => by cases h with | full h => exact .own h (.inl rfl)) rfl, .refl _ _⟩
  refine awp_loop (fun n s => ∃ i : Nat, s = loopS (heapC fr (outO (rowsC k i)) (x + 10 * i) (k - i)) ∧ i ≤ k ∧ n = k - i) k ⟨0, by simp [rowsC], by omega, rfl⟩ ?_
  rintro n s ⟨i, rfl, hi, rfl⟩
  refine awp_block ?_
  by_cases hz : i = k
  · subst hz
    refine awp_res (orc := orcR true 153) (f := 1000) (xfR_ok true) mixed (e := .exit 0) (by kernel_rfl) ?_ ?_
    · refine certs_of (l := [S (up 0 (x + 10 * i)), S (up 1 (x + 10 * i)), S (up 2 (x + 10 * i)), S (up 3 (x + 10 * i)), ((i : Int) - i == 0) = true, S (up 4 (x + 10 * i))]) (by kernel_rfl) ?_
      have : ((i : Int) - i == 0) = true := by simp
      refine certs_cons (S_up (by omega) (by omega)) <| certs_cons (S_up (by omega) (by omega)) <| certs_cons (S_up (by omega) (by omega)) <| certs_cons (S_up (by omega) (by omega)) <| certs_cons this <| certs_cons (S_up (by omega) (by omega)) certs_nil
    · refine awp_weak (s' := loopS (heapC fr (outO (rowsC i i)) (up 5 (x + 10 * i)) ((i : Int) - i))) (weak3 (by kernel_rfl) (by kernel_rfl) (by kernel_rfl) (by kernel_rfl) (by kernel_rfl)) ?_
      refine awp_seq (awp_run rfl (awp_ret ?_))
      have hcut : ∀ (y j : Int), cutOk (heapC fr (AV.full []) x i).length (heapC fr (outO (rowsC i i)) y j) (.p (i64 0)) = true := fun y j => by kernel_rfl
      refine q_noGoto ?_
      refine leave_ret (v := .p (i64 0)) rfl (hcut (up 5 (x + 10 * i)) ((i : Int) - i)) ⟨rfl, ?_⟩
      show List.take 8 (heapC fr (outO (rowsC i i)) (up 5 (x + 10 * i)) ((i : Int) - i)) = _
      rw [up_eq, Int.sub_self]
      rfl
  · refine awp_res (orc := orcR false 153) (f := 1000) (xfR_ok false) mixed (e := .exit 1) (by kernel_rfl) ?_ ?_
    · refine certs_of (l := [S (up 0 (x + 10 * i)), S (up 1 (x + 10 * i)), S (up 2 (x + 10 * i)), S (up 3 (x + 10 * i)), ((k : Int) - i == 0) = false, S (up 4 (x + 10 * i)), S (up 5 (x + 10 * i)), decide (((rowsC k i).length : Int) < 4096) = true,
        appC (Try.prog.cellsOf 5) (rowsC k i) (chunk (Try.prog.cellsOf 5) 1 [PV.int .u8 (IntKind.wrap .u8 (k - i))]), S (up 6 (x + 10 * i)), S (up 7 (x + 10 * i)), S (up 8 (x + 10 * i)), S (up 9 (x + 10 * i)), S (up 7 (x + 10 * i)), S (up 8 (x + 10 * i)), S (up 9 (x + 10 * i)),
        heapC fr (outO (rowsC k i ++ chunk (Try.prog.cellsOf 5) 1 [PV.int .u8 (IntKind.wrap .u8 (k - i))])) (up 10 (x + 10 * i)) (IntKind.wrap .i64 (k - i - 1)) = heapC fr (outO (rowsC k i ++ chunk (Try.prog.cellsOf 5) 1 [PV.int .u8 (IntKind.wrap .u8 (k - i))])) (up 10 (x + 10 * i)) (IntKind.wrap .i64 (k - i - 1)) ∧ [(5, sD.map AV.p)] = [(5, sD.map AV.p)]]) (by kernel_rfl) ?_
      have hki : (k : Int) - i ≠ 0 := by omega
      have h4096 : decide (((rowsC k i).length : Int) < 4096) = true := by rw [rowsC_len]; simp; omega
      have happ : appC (Try.prog.cellsOf 5) (rowsC k i) (chunk (Try.prog.cellsOf 5) 1 [PV.int .u8 (IntKind.wrap .u8 (k - i))]) := by
        rw [chunk1, show Try.prog.cellsOf 5 = 1 by kernel_rfl]
        exact ⟨rowsC_one k i, by simp, by rw [rowsC_len]; simp; omega⟩
      refine certs_cons (S_up (by omega) (by omega)) <| certs_cons (S_up (by omega) (by omega)) <| certs_cons (S_up (by omega) (by omega)) <| certs_cons (S_up (by omega) (by omega)) <| certs_cons (by simpa using hki) <| certs_cons (S_up (by omega) (by omega)) <| certs_cons (S_up (by omega) (by omega)) <|
        certs_cons h4096 <| certs_cons happ <| certs_cons (S_up (by omega) (by omega)) <| certs_cons (S_up (by omega) (by omega)) <| certs_cons (S_up (by omega) (by omega)) <| certs_cons (S_up (by omega) (by omega)) <| certs_cons (S_up (by omega) (by omega)) <| certs_cons (S_up (by omega) (by omega)) <| certs_cons (S_up (by omega) (by omega)) <| certs_cons ⟨rfl, rfl⟩ certs_nil
    · refine ⟨k - (i + 1), _, by omega, weak3 (a := .ptr (.g 3) 0) (b := .ptr (.g 7) 0) (c := .p (.vec bodyC)) (G := heapC fr (outO (rowsC k i ++ chunk (Try.prog.cellsOf 5) 1 [PV.int .u8 (IntKind.wrap .u8 (k - i))])) (up 10 (x + 10 * i)) (IntKind.wrap .i64 (k - i - 1))) (by kernel_rfl) (by kernel_rfl) (by kernel_rfl) (by kernel_rfl) (by kernel_rfl), i + 1, ?_, by omega, rfl⟩
      rw [chunk1, ← rowsC_succ, up_eq, wrap_i64 (by omega)]
      show loopS _ = _
      congr 2 <;> omega
end Go.Proofs.Ytnicgdfnfnchjaa
