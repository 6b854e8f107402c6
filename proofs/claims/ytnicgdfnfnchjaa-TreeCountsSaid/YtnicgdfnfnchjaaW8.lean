/-
  TreeCounts itself.
-/
import Derived.Test.YtnicgdfnfnchjaaW7
set_option linter.unusedVariables false
set_option maxRecDepth 100000
namespace Go.Proofs.Ytnicgdfnfnchjaa
open Go.Abs

def outcomeC (k : Int) : List AV := [.p (i64 1), .p (i64 0), .p (.vec (rowsC k k.toNat)), .p (i64 (3 + 10 * k + 5))]

def extC (k : Int) : XF := fun f args G => if f = 18 then some (.ret (.agg (outcomeC k)), G, [args = argsC k ∧ G = [] ∧ 0 ≤ k ∧ k ≤ 255]) else extOf f args G

theorem extC_ok (k : Int) : (extC k).ok Try.prog := by
  intro f args G r G' ps h hp
  unfold extC at h
  split at h
  · rename_i hf
    subst hf
    simp only [Option.some.injEq, Prod.mk.injEq] at h
    obtain ⟨rfl, rfl, rfl⟩ := h
    obtain ⟨h1, h2, h3⟩ := hp _ (List.mem_singleton.2 rfl)
    rw [h1, h2]
    exact c_run k h3
  · exact ext_ok _ _ _ _ _ _ h hp

noncomputable def xfC (k : Int) : XF := xcall Try.prog (extC k) xdOf heapOf (fun _ _ => none) fzOf 1000 5

theorem xfC_ok (k : Int) : (xfC k).ok Try.prog := xcall_sound (extC_ok k) xd_ok mixed 5

def noOrc : Orc := fun _ => none

/-- Of the comparisons ahead of the loop: all is as it should be. -/
def cfgC : Cfg := ⟨78, [], false, fun _ => none, fun t => if (t == 49 || t == 57) = true then some false else none⟩

def varsC (k : Int) : LS := [(6, outcomeC k), (5, [.p (.str bytesF), .p (.bool false), .p (i64 0), .p (i64 1), .full [[i64 1, i64 0, .vec [eC k], .vec [], .vec []], [i64 6, i64 0, .vec [], .vec bodyC, .vec []]]])]

/-- Of the loop's comparison: is it over? -/
def cfgL (b : Bool) : Cfg := ⟨78, [], false, fun _ => none, fun t => if t = 63 then some b else none⟩

def loopC (n : Int) (i : Nat) : St := { ts := [(3, .p (i64 n)), (6, .ptr (.l 6) 0), (7, .p (i64 i))], L := varsC n, G := [] }

theorem bytes_eq (n : Int) (i : Nat) : IntKind.wrap .u8 (n - i) = IntKind.wrap .u8 (IntKind.wrap .u8 n - IntKind.wrap .u8 i) := by
  simp [IntKind.wrap, IntKind.bits, IntKind.signed]

theorem rowsC_get (k : Int) (n i : Nat) (h : i < n) : (rowsC k n)[i]? = some [PV.int .u8 (IntKind.wrap .u8 (k - i))] := by
  simp [rowsC, h]

theorem c_counts (n : Int) (hn : 0 ≤ n ∧ n ≤ 255) : ACalls Try.prog 10 [.p (.int .u8 n)] [] fun r G => r = .ret (.p (.bool true)) := by
  have hk : IntKind.wrap .i64 n = n := wrap_i64 (by omega)
  refine acalls_fn cfgC Try.func10 rfl rfl rfl (show 1 ≤ 78 by decide) fun hG => ?_
  refine awp_seq (awp_run rfl ?_)
  refine awp_seq (awp_run rfl ?_)
  refine awp_seq (awp_res (c := cfgC) (orc := noOrc) (f := 10) (xfC_ok (IntKind.wrap .i64 n)) mixed (e := .normal) (by kernel_rfl) (certs_of (l := []) (by kernel_rfl) certs_nil) ?_)
  refine awp_seq (awp_res (c := cfgC) (orc := noOrc) (f := 10) (xfC_ok (IntKind.wrap .i64 n)) mixed (e := .normal) (by kernel_rfl) (certs_of (l := []) (by kernel_rfl) certs_nil) ?_)
  refine awp_seq (awp_res (c := cfgC) (orc := noOrc) (f := 10) (xfC_ok (IntKind.wrap .i64 n)) mixed (e := .normal) (by kernel_rfl)
    (certs_of (l := [argsC (IntKind.wrap .i64 n) = argsC (IntKind.wrap .i64 n) ∧ ([] : List Blk) = [] ∧ 0 ≤ IntKind.wrap .i64 n ∧ IntKind.wrap .i64 n ≤ 255]) (by kernel_rfl) (certs_cons ⟨rfl, rfl, by omega, by omega⟩ certs_nil)) ?_)
  refine awp_weak (s' := { ts := [(3, .p (i64 (IntKind.wrap .i64 n))), (6, .ptr (.l 6) 0)], L := varsC (IntKind.wrap .i64 n), G := [] }) (weak2 (by kernel_rfl) (by kernel_rfl) (by kernel_rfl) (by kernel_rfl)) ?_
  rw [hk]
  have hlen : ((rowsC n n.toNat).length : Int) = n := by rw [rowsC_len]; omega
  refine awp_seq (awp_seq (awp_res (c := cfgC) (orc := noOrc) (f := 10) (xfC_ok n) mixed (e := .normal) (by kernel_rfl)
    (certs_of (l := [(((rowsC n n.toNat).length : Int) != n) = false, (3 + 10 * n + 5 != IntKind.wrap .i64 (IntKind.wrap .i64 (10 * n) + 8)) = false]) (by kernel_rfl) (certs_cons (by rw [hlen]; simp) (certs_cons ?_ certs_nil))) ?_))
  · rw [wrap_i64 (x := 10 * n) (by omega), wrap_i64 (x := 10 * n + 8) (by omega)]
    simp; omega
  refine awp_if false (by kernel_rfl) (fun e => by cases e) fun _ => ?_
  refine awp_skip ?_
  refine awp_weak (s' := { ts := [(3, .p (i64 n)), (6, .ptr (.l 6) 0)], L := varsC n, G := [] }) (weak2 (by kernel_rfl) (by kernel_rfl) (by kernel_rfl) (by kernel_rfl)) ?_
  refine awp_seq (awp_seq (awp_run rfl ?_))
  refine awp_block ?_
  refine awp_weak (s' := loopC n 0) (weak3' (by kernel_rfl) (by kernel_rfl) (by kernel_rfl) (by kernel_rfl) (by kernel_rfl)) ?_
  refine awp_loop (fun m s => ∃ i : Nat, s = loopC n i ∧ i ≤ n.toNat ∧ m = n.toNat - i) n.toNat ⟨0, rfl, by omega, by omega⟩ ?_
  rintro m s ⟨i, rfl, hi, rfl⟩
  by_cases hz : i = n.toNat
  · refine awp_seq (awp_seq (awp_res (c := cfgL false) (orc := noOrc) (f := 10) (xfC_ok n) mixed (e := .normal) (by kernel_rfl)
      (certs_of (l := [decide ((i : Int) < (rowsC n n.toNat).length) = false]) (by kernel_rfl) (certs_cons (by rw [hlen]; simp; omega) certs_nil)) ?_))
    refine awp_if false (by kernel_rfl) (fun e => by cases e) fun _ => ?_
    refine awp_exit ?_
    refine awp_weak (s' := loopC n i) (weak3' (by kernel_rfl) (by kernel_rfl) (by kernel_rfl) (by kernel_rfl) (by kernel_rfl)) ?_
    refine awp_seq (awp_ops ?_)
    refine vopsL_call1 rfl rfl rfl (c_awake []) ?_
    refine vopsL_take 1 rfl ?_
    refine vopsL_done ?_
    refine awp_ret ?_
    refine leave_ret (v := .p (.bool true)) rfl rfl rfl
  · have hlt : i < n.toNat := by omega
    refine awp_seq (awp_seq (awp_res (c := cfgL true) (orc := noOrc) (f := 10) (xfC_ok n) mixed (e := .normal) (by kernel_rfl)
      (certs_of (l := [decide ((i : Int) < (rowsC n n.toNat).length) = true]) (by kernel_rfl) (certs_cons (by rw [hlen]; simp; omega) certs_nil)) ?_))
    refine awp_if true (by kernel_rfl) (fun _ => ?_) (fun e => by cases e)
    refine awp_skip ?_
    refine awp_weak (s' := loopC n i) (weak3' (by kernel_rfl) (by kernel_rfl) (by kernel_rfl) (by kernel_rfl) (by kernel_rfl)) ?_
    refine awp_seq (awp_block (awp_seq (awp_ops (c := cfgC) ?_)))
    refine vopsL_take 3 rfl ?_
    refine vopsL_st rfl (eff_index rfl rfl (by decide) (e := 5) (by kernel_rfl) rfl rfl (rowsC_get n n.toNat i hlt) (by kernel_rfl) (by rw [show Try.prog.cellsOf 5 = 1 by kernel_rfl]; decide)) ?_
    refine vopsL_take 6 rfl ?_
    refine vopsL_st rfl (eff_bool (b' := false) rfl rfl (by decide) rfl ?_) ?_
    · show (IntKind.wrap .u8 (n - i) != IntKind.wrap .u8 (IntKind.wrap .u8 n - IntKind.wrap .u8 i)) = false
      rw [← bytes_eq]; simp
    refine vopsL_done ?_
    refine awp_if false rfl (fun e => by cases e) fun _ => ?_
    refine awp_skip ?_
    refine awp_run rfl ?_
    refine ⟨n.toNat - (i + 1), loopC n (i + 1), by omega, ?_, i + 1, rfl, by omega, rfl⟩
    have hw : loopC n (i + 1) = { ts := [(3, .p (i64 n)), (6, .ptr (.l 6) 0), (7, .p (i64 (IntKind.wrap .i64 ((i : Int) + 1))))], L := varsC n, G := [] } := by
      rw [wrap_i64 (by omega)]; rfl
    rw [hw]
    exact weak3' rfl rfl rfl rfl rfl
end Go.Proofs.Ytnicgdfnfnchjaa
