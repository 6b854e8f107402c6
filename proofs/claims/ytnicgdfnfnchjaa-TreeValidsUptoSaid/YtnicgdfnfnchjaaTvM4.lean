/-
  Put together out of texts of this work: V12.
-/
import Derived.Test.YtnicgdfnfnchjaaTvM3
set_option linter.unusedSimpArgs false
set_option linter.unusedVariables false
/-
  Which expressions are right: the reference's own 'Expr'.
-/
set_option linter.unusedVariables false
set_option linter.unusedSimpArgs false
set_option maxRecDepth 100000
namespace Go.Proofs.Ytnicgdfnfnchjaa
open Go.Abs

def ExprRC (e : E) : Prop := ∀ (L a : Int) (G : List Blk), 0 ≤ a → a ≤ 101 → FnIs Try.prog 136 [.agg e.args, .p (j64 L), .p (j64 a)] G (.p (.bool (exprOk L a e)))

theorem name_none {s : ByteArray} (h : noName s = true) : nameOk s = false := by
  have : s = ⟨#[]⟩ := (beqS_iff _ _).1 h
  subst this
  rfl
theorem c_rexpr1 (L a n : Int) (nm : ByteArray) (ks : List E) (G : List Blk) (h1 : 0 ≤ a) (h2 : a ≤ 101) (ih : ∀ e ∈ ks, ExprRC e) : FnIs Try.prog 136 [.agg (E.args (.mk 1 n nm ks)), .p (j64 L), .p (j64 a)] G (.p (.bool (exprOk L a (.mk 1 n nm ks)))) := by
  have hlen := E.rows_len ks
  refine acalls_fn (cfg 136) Try.func136 rfl rfl rfl (by simp) fun hG => ?_
  refine awp_seq ?_
  refine awp_run rfl ?_
  refine awp_seq ?_
  refine awp_run rfl ?_
  refine awp_seq ?_
  refine awp_sl mixed (by kernel_rfl) ?_
  refine vsl_take 2 rfl ?_
  refine vsl_cmp rfl rfl rfl fun b hb14 => ?_
  cases b with
  | false =>
    refine vsl_take 2 rfl ?_
    refine vsl_done ?_
    refine awp_seq ?_
    refine awp_seq ?_
    refine awp_run rfl ?_
    refine awp_block ?_
    refine awp_seq ?_
    refine awp_run rfl ?_
    refine awp_if true rfl (fun _ => ?_) (fun e => by cases e)
    refine awp_run rfl ?_
    refine awp_seq ?_
    refine awp_seq ?_
    refine awp_ops ?_
    refine vopsL_take 6 rfl ?_
    refine vopsL_cmpG rfl rfl rfl rfl (by decide) rfl fun b hb89 => ?_
    cases b with
    | false =>
      refine vopsL_take 16 rfl ?_
      refine vopsL_cmpG rfl rfl rfl rfl (by decide) rfl fun b hb106 => ?_
      cases b with
      | false =>
        have h106 := of_decide_eq_false hb106
        rw [hlen] at h106
        refine vopsL_take 6 rfl ?_
        refine vopsL_cmpG rfl rfl rfl rfl (by decide) rfl fun b hb113 => ?_
        cases b with
        | false =>
          have h113 := of_decide_eq_false hb113
          rw [hlen] at h113
          refine vopsL_take 3 rfl ?_
          refine vopsL_cmpG rfl rfl rfl rfl (by decide) rfl fun b hb117 => ?_
          cases b with
          | false =>
            have ha : a ≤ 100 := by simpa using hb117
            have hkl : ks.length ≤ 17 := by omega
            refine vopsL_take 1 rfl ?_
            refine awp_if false rfl (fun e => by cases e) fun _ => ?_
            refine awp_skip ?_
            refine awp_seq ?_
            refine awp_seq ?_
            refine awp_run rfl ?_
            refine awp_weak (s' := { ts := [(1, .p (j64 L)), (2, .p (j64 a)), (3, .ptr (.l 3) 0), (11, .p (j64 0))], L := [(3, [.p (j64 1), .p (j64 n), .p (.str nm), .p (.vec (E.rows ks))])], G := G }) (weakL _ ⟨rfl, rfl, rfl, rfl, trivial⟩ rfl rfl) ?_
            refine awp_forE (fun mm s => ∃ (i : Nat) , s = { ts := [(1, .p (j64 L)), (2, .p (j64 a)), (3, .ptr (.l 3) 0), (11, .p (j64 i))], L := [(3, [.p (j64 1), .p (j64 n), .p (.str nm), .p (.vec (E.rows ks))])], G := G } ∧ i ≤ ks.length ∧ mm = ks.length - i ∧ exprsOk L (a + 1) ks = exprsOk L (a + 1) (ks.drop i))
              (fun s => s = { ts := [], L := [], G := G } ∧ exprsOk L (a + 1) ks = true) ks.length ⟨0, rfl, by omega, by omega, by simp⟩ ?_ ?_
            · rintro mm s ⟨i, rfl, hi_i, rfl, hI0⟩
              refine awp_seq ?_
              refine awp_seq ?_
              refine awp_ops ?_
              refine vopsL_take 4 rfl ?_
              refine vopsL_cmp rfl rfl rfl (by decide) rfl fun b hb123 => ?_
              cases b with
              | false =>
                have hge_i := ge_eq (E.rows_len ks) hi_i hb123
                refine awp_if false rfl (fun e => by cases e) fun _ => ?_
                refine awp_exit ?_
                refine ⟨{ ts := [], L := [], G := G }, (weakK _ 3).trans (weakL _ trivial rfl rfl), rfl, ?_⟩
                subst hge_i
                simpa [exprsOk] using hI0
              | true =>
                obtain ⟨e, he_i, hlt_i⟩ := lt_get (E.rows_len ks) hb123
                have hx_i := E.rows_get he_i
                have hdr_i := drop_get he_i
                obtain ⟨eop, en, enm, eks⟩ := e
                refine awp_if true rfl (fun _ => ?_) (fun e => by cases e)
                refine awp_skip ?_
                refine awp_seq ?_
                refine awp_block ?_
                refine awp_seq ?_
                refine awp_ops ?_
                refine vopsL_take 3 rfl ?_
                refine vopsL_idx hx_i rfl rfl rfl (by decide) rfl rfl rfl rfl (by decide) ?_
                refine vopsL_take 4 rfl ?_
                rw [wrap64 (x := a + 1) (by omega)]
                refine vopsL_fn rfl rfl rfl (ih (.mk eop en enm eks) (List.mem_of_getElem? he_i) L (a + 1) G (by omega) (by omega)) ?_
                cases hb134 : exprOk L (a + 1) (.mk eop en enm eks) with
                | false =>
                  refine vopsL_take 1 rfl ?_
                  refine awp_if true rfl (fun _ => ?_) (fun e => by cases e)
                  refine awp_seq ?_
                  refine awp_run rfl ?_
                  refine awp_ret ?_
                  refine q_block (q_ret (q_for (q_ret ?_)))
                  exact leave_ret_same [] rfl hG (List.append_nil G).symm rfl ⟨congrArg (fun b => AEnd.ret (.p (.bool b))) (by rw [exprOk, hI0, hdr_i]; simp [exprsOk, hb134]), rfl⟩
                | true =>
                  refine vopsL_take 1 rfl ?_
                  refine awp_if false rfl (fun e => by cases e) fun _ => ?_
                  refine awp_skip ?_
                  refine awp_run rfl ?_
                  rw [wrap64 (x := (i : Int) + 1) (by omega)]
                  refine ⟨{ ts := [(1, .p (j64 L)), (2, .p (j64 a)), (3, .ptr (.l 3) 0), (11, .p (j64 (i + 1 : Nat)))], L := [(3, [.p (j64 1), .p (j64 n), .p (.str nm), .p (.vec (E.rows ks))])], G := G }, weakL _ ⟨rfl, rfl, rfl, rfl, trivial⟩ rfl rfl, ks.length - (i + 1), by omega, i + 1, rfl, by omega, rfl, ?_⟩
                  rw [hI0, hdr_i]; simp [exprsOk, hb134]
            · rintro s s' ⟨rfl, hX0⟩ hw
              refine awp_weak hw ?_
              refine awp_seq ?_
              refine awp_run rfl ?_
              refine awp_ret ?_
              exact leave_ret_same [] rfl hG (List.append_nil G).symm rfl ⟨congrArg (fun b => AEnd.ret (.p (.bool b))) (by rw [exprOk, hX0]; simp_all [shapeOk, noName, placeOk, okBin, okUn, codeOk] <;> omega), rfl⟩
          | true =>
            refine vopsL_take 1 rfl ?_
            refine awp_if true rfl (fun _ => ?_) (fun e => by cases e)
            refine awp_seq ?_
            refine awp_run rfl ?_
            refine awp_ret ?_
            refine q_ret ?_
            exact leave_ret_same [] rfl hG (List.append_nil G).symm rfl ⟨congrArg (fun b => AEnd.ret (.p (.bool b))) (by have hnn := @name_none nm; simp_all [exprOk, shapeOk, noName, placeOk, okBin, okUn, codeOk] <;> omega), rfl⟩
        | true =>
          have h113 := of_decide_eq_true hb113
          rw [hlen] at h113
          have hk0 : ks ≠ [] := by rintro rfl; simp at h113
          refine vopsL_take 5 rfl ?_
          refine awp_if true rfl (fun _ => ?_) (fun e => by cases e)
          refine awp_seq ?_
          refine awp_run rfl ?_
          refine awp_ret ?_
          refine q_ret ?_
          exact leave_ret_same [] rfl hG (List.append_nil G).symm rfl ⟨congrArg (fun b => AEnd.ret (.p (.bool b))) (by have hnn := @name_none nm; simp_all [exprOk, shapeOk, noName, placeOk, okBin, okUn, codeOk] <;> omega), rfl⟩
      | true =>
        have h106 := of_decide_eq_true hb106
        rw [hlen] at h106
        refine vopsL_take 12 rfl ?_
        refine awp_if true rfl (fun _ => ?_) (fun e => by cases e)
        refine awp_seq ?_
        refine awp_run rfl ?_
        refine awp_ret ?_
        refine q_ret ?_
        exact leave_ret_same [] rfl hG (List.append_nil G).symm rfl ⟨congrArg (fun b => AEnd.ret (.p (.bool b))) (by have hnn := @name_none nm; simp_all [exprOk, shapeOk, noName, placeOk, okBin, okUn, codeOk] <;> omega), rfl⟩
    | true =>
      refine vopsL_take 29 rfl ?_
      refine awp_if true rfl (fun _ => ?_) (fun e => by cases e)
      refine awp_seq ?_
      refine awp_run rfl ?_
      refine awp_ret ?_
      refine q_ret ?_
      exact leave_ret_same [] rfl hG (List.append_nil G).symm rfl ⟨congrArg (fun b => AEnd.ret (.p (.bool b))) (by have hnn := @name_none nm; simp_all [exprOk, shapeOk, noName, placeOk, okBin, okUn, codeOk] <;> omega), rfl⟩
  | true =>
    refine vsl_take 2 rfl ?_
    refine vsl_done ?_
    refine awp_seq ?_
    refine awp_seq ?_
    refine awp_run rfl ?_
    refine awp_block ?_
    refine awp_seq ?_
    refine awp_run rfl ?_
    refine awp_if true rfl (fun _ => ?_) (fun e => by cases e)
    refine awp_run rfl ?_
    refine awp_seq ?_
    refine awp_seq ?_
    refine awp_ops ?_
    refine vopsL_take 6 rfl ?_
    refine vopsL_cmpG rfl rfl rfl rfl (by decide) rfl fun b hb89 => ?_
    cases b with
    | false =>
      refine vopsL_take 16 rfl ?_
      refine vopsL_cmpG rfl rfl rfl rfl (by decide) rfl fun b hb106 => ?_
      cases b with
      | false =>
        have h106 := of_decide_eq_false hb106
        rw [hlen] at h106
        refine vopsL_take 6 rfl ?_
        refine vopsL_cmpG rfl rfl rfl rfl (by decide) rfl fun b hb113 => ?_
        cases b with
        | false =>
          have h113 := of_decide_eq_false hb113
          rw [hlen] at h113
          refine vopsL_take 3 rfl ?_
          refine vopsL_cmpG rfl rfl rfl rfl (by decide) rfl fun b hb117 => ?_
          cases b with
          | false =>
            have ha : a ≤ 100 := by simpa using hb117
            have hkl : ks.length ≤ 17 := by omega
            refine vopsL_take 1 rfl ?_
            refine awp_if false rfl (fun e => by cases e) fun _ => ?_
            refine awp_skip ?_
            refine awp_seq ?_
            refine awp_seq ?_
            refine awp_run rfl ?_
            refine awp_weak (s' := { ts := [(1, .p (j64 L)), (2, .p (j64 a)), (3, .ptr (.l 3) 0), (11, .p (j64 0))], L := [(3, [.p (j64 1), .p (j64 n), .p (.str nm), .p (.vec (E.rows ks))])], G := G }) (weakL _ ⟨rfl, rfl, rfl, rfl, trivial⟩ rfl rfl) ?_
            refine awp_forE (fun mm s => ∃ (i : Nat) , s = { ts := [(1, .p (j64 L)), (2, .p (j64 a)), (3, .ptr (.l 3) 0), (11, .p (j64 i))], L := [(3, [.p (j64 1), .p (j64 n), .p (.str nm), .p (.vec (E.rows ks))])], G := G } ∧ i ≤ ks.length ∧ mm = ks.length - i ∧ exprsOk L (a + 1) ks = exprsOk L (a + 1) (ks.drop i))
              (fun s => s = { ts := [], L := [], G := G } ∧ exprsOk L (a + 1) ks = true) ks.length ⟨0, rfl, by omega, by omega, by simp⟩ ?_ ?_
            · rintro mm s ⟨i, rfl, hi_i, rfl, hI0⟩
              refine awp_seq ?_
              refine awp_seq ?_
              refine awp_ops ?_
              refine vopsL_take 4 rfl ?_
              refine vopsL_cmp rfl rfl rfl (by decide) rfl fun b hb123 => ?_
              cases b with
              | false =>
                have hge_i := ge_eq (E.rows_len ks) hi_i hb123
                refine awp_if false rfl (fun e => by cases e) fun _ => ?_
                refine awp_exit ?_
                refine ⟨{ ts := [], L := [], G := G }, (weakK _ 3).trans (weakL _ trivial rfl rfl), rfl, ?_⟩
                subst hge_i
                simpa [exprsOk] using hI0
              | true =>
                obtain ⟨e, he_i, hlt_i⟩ := lt_get (E.rows_len ks) hb123
                have hx_i := E.rows_get he_i
                have hdr_i := drop_get he_i
                obtain ⟨eop, en, enm, eks⟩ := e
                refine awp_if true rfl (fun _ => ?_) (fun e => by cases e)
                refine awp_skip ?_
                refine awp_seq ?_
                refine awp_block ?_
                refine awp_seq ?_
                refine awp_ops ?_
                refine vopsL_take 3 rfl ?_
                refine vopsL_idx hx_i rfl rfl rfl (by decide) rfl rfl rfl rfl (by decide) ?_
                refine vopsL_take 4 rfl ?_
                rw [wrap64 (x := a + 1) (by omega)]
                refine vopsL_fn rfl rfl rfl (ih (.mk eop en enm eks) (List.mem_of_getElem? he_i) L (a + 1) G (by omega) (by omega)) ?_
                cases hb134 : exprOk L (a + 1) (.mk eop en enm eks) with
                | false =>
                  refine vopsL_take 1 rfl ?_
                  refine awp_if true rfl (fun _ => ?_) (fun e => by cases e)
                  refine awp_seq ?_
                  refine awp_run rfl ?_
                  refine awp_ret ?_
                  refine q_block (q_ret (q_for (q_ret ?_)))
                  exact leave_ret_same [] rfl hG (List.append_nil G).symm rfl ⟨congrArg (fun b => AEnd.ret (.p (.bool b))) (by rw [exprOk, hI0, hdr_i]; simp [exprsOk, hb134]), rfl⟩
                | true =>
                  refine vopsL_take 1 rfl ?_
                  refine awp_if false rfl (fun e => by cases e) fun _ => ?_
                  refine awp_skip ?_
                  refine awp_run rfl ?_
                  rw [wrap64 (x := (i : Int) + 1) (by omega)]
                  refine ⟨{ ts := [(1, .p (j64 L)), (2, .p (j64 a)), (3, .ptr (.l 3) 0), (11, .p (j64 (i + 1 : Nat)))], L := [(3, [.p (j64 1), .p (j64 n), .p (.str nm), .p (.vec (E.rows ks))])], G := G }, weakL _ ⟨rfl, rfl, rfl, rfl, trivial⟩ rfl rfl, ks.length - (i + 1), by omega, i + 1, rfl, by omega, rfl, ?_⟩
                  rw [hI0, hdr_i]; simp [exprsOk, hb134]
            · rintro s s' ⟨rfl, hX0⟩ hw
              refine awp_weak hw ?_
              refine awp_seq ?_
              refine awp_run rfl ?_
              refine awp_ret ?_
              exact leave_ret_same [] rfl hG (List.append_nil G).symm rfl ⟨congrArg (fun b => AEnd.ret (.p (.bool b))) (by rw [exprOk, hX0]; simp_all [shapeOk, noName, placeOk, okBin, okUn, codeOk] <;> omega), rfl⟩
          | true =>
            refine vopsL_take 1 rfl ?_
            refine awp_if true rfl (fun _ => ?_) (fun e => by cases e)
            refine awp_seq ?_
            refine awp_run rfl ?_
            refine awp_ret ?_
            refine q_ret ?_
            exact leave_ret_same [] rfl hG (List.append_nil G).symm rfl ⟨congrArg (fun b => AEnd.ret (.p (.bool b))) (by have hnn := @name_none nm; simp_all [exprOk, shapeOk, noName, placeOk, okBin, okUn, codeOk] <;> omega), rfl⟩
        | true =>
          have h113 := of_decide_eq_true hb113
          rw [hlen] at h113
          have hk0 : ks ≠ [] := by rintro rfl; simp at h113
          refine vopsL_take 5 rfl ?_
          refine awp_if true rfl (fun _ => ?_) (fun e => by cases e)
          refine awp_seq ?_
          refine awp_run rfl ?_
          refine awp_ret ?_
          refine q_ret ?_
          exact leave_ret_same [] rfl hG (List.append_nil G).symm rfl ⟨congrArg (fun b => AEnd.ret (.p (.bool b))) (by have hnn := @name_none nm; simp_all [exprOk, shapeOk, noName, placeOk, okBin, okUn, codeOk] <;> omega), rfl⟩
      | true =>
        have h106 := of_decide_eq_true hb106
        rw [hlen] at h106
        refine vopsL_take 12 rfl ?_
        refine awp_if true rfl (fun _ => ?_) (fun e => by cases e)
        refine awp_seq ?_
        refine awp_run rfl ?_
        refine awp_ret ?_
        refine q_ret ?_
        exact leave_ret_same [] rfl hG (List.append_nil G).symm rfl ⟨congrArg (fun b => AEnd.ret (.p (.bool b))) (by have hnn := @name_none nm; simp_all [exprOk, shapeOk, noName, placeOk, okBin, okUn, codeOk] <;> omega), rfl⟩
    | true =>
      refine vopsL_take 29 rfl ?_
      refine awp_if true rfl (fun _ => ?_) (fun e => by cases e)
      refine awp_seq ?_
      refine awp_run rfl ?_
      refine awp_ret ?_
      refine q_ret ?_
      exact leave_ret_same [] rfl hG (List.append_nil G).symm rfl ⟨congrArg (fun b => AEnd.ret (.p (.bool b))) (by have hnn := @name_none nm; simp_all [exprOk, shapeOk, noName, placeOk, okBin, okUn, codeOk] <;> omega), rfl⟩
theorem c_rexpr2 (L a n : Int) (nm : ByteArray) (ks : List E) (G : List Blk) (h1 : 0 ≤ a) (h2 : a ≤ 101) (ih : ∀ e ∈ ks, ExprRC e) : FnIs Try.prog 136 [.agg (E.args (.mk 2 n nm ks)), .p (j64 L), .p (j64 a)] G (.p (.bool (exprOk L a (.mk 2 n nm ks)))) := by
  have hlen := E.rows_len ks
  refine acalls_fn (cfg 136) Try.func136 rfl rfl rfl (by simp) fun hG => ?_
  refine awp_seq ?_
  refine awp_run rfl ?_
  refine awp_seq ?_
  refine awp_run rfl ?_
  refine awp_seq ?_
  refine awp_sl mixed (by kernel_rfl) ?_
  refine vsl_take 2 rfl ?_
  refine vsl_cmp rfl rfl rfl fun b hb14 => ?_
  cases b with
  | false =>
    refine vsl_take 2 rfl ?_
    refine vsl_done ?_
    refine awp_seq ?_
    refine awp_seq ?_
    refine awp_run rfl ?_
    refine awp_block ?_
    refine awp_seq ?_
    refine awp_run rfl ?_
    refine awp_if false rfl (fun e => by cases e) fun _ => ?_
    refine awp_seq ?_
    refine awp_run rfl ?_
    refine awp_if true rfl (fun _ => ?_) (fun e => by cases e)
    refine awp_ops ?_
    refine vopsL_take 2 rfl ?_
    refine vopsL_cmp rfl rfl rfl (by decide) rfl fun b hb23 => ?_
    cases b with
    | false =>
      refine vopsL_take 7 rfl ?_
      refine awp_seq ?_
      refine awp_seq ?_
      refine awp_ops ?_
      refine vopsL_take 36 rfl ?_
      refine awp_if true rfl (fun _ => ?_) (fun e => by cases e)
      refine awp_seq ?_
      refine awp_run rfl ?_
      refine awp_ret ?_
      refine q_ret ?_
      exact leave_ret_same [] rfl hG (List.append_nil G).symm rfl ⟨congrArg (fun b => AEnd.ret (.p (.bool b))) (by have hnn := @name_none nm; simp_all [exprOk, shapeOk, noName, placeOk, okBin, okUn, codeOk] <;> omega), rfl⟩
    | true =>
      refine vopsL_take 4 rfl ?_
      refine vopsL_cmpG rfl rfl rfl rfl (by decide) rfl fun b hb28 => ?_
      cases b with
      | false =>
        refine vopsL_take 2 rfl ?_
        refine awp_seq ?_
        refine awp_seq ?_
        refine awp_ops ?_
        refine vopsL_take 36 rfl ?_
        refine awp_if true rfl (fun _ => ?_) (fun e => by cases e)
        refine awp_seq ?_
        refine awp_run rfl ?_
        refine awp_ret ?_
        refine q_ret ?_
        exact leave_ret_same [] rfl hG (List.append_nil G).symm rfl ⟨congrArg (fun b => AEnd.ret (.p (.bool b))) (by have hnn := @name_none nm; simp_all [exprOk, shapeOk, noName, placeOk, okBin, okUn, codeOk] <;> omega), rfl⟩
      | true =>
        refine vopsL_take 2 rfl ?_
        refine awp_seq ?_
        refine awp_seq ?_
        refine awp_ops ?_
        refine vopsL_take 6 rfl ?_
        refine vopsL_cmpG rfl rfl rfl rfl (by decide) rfl fun b hb89 => ?_
        cases b with
        | false =>
          refine vopsL_take 16 rfl ?_
          refine vopsL_cmpG rfl rfl rfl rfl (by decide) rfl fun b hb106 => ?_
          cases b with
          | false =>
            have h106 := of_decide_eq_false hb106
            rw [hlen] at h106
            refine vopsL_take 6 rfl ?_
            refine vopsL_cmpG rfl rfl rfl rfl (by decide) rfl fun b hb113 => ?_
            cases b with
            | false =>
              have h113 := of_decide_eq_false hb113
              rw [hlen] at h113
              refine vopsL_take 3 rfl ?_
              refine vopsL_cmpG rfl rfl rfl rfl (by decide) rfl fun b hb117 => ?_
              cases b with
              | false =>
                have ha : a ≤ 100 := by simpa using hb117
                have hkl : ks.length ≤ 17 := by omega
                refine vopsL_take 1 rfl ?_
                refine awp_if false rfl (fun e => by cases e) fun _ => ?_
                refine awp_skip ?_
                refine awp_seq ?_
                refine awp_seq ?_
                refine awp_run rfl ?_
                refine awp_weak (s' := { ts := [(1, .p (j64 L)), (2, .p (j64 a)), (3, .ptr (.l 3) 0), (11, .p (j64 0))], L := [(3, [.p (j64 2), .p (j64 n), .p (.str nm), .p (.vec (E.rows ks))])], G := G }) (weakL _ ⟨rfl, rfl, rfl, rfl, trivial⟩ rfl rfl) ?_
                refine awp_forE (fun mm s => ∃ (i : Nat) , s = { ts := [(1, .p (j64 L)), (2, .p (j64 a)), (3, .ptr (.l 3) 0), (11, .p (j64 i))], L := [(3, [.p (j64 2), .p (j64 n), .p (.str nm), .p (.vec (E.rows ks))])], G := G } ∧ i ≤ ks.length ∧ mm = ks.length - i ∧ exprsOk L (a + 1) ks = exprsOk L (a + 1) (ks.drop i))
                  (fun s => s = { ts := [], L := [], G := G } ∧ exprsOk L (a + 1) ks = true) ks.length ⟨0, rfl, by omega, by omega, by simp⟩ ?_ ?_
                · rintro mm s ⟨i, rfl, hi_i, rfl, hI0⟩
                  refine awp_seq ?_
                  refine awp_seq ?_
                  refine awp_ops ?_
                  refine vopsL_take 4 rfl ?_
                  refine vopsL_cmp rfl rfl rfl (by decide) rfl fun b hb123 => ?_
                  cases b with
                  | false =>
                    have hge_i := ge_eq (E.rows_len ks) hi_i hb123
                    refine awp_if false rfl (fun e => by cases e) fun _ => ?_
                    refine awp_exit ?_
                    refine ⟨{ ts := [], L := [], G := G }, (weakK _ 3).trans (weakL _ trivial rfl rfl), rfl, ?_⟩
                    subst hge_i
                    simpa [exprsOk] using hI0
                  | true =>
                    obtain ⟨e, he_i, hlt_i⟩ := lt_get (E.rows_len ks) hb123
                    have hx_i := E.rows_get he_i
                    have hdr_i := drop_get he_i
                    obtain ⟨eop, en, enm, eks⟩ := e
                    refine awp_if true rfl (fun _ => ?_) (fun e => by cases e)
                    refine awp_skip ?_
                    refine awp_seq ?_
                    refine awp_block ?_
                    refine awp_seq ?_
                    refine awp_ops ?_
                    refine vopsL_take 3 rfl ?_
                    refine vopsL_idx hx_i rfl rfl rfl (by decide) rfl rfl rfl rfl (by decide) ?_
                    refine vopsL_take 4 rfl ?_
                    rw [wrap64 (x := a + 1) (by omega)]
                    refine vopsL_fn rfl rfl rfl (ih (.mk eop en enm eks) (List.mem_of_getElem? he_i) L (a + 1) G (by omega) (by omega)) ?_
                    cases hb134 : exprOk L (a + 1) (.mk eop en enm eks) with
                    | false =>
                      refine vopsL_take 1 rfl ?_
                      refine awp_if true rfl (fun _ => ?_) (fun e => by cases e)
                      refine awp_seq ?_
                      refine awp_run rfl ?_
                      refine awp_ret ?_
                      refine q_block (q_ret (q_for (q_ret ?_)))
                      exact leave_ret_same [] rfl hG (List.append_nil G).symm rfl ⟨congrArg (fun b => AEnd.ret (.p (.bool b))) (by rw [exprOk, hI0, hdr_i]; simp [exprsOk, hb134]), rfl⟩
                    | true =>
                      refine vopsL_take 1 rfl ?_
                      refine awp_if false rfl (fun e => by cases e) fun _ => ?_
                      refine awp_skip ?_
                      refine awp_run rfl ?_
                      rw [wrap64 (x := (i : Int) + 1) (by omega)]
                      refine ⟨{ ts := [(1, .p (j64 L)), (2, .p (j64 a)), (3, .ptr (.l 3) 0), (11, .p (j64 (i + 1 : Nat)))], L := [(3, [.p (j64 2), .p (j64 n), .p (.str nm), .p (.vec (E.rows ks))])], G := G }, weakL _ ⟨rfl, rfl, rfl, rfl, trivial⟩ rfl rfl, ks.length - (i + 1), by omega, i + 1, rfl, by omega, rfl, ?_⟩
                      rw [hI0, hdr_i]; simp [exprsOk, hb134]
                · rintro s s' ⟨rfl, hX0⟩ hw
                  refine awp_weak hw ?_
                  refine awp_seq ?_
                  refine awp_run rfl ?_
                  refine awp_ret ?_
                  exact leave_ret_same [] rfl hG (List.append_nil G).symm rfl ⟨congrArg (fun b => AEnd.ret (.p (.bool b))) (by rw [exprOk, hX0]; simp_all [shapeOk, noName, placeOk, okBin, okUn, codeOk] <;> omega), rfl⟩
              | true =>
                refine vopsL_take 1 rfl ?_
                refine awp_if true rfl (fun _ => ?_) (fun e => by cases e)
                refine awp_seq ?_
                refine awp_run rfl ?_
                refine awp_ret ?_
                refine q_ret ?_
                exact leave_ret_same [] rfl hG (List.append_nil G).symm rfl ⟨congrArg (fun b => AEnd.ret (.p (.bool b))) (by have hnn := @name_none nm; simp_all [exprOk, shapeOk, noName, placeOk, okBin, okUn, codeOk] <;> omega), rfl⟩
            | true =>
              have h113 := of_decide_eq_true hb113
              rw [hlen] at h113
              have hk0 : ks ≠ [] := by rintro rfl; simp at h113
              refine vopsL_take 5 rfl ?_
              refine awp_if true rfl (fun _ => ?_) (fun e => by cases e)
              refine awp_seq ?_
              refine awp_run rfl ?_
              refine awp_ret ?_
              refine q_ret ?_
              exact leave_ret_same [] rfl hG (List.append_nil G).symm rfl ⟨congrArg (fun b => AEnd.ret (.p (.bool b))) (by have hnn := @name_none nm; simp_all [exprOk, shapeOk, noName, placeOk, okBin, okUn, codeOk] <;> omega), rfl⟩
          | true =>
            have h106 := of_decide_eq_true hb106
            rw [hlen] at h106
            refine vopsL_take 12 rfl ?_
            refine awp_if true rfl (fun _ => ?_) (fun e => by cases e)
            refine awp_seq ?_
            refine awp_run rfl ?_
            refine awp_ret ?_
            refine q_ret ?_
            exact leave_ret_same [] rfl hG (List.append_nil G).symm rfl ⟨congrArg (fun b => AEnd.ret (.p (.bool b))) (by have hnn := @name_none nm; simp_all [exprOk, shapeOk, noName, placeOk, okBin, okUn, codeOk] <;> omega), rfl⟩
        | true =>
          refine vopsL_take 29 rfl ?_
          refine awp_if true rfl (fun _ => ?_) (fun e => by cases e)
          refine awp_seq ?_
          refine awp_run rfl ?_
          refine awp_ret ?_
          refine q_ret ?_
          exact leave_ret_same [] rfl hG (List.append_nil G).symm rfl ⟨congrArg (fun b => AEnd.ret (.p (.bool b))) (by have hnn := @name_none nm; simp_all [exprOk, shapeOk, noName, placeOk, okBin, okUn, codeOk] <;> omega), rfl⟩
  | true =>
    refine vsl_take 2 rfl ?_
    refine vsl_done ?_
    refine awp_seq ?_
    refine awp_seq ?_
    refine awp_run rfl ?_
    refine awp_block ?_
    refine awp_seq ?_
    refine awp_run rfl ?_
    refine awp_if false rfl (fun e => by cases e) fun _ => ?_
    refine awp_seq ?_
    refine awp_run rfl ?_
    refine awp_if true rfl (fun _ => ?_) (fun e => by cases e)
    refine awp_ops ?_
    refine vopsL_take 2 rfl ?_
    refine vopsL_cmp rfl rfl rfl (by decide) rfl fun b hb23 => ?_
    cases b with
    | false =>
      refine vopsL_take 7 rfl ?_
      refine awp_seq ?_
      refine awp_seq ?_
      refine awp_ops ?_
      refine vopsL_take 36 rfl ?_
      refine awp_if true rfl (fun _ => ?_) (fun e => by cases e)
      refine awp_seq ?_
      refine awp_run rfl ?_
      refine awp_ret ?_
      refine q_ret ?_
      exact leave_ret_same [] rfl hG (List.append_nil G).symm rfl ⟨congrArg (fun b => AEnd.ret (.p (.bool b))) (by have hnn := @name_none nm; simp_all [exprOk, shapeOk, noName, placeOk, okBin, okUn, codeOk] <;> omega), rfl⟩
    | true =>
      refine vopsL_take 4 rfl ?_
      refine vopsL_cmpG rfl rfl rfl rfl (by decide) rfl fun b hb28 => ?_
      cases b with
      | false =>
        refine vopsL_take 2 rfl ?_
        refine awp_seq ?_
        refine awp_seq ?_
        refine awp_ops ?_
        refine vopsL_take 36 rfl ?_
        refine awp_if true rfl (fun _ => ?_) (fun e => by cases e)
        refine awp_seq ?_
        refine awp_run rfl ?_
        refine awp_ret ?_
        refine q_ret ?_
        exact leave_ret_same [] rfl hG (List.append_nil G).symm rfl ⟨congrArg (fun b => AEnd.ret (.p (.bool b))) (by have hnn := @name_none nm; simp_all [exprOk, shapeOk, noName, placeOk, okBin, okUn, codeOk] <;> omega), rfl⟩
      | true =>
        refine vopsL_take 2 rfl ?_
        refine awp_seq ?_
        refine awp_seq ?_
        refine awp_ops ?_
        refine vopsL_take 6 rfl ?_
        refine vopsL_cmpG rfl rfl rfl rfl (by decide) rfl fun b hb89 => ?_
        cases b with
        | false =>
          refine vopsL_take 16 rfl ?_
          refine vopsL_cmpG rfl rfl rfl rfl (by decide) rfl fun b hb106 => ?_
          cases b with
          | false =>
            have h106 := of_decide_eq_false hb106
            rw [hlen] at h106
            refine vopsL_take 6 rfl ?_
            refine vopsL_cmpG rfl rfl rfl rfl (by decide) rfl fun b hb113 => ?_
            cases b with
            | false =>
              have h113 := of_decide_eq_false hb113
              rw [hlen] at h113
              refine vopsL_take 3 rfl ?_
              refine vopsL_cmpG rfl rfl rfl rfl (by decide) rfl fun b hb117 => ?_
              cases b with
              | false =>
                have ha : a ≤ 100 := by simpa using hb117
                have hkl : ks.length ≤ 17 := by omega
                refine vopsL_take 1 rfl ?_
                refine awp_if false rfl (fun e => by cases e) fun _ => ?_
                refine awp_skip ?_
                refine awp_seq ?_
                refine awp_seq ?_
                refine awp_run rfl ?_
                refine awp_weak (s' := { ts := [(1, .p (j64 L)), (2, .p (j64 a)), (3, .ptr (.l 3) 0), (11, .p (j64 0))], L := [(3, [.p (j64 2), .p (j64 n), .p (.str nm), .p (.vec (E.rows ks))])], G := G }) (weakL _ ⟨rfl, rfl, rfl, rfl, trivial⟩ rfl rfl) ?_
                refine awp_forE (fun mm s => ∃ (i : Nat) , s = { ts := [(1, .p (j64 L)), (2, .p (j64 a)), (3, .ptr (.l 3) 0), (11, .p (j64 i))], L := [(3, [.p (j64 2), .p (j64 n), .p (.str nm), .p (.vec (E.rows ks))])], G := G } ∧ i ≤ ks.length ∧ mm = ks.length - i ∧ exprsOk L (a + 1) ks = exprsOk L (a + 1) (ks.drop i))
                  (fun s => s = { ts := [], L := [], G := G } ∧ exprsOk L (a + 1) ks = true) ks.length ⟨0, rfl, by omega, by omega, by simp⟩ ?_ ?_
                · rintro mm s ⟨i, rfl, hi_i, rfl, hI0⟩
                  refine awp_seq ?_
                  refine awp_seq ?_
                  refine awp_ops ?_
                  refine vopsL_take 4 rfl ?_
                  refine vopsL_cmp rfl rfl rfl (by decide) rfl fun b hb123 => ?_
                  cases b with
                  | false =>
                    have hge_i := ge_eq (E.rows_len ks) hi_i hb123
                    refine awp_if false rfl (fun e => by cases e) fun _ => ?_
                    refine awp_exit ?_
                    refine ⟨{ ts := [], L := [], G := G }, (weakK _ 3).trans (weakL _ trivial rfl rfl), rfl, ?_⟩
                    subst hge_i
                    simpa [exprsOk] using hI0
                  | true =>
                    obtain ⟨e, he_i, hlt_i⟩ := lt_get (E.rows_len ks) hb123
                    have hx_i := E.rows_get he_i
                    have hdr_i := drop_get he_i
                    obtain ⟨eop, en, enm, eks⟩ := e
                    refine awp_if true rfl (fun _ => ?_) (fun e => by cases e)
                    refine awp_skip ?_
                    refine awp_seq ?_
                    refine awp_block ?_
                    refine awp_seq ?_
                    refine awp_ops ?_
                    refine vopsL_take 3 rfl ?_
                    refine vopsL_idx hx_i rfl rfl rfl (by decide) rfl rfl rfl rfl (by decide) ?_
                    refine vopsL_take 4 rfl ?_
                    rw [wrap64 (x := a + 1) (by omega)]
                    refine vopsL_fn rfl rfl rfl (ih (.mk eop en enm eks) (List.mem_of_getElem? he_i) L (a + 1) G (by omega) (by omega)) ?_
                    cases hb134 : exprOk L (a + 1) (.mk eop en enm eks) with
                    | false =>
                      refine vopsL_take 1 rfl ?_
                      refine awp_if true rfl (fun _ => ?_) (fun e => by cases e)
                      refine awp_seq ?_
                      refine awp_run rfl ?_
                      refine awp_ret ?_
                      refine q_block (q_ret (q_for (q_ret ?_)))
                      exact leave_ret_same [] rfl hG (List.append_nil G).symm rfl ⟨congrArg (fun b => AEnd.ret (.p (.bool b))) (by rw [exprOk, hI0, hdr_i]; simp [exprsOk, hb134]), rfl⟩
                    | true =>
                      refine vopsL_take 1 rfl ?_
                      refine awp_if false rfl (fun e => by cases e) fun _ => ?_
                      refine awp_skip ?_
                      refine awp_run rfl ?_
                      rw [wrap64 (x := (i : Int) + 1) (by omega)]
                      refine ⟨{ ts := [(1, .p (j64 L)), (2, .p (j64 a)), (3, .ptr (.l 3) 0), (11, .p (j64 (i + 1 : Nat)))], L := [(3, [.p (j64 2), .p (j64 n), .p (.str nm), .p (.vec (E.rows ks))])], G := G }, weakL _ ⟨rfl, rfl, rfl, rfl, trivial⟩ rfl rfl, ks.length - (i + 1), by omega, i + 1, rfl, by omega, rfl, ?_⟩
                      rw [hI0, hdr_i]; simp [exprsOk, hb134]
                · rintro s s' ⟨rfl, hX0⟩ hw
                  refine awp_weak hw ?_
                  refine awp_seq ?_
                  refine awp_run rfl ?_
                  refine awp_ret ?_
                  exact leave_ret_same [] rfl hG (List.append_nil G).symm rfl ⟨congrArg (fun b => AEnd.ret (.p (.bool b))) (by rw [exprOk, hX0]; simp_all [shapeOk, noName, placeOk, okBin, okUn, codeOk] <;> omega), rfl⟩
              | true =>
                refine vopsL_take 1 rfl ?_
                refine awp_if true rfl (fun _ => ?_) (fun e => by cases e)
                refine awp_seq ?_
                refine awp_run rfl ?_
                refine awp_ret ?_
                refine q_ret ?_
                exact leave_ret_same [] rfl hG (List.append_nil G).symm rfl ⟨congrArg (fun b => AEnd.ret (.p (.bool b))) (by have hnn := @name_none nm; simp_all [exprOk, shapeOk, noName, placeOk, okBin, okUn, codeOk] <;> omega), rfl⟩
            | true =>
              have h113 := of_decide_eq_true hb113
              rw [hlen] at h113
              have hk0 : ks ≠ [] := by rintro rfl; simp at h113
              refine vopsL_take 5 rfl ?_
              refine awp_if true rfl (fun _ => ?_) (fun e => by cases e)
              refine awp_seq ?_
              refine awp_run rfl ?_
              refine awp_ret ?_
              refine q_ret ?_
              exact leave_ret_same [] rfl hG (List.append_nil G).symm rfl ⟨congrArg (fun b => AEnd.ret (.p (.bool b))) (by have hnn := @name_none nm; simp_all [exprOk, shapeOk, noName, placeOk, okBin, okUn, codeOk] <;> omega), rfl⟩
          | true =>
            have h106 := of_decide_eq_true hb106
            rw [hlen] at h106
            refine vopsL_take 12 rfl ?_
            refine awp_if true rfl (fun _ => ?_) (fun e => by cases e)
            refine awp_seq ?_
            refine awp_run rfl ?_
            refine awp_ret ?_
            refine q_ret ?_
            exact leave_ret_same [] rfl hG (List.append_nil G).symm rfl ⟨congrArg (fun b => AEnd.ret (.p (.bool b))) (by have hnn := @name_none nm; simp_all [exprOk, shapeOk, noName, placeOk, okBin, okUn, codeOk] <;> omega), rfl⟩
        | true =>
          refine vopsL_take 29 rfl ?_
          refine awp_if true rfl (fun _ => ?_) (fun e => by cases e)
          refine awp_seq ?_
          refine awp_run rfl ?_
          refine awp_ret ?_
          refine q_ret ?_
          exact leave_ret_same [] rfl hG (List.append_nil G).symm rfl ⟨congrArg (fun b => AEnd.ret (.p (.bool b))) (by have hnn := @name_none nm; simp_all [exprOk, shapeOk, noName, placeOk, okBin, okUn, codeOk] <;> omega), rfl⟩
theorem c_rexpr3 (L a n : Int) (nm : ByteArray) (ks : List E) (G : List Blk) (h1 : 0 ≤ a) (h2 : a ≤ 101) (ih : ∀ e ∈ ks, ExprRC e) : FnIs Try.prog 136 [.agg (E.args (.mk 3 n nm ks)), .p (j64 L), .p (j64 a)] G (.p (.bool (exprOk L a (.mk 3 n nm ks)))) := by
  have hlen := E.rows_len ks
  refine acalls_fn (cfg 136) Try.func136 rfl rfl rfl (by simp) fun hG => ?_
  refine awp_seq ?_
  refine awp_run rfl ?_
  refine awp_seq ?_
  refine awp_run rfl ?_
  refine awp_seq ?_
  refine awp_sl mixed (by kernel_rfl) ?_
  refine vsl_take 2 rfl ?_
  refine vsl_cmp rfl rfl rfl fun b hb14 => ?_
  cases b with
  | false =>
    refine vsl_take 2 rfl ?_
    refine vsl_done ?_
    refine awp_seq ?_
    refine awp_seq ?_
    refine awp_run rfl ?_
    refine awp_block ?_
    refine awp_seq ?_
    refine awp_run rfl ?_
    refine awp_if false rfl (fun e => by cases e) fun _ => ?_
    refine awp_seq ?_
    refine awp_run rfl ?_
    refine awp_if false rfl (fun e => by cases e) fun _ => ?_
    refine awp_seq ?_
    refine awp_run rfl ?_
    refine awp_if true rfl (fun _ => ?_) (fun e => by cases e)
    refine awp_sl mixed (by kernel_rfl) ?_
    refine vsl_take 2 rfl ?_
    refine vsl_cmp rfl rfl rfl fun b hb34 => ?_
    cases b with
    | false =>
      refine vsl_take 8 rfl ?_
      refine vsl_done ?_
      refine awp_seq ?_
      refine awp_seq ?_
      refine awp_ops ?_
      refine vopsL_take 36 rfl ?_
      refine awp_if true rfl (fun _ => ?_) (fun e => by cases e)
      refine awp_seq ?_
      refine awp_run rfl ?_
      refine awp_ret ?_
      refine q_ret ?_
      exact leave_ret_same [] rfl hG (List.append_nil G).symm rfl ⟨congrArg (fun b => AEnd.ret (.p (.bool b))) (by have hnn := @name_none nm; simp_all [exprOk, shapeOk, noName, placeOk, okBin, okUn, codeOk] <;> omega), rfl⟩
    | true =>
      refine vsl_take 3 rfl ?_
      refine vsl_cmpG rfl rfl rfl rfl fun b hb38 => ?_
      cases b with
      | false =>
        refine vsl_take 4 rfl ?_
        refine vsl_done ?_
        refine awp_seq ?_
        refine awp_seq ?_
        refine awp_ops ?_
        refine vopsL_take 36 rfl ?_
        refine awp_if true rfl (fun _ => ?_) (fun e => by cases e)
        refine awp_seq ?_
        refine awp_run rfl ?_
        refine awp_ret ?_
        refine q_ret ?_
        exact leave_ret_same [] rfl hG (List.append_nil G).symm rfl ⟨congrArg (fun b => AEnd.ret (.p (.bool b))) (by have hnn := @name_none nm; simp_all [exprOk, shapeOk, noName, placeOk, okBin, okUn, codeOk] <;> omega), rfl⟩
      | true =>
        refine vsl_take 4 rfl ?_
        refine vsl_done ?_
        refine awp_seq ?_
        refine awp_seq ?_
        refine awp_ops ?_
        refine vopsL_take 6 rfl ?_
        refine vopsL_cmpG rfl rfl rfl rfl (by decide) rfl fun b hb89 => ?_
        cases b with
        | false =>
          refine vopsL_take 16 rfl ?_
          refine vopsL_cmpG rfl rfl rfl rfl (by decide) rfl fun b hb106 => ?_
          cases b with
          | false =>
            have h106 := of_decide_eq_false hb106
            rw [hlen] at h106
            refine vopsL_take 6 rfl ?_
            refine vopsL_cmpG rfl rfl rfl rfl (by decide) rfl fun b hb113 => ?_
            cases b with
            | false =>
              have h113 := of_decide_eq_false hb113
              rw [hlen] at h113
              refine vopsL_take 3 rfl ?_
              refine vopsL_cmpG rfl rfl rfl rfl (by decide) rfl fun b hb117 => ?_
              cases b with
              | false =>
                have ha : a ≤ 100 := by simpa using hb117
                have hkl : ks.length ≤ 17 := by omega
                refine vopsL_take 1 rfl ?_
                refine awp_if false rfl (fun e => by cases e) fun _ => ?_
                refine awp_skip ?_
                refine awp_seq ?_
                refine awp_seq ?_
                refine awp_run rfl ?_
                refine awp_weak (s' := { ts := [(1, .p (j64 L)), (2, .p (j64 a)), (3, .ptr (.l 3) 0), (11, .p (j64 0))], L := [(3, [.p (j64 3), .p (j64 n), .p (.str nm), .p (.vec (E.rows ks))])], G := G }) (weakL _ ⟨rfl, rfl, rfl, rfl, trivial⟩ rfl rfl) ?_
                refine awp_forE (fun mm s => ∃ (i : Nat) , s = { ts := [(1, .p (j64 L)), (2, .p (j64 a)), (3, .ptr (.l 3) 0), (11, .p (j64 i))], L := [(3, [.p (j64 3), .p (j64 n), .p (.str nm), .p (.vec (E.rows ks))])], G := G } ∧ i ≤ ks.length ∧ mm = ks.length - i ∧ exprsOk L (a + 1) ks = exprsOk L (a + 1) (ks.drop i))
                  (fun s => s = { ts := [], L := [], G := G } ∧ exprsOk L (a + 1) ks = true) ks.length ⟨0, rfl, by omega, by omega, by simp⟩ ?_ ?_
                · rintro mm s ⟨i, rfl, hi_i, rfl, hI0⟩
                  refine awp_seq ?_
                  refine awp_seq ?_
                  refine awp_ops ?_
                  refine vopsL_take 4 rfl ?_
                  refine vopsL_cmp rfl rfl rfl (by decide) rfl fun b hb123 => ?_
                  cases b with
                  | false =>
                    have hge_i := ge_eq (E.rows_len ks) hi_i hb123
                    refine awp_if false rfl (fun e => by cases e) fun _ => ?_
                    refine awp_exit ?_
                    refine ⟨{ ts := [], L := [], G := G }, (weakK _ 3).trans (weakL _ trivial rfl rfl), rfl, ?_⟩
                    subst hge_i
                    simpa [exprsOk] using hI0
                  | true =>
                    obtain ⟨e, he_i, hlt_i⟩ := lt_get (E.rows_len ks) hb123
                    have hx_i := E.rows_get he_i
                    have hdr_i := drop_get he_i
                    obtain ⟨eop, en, enm, eks⟩ := e
                    refine awp_if true rfl (fun _ => ?_) (fun e => by cases e)
                    refine awp_skip ?_
                    refine awp_seq ?_
                    refine awp_block ?_
                    refine awp_seq ?_
                    refine awp_ops ?_
                    refine vopsL_take 3 rfl ?_
                    refine vopsL_idx hx_i rfl rfl rfl (by decide) rfl rfl rfl rfl (by decide) ?_
                    refine vopsL_take 4 rfl ?_
                    rw [wrap64 (x := a + 1) (by omega)]
                    refine vopsL_fn rfl rfl rfl (ih (.mk eop en enm eks) (List.mem_of_getElem? he_i) L (a + 1) G (by omega) (by omega)) ?_
                    cases hb134 : exprOk L (a + 1) (.mk eop en enm eks) with
                    | false =>
                      refine vopsL_take 1 rfl ?_
                      refine awp_if true rfl (fun _ => ?_) (fun e => by cases e)
                      refine awp_seq ?_
                      refine awp_run rfl ?_
                      refine awp_ret ?_
                      refine q_block (q_ret (q_for (q_ret ?_)))
                      exact leave_ret_same [] rfl hG (List.append_nil G).symm rfl ⟨congrArg (fun b => AEnd.ret (.p (.bool b))) (by rw [exprOk, hI0, hdr_i]; simp [exprsOk, hb134]), rfl⟩
                    | true =>
                      refine vopsL_take 1 rfl ?_
                      refine awp_if false rfl (fun e => by cases e) fun _ => ?_
                      refine awp_skip ?_
                      refine awp_run rfl ?_
                      rw [wrap64 (x := (i : Int) + 1) (by omega)]
                      refine ⟨{ ts := [(1, .p (j64 L)), (2, .p (j64 a)), (3, .ptr (.l 3) 0), (11, .p (j64 (i + 1 : Nat)))], L := [(3, [.p (j64 3), .p (j64 n), .p (.str nm), .p (.vec (E.rows ks))])], G := G }, weakL _ ⟨rfl, rfl, rfl, rfl, trivial⟩ rfl rfl, ks.length - (i + 1), by omega, i + 1, rfl, by omega, rfl, ?_⟩
                      rw [hI0, hdr_i]; simp [exprsOk, hb134]
                · rintro s s' ⟨rfl, hX0⟩ hw
                  refine awp_weak hw ?_
                  refine awp_seq ?_
                  refine awp_run rfl ?_
                  refine awp_ret ?_
                  exact leave_ret_same [] rfl hG (List.append_nil G).symm rfl ⟨congrArg (fun b => AEnd.ret (.p (.bool b))) (by rw [exprOk, hX0]; simp_all [shapeOk, noName, placeOk, okBin, okUn, codeOk] <;> omega), rfl⟩
              | true =>
                refine vopsL_take 1 rfl ?_
                refine awp_if true rfl (fun _ => ?_) (fun e => by cases e)
                refine awp_seq ?_
                refine awp_run rfl ?_
                refine awp_ret ?_
                refine q_ret ?_
                exact leave_ret_same [] rfl hG (List.append_nil G).symm rfl ⟨congrArg (fun b => AEnd.ret (.p (.bool b))) (by have hnn := @name_none nm; simp_all [exprOk, shapeOk, noName, placeOk, okBin, okUn, codeOk] <;> omega), rfl⟩
            | true =>
              have h113 := of_decide_eq_true hb113
              rw [hlen] at h113
              have hk0 : ks ≠ [] := by rintro rfl; simp at h113
              refine vopsL_take 5 rfl ?_
              refine awp_if true rfl (fun _ => ?_) (fun e => by cases e)
              refine awp_seq ?_
              refine awp_run rfl ?_
              refine awp_ret ?_
              refine q_ret ?_
              exact leave_ret_same [] rfl hG (List.append_nil G).symm rfl ⟨congrArg (fun b => AEnd.ret (.p (.bool b))) (by have hnn := @name_none nm; simp_all [exprOk, shapeOk, noName, placeOk, okBin, okUn, codeOk] <;> omega), rfl⟩
          | true =>
            have h106 := of_decide_eq_true hb106
            rw [hlen] at h106
            refine vopsL_take 12 rfl ?_
            refine awp_if true rfl (fun _ => ?_) (fun e => by cases e)
            refine awp_seq ?_
            refine awp_run rfl ?_
            refine awp_ret ?_
            refine q_ret ?_
            exact leave_ret_same [] rfl hG (List.append_nil G).symm rfl ⟨congrArg (fun b => AEnd.ret (.p (.bool b))) (by have hnn := @name_none nm; simp_all [exprOk, shapeOk, noName, placeOk, okBin, okUn, codeOk] <;> omega), rfl⟩
        | true =>
          refine vopsL_take 29 rfl ?_
          refine awp_if true rfl (fun _ => ?_) (fun e => by cases e)
          refine awp_seq ?_
          refine awp_run rfl ?_
          refine awp_ret ?_
          refine q_ret ?_
          exact leave_ret_same [] rfl hG (List.append_nil G).symm rfl ⟨congrArg (fun b => AEnd.ret (.p (.bool b))) (by have hnn := @name_none nm; simp_all [exprOk, shapeOk, noName, placeOk, okBin, okUn, codeOk] <;> omega), rfl⟩
  | true =>
    refine vsl_take 2 rfl ?_
    refine vsl_done ?_
    refine awp_seq ?_
    refine awp_seq ?_
    refine awp_run rfl ?_
    refine awp_block ?_
    refine awp_seq ?_
    refine awp_run rfl ?_
    refine awp_if false rfl (fun e => by cases e) fun _ => ?_
    refine awp_seq ?_
    refine awp_run rfl ?_
    refine awp_if false rfl (fun e => by cases e) fun _ => ?_
    refine awp_seq ?_
    refine awp_run rfl ?_
    refine awp_if true rfl (fun _ => ?_) (fun e => by cases e)
    refine awp_sl mixed (by kernel_rfl) ?_
    refine vsl_take 2 rfl ?_
    refine vsl_cmp rfl rfl rfl fun b hb34 => ?_
    cases b with
    | false =>
      refine vsl_take 8 rfl ?_
      refine vsl_done ?_
      refine awp_seq ?_
      refine awp_seq ?_
      refine awp_ops ?_
      refine vopsL_take 36 rfl ?_
      refine awp_if true rfl (fun _ => ?_) (fun e => by cases e)
      refine awp_seq ?_
      refine awp_run rfl ?_
      refine awp_ret ?_
      refine q_ret ?_
      exact leave_ret_same [] rfl hG (List.append_nil G).symm rfl ⟨congrArg (fun b => AEnd.ret (.p (.bool b))) (by have hnn := @name_none nm; simp_all [exprOk, shapeOk, noName, placeOk, okBin, okUn, codeOk] <;> omega), rfl⟩
    | true =>
      refine vsl_take 3 rfl ?_
      refine vsl_cmpG rfl rfl rfl rfl fun b hb38 => ?_
      cases b with
      | false =>
        refine vsl_take 4 rfl ?_
        refine vsl_done ?_
        refine awp_seq ?_
        refine awp_seq ?_
        refine awp_ops ?_
        refine vopsL_take 36 rfl ?_
        refine awp_if true rfl (fun _ => ?_) (fun e => by cases e)
        refine awp_seq ?_
        refine awp_run rfl ?_
        refine awp_ret ?_
        refine q_ret ?_
        exact leave_ret_same [] rfl hG (List.append_nil G).symm rfl ⟨congrArg (fun b => AEnd.ret (.p (.bool b))) (by have hnn := @name_none nm; simp_all [exprOk, shapeOk, noName, placeOk, okBin, okUn, codeOk] <;> omega), rfl⟩
      | true =>
        refine vsl_take 4 rfl ?_
        refine vsl_done ?_
        refine awp_seq ?_
        refine awp_seq ?_
        refine awp_ops ?_
        refine vopsL_take 6 rfl ?_
        refine vopsL_cmpG rfl rfl rfl rfl (by decide) rfl fun b hb89 => ?_
        cases b with
        | false =>
          refine vopsL_take 16 rfl ?_
          refine vopsL_cmpG rfl rfl rfl rfl (by decide) rfl fun b hb106 => ?_
          cases b with
          | false =>
            have h106 := of_decide_eq_false hb106
            rw [hlen] at h106
            refine vopsL_take 6 rfl ?_
            refine vopsL_cmpG rfl rfl rfl rfl (by decide) rfl fun b hb113 => ?_
            cases b with
            | false =>
              have h113 := of_decide_eq_false hb113
              rw [hlen] at h113
              refine vopsL_take 3 rfl ?_
              refine vopsL_cmpG rfl rfl rfl rfl (by decide) rfl fun b hb117 => ?_
              cases b with
              | false =>
                have ha : a ≤ 100 := by simpa using hb117
                have hkl : ks.length ≤ 17 := by omega
                refine vopsL_take 1 rfl ?_
                refine awp_if false rfl (fun e => by cases e) fun _ => ?_
                refine awp_skip ?_
                refine awp_seq ?_
                refine awp_seq ?_
                refine awp_run rfl ?_
                refine awp_weak (s' := { ts := [(1, .p (j64 L)), (2, .p (j64 a)), (3, .ptr (.l 3) 0), (11, .p (j64 0))], L := [(3, [.p (j64 3), .p (j64 n), .p (.str nm), .p (.vec (E.rows ks))])], G := G }) (weakL _ ⟨rfl, rfl, rfl, rfl, trivial⟩ rfl rfl) ?_
                refine awp_forE (fun mm s => ∃ (i : Nat) , s = { ts := [(1, .p (j64 L)), (2, .p (j64 a)), (3, .ptr (.l 3) 0), (11, .p (j64 i))], L := [(3, [.p (j64 3), .p (j64 n), .p (.str nm), .p (.vec (E.rows ks))])], G := G } ∧ i ≤ ks.length ∧ mm = ks.length - i ∧ exprsOk L (a + 1) ks = exprsOk L (a + 1) (ks.drop i))
                  (fun s => s = { ts := [], L := [], G := G } ∧ exprsOk L (a + 1) ks = true) ks.length ⟨0, rfl, by omega, by omega, by simp⟩ ?_ ?_
                · rintro mm s ⟨i, rfl, hi_i, rfl, hI0⟩
                  refine awp_seq ?_
                  refine awp_seq ?_
                  refine awp_ops ?_
                  refine vopsL_take 4 rfl ?_
                  refine vopsL_cmp rfl rfl rfl (by decide) rfl fun b hb123 => ?_
                  cases b with
                  | false =>
                    have hge_i := ge_eq (E.rows_len ks) hi_i hb123
                    refine awp_if false rfl (fun e => by cases e) fun _ => ?_
                    refine awp_exit ?_
                    refine ⟨{ ts := [], L := [], G := G }, (weakK _ 3).trans (weakL _ trivial rfl rfl), rfl, ?_⟩
                    subst hge_i
                    simpa [exprsOk] using hI0
                  | true =>
                    obtain ⟨e, he_i, hlt_i⟩ := lt_get (E.rows_len ks) hb123
                    have hx_i := E.rows_get he_i
                    have hdr_i := drop_get he_i
                    obtain ⟨eop, en, enm, eks⟩ := e
                    refine awp_if true rfl (fun _ => ?_) (fun e => by cases e)
                    refine awp_skip ?_
                    refine awp_seq ?_
                    refine awp_block ?_
                    refine awp_seq ?_
                    refine awp_ops ?_
                    refine vopsL_take 3 rfl ?_
                    refine vopsL_idx hx_i rfl rfl rfl (by decide) rfl rfl rfl rfl (by decide) ?_
                    refine vopsL_take 4 rfl ?_
                    rw [wrap64 (x := a + 1) (by omega)]
                    refine vopsL_fn rfl rfl rfl (ih (.mk eop en enm eks) (List.mem_of_getElem? he_i) L (a + 1) G (by omega) (by omega)) ?_
                    cases hb134 : exprOk L (a + 1) (.mk eop en enm eks) with
                    | false =>
                      refine vopsL_take 1 rfl ?_
                      refine awp_if true rfl (fun _ => ?_) (fun e => by cases e)
                      refine awp_seq ?_
                      refine awp_run rfl ?_
                      refine awp_ret ?_
                      refine q_block (q_ret (q_for (q_ret ?_)))
                      exact leave_ret_same [] rfl hG (List.append_nil G).symm rfl ⟨congrArg (fun b => AEnd.ret (.p (.bool b))) (by rw [exprOk, hI0, hdr_i]; simp [exprsOk, hb134]), rfl⟩
                    | true =>
                      refine vopsL_take 1 rfl ?_
                      refine awp_if false rfl (fun e => by cases e) fun _ => ?_
                      refine awp_skip ?_
                      refine awp_run rfl ?_
                      rw [wrap64 (x := (i : Int) + 1) (by omega)]
                      refine ⟨{ ts := [(1, .p (j64 L)), (2, .p (j64 a)), (3, .ptr (.l 3) 0), (11, .p (j64 (i + 1 : Nat)))], L := [(3, [.p (j64 3), .p (j64 n), .p (.str nm), .p (.vec (E.rows ks))])], G := G }, weakL _ ⟨rfl, rfl, rfl, rfl, trivial⟩ rfl rfl, ks.length - (i + 1), by omega, i + 1, rfl, by omega, rfl, ?_⟩
                      rw [hI0, hdr_i]; simp [exprsOk, hb134]
                · rintro s s' ⟨rfl, hX0⟩ hw
                  refine awp_weak hw ?_
                  refine awp_seq ?_
                  refine awp_run rfl ?_
                  refine awp_ret ?_
                  exact leave_ret_same [] rfl hG (List.append_nil G).symm rfl ⟨congrArg (fun b => AEnd.ret (.p (.bool b))) (by rw [exprOk, hX0]; simp_all [shapeOk, noName, placeOk, okBin, okUn, codeOk] <;> omega), rfl⟩
              | true =>
                refine vopsL_take 1 rfl ?_
                refine awp_if true rfl (fun _ => ?_) (fun e => by cases e)
                refine awp_seq ?_
                refine awp_run rfl ?_
                refine awp_ret ?_
                refine q_ret ?_
                exact leave_ret_same [] rfl hG (List.append_nil G).symm rfl ⟨congrArg (fun b => AEnd.ret (.p (.bool b))) (by have hnn := @name_none nm; simp_all [exprOk, shapeOk, noName, placeOk, okBin, okUn, codeOk] <;> omega), rfl⟩
            | true =>
              have h113 := of_decide_eq_true hb113
              rw [hlen] at h113
              have hk0 : ks ≠ [] := by rintro rfl; simp at h113
              refine vopsL_take 5 rfl ?_
              refine awp_if true rfl (fun _ => ?_) (fun e => by cases e)
              refine awp_seq ?_
              refine awp_run rfl ?_
              refine awp_ret ?_
              refine q_ret ?_
              exact leave_ret_same [] rfl hG (List.append_nil G).symm rfl ⟨congrArg (fun b => AEnd.ret (.p (.bool b))) (by have hnn := @name_none nm; simp_all [exprOk, shapeOk, noName, placeOk, okBin, okUn, codeOk] <;> omega), rfl⟩
          | true =>
            have h106 := of_decide_eq_true hb106
            rw [hlen] at h106
            refine vopsL_take 12 rfl ?_
            refine awp_if true rfl (fun _ => ?_) (fun e => by cases e)
            refine awp_seq ?_
            refine awp_run rfl ?_
            refine awp_ret ?_
            refine q_ret ?_
            exact leave_ret_same [] rfl hG (List.append_nil G).symm rfl ⟨congrArg (fun b => AEnd.ret (.p (.bool b))) (by have hnn := @name_none nm; simp_all [exprOk, shapeOk, noName, placeOk, okBin, okUn, codeOk] <;> omega), rfl⟩
        | true =>
          refine vopsL_take 29 rfl ?_
          refine awp_if true rfl (fun _ => ?_) (fun e => by cases e)
          refine awp_seq ?_
          refine awp_run rfl ?_
          refine awp_ret ?_
          refine q_ret ?_
          exact leave_ret_same [] rfl hG (List.append_nil G).symm rfl ⟨congrArg (fun b => AEnd.ret (.p (.bool b))) (by have hnn := @name_none nm; simp_all [exprOk, shapeOk, noName, placeOk, okBin, okUn, codeOk] <;> omega), rfl⟩
theorem c_rexpr4 (L a n : Int) (nm : ByteArray) (ks : List E) (G : List Blk) (h1 : 0 ≤ a) (h2 : a ≤ 101) (ih : ∀ e ∈ ks, ExprRC e) : FnIs Try.prog 136 [.agg (E.args (.mk 4 n nm ks)), .p (j64 L), .p (j64 a)] G (.p (.bool (exprOk L a (.mk 4 n nm ks)))) := by
  have hlen := E.rows_len ks
  refine acalls_fn (cfg 136) Try.func136 rfl rfl rfl (by simp) fun hG => ?_
  refine awp_seq ?_
  refine awp_run rfl ?_
  refine awp_seq ?_
  refine awp_run rfl ?_
  refine awp_seq ?_
  refine awp_sl mixed (by kernel_rfl) ?_
  refine vsl_take 2 rfl ?_
  refine vsl_cmp rfl rfl rfl fun b hb14 => ?_
  cases b with
  | false =>
    refine vsl_take 2 rfl ?_
    refine vsl_done ?_
    refine awp_seq ?_
    refine awp_seq ?_
    refine awp_run rfl ?_
    refine awp_block ?_
    refine awp_seq ?_
    refine awp_run rfl ?_
    refine awp_if false rfl (fun e => by cases e) fun _ => ?_
    refine awp_seq ?_
    refine awp_run rfl ?_
    refine awp_if false rfl (fun e => by cases e) fun _ => ?_
    refine awp_seq ?_
    refine awp_run rfl ?_
    refine awp_if false rfl (fun e => by cases e) fun _ => ?_
    refine awp_seq ?_
    refine awp_run rfl ?_
    refine awp_if true rfl (fun _ => ?_) (fun e => by cases e)
    refine awp_sl mixed (by kernel_rfl) ?_
    refine vsl_take 2 rfl ?_
    refine vsl_cmp rfl rfl rfl fun b hb44 => ?_
    cases b with
    | false =>
      refine vsl_take 8 rfl ?_
      refine vsl_done ?_
      refine awp_seq ?_
      refine awp_seq ?_
      refine awp_ops ?_
      refine vopsL_take 36 rfl ?_
      refine awp_if true rfl (fun _ => ?_) (fun e => by cases e)
      refine awp_seq ?_
      refine awp_run rfl ?_
      refine awp_ret ?_
      refine q_ret ?_
      exact leave_ret_same [] rfl hG (List.append_nil G).symm rfl ⟨congrArg (fun b => AEnd.ret (.p (.bool b))) (by have hnn := @name_none nm; simp_all [exprOk, shapeOk, noName, placeOk, okBin, okUn, codeOk] <;> omega), rfl⟩
    | true =>
      refine vsl_take 3 rfl ?_
      refine vsl_cmpG rfl rfl rfl rfl fun b hb48 => ?_
      cases b with
      | false =>
        refine vsl_take 4 rfl ?_
        refine vsl_done ?_
        refine awp_seq ?_
        refine awp_seq ?_
        refine awp_ops ?_
        refine vopsL_take 36 rfl ?_
        refine awp_if true rfl (fun _ => ?_) (fun e => by cases e)
        refine awp_seq ?_
        refine awp_run rfl ?_
        refine awp_ret ?_
        refine q_ret ?_
        exact leave_ret_same [] rfl hG (List.append_nil G).symm rfl ⟨congrArg (fun b => AEnd.ret (.p (.bool b))) (by have hnn := @name_none nm; simp_all [exprOk, shapeOk, noName, placeOk, okBin, okUn, codeOk] <;> omega), rfl⟩
      | true =>
        refine vsl_take 4 rfl ?_
        refine vsl_done ?_
        refine awp_seq ?_
        refine awp_seq ?_
        refine awp_ops ?_
        refine vopsL_take 6 rfl ?_
        refine vopsL_cmpG rfl rfl rfl rfl (by decide) rfl fun b hb89 => ?_
        cases b with
        | false =>
          refine vopsL_take 16 rfl ?_
          refine vopsL_cmpG rfl rfl rfl rfl (by decide) rfl fun b hb106 => ?_
          cases b with
          | false =>
            have h106 := of_decide_eq_false hb106
            rw [hlen] at h106
            refine vopsL_take 6 rfl ?_
            refine vopsL_cmpG rfl rfl rfl rfl (by decide) rfl fun b hb113 => ?_
            cases b with
            | false =>
              have h113 := of_decide_eq_false hb113
              rw [hlen] at h113
              refine vopsL_take 3 rfl ?_
              refine vopsL_cmpG rfl rfl rfl rfl (by decide) rfl fun b hb117 => ?_
              cases b with
              | false =>
                have ha : a ≤ 100 := by simpa using hb117
                have hkl : ks.length ≤ 17 := by omega
                refine vopsL_take 1 rfl ?_
                refine awp_if false rfl (fun e => by cases e) fun _ => ?_
                refine awp_skip ?_
                refine awp_seq ?_
                refine awp_seq ?_
                refine awp_run rfl ?_
                refine awp_weak (s' := { ts := [(1, .p (j64 L)), (2, .p (j64 a)), (3, .ptr (.l 3) 0), (11, .p (j64 0))], L := [(3, [.p (j64 4), .p (j64 n), .p (.str nm), .p (.vec (E.rows ks))])], G := G }) (weakL _ ⟨rfl, rfl, rfl, rfl, trivial⟩ rfl rfl) ?_
                refine awp_forE (fun mm s => ∃ (i : Nat) , s = { ts := [(1, .p (j64 L)), (2, .p (j64 a)), (3, .ptr (.l 3) 0), (11, .p (j64 i))], L := [(3, [.p (j64 4), .p (j64 n), .p (.str nm), .p (.vec (E.rows ks))])], G := G } ∧ i ≤ ks.length ∧ mm = ks.length - i ∧ exprsOk L (a + 1) ks = exprsOk L (a + 1) (ks.drop i))
                  (fun s => s = { ts := [], L := [], G := G } ∧ exprsOk L (a + 1) ks = true) ks.length ⟨0, rfl, by omega, by omega, by simp⟩ ?_ ?_
                · rintro mm s ⟨i, rfl, hi_i, rfl, hI0⟩
                  refine awp_seq ?_
                  refine awp_seq ?_
                  refine awp_ops ?_
                  refine vopsL_take 4 rfl ?_
                  refine vopsL_cmp rfl rfl rfl (by decide) rfl fun b hb123 => ?_
                  cases b with
                  | false =>
                    have hge_i := ge_eq (E.rows_len ks) hi_i hb123
                    refine awp_if false rfl (fun e => by cases e) fun _ => ?_
                    refine awp_exit ?_
                    refine ⟨{ ts := [], L := [], G := G }, (weakK _ 3).trans (weakL _ trivial rfl rfl), rfl, ?_⟩
                    subst hge_i
                    simpa [exprsOk] using hI0
                  | true =>
                    obtain ⟨e, he_i, hlt_i⟩ := lt_get (E.rows_len ks) hb123
                    have hx_i := E.rows_get he_i
                    have hdr_i := drop_get he_i
                    obtain ⟨eop, en, enm, eks⟩ := e
                    refine awp_if true rfl (fun _ => ?_) (fun e => by cases e)
                    refine awp_skip ?_
                    refine awp_seq ?_
                    refine awp_block ?_
                    refine awp_seq ?_
                    refine awp_ops ?_
                    refine vopsL_take 3 rfl ?_
                    refine vopsL_idx hx_i rfl rfl rfl (by decide) rfl rfl rfl rfl (by decide) ?_
                    refine vopsL_take 4 rfl ?_
                    rw [wrap64 (x := a + 1) (by omega)]
                    refine vopsL_fn rfl rfl rfl (ih (.mk eop en enm eks) (List.mem_of_getElem? he_i) L (a + 1) G (by omega) (by omega)) ?_
                    cases hb134 : exprOk L (a + 1) (.mk eop en enm eks) with
                    | false =>
                      refine vopsL_take 1 rfl ?_
                      refine awp_if true rfl (fun _ => ?_) (fun e => by cases e)
                      refine awp_seq ?_
                      refine awp_run rfl ?_
                      refine awp_ret ?_
                      refine q_block (q_ret (q_for (q_ret ?_)))
                      exact leave_ret_same [] rfl hG (List.append_nil G).symm rfl ⟨congrArg (fun b => AEnd.ret (.p (.bool b))) (by rw [exprOk, hI0, hdr_i]; simp [exprsOk, hb134]), rfl⟩
                    | true =>
                      refine vopsL_take 1 rfl ?_
                      refine awp_if false rfl (fun e => by cases e) fun _ => ?_
                      refine awp_skip ?_
                      refine awp_run rfl ?_
                      rw [wrap64 (x := (i : Int) + 1) (by omega)]
                      refine ⟨{ ts := [(1, .p (j64 L)), (2, .p (j64 a)), (3, .ptr (.l 3) 0), (11, .p (j64 (i + 1 : Nat)))], L := [(3, [.p (j64 4), .p (j64 n), .p (.str nm), .p (.vec (E.rows ks))])], G := G }, weakL _ ⟨rfl, rfl, rfl, rfl, trivial⟩ rfl rfl, ks.length - (i + 1), by omega, i + 1, rfl, by omega, rfl, ?_⟩
                      rw [hI0, hdr_i]; simp [exprsOk, hb134]
                · rintro s s' ⟨rfl, hX0⟩ hw
                  refine awp_weak hw ?_
                  refine awp_seq ?_
                  refine awp_run rfl ?_
                  refine awp_ret ?_
                  exact leave_ret_same [] rfl hG (List.append_nil G).symm rfl ⟨congrArg (fun b => AEnd.ret (.p (.bool b))) (by rw [exprOk, hX0]; simp_all [shapeOk, noName, placeOk, okBin, okUn, codeOk] <;> omega), rfl⟩
              | true =>
                refine vopsL_take 1 rfl ?_
                refine awp_if true rfl (fun _ => ?_) (fun e => by cases e)
                refine awp_seq ?_
                refine awp_run rfl ?_
                refine awp_ret ?_
                refine q_ret ?_
                exact leave_ret_same [] rfl hG (List.append_nil G).symm rfl ⟨congrArg (fun b => AEnd.ret (.p (.bool b))) (by have hnn := @name_none nm; simp_all [exprOk, shapeOk, noName, placeOk, okBin, okUn, codeOk] <;> omega), rfl⟩
            | true =>
              have h113 := of_decide_eq_true hb113
              rw [hlen] at h113
              have hk0 : ks ≠ [] := by rintro rfl; simp at h113
              refine vopsL_take 5 rfl ?_
              refine awp_if true rfl (fun _ => ?_) (fun e => by cases e)
              refine awp_seq ?_
              refine awp_run rfl ?_
              refine awp_ret ?_
              refine q_ret ?_
              exact leave_ret_same [] rfl hG (List.append_nil G).symm rfl ⟨congrArg (fun b => AEnd.ret (.p (.bool b))) (by have hnn := @name_none nm; simp_all [exprOk, shapeOk, noName, placeOk, okBin, okUn, codeOk] <;> omega), rfl⟩
          | true =>
            have h106 := of_decide_eq_true hb106
            rw [hlen] at h106
            refine vopsL_take 12 rfl ?_
            refine awp_if true rfl (fun _ => ?_) (fun e => by cases e)
            refine awp_seq ?_
            refine awp_run rfl ?_
            refine awp_ret ?_
            refine q_ret ?_
            exact leave_ret_same [] rfl hG (List.append_nil G).symm rfl ⟨congrArg (fun b => AEnd.ret (.p (.bool b))) (by have hnn := @name_none nm; simp_all [exprOk, shapeOk, noName, placeOk, okBin, okUn, codeOk] <;> omega), rfl⟩
        | true =>
          refine vopsL_take 29 rfl ?_
          refine awp_if true rfl (fun _ => ?_) (fun e => by cases e)
          refine awp_seq ?_
          refine awp_run rfl ?_
          refine awp_ret ?_
          refine q_ret ?_
          exact leave_ret_same [] rfl hG (List.append_nil G).symm rfl ⟨congrArg (fun b => AEnd.ret (.p (.bool b))) (by have hnn := @name_none nm; simp_all [exprOk, shapeOk, noName, placeOk, okBin, okUn, codeOk] <;> omega), rfl⟩
  | true =>
    refine vsl_take 2 rfl ?_
    refine vsl_done ?_
    refine awp_seq ?_
    refine awp_seq ?_
    refine awp_run rfl ?_
    refine awp_block ?_
    refine awp_seq ?_
    refine awp_run rfl ?_
    refine awp_if false rfl (fun e => by cases e) fun _ => ?_
    refine awp_seq ?_
    refine awp_run rfl ?_
    refine awp_if false rfl (fun e => by cases e) fun _ => ?_
    refine awp_seq ?_
    refine awp_run rfl ?_
    refine awp_if false rfl (fun e => by cases e) fun _ => ?_
    refine awp_seq ?_
    refine awp_run rfl ?_
    refine awp_if true rfl (fun _ => ?_) (fun e => by cases e)
    refine awp_sl mixed (by kernel_rfl) ?_
    refine vsl_take 2 rfl ?_
    refine vsl_cmp rfl rfl rfl fun b hb44 => ?_
    cases b with
    | false =>
      refine vsl_take 8 rfl ?_
      refine vsl_done ?_
      refine awp_seq ?_
      refine awp_seq ?_
      refine awp_ops ?_
      refine vopsL_take 36 rfl ?_
      refine awp_if true rfl (fun _ => ?_) (fun e => by cases e)
      refine awp_seq ?_
      refine awp_run rfl ?_
      refine awp_ret ?_
      refine q_ret ?_
      exact leave_ret_same [] rfl hG (List.append_nil G).symm rfl ⟨congrArg (fun b => AEnd.ret (.p (.bool b))) (by have hnn := @name_none nm; simp_all [exprOk, shapeOk, noName, placeOk, okBin, okUn, codeOk] <;> omega), rfl⟩
    | true =>
      refine vsl_take 3 rfl ?_
      refine vsl_cmpG rfl rfl rfl rfl fun b hb48 => ?_
      cases b with
      | false =>
        refine vsl_take 4 rfl ?_
        refine vsl_done ?_
        refine awp_seq ?_
        refine awp_seq ?_
        refine awp_ops ?_
        refine vopsL_take 36 rfl ?_
        refine awp_if true rfl (fun _ => ?_) (fun e => by cases e)
        refine awp_seq ?_
        refine awp_run rfl ?_
        refine awp_ret ?_
        refine q_ret ?_
        exact leave_ret_same [] rfl hG (List.append_nil G).symm rfl ⟨congrArg (fun b => AEnd.ret (.p (.bool b))) (by have hnn := @name_none nm; simp_all [exprOk, shapeOk, noName, placeOk, okBin, okUn, codeOk] <;> omega), rfl⟩
      | true =>
        refine vsl_take 4 rfl ?_
        refine vsl_done ?_
        refine awp_seq ?_
        refine awp_seq ?_
        refine awp_ops ?_
        refine vopsL_take 6 rfl ?_
        refine vopsL_cmpG rfl rfl rfl rfl (by decide) rfl fun b hb89 => ?_
        cases b with
        | false =>
          refine vopsL_take 16 rfl ?_
          refine vopsL_cmpG rfl rfl rfl rfl (by decide) rfl fun b hb106 => ?_
          cases b with
          | false =>
            have h106 := of_decide_eq_false hb106
            rw [hlen] at h106
            refine vopsL_take 6 rfl ?_
            refine vopsL_cmpG rfl rfl rfl rfl (by decide) rfl fun b hb113 => ?_
            cases b with
            | false =>
              have h113 := of_decide_eq_false hb113
              rw [hlen] at h113
              refine vopsL_take 3 rfl ?_
              refine vopsL_cmpG rfl rfl rfl rfl (by decide) rfl fun b hb117 => ?_
              cases b with
              | false =>
                have ha : a ≤ 100 := by simpa using hb117
                have hkl : ks.length ≤ 17 := by omega
                refine vopsL_take 1 rfl ?_
                refine awp_if false rfl (fun e => by cases e) fun _ => ?_
                refine awp_skip ?_
                refine awp_seq ?_
                refine awp_seq ?_
                refine awp_run rfl ?_
                refine awp_weak (s' := { ts := [(1, .p (j64 L)), (2, .p (j64 a)), (3, .ptr (.l 3) 0), (11, .p (j64 0))], L := [(3, [.p (j64 4), .p (j64 n), .p (.str nm), .p (.vec (E.rows ks))])], G := G }) (weakL _ ⟨rfl, rfl, rfl, rfl, trivial⟩ rfl rfl) ?_
                refine awp_forE (fun mm s => ∃ (i : Nat) , s = { ts := [(1, .p (j64 L)), (2, .p (j64 a)), (3, .ptr (.l 3) 0), (11, .p (j64 i))], L := [(3, [.p (j64 4), .p (j64 n), .p (.str nm), .p (.vec (E.rows ks))])], G := G } ∧ i ≤ ks.length ∧ mm = ks.length - i ∧ exprsOk L (a + 1) ks = exprsOk L (a + 1) (ks.drop i))
                  (fun s => s = { ts := [], L := [], G := G } ∧ exprsOk L (a + 1) ks = true) ks.length ⟨0, rfl, by omega, by omega, by simp⟩ ?_ ?_
                · rintro mm s ⟨i, rfl, hi_i, rfl, hI0⟩
                  refine awp_seq ?_
                  refine awp_seq ?_
                  refine awp_ops ?_
                  refine vopsL_take 4 rfl ?_
                  refine vopsL_cmp rfl rfl rfl (by decide) rfl fun b hb123 => ?_
                  cases b with
                  | false =>
                    have hge_i := ge_eq (E.rows_len ks) hi_i hb123
                    refine awp_if false rfl (fun e => by cases e) fun _ => ?_
                    refine awp_exit ?_
                    refine ⟨{ ts := [], L := [], G := G }, (weakK _ 3).trans (weakL _ trivial rfl rfl), rfl, ?_⟩
                    subst hge_i
                    simpa [exprsOk] using hI0
                  | true =>
                    obtain ⟨e, he_i, hlt_i⟩ := lt_get (E.rows_len ks) hb123
                    have hx_i := E.rows_get he_i
                    have hdr_i := drop_get he_i
                    obtain ⟨eop, en, enm, eks⟩ := e
                    refine awp_if true rfl (fun _ => ?_) (fun e => by cases e)
                    refine awp_skip ?_
                    refine awp_seq ?_
                    refine awp_block ?_
                    refine awp_seq ?_
                    refine awp_ops ?_
                    refine vopsL_take 3 rfl ?_
                    refine vopsL_idx hx_i rfl rfl rfl (by decide) rfl rfl rfl rfl (by decide) ?_
                    refine vopsL_take 4 rfl ?_
                    rw [wrap64 (x := a + 1) (by omega)]
                    refine vopsL_fn rfl rfl rfl (ih (.mk eop en enm eks) (List.mem_of_getElem? he_i) L (a + 1) G (by omega) (by omega)) ?_
                    cases hb134 : exprOk L (a + 1) (.mk eop en enm eks) with
                    | false =>
                      refine vopsL_take 1 rfl ?_
                      refine awp_if true rfl (fun _ => ?_) (fun e => by cases e)
                      refine awp_seq ?_
                      refine awp_run rfl ?_
                      refine awp_ret ?_
                      refine q_block (q_ret (q_for (q_ret ?_)))
                      exact leave_ret_same [] rfl hG (List.append_nil G).symm rfl ⟨congrArg (fun b => AEnd.ret (.p (.bool b))) (by rw [exprOk, hI0, hdr_i]; simp [exprsOk, hb134]), rfl⟩
                    | true =>
                      refine vopsL_take 1 rfl ?_
                      refine awp_if false rfl (fun e => by cases e) fun _ => ?_
                      refine awp_skip ?_
                      refine awp_run rfl ?_
                      rw [wrap64 (x := (i : Int) + 1) (by omega)]
                      refine ⟨{ ts := [(1, .p (j64 L)), (2, .p (j64 a)), (3, .ptr (.l 3) 0), (11, .p (j64 (i + 1 : Nat)))], L := [(3, [.p (j64 4), .p (j64 n), .p (.str nm), .p (.vec (E.rows ks))])], G := G }, weakL _ ⟨rfl, rfl, rfl, rfl, trivial⟩ rfl rfl, ks.length - (i + 1), by omega, i + 1, rfl, by omega, rfl, ?_⟩
                      rw [hI0, hdr_i]; simp [exprsOk, hb134]
                · rintro s s' ⟨rfl, hX0⟩ hw
                  refine awp_weak hw ?_
                  refine awp_seq ?_
                  refine awp_run rfl ?_
                  refine awp_ret ?_
                  exact leave_ret_same [] rfl hG (List.append_nil G).symm rfl ⟨congrArg (fun b => AEnd.ret (.p (.bool b))) (by rw [exprOk, hX0]; simp_all [shapeOk, noName, placeOk, okBin, okUn, codeOk] <;> omega), rfl⟩
              | true =>
                refine vopsL_take 1 rfl ?_
                refine awp_if true rfl (fun _ => ?_) (fun e => by cases e)
                refine awp_seq ?_
                refine awp_run rfl ?_
                refine awp_ret ?_
                refine q_ret ?_
                exact leave_ret_same [] rfl hG (List.append_nil G).symm rfl ⟨congrArg (fun b => AEnd.ret (.p (.bool b))) (by have hnn := @name_none nm; simp_all [exprOk, shapeOk, noName, placeOk, okBin, okUn, codeOk] <;> omega), rfl⟩
            | true =>
              have h113 := of_decide_eq_true hb113
              rw [hlen] at h113
              have hk0 : ks ≠ [] := by rintro rfl; simp at h113
              refine vopsL_take 5 rfl ?_
              refine awp_if true rfl (fun _ => ?_) (fun e => by cases e)
              refine awp_seq ?_
              refine awp_run rfl ?_
              refine awp_ret ?_
              refine q_ret ?_
              exact leave_ret_same [] rfl hG (List.append_nil G).symm rfl ⟨congrArg (fun b => AEnd.ret (.p (.bool b))) (by have hnn := @name_none nm; simp_all [exprOk, shapeOk, noName, placeOk, okBin, okUn, codeOk] <;> omega), rfl⟩
          | true =>
            have h106 := of_decide_eq_true hb106
            rw [hlen] at h106
            refine vopsL_take 12 rfl ?_
            refine awp_if true rfl (fun _ => ?_) (fun e => by cases e)
            refine awp_seq ?_
            refine awp_run rfl ?_
            refine awp_ret ?_
            refine q_ret ?_
            exact leave_ret_same [] rfl hG (List.append_nil G).symm rfl ⟨congrArg (fun b => AEnd.ret (.p (.bool b))) (by have hnn := @name_none nm; simp_all [exprOk, shapeOk, noName, placeOk, okBin, okUn, codeOk] <;> omega), rfl⟩
        | true =>
          refine vopsL_take 29 rfl ?_
          refine awp_if true rfl (fun _ => ?_) (fun e => by cases e)
          refine awp_seq ?_
          refine awp_run rfl ?_
          refine awp_ret ?_
          refine q_ret ?_
          exact leave_ret_same [] rfl hG (List.append_nil G).symm rfl ⟨congrArg (fun b => AEnd.ret (.p (.bool b))) (by have hnn := @name_none nm; simp_all [exprOk, shapeOk, noName, placeOk, okBin, okUn, codeOk] <;> omega), rfl⟩
theorem c_rexpr5 (L a n : Int) (nm : ByteArray) (ks : List E) (G : List Blk) (h1 : 0 ≤ a) (h2 : a ≤ 101) (ih : ∀ e ∈ ks, ExprRC e) : FnIs Try.prog 136 [.agg (E.args (.mk 5 n nm ks)), .p (j64 L), .p (j64 a)] G (.p (.bool (exprOk L a (.mk 5 n nm ks)))) := by
  have hlen := E.rows_len ks
  refine acalls_fn (cfg 136) Try.func136 rfl rfl rfl (by simp) fun hG => ?_
  refine awp_seq ?_
  refine awp_run rfl ?_
  refine awp_seq ?_
  refine awp_run rfl ?_
  refine awp_seq ?_
  refine awp_sl mixed (by kernel_rfl) ?_
  refine vsl_take 2 rfl ?_
  refine vsl_cmp rfl rfl rfl fun b hb14 => ?_
  cases b with
  | false =>
    refine vsl_take 2 rfl ?_
    refine vsl_done ?_
    refine awp_seq ?_
    refine awp_seq ?_
    refine awp_run rfl ?_
    refine awp_block ?_
    refine awp_seq ?_
    refine awp_run rfl ?_
    refine awp_if false rfl (fun e => by cases e) fun _ => ?_
    refine awp_seq ?_
    refine awp_run rfl ?_
    refine awp_if false rfl (fun e => by cases e) fun _ => ?_
    refine awp_seq ?_
    refine awp_run rfl ?_
    refine awp_if false rfl (fun e => by cases e) fun _ => ?_
    refine awp_seq ?_
    refine awp_run rfl ?_
    refine awp_if false rfl (fun e => by cases e) fun _ => ?_
    refine awp_seq ?_
    refine awp_run rfl ?_
    refine awp_if true rfl (fun _ => ?_) (fun e => by cases e)
    refine awp_sl mixed (by kernel_rfl) ?_
    refine vsl_take 2 rfl ?_
    refine vsl_cmp rfl rfl rfl fun b hb54 => ?_
    cases b with
    | false =>
      refine vsl_take 8 rfl ?_
      refine vsl_done ?_
      refine awp_seq ?_
      refine awp_seq ?_
      refine awp_ops ?_
      refine vopsL_take 36 rfl ?_
      refine awp_if true rfl (fun _ => ?_) (fun e => by cases e)
      refine awp_seq ?_
      refine awp_run rfl ?_
      refine awp_ret ?_
      refine q_ret ?_
      exact leave_ret_same [] rfl hG (List.append_nil G).symm rfl ⟨congrArg (fun b => AEnd.ret (.p (.bool b))) (by have hnn := @name_none nm; simp_all [exprOk, shapeOk, noName, placeOk, okBin, okUn, codeOk] <;> omega), rfl⟩
    | true =>
      refine vsl_take 3 rfl ?_
      refine vsl_cmpG rfl rfl rfl rfl fun b hb58 => ?_
      cases b with
      | false =>
        refine vsl_take 4 rfl ?_
        refine vsl_done ?_
        refine awp_seq ?_
        refine awp_seq ?_
        refine awp_ops ?_
        refine vopsL_take 36 rfl ?_
        refine awp_if true rfl (fun _ => ?_) (fun e => by cases e)
        refine awp_seq ?_
        refine awp_run rfl ?_
        refine awp_ret ?_
        refine q_ret ?_
        exact leave_ret_same [] rfl hG (List.append_nil G).symm rfl ⟨congrArg (fun b => AEnd.ret (.p (.bool b))) (by have hnn := @name_none nm; simp_all [exprOk, shapeOk, noName, placeOk, okBin, okUn, codeOk] <;> omega), rfl⟩
      | true =>
        refine vsl_take 4 rfl ?_
        refine vsl_done ?_
        refine awp_seq ?_
        refine awp_seq ?_
        refine awp_ops ?_
        refine vopsL_take 6 rfl ?_
        refine vopsL_cmpG rfl rfl rfl rfl (by decide) rfl fun b hb89 => ?_
        cases b with
        | false =>
          refine vopsL_take 16 rfl ?_
          refine vopsL_cmpG rfl rfl rfl rfl (by decide) rfl fun b hb106 => ?_
          cases b with
          | false =>
            have h106 := of_decide_eq_false hb106
            rw [hlen] at h106
            refine vopsL_take 6 rfl ?_
            refine vopsL_cmpG rfl rfl rfl rfl (by decide) rfl fun b hb113 => ?_
            cases b with
            | false =>
              have h113 := of_decide_eq_false hb113
              rw [hlen] at h113
              refine vopsL_take 3 rfl ?_
              refine vopsL_cmpG rfl rfl rfl rfl (by decide) rfl fun b hb117 => ?_
              cases b with
              | false =>
                have ha : a ≤ 100 := by simpa using hb117
                have hkl : ks.length ≤ 17 := by omega
                refine vopsL_take 1 rfl ?_
                refine awp_if false rfl (fun e => by cases e) fun _ => ?_
                refine awp_skip ?_
                refine awp_seq ?_
                refine awp_seq ?_
                refine awp_run rfl ?_
                refine awp_weak (s' := { ts := [(1, .p (j64 L)), (2, .p (j64 a)), (3, .ptr (.l 3) 0), (11, .p (j64 0))], L := [(3, [.p (j64 5), .p (j64 n), .p (.str nm), .p (.vec (E.rows ks))])], G := G }) (weakL _ ⟨rfl, rfl, rfl, rfl, trivial⟩ rfl rfl) ?_
                refine awp_forE (fun mm s => ∃ (i : Nat) , s = { ts := [(1, .p (j64 L)), (2, .p (j64 a)), (3, .ptr (.l 3) 0), (11, .p (j64 i))], L := [(3, [.p (j64 5), .p (j64 n), .p (.str nm), .p (.vec (E.rows ks))])], G := G } ∧ i ≤ ks.length ∧ mm = ks.length - i ∧ exprsOk L (a + 1) ks = exprsOk L (a + 1) (ks.drop i))
                  (fun s => s = { ts := [], L := [], G := G } ∧ exprsOk L (a + 1) ks = true) ks.length ⟨0, rfl, by omega, by omega, by simp⟩ ?_ ?_
                · rintro mm s ⟨i, rfl, hi_i, rfl, hI0⟩
                  refine awp_seq ?_
                  refine awp_seq ?_
                  refine awp_ops ?_
                  refine vopsL_take 4 rfl ?_
                  refine vopsL_cmp rfl rfl rfl (by decide) rfl fun b hb123 => ?_
                  cases b with
                  | false =>
                    have hge_i := ge_eq (E.rows_len ks) hi_i hb123
                    refine awp_if false rfl (fun e => by cases e) fun _ => ?_
                    refine awp_exit ?_
                    refine ⟨{ ts := [], L := [], G := G }, (weakK _ 3).trans (weakL _ trivial rfl rfl), rfl, ?_⟩
                    subst hge_i
                    simpa [exprsOk] using hI0
                  | true =>
                    obtain ⟨e, he_i, hlt_i⟩ := lt_get (E.rows_len ks) hb123
                    have hx_i := E.rows_get he_i
                    have hdr_i := drop_get he_i
                    obtain ⟨eop, en, enm, eks⟩ := e
                    refine awp_if true rfl (fun _ => ?_) (fun e => by cases e)
                    refine awp_skip ?_
                    refine awp_seq ?_
                    refine awp_block ?_
                    refine awp_seq ?_
                    refine awp_ops ?_
                    refine vopsL_take 3 rfl ?_
                    refine vopsL_idx hx_i rfl rfl rfl (by decide) rfl rfl rfl rfl (by decide) ?_
                    refine vopsL_take 4 rfl ?_
                    rw [wrap64 (x := a + 1) (by omega)]
                    refine vopsL_fn rfl rfl rfl (ih (.mk eop en enm eks) (List.mem_of_getElem? he_i) L (a + 1) G (by omega) (by omega)) ?_
                    cases hb134 : exprOk L (a + 1) (.mk eop en enm eks) with
                    | false =>
                      refine vopsL_take 1 rfl ?_
                      refine awp_if true rfl (fun _ => ?_) (fun e => by cases e)
                      refine awp_seq ?_
                      refine awp_run rfl ?_
                      refine awp_ret ?_
                      refine q_block (q_ret (q_for (q_ret ?_)))
                      exact leave_ret_same [] rfl hG (List.append_nil G).symm rfl ⟨congrArg (fun b => AEnd.ret (.p (.bool b))) (by rw [exprOk, hI0, hdr_i]; simp [exprsOk, hb134]), rfl⟩
                    | true =>
                      refine vopsL_take 1 rfl ?_
                      refine awp_if false rfl (fun e => by cases e) fun _ => ?_
                      refine awp_skip ?_
                      refine awp_run rfl ?_
                      rw [wrap64 (x := (i : Int) + 1) (by omega)]
                      refine ⟨{ ts := [(1, .p (j64 L)), (2, .p (j64 a)), (3, .ptr (.l 3) 0), (11, .p (j64 (i + 1 : Nat)))], L := [(3, [.p (j64 5), .p (j64 n), .p (.str nm), .p (.vec (E.rows ks))])], G := G }, weakL _ ⟨rfl, rfl, rfl, rfl, trivial⟩ rfl rfl, ks.length - (i + 1), by omega, i + 1, rfl, by omega, rfl, ?_⟩
                      rw [hI0, hdr_i]; simp [exprsOk, hb134]
                · rintro s s' ⟨rfl, hX0⟩ hw
                  refine awp_weak hw ?_
                  refine awp_seq ?_
                  refine awp_run rfl ?_
                  refine awp_ret ?_
                  exact leave_ret_same [] rfl hG (List.append_nil G).symm rfl ⟨congrArg (fun b => AEnd.ret (.p (.bool b))) (by rw [exprOk, hX0]; simp_all [shapeOk, noName, placeOk, okBin, okUn, codeOk] <;> omega), rfl⟩
              | true =>
                refine vopsL_take 1 rfl ?_
                refine awp_if true rfl (fun _ => ?_) (fun e => by cases e)
                refine awp_seq ?_
                refine awp_run rfl ?_
                refine awp_ret ?_
                refine q_ret ?_
                exact leave_ret_same [] rfl hG (List.append_nil G).symm rfl ⟨congrArg (fun b => AEnd.ret (.p (.bool b))) (by have hnn := @name_none nm; simp_all [exprOk, shapeOk, noName, placeOk, okBin, okUn, codeOk] <;> omega), rfl⟩
            | true =>
              have h113 := of_decide_eq_true hb113
              rw [hlen] at h113
              have hk0 : ks ≠ [] := by rintro rfl; simp at h113
              refine vopsL_take 5 rfl ?_
              refine awp_if true rfl (fun _ => ?_) (fun e => by cases e)
              refine awp_seq ?_
              refine awp_run rfl ?_
              refine awp_ret ?_
              refine q_ret ?_
              exact leave_ret_same [] rfl hG (List.append_nil G).symm rfl ⟨congrArg (fun b => AEnd.ret (.p (.bool b))) (by have hnn := @name_none nm; simp_all [exprOk, shapeOk, noName, placeOk, okBin, okUn, codeOk] <;> omega), rfl⟩
          | true =>
            have h106 := of_decide_eq_true hb106
            rw [hlen] at h106
            refine vopsL_take 12 rfl ?_
            refine awp_if true rfl (fun _ => ?_) (fun e => by cases e)
            refine awp_seq ?_
            refine awp_run rfl ?_
            refine awp_ret ?_
            refine q_ret ?_
            exact leave_ret_same [] rfl hG (List.append_nil G).symm rfl ⟨congrArg (fun b => AEnd.ret (.p (.bool b))) (by have hnn := @name_none nm; simp_all [exprOk, shapeOk, noName, placeOk, okBin, okUn, codeOk] <;> omega), rfl⟩
        | true =>
          refine vopsL_take 29 rfl ?_
          refine awp_if true rfl (fun _ => ?_) (fun e => by cases e)
          refine awp_seq ?_
          refine awp_run rfl ?_
          refine awp_ret ?_
          refine q_ret ?_
          exact leave_ret_same [] rfl hG (List.append_nil G).symm rfl ⟨congrArg (fun b => AEnd.ret (.p (.bool b))) (by have hnn := @name_none nm; simp_all [exprOk, shapeOk, noName, placeOk, okBin, okUn, codeOk] <;> omega), rfl⟩
  | true =>
    refine vsl_take 2 rfl ?_
    refine vsl_done ?_
    refine awp_seq ?_
    refine awp_seq ?_
    refine awp_run rfl ?_
    refine awp_block ?_
    refine awp_seq ?_
    refine awp_run rfl ?_
    refine awp_if false rfl (fun e => by cases e) fun _ => ?_
    refine awp_seq ?_
    refine awp_run rfl ?_
    refine awp_if false rfl (fun e => by cases e) fun _ => ?_
    refine awp_seq ?_
    refine awp_run rfl ?_
    refine awp_if false rfl (fun e => by cases e) fun _ => ?_
    refine awp_seq ?_
    refine awp_run rfl ?_
    refine awp_if false rfl (fun e => by cases e) fun _ => ?_
    refine awp_seq ?_
    refine awp_run rfl ?_
    refine awp_if true rfl (fun _ => ?_) (fun e => by cases e)
    refine awp_sl mixed (by kernel_rfl) ?_
    refine vsl_take 2 rfl ?_
    refine vsl_cmp rfl rfl rfl fun b hb54 => ?_
    cases b with
    | false =>
      refine vsl_take 8 rfl ?_
      refine vsl_done ?_
      refine awp_seq ?_
      refine awp_seq ?_
      refine awp_ops ?_
      refine vopsL_take 36 rfl ?_
      refine awp_if true rfl (fun _ => ?_) (fun e => by cases e)
      refine awp_seq ?_
      refine awp_run rfl ?_
      refine awp_ret ?_
      refine q_ret ?_
      exact leave_ret_same [] rfl hG (List.append_nil G).symm rfl ⟨congrArg (fun b => AEnd.ret (.p (.bool b))) (by have hnn := @name_none nm; simp_all [exprOk, shapeOk, noName, placeOk, okBin, okUn, codeOk] <;> omega), rfl⟩
    | true =>
      refine vsl_take 3 rfl ?_
      refine vsl_cmpG rfl rfl rfl rfl fun b hb58 => ?_
      cases b with
      | false =>
        refine vsl_take 4 rfl ?_
        refine vsl_done ?_
        refine awp_seq ?_
        refine awp_seq ?_
        refine awp_ops ?_
        refine vopsL_take 36 rfl ?_
        refine awp_if true rfl (fun _ => ?_) (fun e => by cases e)
        refine awp_seq ?_
        refine awp_run rfl ?_
        refine awp_ret ?_
        refine q_ret ?_
        exact leave_ret_same [] rfl hG (List.append_nil G).symm rfl ⟨congrArg (fun b => AEnd.ret (.p (.bool b))) (by have hnn := @name_none nm; simp_all [exprOk, shapeOk, noName, placeOk, okBin, okUn, codeOk] <;> omega), rfl⟩
      | true =>
        refine vsl_take 4 rfl ?_
        refine vsl_done ?_
        refine awp_seq ?_
        refine awp_seq ?_
        refine awp_ops ?_
        refine vopsL_take 6 rfl ?_
        refine vopsL_cmpG rfl rfl rfl rfl (by decide) rfl fun b hb89 => ?_
        cases b with
        | false =>
          refine vopsL_take 16 rfl ?_
          refine vopsL_cmpG rfl rfl rfl rfl (by decide) rfl fun b hb106 => ?_
          cases b with
          | false =>
            have h106 := of_decide_eq_false hb106
            rw [hlen] at h106
            refine vopsL_take 6 rfl ?_
            refine vopsL_cmpG rfl rfl rfl rfl (by decide) rfl fun b hb113 => ?_
            cases b with
            | false =>
              have h113 := of_decide_eq_false hb113
              rw [hlen] at h113
              refine vopsL_take 3 rfl ?_
              refine vopsL_cmpG rfl rfl rfl rfl (by decide) rfl fun b hb117 => ?_
              cases b with
              | false =>
                have ha : a ≤ 100 := by simpa using hb117
                have hkl : ks.length ≤ 17 := by omega
                refine vopsL_take 1 rfl ?_
                refine awp_if false rfl (fun e => by cases e) fun _ => ?_
                refine awp_skip ?_
                refine awp_seq ?_
                refine awp_seq ?_
                refine awp_run rfl ?_
                refine awp_weak (s' := { ts := [(1, .p (j64 L)), (2, .p (j64 a)), (3, .ptr (.l 3) 0), (11, .p (j64 0))], L := [(3, [.p (j64 5), .p (j64 n), .p (.str nm), .p (.vec (E.rows ks))])], G := G }) (weakL _ ⟨rfl, rfl, rfl, rfl, trivial⟩ rfl rfl) ?_
                refine awp_forE (fun mm s => ∃ (i : Nat) , s = { ts := [(1, .p (j64 L)), (2, .p (j64 a)), (3, .ptr (.l 3) 0), (11, .p (j64 i))], L := [(3, [.p (j64 5), .p (j64 n), .p (.str nm), .p (.vec (E.rows ks))])], G := G } ∧ i ≤ ks.length ∧ mm = ks.length - i ∧ exprsOk L (a + 1) ks = exprsOk L (a + 1) (ks.drop i))
                  (fun s => s = { ts := [], L := [], G := G } ∧ exprsOk L (a + 1) ks = true) ks.length ⟨0, rfl, by omega, by omega, by simp⟩ ?_ ?_
                · rintro mm s ⟨i, rfl, hi_i, rfl, hI0⟩
                  refine awp_seq ?_
                  refine awp_seq ?_
                  refine awp_ops ?_
                  refine vopsL_take 4 rfl ?_
                  refine vopsL_cmp rfl rfl rfl (by decide) rfl fun b hb123 => ?_
                  cases b with
                  | false =>
                    have hge_i := ge_eq (E.rows_len ks) hi_i hb123
                    refine awp_if false rfl (fun e => by cases e) fun _ => ?_
                    refine awp_exit ?_
                    refine ⟨{ ts := [], L := [], G := G }, (weakK _ 3).trans (weakL _ trivial rfl rfl), rfl, ?_⟩
                    subst hge_i
                    simpa [exprsOk] using hI0
                  | true =>
                    obtain ⟨e, he_i, hlt_i⟩ := lt_get (E.rows_len ks) hb123
                    have hx_i := E.rows_get he_i
                    have hdr_i := drop_get he_i
                    obtain ⟨eop, en, enm, eks⟩ := e
                    refine awp_if true rfl (fun _ => ?_) (fun e => by cases e)
                    refine awp_skip ?_
                    refine awp_seq ?_
                    refine awp_block ?_
                    refine awp_seq ?_
                    refine awp_ops ?_
                    refine vopsL_take 3 rfl ?_
                    refine vopsL_idx hx_i rfl rfl rfl (by decide) rfl rfl rfl rfl (by decide) ?_
                    refine vopsL_take 4 rfl ?_
                    rw [wrap64 (x := a + 1) (by omega)]
                    refine vopsL_fn rfl rfl rfl (ih (.mk eop en enm eks) (List.mem_of_getElem? he_i) L (a + 1) G (by omega) (by omega)) ?_
                    cases hb134 : exprOk L (a + 1) (.mk eop en enm eks) with
                    | false =>
                      refine vopsL_take 1 rfl ?_
                      refine awp_if true rfl (fun _ => ?_) (fun e => by cases e)
                      refine awp_seq ?_
                      refine awp_run rfl ?_
                      refine awp_ret ?_
                      refine q_block (q_ret (q_for (q_ret ?_)))
                      exact leave_ret_same [] rfl hG (List.append_nil G).symm rfl ⟨congrArg (fun b => AEnd.ret (.p (.bool b))) (by rw [exprOk, hI0, hdr_i]; simp [exprsOk, hb134]), rfl⟩
                    | true =>
                      refine vopsL_take 1 rfl ?_
                      refine awp_if false rfl (fun e => by cases e) fun _ => ?_
                      refine awp_skip ?_
                      refine awp_run rfl ?_
                      rw [wrap64 (x := (i : Int) + 1) (by omega)]
                      refine ⟨{ ts := [(1, .p (j64 L)), (2, .p (j64 a)), (3, .ptr (.l 3) 0), (11, .p (j64 (i + 1 : Nat)))], L := [(3, [.p (j64 5), .p (j64 n), .p (.str nm), .p (.vec (E.rows ks))])], G := G }, weakL _ ⟨rfl, rfl, rfl, rfl, trivial⟩ rfl rfl, ks.length - (i + 1), by omega, i + 1, rfl, by omega, rfl, ?_⟩
                      rw [hI0, hdr_i]; simp [exprsOk, hb134]
                · rintro s s' ⟨rfl, hX0⟩ hw
                  refine awp_weak hw ?_
                  refine awp_seq ?_
                  refine awp_run rfl ?_
                  refine awp_ret ?_
                  exact leave_ret_same [] rfl hG (List.append_nil G).symm rfl ⟨congrArg (fun b => AEnd.ret (.p (.bool b))) (by rw [exprOk, hX0]; simp_all [shapeOk, noName, placeOk, okBin, okUn, codeOk] <;> omega), rfl⟩
              | true =>
                refine vopsL_take 1 rfl ?_
                refine awp_if true rfl (fun _ => ?_) (fun e => by cases e)
                refine awp_seq ?_
                refine awp_run rfl ?_
                refine awp_ret ?_
                refine q_ret ?_
                exact leave_ret_same [] rfl hG (List.append_nil G).symm rfl ⟨congrArg (fun b => AEnd.ret (.p (.bool b))) (by have hnn := @name_none nm; simp_all [exprOk, shapeOk, noName, placeOk, okBin, okUn, codeOk] <;> omega), rfl⟩
            | true =>
              have h113 := of_decide_eq_true hb113
              rw [hlen] at h113
              have hk0 : ks ≠ [] := by rintro rfl; simp at h113
              refine vopsL_take 5 rfl ?_
              refine awp_if true rfl (fun _ => ?_) (fun e => by cases e)
              refine awp_seq ?_
              refine awp_run rfl ?_
              refine awp_ret ?_
              refine q_ret ?_
              exact leave_ret_same [] rfl hG (List.append_nil G).symm rfl ⟨congrArg (fun b => AEnd.ret (.p (.bool b))) (by have hnn := @name_none nm; simp_all [exprOk, shapeOk, noName, placeOk, okBin, okUn, codeOk] <;> omega), rfl⟩
          | true =>
            have h106 := of_decide_eq_true hb106
            rw [hlen] at h106
            refine vopsL_take 12 rfl ?_
            refine awp_if true rfl (fun _ => ?_) (fun e => by cases e)
            refine awp_seq ?_
            refine awp_run rfl ?_
            refine awp_ret ?_
            refine q_ret ?_
            exact leave_ret_same [] rfl hG (List.append_nil G).symm rfl ⟨congrArg (fun b => AEnd.ret (.p (.bool b))) (by have hnn := @name_none nm; simp_all [exprOk, shapeOk, noName, placeOk, okBin, okUn, codeOk] <;> omega), rfl⟩
        | true =>
          refine vopsL_take 29 rfl ?_
          refine awp_if true rfl (fun _ => ?_) (fun e => by cases e)
          refine awp_seq ?_
          refine awp_run rfl ?_
          refine awp_ret ?_
          refine q_ret ?_
          exact leave_ret_same [] rfl hG (List.append_nil G).symm rfl ⟨congrArg (fun b => AEnd.ret (.p (.bool b))) (by have hnn := @name_none nm; simp_all [exprOk, shapeOk, noName, placeOk, okBin, okUn, codeOk] <;> omega), rfl⟩
theorem c_rexpr6 (L a n : Int) (nm : ByteArray) (ks : List E) (G : List Blk) (h1 : 0 ≤ a) (h2 : a ≤ 101) (ih : ∀ e ∈ ks, ExprRC e) : FnIs Try.prog 136 [.agg (E.args (.mk 6 n nm ks)), .p (j64 L), .p (j64 a)] G (.p (.bool (exprOk L a (.mk 6 n nm ks)))) := by
  have hlen := E.rows_len ks
  refine acalls_fn (cfg 136) Try.func136 rfl rfl rfl (by simp) fun hG => ?_
  refine awp_seq ?_
  refine awp_run rfl ?_
  refine awp_seq ?_
  refine awp_run rfl ?_
  refine awp_seq ?_
  refine awp_sl mixed (by kernel_rfl) ?_
  refine vsl_take 2 rfl ?_
  refine vsl_cmp rfl rfl rfl fun b hb14 => ?_
  cases b with
  | false =>
    refine vsl_take 2 rfl ?_
    refine vsl_done ?_
    refine awp_seq ?_
    refine awp_seq ?_
    refine awp_run rfl ?_
    refine awp_block ?_
    refine awp_seq ?_
    refine awp_run rfl ?_
    refine awp_if false rfl (fun e => by cases e) fun _ => ?_
    refine awp_seq ?_
    refine awp_run rfl ?_
    refine awp_if false rfl (fun e => by cases e) fun _ => ?_
    refine awp_seq ?_
    refine awp_run rfl ?_
    refine awp_if false rfl (fun e => by cases e) fun _ => ?_
    refine awp_seq ?_
    refine awp_run rfl ?_
    refine awp_if false rfl (fun e => by cases e) fun _ => ?_
    refine awp_seq ?_
    refine awp_run rfl ?_
    refine awp_if false rfl (fun e => by cases e) fun _ => ?_
    refine awp_seq ?_
    refine awp_run rfl ?_
    refine awp_if true rfl (fun _ => ?_) (fun e => by cases e)
    refine awp_run rfl ?_
    refine awp_seq ?_
    refine awp_seq ?_
    refine awp_ops ?_
    refine vopsL_take 36 rfl ?_
    refine awp_if true rfl (fun _ => ?_) (fun e => by cases e)
    refine awp_seq ?_
    refine awp_run rfl ?_
    refine awp_ret ?_
    refine q_ret ?_
    exact leave_ret_same [] rfl hG (List.append_nil G).symm rfl ⟨congrArg (fun b => AEnd.ret (.p (.bool b))) (by have hnn := @name_none nm; simp_all [exprOk, shapeOk, noName, placeOk, okBin, okUn, codeOk] <;> omega), rfl⟩
  | true =>
    refine vsl_take 2 rfl ?_
    refine vsl_done ?_
    refine awp_seq ?_
    refine awp_seq ?_
    refine awp_run rfl ?_
    refine awp_block ?_
    refine awp_seq ?_
    refine awp_run rfl ?_
    refine awp_if false rfl (fun e => by cases e) fun _ => ?_
    refine awp_seq ?_
    refine awp_run rfl ?_
    refine awp_if false rfl (fun e => by cases e) fun _ => ?_
    refine awp_seq ?_
    refine awp_run rfl ?_
    refine awp_if false rfl (fun e => by cases e) fun _ => ?_
    refine awp_seq ?_
    refine awp_run rfl ?_
    refine awp_if false rfl (fun e => by cases e) fun _ => ?_
    refine awp_seq ?_
    refine awp_run rfl ?_
    refine awp_if false rfl (fun e => by cases e) fun _ => ?_
    refine awp_seq ?_
    refine awp_run rfl ?_
    refine awp_if true rfl (fun _ => ?_) (fun e => by cases e)
    refine awp_run rfl ?_
    refine awp_seq ?_
    refine awp_seq ?_
    refine awp_ops ?_
    refine vopsL_take 6 rfl ?_
    refine vopsL_cmpG rfl rfl rfl rfl (by decide) rfl fun b hb89 => ?_
    cases b with
    | false =>
      refine vopsL_take 29 rfl ?_
      refine awp_if true rfl (fun _ => ?_) (fun e => by cases e)
      refine awp_seq ?_
      refine awp_run rfl ?_
      refine awp_ret ?_
      refine q_ret ?_
      exact leave_ret_same [] rfl hG (List.append_nil G).symm rfl ⟨congrArg (fun b => AEnd.ret (.p (.bool b))) (by have hnn := @name_none nm; simp_all [exprOk, shapeOk, noName, placeOk, okBin, okUn, codeOk] <;> omega), rfl⟩
    | true =>
      refine vopsL_take 7 rfl ?_
      refine vopsL_fnG rfl rfl rfl rfl (c_rname nm _) ?_
      cases hb97 : nameOk nm with
      | false =>
        refine vopsL_take 21 rfl ?_
        refine awp_if true rfl (fun _ => ?_) (fun e => by cases e)
        refine awp_seq ?_
        refine awp_run rfl ?_
        refine awp_ret ?_
        refine q_ret ?_
        exact leave_ret_same [] rfl hG (List.append_nil G).symm rfl ⟨congrArg (fun b => AEnd.ret (.p (.bool b))) (by have hnn := @name_none nm; simp_all [exprOk, shapeOk, noName, placeOk, okBin, okUn, codeOk] <;> omega), rfl⟩
      | true =>
        refine vopsL_take 8 rfl ?_
        refine vopsL_cmpG rfl rfl rfl rfl (by decide) rfl fun b hb106 => ?_
        cases b with
        | false =>
          have h106 := of_decide_eq_false hb106
          rw [hlen] at h106
          refine vopsL_take 6 rfl ?_
          refine vopsL_cmpG rfl rfl rfl rfl (by decide) rfl fun b hb113 => ?_
          cases b with
          | false =>
            have h113 := of_decide_eq_false hb113
            rw [hlen] at h113
            refine vopsL_take 3 rfl ?_
            refine vopsL_cmpG rfl rfl rfl rfl (by decide) rfl fun b hb117 => ?_
            cases b with
            | false =>
              have ha : a ≤ 100 := by simpa using hb117
              have hkl : ks.length ≤ 17 := by omega
              refine vopsL_take 1 rfl ?_
              refine awp_if false rfl (fun e => by cases e) fun _ => ?_
              refine awp_skip ?_
              refine awp_seq ?_
              refine awp_seq ?_
              refine awp_run rfl ?_
              refine awp_weak (s' := { ts := [(1, .p (j64 L)), (2, .p (j64 a)), (3, .ptr (.l 3) 0), (11, .p (j64 0))], L := [(3, [.p (j64 6), .p (j64 n), .p (.str nm), .p (.vec (E.rows ks))])], G := G }) (weakL _ ⟨rfl, rfl, rfl, rfl, trivial⟩ rfl rfl) ?_
              refine awp_forE (fun mm s => ∃ (i : Nat) , s = { ts := [(1, .p (j64 L)), (2, .p (j64 a)), (3, .ptr (.l 3) 0), (11, .p (j64 i))], L := [(3, [.p (j64 6), .p (j64 n), .p (.str nm), .p (.vec (E.rows ks))])], G := G } ∧ i ≤ ks.length ∧ mm = ks.length - i ∧ exprsOk L (a + 1) ks = exprsOk L (a + 1) (ks.drop i))
                (fun s => s = { ts := [], L := [], G := G } ∧ exprsOk L (a + 1) ks = true) ks.length ⟨0, rfl, by omega, by omega, by simp⟩ ?_ ?_
              · rintro mm s ⟨i, rfl, hi_i, rfl, hI0⟩
                refine awp_seq ?_
                refine awp_seq ?_
                refine awp_ops ?_
                refine vopsL_take 4 rfl ?_
                refine vopsL_cmp rfl rfl rfl (by decide) rfl fun b hb123 => ?_
                cases b with
                | false =>
                  have hge_i := ge_eq (E.rows_len ks) hi_i hb123
                  refine awp_if false rfl (fun e => by cases e) fun _ => ?_
                  refine awp_exit ?_
                  refine ⟨{ ts := [], L := [], G := G }, (weakK _ 3).trans (weakL _ trivial rfl rfl), rfl, ?_⟩
                  subst hge_i
                  simpa [exprsOk] using hI0
                | true =>
                  obtain ⟨e, he_i, hlt_i⟩ := lt_get (E.rows_len ks) hb123
                  have hx_i := E.rows_get he_i
                  have hdr_i := drop_get he_i
                  obtain ⟨eop, en, enm, eks⟩ := e
                  refine awp_if true rfl (fun _ => ?_) (fun e => by cases e)
                  refine awp_skip ?_
                  refine awp_seq ?_
                  refine awp_block ?_
                  refine awp_seq ?_
                  refine awp_ops ?_
                  refine vopsL_take 3 rfl ?_
                  refine vopsL_idx hx_i rfl rfl rfl (by decide) rfl rfl rfl rfl (by decide) ?_
                  refine vopsL_take 4 rfl ?_
                  rw [wrap64 (x := a + 1) (by omega)]
                  refine vopsL_fn rfl rfl rfl (ih (.mk eop en enm eks) (List.mem_of_getElem? he_i) L (a + 1) G (by omega) (by omega)) ?_
                  cases hb134 : exprOk L (a + 1) (.mk eop en enm eks) with
                  | false =>
                    refine vopsL_take 1 rfl ?_
                    refine awp_if true rfl (fun _ => ?_) (fun e => by cases e)
                    refine awp_seq ?_
                    refine awp_run rfl ?_
                    refine awp_ret ?_
                    refine q_block (q_ret (q_for (q_ret ?_)))
                    exact leave_ret_same [] rfl hG (List.append_nil G).symm rfl ⟨congrArg (fun b => AEnd.ret (.p (.bool b))) (by rw [exprOk, hI0, hdr_i]; simp [exprsOk, hb134]), rfl⟩
                  | true =>
                    refine vopsL_take 1 rfl ?_
                    refine awp_if false rfl (fun e => by cases e) fun _ => ?_
                    refine awp_skip ?_
                    refine awp_run rfl ?_
                    rw [wrap64 (x := (i : Int) + 1) (by omega)]
                    refine ⟨{ ts := [(1, .p (j64 L)), (2, .p (j64 a)), (3, .ptr (.l 3) 0), (11, .p (j64 (i + 1 : Nat)))], L := [(3, [.p (j64 6), .p (j64 n), .p (.str nm), .p (.vec (E.rows ks))])], G := G }, weakL _ ⟨rfl, rfl, rfl, rfl, trivial⟩ rfl rfl, ks.length - (i + 1), by omega, i + 1, rfl, by omega, rfl, ?_⟩
                    rw [hI0, hdr_i]; simp [exprsOk, hb134]
              · rintro s s' ⟨rfl, hX0⟩ hw
                refine awp_weak hw ?_
                refine awp_seq ?_
                refine awp_run rfl ?_
                refine awp_ret ?_
                exact leave_ret_same [] rfl hG (List.append_nil G).symm rfl ⟨congrArg (fun b => AEnd.ret (.p (.bool b))) (by rw [exprOk, hX0]; simp_all [shapeOk, noName, placeOk, okBin, okUn, codeOk] <;> omega), rfl⟩
            | true =>
              refine vopsL_take 1 rfl ?_
              refine awp_if true rfl (fun _ => ?_) (fun e => by cases e)
              refine awp_seq ?_
              refine awp_run rfl ?_
              refine awp_ret ?_
              refine q_ret ?_
              exact leave_ret_same [] rfl hG (List.append_nil G).symm rfl ⟨congrArg (fun b => AEnd.ret (.p (.bool b))) (by have hnn := @name_none nm; simp_all [exprOk, shapeOk, noName, placeOk, okBin, okUn, codeOk] <;> omega), rfl⟩
          | true =>
            have h113 := of_decide_eq_true hb113
            rw [hlen] at h113
            have hk0 : ks ≠ [] := by rintro rfl; simp at h113
            refine vopsL_take 5 rfl ?_
            refine awp_if true rfl (fun _ => ?_) (fun e => by cases e)
            refine awp_seq ?_
            refine awp_run rfl ?_
            refine awp_ret ?_
            refine q_ret ?_
            exact leave_ret_same [] rfl hG (List.append_nil G).symm rfl ⟨congrArg (fun b => AEnd.ret (.p (.bool b))) (by have hnn := @name_none nm; simp_all [exprOk, shapeOk, noName, placeOk, okBin, okUn, codeOk] <;> omega), rfl⟩
        | true =>
          have h106 := of_decide_eq_true hb106
          rw [hlen] at h106
          refine vopsL_take 12 rfl ?_
          refine awp_if true rfl (fun _ => ?_) (fun e => by cases e)
          refine awp_seq ?_
          refine awp_run rfl ?_
          refine awp_ret ?_
          refine q_ret ?_
          exact leave_ret_same [] rfl hG (List.append_nil G).symm rfl ⟨congrArg (fun b => AEnd.ret (.p (.bool b))) (by have hnn := @name_none nm; simp_all [exprOk, shapeOk, noName, placeOk, okBin, okUn, codeOk] <;> omega), rfl⟩
theorem c_rexpr7 (L a n : Int) (nm : ByteArray) (ks : List E) (G : List Blk) (h1 : 0 ≤ a) (h2 : a ≤ 101) (ih : ∀ e ∈ ks, ExprRC e) : FnIs Try.prog 136 [.agg (E.args (.mk 7 n nm ks)), .p (j64 L), .p (j64 a)] G (.p (.bool (exprOk L a (.mk 7 n nm ks)))) := by
  have hlen := E.rows_len ks
  refine acalls_fn (cfg 136) Try.func136 rfl rfl rfl (by simp) fun hG => ?_
  refine awp_seq ?_
  refine awp_run rfl ?_
  refine awp_seq ?_
  refine awp_run rfl ?_
  refine awp_seq ?_
  refine awp_sl mixed (by kernel_rfl) ?_
  refine vsl_take 2 rfl ?_
  refine vsl_cmp rfl rfl rfl fun b hb14 => ?_
  cases b with
  | false =>
    refine vsl_take 2 rfl ?_
    refine vsl_done ?_
    refine awp_seq ?_
    refine awp_seq ?_
    refine awp_run rfl ?_
    refine awp_block ?_
    refine awp_seq ?_
    refine awp_run rfl ?_
    refine awp_if false rfl (fun e => by cases e) fun _ => ?_
    refine awp_seq ?_
    refine awp_run rfl ?_
    refine awp_if false rfl (fun e => by cases e) fun _ => ?_
    refine awp_seq ?_
    refine awp_run rfl ?_
    refine awp_if false rfl (fun e => by cases e) fun _ => ?_
    refine awp_seq ?_
    refine awp_run rfl ?_
    refine awp_if false rfl (fun e => by cases e) fun _ => ?_
    refine awp_seq ?_
    refine awp_run rfl ?_
    refine awp_if false rfl (fun e => by cases e) fun _ => ?_
    refine awp_seq ?_
    refine awp_run rfl ?_
    refine awp_if false rfl (fun e => by cases e) fun _ => ?_
    refine awp_seq ?_
    refine awp_run rfl ?_
    refine awp_if true rfl (fun _ => ?_) (fun e => by cases e)
    refine awp_run rfl ?_
    refine awp_seq ?_
    refine awp_seq ?_
    refine awp_ops ?_
    refine vopsL_take 36 rfl ?_
    refine awp_if true rfl (fun _ => ?_) (fun e => by cases e)
    refine awp_seq ?_
    refine awp_run rfl ?_
    refine awp_ret ?_
    refine q_ret ?_
    exact leave_ret_same [] rfl hG (List.append_nil G).symm rfl ⟨congrArg (fun b => AEnd.ret (.p (.bool b))) (by have hnn := @name_none nm; simp_all [exprOk, shapeOk, noName, placeOk, okBin, okUn, codeOk] <;> omega), rfl⟩
  | true =>
    refine vsl_take 2 rfl ?_
    refine vsl_done ?_
    refine awp_seq ?_
    refine awp_seq ?_
    refine awp_run rfl ?_
    refine awp_block ?_
    refine awp_seq ?_
    refine awp_run rfl ?_
    refine awp_if false rfl (fun e => by cases e) fun _ => ?_
    refine awp_seq ?_
    refine awp_run rfl ?_
    refine awp_if false rfl (fun e => by cases e) fun _ => ?_
    refine awp_seq ?_
    refine awp_run rfl ?_
    refine awp_if false rfl (fun e => by cases e) fun _ => ?_
    refine awp_seq ?_
    refine awp_run rfl ?_
    refine awp_if false rfl (fun e => by cases e) fun _ => ?_
    refine awp_seq ?_
    refine awp_run rfl ?_
    refine awp_if false rfl (fun e => by cases e) fun _ => ?_
    refine awp_seq ?_
    refine awp_run rfl ?_
    refine awp_if false rfl (fun e => by cases e) fun _ => ?_
    refine awp_seq ?_
    refine awp_run rfl ?_
    refine awp_if true rfl (fun _ => ?_) (fun e => by cases e)
    refine awp_run rfl ?_
    refine awp_seq ?_
    refine awp_seq ?_
    refine awp_ops ?_
    refine vopsL_take 6 rfl ?_
    refine vopsL_cmpG rfl rfl rfl rfl (by decide) rfl fun b hb89 => ?_
    cases b with
    | false =>
      refine vopsL_take 16 rfl ?_
      refine vopsL_cmpG rfl rfl rfl rfl (by decide) rfl fun b hb106 => ?_
      cases b with
      | false =>
        have h106 := of_decide_eq_false hb106
        rw [hlen] at h106
        refine vopsL_take 6 rfl ?_
        refine vopsL_cmpG rfl rfl rfl rfl (by decide) rfl fun b hb113 => ?_
        cases b with
        | false =>
          have h113 := of_decide_eq_false hb113
          rw [hlen] at h113
          refine vopsL_take 3 rfl ?_
          refine vopsL_cmpG rfl rfl rfl rfl (by decide) rfl fun b hb117 => ?_
          cases b with
          | false =>
            have ha : a ≤ 100 := by simpa using hb117
            have hkl : ks.length ≤ 17 := by omega
            refine vopsL_take 1 rfl ?_
            refine awp_if false rfl (fun e => by cases e) fun _ => ?_
            refine awp_skip ?_
            refine awp_seq ?_
            refine awp_seq ?_
            refine awp_run rfl ?_
            refine awp_weak (s' := { ts := [(1, .p (j64 L)), (2, .p (j64 a)), (3, .ptr (.l 3) 0), (11, .p (j64 0))], L := [(3, [.p (j64 7), .p (j64 n), .p (.str nm), .p (.vec (E.rows ks))])], G := G }) (weakL _ ⟨rfl, rfl, rfl, rfl, trivial⟩ rfl rfl) ?_
            refine awp_forE (fun mm s => ∃ (i : Nat) , s = { ts := [(1, .p (j64 L)), (2, .p (j64 a)), (3, .ptr (.l 3) 0), (11, .p (j64 i))], L := [(3, [.p (j64 7), .p (j64 n), .p (.str nm), .p (.vec (E.rows ks))])], G := G } ∧ i ≤ ks.length ∧ mm = ks.length - i ∧ exprsOk L (a + 1) ks = exprsOk L (a + 1) (ks.drop i))
              (fun s => s = { ts := [], L := [], G := G } ∧ exprsOk L (a + 1) ks = true) ks.length ⟨0, rfl, by omega, by omega, by simp⟩ ?_ ?_
            · rintro mm s ⟨i, rfl, hi_i, rfl, hI0⟩
              refine awp_seq ?_
              refine awp_seq ?_
              refine awp_ops ?_
              refine vopsL_take 4 rfl ?_
              refine vopsL_cmp rfl rfl rfl (by decide) rfl fun b hb123 => ?_
              cases b with
              | false =>
                have hge_i := ge_eq (E.rows_len ks) hi_i hb123
                refine awp_if false rfl (fun e => by cases e) fun _ => ?_
                refine awp_exit ?_
                refine ⟨{ ts := [], L := [], G := G }, (weakK _ 3).trans (weakL _ trivial rfl rfl), rfl, ?_⟩
                subst hge_i
                simpa [exprsOk] using hI0
              | true =>
                obtain ⟨e, he_i, hlt_i⟩ := lt_get (E.rows_len ks) hb123
                have hx_i := E.rows_get he_i
                have hdr_i := drop_get he_i
                obtain ⟨eop, en, enm, eks⟩ := e
                refine awp_if true rfl (fun _ => ?_) (fun e => by cases e)
                refine awp_skip ?_
                refine awp_seq ?_
                refine awp_block ?_
                refine awp_seq ?_
                refine awp_ops ?_
                refine vopsL_take 3 rfl ?_
                refine vopsL_idx hx_i rfl rfl rfl (by decide) rfl rfl rfl rfl (by decide) ?_
                refine vopsL_take 4 rfl ?_
                rw [wrap64 (x := a + 1) (by omega)]
                refine vopsL_fn rfl rfl rfl (ih (.mk eop en enm eks) (List.mem_of_getElem? he_i) L (a + 1) G (by omega) (by omega)) ?_
                cases hb134 : exprOk L (a + 1) (.mk eop en enm eks) with
                | false =>
                  refine vopsL_take 1 rfl ?_
                  refine awp_if true rfl (fun _ => ?_) (fun e => by cases e)
                  refine awp_seq ?_
                  refine awp_run rfl ?_
                  refine awp_ret ?_
                  refine q_block (q_ret (q_for (q_ret ?_)))
                  exact leave_ret_same [] rfl hG (List.append_nil G).symm rfl ⟨congrArg (fun b => AEnd.ret (.p (.bool b))) (by rw [exprOk, hI0, hdr_i]; simp [exprsOk, hb134]), rfl⟩
                | true =>
                  refine vopsL_take 1 rfl ?_
                  refine awp_if false rfl (fun e => by cases e) fun _ => ?_
                  refine awp_skip ?_
                  refine awp_run rfl ?_
                  rw [wrap64 (x := (i : Int) + 1) (by omega)]
                  refine ⟨{ ts := [(1, .p (j64 L)), (2, .p (j64 a)), (3, .ptr (.l 3) 0), (11, .p (j64 (i + 1 : Nat)))], L := [(3, [.p (j64 7), .p (j64 n), .p (.str nm), .p (.vec (E.rows ks))])], G := G }, weakL _ ⟨rfl, rfl, rfl, rfl, trivial⟩ rfl rfl, ks.length - (i + 1), by omega, i + 1, rfl, by omega, rfl, ?_⟩
                  rw [hI0, hdr_i]; simp [exprsOk, hb134]
            · rintro s s' ⟨rfl, hX0⟩ hw
              refine awp_weak hw ?_
              refine awp_seq ?_
              refine awp_run rfl ?_
              refine awp_ret ?_
              exact leave_ret_same [] rfl hG (List.append_nil G).symm rfl ⟨congrArg (fun b => AEnd.ret (.p (.bool b))) (by rw [exprOk, hX0]; simp_all [shapeOk, noName, placeOk, okBin, okUn, codeOk] <;> omega), rfl⟩
          | true =>
            refine vopsL_take 1 rfl ?_
            refine awp_if true rfl (fun _ => ?_) (fun e => by cases e)
            refine awp_seq ?_
            refine awp_run rfl ?_
            refine awp_ret ?_
            refine q_ret ?_
            exact leave_ret_same [] rfl hG (List.append_nil G).symm rfl ⟨congrArg (fun b => AEnd.ret (.p (.bool b))) (by have hnn := @name_none nm; simp_all [exprOk, shapeOk, noName, placeOk, okBin, okUn, codeOk] <;> omega), rfl⟩
        | true =>
          have h113 := of_decide_eq_true hb113
          rw [hlen] at h113
          have hk0 : ks ≠ [] := by rintro rfl; simp at h113
          refine vopsL_take 5 rfl ?_
          refine awp_if true rfl (fun _ => ?_) (fun e => by cases e)
          refine awp_seq ?_
          refine awp_run rfl ?_
          refine awp_ret ?_
          refine q_ret ?_
          exact leave_ret_same [] rfl hG (List.append_nil G).symm rfl ⟨congrArg (fun b => AEnd.ret (.p (.bool b))) (by have hnn := @name_none nm; simp_all [exprOk, shapeOk, noName, placeOk, okBin, okUn, codeOk] <;> omega), rfl⟩
      | true =>
        have h106 := of_decide_eq_true hb106
        rw [hlen] at h106
        refine vopsL_take 12 rfl ?_
        refine awp_if true rfl (fun _ => ?_) (fun e => by cases e)
        refine awp_seq ?_
        refine awp_run rfl ?_
        refine awp_ret ?_
        refine q_ret ?_
        exact leave_ret_same [] rfl hG (List.append_nil G).symm rfl ⟨congrArg (fun b => AEnd.ret (.p (.bool b))) (by have hnn := @name_none nm; simp_all [exprOk, shapeOk, noName, placeOk, okBin, okUn, codeOk] <;> omega), rfl⟩
    | true =>
      refine vopsL_take 29 rfl ?_
      refine awp_if true rfl (fun _ => ?_) (fun e => by cases e)
      refine awp_seq ?_
      refine awp_run rfl ?_
      refine awp_ret ?_
      refine q_ret ?_
      exact leave_ret_same [] rfl hG (List.append_nil G).symm rfl ⟨congrArg (fun b => AEnd.ret (.p (.bool b))) (by have hnn := @name_none nm; simp_all [exprOk, shapeOk, noName, placeOk, okBin, okUn, codeOk] <;> omega), rfl⟩
theorem c_rexpr8 (L a n : Int) (nm : ByteArray) (ks : List E) (G : List Blk) (h1 : 0 ≤ a) (h2 : a ≤ 101) (ih : ∀ e ∈ ks, ExprRC e) : FnIs Try.prog 136 [.agg (E.args (.mk 8 n nm ks)), .p (j64 L), .p (j64 a)] G (.p (.bool (exprOk L a (.mk 8 n nm ks)))) := by
  have hlen := E.rows_len ks
  refine acalls_fn (cfg 136) Try.func136 rfl rfl rfl (by simp) fun hG => ?_
  refine awp_seq ?_
  refine awp_run rfl ?_
  refine awp_seq ?_
  refine awp_run rfl ?_
  refine awp_seq ?_
  refine awp_sl mixed (by kernel_rfl) ?_
  refine vsl_take 2 rfl ?_
  refine vsl_cmp rfl rfl rfl fun b hb14 => ?_
  cases b with
  | false =>
    refine vsl_take 2 rfl ?_
    refine vsl_done ?_
    refine awp_seq ?_
    refine awp_seq ?_
    refine awp_run rfl ?_
    refine awp_block ?_
    refine awp_seq ?_
    refine awp_run rfl ?_
    refine awp_if false rfl (fun e => by cases e) fun _ => ?_
    refine awp_seq ?_
    refine awp_run rfl ?_
    refine awp_if false rfl (fun e => by cases e) fun _ => ?_
    refine awp_seq ?_
    refine awp_run rfl ?_
    refine awp_if false rfl (fun e => by cases e) fun _ => ?_
    refine awp_seq ?_
    refine awp_run rfl ?_
    refine awp_if false rfl (fun e => by cases e) fun _ => ?_
    refine awp_seq ?_
    refine awp_run rfl ?_
    refine awp_if false rfl (fun e => by cases e) fun _ => ?_
    refine awp_seq ?_
    refine awp_run rfl ?_
    refine awp_if false rfl (fun e => by cases e) fun _ => ?_
    refine awp_seq ?_
    refine awp_run rfl ?_
    refine awp_if false rfl (fun e => by cases e) fun _ => ?_
    refine awp_seq ?_
    refine awp_seq ?_
    refine awp_run rfl ?_
    refine awp_if true rfl (fun _ => ?_) (fun e => by cases e)
    refine awp_skip ?_
    refine awp_if true rfl (fun _ => ?_) (fun e => by cases e)
    refine awp_run rfl ?_
    refine awp_seq ?_
    refine awp_seq ?_
    refine awp_ops ?_
    refine vopsL_take 36 rfl ?_
    refine awp_if true rfl (fun _ => ?_) (fun e => by cases e)
    refine awp_seq ?_
    refine awp_run rfl ?_
    refine awp_ret ?_
    refine q_ret ?_
    exact leave_ret_same [] rfl hG (List.append_nil G).symm rfl ⟨congrArg (fun b => AEnd.ret (.p (.bool b))) (by have hnn := @name_none nm; simp_all [exprOk, shapeOk, noName, placeOk, okBin, okUn, codeOk] <;> omega), rfl⟩
  | true =>
    refine vsl_take 2 rfl ?_
    refine vsl_done ?_
    refine awp_seq ?_
    refine awp_seq ?_
    refine awp_run rfl ?_
    refine awp_block ?_
    refine awp_seq ?_
    refine awp_run rfl ?_
    refine awp_if false rfl (fun e => by cases e) fun _ => ?_
    refine awp_seq ?_
    refine awp_run rfl ?_
    refine awp_if false rfl (fun e => by cases e) fun _ => ?_
    refine awp_seq ?_
    refine awp_run rfl ?_
    refine awp_if false rfl (fun e => by cases e) fun _ => ?_
    refine awp_seq ?_
    refine awp_run rfl ?_
    refine awp_if false rfl (fun e => by cases e) fun _ => ?_
    refine awp_seq ?_
    refine awp_run rfl ?_
    refine awp_if false rfl (fun e => by cases e) fun _ => ?_
    refine awp_seq ?_
    refine awp_run rfl ?_
    refine awp_if false rfl (fun e => by cases e) fun _ => ?_
    refine awp_seq ?_
    refine awp_run rfl ?_
    refine awp_if false rfl (fun e => by cases e) fun _ => ?_
    refine awp_seq ?_
    refine awp_seq ?_
    refine awp_run rfl ?_
    refine awp_if true rfl (fun _ => ?_) (fun e => by cases e)
    refine awp_skip ?_
    refine awp_if true rfl (fun _ => ?_) (fun e => by cases e)
    refine awp_run rfl ?_
    refine awp_seq ?_
    refine awp_seq ?_
    refine awp_ops ?_
    refine vopsL_take 6 rfl ?_
    refine vopsL_cmpG rfl rfl rfl rfl (by decide) rfl fun b hb89 => ?_
    cases b with
    | false =>
      refine vopsL_take 29 rfl ?_
      refine awp_if true rfl (fun _ => ?_) (fun e => by cases e)
      refine awp_seq ?_
      refine awp_run rfl ?_
      refine awp_ret ?_
      refine q_ret ?_
      exact leave_ret_same [] rfl hG (List.append_nil G).symm rfl ⟨congrArg (fun b => AEnd.ret (.p (.bool b))) (by have hnn := @name_none nm; simp_all [exprOk, shapeOk, noName, placeOk, okBin, okUn, codeOk] <;> omega), rfl⟩
    | true =>
      refine vopsL_take 7 rfl ?_
      refine vopsL_fnG rfl rfl rfl rfl (c_rname nm _) ?_
      cases hb97 : nameOk nm with
      | false =>
        refine vopsL_take 21 rfl ?_
        refine awp_if true rfl (fun _ => ?_) (fun e => by cases e)
        refine awp_seq ?_
        refine awp_run rfl ?_
        refine awp_ret ?_
        refine q_ret ?_
        exact leave_ret_same [] rfl hG (List.append_nil G).symm rfl ⟨congrArg (fun b => AEnd.ret (.p (.bool b))) (by have hnn := @name_none nm; simp_all [exprOk, shapeOk, noName, placeOk, okBin, okUn, codeOk] <;> omega), rfl⟩
      | true =>
        refine vopsL_take 8 rfl ?_
        refine vopsL_cmpG rfl rfl rfl rfl (by decide) rfl fun b hb106 => ?_
        cases b with
        | false =>
          have h106 := of_decide_eq_false hb106
          rw [hlen] at h106
          refine vopsL_take 6 rfl ?_
          refine vopsL_cmpG rfl rfl rfl rfl (by decide) rfl fun b hb113 => ?_
          cases b with
          | false =>
            have h113 := of_decide_eq_false hb113
            rw [hlen] at h113
            refine vopsL_take 3 rfl ?_
            refine vopsL_cmpG rfl rfl rfl rfl (by decide) rfl fun b hb117 => ?_
            cases b with
            | false =>
              have ha : a ≤ 100 := by simpa using hb117
              have hkl : ks.length ≤ 17 := by omega
              refine vopsL_take 1 rfl ?_
              refine awp_if false rfl (fun e => by cases e) fun _ => ?_
              refine awp_skip ?_
              refine awp_seq ?_
              refine awp_seq ?_
              refine awp_run rfl ?_
              refine awp_weak (s' := { ts := [(1, .p (j64 L)), (2, .p (j64 a)), (3, .ptr (.l 3) 0), (11, .p (j64 0))], L := [(3, [.p (j64 8), .p (j64 n), .p (.str nm), .p (.vec (E.rows ks))])], G := G }) (weakL _ ⟨rfl, rfl, rfl, rfl, trivial⟩ rfl rfl) ?_
              refine awp_forE (fun mm s => ∃ (i : Nat) , s = { ts := [(1, .p (j64 L)), (2, .p (j64 a)), (3, .ptr (.l 3) 0), (11, .p (j64 i))], L := [(3, [.p (j64 8), .p (j64 n), .p (.str nm), .p (.vec (E.rows ks))])], G := G } ∧ i ≤ ks.length ∧ mm = ks.length - i ∧ exprsOk L (a + 1) ks = exprsOk L (a + 1) (ks.drop i))
                (fun s => s = { ts := [], L := [], G := G } ∧ exprsOk L (a + 1) ks = true) ks.length ⟨0, rfl, by omega, by omega, by simp⟩ ?_ ?_
              · rintro mm s ⟨i, rfl, hi_i, rfl, hI0⟩
                refine awp_seq ?_
                refine awp_seq ?_
                refine awp_ops ?_
                refine vopsL_take 4 rfl ?_
                refine vopsL_cmp rfl rfl rfl (by decide) rfl fun b hb123 => ?_
                cases b with
                | false =>
                  have hge_i := ge_eq (E.rows_len ks) hi_i hb123
                  refine awp_if false rfl (fun e => by cases e) fun _ => ?_
                  refine awp_exit ?_
                  refine ⟨{ ts := [], L := [], G := G }, (weakK _ 3).trans (weakL _ trivial rfl rfl), rfl, ?_⟩
                  subst hge_i
                  simpa [exprsOk] using hI0
                | true =>
                  obtain ⟨e, he_i, hlt_i⟩ := lt_get (E.rows_len ks) hb123
                  have hx_i := E.rows_get he_i
                  have hdr_i := drop_get he_i
                  obtain ⟨eop, en, enm, eks⟩ := e
                  refine awp_if true rfl (fun _ => ?_) (fun e => by cases e)
                  refine awp_skip ?_
                  refine awp_seq ?_
                  refine awp_block ?_
                  refine awp_seq ?_
                  refine awp_ops ?_
                  refine vopsL_take 3 rfl ?_
                  refine vopsL_idx hx_i rfl rfl rfl (by decide) rfl rfl rfl rfl (by decide) ?_
                  refine vopsL_take 4 rfl ?_
                  rw [wrap64 (x := a + 1) (by omega)]
                  refine vopsL_fn rfl rfl rfl (ih (.mk eop en enm eks) (List.mem_of_getElem? he_i) L (a + 1) G (by omega) (by omega)) ?_
                  cases hb134 : exprOk L (a + 1) (.mk eop en enm eks) with
                  | false =>
                    refine vopsL_take 1 rfl ?_
                    refine awp_if true rfl (fun _ => ?_) (fun e => by cases e)
                    refine awp_seq ?_
                    refine awp_run rfl ?_
                    refine awp_ret ?_
                    refine q_block (q_ret (q_for (q_ret ?_)))
                    exact leave_ret_same [] rfl hG (List.append_nil G).symm rfl ⟨congrArg (fun b => AEnd.ret (.p (.bool b))) (by rw [exprOk, hI0, hdr_i]; simp [exprsOk, hb134]), rfl⟩
                  | true =>
                    refine vopsL_take 1 rfl ?_
                    refine awp_if false rfl (fun e => by cases e) fun _ => ?_
                    refine awp_skip ?_
                    refine awp_run rfl ?_
                    rw [wrap64 (x := (i : Int) + 1) (by omega)]
                    refine ⟨{ ts := [(1, .p (j64 L)), (2, .p (j64 a)), (3, .ptr (.l 3) 0), (11, .p (j64 (i + 1 : Nat)))], L := [(3, [.p (j64 8), .p (j64 n), .p (.str nm), .p (.vec (E.rows ks))])], G := G }, weakL _ ⟨rfl, rfl, rfl, rfl, trivial⟩ rfl rfl, ks.length - (i + 1), by omega, i + 1, rfl, by omega, rfl, ?_⟩
                    rw [hI0, hdr_i]; simp [exprsOk, hb134]
              · rintro s s' ⟨rfl, hX0⟩ hw
                refine awp_weak hw ?_
                refine awp_seq ?_
                refine awp_run rfl ?_
                refine awp_ret ?_
                exact leave_ret_same [] rfl hG (List.append_nil G).symm rfl ⟨congrArg (fun b => AEnd.ret (.p (.bool b))) (by rw [exprOk, hX0]; simp_all [shapeOk, noName, placeOk, okBin, okUn, codeOk] <;> omega), rfl⟩
            | true =>
              refine vopsL_take 1 rfl ?_
              refine awp_if true rfl (fun _ => ?_) (fun e => by cases e)
              refine awp_seq ?_
              refine awp_run rfl ?_
              refine awp_ret ?_
              refine q_ret ?_
              exact leave_ret_same [] rfl hG (List.append_nil G).symm rfl ⟨congrArg (fun b => AEnd.ret (.p (.bool b))) (by have hnn := @name_none nm; simp_all [exprOk, shapeOk, noName, placeOk, okBin, okUn, codeOk] <;> omega), rfl⟩
          | true =>
            have h113 := of_decide_eq_true hb113
            rw [hlen] at h113
            have hk0 : ks ≠ [] := by rintro rfl; simp at h113
            refine vopsL_take 5 rfl ?_
            refine awp_if true rfl (fun _ => ?_) (fun e => by cases e)
            refine awp_seq ?_
            refine awp_run rfl ?_
            refine awp_ret ?_
            refine q_ret ?_
            exact leave_ret_same [] rfl hG (List.append_nil G).symm rfl ⟨congrArg (fun b => AEnd.ret (.p (.bool b))) (by have hnn := @name_none nm; simp_all [exprOk, shapeOk, noName, placeOk, okBin, okUn, codeOk] <;> omega), rfl⟩
        | true =>
          have h106 := of_decide_eq_true hb106
          rw [hlen] at h106
          refine vopsL_take 12 rfl ?_
          refine awp_if true rfl (fun _ => ?_) (fun e => by cases e)
          refine awp_seq ?_
          refine awp_run rfl ?_
          refine awp_ret ?_
          refine q_ret ?_
          exact leave_ret_same [] rfl hG (List.append_nil G).symm rfl ⟨congrArg (fun b => AEnd.ret (.p (.bool b))) (by have hnn := @name_none nm; simp_all [exprOk, shapeOk, noName, placeOk, okBin, okUn, codeOk] <;> omega), rfl⟩
theorem c_rexpr9 (L a n : Int) (nm : ByteArray) (ks : List E) (G : List Blk) (h1 : 0 ≤ a) (h2 : a ≤ 101) (ih : ∀ e ∈ ks, ExprRC e) : FnIs Try.prog 136 [.agg (E.args (.mk 9 n nm ks)), .p (j64 L), .p (j64 a)] G (.p (.bool (exprOk L a (.mk 9 n nm ks)))) := by
  have hlen := E.rows_len ks
  refine acalls_fn (cfg 136) Try.func136 rfl rfl rfl (by simp) fun hG => ?_
  refine awp_seq ?_
  refine awp_run rfl ?_
  refine awp_seq ?_
  refine awp_run rfl ?_
  refine awp_seq ?_
  refine awp_sl mixed (by kernel_rfl) ?_
  refine vsl_take 2 rfl ?_
  refine vsl_cmp rfl rfl rfl fun b hb14 => ?_
  cases b with
  | false =>
    refine vsl_take 2 rfl ?_
    refine vsl_done ?_
    refine awp_seq ?_
    refine awp_seq ?_
    refine awp_run rfl ?_
    refine awp_block ?_
    refine awp_seq ?_
    refine awp_run rfl ?_
    refine awp_if false rfl (fun e => by cases e) fun _ => ?_
    refine awp_seq ?_
    refine awp_run rfl ?_
    refine awp_if false rfl (fun e => by cases e) fun _ => ?_
    refine awp_seq ?_
    refine awp_run rfl ?_
    refine awp_if false rfl (fun e => by cases e) fun _ => ?_
    refine awp_seq ?_
    refine awp_run rfl ?_
    refine awp_if false rfl (fun e => by cases e) fun _ => ?_
    refine awp_seq ?_
    refine awp_run rfl ?_
    refine awp_if false rfl (fun e => by cases e) fun _ => ?_
    refine awp_seq ?_
    refine awp_run rfl ?_
    refine awp_if false rfl (fun e => by cases e) fun _ => ?_
    refine awp_seq ?_
    refine awp_run rfl ?_
    refine awp_if false rfl (fun e => by cases e) fun _ => ?_
    refine awp_seq ?_
    refine awp_seq ?_
    refine awp_run rfl ?_
    refine awp_if false rfl (fun e => by cases e) fun _ => ?_
    refine awp_run rfl ?_
    refine awp_if true rfl (fun _ => ?_) (fun e => by cases e)
    refine awp_run rfl ?_
    refine awp_seq ?_
    refine awp_seq ?_
    refine awp_ops ?_
    refine vopsL_take 36 rfl ?_
    refine awp_if true rfl (fun _ => ?_) (fun e => by cases e)
    refine awp_seq ?_
    refine awp_run rfl ?_
    refine awp_ret ?_
    refine q_ret ?_
    exact leave_ret_same [] rfl hG (List.append_nil G).symm rfl ⟨congrArg (fun b => AEnd.ret (.p (.bool b))) (by have hnn := @name_none nm; simp_all [exprOk, shapeOk, noName, placeOk, okBin, okUn, codeOk] <;> omega), rfl⟩
  | true =>
    refine vsl_take 2 rfl ?_
    refine vsl_done ?_
    refine awp_seq ?_
    refine awp_seq ?_
    refine awp_run rfl ?_
    refine awp_block ?_
    refine awp_seq ?_
    refine awp_run rfl ?_
    refine awp_if false rfl (fun e => by cases e) fun _ => ?_
    refine awp_seq ?_
    refine awp_run rfl ?_
    refine awp_if false rfl (fun e => by cases e) fun _ => ?_
    refine awp_seq ?_
    refine awp_run rfl ?_
    refine awp_if false rfl (fun e => by cases e) fun _ => ?_
    refine awp_seq ?_
    refine awp_run rfl ?_
    refine awp_if false rfl (fun e => by cases e) fun _ => ?_
    refine awp_seq ?_
    refine awp_run rfl ?_
    refine awp_if false rfl (fun e => by cases e) fun _ => ?_
    refine awp_seq ?_
    refine awp_run rfl ?_
    refine awp_if false rfl (fun e => by cases e) fun _ => ?_
    refine awp_seq ?_
    refine awp_run rfl ?_
    refine awp_if false rfl (fun e => by cases e) fun _ => ?_
    refine awp_seq ?_
    refine awp_seq ?_
    refine awp_run rfl ?_
    refine awp_if false rfl (fun e => by cases e) fun _ => ?_
    refine awp_run rfl ?_
    refine awp_if true rfl (fun _ => ?_) (fun e => by cases e)
    refine awp_run rfl ?_
    refine awp_seq ?_
    refine awp_seq ?_
    refine awp_ops ?_
    refine vopsL_take 6 rfl ?_
    refine vopsL_cmpG rfl rfl rfl rfl (by decide) rfl fun b hb89 => ?_
    cases b with
    | false =>
      refine vopsL_take 29 rfl ?_
      refine awp_if true rfl (fun _ => ?_) (fun e => by cases e)
      refine awp_seq ?_
      refine awp_run rfl ?_
      refine awp_ret ?_
      refine q_ret ?_
      exact leave_ret_same [] rfl hG (List.append_nil G).symm rfl ⟨congrArg (fun b => AEnd.ret (.p (.bool b))) (by have hnn := @name_none nm; simp_all [exprOk, shapeOk, noName, placeOk, okBin, okUn, codeOk] <;> omega), rfl⟩
    | true =>
      refine vopsL_take 7 rfl ?_
      refine vopsL_fnG rfl rfl rfl rfl (c_rname nm _) ?_
      cases hb97 : nameOk nm with
      | false =>
        refine vopsL_take 21 rfl ?_
        refine awp_if true rfl (fun _ => ?_) (fun e => by cases e)
        refine awp_seq ?_
        refine awp_run rfl ?_
        refine awp_ret ?_
        refine q_ret ?_
        exact leave_ret_same [] rfl hG (List.append_nil G).symm rfl ⟨congrArg (fun b => AEnd.ret (.p (.bool b))) (by have hnn := @name_none nm; simp_all [exprOk, shapeOk, noName, placeOk, okBin, okUn, codeOk] <;> omega), rfl⟩
      | true =>
        refine vopsL_take 8 rfl ?_
        refine vopsL_cmpG rfl rfl rfl rfl (by decide) rfl fun b hb106 => ?_
        cases b with
        | false =>
          have h106 := of_decide_eq_false hb106
          rw [hlen] at h106
          refine vopsL_take 6 rfl ?_
          refine vopsL_cmpG rfl rfl rfl rfl (by decide) rfl fun b hb113 => ?_
          cases b with
          | false =>
            have h113 := of_decide_eq_false hb113
            rw [hlen] at h113
            refine vopsL_take 3 rfl ?_
            refine vopsL_cmpG rfl rfl rfl rfl (by decide) rfl fun b hb117 => ?_
            cases b with
            | false =>
              have ha : a ≤ 100 := by simpa using hb117
              have hkl : ks.length ≤ 17 := by omega
              refine vopsL_take 1 rfl ?_
              refine awp_if false rfl (fun e => by cases e) fun _ => ?_
              refine awp_skip ?_
              refine awp_seq ?_
              refine awp_seq ?_
              refine awp_run rfl ?_
              refine awp_weak (s' := { ts := [(1, .p (j64 L)), (2, .p (j64 a)), (3, .ptr (.l 3) 0), (11, .p (j64 0))], L := [(3, [.p (j64 9), .p (j64 n), .p (.str nm), .p (.vec (E.rows ks))])], G := G }) (weakL _ ⟨rfl, rfl, rfl, rfl, trivial⟩ rfl rfl) ?_
              refine awp_forE (fun mm s => ∃ (i : Nat) , s = { ts := [(1, .p (j64 L)), (2, .p (j64 a)), (3, .ptr (.l 3) 0), (11, .p (j64 i))], L := [(3, [.p (j64 9), .p (j64 n), .p (.str nm), .p (.vec (E.rows ks))])], G := G } ∧ i ≤ ks.length ∧ mm = ks.length - i ∧ exprsOk L (a + 1) ks = exprsOk L (a + 1) (ks.drop i))
                (fun s => s = { ts := [], L := [], G := G } ∧ exprsOk L (a + 1) ks = true) ks.length ⟨0, rfl, by omega, by omega, by simp⟩ ?_ ?_
              · rintro mm s ⟨i, rfl, hi_i, rfl, hI0⟩
                refine awp_seq ?_
                refine awp_seq ?_
                refine awp_ops ?_
                refine vopsL_take 4 rfl ?_
                refine vopsL_cmp rfl rfl rfl (by decide) rfl fun b hb123 => ?_
                cases b with
                | false =>
                  have hge_i := ge_eq (E.rows_len ks) hi_i hb123
                  refine awp_if false rfl (fun e => by cases e) fun _ => ?_
                  refine awp_exit ?_
                  refine ⟨{ ts := [], L := [], G := G }, (weakK _ 3).trans (weakL _ trivial rfl rfl), rfl, ?_⟩
                  subst hge_i
                  simpa [exprsOk] using hI0
                | true =>
                  obtain ⟨e, he_i, hlt_i⟩ := lt_get (E.rows_len ks) hb123
                  have hx_i := E.rows_get he_i
                  have hdr_i := drop_get he_i
                  obtain ⟨eop, en, enm, eks⟩ := e
                  refine awp_if true rfl (fun _ => ?_) (fun e => by cases e)
                  refine awp_skip ?_
                  refine awp_seq ?_
                  refine awp_block ?_
                  refine awp_seq ?_
                  refine awp_ops ?_
                  refine vopsL_take 3 rfl ?_
                  refine vopsL_idx hx_i rfl rfl rfl (by decide) rfl rfl rfl rfl (by decide) ?_
                  refine vopsL_take 4 rfl ?_
                  rw [wrap64 (x := a + 1) (by omega)]
                  refine vopsL_fn rfl rfl rfl (ih (.mk eop en enm eks) (List.mem_of_getElem? he_i) L (a + 1) G (by omega) (by omega)) ?_
                  cases hb134 : exprOk L (a + 1) (.mk eop en enm eks) with
                  | false =>
                    refine vopsL_take 1 rfl ?_
                    refine awp_if true rfl (fun _ => ?_) (fun e => by cases e)
                    refine awp_seq ?_
                    refine awp_run rfl ?_
                    refine awp_ret ?_
                    refine q_block (q_ret (q_for (q_ret ?_)))
                    exact leave_ret_same [] rfl hG (List.append_nil G).symm rfl ⟨congrArg (fun b => AEnd.ret (.p (.bool b))) (by rw [exprOk, hI0, hdr_i]; simp [exprsOk, hb134]), rfl⟩
                  | true =>
                    refine vopsL_take 1 rfl ?_
                    refine awp_if false rfl (fun e => by cases e) fun _ => ?_
                    refine awp_skip ?_
                    refine awp_run rfl ?_
                    rw [wrap64 (x := (i : Int) + 1) (by omega)]
                    refine ⟨{ ts := [(1, .p (j64 L)), (2, .p (j64 a)), (3, .ptr (.l 3) 0), (11, .p (j64 (i + 1 : Nat)))], L := [(3, [.p (j64 9), .p (j64 n), .p (.str nm), .p (.vec (E.rows ks))])], G := G }, weakL _ ⟨rfl, rfl, rfl, rfl, trivial⟩ rfl rfl, ks.length - (i + 1), by omega, i + 1, rfl, by omega, rfl, ?_⟩
                    rw [hI0, hdr_i]; simp [exprsOk, hb134]
              · rintro s s' ⟨rfl, hX0⟩ hw
                refine awp_weak hw ?_
                refine awp_seq ?_
                refine awp_run rfl ?_
                refine awp_ret ?_
                exact leave_ret_same [] rfl hG (List.append_nil G).symm rfl ⟨congrArg (fun b => AEnd.ret (.p (.bool b))) (by rw [exprOk, hX0]; simp_all [shapeOk, noName, placeOk, okBin, okUn, codeOk] <;> omega), rfl⟩
            | true =>
              refine vopsL_take 1 rfl ?_
              refine awp_if true rfl (fun _ => ?_) (fun e => by cases e)
              refine awp_seq ?_
              refine awp_run rfl ?_
              refine awp_ret ?_
              refine q_ret ?_
              exact leave_ret_same [] rfl hG (List.append_nil G).symm rfl ⟨congrArg (fun b => AEnd.ret (.p (.bool b))) (by have hnn := @name_none nm; simp_all [exprOk, shapeOk, noName, placeOk, okBin, okUn, codeOk] <;> omega), rfl⟩
          | true =>
            have h113 := of_decide_eq_true hb113
            rw [hlen] at h113
            have hk0 : ks ≠ [] := by rintro rfl; simp at h113
            refine vopsL_take 5 rfl ?_
            refine awp_if true rfl (fun _ => ?_) (fun e => by cases e)
            refine awp_seq ?_
            refine awp_run rfl ?_
            refine awp_ret ?_
            refine q_ret ?_
            exact leave_ret_same [] rfl hG (List.append_nil G).symm rfl ⟨congrArg (fun b => AEnd.ret (.p (.bool b))) (by have hnn := @name_none nm; simp_all [exprOk, shapeOk, noName, placeOk, okBin, okUn, codeOk] <;> omega), rfl⟩
        | true =>
          have h106 := of_decide_eq_true hb106
          rw [hlen] at h106
          refine vopsL_take 12 rfl ?_
          refine awp_if true rfl (fun _ => ?_) (fun e => by cases e)
          refine awp_seq ?_
          refine awp_run rfl ?_
          refine awp_ret ?_
          refine q_ret ?_
          exact leave_ret_same [] rfl hG (List.append_nil G).symm rfl ⟨congrArg (fun b => AEnd.ret (.p (.bool b))) (by have hnn := @name_none nm; simp_all [exprOk, shapeOk, noName, placeOk, okBin, okUn, codeOk] <;> omega), rfl⟩
theorem c_rexpr10 (L a n : Int) (nm : ByteArray) (ks : List E) (G : List Blk) (h1 : 0 ≤ a) (h2 : a ≤ 101) (ih : ∀ e ∈ ks, ExprRC e) : FnIs Try.prog 136 [.agg (E.args (.mk 10 n nm ks)), .p (j64 L), .p (j64 a)] G (.p (.bool (exprOk L a (.mk 10 n nm ks)))) := by
  have hlen := E.rows_len ks
  refine acalls_fn (cfg 136) Try.func136 rfl rfl rfl (by simp) fun hG => ?_
  refine awp_seq ?_
  refine awp_run rfl ?_
  refine awp_seq ?_
  refine awp_run rfl ?_
  refine awp_seq ?_
  refine awp_sl mixed (by kernel_rfl) ?_
  refine vsl_take 2 rfl ?_
  refine vsl_cmp rfl rfl rfl fun b hb14 => ?_
  cases b with
  | false =>
    refine vsl_take 2 rfl ?_
    refine vsl_done ?_
    refine awp_seq ?_
    refine awp_seq ?_
    refine awp_run rfl ?_
    refine awp_block ?_
    refine awp_seq ?_
    refine awp_run rfl ?_
    refine awp_if false rfl (fun e => by cases e) fun _ => ?_
    refine awp_seq ?_
    refine awp_run rfl ?_
    refine awp_if false rfl (fun e => by cases e) fun _ => ?_
    refine awp_seq ?_
    refine awp_run rfl ?_
    refine awp_if false rfl (fun e => by cases e) fun _ => ?_
    refine awp_seq ?_
    refine awp_run rfl ?_
    refine awp_if false rfl (fun e => by cases e) fun _ => ?_
    refine awp_seq ?_
    refine awp_run rfl ?_
    refine awp_if false rfl (fun e => by cases e) fun _ => ?_
    refine awp_seq ?_
    refine awp_run rfl ?_
    refine awp_if false rfl (fun e => by cases e) fun _ => ?_
    refine awp_seq ?_
    refine awp_run rfl ?_
    refine awp_if false rfl (fun e => by cases e) fun _ => ?_
    refine awp_seq ?_
    refine awp_seq ?_
    refine awp_run rfl ?_
    refine awp_if false rfl (fun e => by cases e) fun _ => ?_
    refine awp_run rfl ?_
    refine awp_if false rfl (fun e => by cases e) fun _ => ?_
    refine awp_seq ?_
    refine awp_run rfl ?_
    refine awp_if true rfl (fun _ => ?_) (fun e => by cases e)
    refine awp_run rfl ?_
    refine awp_seq ?_
    refine awp_seq ?_
    refine awp_ops ?_
    refine vopsL_take 36 rfl ?_
    refine awp_if true rfl (fun _ => ?_) (fun e => by cases e)
    refine awp_seq ?_
    refine awp_run rfl ?_
    refine awp_ret ?_
    refine q_ret ?_
    exact leave_ret_same [] rfl hG (List.append_nil G).symm rfl ⟨congrArg (fun b => AEnd.ret (.p (.bool b))) (by have hnn := @name_none nm; simp_all [exprOk, shapeOk, noName, placeOk, okBin, okUn, codeOk] <;> omega), rfl⟩
  | true =>
    refine vsl_take 2 rfl ?_
    refine vsl_done ?_
    refine awp_seq ?_
    refine awp_seq ?_
    refine awp_run rfl ?_
    refine awp_block ?_
    refine awp_seq ?_
    refine awp_run rfl ?_
    refine awp_if false rfl (fun e => by cases e) fun _ => ?_
    refine awp_seq ?_
    refine awp_run rfl ?_
    refine awp_if false rfl (fun e => by cases e) fun _ => ?_
    refine awp_seq ?_
    refine awp_run rfl ?_
    refine awp_if false rfl (fun e => by cases e) fun _ => ?_
    refine awp_seq ?_
    refine awp_run rfl ?_
    refine awp_if false rfl (fun e => by cases e) fun _ => ?_
    refine awp_seq ?_
    refine awp_run rfl ?_
    refine awp_if false rfl (fun e => by cases e) fun _ => ?_
    refine awp_seq ?_
    refine awp_run rfl ?_
    refine awp_if false rfl (fun e => by cases e) fun _ => ?_
    refine awp_seq ?_
    refine awp_run rfl ?_
    refine awp_if false rfl (fun e => by cases e) fun _ => ?_
    refine awp_seq ?_
    refine awp_seq ?_
    refine awp_run rfl ?_
    refine awp_if false rfl (fun e => by cases e) fun _ => ?_
    refine awp_run rfl ?_
    refine awp_if false rfl (fun e => by cases e) fun _ => ?_
    refine awp_seq ?_
    refine awp_run rfl ?_
    refine awp_if true rfl (fun _ => ?_) (fun e => by cases e)
    refine awp_run rfl ?_
    refine awp_seq ?_
    refine awp_seq ?_
    refine awp_ops ?_
    refine vopsL_take 6 rfl ?_
    refine vopsL_cmpG rfl rfl rfl rfl (by decide) rfl fun b hb89 => ?_
    cases b with
    | false =>
      refine vopsL_take 16 rfl ?_
      refine vopsL_cmpG rfl rfl rfl rfl (by decide) rfl fun b hb106 => ?_
      cases b with
      | false =>
        have h106 := of_decide_eq_false hb106
        rw [hlen] at h106
        refine vopsL_take 6 rfl ?_
        refine vopsL_cmpG rfl rfl rfl rfl (by decide) rfl fun b hb113 => ?_
        cases b with
        | false =>
          have h113 := of_decide_eq_false hb113
          rw [hlen] at h113
          refine vopsL_take 3 rfl ?_
          refine vopsL_cmpG rfl rfl rfl rfl (by decide) rfl fun b hb117 => ?_
          cases b with
          | false =>
            have ha : a ≤ 100 := by simpa using hb117
            have hkl : ks.length ≤ 17 := by omega
            refine vopsL_take 1 rfl ?_
            refine awp_if false rfl (fun e => by cases e) fun _ => ?_
            refine awp_skip ?_
            refine awp_seq ?_
            refine awp_seq ?_
            refine awp_run rfl ?_
            refine awp_weak (s' := { ts := [(1, .p (j64 L)), (2, .p (j64 a)), (3, .ptr (.l 3) 0), (11, .p (j64 0))], L := [(3, [.p (j64 10), .p (j64 n), .p (.str nm), .p (.vec (E.rows ks))])], G := G }) (weakL _ ⟨rfl, rfl, rfl, rfl, trivial⟩ rfl rfl) ?_
            refine awp_forE (fun mm s => ∃ (i : Nat) , s = { ts := [(1, .p (j64 L)), (2, .p (j64 a)), (3, .ptr (.l 3) 0), (11, .p (j64 i))], L := [(3, [.p (j64 10), .p (j64 n), .p (.str nm), .p (.vec (E.rows ks))])], G := G } ∧ i ≤ ks.length ∧ mm = ks.length - i ∧ exprsOk L (a + 1) ks = exprsOk L (a + 1) (ks.drop i))
              (fun s => s = { ts := [], L := [], G := G } ∧ exprsOk L (a + 1) ks = true) ks.length ⟨0, rfl, by omega, by omega, by simp⟩ ?_ ?_
            · rintro mm s ⟨i, rfl, hi_i, rfl, hI0⟩
              refine awp_seq ?_
              refine awp_seq ?_
              refine awp_ops ?_
              refine vopsL_take 4 rfl ?_
              refine vopsL_cmp rfl rfl rfl (by decide) rfl fun b hb123 => ?_
              cases b with
              | false =>
                have hge_i := ge_eq (E.rows_len ks) hi_i hb123
                refine awp_if false rfl (fun e => by cases e) fun _ => ?_
                refine awp_exit ?_
                refine ⟨{ ts := [], L := [], G := G }, (weakK _ 3).trans (weakL _ trivial rfl rfl), rfl, ?_⟩
                subst hge_i
                simpa [exprsOk] using hI0
              | true =>
                obtain ⟨e, he_i, hlt_i⟩ := lt_get (E.rows_len ks) hb123
                have hx_i := E.rows_get he_i
                have hdr_i := drop_get he_i
                obtain ⟨eop, en, enm, eks⟩ := e
                refine awp_if true rfl (fun _ => ?_) (fun e => by cases e)
                refine awp_skip ?_
                refine awp_seq ?_
                refine awp_block ?_
                refine awp_seq ?_
                refine awp_ops ?_
                refine vopsL_take 3 rfl ?_
                refine vopsL_idx hx_i rfl rfl rfl (by decide) rfl rfl rfl rfl (by decide) ?_
                refine vopsL_take 4 rfl ?_
                rw [wrap64 (x := a + 1) (by omega)]
                refine vopsL_fn rfl rfl rfl (ih (.mk eop en enm eks) (List.mem_of_getElem? he_i) L (a + 1) G (by omega) (by omega)) ?_
                cases hb134 : exprOk L (a + 1) (.mk eop en enm eks) with
                | false =>
                  refine vopsL_take 1 rfl ?_
                  refine awp_if true rfl (fun _ => ?_) (fun e => by cases e)
                  refine awp_seq ?_
                  refine awp_run rfl ?_
                  refine awp_ret ?_
                  refine q_block (q_ret (q_for (q_ret ?_)))
                  exact leave_ret_same [] rfl hG (List.append_nil G).symm rfl ⟨congrArg (fun b => AEnd.ret (.p (.bool b))) (by rw [exprOk, hI0, hdr_i]; simp [exprsOk, hb134]), rfl⟩
                | true =>
                  refine vopsL_take 1 rfl ?_
                  refine awp_if false rfl (fun e => by cases e) fun _ => ?_
                  refine awp_skip ?_
                  refine awp_run rfl ?_
                  rw [wrap64 (x := (i : Int) + 1) (by omega)]
                  refine ⟨{ ts := [(1, .p (j64 L)), (2, .p (j64 a)), (3, .ptr (.l 3) 0), (11, .p (j64 (i + 1 : Nat)))], L := [(3, [.p (j64 10), .p (j64 n), .p (.str nm), .p (.vec (E.rows ks))])], G := G }, weakL _ ⟨rfl, rfl, rfl, rfl, trivial⟩ rfl rfl, ks.length - (i + 1), by omega, i + 1, rfl, by omega, rfl, ?_⟩
                  rw [hI0, hdr_i]; simp [exprsOk, hb134]
            · rintro s s' ⟨rfl, hX0⟩ hw
              refine awp_weak hw ?_
              refine awp_seq ?_
              refine awp_run rfl ?_
              refine awp_ret ?_
              exact leave_ret_same [] rfl hG (List.append_nil G).symm rfl ⟨congrArg (fun b => AEnd.ret (.p (.bool b))) (by rw [exprOk, hX0]; simp_all [shapeOk, noName, placeOk, okBin, okUn, codeOk] <;> omega), rfl⟩
          | true =>
            refine vopsL_take 1 rfl ?_
            refine awp_if true rfl (fun _ => ?_) (fun e => by cases e)
            refine awp_seq ?_
            refine awp_run rfl ?_
            refine awp_ret ?_
            refine q_ret ?_
            exact leave_ret_same [] rfl hG (List.append_nil G).symm rfl ⟨congrArg (fun b => AEnd.ret (.p (.bool b))) (by have hnn := @name_none nm; simp_all [exprOk, shapeOk, noName, placeOk, okBin, okUn, codeOk] <;> omega), rfl⟩
        | true =>
          have h113 := of_decide_eq_true hb113
          rw [hlen] at h113
          have hk0 : ks ≠ [] := by rintro rfl; simp at h113
          refine vopsL_take 5 rfl ?_
          refine awp_if true rfl (fun _ => ?_) (fun e => by cases e)
          refine awp_seq ?_
          refine awp_run rfl ?_
          refine awp_ret ?_
          refine q_ret ?_
          exact leave_ret_same [] rfl hG (List.append_nil G).symm rfl ⟨congrArg (fun b => AEnd.ret (.p (.bool b))) (by have hnn := @name_none nm; simp_all [exprOk, shapeOk, noName, placeOk, okBin, okUn, codeOk] <;> omega), rfl⟩
      | true =>
        have h106 := of_decide_eq_true hb106
        rw [hlen] at h106
        refine vopsL_take 12 rfl ?_
        refine awp_if true rfl (fun _ => ?_) (fun e => by cases e)
        refine awp_seq ?_
        refine awp_run rfl ?_
        refine awp_ret ?_
        refine q_ret ?_
        exact leave_ret_same [] rfl hG (List.append_nil G).symm rfl ⟨congrArg (fun b => AEnd.ret (.p (.bool b))) (by have hnn := @name_none nm; simp_all [exprOk, shapeOk, noName, placeOk, okBin, okUn, codeOk] <;> omega), rfl⟩
    | true =>
      refine vopsL_take 29 rfl ?_
      refine awp_if true rfl (fun _ => ?_) (fun e => by cases e)
      refine awp_seq ?_
      refine awp_run rfl ?_
      refine awp_ret ?_
      refine q_ret ?_
      exact leave_ret_same [] rfl hG (List.append_nil G).symm rfl ⟨congrArg (fun b => AEnd.ret (.p (.bool b))) (by have hnn := @name_none nm; simp_all [exprOk, shapeOk, noName, placeOk, okBin, okUn, codeOk] <;> omega), rfl⟩
theorem c_rexpr11 (L a n : Int) (nm : ByteArray) (ks : List E) (G : List Blk) (h1 : 0 ≤ a) (h2 : a ≤ 101) (ih : ∀ e ∈ ks, ExprRC e) : FnIs Try.prog 136 [.agg (E.args (.mk 11 n nm ks)), .p (j64 L), .p (j64 a)] G (.p (.bool (exprOk L a (.mk 11 n nm ks)))) := by
  have hlen := E.rows_len ks
  refine acalls_fn (cfg 136) Try.func136 rfl rfl rfl (by simp) fun hG => ?_
  refine awp_seq ?_
  refine awp_run rfl ?_
  refine awp_seq ?_
  refine awp_run rfl ?_
  refine awp_seq ?_
  refine awp_sl mixed (by kernel_rfl) ?_
  refine vsl_take 2 rfl ?_
  refine vsl_cmp rfl rfl rfl fun b hb14 => ?_
  cases b with
  | false =>
    refine vsl_take 2 rfl ?_
    refine vsl_done ?_
    refine awp_seq ?_
    refine awp_seq ?_
    refine awp_run rfl ?_
    refine awp_block ?_
    refine awp_seq ?_
    refine awp_run rfl ?_
    refine awp_if false rfl (fun e => by cases e) fun _ => ?_
    refine awp_seq ?_
    refine awp_run rfl ?_
    refine awp_if false rfl (fun e => by cases e) fun _ => ?_
    refine awp_seq ?_
    refine awp_run rfl ?_
    refine awp_if false rfl (fun e => by cases e) fun _ => ?_
    refine awp_seq ?_
    refine awp_run rfl ?_
    refine awp_if false rfl (fun e => by cases e) fun _ => ?_
    refine awp_seq ?_
    refine awp_run rfl ?_
    refine awp_if false rfl (fun e => by cases e) fun _ => ?_
    refine awp_seq ?_
    refine awp_run rfl ?_
    refine awp_if false rfl (fun e => by cases e) fun _ => ?_
    refine awp_seq ?_
    refine awp_run rfl ?_
    refine awp_if false rfl (fun e => by cases e) fun _ => ?_
    refine awp_seq ?_
    refine awp_seq ?_
    refine awp_run rfl ?_
    refine awp_if false rfl (fun e => by cases e) fun _ => ?_
    refine awp_run rfl ?_
    refine awp_if false rfl (fun e => by cases e) fun _ => ?_
    refine awp_seq ?_
    refine awp_run rfl ?_
    refine awp_if false rfl (fun e => by cases e) fun _ => ?_
    refine awp_seq ?_
    refine awp_run rfl ?_
    refine awp_if true rfl (fun _ => ?_) (fun e => by cases e)
    refine awp_skip ?_
    refine awp_seq ?_
    refine awp_seq ?_
    refine awp_ops ?_
    refine vopsL_take 36 rfl ?_
    refine awp_if true rfl (fun _ => ?_) (fun e => by cases e)
    refine awp_seq ?_
    refine awp_run rfl ?_
    refine awp_ret ?_
    refine q_ret ?_
    exact leave_ret_same [] rfl hG (List.append_nil G).symm rfl ⟨congrArg (fun b => AEnd.ret (.p (.bool b))) (by have hnn := @name_none nm; simp_all [exprOk, shapeOk, noName, placeOk, okBin, okUn, codeOk] <;> omega), rfl⟩
  | true =>
    refine vsl_take 2 rfl ?_
    refine vsl_done ?_
    refine awp_seq ?_
    refine awp_seq ?_
    refine awp_run rfl ?_
    refine awp_block ?_
    refine awp_seq ?_
    refine awp_run rfl ?_
    refine awp_if false rfl (fun e => by cases e) fun _ => ?_
    refine awp_seq ?_
    refine awp_run rfl ?_
    refine awp_if false rfl (fun e => by cases e) fun _ => ?_
    refine awp_seq ?_
    refine awp_run rfl ?_
    refine awp_if false rfl (fun e => by cases e) fun _ => ?_
    refine awp_seq ?_
    refine awp_run rfl ?_
    refine awp_if false rfl (fun e => by cases e) fun _ => ?_
    refine awp_seq ?_
    refine awp_run rfl ?_
    refine awp_if false rfl (fun e => by cases e) fun _ => ?_
    refine awp_seq ?_
    refine awp_run rfl ?_
    refine awp_if false rfl (fun e => by cases e) fun _ => ?_
    refine awp_seq ?_
    refine awp_run rfl ?_
    refine awp_if false rfl (fun e => by cases e) fun _ => ?_
    refine awp_seq ?_
    refine awp_seq ?_
    refine awp_run rfl ?_
    refine awp_if false rfl (fun e => by cases e) fun _ => ?_
    refine awp_run rfl ?_
    refine awp_if false rfl (fun e => by cases e) fun _ => ?_
    refine awp_seq ?_
    refine awp_run rfl ?_
    refine awp_if false rfl (fun e => by cases e) fun _ => ?_
    refine awp_seq ?_
    refine awp_run rfl ?_
    refine awp_if true rfl (fun _ => ?_) (fun e => by cases e)
    refine awp_skip ?_
    refine awp_seq ?_
    refine awp_seq ?_
    refine awp_ops ?_
    refine vopsL_take 6 rfl ?_
    refine vopsL_cmpG rfl rfl rfl rfl (by decide) rfl fun b hb89 => ?_
    cases b with
    | false =>
      refine vopsL_take 16 rfl ?_
      refine vopsL_cmpG rfl rfl rfl rfl (by decide) rfl fun b hb106 => ?_
      cases b with
      | false =>
        have h106 := of_decide_eq_false hb106
        rw [hlen] at h106
        refine vopsL_take 6 rfl ?_
        refine vopsL_cmpG rfl rfl rfl rfl (by decide) rfl fun b hb113 => ?_
        cases b with
        | false =>
          have h113 := of_decide_eq_false hb113
          rw [hlen] at h113
          refine vopsL_take 3 rfl ?_
          refine vopsL_cmpG rfl rfl rfl rfl (by decide) rfl fun b hb117 => ?_
          cases b with
          | false =>
            have ha : a ≤ 100 := by simpa using hb117
            have hkl : ks.length ≤ 17 := by omega
            refine vopsL_take 1 rfl ?_
            refine awp_if false rfl (fun e => by cases e) fun _ => ?_
            refine awp_skip ?_
            refine awp_seq ?_
            refine awp_seq ?_
            refine awp_run rfl ?_
            refine awp_weak (s' := { ts := [(1, .p (j64 L)), (2, .p (j64 a)), (3, .ptr (.l 3) 0), (11, .p (j64 0))], L := [(3, [.p (j64 11), .p (j64 n), .p (.str nm), .p (.vec (E.rows ks))])], G := G }) (weakL _ ⟨rfl, rfl, rfl, rfl, trivial⟩ rfl rfl) ?_
            refine awp_forE (fun mm s => ∃ (i : Nat) , s = { ts := [(1, .p (j64 L)), (2, .p (j64 a)), (3, .ptr (.l 3) 0), (11, .p (j64 i))], L := [(3, [.p (j64 11), .p (j64 n), .p (.str nm), .p (.vec (E.rows ks))])], G := G } ∧ i ≤ ks.length ∧ mm = ks.length - i ∧ exprsOk L (a + 1) ks = exprsOk L (a + 1) (ks.drop i))
              (fun s => s = { ts := [], L := [], G := G } ∧ exprsOk L (a + 1) ks = true) ks.length ⟨0, rfl, by omega, by omega, by simp⟩ ?_ ?_
            · rintro mm s ⟨i, rfl, hi_i, rfl, hI0⟩
              refine awp_seq ?_
              refine awp_seq ?_
              refine awp_ops ?_
              refine vopsL_take 4 rfl ?_
              refine vopsL_cmp rfl rfl rfl (by decide) rfl fun b hb123 => ?_
              cases b with
              | false =>
                have hge_i := ge_eq (E.rows_len ks) hi_i hb123
                refine awp_if false rfl (fun e => by cases e) fun _ => ?_
                refine awp_exit ?_
                refine ⟨{ ts := [], L := [], G := G }, (weakK _ 3).trans (weakL _ trivial rfl rfl), rfl, ?_⟩
                subst hge_i
                simpa [exprsOk] using hI0
              | true =>
                obtain ⟨e, he_i, hlt_i⟩ := lt_get (E.rows_len ks) hb123
                have hx_i := E.rows_get he_i
                have hdr_i := drop_get he_i
                obtain ⟨eop, en, enm, eks⟩ := e
                refine awp_if true rfl (fun _ => ?_) (fun e => by cases e)
                refine awp_skip ?_
                refine awp_seq ?_
                refine awp_block ?_
                refine awp_seq ?_
                refine awp_ops ?_
                refine vopsL_take 3 rfl ?_
                refine vopsL_idx hx_i rfl rfl rfl (by decide) rfl rfl rfl rfl (by decide) ?_
                refine vopsL_take 4 rfl ?_
                rw [wrap64 (x := a + 1) (by omega)]
                refine vopsL_fn rfl rfl rfl (ih (.mk eop en enm eks) (List.mem_of_getElem? he_i) L (a + 1) G (by omega) (by omega)) ?_
                cases hb134 : exprOk L (a + 1) (.mk eop en enm eks) with
                | false =>
                  refine vopsL_take 1 rfl ?_
                  refine awp_if true rfl (fun _ => ?_) (fun e => by cases e)
                  refine awp_seq ?_
                  refine awp_run rfl ?_
                  refine awp_ret ?_
                  refine q_block (q_ret (q_for (q_ret ?_)))
                  exact leave_ret_same [] rfl hG (List.append_nil G).symm rfl ⟨congrArg (fun b => AEnd.ret (.p (.bool b))) (by rw [exprOk, hI0, hdr_i]; simp [exprsOk, hb134]), rfl⟩
                | true =>
                  refine vopsL_take 1 rfl ?_
                  refine awp_if false rfl (fun e => by cases e) fun _ => ?_
                  refine awp_skip ?_
                  refine awp_run rfl ?_
                  rw [wrap64 (x := (i : Int) + 1) (by omega)]
                  refine ⟨{ ts := [(1, .p (j64 L)), (2, .p (j64 a)), (3, .ptr (.l 3) 0), (11, .p (j64 (i + 1 : Nat)))], L := [(3, [.p (j64 11), .p (j64 n), .p (.str nm), .p (.vec (E.rows ks))])], G := G }, weakL _ ⟨rfl, rfl, rfl, rfl, trivial⟩ rfl rfl, ks.length - (i + 1), by omega, i + 1, rfl, by omega, rfl, ?_⟩
                  rw [hI0, hdr_i]; simp [exprsOk, hb134]
            · rintro s s' ⟨rfl, hX0⟩ hw
              refine awp_weak hw ?_
              refine awp_seq ?_
              refine awp_run rfl ?_
              refine awp_ret ?_
              exact leave_ret_same [] rfl hG (List.append_nil G).symm rfl ⟨congrArg (fun b => AEnd.ret (.p (.bool b))) (by rw [exprOk, hX0]; simp_all [shapeOk, noName, placeOk, okBin, okUn, codeOk] <;> omega), rfl⟩
          | true =>
            refine vopsL_take 1 rfl ?_
            refine awp_if true rfl (fun _ => ?_) (fun e => by cases e)
            refine awp_seq ?_
            refine awp_run rfl ?_
            refine awp_ret ?_
            refine q_ret ?_
            exact leave_ret_same [] rfl hG (List.append_nil G).symm rfl ⟨congrArg (fun b => AEnd.ret (.p (.bool b))) (by have hnn := @name_none nm; simp_all [exprOk, shapeOk, noName, placeOk, okBin, okUn, codeOk] <;> omega), rfl⟩
        | true =>
          have h113 := of_decide_eq_true hb113
          rw [hlen] at h113
          have hk0 : ks ≠ [] := by rintro rfl; simp at h113
          refine vopsL_take 5 rfl ?_
          refine awp_if true rfl (fun _ => ?_) (fun e => by cases e)
          refine awp_seq ?_
          refine awp_run rfl ?_
          refine awp_ret ?_
          refine q_ret ?_
          exact leave_ret_same [] rfl hG (List.append_nil G).symm rfl ⟨congrArg (fun b => AEnd.ret (.p (.bool b))) (by have hnn := @name_none nm; simp_all [exprOk, shapeOk, noName, placeOk, okBin, okUn, codeOk] <;> omega), rfl⟩
      | true =>
        have h106 := of_decide_eq_true hb106
        rw [hlen] at h106
        refine vopsL_take 12 rfl ?_
        refine awp_if true rfl (fun _ => ?_) (fun e => by cases e)
        refine awp_seq ?_
        refine awp_run rfl ?_
        refine awp_ret ?_
        refine q_ret ?_
        exact leave_ret_same [] rfl hG (List.append_nil G).symm rfl ⟨congrArg (fun b => AEnd.ret (.p (.bool b))) (by have hnn := @name_none nm; simp_all [exprOk, shapeOk, noName, placeOk, okBin, okUn, codeOk] <;> omega), rfl⟩
    | true =>
      refine vopsL_take 29 rfl ?_
      refine awp_if true rfl (fun _ => ?_) (fun e => by cases e)
      refine awp_seq ?_
      refine awp_run rfl ?_
      refine awp_ret ?_
      refine q_ret ?_
      exact leave_ret_same [] rfl hG (List.append_nil G).symm rfl ⟨congrArg (fun b => AEnd.ret (.p (.bool b))) (by have hnn := @name_none nm; simp_all [exprOk, shapeOk, noName, placeOk, okBin, okUn, codeOk] <;> omega), rfl⟩
theorem c_rexpr12 (L a n : Int) (nm : ByteArray) (ks : List E) (G : List Blk) (h1 : 0 ≤ a) (h2 : a ≤ 101) (ih : ∀ e ∈ ks, ExprRC e) : FnIs Try.prog 136 [.agg (E.args (.mk 12 n nm ks)), .p (j64 L), .p (j64 a)] G (.p (.bool (exprOk L a (.mk 12 n nm ks)))) := by
  have hlen := E.rows_len ks
  refine acalls_fn (cfg 136) Try.func136 rfl rfl rfl (by simp) fun hG => ?_
  refine awp_seq ?_
  refine awp_run rfl ?_
  refine awp_seq ?_
  refine awp_run rfl ?_
  refine awp_seq ?_
  refine awp_sl mixed (by kernel_rfl) ?_
  refine vsl_take 2 rfl ?_
  refine vsl_cmp rfl rfl rfl fun b hb14 => ?_
  cases b with
  | false =>
    refine vsl_take 2 rfl ?_
    refine vsl_done ?_
    refine awp_seq ?_
    refine awp_seq ?_
    refine awp_run rfl ?_
    refine awp_block ?_
    refine awp_seq ?_
    refine awp_run rfl ?_
    refine awp_if false rfl (fun e => by cases e) fun _ => ?_
    refine awp_seq ?_
    refine awp_run rfl ?_
    refine awp_if false rfl (fun e => by cases e) fun _ => ?_
    refine awp_seq ?_
    refine awp_run rfl ?_
    refine awp_if false rfl (fun e => by cases e) fun _ => ?_
    refine awp_seq ?_
    refine awp_run rfl ?_
    refine awp_if false rfl (fun e => by cases e) fun _ => ?_
    refine awp_seq ?_
    refine awp_run rfl ?_
    refine awp_if false rfl (fun e => by cases e) fun _ => ?_
    refine awp_seq ?_
    refine awp_run rfl ?_
    refine awp_if false rfl (fun e => by cases e) fun _ => ?_
    refine awp_seq ?_
    refine awp_run rfl ?_
    refine awp_if false rfl (fun e => by cases e) fun _ => ?_
    refine awp_seq ?_
    refine awp_seq ?_
    refine awp_run rfl ?_
    refine awp_if false rfl (fun e => by cases e) fun _ => ?_
    refine awp_run rfl ?_
    refine awp_if false rfl (fun e => by cases e) fun _ => ?_
    refine awp_seq ?_
    refine awp_run rfl ?_
    refine awp_if false rfl (fun e => by cases e) fun _ => ?_
    refine awp_seq ?_
    refine awp_run rfl ?_
    refine awp_if false rfl (fun e => by cases e) fun _ => ?_
    refine awp_seq ?_
    refine awp_run rfl ?_
    refine awp_if true rfl (fun _ => ?_) (fun e => by cases e)
    refine awp_run rfl ?_
    refine awp_seq ?_
    refine awp_seq ?_
    refine awp_ops ?_
    refine vopsL_take 36 rfl ?_
    refine awp_if true rfl (fun _ => ?_) (fun e => by cases e)
    refine awp_seq ?_
    refine awp_run rfl ?_
    refine awp_ret ?_
    refine q_ret ?_
    exact leave_ret_same [] rfl hG (List.append_nil G).symm rfl ⟨congrArg (fun b => AEnd.ret (.p (.bool b))) (by have hnn := @name_none nm; simp_all [exprOk, shapeOk, noName, placeOk, okBin, okUn, codeOk] <;> omega), rfl⟩
  | true =>
    refine vsl_take 2 rfl ?_
    refine vsl_done ?_
    refine awp_seq ?_
    refine awp_seq ?_
    refine awp_run rfl ?_
    refine awp_block ?_
    refine awp_seq ?_
    refine awp_run rfl ?_
    refine awp_if false rfl (fun e => by cases e) fun _ => ?_
    refine awp_seq ?_
    refine awp_run rfl ?_
    refine awp_if false rfl (fun e => by cases e) fun _ => ?_
    refine awp_seq ?_
    refine awp_run rfl ?_
    refine awp_if false rfl (fun e => by cases e) fun _ => ?_
    refine awp_seq ?_
    refine awp_run rfl ?_
    refine awp_if false rfl (fun e => by cases e) fun _ => ?_
    refine awp_seq ?_
    refine awp_run rfl ?_
    refine awp_if false rfl (fun e => by cases e) fun _ => ?_
    refine awp_seq ?_
    refine awp_run rfl ?_
    refine awp_if false rfl (fun e => by cases e) fun _ => ?_
    refine awp_seq ?_
    refine awp_run rfl ?_
    refine awp_if false rfl (fun e => by cases e) fun _ => ?_
    refine awp_seq ?_
    refine awp_seq ?_
    refine awp_run rfl ?_
    refine awp_if false rfl (fun e => by cases e) fun _ => ?_
    refine awp_run rfl ?_
    refine awp_if false rfl (fun e => by cases e) fun _ => ?_
    refine awp_seq ?_
    refine awp_run rfl ?_
    refine awp_if false rfl (fun e => by cases e) fun _ => ?_
    refine awp_seq ?_
    refine awp_run rfl ?_
    refine awp_if false rfl (fun e => by cases e) fun _ => ?_
    refine awp_seq ?_
    refine awp_run rfl ?_
    refine awp_if true rfl (fun _ => ?_) (fun e => by cases e)
    refine awp_run rfl ?_
    refine awp_seq ?_
    refine awp_seq ?_
    refine awp_ops ?_
    refine vopsL_take 6 rfl ?_
    refine vopsL_cmpG rfl rfl rfl rfl (by decide) rfl fun b hb89 => ?_
    cases b with
    | false =>
      refine vopsL_take 16 rfl ?_
      refine vopsL_cmpG rfl rfl rfl rfl (by decide) rfl fun b hb106 => ?_
      cases b with
      | false =>
        have h106 := of_decide_eq_false hb106
        rw [hlen] at h106
        refine vopsL_take 6 rfl ?_
        refine vopsL_cmpG rfl rfl rfl rfl (by decide) rfl fun b hb113 => ?_
        cases b with
        | false =>
          have h113 := of_decide_eq_false hb113
          rw [hlen] at h113
          refine vopsL_take 3 rfl ?_
          refine vopsL_cmpG rfl rfl rfl rfl (by decide) rfl fun b hb117 => ?_
          cases b with
          | false =>
            have ha : a ≤ 100 := by simpa using hb117
            have hkl : ks.length ≤ 17 := by omega
            refine vopsL_take 1 rfl ?_
            refine awp_if false rfl (fun e => by cases e) fun _ => ?_
            refine awp_skip ?_
            refine awp_seq ?_
            refine awp_seq ?_
            refine awp_run rfl ?_
            refine awp_weak (s' := { ts := [(1, .p (j64 L)), (2, .p (j64 a)), (3, .ptr (.l 3) 0), (11, .p (j64 0))], L := [(3, [.p (j64 12), .p (j64 n), .p (.str nm), .p (.vec (E.rows ks))])], G := G }) (weakL _ ⟨rfl, rfl, rfl, rfl, trivial⟩ rfl rfl) ?_
            refine awp_forE (fun mm s => ∃ (i : Nat) , s = { ts := [(1, .p (j64 L)), (2, .p (j64 a)), (3, .ptr (.l 3) 0), (11, .p (j64 i))], L := [(3, [.p (j64 12), .p (j64 n), .p (.str nm), .p (.vec (E.rows ks))])], G := G } ∧ i ≤ ks.length ∧ mm = ks.length - i ∧ exprsOk L (a + 1) ks = exprsOk L (a + 1) (ks.drop i))
              (fun s => s = { ts := [], L := [], G := G } ∧ exprsOk L (a + 1) ks = true) ks.length ⟨0, rfl, by omega, by omega, by simp⟩ ?_ ?_
            · rintro mm s ⟨i, rfl, hi_i, rfl, hI0⟩
              refine awp_seq ?_
              refine awp_seq ?_
              refine awp_ops ?_
              refine vopsL_take 4 rfl ?_
              refine vopsL_cmp rfl rfl rfl (by decide) rfl fun b hb123 => ?_
              cases b with
              | false =>
                have hge_i := ge_eq (E.rows_len ks) hi_i hb123
                refine awp_if false rfl (fun e => by cases e) fun _ => ?_
                refine awp_exit ?_
                refine ⟨{ ts := [], L := [], G := G }, (weakK _ 3).trans (weakL _ trivial rfl rfl), rfl, ?_⟩
                subst hge_i
                simpa [exprsOk] using hI0
              | true =>
                obtain ⟨e, he_i, hlt_i⟩ := lt_get (E.rows_len ks) hb123
                have hx_i := E.rows_get he_i
                have hdr_i := drop_get he_i
                obtain ⟨eop, en, enm, eks⟩ := e
                refine awp_if true rfl (fun _ => ?_) (fun e => by cases e)
                refine awp_skip ?_
                refine awp_seq ?_
                refine awp_block ?_
                refine awp_seq ?_
                refine awp_ops ?_
                refine vopsL_take 3 rfl ?_
                refine vopsL_idx hx_i rfl rfl rfl (by decide) rfl rfl rfl rfl (by decide) ?_
                refine vopsL_take 4 rfl ?_
                rw [wrap64 (x := a + 1) (by omega)]
                refine vopsL_fn rfl rfl rfl (ih (.mk eop en enm eks) (List.mem_of_getElem? he_i) L (a + 1) G (by omega) (by omega)) ?_
                cases hb134 : exprOk L (a + 1) (.mk eop en enm eks) with
                | false =>
                  refine vopsL_take 1 rfl ?_
                  refine awp_if true rfl (fun _ => ?_) (fun e => by cases e)
                  refine awp_seq ?_
                  refine awp_run rfl ?_
                  refine awp_ret ?_
                  refine q_block (q_ret (q_for (q_ret ?_)))
                  exact leave_ret_same [] rfl hG (List.append_nil G).symm rfl ⟨congrArg (fun b => AEnd.ret (.p (.bool b))) (by rw [exprOk, hI0, hdr_i]; simp [exprsOk, hb134]), rfl⟩
                | true =>
                  refine vopsL_take 1 rfl ?_
                  refine awp_if false rfl (fun e => by cases e) fun _ => ?_
                  refine awp_skip ?_
                  refine awp_run rfl ?_
                  rw [wrap64 (x := (i : Int) + 1) (by omega)]
                  refine ⟨{ ts := [(1, .p (j64 L)), (2, .p (j64 a)), (3, .ptr (.l 3) 0), (11, .p (j64 (i + 1 : Nat)))], L := [(3, [.p (j64 12), .p (j64 n), .p (.str nm), .p (.vec (E.rows ks))])], G := G }, weakL _ ⟨rfl, rfl, rfl, rfl, trivial⟩ rfl rfl, ks.length - (i + 1), by omega, i + 1, rfl, by omega, rfl, ?_⟩
                  rw [hI0, hdr_i]; simp [exprsOk, hb134]
            · rintro s s' ⟨rfl, hX0⟩ hw
              refine awp_weak hw ?_
              refine awp_seq ?_
              refine awp_run rfl ?_
              refine awp_ret ?_
              exact leave_ret_same [] rfl hG (List.append_nil G).symm rfl ⟨congrArg (fun b => AEnd.ret (.p (.bool b))) (by rw [exprOk, hX0]; simp_all [shapeOk, noName, placeOk, okBin, okUn, codeOk] <;> omega), rfl⟩
          | true =>
            refine vopsL_take 1 rfl ?_
            refine awp_if true rfl (fun _ => ?_) (fun e => by cases e)
            refine awp_seq ?_
            refine awp_run rfl ?_
            refine awp_ret ?_
            refine q_ret ?_
            exact leave_ret_same [] rfl hG (List.append_nil G).symm rfl ⟨congrArg (fun b => AEnd.ret (.p (.bool b))) (by have hnn := @name_none nm; simp_all [exprOk, shapeOk, noName, placeOk, okBin, okUn, codeOk] <;> omega), rfl⟩
        | true =>
          have h113 := of_decide_eq_true hb113
          rw [hlen] at h113
          have hk0 : ks ≠ [] := by rintro rfl; simp at h113
          refine vopsL_take 5 rfl ?_
          refine awp_if true rfl (fun _ => ?_) (fun e => by cases e)
          refine awp_seq ?_
          refine awp_run rfl ?_
          refine awp_ret ?_
          refine q_ret ?_
          exact leave_ret_same [] rfl hG (List.append_nil G).symm rfl ⟨congrArg (fun b => AEnd.ret (.p (.bool b))) (by have hnn := @name_none nm; simp_all [exprOk, shapeOk, noName, placeOk, okBin, okUn, codeOk] <;> omega), rfl⟩
      | true =>
        have h106 := of_decide_eq_true hb106
        rw [hlen] at h106
        refine vopsL_take 12 rfl ?_
        refine awp_if true rfl (fun _ => ?_) (fun e => by cases e)
        refine awp_seq ?_
        refine awp_run rfl ?_
        refine awp_ret ?_
        refine q_ret ?_
        exact leave_ret_same [] rfl hG (List.append_nil G).symm rfl ⟨congrArg (fun b => AEnd.ret (.p (.bool b))) (by have hnn := @name_none nm; simp_all [exprOk, shapeOk, noName, placeOk, okBin, okUn, codeOk] <;> omega), rfl⟩
    | true =>
      refine vopsL_take 29 rfl ?_
      refine awp_if true rfl (fun _ => ?_) (fun e => by cases e)
      refine awp_seq ?_
      refine awp_run rfl ?_
      refine awp_ret ?_
      refine q_ret ?_
      exact leave_ret_same [] rfl hG (List.append_nil G).symm rfl ⟨congrArg (fun b => AEnd.ret (.p (.bool b))) (by have hnn := @name_none nm; simp_all [exprOk, shapeOk, noName, placeOk, okBin, okUn, codeOk] <;> omega), rfl⟩
theorem c_rexpr13 (L a n : Int) (nm : ByteArray) (ks : List E) (G : List Blk) (h1 : 0 ≤ a) (h2 : a ≤ 101) (ih : ∀ e ∈ ks, ExprRC e) : FnIs Try.prog 136 [.agg (E.args (.mk 13 n nm ks)), .p (j64 L), .p (j64 a)] G (.p (.bool (exprOk L a (.mk 13 n nm ks)))) := by
  have hlen := E.rows_len ks
  refine acalls_fn (cfg 136) Try.func136 rfl rfl rfl (by simp) fun hG => ?_
  refine awp_seq ?_
  refine awp_run rfl ?_
  refine awp_seq ?_
  refine awp_run rfl ?_
  refine awp_seq ?_
  refine awp_sl mixed (by kernel_rfl) ?_
  refine vsl_take 2 rfl ?_
  refine vsl_cmp rfl rfl rfl fun b hb14 => ?_
  cases b with
  | false =>
    refine vsl_take 2 rfl ?_
    refine vsl_done ?_
    refine awp_seq ?_
    refine awp_seq ?_
    refine awp_run rfl ?_
    refine awp_block ?_
    refine awp_seq ?_
    refine awp_run rfl ?_
    refine awp_if false rfl (fun e => by cases e) fun _ => ?_
    refine awp_seq ?_
    refine awp_run rfl ?_
    refine awp_if false rfl (fun e => by cases e) fun _ => ?_
    refine awp_seq ?_
    refine awp_run rfl ?_
    refine awp_if false rfl (fun e => by cases e) fun _ => ?_
    refine awp_seq ?_
    refine awp_run rfl ?_
    refine awp_if false rfl (fun e => by cases e) fun _ => ?_
    refine awp_seq ?_
    refine awp_run rfl ?_
    refine awp_if false rfl (fun e => by cases e) fun _ => ?_
    refine awp_seq ?_
    refine awp_run rfl ?_
    refine awp_if false rfl (fun e => by cases e) fun _ => ?_
    refine awp_seq ?_
    refine awp_run rfl ?_
    refine awp_if false rfl (fun e => by cases e) fun _ => ?_
    refine awp_seq ?_
    refine awp_seq ?_
    refine awp_run rfl ?_
    refine awp_if false rfl (fun e => by cases e) fun _ => ?_
    refine awp_run rfl ?_
    refine awp_if false rfl (fun e => by cases e) fun _ => ?_
    refine awp_seq ?_
    refine awp_run rfl ?_
    refine awp_if false rfl (fun e => by cases e) fun _ => ?_
    refine awp_seq ?_
    refine awp_run rfl ?_
    refine awp_if false rfl (fun e => by cases e) fun _ => ?_
    refine awp_seq ?_
    refine awp_run rfl ?_
    refine awp_if false rfl (fun e => by cases e) fun _ => ?_
    refine awp_seq ?_
    refine awp_run rfl ?_
    refine awp_if true rfl (fun _ => ?_) (fun e => by cases e)
    refine awp_sl mixed (by kernel_rfl) ?_
    refine vsl_take 2 rfl ?_
    refine vsl_cmp rfl rfl rfl fun b hb77 => ?_
    cases b with
    | false =>
      refine vsl_take 8 rfl ?_
      refine vsl_done ?_
      refine awp_seq ?_
      refine awp_seq ?_
      refine awp_ops ?_
      refine vopsL_take 36 rfl ?_
      refine awp_if true rfl (fun _ => ?_) (fun e => by cases e)
      refine awp_seq ?_
      refine awp_run rfl ?_
      refine awp_ret ?_
      refine q_ret ?_
      exact leave_ret_same [] rfl hG (List.append_nil G).symm rfl ⟨congrArg (fun b => AEnd.ret (.p (.bool b))) (by have hnn := @name_none nm; simp_all [exprOk, shapeOk, noName, placeOk, okBin, okUn, codeOk] <;> omega), rfl⟩
    | true =>
      refine vsl_take 3 rfl ?_
      refine vsl_cmpG rfl rfl rfl rfl fun b hb81 => ?_
      cases b with
      | false =>
        refine vsl_take 4 rfl ?_
        refine vsl_done ?_
        refine awp_seq ?_
        refine awp_seq ?_
        refine awp_ops ?_
        refine vopsL_take 36 rfl ?_
        refine awp_if true rfl (fun _ => ?_) (fun e => by cases e)
        refine awp_seq ?_
        refine awp_run rfl ?_
        refine awp_ret ?_
        refine q_ret ?_
        exact leave_ret_same [] rfl hG (List.append_nil G).symm rfl ⟨congrArg (fun b => AEnd.ret (.p (.bool b))) (by have hnn := @name_none nm; simp_all [exprOk, shapeOk, noName, placeOk, okBin, okUn, codeOk] <;> omega), rfl⟩
      | true =>
        refine vsl_take 4 rfl ?_
        refine vsl_done ?_
        refine awp_seq ?_
        refine awp_seq ?_
        refine awp_ops ?_
        refine vopsL_take 6 rfl ?_
        refine vopsL_cmpG rfl rfl rfl rfl (by decide) rfl fun b hb89 => ?_
        cases b with
        | false =>
          refine vopsL_take 16 rfl ?_
          refine vopsL_cmpG rfl rfl rfl rfl (by decide) rfl fun b hb106 => ?_
          cases b with
          | false =>
            have h106 := of_decide_eq_false hb106
            rw [hlen] at h106
            refine vopsL_take 6 rfl ?_
            refine vopsL_cmpG rfl rfl rfl rfl (by decide) rfl fun b hb113 => ?_
            cases b with
            | false =>
              have h113 := of_decide_eq_false hb113
              rw [hlen] at h113
              refine vopsL_take 3 rfl ?_
              refine vopsL_cmpG rfl rfl rfl rfl (by decide) rfl fun b hb117 => ?_
              cases b with
              | false =>
                have ha : a ≤ 100 := by simpa using hb117
                have hkl : ks.length ≤ 17 := by omega
                refine vopsL_take 1 rfl ?_
                refine awp_if false rfl (fun e => by cases e) fun _ => ?_
                refine awp_skip ?_
                refine awp_seq ?_
                refine awp_seq ?_
                refine awp_run rfl ?_
                refine awp_weak (s' := { ts := [(1, .p (j64 L)), (2, .p (j64 a)), (3, .ptr (.l 3) 0), (11, .p (j64 0))], L := [(3, [.p (j64 13), .p (j64 n), .p (.str nm), .p (.vec (E.rows ks))])], G := G }) (weakL _ ⟨rfl, rfl, rfl, rfl, trivial⟩ rfl rfl) ?_
                refine awp_forE (fun mm s => ∃ (i : Nat) , s = { ts := [(1, .p (j64 L)), (2, .p (j64 a)), (3, .ptr (.l 3) 0), (11, .p (j64 i))], L := [(3, [.p (j64 13), .p (j64 n), .p (.str nm), .p (.vec (E.rows ks))])], G := G } ∧ i ≤ ks.length ∧ mm = ks.length - i ∧ exprsOk L (a + 1) ks = exprsOk L (a + 1) (ks.drop i))
                  (fun s => s = { ts := [], L := [], G := G } ∧ exprsOk L (a + 1) ks = true) ks.length ⟨0, rfl, by omega, by omega, by simp⟩ ?_ ?_
                · rintro mm s ⟨i, rfl, hi_i, rfl, hI0⟩
                  refine awp_seq ?_
                  refine awp_seq ?_
                  refine awp_ops ?_
                  refine vopsL_take 4 rfl ?_
                  refine vopsL_cmp rfl rfl rfl (by decide) rfl fun b hb123 => ?_
                  cases b with
                  | false =>
                    have hge_i := ge_eq (E.rows_len ks) hi_i hb123
                    refine awp_if false rfl (fun e => by cases e) fun _ => ?_
                    refine awp_exit ?_
                    refine ⟨{ ts := [], L := [], G := G }, (weakK _ 3).trans (weakL _ trivial rfl rfl), rfl, ?_⟩
                    subst hge_i
                    simpa [exprsOk] using hI0
                  | true =>
                    obtain ⟨e, he_i, hlt_i⟩ := lt_get (E.rows_len ks) hb123
                    have hx_i := E.rows_get he_i
                    have hdr_i := drop_get he_i
                    obtain ⟨eop, en, enm, eks⟩ := e
                    refine awp_if true rfl (fun _ => ?_) (fun e => by cases e)
                    refine awp_skip ?_
                    refine awp_seq ?_
                    refine awp_block ?_
                    refine awp_seq ?_
                    refine awp_ops ?_
                    refine vopsL_take 3 rfl ?_
                    refine vopsL_idx hx_i rfl rfl rfl (by decide) rfl rfl rfl rfl (by decide) ?_
                    refine vopsL_take 4 rfl ?_
                    rw [wrap64 (x := a + 1) (by omega)]
                    refine vopsL_fn rfl rfl rfl (ih (.mk eop en enm eks) (List.mem_of_getElem? he_i) L (a + 1) G (by omega) (by omega)) ?_
                    cases hb134 : exprOk L (a + 1) (.mk eop en enm eks) with
                    | false =>
                      refine vopsL_take 1 rfl ?_
                      refine awp_if true rfl (fun _ => ?_) (fun e => by cases e)
                      refine awp_seq ?_
                      refine awp_run rfl ?_
                      refine awp_ret ?_
                      refine q_block (q_ret (q_for (q_ret ?_)))
                      exact leave_ret_same [] rfl hG (List.append_nil G).symm rfl ⟨congrArg (fun b => AEnd.ret (.p (.bool b))) (by rw [exprOk, hI0, hdr_i]; simp [exprsOk, hb134]), rfl⟩
                    | true =>
                      refine vopsL_take 1 rfl ?_
                      refine awp_if false rfl (fun e => by cases e) fun _ => ?_
                      refine awp_skip ?_
                      refine awp_run rfl ?_
                      rw [wrap64 (x := (i : Int) + 1) (by omega)]
                      refine ⟨{ ts := [(1, .p (j64 L)), (2, .p (j64 a)), (3, .ptr (.l 3) 0), (11, .p (j64 (i + 1 : Nat)))], L := [(3, [.p (j64 13), .p (j64 n), .p (.str nm), .p (.vec (E.rows ks))])], G := G }, weakL _ ⟨rfl, rfl, rfl, rfl, trivial⟩ rfl rfl, ks.length - (i + 1), by omega, i + 1, rfl, by omega, rfl, ?_⟩
                      rw [hI0, hdr_i]; simp [exprsOk, hb134]
                · rintro s s' ⟨rfl, hX0⟩ hw
                  refine awp_weak hw ?_
                  refine awp_seq ?_
                  refine awp_run rfl ?_
                  refine awp_ret ?_
                  exact leave_ret_same [] rfl hG (List.append_nil G).symm rfl ⟨congrArg (fun b => AEnd.ret (.p (.bool b))) (by rw [exprOk, hX0]; simp_all [shapeOk, noName, placeOk, okBin, okUn, codeOk] <;> omega), rfl⟩
              | true =>
                refine vopsL_take 1 rfl ?_
                refine awp_if true rfl (fun _ => ?_) (fun e => by cases e)
                refine awp_seq ?_
                refine awp_run rfl ?_
                refine awp_ret ?_
                refine q_ret ?_
                exact leave_ret_same [] rfl hG (List.append_nil G).symm rfl ⟨congrArg (fun b => AEnd.ret (.p (.bool b))) (by have hnn := @name_none nm; simp_all [exprOk, shapeOk, noName, placeOk, okBin, okUn, codeOk] <;> omega), rfl⟩
            | true =>
              have h113 := of_decide_eq_true hb113
              rw [hlen] at h113
              have hk0 : ks ≠ [] := by rintro rfl; simp at h113
              refine vopsL_take 5 rfl ?_
              refine awp_if true rfl (fun _ => ?_) (fun e => by cases e)
              refine awp_seq ?_
              refine awp_run rfl ?_
              refine awp_ret ?_
              refine q_ret ?_
              exact leave_ret_same [] rfl hG (List.append_nil G).symm rfl ⟨congrArg (fun b => AEnd.ret (.p (.bool b))) (by have hnn := @name_none nm; simp_all [exprOk, shapeOk, noName, placeOk, okBin, okUn, codeOk] <;> omega), rfl⟩
          | true =>
            have h106 := of_decide_eq_true hb106
            rw [hlen] at h106
            refine vopsL_take 12 rfl ?_
            refine awp_if true rfl (fun _ => ?_) (fun e => by cases e)
            refine awp_seq ?_
            refine awp_run rfl ?_
            refine awp_ret ?_
            refine q_ret ?_
            exact leave_ret_same [] rfl hG (List.append_nil G).symm rfl ⟨congrArg (fun b => AEnd.ret (.p (.bool b))) (by have hnn := @name_none nm; simp_all [exprOk, shapeOk, noName, placeOk, okBin, okUn, codeOk] <;> omega), rfl⟩
        | true =>
          refine vopsL_take 29 rfl ?_
          refine awp_if true rfl (fun _ => ?_) (fun e => by cases e)
          refine awp_seq ?_
          refine awp_run rfl ?_
          refine awp_ret ?_
          refine q_ret ?_
          exact leave_ret_same [] rfl hG (List.append_nil G).symm rfl ⟨congrArg (fun b => AEnd.ret (.p (.bool b))) (by have hnn := @name_none nm; simp_all [exprOk, shapeOk, noName, placeOk, okBin, okUn, codeOk] <;> omega), rfl⟩
  | true =>
    refine vsl_take 2 rfl ?_
    refine vsl_done ?_
    refine awp_seq ?_
    refine awp_seq ?_
    refine awp_run rfl ?_
    refine awp_block ?_
    refine awp_seq ?_
    refine awp_run rfl ?_
    refine awp_if false rfl (fun e => by cases e) fun _ => ?_
    refine awp_seq ?_
    refine awp_run rfl ?_
    refine awp_if false rfl (fun e => by cases e) fun _ => ?_
    refine awp_seq ?_
    refine awp_run rfl ?_
    refine awp_if false rfl (fun e => by cases e) fun _ => ?_
    refine awp_seq ?_
    refine awp_run rfl ?_
    refine awp_if false rfl (fun e => by cases e) fun _ => ?_
    refine awp_seq ?_
    refine awp_run rfl ?_
    refine awp_if false rfl (fun e => by cases e) fun _ => ?_
    refine awp_seq ?_
    refine awp_run rfl ?_
    refine awp_if false rfl (fun e => by cases e) fun _ => ?_
    refine awp_seq ?_
    refine awp_run rfl ?_
    refine awp_if false rfl (fun e => by cases e) fun _ => ?_
    refine awp_seq ?_
    refine awp_seq ?_
    refine awp_run rfl ?_
    refine awp_if false rfl (fun e => by cases e) fun _ => ?_
    refine awp_run rfl ?_
    refine awp_if false rfl (fun e => by cases e) fun _ => ?_
    refine awp_seq ?_
    refine awp_run rfl ?_
    refine awp_if false rfl (fun e => by cases e) fun _ => ?_
    refine awp_seq ?_
    refine awp_run rfl ?_
    refine awp_if false rfl (fun e => by cases e) fun _ => ?_
    refine awp_seq ?_
    refine awp_run rfl ?_
    refine awp_if false rfl (fun e => by cases e) fun _ => ?_
    refine awp_seq ?_
    refine awp_run rfl ?_
    refine awp_if true rfl (fun _ => ?_) (fun e => by cases e)
    refine awp_sl mixed (by kernel_rfl) ?_
    refine vsl_take 2 rfl ?_
    refine vsl_cmp rfl rfl rfl fun b hb77 => ?_
    cases b with
    | false =>
      refine vsl_take 8 rfl ?_
      refine vsl_done ?_
      refine awp_seq ?_
      refine awp_seq ?_
      refine awp_ops ?_
      refine vopsL_take 36 rfl ?_
      refine awp_if true rfl (fun _ => ?_) (fun e => by cases e)
      refine awp_seq ?_
      refine awp_run rfl ?_
      refine awp_ret ?_
      refine q_ret ?_
      exact leave_ret_same [] rfl hG (List.append_nil G).symm rfl ⟨congrArg (fun b => AEnd.ret (.p (.bool b))) (by have hnn := @name_none nm; simp_all [exprOk, shapeOk, noName, placeOk, okBin, okUn, codeOk] <;> omega), rfl⟩
    | true =>
      refine vsl_take 3 rfl ?_
      refine vsl_cmpG rfl rfl rfl rfl fun b hb81 => ?_
      cases b with
      | false =>
        refine vsl_take 4 rfl ?_
        refine vsl_done ?_
        refine awp_seq ?_
        refine awp_seq ?_
        refine awp_ops ?_
        refine vopsL_take 36 rfl ?_
        refine awp_if true rfl (fun _ => ?_) (fun e => by cases e)
        refine awp_seq ?_
        refine awp_run rfl ?_
        refine awp_ret ?_
        refine q_ret ?_
        exact leave_ret_same [] rfl hG (List.append_nil G).symm rfl ⟨congrArg (fun b => AEnd.ret (.p (.bool b))) (by have hnn := @name_none nm; simp_all [exprOk, shapeOk, noName, placeOk, okBin, okUn, codeOk] <;> omega), rfl⟩
      | true =>
        refine vsl_take 4 rfl ?_
        refine vsl_done ?_
        refine awp_seq ?_
        refine awp_seq ?_
        refine awp_ops ?_
        refine vopsL_take 6 rfl ?_
        refine vopsL_cmpG rfl rfl rfl rfl (by decide) rfl fun b hb89 => ?_
        cases b with
        | false =>
          refine vopsL_take 16 rfl ?_
          refine vopsL_cmpG rfl rfl rfl rfl (by decide) rfl fun b hb106 => ?_
          cases b with
          | false =>
            have h106 := of_decide_eq_false hb106
            rw [hlen] at h106
            refine vopsL_take 6 rfl ?_
            refine vopsL_cmpG rfl rfl rfl rfl (by decide) rfl fun b hb113 => ?_
            cases b with
            | false =>
              have h113 := of_decide_eq_false hb113
              rw [hlen] at h113
              refine vopsL_take 3 rfl ?_
              refine vopsL_cmpG rfl rfl rfl rfl (by decide) rfl fun b hb117 => ?_
              cases b with
              | false =>
                have ha : a ≤ 100 := by simpa using hb117
                have hkl : ks.length ≤ 17 := by omega
                refine vopsL_take 1 rfl ?_
                refine awp_if false rfl (fun e => by cases e) fun _ => ?_
                refine awp_skip ?_
                refine awp_seq ?_
                refine awp_seq ?_
                refine awp_run rfl ?_
                refine awp_weak (s' := { ts := [(1, .p (j64 L)), (2, .p (j64 a)), (3, .ptr (.l 3) 0), (11, .p (j64 0))], L := [(3, [.p (j64 13), .p (j64 n), .p (.str nm), .p (.vec (E.rows ks))])], G := G }) (weakL _ ⟨rfl, rfl, rfl, rfl, trivial⟩ rfl rfl) ?_
                refine awp_forE (fun mm s => ∃ (i : Nat) , s = { ts := [(1, .p (j64 L)), (2, .p (j64 a)), (3, .ptr (.l 3) 0), (11, .p (j64 i))], L := [(3, [.p (j64 13), .p (j64 n), .p (.str nm), .p (.vec (E.rows ks))])], G := G } ∧ i ≤ ks.length ∧ mm = ks.length - i ∧ exprsOk L (a + 1) ks = exprsOk L (a + 1) (ks.drop i))
                  (fun s => s = { ts := [], L := [], G := G } ∧ exprsOk L (a + 1) ks = true) ks.length ⟨0, rfl, by omega, by omega, by simp⟩ ?_ ?_
                · rintro mm s ⟨i, rfl, hi_i, rfl, hI0⟩
                  refine awp_seq ?_
                  refine awp_seq ?_
                  refine awp_ops ?_
                  refine vopsL_take 4 rfl ?_
                  refine vopsL_cmp rfl rfl rfl (by decide) rfl fun b hb123 => ?_
                  cases b with
                  | false =>
                    have hge_i := ge_eq (E.rows_len ks) hi_i hb123
                    refine awp_if false rfl (fun e => by cases e) fun _ => ?_
                    refine awp_exit ?_
                    refine ⟨{ ts := [], L := [], G := G }, (weakK _ 3).trans (weakL _ trivial rfl rfl), rfl, ?_⟩
                    subst hge_i
                    simpa [exprsOk] using hI0
                  | true =>
                    obtain ⟨e, he_i, hlt_i⟩ := lt_get (E.rows_len ks) hb123
                    have hx_i := E.rows_get he_i
                    have hdr_i := drop_get he_i
                    obtain ⟨eop, en, enm, eks⟩ := e
                    refine awp_if true rfl (fun _ => ?_) (fun e => by cases e)
                    refine awp_skip ?_
                    refine awp_seq ?_
                    refine awp_block ?_
                    refine awp_seq ?_
                    refine awp_ops ?_
                    refine vopsL_take 3 rfl ?_
                    refine vopsL_idx hx_i rfl rfl rfl (by decide) rfl rfl rfl rfl (by decide) ?_
                    refine vopsL_take 4 rfl ?_
                    rw [wrap64 (x := a + 1) (by omega)]
                    refine vopsL_fn rfl rfl rfl (ih (.mk eop en enm eks) (List.mem_of_getElem? he_i) L (a + 1) G (by omega) (by omega)) ?_
                    cases hb134 : exprOk L (a + 1) (.mk eop en enm eks) with
                    | false =>
                      refine vopsL_take 1 rfl ?_
                      refine awp_if true rfl (fun _ => ?_) (fun e => by cases e)
                      refine awp_seq ?_
                      refine awp_run rfl ?_
                      refine awp_ret ?_
                      refine q_block (q_ret (q_for (q_ret ?_)))
                      exact leave_ret_same [] rfl hG (List.append_nil G).symm rfl ⟨congrArg (fun b => AEnd.ret (.p (.bool b))) (by rw [exprOk, hI0, hdr_i]; simp [exprsOk, hb134]), rfl⟩
                    | true =>
                      refine vopsL_take 1 rfl ?_
                      refine awp_if false rfl (fun e => by cases e) fun _ => ?_
                      refine awp_skip ?_
                      refine awp_run rfl ?_
                      rw [wrap64 (x := (i : Int) + 1) (by omega)]
                      refine ⟨{ ts := [(1, .p (j64 L)), (2, .p (j64 a)), (3, .ptr (.l 3) 0), (11, .p (j64 (i + 1 : Nat)))], L := [(3, [.p (j64 13), .p (j64 n), .p (.str nm), .p (.vec (E.rows ks))])], G := G }, weakL _ ⟨rfl, rfl, rfl, rfl, trivial⟩ rfl rfl, ks.length - (i + 1), by omega, i + 1, rfl, by omega, rfl, ?_⟩
                      rw [hI0, hdr_i]; simp [exprsOk, hb134]
                · rintro s s' ⟨rfl, hX0⟩ hw
                  refine awp_weak hw ?_
                  refine awp_seq ?_
                  refine awp_run rfl ?_
                  refine awp_ret ?_
                  exact leave_ret_same [] rfl hG (List.append_nil G).symm rfl ⟨congrArg (fun b => AEnd.ret (.p (.bool b))) (by rw [exprOk, hX0]; simp_all [shapeOk, noName, placeOk, okBin, okUn, codeOk] <;> omega), rfl⟩
              | true =>
                refine vopsL_take 1 rfl ?_
                refine awp_if true rfl (fun _ => ?_) (fun e => by cases e)
                refine awp_seq ?_
                refine awp_run rfl ?_
                refine awp_ret ?_
                refine q_ret ?_
                exact leave_ret_same [] rfl hG (List.append_nil G).symm rfl ⟨congrArg (fun b => AEnd.ret (.p (.bool b))) (by have hnn := @name_none nm; simp_all [exprOk, shapeOk, noName, placeOk, okBin, okUn, codeOk] <;> omega), rfl⟩
            | true =>
              have h113 := of_decide_eq_true hb113
              rw [hlen] at h113
              have hk0 : ks ≠ [] := by rintro rfl; simp at h113
              refine vopsL_take 5 rfl ?_
              refine awp_if true rfl (fun _ => ?_) (fun e => by cases e)
              refine awp_seq ?_
              refine awp_run rfl ?_
              refine awp_ret ?_
              refine q_ret ?_
              exact leave_ret_same [] rfl hG (List.append_nil G).symm rfl ⟨congrArg (fun b => AEnd.ret (.p (.bool b))) (by have hnn := @name_none nm; simp_all [exprOk, shapeOk, noName, placeOk, okBin, okUn, codeOk] <;> omega), rfl⟩
          | true =>
            have h106 := of_decide_eq_true hb106
            rw [hlen] at h106
            refine vopsL_take 12 rfl ?_
            refine awp_if true rfl (fun _ => ?_) (fun e => by cases e)
            refine awp_seq ?_
            refine awp_run rfl ?_
            refine awp_ret ?_
            refine q_ret ?_
            exact leave_ret_same [] rfl hG (List.append_nil G).symm rfl ⟨congrArg (fun b => AEnd.ret (.p (.bool b))) (by have hnn := @name_none nm; simp_all [exprOk, shapeOk, noName, placeOk, okBin, okUn, codeOk] <;> omega), rfl⟩
        | true =>
          refine vopsL_take 29 rfl ?_
          refine awp_if true rfl (fun _ => ?_) (fun e => by cases e)
          refine awp_seq ?_
          refine awp_run rfl ?_
          refine awp_ret ?_
          refine q_ret ?_
          exact leave_ret_same [] rfl hG (List.append_nil G).symm rfl ⟨congrArg (fun b => AEnd.ret (.p (.bool b))) (by have hnn := @name_none nm; simp_all [exprOk, shapeOk, noName, placeOk, okBin, okUn, codeOk] <;> omega), rfl⟩
theorem c_rexpr0 (op : Int) (h : ¬ (1 ≤ op ∧ op ≤ 13)) (L a n : Int) (nm : ByteArray) (ks : List E) (G : List Blk) (h1 : 0 ≤ a) (h2 : a ≤ 101) (ih : ∀ e ∈ ks, ExprRC e) : FnIs Try.prog 136 [.agg (E.args (.mk op n nm ks)), .p (j64 L), .p (j64 a)] G (.p (.bool (exprOk L a (.mk op n nm ks)))) := by
  refine acalls_fn (cfg 136) Try.func136 rfl rfl rfl (by simp) fun hG => ?_
  refine awp_seq ?_
  refine awp_run rfl ?_
  refine awp_seq ?_
  refine awp_run rfl ?_
  refine awp_seq ?_
  refine awp_sl mixed (by kernel_rfl) ?_
  refine vsl_take 2 rfl ?_
  refine vsl_cmp rfl rfl rfl fun b hb14 => ?_
  cases b with
  | false =>
    refine vsl_take 2 rfl ?_
    refine vsl_done ?_
    refine awp_seq ?_
    refine awp_seq ?_
    refine awp_run rfl ?_
    refine awp_block ?_
    refine awp_seq ?_
    refine awp_ops ?_
    refine vopsL_cmp rfl rfl rfl (by decide) rfl fun b hb18 => ?_
    obtain rfl : b = false := by rw [← hb18]; simp; omega
    refine vopsL_take 1 rfl ?_
    refine awp_if false rfl (fun e => by cases e) fun _ => ?_
    refine awp_seq ?_
    refine awp_ops ?_
    refine vopsL_cmp rfl rfl rfl (by decide) rfl fun b hb20 => ?_
    obtain rfl : b = false := by rw [← hb20]; simp; omega
    refine vopsL_take 1 rfl ?_
    refine awp_if false rfl (fun e => by cases e) fun _ => ?_
    refine awp_seq ?_
    refine awp_ops ?_
    refine vopsL_cmp rfl rfl rfl (by decide) rfl fun b hb31 => ?_
    obtain rfl : b = false := by rw [← hb31]; simp; omega
    refine vopsL_take 1 rfl ?_
    refine awp_if false rfl (fun e => by cases e) fun _ => ?_
    refine awp_seq ?_
    refine awp_ops ?_
    refine vopsL_cmp rfl rfl rfl (by decide) rfl fun b hb41 => ?_
    obtain rfl : b = false := by rw [← hb41]; simp; omega
    refine vopsL_take 1 rfl ?_
    refine awp_if false rfl (fun e => by cases e) fun _ => ?_
    refine awp_seq ?_
    refine awp_ops ?_
    refine vopsL_cmp rfl rfl rfl (by decide) rfl fun b hb51 => ?_
    obtain rfl : b = false := by rw [← hb51]; simp; omega
    refine vopsL_take 1 rfl ?_
    refine awp_if false rfl (fun e => by cases e) fun _ => ?_
    refine awp_seq ?_
    refine awp_ops ?_
    refine vopsL_cmp rfl rfl rfl (by decide) rfl fun b hb61 => ?_
    obtain rfl : b = false := by rw [← hb61]; simp; omega
    refine vopsL_take 1 rfl ?_
    refine awp_if false rfl (fun e => by cases e) fun _ => ?_
    refine awp_seq ?_
    refine awp_ops ?_
    refine vopsL_cmp rfl rfl rfl (by decide) rfl fun b hb63 => ?_
    obtain rfl : b = false := by rw [← hb63]; simp; omega
    refine vopsL_take 1 rfl ?_
    refine awp_if false rfl (fun e => by cases e) fun _ => ?_
    refine awp_seq ?_
    refine awp_seq ?_
    refine awp_ops ?_
    refine vopsL_cmp rfl rfl rfl (by decide) rfl fun b hb65 => ?_
    obtain rfl : b = false := by rw [← hb65]; simp; omega
    refine vopsL_take 1 rfl ?_
    refine awp_if false rfl (fun e => by cases e) fun _ => ?_
    refine awp_ops ?_
    refine vopsL_cmp rfl rfl rfl (by decide) rfl fun b hb66 => ?_
    obtain rfl : b = false := by rw [← hb66]; simp; omega
    refine vopsL_take 1 rfl ?_
    refine awp_if false rfl (fun e => by cases e) fun _ => ?_
    refine awp_seq ?_
    refine awp_ops ?_
    refine vopsL_cmp rfl rfl rfl (by decide) rfl fun b hb68 => ?_
    obtain rfl : b = false := by rw [← hb68]; simp; omega
    refine vopsL_take 1 rfl ?_
    refine awp_if false rfl (fun e => by cases e) fun _ => ?_
    refine awp_seq ?_
    refine awp_ops ?_
    refine vopsL_cmp rfl rfl rfl (by decide) rfl fun b hb70 => ?_
    obtain rfl : b = false := by rw [← hb70]; simp; omega
    refine vopsL_take 1 rfl ?_
    refine awp_if false rfl (fun e => by cases e) fun _ => ?_
    refine awp_seq ?_
    refine awp_ops ?_
    refine vopsL_cmp rfl rfl rfl (by decide) rfl fun b hb72 => ?_
    obtain rfl : b = false := by rw [← hb72]; simp; omega
    refine vopsL_take 1 rfl ?_
    refine awp_if false rfl (fun e => by cases e) fun _ => ?_
    refine awp_seq ?_
    refine awp_ops ?_
    refine vopsL_cmp rfl rfl rfl (by decide) rfl fun b hb74 => ?_
    obtain rfl : b = false := by rw [← hb74]; simp; omega
    refine vopsL_take 1 rfl ?_
    refine awp_if false rfl (fun e => by cases e) fun _ => ?_
    refine awp_seq ?_
    refine awp_run rfl ?_
    refine awp_ret ?_
    refine q_block (q_ret ?_)
    exact leave_ret_same [] rfl hG (List.append_nil G).symm rfl ⟨congrArg (fun b => AEnd.ret (.p (.bool b))) (by rw [exprOk]; simp only [shapeOk]; rw [if_neg (by omega), if_neg (by omega), if_neg (by omega), if_neg (by omega), if_neg (by omega), if_neg (by omega), if_neg (by omega), if_neg (by omega), if_neg (by omega), if_neg (by omega), if_neg (by omega), if_neg (by omega), if_neg (by omega)]; simp), rfl⟩
  | true =>
    refine vsl_take 2 rfl ?_
    refine vsl_done ?_
    refine awp_seq ?_
    refine awp_seq ?_
    refine awp_run rfl ?_
    refine awp_block ?_
    refine awp_seq ?_
    refine awp_ops ?_
    refine vopsL_cmp rfl rfl rfl (by decide) rfl fun b hb18 => ?_
    obtain rfl : b = false := by rw [← hb18]; simp; omega
    refine vopsL_take 1 rfl ?_
    refine awp_if false rfl (fun e => by cases e) fun _ => ?_
    refine awp_seq ?_
    refine awp_ops ?_
    refine vopsL_cmp rfl rfl rfl (by decide) rfl fun b hb20 => ?_
    obtain rfl : b = false := by rw [← hb20]; simp; omega
    refine vopsL_take 1 rfl ?_
    refine awp_if false rfl (fun e => by cases e) fun _ => ?_
    refine awp_seq ?_
    refine awp_ops ?_
    refine vopsL_cmp rfl rfl rfl (by decide) rfl fun b hb31 => ?_
    obtain rfl : b = false := by rw [← hb31]; simp; omega
    refine vopsL_take 1 rfl ?_
    refine awp_if false rfl (fun e => by cases e) fun _ => ?_
    refine awp_seq ?_
    refine awp_ops ?_
    refine vopsL_cmp rfl rfl rfl (by decide) rfl fun b hb41 => ?_
    obtain rfl : b = false := by rw [← hb41]; simp; omega
    refine vopsL_take 1 rfl ?_
    refine awp_if false rfl (fun e => by cases e) fun _ => ?_
    refine awp_seq ?_
    refine awp_ops ?_
    refine vopsL_cmp rfl rfl rfl (by decide) rfl fun b hb51 => ?_
    obtain rfl : b = false := by rw [← hb51]; simp; omega
    refine vopsL_take 1 rfl ?_
    refine awp_if false rfl (fun e => by cases e) fun _ => ?_
    refine awp_seq ?_
    refine awp_ops ?_
    refine vopsL_cmp rfl rfl rfl (by decide) rfl fun b hb61 => ?_
    obtain rfl : b = false := by rw [← hb61]; simp; omega
    refine vopsL_take 1 rfl ?_
    refine awp_if false rfl (fun e => by cases e) fun _ => ?_
    refine awp_seq ?_
    refine awp_ops ?_
    refine vopsL_cmp rfl rfl rfl (by decide) rfl fun b hb63 => ?_
    obtain rfl : b = false := by rw [← hb63]; simp; omega
    refine vopsL_take 1 rfl ?_
    refine awp_if false rfl (fun e => by cases e) fun _ => ?_
    refine awp_seq ?_
    refine awp_seq ?_
    refine awp_ops ?_
    refine vopsL_cmp rfl rfl rfl (by decide) rfl fun b hb65 => ?_
    obtain rfl : b = false := by rw [← hb65]; simp; omega
    refine vopsL_take 1 rfl ?_
    refine awp_if false rfl (fun e => by cases e) fun _ => ?_
    refine awp_ops ?_
    refine vopsL_cmp rfl rfl rfl (by decide) rfl fun b hb66 => ?_
    obtain rfl : b = false := by rw [← hb66]; simp; omega
    refine vopsL_take 1 rfl ?_
    refine awp_if false rfl (fun e => by cases e) fun _ => ?_
    refine awp_seq ?_
    refine awp_ops ?_
    refine vopsL_cmp rfl rfl rfl (by decide) rfl fun b hb68 => ?_
    obtain rfl : b = false := by rw [← hb68]; simp; omega
    refine vopsL_take 1 rfl ?_
    refine awp_if false rfl (fun e => by cases e) fun _ => ?_
    refine awp_seq ?_
    refine awp_ops ?_
    refine vopsL_cmp rfl rfl rfl (by decide) rfl fun b hb70 => ?_
    obtain rfl : b = false := by rw [← hb70]; simp; omega
    refine vopsL_take 1 rfl ?_
    refine awp_if false rfl (fun e => by cases e) fun _ => ?_
    refine awp_seq ?_
    refine awp_ops ?_
    refine vopsL_cmp rfl rfl rfl (by decide) rfl fun b hb72 => ?_
    obtain rfl : b = false := by rw [← hb72]; simp; omega
    refine vopsL_take 1 rfl ?_
    refine awp_if false rfl (fun e => by cases e) fun _ => ?_
    refine awp_seq ?_
    refine awp_ops ?_
    refine vopsL_cmp rfl rfl rfl (by decide) rfl fun b hb74 => ?_
    obtain rfl : b = false := by rw [← hb74]; simp; omega
    refine vopsL_take 1 rfl ?_
    refine awp_if false rfl (fun e => by cases e) fun _ => ?_
    refine awp_seq ?_
    refine awp_run rfl ?_
    refine awp_ret ?_
    refine q_block (q_ret ?_)
    exact leave_ret_same [] rfl hG (List.append_nil G).symm rfl ⟨congrArg (fun b => AEnd.ret (.p (.bool b))) (by rw [exprOk]; simp only [shapeOk]; rw [if_neg (by omega), if_neg (by omega), if_neg (by omega), if_neg (by omega), if_neg (by omega), if_neg (by omega), if_neg (by omega), if_neg (by omega), if_neg (by omega), if_neg (by omega), if_neg (by omega), if_neg (by omega), if_neg (by omega)]; simp), rfl⟩

theorem c_rexpr (op n : Int) (nm : ByteArray) (ks : List E) (ih : ∀ e ∈ ks, ExprRC e) : ExprRC (.mk op n nm ks) := by
  intro L a G h1 h2
  by_cases h : 1 ≤ op ∧ op ≤ 13
  · have : op = 1 ∨ op = 2 ∨ op = 3 ∨ op = 4 ∨ op = 5 ∨ op = 6 ∨ op = 7 ∨ op = 8 ∨ op = 9 ∨ op = 10 ∨ op = 11 ∨ op = 12 ∨ op = 13 := by omega
    rcases this with rfl | rfl | rfl | rfl | rfl | rfl | rfl | rfl | rfl | rfl | rfl | rfl | rfl
    · exact c_rexpr1 L a n nm ks G h1 h2 ih
    · exact c_rexpr2 L a n nm ks G h1 h2 ih
    · exact c_rexpr3 L a n nm ks G h1 h2 ih
    · exact c_rexpr4 L a n nm ks G h1 h2 ih
    · exact c_rexpr5 L a n nm ks G h1 h2 ih
    · exact c_rexpr6 L a n nm ks G h1 h2 ih
    · exact c_rexpr7 L a n nm ks G h1 h2 ih
    · exact c_rexpr8 L a n nm ks G h1 h2 ih
    · exact c_rexpr9 L a n nm ks G h1 h2 ih
    · exact c_rexpr10 L a n nm ks G h1 h2 ih
    · exact c_rexpr11 L a n nm ks G h1 h2 ih
    · exact c_rexpr12 L a n nm ks G h1 h2 ih
    · exact c_rexpr13 L a n nm ks G h1 h2 ih
  · exact c_rexpr0 op h L a n nm ks G h1 h2 ih

mutual
theorem exprRC : ∀ e : E, ExprRC e
  | .mk op n nm ks => c_rexpr op n nm ks (exprRCs ks)
theorem exprRCs : ∀ (ks : List E) (e : E), e ∈ ks → ExprRC e
  | [], e, h => by cases h
  | k :: ks, e, h => by
    rcases List.mem_cons.1 h with h | h
    · rw [h]; exact exprRC k
    · exact exprRCs ks e h
end
end Go.Proofs.Ytnicgdfnfnchjaa

