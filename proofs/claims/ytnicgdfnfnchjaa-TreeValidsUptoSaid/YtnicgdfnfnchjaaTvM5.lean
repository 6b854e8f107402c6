/-
  Put together out of texts of this work: V13, V14, V15.
-/
import Derived.Test.YtnicgdfnfnchjaaTvM4
set_option linter.unusedSimpArgs false
set_option linter.unusedVariables false
/-
  Which statements are right: the reference's own 'stat', 'Stats'.
-/
set_option linter.unusedVariables false
set_option linter.unusedSimpArgs false
set_option maxRecDepth 100000
namespace Go.Proofs.Ytnicgdfnfnchjaa
open Go.Abs

def StatsRC (ss : List S) : Prop := ∀ (L a lp : Int) (G : List Blk), 0 ≤ lp → lp ≤ a → a ≤ 101 → FnIs Try.prog 79 [.p (.vec (S.rows ss)), .p (j64 L), .p (j64 a), .p (j64 lp)] G (.p (.bool (statsOk L lp a ss)))
theorem c_rstat1 (L lp a n : Int) (ex : List E) (bo ot : List S) (G : List Blk) (h1 : 0 ≤ lp) (h2 : lp ≤ a) (h3 : a ≤ 101) (ihb : StatsRC bo) (iho : StatsRC ot) : FnIs Try.prog 115 [.agg (S.args (.mk 1 n ex bo ot)), .p (j64 L), .p (j64 a), .p (j64 lp)] G (.p (.bool (statOk L lp a (.mk 1 n ex bo ot)))) := by
  have hlE := E.rows_len ex
  have hlB := S.rows_len bo
  have hlO := S.rows_len ot
  refine acalls_fn (cfg 149) Try.func115 rfl rfl rfl (by simp) fun hG => ?_
  refine awp_seq ?_
  refine awp_run rfl ?_
  refine awp_seq ?_
  refine awp_run rfl ?_
  refine awp_seq ?_
  refine awp_ops ?_
  refine vopsL_take 2 rfl ?_
  refine vopsL_cmp rfl rfl rfl (by decide) rfl fun b hb18 => ?_
  cases b with
  | false =>
    refine vopsL_take 1 rfl ?_
    refine awp_seq ?_
    refine awp_run rfl ?_
    refine awp_seq ?_
    refine awp_seq ?_
    refine awp_run rfl ?_
    refine awp_block ?_
    refine awp_seq ?_
    refine awp_run rfl ?_
    refine awp_if true rfl (fun _ => ?_) (fun e => by cases e)
    refine awp_ops ?_
    refine vopsL_take 2 rfl ?_
    refine vopsL_cmp rfl rfl rfl (by decide) rfl fun b hb26 => ?_
    cases b with
    | false =>
      refine vopsL_take 7 rfl ?_
      refine awp_seq ?_
      refine awp_seq ?_
      refine awp_ops ?_
      refine vopsL_take 40 rfl ?_
      refine awp_if true rfl (fun _ => ?_) (fun e => by cases e)
      refine awp_seq ?_
      refine awp_run rfl ?_
      refine awp_ret ?_
      refine q_ret ?_
      exact leave_ret_same [] rfl hG (List.append_nil G).symm rfl ⟨congrArg (fun b => AEnd.ret (.p (.bool b))) (by simp_all [statOk, formOk, hasOk, placeOk, codeOk] <;> omega), rfl⟩
    | true =>
      refine vopsL_take 4 rfl ?_
      refine vopsL_cmpG rfl rfl rfl rfl (by decide) rfl fun b hb31 => ?_
      cases b with
      | false =>
        refine vopsL_take 2 rfl ?_
        refine awp_seq ?_
        refine awp_seq ?_
        refine awp_ops ?_
        refine vopsL_take 40 rfl ?_
        refine awp_if true rfl (fun _ => ?_) (fun e => by cases e)
        refine awp_seq ?_
        refine awp_run rfl ?_
        refine awp_ret ?_
        refine q_ret ?_
        exact leave_ret_same [] rfl hG (List.append_nil G).symm rfl ⟨congrArg (fun b => AEnd.ret (.p (.bool b))) (by simp_all [statOk, formOk, hasOk, placeOk, codeOk] <;> omega), rfl⟩
      | true =>
        refine vopsL_take 2 rfl ?_
        refine awp_seq ?_
        refine awp_seq ?_
        refine awp_ops ?_
        refine vopsL_take 7 rfl ?_
        refine vopsL_cmpG rfl rfl rfl rfl (by decide) rfl fun b hb83 => ?_
        cases b with
        | false =>
          have h83 := of_decide_eq_false hb83
          rw [hlE] at h83
          refine vopsL_take 6 rfl ?_
          refine vopsL_cmpG rfl rfl rfl rfl (by decide) rfl fun b hb90 => ?_
          cases b with
          | false =>
            have h90 := of_decide_eq_false hb90
            rw [hlE] at h90
            refine vopsL_take 8 rfl ?_
            refine vopsL_cmpG rfl rfl rfl rfl (by decide) rfl fun b hb99 => ?_
            cases b with
            | false =>
              have h99 := of_decide_eq_false hb99
              rw [hlB] at h99
              have hk1 : bo = [] := List.eq_nil_of_length_eq_zero (by omega)
              refine vopsL_take 9 rfl ?_
              refine vopsL_cmpG rfl rfl rfl rfl (by decide) rfl fun b hb109 => ?_
              cases b with
              | false =>
                have h109 := of_decide_eq_false hb109
                rw [hlO] at h109
                have hk2 : ot = [] := List.eq_nil_of_length_eq_zero (by omega)
                refine vopsL_take 4 rfl ?_
                refine vopsL_cmpG rfl rfl rfl rfl (by decide) rfl fun b hb114 => ?_
                cases b with
                | false =>
                  have ha : a ≤ 100 := by simpa using hb114
                  have hkl : ex.length ≤ 2 := by omega
                  refine vopsL_take 1 rfl ?_
                  refine awp_if false rfl (fun e => by cases e) fun _ => ?_
                  refine awp_skip ?_
                  refine awp_seq ?_
                  refine awp_seq ?_
                  refine awp_run rfl ?_
                  refine awp_weak (s' := { ts := [(1, .p (j64 L)), (2, .p (j64 a)), (4, .ptr (.l 4) 0), (14, .p (j64 lp)), (15, .p (j64 0))], L := [(4, [.p (j64 1), .p (j64 n), .p (.vec (E.rows ex)), .p (.vec (S.rows bo)), .p (.vec (S.rows ot))])], G := G }) (weakL _ ⟨rfl, rfl, rfl, rfl, rfl, trivial⟩ rfl rfl) ?_
                  refine awp_forA (fun mm s => ∃ (i : Nat) , s = { ts := [(1, .p (j64 L)), (2, .p (j64 a)), (4, .ptr (.l 4) 0), (14, .p (j64 lp)), (15, .p (j64 i))], L := [(4, [.p (j64 1), .p (j64 n), .p (.vec (E.rows ex)), .p (.vec (S.rows bo)), .p (.vec (S.rows ot))])], G := G } ∧ i ≤ ex.length ∧ mm = ex.length - i ∧ exprsOk L (a + 1) ex = exprsOk L (a + 1) (ex.drop i))
                    (fun s => s = { ts := [(1, .p (j64 L)), (2, .p (j64 a)), (4, .ptr (.l 4) 0), (14, .p (j64 lp))], L := [(4, [.p (j64 1), .p (j64 n), .p (.vec (E.rows ex)), .p (.vec (S.rows bo)), .p (.vec (S.rows ot))])], G := G } ∧ exprsOk L (a + 1) ex = true) ex.length ⟨0, rfl, by omega, by omega, by simp⟩ ?_ ?_
                  · rintro mm s ⟨i, rfl, hi_i, rfl, hI0⟩
                    refine awp_seq ?_
                    refine awp_seq ?_
                    refine awp_ops ?_
                    refine vopsL_take 4 rfl ?_
                    refine vopsL_cmp rfl rfl rfl (by decide) rfl fun b hb120 => ?_
                    cases b with
                    | false =>
                      have hge_i := ge_eq (E.rows_len ex) hi_i hb120
                      refine awp_if false rfl (fun e => by cases e) fun _ => ?_
                      refine awp_exit ?_
                      refine ⟨{ ts := [(1, .p (j64 L)), (2, .p (j64 a)), (4, .ptr (.l 4) 0), (14, .p (j64 lp))], L := [(4, [.p (j64 1), .p (j64 n), .p (.vec (E.rows ex)), .p (.vec (S.rows bo)), .p (.vec (S.rows ot))])], G := G }, weakL _ ⟨rfl, rfl, rfl, rfl, trivial⟩ rfl rfl, rfl, ?_⟩
                      subst hge_i
                      simpa [exprsOk] using hI0
                    | true =>
                      obtain ⟨e, he_i, hlt_i⟩ := lt_get (E.rows_len ex) hb120
                      have hx_i := E.rows_get he_i
                      have hdr_i := drop_get he_i
                      obtain ⟨eop, en, enm, eks⟩ := e
                      refine awp_if true rfl (fun _ => ?_) (fun e => by cases e)
                      refine awp_skip ?_
                      refine awp_seq ?_
                      refine awp_block ?_
                      refine awp_seq ?_
                      refine awp_ops ?_
                      refine vopsL_take 3 rfl ?_
                      refine vopsL_idx hx_i rfl rfl rfl (by decide) rfl rfl rfl rfl (by decide) ?_
                      refine vopsL_take 4 rfl ?_
                      rw [wrap64 (x := a + 1) (by omega)]
                      refine vopsL_fn rfl rfl rfl (exprRC (.mk eop en enm eks) L (a + 1) G (by omega) (by omega)) ?_
                      cases hb131 : exprOk L (a + 1) (.mk eop en enm eks) with
                      | false =>
                        refine vopsL_take 1 rfl ?_
                        refine awp_if true rfl (fun _ => ?_) (fun e => by cases e)
                        refine awp_seq ?_
                        refine awp_run rfl ?_
                        refine awp_ret ?_
                        refine q_block (q_ret (q_for (q_ret ?_)))
                        exact leave_ret_same [] rfl hG (List.append_nil G).symm rfl ⟨congrArg (fun b => AEnd.ret (.p (.bool b))) (by rw [statOk, hI0, hdr_i]; simp [exprsOk, hb131]), rfl⟩
                      | true =>
                        refine vopsL_take 1 rfl ?_
                        refine awp_if false rfl (fun e => by cases e) fun _ => ?_
                        refine awp_skip ?_
                        refine awp_run rfl ?_
                        rw [wrap64 (x := (i : Int) + 1) (by omega)]
                        refine ⟨{ ts := [(1, .p (j64 L)), (2, .p (j64 a)), (4, .ptr (.l 4) 0), (14, .p (j64 lp)), (15, .p (j64 (i + 1 : Nat)))], L := [(4, [.p (j64 1), .p (j64 n), .p (.vec (E.rows ex)), .p (.vec (S.rows bo)), .p (.vec (S.rows ot))])], G := G }, weakL _ ⟨rfl, rfl, rfl, rfl, rfl, trivial⟩ rfl rfl, ex.length - (i + 1), by omega, i + 1, rfl, by omega, rfl, ?_⟩
                        rw [hI0, hdr_i]; simp [exprsOk, hb131]
                  · rintro s ⟨rfl, hX0⟩
                    refine awp_seq ?_
                    refine awp_ops ?_
                    refine vopsL_take 6 rfl ?_
                    rw [wrap64 (x := a + 1) (by omega)]
                    refine vopsL_fn rfl rfl rfl (ihb L (a + 1) (lp) G (by omega) (by omega) (by omega)) ?_
                    cases hb139 : statsOk L (lp) (a + 1) bo with
                    | false =>
                      refine vopsL_take 10 rfl ?_
                      refine awp_ret ?_
                      exact leave_ret_same [] rfl hG (List.append_nil G).symm rfl ⟨congrArg (fun b => AEnd.ret (.p (.bool b))) (by rw [statOk, hX0]; simp_all [formOk, hasOk, placeOk, codeOk] <;> omega), rfl⟩
                    | true =>
                      refine vopsL_take 7 rfl ?_
                      rw [wrap64 (x := a + 1) (by omega)]
                      refine vopsL_fnG rfl rfl rfl rfl (iho L (a + 1) (lp) G (by omega) (by omega) (by omega)) ?_
                      cases hb147 : statsOk L (lp) (a + 1) ot with
                      | false =>
                        refine vopsL_take 2 rfl ?_
                        refine awp_ret ?_
                        exact leave_ret_same [] rfl hG (List.append_nil G).symm rfl ⟨congrArg (fun b => AEnd.ret (.p (.bool b))) (by rw [statOk, hX0]; simp_all [formOk, hasOk, placeOk, codeOk] <;> omega), rfl⟩
                      | true =>
                        refine vopsL_take 2 rfl ?_
                        refine awp_ret ?_
                        exact leave_ret_same [] rfl hG (List.append_nil G).symm rfl ⟨congrArg (fun b => AEnd.ret (.p (.bool b))) (by rw [statOk, hX0]; simp_all [formOk, hasOk, placeOk, codeOk] <;> omega), rfl⟩
                | true =>
                  refine vopsL_take 1 rfl ?_
                  refine awp_if true rfl (fun _ => ?_) (fun e => by cases e)
                  refine awp_seq ?_
                  refine awp_run rfl ?_
                  refine awp_ret ?_
                  refine q_ret ?_
                  exact leave_ret_same [] rfl hG (List.append_nil G).symm rfl ⟨congrArg (fun b => AEnd.ret (.p (.bool b))) (by simp_all [statOk, formOk, hasOk, placeOk, codeOk] <;> omega), rfl⟩
              | true =>
                have h109 := of_decide_eq_true hb109
                rw [hlO] at h109
                have hk2 : ot ≠ [] := by rintro rfl; simp at h109
                refine vopsL_take 6 rfl ?_
                refine awp_if true rfl (fun _ => ?_) (fun e => by cases e)
                refine awp_seq ?_
                refine awp_run rfl ?_
                refine awp_ret ?_
                refine q_ret ?_
                exact leave_ret_same [] rfl hG (List.append_nil G).symm rfl ⟨congrArg (fun b => AEnd.ret (.p (.bool b))) (by simp_all [statOk, formOk, hasOk, placeOk, codeOk] <;> omega), rfl⟩
            | true =>
              have h99 := of_decide_eq_true hb99
              rw [hlB] at h99
              have hk1 : bo ≠ [] := by rintro rfl; simp at h99
              refine vopsL_take 16 rfl ?_
              refine awp_if true rfl (fun _ => ?_) (fun e => by cases e)
              refine awp_seq ?_
              refine awp_run rfl ?_
              refine awp_ret ?_
              refine q_ret ?_
              exact leave_ret_same [] rfl hG (List.append_nil G).symm rfl ⟨congrArg (fun b => AEnd.ret (.p (.bool b))) (by simp_all [statOk, formOk, hasOk, placeOk, codeOk] <;> omega), rfl⟩
          | true =>
            have h90 := of_decide_eq_true hb90
            rw [hlE] at h90
            have hk0 : ex ≠ [] := by rintro rfl; simp at h90
            refine vopsL_take 25 rfl ?_
            refine awp_if true rfl (fun _ => ?_) (fun e => by cases e)
            refine awp_seq ?_
            refine awp_run rfl ?_
            refine awp_ret ?_
            refine q_ret ?_
            exact leave_ret_same [] rfl hG (List.append_nil G).symm rfl ⟨congrArg (fun b => AEnd.ret (.p (.bool b))) (by simp_all [statOk, formOk, hasOk, placeOk, codeOk] <;> omega), rfl⟩
        | true =>
          have h83 := of_decide_eq_true hb83
          rw [hlE] at h83
          refine vopsL_take 32 rfl ?_
          refine awp_if true rfl (fun _ => ?_) (fun e => by cases e)
          refine awp_seq ?_
          refine awp_run rfl ?_
          refine awp_ret ?_
          refine q_ret ?_
          exact leave_ret_same [] rfl hG (List.append_nil G).symm rfl ⟨congrArg (fun b => AEnd.ret (.p (.bool b))) (by simp_all [statOk, formOk, hasOk, placeOk, codeOk] <;> omega), rfl⟩
  | true =>
    refine vopsL_take 1 rfl ?_
    refine awp_seq ?_
    refine awp_run rfl ?_
    refine awp_seq ?_
    refine awp_seq ?_
    refine awp_run rfl ?_
    refine awp_block ?_
    refine awp_seq ?_
    refine awp_run rfl ?_
    refine awp_if true rfl (fun _ => ?_) (fun e => by cases e)
    refine awp_ops ?_
    refine vopsL_take 2 rfl ?_
    refine vopsL_cmp rfl rfl rfl (by decide) rfl fun b hb26 => ?_
    cases b with
    | false =>
      refine vopsL_take 7 rfl ?_
      refine awp_seq ?_
      refine awp_seq ?_
      refine awp_ops ?_
      refine vopsL_take 40 rfl ?_
      refine awp_if true rfl (fun _ => ?_) (fun e => by cases e)
      refine awp_seq ?_
      refine awp_run rfl ?_
      refine awp_ret ?_
      refine q_ret ?_
      exact leave_ret_same [] rfl hG (List.append_nil G).symm rfl ⟨congrArg (fun b => AEnd.ret (.p (.bool b))) (by simp_all [statOk, formOk, hasOk, placeOk, codeOk] <;> omega), rfl⟩
    | true =>
      refine vopsL_take 4 rfl ?_
      refine vopsL_cmpG rfl rfl rfl rfl (by decide) rfl fun b hb31 => ?_
      cases b with
      | false =>
        refine vopsL_take 2 rfl ?_
        refine awp_seq ?_
        refine awp_seq ?_
        refine awp_ops ?_
        refine vopsL_take 40 rfl ?_
        refine awp_if true rfl (fun _ => ?_) (fun e => by cases e)
        refine awp_seq ?_
        refine awp_run rfl ?_
        refine awp_ret ?_
        refine q_ret ?_
        exact leave_ret_same [] rfl hG (List.append_nil G).symm rfl ⟨congrArg (fun b => AEnd.ret (.p (.bool b))) (by simp_all [statOk, formOk, hasOk, placeOk, codeOk] <;> omega), rfl⟩
      | true =>
        refine vopsL_take 2 rfl ?_
        refine awp_seq ?_
        refine awp_seq ?_
        refine awp_ops ?_
        refine vopsL_take 7 rfl ?_
        refine vopsL_cmpG rfl rfl rfl rfl (by decide) rfl fun b hb83 => ?_
        cases b with
        | false =>
          have h83 := of_decide_eq_false hb83
          rw [hlE] at h83
          refine vopsL_take 6 rfl ?_
          refine vopsL_cmpG rfl rfl rfl rfl (by decide) rfl fun b hb90 => ?_
          cases b with
          | false =>
            have h90 := of_decide_eq_false hb90
            rw [hlE] at h90
            refine vopsL_take 8 rfl ?_
            refine vopsL_cmpG rfl rfl rfl rfl (by decide) rfl fun b hb99 => ?_
            cases b with
            | false =>
              have h99 := of_decide_eq_false hb99
              rw [hlB] at h99
              have hk1 : bo = [] := List.eq_nil_of_length_eq_zero (by omega)
              refine vopsL_take 9 rfl ?_
              refine vopsL_cmpG rfl rfl rfl rfl (by decide) rfl fun b hb109 => ?_
              cases b with
              | false =>
                have h109 := of_decide_eq_false hb109
                rw [hlO] at h109
                have hk2 : ot = [] := List.eq_nil_of_length_eq_zero (by omega)
                refine vopsL_take 4 rfl ?_
                refine vopsL_cmpG rfl rfl rfl rfl (by decide) rfl fun b hb114 => ?_
                cases b with
                | false =>
                  have ha : a ≤ 100 := by simpa using hb114
                  have hkl : ex.length ≤ 2 := by omega
                  refine vopsL_take 1 rfl ?_
                  refine awp_if false rfl (fun e => by cases e) fun _ => ?_
                  refine awp_skip ?_
                  refine awp_seq ?_
                  refine awp_seq ?_
                  refine awp_run rfl ?_
                  refine awp_weak (s' := { ts := [(1, .p (j64 L)), (2, .p (j64 a)), (4, .ptr (.l 4) 0), (14, .p (j64 lp)), (15, .p (j64 0))], L := [(4, [.p (j64 1), .p (j64 n), .p (.vec (E.rows ex)), .p (.vec (S.rows bo)), .p (.vec (S.rows ot))])], G := G }) (weakL _ ⟨rfl, rfl, rfl, rfl, rfl, trivial⟩ rfl rfl) ?_
                  refine awp_forA (fun mm s => ∃ (i : Nat) , s = { ts := [(1, .p (j64 L)), (2, .p (j64 a)), (4, .ptr (.l 4) 0), (14, .p (j64 lp)), (15, .p (j64 i))], L := [(4, [.p (j64 1), .p (j64 n), .p (.vec (E.rows ex)), .p (.vec (S.rows bo)), .p (.vec (S.rows ot))])], G := G } ∧ i ≤ ex.length ∧ mm = ex.length - i ∧ exprsOk L (a + 1) ex = exprsOk L (a + 1) (ex.drop i))
                    (fun s => s = { ts := [(1, .p (j64 L)), (2, .p (j64 a)), (4, .ptr (.l 4) 0), (14, .p (j64 lp))], L := [(4, [.p (j64 1), .p (j64 n), .p (.vec (E.rows ex)), .p (.vec (S.rows bo)), .p (.vec (S.rows ot))])], G := G } ∧ exprsOk L (a + 1) ex = true) ex.length ⟨0, rfl, by omega, by omega, by simp⟩ ?_ ?_
                  · rintro mm s ⟨i, rfl, hi_i, rfl, hI0⟩
                    refine awp_seq ?_
                    refine awp_seq ?_
                    refine awp_ops ?_
                    refine vopsL_take 4 rfl ?_
                    refine vopsL_cmp rfl rfl rfl (by decide) rfl fun b hb120 => ?_
                    cases b with
                    | false =>
                      have hge_i := ge_eq (E.rows_len ex) hi_i hb120
                      refine awp_if false rfl (fun e => by cases e) fun _ => ?_
                      refine awp_exit ?_
                      refine ⟨{ ts := [(1, .p (j64 L)), (2, .p (j64 a)), (4, .ptr (.l 4) 0), (14, .p (j64 lp))], L := [(4, [.p (j64 1), .p (j64 n), .p (.vec (E.rows ex)), .p (.vec (S.rows bo)), .p (.vec (S.rows ot))])], G := G }, weakL _ ⟨rfl, rfl, rfl, rfl, trivial⟩ rfl rfl, rfl, ?_⟩
                      subst hge_i
                      simpa [exprsOk] using hI0
                    | true =>
                      obtain ⟨e, he_i, hlt_i⟩ := lt_get (E.rows_len ex) hb120
                      have hx_i := E.rows_get he_i
                      have hdr_i := drop_get he_i
                      obtain ⟨eop, en, enm, eks⟩ := e
                      refine awp_if true rfl (fun _ => ?_) (fun e => by cases e)
                      refine awp_skip ?_
                      refine awp_seq ?_
                      refine awp_block ?_
                      refine awp_seq ?_
                      refine awp_ops ?_
                      refine vopsL_take 3 rfl ?_
                      refine vopsL_idx hx_i rfl rfl rfl (by decide) rfl rfl rfl rfl (by decide) ?_
                      refine vopsL_take 4 rfl ?_
                      rw [wrap64 (x := a + 1) (by omega)]
                      refine vopsL_fn rfl rfl rfl (exprRC (.mk eop en enm eks) L (a + 1) G (by omega) (by omega)) ?_
                      cases hb131 : exprOk L (a + 1) (.mk eop en enm eks) with
                      | false =>
                        refine vopsL_take 1 rfl ?_
                        refine awp_if true rfl (fun _ => ?_) (fun e => by cases e)
                        refine awp_seq ?_
                        refine awp_run rfl ?_
                        refine awp_ret ?_
                        refine q_block (q_ret (q_for (q_ret ?_)))
                        exact leave_ret_same [] rfl hG (List.append_nil G).symm rfl ⟨congrArg (fun b => AEnd.ret (.p (.bool b))) (by rw [statOk, hI0, hdr_i]; simp [exprsOk, hb131]), rfl⟩
                      | true =>
                        refine vopsL_take 1 rfl ?_
                        refine awp_if false rfl (fun e => by cases e) fun _ => ?_
                        refine awp_skip ?_
                        refine awp_run rfl ?_
                        rw [wrap64 (x := (i : Int) + 1) (by omega)]
                        refine ⟨{ ts := [(1, .p (j64 L)), (2, .p (j64 a)), (4, .ptr (.l 4) 0), (14, .p (j64 lp)), (15, .p (j64 (i + 1 : Nat)))], L := [(4, [.p (j64 1), .p (j64 n), .p (.vec (E.rows ex)), .p (.vec (S.rows bo)), .p (.vec (S.rows ot))])], G := G }, weakL _ ⟨rfl, rfl, rfl, rfl, rfl, trivial⟩ rfl rfl, ex.length - (i + 1), by omega, i + 1, rfl, by omega, rfl, ?_⟩
                        rw [hI0, hdr_i]; simp [exprsOk, hb131]
                  · rintro s ⟨rfl, hX0⟩
                    refine awp_seq ?_
                    refine awp_ops ?_
                    refine vopsL_take 6 rfl ?_
                    rw [wrap64 (x := a + 1) (by omega)]
                    refine vopsL_fn rfl rfl rfl (ihb L (a + 1) (lp) G (by omega) (by omega) (by omega)) ?_
                    cases hb139 : statsOk L (lp) (a + 1) bo with
                    | false =>
                      refine vopsL_take 10 rfl ?_
                      refine awp_ret ?_
                      exact leave_ret_same [] rfl hG (List.append_nil G).symm rfl ⟨congrArg (fun b => AEnd.ret (.p (.bool b))) (by rw [statOk, hX0]; simp_all [formOk, hasOk, placeOk, codeOk] <;> omega), rfl⟩
                    | true =>
                      refine vopsL_take 7 rfl ?_
                      rw [wrap64 (x := a + 1) (by omega)]
                      refine vopsL_fnG rfl rfl rfl rfl (iho L (a + 1) (lp) G (by omega) (by omega) (by omega)) ?_
                      cases hb147 : statsOk L (lp) (a + 1) ot with
                      | false =>
                        refine vopsL_take 2 rfl ?_
                        refine awp_ret ?_
                        exact leave_ret_same [] rfl hG (List.append_nil G).symm rfl ⟨congrArg (fun b => AEnd.ret (.p (.bool b))) (by rw [statOk, hX0]; simp_all [formOk, hasOk, placeOk, codeOk] <;> omega), rfl⟩
                      | true =>
                        refine vopsL_take 2 rfl ?_
                        refine awp_ret ?_
                        exact leave_ret_same [] rfl hG (List.append_nil G).symm rfl ⟨congrArg (fun b => AEnd.ret (.p (.bool b))) (by rw [statOk, hX0]; simp_all [formOk, hasOk, placeOk, codeOk] <;> omega), rfl⟩
                | true =>
                  refine vopsL_take 1 rfl ?_
                  refine awp_if true rfl (fun _ => ?_) (fun e => by cases e)
                  refine awp_seq ?_
                  refine awp_run rfl ?_
                  refine awp_ret ?_
                  refine q_ret ?_
                  exact leave_ret_same [] rfl hG (List.append_nil G).symm rfl ⟨congrArg (fun b => AEnd.ret (.p (.bool b))) (by simp_all [statOk, formOk, hasOk, placeOk, codeOk] <;> omega), rfl⟩
              | true =>
                have h109 := of_decide_eq_true hb109
                rw [hlO] at h109
                have hk2 : ot ≠ [] := by rintro rfl; simp at h109
                refine vopsL_take 6 rfl ?_
                refine awp_if true rfl (fun _ => ?_) (fun e => by cases e)
                refine awp_seq ?_
                refine awp_run rfl ?_
                refine awp_ret ?_
                refine q_ret ?_
                exact leave_ret_same [] rfl hG (List.append_nil G).symm rfl ⟨congrArg (fun b => AEnd.ret (.p (.bool b))) (by simp_all [statOk, formOk, hasOk, placeOk, codeOk] <;> omega), rfl⟩
            | true =>
              have h99 := of_decide_eq_true hb99
              rw [hlB] at h99
              have hk1 : bo ≠ [] := by rintro rfl; simp at h99
              refine vopsL_take 16 rfl ?_
              refine awp_if true rfl (fun _ => ?_) (fun e => by cases e)
              refine awp_seq ?_
              refine awp_run rfl ?_
              refine awp_ret ?_
              refine q_ret ?_
              exact leave_ret_same [] rfl hG (List.append_nil G).symm rfl ⟨congrArg (fun b => AEnd.ret (.p (.bool b))) (by simp_all [statOk, formOk, hasOk, placeOk, codeOk] <;> omega), rfl⟩
          | true =>
            have h90 := of_decide_eq_true hb90
            rw [hlE] at h90
            have hk0 : ex ≠ [] := by rintro rfl; simp at h90
            refine vopsL_take 25 rfl ?_
            refine awp_if true rfl (fun _ => ?_) (fun e => by cases e)
            refine awp_seq ?_
            refine awp_run rfl ?_
            refine awp_ret ?_
            refine q_ret ?_
            exact leave_ret_same [] rfl hG (List.append_nil G).symm rfl ⟨congrArg (fun b => AEnd.ret (.p (.bool b))) (by simp_all [statOk, formOk, hasOk, placeOk, codeOk] <;> omega), rfl⟩
        | true =>
          have h83 := of_decide_eq_true hb83
          rw [hlE] at h83
          refine vopsL_take 32 rfl ?_
          refine awp_if true rfl (fun _ => ?_) (fun e => by cases e)
          refine awp_seq ?_
          refine awp_run rfl ?_
          refine awp_ret ?_
          refine q_ret ?_
          exact leave_ret_same [] rfl hG (List.append_nil G).symm rfl ⟨congrArg (fun b => AEnd.ret (.p (.bool b))) (by simp_all [statOk, formOk, hasOk, placeOk, codeOk] <;> omega), rfl⟩
theorem c_rstat2 (L lp a n : Int) (ex : List E) (bo ot : List S) (G : List Blk) (h1 : 0 ≤ lp) (h2 : lp ≤ a) (h3 : a ≤ 101) (ihb : StatsRC bo) (iho : StatsRC ot) : FnIs Try.prog 115 [.agg (S.args (.mk 2 n ex bo ot)), .p (j64 L), .p (j64 a), .p (j64 lp)] G (.p (.bool (statOk L lp a (.mk 2 n ex bo ot)))) := by
  have hlE := E.rows_len ex
  have hlB := S.rows_len bo
  have hlO := S.rows_len ot
  refine acalls_fn (cfg 149) Try.func115 rfl rfl rfl (by simp) fun hG => ?_
  refine awp_seq ?_
  refine awp_run rfl ?_
  refine awp_seq ?_
  refine awp_run rfl ?_
  refine awp_seq ?_
  refine awp_ops ?_
  refine vopsL_take 2 rfl ?_
  refine vopsL_cmp rfl rfl rfl (by decide) rfl fun b hb18 => ?_
  cases b with
  | false =>
    refine vopsL_take 1 rfl ?_
    refine awp_seq ?_
    refine awp_run rfl ?_
    refine awp_seq ?_
    refine awp_seq ?_
    refine awp_run rfl ?_
    refine awp_block ?_
    refine awp_seq ?_
    refine awp_run rfl ?_
    refine awp_if false rfl (fun e => by cases e) fun _ => ?_
    refine awp_seq ?_
    refine awp_run rfl ?_
    refine awp_if true rfl (fun _ => ?_) (fun e => by cases e)
    refine awp_sl mixed (by kernel_rfl) ?_
    refine vsl_take 2 rfl ?_
    refine vsl_cmp rfl rfl rfl fun b hb37 => ?_
    cases b with
    | false =>
      refine vsl_take 8 rfl ?_
      refine vsl_done ?_
      refine awp_seq ?_
      refine awp_seq ?_
      refine awp_ops ?_
      refine vopsL_take 40 rfl ?_
      refine awp_if true rfl (fun _ => ?_) (fun e => by cases e)
      refine awp_seq ?_
      refine awp_run rfl ?_
      refine awp_ret ?_
      refine q_ret ?_
      exact leave_ret_same [] rfl hG (List.append_nil G).symm rfl ⟨congrArg (fun b => AEnd.ret (.p (.bool b))) (by simp_all [statOk, formOk, hasOk, placeOk, codeOk] <;> omega), rfl⟩
    | true =>
      refine vsl_take 3 rfl ?_
      refine vsl_cmpG rfl rfl rfl rfl fun b hb41 => ?_
      cases b with
      | false =>
        refine vsl_take 4 rfl ?_
        refine vsl_done ?_
        refine awp_seq ?_
        refine awp_seq ?_
        refine awp_ops ?_
        refine vopsL_take 40 rfl ?_
        refine awp_if true rfl (fun _ => ?_) (fun e => by cases e)
        refine awp_seq ?_
        refine awp_run rfl ?_
        refine awp_ret ?_
        refine q_ret ?_
        exact leave_ret_same [] rfl hG (List.append_nil G).symm rfl ⟨congrArg (fun b => AEnd.ret (.p (.bool b))) (by simp_all [statOk, formOk, hasOk, placeOk, codeOk] <;> omega), rfl⟩
      | true =>
        refine vsl_take 4 rfl ?_
        refine vsl_done ?_
        refine awp_seq ?_
        refine awp_seq ?_
        refine awp_ops ?_
        refine vopsL_take 7 rfl ?_
        refine vopsL_cmpG rfl rfl rfl rfl (by decide) rfl fun b hb83 => ?_
        cases b with
        | false =>
          have h83 := of_decide_eq_false hb83
          rw [hlE] at h83
          refine vopsL_take 6 rfl ?_
          refine vopsL_cmpG rfl rfl rfl rfl (by decide) rfl fun b hb90 => ?_
          cases b with
          | false =>
            have h90 := of_decide_eq_false hb90
            rw [hlE] at h90
            refine vopsL_take 8 rfl ?_
            refine vopsL_cmpG rfl rfl rfl rfl (by decide) rfl fun b hb99 => ?_
            cases b with
            | false =>
              have h99 := of_decide_eq_false hb99
              rw [hlB] at h99
              have hk1 : bo = [] := List.eq_nil_of_length_eq_zero (by omega)
              refine vopsL_take 9 rfl ?_
              refine vopsL_cmpG rfl rfl rfl rfl (by decide) rfl fun b hb109 => ?_
              cases b with
              | false =>
                have h109 := of_decide_eq_false hb109
                rw [hlO] at h109
                have hk2 : ot = [] := List.eq_nil_of_length_eq_zero (by omega)
                refine vopsL_take 4 rfl ?_
                refine vopsL_cmpG rfl rfl rfl rfl (by decide) rfl fun b hb114 => ?_
                cases b with
                | false =>
                  have ha : a ≤ 100 := by simpa using hb114
                  have hkl : ex.length ≤ 2 := by omega
                  refine vopsL_take 1 rfl ?_
                  refine awp_if false rfl (fun e => by cases e) fun _ => ?_
                  refine awp_skip ?_
                  refine awp_seq ?_
                  refine awp_seq ?_
                  refine awp_run rfl ?_
                  refine awp_weak (s' := { ts := [(1, .p (j64 L)), (2, .p (j64 a)), (4, .ptr (.l 4) 0), (14, .p (j64 lp)), (15, .p (j64 0))], L := [(4, [.p (j64 2), .p (j64 n), .p (.vec (E.rows ex)), .p (.vec (S.rows bo)), .p (.vec (S.rows ot))])], G := G }) (weakL _ ⟨rfl, rfl, rfl, rfl, rfl, trivial⟩ rfl rfl) ?_
                  refine awp_forA (fun mm s => ∃ (i : Nat) , s = { ts := [(1, .p (j64 L)), (2, .p (j64 a)), (4, .ptr (.l 4) 0), (14, .p (j64 lp)), (15, .p (j64 i))], L := [(4, [.p (j64 2), .p (j64 n), .p (.vec (E.rows ex)), .p (.vec (S.rows bo)), .p (.vec (S.rows ot))])], G := G } ∧ i ≤ ex.length ∧ mm = ex.length - i ∧ exprsOk L (a + 1) ex = exprsOk L (a + 1) (ex.drop i))
                    (fun s => s = { ts := [(1, .p (j64 L)), (2, .p (j64 a)), (4, .ptr (.l 4) 0), (14, .p (j64 lp))], L := [(4, [.p (j64 2), .p (j64 n), .p (.vec (E.rows ex)), .p (.vec (S.rows bo)), .p (.vec (S.rows ot))])], G := G } ∧ exprsOk L (a + 1) ex = true) ex.length ⟨0, rfl, by omega, by omega, by simp⟩ ?_ ?_
                  · rintro mm s ⟨i, rfl, hi_i, rfl, hI0⟩
                    refine awp_seq ?_
                    refine awp_seq ?_
                    refine awp_ops ?_
                    refine vopsL_take 4 rfl ?_
                    refine vopsL_cmp rfl rfl rfl (by decide) rfl fun b hb120 => ?_
                    cases b with
                    | false =>
                      have hge_i := ge_eq (E.rows_len ex) hi_i hb120
                      refine awp_if false rfl (fun e => by cases e) fun _ => ?_
                      refine awp_exit ?_
                      refine ⟨{ ts := [(1, .p (j64 L)), (2, .p (j64 a)), (4, .ptr (.l 4) 0), (14, .p (j64 lp))], L := [(4, [.p (j64 2), .p (j64 n), .p (.vec (E.rows ex)), .p (.vec (S.rows bo)), .p (.vec (S.rows ot))])], G := G }, weakL _ ⟨rfl, rfl, rfl, rfl, trivial⟩ rfl rfl, rfl, ?_⟩
                      subst hge_i
                      simpa [exprsOk] using hI0
                    | true =>
                      obtain ⟨e, he_i, hlt_i⟩ := lt_get (E.rows_len ex) hb120
                      have hx_i := E.rows_get he_i
                      have hdr_i := drop_get he_i
                      obtain ⟨eop, en, enm, eks⟩ := e
                      refine awp_if true rfl (fun _ => ?_) (fun e => by cases e)
                      refine awp_skip ?_
                      refine awp_seq ?_
                      refine awp_block ?_
                      refine awp_seq ?_
                      refine awp_ops ?_
                      refine vopsL_take 3 rfl ?_
                      refine vopsL_idx hx_i rfl rfl rfl (by decide) rfl rfl rfl rfl (by decide) ?_
                      refine vopsL_take 4 rfl ?_
                      rw [wrap64 (x := a + 1) (by omega)]
                      refine vopsL_fn rfl rfl rfl (exprRC (.mk eop en enm eks) L (a + 1) G (by omega) (by omega)) ?_
                      cases hb131 : exprOk L (a + 1) (.mk eop en enm eks) with
                      | false =>
                        refine vopsL_take 1 rfl ?_
                        refine awp_if true rfl (fun _ => ?_) (fun e => by cases e)
                        refine awp_seq ?_
                        refine awp_run rfl ?_
                        refine awp_ret ?_
                        refine q_block (q_ret (q_for (q_ret ?_)))
                        exact leave_ret_same [] rfl hG (List.append_nil G).symm rfl ⟨congrArg (fun b => AEnd.ret (.p (.bool b))) (by rw [statOk, hI0, hdr_i]; simp [exprsOk, hb131]), rfl⟩
                      | true =>
                        refine vopsL_take 1 rfl ?_
                        refine awp_if false rfl (fun e => by cases e) fun _ => ?_
                        refine awp_skip ?_
                        refine awp_run rfl ?_
                        rw [wrap64 (x := (i : Int) + 1) (by omega)]
                        refine ⟨{ ts := [(1, .p (j64 L)), (2, .p (j64 a)), (4, .ptr (.l 4) 0), (14, .p (j64 lp)), (15, .p (j64 (i + 1 : Nat)))], L := [(4, [.p (j64 2), .p (j64 n), .p (.vec (E.rows ex)), .p (.vec (S.rows bo)), .p (.vec (S.rows ot))])], G := G }, weakL _ ⟨rfl, rfl, rfl, rfl, rfl, trivial⟩ rfl rfl, ex.length - (i + 1), by omega, i + 1, rfl, by omega, rfl, ?_⟩
                        rw [hI0, hdr_i]; simp [exprsOk, hb131]
                  · rintro s ⟨rfl, hX0⟩
                    refine awp_seq ?_
                    refine awp_ops ?_
                    refine vopsL_take 6 rfl ?_
                    rw [wrap64 (x := a + 1) (by omega)]
                    refine vopsL_fn rfl rfl rfl (ihb L (a + 1) (lp) G (by omega) (by omega) (by omega)) ?_
                    cases hb139 : statsOk L (lp) (a + 1) bo with
                    | false =>
                      refine vopsL_take 10 rfl ?_
                      refine awp_ret ?_
                      exact leave_ret_same [] rfl hG (List.append_nil G).symm rfl ⟨congrArg (fun b => AEnd.ret (.p (.bool b))) (by rw [statOk, hX0]; simp_all [formOk, hasOk, placeOk, codeOk] <;> omega), rfl⟩
                    | true =>
                      refine vopsL_take 7 rfl ?_
                      rw [wrap64 (x := a + 1) (by omega)]
                      refine vopsL_fnG rfl rfl rfl rfl (iho L (a + 1) (lp) G (by omega) (by omega) (by omega)) ?_
                      cases hb147 : statsOk L (lp) (a + 1) ot with
                      | false =>
                        refine vopsL_take 2 rfl ?_
                        refine awp_ret ?_
                        exact leave_ret_same [] rfl hG (List.append_nil G).symm rfl ⟨congrArg (fun b => AEnd.ret (.p (.bool b))) (by rw [statOk, hX0]; simp_all [formOk, hasOk, placeOk, codeOk] <;> omega), rfl⟩
                      | true =>
                        refine vopsL_take 2 rfl ?_
                        refine awp_ret ?_
                        exact leave_ret_same [] rfl hG (List.append_nil G).symm rfl ⟨congrArg (fun b => AEnd.ret (.p (.bool b))) (by rw [statOk, hX0]; simp_all [formOk, hasOk, placeOk, codeOk] <;> omega), rfl⟩
                | true =>
                  refine vopsL_take 1 rfl ?_
                  refine awp_if true rfl (fun _ => ?_) (fun e => by cases e)
                  refine awp_seq ?_
                  refine awp_run rfl ?_
                  refine awp_ret ?_
                  refine q_ret ?_
                  exact leave_ret_same [] rfl hG (List.append_nil G).symm rfl ⟨congrArg (fun b => AEnd.ret (.p (.bool b))) (by simp_all [statOk, formOk, hasOk, placeOk, codeOk] <;> omega), rfl⟩
              | true =>
                have h109 := of_decide_eq_true hb109
                rw [hlO] at h109
                have hk2 : ot ≠ [] := by rintro rfl; simp at h109
                refine vopsL_take 6 rfl ?_
                refine awp_if true rfl (fun _ => ?_) (fun e => by cases e)
                refine awp_seq ?_
                refine awp_run rfl ?_
                refine awp_ret ?_
                refine q_ret ?_
                exact leave_ret_same [] rfl hG (List.append_nil G).symm rfl ⟨congrArg (fun b => AEnd.ret (.p (.bool b))) (by simp_all [statOk, formOk, hasOk, placeOk, codeOk] <;> omega), rfl⟩
            | true =>
              have h99 := of_decide_eq_true hb99
              rw [hlB] at h99
              have hk1 : bo ≠ [] := by rintro rfl; simp at h99
              refine vopsL_take 16 rfl ?_
              refine awp_if true rfl (fun _ => ?_) (fun e => by cases e)
              refine awp_seq ?_
              refine awp_run rfl ?_
              refine awp_ret ?_
              refine q_ret ?_
              exact leave_ret_same [] rfl hG (List.append_nil G).symm rfl ⟨congrArg (fun b => AEnd.ret (.p (.bool b))) (by simp_all [statOk, formOk, hasOk, placeOk, codeOk] <;> omega), rfl⟩
          | true =>
            have h90 := of_decide_eq_true hb90
            rw [hlE] at h90
            have hk0 : ex ≠ [] := by rintro rfl; simp at h90
            refine vopsL_take 25 rfl ?_
            refine awp_if true rfl (fun _ => ?_) (fun e => by cases e)
            refine awp_seq ?_
            refine awp_run rfl ?_
            refine awp_ret ?_
            refine q_ret ?_
            exact leave_ret_same [] rfl hG (List.append_nil G).symm rfl ⟨congrArg (fun b => AEnd.ret (.p (.bool b))) (by simp_all [statOk, formOk, hasOk, placeOk, codeOk] <;> omega), rfl⟩
        | true =>
          have h83 := of_decide_eq_true hb83
          rw [hlE] at h83
          refine vopsL_take 32 rfl ?_
          refine awp_if true rfl (fun _ => ?_) (fun e => by cases e)
          refine awp_seq ?_
          refine awp_run rfl ?_
          refine awp_ret ?_
          refine q_ret ?_
          exact leave_ret_same [] rfl hG (List.append_nil G).symm rfl ⟨congrArg (fun b => AEnd.ret (.p (.bool b))) (by simp_all [statOk, formOk, hasOk, placeOk, codeOk] <;> omega), rfl⟩
  | true =>
    refine vopsL_take 1 rfl ?_
    refine awp_seq ?_
    refine awp_run rfl ?_
    refine awp_seq ?_
    refine awp_seq ?_
    refine awp_run rfl ?_
    refine awp_block ?_
    refine awp_seq ?_
    refine awp_run rfl ?_
    refine awp_if false rfl (fun e => by cases e) fun _ => ?_
    refine awp_seq ?_
    refine awp_run rfl ?_
    refine awp_if true rfl (fun _ => ?_) (fun e => by cases e)
    refine awp_sl mixed (by kernel_rfl) ?_
    refine vsl_take 2 rfl ?_
    refine vsl_cmp rfl rfl rfl fun b hb37 => ?_
    cases b with
    | false =>
      refine vsl_take 8 rfl ?_
      refine vsl_done ?_
      refine awp_seq ?_
      refine awp_seq ?_
      refine awp_ops ?_
      refine vopsL_take 40 rfl ?_
      refine awp_if true rfl (fun _ => ?_) (fun e => by cases e)
      refine awp_seq ?_
      refine awp_run rfl ?_
      refine awp_ret ?_
      refine q_ret ?_
      exact leave_ret_same [] rfl hG (List.append_nil G).symm rfl ⟨congrArg (fun b => AEnd.ret (.p (.bool b))) (by simp_all [statOk, formOk, hasOk, placeOk, codeOk] <;> omega), rfl⟩
    | true =>
      refine vsl_take 3 rfl ?_
      refine vsl_cmpG rfl rfl rfl rfl fun b hb41 => ?_
      cases b with
      | false =>
        refine vsl_take 4 rfl ?_
        refine vsl_done ?_
        refine awp_seq ?_
        refine awp_seq ?_
        refine awp_ops ?_
        refine vopsL_take 40 rfl ?_
        refine awp_if true rfl (fun _ => ?_) (fun e => by cases e)
        refine awp_seq ?_
        refine awp_run rfl ?_
        refine awp_ret ?_
        refine q_ret ?_
        exact leave_ret_same [] rfl hG (List.append_nil G).symm rfl ⟨congrArg (fun b => AEnd.ret (.p (.bool b))) (by simp_all [statOk, formOk, hasOk, placeOk, codeOk] <;> omega), rfl⟩
      | true =>
        refine vsl_take 4 rfl ?_
        refine vsl_done ?_
        refine awp_seq ?_
        refine awp_seq ?_
        refine awp_ops ?_
        refine vopsL_take 7 rfl ?_
        refine vopsL_cmpG rfl rfl rfl rfl (by decide) rfl fun b hb83 => ?_
        cases b with
        | false =>
          have h83 := of_decide_eq_false hb83
          rw [hlE] at h83
          refine vopsL_take 6 rfl ?_
          refine vopsL_cmpG rfl rfl rfl rfl (by decide) rfl fun b hb90 => ?_
          cases b with
          | false =>
            have h90 := of_decide_eq_false hb90
            rw [hlE] at h90
            refine vopsL_take 8 rfl ?_
            refine vopsL_cmpG rfl rfl rfl rfl (by decide) rfl fun b hb99 => ?_
            cases b with
            | false =>
              have h99 := of_decide_eq_false hb99
              rw [hlB] at h99
              have hk1 : bo = [] := List.eq_nil_of_length_eq_zero (by omega)
              refine vopsL_take 9 rfl ?_
              refine vopsL_cmpG rfl rfl rfl rfl (by decide) rfl fun b hb109 => ?_
              cases b with
              | false =>
                have h109 := of_decide_eq_false hb109
                rw [hlO] at h109
                have hk2 : ot = [] := List.eq_nil_of_length_eq_zero (by omega)
                refine vopsL_take 4 rfl ?_
                refine vopsL_cmpG rfl rfl rfl rfl (by decide) rfl fun b hb114 => ?_
                cases b with
                | false =>
                  have ha : a ≤ 100 := by simpa using hb114
                  have hkl : ex.length ≤ 2 := by omega
                  refine vopsL_take 1 rfl ?_
                  refine awp_if false rfl (fun e => by cases e) fun _ => ?_
                  refine awp_skip ?_
                  refine awp_seq ?_
                  refine awp_seq ?_
                  refine awp_run rfl ?_
                  refine awp_weak (s' := { ts := [(1, .p (j64 L)), (2, .p (j64 a)), (4, .ptr (.l 4) 0), (14, .p (j64 lp)), (15, .p (j64 0))], L := [(4, [.p (j64 2), .p (j64 n), .p (.vec (E.rows ex)), .p (.vec (S.rows bo)), .p (.vec (S.rows ot))])], G := G }) (weakL _ ⟨rfl, rfl, rfl, rfl, rfl, trivial⟩ rfl rfl) ?_
                  refine awp_forA (fun mm s => ∃ (i : Nat) , s = { ts := [(1, .p (j64 L)), (2, .p (j64 a)), (4, .ptr (.l 4) 0), (14, .p (j64 lp)), (15, .p (j64 i))], L := [(4, [.p (j64 2), .p (j64 n), .p (.vec (E.rows ex)), .p (.vec (S.rows bo)), .p (.vec (S.rows ot))])], G := G } ∧ i ≤ ex.length ∧ mm = ex.length - i ∧ exprsOk L (a + 1) ex = exprsOk L (a + 1) (ex.drop i))
                    (fun s => s = { ts := [(1, .p (j64 L)), (2, .p (j64 a)), (4, .ptr (.l 4) 0), (14, .p (j64 lp))], L := [(4, [.p (j64 2), .p (j64 n), .p (.vec (E.rows ex)), .p (.vec (S.rows bo)), .p (.vec (S.rows ot))])], G := G } ∧ exprsOk L (a + 1) ex = true) ex.length ⟨0, rfl, by omega, by omega, by simp⟩ ?_ ?_
                  · rintro mm s ⟨i, rfl, hi_i, rfl, hI0⟩
                    refine awp_seq ?_
                    refine awp_seq ?_
                    refine awp_ops ?_
                    refine vopsL_take 4 rfl ?_
                    refine vopsL_cmp rfl rfl rfl (by decide) rfl fun b hb120 => ?_
                    cases b with
                    | false =>
                      have hge_i := ge_eq (E.rows_len ex) hi_i hb120
                      refine awp_if false rfl (fun e => by cases e) fun _ => ?_
                      refine awp_exit ?_
                      refine ⟨{ ts := [(1, .p (j64 L)), (2, .p (j64 a)), (4, .ptr (.l 4) 0), (14, .p (j64 lp))], L := [(4, [.p (j64 2), .p (j64 n), .p (.vec (E.rows ex)), .p (.vec (S.rows bo)), .p (.vec (S.rows ot))])], G := G }, weakL _ ⟨rfl, rfl, rfl, rfl, trivial⟩ rfl rfl, rfl, ?_⟩
                      subst hge_i
                      simpa [exprsOk] using hI0
                    | true =>
                      obtain ⟨e, he_i, hlt_i⟩ := lt_get (E.rows_len ex) hb120
                      have hx_i := E.rows_get he_i
                      have hdr_i := drop_get he_i
                      obtain ⟨eop, en, enm, eks⟩ := e
                      refine awp_if true rfl (fun _ => ?_) (fun e => by cases e)
                      refine awp_skip ?_
                      refine awp_seq ?_
                      refine awp_block ?_
                      refine awp_seq ?_
                      refine awp_ops ?_
                      refine vopsL_take 3 rfl ?_
                      refine vopsL_idx hx_i rfl rfl rfl (by decide) rfl rfl rfl rfl (by decide) ?_
                      refine vopsL_take 4 rfl ?_
                      rw [wrap64 (x := a + 1) (by omega)]
                      refine vopsL_fn rfl rfl rfl (exprRC (.mk eop en enm eks) L (a + 1) G (by omega) (by omega)) ?_
                      cases hb131 : exprOk L (a + 1) (.mk eop en enm eks) with
                      | false =>
                        refine vopsL_take 1 rfl ?_
                        refine awp_if true rfl (fun _ => ?_) (fun e => by cases e)
                        refine awp_seq ?_
                        refine awp_run rfl ?_
                        refine awp_ret ?_
                        refine q_block (q_ret (q_for (q_ret ?_)))
                        exact leave_ret_same [] rfl hG (List.append_nil G).symm rfl ⟨congrArg (fun b => AEnd.ret (.p (.bool b))) (by rw [statOk, hI0, hdr_i]; simp [exprsOk, hb131]), rfl⟩
                      | true =>
                        refine vopsL_take 1 rfl ?_
                        refine awp_if false rfl (fun e => by cases e) fun _ => ?_
                        refine awp_skip ?_
                        refine awp_run rfl ?_
                        rw [wrap64 (x := (i : Int) + 1) (by omega)]
                        refine ⟨{ ts := [(1, .p (j64 L)), (2, .p (j64 a)), (4, .ptr (.l 4) 0), (14, .p (j64 lp)), (15, .p (j64 (i + 1 : Nat)))], L := [(4, [.p (j64 2), .p (j64 n), .p (.vec (E.rows ex)), .p (.vec (S.rows bo)), .p (.vec (S.rows ot))])], G := G }, weakL _ ⟨rfl, rfl, rfl, rfl, rfl, trivial⟩ rfl rfl, ex.length - (i + 1), by omega, i + 1, rfl, by omega, rfl, ?_⟩
                        rw [hI0, hdr_i]; simp [exprsOk, hb131]
                  · rintro s ⟨rfl, hX0⟩
                    refine awp_seq ?_
                    refine awp_ops ?_
                    refine vopsL_take 6 rfl ?_
                    rw [wrap64 (x := a + 1) (by omega)]
                    refine vopsL_fn rfl rfl rfl (ihb L (a + 1) (lp) G (by omega) (by omega) (by omega)) ?_
                    cases hb139 : statsOk L (lp) (a + 1) bo with
                    | false =>
                      refine vopsL_take 10 rfl ?_
                      refine awp_ret ?_
                      exact leave_ret_same [] rfl hG (List.append_nil G).symm rfl ⟨congrArg (fun b => AEnd.ret (.p (.bool b))) (by rw [statOk, hX0]; simp_all [formOk, hasOk, placeOk, codeOk] <;> omega), rfl⟩
                    | true =>
                      refine vopsL_take 7 rfl ?_
                      rw [wrap64 (x := a + 1) (by omega)]
                      refine vopsL_fnG rfl rfl rfl rfl (iho L (a + 1) (lp) G (by omega) (by omega) (by omega)) ?_
                      cases hb147 : statsOk L (lp) (a + 1) ot with
                      | false =>
                        refine vopsL_take 2 rfl ?_
                        refine awp_ret ?_
                        exact leave_ret_same [] rfl hG (List.append_nil G).symm rfl ⟨congrArg (fun b => AEnd.ret (.p (.bool b))) (by rw [statOk, hX0]; simp_all [formOk, hasOk, placeOk, codeOk] <;> omega), rfl⟩
                      | true =>
                        refine vopsL_take 2 rfl ?_
                        refine awp_ret ?_
                        exact leave_ret_same [] rfl hG (List.append_nil G).symm rfl ⟨congrArg (fun b => AEnd.ret (.p (.bool b))) (by rw [statOk, hX0]; simp_all [formOk, hasOk, placeOk, codeOk] <;> omega), rfl⟩
                | true =>
                  refine vopsL_take 1 rfl ?_
                  refine awp_if true rfl (fun _ => ?_) (fun e => by cases e)
                  refine awp_seq ?_
                  refine awp_run rfl ?_
                  refine awp_ret ?_
                  refine q_ret ?_
                  exact leave_ret_same [] rfl hG (List.append_nil G).symm rfl ⟨congrArg (fun b => AEnd.ret (.p (.bool b))) (by simp_all [statOk, formOk, hasOk, placeOk, codeOk] <;> omega), rfl⟩
              | true =>
                have h109 := of_decide_eq_true hb109
                rw [hlO] at h109
                have hk2 : ot ≠ [] := by rintro rfl; simp at h109
                refine vopsL_take 6 rfl ?_
                refine awp_if true rfl (fun _ => ?_) (fun e => by cases e)
                refine awp_seq ?_
                refine awp_run rfl ?_
                refine awp_ret ?_
                refine q_ret ?_
                exact leave_ret_same [] rfl hG (List.append_nil G).symm rfl ⟨congrArg (fun b => AEnd.ret (.p (.bool b))) (by simp_all [statOk, formOk, hasOk, placeOk, codeOk] <;> omega), rfl⟩
            | true =>
              have h99 := of_decide_eq_true hb99
              rw [hlB] at h99
              have hk1 : bo ≠ [] := by rintro rfl; simp at h99
              refine vopsL_take 16 rfl ?_
              refine awp_if true rfl (fun _ => ?_) (fun e => by cases e)
              refine awp_seq ?_
              refine awp_run rfl ?_
              refine awp_ret ?_
              refine q_ret ?_
              exact leave_ret_same [] rfl hG (List.append_nil G).symm rfl ⟨congrArg (fun b => AEnd.ret (.p (.bool b))) (by simp_all [statOk, formOk, hasOk, placeOk, codeOk] <;> omega), rfl⟩
          | true =>
            have h90 := of_decide_eq_true hb90
            rw [hlE] at h90
            have hk0 : ex ≠ [] := by rintro rfl; simp at h90
            refine vopsL_take 25 rfl ?_
            refine awp_if true rfl (fun _ => ?_) (fun e => by cases e)
            refine awp_seq ?_
            refine awp_run rfl ?_
            refine awp_ret ?_
            refine q_ret ?_
            exact leave_ret_same [] rfl hG (List.append_nil G).symm rfl ⟨congrArg (fun b => AEnd.ret (.p (.bool b))) (by simp_all [statOk, formOk, hasOk, placeOk, codeOk] <;> omega), rfl⟩
        | true =>
          have h83 := of_decide_eq_true hb83
          rw [hlE] at h83
          refine vopsL_take 32 rfl ?_
          refine awp_if true rfl (fun _ => ?_) (fun e => by cases e)
          refine awp_seq ?_
          refine awp_run rfl ?_
          refine awp_ret ?_
          refine q_ret ?_
          exact leave_ret_same [] rfl hG (List.append_nil G).symm rfl ⟨congrArg (fun b => AEnd.ret (.p (.bool b))) (by simp_all [statOk, formOk, hasOk, placeOk, codeOk] <;> omega), rfl⟩
theorem c_rstat3 (L lp a n : Int) (ex : List E) (bo ot : List S) (G : List Blk) (h1 : 0 ≤ lp) (h2 : lp ≤ a) (h3 : a ≤ 101) (ihb : StatsRC bo) (iho : StatsRC ot) : FnIs Try.prog 115 [.agg (S.args (.mk 3 n ex bo ot)), .p (j64 L), .p (j64 a), .p (j64 lp)] G (.p (.bool (statOk L lp a (.mk 3 n ex bo ot)))) := by
  have hlE := E.rows_len ex
  have hlB := S.rows_len bo
  have hlO := S.rows_len ot
  refine acalls_fn (cfg 149) Try.func115 rfl rfl rfl (by simp) fun hG => ?_
  refine awp_seq ?_
  refine awp_run rfl ?_
  refine awp_seq ?_
  refine awp_run rfl ?_
  refine awp_seq ?_
  refine awp_ops ?_
  refine vopsL_take 2 rfl ?_
  refine vopsL_cmp rfl rfl rfl (by decide) rfl fun b hb18 => ?_
  cases b with
  | false =>
    refine vopsL_take 1 rfl ?_
    refine awp_seq ?_
    refine awp_run rfl ?_
    refine awp_seq ?_
    refine awp_seq ?_
    refine awp_run rfl ?_
    refine awp_block ?_
    refine awp_seq ?_
    refine awp_run rfl ?_
    refine awp_if false rfl (fun e => by cases e) fun _ => ?_
    refine awp_seq ?_
    refine awp_run rfl ?_
    refine awp_if false rfl (fun e => by cases e) fun _ => ?_
    refine awp_seq ?_
    refine awp_seq ?_
    refine awp_run rfl ?_
    refine awp_if true rfl (fun _ => ?_) (fun e => by cases e)
    refine awp_skip ?_
    refine awp_if true rfl (fun _ => ?_) (fun e => by cases e)
    refine awp_skip ?_
    refine awp_seq ?_
    refine awp_seq ?_
    refine awp_ops ?_
    refine vopsL_take 40 rfl ?_
    refine awp_if true rfl (fun _ => ?_) (fun e => by cases e)
    refine awp_seq ?_
    refine awp_run rfl ?_
    refine awp_ret ?_
    refine q_ret ?_
    exact leave_ret_same [] rfl hG (List.append_nil G).symm rfl ⟨congrArg (fun b => AEnd.ret (.p (.bool b))) (by simp_all [statOk, formOk, hasOk, placeOk, codeOk] <;> omega), rfl⟩
  | true =>
    refine vopsL_take 1 rfl ?_
    refine awp_seq ?_
    refine awp_run rfl ?_
    refine awp_seq ?_
    refine awp_seq ?_
    refine awp_run rfl ?_
    refine awp_block ?_
    refine awp_seq ?_
    refine awp_run rfl ?_
    refine awp_if false rfl (fun e => by cases e) fun _ => ?_
    refine awp_seq ?_
    refine awp_run rfl ?_
    refine awp_if false rfl (fun e => by cases e) fun _ => ?_
    refine awp_seq ?_
    refine awp_seq ?_
    refine awp_run rfl ?_
    refine awp_if true rfl (fun _ => ?_) (fun e => by cases e)
    refine awp_skip ?_
    refine awp_if true rfl (fun _ => ?_) (fun e => by cases e)
    refine awp_skip ?_
    refine awp_seq ?_
    refine awp_seq ?_
    refine awp_ops ?_
    refine vopsL_take 7 rfl ?_
    refine vopsL_cmpG rfl rfl rfl rfl (by decide) rfl fun b hb83 => ?_
    cases b with
    | false =>
      have h83 := of_decide_eq_false hb83
      rw [hlE] at h83
      refine vopsL_take 6 rfl ?_
      refine vopsL_cmpG rfl rfl rfl rfl (by decide) rfl fun b hb90 => ?_
      cases b with
      | false =>
        have h90 := of_decide_eq_false hb90
        rw [hlE] at h90
        refine vopsL_take 8 rfl ?_
        refine vopsL_cmpG rfl rfl rfl rfl (by decide) rfl fun b hb99 => ?_
        cases b with
        | false =>
          have h99 := of_decide_eq_false hb99
          rw [hlB] at h99
          have hk1 : bo = [] := List.eq_nil_of_length_eq_zero (by omega)
          refine vopsL_take 9 rfl ?_
          refine vopsL_cmpG rfl rfl rfl rfl (by decide) rfl fun b hb109 => ?_
          cases b with
          | false =>
            have h109 := of_decide_eq_false hb109
            rw [hlO] at h109
            have hk2 : ot = [] := List.eq_nil_of_length_eq_zero (by omega)
            refine vopsL_take 4 rfl ?_
            refine vopsL_cmpG rfl rfl rfl rfl (by decide) rfl fun b hb114 => ?_
            cases b with
            | false =>
              have ha : a ≤ 100 := by simpa using hb114
              have hkl : ex.length ≤ 2 := by omega
              refine vopsL_take 1 rfl ?_
              refine awp_if false rfl (fun e => by cases e) fun _ => ?_
              refine awp_skip ?_
              refine awp_seq ?_
              refine awp_seq ?_
              refine awp_run rfl ?_
              refine awp_weak (s' := { ts := [(1, .p (j64 L)), (2, .p (j64 a)), (4, .ptr (.l 4) 0), (14, .p (j64 lp)), (15, .p (j64 0))], L := [(4, [.p (j64 3), .p (j64 n), .p (.vec (E.rows ex)), .p (.vec (S.rows bo)), .p (.vec (S.rows ot))])], G := G }) (weakL _ ⟨rfl, rfl, rfl, rfl, rfl, trivial⟩ rfl rfl) ?_
              refine awp_forA (fun mm s => ∃ (i : Nat) , s = { ts := [(1, .p (j64 L)), (2, .p (j64 a)), (4, .ptr (.l 4) 0), (14, .p (j64 lp)), (15, .p (j64 i))], L := [(4, [.p (j64 3), .p (j64 n), .p (.vec (E.rows ex)), .p (.vec (S.rows bo)), .p (.vec (S.rows ot))])], G := G } ∧ i ≤ ex.length ∧ mm = ex.length - i ∧ exprsOk L (a + 1) ex = exprsOk L (a + 1) (ex.drop i))
                (fun s => s = { ts := [(1, .p (j64 L)), (2, .p (j64 a)), (4, .ptr (.l 4) 0), (14, .p (j64 lp))], L := [(4, [.p (j64 3), .p (j64 n), .p (.vec (E.rows ex)), .p (.vec (S.rows bo)), .p (.vec (S.rows ot))])], G := G } ∧ exprsOk L (a + 1) ex = true) ex.length ⟨0, rfl, by omega, by omega, by simp⟩ ?_ ?_
              · rintro mm s ⟨i, rfl, hi_i, rfl, hI0⟩
                refine awp_seq ?_
                refine awp_seq ?_
                refine awp_ops ?_
                refine vopsL_take 4 rfl ?_
                refine vopsL_cmp rfl rfl rfl (by decide) rfl fun b hb120 => ?_
                cases b with
                | false =>
                  have hge_i := ge_eq (E.rows_len ex) hi_i hb120
                  refine awp_if false rfl (fun e => by cases e) fun _ => ?_
                  refine awp_exit ?_
                  refine ⟨{ ts := [(1, .p (j64 L)), (2, .p (j64 a)), (4, .ptr (.l 4) 0), (14, .p (j64 lp))], L := [(4, [.p (j64 3), .p (j64 n), .p (.vec (E.rows ex)), .p (.vec (S.rows bo)), .p (.vec (S.rows ot))])], G := G }, weakL _ ⟨rfl, rfl, rfl, rfl, trivial⟩ rfl rfl, rfl, ?_⟩
                  subst hge_i
                  simpa [exprsOk] using hI0
                | true =>
                  obtain ⟨e, he_i, hlt_i⟩ := lt_get (E.rows_len ex) hb120
                  have hx_i := E.rows_get he_i
                  have hdr_i := drop_get he_i
                  obtain ⟨eop, en, enm, eks⟩ := e
                  refine awp_if true rfl (fun _ => ?_) (fun e => by cases e)
                  refine awp_skip ?_
                  refine awp_seq ?_
                  refine awp_block ?_
                  refine awp_seq ?_
                  refine awp_ops ?_
                  refine vopsL_take 3 rfl ?_
                  refine vopsL_idx hx_i rfl rfl rfl (by decide) rfl rfl rfl rfl (by decide) ?_
                  refine vopsL_take 4 rfl ?_
                  rw [wrap64 (x := a + 1) (by omega)]
                  refine vopsL_fn rfl rfl rfl (exprRC (.mk eop en enm eks) L (a + 1) G (by omega) (by omega)) ?_
                  cases hb131 : exprOk L (a + 1) (.mk eop en enm eks) with
                  | false =>
                    refine vopsL_take 1 rfl ?_
                    refine awp_if true rfl (fun _ => ?_) (fun e => by cases e)
                    refine awp_seq ?_
                    refine awp_run rfl ?_
                    refine awp_ret ?_
                    refine q_block (q_ret (q_for (q_ret ?_)))
                    exact leave_ret_same [] rfl hG (List.append_nil G).symm rfl ⟨congrArg (fun b => AEnd.ret (.p (.bool b))) (by rw [statOk, hI0, hdr_i]; simp [exprsOk, hb131]), rfl⟩
                  | true =>
                    refine vopsL_take 1 rfl ?_
                    refine awp_if false rfl (fun e => by cases e) fun _ => ?_
                    refine awp_skip ?_
                    refine awp_run rfl ?_
                    rw [wrap64 (x := (i : Int) + 1) (by omega)]
                    refine ⟨{ ts := [(1, .p (j64 L)), (2, .p (j64 a)), (4, .ptr (.l 4) 0), (14, .p (j64 lp)), (15, .p (j64 (i + 1 : Nat)))], L := [(4, [.p (j64 3), .p (j64 n), .p (.vec (E.rows ex)), .p (.vec (S.rows bo)), .p (.vec (S.rows ot))])], G := G }, weakL _ ⟨rfl, rfl, rfl, rfl, rfl, trivial⟩ rfl rfl, ex.length - (i + 1), by omega, i + 1, rfl, by omega, rfl, ?_⟩
                    rw [hI0, hdr_i]; simp [exprsOk, hb131]
              · rintro s ⟨rfl, hX0⟩
                refine awp_seq ?_
                refine awp_ops ?_
                refine vopsL_take 6 rfl ?_
                rw [wrap64 (x := a + 1) (by omega)]
                refine vopsL_fn rfl rfl rfl (ihb L (a + 1) (lp) G (by omega) (by omega) (by omega)) ?_
                cases hb139 : statsOk L (lp) (a + 1) bo with
                | false =>
                  refine vopsL_take 10 rfl ?_
                  refine awp_ret ?_
                  exact leave_ret_same [] rfl hG (List.append_nil G).symm rfl ⟨congrArg (fun b => AEnd.ret (.p (.bool b))) (by rw [statOk, hX0]; simp_all [formOk, hasOk, placeOk, codeOk] <;> omega), rfl⟩
                | true =>
                  refine vopsL_take 7 rfl ?_
                  rw [wrap64 (x := a + 1) (by omega)]
                  refine vopsL_fnG rfl rfl rfl rfl (iho L (a + 1) (lp) G (by omega) (by omega) (by omega)) ?_
                  cases hb147 : statsOk L (lp) (a + 1) ot with
                  | false =>
                    refine vopsL_take 2 rfl ?_
                    refine awp_ret ?_
                    exact leave_ret_same [] rfl hG (List.append_nil G).symm rfl ⟨congrArg (fun b => AEnd.ret (.p (.bool b))) (by rw [statOk, hX0]; simp_all [formOk, hasOk, placeOk, codeOk] <;> omega), rfl⟩
                  | true =>
                    refine vopsL_take 2 rfl ?_
                    refine awp_ret ?_
                    exact leave_ret_same [] rfl hG (List.append_nil G).symm rfl ⟨congrArg (fun b => AEnd.ret (.p (.bool b))) (by rw [statOk, hX0]; simp_all [formOk, hasOk, placeOk, codeOk] <;> omega), rfl⟩
            | true =>
              refine vopsL_take 1 rfl ?_
              refine awp_if true rfl (fun _ => ?_) (fun e => by cases e)
              refine awp_seq ?_
              refine awp_run rfl ?_
              refine awp_ret ?_
              refine q_ret ?_
              exact leave_ret_same [] rfl hG (List.append_nil G).symm rfl ⟨congrArg (fun b => AEnd.ret (.p (.bool b))) (by simp_all [statOk, formOk, hasOk, placeOk, codeOk] <;> omega), rfl⟩
          | true =>
            have h109 := of_decide_eq_true hb109
            rw [hlO] at h109
            have hk2 : ot ≠ [] := by rintro rfl; simp at h109
            refine vopsL_take 6 rfl ?_
            refine awp_if true rfl (fun _ => ?_) (fun e => by cases e)
            refine awp_seq ?_
            refine awp_run rfl ?_
            refine awp_ret ?_
            refine q_ret ?_
            exact leave_ret_same [] rfl hG (List.append_nil G).symm rfl ⟨congrArg (fun b => AEnd.ret (.p (.bool b))) (by simp_all [statOk, formOk, hasOk, placeOk, codeOk] <;> omega), rfl⟩
        | true =>
          have h99 := of_decide_eq_true hb99
          rw [hlB] at h99
          have hk1 : bo ≠ [] := by rintro rfl; simp at h99
          refine vopsL_take 16 rfl ?_
          refine awp_if true rfl (fun _ => ?_) (fun e => by cases e)
          refine awp_seq ?_
          refine awp_run rfl ?_
          refine awp_ret ?_
          refine q_ret ?_
          exact leave_ret_same [] rfl hG (List.append_nil G).symm rfl ⟨congrArg (fun b => AEnd.ret (.p (.bool b))) (by simp_all [statOk, formOk, hasOk, placeOk, codeOk] <;> omega), rfl⟩
      | true =>
        have h90 := of_decide_eq_true hb90
        rw [hlE] at h90
        have hk0 : ex ≠ [] := by rintro rfl; simp at h90
        refine vopsL_take 25 rfl ?_
        refine awp_if true rfl (fun _ => ?_) (fun e => by cases e)
        refine awp_seq ?_
        refine awp_run rfl ?_
        refine awp_ret ?_
        refine q_ret ?_
        exact leave_ret_same [] rfl hG (List.append_nil G).symm rfl ⟨congrArg (fun b => AEnd.ret (.p (.bool b))) (by simp_all [statOk, formOk, hasOk, placeOk, codeOk] <;> omega), rfl⟩
    | true =>
      have h83 := of_decide_eq_true hb83
      rw [hlE] at h83
      refine vopsL_take 32 rfl ?_
      refine awp_if true rfl (fun _ => ?_) (fun e => by cases e)
      refine awp_seq ?_
      refine awp_run rfl ?_
      refine awp_ret ?_
      refine q_ret ?_
      exact leave_ret_same [] rfl hG (List.append_nil G).symm rfl ⟨congrArg (fun b => AEnd.ret (.p (.bool b))) (by simp_all [statOk, formOk, hasOk, placeOk, codeOk] <;> omega), rfl⟩
theorem c_rstat4 (L lp a n : Int) (ex : List E) (bo ot : List S) (G : List Blk) (h1 : 0 ≤ lp) (h2 : lp ≤ a) (h3 : a ≤ 101) (ihb : StatsRC bo) (iho : StatsRC ot) : FnIs Try.prog 115 [.agg (S.args (.mk 4 n ex bo ot)), .p (j64 L), .p (j64 a), .p (j64 lp)] G (.p (.bool (statOk L lp a (.mk 4 n ex bo ot)))) := by
  have hlE := E.rows_len ex
  have hlB := S.rows_len bo
  have hlO := S.rows_len ot
  refine acalls_fn (cfg 149) Try.func115 rfl rfl rfl (by simp) fun hG => ?_
  refine awp_seq ?_
  refine awp_run rfl ?_
  refine awp_seq ?_
  refine awp_run rfl ?_
  refine awp_seq ?_
  refine awp_ops ?_
  refine vopsL_take 2 rfl ?_
  refine vopsL_cmp rfl rfl rfl (by decide) rfl fun b hb18 => ?_
  cases b with
  | false =>
    refine vopsL_take 1 rfl ?_
    refine awp_seq ?_
    refine awp_run rfl ?_
    refine awp_seq ?_
    refine awp_seq ?_
    refine awp_run rfl ?_
    refine awp_block ?_
    refine awp_seq ?_
    refine awp_run rfl ?_
    refine awp_if false rfl (fun e => by cases e) fun _ => ?_
    refine awp_seq ?_
    refine awp_run rfl ?_
    refine awp_if false rfl (fun e => by cases e) fun _ => ?_
    refine awp_seq ?_
    refine awp_seq ?_
    refine awp_run rfl ?_
    refine awp_if false rfl (fun e => by cases e) fun _ => ?_
    refine awp_run rfl ?_
    refine awp_if true rfl (fun _ => ?_) (fun e => by cases e)
    refine awp_skip ?_
    refine awp_seq ?_
    refine awp_seq ?_
    refine awp_ops ?_
    refine vopsL_take 40 rfl ?_
    refine awp_if true rfl (fun _ => ?_) (fun e => by cases e)
    refine awp_seq ?_
    refine awp_run rfl ?_
    refine awp_ret ?_
    refine q_ret ?_
    exact leave_ret_same [] rfl hG (List.append_nil G).symm rfl ⟨congrArg (fun b => AEnd.ret (.p (.bool b))) (by simp_all [statOk, formOk, hasOk, placeOk, codeOk] <;> omega), rfl⟩
  | true =>
    refine vopsL_take 1 rfl ?_
    refine awp_seq ?_
    refine awp_run rfl ?_
    refine awp_seq ?_
    refine awp_seq ?_
    refine awp_run rfl ?_
    refine awp_block ?_
    refine awp_seq ?_
    refine awp_run rfl ?_
    refine awp_if false rfl (fun e => by cases e) fun _ => ?_
    refine awp_seq ?_
    refine awp_run rfl ?_
    refine awp_if false rfl (fun e => by cases e) fun _ => ?_
    refine awp_seq ?_
    refine awp_seq ?_
    refine awp_run rfl ?_
    refine awp_if false rfl (fun e => by cases e) fun _ => ?_
    refine awp_run rfl ?_
    refine awp_if true rfl (fun _ => ?_) (fun e => by cases e)
    refine awp_skip ?_
    refine awp_seq ?_
    refine awp_seq ?_
    refine awp_ops ?_
    refine vopsL_take 7 rfl ?_
    refine vopsL_cmpG rfl rfl rfl rfl (by decide) rfl fun b hb83 => ?_
    cases b with
    | false =>
      have h83 := of_decide_eq_false hb83
      rw [hlE] at h83
      refine vopsL_take 6 rfl ?_
      refine vopsL_cmpG rfl rfl rfl rfl (by decide) rfl fun b hb90 => ?_
      cases b with
      | false =>
        have h90 := of_decide_eq_false hb90
        rw [hlE] at h90
        refine vopsL_take 8 rfl ?_
        refine vopsL_cmpG rfl rfl rfl rfl (by decide) rfl fun b hb99 => ?_
        cases b with
        | false =>
          have h99 := of_decide_eq_false hb99
          rw [hlB] at h99
          have hk1 : bo = [] := List.eq_nil_of_length_eq_zero (by omega)
          refine vopsL_take 9 rfl ?_
          refine vopsL_cmpG rfl rfl rfl rfl (by decide) rfl fun b hb109 => ?_
          cases b with
          | false =>
            have h109 := of_decide_eq_false hb109
            rw [hlO] at h109
            have hk2 : ot = [] := List.eq_nil_of_length_eq_zero (by omega)
            refine vopsL_take 4 rfl ?_
            refine vopsL_cmpG rfl rfl rfl rfl (by decide) rfl fun b hb114 => ?_
            cases b with
            | false =>
              have ha : a ≤ 100 := by simpa using hb114
              have hkl : ex.length ≤ 2 := by omega
              refine vopsL_take 1 rfl ?_
              refine awp_if false rfl (fun e => by cases e) fun _ => ?_
              refine awp_skip ?_
              refine awp_seq ?_
              refine awp_seq ?_
              refine awp_run rfl ?_
              refine awp_weak (s' := { ts := [(1, .p (j64 L)), (2, .p (j64 a)), (4, .ptr (.l 4) 0), (14, .p (j64 lp)), (15, .p (j64 0))], L := [(4, [.p (j64 4), .p (j64 n), .p (.vec (E.rows ex)), .p (.vec (S.rows bo)), .p (.vec (S.rows ot))])], G := G }) (weakL _ ⟨rfl, rfl, rfl, rfl, rfl, trivial⟩ rfl rfl) ?_
              refine awp_forA (fun mm s => ∃ (i : Nat) , s = { ts := [(1, .p (j64 L)), (2, .p (j64 a)), (4, .ptr (.l 4) 0), (14, .p (j64 lp)), (15, .p (j64 i))], L := [(4, [.p (j64 4), .p (j64 n), .p (.vec (E.rows ex)), .p (.vec (S.rows bo)), .p (.vec (S.rows ot))])], G := G } ∧ i ≤ ex.length ∧ mm = ex.length - i ∧ exprsOk L (a + 1) ex = exprsOk L (a + 1) (ex.drop i))
                (fun s => s = { ts := [(1, .p (j64 L)), (2, .p (j64 a)), (4, .ptr (.l 4) 0), (14, .p (j64 lp))], L := [(4, [.p (j64 4), .p (j64 n), .p (.vec (E.rows ex)), .p (.vec (S.rows bo)), .p (.vec (S.rows ot))])], G := G } ∧ exprsOk L (a + 1) ex = true) ex.length ⟨0, rfl, by omega, by omega, by simp⟩ ?_ ?_
              · rintro mm s ⟨i, rfl, hi_i, rfl, hI0⟩
                refine awp_seq ?_
                refine awp_seq ?_
                refine awp_ops ?_
                refine vopsL_take 4 rfl ?_
                refine vopsL_cmp rfl rfl rfl (by decide) rfl fun b hb120 => ?_
                cases b with
                | false =>
                  have hge_i := ge_eq (E.rows_len ex) hi_i hb120
                  refine awp_if false rfl (fun e => by cases e) fun _ => ?_
                  refine awp_exit ?_
                  refine ⟨{ ts := [(1, .p (j64 L)), (2, .p (j64 a)), (4, .ptr (.l 4) 0), (14, .p (j64 lp))], L := [(4, [.p (j64 4), .p (j64 n), .p (.vec (E.rows ex)), .p (.vec (S.rows bo)), .p (.vec (S.rows ot))])], G := G }, weakL _ ⟨rfl, rfl, rfl, rfl, trivial⟩ rfl rfl, rfl, ?_⟩
                  subst hge_i
                  simpa [exprsOk] using hI0
                | true =>
                  obtain ⟨e, he_i, hlt_i⟩ := lt_get (E.rows_len ex) hb120
                  have hx_i := E.rows_get he_i
                  have hdr_i := drop_get he_i
                  obtain ⟨eop, en, enm, eks⟩ := e
                  refine awp_if true rfl (fun _ => ?_) (fun e => by cases e)
                  refine awp_skip ?_
                  refine awp_seq ?_
                  refine awp_block ?_
                  refine awp_seq ?_
                  refine awp_ops ?_
                  refine vopsL_take 3 rfl ?_
                  refine vopsL_idx hx_i rfl rfl rfl (by decide) rfl rfl rfl rfl (by decide) ?_
                  refine vopsL_take 4 rfl ?_
                  rw [wrap64 (x := a + 1) (by omega)]
                  refine vopsL_fn rfl rfl rfl (exprRC (.mk eop en enm eks) L (a + 1) G (by omega) (by omega)) ?_
                  cases hb131 : exprOk L (a + 1) (.mk eop en enm eks) with
                  | false =>
                    refine vopsL_take 1 rfl ?_
                    refine awp_if true rfl (fun _ => ?_) (fun e => by cases e)
                    refine awp_seq ?_
                    refine awp_run rfl ?_
                    refine awp_ret ?_
                    refine q_block (q_ret (q_for (q_ret ?_)))
                    exact leave_ret_same [] rfl hG (List.append_nil G).symm rfl ⟨congrArg (fun b => AEnd.ret (.p (.bool b))) (by rw [statOk, hI0, hdr_i]; simp [exprsOk, hb131]), rfl⟩
                  | true =>
                    refine vopsL_take 1 rfl ?_
                    refine awp_if false rfl (fun e => by cases e) fun _ => ?_
                    refine awp_skip ?_
                    refine awp_run rfl ?_
                    rw [wrap64 (x := (i : Int) + 1) (by omega)]
                    refine ⟨{ ts := [(1, .p (j64 L)), (2, .p (j64 a)), (4, .ptr (.l 4) 0), (14, .p (j64 lp)), (15, .p (j64 (i + 1 : Nat)))], L := [(4, [.p (j64 4), .p (j64 n), .p (.vec (E.rows ex)), .p (.vec (S.rows bo)), .p (.vec (S.rows ot))])], G := G }, weakL _ ⟨rfl, rfl, rfl, rfl, rfl, trivial⟩ rfl rfl, ex.length - (i + 1), by omega, i + 1, rfl, by omega, rfl, ?_⟩
                    rw [hI0, hdr_i]; simp [exprsOk, hb131]
              · rintro s ⟨rfl, hX0⟩
                refine awp_seq ?_
                refine awp_ops ?_
                refine vopsL_take 6 rfl ?_
                rw [wrap64 (x := a + 1) (by omega)]
                refine vopsL_fn rfl rfl rfl (ihb L (a + 1) (lp) G (by omega) (by omega) (by omega)) ?_
                cases hb139 : statsOk L (lp) (a + 1) bo with
                | false =>
                  refine vopsL_take 10 rfl ?_
                  refine awp_ret ?_
                  exact leave_ret_same [] rfl hG (List.append_nil G).symm rfl ⟨congrArg (fun b => AEnd.ret (.p (.bool b))) (by rw [statOk, hX0]; simp_all [formOk, hasOk, placeOk, codeOk] <;> omega), rfl⟩
                | true =>
                  refine vopsL_take 7 rfl ?_
                  rw [wrap64 (x := a + 1) (by omega)]
                  refine vopsL_fnG rfl rfl rfl rfl (iho L (a + 1) (lp) G (by omega) (by omega) (by omega)) ?_
                  cases hb147 : statsOk L (lp) (a + 1) ot with
                  | false =>
                    refine vopsL_take 2 rfl ?_
                    refine awp_ret ?_
                    exact leave_ret_same [] rfl hG (List.append_nil G).symm rfl ⟨congrArg (fun b => AEnd.ret (.p (.bool b))) (by rw [statOk, hX0]; simp_all [formOk, hasOk, placeOk, codeOk] <;> omega), rfl⟩
                  | true =>
                    refine vopsL_take 2 rfl ?_
                    refine awp_ret ?_
                    exact leave_ret_same [] rfl hG (List.append_nil G).symm rfl ⟨congrArg (fun b => AEnd.ret (.p (.bool b))) (by rw [statOk, hX0]; simp_all [formOk, hasOk, placeOk, codeOk] <;> omega), rfl⟩
            | true =>
              refine vopsL_take 1 rfl ?_
              refine awp_if true rfl (fun _ => ?_) (fun e => by cases e)
              refine awp_seq ?_
              refine awp_run rfl ?_
              refine awp_ret ?_
              refine q_ret ?_
              exact leave_ret_same [] rfl hG (List.append_nil G).symm rfl ⟨congrArg (fun b => AEnd.ret (.p (.bool b))) (by simp_all [statOk, formOk, hasOk, placeOk, codeOk] <;> omega), rfl⟩
          | true =>
            have h109 := of_decide_eq_true hb109
            rw [hlO] at h109
            have hk2 : ot ≠ [] := by rintro rfl; simp at h109
            refine vopsL_take 6 rfl ?_
            refine awp_if true rfl (fun _ => ?_) (fun e => by cases e)
            refine awp_seq ?_
            refine awp_run rfl ?_
            refine awp_ret ?_
            refine q_ret ?_
            exact leave_ret_same [] rfl hG (List.append_nil G).symm rfl ⟨congrArg (fun b => AEnd.ret (.p (.bool b))) (by simp_all [statOk, formOk, hasOk, placeOk, codeOk] <;> omega), rfl⟩
        | true =>
          have h99 := of_decide_eq_true hb99
          rw [hlB] at h99
          have hk1 : bo ≠ [] := by rintro rfl; simp at h99
          refine vopsL_take 16 rfl ?_
          refine awp_if true rfl (fun _ => ?_) (fun e => by cases e)
          refine awp_seq ?_
          refine awp_run rfl ?_
          refine awp_ret ?_
          refine q_ret ?_
          exact leave_ret_same [] rfl hG (List.append_nil G).symm rfl ⟨congrArg (fun b => AEnd.ret (.p (.bool b))) (by simp_all [statOk, formOk, hasOk, placeOk, codeOk] <;> omega), rfl⟩
      | true =>
        have h90 := of_decide_eq_true hb90
        rw [hlE] at h90
        have hk0 : ex ≠ [] := by rintro rfl; simp at h90
        refine vopsL_take 25 rfl ?_
        refine awp_if true rfl (fun _ => ?_) (fun e => by cases e)
        refine awp_seq ?_
        refine awp_run rfl ?_
        refine awp_ret ?_
        refine q_ret ?_
        exact leave_ret_same [] rfl hG (List.append_nil G).symm rfl ⟨congrArg (fun b => AEnd.ret (.p (.bool b))) (by simp_all [statOk, formOk, hasOk, placeOk, codeOk] <;> omega), rfl⟩
    | true =>
      have h83 := of_decide_eq_true hb83
      rw [hlE] at h83
      refine vopsL_take 32 rfl ?_
      refine awp_if true rfl (fun _ => ?_) (fun e => by cases e)
      refine awp_seq ?_
      refine awp_run rfl ?_
      refine awp_ret ?_
      refine q_ret ?_
      exact leave_ret_same [] rfl hG (List.append_nil G).symm rfl ⟨congrArg (fun b => AEnd.ret (.p (.bool b))) (by simp_all [statOk, formOk, hasOk, placeOk, codeOk] <;> omega), rfl⟩
theorem c_rstat5 (L lp a n : Int) (ex : List E) (bo ot : List S) (G : List Blk) (h1 : 0 ≤ lp) (h2 : lp ≤ a) (h3 : a ≤ 101) (ihb : StatsRC bo) (iho : StatsRC ot) : FnIs Try.prog 115 [.agg (S.args (.mk 5 n ex bo ot)), .p (j64 L), .p (j64 a), .p (j64 lp)] G (.p (.bool (statOk L lp a (.mk 5 n ex bo ot)))) := by
  have hlE := E.rows_len ex
  have hlB := S.rows_len bo
  have hlO := S.rows_len ot
  refine acalls_fn (cfg 149) Try.func115 rfl rfl rfl (by simp) fun hG => ?_
  refine awp_seq ?_
  refine awp_run rfl ?_
  refine awp_seq ?_
  refine awp_run rfl ?_
  refine awp_seq ?_
  refine awp_ops ?_
  refine vopsL_take 2 rfl ?_
  refine vopsL_cmp rfl rfl rfl (by decide) rfl fun b hb18 => ?_
  cases b with
  | false =>
    refine vopsL_take 1 rfl ?_
    refine awp_seq ?_
    refine awp_run rfl ?_
    refine awp_seq ?_
    refine awp_seq ?_
    refine awp_run rfl ?_
    refine awp_block ?_
    refine awp_seq ?_
    refine awp_run rfl ?_
    refine awp_if false rfl (fun e => by cases e) fun _ => ?_
    refine awp_seq ?_
    refine awp_run rfl ?_
    refine awp_if false rfl (fun e => by cases e) fun _ => ?_
    refine awp_seq ?_
    refine awp_seq ?_
    refine awp_run rfl ?_
    refine awp_if false rfl (fun e => by cases e) fun _ => ?_
    refine awp_run rfl ?_
    refine awp_if false rfl (fun e => by cases e) fun _ => ?_
    refine awp_seq ?_
    refine awp_run rfl ?_
    refine awp_if true rfl (fun _ => ?_) (fun e => by cases e)
    refine awp_run rfl ?_
    refine awp_seq ?_
    refine awp_seq ?_
    refine awp_ops ?_
    refine vopsL_take 40 rfl ?_
    refine awp_if true rfl (fun _ => ?_) (fun e => by cases e)
    refine awp_seq ?_
    refine awp_run rfl ?_
    refine awp_ret ?_
    refine q_ret ?_
    exact leave_ret_same [] rfl hG (List.append_nil G).symm rfl ⟨congrArg (fun b => AEnd.ret (.p (.bool b))) (by simp_all [statOk, formOk, hasOk, placeOk, codeOk] <;> omega), rfl⟩
  | true =>
    refine vopsL_take 1 rfl ?_
    refine awp_seq ?_
    refine awp_run rfl ?_
    refine awp_seq ?_
    refine awp_seq ?_
    refine awp_run rfl ?_
    refine awp_block ?_
    refine awp_seq ?_
    refine awp_run rfl ?_
    refine awp_if false rfl (fun e => by cases e) fun _ => ?_
    refine awp_seq ?_
    refine awp_run rfl ?_
    refine awp_if false rfl (fun e => by cases e) fun _ => ?_
    refine awp_seq ?_
    refine awp_seq ?_
    refine awp_run rfl ?_
    refine awp_if false rfl (fun e => by cases e) fun _ => ?_
    refine awp_run rfl ?_
    refine awp_if false rfl (fun e => by cases e) fun _ => ?_
    refine awp_seq ?_
    refine awp_run rfl ?_
    refine awp_if true rfl (fun _ => ?_) (fun e => by cases e)
    refine awp_run rfl ?_
    refine awp_seq ?_
    refine awp_seq ?_
    refine awp_ops ?_
    refine vopsL_take 7 rfl ?_
    refine vopsL_cmpG rfl rfl rfl rfl (by decide) rfl fun b hb83 => ?_
    cases b with
    | false =>
      have h83 := of_decide_eq_false hb83
      rw [hlE] at h83
      refine vopsL_take 6 rfl ?_
      refine vopsL_cmpG rfl rfl rfl rfl (by decide) rfl fun b hb90 => ?_
      cases b with
      | false =>
        have h90 := of_decide_eq_false hb90
        rw [hlE] at h90
        refine vopsL_take 23 rfl ?_
        refine vopsL_cmpG rfl rfl rfl rfl (by decide) rfl fun b hb114 => ?_
        cases b with
        | false =>
          have ha : a ≤ 100 := by simpa using hb114
          have hkl : ex.length ≤ 2 := by omega
          refine vopsL_take 1 rfl ?_
          refine awp_if false rfl (fun e => by cases e) fun _ => ?_
          refine awp_skip ?_
          refine awp_seq ?_
          refine awp_seq ?_
          refine awp_run rfl ?_
          refine awp_weak (s' := { ts := [(1, .p (j64 L)), (2, .p (j64 a)), (4, .ptr (.l 4) 0), (14, .p (j64 lp)), (15, .p (j64 0))], L := [(4, [.p (j64 5), .p (j64 n), .p (.vec (E.rows ex)), .p (.vec (S.rows bo)), .p (.vec (S.rows ot))])], G := G }) (weakL _ ⟨rfl, rfl, rfl, rfl, rfl, trivial⟩ rfl rfl) ?_
          refine awp_forA (fun mm s => ∃ (i : Nat) , s = { ts := [(1, .p (j64 L)), (2, .p (j64 a)), (4, .ptr (.l 4) 0), (14, .p (j64 lp)), (15, .p (j64 i))], L := [(4, [.p (j64 5), .p (j64 n), .p (.vec (E.rows ex)), .p (.vec (S.rows bo)), .p (.vec (S.rows ot))])], G := G } ∧ i ≤ ex.length ∧ mm = ex.length - i ∧ exprsOk L (a + 1) ex = exprsOk L (a + 1) (ex.drop i))
            (fun s => s = { ts := [(1, .p (j64 L)), (2, .p (j64 a)), (4, .ptr (.l 4) 0), (14, .p (j64 lp))], L := [(4, [.p (j64 5), .p (j64 n), .p (.vec (E.rows ex)), .p (.vec (S.rows bo)), .p (.vec (S.rows ot))])], G := G } ∧ exprsOk L (a + 1) ex = true) ex.length ⟨0, rfl, by omega, by omega, by simp⟩ ?_ ?_
          · rintro mm s ⟨i, rfl, hi_i, rfl, hI0⟩
            refine awp_seq ?_
            refine awp_seq ?_
            refine awp_ops ?_
            refine vopsL_take 4 rfl ?_
            refine vopsL_cmp rfl rfl rfl (by decide) rfl fun b hb120 => ?_
            cases b with
            | false =>
              have hge_i := ge_eq (E.rows_len ex) hi_i hb120
              refine awp_if false rfl (fun e => by cases e) fun _ => ?_
              refine awp_exit ?_
              refine ⟨{ ts := [(1, .p (j64 L)), (2, .p (j64 a)), (4, .ptr (.l 4) 0), (14, .p (j64 lp))], L := [(4, [.p (j64 5), .p (j64 n), .p (.vec (E.rows ex)), .p (.vec (S.rows bo)), .p (.vec (S.rows ot))])], G := G }, weakL _ ⟨rfl, rfl, rfl, rfl, trivial⟩ rfl rfl, rfl, ?_⟩
              subst hge_i
              simpa [exprsOk] using hI0
            | true =>
              obtain ⟨e, he_i, hlt_i⟩ := lt_get (E.rows_len ex) hb120
              have hx_i := E.rows_get he_i
              have hdr_i := drop_get he_i
              obtain ⟨eop, en, enm, eks⟩ := e
              refine awp_if true rfl (fun _ => ?_) (fun e => by cases e)
              refine awp_skip ?_
              refine awp_seq ?_
              refine awp_block ?_
              refine awp_seq ?_
              refine awp_ops ?_
              refine vopsL_take 3 rfl ?_
              refine vopsL_idx hx_i rfl rfl rfl (by decide) rfl rfl rfl rfl (by decide) ?_
              refine vopsL_take 4 rfl ?_
              rw [wrap64 (x := a + 1) (by omega)]
              refine vopsL_fn rfl rfl rfl (exprRC (.mk eop en enm eks) L (a + 1) G (by omega) (by omega)) ?_
              cases hb131 : exprOk L (a + 1) (.mk eop en enm eks) with
              | false =>
                refine vopsL_take 1 rfl ?_
                refine awp_if true rfl (fun _ => ?_) (fun e => by cases e)
                refine awp_seq ?_
                refine awp_run rfl ?_
                refine awp_ret ?_
                refine q_block (q_ret (q_for (q_ret ?_)))
                exact leave_ret_same [] rfl hG (List.append_nil G).symm rfl ⟨congrArg (fun b => AEnd.ret (.p (.bool b))) (by rw [statOk, hI0, hdr_i]; simp [exprsOk, hb131]), rfl⟩
              | true =>
                refine vopsL_take 1 rfl ?_
                refine awp_if false rfl (fun e => by cases e) fun _ => ?_
                refine awp_skip ?_
                refine awp_run rfl ?_
                rw [wrap64 (x := (i : Int) + 1) (by omega)]
                refine ⟨{ ts := [(1, .p (j64 L)), (2, .p (j64 a)), (4, .ptr (.l 4) 0), (14, .p (j64 lp)), (15, .p (j64 (i + 1 : Nat)))], L := [(4, [.p (j64 5), .p (j64 n), .p (.vec (E.rows ex)), .p (.vec (S.rows bo)), .p (.vec (S.rows ot))])], G := G }, weakL _ ⟨rfl, rfl, rfl, rfl, rfl, trivial⟩ rfl rfl, ex.length - (i + 1), by omega, i + 1, rfl, by omega, rfl, ?_⟩
                rw [hI0, hdr_i]; simp [exprsOk, hb131]
          · rintro s ⟨rfl, hX0⟩
            refine awp_seq ?_
            refine awp_ops ?_
            refine vopsL_take 6 rfl ?_
            rw [wrap64 (x := a + 1) (by omega)]
            refine vopsL_fn rfl rfl rfl (ihb L (a + 1) (lp) G (by omega) (by omega) (by omega)) ?_
            cases hb139 : statsOk L (lp) (a + 1) bo with
            | false =>
              refine vopsL_take 10 rfl ?_
              refine awp_ret ?_
              exact leave_ret_same [] rfl hG (List.append_nil G).symm rfl ⟨congrArg (fun b => AEnd.ret (.p (.bool b))) (by rw [statOk, hX0]; simp_all [formOk, hasOk, placeOk, codeOk] <;> omega), rfl⟩
            | true =>
              refine vopsL_take 7 rfl ?_
              rw [wrap64 (x := a + 1) (by omega)]
              refine vopsL_fnG rfl rfl rfl rfl (iho L (a + 1) (lp) G (by omega) (by omega) (by omega)) ?_
              cases hb147 : statsOk L (lp) (a + 1) ot with
              | false =>
                refine vopsL_take 2 rfl ?_
                refine awp_ret ?_
                exact leave_ret_same [] rfl hG (List.append_nil G).symm rfl ⟨congrArg (fun b => AEnd.ret (.p (.bool b))) (by rw [statOk, hX0]; simp_all [formOk, hasOk, placeOk, codeOk] <;> omega), rfl⟩
              | true =>
                refine vopsL_take 2 rfl ?_
                refine awp_ret ?_
                exact leave_ret_same [] rfl hG (List.append_nil G).symm rfl ⟨congrArg (fun b => AEnd.ret (.p (.bool b))) (by rw [statOk, hX0]; simp_all [formOk, hasOk, placeOk, codeOk] <;> omega), rfl⟩
        | true =>
          refine vopsL_take 1 rfl ?_
          refine awp_if true rfl (fun _ => ?_) (fun e => by cases e)
          refine awp_seq ?_
          refine awp_run rfl ?_
          refine awp_ret ?_
          refine q_ret ?_
          exact leave_ret_same [] rfl hG (List.append_nil G).symm rfl ⟨congrArg (fun b => AEnd.ret (.p (.bool b))) (by simp_all [statOk, formOk, hasOk, placeOk, codeOk] <;> omega), rfl⟩
      | true =>
        have h90 := of_decide_eq_true hb90
        rw [hlE] at h90
        have hk0 : ex ≠ [] := by rintro rfl; simp at h90
        refine vopsL_take 25 rfl ?_
        refine awp_if true rfl (fun _ => ?_) (fun e => by cases e)
        refine awp_seq ?_
        refine awp_run rfl ?_
        refine awp_ret ?_
        refine q_ret ?_
        exact leave_ret_same [] rfl hG (List.append_nil G).symm rfl ⟨congrArg (fun b => AEnd.ret (.p (.bool b))) (by simp_all [statOk, formOk, hasOk, placeOk, codeOk] <;> omega), rfl⟩
    | true =>
      have h83 := of_decide_eq_true hb83
      rw [hlE] at h83
      refine vopsL_take 32 rfl ?_
      refine awp_if true rfl (fun _ => ?_) (fun e => by cases e)
      refine awp_seq ?_
      refine awp_run rfl ?_
      refine awp_ret ?_
      refine q_ret ?_
      exact leave_ret_same [] rfl hG (List.append_nil G).symm rfl ⟨congrArg (fun b => AEnd.ret (.p (.bool b))) (by simp_all [statOk, formOk, hasOk, placeOk, codeOk] <;> omega), rfl⟩
theorem c_rstat6 (L lp a n : Int) (ex : List E) (bo ot : List S) (G : List Blk) (h1 : 0 ≤ lp) (h2 : lp ≤ a) (h3 : a ≤ 101) (ihb : StatsRC bo) (iho : StatsRC ot) : FnIs Try.prog 115 [.agg (S.args (.mk 6 n ex bo ot)), .p (j64 L), .p (j64 a), .p (j64 lp)] G (.p (.bool (statOk L lp a (.mk 6 n ex bo ot)))) := by
  have hlE := E.rows_len ex
  have hlB := S.rows_len bo
  have hlO := S.rows_len ot
  refine acalls_fn (cfg 149) Try.func115 rfl rfl rfl (by simp) fun hG => ?_
  refine awp_seq ?_
  refine awp_run rfl ?_
  refine awp_seq ?_
  refine awp_run rfl ?_
  refine awp_seq ?_
  refine awp_ops ?_
  refine vopsL_take 2 rfl ?_
  refine vopsL_cmp rfl rfl rfl (by decide) rfl fun b hb18 => ?_
  cases b with
  | false =>
    refine vopsL_take 1 rfl ?_
    refine awp_seq ?_
    refine awp_run rfl ?_
    refine awp_seq ?_
    refine awp_seq ?_
    refine awp_run rfl ?_
    refine awp_block ?_
    refine awp_seq ?_
    refine awp_run rfl ?_
    refine awp_if false rfl (fun e => by cases e) fun _ => ?_
    refine awp_seq ?_
    refine awp_run rfl ?_
    refine awp_if false rfl (fun e => by cases e) fun _ => ?_
    refine awp_seq ?_
    refine awp_seq ?_
    refine awp_run rfl ?_
    refine awp_if false rfl (fun e => by cases e) fun _ => ?_
    refine awp_run rfl ?_
    refine awp_if false rfl (fun e => by cases e) fun _ => ?_
    refine awp_seq ?_
    refine awp_run rfl ?_
    refine awp_if false rfl (fun e => by cases e) fun _ => ?_
    refine awp_seq ?_
    refine awp_run rfl ?_
    refine awp_if true rfl (fun _ => ?_) (fun e => by cases e)
    refine awp_run rfl ?_
    rw [wrap64 (x := lp + 1) (by omega)]
    refine awp_seq ?_
    refine awp_seq ?_
    refine awp_ops ?_
    refine vopsL_take 40 rfl ?_
    refine awp_if true rfl (fun _ => ?_) (fun e => by cases e)
    refine awp_seq ?_
    refine awp_run rfl ?_
    refine awp_ret ?_
    refine q_ret ?_
    exact leave_ret_same [] rfl hG (List.append_nil G).symm rfl ⟨congrArg (fun b => AEnd.ret (.p (.bool b))) (by simp_all [statOk, formOk, hasOk, placeOk, codeOk] <;> omega), rfl⟩
  | true =>
    refine vopsL_take 1 rfl ?_
    refine awp_seq ?_
    refine awp_run rfl ?_
    refine awp_seq ?_
    refine awp_seq ?_
    refine awp_run rfl ?_
    refine awp_block ?_
    refine awp_seq ?_
    refine awp_run rfl ?_
    refine awp_if false rfl (fun e => by cases e) fun _ => ?_
    refine awp_seq ?_
    refine awp_run rfl ?_
    refine awp_if false rfl (fun e => by cases e) fun _ => ?_
    refine awp_seq ?_
    refine awp_seq ?_
    refine awp_run rfl ?_
    refine awp_if false rfl (fun e => by cases e) fun _ => ?_
    refine awp_run rfl ?_
    refine awp_if false rfl (fun e => by cases e) fun _ => ?_
    refine awp_seq ?_
    refine awp_run rfl ?_
    refine awp_if false rfl (fun e => by cases e) fun _ => ?_
    refine awp_seq ?_
    refine awp_run rfl ?_
    refine awp_if true rfl (fun _ => ?_) (fun e => by cases e)
    refine awp_run rfl ?_
    rw [wrap64 (x := lp + 1) (by omega)]
    refine awp_seq ?_
    refine awp_seq ?_
    refine awp_ops ?_
    refine vopsL_take 7 rfl ?_
    refine vopsL_cmpG rfl rfl rfl rfl (by decide) rfl fun b hb83 => ?_
    cases b with
    | false =>
      have h83 := of_decide_eq_false hb83
      rw [hlE] at h83
      refine vopsL_take 6 rfl ?_
      refine vopsL_cmpG rfl rfl rfl rfl (by decide) rfl fun b hb90 => ?_
      cases b with
      | false =>
        have h90 := of_decide_eq_false hb90
        rw [hlE] at h90
        refine vopsL_take 18 rfl ?_
        refine vopsL_cmpG rfl rfl rfl rfl (by decide) rfl fun b hb109 => ?_
        cases b with
        | false =>
          have h109 := of_decide_eq_false hb109
          rw [hlO] at h109
          have hk2 : ot = [] := List.eq_nil_of_length_eq_zero (by omega)
          refine vopsL_take 4 rfl ?_
          refine vopsL_cmpG rfl rfl rfl rfl (by decide) rfl fun b hb114 => ?_
          cases b with
          | false =>
            have ha : a ≤ 100 := by simpa using hb114
            have hkl : ex.length ≤ 2 := by omega
            refine vopsL_take 1 rfl ?_
            refine awp_if false rfl (fun e => by cases e) fun _ => ?_
            refine awp_skip ?_
            refine awp_seq ?_
            refine awp_seq ?_
            refine awp_run rfl ?_
            refine awp_weak (s' := { ts := [(1, .p (j64 L)), (2, .p (j64 a)), (4, .ptr (.l 4) 0), (14, .p (j64 (lp + 1))), (15, .p (j64 0))], L := [(4, [.p (j64 6), .p (j64 n), .p (.vec (E.rows ex)), .p (.vec (S.rows bo)), .p (.vec (S.rows ot))])], G := G }) (weakL _ ⟨rfl, rfl, rfl, rfl, rfl, trivial⟩ rfl rfl) ?_
            refine awp_forA (fun mm s => ∃ (i : Nat) , s = { ts := [(1, .p (j64 L)), (2, .p (j64 a)), (4, .ptr (.l 4) 0), (14, .p (j64 (lp + 1))), (15, .p (j64 i))], L := [(4, [.p (j64 6), .p (j64 n), .p (.vec (E.rows ex)), .p (.vec (S.rows bo)), .p (.vec (S.rows ot))])], G := G } ∧ i ≤ ex.length ∧ mm = ex.length - i ∧ exprsOk L (a + 1) ex = exprsOk L (a + 1) (ex.drop i))
              (fun s => s = { ts := [(1, .p (j64 L)), (2, .p (j64 a)), (4, .ptr (.l 4) 0), (14, .p (j64 (lp + 1)))], L := [(4, [.p (j64 6), .p (j64 n), .p (.vec (E.rows ex)), .p (.vec (S.rows bo)), .p (.vec (S.rows ot))])], G := G } ∧ exprsOk L (a + 1) ex = true) ex.length ⟨0, rfl, by omega, by omega, by simp⟩ ?_ ?_
            · rintro mm s ⟨i, rfl, hi_i, rfl, hI0⟩
              refine awp_seq ?_
              refine awp_seq ?_
              refine awp_ops ?_
              refine vopsL_take 4 rfl ?_
              refine vopsL_cmp rfl rfl rfl (by decide) rfl fun b hb120 => ?_
              cases b with
              | false =>
                have hge_i := ge_eq (E.rows_len ex) hi_i hb120
                refine awp_if false rfl (fun e => by cases e) fun _ => ?_
                refine awp_exit ?_
                refine ⟨{ ts := [(1, .p (j64 L)), (2, .p (j64 a)), (4, .ptr (.l 4) 0), (14, .p (j64 (lp + 1)))], L := [(4, [.p (j64 6), .p (j64 n), .p (.vec (E.rows ex)), .p (.vec (S.rows bo)), .p (.vec (S.rows ot))])], G := G }, weakL _ ⟨rfl, rfl, rfl, rfl, trivial⟩ rfl rfl, rfl, ?_⟩
                subst hge_i
                simpa [exprsOk] using hI0
              | true =>
                obtain ⟨e, he_i, hlt_i⟩ := lt_get (E.rows_len ex) hb120
                have hx_i := E.rows_get he_i
                have hdr_i := drop_get he_i
                obtain ⟨eop, en, enm, eks⟩ := e
                refine awp_if true rfl (fun _ => ?_) (fun e => by cases e)
                refine awp_skip ?_
                refine awp_seq ?_
                refine awp_block ?_
                refine awp_seq ?_
                refine awp_ops ?_
                refine vopsL_take 3 rfl ?_
                refine vopsL_idx hx_i rfl rfl rfl (by decide) rfl rfl rfl rfl (by decide) ?_
                refine vopsL_take 4 rfl ?_
                rw [wrap64 (x := a + 1) (by omega)]
                refine vopsL_fn rfl rfl rfl (exprRC (.mk eop en enm eks) L (a + 1) G (by omega) (by omega)) ?_
                cases hb131 : exprOk L (a + 1) (.mk eop en enm eks) with
                | false =>
                  refine vopsL_take 1 rfl ?_
                  refine awp_if true rfl (fun _ => ?_) (fun e => by cases e)
                  refine awp_seq ?_
                  refine awp_run rfl ?_
                  refine awp_ret ?_
                  refine q_block (q_ret (q_for (q_ret ?_)))
                  exact leave_ret_same [] rfl hG (List.append_nil G).symm rfl ⟨congrArg (fun b => AEnd.ret (.p (.bool b))) (by rw [statOk, hI0, hdr_i]; simp [exprsOk, hb131]), rfl⟩
                | true =>
                  refine vopsL_take 1 rfl ?_
                  refine awp_if false rfl (fun e => by cases e) fun _ => ?_
                  refine awp_skip ?_
                  refine awp_run rfl ?_
                  rw [wrap64 (x := (i : Int) + 1) (by omega)]
                  refine ⟨{ ts := [(1, .p (j64 L)), (2, .p (j64 a)), (4, .ptr (.l 4) 0), (14, .p (j64 (lp + 1))), (15, .p (j64 (i + 1 : Nat)))], L := [(4, [.p (j64 6), .p (j64 n), .p (.vec (E.rows ex)), .p (.vec (S.rows bo)), .p (.vec (S.rows ot))])], G := G }, weakL _ ⟨rfl, rfl, rfl, rfl, rfl, trivial⟩ rfl rfl, ex.length - (i + 1), by omega, i + 1, rfl, by omega, rfl, ?_⟩
                  rw [hI0, hdr_i]; simp [exprsOk, hb131]
            · rintro s ⟨rfl, hX0⟩
              refine awp_seq ?_
              refine awp_ops ?_
              refine vopsL_take 6 rfl ?_
              rw [wrap64 (x := a + 1) (by omega)]
              refine vopsL_fn rfl rfl rfl (ihb L (a + 1) (lp + 1) G (by omega) (by omega) (by omega)) ?_
              cases hb139 : statsOk L (lp + 1) (a + 1) bo with
              | false =>
                refine vopsL_take 10 rfl ?_
                refine awp_ret ?_
                exact leave_ret_same [] rfl hG (List.append_nil G).symm rfl ⟨congrArg (fun b => AEnd.ret (.p (.bool b))) (by rw [statOk, hX0]; simp_all [formOk, hasOk, placeOk, codeOk] <;> omega), rfl⟩
              | true =>
                refine vopsL_take 7 rfl ?_
                rw [wrap64 (x := a + 1) (by omega)]
                refine vopsL_fnG rfl rfl rfl rfl (iho L (a + 1) (lp + 1) G (by omega) (by omega) (by omega)) ?_
                cases hb147 : statsOk L (lp + 1) (a + 1) ot with
                | false =>
                  refine vopsL_take 2 rfl ?_
                  refine awp_ret ?_
                  exact leave_ret_same [] rfl hG (List.append_nil G).symm rfl ⟨congrArg (fun b => AEnd.ret (.p (.bool b))) (by rw [statOk, hX0]; simp_all [formOk, hasOk, placeOk, codeOk] <;> omega), rfl⟩
                | true =>
                  refine vopsL_take 2 rfl ?_
                  refine awp_ret ?_
                  exact leave_ret_same [] rfl hG (List.append_nil G).symm rfl ⟨congrArg (fun b => AEnd.ret (.p (.bool b))) (by rw [statOk, hX0]; simp_all [formOk, hasOk, placeOk, codeOk] <;> omega), rfl⟩
          | true =>
            refine vopsL_take 1 rfl ?_
            refine awp_if true rfl (fun _ => ?_) (fun e => by cases e)
            refine awp_seq ?_
            refine awp_run rfl ?_
            refine awp_ret ?_
            refine q_ret ?_
            exact leave_ret_same [] rfl hG (List.append_nil G).symm rfl ⟨congrArg (fun b => AEnd.ret (.p (.bool b))) (by simp_all [statOk, formOk, hasOk, placeOk, codeOk] <;> omega), rfl⟩
        | true =>
          have h109 := of_decide_eq_true hb109
          rw [hlO] at h109
          have hk2 : ot ≠ [] := by rintro rfl; simp at h109
          refine vopsL_take 6 rfl ?_
          refine awp_if true rfl (fun _ => ?_) (fun e => by cases e)
          refine awp_seq ?_
          refine awp_run rfl ?_
          refine awp_ret ?_
          refine q_ret ?_
          exact leave_ret_same [] rfl hG (List.append_nil G).symm rfl ⟨congrArg (fun b => AEnd.ret (.p (.bool b))) (by simp_all [statOk, formOk, hasOk, placeOk, codeOk] <;> omega), rfl⟩
      | true =>
        have h90 := of_decide_eq_true hb90
        rw [hlE] at h90
        have hk0 : ex ≠ [] := by rintro rfl; simp at h90
        refine vopsL_take 25 rfl ?_
        refine awp_if true rfl (fun _ => ?_) (fun e => by cases e)
        refine awp_seq ?_
        refine awp_run rfl ?_
        refine awp_ret ?_
        refine q_ret ?_
        exact leave_ret_same [] rfl hG (List.append_nil G).symm rfl ⟨congrArg (fun b => AEnd.ret (.p (.bool b))) (by simp_all [statOk, formOk, hasOk, placeOk, codeOk] <;> omega), rfl⟩
    | true =>
      have h83 := of_decide_eq_true hb83
      rw [hlE] at h83
      refine vopsL_take 32 rfl ?_
      refine awp_if true rfl (fun _ => ?_) (fun e => by cases e)
      refine awp_seq ?_
      refine awp_run rfl ?_
      refine awp_ret ?_
      refine q_ret ?_
      exact leave_ret_same [] rfl hG (List.append_nil G).symm rfl ⟨congrArg (fun b => AEnd.ret (.p (.bool b))) (by simp_all [statOk, formOk, hasOk, placeOk, codeOk] <;> omega), rfl⟩
theorem c_rstat7 (L lp a n : Int) (ex : List E) (bo ot : List S) (G : List Blk) (h1 : 0 ≤ lp) (h2 : lp ≤ a) (h3 : a ≤ 101) (ihb : StatsRC bo) (iho : StatsRC ot) : FnIs Try.prog 115 [.agg (S.args (.mk 7 n ex bo ot)), .p (j64 L), .p (j64 a), .p (j64 lp)] G (.p (.bool (statOk L lp a (.mk 7 n ex bo ot)))) := by
  have hlE := E.rows_len ex
  have hlB := S.rows_len bo
  have hlO := S.rows_len ot
  refine acalls_fn (cfg 149) Try.func115 rfl rfl rfl (by simp) fun hG => ?_
  refine awp_seq ?_
  refine awp_run rfl ?_
  refine awp_seq ?_
  refine awp_run rfl ?_
  refine awp_seq ?_
  refine awp_ops ?_
  refine vopsL_take 2 rfl ?_
  refine vopsL_cmp rfl rfl rfl (by decide) rfl fun b hb18 => ?_
  cases b with
  | false =>
    refine vopsL_take 1 rfl ?_
    refine awp_seq ?_
    refine awp_run rfl ?_
    refine awp_seq ?_
    refine awp_seq ?_
    refine awp_run rfl ?_
    refine awp_block ?_
    refine awp_seq ?_
    refine awp_run rfl ?_
    refine awp_if false rfl (fun e => by cases e) fun _ => ?_
    refine awp_seq ?_
    refine awp_run rfl ?_
    refine awp_if false rfl (fun e => by cases e) fun _ => ?_
    refine awp_seq ?_
    refine awp_seq ?_
    refine awp_run rfl ?_
    refine awp_if false rfl (fun e => by cases e) fun _ => ?_
    refine awp_run rfl ?_
    refine awp_if false rfl (fun e => by cases e) fun _ => ?_
    refine awp_seq ?_
    refine awp_run rfl ?_
    refine awp_if false rfl (fun e => by cases e) fun _ => ?_
    refine awp_seq ?_
    refine awp_run rfl ?_
    refine awp_if false rfl (fun e => by cases e) fun _ => ?_
    refine awp_seq ?_
    refine awp_seq ?_
    refine awp_run rfl ?_
    refine awp_if true rfl (fun _ => ?_) (fun e => by cases e)
    refine awp_skip ?_
    refine awp_if true rfl (fun _ => ?_) (fun e => by cases e)
    refine awp_sl mixed (by kernel_rfl) ?_
    refine vsl_take 2 rfl ?_
    refine vsl_cmp rfl rfl rfl fun b hb57 => ?_
    cases b with
    | false =>
      refine vsl_take 9 rfl ?_
      refine vsl_done ?_
      refine awp_seq ?_
      refine awp_seq ?_
      refine awp_ops ?_
      refine vopsL_take 40 rfl ?_
      refine awp_if true rfl (fun _ => ?_) (fun e => by cases e)
      refine awp_seq ?_
      refine awp_run rfl ?_
      refine awp_ret ?_
      refine q_ret ?_
      exact leave_ret_same [] rfl hG (List.append_nil G).symm rfl ⟨congrArg (fun b => AEnd.ret (.p (.bool b))) (by simp_all [statOk, formOk, hasOk, placeOk, codeOk] <;> omega), rfl⟩
    | true =>
      refine vsl_take 4 rfl ?_
      refine vsl_cmpG rfl rfl rfl rfl fun b hb62 => ?_
      cases b with
      | false =>
        refine vsl_take 4 rfl ?_
        refine vsl_done ?_
        refine awp_seq ?_
        refine awp_seq ?_
        refine awp_ops ?_
        refine vopsL_take 40 rfl ?_
        refine awp_if true rfl (fun _ => ?_) (fun e => by cases e)
        refine awp_seq ?_
        refine awp_run rfl ?_
        refine awp_ret ?_
        refine q_ret ?_
        exact leave_ret_same [] rfl hG (List.append_nil G).symm rfl ⟨congrArg (fun b => AEnd.ret (.p (.bool b))) (by simp_all [statOk, formOk, hasOk, placeOk, codeOk] <;> omega), rfl⟩
      | true =>
        refine vsl_take 4 rfl ?_
        refine vsl_done ?_
        refine awp_seq ?_
        refine awp_seq ?_
        refine awp_ops ?_
        refine vopsL_take 7 rfl ?_
        refine vopsL_cmpG rfl rfl rfl rfl (by decide) rfl fun b hb83 => ?_
        cases b with
        | false =>
          have h83 := of_decide_eq_false hb83
          rw [hlE] at h83
          refine vopsL_take 6 rfl ?_
          refine vopsL_cmpG rfl rfl rfl rfl (by decide) rfl fun b hb90 => ?_
          cases b with
          | false =>
            have h90 := of_decide_eq_false hb90
            rw [hlE] at h90
            refine vopsL_take 8 rfl ?_
            refine vopsL_cmpG rfl rfl rfl rfl (by decide) rfl fun b hb99 => ?_
            cases b with
            | false =>
              have h99 := of_decide_eq_false hb99
              rw [hlB] at h99
              have hk1 : bo = [] := List.eq_nil_of_length_eq_zero (by omega)
              refine vopsL_take 9 rfl ?_
              refine vopsL_cmpG rfl rfl rfl rfl (by decide) rfl fun b hb109 => ?_
              cases b with
              | false =>
                have h109 := of_decide_eq_false hb109
                rw [hlO] at h109
                have hk2 : ot = [] := List.eq_nil_of_length_eq_zero (by omega)
                refine vopsL_take 4 rfl ?_
                refine vopsL_cmpG rfl rfl rfl rfl (by decide) rfl fun b hb114 => ?_
                cases b with
                | false =>
                  have ha : a ≤ 100 := by simpa using hb114
                  have hkl : ex.length ≤ 2 := by omega
                  refine vopsL_take 1 rfl ?_
                  refine awp_if false rfl (fun e => by cases e) fun _ => ?_
                  refine awp_skip ?_
                  refine awp_seq ?_
                  refine awp_seq ?_
                  refine awp_run rfl ?_
                  refine awp_weak (s' := { ts := [(1, .p (j64 L)), (2, .p (j64 a)), (4, .ptr (.l 4) 0), (14, .p (j64 lp)), (15, .p (j64 0))], L := [(4, [.p (j64 7), .p (j64 n), .p (.vec (E.rows ex)), .p (.vec (S.rows bo)), .p (.vec (S.rows ot))])], G := G }) (weakL _ ⟨rfl, rfl, rfl, rfl, rfl, trivial⟩ rfl rfl) ?_
                  refine awp_forA (fun mm s => ∃ (i : Nat) , s = { ts := [(1, .p (j64 L)), (2, .p (j64 a)), (4, .ptr (.l 4) 0), (14, .p (j64 lp)), (15, .p (j64 i))], L := [(4, [.p (j64 7), .p (j64 n), .p (.vec (E.rows ex)), .p (.vec (S.rows bo)), .p (.vec (S.rows ot))])], G := G } ∧ i ≤ ex.length ∧ mm = ex.length - i ∧ exprsOk L (a + 1) ex = exprsOk L (a + 1) (ex.drop i))
                    (fun s => s = { ts := [(1, .p (j64 L)), (2, .p (j64 a)), (4, .ptr (.l 4) 0), (14, .p (j64 lp))], L := [(4, [.p (j64 7), .p (j64 n), .p (.vec (E.rows ex)), .p (.vec (S.rows bo)), .p (.vec (S.rows ot))])], G := G } ∧ exprsOk L (a + 1) ex = true) ex.length ⟨0, rfl, by omega, by omega, by simp⟩ ?_ ?_
                  · rintro mm s ⟨i, rfl, hi_i, rfl, hI0⟩
                    refine awp_seq ?_
                    refine awp_seq ?_
                    refine awp_ops ?_
                    refine vopsL_take 4 rfl ?_
                    refine vopsL_cmp rfl rfl rfl (by decide) rfl fun b hb120 => ?_
                    cases b with
                    | false =>
                      have hge_i := ge_eq (E.rows_len ex) hi_i hb120
                      refine awp_if false rfl (fun e => by cases e) fun _ => ?_
                      refine awp_exit ?_
                      refine ⟨{ ts := [(1, .p (j64 L)), (2, .p (j64 a)), (4, .ptr (.l 4) 0), (14, .p (j64 lp))], L := [(4, [.p (j64 7), .p (j64 n), .p (.vec (E.rows ex)), .p (.vec (S.rows bo)), .p (.vec (S.rows ot))])], G := G }, weakL _ ⟨rfl, rfl, rfl, rfl, trivial⟩ rfl rfl, rfl, ?_⟩
                      subst hge_i
                      simpa [exprsOk] using hI0
                    | true =>
                      obtain ⟨e, he_i, hlt_i⟩ := lt_get (E.rows_len ex) hb120
                      have hx_i := E.rows_get he_i
                      have hdr_i := drop_get he_i
                      obtain ⟨eop, en, enm, eks⟩ := e
                      refine awp_if true rfl (fun _ => ?_) (fun e => by cases e)
                      refine awp_skip ?_
                      refine awp_seq ?_
                      refine awp_block ?_
                      refine awp_seq ?_
                      refine awp_ops ?_
                      refine vopsL_take 3 rfl ?_
                      refine vopsL_idx hx_i rfl rfl rfl (by decide) rfl rfl rfl rfl (by decide) ?_
                      refine vopsL_take 4 rfl ?_
                      rw [wrap64 (x := a + 1) (by omega)]
                      refine vopsL_fn rfl rfl rfl (exprRC (.mk eop en enm eks) L (a + 1) G (by omega) (by omega)) ?_
                      cases hb131 : exprOk L (a + 1) (.mk eop en enm eks) with
                      | false =>
                        refine vopsL_take 1 rfl ?_
                        refine awp_if true rfl (fun _ => ?_) (fun e => by cases e)
                        refine awp_seq ?_
                        refine awp_run rfl ?_
                        refine awp_ret ?_
                        refine q_block (q_ret (q_for (q_ret ?_)))
                        exact leave_ret_same [] rfl hG (List.append_nil G).symm rfl ⟨congrArg (fun b => AEnd.ret (.p (.bool b))) (by rw [statOk, hI0, hdr_i]; simp [exprsOk, hb131]), rfl⟩
                      | true =>
                        refine vopsL_take 1 rfl ?_
                        refine awp_if false rfl (fun e => by cases e) fun _ => ?_
                        refine awp_skip ?_
                        refine awp_run rfl ?_
                        rw [wrap64 (x := (i : Int) + 1) (by omega)]
                        refine ⟨{ ts := [(1, .p (j64 L)), (2, .p (j64 a)), (4, .ptr (.l 4) 0), (14, .p (j64 lp)), (15, .p (j64 (i + 1 : Nat)))], L := [(4, [.p (j64 7), .p (j64 n), .p (.vec (E.rows ex)), .p (.vec (S.rows bo)), .p (.vec (S.rows ot))])], G := G }, weakL _ ⟨rfl, rfl, rfl, rfl, rfl, trivial⟩ rfl rfl, ex.length - (i + 1), by omega, i + 1, rfl, by omega, rfl, ?_⟩
                        rw [hI0, hdr_i]; simp [exprsOk, hb131]
                  · rintro s ⟨rfl, hX0⟩
                    refine awp_seq ?_
                    refine awp_ops ?_
                    refine vopsL_take 6 rfl ?_
                    rw [wrap64 (x := a + 1) (by omega)]
                    refine vopsL_fn rfl rfl rfl (ihb L (a + 1) (lp) G (by omega) (by omega) (by omega)) ?_
                    cases hb139 : statsOk L (lp) (a + 1) bo with
                    | false =>
                      refine vopsL_take 10 rfl ?_
                      refine awp_ret ?_
                      exact leave_ret_same [] rfl hG (List.append_nil G).symm rfl ⟨congrArg (fun b => AEnd.ret (.p (.bool b))) (by rw [statOk, hX0]; simp_all [formOk, hasOk, placeOk, codeOk] <;> omega), rfl⟩
                    | true =>
                      refine vopsL_take 7 rfl ?_
                      rw [wrap64 (x := a + 1) (by omega)]
                      refine vopsL_fnG rfl rfl rfl rfl (iho L (a + 1) (lp) G (by omega) (by omega) (by omega)) ?_
                      cases hb147 : statsOk L (lp) (a + 1) ot with
                      | false =>
                        refine vopsL_take 2 rfl ?_
                        refine awp_ret ?_
                        exact leave_ret_same [] rfl hG (List.append_nil G).symm rfl ⟨congrArg (fun b => AEnd.ret (.p (.bool b))) (by rw [statOk, hX0]; simp_all [formOk, hasOk, placeOk, codeOk] <;> omega), rfl⟩
                      | true =>
                        refine vopsL_take 2 rfl ?_
                        refine awp_ret ?_
                        exact leave_ret_same [] rfl hG (List.append_nil G).symm rfl ⟨congrArg (fun b => AEnd.ret (.p (.bool b))) (by rw [statOk, hX0]; simp_all [formOk, hasOk, placeOk, codeOk] <;> omega), rfl⟩
                | true =>
                  refine vopsL_take 1 rfl ?_
                  refine awp_if true rfl (fun _ => ?_) (fun e => by cases e)
                  refine awp_seq ?_
                  refine awp_run rfl ?_
                  refine awp_ret ?_
                  refine q_ret ?_
                  exact leave_ret_same [] rfl hG (List.append_nil G).symm rfl ⟨congrArg (fun b => AEnd.ret (.p (.bool b))) (by simp_all [statOk, formOk, hasOk, placeOk, codeOk] <;> omega), rfl⟩
              | true =>
                have h109 := of_decide_eq_true hb109
                rw [hlO] at h109
                have hk2 : ot ≠ [] := by rintro rfl; simp at h109
                refine vopsL_take 6 rfl ?_
                refine awp_if true rfl (fun _ => ?_) (fun e => by cases e)
                refine awp_seq ?_
                refine awp_run rfl ?_
                refine awp_ret ?_
                refine q_ret ?_
                exact leave_ret_same [] rfl hG (List.append_nil G).symm rfl ⟨congrArg (fun b => AEnd.ret (.p (.bool b))) (by simp_all [statOk, formOk, hasOk, placeOk, codeOk] <;> omega), rfl⟩
            | true =>
              have h99 := of_decide_eq_true hb99
              rw [hlB] at h99
              have hk1 : bo ≠ [] := by rintro rfl; simp at h99
              refine vopsL_take 16 rfl ?_
              refine awp_if true rfl (fun _ => ?_) (fun e => by cases e)
              refine awp_seq ?_
              refine awp_run rfl ?_
              refine awp_ret ?_
              refine q_ret ?_
              exact leave_ret_same [] rfl hG (List.append_nil G).symm rfl ⟨congrArg (fun b => AEnd.ret (.p (.bool b))) (by simp_all [statOk, formOk, hasOk, placeOk, codeOk] <;> omega), rfl⟩
          | true =>
            have h90 := of_decide_eq_true hb90
            rw [hlE] at h90
            have hk0 : ex ≠ [] := by rintro rfl; simp at h90
            refine vopsL_take 25 rfl ?_
            refine awp_if true rfl (fun _ => ?_) (fun e => by cases e)
            refine awp_seq ?_
            refine awp_run rfl ?_
            refine awp_ret ?_
            refine q_ret ?_
            exact leave_ret_same [] rfl hG (List.append_nil G).symm rfl ⟨congrArg (fun b => AEnd.ret (.p (.bool b))) (by simp_all [statOk, formOk, hasOk, placeOk, codeOk] <;> omega), rfl⟩
        | true =>
          have h83 := of_decide_eq_true hb83
          rw [hlE] at h83
          refine vopsL_take 32 rfl ?_
          refine awp_if true rfl (fun _ => ?_) (fun e => by cases e)
          refine awp_seq ?_
          refine awp_run rfl ?_
          refine awp_ret ?_
          refine q_ret ?_
          exact leave_ret_same [] rfl hG (List.append_nil G).symm rfl ⟨congrArg (fun b => AEnd.ret (.p (.bool b))) (by simp_all [statOk, formOk, hasOk, placeOk, codeOk] <;> omega), rfl⟩
  | true =>
    refine vopsL_take 1 rfl ?_
    refine awp_seq ?_
    refine awp_run rfl ?_
    refine awp_seq ?_
    refine awp_seq ?_
    refine awp_run rfl ?_
    refine awp_block ?_
    refine awp_seq ?_
    refine awp_run rfl ?_
    refine awp_if false rfl (fun e => by cases e) fun _ => ?_
    refine awp_seq ?_
    refine awp_run rfl ?_
    refine awp_if false rfl (fun e => by cases e) fun _ => ?_
    refine awp_seq ?_
    refine awp_seq ?_
    refine awp_run rfl ?_
    refine awp_if false rfl (fun e => by cases e) fun _ => ?_
    refine awp_run rfl ?_
    refine awp_if false rfl (fun e => by cases e) fun _ => ?_
    refine awp_seq ?_
    refine awp_run rfl ?_
    refine awp_if false rfl (fun e => by cases e) fun _ => ?_
    refine awp_seq ?_
    refine awp_run rfl ?_
    refine awp_if false rfl (fun e => by cases e) fun _ => ?_
    refine awp_seq ?_
    refine awp_seq ?_
    refine awp_run rfl ?_
    refine awp_if true rfl (fun _ => ?_) (fun e => by cases e)
    refine awp_skip ?_
    refine awp_if true rfl (fun _ => ?_) (fun e => by cases e)
    refine awp_sl mixed (by kernel_rfl) ?_
    refine vsl_take 2 rfl ?_
    refine vsl_cmp rfl rfl rfl fun b hb57 => ?_
    cases b with
    | false =>
      refine vsl_take 9 rfl ?_
      refine vsl_done ?_
      refine awp_seq ?_
      refine awp_seq ?_
      refine awp_ops ?_
      refine vopsL_take 40 rfl ?_
      refine awp_if true rfl (fun _ => ?_) (fun e => by cases e)
      refine awp_seq ?_
      refine awp_run rfl ?_
      refine awp_ret ?_
      refine q_ret ?_
      exact leave_ret_same [] rfl hG (List.append_nil G).symm rfl ⟨congrArg (fun b => AEnd.ret (.p (.bool b))) (by simp_all [statOk, formOk, hasOk, placeOk, codeOk] <;> omega), rfl⟩
    | true =>
      refine vsl_take 4 rfl ?_
      refine vsl_cmpG rfl rfl rfl rfl fun b hb62 => ?_
      cases b with
      | false =>
        refine vsl_take 4 rfl ?_
        refine vsl_done ?_
        refine awp_seq ?_
        refine awp_seq ?_
        refine awp_ops ?_
        refine vopsL_take 40 rfl ?_
        refine awp_if true rfl (fun _ => ?_) (fun e => by cases e)
        refine awp_seq ?_
        refine awp_run rfl ?_
        refine awp_ret ?_
        refine q_ret ?_
        exact leave_ret_same [] rfl hG (List.append_nil G).symm rfl ⟨congrArg (fun b => AEnd.ret (.p (.bool b))) (by simp_all [statOk, formOk, hasOk, placeOk, codeOk] <;> omega), rfl⟩
      | true =>
        refine vsl_take 4 rfl ?_
        refine vsl_done ?_
        refine awp_seq ?_
        refine awp_seq ?_
        refine awp_ops ?_
        refine vopsL_take 7 rfl ?_
        refine vopsL_cmpG rfl rfl rfl rfl (by decide) rfl fun b hb83 => ?_
        cases b with
        | false =>
          have h83 := of_decide_eq_false hb83
          rw [hlE] at h83
          refine vopsL_take 6 rfl ?_
          refine vopsL_cmpG rfl rfl rfl rfl (by decide) rfl fun b hb90 => ?_
          cases b with
          | false =>
            have h90 := of_decide_eq_false hb90
            rw [hlE] at h90
            refine vopsL_take 8 rfl ?_
            refine vopsL_cmpG rfl rfl rfl rfl (by decide) rfl fun b hb99 => ?_
            cases b with
            | false =>
              have h99 := of_decide_eq_false hb99
              rw [hlB] at h99
              have hk1 : bo = [] := List.eq_nil_of_length_eq_zero (by omega)
              refine vopsL_take 9 rfl ?_
              refine vopsL_cmpG rfl rfl rfl rfl (by decide) rfl fun b hb109 => ?_
              cases b with
              | false =>
                have h109 := of_decide_eq_false hb109
                rw [hlO] at h109
                have hk2 : ot = [] := List.eq_nil_of_length_eq_zero (by omega)
                refine vopsL_take 4 rfl ?_
                refine vopsL_cmpG rfl rfl rfl rfl (by decide) rfl fun b hb114 => ?_
                cases b with
                | false =>
                  have ha : a ≤ 100 := by simpa using hb114
                  have hkl : ex.length ≤ 2 := by omega
                  refine vopsL_take 1 rfl ?_
                  refine awp_if false rfl (fun e => by cases e) fun _ => ?_
                  refine awp_skip ?_
                  refine awp_seq ?_
                  refine awp_seq ?_
                  refine awp_run rfl ?_
                  refine awp_weak (s' := { ts := [(1, .p (j64 L)), (2, .p (j64 a)), (4, .ptr (.l 4) 0), (14, .p (j64 lp)), (15, .p (j64 0))], L := [(4, [.p (j64 7), .p (j64 n), .p (.vec (E.rows ex)), .p (.vec (S.rows bo)), .p (.vec (S.rows ot))])], G := G }) (weakL _ ⟨rfl, rfl, rfl, rfl, rfl, trivial⟩ rfl rfl) ?_
                  refine awp_forA (fun mm s => ∃ (i : Nat) , s = { ts := [(1, .p (j64 L)), (2, .p (j64 a)), (4, .ptr (.l 4) 0), (14, .p (j64 lp)), (15, .p (j64 i))], L := [(4, [.p (j64 7), .p (j64 n), .p (.vec (E.rows ex)), .p (.vec (S.rows bo)), .p (.vec (S.rows ot))])], G := G } ∧ i ≤ ex.length ∧ mm = ex.length - i ∧ exprsOk L (a + 1) ex = exprsOk L (a + 1) (ex.drop i))
                    (fun s => s = { ts := [(1, .p (j64 L)), (2, .p (j64 a)), (4, .ptr (.l 4) 0), (14, .p (j64 lp))], L := [(4, [.p (j64 7), .p (j64 n), .p (.vec (E.rows ex)), .p (.vec (S.rows bo)), .p (.vec (S.rows ot))])], G := G } ∧ exprsOk L (a + 1) ex = true) ex.length ⟨0, rfl, by omega, by omega, by simp⟩ ?_ ?_
                  · rintro mm s ⟨i, rfl, hi_i, rfl, hI0⟩
                    refine awp_seq ?_
                    refine awp_seq ?_
                    refine awp_ops ?_
                    refine vopsL_take 4 rfl ?_
                    refine vopsL_cmp rfl rfl rfl (by decide) rfl fun b hb120 => ?_
                    cases b with
                    | false =>
                      have hge_i := ge_eq (E.rows_len ex) hi_i hb120
                      refine awp_if false rfl (fun e => by cases e) fun _ => ?_
                      refine awp_exit ?_
                      refine ⟨{ ts := [(1, .p (j64 L)), (2, .p (j64 a)), (4, .ptr (.l 4) 0), (14, .p (j64 lp))], L := [(4, [.p (j64 7), .p (j64 n), .p (.vec (E.rows ex)), .p (.vec (S.rows bo)), .p (.vec (S.rows ot))])], G := G }, weakL _ ⟨rfl, rfl, rfl, rfl, trivial⟩ rfl rfl, rfl, ?_⟩
                      subst hge_i
                      simpa [exprsOk] using hI0
                    | true =>
                      obtain ⟨e, he_i, hlt_i⟩ := lt_get (E.rows_len ex) hb120
                      have hx_i := E.rows_get he_i
                      have hdr_i := drop_get he_i
                      obtain ⟨eop, en, enm, eks⟩ := e
                      refine awp_if true rfl (fun _ => ?_) (fun e => by cases e)
                      refine awp_skip ?_
                      refine awp_seq ?_
                      refine awp_block ?_
                      refine awp_seq ?_
                      refine awp_ops ?_
                      refine vopsL_take 3 rfl ?_
                      refine vopsL_idx hx_i rfl rfl rfl (by decide) rfl rfl rfl rfl (by decide) ?_
                      refine vopsL_take 4 rfl ?_
                      rw [wrap64 (x := a + 1) (by omega)]
                      refine vopsL_fn rfl rfl rfl (exprRC (.mk eop en enm eks) L (a + 1) G (by omega) (by omega)) ?_
                      cases hb131 : exprOk L (a + 1) (.mk eop en enm eks) with
                      | false =>
                        refine vopsL_take 1 rfl ?_
                        refine awp_if true rfl (fun _ => ?_) (fun e => by cases e)
                        refine awp_seq ?_
                        refine awp_run rfl ?_
                        refine awp_ret ?_
                        refine q_block (q_ret (q_for (q_ret ?_)))
                        exact leave_ret_same [] rfl hG (List.append_nil G).symm rfl ⟨congrArg (fun b => AEnd.ret (.p (.bool b))) (by rw [statOk, hI0, hdr_i]; simp [exprsOk, hb131]), rfl⟩
                      | true =>
                        refine vopsL_take 1 rfl ?_
                        refine awp_if false rfl (fun e => by cases e) fun _ => ?_
                        refine awp_skip ?_
                        refine awp_run rfl ?_
                        rw [wrap64 (x := (i : Int) + 1) (by omega)]
                        refine ⟨{ ts := [(1, .p (j64 L)), (2, .p (j64 a)), (4, .ptr (.l 4) 0), (14, .p (j64 lp)), (15, .p (j64 (i + 1 : Nat)))], L := [(4, [.p (j64 7), .p (j64 n), .p (.vec (E.rows ex)), .p (.vec (S.rows bo)), .p (.vec (S.rows ot))])], G := G }, weakL _ ⟨rfl, rfl, rfl, rfl, rfl, trivial⟩ rfl rfl, ex.length - (i + 1), by omega, i + 1, rfl, by omega, rfl, ?_⟩
                        rw [hI0, hdr_i]; simp [exprsOk, hb131]
                  · rintro s ⟨rfl, hX0⟩
                    refine awp_seq ?_
                    refine awp_ops ?_
                    refine vopsL_take 6 rfl ?_
                    rw [wrap64 (x := a + 1) (by omega)]
                    refine vopsL_fn rfl rfl rfl (ihb L (a + 1) (lp) G (by omega) (by omega) (by omega)) ?_
                    cases hb139 : statsOk L (lp) (a + 1) bo with
                    | false =>
                      refine vopsL_take 10 rfl ?_
                      refine awp_ret ?_
                      exact leave_ret_same [] rfl hG (List.append_nil G).symm rfl ⟨congrArg (fun b => AEnd.ret (.p (.bool b))) (by rw [statOk, hX0]; simp_all [formOk, hasOk, placeOk, codeOk] <;> omega), rfl⟩
                    | true =>
                      refine vopsL_take 7 rfl ?_
                      rw [wrap64 (x := a + 1) (by omega)]
                      refine vopsL_fnG rfl rfl rfl rfl (iho L (a + 1) (lp) G (by omega) (by omega) (by omega)) ?_
                      cases hb147 : statsOk L (lp) (a + 1) ot with
                      | false =>
                        refine vopsL_take 2 rfl ?_
                        refine awp_ret ?_
                        exact leave_ret_same [] rfl hG (List.append_nil G).symm rfl ⟨congrArg (fun b => AEnd.ret (.p (.bool b))) (by rw [statOk, hX0]; simp_all [formOk, hasOk, placeOk, codeOk] <;> omega), rfl⟩
                      | true =>
                        refine vopsL_take 2 rfl ?_
                        refine awp_ret ?_
                        exact leave_ret_same [] rfl hG (List.append_nil G).symm rfl ⟨congrArg (fun b => AEnd.ret (.p (.bool b))) (by rw [statOk, hX0]; simp_all [formOk, hasOk, placeOk, codeOk] <;> omega), rfl⟩
                | true =>
                  refine vopsL_take 1 rfl ?_
                  refine awp_if true rfl (fun _ => ?_) (fun e => by cases e)
                  refine awp_seq ?_
                  refine awp_run rfl ?_
                  refine awp_ret ?_
                  refine q_ret ?_
                  exact leave_ret_same [] rfl hG (List.append_nil G).symm rfl ⟨congrArg (fun b => AEnd.ret (.p (.bool b))) (by simp_all [statOk, formOk, hasOk, placeOk, codeOk] <;> omega), rfl⟩
              | true =>
                have h109 := of_decide_eq_true hb109
                rw [hlO] at h109
                have hk2 : ot ≠ [] := by rintro rfl; simp at h109
                refine vopsL_take 6 rfl ?_
                refine awp_if true rfl (fun _ => ?_) (fun e => by cases e)
                refine awp_seq ?_
                refine awp_run rfl ?_
                refine awp_ret ?_
                refine q_ret ?_
                exact leave_ret_same [] rfl hG (List.append_nil G).symm rfl ⟨congrArg (fun b => AEnd.ret (.p (.bool b))) (by simp_all [statOk, formOk, hasOk, placeOk, codeOk] <;> omega), rfl⟩
            | true =>
              have h99 := of_decide_eq_true hb99
              rw [hlB] at h99
              have hk1 : bo ≠ [] := by rintro rfl; simp at h99
              refine vopsL_take 16 rfl ?_
              refine awp_if true rfl (fun _ => ?_) (fun e => by cases e)
              refine awp_seq ?_
              refine awp_run rfl ?_
              refine awp_ret ?_
              refine q_ret ?_
              exact leave_ret_same [] rfl hG (List.append_nil G).symm rfl ⟨congrArg (fun b => AEnd.ret (.p (.bool b))) (by simp_all [statOk, formOk, hasOk, placeOk, codeOk] <;> omega), rfl⟩
          | true =>
            have h90 := of_decide_eq_true hb90
            rw [hlE] at h90
            have hk0 : ex ≠ [] := by rintro rfl; simp at h90
            refine vopsL_take 25 rfl ?_
            refine awp_if true rfl (fun _ => ?_) (fun e => by cases e)
            refine awp_seq ?_
            refine awp_run rfl ?_
            refine awp_ret ?_
            refine q_ret ?_
            exact leave_ret_same [] rfl hG (List.append_nil G).symm rfl ⟨congrArg (fun b => AEnd.ret (.p (.bool b))) (by simp_all [statOk, formOk, hasOk, placeOk, codeOk] <;> omega), rfl⟩
        | true =>
          have h83 := of_decide_eq_true hb83
          rw [hlE] at h83
          refine vopsL_take 32 rfl ?_
          refine awp_if true rfl (fun _ => ?_) (fun e => by cases e)
          refine awp_seq ?_
          refine awp_run rfl ?_
          refine awp_ret ?_
          refine q_ret ?_
          exact leave_ret_same [] rfl hG (List.append_nil G).symm rfl ⟨congrArg (fun b => AEnd.ret (.p (.bool b))) (by simp_all [statOk, formOk, hasOk, placeOk, codeOk] <;> omega), rfl⟩
theorem c_rstat8 (L lp a n : Int) (ex : List E) (bo ot : List S) (G : List Blk) (h1 : 0 ≤ lp) (h2 : lp ≤ a) (h3 : a ≤ 101) (ihb : StatsRC bo) (iho : StatsRC ot) : FnIs Try.prog 115 [.agg (S.args (.mk 8 n ex bo ot)), .p (j64 L), .p (j64 a), .p (j64 lp)] G (.p (.bool (statOk L lp a (.mk 8 n ex bo ot)))) := by
  have hlE := E.rows_len ex
  have hlB := S.rows_len bo
  have hlO := S.rows_len ot
  refine acalls_fn (cfg 149) Try.func115 rfl rfl rfl (by simp) fun hG => ?_
  refine awp_seq ?_
  refine awp_run rfl ?_
  refine awp_seq ?_
  refine awp_run rfl ?_
  refine awp_seq ?_
  refine awp_ops ?_
  refine vopsL_take 2 rfl ?_
  refine vopsL_cmp rfl rfl rfl (by decide) rfl fun b hb18 => ?_
  cases b with
  | false =>
    refine vopsL_take 1 rfl ?_
    refine awp_seq ?_
    refine awp_run rfl ?_
    refine awp_seq ?_
    refine awp_seq ?_
    refine awp_run rfl ?_
    refine awp_block ?_
    refine awp_seq ?_
    refine awp_run rfl ?_
    refine awp_if false rfl (fun e => by cases e) fun _ => ?_
    refine awp_seq ?_
    refine awp_run rfl ?_
    refine awp_if false rfl (fun e => by cases e) fun _ => ?_
    refine awp_seq ?_
    refine awp_seq ?_
    refine awp_run rfl ?_
    refine awp_if false rfl (fun e => by cases e) fun _ => ?_
    refine awp_run rfl ?_
    refine awp_if false rfl (fun e => by cases e) fun _ => ?_
    refine awp_seq ?_
    refine awp_run rfl ?_
    refine awp_if false rfl (fun e => by cases e) fun _ => ?_
    refine awp_seq ?_
    refine awp_run rfl ?_
    refine awp_if false rfl (fun e => by cases e) fun _ => ?_
    refine awp_seq ?_
    refine awp_seq ?_
    refine awp_run rfl ?_
    refine awp_if false rfl (fun e => by cases e) fun _ => ?_
    refine awp_run rfl ?_
    refine awp_if true rfl (fun _ => ?_) (fun e => by cases e)
    refine awp_sl mixed (by kernel_rfl) ?_
    refine vsl_take 2 rfl ?_
    refine vsl_cmp rfl rfl rfl fun b hb57 => ?_
    cases b with
    | false =>
      refine vsl_take 9 rfl ?_
      refine vsl_done ?_
      refine awp_seq ?_
      refine awp_seq ?_
      refine awp_ops ?_
      refine vopsL_take 40 rfl ?_
      refine awp_if true rfl (fun _ => ?_) (fun e => by cases e)
      refine awp_seq ?_
      refine awp_run rfl ?_
      refine awp_ret ?_
      refine q_ret ?_
      exact leave_ret_same [] rfl hG (List.append_nil G).symm rfl ⟨congrArg (fun b => AEnd.ret (.p (.bool b))) (by simp_all [statOk, formOk, hasOk, placeOk, codeOk] <;> omega), rfl⟩
    | true =>
      refine vsl_take 4 rfl ?_
      refine vsl_cmpG rfl rfl rfl rfl fun b hb62 => ?_
      cases b with
      | false =>
        refine vsl_take 4 rfl ?_
        refine vsl_done ?_
        refine awp_seq ?_
        refine awp_seq ?_
        refine awp_ops ?_
        refine vopsL_take 40 rfl ?_
        refine awp_if true rfl (fun _ => ?_) (fun e => by cases e)
        refine awp_seq ?_
        refine awp_run rfl ?_
        refine awp_ret ?_
        refine q_ret ?_
        exact leave_ret_same [] rfl hG (List.append_nil G).symm rfl ⟨congrArg (fun b => AEnd.ret (.p (.bool b))) (by simp_all [statOk, formOk, hasOk, placeOk, codeOk] <;> omega), rfl⟩
      | true =>
        refine vsl_take 4 rfl ?_
        refine vsl_done ?_
        refine awp_seq ?_
        refine awp_seq ?_
        refine awp_ops ?_
        refine vopsL_take 7 rfl ?_
        refine vopsL_cmpG rfl rfl rfl rfl (by decide) rfl fun b hb83 => ?_
        cases b with
        | false =>
          have h83 := of_decide_eq_false hb83
          rw [hlE] at h83
          refine vopsL_take 6 rfl ?_
          refine vopsL_cmpG rfl rfl rfl rfl (by decide) rfl fun b hb90 => ?_
          cases b with
          | false =>
            have h90 := of_decide_eq_false hb90
            rw [hlE] at h90
            refine vopsL_take 8 rfl ?_
            refine vopsL_cmpG rfl rfl rfl rfl (by decide) rfl fun b hb99 => ?_
            cases b with
            | false =>
              have h99 := of_decide_eq_false hb99
              rw [hlB] at h99
              have hk1 : bo = [] := List.eq_nil_of_length_eq_zero (by omega)
              refine vopsL_take 9 rfl ?_
              refine vopsL_cmpG rfl rfl rfl rfl (by decide) rfl fun b hb109 => ?_
              cases b with
              | false =>
                have h109 := of_decide_eq_false hb109
                rw [hlO] at h109
                have hk2 : ot = [] := List.eq_nil_of_length_eq_zero (by omega)
                refine vopsL_take 4 rfl ?_
                refine vopsL_cmpG rfl rfl rfl rfl (by decide) rfl fun b hb114 => ?_
                cases b with
                | false =>
                  have ha : a ≤ 100 := by simpa using hb114
                  have hkl : ex.length ≤ 2 := by omega
                  refine vopsL_take 1 rfl ?_
                  refine awp_if false rfl (fun e => by cases e) fun _ => ?_
                  refine awp_skip ?_
                  refine awp_seq ?_
                  refine awp_seq ?_
                  refine awp_run rfl ?_
                  refine awp_weak (s' := { ts := [(1, .p (j64 L)), (2, .p (j64 a)), (4, .ptr (.l 4) 0), (14, .p (j64 lp)), (15, .p (j64 0))], L := [(4, [.p (j64 8), .p (j64 n), .p (.vec (E.rows ex)), .p (.vec (S.rows bo)), .p (.vec (S.rows ot))])], G := G }) (weakL _ ⟨rfl, rfl, rfl, rfl, rfl, trivial⟩ rfl rfl) ?_
                  refine awp_forA (fun mm s => ∃ (i : Nat) , s = { ts := [(1, .p (j64 L)), (2, .p (j64 a)), (4, .ptr (.l 4) 0), (14, .p (j64 lp)), (15, .p (j64 i))], L := [(4, [.p (j64 8), .p (j64 n), .p (.vec (E.rows ex)), .p (.vec (S.rows bo)), .p (.vec (S.rows ot))])], G := G } ∧ i ≤ ex.length ∧ mm = ex.length - i ∧ exprsOk L (a + 1) ex = exprsOk L (a + 1) (ex.drop i))
                    (fun s => s = { ts := [(1, .p (j64 L)), (2, .p (j64 a)), (4, .ptr (.l 4) 0), (14, .p (j64 lp))], L := [(4, [.p (j64 8), .p (j64 n), .p (.vec (E.rows ex)), .p (.vec (S.rows bo)), .p (.vec (S.rows ot))])], G := G } ∧ exprsOk L (a + 1) ex = true) ex.length ⟨0, rfl, by omega, by omega, by simp⟩ ?_ ?_
                  · rintro mm s ⟨i, rfl, hi_i, rfl, hI0⟩
                    refine awp_seq ?_
                    refine awp_seq ?_
                    refine awp_ops ?_
                    refine vopsL_take 4 rfl ?_
                    refine vopsL_cmp rfl rfl rfl (by decide) rfl fun b hb120 => ?_
                    cases b with
                    | false =>
                      have hge_i := ge_eq (E.rows_len ex) hi_i hb120
                      refine awp_if false rfl (fun e => by cases e) fun _ => ?_
                      refine awp_exit ?_
                      refine ⟨{ ts := [(1, .p (j64 L)), (2, .p (j64 a)), (4, .ptr (.l 4) 0), (14, .p (j64 lp))], L := [(4, [.p (j64 8), .p (j64 n), .p (.vec (E.rows ex)), .p (.vec (S.rows bo)), .p (.vec (S.rows ot))])], G := G }, weakL _ ⟨rfl, rfl, rfl, rfl, trivial⟩ rfl rfl, rfl, ?_⟩
                      subst hge_i
                      simpa [exprsOk] using hI0
                    | true =>
                      obtain ⟨e, he_i, hlt_i⟩ := lt_get (E.rows_len ex) hb120
                      have hx_i := E.rows_get he_i
                      have hdr_i := drop_get he_i
                      obtain ⟨eop, en, enm, eks⟩ := e
                      refine awp_if true rfl (fun _ => ?_) (fun e => by cases e)
                      refine awp_skip ?_
                      refine awp_seq ?_
                      refine awp_block ?_
                      refine awp_seq ?_
                      refine awp_ops ?_
                      refine vopsL_take 3 rfl ?_
                      refine vopsL_idx hx_i rfl rfl rfl (by decide) rfl rfl rfl rfl (by decide) ?_
                      refine vopsL_take 4 rfl ?_
                      rw [wrap64 (x := a + 1) (by omega)]
                      refine vopsL_fn rfl rfl rfl (exprRC (.mk eop en enm eks) L (a + 1) G (by omega) (by omega)) ?_
                      cases hb131 : exprOk L (a + 1) (.mk eop en enm eks) with
                      | false =>
                        refine vopsL_take 1 rfl ?_
                        refine awp_if true rfl (fun _ => ?_) (fun e => by cases e)
                        refine awp_seq ?_
                        refine awp_run rfl ?_
                        refine awp_ret ?_
                        refine q_block (q_ret (q_for (q_ret ?_)))
                        exact leave_ret_same [] rfl hG (List.append_nil G).symm rfl ⟨congrArg (fun b => AEnd.ret (.p (.bool b))) (by rw [statOk, hI0, hdr_i]; simp [exprsOk, hb131]), rfl⟩
                      | true =>
                        refine vopsL_take 1 rfl ?_
                        refine awp_if false rfl (fun e => by cases e) fun _ => ?_
                        refine awp_skip ?_
                        refine awp_run rfl ?_
                        rw [wrap64 (x := (i : Int) + 1) (by omega)]
                        refine ⟨{ ts := [(1, .p (j64 L)), (2, .p (j64 a)), (4, .ptr (.l 4) 0), (14, .p (j64 lp)), (15, .p (j64 (i + 1 : Nat)))], L := [(4, [.p (j64 8), .p (j64 n), .p (.vec (E.rows ex)), .p (.vec (S.rows bo)), .p (.vec (S.rows ot))])], G := G }, weakL _ ⟨rfl, rfl, rfl, rfl, rfl, trivial⟩ rfl rfl, ex.length - (i + 1), by omega, i + 1, rfl, by omega, rfl, ?_⟩
                        rw [hI0, hdr_i]; simp [exprsOk, hb131]
                  · rintro s ⟨rfl, hX0⟩
                    refine awp_seq ?_
                    refine awp_ops ?_
                    refine vopsL_take 6 rfl ?_
                    rw [wrap64 (x := a + 1) (by omega)]
                    refine vopsL_fn rfl rfl rfl (ihb L (a + 1) (lp) G (by omega) (by omega) (by omega)) ?_
                    cases hb139 : statsOk L (lp) (a + 1) bo with
                    | false =>
                      refine vopsL_take 10 rfl ?_
                      refine awp_ret ?_
                      exact leave_ret_same [] rfl hG (List.append_nil G).symm rfl ⟨congrArg (fun b => AEnd.ret (.p (.bool b))) (by rw [statOk, hX0]; simp_all [formOk, hasOk, placeOk, codeOk] <;> omega), rfl⟩
                    | true =>
                      refine vopsL_take 7 rfl ?_
                      rw [wrap64 (x := a + 1) (by omega)]
                      refine vopsL_fnG rfl rfl rfl rfl (iho L (a + 1) (lp) G (by omega) (by omega) (by omega)) ?_
                      cases hb147 : statsOk L (lp) (a + 1) ot with
                      | false =>
                        refine vopsL_take 2 rfl ?_
                        refine awp_ret ?_
                        exact leave_ret_same [] rfl hG (List.append_nil G).symm rfl ⟨congrArg (fun b => AEnd.ret (.p (.bool b))) (by rw [statOk, hX0]; simp_all [formOk, hasOk, placeOk, codeOk] <;> omega), rfl⟩
                      | true =>
                        refine vopsL_take 2 rfl ?_
                        refine awp_ret ?_
                        exact leave_ret_same [] rfl hG (List.append_nil G).symm rfl ⟨congrArg (fun b => AEnd.ret (.p (.bool b))) (by rw [statOk, hX0]; simp_all [formOk, hasOk, placeOk, codeOk] <;> omega), rfl⟩
                | true =>
                  refine vopsL_take 1 rfl ?_
                  refine awp_if true rfl (fun _ => ?_) (fun e => by cases e)
                  refine awp_seq ?_
                  refine awp_run rfl ?_
                  refine awp_ret ?_
                  refine q_ret ?_
                  exact leave_ret_same [] rfl hG (List.append_nil G).symm rfl ⟨congrArg (fun b => AEnd.ret (.p (.bool b))) (by simp_all [statOk, formOk, hasOk, placeOk, codeOk] <;> omega), rfl⟩
              | true =>
                have h109 := of_decide_eq_true hb109
                rw [hlO] at h109
                have hk2 : ot ≠ [] := by rintro rfl; simp at h109
                refine vopsL_take 6 rfl ?_
                refine awp_if true rfl (fun _ => ?_) (fun e => by cases e)
                refine awp_seq ?_
                refine awp_run rfl ?_
                refine awp_ret ?_
                refine q_ret ?_
                exact leave_ret_same [] rfl hG (List.append_nil G).symm rfl ⟨congrArg (fun b => AEnd.ret (.p (.bool b))) (by simp_all [statOk, formOk, hasOk, placeOk, codeOk] <;> omega), rfl⟩
            | true =>
              have h99 := of_decide_eq_true hb99
              rw [hlB] at h99
              have hk1 : bo ≠ [] := by rintro rfl; simp at h99
              refine vopsL_take 16 rfl ?_
              refine awp_if true rfl (fun _ => ?_) (fun e => by cases e)
              refine awp_seq ?_
              refine awp_run rfl ?_
              refine awp_ret ?_
              refine q_ret ?_
              exact leave_ret_same [] rfl hG (List.append_nil G).symm rfl ⟨congrArg (fun b => AEnd.ret (.p (.bool b))) (by simp_all [statOk, formOk, hasOk, placeOk, codeOk] <;> omega), rfl⟩
          | true =>
            have h90 := of_decide_eq_true hb90
            rw [hlE] at h90
            have hk0 : ex ≠ [] := by rintro rfl; simp at h90
            refine vopsL_take 25 rfl ?_
            refine awp_if true rfl (fun _ => ?_) (fun e => by cases e)
            refine awp_seq ?_
            refine awp_run rfl ?_
            refine awp_ret ?_
            refine q_ret ?_
            exact leave_ret_same [] rfl hG (List.append_nil G).symm rfl ⟨congrArg (fun b => AEnd.ret (.p (.bool b))) (by simp_all [statOk, formOk, hasOk, placeOk, codeOk] <;> omega), rfl⟩
        | true =>
          have h83 := of_decide_eq_true hb83
          rw [hlE] at h83
          refine vopsL_take 32 rfl ?_
          refine awp_if true rfl (fun _ => ?_) (fun e => by cases e)
          refine awp_seq ?_
          refine awp_run rfl ?_
          refine awp_ret ?_
          refine q_ret ?_
          exact leave_ret_same [] rfl hG (List.append_nil G).symm rfl ⟨congrArg (fun b => AEnd.ret (.p (.bool b))) (by simp_all [statOk, formOk, hasOk, placeOk, codeOk] <;> omega), rfl⟩
  | true =>
    refine vopsL_take 1 rfl ?_
    refine awp_seq ?_
    refine awp_run rfl ?_
    refine awp_seq ?_
    refine awp_seq ?_
    refine awp_run rfl ?_
    refine awp_block ?_
    refine awp_seq ?_
    refine awp_run rfl ?_
    refine awp_if false rfl (fun e => by cases e) fun _ => ?_
    refine awp_seq ?_
    refine awp_run rfl ?_
    refine awp_if false rfl (fun e => by cases e) fun _ => ?_
    refine awp_seq ?_
    refine awp_seq ?_
    refine awp_run rfl ?_
    refine awp_if false rfl (fun e => by cases e) fun _ => ?_
    refine awp_run rfl ?_
    refine awp_if false rfl (fun e => by cases e) fun _ => ?_
    refine awp_seq ?_
    refine awp_run rfl ?_
    refine awp_if false rfl (fun e => by cases e) fun _ => ?_
    refine awp_seq ?_
    refine awp_run rfl ?_
    refine awp_if false rfl (fun e => by cases e) fun _ => ?_
    refine awp_seq ?_
    refine awp_seq ?_
    refine awp_run rfl ?_
    refine awp_if false rfl (fun e => by cases e) fun _ => ?_
    refine awp_run rfl ?_
    refine awp_if true rfl (fun _ => ?_) (fun e => by cases e)
    refine awp_sl mixed (by kernel_rfl) ?_
    refine vsl_take 2 rfl ?_
    refine vsl_cmp rfl rfl rfl fun b hb57 => ?_
    cases b with
    | false =>
      refine vsl_take 9 rfl ?_
      refine vsl_done ?_
      refine awp_seq ?_
      refine awp_seq ?_
      refine awp_ops ?_
      refine vopsL_take 40 rfl ?_
      refine awp_if true rfl (fun _ => ?_) (fun e => by cases e)
      refine awp_seq ?_
      refine awp_run rfl ?_
      refine awp_ret ?_
      refine q_ret ?_
      exact leave_ret_same [] rfl hG (List.append_nil G).symm rfl ⟨congrArg (fun b => AEnd.ret (.p (.bool b))) (by simp_all [statOk, formOk, hasOk, placeOk, codeOk] <;> omega), rfl⟩
    | true =>
      refine vsl_take 4 rfl ?_
      refine vsl_cmpG rfl rfl rfl rfl fun b hb62 => ?_
      cases b with
      | false =>
        refine vsl_take 4 rfl ?_
        refine vsl_done ?_
        refine awp_seq ?_
        refine awp_seq ?_
        refine awp_ops ?_
        refine vopsL_take 40 rfl ?_
        refine awp_if true rfl (fun _ => ?_) (fun e => by cases e)
        refine awp_seq ?_
        refine awp_run rfl ?_
        refine awp_ret ?_
        refine q_ret ?_
        exact leave_ret_same [] rfl hG (List.append_nil G).symm rfl ⟨congrArg (fun b => AEnd.ret (.p (.bool b))) (by simp_all [statOk, formOk, hasOk, placeOk, codeOk] <;> omega), rfl⟩
      | true =>
        refine vsl_take 4 rfl ?_
        refine vsl_done ?_
        refine awp_seq ?_
        refine awp_seq ?_
        refine awp_ops ?_
        refine vopsL_take 7 rfl ?_
        refine vopsL_cmpG rfl rfl rfl rfl (by decide) rfl fun b hb83 => ?_
        cases b with
        | false =>
          have h83 := of_decide_eq_false hb83
          rw [hlE] at h83
          refine vopsL_take 6 rfl ?_
          refine vopsL_cmpG rfl rfl rfl rfl (by decide) rfl fun b hb90 => ?_
          cases b with
          | false =>
            have h90 := of_decide_eq_false hb90
            rw [hlE] at h90
            refine vopsL_take 8 rfl ?_
            refine vopsL_cmpG rfl rfl rfl rfl (by decide) rfl fun b hb99 => ?_
            cases b with
            | false =>
              have h99 := of_decide_eq_false hb99
              rw [hlB] at h99
              have hk1 : bo = [] := List.eq_nil_of_length_eq_zero (by omega)
              refine vopsL_take 9 rfl ?_
              refine vopsL_cmpG rfl rfl rfl rfl (by decide) rfl fun b hb109 => ?_
              cases b with
              | false =>
                have h109 := of_decide_eq_false hb109
                rw [hlO] at h109
                have hk2 : ot = [] := List.eq_nil_of_length_eq_zero (by omega)
                refine vopsL_take 4 rfl ?_
                refine vopsL_cmpG rfl rfl rfl rfl (by decide) rfl fun b hb114 => ?_
                cases b with
                | false =>
                  have ha : a ≤ 100 := by simpa using hb114
                  have hkl : ex.length ≤ 2 := by omega
                  refine vopsL_take 1 rfl ?_
                  refine awp_if false rfl (fun e => by cases e) fun _ => ?_
                  refine awp_skip ?_
                  refine awp_seq ?_
                  refine awp_seq ?_
                  refine awp_run rfl ?_
                  refine awp_weak (s' := { ts := [(1, .p (j64 L)), (2, .p (j64 a)), (4, .ptr (.l 4) 0), (14, .p (j64 lp)), (15, .p (j64 0))], L := [(4, [.p (j64 8), .p (j64 n), .p (.vec (E.rows ex)), .p (.vec (S.rows bo)), .p (.vec (S.rows ot))])], G := G }) (weakL _ ⟨rfl, rfl, rfl, rfl, rfl, trivial⟩ rfl rfl) ?_
                  refine awp_forA (fun mm s => ∃ (i : Nat) , s = { ts := [(1, .p (j64 L)), (2, .p (j64 a)), (4, .ptr (.l 4) 0), (14, .p (j64 lp)), (15, .p (j64 i))], L := [(4, [.p (j64 8), .p (j64 n), .p (.vec (E.rows ex)), .p (.vec (S.rows bo)), .p (.vec (S.rows ot))])], G := G } ∧ i ≤ ex.length ∧ mm = ex.length - i ∧ exprsOk L (a + 1) ex = exprsOk L (a + 1) (ex.drop i))
                    (fun s => s = { ts := [(1, .p (j64 L)), (2, .p (j64 a)), (4, .ptr (.l 4) 0), (14, .p (j64 lp))], L := [(4, [.p (j64 8), .p (j64 n), .p (.vec (E.rows ex)), .p (.vec (S.rows bo)), .p (.vec (S.rows ot))])], G := G } ∧ exprsOk L (a + 1) ex = true) ex.length ⟨0, rfl, by omega, by omega, by simp⟩ ?_ ?_
                  · rintro mm s ⟨i, rfl, hi_i, rfl, hI0⟩
                    refine awp_seq ?_
                    refine awp_seq ?_
                    refine awp_ops ?_
                    refine vopsL_take 4 rfl ?_
                    refine vopsL_cmp rfl rfl rfl (by decide) rfl fun b hb120 => ?_
                    cases b with
                    | false =>
                      have hge_i := ge_eq (E.rows_len ex) hi_i hb120
                      refine awp_if false rfl (fun e => by cases e) fun _ => ?_
                      refine awp_exit ?_
                      refine ⟨{ ts := [(1, .p (j64 L)), (2, .p (j64 a)), (4, .ptr (.l 4) 0), (14, .p (j64 lp))], L := [(4, [.p (j64 8), .p (j64 n), .p (.vec (E.rows ex)), .p (.vec (S.rows bo)), .p (.vec (S.rows ot))])], G := G }, weakL _ ⟨rfl, rfl, rfl, rfl, trivial⟩ rfl rfl, rfl, ?_⟩
                      subst hge_i
                      simpa [exprsOk] using hI0
                    | true =>
                      obtain ⟨e, he_i, hlt_i⟩ := lt_get (E.rows_len ex) hb120
                      have hx_i := E.rows_get he_i
                      have hdr_i := drop_get he_i
                      obtain ⟨eop, en, enm, eks⟩ := e
                      refine awp_if true rfl (fun _ => ?_) (fun e => by cases e)
                      refine awp_skip ?_
                      refine awp_seq ?_
                      refine awp_block ?_
                      refine awp_seq ?_
                      refine awp_ops ?_
                      refine vopsL_take 3 rfl ?_
                      refine vopsL_idx hx_i rfl rfl rfl (by decide) rfl rfl rfl rfl (by decide) ?_
                      refine vopsL_take 4 rfl ?_
                      rw [wrap64 (x := a + 1) (by omega)]
                      refine vopsL_fn rfl rfl rfl (exprRC (.mk eop en enm eks) L (a + 1) G (by omega) (by omega)) ?_
                      cases hb131 : exprOk L (a + 1) (.mk eop en enm eks) with
                      | false =>
                        refine vopsL_take 1 rfl ?_
                        refine awp_if true rfl (fun _ => ?_) (fun e => by cases e)
                        refine awp_seq ?_
                        refine awp_run rfl ?_
                        refine awp_ret ?_
                        refine q_block (q_ret (q_for (q_ret ?_)))
                        exact leave_ret_same [] rfl hG (List.append_nil G).symm rfl ⟨congrArg (fun b => AEnd.ret (.p (.bool b))) (by rw [statOk, hI0, hdr_i]; simp [exprsOk, hb131]), rfl⟩
                      | true =>
                        refine vopsL_take 1 rfl ?_
                        refine awp_if false rfl (fun e => by cases e) fun _ => ?_
                        refine awp_skip ?_
                        refine awp_run rfl ?_
                        rw [wrap64 (x := (i : Int) + 1) (by omega)]
                        refine ⟨{ ts := [(1, .p (j64 L)), (2, .p (j64 a)), (4, .ptr (.l 4) 0), (14, .p (j64 lp)), (15, .p (j64 (i + 1 : Nat)))], L := [(4, [.p (j64 8), .p (j64 n), .p (.vec (E.rows ex)), .p (.vec (S.rows bo)), .p (.vec (S.rows ot))])], G := G }, weakL _ ⟨rfl, rfl, rfl, rfl, rfl, trivial⟩ rfl rfl, ex.length - (i + 1), by omega, i + 1, rfl, by omega, rfl, ?_⟩
                        rw [hI0, hdr_i]; simp [exprsOk, hb131]
                  · rintro s ⟨rfl, hX0⟩
                    refine awp_seq ?_
                    refine awp_ops ?_
                    refine vopsL_take 6 rfl ?_
                    rw [wrap64 (x := a + 1) (by omega)]
                    refine vopsL_fn rfl rfl rfl (ihb L (a + 1) (lp) G (by omega) (by omega) (by omega)) ?_
                    cases hb139 : statsOk L (lp) (a + 1) bo with
                    | false =>
                      refine vopsL_take 10 rfl ?_
                      refine awp_ret ?_
                      exact leave_ret_same [] rfl hG (List.append_nil G).symm rfl ⟨congrArg (fun b => AEnd.ret (.p (.bool b))) (by rw [statOk, hX0]; simp_all [formOk, hasOk, placeOk, codeOk] <;> omega), rfl⟩
                    | true =>
                      refine vopsL_take 7 rfl ?_
                      rw [wrap64 (x := a + 1) (by omega)]
                      refine vopsL_fnG rfl rfl rfl rfl (iho L (a + 1) (lp) G (by omega) (by omega) (by omega)) ?_
                      cases hb147 : statsOk L (lp) (a + 1) ot with
                      | false =>
                        refine vopsL_take 2 rfl ?_
                        refine awp_ret ?_
                        exact leave_ret_same [] rfl hG (List.append_nil G).symm rfl ⟨congrArg (fun b => AEnd.ret (.p (.bool b))) (by rw [statOk, hX0]; simp_all [formOk, hasOk, placeOk, codeOk] <;> omega), rfl⟩
                      | true =>
                        refine vopsL_take 2 rfl ?_
                        refine awp_ret ?_
                        exact leave_ret_same [] rfl hG (List.append_nil G).symm rfl ⟨congrArg (fun b => AEnd.ret (.p (.bool b))) (by rw [statOk, hX0]; simp_all [formOk, hasOk, placeOk, codeOk] <;> omega), rfl⟩
                | true =>
                  refine vopsL_take 1 rfl ?_
                  refine awp_if true rfl (fun _ => ?_) (fun e => by cases e)
                  refine awp_seq ?_
                  refine awp_run rfl ?_
                  refine awp_ret ?_
                  refine q_ret ?_
                  exact leave_ret_same [] rfl hG (List.append_nil G).symm rfl ⟨congrArg (fun b => AEnd.ret (.p (.bool b))) (by simp_all [statOk, formOk, hasOk, placeOk, codeOk] <;> omega), rfl⟩
              | true =>
                have h109 := of_decide_eq_true hb109
                rw [hlO] at h109
                have hk2 : ot ≠ [] := by rintro rfl; simp at h109
                refine vopsL_take 6 rfl ?_
                refine awp_if true rfl (fun _ => ?_) (fun e => by cases e)
                refine awp_seq ?_
                refine awp_run rfl ?_
                refine awp_ret ?_
                refine q_ret ?_
                exact leave_ret_same [] rfl hG (List.append_nil G).symm rfl ⟨congrArg (fun b => AEnd.ret (.p (.bool b))) (by simp_all [statOk, formOk, hasOk, placeOk, codeOk] <;> omega), rfl⟩
            | true =>
              have h99 := of_decide_eq_true hb99
              rw [hlB] at h99
              have hk1 : bo ≠ [] := by rintro rfl; simp at h99
              refine vopsL_take 16 rfl ?_
              refine awp_if true rfl (fun _ => ?_) (fun e => by cases e)
              refine awp_seq ?_
              refine awp_run rfl ?_
              refine awp_ret ?_
              refine q_ret ?_
              exact leave_ret_same [] rfl hG (List.append_nil G).symm rfl ⟨congrArg (fun b => AEnd.ret (.p (.bool b))) (by simp_all [statOk, formOk, hasOk, placeOk, codeOk] <;> omega), rfl⟩
          | true =>
            have h90 := of_decide_eq_true hb90
            rw [hlE] at h90
            have hk0 : ex ≠ [] := by rintro rfl; simp at h90
            refine vopsL_take 25 rfl ?_
            refine awp_if true rfl (fun _ => ?_) (fun e => by cases e)
            refine awp_seq ?_
            refine awp_run rfl ?_
            refine awp_ret ?_
            refine q_ret ?_
            exact leave_ret_same [] rfl hG (List.append_nil G).symm rfl ⟨congrArg (fun b => AEnd.ret (.p (.bool b))) (by simp_all [statOk, formOk, hasOk, placeOk, codeOk] <;> omega), rfl⟩
        | true =>
          have h83 := of_decide_eq_true hb83
          rw [hlE] at h83
          refine vopsL_take 32 rfl ?_
          refine awp_if true rfl (fun _ => ?_) (fun e => by cases e)
          refine awp_seq ?_
          refine awp_run rfl ?_
          refine awp_ret ?_
          refine q_ret ?_
          exact leave_ret_same [] rfl hG (List.append_nil G).symm rfl ⟨congrArg (fun b => AEnd.ret (.p (.bool b))) (by simp_all [statOk, formOk, hasOk, placeOk, codeOk] <;> omega), rfl⟩
theorem c_rstat9 (L lp a n : Int) (ex : List E) (bo ot : List S) (G : List Blk) (h1 : 0 ≤ lp) (h2 : lp ≤ a) (h3 : a ≤ 101) (ihb : StatsRC bo) (iho : StatsRC ot) : FnIs Try.prog 115 [.agg (S.args (.mk 9 n ex bo ot)), .p (j64 L), .p (j64 a), .p (j64 lp)] G (.p (.bool (statOk L lp a (.mk 9 n ex bo ot)))) := by
  have hlE := E.rows_len ex
  have hlB := S.rows_len bo
  have hlO := S.rows_len ot
  refine acalls_fn (cfg 149) Try.func115 rfl rfl rfl (by simp) fun hG => ?_
  refine awp_seq ?_
  refine awp_run rfl ?_
  refine awp_seq ?_
  refine awp_run rfl ?_
  refine awp_seq ?_
  refine awp_ops ?_
  refine vopsL_take 2 rfl ?_
  refine vopsL_cmp rfl rfl rfl (by decide) rfl fun b hb18 => ?_
  cases b with
  | false =>
    refine vopsL_take 1 rfl ?_
    refine awp_seq ?_
    refine awp_run rfl ?_
    refine awp_seq ?_
    refine awp_seq ?_
    refine awp_run rfl ?_
    refine awp_block ?_
    refine awp_seq ?_
    refine awp_run rfl ?_
    refine awp_if false rfl (fun e => by cases e) fun _ => ?_
    refine awp_seq ?_
    refine awp_run rfl ?_
    refine awp_if false rfl (fun e => by cases e) fun _ => ?_
    refine awp_seq ?_
    refine awp_seq ?_
    refine awp_run rfl ?_
    refine awp_if false rfl (fun e => by cases e) fun _ => ?_
    refine awp_run rfl ?_
    refine awp_if false rfl (fun e => by cases e) fun _ => ?_
    refine awp_seq ?_
    refine awp_run rfl ?_
    refine awp_if false rfl (fun e => by cases e) fun _ => ?_
    refine awp_seq ?_
    refine awp_run rfl ?_
    refine awp_if false rfl (fun e => by cases e) fun _ => ?_
    refine awp_seq ?_
    refine awp_seq ?_
    refine awp_run rfl ?_
    refine awp_if false rfl (fun e => by cases e) fun _ => ?_
    refine awp_run rfl ?_
    refine awp_if false rfl (fun e => by cases e) fun _ => ?_
    refine awp_seq ?_
    refine awp_run rfl ?_
    refine awp_if true rfl (fun _ => ?_) (fun e => by cases e)
    refine awp_run rfl ?_
    refine awp_seq ?_
    refine awp_seq ?_
    refine awp_ops ?_
    refine vopsL_take 40 rfl ?_
    refine awp_if true rfl (fun _ => ?_) (fun e => by cases e)
    refine awp_seq ?_
    refine awp_run rfl ?_
    refine awp_ret ?_
    refine q_ret ?_
    exact leave_ret_same [] rfl hG (List.append_nil G).symm rfl ⟨congrArg (fun b => AEnd.ret (.p (.bool b))) (by simp_all [statOk, formOk, hasOk, placeOk, codeOk] <;> omega), rfl⟩
  | true =>
    refine vopsL_take 1 rfl ?_
    refine awp_seq ?_
    refine awp_run rfl ?_
    refine awp_seq ?_
    refine awp_seq ?_
    refine awp_run rfl ?_
    refine awp_block ?_
    refine awp_seq ?_
    refine awp_run rfl ?_
    refine awp_if false rfl (fun e => by cases e) fun _ => ?_
    refine awp_seq ?_
    refine awp_run rfl ?_
    refine awp_if false rfl (fun e => by cases e) fun _ => ?_
    refine awp_seq ?_
    refine awp_seq ?_
    refine awp_run rfl ?_
    refine awp_if false rfl (fun e => by cases e) fun _ => ?_
    refine awp_run rfl ?_
    refine awp_if false rfl (fun e => by cases e) fun _ => ?_
    refine awp_seq ?_
    refine awp_run rfl ?_
    refine awp_if false rfl (fun e => by cases e) fun _ => ?_
    refine awp_seq ?_
    refine awp_run rfl ?_
    refine awp_if false rfl (fun e => by cases e) fun _ => ?_
    refine awp_seq ?_
    refine awp_seq ?_
    refine awp_run rfl ?_
    refine awp_if false rfl (fun e => by cases e) fun _ => ?_
    refine awp_run rfl ?_
    refine awp_if false rfl (fun e => by cases e) fun _ => ?_
    refine awp_seq ?_
    refine awp_run rfl ?_
    refine awp_if true rfl (fun _ => ?_) (fun e => by cases e)
    refine awp_run rfl ?_
    refine awp_seq ?_
    refine awp_seq ?_
    refine awp_ops ?_
    refine vopsL_take 7 rfl ?_
    refine vopsL_cmpG rfl rfl rfl rfl (by decide) rfl fun b hb83 => ?_
    cases b with
    | false =>
      have h83 := of_decide_eq_false hb83
      rw [hlE] at h83
      refine vopsL_take 6 rfl ?_
      refine vopsL_cmpG rfl rfl rfl rfl (by decide) rfl fun b hb90 => ?_
      cases b with
      | false =>
        have h90 := of_decide_eq_false hb90
        rw [hlE] at h90
        refine vopsL_take 8 rfl ?_
        refine vopsL_cmpG rfl rfl rfl rfl (by decide) rfl fun b hb99 => ?_
        cases b with
        | false =>
          have h99 := of_decide_eq_false hb99
          rw [hlB] at h99
          have hk1 : bo = [] := List.eq_nil_of_length_eq_zero (by omega)
          refine vopsL_take 9 rfl ?_
          refine vopsL_cmpG rfl rfl rfl rfl (by decide) rfl fun b hb109 => ?_
          cases b with
          | false =>
            have h109 := of_decide_eq_false hb109
            rw [hlO] at h109
            have hk2 : ot = [] := List.eq_nil_of_length_eq_zero (by omega)
            refine vopsL_take 4 rfl ?_
            refine vopsL_cmpG rfl rfl rfl rfl (by decide) rfl fun b hb114 => ?_
            cases b with
            | false =>
              have ha : a ≤ 100 := by simpa using hb114
              have hkl : ex.length ≤ 2 := by omega
              refine vopsL_take 1 rfl ?_
              refine awp_if false rfl (fun e => by cases e) fun _ => ?_
              refine awp_skip ?_
              refine awp_seq ?_
              refine awp_seq ?_
              refine awp_run rfl ?_
              refine awp_weak (s' := { ts := [(1, .p (j64 L)), (2, .p (j64 a)), (4, .ptr (.l 4) 0), (14, .p (j64 lp)), (15, .p (j64 0))], L := [(4, [.p (j64 9), .p (j64 n), .p (.vec (E.rows ex)), .p (.vec (S.rows bo)), .p (.vec (S.rows ot))])], G := G }) (weakL _ ⟨rfl, rfl, rfl, rfl, rfl, trivial⟩ rfl rfl) ?_
              refine awp_forA (fun mm s => ∃ (i : Nat) , s = { ts := [(1, .p (j64 L)), (2, .p (j64 a)), (4, .ptr (.l 4) 0), (14, .p (j64 lp)), (15, .p (j64 i))], L := [(4, [.p (j64 9), .p (j64 n), .p (.vec (E.rows ex)), .p (.vec (S.rows bo)), .p (.vec (S.rows ot))])], G := G } ∧ i ≤ ex.length ∧ mm = ex.length - i ∧ exprsOk L (a + 1) ex = exprsOk L (a + 1) (ex.drop i))
                (fun s => s = { ts := [(1, .p (j64 L)), (2, .p (j64 a)), (4, .ptr (.l 4) 0), (14, .p (j64 lp))], L := [(4, [.p (j64 9), .p (j64 n), .p (.vec (E.rows ex)), .p (.vec (S.rows bo)), .p (.vec (S.rows ot))])], G := G } ∧ exprsOk L (a + 1) ex = true) ex.length ⟨0, rfl, by omega, by omega, by simp⟩ ?_ ?_
              · rintro mm s ⟨i, rfl, hi_i, rfl, hI0⟩
                refine awp_seq ?_
                refine awp_seq ?_
                refine awp_ops ?_
                refine vopsL_take 4 rfl ?_
                refine vopsL_cmp rfl rfl rfl (by decide) rfl fun b hb120 => ?_
                cases b with
                | false =>
                  have hge_i := ge_eq (E.rows_len ex) hi_i hb120
                  refine awp_if false rfl (fun e => by cases e) fun _ => ?_
                  refine awp_exit ?_
                  refine ⟨{ ts := [(1, .p (j64 L)), (2, .p (j64 a)), (4, .ptr (.l 4) 0), (14, .p (j64 lp))], L := [(4, [.p (j64 9), .p (j64 n), .p (.vec (E.rows ex)), .p (.vec (S.rows bo)), .p (.vec (S.rows ot))])], G := G }, weakL _ ⟨rfl, rfl, rfl, rfl, trivial⟩ rfl rfl, rfl, ?_⟩
                  subst hge_i
                  simpa [exprsOk] using hI0
                | true =>
                  obtain ⟨e, he_i, hlt_i⟩ := lt_get (E.rows_len ex) hb120
                  have hx_i := E.rows_get he_i
                  have hdr_i := drop_get he_i
                  obtain ⟨eop, en, enm, eks⟩ := e
                  refine awp_if true rfl (fun _ => ?_) (fun e => by cases e)
                  refine awp_skip ?_
                  refine awp_seq ?_
                  refine awp_block ?_
                  refine awp_seq ?_
                  refine awp_ops ?_
                  refine vopsL_take 3 rfl ?_
                  refine vopsL_idx hx_i rfl rfl rfl (by decide) rfl rfl rfl rfl (by decide) ?_
                  refine vopsL_take 4 rfl ?_
                  rw [wrap64 (x := a + 1) (by omega)]
                  refine vopsL_fn rfl rfl rfl (exprRC (.mk eop en enm eks) L (a + 1) G (by omega) (by omega)) ?_
                  cases hb131 : exprOk L (a + 1) (.mk eop en enm eks) with
                  | false =>
                    refine vopsL_take 1 rfl ?_
                    refine awp_if true rfl (fun _ => ?_) (fun e => by cases e)
                    refine awp_seq ?_
                    refine awp_run rfl ?_
                    refine awp_ret ?_
                    refine q_block (q_ret (q_for (q_ret ?_)))
                    exact leave_ret_same [] rfl hG (List.append_nil G).symm rfl ⟨congrArg (fun b => AEnd.ret (.p (.bool b))) (by rw [statOk, hI0, hdr_i]; simp [exprsOk, hb131]), rfl⟩
                  | true =>
                    refine vopsL_take 1 rfl ?_
                    refine awp_if false rfl (fun e => by cases e) fun _ => ?_
                    refine awp_skip ?_
                    refine awp_run rfl ?_
                    rw [wrap64 (x := (i : Int) + 1) (by omega)]
                    refine ⟨{ ts := [(1, .p (j64 L)), (2, .p (j64 a)), (4, .ptr (.l 4) 0), (14, .p (j64 lp)), (15, .p (j64 (i + 1 : Nat)))], L := [(4, [.p (j64 9), .p (j64 n), .p (.vec (E.rows ex)), .p (.vec (S.rows bo)), .p (.vec (S.rows ot))])], G := G }, weakL _ ⟨rfl, rfl, rfl, rfl, rfl, trivial⟩ rfl rfl, ex.length - (i + 1), by omega, i + 1, rfl, by omega, rfl, ?_⟩
                    rw [hI0, hdr_i]; simp [exprsOk, hb131]
              · rintro s ⟨rfl, hX0⟩
                refine awp_seq ?_
                refine awp_ops ?_
                refine vopsL_take 6 rfl ?_
                rw [wrap64 (x := a + 1) (by omega)]
                refine vopsL_fn rfl rfl rfl (ihb L (a + 1) (lp) G (by omega) (by omega) (by omega)) ?_
                cases hb139 : statsOk L (lp) (a + 1) bo with
                | false =>
                  refine vopsL_take 10 rfl ?_
                  refine awp_ret ?_
                  exact leave_ret_same [] rfl hG (List.append_nil G).symm rfl ⟨congrArg (fun b => AEnd.ret (.p (.bool b))) (by have h9 : ex = [] ∨ ex.length = 1 := (by cases ex with | nil => exact .inl rfl | cons x l => exact .inr (by simp only [List.length_cons] at h90 ⊢; omega)); rw [statOk, hX0]; clear hkl h90 h83; rcases h9 with rfl | h9 <;> simp_all [formOk, hasOk, placeOk, codeOk] <;> omega), rfl⟩
                | true =>
                  refine vopsL_take 7 rfl ?_
                  rw [wrap64 (x := a + 1) (by omega)]
                  refine vopsL_fnG rfl rfl rfl rfl (iho L (a + 1) (lp) G (by omega) (by omega) (by omega)) ?_
                  cases hb147 : statsOk L (lp) (a + 1) ot with
                  | false =>
                    refine vopsL_take 2 rfl ?_
                    refine awp_ret ?_
                    exact leave_ret_same [] rfl hG (List.append_nil G).symm rfl ⟨congrArg (fun b => AEnd.ret (.p (.bool b))) (by have h9 : ex = [] ∨ ex.length = 1 := (by cases ex with | nil => exact .inl rfl | cons x l => exact .inr (by simp only [List.length_cons] at h90 ⊢; omega)); rw [statOk, hX0]; clear hkl h90 h83; rcases h9 with rfl | h9 <;> simp_all [formOk, hasOk, placeOk, codeOk] <;> omega), rfl⟩
                  | true =>
                    refine vopsL_take 2 rfl ?_
                    refine awp_ret ?_
                    exact leave_ret_same [] rfl hG (List.append_nil G).symm rfl ⟨congrArg (fun b => AEnd.ret (.p (.bool b))) (by have h9 : ex = [] ∨ ex.length = 1 := (by cases ex with | nil => exact .inl rfl | cons x l => exact .inr (by simp only [List.length_cons] at h90 ⊢; omega)); rw [statOk, hX0]; clear hkl h90 h83; rcases h9 with rfl | h9 <;> simp_all [formOk, hasOk, placeOk, codeOk] <;> omega), rfl⟩
            | true =>
              refine vopsL_take 1 rfl ?_
              refine awp_if true rfl (fun _ => ?_) (fun e => by cases e)
              refine awp_seq ?_
              refine awp_run rfl ?_
              refine awp_ret ?_
              refine q_ret ?_
              exact leave_ret_same [] rfl hG (List.append_nil G).symm rfl ⟨congrArg (fun b => AEnd.ret (.p (.bool b))) (by simp_all [statOk, formOk, hasOk, placeOk, codeOk] <;> omega), rfl⟩
          | true =>
            have h109 := of_decide_eq_true hb109
            rw [hlO] at h109
            have hk2 : ot ≠ [] := by rintro rfl; simp at h109
            refine vopsL_take 6 rfl ?_
            refine awp_if true rfl (fun _ => ?_) (fun e => by cases e)
            refine awp_seq ?_
            refine awp_run rfl ?_
            refine awp_ret ?_
            refine q_ret ?_
            exact leave_ret_same [] rfl hG (List.append_nil G).symm rfl ⟨congrArg (fun b => AEnd.ret (.p (.bool b))) (by simp_all [statOk, formOk, hasOk, placeOk, codeOk] <;> omega), rfl⟩
        | true =>
          have h99 := of_decide_eq_true hb99
          rw [hlB] at h99
          have hk1 : bo ≠ [] := by rintro rfl; simp at h99
          refine vopsL_take 16 rfl ?_
          refine awp_if true rfl (fun _ => ?_) (fun e => by cases e)
          refine awp_seq ?_
          refine awp_run rfl ?_
          refine awp_ret ?_
          refine q_ret ?_
          exact leave_ret_same [] rfl hG (List.append_nil G).symm rfl ⟨congrArg (fun b => AEnd.ret (.p (.bool b))) (by simp_all [statOk, formOk, hasOk, placeOk, codeOk] <;> omega), rfl⟩
      | true =>
        have h90 := of_decide_eq_true hb90
        rw [hlE] at h90
        have hk0 : ex ≠ [] := by rintro rfl; simp at h90
        refine vopsL_take 25 rfl ?_
        refine awp_if true rfl (fun _ => ?_) (fun e => by cases e)
        refine awp_seq ?_
        refine awp_run rfl ?_
        refine awp_ret ?_
        refine q_ret ?_
        exact leave_ret_same [] rfl hG (List.append_nil G).symm rfl ⟨congrArg (fun b => AEnd.ret (.p (.bool b))) (by simp_all [statOk, formOk, hasOk, placeOk, codeOk] <;> omega), rfl⟩
    | true =>
      have h83 := of_decide_eq_true hb83
      rw [hlE] at h83
      refine vopsL_take 32 rfl ?_
      refine awp_if true rfl (fun _ => ?_) (fun e => by cases e)
      refine awp_seq ?_
      refine awp_run rfl ?_
      refine awp_ret ?_
      refine q_ret ?_
      exact leave_ret_same [] rfl hG (List.append_nil G).symm rfl ⟨congrArg (fun b => AEnd.ret (.p (.bool b))) (by simp_all [statOk, formOk, hasOk, placeOk, codeOk] <;> omega), rfl⟩
theorem c_rstat10 (L lp a n : Int) (ex : List E) (bo ot : List S) (G : List Blk) (h1 : 0 ≤ lp) (h2 : lp ≤ a) (h3 : a ≤ 101) (ihb : StatsRC bo) (iho : StatsRC ot) : FnIs Try.prog 115 [.agg (S.args (.mk 10 n ex bo ot)), .p (j64 L), .p (j64 a), .p (j64 lp)] G (.p (.bool (statOk L lp a (.mk 10 n ex bo ot)))) := by
  have hlE := E.rows_len ex
  have hlB := S.rows_len bo
  have hlO := S.rows_len ot
  refine acalls_fn (cfg 149) Try.func115 rfl rfl rfl (by simp) fun hG => ?_
  refine awp_seq ?_
  refine awp_run rfl ?_
  refine awp_seq ?_
  refine awp_run rfl ?_
  refine awp_seq ?_
  refine awp_ops ?_
  refine vopsL_take 2 rfl ?_
  refine vopsL_cmp rfl rfl rfl (by decide) rfl fun b hb18 => ?_
  cases b with
  | false =>
    refine vopsL_take 1 rfl ?_
    refine awp_seq ?_
    refine awp_run rfl ?_
    refine awp_seq ?_
    refine awp_seq ?_
    refine awp_run rfl ?_
    refine awp_block ?_
    refine awp_seq ?_
    refine awp_run rfl ?_
    refine awp_if false rfl (fun e => by cases e) fun _ => ?_
    refine awp_seq ?_
    refine awp_run rfl ?_
    refine awp_if false rfl (fun e => by cases e) fun _ => ?_
    refine awp_seq ?_
    refine awp_seq ?_
    refine awp_run rfl ?_
    refine awp_if false rfl (fun e => by cases e) fun _ => ?_
    refine awp_run rfl ?_
    refine awp_if false rfl (fun e => by cases e) fun _ => ?_
    refine awp_seq ?_
    refine awp_run rfl ?_
    refine awp_if false rfl (fun e => by cases e) fun _ => ?_
    refine awp_seq ?_
    refine awp_run rfl ?_
    refine awp_if false rfl (fun e => by cases e) fun _ => ?_
    refine awp_seq ?_
    refine awp_seq ?_
    refine awp_run rfl ?_
    refine awp_if false rfl (fun e => by cases e) fun _ => ?_
    refine awp_run rfl ?_
    refine awp_if false rfl (fun e => by cases e) fun _ => ?_
    refine awp_seq ?_
    refine awp_run rfl ?_
    refine awp_if false rfl (fun e => by cases e) fun _ => ?_
    refine awp_seq ?_
    refine awp_run rfl ?_
    refine awp_if true rfl (fun _ => ?_) (fun e => by cases e)
    refine awp_sl mixed (by kernel_rfl) ?_
    refine vsl_take 2 rfl ?_
    refine vsl_cmp rfl rfl rfl fun b hb70 => ?_
    cases b with
    | false =>
      refine vsl_take 8 rfl ?_
      refine vsl_done ?_
      refine awp_seq ?_
      refine awp_seq ?_
      refine awp_ops ?_
      refine vopsL_take 40 rfl ?_
      refine awp_if true rfl (fun _ => ?_) (fun e => by cases e)
      refine awp_seq ?_
      refine awp_run rfl ?_
      refine awp_ret ?_
      refine q_ret ?_
      exact leave_ret_same [] rfl hG (List.append_nil G).symm rfl ⟨congrArg (fun b => AEnd.ret (.p (.bool b))) (by simp_all [statOk, formOk, hasOk, placeOk, codeOk] <;> omega), rfl⟩
    | true =>
      refine vsl_take 3 rfl ?_
      refine vsl_cmpG rfl rfl rfl rfl fun b hb74 => ?_
      cases b with
      | false =>
        refine vsl_take 4 rfl ?_
        refine vsl_done ?_
        refine awp_seq ?_
        refine awp_seq ?_
        refine awp_ops ?_
        refine vopsL_take 40 rfl ?_
        refine awp_if true rfl (fun _ => ?_) (fun e => by cases e)
        refine awp_seq ?_
        refine awp_run rfl ?_
        refine awp_ret ?_
        refine q_ret ?_
        exact leave_ret_same [] rfl hG (List.append_nil G).symm rfl ⟨congrArg (fun b => AEnd.ret (.p (.bool b))) (by simp_all [statOk, formOk, hasOk, placeOk, codeOk] <;> omega), rfl⟩
      | true =>
        refine vsl_take 4 rfl ?_
        refine vsl_done ?_
        refine awp_seq ?_
        refine awp_seq ?_
        refine awp_ops ?_
        refine vopsL_take 7 rfl ?_
        refine vopsL_cmpG rfl rfl rfl rfl (by decide) rfl fun b hb83 => ?_
        cases b with
        | false =>
          have h83 := of_decide_eq_false hb83
          rw [hlE] at h83
          refine vopsL_take 6 rfl ?_
          refine vopsL_cmpG rfl rfl rfl rfl (by decide) rfl fun b hb90 => ?_
          cases b with
          | false =>
            have h90 := of_decide_eq_false hb90
            rw [hlE] at h90
            refine vopsL_take 8 rfl ?_
            refine vopsL_cmpG rfl rfl rfl rfl (by decide) rfl fun b hb99 => ?_
            cases b with
            | false =>
              have h99 := of_decide_eq_false hb99
              rw [hlB] at h99
              have hk1 : bo = [] := List.eq_nil_of_length_eq_zero (by omega)
              refine vopsL_take 9 rfl ?_
              refine vopsL_cmpG rfl rfl rfl rfl (by decide) rfl fun b hb109 => ?_
              cases b with
              | false =>
                have h109 := of_decide_eq_false hb109
                rw [hlO] at h109
                have hk2 : ot = [] := List.eq_nil_of_length_eq_zero (by omega)
                refine vopsL_take 4 rfl ?_
                refine vopsL_cmpG rfl rfl rfl rfl (by decide) rfl fun b hb114 => ?_
                cases b with
                | false =>
                  have ha : a ≤ 100 := by simpa using hb114
                  have hkl : ex.length ≤ 2 := by omega
                  refine vopsL_take 1 rfl ?_
                  refine awp_if false rfl (fun e => by cases e) fun _ => ?_
                  refine awp_skip ?_
                  refine awp_seq ?_
                  refine awp_seq ?_
                  refine awp_run rfl ?_
                  refine awp_weak (s' := { ts := [(1, .p (j64 L)), (2, .p (j64 a)), (4, .ptr (.l 4) 0), (14, .p (j64 lp)), (15, .p (j64 0))], L := [(4, [.p (j64 10), .p (j64 n), .p (.vec (E.rows ex)), .p (.vec (S.rows bo)), .p (.vec (S.rows ot))])], G := G }) (weakL _ ⟨rfl, rfl, rfl, rfl, rfl, trivial⟩ rfl rfl) ?_
                  refine awp_forA (fun mm s => ∃ (i : Nat) , s = { ts := [(1, .p (j64 L)), (2, .p (j64 a)), (4, .ptr (.l 4) 0), (14, .p (j64 lp)), (15, .p (j64 i))], L := [(4, [.p (j64 10), .p (j64 n), .p (.vec (E.rows ex)), .p (.vec (S.rows bo)), .p (.vec (S.rows ot))])], G := G } ∧ i ≤ ex.length ∧ mm = ex.length - i ∧ exprsOk L (a + 1) ex = exprsOk L (a + 1) (ex.drop i))
                    (fun s => s = { ts := [(1, .p (j64 L)), (2, .p (j64 a)), (4, .ptr (.l 4) 0), (14, .p (j64 lp))], L := [(4, [.p (j64 10), .p (j64 n), .p (.vec (E.rows ex)), .p (.vec (S.rows bo)), .p (.vec (S.rows ot))])], G := G } ∧ exprsOk L (a + 1) ex = true) ex.length ⟨0, rfl, by omega, by omega, by simp⟩ ?_ ?_
                  · rintro mm s ⟨i, rfl, hi_i, rfl, hI0⟩
                    refine awp_seq ?_
                    refine awp_seq ?_
                    refine awp_ops ?_
                    refine vopsL_take 4 rfl ?_
                    refine vopsL_cmp rfl rfl rfl (by decide) rfl fun b hb120 => ?_
                    cases b with
                    | false =>
                      have hge_i := ge_eq (E.rows_len ex) hi_i hb120
                      refine awp_if false rfl (fun e => by cases e) fun _ => ?_
                      refine awp_exit ?_
                      refine ⟨{ ts := [(1, .p (j64 L)), (2, .p (j64 a)), (4, .ptr (.l 4) 0), (14, .p (j64 lp))], L := [(4, [.p (j64 10), .p (j64 n), .p (.vec (E.rows ex)), .p (.vec (S.rows bo)), .p (.vec (S.rows ot))])], G := G }, weakL _ ⟨rfl, rfl, rfl, rfl, trivial⟩ rfl rfl, rfl, ?_⟩
                      subst hge_i
                      simpa [exprsOk] using hI0
                    | true =>
                      obtain ⟨e, he_i, hlt_i⟩ := lt_get (E.rows_len ex) hb120
                      have hx_i := E.rows_get he_i
                      have hdr_i := drop_get he_i
                      obtain ⟨eop, en, enm, eks⟩ := e
                      refine awp_if true rfl (fun _ => ?_) (fun e => by cases e)
                      refine awp_skip ?_
                      refine awp_seq ?_
                      refine awp_block ?_
                      refine awp_seq ?_
                      refine awp_ops ?_
                      refine vopsL_take 3 rfl ?_
                      refine vopsL_idx hx_i rfl rfl rfl (by decide) rfl rfl rfl rfl (by decide) ?_
                      refine vopsL_take 4 rfl ?_
                      rw [wrap64 (x := a + 1) (by omega)]
                      refine vopsL_fn rfl rfl rfl (exprRC (.mk eop en enm eks) L (a + 1) G (by omega) (by omega)) ?_
                      cases hb131 : exprOk L (a + 1) (.mk eop en enm eks) with
                      | false =>
                        refine vopsL_take 1 rfl ?_
                        refine awp_if true rfl (fun _ => ?_) (fun e => by cases e)
                        refine awp_seq ?_
                        refine awp_run rfl ?_
                        refine awp_ret ?_
                        refine q_block (q_ret (q_for (q_ret ?_)))
                        exact leave_ret_same [] rfl hG (List.append_nil G).symm rfl ⟨congrArg (fun b => AEnd.ret (.p (.bool b))) (by rw [statOk, hI0, hdr_i]; simp [exprsOk, hb131]), rfl⟩
                      | true =>
                        refine vopsL_take 1 rfl ?_
                        refine awp_if false rfl (fun e => by cases e) fun _ => ?_
                        refine awp_skip ?_
                        refine awp_run rfl ?_
                        rw [wrap64 (x := (i : Int) + 1) (by omega)]
                        refine ⟨{ ts := [(1, .p (j64 L)), (2, .p (j64 a)), (4, .ptr (.l 4) 0), (14, .p (j64 lp)), (15, .p (j64 (i + 1 : Nat)))], L := [(4, [.p (j64 10), .p (j64 n), .p (.vec (E.rows ex)), .p (.vec (S.rows bo)), .p (.vec (S.rows ot))])], G := G }, weakL _ ⟨rfl, rfl, rfl, rfl, rfl, trivial⟩ rfl rfl, ex.length - (i + 1), by omega, i + 1, rfl, by omega, rfl, ?_⟩
                        rw [hI0, hdr_i]; simp [exprsOk, hb131]
                  · rintro s ⟨rfl, hX0⟩
                    refine awp_seq ?_
                    refine awp_ops ?_
                    refine vopsL_take 6 rfl ?_
                    rw [wrap64 (x := a + 1) (by omega)]
                    refine vopsL_fn rfl rfl rfl (ihb L (a + 1) (lp) G (by omega) (by omega) (by omega)) ?_
                    cases hb139 : statsOk L (lp) (a + 1) bo with
                    | false =>
                      refine vopsL_take 10 rfl ?_
                      refine awp_ret ?_
                      exact leave_ret_same [] rfl hG (List.append_nil G).symm rfl ⟨congrArg (fun b => AEnd.ret (.p (.bool b))) (by rw [statOk, hX0]; simp_all [formOk, hasOk, placeOk, codeOk] <;> omega), rfl⟩
                    | true =>
                      refine vopsL_take 7 rfl ?_
                      rw [wrap64 (x := a + 1) (by omega)]
                      refine vopsL_fnG rfl rfl rfl rfl (iho L (a + 1) (lp) G (by omega) (by omega) (by omega)) ?_
                      cases hb147 : statsOk L (lp) (a + 1) ot with
                      | false =>
                        refine vopsL_take 2 rfl ?_
                        refine awp_ret ?_
                        exact leave_ret_same [] rfl hG (List.append_nil G).symm rfl ⟨congrArg (fun b => AEnd.ret (.p (.bool b))) (by rw [statOk, hX0]; simp_all [formOk, hasOk, placeOk, codeOk] <;> omega), rfl⟩
                      | true =>
                        refine vopsL_take 2 rfl ?_
                        refine awp_ret ?_
                        exact leave_ret_same [] rfl hG (List.append_nil G).symm rfl ⟨congrArg (fun b => AEnd.ret (.p (.bool b))) (by rw [statOk, hX0]; simp_all [formOk, hasOk, placeOk, codeOk] <;> omega), rfl⟩
                | true =>
                  refine vopsL_take 1 rfl ?_
                  refine awp_if true rfl (fun _ => ?_) (fun e => by cases e)
                  refine awp_seq ?_
                  refine awp_run rfl ?_
                  refine awp_ret ?_
                  refine q_ret ?_
                  exact leave_ret_same [] rfl hG (List.append_nil G).symm rfl ⟨congrArg (fun b => AEnd.ret (.p (.bool b))) (by simp_all [statOk, formOk, hasOk, placeOk, codeOk] <;> omega), rfl⟩
              | true =>
                have h109 := of_decide_eq_true hb109
                rw [hlO] at h109
                have hk2 : ot ≠ [] := by rintro rfl; simp at h109
                refine vopsL_take 6 rfl ?_
                refine awp_if true rfl (fun _ => ?_) (fun e => by cases e)
                refine awp_seq ?_
                refine awp_run rfl ?_
                refine awp_ret ?_
                refine q_ret ?_
                exact leave_ret_same [] rfl hG (List.append_nil G).symm rfl ⟨congrArg (fun b => AEnd.ret (.p (.bool b))) (by simp_all [statOk, formOk, hasOk, placeOk, codeOk] <;> omega), rfl⟩
            | true =>
              have h99 := of_decide_eq_true hb99
              rw [hlB] at h99
              have hk1 : bo ≠ [] := by rintro rfl; simp at h99
              refine vopsL_take 16 rfl ?_
              refine awp_if true rfl (fun _ => ?_) (fun e => by cases e)
              refine awp_seq ?_
              refine awp_run rfl ?_
              refine awp_ret ?_
              refine q_ret ?_
              exact leave_ret_same [] rfl hG (List.append_nil G).symm rfl ⟨congrArg (fun b => AEnd.ret (.p (.bool b))) (by simp_all [statOk, formOk, hasOk, placeOk, codeOk] <;> omega), rfl⟩
          | true =>
            have h90 := of_decide_eq_true hb90
            rw [hlE] at h90
            have hk0 : ex ≠ [] := by rintro rfl; simp at h90
            refine vopsL_take 25 rfl ?_
            refine awp_if true rfl (fun _ => ?_) (fun e => by cases e)
            refine awp_seq ?_
            refine awp_run rfl ?_
            refine awp_ret ?_
            refine q_ret ?_
            exact leave_ret_same [] rfl hG (List.append_nil G).symm rfl ⟨congrArg (fun b => AEnd.ret (.p (.bool b))) (by simp_all [statOk, formOk, hasOk, placeOk, codeOk] <;> omega), rfl⟩
        | true =>
          have h83 := of_decide_eq_true hb83
          rw [hlE] at h83
          refine vopsL_take 32 rfl ?_
          refine awp_if true rfl (fun _ => ?_) (fun e => by cases e)
          refine awp_seq ?_
          refine awp_run rfl ?_
          refine awp_ret ?_
          refine q_ret ?_
          exact leave_ret_same [] rfl hG (List.append_nil G).symm rfl ⟨congrArg (fun b => AEnd.ret (.p (.bool b))) (by simp_all [statOk, formOk, hasOk, placeOk, codeOk] <;> omega), rfl⟩
  | true =>
    refine vopsL_take 1 rfl ?_
    refine awp_seq ?_
    refine awp_run rfl ?_
    refine awp_seq ?_
    refine awp_seq ?_
    refine awp_run rfl ?_
    refine awp_block ?_
    refine awp_seq ?_
    refine awp_run rfl ?_
    refine awp_if false rfl (fun e => by cases e) fun _ => ?_
    refine awp_seq ?_
    refine awp_run rfl ?_
    refine awp_if false rfl (fun e => by cases e) fun _ => ?_
    refine awp_seq ?_
    refine awp_seq ?_
    refine awp_run rfl ?_
    refine awp_if false rfl (fun e => by cases e) fun _ => ?_
    refine awp_run rfl ?_
    refine awp_if false rfl (fun e => by cases e) fun _ => ?_
    refine awp_seq ?_
    refine awp_run rfl ?_
    refine awp_if false rfl (fun e => by cases e) fun _ => ?_
    refine awp_seq ?_
    refine awp_run rfl ?_
    refine awp_if false rfl (fun e => by cases e) fun _ => ?_
    refine awp_seq ?_
    refine awp_seq ?_
    refine awp_run rfl ?_
    refine awp_if false rfl (fun e => by cases e) fun _ => ?_
    refine awp_run rfl ?_
    refine awp_if false rfl (fun e => by cases e) fun _ => ?_
    refine awp_seq ?_
    refine awp_run rfl ?_
    refine awp_if false rfl (fun e => by cases e) fun _ => ?_
    refine awp_seq ?_
    refine awp_run rfl ?_
    refine awp_if true rfl (fun _ => ?_) (fun e => by cases e)
    refine awp_sl mixed (by kernel_rfl) ?_
    refine vsl_take 2 rfl ?_
    refine vsl_cmp rfl rfl rfl fun b hb70 => ?_
    cases b with
    | false =>
      refine vsl_take 8 rfl ?_
      refine vsl_done ?_
      refine awp_seq ?_
      refine awp_seq ?_
      refine awp_ops ?_
      refine vopsL_take 40 rfl ?_
      refine awp_if true rfl (fun _ => ?_) (fun e => by cases e)
      refine awp_seq ?_
      refine awp_run rfl ?_
      refine awp_ret ?_
      refine q_ret ?_
      exact leave_ret_same [] rfl hG (List.append_nil G).symm rfl ⟨congrArg (fun b => AEnd.ret (.p (.bool b))) (by simp_all [statOk, formOk, hasOk, placeOk, codeOk] <;> omega), rfl⟩
    | true =>
      refine vsl_take 3 rfl ?_
      refine vsl_cmpG rfl rfl rfl rfl fun b hb74 => ?_
      cases b with
      | false =>
        refine vsl_take 4 rfl ?_
        refine vsl_done ?_
        refine awp_seq ?_
        refine awp_seq ?_
        refine awp_ops ?_
        refine vopsL_take 40 rfl ?_
        refine awp_if true rfl (fun _ => ?_) (fun e => by cases e)
        refine awp_seq ?_
        refine awp_run rfl ?_
        refine awp_ret ?_
        refine q_ret ?_
        exact leave_ret_same [] rfl hG (List.append_nil G).symm rfl ⟨congrArg (fun b => AEnd.ret (.p (.bool b))) (by simp_all [statOk, formOk, hasOk, placeOk, codeOk] <;> omega), rfl⟩
      | true =>
        refine vsl_take 4 rfl ?_
        refine vsl_done ?_
        refine awp_seq ?_
        refine awp_seq ?_
        refine awp_ops ?_
        refine vopsL_take 7 rfl ?_
        refine vopsL_cmpG rfl rfl rfl rfl (by decide) rfl fun b hb83 => ?_
        cases b with
        | false =>
          have h83 := of_decide_eq_false hb83
          rw [hlE] at h83
          refine vopsL_take 6 rfl ?_
          refine vopsL_cmpG rfl rfl rfl rfl (by decide) rfl fun b hb90 => ?_
          cases b with
          | false =>
            have h90 := of_decide_eq_false hb90
            rw [hlE] at h90
            refine vopsL_take 8 rfl ?_
            refine vopsL_cmpG rfl rfl rfl rfl (by decide) rfl fun b hb99 => ?_
            cases b with
            | false =>
              have h99 := of_decide_eq_false hb99
              rw [hlB] at h99
              have hk1 : bo = [] := List.eq_nil_of_length_eq_zero (by omega)
              refine vopsL_take 9 rfl ?_
              refine vopsL_cmpG rfl rfl rfl rfl (by decide) rfl fun b hb109 => ?_
              cases b with
              | false =>
                have h109 := of_decide_eq_false hb109
                rw [hlO] at h109
                have hk2 : ot = [] := List.eq_nil_of_length_eq_zero (by omega)
                refine vopsL_take 4 rfl ?_
                refine vopsL_cmpG rfl rfl rfl rfl (by decide) rfl fun b hb114 => ?_
                cases b with
                | false =>
                  have ha : a ≤ 100 := by simpa using hb114
                  have hkl : ex.length ≤ 2 := by omega
                  refine vopsL_take 1 rfl ?_
                  refine awp_if false rfl (fun e => by cases e) fun _ => ?_
                  refine awp_skip ?_
                  refine awp_seq ?_
                  refine awp_seq ?_
                  refine awp_run rfl ?_
                  refine awp_weak (s' := { ts := [(1, .p (j64 L)), (2, .p (j64 a)), (4, .ptr (.l 4) 0), (14, .p (j64 lp)), (15, .p (j64 0))], L := [(4, [.p (j64 10), .p (j64 n), .p (.vec (E.rows ex)), .p (.vec (S.rows bo)), .p (.vec (S.rows ot))])], G := G }) (weakL _ ⟨rfl, rfl, rfl, rfl, rfl, trivial⟩ rfl rfl) ?_
                  refine awp_forA (fun mm s => ∃ (i : Nat) , s = { ts := [(1, .p (j64 L)), (2, .p (j64 a)), (4, .ptr (.l 4) 0), (14, .p (j64 lp)), (15, .p (j64 i))], L := [(4, [.p (j64 10), .p (j64 n), .p (.vec (E.rows ex)), .p (.vec (S.rows bo)), .p (.vec (S.rows ot))])], G := G } ∧ i ≤ ex.length ∧ mm = ex.length - i ∧ exprsOk L (a + 1) ex = exprsOk L (a + 1) (ex.drop i))
                    (fun s => s = { ts := [(1, .p (j64 L)), (2, .p (j64 a)), (4, .ptr (.l 4) 0), (14, .p (j64 lp))], L := [(4, [.p (j64 10), .p (j64 n), .p (.vec (E.rows ex)), .p (.vec (S.rows bo)), .p (.vec (S.rows ot))])], G := G } ∧ exprsOk L (a + 1) ex = true) ex.length ⟨0, rfl, by omega, by omega, by simp⟩ ?_ ?_
                  · rintro mm s ⟨i, rfl, hi_i, rfl, hI0⟩
                    refine awp_seq ?_
                    refine awp_seq ?_
                    refine awp_ops ?_
                    refine vopsL_take 4 rfl ?_
                    refine vopsL_cmp rfl rfl rfl (by decide) rfl fun b hb120 => ?_
                    cases b with
                    | false =>
                      have hge_i := ge_eq (E.rows_len ex) hi_i hb120
                      refine awp_if false rfl (fun e => by cases e) fun _ => ?_
                      refine awp_exit ?_
                      refine ⟨{ ts := [(1, .p (j64 L)), (2, .p (j64 a)), (4, .ptr (.l 4) 0), (14, .p (j64 lp))], L := [(4, [.p (j64 10), .p (j64 n), .p (.vec (E.rows ex)), .p (.vec (S.rows bo)), .p (.vec (S.rows ot))])], G := G }, weakL _ ⟨rfl, rfl, rfl, rfl, trivial⟩ rfl rfl, rfl, ?_⟩
                      subst hge_i
                      simpa [exprsOk] using hI0
                    | true =>
                      obtain ⟨e, he_i, hlt_i⟩ := lt_get (E.rows_len ex) hb120
                      have hx_i := E.rows_get he_i
                      have hdr_i := drop_get he_i
                      obtain ⟨eop, en, enm, eks⟩ := e
                      refine awp_if true rfl (fun _ => ?_) (fun e => by cases e)
                      refine awp_skip ?_
                      refine awp_seq ?_
                      refine awp_block ?_
                      refine awp_seq ?_
                      refine awp_ops ?_
                      refine vopsL_take 3 rfl ?_
                      refine vopsL_idx hx_i rfl rfl rfl (by decide) rfl rfl rfl rfl (by decide) ?_
                      refine vopsL_take 4 rfl ?_
                      rw [wrap64 (x := a + 1) (by omega)]
                      refine vopsL_fn rfl rfl rfl (exprRC (.mk eop en enm eks) L (a + 1) G (by omega) (by omega)) ?_
                      cases hb131 : exprOk L (a + 1) (.mk eop en enm eks) with
                      | false =>
                        refine vopsL_take 1 rfl ?_
                        refine awp_if true rfl (fun _ => ?_) (fun e => by cases e)
                        refine awp_seq ?_
                        refine awp_run rfl ?_
                        refine awp_ret ?_
                        refine q_block (q_ret (q_for (q_ret ?_)))
                        exact leave_ret_same [] rfl hG (List.append_nil G).symm rfl ⟨congrArg (fun b => AEnd.ret (.p (.bool b))) (by rw [statOk, hI0, hdr_i]; simp [exprsOk, hb131]), rfl⟩
                      | true =>
                        refine vopsL_take 1 rfl ?_
                        refine awp_if false rfl (fun e => by cases e) fun _ => ?_
                        refine awp_skip ?_
                        refine awp_run rfl ?_
                        rw [wrap64 (x := (i : Int) + 1) (by omega)]
                        refine ⟨{ ts := [(1, .p (j64 L)), (2, .p (j64 a)), (4, .ptr (.l 4) 0), (14, .p (j64 lp)), (15, .p (j64 (i + 1 : Nat)))], L := [(4, [.p (j64 10), .p (j64 n), .p (.vec (E.rows ex)), .p (.vec (S.rows bo)), .p (.vec (S.rows ot))])], G := G }, weakL _ ⟨rfl, rfl, rfl, rfl, rfl, trivial⟩ rfl rfl, ex.length - (i + 1), by omega, i + 1, rfl, by omega, rfl, ?_⟩
                        rw [hI0, hdr_i]; simp [exprsOk, hb131]
                  · rintro s ⟨rfl, hX0⟩
                    refine awp_seq ?_
                    refine awp_ops ?_
                    refine vopsL_take 6 rfl ?_
                    rw [wrap64 (x := a + 1) (by omega)]
                    refine vopsL_fn rfl rfl rfl (ihb L (a + 1) (lp) G (by omega) (by omega) (by omega)) ?_
                    cases hb139 : statsOk L (lp) (a + 1) bo with
                    | false =>
                      refine vopsL_take 10 rfl ?_
                      refine awp_ret ?_
                      exact leave_ret_same [] rfl hG (List.append_nil G).symm rfl ⟨congrArg (fun b => AEnd.ret (.p (.bool b))) (by rw [statOk, hX0]; simp_all [formOk, hasOk, placeOk, codeOk] <;> omega), rfl⟩
                    | true =>
                      refine vopsL_take 7 rfl ?_
                      rw [wrap64 (x := a + 1) (by omega)]
                      refine vopsL_fnG rfl rfl rfl rfl (iho L (a + 1) (lp) G (by omega) (by omega) (by omega)) ?_
                      cases hb147 : statsOk L (lp) (a + 1) ot with
                      | false =>
                        refine vopsL_take 2 rfl ?_
                        refine awp_ret ?_
                        exact leave_ret_same [] rfl hG (List.append_nil G).symm rfl ⟨congrArg (fun b => AEnd.ret (.p (.bool b))) (by rw [statOk, hX0]; simp_all [formOk, hasOk, placeOk, codeOk] <;> omega), rfl⟩
                      | true =>
                        refine vopsL_take 2 rfl ?_
                        refine awp_ret ?_
                        exact leave_ret_same [] rfl hG (List.append_nil G).symm rfl ⟨congrArg (fun b => AEnd.ret (.p (.bool b))) (by rw [statOk, hX0]; simp_all [formOk, hasOk, placeOk, codeOk] <;> omega), rfl⟩
                | true =>
                  refine vopsL_take 1 rfl ?_
                  refine awp_if true rfl (fun _ => ?_) (fun e => by cases e)
                  refine awp_seq ?_
                  refine awp_run rfl ?_
                  refine awp_ret ?_
                  refine q_ret ?_
                  exact leave_ret_same [] rfl hG (List.append_nil G).symm rfl ⟨congrArg (fun b => AEnd.ret (.p (.bool b))) (by simp_all [statOk, formOk, hasOk, placeOk, codeOk] <;> omega), rfl⟩
              | true =>
                have h109 := of_decide_eq_true hb109
                rw [hlO] at h109
                have hk2 : ot ≠ [] := by rintro rfl; simp at h109
                refine vopsL_take 6 rfl ?_
                refine awp_if true rfl (fun _ => ?_) (fun e => by cases e)
                refine awp_seq ?_
                refine awp_run rfl ?_
                refine awp_ret ?_
                refine q_ret ?_
                exact leave_ret_same [] rfl hG (List.append_nil G).symm rfl ⟨congrArg (fun b => AEnd.ret (.p (.bool b))) (by simp_all [statOk, formOk, hasOk, placeOk, codeOk] <;> omega), rfl⟩
            | true =>
              have h99 := of_decide_eq_true hb99
              rw [hlB] at h99
              have hk1 : bo ≠ [] := by rintro rfl; simp at h99
              refine vopsL_take 16 rfl ?_
              refine awp_if true rfl (fun _ => ?_) (fun e => by cases e)
              refine awp_seq ?_
              refine awp_run rfl ?_
              refine awp_ret ?_
              refine q_ret ?_
              exact leave_ret_same [] rfl hG (List.append_nil G).symm rfl ⟨congrArg (fun b => AEnd.ret (.p (.bool b))) (by simp_all [statOk, formOk, hasOk, placeOk, codeOk] <;> omega), rfl⟩
          | true =>
            have h90 := of_decide_eq_true hb90
            rw [hlE] at h90
            have hk0 : ex ≠ [] := by rintro rfl; simp at h90
            refine vopsL_take 25 rfl ?_
            refine awp_if true rfl (fun _ => ?_) (fun e => by cases e)
            refine awp_seq ?_
            refine awp_run rfl ?_
            refine awp_ret ?_
            refine q_ret ?_
            exact leave_ret_same [] rfl hG (List.append_nil G).symm rfl ⟨congrArg (fun b => AEnd.ret (.p (.bool b))) (by simp_all [statOk, formOk, hasOk, placeOk, codeOk] <;> omega), rfl⟩
        | true =>
          have h83 := of_decide_eq_true hb83
          rw [hlE] at h83
          refine vopsL_take 32 rfl ?_
          refine awp_if true rfl (fun _ => ?_) (fun e => by cases e)
          refine awp_seq ?_
          refine awp_run rfl ?_
          refine awp_ret ?_
          refine q_ret ?_
          exact leave_ret_same [] rfl hG (List.append_nil G).symm rfl ⟨congrArg (fun b => AEnd.ret (.p (.bool b))) (by simp_all [statOk, formOk, hasOk, placeOk, codeOk] <;> omega), rfl⟩
theorem c_rstat0 (op : Int) (h : ¬ (1 ≤ op ∧ op ≤ 10)) (L lp a n : Int) (ex : List E) (bo ot : List S) (G : List Blk) (h1 : 0 ≤ lp) (h2 : lp ≤ a) (h3 : a ≤ 101) (ihb : StatsRC bo) (iho : StatsRC ot) : FnIs Try.prog 115 [.agg (S.args (.mk op n ex bo ot)), .p (j64 L), .p (j64 a), .p (j64 lp)] G (.p (.bool (statOk L lp a (.mk op n ex bo ot)))) := by
  refine acalls_fn (cfg 149) Try.func115 rfl rfl rfl (by simp) fun hG => ?_
  refine awp_seq ?_
  refine awp_run rfl ?_
  refine awp_seq ?_
  refine awp_run rfl ?_
  refine awp_seq ?_
  refine awp_ops ?_
  refine vopsL_take 2 rfl ?_
  refine vopsL_cmp rfl rfl rfl (by decide) rfl fun b hb18 => ?_
  cases b with
  | false =>
    refine vopsL_take 1 rfl ?_
    refine awp_seq ?_
    refine awp_run rfl ?_
    refine awp_seq ?_
    refine awp_seq ?_
    refine awp_run rfl ?_
    refine awp_block ?_
    refine awp_seq ?_
    refine awp_ops ?_
    refine vopsL_cmp rfl rfl rfl (by decide) rfl fun b hb23 => ?_
    obtain rfl : b = false := by rw [← hb23]; simp; omega
    refine vopsL_take 1 rfl ?_
    refine awp_if false rfl (fun e => by cases e) fun _ => ?_
    refine awp_seq ?_
    refine awp_ops ?_
    refine vopsL_cmp rfl rfl rfl (by decide) rfl fun b hb34 => ?_
    obtain rfl : b = false := by rw [← hb34]; simp; omega
    refine vopsL_take 1 rfl ?_
    refine awp_if false rfl (fun e => by cases e) fun _ => ?_
    refine awp_seq ?_
    refine awp_seq ?_
    refine awp_ops ?_
    refine vopsL_cmp rfl rfl rfl (by decide) rfl fun b hb44 => ?_
    obtain rfl : b = false := by rw [← hb44]; simp; omega
    refine vopsL_take 1 rfl ?_
    refine awp_if false rfl (fun e => by cases e) fun _ => ?_
    refine awp_ops ?_
    refine vopsL_cmp rfl rfl rfl (by decide) rfl fun b hb45 => ?_
    obtain rfl : b = false := by rw [← hb45]; simp; omega
    refine vopsL_take 1 rfl ?_
    refine awp_if false rfl (fun e => by cases e) fun _ => ?_
    refine awp_seq ?_
    refine awp_ops ?_
    refine vopsL_cmp rfl rfl rfl (by decide) rfl fun b hb47 => ?_
    obtain rfl : b = false := by rw [← hb47]; simp; omega
    refine vopsL_take 1 rfl ?_
    refine awp_if false rfl (fun e => by cases e) fun _ => ?_
    refine awp_seq ?_
    refine awp_ops ?_
    refine vopsL_cmp rfl rfl rfl (by decide) rfl fun b hb49 => ?_
    obtain rfl : b = false := by rw [← hb49]; simp; omega
    refine vopsL_take 1 rfl ?_
    refine awp_if false rfl (fun e => by cases e) fun _ => ?_
    refine awp_seq ?_
    refine awp_seq ?_
    refine awp_ops ?_
    refine vopsL_cmp rfl rfl rfl (by decide) rfl fun b hb53 => ?_
    obtain rfl : b = false := by rw [← hb53]; simp; omega
    refine vopsL_take 1 rfl ?_
    refine awp_if false rfl (fun e => by cases e) fun _ => ?_
    refine awp_ops ?_
    refine vopsL_cmp rfl rfl rfl (by decide) rfl fun b hb54 => ?_
    obtain rfl : b = false := by rw [← hb54]; simp; omega
    refine vopsL_take 1 rfl ?_
    refine awp_if false rfl (fun e => by cases e) fun _ => ?_
    refine awp_seq ?_
    refine awp_ops ?_
    refine vopsL_cmp rfl rfl rfl (by decide) rfl fun b hb65 => ?_
    obtain rfl : b = false := by rw [← hb65]; simp; omega
    refine vopsL_take 1 rfl ?_
    refine awp_if false rfl (fun e => by cases e) fun _ => ?_
    refine awp_seq ?_
    refine awp_ops ?_
    refine vopsL_cmp rfl rfl rfl (by decide) rfl fun b hb67 => ?_
    obtain rfl : b = false := by rw [← hb67]; simp; omega
    refine vopsL_take 1 rfl ?_
    refine awp_if false rfl (fun e => by cases e) fun _ => ?_
    refine awp_seq ?_
    refine awp_run rfl ?_
    refine awp_ret ?_
    refine q_block (q_ret ?_)
    exact leave_ret_same [] rfl hG (List.append_nil G).symm rfl ⟨congrArg (fun b => AEnd.ret (.p (.bool b))) (by rw [statOk]; simp only [formOk]; rw [if_neg (by omega), if_neg (by omega), if_neg (by omega), if_neg (by omega), if_neg (by omega), if_neg (by omega), if_neg (by omega), if_neg (by omega), if_neg (by omega), if_neg (by omega)]; simp), rfl⟩
  | true =>
    refine vopsL_take 1 rfl ?_
    refine awp_seq ?_
    refine awp_run rfl ?_
    refine awp_seq ?_
    refine awp_seq ?_
    refine awp_run rfl ?_
    refine awp_block ?_
    refine awp_seq ?_
    refine awp_ops ?_
    refine vopsL_cmp rfl rfl rfl (by decide) rfl fun b hb23 => ?_
    obtain rfl : b = false := by rw [← hb23]; simp; omega
    refine vopsL_take 1 rfl ?_
    refine awp_if false rfl (fun e => by cases e) fun _ => ?_
    refine awp_seq ?_
    refine awp_ops ?_
    refine vopsL_cmp rfl rfl rfl (by decide) rfl fun b hb34 => ?_
    obtain rfl : b = false := by rw [← hb34]; simp; omega
    refine vopsL_take 1 rfl ?_
    refine awp_if false rfl (fun e => by cases e) fun _ => ?_
    refine awp_seq ?_
    refine awp_seq ?_
    refine awp_ops ?_
    refine vopsL_cmp rfl rfl rfl (by decide) rfl fun b hb44 => ?_
    obtain rfl : b = false := by rw [← hb44]; simp; omega
    refine vopsL_take 1 rfl ?_
    refine awp_if false rfl (fun e => by cases e) fun _ => ?_
    refine awp_ops ?_
    refine vopsL_cmp rfl rfl rfl (by decide) rfl fun b hb45 => ?_
    obtain rfl : b = false := by rw [← hb45]; simp; omega
    refine vopsL_take 1 rfl ?_
    refine awp_if false rfl (fun e => by cases e) fun _ => ?_
    refine awp_seq ?_
    refine awp_ops ?_
    refine vopsL_cmp rfl rfl rfl (by decide) rfl fun b hb47 => ?_
    obtain rfl : b = false := by rw [← hb47]; simp; omega
    refine vopsL_take 1 rfl ?_
    refine awp_if false rfl (fun e => by cases e) fun _ => ?_
    refine awp_seq ?_
    refine awp_ops ?_
    refine vopsL_cmp rfl rfl rfl (by decide) rfl fun b hb49 => ?_
    obtain rfl : b = false := by rw [← hb49]; simp; omega
    refine vopsL_take 1 rfl ?_
    refine awp_if false rfl (fun e => by cases e) fun _ => ?_
    refine awp_seq ?_
    refine awp_seq ?_
    refine awp_ops ?_
    refine vopsL_cmp rfl rfl rfl (by decide) rfl fun b hb53 => ?_
    obtain rfl : b = false := by rw [← hb53]; simp; omega
    refine vopsL_take 1 rfl ?_
    refine awp_if false rfl (fun e => by cases e) fun _ => ?_
    refine awp_ops ?_
    refine vopsL_cmp rfl rfl rfl (by decide) rfl fun b hb54 => ?_
    obtain rfl : b = false := by rw [← hb54]; simp; omega
    refine vopsL_take 1 rfl ?_
    refine awp_if false rfl (fun e => by cases e) fun _ => ?_
    refine awp_seq ?_
    refine awp_ops ?_
    refine vopsL_cmp rfl rfl rfl (by decide) rfl fun b hb65 => ?_
    obtain rfl : b = false := by rw [← hb65]; simp; omega
    refine vopsL_take 1 rfl ?_
    refine awp_if false rfl (fun e => by cases e) fun _ => ?_
    refine awp_seq ?_
    refine awp_ops ?_
    refine vopsL_cmp rfl rfl rfl (by decide) rfl fun b hb67 => ?_
    obtain rfl : b = false := by rw [← hb67]; simp; omega
    refine vopsL_take 1 rfl ?_
    refine awp_if false rfl (fun e => by cases e) fun _ => ?_
    refine awp_seq ?_
    refine awp_run rfl ?_
    refine awp_ret ?_
    refine q_block (q_ret ?_)
    exact leave_ret_same [] rfl hG (List.append_nil G).symm rfl ⟨congrArg (fun b => AEnd.ret (.p (.bool b))) (by rw [statOk]; simp only [formOk]; rw [if_neg (by omega), if_neg (by omega), if_neg (by omega), if_neg (by omega), if_neg (by omega), if_neg (by omega), if_neg (by omega), if_neg (by omega), if_neg (by omega), if_neg (by omega)]; simp), rfl⟩

theorem c_rstat (op : Int) (L lp a n : Int) (ex : List E) (bo ot : List S) (G : List Blk) (h1 : 0 ≤ lp) (h2 : lp ≤ a) (h3 : a ≤ 101) (ihb : StatsRC bo) (iho : StatsRC ot) : FnIs Try.prog 115 [.agg (S.args (.mk op n ex bo ot)), .p (j64 L), .p (j64 a), .p (j64 lp)] G (.p (.bool (statOk L lp a (.mk op n ex bo ot)))) := by
  by_cases h : 1 ≤ op ∧ op ≤ 10
  · have : op = 1 ∨ op = 2 ∨ op = 3 ∨ op = 4 ∨ op = 5 ∨ op = 6 ∨ op = 7 ∨ op = 8 ∨ op = 9 ∨ op = 10 := by omega
    rcases this with rfl | rfl | rfl | rfl | rfl | rfl | rfl | rfl | rfl | rfl
    · exact c_rstat1 L lp a n ex bo ot G h1 h2 h3 ihb iho
    · exact c_rstat2 L lp a n ex bo ot G h1 h2 h3 ihb iho
    · exact c_rstat3 L lp a n ex bo ot G h1 h2 h3 ihb iho
    · exact c_rstat4 L lp a n ex bo ot G h1 h2 h3 ihb iho
    · exact c_rstat5 L lp a n ex bo ot G h1 h2 h3 ihb iho
    · exact c_rstat6 L lp a n ex bo ot G h1 h2 h3 ihb iho
    · exact c_rstat7 L lp a n ex bo ot G h1 h2 h3 ihb iho
    · exact c_rstat8 L lp a n ex bo ot G h1 h2 h3 ihb iho
    · exact c_rstat9 L lp a n ex bo ot G h1 h2 h3 ihb iho
    · exact c_rstat10 L lp a n ex bo ot G h1 h2 h3 ihb iho
  · exact c_rstat0 op h L lp a n ex bo ot G h1 h2 h3 ihb iho

theorem c_rstats (ss : List S) (ih : ∀ op n ex bo ot, S.mk op n ex bo ot ∈ ss → StatsRC bo ∧ StatsRC ot) : StatsRC ss := by
  intro L a lp G h1 h2 h3
  refine acalls_fn (cfg 25) Try.func79 rfl rfl rfl (by simp) fun hG => ?_
  refine awp_seq ?_
  refine awp_run rfl ?_
  refine awp_seq ?_
  refine awp_seq ?_
  refine awp_run rfl ?_
  refine awp_weak (s' := { ts := [(0, .p (.vec (S.rows ss))), (1, .p (j64 L)), (2, .p (j64 a)), (3, .p (j64 lp)), (9, .p (j64 0))], L := [], G := G }) (weakL _ ⟨rfl, rfl, rfl, rfl, rfl, trivial⟩ rfl rfl) ?_
  refine awp_len (t := 0) rfl fun hle => ?_
  rw [S.rows_len] at hle
  refine awp_forA (fun mm s => ∃ (i : Nat) , s = { ts := [(0, .p (.vec (S.rows ss))), (1, .p (j64 L)), (2, .p (j64 a)), (3, .p (j64 lp)), (9, .p (j64 i))], L := [], G := G } ∧ i ≤ ss.length ∧ mm = ss.length - i ∧ statsOk L lp a ss = statsOk L lp a (ss.drop i))
    (fun s => s = { ts := [], L := [], G := G } ∧ statsOk L lp a ss = true) ss.length ⟨0, rfl, by omega, by omega, by simp⟩ ?_ ?_
  · rintro mm s ⟨i, rfl, hi_i, rfl, hI0⟩
    refine awp_seq ?_
    refine awp_seq ?_
    refine awp_ops ?_
    refine vopsL_take 3 rfl ?_
    refine vopsL_cmp rfl rfl rfl (by decide) rfl fun b hb13 => ?_
    cases b with
    | false =>
      have hge_i := ge_eq (S.rows_len ss) hi_i hb13
      refine awp_if false rfl (fun e => by cases e) fun _ => ?_
      refine awp_exit ?_
      refine ⟨{ ts := [], L := [], G := G }, weakL _ trivial rfl rfl, rfl, ?_⟩
      subst hge_i
      simpa [statsOk] using hI0
    | true =>
      obtain ⟨e, he_i, hlt_i⟩ := lt_get (S.rows_len ss) hb13
      have hx_i := S.rows_get he_i
      have hdr_i := drop_get he_i
      obtain ⟨op, n, ex, bo, ot⟩ := e
      obtain ⟨ihb, iho⟩ := ih op n ex bo ot (List.mem_of_getElem? he_i)
      refine awp_if true rfl (fun _ => ?_) (fun e => by cases e)
      refine awp_skip ?_
      refine awp_seq ?_
      refine awp_block ?_
      refine awp_seq ?_
      refine awp_ops ?_
      refine vopsL_take 2 rfl ?_
      refine vopsL_idx hx_i rfl rfl rfl (by decide) rfl rfl rfl rfl (by decide) ?_
      refine vopsL_take 4 rfl ?_
      refine vopsL_fn rfl rfl rfl (c_rstat op L lp a n ex bo ot G h1 h2 h3 ihb iho) ?_
      cases hb23 : statOk L lp a (.mk op n ex bo ot) with
      | false =>
        refine vopsL_take 1 rfl ?_
        refine awp_if true rfl (fun _ => ?_) (fun e => by cases e)
        refine awp_seq ?_
        refine awp_run rfl ?_
        refine awp_ret ?_
        refine q_block (q_ret (q_for (q_ret ?_)))
        exact leave_ret_same [] rfl hG (List.append_nil G).symm rfl ⟨congrArg (fun b => AEnd.ret (.p (.bool b))) (by rw [hI0, hdr_i]; simp [statsOk, hb23]), rfl⟩
      | true =>
        refine vopsL_take 1 rfl ?_
        refine awp_if false rfl (fun e => by cases e) fun _ => ?_
        refine awp_skip ?_
        refine awp_run rfl ?_
        rw [wrap64 (x := (i : Int) + 1) (by omega)]
        refine ⟨{ ts := [(0, .p (.vec (S.rows ss))), (1, .p (j64 L)), (2, .p (j64 a)), (3, .p (j64 lp)), (9, .p (j64 (i + 1 : Nat)))], L := [], G := G }, weakL _ ⟨rfl, rfl, rfl, rfl, rfl, trivial⟩ rfl rfl, ss.length - (i + 1), by omega, i + 1, rfl, by omega, rfl, ?_⟩
        rw [hI0, hdr_i]; simp [statsOk, hb23]
  · rintro s ⟨rfl, hX0⟩
    refine awp_seq ?_
    refine awp_run rfl ?_
    refine awp_ret ?_
    exact leave_ret_same [] rfl hG (List.append_nil G).symm rfl ⟨congrArg (fun b => AEnd.ret (.p (.bool b))) (by rw [hX0]), rfl⟩

theorem statsRC : ∀ ss : List S, StatsRC ss := S.ind c_rstats
end Go.Proofs.Ytnicgdfnfnchjaa

/-
  Which modules are right: the reference's own 'Func', 'Data', 'Valid'.
-/
set_option linter.unusedVariables false
set_option linter.unusedSimpArgs false
set_option maxRecDepth 100000
namespace Go.Proofs.Ytnicgdfnfnchjaa
open Go.Abs

theorem c_rfunc (f : F) (G : List Blk) : FnIs Try.prog 37 [.agg f.args] G (.p (.bool (funcOk f))) := by
  refine acalls_fn (cfg 35) Try.func37 rfl rfl rfl (by simp) fun hG => ?_
  refine awp_seq ?_
  refine awp_run rfl ?_
  refine awp_seq ?_
  refine awp_ops ?_
  refine vopsL_take 2 rfl ?_
  refine vopsL_fn rfl rfl rfl (c_rname f.name _) ?_
  cases hb5 : nameOk f.name with
  | false =>
    refine vopsL_take 30 rfl ?_
    refine awp_ret ?_
    exact leave_ret_same [] rfl hG (List.append_nil G).symm rfl ⟨congrArg (fun b => AEnd.ret (.p (.bool b))) (by simp_all [funcOk] <;> omega), rfl⟩
  | true =>
    refine vopsL_take 3 rfl ?_
    refine vopsL_cmpG rfl rfl rfl rfl (by decide) rfl fun b hb9 => ?_
    cases b with
    | false =>
      refine vopsL_take 26 rfl ?_
      refine awp_ret ?_
      exact leave_ret_same [] rfl hG (List.append_nil G).symm rfl ⟨congrArg (fun b => AEnd.ret (.p (.bool b))) (by simp_all [funcOk] <;> omega), rfl⟩
    | true =>
      refine vopsL_take 4 rfl ?_
      refine vopsL_cmpG rfl rfl rfl rfl (by decide) rfl fun b hb14 => ?_
      cases b with
      | false =>
        refine vopsL_take 21 rfl ?_
        refine awp_ret ?_
        exact leave_ret_same [] rfl hG (List.append_nil G).symm rfl ⟨congrArg (fun b => AEnd.ret (.p (.bool b))) (by simp_all [funcOk] <;> omega), rfl⟩
      | true =>
        refine vopsL_take 6 rfl ?_
        refine vopsL_cmpG rfl rfl rfl rfl (by decide) rfl fun b hb21 => ?_
        cases b with
        | false =>
          refine vopsL_take 14 rfl ?_
          refine awp_ret ?_
          exact leave_ret_same [] rfl hG (List.append_nil G).symm rfl ⟨congrArg (fun b => AEnd.ret (.p (.bool b))) (by simp_all [funcOk] <;> omega), rfl⟩
        | true =>
          refine vopsL_take 4 rfl ?_
          refine vopsL_cmpG rfl rfl rfl rfl (by decide) rfl fun b hb26 => ?_
          cases b with
          | false =>
            refine vopsL_take 9 rfl ?_
            refine awp_ret ?_
            exact leave_ret_same [] rfl hG (List.append_nil G).symm rfl ⟨congrArg (fun b => AEnd.ret (.p (.bool b))) (by simp_all [funcOk] <;> omega), rfl⟩
          | true =>
            refine vopsL_take 6 rfl ?_
            refine vopsL_fnG rfl rfl rfl rfl (statsRC f.body f.locals 0 0 G (by omega) (by omega) (by omega)) ?_
            cases hb33 : statsOk f.locals 0 0 f.body with
            | false =>
              refine vopsL_take 2 rfl ?_
              refine awp_ret ?_
              exact leave_ret_same [] rfl hG (List.append_nil G).symm rfl ⟨congrArg (fun b => AEnd.ret (.p (.bool b))) (by simp_all [funcOk] <;> omega), rfl⟩
            | true =>
              refine vopsL_take 2 rfl ?_
              refine awp_ret ?_
              exact leave_ret_same [] rfl hG (List.append_nil G).symm rfl ⟨congrArg (fun b => AEnd.ret (.p (.bool b))) (by simp_all [funcOk] <;> omega), rfl⟩

theorem pigeon : ∀ (W : Nat) (l : List Nat), l.Nodup → (∀ x ∈ l, x < W) → l.length ≤ W
  | 0, l, _, h => by
    cases l with
    | nil => simp
    | cons x r => have := h x (by simp); omega
  | W + 1, l, hn, h => by
    have h1 := pigeon W (l.erase W) (hn.erase W) fun x hx => by
      have hx' := (hn.mem_erase_iff).1 hx
      have := h x hx'.2
      omega
    have h2 : l.length ≤ (l.erase W).length + 1 := by
      rw [List.length_erase]; split <;> omega
    omega

theorem refsOk_nodup (W : Int) : ∀ (rs : List RF) (seen : List Int), seen.Nodup → (∀ x ∈ seen, 0 ≤ x ∧ x < W) → refsOk W seen rs = true → ∃ l : List Int, l.length = seen.length + rs.length ∧ l.Nodup ∧ ∀ x ∈ l, 0 ≤ x ∧ x < W
  | [], seen, hn, hs, _ => ⟨seen, by simp, hn, hs⟩
  | r :: rs, seen, hn, hs, h => by
    simp only [refsOk, Bool.and_eq_true, decide_eq_true_eq] at h
    obtain ⟨⟨⟨⟨h1, h2⟩, h3⟩, h4⟩, h5⟩ := h
    obtain ⟨l, e1, e2, e3⟩ := refsOk_nodup W rs (seen ++ [r.place]) (by
      rw [List.nodup_append]
      refine ⟨hn, by simp, fun a ha b hb => ?_⟩
      simp only [List.mem_singleton] at hb
      rintro rfl; subst hb; exact h4 ha) (fun x hx => by
      rcases List.mem_append.1 hx with hx | hx
      · exact hs x hx
      · simp only [List.mem_singleton] at hx; subst hx; exact ⟨h2, h3⟩) h5
    exact ⟨l, by rw [e1]; simp; omega, e2, e3⟩

theorem refsOk_len {W : Nat} {rs : List RF} (h : W < rs.length) : refsOk W [] rs = false := by
  rw [Bool.eq_false_iff]
  intro h'
  obtain ⟨l, e1, e2, e3⟩ := refsOk_nodup W rs [] (by simp) (by simp) h'
  have hnd : (l.map Int.toNat).Nodup := by
    clear e1
    induction l with
    | nil => simp
    | cons a r ih =>
      simp only [List.nodup_cons, List.map_cons] at e2 ⊢
      refine ⟨fun hm => ?_, ih e2.2 fun x hx => e3 x (by simp [hx])⟩
      obtain ⟨b, hb, hab⟩ := List.mem_map.1 hm
      have h1 := e3 a (by simp)
      have h2 := e3 b (by simp [hb])
      have : b = a := by omega
      subst this
      exact e2.1 hb
  have := pigeon W (l.map Int.toNat) hnd (fun x hx => by
    obtain ⟨b, hb, rfl⟩ := List.mem_map.1 hx
    have := e3 b hb
    omega)
  simp at this e1
  omega

theorem c_rdata (d : D) (G : List Blk) : FnIs Try.prog 38 [.agg d.args] G (.p (.bool (dataOk d))) := by
  have hlW := map_len wordRow d.words
  have hlR := map_len RF.row d.refs
  refine acalls_fn (cfg 72) Try.func38 rfl rfl rfl (by simp) fun hG => ?_
  refine awp_seq ?_
  refine awp_run rfl ?_
  refine awp_seq ?_
  refine awp_seq ?_
  refine awp_ops ?_
  refine vopsL_take 2 rfl ?_
  refine vopsL_fn rfl rfl rfl (c_rname d.name _) ?_
  cases hb7 : nameOk d.name with
  | false =>
    refine vopsL_take 10 rfl ?_
    refine awp_if true rfl (fun _ => ?_) (fun e => by cases e)
    refine awp_seq ?_
    refine awp_run rfl ?_
    refine awp_ret ?_
    refine q_ret ?_
    exact leave_ret_same [] rfl hG (List.append_nil G).symm rfl ⟨congrArg (fun b => AEnd.ret (.p (.bool b))) (by simp [dataOk, hb7]), rfl⟩
  | true =>
    refine vopsL_take 8 rfl ?_
    refine vopsL_cmpG rfl rfl rfl rfl (by decide) rfl fun b hb16 => ?_
    cases b with
    | false =>
      refine vopsL_take 1 rfl ?_
      refine awp_if false rfl (fun e => by cases e) fun _ => ?_
      refine awp_skip ?_
      refine awp_seq ?_
      refine awp_seq ?_
      refine awp_run rfl ?_
      refine awp_weak (s' := { ts := [(1, .ptr (.l 1) 0), (3, .p (j64 0))], L := [(1, [.p (.str d.name), .p (.bool d.weak), .p (.vec (d.words.map wordRow)), .p (.vec (d.refs.map RF.row))])], G := G }) (weakL _ ⟨rfl, rfl, trivial⟩ rfl rfl) ?_
      refine awp_lenL (t := 1) (off := 3) rfl rfl fun hle => ?_
      rw [hlR] at hle
      refine awp_forE (fun mm s => ∃ (i : Nat) , s = { ts := [(1, .ptr (.l 1) 0), (3, .p (j64 i))], L := [(1, [.p (.str d.name), .p (.bool d.weak), .p (.vec (d.words.map wordRow)), .p (.vec (d.refs.map RF.row))])], G := G } ∧ i ≤ d.refs.length ∧ mm = d.refs.length - i ∧ refsOk d.words.length [] d.refs = refsOk d.words.length ((d.refs.take i).map RF.place) (d.refs.drop i))
        (fun s => s = { ts := [], L := [], G := G } ∧ refsOk d.words.length [] d.refs = true) d.refs.length ⟨0, rfl, by omega, by omega, by simp⟩ ?_ ?_
      · rintro mm s ⟨i, rfl, hi_i, rfl, hI0⟩
        refine awp_seq ?_
        refine awp_seq ?_
        refine awp_ops ?_
        refine vopsL_take 4 rfl ?_
        refine vopsL_cmp rfl rfl rfl (by decide) rfl fun b hb22 => ?_
        cases b with
        | false =>
          have hge_i := ge_eq (map_len RF.row d.refs) hi_i hb22
          refine awp_if false rfl (fun e => by cases e) fun _ => ?_
          refine awp_exit ?_
          refine ⟨{ ts := [], L := [], G := G }, (weakK _ 1).trans (weakL _ trivial rfl rfl), rfl, ?_⟩
          subst hge_i
          simpa [refsOk] using hI0
        | true =>
          obtain ⟨r, he_i, hlt_i⟩ := lt_get (map_len RF.row d.refs) hb22
          have hx_i := map_get (f := RF.row) he_i
          have hdr_i := drop_get he_i
          refine awp_if true rfl (fun _ => ?_) (fun e => by cases e)
          refine awp_skip ?_
          refine awp_seq ?_
          refine awp_block ?_
          refine awp_seq ?_
          refine awp_seq ?_
          refine awp_fns 29 mixed (by kernel_rfl) rfl ?_
          refine vfn_take 3 rfl rfl rfl ?_
          refine vfn_idx hx_i rfl rfl rfl rfl rfl rfl (by decide) rfl ?_
          refine vfn_take 2 rfl rfl rfl ?_
          refine vfn_cmp rfl rfl rfl fun b hb31 => ?_
          cases b with
          | false =>
            refine vfn_take 4 rfl rfl rfl ?_
            refine vfn_idxG hx_i rfl rfl rfl rfl rfl rfl rfl (by decide) rfl ?_
            refine vfn_take 5 rfl rfl rfl ?_
            refine vfn_cmpG rfl rfl rfl rfl fun b hb42 => ?_
            cases b with
            | false =>
              refine vfn_take 5 rfl rfl rfl ?_
              refine vfn_idxG hx_i rfl rfl rfl rfl rfl rfl rfl (by decide) rfl ?_
              refine vfn_take 2 rfl rfl rfl ?_
              refine vfn_fnG rfl rfl rfl rfl rfl rfl (c_rname r.name _) ?_
              cases hb51 : nameOk r.name with
              | false =>
                refine vfn_take 2 rfl rfl rfl ?_
                refine vfn_done ?_
                refine awp_if true rfl (fun _ => ?_) (fun e => by cases e)
                refine awp_seq ?_
                refine awp_run rfl ?_
                refine awp_ret ?_
                refine q_ret (q_block (q_ret (q_for (q_ret ?_))))
                exact leave_ret_same [] rfl hG (List.append_nil G).symm rfl ⟨congrArg (fun b => AEnd.ret (.p (.bool b))) (by rw [dataOk, hI0, hdr_i]; simp_all [refsOk, -List.map_take] <;> omega), rfl⟩
              | true =>
                refine vfn_take 2 rfl rfl rfl ?_
                refine vfn_done ?_
                refine awp_if false rfl (fun e => by cases e) fun _ => ?_
                refine awp_skip ?_
                refine awp_seq ?_
                refine awp_run rfl ?_
                refine awp_weak (s' := { ts := [(1, .ptr (.l 1) 0), (3, .p (j64 i)), (4, .p (j64 0))], L := [(1, [.p (.str d.name), .p (.bool d.weak), .p (.vec (d.words.map wordRow)), .p (.vec (d.refs.map RF.row))])], G := G }) (weakL _ ⟨rfl, rfl, rfl, trivial⟩ rfl rfl) ?_
                refine awp_forE (fun mm s => ∃ (k : Nat) , s = { ts := [(1, .ptr (.l 1) 0), (3, .p (j64 i)), (4, .p (j64 k))], L := [(1, [.p (.str d.name), .p (.bool d.weak), .p (.vec (d.words.map wordRow)), .p (.vec (d.refs.map RF.row))])], G := G } ∧ k ≤ i ∧ mm = i - k ∧ r.place ∉ (d.refs.take k).map RF.place)
                  (fun s => s = { ts := [(1, .ptr (.l 1) 0), (3, .p (j64 i))], L := [(1, [.p (.str d.name), .p (.bool d.weak), .p (.vec (d.words.map wordRow)), .p (.vec (d.refs.map RF.row))])], G := G } ∧ r.place ∉ (d.refs.take i).map RF.place) i ⟨0, rfl, by omega, by omega, by simp⟩ ?_ ?_
                · rintro mm s ⟨k, rfl, hi_k, rfl, hK0⟩
                  refine awp_seq ?_
                  refine awp_seq ?_
                  refine awp_ops ?_
                  refine vopsL_take 2 rfl ?_
                  refine vopsL_cmp rfl rfl rfl (by decide) rfl fun b hb56 => ?_
                  cases b with
                  | false =>
                    have hge_k : k = i := by have := of_decide_eq_false hb56; omega
                    refine awp_if false rfl (fun e => by cases e) fun _ => ?_
                    refine awp_exit ?_
                    refine ⟨{ ts := [(1, .ptr (.l 1) 0), (3, .p (j64 i))], L := [(1, [.p (.str d.name), .p (.bool d.weak), .p (.vec (d.words.map wordRow)), .p (.vec (d.refs.map RF.row))])], G := G }, weakL _ ⟨rfl, rfl, trivial⟩ rfl rfl, rfl, ?_⟩
                    subst hge_k
                    exact hK0
                  | true =>
                    have hlt_k : k < i := by simpa using hb56
                    obtain ⟨q, hq⟩ : ∃ q, d.refs[k]? = some q := ⟨_, List.getElem?_eq_getElem (by omega)⟩
                    have hx_k := map_get (f := RF.row) hq
                    refine awp_if true rfl (fun _ => ?_) (fun e => by cases e)
                    refine awp_skip ?_
                    refine awp_seq ?_
                    refine awp_block ?_
                    refine awp_seq ?_
                    refine awp_sl mixed (by kernel_rfl) ?_
                    refine vsl_take 3 rfl ?_
                    refine vsl_idx hx_k rfl rfl rfl rfl rfl rfl (by decide) rfl ?_
                    refine vsl_take 5 rfl ?_
                    refine vsl_idx hx_i rfl rfl rfl rfl rfl rfl (by decide) rfl ?_
                    refine vsl_take 2 rfl ?_
                    refine vsl_cmp rfl rfl rfl fun b hb71 => ?_
                    cases b with
                    | false =>
                      refine vsl_done ?_
                      refine awp_if false rfl (fun e => by cases e) fun _ => ?_
                      refine awp_skip ?_
                      refine awp_run rfl ?_
                      rw [wrap64 (x := (k : Int) + 1) (by omega)]
                      refine ⟨{ ts := [(1, .ptr (.l 1) 0), (3, .p (j64 i)), (4, .p (j64 (k + 1 : Nat)))], L := [(1, [.p (.str d.name), .p (.bool d.weak), .p (.vec (d.words.map wordRow)), .p (.vec (d.refs.map RF.row))])], G := G }, weakL _ ⟨rfl, rfl, rfl, trivial⟩ rfl rfl, i - (k + 1), by omega, k + 1, rfl, by omega, rfl, ?_⟩
                      rw [take_succ hq]; simp only [List.map_append, List.mem_append, List.map_cons, List.map_nil, List.mem_singleton]; simp at hb71; rintro (h | h)
                      · exact hK0 h
                      · exact hb71 h.symm
                    | true =>
                      have hqr : q.place = r.place := by simpa using hb71
                      have hin : r.place ∈ (d.refs.take i).map RF.place := by rw [← hqr]; exact List.mem_map_of_mem (List.mem_of_getElem? (i := k) (by rw [List.getElem?_take, if_pos hlt_k]; exact hq))
                      refine vsl_done ?_
                      refine awp_if true rfl (fun _ => ?_) (fun e => by cases e)
                      refine awp_seq ?_
                      refine awp_run rfl ?_
                      refine awp_ret ?_
                      refine q_block (q_ret (q_for (q_block (q_ret (q_for (q_ret ?_))))))
                      exact leave_ret_same [] rfl hG (List.append_nil G).symm rfl ⟨congrArg (fun b => AEnd.ret (.p (.bool b))) (by rw [dataOk, hI0, hdr_i]; simp [refsOk, -List.map_take, hin]), rfl⟩
                · rintro s s' ⟨rfl, hY0⟩ hw
                  refine awp_weak hw ?_
                  refine awp_run rfl ?_
                  rw [wrap64 (x := (i : Int) + 1) (by omega)]
                  have htk : (d.refs.take (i + 1)).map RF.place = (d.refs.take i).map RF.place ++ [r.place] := by rw [take_succ he_i]; simp
                  refine ⟨{ ts := [(1, .ptr (.l 1) 0), (3, .p (j64 (i + 1 : Nat)))], L := [(1, [.p (.str d.name), .p (.bool d.weak), .p (.vec (d.words.map wordRow)), .p (.vec (d.refs.map RF.row))])], G := G }, weakL _ ⟨rfl, rfl, trivial⟩ rfl rfl, d.refs.length - (i + 1), by omega, i + 1, rfl, by omega, rfl, ?_⟩
                  rw [hI0, hdr_i, htk]; simp_all [refsOk, -List.map_take] <;> omega
            | true =>
              refine vfn_take 11 rfl rfl rfl ?_
              refine vfn_done ?_
              refine awp_if true rfl (fun _ => ?_) (fun e => by cases e)
              refine awp_seq ?_
              refine awp_run rfl ?_
              refine awp_ret ?_
              refine q_ret (q_block (q_ret (q_for (q_ret ?_))))
              exact leave_ret_same [] rfl hG (List.append_nil G).symm rfl ⟨congrArg (fun b => AEnd.ret (.p (.bool b))) (by rw [dataOk, hI0, hdr_i]; simp_all [refsOk, -List.map_take] <;> omega), rfl⟩
          | true =>
            refine vfn_take 22 rfl rfl rfl ?_
            refine vfn_done ?_
            refine awp_if true rfl (fun _ => ?_) (fun e => by cases e)
            refine awp_seq ?_
            refine awp_run rfl ?_
            refine awp_ret ?_
            refine q_ret (q_block (q_ret (q_for (q_ret ?_))))
            exact leave_ret_same [] rfl hG (List.append_nil G).symm rfl ⟨congrArg (fun b => AEnd.ret (.p (.bool b))) (by rw [dataOk, hI0, hdr_i]; simp_all [refsOk, -List.map_take] <;> omega), rfl⟩
      · rintro s s' ⟨rfl, hX0⟩ hw
        refine awp_weak hw ?_
        refine awp_seq ?_
        refine awp_run rfl ?_
        refine awp_ret ?_
        exact leave_ret_same [] rfl hG (List.append_nil G).symm rfl ⟨congrArg (fun b => AEnd.ret (.p (.bool b))) (by simp only [dataOk, hX0]; simp_all), rfl⟩
    | true =>
      refine vopsL_take 1 rfl ?_
      refine awp_if true rfl (fun _ => ?_) (fun e => by cases e)
      refine awp_seq ?_
      refine awp_run rfl ?_
      refine awp_ret ?_
      refine q_ret ?_
      exact leave_ret_same [] rfl hG (List.append_nil G).symm rfl ⟨congrArg (fun b => AEnd.ret (.p (.bool b))) (by rw [dataOk, refsOk_len (by simp at hb16; omega)]; simp), rfl⟩

end Go.Proofs.Ytnicgdfnfnchjaa

/-
  Which modules are right: the reference's own 'Valid'; the statement TreeValids as a contract.
-/
set_option linter.unusedVariables false
set_option linter.unusedSimpArgs false
set_option maxRecDepth 100000
namespace Go.Proofs.Ytnicgdfnfnchjaa
open Go.Abs

theorem c_rvalid (m : M) (hf : m.fit) (G : List Blk) : FnIs Try.prog 15 [.agg m.cells] G (.p (j64 (validOk m))) := by
  have hlF := map_len F.row m.funcs
  have hlD := map_len D.row m.datas
  have hfit := hf
  obtain ⟨hf1, hf2⟩ := hf
  refine acalls_fn (cfg 79) Try.func15 rfl rfl rfl (by simp) fun hG => ?_
  refine awp_seq ?_
  refine awp_run rfl ?_
  refine awp_seq ?_
  refine awp_seq ?_
  refine awp_ops ?_
  refine vopsL_take 1 rfl ?_
  refine vopsL_call rfl rfl rfl (c_parts m hfit _) ?_
  rintro r G1 ⟨hg, n1, rfl, hp1, hp2⟩
  rw [hg]
  clear hg
  refine vopsL_cmp rfl rfl rfl (by decide) rfl fun b hb9 => ?_
  cases b with
  | false =>
    refine vopsL_take 2 rfl ?_
    refine vopsL_callG rfl rfl rfl rfl (c_words m hfit _) ?_
    rintro r G1 ⟨hg, n2, rfl, hw1, hw2⟩
    rw [hg]
    clear hg
    refine vopsL_cmpG rfl rfl rfl rfl (by decide) rfl fun b hb13 => ?_
    cases b with
    | false =>
      have hlg : largeOk m = false := by
        have h := of_decide_eq_false hb13
        have h9 := of_decide_eq_false hb9
        have a1 : ¬ 20000 < m.parts := fun h2 => by have := hp2 h2; omega
        have a2 : ¬ 16384 < m.words := fun h2 => by have := hw2 h2; omega
        simp [largeOk]; omega
      refine vopsL_take 1 rfl ?_
      refine awp_if false rfl (fun e => by cases e) fun _ => ?_
      refine awp_skip ?_
      refine awp_seq ?_
      refine awp_seq ?_
      refine awp_run rfl ?_
      refine awp_weak (s' := { ts := [(1, .ptr (.l 1) 0), (3, .p (j64 0))], L := [(1, [.p (.str m.pkg), .p (.vec (m.funcs.map F.row)), .p (.vec (m.datas.map D.row))])], G := G }) (weakL _ ⟨rfl, rfl, trivial⟩ rfl rfl) ?_
      refine awp_forE (fun mm s => ∃ (i : Nat) , s = { ts := [(1, .ptr (.l 1) 0), (3, .p (j64 i))], L := [(1, [.p (.str m.pkg), .p (.vec (m.funcs.map F.row)), .p (.vec (m.datas.map D.row))])], G := G } ∧ i ≤ m.funcs.length ∧ mm = m.funcs.length - i ∧ uniq F.name funcOk [] m.funcs = uniq F.name funcOk ((m.funcs.take i).map F.name) (m.funcs.drop i))
        (fun s => s = { ts := [(1, .ptr (.l 1) 0)], L := [(1, [.p (.str m.pkg), .p (.vec (m.funcs.map F.row)), .p (.vec (m.datas.map D.row))])], G := G } ∧ uniq F.name funcOk [] m.funcs = true) m.funcs.length ⟨0, rfl, by omega, by omega, by simp⟩ ?_ ?_
      · rintro mm s ⟨i, rfl, hi_i, rfl, hI0⟩
        refine awp_seq ?_
        refine awp_seq ?_
        refine awp_ops ?_
        refine vopsL_take 4 rfl ?_
        refine vopsL_cmp rfl rfl rfl (by decide) rfl fun b hb19 => ?_
        cases b with
        | false =>
          have hge_i := ge_eq (map_len F.row m.funcs) hi_i hb19
          refine awp_if false rfl (fun e => by cases e) fun _ => ?_
          refine awp_exit ?_
          refine ⟨{ ts := [(1, .ptr (.l 1) 0)], L := [(1, [.p (.str m.pkg), .p (.vec (m.funcs.map F.row)), .p (.vec (m.datas.map D.row))])], G := G }, weakL _ ⟨rfl, trivial⟩ rfl rfl, rfl, ?_⟩
          subst hge_i
          simpa [uniq] using hI0
        | true =>
          obtain ⟨f, he_i, hlt_i⟩ := lt_get (map_len F.row m.funcs) hb19
          have hx_i := map_get (f := F.row) he_i
          have hdr_i := drop_get he_i
          refine awp_if true rfl (fun _ => ?_) (fun e => by cases e)
          refine awp_skip ?_
          refine awp_seq ?_
          refine awp_block ?_
          refine awp_seq ?_
          refine awp_seq ?_
          refine awp_ops ?_
          refine vopsL_take 3 rfl ?_
          refine vopsL_idx hx_i rfl rfl rfl (by decide) rfl rfl rfl rfl (by decide) ?_
          refine vopsL_take 1 rfl ?_
          refine vopsL_fn rfl rfl rfl (c_rfunc f _) ?_
          cases hb27 : funcOk f with
          | false =>
            refine vopsL_take 1 rfl ?_
            refine awp_if true rfl (fun _ => ?_) (fun e => by cases e)
            refine awp_seq ?_
            refine awp_run rfl ?_
            refine awp_ret ?_
            refine q_ret (q_block (q_ret (q_for (q_ret ?_))))
            exact leave_ret_same [] rfl hG (List.append_nil G).symm rfl ⟨congrArg (fun n => AEnd.ret (.p (j64 n))) (by rw [validOk, hI0, hdr_i]; simp [hlg, uniq, -List.map_take, hb27]), rfl⟩
          | true =>
            refine vopsL_take 1 rfl ?_
            refine awp_if false rfl (fun e => by cases e) fun _ => ?_
            refine awp_skip ?_
            refine awp_seq ?_
            refine awp_run rfl ?_
            refine awp_weak (s' := { ts := [(1, .ptr (.l 1) 0), (3, .p (j64 i)), (4, .p (j64 0))], L := [(1, [.p (.str m.pkg), .p (.vec (m.funcs.map F.row)), .p (.vec (m.datas.map D.row))])], G := G }) (weakL _ ⟨rfl, rfl, rfl, trivial⟩ rfl rfl) ?_
            refine awp_forE (fun mm s => ∃ (k : Nat) , s = { ts := [(1, .ptr (.l 1) 0), (3, .p (j64 i)), (4, .p (j64 k))], L := [(1, [.p (.str m.pkg), .p (.vec (m.funcs.map F.row)), .p (.vec (m.datas.map D.row))])], G := G } ∧ k ≤ i ∧ mm = i - k ∧ f.name ∉ (m.funcs.take k).map F.name)
              (fun s => s = { ts := [(1, .ptr (.l 1) 0), (3, .p (j64 i))], L := [(1, [.p (.str m.pkg), .p (.vec (m.funcs.map F.row)), .p (.vec (m.datas.map D.row))])], G := G } ∧ f.name ∉ (m.funcs.take i).map F.name) i ⟨0, rfl, by omega, by omega, by simp⟩ ?_ ?_
            · rintro mm s ⟨k, rfl, hi_k, rfl, hK0⟩
              refine awp_seq ?_
              refine awp_seq ?_
              refine awp_ops ?_
              refine vopsL_take 2 rfl ?_
              refine vopsL_cmp rfl rfl rfl (by decide) rfl fun b hb31 => ?_
              cases b with
              | false =>
                have hge_k : k = i := by have := of_decide_eq_false hb31; omega
                refine awp_if false rfl (fun e => by cases e) fun _ => ?_
                refine awp_exit ?_
                refine ⟨{ ts := [(1, .ptr (.l 1) 0), (3, .p (j64 i))], L := [(1, [.p (.str m.pkg), .p (.vec (m.funcs.map F.row)), .p (.vec (m.datas.map D.row))])], G := G }, weakL _ ⟨rfl, rfl, trivial⟩ rfl rfl, rfl, ?_⟩
                subst hge_k
                exact hK0
              | true =>
                have hlt_k : k < i := by simpa using hb31
                obtain ⟨q, hq⟩ : ∃ q, m.funcs[k]? = some q := ⟨_, List.getElem?_eq_getElem (by omega)⟩
                have hx_k := map_get (f := F.row) hq
                refine awp_if true rfl (fun _ => ?_) (fun e => by cases e)
                refine awp_skip ?_
                refine awp_seq ?_
                refine awp_block ?_
                refine awp_seq ?_
                refine awp_sl mixed (by kernel_rfl) ?_
                refine vsl_take 3 rfl ?_
                refine vsl_idx hx_k rfl rfl rfl rfl rfl rfl (by decide) rfl ?_
                refine vsl_take 5 rfl ?_
                refine vsl_idx hx_i rfl rfl rfl rfl rfl rfl (by decide) rfl ?_
                refine vsl_take 2 rfl ?_
                refine vsl_cmp rfl rfl rfl fun b hb46 => ?_
                cases b with
                | false =>
                  refine vsl_done ?_
                  refine awp_if false rfl (fun e => by cases e) fun _ => ?_
                  refine awp_skip ?_
                  refine awp_run rfl ?_
                  rw [wrap64 (x := (k : Int) + 1) (by omega)]
                  refine ⟨{ ts := [(1, .ptr (.l 1) 0), (3, .p (j64 i)), (4, .p (j64 (k + 1 : Nat)))], L := [(1, [.p (.str m.pkg), .p (.vec (m.funcs.map F.row)), .p (.vec (m.datas.map D.row))])], G := G }, weakL _ ⟨rfl, rfl, rfl, trivial⟩ rfl rfl, i - (k + 1), by omega, k + 1, rfl, by omega, rfl, ?_⟩
                  rw [take_succ hq]; simp only [List.map_append, List.mem_append, List.map_cons, List.map_nil, List.mem_singleton]
                  have hne : ¬ q.name = f.name := fun e => by rw [← beqS_iff, hb46] at e; cases e
                  rintro (h | h)
                  · exact hK0 h
                  · exact hne h.symm
                | true =>
                  have hqr : q.name = f.name := by rwa [beqS_iff] at hb46
                  have hin : f.name ∈ (m.funcs.take i).map F.name := by rw [← hqr]; exact List.mem_map_of_mem (List.mem_of_getElem? (i := k) (by rw [List.getElem?_take, if_pos hlt_k]; exact hq))
                  refine vsl_done ?_
                  refine awp_if true rfl (fun _ => ?_) (fun e => by cases e)
                  refine awp_seq ?_
                  refine awp_run rfl ?_
                  refine awp_ret ?_
                  refine q_block (q_ret (q_for (q_block (q_ret (q_for (q_ret ?_))))))
                  exact leave_ret_same [] rfl hG (List.append_nil G).symm rfl ⟨congrArg (fun n => AEnd.ret (.p (j64 n))) (by rw [validOk, hI0, hdr_i]; simp [hlg, uniq, -List.map_take, hin]), rfl⟩
            · rintro s s' ⟨rfl, hN_i⟩ hw
              refine awp_weak hw ?_
              refine awp_run rfl ?_
              rw [wrap64 (x := (i : Int) + 1) (by omega)]
              have htk : (m.funcs.take (i + 1)).map F.name = (m.funcs.take i).map F.name ++ [f.name] := by rw [take_succ he_i]; simp
              refine ⟨{ ts := [(1, .ptr (.l 1) 0), (3, .p (j64 (i + 1 : Nat)))], L := [(1, [.p (.str m.pkg), .p (.vec (m.funcs.map F.row)), .p (.vec (m.datas.map D.row))])], G := G }, weakL _ ⟨rfl, rfl, trivial⟩ rfl rfl, m.funcs.length - (i + 1), by omega, i + 1, rfl, by omega, rfl, ?_⟩
              rw [hI0, hdr_i, htk]; simp [uniq, -List.map_take, hb27, hN_i]
      · rintro s s' ⟨rfl, hX0⟩ hw
        refine awp_weak hw ?_
        refine awp_seq ?_
        refine awp_seq ?_
        refine awp_run rfl ?_
        refine awp_weak (s' := { ts := [(1, .ptr (.l 1) 0), (5, .p (j64 0))], L := [(1, [.p (.str m.pkg), .p (.vec (m.funcs.map F.row)), .p (.vec (m.datas.map D.row))])], G := G }) (weakL _ ⟨rfl, rfl, trivial⟩ rfl rfl) ?_
        refine awp_forE (fun mm s => ∃ (j : Nat) , s = { ts := [(1, .ptr (.l 1) 0), (5, .p (j64 j))], L := [(1, [.p (.str m.pkg), .p (.vec (m.funcs.map F.row)), .p (.vec (m.datas.map D.row))])], G := G } ∧ j ≤ m.datas.length ∧ mm = m.datas.length - j ∧ uniq D.name dataOk [] m.datas = uniq D.name dataOk ((m.datas.take j).map D.name) (m.datas.drop j))
          (fun s => s = { ts := [], L := [], G := G } ∧ uniq D.name dataOk [] m.datas = true) m.datas.length ⟨0, rfl, by omega, by omega, by simp⟩ ?_ ?_
        · rintro mm s ⟨j, rfl, hi_j, rfl, hJ0⟩
          refine awp_seq ?_
          refine awp_seq ?_
          refine awp_ops ?_
          refine vopsL_take 4 rfl ?_
          refine vopsL_cmp rfl rfl rfl (by decide) rfl fun b hb51 => ?_
          cases b with
          | false =>
            have hge_j := ge_eq (map_len D.row m.datas) hi_j hb51
            refine awp_if false rfl (fun e => by cases e) fun _ => ?_
            refine awp_exit ?_
            refine ⟨{ ts := [], L := [], G := G }, (weakK _ 1).trans (weakL _ trivial rfl rfl), rfl, ?_⟩
            subst hge_j
            simpa [uniq] using hJ0
          | true =>
            obtain ⟨d, he_j, hlt_j⟩ := lt_get (map_len D.row m.datas) hb51
            have hx_j := map_get (f := D.row) he_j
            have hdr_j := drop_get he_j
            refine awp_if true rfl (fun _ => ?_) (fun e => by cases e)
            refine awp_skip ?_
            refine awp_seq ?_
            refine awp_block ?_
            refine awp_seq ?_
            refine awp_seq ?_
            refine awp_ops ?_
            refine vopsL_take 3 rfl ?_
            refine vopsL_idx hx_j rfl rfl rfl (by decide) rfl rfl rfl rfl (by decide) ?_
            refine vopsL_take 1 rfl ?_
            refine vopsL_fn rfl rfl rfl (c_rdata d _) ?_
            cases hb59 : dataOk d with
            | false =>
              refine vopsL_take 1 rfl ?_
              refine awp_if true rfl (fun _ => ?_) (fun e => by cases e)
              refine awp_seq ?_
              refine awp_run rfl ?_
              refine awp_ret ?_
              refine q_ret (q_block (q_ret (q_for (q_ret ?_))))
              exact leave_ret_same [] rfl hG (List.append_nil G).symm rfl ⟨congrArg (fun n => AEnd.ret (.p (j64 n))) (by rw [validOk, hJ0, hdr_j]; simp [hlg, uniq, -List.map_take, hb59, hX0]), rfl⟩
            | true =>
              refine vopsL_take 1 rfl ?_
              refine awp_if false rfl (fun e => by cases e) fun _ => ?_
              refine awp_skip ?_
              refine awp_seq ?_
              refine awp_run rfl ?_
              refine awp_weak (s' := { ts := [(1, .ptr (.l 1) 0), (5, .p (j64 j)), (6, .p (j64 0))], L := [(1, [.p (.str m.pkg), .p (.vec (m.funcs.map F.row)), .p (.vec (m.datas.map D.row))])], G := G }) (weakL _ ⟨rfl, rfl, rfl, trivial⟩ rfl rfl) ?_
              refine awp_forE (fun mm s => ∃ (k : Nat) , s = { ts := [(1, .ptr (.l 1) 0), (5, .p (j64 j)), (6, .p (j64 k))], L := [(1, [.p (.str m.pkg), .p (.vec (m.funcs.map F.row)), .p (.vec (m.datas.map D.row))])], G := G } ∧ k ≤ j ∧ mm = j - k ∧ d.name ∉ (m.datas.take k).map D.name)
                (fun s => s = { ts := [(1, .ptr (.l 1) 0), (5, .p (j64 j))], L := [(1, [.p (.str m.pkg), .p (.vec (m.funcs.map F.row)), .p (.vec (m.datas.map D.row))])], G := G } ∧ d.name ∉ (m.datas.take j).map D.name) j ⟨0, rfl, by omega, by omega, by simp⟩ ?_ ?_
              · rintro mm s ⟨k, rfl, hi_k, rfl, hK0⟩
                refine awp_seq ?_
                refine awp_seq ?_
                refine awp_ops ?_
                refine vopsL_take 2 rfl ?_
                refine vopsL_cmp rfl rfl rfl (by decide) rfl fun b hb63 => ?_
                cases b with
                | false =>
                  have hge_k : k = j := by have := of_decide_eq_false hb63; omega
                  refine awp_if false rfl (fun e => by cases e) fun _ => ?_
                  refine awp_exit ?_
                  refine ⟨{ ts := [(1, .ptr (.l 1) 0), (5, .p (j64 j))], L := [(1, [.p (.str m.pkg), .p (.vec (m.funcs.map F.row)), .p (.vec (m.datas.map D.row))])], G := G }, weakL _ ⟨rfl, rfl, trivial⟩ rfl rfl, rfl, ?_⟩
                  subst hge_k
                  exact hK0
                | true =>
                  have hlt_k : k < j := by simpa using hb63
                  obtain ⟨q, hq⟩ : ∃ q, m.datas[k]? = some q := ⟨_, List.getElem?_eq_getElem (by omega)⟩
                  have hx_k := map_get (f := D.row) hq
                  refine awp_if true rfl (fun _ => ?_) (fun e => by cases e)
                  refine awp_skip ?_
                  refine awp_seq ?_
                  refine awp_block ?_
                  refine awp_seq ?_
                  refine awp_sl mixed (by kernel_rfl) ?_
                  refine vsl_take 3 rfl ?_
                  refine vsl_idx hx_k rfl rfl rfl rfl rfl rfl (by decide) rfl ?_
                  refine vsl_take 5 rfl ?_
                  refine vsl_idx hx_j rfl rfl rfl rfl rfl rfl (by decide) rfl ?_
                  refine vsl_take 2 rfl ?_
                  refine vsl_cmp rfl rfl rfl fun b hb78 => ?_
                  cases b with
                  | false =>
                    refine vsl_done ?_
                    refine awp_if false rfl (fun e => by cases e) fun _ => ?_
                    refine awp_skip ?_
                    refine awp_run rfl ?_
                    rw [wrap64 (x := (k : Int) + 1) (by omega)]
                    refine ⟨{ ts := [(1, .ptr (.l 1) 0), (5, .p (j64 j)), (6, .p (j64 (k + 1 : Nat)))], L := [(1, [.p (.str m.pkg), .p (.vec (m.funcs.map F.row)), .p (.vec (m.datas.map D.row))])], G := G }, weakL _ ⟨rfl, rfl, rfl, trivial⟩ rfl rfl, j - (k + 1), by omega, k + 1, rfl, by omega, rfl, ?_⟩
                    rw [take_succ hq]; simp only [List.map_append, List.mem_append, List.map_cons, List.map_nil, List.mem_singleton]
                    have hne : ¬ q.name = d.name := fun e => by rw [← beqS_iff, hb78] at e; cases e
                    rintro (h | h)
                    · exact hK0 h
                    · exact hne h.symm
                  | true =>
                    have hqr : q.name = d.name := by rwa [beqS_iff] at hb78
                    have hin : d.name ∈ (m.datas.take j).map D.name := by rw [← hqr]; exact List.mem_map_of_mem (List.mem_of_getElem? (i := k) (by rw [List.getElem?_take, if_pos hlt_k]; exact hq))
                    refine vsl_done ?_
                    refine awp_if true rfl (fun _ => ?_) (fun e => by cases e)
                    refine awp_seq ?_
                    refine awp_run rfl ?_
                    refine awp_ret ?_
                    refine q_block (q_ret (q_for (q_block (q_ret (q_for (q_ret ?_))))))
                    exact leave_ret_same [] rfl hG (List.append_nil G).symm rfl ⟨congrArg (fun n => AEnd.ret (.p (j64 n))) (by rw [validOk, hJ0, hdr_j]; simp [hlg, uniq, -List.map_take, hin, hX0]), rfl⟩
              · rintro s s' ⟨rfl, hN_j⟩ hw
                refine awp_weak hw ?_
                refine awp_run rfl ?_
                rw [wrap64 (x := (j : Int) + 1) (by omega)]
                have htk : (m.datas.take (j + 1)).map D.name = (m.datas.take j).map D.name ++ [d.name] := by rw [take_succ he_j]; simp
                refine ⟨{ ts := [(1, .ptr (.l 1) 0), (5, .p (j64 (j + 1 : Nat)))], L := [(1, [.p (.str m.pkg), .p (.vec (m.funcs.map F.row)), .p (.vec (m.datas.map D.row))])], G := G }, weakL _ ⟨rfl, rfl, trivial⟩ rfl rfl, m.datas.length - (j + 1), by omega, j + 1, rfl, by omega, rfl, ?_⟩
                rw [hJ0, hdr_j, htk]; simp [uniq, -List.map_take, hb59, hN_j]
        · rintro s s' ⟨rfl, hY0⟩ hw
          refine awp_weak hw ?_
          refine awp_seq ?_
          refine awp_run rfl ?_
          refine awp_ret ?_
          exact leave_ret_same [] rfl hG (List.append_nil G).symm rfl ⟨congrArg (fun n => AEnd.ret (.p (j64 n))) (by simp [validOk, hlg, hX0, hY0]), rfl⟩
    | true =>
      have hlg : largeOk m = true := by
        have h := of_decide_eq_true hb13
        have : 16384 < m.words := by
          refine Nat.lt_of_not_le fun h2 => ?_
          have := hw1 h2; omega
        simp [largeOk, this]
      refine vopsL_take 1 rfl ?_
      refine awp_if true rfl (fun _ => ?_) (fun e => by cases e)
      refine awp_seq ?_
      refine awp_run rfl ?_
      refine awp_ret ?_
      refine q_ret ?_
      exact leave_ret_same [] rfl hG (List.append_nil G).symm rfl ⟨congrArg (fun n => AEnd.ret (.p (j64 n))) (by simp [validOk, hlg]), rfl⟩
  | true =>
    have hlg : largeOk m = true := by
      have h := of_decide_eq_true hb9
      have : 20000 < m.parts := by
        refine Nat.lt_of_not_le fun h2 => ?_
        have := hp1 h2; omega
      simp [largeOk, this]
    refine vopsL_take 5 rfl ?_
    refine awp_if true rfl (fun _ => ?_) (fun e => by cases e)
    refine awp_seq ?_
    refine awp_run rfl ?_
    refine awp_ret ?_
    refine q_ret ?_
    exact leave_ret_same [] rfl hG (List.append_nil G).symm rfl ⟨congrArg (fun n => AEnd.ret (.p (j64 n))) (by simp [validOk, hlg]), rfl⟩

theorem c_num (n : Int) (G : List Blk) : FnIs Try.prog 13 [.p (j64 n)] G (.p (j64 n)) := by
  refine acalls_fn (cfg 4) Try.func13 rfl rfl rfl (by simp) fun hG => ?_
  refine awp_seq ?_
  refine awp_run rfl ?_
  refine awp_seq ?_
  refine awp_run rfl ?_
  refine awp_ret ?_
  exact leave_ret_same [] rfl hG (List.append_nil G).symm rfl ⟨rfl, rfl⟩

theorem M.mild.slim {m : M} (h : m.mild) : m.slim := fun d hd => by
  have := sumBy_mem (f := D.bulk) hd
  have := h.2.1
  simp only [D.bulk] at *
  omega

theorem c_treeValids (m : M) (hf : m.fit) : FnIs Try.prog 3 [.agg m.cells] [] (.p (.bool true)) := by
  refine acalls_fn (cfg 15) Try.func3 rfl rfl rfl (by simp) fun hG => ?_
  refine awp_seq ?_
  refine awp_run rfl ?_
  refine awp_seq ?_
  refine awp_seq ?_
  refine awp_ops ?_
  refine vopsL_take 1 rfl ?_
  refine vopsL_call rfl rfl rfl (c_great m hf _) ?_
  rintro r G1 ⟨hg, b, rfl, hm⟩
  rw [hg]
  clear hg
  cases hb4 : b with
  | false =>
    have hmild := hm hb4
    refine awp_if false rfl (fun e => by cases e) fun _ => ?_
    refine awp_skip ?_
    refine awp_seq ?_
    refine awp_fns 10 mixed (by kernel_rfl) rfl ?_
    refine vfn_take 1 rfl rfl rfl ?_
    refine vfn_fn rfl rfl rfl rfl rfl (c_valid m hmild.slim _) ?_
    refine vfn_fn rfl rfl rfl rfl rfl (c_num (validOk m) _) ?_
    refine vfn_take 1 rfl rfl rfl ?_
    refine vfn_fn rfl rfl rfl rfl rfl (c_rvalid m hf _) ?_
    refine vfn_cmp rfl rfl rfl fun b hb11 => ?_
    cases b with
    | false =>
      exact absurd hb11 (by simp)
    | true =>
      refine vfn_take 1 rfl rfl rfl ?_
      refine vfn_fnG rfl rfl rfl rfl rfl rfl (c_awake _) ?_
      refine vfn_take 2 rfl rfl rfl ?_
      refine vfn_done ?_
      refine awp_ret ?_
      exact leave_ret rfl rfl ⟨rfl, rfl⟩
  | true =>
    refine awp_if true rfl (fun _ => ?_) (fun e => by cases e)
    refine awp_seq ?_
    refine awp_ops ?_
    refine vopsL_fn rfl rfl rfl (c_awake _) ?_
    refine vopsL_take 1 rfl ?_
    refine awp_ret ?_
    refine q_ret ?_
    exact leave_ret rfl rfl ⟨rfl, rfl⟩
end Go.Proofs.Ytnicgdfnfnchjaa

