/-
  The frame of a function's walk.
-/
import Derived.Test.YtnicgdfnfnchjaaA20
set_option linter.unusedVariables false
namespace Go.Abs

section
variable {P : Program} {σ σ' : Sg} {s s' : St} {nt : Nat} {a : Act} {w w' : World}

mutual
theorem chk_of_keys {σ : Sg} {v : AV} : ∀ {x : Value}, Rel σ v x → v.chk (fun k => (σ.blk k).isSome) (fun _ => true) = true := by
  intro x h
  induction h with
  | p h => rfl
  | own h ho => rfl
  | full h => rfl
  | ptr off h => simp [AV.chk, h]
  | ref off len cap cap' h hc => simp [AV.chk, h]
  | rop => rfl
  | map h => simp [AV.chk, h]
  | fn h1 h2 h3 h4 ih3 ih4 =>
    simp only [AV.chk, Bool.and_eq_true]
    exact ⟨chks_all fun i x hx => ih3 i x hx, chks_all fun i x hx => ih4 i x hx⟩
  | iface h ih => simpa [AV.chk] using ih
  | agg h1 h2 ih => simp only [AV.chk]; exact chks_all fun i x hx => ih i x hx
  | tuple h1 h2 ih => simp only [AV.chk]; exact chks_all fun i x hx => ih i x hx
  | undef x => rfl
theorem chks_all {f : Key → Bool} {g : Tok → Bool} : ∀ {l : List AV}, (∀ (i : Nat) (x : AV), l[i]? = some x → x.chk f g = true) → AV.chks f g l = true
  | [], _ => rfl
  | x :: r, h => by
    simp only [AV.chks, Bool.and_eq_true]
    exact ⟨h 0 x rfl, chks_all fun i y hy => h (i + 1) y (by simpa using hy)⟩
end

/-- The heap names its own places. -/
def okG (G : List Blk) : Prop := G.all (Blk.okm G.length) = true

theorem okG_of (hr : RelS σ s nt a w) : okG s.G := by
  refine List.all_eq_true.2 fun blk hb => ?_
  obtain ⟨id, hid, hget⟩ := List.mem_iff_getElem.1 hb
  have hl : s.look (.g id) = some blk := by rw [← hget]; exact List.getElem?_eq_getElem hid
  obtain ⟨b, h1, h2⟩ := hr.blks _ _ hl
  have hi := hr.cinv _ _ hl
  have kk : ∀ k, ((σ.blk k).isSome && keyf (.g id) k) = true → keym s.G.length k = true := fun k hk => by
    simp only [Bool.and_eq_true] at hk
    cases k with
    | g j =>
      by_cases hj : s.G.length ≤ j
      · have := hr.gfree j hj
        rw [this] at hk; simp at hk
      · simp only [keym, decide_eq_true_eq]; omega
    | l t => simp [keyf] at hk
  cases blk with
  | cells cs =>
    obtain ⟨c, T, q1, q2, q3⟩ := h2
    exact chks_all fun j x hj => chk_imp kk (fun t ht => rfl) _ (chk_and _ (chk_of_keys (q3 j x hj)) (hi j x hj))
  | map es cl =>
    obtain ⟨c, q1, q2, q3⟩ := h2
    refine List.all_eq_true.2 fun e he => ?_
    obtain ⟨j, hj⟩ := List.getElem?_of_mem he
    exact chk_imp kk (fun t ht => rfl) _ (chk_and _ (chk_of_keys (q3 j _ _ _ hj).2.1) (hi j _ hj))
  | dead => rfl

theorem acalls_fn {f : FuncId} {fn : Func} {code : Code} {args : List AV} {G : List Blk} {R : AEnd → List Blk → Prop} (c : Cfg) (hf : P.funcs[f]? = some fn) (hb : fn.body = some code) (hn : (fn.name == "runtime.NumGoroutine") = false)
    (hnt : fn.ntmps = c.nt) (ha : args.length ≤ c.nt) (h : okG G → AWp P c.nt code (leaveQ P fn G.length R) (.args args G)) : ACalls P f args G R := by
  refine ⟨fun args' w => ?_, fun σ args' w hr hk ht => ?_⟩
  · unfold callFunc
    have hn' : fn.name ≠ "runtime.NumGoroutine" := by simpa using hn
    simp [hf, hn', hb]
  · exact (acalls_enter G.length hf hb hn (by omega) (Nat.le_refl _) (hnt ▸ h (okG_of hr))).2 σ args' w hr hk ht

theorem leave_ret {fn : Func} {m : Nat} {R : AEnd → List Blk → Prop} {v : AV} (hv : ares P fn s = some v) (hc : cutOk m s.G v = true) (hR : R (.ret v) (s.G.take m)) : leaveQ P fn m R .ret s := by
  simp only [leaveQ, hv]; exact ⟨hc, hR⟩
theorem leave_normal {fn : Func} {m : Nat} {R : AEnd → List Blk → Prop} {v : AV} (hv : ares P fn s = some v) (hc : cutOk m s.G v = true) (hR : R (.ret v) (s.G.take m)) : leaveQ P fn m R .normal s := by
  simp only [leaveQ, hv]; exact ⟨hc, hR⟩

theorem cutOk_same {G : List Blk} {v : AV} (e : List Blk) (hG : okG G) (hs : s.G = G ++ e) (hc : v.chk (keym G.length) (fun _ => false) = true) : cutOk G.length s.G v = true := by
  unfold cutOk
  rw [hs, List.take_left]
  simp only [Bool.and_eq_true]
  exact ⟨hG, hc⟩

/-- A function that leaves the heap as it was; e is its own litter. -/
theorem leave_ret_same {fn : Func} {G : List Blk} {R : AEnd → List Blk → Prop} {v : AV} (e : List Blk) (hv : ares P fn s = some v) (hG : okG G) (hs : s.G = G ++ e) (hc : v.chk (keym G.length) (fun _ => false) = true) (hR : R (.ret v) G) : leaveQ P fn G.length R .ret s :=
  leave_ret hv (cutOk_same e hG hs hc) (by rw [hs, List.take_left]; exact hR)
theorem leave_normal_same {fn : Func} {G : List Blk} {R : AEnd → List Blk → Prop} {v : AV} (e : List Blk) (hv : ares P fn s = some v) (hG : okG G) (hs : s.G = G ++ e) (hc : v.chk (keym G.length) (fun _ => false) = true) (hR : R (.ret v) G) : leaveQ P fn G.length R .normal s :=
  leave_normal hv (cutOk_same e hG hs hc) (by rw [hs, List.take_left]; exact hR)
end
end Go.Abs
