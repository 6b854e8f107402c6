/-
  Calls, reckoned, those that defer a recovering closure among them.
-/
import Derived.Test.YtnicgdfnfnchjaaD3
set_option linter.unusedVariables false
namespace Go.Abs

/-- Blocks left behind become data, where that is wanted. -/
def xfrz (z : Bool) (m : Nat) (r : AEnd × List Blk × List Prop) : AEnd × List Blk × List Prop :=
  if z then match r with
    | (.ret v, G', ps) => if cutOk m G' (v.frz m G' 4) then (.ret (v.frz m G' 4), G'.take m, ps) else r
    | _ => r
  else r

/-- What deferred closures do: the frame's heap behind them. -/
abbrev XD := FuncId → List AV → List Blk → Option AV → Option (List Blk)

def XD.ok (P : Program) (xd : XD) : Prop := ∀ g caps G pv G', xd g caps G pv = some G' → ∀ K : List Blk → Prop, K G' → ADef P g caps G pv K

def isDefer (o : Oper) : Bool :=
  match o.op with
  | .defer _ => true
  | _ => false

def xdone (P : Program) (fn : Func) (m : Nat) (ps : List Prop) (s : St) (G1 : List Blk) : Option (AEnd × List Blk × List Prop) :=
  match ares P fn ({ s with G := G1 }.dis isC) with
  | some v => if cutOk m G1 v then some (.ret v, G1.take m, ps) else none
  | none => none

/-- A call of what defers a closure. -/
def xdefer (P : Program) (xd : XD) (xf : XF) (heap : FuncId → List Nat) (orcs : FuncId → Orc) (lf : Nat) (f : FuncId) (args : List AV) (G : List Blk) : Option (AEnd × List Blk × List Prop) :=
  match P.funcs[f]? with
  | some fn => match fn.body with
    | some (.seq (.region _ l0 false) (.seq (.region _ ops false) rest)) => match ops.toList.findIdx? isDefer with
      | some n => match ops.toList.drop n with
        | o :: l2 => match o.op, o.guard, o.dst with
          | .defer cl, none, none => match cl.callee, cl.args.toList with
            | .value fo, [] => if (fn.name == "runtime.NumGoroutine") = false ∧ args.length ≤ fn.ntmps then
              match runE P ⟨fn.ntmps, heap f, (orcs f 1000000).isSome, fun t => orcs f (2000000 + t), fun t => orcs f (3000000 + t)⟩ l0 l0.toList (.args args G) with
              | some s0 => match runE P ⟨fn.ntmps, heap f, (orcs f 1000000).isSome, fun t => orcs f (2000000 + t), fun t => orcs f (3000000 + t)⟩ ops (ops.toList.take n) s0 with
                | some s1 => match ev s1 fo with
                  | some (.fn g [] caps) => if caps.all AV.free then match runE P ⟨fn.ntmps, heap f, (orcs f 1000000).isSome, fun t => orcs f (2000000 + t), fun t => orcs f (3000000 + t)⟩ ops l2 s1 with
                      | some s2 => match xcode P xf ⟨fn.ntmps, heap f, (orcs f 1000000).isSome, fun t => orcs f (2000000 + t), fun t => orcs f (3000000 + t)⟩ (orcs f) lf rest s2 with
                        | some (.go .normal s, ps) | some (.go .ret s, ps) => match xd g caps s.G none with
                          | some G1 => xdone P fn G.length ps s G1
                          | none => none
                        | some (.panic v _ (some s), ps) => if v.free then match xd g caps s.G (some v) with
                            | some G1 => xdone P fn G.length ps s G1
                            | none => none
                          else none
                        | _ => none
                      | none => none
                    else none
                  | _ => none
                | none => none
              | none => none
              else none
            | _, _ => none
          | _, _, _ => none
        | [] => none
      | none => none
    | _ => none
  | none => none

/-- Calls, reckoned; 'ext' knows some already, 'fz' says of which calls the answers become data. -/
def xcall (P : Program) (ext : XF) (xd : XD) (heap : FuncId → List Nat) (orcs : FuncId → Orc) (fz : FuncId → Bool) (lf : Nat) : Nat → XF
  | 0, f, args, G => ext f args G
  | n + 1, f, args, G => match ext f args G with
    | some r => some r
    | none => match xdefer P xd (xcall P ext xd heap orcs fz lf n) heap orcs lf f args G with
      | some r => some r
      | none => (xbody P (xcall P ext xd heap orcs fz lf n) heap orcs lf f args G).map (xfrz (fz f) G.length)


section
variable {P : Program} {xf : XF} {c : Cfg} {ops : Array Oper}

theorem xfrz_ps (z : Bool) (m : Nat) (r : AEnd × List Blk × List Prop) : (xfrz z m r).2.2 = r.2.2 := by
  unfold xfrz
  split
  · split
    · split <;> rfl
    · rfl
  · rfl

theorem xfrz_sound {z : Bool} {f : FuncId} {args : List AV} {G : List Blk} {r : AEnd × List Blk × List Prop} (h : ACalls P f args G fun r' G'' => r' = r.1 ∧ G'' = r.2.1) : ACalls P f args G fun r' G'' => r' = (xfrz z G.length r).1 ∧ G'' = (xfrz z G.length r).2.1 := by
  unfold xfrz
  split
  · split
    · split
      · rename_i hc; exact h.frz 4 hc
      · exact h
    · exact h
  · exact h

theorem xdone_done {fn : Func} {m : Nat} {qs ps : List Prop} {s : St} {G1 : List Blk} {r : AEnd} {G' : List Blk} (h : xdone P fn m qs s G1 = some (r, G', ps)) : qs = ps ∧ doneD P fn m (fun r' G'' => r' = r ∧ G'' = G') s G1 := by
  unfold xdone at h
  unfold doneD
  split at h
  · rename_i v hv
    rw [hv]
    split at h
    · rename_i hc
      simp only [Option.some.injEq, Prod.mk.injEq] at h
      exact ⟨h.2.2, hc, h.1, h.2.1⟩
    · cases h
  · cases h

theorem xdefer_sound {xd : XD} (hd : xd.ok P) (ih : xf.ok P) (hm : P.follows .mixedOrders = true) {heap : FuncId → List Nat} {orcs : FuncId → Orc} {lf : Nat} {f : FuncId} {args : List AV} {G : List Blk} {r : AEnd} {G' : List Blk} {ps : List Prop} (h : xdefer P xd xf heap orcs lf f args G = some (r, G', ps)) (hp : ∀ p ∈ ps, p) :
    ACalls P f args G fun r' G'' => r' = r ∧ G'' = G' := by
  unfold xdefer at h
  split at h
  · rename_i fn hf
    split at h
    · rename_i id0 l0 id ops rest hb
      split at h
      · rename_i n hn
        split at h
        · rename_i o l2 ho
          split at h
          · rename_i cl hop hgd hdst
            split at h
            case h_2 => cases h
            rename_i _ _ fo hcal hargs
            have hop' : o.op = .defer { callee := .value fo, args := #[], argTypes := cl.argTypes } := by
              rw [hop]
              obtain ⟨x, y, z⟩ := cl
              have hy : y = #[] := by rw [← Array.toList_inj]; exact hargs
              subst hy
              simp only at hcal
              subst hcal
              rfl
            split at h
            · rename_i hc
              split at h
              · rename_i s0 h0
                split at h
                · rename_i s1 h1
                  split at h
                  · rename_i g caps hfo
                    split at h
                    · rename_i hfree
                      split at h
                      · rename_i s2 h2
                        have hops : ops.toList = ops.toList.take n ++ o :: l2 := by rw [← ho, List.take_append_drop]
                        have hops' : ops = (ops.toList.take n ++ o :: l2).toArray := by rw [← hops]
                        have hb' : fn.body = some (.seq (.region id0 l0.toList.toArray false) (.seq (.region id (ops.toList.take n ++ o :: l2).toArray false) rest)) := by
                          rw [← hops', hb]
                        refine acalls_defer ⟨fn.ntmps, heap f, (orcs f 1000000).isSome, fun t => orcs f (2000000 + t), fun t => orcs f (3000000 + t)⟩ l0.toList (ops.toList.take n) l2 o hf hb' hc.1 rfl hc.2 hop' hgd hdst (fun _ => by simpa using h0) (fun _ => by rw [← hops']; exact h1) (fun _ => hfo) hfree (fun _ => by rw [← hops']; exact h2) (fun _ => ?_)
                        split at h
                        · rename_i s qs hx
                          split at h
                          · rename_i G1 hg
                            obtain ⟨rfl, hdn⟩ := xdone_done h
                            refine (xcode_sound ih hm lf rest s2 _ _ hx hp).mono ?_
                            rintro e s' ⟨rfl, rfl, _⟩
                            exact hd _ _ _ _ _ hg _ hdn
                          · cases h
                        · rename_i s qs hx
                          split at h
                          · rename_i G1 hg
                            obtain ⟨rfl, hdn⟩ := xdone_done h
                            refine (xcode_sound ih hm lf rest s2 _ _ hx hp).mono ?_
                            rintro e s' ⟨rfl, rfl, _⟩
                            exact hd _ _ _ _ _ hg _ hdn
                          · cases h
                        · rename_i v G0 s qs hx
                          split at h
                          · rename_i hv
                            split at h
                            · rename_i G1 hg
                              obtain ⟨rfl, hdn⟩ := xdone_done h
                              refine (xcode_sound ih hm lf rest s2 _ _ hx hp).mono ?_
                              rintro e s' ⟨rfl, h1, h2⟩
                              rw [h2 s rfl]
                              exact ⟨hv, hd _ _ _ _ _ hg _ hdn⟩
                            · cases h
                          · cases h
                        · cases h
                      · cases h
                    · cases h
                  · cases h
                · cases h
              · cases h
            · cases h
          · cases h
        · cases h
      · cases h
    · cases h
  · cases h

theorem xcall_sound {ext : XF} {xd : XD} (he : ext.ok P) (hd : xd.ok P) (hm : P.follows .mixedOrders = true) {heap : FuncId → List Nat} {orcs : FuncId → Orc} {fz : FuncId → Bool} {lf : Nat} : ∀ n, (xcall P ext xd heap orcs fz lf n).ok P
  | 0 => fun f args G r G' ps h hp => he _ _ _ _ _ _ h hp
  | n + 1 => fun f args G r G' ps h hp => by
    have ih := xcall_sound he hd hm (heap := heap) (orcs := orcs) (fz := fz) (lf := lf) n
    simp only [xcall] at h
    split at h
    · rename_i r0 h0
      simp only [Option.some.injEq] at h; subst h
      exact he _ _ _ _ _ _ h0 hp
    · split at h
      · rename_i r0 h0
        simp only [Option.some.injEq] at h; subst h
        exact xdefer_sound hd ih hm h0 hp
      · rw [Option.map_eq_some_iff] at h
        obtain ⟨r0, h0, h1⟩ := h
        have hps := xfrz_ps (fz f) G.length r0
        rw [h1] at hps
        have := xfrz_sound (z := fz f) (xbody_sound ih hm (r := r0.1) (G' := r0.2.1) (ps := r0.2.2) h0 (by rw [← hps]; exact hp))
        rw [h1] at this
        exact this
end
end Go.Abs
