/-
  What a reckoning came to, without telling it whole.
-/
import Derived.Test.YtnicgdfnfnchjaaX1
set_option linter.unusedVariables false
namespace Go.Abs

def resE : Option (XR × List Prop) → Option AExit
  | some (.go e _, _) => some e
  | _ => none
def resS : Option (XR × List Prop) → St
  | some (.go _ s, _) => s
  | _ => { ts := [], L := [], G := [] }
def resP : Option (XR × List Prop) → List Prop
  | some (_, ps) => ps
  | _ => []

section
variable {P : Program} {xf : XF} {c : Cfg} {s : St}

theorem awp_res {orc : Orc} {f : Nat} {code : Code} {e : AExit} {Q : AExit → St → Prop} (hx : xf.ok P) (hm : P.follows .mixedOrders = true) (he : resE (xcode P xf c orc f code s) = some e) (hp : ∀ p ∈ resP (xcode P xf c orc f code s), p)
    (hq : Q e (resS (xcode P xf c orc f code s))) : AWp P c.nt code Q s := by
  cases h : xcode P xf c orc f code s with
  | none => rw [h] at he; cases he
  | some r =>
    obtain ⟨r, ps⟩ := r
    rw [h] at he hp hq
    cases r with
    | go e0 s0 =>
      simp only [resE, Option.some.injEq] at he
      subst he
      refine (xcode_sound hx hm f code s _ ps h hp).mono ?_
      rintro e s1 ⟨rfl, rfl, _⟩
      exact hq
    | panic v G so => cases he

/-- Fewer slots. -/
theorem weak_ts {s : St} (l : TS) (h : ∀ t x, get l t = some x → get s.ts t = some x) : Weak s { ts := l, L := s.L, G := s.G } := fun σ nt a w hr =>
  ⟨σ, ⟨hr.sz, hr.df, fun t x h' => hr.vals t x (h t x h'), hr.blks, hr.cinv, hr.gfree, hr.lfree, hr.wf⟩, .refl _ _⟩
end
end Go.Abs
namespace Go.Abs
theorem certs_of {ps l : List Prop} (h : ps = l) (hl : ∀ p ∈ l, p) : ∀ p ∈ ps, p := h ▸ hl

theorem certs_cons {p : Prop} {l : List Prop} (h : p) (hl : ∀ p ∈ l, p) : ∀ q ∈ p :: l, q := fun q hq => by
  rcases List.mem_cons.1 hq with rfl | hq
  · exact h
  · exact hl q hq

theorem certs_nil : ∀ p ∈ ([] : List Prop), p := fun p h => by cases h

/-- Three slots and the heap are all that is told. -/
theorem weak3 {s : St} {a b c : AV} {G : List Blk} (h0 : get s.ts 0 = some a) (h1 : get s.ts 1 = some b) (h2 : get s.ts 2 = some c) (hL : s.L = []) (hG : s.G = G) : Weak s { ts := [(0, a), (1, b), (2, c)], L := [], G := G } := by
  have := weak_ts (s := s) [(0, a), (1, b), (2, c)] (fun t x h => by
    simp only [get] at h
    split at h
    · rename_i e; subst e; rw [h0]; exact h
    · split at h
      · rename_i e; subst e; rw [h1]; exact h
      · split at h
        · rename_i e; subst e; rw [h2]; exact h
        · cases h)
  rw [hL, hG] at this
  exact this
theorem q_noGoto {Q : AExit → St → Prop} {s : St} (h : Q .ret s) : noGoto Q .ret s := h
/-- Two slots, the variables and the heap are all that is told. -/
theorem weak2 {s : St} {i j : Nat} {a b : AV} {L : LS} {G : List Blk} (h0 : get s.ts i = some a) (h1 : get s.ts j = some b) (hL : s.L = L) (hG : s.G = G) : Weak s { ts := [(i, a), (j, b)], L := L, G := G } := by
  have := weak_ts (s := s) [(i, a), (j, b)] (fun t x h => by
    simp only [get] at h
    split at h
    · rename_i e; subst e; rw [h0]; exact h
    · split at h
      · rename_i e; subst e; rw [h1]; exact h
      · cases h)
  rw [hL, hG] at this
  exact this

theorem weak3' {s : St} {i j k : Nat} {a b c : AV} {L : LS} {G : List Blk} (h0 : get s.ts i = some a) (h1 : get s.ts j = some b) (h2 : get s.ts k = some c) (hL : s.L = L) (hG : s.G = G) : Weak s { ts := [(i, a), (j, b), (k, c)], L := L, G := G } := by
  have := weak_ts (s := s) [(i, a), (j, b), (k, c)] (fun t x h => by
    simp only [get] at h
    split at h
    · rename_i e; subst e; rw [h0]; exact h
    · split at h
      · rename_i e; subst e; rw [h1]; exact h
      · split at h
        · rename_i e; subst e; rw [h2]; exact h
        · cases h)
  rw [hL, hG] at this
  exact this
/-- 'xs[i]' of a slice of data. -/
theorem eff_index {P : Program} {c : Cfg} {s : St} {o : Oper} {t e : TypeId} {x i : Operand} {rows : List (List PV)} {row : List PV} {k : IntKind} {n : Nat} {d : Nat} (ho : o.op = .indexAddr t x i) (hd : o.dst = some d) (hn : d < c.nt)
    (ht : P.underlying t = some (.slice e)) (hx : ev s x = some (.p (.vec rows))) (hi : ev s i = some (.p (.int k n))) (hr : rows[n]? = some row) (hl : row.length = P.cellsOf e) (h0 : P.cellsOf e ≠ 0) :
    eff P c s o = .st (s.put (some d) (.rop row)) := by
  simp [eff, ho, avalN, anilcmp, aval, hx, hi, aindex, ht, hr, hl, h0, Eff.of, hd, dstOk, hn]

/-- A comparison of which the answer is known. -/
theorem eff_bool {P : Program} {c : Cfg} {s : St} {o : Oper} {op : BinOp} {t t' : TypeId} {x y : Operand} {b b' : Bool} {d : Nat} (ho : o.op = .binOp op t x y t') (hd : o.dst = some d) (hn : d < c.nt) (hv : avalN P s o = some (.p (.bool b))) (hb : b = b') :
    eff P c s o = .st (s.put (some d) (.p (.bool b'))) := by
  subst hb
  simp [eff, ho, hv, Eff.of, hd, dstOk, hn]
end Go.Abs
