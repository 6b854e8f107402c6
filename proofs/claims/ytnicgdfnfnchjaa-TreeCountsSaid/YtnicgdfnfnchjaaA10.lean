/-
  Who may append: tokens. What is laid down once and for all: cells that nobody writes any more.
-/
import Derived.Test.YtnicgdfnfnchjaaA9
set_option linter.unusedVariables false
namespace Go.Abs

mutual
/-- A value that has lost the tokens that 'f' names. -/
def AV.dis (f : Tok → Bool) : AV → AV
  | .own rows k => if f k then .p (.vec rows) else .own rows k
  | .full rows => .full rows
  | .fn g a b => .fn g (AV.diss f a) (AV.diss f b)
  | .iface t v => .iface t (AV.dis f v)
  | .agg l => .agg (AV.diss f l)
  | .tuple l => .tuple (AV.diss f l)
  | .p v => .p v
  | .ptr k o => .ptr k o
  | .ref k a b c => .ref k a b c
  | .rop r => .rop r
  | .map id => .map id
  | .undef => .undef
def AV.diss (f : Tok → Bool) : List AV → List AV
  | [] => []
  | x :: r => AV.dis f x :: AV.diss f r
end

theorem AV.diss_get (f : Tok → Bool) : ∀ (l : List AV) (i : Nat), (AV.diss f l)[i]? = (l[i]?).map (AV.dis f)
  | [], i => by simp [AV.diss]
  | x :: r, 0 => by simp [AV.diss]
  | x :: r, i + 1 => by simp [AV.diss, AV.diss_get f r i]

@[simp] theorem AV.diss_length (f : Tok → Bool) : ∀ (l : List AV), (AV.diss f l).length = l.length
  | [] => rfl
  | x :: r => by simp [AV.diss, AV.diss_length f r]

theorem Rel.dis {σ : Sg} (f : Tok → Bool) {v : AV} {x : Value} (h : Rel σ v x) : Rel σ (v.dis f) x := by
  induction h with
  | p h => exact .p h
  | own h ho =>
    simp only [AV.dis]
    split
    · exact .p h
    · exact .own h ho
  | full h => exact .full h
  | ptr off h => exact .ptr off h
  | ref off len cap cap' h hc => exact .ref off len cap cap' h hc
  | rop b o val h1 h2 => exact .rop b o val h1 h2
  | map h => exact .map h
  | fn h1 h2 h3 h4 ih3 ih4 =>
    refine .fn (by simpa using h1) (by simpa using h2) (fun i x hx => ?_) (fun i x hx => ?_)
    · rw [AV.diss_get, Option.map_eq_some_iff] at hx; obtain ⟨y, hy, rfl⟩ := hx; exact ih3 i y hy
    · rw [AV.diss_get, Option.map_eq_some_iff] at hx; obtain ⟨y, hy, rfl⟩ := hx; exact ih4 i y hy
  | iface h ih => exact .iface ih
  | agg h1 h2 ih =>
    refine .agg (by simpa using h1) (fun i x hx => ?_)
    rw [AV.diss_get, Option.map_eq_some_iff] at hx; obtain ⟨y, hy, rfl⟩ := hx; exact ih i y hy
  | tuple h1 h2 ih =>
    refine .tuple (by simpa using h1) (fun i x hx => ?_)
    rw [AV.diss_get, Option.map_eq_some_iff] at hx; obtain ⟨y, hy, rfl⟩ := hx; exact ih i y hy
  | undef x => exact .undef x

mutual
theorem AV.dis_chk (f : Tok → Bool) : ∀ v : AV, (v.dis f).chk (fun _ => true) (fun t => !f t) = true
  | .own rows k => by
    simp only [AV.dis]
    split
    · rfl
    · rename_i h; simpa [AV.chk] using h
  | .fn g a b => by simp [AV.dis, AV.chk, AV.diss_chk f a, AV.diss_chk f b]
  | .iface t v => by simp [AV.dis, AV.chk, AV.dis_chk f v]
  | .agg l => by simp [AV.dis, AV.chk, AV.diss_chk f l]
  | .tuple l => by simp [AV.dis, AV.chk, AV.diss_chk f l]
  | .p v => rfl
  | .full rows => rfl
  | .ptr k o => rfl
  | .ref k a b c => rfl
  | .rop r => rfl
  | .map id => rfl
  | .undef => rfl
theorem AV.diss_chk (f : Tok → Bool) : ∀ l : List AV, AV.chks (fun _ => true) (fun t => !f t) (AV.diss f l) = true
  | [] => rfl
  | x :: r => by simp [AV.diss, AV.chks, AV.dis_chk f x, AV.diss_chk f r]
end

def St.dis (f : Tok → Bool) (s : St) : St := { s with ts := s.ts.map fun x => (x.1, x.2.dis f) }

theorem get_map {α β : Type} (g : α → β) : ∀ (l : List (Nat × α)) (t : Nat), get (l.map fun x => (x.1, g x.2)) t = (get l t).map g
  | [], t => rfl
  | (u, x) :: r, t => by
    simp only [List.map_cons, get]
    split
    · rfl
    · exact get_map g r t

/-- Only slots' tokens. -/
def onlyS (f : Tok → Bool) : Prop := ∀ t, f t = true → (∀ k o, t ≠ .c k o)

section
variable {P : Program} {σ : Sg} {s : St} {nt : Nat} {a : Act} {w : World}

theorem St.look_dis (f : Tok → Bool) (k : Key) : (s.dis f).look k = s.look k := by cases k <;> rfl

/-- Where the state turns but not the blocks: what is said of the blocks stays. -/
theorem RelB.turn {σ σ' : Sg} {w w' : World} {b : Nat} {k : Key} {blk : Blk} (hI : ∀ b o v, σ.I b o = some v → σ'.I b o = some v)
    (hb : ∀ k b, σ.blk k = some b → σ'.blk k = some b) (ht : ∀ o x, σ.tok (.c k o) = some x → σ'.tok (.c k o) = some x) (hc : BlkInv k blk)
    (hw : blk ≠ .dead → w'.heap[b]? = w.heap[b]?) (h : RelB σ w b blk) : RelB σ' w' b blk := by
  cases blk with
  | cells cs =>
    obtain ⟨c, T, h1, h2, h3⟩ := h
    exact ⟨c, T, by rw [hw (by simp)]; exact h1, h2, fun j x hj => (h3 j x hj).keep hI (fun k b _ h => hb k b h) (fun t x h1 h2 => by
      have : t = .c k j := by simpa using h1
      subst this; exact ht _ _ h2) (hc j x hj)⟩
  | map es cl =>
    obtain ⟨c, h1, h2, h3⟩ := h
    refine ⟨c, by rw [hw (by simp)]; exact h1, h2, fun j k v n hj => ⟨(h3 j k v n hj).1.mono hI, (h3 j k v n hj).2.1.keep hI (fun k b _ h => hb k b h) (fun t x h1 _ => by simp at h1) (hc j _ hj), (h3 j k v n hj).2.2⟩⟩
  | dead => trivial

/-- The tokens that 'f' names turn; cells are added to what stands for ever; the world turns in blocks that no place is. -/
theorem RelS.turn (hr : RelS σ s nt a w) {σ' : Sg} {w' : World} (f : Tok → Bool) (hfs : ∀ t, f t = true → isC t = false) (hI : ∀ b o v, σ.I b o = some v → σ'.I b o = some v)
    (hb : σ'.blk = σ.blk) (ht : ∀ t x, f t = false → σ.tok t = some x → σ'.tok t = some x) (hw : ∀ k b, σ.blk k = some b → w'.heap[b]? = w.heap[b]?) (hwf : WFS σ' w') (hD : σ'.D = σ.D := by rfl) : RelS σ' (s.dis f) nt a w' := by
  refine ⟨hr.sz, hr.df.trans hD.symm, fun t x h => ?_, fun k blk h => ?_, fun k blk h => hr.cinv k blk (by rwa [St.look_dis] at h), fun id h => by rw [hb]; exact hr.gfree id h, fun t h => by rw [hb]; exact hr.lfree t h, hwf⟩
  · simp only [St.dis, get_map, Option.map_eq_some_iff] at h
    obtain ⟨v, hv, rfl⟩ := h
    obtain ⟨h1, h2⟩ := hr.vals _ _ hv
    exact ⟨h1, (h2.dis f).keep hI (fun k b _ h => by rw [hb]; exact h) (fun t x h1 h2 => ht t x (by simpa using h1) h2) (AV.dis_chk f v)⟩
  · rw [St.look_dis] at h
    obtain ⟨b, h1, h2⟩ := hr.blks _ _ h
    refine ⟨b, by rw [hb]; exact h1, h2.turn hI (fun k b h => by rw [hb]; exact h) (fun o x h => ht _ _ ?_ h) (hr.cinv _ _ h) (fun _ => hw _ _ h1)⟩
    cases hf : f (.c k o) with
    | false => rfl
    | true => have := hfs _ hf; simp [isC] at this

/-- A run of stores into one block. -/
theorem storeCells_block {b off : Nat} {T : TypeId} : ∀ (xs : List Value) (c : Array Value) (w : World) (i : Nat), w.heap[b]? = some (.cells c T (0, 0)) → off + i + xs.length ≤ c.size → (∀ x ∈ xs, x.oneCell' = true) →
    ∃ c', (storeCells ⟨b, off, none⟩ xs i).run P w = .ok () { w with heap := w.heap.setIfInBounds b (.cells c' T (0, 0)) } ∧ c'.size = c.size ∧
      (∀ j x, xs[j]? = some x → c'[off + i + j]? = some x) ∧ (∀ o, o < off + i ∨ off + i + xs.length ≤ o → c'[o]? = c[o]?)
  | [], c, w, i, hw, _, _ => by
    refine ⟨c, ?_, rfl, by simp, fun _ _ => rfl⟩
    have : w.heap.setIfInBounds b (.cells c T (0, 0)) = w.heap := by
      apply Array.ext_getElem?
      intro j
      rw [Array.getElem?_setIfInBounds]
      split
      · rename_i e; subst e
        split
        · exact hw.symm
        · rename_i h; rw [Array.getElem?_eq_none (by omega)]
      · rfl
    rw [this]; rfl
  | x :: xs, c, w, i, hw, hle, hone => by
    simp only [List.length_cons] at hle
    have hlt : off + i < c.size := by omega
    have hb : b < w.heap.size := (Array.getElem?_eq_some_iff.1 hw).1
    have h1 : (w.setCell ⟨b, off + i, none⟩ x) = { w with heap := w.heap.setIfInBounds b (.cells (c.setIfInBounds (off + i) x) T (0, 0)) } := by
      unfold World.setCell
      congr 1
      apply Array.ext_getElem?
      intro j
      rw [Array.getElem?_modify, Array.getElem?_setIfInBounds]
      split
      · rename_i e; subst e
        show (w.heap[b]?).map _ = _
        rw [hw]; rfl
      · rfl
    have h2 : (w.setCell ⟨b, off + i, none⟩ x).heap[b]? = some (.cells (c.setIfInBounds (off + i) x) T (0, 0)) := by rw [h1]; simp [hb]
    have hle' : off + (i + 1) + xs.length ≤ (c.setIfInBounds (off + i) x).size := by rw [Array.size_setIfInBounds]; omega
    obtain ⟨c', g1, g2, g3, g4⟩ := storeCells_block xs (c.setIfInBounds (off + i) x) (w.setCell ⟨b, off + i, none⟩ x) (i + 1)
      h2 hle' (fun y hy => hone y (List.mem_cons_of_mem _ hy))
    refine ⟨c', ?_, by simpa using g2, fun j y hj => ?_, fun o ho => ?_⟩
    · rw [storeCells, Sem.run_bind, add_none, run_store _ _ _ _ _ (hone x (List.mem_cons_self ..)), cell_of_block hw]
      have hz : w.frozen? ⟨b, off + i, none⟩ = false := by simp [World.frozen?, hw]
      rw [Array.getElem?_eq_getElem hlt]
      simp only [hz, Bool.false_eq_true, if_false, Result.andThen_ok]
      rw [g1, h1]
      simp
    · cases j with
      | zero =>
        simp only [List.getElem?_cons_zero, Option.some.injEq] at hj; subst hj
        rw [Nat.add_zero, g4 _ (.inl (by omega))]
        simp [hlt]
      | succ j =>
        rw [show off + i + (j + 1) = off + (i + 1) + j by omega]
        exact g3 j y (by simpa using hj)
    · simp only [List.length_cons] at ho
      rw [g4 o (by omega), Array.getElem?_setIfInBounds_ne (by omega)]
end
end Go.Abs
