/-
  The operations that only read: what each comes to over the abstract state, and that the model's own run comes to the same.
-/
import Derived.Test.YtnicgdfnfnchjaaA1
import Derived.Laws.Cells
import Derived.Laws.Entries
set_option linter.unusedVariables false
namespace Go.Abs

def cv : Value → Option AV
  | .bool b => some (.p (.bool b))
  | .int k n => some (.p (.int k n))
  | .string s => some (.p (.str s))
  | .pointer none => some (.p .nilp)
  | .map none => some (.p .nilm)
  | .nilFunc => some (.p .nilf)
  | .nilIface => some (.p .nili)
  | .slice none 0 0 => some (.own [] .n)
  | _ => none

def ev (s : St) : Operand → Option AV
  | .tmp t => get s.ts t
  | .const v => cv v
  | .func f => some (.fn f [] [])
  | .global _ => none

theorem cv_rel {σ : Sg} {x : Value} {v : AV} (h : cv x = some v) : Rel σ v x := by
  unfold cv at h
  split at h <;> first | (simp at h; done) | (simp at h; subst h)
  · exact .p (.bool _)
  · exact .p (.int _ _)
  · exact .p (.str _)
  · exact .p .nilp
  · exact .p .nilm
  · exact .p .nilf
  · exact .p .nili
  · exact .own (.vec0 _ _) (.inl rfl)

theorem ev_rel {σ : Sg} {s : St} {nt : Nat} {a : Act} {w : World} (hr : RelS σ s nt a w) {x : Operand} {v : AV} (h : ev s x = some v) : Rel σ v (a.eval x) := by
  cases x with
  | tmp t => exact (hr.vals t v h).2
  | const c => exact cv_rel h
  | func f => simp [ev] at h; subst h; exact .fn rfl rfl (by simp) (by simp)
  | global g => simp [ev] at h

/-- What is read is no longer anybody's to append to. -/
def AV.plain : AV → AV
  | .own rows _ => .p (.vec rows)
  | x => x

theorem Rel.plain {σ : Sg} {v : AV} {x : Value} (h : Rel σ v x) : Rel σ v.plain x := by
  cases h with
  | own h _ => exact .p h
  | full h => exact .full h
  | p h => exact .p h
  | ptr off h => exact .ptr off h
  | ref off len cap cap' h hc => exact .ref off len cap cap' h hc
  | rop b o val h1 h2 => exact .rop b o val h1 h2
  | map h => exact .map h
  | fn h1 h2 h3 h4 => exact .fn h1 h2 h3 h4
  | iface h => exact .iface h
  | agg h1 h2 => exact .agg h1 h2
  | tuple h1 h2 => exact .tuple h1 h2
  | undef x => exact .undef x

/-- As it lies in a cell. -/
def AV.toCell : AV → AV
  | .own rows .n => .full rows
  | x => x.plain

/-- As it is read out of a cell. -/
def AV.ld : AV → AV
  | .full rows => .own rows .n
  | x => x

/-- As it is handed on. -/
def AV.strip : AV → AV
  | .full rows => .p (.vec rows)
  | x => x.plain

theorem Rel.toCell {σ : Sg} {v : AV} {x : Value} (h : Rel σ v x) : Rel σ v.toCell x := by
  unfold AV.toCell
  split
  · cases h with
    | own h ho =>
      rcases ho with rfl | ⟨b, o, sz, l, h1, _⟩
      · exact .full h
      · exact absurd rfl h1
  · exact h.plain

theorem Rel.ld {σ : Sg} {v : AV} {x : Value} (h : Rel σ v x) : Rel σ v.ld x := by
  unfold AV.ld
  split
  · cases h with | full h => exact .own h (.inl rfl)
  · exact h

theorem Rel.strip {σ : Sg} {v : AV} {x : Value} (h : Rel σ v x) : Rel σ v.strip x := by
  unfold AV.strip
  split
  · cases h with | full h => exact .p h
  · exact h.plain

/-! ### numbers, strings, bools -/

def beqS (x y : ByteArray) : Bool := x.toList == y.toList

def ibin (op : BinOp) (k : IntKind) (a : Int) (k' : IntKind) (b : Int) : Option PV :=
  match op with
  | .shl => if 0 ≤ b then some (.int k (k.wrap (a * 2 ^ min b.toNat k.bits))) else none
  | .shr => if 0 ≤ b then some (.int k (a.fdiv (2 ^ min b.toNat k.bits))) else none
  | .add => if k = k' then some (.int k (k.wrap (a + b))) else none
  | .sub => if k = k' then some (.int k (k.wrap (a - b))) else none
  | .mul => if k = k' then some (.int k (k.wrap (a * b))) else none
  | .quo => if k = k' then if b = 0 then none else some (.int k (k.wrap (a.tdiv b))) else none
  | .rem => if k = k' then if b = 0 then none else some (.int k (a.tmod b)) else none
  | .and => if k = k' then some (.int k (k.wrap (BitVec.ofInt k.bits a &&& BitVec.ofInt k.bits b).toNat)) else none
  | .or => if k = k' then some (.int k (k.wrap (BitVec.ofInt k.bits a ||| BitVec.ofInt k.bits b).toNat)) else none
  | .xor => if k = k' then some (.int k (k.wrap (BitVec.ofInt k.bits a ^^^ BitVec.ofInt k.bits b).toNat)) else none
  | .andNot => if k = k' then some (.int k (k.wrap (BitVec.ofInt k.bits a &&& ~~~ BitVec.ofInt k.bits b).toNat)) else none
  | .eql => if k = k' then some (.bool (a == b)) else none
  | .neq => if k = k' then some (.bool (a != b)) else none
  | .lss => if k = k' then some (.bool (decide (a < b))) else none
  | .leq => if k = k' then some (.bool (decide (a ≤ b))) else none
  | .gtr => if k = k' then some (.bool (decide (a > b))) else none
  | .geq => if k = k' then some (.bool (decide (a ≥ b))) else none

def abin (P : Program) (op : BinOp) (t : TypeId) : AV → AV → Option AV
  | .p (.int k a), .p (.int k' b) => (ibin op k a k' b).map .p
  | .p (.str a), .p (.str b) =>
    match op with
    | .add => if a.size + b.size ≤ 9223372036854775807 then some (.p (.str (a ++ b))) else none
    | .eql => some (.p (.bool (beqS a b)))
    | .neq => some (.p (.bool (!beqS a b)))
    | _ => none
  | .p (.bool a), .p (.bool b) =>
    match op, P.underlying t with
    | .eql, some .bool => some (.p (.bool (a == b)))
    | .neq, some .bool => some (.p (.bool (!(a == b))))
    | _, _ => none
  | _, _ => none

def aun (op : UnOp) : AV → Option AV
  | .p (.int k n) =>
    match op with
    | .neg => some (.p (.int k (k.wrap (0 - n))))
    | .xor => some (.p (.int k (k.wrap (BitVec.ofInt k.bits (if k.signed then -1 else k.max) ^^^ BitVec.ofInt k.bits n).toNat)))
    | _ => none
  | .p (.bool b) => match op with | .not => some (.p (.bool !b)) | _ => none
  | _ => none

section
variable {P : Program} {σ : Sg}

theorem eqGuard_pure {op : BinOp} {t : TypeId} {x y : Operand} {a b : Value} (w : World) (h : ∀ l l', (a ≠ .agg l ∨ b ≠ .agg l') ∧ (a ≠ .nilIface)) : (eqGuard op t x y a b).run P w = .ok () w := by
  unfold eqGuard
  cases op <;> simp only [] <;> first | rfl | skip
  all_goals
    cases a <;> cases b <;> first | rfl | (exfalso; first | exact (h #[] #[]).2 rfl | (rename_i l l'; rcases (h l l').1 with h1 | h1 <;> exact h1 rfl))

theorem ibin_run {op : BinOp} {k k' : IntKind} {a b : Int} {v : PV} (h : ibin op k a k' b = some v) (t : TypeId) (w : World) :
    ∃ x, (binOp op t (.int k a) (.int k' b)).run P w = .ok x w ∧ RelP σ.I v x := by
  cases op <;> simp only [ibin] at h
  case shl => split at h <;> simp at h; subst h; rename_i hk; exact ⟨.int _ _, by simp [binOp, Op.shift, show ¬ b < 0 by omega], .int _ _⟩
  case shr => split at h <;> simp at h; subst h; rename_i hk; exact ⟨.int _ _, by simp [binOp, Op.shift, show ¬ b < 0 by omega], .int _ _⟩
  case quo =>
    split at h
    · rename_i hk; subst hk
      split at h
      · simp at h
      · rename_i hb; simp at h; subst h; exact ⟨.int _ _, by simp [binOp, Op.intDiv, hb], .int _ _⟩
    · simp at h
  case rem =>
    split at h
    · rename_i hk; subst hk
      split at h
      · simp at h
      · rename_i hb; simp at h; subst h; exact ⟨.int _ _, by simp [binOp, Op.intDiv, hb], .int _ _⟩
    · simp at h
  all_goals
    split at h
    · rename_i hk; subst hk; simp only [Option.some.injEq] at h; subst h
      refine ⟨_, ?_, by first | exact .int _ _ | exact .bool _⟩
      simp only [binOp, ne_eq, not_true_eq_false, if_false]; rfl
    · simp at h

theorem equal_bool {t : TypeId} (h : P.underlying t = some .bool) (a b : Bool) (w : World) : (Op.equal t (.bool a) (.bool b)).run P w = .ok (a == b) w := by
  show (Op.equalIn (9999 + 1) t (.bool a) (.bool b)).run P w = _
  rw [Op.equalIn, Sem.run_bind, run_underlying h]
  rfl

theorem abin_run {op : BinOp} {t : TypeId} {x y : AV} {v : AV} (h : abin P op t x y = some v) {x' y' : Value} (hx : Rel σ x x') (hy : Rel σ y y') (ox oy : Operand) (w : World) :
    ∃ r, (do eqGuard op t ox oy x' y'; binOp op t x' y').run P w = .ok r w ∧ Rel σ v r := by
  unfold abin at h
  split at h
  · cases hx with | p hx => cases hy with | p hy =>
    cases hx; cases hy
    simp only [Option.map_eq_some_iff] at h
    obtain ⟨u, hu, rfl⟩ := h
    obtain ⟨r, h1, h2⟩ := ibin_run (P := P) (σ := σ) hu t w
    exact ⟨r, by rw [Sem.run_bind, eqGuard_pure w (by simp)]; exact h1, .p h2⟩
  · cases hx with | p hx => cases hy with | p hy =>
    cases hx; cases hy
    rw [Sem.run_bind, eqGuard_pure w (by simp)]
    simp only [Result.andThen_ok]
    split at h
    · split at h
      · rename_i hle
        simp only [Option.some.injEq] at h; subst h
        refine ⟨.string _, ?_, .p (.str _)⟩
        simp only [binOp, Op.stringOp]
        rw [if_neg (by show ¬ (((_ : Nat) : Int) > (2 ^ 63 - 1 : Int)); omega)]; rfl
      · simp at h
    · simp only [Option.some.injEq] at h; subst h; exact ⟨.bool _, by simp [binOp, Op.stringOp, beqS], .p (.bool _)⟩
    · simp only [Option.some.injEq] at h; subst h; exact ⟨.bool _, by simp [binOp, Op.stringOp, beqS], .p (.bool _)⟩
    · simp at h
  · cases hx with | p hx => cases hy with | p hy =>
    cases hx; cases hy
    rw [Sem.run_bind, eqGuard_pure w (by simp)]
    simp only [Result.andThen_ok]
    split at h
    · rename_i hu; simp only [Option.some.injEq] at h; subst h; exact ⟨.bool _, by show (do pure (Value.bool (← Op.equal t _ _))).run P w = _; rw [Sem.run_bind, equal_bool hu]; rfl, .p (.bool _)⟩
    · rename_i hu; simp only [Option.some.injEq] at h; subst h; exact ⟨.bool _, by show (do pure (Value.bool (!(← Op.equal t _ _)))).run P w = _; rw [Sem.run_bind, equal_bool hu]; rfl, .p (.bool _)⟩
    · simp at h
  · simp at h

theorem aun_run {op : UnOp} {x v : AV} (h : aun op x = some v) {x' : Value} (hx : Rel σ x x') (w : World) :
    ∃ r, (Op.unary op x').run P w = .ok r w ∧ Rel σ v r := by
  unfold aun at h
  cases hx with
  | p hx =>
    cases hx with
    | int k n =>
      cases op <;> simp only [Option.some.injEq, reduceCtorEq] at h <;> subst h
      · exact ⟨.int _ _, rfl, .p (.int _ _)⟩
      · exact ⟨.int _ _, rfl, .p (.int _ _)⟩
    | bool b =>
      cases op <;> simp only [Option.some.injEq, reduceCtorEq] at h <;> subst h
      exact ⟨.bool _, rfl, .p (.bool _)⟩
    | _ => simp at h
  | _ => simp at h
end
end Go.Abs
