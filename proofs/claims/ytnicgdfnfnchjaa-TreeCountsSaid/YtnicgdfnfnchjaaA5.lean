/-
  What each operation that only reads comes to ('aval'), and that the model's own run comes to the same.
-/
import Derived.Test.YtnicgdfnfnchjaaA4
set_option linter.unusedVariables false
namespace Go.Abs

def evs (s : St) : List Operand → Option (List AV)
  | [] => some []
  | x :: r => match ev s x, evs s r with | some v, some l => some (v :: l) | _, _ => none

def aslvec (sz : Nat) (rows : List (List PV)) (lo hi mx : Option AV) : Option AV :=
  match lo, hi, mx with
  | none, none, none => some (.p (.vec rows))
  | some (.p (.int _ l)), none, none => if 0 ≤ l ∧ l ≤ rows.length ∧ rows.all (·.length == sz) then some (.p (.vec (rows.drop l.toNat))) else none
  | none, some (.p (.int _ h)), none => if 0 ≤ h ∧ h ≤ rows.length then some (.p (.vec (rows.take h.toNat))) else none
  | none, some (.p (.int _ h)), some (.p (.int _ m)) => if h = 0 ∧ m = 0 then some (.own [] .n) else none
  | _, _, _ => none

def aslref (sz : Nat) (k : Key) (off len cap : Nat) (lo hi mx : Option AV) : Option AV :=
  match lo, hi, mx with
  | some (.p (.int _ l)), none, none => if 0 ≤ l ∧ l ≤ len ∧ l < cap then some (.ref k (off + l.toNat * sz) (len - l.toNat) (cap - l.toNat)) else none
  | none, some (.p (.int _ h)), none => if 0 ≤ h ∧ h ≤ cap ∧ 0 < cap then some (.ref k off h.toNat cap) else none
  | _, _, _ => none

def aslice (P : Program) (t : TypeId) (x : AV) (lo hi : Option AV) (mx : Option AV) : Option AV :=
  match P.underlying t with
  | some (.slice e) =>
    if P.cellsOf e = 0 then none else
    match x with
    | .p (.vec rows) => aslvec (P.cellsOf e) rows lo hi mx
    | .own rows _ => aslvec (P.cellsOf e) rows lo hi mx
    | .ref k off len cap => aslref (P.cellsOf e) k off len cap lo hi mx
    | _ => none
  | _ => none

def aconv (P : Program) (src dst : TypeId) (x : AV) : Option AV :=
  match P.underlying src, P.underlying dst, x with
  | some (.int _), some (.int k), .p (.int _ n) => some (.p (.int k (k.wrap n)))
  | some .string, some .string, .p (.str s) => some (.p (.str s))
  | _, _, _ => none

def aminmax (mx : Bool) : AV → AV → Option AV
  | .p (.int k x), .p (.int _ y) => some (.p (.int k (if mx then (if x < y then y else x) else (if y < x then y else x))))
  | _, _ => none

/-- 'x.(T)', T no interface. -/
def aassert (P : Program) (t : TypeId) (ok : Bool) (x : AV) : Option AV :=
  match P.underlying t with
  | some (.interface _) | none => none
  | some _ => match x with
    | .p .nili => if ok then (azero P t).map fun z => .tuple [z, .p (.bool false)] else none
    | .iface t' v => if t' = t then some (if ok then .tuple [v, .p (.bool true)] else v) else if ok then (azero P t).map fun z => .tuple [z, .p (.bool false)] else none
    | _ => none

def aval (P : Program) (s : St) (o : Oper) : Option AV :=
  match o.op with
  | .move x | .assign x => ev s x
  | .pick c a b => match ev s c with
    | some (.p (.bool true)) => ev s a
    | some (.p (.bool false)) => ev s b
    | _ => none
  | .load t x => ((ev s x).bind (cellsAt s)).bind (aload P t)
  | .fieldAddr st x f => (ev s x).bind (afield P st f)
  | .indexAddr t x i => match ev s x, ev s i with
    | some v, some (.p (.int _ n)) => aindex P t v n
    | _, _ => none
  | .nilCheck x => (ev s x).bind anil
  | .lookup t m i ok => match ev s m, ev s i with
    | some v, some u => alookup P s t v u ok
    | _, _ => none
  | .binOp op t x y _ => match ev s x, ev s y with
    | some v, some u => abin P op t v u
    | _, _ => none
  | .unOp op _ x => (ev s x).bind (aun op)
  | .convert src dst x => (ev s x).bind (aconv P src dst)
  | .extract x i => match ev s x with
    | some (.tuple l) => l[i]?.map AV.ld
    | _ => none
  | .makeInterface t x => match P.underlying t with
    | some (.interface _) | none => none
    | _ => (ev s x).map (AV.iface t ∘ AV.plain)
  | .typeAssert x _ t ok => (ev s x).bind (aassert P t ok)
  | .makeFunc (.func f) first caps => match evs s first.toList, evs s caps.toList with
    | some l, some m => some (.fn f l m)
    | _, _ => none
  | .slice t x lo hi mx => (ev s x).bind fun v =>
    match lo, hi, mx with
    | none, none, none => aslice P t v none none none
    | some l, none, none => (ev s l).bind fun l => aslice P t v (some l) none none
    | none, some h, none => (ev s h).bind fun h => aslice P t v none (some h) none
    | none, some h, some m => (ev s h).bind fun h => (ev s m).bind fun m => aslice P t v none (some h) (some m)
    | _, _, _ => none
  | .call c => match c.callee, c.args.toList with
    | .builtin .len, [x] => match c.argTypes[0]? with | some t => (ev s x).bind (alen P t) | none => none
    | .builtin .min, [x, y] => match ev s x, ev s y with | some v, some u => aminmax false v u | _, _ => none
    | .builtin .max, [x, y] => match ev s x, ev s y with | some v, some u => aminmax true v u | _, _ => none
    | _, _ => none
  | _ => none

section
variable {P : Program} {σ : Sg} {s : St} {nt : Nat} {a : Act} {w : World}

theorem evs_rel (hr : RelS σ s nt a w) : ∀ {l : List Operand} {r : List AV}, evs s l = some r → (l.map a.eval).length = r.length ∧ ∀ (i : Nat) (v : AV), r[i]? = some v → Rel σ v ((l.map a.eval).toArray.getD i undef)
  | [], r, h => by simp [evs] at h; subst h; simp
  | x :: l, r, h => by
    simp only [evs] at h
    split at h
    · rename_i v r' hx hl
      simp only [Option.some.injEq] at h; subst h
      obtain ⟨h1, h2⟩ := evs_rel hr hl
      refine ⟨by simpa using h1, fun i u hu => ?_⟩
      cases i with
      | zero => simp at hu; subst hu; simpa using ev_rel hr hx
      | succ i => simpa [Array.getD_eq_getD_getElem?] using h2 i u (by simpa using hu)
    · simp at h

theorem aconv_run {src dst : TypeId} {x v : AV} (h : aconv P src dst x = some v) {x' : Value} (hx : Rel σ x x') : ∃ r, (convert src dst x').run P w = .ok r w ∧ Rel σ v r := by
  unfold aconv at h
  split at h
  · rename_i h1 h2
    simp only [Option.some.injEq] at h; subst h
    cases hx with | p hx =>
    cases hx
    exact ⟨.int _ _, by simp only [convert, Sem.run_bind, run_underlying h1, run_underlying h2, Result.andThen_ok]; rfl, .p (.int _ _)⟩
  · rename_i h1 h2
    simp only [Option.some.injEq] at h; subst h
    cases hx with | p hx =>
    cases hx
    exact ⟨.string _, by simp only [convert, Sem.run_bind, run_underlying h1, run_underlying h2, Result.andThen_ok]; rfl, .p (.str _)⟩
  · simp at h

theorem RelP.drop {I : Nat → Nat → Option Value} {rows : List (List PV)} {b : Option Addr} {len cap : Nat} (h : RelP I (.vec rows) (.slice b len cap)) {sz l : Nat} (hl : l ≤ rows.length) (hs : ∀ row ∈ rows, row.length = sz) :
    RelP I (.vec (rows.drop l)) (.slice (if cap = l then b else b.map (·.add (l * sz))) (len - l) (cap - l)) := by
  by_cases he : rows.drop l = []
  · rw [he]
    obtain ⟨b', c', hy⟩ : ∃ b' c', Value.slice b len cap = .slice b' rows.length c' := by
      cases h with
      | vec0 => exact ⟨_, _, rfl⟩
      | vec => exact ⟨_, _, rfl⟩
    cases hy
    have : rows.length - l = 0 := by have : rows.length ≤ l := by simpa using he
                                     omega
    rw [this]; exact .vec0 _ _
  · cases h with
    | vec0 => simp at he
    | vec _ b o _ sz' val hsz hI hR hmax hcap =>
      have hlt : l < rows.length := by
        rcases Nat.lt_or_ge l rows.length with h | h
        · exact h
        · exact absurd (List.drop_eq_nil_of_le h) he
      have hss : sz' = sz := by
        have hm := List.getElem_mem (l := rows) (n := 0) (by omega)
        rw [← hsz _ hm, ← hs _ hm]
      subst hss
      have := RelP.vec (I := I) (rows.drop l) b (o + l * sz') (cap - l) sz' (fun i j => val (l + i) j) (fun row hr => hsz row (List.mem_of_mem_drop hr))
        (fun i j hi hj => by
          simp only [List.length_drop] at hi
          have := hI (l + i) j (by omega) hj
          rw [Nat.add_mul] at this
          rw [show o + l * sz' + i * sz' + j = o + (l * sz' + i * sz') + j by omega]; exact this)
        (fun i row j c hr hc => hR (l + i) row j c (by rwa [List.getElem?_drop] at hr) hc) (by simp; omega) (by simp; omega)
      simp only [List.length_drop] at this
      rw [if_neg (by omega)]
      simpa [add_none] using this

theorem RelP.take {I : Nat → Nat → Option Value} {rows : List (List PV)} {b : Option Addr} {len cap : Nat} (h : RelP I (.vec rows) (.slice b len cap)) {n : Nat} (hl : n ≤ rows.length) :
    RelP I (.vec (rows.take n)) (.slice b n cap) := by
  by_cases he : n = 0
  · subst he; exact .vec0 _ _
  · cases h with
    | vec0 => simp at hl; omega
    | vec _ b o _ sz' val hsz hI hR hmax hcap =>
      have := RelP.vec (I := I) (rows.take n) b o cap sz' val (fun row hr => hsz row (List.mem_of_mem_take hr))
        (fun i j hi hj => hI i j (by simp at hi; omega) hj)
        (fun i row j c hr hc => hR i row j c (by rw [List.getElem?_take] at hr; split at hr <;> simp_all) hc) (by simp; omega) (by simp; omega)
      simpa [Nat.min_eq_left hl] using this

theorem cap_le {I : Nat → Nat → Option Value} {rows : List (List PV)} {b : Option Addr} {len cap : Nat} (h : RelP I (.vec rows) (.slice b len cap)) : len = rows.length ∧ rows.length ≤ cap := by
  cases h with
  | vec0 => simp
  | vec _ b o _ sz' val hsz hI hR hmax hcap => exact ⟨rfl, hcap⟩

theorem bound_run {k : IntKind} {i : Int} {y : Nat} {code : BoundsCode} (h0 : 0 ≤ i) (h1 : i ≤ y) (w : World) : (Instr.sliceBound (.int k i) y code).run P w = .ok i.toNat w := by
  simp [Instr.sliceBound, asIntOf_int, h0, h1]

/-- The bounds of a slice, as they stand in the model. -/
inductive OptRel (σ : Sg) : Option AV → Option Value → Prop where
  | none : OptRel σ none none
  | some {v : AV} {x : Value} (h : Rel σ v x) : OptRel σ (some v) (some x)

theorem int_inv {k : IntKind} {n : Int} {x : Value} (h : Rel σ (.p (.int k n)) x) : x = .int k n := by
  cases h with | p h =>
  cases h; rfl

theorem aslice_run {t : TypeId} {x v : AV} {lo hi mx : Option AV} (h : aslice P t x lo hi mx = some v) {x' : Value} (hx : Rel σ x x') {lo' hi' mx' : Option Value}
    (hlo : OptRel σ lo lo') (hhi : OptRel σ hi hi') (hmx : OptRel σ mx mx') :
    ∃ r, (Instr.sliceAt t x' lo' hi' mx').run P w = .ok r w ∧ Rel σ v r := by
  unfold aslice at h
  split at h
  case h_2 => simp at h
  rename_i e hu
  split at h
  · simp at h
  rename_i hne
  have start : ∀ b len cap, (Instr.sliceAt t (.slice b len cap) lo' hi' mx').run P w = ((Instr.sliceBounds true len cap lo' hi' mx').run P w).andThen fun r w =>
      .ok (.slice (if r.2.2 = r.1 then b else b.map (·.add (r.1 * P.cellsOf e))) (r.2.1 - r.1) (r.2.2 - r.1)) w := by
    intro b len cap
    unfold Instr.sliceAt
    rw [Sem.run_bind, run_underlying hu]
    simp only [Result.andThen_ok]
    unfold Instr.slice
    rw [Sem.run_bind, run_underlying hu]
    simp only [Result.andThen_ok]
    rw [Sem.run_bind]
    congr 1
    funext r w
    obtain ⟨l, h, m⟩ := r
    simp only [Sem.run_bind, run_sizeOf_ne hne, Result.andThen_ok]
    rfl
  have vec : ∀ rows y, RelP σ.I (.vec rows) y → aslvec (P.cellsOf e) rows lo hi mx = some v → ∃ r, (Instr.sliceAt t y lo' hi' mx').run P w = .ok r w ∧ Rel σ v r := by
    intro rows y hy h2
    obtain ⟨b, cap, rfl⟩ := len_vec hy
    obtain ⟨_, hcap⟩ := cap_le hy
    rw [start]
    unfold aslvec at h2
    split at h2
    · cases hlo; cases hhi; cases hmx
      simp only [Option.some.injEq] at h2; subst h2
      refine ⟨.slice b rows.length cap, ?_, .p hy⟩
      simp only [Instr.sliceBounds, Sem.run_bind, Sem.run_pure, Result.andThen_ok, Nat.zero_mul, Nat.sub_zero]
      congr 2
      split
      · rfl
      · cases b <;> simp [Addr.add]
    · cases hhi; cases hmx
      cases hlo with | some hl =>
      rw [int_inv hl]
      split at h2
      · rename_i hc
        simp only [Option.some.injEq] at h2; subst h2
        have hd := RelP.drop hy (sz := P.cellsOf e) (l := (by assumption : Int).toNat) (by omega) (by simpa using hc.2.2)
        refine ⟨_, ?_, .p hd⟩
        simp [Instr.sliceBounds, bound_run hc.1 hc.2.1]
      · simp at h2
    · cases hlo; cases hmx
      cases hhi with | some hl =>
      rw [int_inv hl]
      split at h2
      · rename_i hc
        simp only [Option.some.injEq] at h2; subst h2
        have hd := RelP.take hy (n := (by assumption : Int).toNat) (by omega)
        refine ⟨_, ?_, .p hd⟩
        simp [Instr.sliceBounds, bound_run hc.1 (show _ ≤ ((cap : Nat) : Int) by omega)]
        intro _
        cases b <;> simp [Addr.add]
      · simp at h2
    · cases hlo
      cases hmx with | some hm =>
      cases hhi with | some hl =>
      rw [int_inv hl, int_inv hm]
      split at h2
      · rename_i hc
        simp only [Option.some.injEq] at h2; subst h2
        rw [hc.1, hc.2]
        refine ⟨.slice b 0 0, ?_, .own (.vec0 _ _) (.inl rfl)⟩
        have e0 : ∀ k y code, (Instr.sliceBound (.int k 0) y code).run P w = .ok 0 w := fun k y code => bound_run (Int.le_refl 0) (by omega) w
        simp only [Instr.sliceBounds, Sem.run_bind, e0, Result.andThen_ok, Sem.run_pure, Nat.zero_mul, Nat.sub_zero, if_true]
      · simp at h2
    · simp at h2
  split at h
  · cases hx with | p hx => exact vec _ _ hx h
  · cases hx with | own hx _ => exact vec _ _ hx h
  · cases hx with | ref _ _ _ cap' hb hcc =>
    rw [start]
    unfold aslref at h
    split at h
    · cases hhi; cases hmx
      cases hlo with | some hl =>
      rw [int_inv hl]
      split at h
      · rename_i hc
        simp only [Option.some.injEq] at h; subst h
        refine ⟨_, ?_, .ref _ _ _ (cap' - (by assumption : Int).toNat) hb (Nat.sub_le_sub_right hcc _)⟩
        simp [Instr.sliceBounds, bound_run hc.1 hc.2.1]
        rw [if_neg (by omega), add_none]
      · simp at h
    · cases hlo; cases hmx
      cases hhi with | some hl =>
      rw [int_inv hl]
      split at h
      · rename_i hc
        simp only [Option.some.injEq] at h; subst h
        refine ⟨_, ?_, .ref _ _ _ cap' hb hcc⟩
        simp [Instr.sliceBounds, bound_run hc.1 (Int.le_trans hc.2.1 (Int.ofNat_le.2 hcc))]
        intro _; simp [Addr.add]
      · simp at h
    · simp at h
  · simp at h

theorem aminmax_run {mx : Bool} {x y v : AV} (h : aminmax mx x y = some v) {x' y' : Value} (hx : Rel σ x x') (hy : Rel σ y y') (ts : Array TypeId) (t : TypeId) :
    ∃ r, (if mx then Builtin.max_ ts t #[x', y'] else Builtin.min_ ts t #[x', y']).run P w = .ok r w ∧ Rel σ v r := by
  unfold aminmax at h
  split at h
  · simp only [Option.some.injEq] at h; subst h
    rw [int_inv hx, int_inv hy]
    cases mx
    · exact ⟨_, rfl, .p (.int _ _)⟩
    · exact ⟨_, rfl, .p (.int _ _)⟩
  · simp at h

theorem anil_run {x v : AV} (h : anil x = some v) {x' : Value} (hx : Rel σ x x') (o : Oper) (y : Operand) (ρ : Operand → Value) (hρ : ρ y = x') (ho : o.op = .nilCheck y) :
    (execOp ρ o).run P w = .ok (.value x') w ∧ Rel σ v x' := by
  unfold anil at h
  split at h <;> first | (simp at h; done) | (simp only [Option.some.injEq] at h; subst h)
  all_goals
    refine ⟨?_, hx⟩
    unfold execOp
    rw [ho]; simp only [hρ]
    cases hx <;> rfl
end
end Go.Abs
