/-
  A run over the abstract state, reckoned: where all is known, the kernel reckons what a call comes to.
-/
import Derived.Test.YtnicgdfnfnchjaaA25
import Derived.Test.YtnicgdfnfnchjaaC1
import Derived.Scope
import Derived.LoopN
set_option linter.unusedVariables false
namespace Go.Abs

section
variable {P : Program} {nt : Nat} {Q : AExit → St → Prop} {s : St}

/-- A loop, one round at a time. -/
def rounds (P : Program) (nt : Nat) (c : Code) (Q : AExit → St → Prop) : Nat → St → Prop
  | 0, _ => False
  | n + 1, s => AWp P nt c (andThen (rounds P nt c Q n) Q) s

theorem awp_rounds {c : Code} (n : Nat) (h : rounds P nt c Q n s) : AWp P nt (.loop c) Q s := by
  intro σ a w hr
  refine wp_loop_rounds n ?_
  have key : ∀ n s σ' a w', rounds P nt c Q n s → RelS σ' s nt a w' → Post σ σ' w w' → Code.rounds P c (Conc nt Q σ w) n a w' := by
    intro n
    induction n with
    | zero => exact fun _ _ _ _ h _ _ => h.elim
    | succ n ih =>
      intro s σ' a w' h hr' hp'
      refine wp_mono (h σ' a w' hr') ?_
      rintro e a' w'' ⟨x, s', σ'', hx, hs, hp, hq⟩
      cases hx with
      | normal => exact ih _ _ _ _ hq hs (hp'.trans hp)
      | exit id => exact ⟨_, s', σ'', .exit id, hs, hp'.trans hp, hq⟩
      | goto l => exact ⟨_, s', σ'', .goto l, hs, hp'.trans hp, hq⟩
      | ret => exact ⟨_, s', σ'', .ret, hs, hp'.trans hp, hq⟩
      | panic hv => exact ⟨_, s', σ'', .panic hv, hs, hp'.trans hp, hq⟩
  exact key n s σ a w h hr (.refl _ _)
end

def noGoto (Q : AExit → St → Prop) : AExit → St → Prop
  | .goto _, _ => False
  | e, s => Q e s

theorem awp_scope {P : Program} {nt : Nat} {c : Code} {Q : AExit → St → Prop} {s : St} (h : AWp P nt c (noGoto Q) s) : AWp P nt (.scope c) Q s := by
  intro σ a w hr
  refine wp_scope_straight (wp_mono (h σ a w hr) ?_)
  rintro e a' w' ⟨x, s', σ', hx, hs, hp, hq⟩
  cases hx with
  | normal => exact ⟨_, s', σ', .normal, hs, hp, hq⟩
  | exit id => exact ⟨_, s', σ', .exit id, hs, hp, hq⟩
  | goto l => exact hq.elim
  | ret => exact ⟨_, s', σ', .ret, hs, hp, hq⟩
  | panic hv => exact ⟨_, s', σ', .panic hv, hs, hp, hq⟩

instance {Q : AExit → St → Prop} [PP Q] : PP (noGoto Q) := ⟨fun v s h => PP.pp (Q := Q) v s h⟩

inductive XR where
  | go (e : AExit) (s : St)
  | panic (v : AV) (G : List Blk) (so : Option St)

def XR.Q : XR → AExit → St → Prop
  | .go e s, e', s' => e' = e ∧ s' = s ∧ ∀ v, e ≠ .panic v
  | .panic v G so, e', s' => e' = .panic v ∧ s'.G = G ∧ ∀ s0, so = some s0 → s' = s0

def XR.loose : XR → Bool
  | .go _ _ => true
  | .panic _ _ so => so.isNone

theorem XR.pp {r : XR} (hr : r.loose = true) : PP r.Q := ⟨fun v s h => by
  cases r with
  | go e s0 => obtain ⟨rfl, rfl, h⟩ := h; exact absurd rfl (h v)
  | panic v0 G so =>
    cases so with
    | none => exact ⟨h.1, h.2.1, fun s0 e => by cases e⟩
    | some s0 => simp [XR.loose] at hr⟩

/-- What a call is known to answer, and under which conditions. -/
abbrev XF := FuncId → List AV → List Blk → Option (AEnd × List Blk × List Prop)

def XF.ok (P : Program) (xf : XF) : Prop := ∀ f args G r G' ps, xf f args G = some (r, G', ps) → (∀ p ∈ ps, p) → ACalls P f args G fun r' G'' => r' = r ∧ G'' = G'

inductive XO where
  | st (s : St) (ps : List Prop)
  | pan (v : AV) (s : St) (ps : List Prop)
  | bad

def addP {α : Type} (ps : List Prop) : Option (α × List Prop) → Option (α × List Prop)
  | some (r, qs) => some (r, ps ++ qs)
  | none => none

theorem addP_some {α : Type} {ps : List Prop} {x : Option (α × List Prop)} {r : α × List Prop} (h : addP ps x = some r) (hr : ∀ p ∈ r.2, p) : ∃ qs, x = some (r.1, qs) ∧ (∀ p ∈ ps, p) ∧ ∀ p ∈ qs, p := by
  cases x with
  | none => cases h
  | some y =>
    obtain ⟨y, qs⟩ := y
    simp only [addP, Option.some.injEq] at h
    subst h
    exact ⟨qs, rfl, fun p hp => hr p (List.mem_append_left _ hp), fun p hp => hr p (List.mem_append_right _ hp)⟩

/-- An append to elements that are not known. -/
def xapp (P : Program) (c : Cfg) (o : Oper) (s : St) : Option (St × Prop) :=
  if c.sym then match o.op with
    | .call cl => match cl.callee, cl.args.toList, cl.argTypes.toList with
      | .builtin .append, [b, x], [sT, xT] => match ev s b, o.dst with
        | some (.own rows (.c k off)), some d => if d < c.nt ∧ c.heap.contains d = false ∧ (ev s x).isSome then match ev (s.rtok (.c k off) (.s d)) x with
            | some xv => match aappend0 P (s.rtok (.c k off) (.s d)) sT xT (.own rows (.s d)) xv with
              | some (r, t, C) => some (((s.rtok (.c k off) (.s d)).dis (appendTok d t)).put (some d) (.own r (.s d)), C)
              | none => none
            | none => none
          else none
        | some (.own rows (.s u)), some d => if d < c.nt ∧ c.heap.contains d = false then match ev s x with
            | some xv => match aappend0 P s sT xT (.own rows (.s u)) xv with
              | some (r, t, C) => some ((s.dis (appendTok d t)).put (some d) (.own r (.s d)), C)
              | none => none
            | none => none
          else none
        | _, _ => none
      | _, _, _ => none
    | _ => none
  else none

theorem aappend_isC {P : Program} {s : St} {sT xT : TypeId} {rows : List (List PV)} {k : Key} {off : Nat} {x : AV} : aappend P s sT xT (.own rows (.c k off)) x = none := by
  cases h : aappend P s sT xT (.own rows (.c k off)) x with
  | none => rfl
  | some r =>
    exfalso
    unfold aappend at h
    split at h
    · rename_i e e2 rows' k' h1 h2 h3
      cases h3
      split at h
      · split at h
        · rename_i hc; simp [isC] at hc
        · cases h
      · cases h
    · cases h

theorem xapp_eff {P : Program} {c : Cfg} {o : Oper} {s s' : St} {C : Prop} (h : xapp P c o s = some (s', C)) (hC : C) : eff P c s o = .st s' := by
  unfold xapp at h
  split at h
  · split at h
    · rename_i cl hop
      obtain ⟨callee, args, ats⟩ := cl
      simp only at h
      split at h
      · rename_i _ b x sT xT ha ht
        split at h
        · rename_i rows k off d hb hd
          split at h
          · rename_i hc
            obtain ⟨x0, hx0⟩ := Option.isSome_iff_exists.1 hc.2.2
            split at h
            · rename_i xv hx
              split at h
              · rename_i r t C' ha0
                simp only [Option.some.injEq, Prod.mk.injEq] at h
                obtain ⟨rfl, rfl⟩ := h
                have haa := aappend0_some ha0 hC
                simp only [eff, hop, ha, ht, hb, hx0, hd, hc.1, if_true, hc.2.1, Bool.false_eq_true, if_false, aappend_isC, aappendT, hx, haa, Eff.ofSt]
              · cases h
            · cases h
          · cases h
        · rename_i rows u d hb hd
          split at h
          · rename_i hc
            split at h
            · rename_i xv hx
              split at h
              · rename_i r t C' ha0
                simp only [Option.some.injEq, Prod.mk.injEq] at h
                obtain ⟨rfl, rfl⟩ := h
                have haa := aappend0_some ha0 hC
                simp only [eff, hop, ha, ht, hb, hx, hd, hc.1, if_true, hc.2, Bool.false_eq_true, if_false, haa]
              · cases h
            · cases h
          · cases h
        · cases h
      · cases h
    · cases h
  · cases h

/-- A comparison of which the answer is told. -/
def xtold (P : Program) (c : Cfg) (o : Oper) (s : St) : Option (St × Prop) :=
  match o.dst with
  | some d => match c.told d with
    | some b => match o.op with
      | .binOp _ _ _ _ _ => match avalN P s o with
        | some (.p (.bool x)) => if d < c.nt then some (s.put (some d) (.p (.bool b)), x = b) else none
        | _ => none
      | _ => none
    | none => none
  | none => none

theorem xtold_eff {P : Program} {c : Cfg} {o : Oper} {s s' : St} {C : Prop} (h : xtold P c o s = some (s', C)) (hC : C) : eff P c s o = .st s' := by
  unfold xtold at h
  split at h
  · rename_i d hd
    split at h
    · rename_i b hb
      split at h
      · rename_i q1 q2 q3 q4 q5 hop
        split at h
        · rename_i x hv
          split at h
          · rename_i hn
            simp only [Option.some.injEq, Prod.mk.injEq] at h
            obtain ⟨rfl, rfl⟩ := h
            have hC : x = b := hC
            subst hC
            simp [eff, hop, hv, Eff.of, hd, dstOk, hn]
          · cases h
        · cases h
      · cases h
    · cases h
  · cases h

def xop (P : Program) (xf : XF) (c : Cfg) (o : Oper) (s : St) : XO :=
  match (match xapp P c o s with | some r => some r | none => xtold P c o s) with
  | some (s', C) => .st s' [C]
  | none => match eff P c s o with
  | .st s' => .st s' []
  | .call f args => if args.all AV.free then match xf f args s.G with
      | some (.ret v, G', ps) => .st (({ s with G := G' }.dis isC).put o.dst v) ps
      | some (.panic v, G', ps) => .pan v ({ s with G := G' }.dis isC) ps
      | none => .bad
    else .bad
  | .pan v => .pan v s []
  | .bad => .bad

def xops (P : Program) (xf : XF) (c : Cfg) (ops : Array Oper) : List Oper → St → Option (XR × List Prop)
  | [], s => some (.go .normal s, [])
  | o :: l, s => match o.guard with
    | none => match xop P xf c o s with
      | .st s' ps => addP ps (xops P xf c ops l s')
      | .pan v s ps => some (.panic v s.G (some s), ps)
      | .bad => none
    | some (j, want) => match guardVal ops s j want with
      | some b => if b = want then match xop P xf c o s with
          | .st s' ps => addP ps (xops P xf c ops l s')
          | .pan v s ps => some (.panic v s.G (some s), ps)
          | .bad => none
        else if dstOk c.nt o.dst then xops P xf c ops l (s.put o.dst (.tuple [])) else none
      | none => none

def rigidEq : AV → AV → Bool
  | .p (.bool a), .p (.bool b) => a == b
  | .p (.int k a), .p (.int k' b) => decide (k = k') && a == b
  | .p (.str a), .p (.str b) => a == b
  | _, _ => false

theorem rigidEq_eq {v u : AV} (h : rigidEq v u = true) : v = u := by
  unfold rigidEq at h
  split at h
  · simp only [beq_iff_eq] at h; rw [h]
  · simp only [Bool.and_eq_true, decide_eq_true_eq, beq_iff_eq] at h; rw [h.1, h.2]
  · rw [(bytesBeq _ _).1 h]
  · simp at h

mutual
def PV.eqb : PV → PV → Bool
  | .bool a, .bool b => a == b
  | .int k a, .int k' b => decide (k = k') && a == b
  | .str a, .str b => a == b
  | .vec a, .vec b => rowsEqb a b
  | .nilp, .nilp => true
  | .nilm, .nilm => true
  | .nilf, .nilf => true
  | .nili, .nili => true
  | _, _ => false
def rowsEqb : List (List PV) → List (List PV) → Bool
  | [], [] => true
  | x :: r, y :: t => rowEqb x y && rowsEqb r t
  | _, _ => false
def rowEqb : List PV → List PV → Bool
  | [], [] => true
  | x :: r, y :: t => PV.eqb x y && rowEqb r t
  | _, _ => false
end

mutual
theorem PV.eqb_eq : ∀ a b : PV, PV.eqb a b = true → a = b
  | .bool a, b, h => by cases b <;> simp_all [PV.eqb]
  | .int k a, b, h => by cases b <;> simp_all [PV.eqb]
  | .str a, b, h => by
    cases b with
    | str b => simp only [PV.eqb] at h; rw [(bytesBeq _ _).1 h]
    | _ => simp [PV.eqb] at h
  | .vec a, b, h => by
    cases b with
    | vec b => simp only [PV.eqb] at h; rw [rowsEqb_eq a b h]
    | _ => simp [PV.eqb] at h
  | .nilp, b, h => by cases b <;> simp_all [PV.eqb]
  | .nilm, b, h => by cases b <;> simp_all [PV.eqb]
  | .nilf, b, h => by cases b <;> simp_all [PV.eqb]
  | .nili, b, h => by cases b <;> simp_all [PV.eqb]
theorem rowsEqb_eq : ∀ a b : List (List PV), rowsEqb a b = true → a = b
  | [], b, h => by cases b <;> simp_all [rowsEqb]
  | x :: r, [], h => by simp [rowsEqb] at h
  | x :: r, y :: t, h => by simp only [rowsEqb, Bool.and_eq_true] at h; rw [rowEqb_eq x y h.1, rowsEqb_eq r t h.2]
theorem rowEqb_eq : ∀ a b : List PV, rowEqb a b = true → a = b
  | [], b, h => by cases b <;> simp_all [rowEqb]
  | x :: r, [], h => by simp [rowEqb] at h
  | x :: r, y :: t, h => by simp only [rowEqb, Bool.and_eq_true] at h; rw [PV.eqb_eq x y h.1, rowEqb_eq r t h.2]
end

mutual
def AV.eqb : AV → AV → Bool
  | .p a, .p b => PV.eqb a b
  | .own a k, .own b k' => rowsEqb a b && decide (k = k')
  | .full a, .full b => rowsEqb a b
  | .ptr k o, .ptr k' o' => decide (k = k') && o == o'
  | .ref k a b c, .ref k' a' b' c' => decide (k = k') && a == a' && b == b' && c == c'
  | .rop a, .rop b => rowEqb a b
  | .map i, .map j => i == j
  | .fn f a b, .fn f' a' b' => f == f' && avsEqb a a' && avsEqb b b'
  | .iface t v, .iface t' v' => t == t' && AV.eqb v v'
  | .agg a, .agg b => avsEqb a b
  | .tuple a, .tuple b => avsEqb a b
  | .undef, .undef => true
  | _, _ => false
def avsEqb : List AV → List AV → Bool
  | [], [] => true
  | x :: r, y :: t => AV.eqb x y && avsEqb r t
  | _, _ => false
end

mutual
theorem AV.eqb_eq : ∀ a b : AV, AV.eqb a b = true → a = b
  | .p a, b, h => by
    cases b with
    | p b => simp only [AV.eqb] at h; rw [PV.eqb_eq _ _ h]
    | _ => simp [AV.eqb] at h
  | .own a k, b, h => by
    cases b with
    | own b k' => simp only [AV.eqb, Bool.and_eq_true, decide_eq_true_eq] at h; rw [rowsEqb_eq _ _ h.1, h.2]
    | _ => simp [AV.eqb] at h
  | .full a, b, h => by
    cases b with
    | full b => simp only [AV.eqb] at h; rw [rowsEqb_eq _ _ h]
    | _ => simp [AV.eqb] at h
  | .ptr k o, b, h => by cases b <;> simp_all [AV.eqb]
  | .ref k o l c, b, h => by cases b <;> simp_all [AV.eqb]
  | .rop a, b, h => by
    cases b with
    | rop b => simp only [AV.eqb] at h; rw [rowEqb_eq _ _ h]
    | _ => simp [AV.eqb] at h
  | .map i, b, h => by cases b <;> simp_all [AV.eqb]
  | .fn f a c, b, h => by
    cases b with
    | fn f' a' c' => simp only [AV.eqb, Bool.and_eq_true, beq_iff_eq] at h; rw [h.1.1, avsEqb_eq _ _ h.1.2, avsEqb_eq _ _ h.2]
    | _ => simp [AV.eqb] at h
  | .iface t v, b, h => by
    cases b with
    | iface t' v' => simp only [AV.eqb, Bool.and_eq_true, beq_iff_eq] at h; rw [h.1, AV.eqb_eq _ _ h.2]
    | _ => simp [AV.eqb] at h
  | .agg a, b, h => by
    cases b with
    | agg b => simp only [AV.eqb] at h; rw [avsEqb_eq _ _ h]
    | _ => simp [AV.eqb] at h
  | .tuple a, b, h => by
    cases b with
    | tuple b => simp only [AV.eqb] at h; rw [avsEqb_eq _ _ h]
    | _ => simp [AV.eqb] at h
  | .undef, b, h => by cases b <;> simp_all [AV.eqb]
theorem avsEqb_eq : ∀ a b : List AV, avsEqb a b = true → a = b
  | [], b, h => by cases b <;> simp_all [avsEqb]
  | x :: r, [], h => by simp [avsEqb] at h
  | x :: r, y :: t, h => by simp only [avsEqb, Bool.and_eq_true] at h; rw [AV.eqb_eq x y h.1, avsEqb_eq r t h.2]
end

def esEqb : List (PV × AV × Nat) → List (PV × AV × Nat) → Bool
  | [], [] => true
  | x :: r, y :: t => PV.eqb x.1 y.1 && AV.eqb x.2.1 y.2.1 && x.2.2 == y.2.2 && esEqb r t
  | _, _ => false

theorem esEqb_eq : ∀ a b, esEqb a b = true → a = b
  | [], b, h => by cases b <;> simp_all [esEqb]
  | x :: r, [], h => by simp [esEqb] at h
  | (x1, x2, x3) :: r, (y1, y2, y3) :: t, h => by
    simp only [esEqb, Bool.and_eq_true, beq_iff_eq] at h
    rw [PV.eqb_eq _ _ h.1.1.1, AV.eqb_eq _ _ h.1.1.2, h.1.2, esEqb_eq r t h.2]

def gEqb : List Blk → List Blk → Bool
  | [], [] => true
  | .cells x :: r, .cells y :: t => avsEqb x y && gEqb r t
  | .map x n :: r, .map y m :: t => esEqb x y && n == m && gEqb r t
  | .dead :: r, .dead :: t => gEqb r t
  | _, _ => false

theorem gEqb_eq : ∀ a b, gEqb a b = true → a = b
  | [], b, h => by cases b <;> simp_all [gEqb]
  | .cells x :: r, [], h => by simp [gEqb] at h
  | .map x n :: r, [], h => by simp [gEqb] at h
  | .dead :: r, [], h => by simp [gEqb] at h
  | .cells x :: r, y :: t, h => by
    cases y with
    | cells y => simp only [gEqb, Bool.and_eq_true] at h; rw [avsEqb_eq _ _ h.1, gEqb_eq r t h.2]
    | _ => simp [gEqb] at h
  | .map x n :: r, y :: t, h => by
    cases y with
    | map y m => simp only [gEqb, Bool.and_eq_true, beq_iff_eq] at h; rw [esEqb_eq _ _ h.1.1, h.1.2, gEqb_eq r t h.2]
    | _ => simp [gEqb] at h
  | .dead :: r, y :: t, h => by
    cases y with
    | dead => simp only [gEqb] at h; rw [gEqb_eq r t h]
    | _ => simp [gEqb] at h

def lEqb : LS → LS → Bool
  | [], [] => true
  | x :: r, y :: t => x.1 == y.1 && avsEqb x.2 y.2 && lEqb r t
  | _, _ => false

theorem lEqb_eq : ∀ a b, lEqb a b = true → a = b
  | [], b, h => by cases b <;> simp_all [lEqb]
  | x :: r, [], h => by simp [lEqb] at h
  | (x1, x2) :: r, (y1, y2) :: t, h => by
    simp only [lEqb, Bool.and_eq_true, beq_iff_eq] at h
    rw [h.1.1, avsEqb_eq _ _ h.1.2, lEqb_eq r t h.2]

/-- Does s say no more than s'? -/
def covers (s s' : St) : Bool :=
  s.ts.all (fun x => match get s.ts x.1, get s'.ts x.1 with | some a, some b => AV.eqb a b | _, _ => false) && lEqb s.L s'.L && gEqb s.G s'.G

theorem covers_weak {s s' : St} (h : covers s s' = true) : Weak s' s := by
  simp only [covers, Bool.and_eq_true] at h
  obtain ⟨⟨h1, h2⟩, h3⟩ := h
  have e2 := lEqb_eq _ _ h2
  have e3 := gEqb_eq _ _ h3
  intro σ nt a w hr
  have hl : ∀ k, s.look k = s'.look k := fun k => by cases k <;> simp [St.look, e2, e3]
  refine ⟨σ, ⟨hr.sz, hr.df, fun t x h => ?_, fun k blk h => hr.blks k blk (by rw [← hl]; exact h), fun k blk h => hr.cinv k blk (by rw [← hl]; exact h), fun id h => hr.gfree id (by rw [← e3]; exact h), fun t h => hr.lfree t (by rw [← e2]; exact h), hr.wf⟩, .refl _ _⟩
  have := List.all_eq_true.1 h1 _ (mem_of_get h)
  simp only [h] at this
  cases h' : get s'.ts t with
  | none => simp [h'] at this
  | some y =>
    simp only [h'] at this
    rw [AV.eqb_eq _ _ this]
    exact hr.vals _ _ h'

/-- A state of which only such slots are told. -/
def St.only (keep : Nat → Bool) (s : St) : St := { s with ts := s.ts.filter fun x => keep x.1 }

theorem get_filter {α : Type} (f : Nat → Bool) : ∀ (l : List (Nat × α)) (t : Nat) (x : α), get (l.filter fun y => f y.1) t = some x → get l t = some x
  | [], t, x, h => h
  | (u, y) :: r, t, x, h => by
    by_cases hu : u = t
    · subst hu
      simp only [List.filter_cons] at h
      split at h
      · simpa [get] using h
      · rename_i hf
        have : ∀ (l : List (Nat × α)), get (l.filter fun y => f y.1) u = none := by
          intro l
          induction l with
          | nil => rfl
          | cons z l ih =>
            simp only [List.filter_cons]
            split
            · rename_i hz
              simp only [get]
              split
              · rename_i e; rw [e] at hz; exact absurd hz hf
              · exact ih
            · exact ih
        rw [this] at h; cases h
    · simp only [List.filter_cons] at h
      split at h
      · simp only [get, if_neg hu] at h ⊢; exact get_filter f r t x h
      · simp only [get, if_neg hu]; exact get_filter f r t x h

theorem only_weak (keep : Nat → Bool) (s : St) : Weak s (s.only keep) := fun σ nt a w hr =>
  ⟨σ, ⟨hr.sz, hr.df, fun t x h => hr.vals t x (get_filter keep s.ts t x h), hr.blks, hr.cinv, hr.gfree, hr.lfree, hr.wf⟩, .refl _ _⟩

/-- Does s say no more than s', but for the heap, the variables and the slots that 'soft' names? -/
def coversT (soft : Nat → Bool) (s s' : St) : Bool :=
  s.ts.all (fun x => soft x.1 || match get s.ts x.1, get s'.ts x.1 with | some a, some b => AV.eqb a b | _, _ => false)

/-- What is asked of the others. -/
def softP (soft : Nat → Bool) (s s' : St) : List Prop := (s.ts.filter fun x => soft x.1).map fun x => get s.ts x.1 = get s'.ts x.1

theorem coversT_weak {soft : Nat → Bool} {s s' : St} (h1 : coversT soft s s' = true) (hs : ∀ p ∈ softP soft s s', p) (h3 : s.G = s'.G) (e2 : s.L = s'.L) : Weak s' s := by
  simp only [coversT] at h1
  intro σ nt a w hr
  have hl : ∀ k, s.look k = s'.look k := fun k => by cases k <;> simp [St.look, e2, h3]
  refine ⟨σ, ⟨hr.sz, hr.df, fun t x h => ?_, fun k blk h => hr.blks k blk (by rw [← hl]; exact h), fun k blk h => hr.cinv k blk (by rw [← hl]; exact h), fun id h => hr.gfree id (by rw [← h3]; exact h), fun t h => hr.lfree t (by rw [← e2]; exact h), hr.wf⟩, .refl _ _⟩
  have hm := mem_of_get h
  have := List.all_eq_true.1 h1 _ hm
  simp only [Bool.or_eq_true] at this
  rcases this with hsoft | this
  · have : get s.ts t = get s'.ts t := hs _ (List.mem_map.2 ⟨(t, x), List.mem_filter.2 ⟨hm, hsoft⟩, rfl⟩)
    exact hr.vals t x (by rw [← this]; exact h)
  · simp only [h] at this
    cases h' : get s'.ts t with
    | none => simp [h'] at this
    | some y =>
      simp only [h'] at this
      rw [AV.eqb_eq _ _ this]
      exact hr.vals _ _ h'

def keepB (c : Cfg) (t : Nat) : Bool := (c.keep t).isSome
def softB (c : Cfg) (t : Nat) : Bool := match c.keep t with | some false => true | _ => false

/-- What is known whichever of two ways was gone. -/
def merge (c : Cfg) (ops : Array Oper) (s1 s2 : St) : Option (St × List Prop) :=
  if c.sym then if coversT (softB c) (s1.only (keepB c)) (s2.only (keepB c)) then some (s1.only (keepB c), (s1.G = s2.G ∧ s1.L = s2.L) :: softP (softB c) (s1.only (keepB c)) (s2.only (keepB c))) else none
  else if covers s1 s2 then some (s1, []) else none

theorem merge_weak {c : Cfg} {ops : Array Oper} {s1 s2 t : St} {ps : List Prop} (h : merge c ops s1 s2 = some (t, ps)) (hp : ∀ p ∈ ps, p) : Weak s1 t ∧ Weak s2 t := by
  unfold merge at h
  split at h
  · split at h
    · rename_i hc
      simp only [Option.some.injEq, Prod.mk.injEq] at h
      obtain ⟨rfl, rfl⟩ := h
      obtain ⟨hG, hL⟩ := hp _ (List.mem_cons_self ..)
      exact ⟨only_weak _ s1, (only_weak _ s2).trans (coversT_weak hc (fun p h => hp p (List.mem_cons_of_mem _ h)) hG hL)⟩
    · cases h
  · split at h
    · rename_i hc
      simp only [Option.some.injEq, Prod.mk.injEq] at h
      obtain ⟨rfl, rfl⟩ := h
      exact ⟨Weak.refl _, covers_weak hc⟩
    · cases h

def stillB (P : Program) (pd : Pend) (s : St) : Bool :=
  pd.all fun p => match avalB P s p.1 with | some v => rigidEq v p.2 | none => false

theorem stillB_still {P : Program} {pd : Pend} {s : St} (h : stillB P pd s = true) : still P pd s := fun p hp => by
  have := List.all_eq_true.1 h p hp
  split at this
  · rename_i v hv; rw [hv, rigidEq_eq this]
  · simp at this

/-- One of the first n, of a region whose order is open. -/
def xopN (P : Program) (xf : XF) (c : Cfg) (pd : Pend) (o : Oper) (s : St) : XO :=
  match avalB P s o with
  | some v => if dstOk c.nt o.dst then .st (s.put o.dst v) [] else .bad
  | none => match eff P c s o with
    | .call f args => if args.all AV.free then match xf f args s.G with
        | some (.ret v, G', ps) => if stillB P pd (({ s with G := G' }.dis isC).put o.dst v) then .st (({ s with G := G' }.dis isC).put o.dst v) ps else .bad
        | some (.panic v, G', ps) => .pan v ({ s with G := G' }.dis isC) ps
        | none => .bad
      else .bad
    | .st s' => match o.op with
      | .buildSlice _ _ _ => if stillB P pd s' then .st s' [] else .bad
      | _ => .bad
    | _ => .bad

/-- One of the others. -/
def xS (P : Program) (xf : XF) (c : Cfg) (ops : Array Oper) (n : Nat) (pd : Pend) (i : Nat) (ge : Bool) (next : St → Option (XR × List Prop)) (s : St) : Option (XR × List Prop) :=
  match ops[i]? with
  | none => none
  | some o => if !(decide (i < n)) || safeP ops pd o.dst then
      match wantedB ops s o with
      | some true => match (if i < n then xopN P xf c pd o s else if ge then xop P xf c o s else .bad) with
        | .st s' ps => addP ps (next s')
        | .pan v s ps => some (.panic v s.G none, ps)
        | .bad => none
      | some false => if dstOk c.nt o.dst && (decide (i < n) || ge) then next (s.put o.dst (.tuple [])) else none
      | none => none
    else none

def xd2 (P : Program) (xf : XF) (c : Cfg) (ops : Array Oper) (n : Nat) (pd : Pend) : Plan → Array Bool → St → Option (XR × List Prop)
  | .done, listed, s => if readyF ops listed = [] then some (.go .normal s, []) else none
  | .one i p, listed, s => if readyF ops listed = [i] then xS P xf c ops n pd i (p.ge n) (xd2 P xf c ops n pd p (listed.setIfInBounds i true)) s else none
  | .two i p j q, listed, s => if readyF ops listed = [i, j] ∧ q.size = p.size then
      match xS P xf c ops n pd i (p.ge n) (xd2 P xf c ops n pd p (listed.setIfInBounds i true)) s, xS P xf c ops n pd j (q.ge n) (xd2 P xf c ops n pd q (listed.setIfInBounds j true)) s with
      | some (.go .normal s1, p1), some (.go .normal s2, p2) => match merge c ops s1 s2 with
        | some (t, qs) => some (.go .normal t, p1 ++ (p2 ++ qs))
        | none => none
      | _, _ => none
    else none
  | .fr i p, listed, s => match ops[i]? with
    | none => none
    | some o => if takeOk ops n listed i && !(isLoad o.op) && dstOk c.nt o.dst && safeP ops pd o.dst then match wantedB ops s o with
      | some true => match avalS P s o with
        | some v => xd2 P xf c ops n pd p (listed.setIfInBounds i true) (s.put o.dst v)
        | none => none
      | some false => xd2 P xf c ops n pd p (listed.setIfInBounds i true) (s.put o.dst (.tuple []))
      | none => none
      else none

/-- What is worth the same in whatever world. -/
def quiet : Op → Bool
  | .move _ | .extract _ _ | .fieldAddr _ _ _ => true
  | _ => false

/-- In which order what is left comes. -/
def planOf (ops : Array Oper) (n : Nat) : Nat → Array Bool → Plan
  | 0, _ => .done
  | fuel + 1, listed => match (readyF ops listed).find? (fun i => match ops[i]? with | some o => quiet o.op && takeOk ops n listed i | none => false) with
    | some i => .fr i (planOf ops n fuel (listed.setIfInBounds i true))
    | none => match readyF ops listed with
      | [i] => .one i (planOf ops n fuel (listed.setIfInBounds i true))
      | [i, j] => .two i (planOf ops n fuel (listed.setIfInBounds i true)) j (planOf ops n fuel (listed.setIfInBounds j true))
      | _ => .done

/-- What may be taken first, found by looking: what stays of itself, else what can be asked again. -/
def takesOf (P : Program) (c : Cfg) (ops : Array Oper) (n : Nat) : Nat → Array Bool → Pend → St → List Nat
  | 0, _, _, _ => []
  | fuel + 1, listed, pd, s => match (readyF ops listed).find? (fun i => match ops[i]? with
      | some o => takeOk ops n listed i && safeP ops pd o.dst && (match wantedB ops s o with
        | some true => (avalS P s o).isSome || (match avalB P s o with | some v => v.rigid && safeP ops [(o, v)] o.dst | none => false)
        | some false => true
        | none => false)
      | none => false) with
    | some i => match ops[i]? with
      | some o => match wantedB ops s o with
        | some true => match avalS P s o with
          | some v => i :: takesOf P c ops n fuel (listed.setIfInBounds i true) pd (s.put o.dst v)
          | none => match avalB P s o with
            | some v => i :: takesOf P c ops n fuel (listed.setIfInBounds i true) ((o, v) :: pd) (s.put o.dst v)
            | none => []
        | some false => i :: takesOf P c ops n fuel (listed.setIfInBounds i true) pd (s.put o.dst (.tuple []))
        | none => []
      | none => []
    | none => []

/-- What comes to the same in whatever world, found by looking. -/
def freesOf (P : Program) (c : Cfg) (ops : Array Oper) : Nat → Array Bool → St → List Nat
  | 0, _, _ => []
  | fuel + 1, listed, s => match (readyF ops listed).find? (fun i => match ops[i]? with
      | some o => freeF ops listed i && (match wantedB ops s o with
        | some true => !(isLoad o.op) && (avalS P s o).isSome
        | some false => true
        | none => false)
      | none => false) with
    | some i => match ops[i]? with
      | some o => match wantedB ops s o with
        | some true => match avalS P s o with
          | some v => i :: freesOf P c ops fuel (listed.setIfInBounds i true) (s.put o.dst v)
          | none => []
        | some false => i :: freesOf P c ops fuel (listed.setIfInBounds i true) (s.put o.dst (.tuple []))
        | none => []
      | none => []
    | none => []

def Op.writes : Op → Bool
  | .store .. | .mapUpdate .. | .insert .. | .alloc _ | .box .. | .makeMap .. | .makeSlice .. => true
  | .call cl => match cl.callee with | .builtin .append | .builtin .copy | .builtin .clear => true | _ => false
  | _ => false

def firstWrite (l : List Oper) : Nat := (l.findIdx? fun o => Op.writes o.op).getD l.length

/-- How many operations change nothing but their slots. -/
def runV1 (P : Program) (c : Cfg) (ops : Array Oper) : List Oper → St → Nat × St
  | [], s => (0, s)
  | o :: rest, s => match (match o.guard with
    | none => match avalB P s o with
      | some v => if dstOk c.nt o.dst then some (s.put o.dst v) else none
      | none => none
    | some (j, want) => match guardVal ops s j want with
      | some b => if b = want then match avalB P s o with
          | some v => if dstOk c.nt o.dst then some (s.put o.dst v) else none
          | none => none
        else if dstOk c.nt o.dst then some (s.put o.dst (.tuple [])) else none
      | none => none) with
    | some s' => match runV1 P c ops rest s' with | (n, s) => (n + 1, s)
    | none => (0, s)

/-- Does each of the last wait for the one ahead of it? -/
def chainF (n : Nat) : Nat → List Oper → Bool
  | _, [] => true
  | j, o :: r => (decide (j ≤ n) || (eOf o).testBit (j - 1)) && chainF n (j + 1) r

/-- A region of open order; the first n operations only read, or call. -/
def xopen (P : Program) (xf : XF) (c : Cfg) (l : List Oper) (n : Nat) (s : St) : Option (XR × List Prop) :=
  match d2F P c l.toArray (freesOf P c l.toArray l.length (Array.replicate l.length false) s) (Array.replicate l.length false) s with
  | some (listed0, s0) =>
    match d2A P c l.toArray n (takesOf P c l.toArray n l.length listed0 [] s0) listed0 [] s0 with
    | some (listed, pd, s') =>
      if Region.noSelect l.toArray && (planOf l.toArray n l.length listed).size + (takesOf P c l.toArray n l.length listed0 [] s0).length + (freesOf P c l.toArray l.length (Array.replicate l.length false) s).length == l.length then
        xd2 P xf c l.toArray n pd (planOf l.toArray n l.length listed) listed s' else none
    | none => none
  | none => none

def xregion (P : Program) (xf : XF) (c : Cfg) (l : List Oper) (draw : Bool) (s : St) : Option (XR × List Prop) :=
  if draw then
    let n0 := (runV1 P c l.toArray l s).1
    match (if n0 == l.length && lexF l.toArray then runV P c l.toArray l s else none) with
    | some s' => some (.go .normal s', [])
    | none =>
      match (if n0 < l.length && chainF n0 0 l && Region.lexTailB .any l.toArray n0 then runV P c l.toArray (l.take n0) s else none) with
      | some s' => xops P xf c l.toArray (l.drop n0) s'
      | none =>
        match xopen P xf c l (firstWrite l) s with
        | some r => some r
        | none => xopen P xf c l 0 s
  else xops P xf c l.toArray l s

/-- Which way a branch goes of which the condition is not known: a slot of the frame. -/
abbrev Orc := Nat → Option Bool

def slotOf : Operand → Option Nat
  | .tmp t => some t
  | _ => none

def xcode (P : Program) (xf : XF) (c : Cfg) (orc : Orc) : Nat → Code → St → Option (XR × List Prop)
  | 0, _, _ => none
  | _ + 1, .skip, s => some (.go .normal s, [])
  | _ + 1, .label _, s => some (.go .normal s, [])
  | _ + 1, .ret, s => some (.go .ret s, [])
  | _ + 1, .exit id, s => some (.go (.exit id) s, [])
  | _ + 1, .region _ ops draw, s => xregion P xf c ops.toList draw s
  | f + 1, .cond x t e, s => match ev s x with
    | some (.p (.bool b)) => match (slotOf x).bind orc with
      | some true => addP [b = true] (xcode P xf c orc f t s)
      | some false => addP [b = false] (xcode P xf c orc f e s)
      | none => match b with
        | true => xcode P xf c orc f t s
        | false => xcode P xf c orc f e s
    | _ => none
  | f + 1, .block id b, s => match xcode P xf c orc f b s with
    | some (.go (.exit id') s', ps) => if id' = id then some (.go .normal s', ps) else some (.go (.exit id') s', ps)
    | r => r
  | f + 1, .scope b, s => match xcode P xf c orc f b s with
    | some (.go (.goto _) _, _) => none
    | r => r
  | f + 1, .seq x y, s => match xcode P xf c orc f x s with
    | some (.go .normal s', ps) => addP ps (xcode P xf c orc f y s')
    | r => r
  | f + 1, .loop b, s => match xcode P xf c orc f b s with
    | some (.go .normal s', ps) => addP ps (xcode P xf c orc f (.loop b) s')
    | r => r
  | _ + 1, _, _ => none

/-- A call by its text, reckoned; 'heap' says which variables a function shares. -/
def xbody (P : Program) (xf : XF) (heap : FuncId → List Nat) (orcs : FuncId → Orc) (lf : Nat) (f : FuncId) (args : List AV) (G : List Blk) : Option (AEnd × List Blk × List Prop) :=
  match P.funcs[f]? with
  | none => none
  | some fn => match fn.body with
    | none => none
    | some code => if (fn.name == "runtime.NumGoroutine") = false ∧ args.length ≤ fn.ntmps then
        match xcode P xf ⟨fn.ntmps, heap f, (orcs f 1000000).isSome, fun t => orcs f (2000000 + t), fun t => orcs f (3000000 + t)⟩ (orcs f) lf code (.args args G) with
        | some (.go .normal s, ps) | some (.go .ret s, ps) => match ares P fn s with
          | some v => if cutOk G.length s.G v then some (.ret v, s.G.take G.length, ps) else if cutOk s.G.length s.G v && decide (G.length ≤ s.G.length) then some (.ret v, s.G, ps) else none
          | none => none
        | some (.panic v G' _, ps) => if cutOk G.length G' v then some (.panic v, G'.take G.length, ps) else if cutOk G'.length G' v && decide (G.length ≤ G'.length) then some (.panic v, G', ps) else none
        | _ => none
      else none

section
variable {P : Program} {xf : XF} {c : Cfg} {ops : Array Oper}

theorem xop_sound (hx : xf.ok P) {o : Oper} {s : St} {K : St → Prop} {Q : AExit → St → Prop} (h : match xop P xf c o s with
    | .st s' ps => (∀ p ∈ ps, p) ∧ K s'
    | .pan v s' ps => (∀ p ∈ ps, p) ∧ Q (.panic v) s'
    | .bad => False) : vop P c o K Q s := by
  unfold xop at h
  unfold vop
  cases hxa : (match xapp P c o s with | some r => some r | none => xtold P c o s) with
  | some sc =>
    obtain ⟨s', C⟩ := sc
    simp only [hxa] at h
    have he : eff P c s o = .st s' := by
      have hC := h.1 _ (List.mem_singleton.2 rfl)
      split at hxa
      · rename_i r hr
        simp only [Option.some.injEq] at hxa
        rw [hxa] at hr
        exact xapp_eff hr hC
      · exact xtold_eff hxa hC
    rw [if_neg (fun ha => by rw [anyB_bad ha] at he; cases he), he]
    exact h.2
  | none =>
  simp only [hxa] at h
  split
  · rename_i hany; rw [anyB_bad hany] at h; exact h.elim
  cases he : eff P c s o with
  | st s' => simp only [he] at h; exact h.2
  | call f args =>
    simp only [he] at h
    by_cases hf : args.all AV.free = true
    · rw [if_pos hf] at h
      refine ⟨hf, ?_⟩
      cases hr : xf f args s.G with
      | none => simp only [hr] at h
      | some r =>
        obtain ⟨r, G', ps⟩ := r
        have hps : ∀ p ∈ ps, p := by cases r <;> (simp only [hr] at h; exact h.1)
        refine (hx _ _ _ _ _ _ hr hps).mono ?_
        rintro r' G'' ⟨rfl, rfl⟩
        cases r' with
        | ret v => simp only [hr] at h; exact h.2
        | panic v => simp only [hr] at h; exact h.2
    · rw [if_neg hf] at h; exact h.elim
  | pan v => simp only [he] at h; exact h.2
  | bad => simp only [he] at h

theorem xopN_sound (hx : xf.ok P) {o : Oper} {s : St} {pd : Pend} {K : St → Prop} {Q : AExit → St → Prop} (h : match xopN P xf c pd o s with
    | .st s' ps => (∀ p ∈ ps, p) ∧ K s'
    | .pan v s' ps => (∀ p ∈ ps, p) ∧ Q (.panic v) s'
    | .bad => False) : vopN P c pd o K Q s := by
  unfold xopN at h
  unfold vopN
  cases hv : avalB P s o with
  | some v =>
    simp only [hv] at h
    by_cases hd : dstOk c.nt o.dst = true
    · rw [if_pos hd] at h; exact ⟨hd, h.2⟩
    · rw [if_neg hd] at h; exact h.elim
  | none =>
    simp only [hv] at h
    cases he : eff P c s o with
    | call f args =>
      simp only [he] at h
      by_cases hf : args.all AV.free = true
      · rw [if_pos hf] at h
        refine ⟨hf, ?_⟩
        cases hr : xf f args s.G with
        | none => simp only [hr] at h
        | some r =>
          obtain ⟨r, G', ps⟩ := r
          have hps : ∀ p ∈ ps, p := by
            cases r with
            | ret v =>
              simp only [hr] at h
              by_cases hst : stillB P pd (({ s with G := G' }.dis isC).put o.dst v) = true
              · rw [if_pos hst] at h; exact h.1
              · rw [if_neg hst] at h; exact h.elim
            | panic v => simp only [hr] at h; exact h.1
          refine (hx _ _ _ _ _ _ hr hps).mono ?_
          rintro r' G'' ⟨rfl, rfl⟩
          cases r' with
          | ret v =>
            simp only [hr] at h
            by_cases hst : stillB P pd (({ s with G := G'' }.dis isC).put o.dst v) = true
            · rw [if_pos hst] at h; exact ⟨stillB_still hst, h.2⟩
            · rw [if_neg hst] at h; exact h.elim
          | panic v => simp only [hr] at h; exact h.2
      · rw [if_neg hf] at h; exact h.elim
    | st s' =>
      simp only [he] at h
      cases hop : o.op with
      | buildSlice t len parts =>
        simp only [hop] at h
        by_cases hst : stillB P pd s' = true
        · rw [if_pos hst] at h; exact ⟨stillB_still hst, h.2⟩
        · rw [if_neg hst] at h; exact h.elim
      | _ => simp only [hop] at h
    | pan v => simp only [he] at h
    | bad => simp only [he] at h

theorem XR.panK {v : AV} (s : St) : (XR.panic v s.G (some s)).Q (.panic v) s := ⟨rfl, rfl, fun _ e => by cases e; rfl⟩
theorem XR.panN {v : AV} (s : St) : (XR.panic v s.G none).Q (.panic v) s := ⟨rfl, rfl, fun _ e => by cases e⟩

theorem xops_sound (hx : xf.ok P) {x : XR} : ∀ (l : List Oper) (s : St) (ps : List Prop), xops P xf c ops l s = some (x, ps) → (∀ p ∈ ps, p) → vopsL P c ops x.Q l s
  | [], s, ps, h, hp => by simp only [xops, Option.some.injEq, Prod.mk.injEq] at h; obtain ⟨rfl, rfl⟩ := h; exact ⟨rfl, rfl, fun v h => by cases h⟩
  | o :: l, s, ps, h, hp => by
    simp only [xops] at h
    simp only [vopsL]
    have go : (match xop P xf c o s with | .st s' ps => addP ps (xops P xf c ops l s') | .pan v s ps => some (.panic v s.G (some s), ps) | .bad => none) = some (x, ps) → vop P c o (vopsL P c ops x.Q l) x.Q s := fun h => by
      refine xop_sound hx ?_
      cases hxo : xop P xf c o s with
      | st s' qs =>
        simp only [hxo] at h
        obtain ⟨rs, h1, h2, h3⟩ := addP_some h hp
        exact ⟨h2, xops_sound hx l s' rs h1 h3⟩
      | pan v s qs => simp only [hxo, Option.some.injEq, Prod.mk.injEq] at h; obtain ⟨rfl, rfl⟩ := h; exact ⟨hp, XR.panK s⟩
      | bad => simp only [hxo] at h; cases h
    cases hg : o.guard with
    | none => simp only [hg] at h ⊢; exact go h
    | some jw =>
      obtain ⟨j, want⟩ := jw
      simp only [hg] at h ⊢
      cases hgv : guardVal ops s j want with
      | none => simp only [hgv] at h; cases h
      | some b =>
        simp only [hgv] at h ⊢
        refine ⟨fun e => ?_, fun e => ?_⟩
        · rw [if_pos e] at h; exact go h
        · rw [if_neg (by rw [e]; cases want <;> simp)] at h
          split at h
          · rename_i hd; exact ⟨hd, xops_sound hx l _ _ h hp⟩
          · cases h

theorem vop_mono2 {o : Oper} {s : St} {K K' : St → Prop} {Q Q' : AExit → St → Prop} (h : vop P c o K Q s) (hK : ∀ s, K s → K' s) (hQ : ∀ v s, Q (.panic v) s → Q' (.panic v) s) : vop P c o K' Q' s := by
  unfold vop at *
  split at h
  · rename_i hany; rw [if_pos hany]; exact ⟨h.1, fun b => hK _ (h.2 b)⟩
  rename_i hany
  rw [if_neg hany]
  split at h
  · exact hK _ h
  · refine ⟨h.1, h.2.mono fun r G' hr => ?_⟩
    cases r with
    | ret v => exact hK _ hr
    | panic v => exact hQ _ _ hr
  · exact hQ _ _ h
  · exact h

theorem vopN_mono2 {pd : Pend} {o : Oper} {s : St} {K K' : St → Prop} {Q Q' : AExit → St → Prop} (h : vopN P c pd o K Q s) (hK : ∀ s, K s → K' s) (hQ : ∀ v s, Q (.panic v) s → Q' (.panic v) s) : vopN P c pd o K' Q' s := by
  unfold vopN at *
  split at h
  · exact ⟨h.1, hK _ h.2⟩
  · split at h
    · refine ⟨h.1, h.2.mono fun r G' hr => ?_⟩
      cases r with
      | ret v => exact ⟨hr.1, hK _ hr.2⟩
      | panic v => exact hQ _ _ hr
    · split at h
      · exact ⟨h.1, hK _ h.2⟩
      · exact h
    · exact h

theorem d2S_mono {n : Nat} {pd : Pend} {i : Nat} {ge : Bool} {s : St} {K K' : St → Prop} {Q Q' : AExit → St → Prop} (h : d2S P c ops n pd Q i ge K s) (hK : ∀ s, K s → K' s) (hQ : ∀ v s, Q (.panic v) s → Q' (.panic v) s) : d2S P c ops n pd Q' i ge K' s := by
  unfold d2S at *
  split at h
  · exact h
  · rename_i o ho
    refine ⟨h.1, ?_⟩
    have h := h.2
    have go : (if i < n then vopN P c pd o K Q s else ge = true ∧ vop P c o K Q s) → (if i < n then vopN P c pd o K' Q' s else ge = true ∧ vop P c o K' Q' s) := fun h => by
      split at h
      · rename_i hin; rw [if_pos hin]; exact vopN_mono2 h hK hQ
      · rename_i hin; rw [if_neg hin]; exact ⟨h.1, vop_mono2 h.2 hK hQ⟩
    split at h
    · exact go h
    · split at h
      · rename_i b hb; exact ⟨fun e => go (h.1 e), fun e => ⟨(h.2 e).1, (h.2 e).2.1, hK _ (h.2 e).2.2⟩⟩
      · exact h

theorem d2B_mono {n : Nat} {pd : Pend} {Q Q' : AExit → St → Prop} (hN : ∀ s, Q .normal s → ∃ s', Weak s s' ∧ Q' .normal s') (hQ : ∀ v s, Q (.panic v) s → Q' (.panic v) s) : ∀ (p : Plan) (listed : Array Bool) (s : St), d2B P c ops n pd Q p listed s → d2B P c ops n pd Q' p listed s
  | .done, listed, s, h => by
    obtain ⟨h1, s', hw, hq⟩ := h
    obtain ⟨s'', hw', hq'⟩ := hN _ hq
    exact ⟨h1, s'', hw.trans hw', hq'⟩
  | .one i p, listed, s, h => ⟨h.1, d2S_mono h.2 (d2B_mono hN hQ p _) hQ⟩
  | .fr i p, listed, s, h => by
    simp only [d2B] at h ⊢
    cases ho : ops[i]? with
    | none => simp only [ho] at h
    | some o =>
      simp only [ho] at h ⊢
      refine ⟨h.1, ?_⟩
      have h := h.2
      cases hw : wantedB ops s o with
      | none => simp only [hw] at h
      | some b =>
        cases b with
        | true =>
          simp only [hw] at h ⊢
          cases hv : avalS P s o with
          | none => simp only [hv] at h
          | some v => simp only [hv] at h ⊢; exact d2B_mono hN hQ p _ _ h
        | false => simp only [hw] at h ⊢; exact d2B_mono hN hQ p _ _ h
  | .two i p j q, listed, s, h => ⟨h.1, h.2.1, d2S_mono h.2.2.1 (d2B_mono hN hQ p _) hQ, d2S_mono h.2.2.2 (d2B_mono hN hQ q _) hQ⟩

theorem xS_sound (hx : xf.ok P) {n : Nat} {pd : Pend} {r : XR} {ps : List Prop} {i : Nat} {ge : Bool} {next : St → Option (XR × List Prop)} {K : St → Prop} {s : St} (hp : ∀ p ∈ ps, p) (hK : ∀ s qs, next s = some (r, qs) → (∀ p ∈ qs, p) → K s) (h : xS P xf c ops n pd i ge next s = some (r, ps)) : d2S P c ops n pd r.Q i ge K s := by
  unfold xS at h
  unfold d2S
  cases ho : ops[i]? with
  | none => simp only [ho] at h; cases h
  | some o =>
    simp only [ho] at h ⊢
    by_cases hsf : (!(decide (i < n)) || safeP ops pd o.dst) = true
    case neg => rw [if_neg hsf] at h; cases h
    rw [if_pos hsf] at h
    refine ⟨fun hin => by simpa [hin] using hsf, ?_⟩
    have go : (match (if i < n then xopN P xf c pd o s else if ge then xop P xf c o s else .bad) with
        | .st s' ps => addP ps (next s')
        | .pan v s ps => some (.panic v s.G none, ps)
        | .bad => none) = some (r, ps) → (if i < n then vopN P c pd o K r.Q s else ge = true ∧ vop P c o K r.Q s) := by
      intro h
      by_cases hin : i < n
      · rw [if_pos hin] at h ⊢
        refine xopN_sound hx ?_
        cases hxo : xopN P xf c pd o s with
        | st s' qs =>
          simp only [hxo] at h
          obtain ⟨rs, h1, h2, h3⟩ := addP_some h hp
          exact ⟨h2, hK s' rs h1 h3⟩
        | pan v s qs => simp only [hxo, Option.some.injEq, Prod.mk.injEq] at h; obtain ⟨rfl, rfl⟩ := h; exact ⟨hp, XR.panN s⟩
        | bad => simp only [hxo] at h; cases h
      · rw [if_neg hin] at h ⊢
        cases ge with
        | false => simp at h
        | true =>
          refine ⟨rfl, xop_sound hx ?_⟩
          simp only [if_true] at h
          cases hxo : xop P xf c o s with
          | st s' qs =>
            simp only [hxo] at h
            obtain ⟨rs, h1, h2, h3⟩ := addP_some h hp
            exact ⟨h2, hK s' rs h1 h3⟩
          | pan v s qs => simp only [hxo, Option.some.injEq, Prod.mk.injEq] at h; obtain ⟨rfl, rfl⟩ := h; exact ⟨hp, XR.panN s⟩
          | bad => simp only [hxo] at h; cases h
    unfold wantedB at h
    cases hg : o.guard with
    | none => simp only [hg] at h ⊢; exact go h
    | some jw =>
      obtain ⟨j, want⟩ := jw
      simp only [hg] at h ⊢
      cases hgv : guardVal ops s j want with
      | none => simp only [hgv, Option.map_none] at h; cases h
      | some b =>
        simp only [hgv, Option.map_some] at h ⊢
        refine ⟨fun e => ?_, fun e => ?_⟩
        · subst e; simp only [BEq.rfl] at h; exact go h
        · have : (b == want) = false := by rw [e]; cases want <;> rfl
          simp only [this] at h
          split at h
          · rename_i hd
            simp only [Bool.and_eq_true, Bool.or_eq_true, decide_eq_true_eq] at hd
            refine ⟨hd.1, ?_, hK _ _ h hp⟩
            split
            · trivial
            · rename_i hin; exact hd.2.resolve_left hin
          · cases h

theorem xd2_sound (hx : xf.ok P) {n : Nat} {pd : Pend} : ∀ (l : Plan) (r : XR) (ps : List Prop) (listed : Array Bool) (s : St), xd2 P xf c ops n pd l listed s = some (r, ps) → (∀ p ∈ ps, p) → d2B P c ops n pd r.Q l listed s
  | .done, r, ps, listed, s, h, hp => by
    simp only [xd2] at h
    split at h
    · rename_i hr; simp only [Option.some.injEq, Prod.mk.injEq] at h; obtain ⟨rfl, rfl⟩ := h; exact ⟨hr, s, Weak.refl s, rfl, rfl, fun v h => by cases h⟩
    · cases h
  | .one i p, r, ps, listed, s, h, hp => by
    simp only [xd2] at h
    split at h
    · rename_i hr; exact ⟨hr, xS_sound hx hp (fun s qs hs hq => xd2_sound hx p r qs _ s hs hq) h⟩
    · cases h
  | .two i p j q, r, ps, listed, s, h, hp => by
    simp only [xd2] at h
    split at h
    · rename_i hr
      split at h
      · rename_i s1 p1 s2 p2 h1 h2
        split at h
        · rename_i t qs hmg
          simp only [Option.some.injEq, Prod.mk.injEq] at h; obtain ⟨rfl, rfl⟩ := h
          have hp1 : ∀ p ∈ p1, p := fun p h => hp p (List.mem_append_left _ h)
          have hp2 : ∀ p ∈ p2, p := fun p h => hp p (List.mem_append_right _ (List.mem_append_left _ h))
          have hp3 : ∀ p ∈ qs, p := fun p h => hp p (List.mem_append_right _ (List.mem_append_right _ h))
          obtain ⟨w1, w2⟩ := merge_weak hmg hp3
          refine ⟨hr.1, hr.2, ?_, ?_⟩
          · refine d2S_mono (xS_sound hx hp1 (fun s qs hs hq => xd2_sound hx p _ qs _ s hs hq) h1) (fun s hs => d2B_mono (fun s hq => ?_) (fun v s hq => ?_) p _ s hs) (fun v s hq => ?_)
            · obtain ⟨_, rfl, _⟩ := hq
              exact ⟨t, w1, rfl, rfl, fun v h => by cases h⟩
            · cases hq.1
            · cases hq.1
          · refine d2S_mono (xS_sound hx hp2 (fun s qs hs hq => xd2_sound hx q _ qs _ s hs hq) h2) (fun s hs => d2B_mono (fun s hq => ?_) (fun v s hq => ?_) q _ s hs) (fun v s hq => ?_)
            · obtain ⟨_, rfl, _⟩ := hq
              exact ⟨t, w2, rfl, rfl, fun v h => by cases h⟩
            · cases hq.1
            · cases hq.1
        · cases h
      · cases h
    · cases h
  | .fr i p, r, ps, listed, s, h, hp => by
    simp only [xd2] at h
    simp only [d2B]
    cases ho : ops[i]? with
    | none => simp only [ho] at h; cases h
    | some o =>
      simp only [ho] at h ⊢
      split at h
      · rename_i hc
        refine ⟨hc, ?_⟩
        cases hw : wantedB ops s o with
        | none => simp only [hw] at h; cases h
        | some b =>
          cases b with
          | true =>
            simp only [hw] at h ⊢
            cases hv : avalS P s o with
            | none => simp only [hv] at h; cases h
            | some v => simp only [hv] at h ⊢; exact xd2_sound hx p r ps _ _ h hp
          | false => simp only [hw] at h ⊢; exact xd2_sound hx p r ps _ _ h hp
      · cases h

theorem addP_loose {ps : List Prop} {x : Option (XR × List Prop)} {r : XR × List Prop} (hn : ∀ r, x = some r → r.1.loose = true) (h : addP ps x = some r) : r.1.loose = true := by
  cases x with
  | none => cases h
  | some y => obtain ⟨y, qs⟩ := y; simp only [addP, Option.some.injEq] at h; subst h; exact hn (y, qs) rfl

theorem xS_loose {n : Nat} {pd : Pend} {r : XR × List Prop} {i : Nat} {ge : Bool} {next : St → Option (XR × List Prop)} {s : St} (hn : ∀ s r, next s = some r → r.1.loose = true) (h : xS P xf c ops n pd i ge next s = some r) : r.1.loose = true := by
  unfold xS at h
  split at h
  · cases h
  · split at h
    · split at h
      · split at h
        · exact addP_loose (fun r => hn _ r) h
        · simp only [Option.some.injEq] at h; subst h; rfl
        · cases h
      · split at h
        · exact hn _ _ h
        · cases h
      · cases h
    · cases h

theorem xd2_loose {n : Nat} {pd : Pend} : ∀ (l : Plan) (r : XR × List Prop) (listed : Array Bool) (s : St), xd2 P xf c ops n pd l listed s = some r → r.1.loose = true
  | .done, r, listed, s, h => by
    simp only [xd2] at h
    split at h
    · simp only [Option.some.injEq] at h; subst h; rfl
    · cases h
  | .one i p, r, listed, s, h => by
    simp only [xd2] at h
    split at h
    · exact xS_loose (fun s r hs => xd2_loose p r _ s hs) h
    · cases h
  | .two i p j q, r, listed, s, h => by
    simp only [xd2] at h
    split at h
    · split at h
      · split at h
        · simp only [Option.some.injEq] at h; subst h; rfl
        · cases h
      · cases h
    · cases h
  | .fr i p, r, listed, s, h => by
    simp only [xd2] at h
    split at h
    · cases h
    · split at h
      · split at h
        · split at h
          · exact xd2_loose p r _ _ h
          · cases h
        · exact xd2_loose p r _ _ h
        · cases h
      · cases h

theorem xopen_sound (hx : xf.ok P) (hm : P.follows .mixedOrders = true) {id : Nat} {l : List Oper} {n : Nat} {s : St} {r : XR} {ps : List Prop} (h : xopen P xf c l n s = some (r, ps)) (hp : ∀ p ∈ ps, p) : AWp P c.nt (.region id l.toArray true) r.Q s := by
  unfold xopen at h
  split at h
  · rename_i listed0 s0 hF
    split at h
    · rename_i listed pd s' hA
      split at h
      · rename_i hc
        simp only [Bool.and_eq_true, beq_iff_eq] at hc
        haveI := XR.pp (xd2_loose _ _ _ _ h)
        exact awp_d2 _ _ _ _ hm hc.1 hc.2 hF hA (xd2_sound hx _ _ _ _ _ h hp)
      · cases h
    · cases h
  · cases h

theorem xregion_sound (hx : xf.ok P) (hm : P.follows .mixedOrders = true) {id : Nat} {l : List Oper} {draw : Bool} {s : St} {r : XR} {ps : List Prop} (h : xregion P xf c l draw s = some (r, ps)) (hp : ∀ p ∈ ps, p) : AWp P c.nt (.region id l.toArray draw) r.Q s := by
  unfold xregion at h
  cases draw with
  | false =>
    rw [if_neg (by simp)] at h
    exact awp_ops (xops_sound hx l s ps h hp)
  | true =>
    rw [if_pos rfl] at h
    simp only at h
    split at h
    · rename_i s' h1
      simp only [Option.some.injEq, Prod.mk.injEq] at h; obtain ⟨rfl, rfl⟩ := h
      split at h1
      · rename_i hB
        simp only [Bool.and_eq_true] at hB
        exact awp_still hm (lexF_lexB hB.2) h1 ⟨rfl, rfl, fun v h => by cases h⟩
      · cases h1
    · split at h
      · rename_i s' h2
        split at h2
        · rename_i hB
          simp only [Bool.and_eq_true] at hB
          exact awp_tail _ hm hB.2 h2 (xops_sound hx _ _ _ h hp)
        · cases h2
      · split at h
        · rename_i r0 h0
          simp only [Option.some.injEq] at h; subst h
          exact xopen_sound hx hm h0 hp
        · exact xopen_sound hx hm h hp

theorem xcode_sound {orc : Orc} (hx : xf.ok P) (hm : P.follows .mixedOrders = true) : ∀ (f : Nat) (code : Code) (s : St) (r : XR) (ps : List Prop), xcode P xf c orc f code s = some (r, ps) → (∀ p ∈ ps, p) → AWp P c.nt code r.Q s
  | 0, _, _, _, _, h, _ => by simp [xcode] at h
  | f + 1, code, s, r, ps, h, hp => by
    have ih := xcode_sound (orc := orc) hx hm f
    have nrm : ∀ {s : St}, (XR.go .normal s).Q .normal s := ⟨rfl, rfl, fun v h => by cases h⟩
    cases code with
    | skip => simp only [xcode, Option.some.injEq, Prod.mk.injEq] at h; obtain ⟨rfl, rfl⟩ := h; exact awp_skip nrm
    | label l => simp only [xcode, Option.some.injEq, Prod.mk.injEq] at h; obtain ⟨rfl, rfl⟩ := h; exact awp_label nrm
    | ret => simp only [xcode, Option.some.injEq, Prod.mk.injEq] at h; obtain ⟨rfl, rfl⟩ := h; exact awp_ret ⟨rfl, rfl, fun v h => by cases h⟩
    | exit id => simp only [xcode, Option.some.injEq, Prod.mk.injEq] at h; obtain ⟨rfl, rfl⟩ := h; exact awp_exit ⟨rfl, rfl, fun v h => by cases h⟩
    | region id ops draw =>
      simp only [xcode] at h
      have := xregion_sound (id := id) hx hm h hp
      simpa using this
    | cond x t e =>
      simp only [xcode] at h
      split at h
      · rename_i bv hb
        split at h
        · obtain ⟨rs, h1, h2, h3⟩ := addP_some h hp
          have hbv : bv = true := h2 _ (List.mem_singleton.2 rfl)
          exact awp_cond hb (fun _ => ih _ _ _ _ h1 h3) (fun e => by rw [hbv] at e; cases e)
        · obtain ⟨rs, h1, h2, h3⟩ := addP_some h hp
          have hbv : bv = false := h2 _ (List.mem_singleton.2 rfl)
          exact awp_cond hb (fun e => by rw [hbv] at e; cases e) (fun _ => ih _ _ _ _ h1 h3)
        · cases bv with
          | true => exact awp_cond hb (fun _ => ih _ _ _ _ h hp) (fun e => by cases e)
          | false => exact awp_cond hb (fun e => by cases e) (fun _ => ih _ _ _ _ h hp)
      · cases h
    | block id b =>
      simp only [xcode] at h
      refine awp_block ?_
      split at h
      · rename_i id' s' qs hb
        split at h
        · rename_i he
          simp only [Option.some.injEq, Prod.mk.injEq] at h; obtain ⟨rfl, rfl⟩ := h
          refine (ih _ _ _ _ hb hp).mono ?_
          rintro e s1 ⟨rfl, rfl, _⟩
          simp only [inBlock]
          rw [if_pos he]; exact nrm
        · rename_i he
          simp only [Option.some.injEq, Prod.mk.injEq] at h; obtain ⟨rfl, rfl⟩ := h
          refine (ih _ _ _ _ hb hp).mono ?_
          rintro e s1 ⟨rfl, rfl, _⟩
          simp only [inBlock]
          rw [if_neg he]; exact ⟨rfl, rfl, fun v h => by cases h⟩
      · rename_i hne
        refine (ih _ _ _ _ h hp).mono ?_
        intro e s1 hq
        cases e with
        | exit id' =>
          exfalso
          cases r with
          | go e0 s0 => obtain ⟨rfl, rfl, _⟩ := hq; exact hne _ _ _ h
          | panic v G so => cases hq.1
        | normal => exact hq
        | goto l => exact hq
        | ret => exact hq
        | panic v => exact hq
    | scope b =>
      simp only [xcode] at h
      refine awp_scope ?_
      split at h
      · cases h
      · rename_i hne
        refine (ih _ _ _ _ h hp).mono ?_
        intro e s1 hq
        cases e with
        | goto l =>
          exfalso
          cases r with
          | go e0 s0 => obtain ⟨rfl, rfl, _⟩ := hq; exact hne _ _ _ h
          | panic v G so => cases hq.1
        | normal => exact hq
        | exit id => exact hq
        | ret => exact hq
        | panic v => exact hq
    | seq x y =>
      simp only [xcode] at h
      refine awp_seq ?_
      split at h
      · rename_i s' qs hb
        obtain ⟨rs, h1, h2, h3⟩ := addP_some h hp
        refine (ih _ _ _ _ hb h2).mono ?_
        rintro e s1 ⟨rfl, rfl, _⟩
        exact ih _ _ _ _ h1 h3
      · rename_i hne
        refine (ih _ _ _ _ h hp).mono ?_
        intro e s1 hq
        cases e with
        | normal =>
          exfalso
          cases r with
          | go e0 s0 => obtain ⟨rfl, rfl, _⟩ := hq; exact hne _ _ h
          | panic v G so => cases hq.1
        | exit id => exact hq
        | goto l => exact hq
        | ret => exact hq
        | panic v => exact hq
    | loop b =>
      -- as many rounds as there is fuel
      have rnd : ∀ (g : Nat) (s : St) (ps : List Prop), g ≤ f + 1 → xcode P xf c orc g (.loop b) s = some (r, ps) → (∀ p ∈ ps, p) → rounds P c.nt b r.Q g s := by
        intro g
        induction g with
        | zero => intro s ps _ h _; simp [xcode] at h
        | succ g ihg =>
          intro s ps hg h hp
          simp only [xcode] at h
          show AWp P c.nt b (andThen (rounds P c.nt b r.Q g) r.Q) s
          have ihb : ∀ (s : St) (r : XR) (ps : List Prop), xcode P xf c orc g b s = some (r, ps) → (∀ p ∈ ps, p) → AWp P c.nt b r.Q s := xcode_sound (orc := orc) hx hm g b
          split at h
          · rename_i s' qs hb
            obtain ⟨rs, h1, h2, h3⟩ := addP_some h hp
            refine (ihb _ _ _ hb h2).mono ?_
            rintro e s1 ⟨rfl, rfl, _⟩
            exact ihg _ _ (by omega) h1 h3
          · rename_i hne
            refine (ihb _ _ _ h hp).mono ?_
            intro e s1 hq
            cases e with
            | normal =>
              exfalso
              cases r with
              | go e0 s0 => obtain ⟨rfl, rfl, _⟩ := hq; exact hne _ _ h
              | panic v G so => cases hq.1
            | exit id => exact hq
            | goto l => exact hq
            | ret => exact hq
            | panic v => exact hq
      exact awp_rounds (f + 1) (rnd (f + 1) s ps (Nat.le_refl _) h hp)
    | _ => simp [xcode] at h
termination_by f => f

theorem xbody_sound (ih : xf.ok P) (hm : P.follows .mixedOrders = true) {heap : FuncId → List Nat} {orcs : FuncId → Orc} {lf : Nat} {f : FuncId} {args : List AV} {G : List Blk} {r : AEnd} {G' : List Blk} {ps : List Prop} (h : xbody P xf heap orcs lf f args G = some (r, G', ps)) (hp : ∀ p ∈ ps, p) :
    ACalls P f args G fun r' G'' => r' = r ∧ G'' = G' := by
  unfold xbody at h
  split at h
  · cases h
  · rename_i fn hf
    split at h
    · cases h
    · rename_i code hb
      split at h
      · rename_i hc
        have enter : ∀ (m : Nat) (xr : XR) (qs : List Prop), G.length ≤ m → xcode P xf ⟨fn.ntmps, heap f, (orcs f 1000000).isSome, fun t => orcs f (2000000 + t), fun t => orcs f (3000000 + t)⟩ (orcs f) lf code (.args args G) = some (xr, qs) → (∀ p ∈ qs, p) → (∀ e s, xr.Q e s → leaveQ P fn m (fun r' G'' => r' = r ∧ G'' = G') e s) →
            ACalls P f args G fun r' G'' => r' = r ∧ G'' = G' := fun m xr qs hm' hcode hqs hQ =>
          acalls_enter m hf hb hc.1 hc.2 hm' ((xcode_sound (c := ⟨fn.ntmps, heap f, (orcs f 1000000).isSome, fun t => orcs f (2000000 + t), fun t => orcs f (3000000 + t)⟩) ih hm lf code _ xr qs hcode hqs).mono hQ)
        have retc : ∀ (e0 : AExit) (s0 : St) (qs : List Prop), (e0 = .normal ∨ e0 = .ret) → xcode P xf ⟨fn.ntmps, heap f, (orcs f 1000000).isSome, fun t => orcs f (2000000 + t), fun t => orcs f (3000000 + t)⟩ (orcs f) lf code (.args args G) = some (.go e0 s0, qs) →
            (match ares P fn s0 with
              | some v => if cutOk G.length s0.G v then some (AEnd.ret v, s0.G.take G.length, qs) else if cutOk s0.G.length s0.G v && decide (G.length ≤ s0.G.length) then some (AEnd.ret v, s0.G, qs) else none
              | none => none) = some (r, G', ps) → ACalls P f args G fun r' G'' => r' = r ∧ G'' = G' := by
          intro e0 s0 qs he0 hcode h
          split at h
          · rename_i v hv
            split at h
            · rename_i hcut
              simp only [Option.some.injEq, Prod.mk.injEq] at h
              obtain ⟨h1, h2, rfl⟩ := h
              refine enter G.length _ _ (Nat.le_refl _) hcode hp ?_
              rintro e s ⟨rfl, rfl, _⟩
              rcases he0 with rfl | rfl <;> simp only [leaveQ, hv] <;> exact ⟨hcut, h1, h2⟩
            · split at h
              · rename_i hcut
                simp only [Bool.and_eq_true, decide_eq_true_eq] at hcut
                simp only [Option.some.injEq, Prod.mk.injEq] at h
                obtain ⟨h1, h2, rfl⟩ := h
                refine enter s0.G.length _ _ hcut.2 hcode hp ?_
                rintro e s ⟨rfl, rfl, _⟩
                rcases he0 with rfl | rfl <;> simp only [leaveQ, hv, List.take_length] <;> exact ⟨hcut.1, h1, h2⟩
              · cases h
          · cases h
        split at h
        · rename_i s0 qs hcode; exact retc _ _ _ (.inl rfl) hcode h
        · rename_i s0 qs hcode; exact retc _ _ _ (.inr rfl) hcode h
        · rename_i v G0 so qs hcode
          split at h
          · rename_i hcut
            simp only [Option.some.injEq, Prod.mk.injEq] at h
            obtain ⟨h1, h2, rfl⟩ := h
            refine enter G.length _ _ (Nat.le_refl _) hcode hp ?_
            rintro e s ⟨rfl, rfl, _⟩
            exact ⟨hcut, h1, h2⟩
          · split at h
            · rename_i hcut
              simp only [Bool.and_eq_true, decide_eq_true_eq] at hcut
              simp only [Option.some.injEq, Prod.mk.injEq] at h
              obtain ⟨h1, h2, rfl⟩ := h
              refine enter G0.length _ _ hcut.2 hcode hp ?_
              rintro e s ⟨rfl, rfl, _⟩
              exact ⟨hcut.1, h1, by rw [List.take_length]; exact h2⟩
            · cases h
        · cases h
      · cases h
end
end Go.Abs
