/-
  New variables and new maps; stores into maps.
-/
import Derived.Test.YtnicgdfnfnchjaaA8
set_option linter.unusedVariables false
namespace Go.Abs

def AV.cellsOf : AV → Option (List AV)
  | .agg l => some (l.map AV.toCell)
  | .tuple _ | .undef => none
  | v => some [v.toCell]

theorem bytesBeq (a b : ByteArray) : (a == b) = true ↔ a = b := by
  obtain ⟨x⟩ := a
  obtain ⟨y⟩ := b
  constructor
  · intro h
    have e : x = y := by simpa using (show (x == y) = true from h)
    rw [e]
  · intro h
    cases h
    show (x == x) = true
    simp

/-- A new variable that only this frame sees. -/
def newL (s : St) (d : Nat) (cs : List AV) : Option St :=
  if (get s.L d).isNone ∧ cs.all (AV.fits (.l d)) then some { ts := (d, .ptr (.l d) 0) :: s.ts, L := (d, cs) :: s.L, G := s.G } else none

/-- A new variable in the heap. -/
def newG (s : St) (d : Nat) (cs : List AV) : Option St :=
  if cs.all (AV.fits (.g s.G.length)) then some { ts := (d, .ptr (.g s.G.length) 0) :: s.ts, L := s.L, G := s.G ++ [.cells cs] } else none

/-- 'heap' says of which slots the variable is seen elsewhere. -/
def newVarA (heap : List Nat) (s : St) (d : Nat) (cs : List AV) : Option St := if heap.contains d then newG s d cs else newL s d cs

def aput (k : PV) (v : AV) (clock : Nat) : List (PV × AV × Nat) → Option (List (PV × AV × Nat) × Nat)
  | [] => some ([(k, v, clock)], clock + 1)
  | (k', v', n) :: r => match pkeq k k' with
    | some true => some ((k, v, n) :: r, clock)
    | some false => (aput k v clock r).map fun (l, c) => ((k', v', n) :: l, c)
    | none => none

def aupdate (P : Program) (s : St) (t : TypeId) (m k v : AV) : Option St :=
  match P.underlying t, m, k with
  | some (.map kt _), .map id, .p k =>
    match s.G[id]? with
    | some (.map es clock) =>
      if keyOk P kt k ∧ v.plain.fits (.g id) then (aput k v.plain clock es).map fun (l, c) => { s with G := s.G.set id (.map l c) } else none
    | _ => none
  | _, _, _ => none

theorem inv_cells {k k' : Key} (hk : keyf k' = keyf k) {cs : List AV} (h : cs.all (AV.fits k') = true) : BlkInv k (.cells cs) := fun j x hj =>
  chk_imp (fun q hq => by rw [hk] at hq; exact hq) (fun _ h => by simp at h) _ (List.all_eq_true.1 h x (List.mem_of_getElem? hj))

section
variable {P : Program} {σ : Sg} {s : St} {nt : Nat} {a : Act} {w : World}

theorem cellsOf_rel {v : AV} {l : List AV} (h : v.cellsOf = some l) {x : Value} (hx : Rel σ v x) :
    x.cells.size = l.length ∧ ∀ (i : Nat) (u : AV), l[i]? = some u → Rel σ u (x.cells.getD i undef) := by
  have single : ∀ {v : AV} {x : Value}, Rel σ v x → v.one = true → [v.toCell] = l → x.cells.size = l.length ∧ ∀ (i : Nat) (u : AV), l[i]? = some u → Rel σ u (x.cells.getD i undef) := by
    intro v x hx ho hl
    subst hl
    have hc := one_cell hx ho
    have : x.cells = #[x] := by
      cases x <;> first | rfl | simp [Value.oneCell'] at hc
    rw [this]
    refine ⟨rfl, fun i u hu => ?_⟩
    cases i with
    | zero => simp at hu; subst hu; exact hx.toCell
    | succ i => simp at hu
  unfold AV.cellsOf at h
  split at h
  · simp only [Option.some.injEq] at h; subst h
    cases hx with | agg h1 h2 =>
    refine ⟨by simpa [Value.cells] using h1, fun i u hu => ?_⟩
    rw [List.getElem?_map, Option.map_eq_some_iff] at hu
    obtain ⟨y, hy, rfl⟩ := hu
    exact (h2 i y hy).toCell
  · simp at h
  · simp at h
  · rename_i h1 h2 h3
    simp only [Option.some.injEq] at h
    refine single hx ?_ h
    cases v <;> first | rfl | exact absurd rfl (h1 _) | exact absurd rfl (h2 _) | exact absurd rfl h3

theorem St.put_some (s : St) (d : Nat) (v : AV) : s.put (some d) v = { s with ts := (d, v) :: s.ts } := rfl

/-- The new variable itself, in the model: 'newVar t v'. -/
theorem newVarA_rel {heap : List Nat} {d : Nat} {cs : List AV} {s' : St} (h : newVarA heap s d cs = some s') (hr : RelS σ s nt a w) (hd : d < nt) {t : TypeId} {x : Value}
    (h1 : x.cells.size = cs.length) (h2 : ∀ (i : Nat) (u : AV), cs[i]? = some u → Rel σ u (x.cells.getD i undef)) :
    ∃ b σ', (newVar t x).run P w = .ok ⟨b, 0, none⟩ (w.alloc (.cells x.cells t)) ∧ RelS σ' s' nt (a.put (some d) (.pointer (some ⟨b, 0, none⟩))) (w.alloc (.cells x.cells t)) ∧ Post σ σ' w (w.alloc (.cells x.cells t)) := by
  have hrun : (newVar t x).run P w = .ok ⟨w.heap.size, 0, none⟩ (w.alloc (.cells x.cells t)) := rfl
  unfold newVarA at h
  split at h
  · unfold newG at h
    split at h
    · rename_i hc
      simp only [Option.some.injEq] at h; subst h
      have hk := hr.gfree s.G.length (Nat.le_refl _)
      obtain ⟨g1, g2⟩ := hr.newG (o := .cells x.cells t) (blk := .cells cs) ⟨_, t, heap_alloc_new _ _, Nat.le_of_eq h1.symm, fun j u hu => (h2 j u hu).new hk⟩ (inv_cells rfl hc)
      refine ⟨_, _, hrun, ?_, g2⟩
      exact g1.put (v := .ptr (.g s.G.length) 0) (.ptr 0 (by simp [Sg.setBlk])) (dst := some d) (by simp [dstOk, hd])
    · simp at h
  · unfold newL at h
    split at h
    · rename_i hc
      simp only [Option.some.injEq] at h; subst h
      have hn : get s.L d = none := by simpa using hc.1
      have hk := hr.lfree d hn
      obtain ⟨g1, g2⟩ := hr.newL (o := .cells x.cells t) (t := d) hn (cs := cs) ⟨_, t, heap_alloc_new _ _, Nat.le_of_eq h1.symm, fun j u hu => (h2 j u hu).new hk⟩ (inv_cells (k' := .l d) rfl hc.2)
      refine ⟨_, _, hrun, ?_, g2⟩
      exact g1.put (v := .ptr (.l d) 0) (.ptr 0 (by simp [Sg.setBlk])) (dst := some d) (by simp [dstOk, hd])
    · simp at h

theorem alloc_does {o : Oper} {t : TypeId} {d : Nat} (ho : o.op = .alloc t) (hd : o.dst = some d) (hn : d < nt) {heap : List Nat} {z : AV} (hz : azero P t = some z) {cs : List AV} (hc : z.cellsOf = some cs)
    {s' : St} (h : newVarA heap s d cs = some s') : Does P nt s o s' := by
  intro σ a w hr
  obtain ⟨x, hx, hxr⟩ := azero_run (σ := σ) (w := w) hz
  obtain ⟨h1, h2⟩ := cellsOf_rel hc hxr
  obtain ⟨b, σ', g1, g2, g3⟩ := newVarA_rel (P := P) (t := t) h hr hn h1 h2
  refine ⟨_, _, σ', .inl ?_, by rw [hd]; exact g2, g3⟩
  unfold execOp
  rw [ho]
  simp only [Instr.alloc, Sem.run_bind, hx, Result.andThen_ok, g1]
  rfl

theorem box_does {o : Oper} {t : TypeId} {x : Operand} {d : Nat} (ho : o.op = .box t x) (hd : o.dst = some d) (hn : d < nt) {heap : List Nat} {v : AV} (hv : ev s x = some v) {cs : List AV} (hc : acells v = some cs)
    {s' : St} (h : newVarA heap s d cs = some s') : Does P nt s o s' := by
  intro σ a w hr
  have hxr := ev_rel hr hv
  obtain ⟨h1, h2⟩ := acells_rel hc hxr
  obtain ⟨b, σ', g1, g2, g3⟩ := newVarA_rel (P := P) (t := t) h hr hn (x := a.eval x) (by simpa using h1) (fun i u hu => by
    have := (h2 i u hu).1
    simpa [Array.getD_eq_getD_getElem?, List.getD_eq_getElem?_getD] using this)
  refine ⟨_, _, σ', .inl ?_, by rw [hd]; exact g2, g3⟩
  unfold execOp
  rw [ho]
  simp only [Instr.box, Sem.run_bind, Result.andThen_ok, g1]
  rfl

theorem makeMap_does {o : Oper} {t : TypeId} {d : Nat} (ho : o.op = .makeMap t none) (hd : o.dst = some d) (hn : d < nt) :
    Does P nt s o { ts := (d, .map s.G.length) :: s.ts, L := s.L, G := s.G ++ [.map [] 0] } := by
  intro σ a w hr
  have hk := hr.gfree s.G.length (Nat.le_refl _)
  obtain ⟨g1, g2⟩ := hr.newG (o := .map #[] 0) (blk := .map [] 0) ⟨_, heap_alloc_new _ _, rfl, by simp⟩ (fun j e he => by simp at he)
  refine ⟨.map (some w.heap.size), _, _, .inl ?_, ?_, g2⟩
  · unfold execOp
    rw [ho]
    rfl
  · rw [hd]
    exact g1.put (v := .map s.G.length) (.map (by simp [Sg.setBlk])) (dst := some d) (by simp [dstOk, hn])

theorem EsRel_toArray {es' : Array MapEntry} {es : List (PV × AV × Nat)} (h : EsRel σ es'.toList es) :
    es'.size = es.length ∧ ∀ (j : Nat) (k : PV) (v : AV) (n : Nat), es[j]? = some (k, v, n) → RelP σ.I k (es'.getD j default).key ∧ Rel σ v (es'.getD j default).val ∧ (es'.getD j default).born = n :=
  ⟨by simpa using h.1, fun j k v n hj => by simpa [Array.getD_eq_getD_getElem?, List.getD_eq_getElem?_getD] using h.2 j k v n hj⟩

/-- A block of the heap is written anew, as a whole. -/
theorem RelS.setG (hr : RelS σ s nt a w) {id : Nat} {blk0 blk : Blk} (hl : s.G[id]? = some blk0) {b : Nat} (hb : σ.blk (.g id) = some b) {o : Obj}
    (hB : ∀ w', w'.heap[b]? = some o → RelB σ w' b blk) (hc : BlkInv (.g id) blk) (hlt : b < w.heap.size) (hnf0 : NF w.heap[b]?) (hnf : ∀ c T r, o = .cells c T r → r = (0, 0) := by intro c T r h; cases h <;> rfl) :
    RelS σ { s with G := s.G.set id blk } nt a { w with heap := w.heap.setIfInBounds b o } ∧ Post σ σ w { w with heap := w.heap.setIfInBounds b o } := by
  have hother : ∀ i, i ≠ b → (w.heap.setIfInBounds b o)[i]? = w.heap[i]? := fun i hi => by rw [Array.getElem?_setIfInBounds_ne (Ne.symm hi)]
  have hthis : (w.heap.setIfInBounds b o)[b]? = some o := by simp [hlt]
  have hid : id < s.G.length := (List.getElem?_eq_some_iff.1 hl).1
  refine ⟨⟨hr.sz, hr.df, hr.vals, fun k blk' h => ?_, fun k blk' h => ?_, fun id' h => hr.gfree _ (by simpa using h), hr.lfree, ?_⟩, ?_⟩
  · have old : k ≠ .g id → s.look k = some blk' → ∃ b', σ.blk k = some b' ∧ RelB σ { w with heap := w.heap.setIfInBounds b o } b' blk' := fun hk h => by
      obtain ⟨b', h1, h2⟩ := hr.blks _ _ h
      have hbb : b' ≠ b := fun e => hk (hr.wf.inj _ _ _ h1 (e ▸ hb))
      exact ⟨b', h1, RelB.grow (σ := σ) (σ' := σ) (w := w) (fun _ _ _ h => h) (fun _ _ h => h) (fun _ => hother _ hbb) h2⟩
    cases k with
    | g id' =>
      by_cases e : id = id'
      · subst e
        simp only [St.look, List.getElem?_set, if_true, hid, Option.some.injEq] at h
        subst h
        exact ⟨b, hb, hB _ hthis⟩
      · exact old (by simp; exact fun e' => e e'.symm) (by simpa [St.look, List.getElem?_set, e] using h)
    | l t => exact old (by simp) h
  · cases k with
    | g id' =>
      by_cases e : id = id'
      · subst e
        simp only [St.look, List.getElem?_set, if_true, hid, Option.some.injEq] at h
        subst h; exact hc
      · exact hr.cinv (.g id') _ (by simpa [St.look, List.getElem?_set, e] using h)
    | l t => exact hr.cinv (.l t) _ h
  · refine ⟨hr.wf.inj, hr.wf.injt, hr.wf.injtt, fun k b' h => by simpa using hr.wf.lt k b' h, fun t b' e l h => ?_, hr.wf.blkI, fun b' o' u h => ?_⟩
    · have hbb : b' ≠ b := fun e' => hr.wf.injt _ _ _ _ _ hb (e' ▸ h)
      obtain ⟨⟨c', T', h1, h2⟩, h3⟩ := hr.wf.tokw _ _ _ _ h
      exact ⟨⟨c', T', by rw [hother _ hbb]; exact h1, h2⟩, h3⟩
    · have hbb : b' ≠ b := fun e' => by
        have := hr.wf.blkI _ _ o' hb
        rw [e', this] at h; simp at h
      have := hr.wf.imm _ _ _ h
      simpa [World.cell?, hother _ hbb] using this
  · exact ⟨fun _ _ _ h => h, fun _ _ _ h => .inl h, fun _ h => .inl h, fun _ _ h => h, fun b' hb' hn => hother _ (fun e => hn (e ▸ .inl ⟨_, hb⟩)), by simp, rfl, rfl, rfl, rfl, frozen_same fun i => if e : i = b then .inr ⟨by rw [e]; exact hnf0, fun c T r h => hnf c T r (by subst e; rw [hthis] at h; simpa using h)⟩ else .inl (hother i e)⟩

theorem sameBits_rel {k k' : PV} {x x' : Value} (h : pkeq k k' = some true) (hx : RelP σ.I k x) (hx' : RelP σ.I k' x') : Instr.sameBits 10000 x' x = true := by
  unfold pkeq at h
  split at h
  · cases hx; cases hx'
    split at h
    · rename_i e; subst e
      simp at h; subst h; simp [Instr.sameBits]
    · simp at h
  · cases hx; cases hx'
    simp only [Option.some.injEq] at h
    rw [bytesBeq] at h
    subst h
    show (_ == _) = true
    exact (bytesBeq _ _).2 rfl
  · simp at h

/-- What a store does to the entries: the list with the entry written, or one more. -/
theorem aput_rel {t : TypeId} {k : PV} {x : Value} {d : TypeDesc} (hu : P.underlying t = some d) (hk : keyOk P t k = true) (hx : RelP σ.I k x) {v : AV} {y : Value} (hv : Rel σ v y) {clock : Nat} :
    ∀ {es' : List MapEntry} {es : List (PV × AV × Nat)} {l : List (PV × AV × Nat)} {c : Nat} (i : Nat), EsRel σ es' es → aput k v clock es = some (l, c) →
      (∃ j z e, Instr.findNow d x es' i = some (some (i + j, z)) ∧ es'[j]? = some e ∧ Instr.sameBits 10000 e.key x = true ∧ c = clock ∧ EsRel σ (es'.modify j fun e => { e with key := x, val := y }) l) ∨
      (Instr.findNow d x es' i = some none ∧ c = clock + 1 ∧ EsRel σ (es' ++ [{ key := x, val := y, born := clock }]) l)
  | [], [], l, c, i, _, h => by
    simp only [aput, Option.some.injEq, Prod.mk.injEq] at h
    obtain ⟨rfl, rfl⟩ := h
    refine .inr ⟨rfl, rfl, rfl, fun j k' v' n hj => ?_⟩
    cases j with
    | zero => simp at hj; obtain ⟨rfl, rfl, rfl⟩ := hj; exact ⟨hx, hv, rfl⟩
    | succ j => simp at hj
  | [], _ :: _, _, _, _, he, _ => by simp [EsRel] at he
  | _ :: _, [], _, _, _, he, _ => by simp [EsRel] at he
  | e :: es', (k', v', n) :: es, l, c, i, he, h => by
    simp only [aput] at h
    have hh := he.head
    split at h
    · rename_i hb
      simp only [Option.some.injEq, Prod.mk.injEq] at h
      obtain ⟨rfl, rfl⟩ := h
      have hs := sameNow_rel (P := P) hu hk hx hh.1 hb
      refine .inl ⟨0, e.val, e, by simp [Instr.findNow, hs], rfl, sameBits_rel hb hx hh.1, rfl, by simpa using he.1, fun j k2 v2 n2 hj => ?_⟩
      cases j with
      | zero => simp at hj; obtain ⟨rfl, rfl, rfl⟩ := hj; simpa using ⟨hx, hv, hh.2.2⟩
      | succ j => simpa using he.2 (j + 1) k2 v2 n2 (by simpa using hj)
    · rename_i hb
      have hs := sameNow_rel (P := P) hu hk hx hh.1 hb
      rw [Option.map_eq_some_iff] at h
      obtain ⟨⟨l', c'⟩, hl, he2⟩ := h
      simp only [Prod.mk.injEq] at he2
      obtain ⟨rfl, rfl⟩ := he2
      rcases aput_rel hu hk hx hv (i + 1) he.tail hl with ⟨j, z, e', h1, h2, h3, h4, h5⟩ | ⟨h1, h2, h3⟩
      · refine .inl ⟨j + 1, z, e', by simp [Instr.findNow, hs, h1]; omega, by simpa using h2, h3, h4, by simpa using h5.1, fun j2 k2 v2 n2 hj => ?_⟩
        cases j2 with
        | zero => simp at hj; obtain ⟨rfl, rfl, rfl⟩ := hj; simpa using hh
        | succ j2 => simpa using h5.2 j2 k2 v2 n2 (by simpa using hj)
      · refine .inr ⟨by simp [Instr.findNow, hs, h1], h2, by simpa using h3.1, fun j2 k2 v2 n2 hj => ?_⟩
        cases j2 with
        | zero => simp at hj; obtain ⟨rfl, rfl, rfl⟩ := hj; simpa using hh
        | succ j2 => simpa using h3.2 j2 k2 v2 n2 (by simpa using hj)
    · simp at h

theorem aupdate_does {o : Oper} {t : TypeId} {m k v : Operand} (ho : o.op = .mapUpdate t m k v ∨ o.op = .insert t m k v) (hd : o.dst = none) {mv kv vv : AV} (hm : ev s m = some mv) (hk : ev s k = some kv) (hv : ev s v = some vv)
    {s' : St} (h : aupdate P s t mv kv vv = some s') : Does P nt s o s' := by
  intro σ a w hr
  unfold aupdate at h
  split at h
  · rename_i kt et id k' hu
    split at h
    · rename_i es clock hg
      split at h
      · rename_i hc
        rw [Option.map_eq_some_iff] at h
        obtain ⟨⟨l, c⟩, hput, he⟩ := h
        simp only at he; subst he
        have hmr := ev_rel hr hm
        have hkr := ev_rel hr hk
        have hvr := (ev_rel hr hv).plain
        generalize hmx : a.eval m = mx at hmr
        generalize hkx : a.eval k = kx at hkr
        generalize hvx : a.eval v = vx at hvr
        cases hmr with | map hb =>
        rename_i b0
        cases hkr with | p hkr =>
        obtain ⟨b', hb', es', h1, h2, h3⟩ := hr.blks (.g id) _ (show s.look (.g id) = _ from hg)
        rw [hb] at hb'; cases hb'
        have hes : EsRel σ es'.toList es := ⟨by simpa using h2, fun j k v n hj => by simpa [Array.getD_eq_getD_getElem?, List.getD_eq_getElem?_getD] using h3 j k v n hj⟩
        have hd0 : ∃ d, P.underlying kt = some d := by
          have := hc.1
          unfold keyOk at this
          cases hu' : P.underlying kt with
          | none => cases k' <;> simp [hu'] at this
          | some d => exact ⟨d, rfl⟩
        obtain ⟨d, hu'⟩ := hd0
        have hlt := hr.wf.lt _ _ hb
        have hchk : ∀ {es : List (PV × AV × Nat)} {l : List (PV × AV × Nat)} {c : Nat}, aput k' vv.plain clock es = some (l, c) → (∀ e ∈ es, e.2.1.chk (keyf (.g id)) (fun _ => false) = true) → ∀ e ∈ l, e.2.1.chk (keyf (.g id)) (fun _ => false) = true := by
          intro es
          induction es with
          | nil => intro l c h _; simp only [aput, Option.some.injEq, Prod.mk.injEq] at h; obtain ⟨rfl, rfl⟩ := h; simp only [List.mem_singleton, forall_eq]; exact hc.2
          | cons x es ih =>
            intro l c h hok
            obtain ⟨k2, v2, n2⟩ := x
            simp only [List.forall_mem_cons] at hok
            simp only [aput] at h
            split at h
            · simp only [Option.some.injEq, Prod.mk.injEq] at h; obtain ⟨rfl, rfl⟩ := h
              simp only [List.forall_mem_cons]; exact ⟨hc.2, hok.2⟩
            · rw [Option.map_eq_some_iff] at h
              obtain ⟨⟨l', c'⟩, hl, he⟩ := h
              simp only [Prod.mk.injEq] at he; obtain ⟨rfl, rfl⟩ := he
              simp only [List.forall_mem_cons]; exact ⟨hok.1, ih hl hok.2⟩
            · simp at h
        have hblk : BlkInv (.g id) (.map l c) := fun j e he => hchk hput (fun e he => by
          obtain ⟨j, hj⟩ := List.getElem?_of_mem he
          exact hr.cinv (.g id) _ (show s.look (.g id) = _ from hg) j e hj) e (List.mem_of_getElem? he)
        rcases aput_rel (P := P) hu' hc.1 hkr hvr 0 hes hput with ⟨j, z, e, g1, g2, g3, g4, g5⟩ | ⟨g1, g2, g3⟩
        · subst g4
          have hej : es'[j]? = some e := by simpa using g2
          obtain ⟨q1, q2⟩ := hr.setG hg hb (o := .map (es'.modify j fun e => { e with key := kx, val := vx }) c) (blk := .map l c)
            (fun w' hw' => ⟨_, hw', EsRel_toArray (by simpa using g5)⟩) hblk hlt (nf_map h1)
          refine ⟨undef, _, σ, .inr ⟨?_, rfl⟩, by rw [hd]; exact q1, q2⟩
          have : (Instr.mapUpdate t (.map (some b0)) kx vx).run P w = .ok () { w with heap := w.heap.setIfInBounds b0 (.map (es'.modify j fun e => { e with key := kx, val := vx }) c) } := by
            simp [Instr.mapUpdate, run_underlying hu, getObj, Sem.run, h1, keyOk_check hc.1 hkr, Instr.findKey, run_underlying hu', g1, hej, Instr.keyThatStays, g3, setObj]
          rcases ho with ho | ho <;> (unfold execOp; rw [ho]; simp only [hmx, hkx, hvx]; rw [Sem.run_bind, this]; rfl)
        · obtain ⟨q1, q2⟩ := hr.setG hg hb (o := .map (es'.push { key := kx, val := vx, born := clock }) (clock + 1)) (blk := .map l c)
            (fun w' hw' => ⟨es'.push { key := kx, val := vx, born := clock }, by rw [g2]; exact hw', EsRel_toArray (by simpa using g3)⟩) hblk hlt (nf_map h1)
          refine ⟨undef, _, σ, .inr ⟨?_, rfl⟩, by rw [hd]; exact q1, q2⟩
          have : (Instr.mapUpdate t (.map (some b0)) kx vx).run P w = .ok () { w with heap := w.heap.setIfInBounds b0 (.map (es'.push { key := kx, val := vx, born := clock }) (clock + 1)) } := by
            simp [Instr.mapUpdate, run_underlying hu, getObj, Sem.run, h1, keyOk_check hc.1 hkr, Instr.findKey, run_underlying hu', g1, setObj]
          rcases ho with ho | ho <;> (unfold execOp; rw [ho]; simp only [hmx, hkx, hvx]; rw [Sem.run_bind, this]; rfl)
      · simp at h
    · simp at h
  · simp at h
end
end Go.Abs
