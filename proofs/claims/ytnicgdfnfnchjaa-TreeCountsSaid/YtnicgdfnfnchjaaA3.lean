/-
  The operations that read memory, over the abstract state and in the model.
-/
import Derived.Test.YtnicgdfnfnchjaaA2
set_option linter.unusedVariables false
namespace Go.Abs

theorem add_none (b o n : Nat) : (⟨b, o, none⟩ : Addr).add n = ⟨b, o + n, none⟩ := by
  unfold Addr.add; split <;> simp_all

/-- The cells from an address on. -/
def cellsAt (s : St) : AV → Option (List AV)
  | .ptr k off => match s.look k with | some (.cells cs) => some (cs.drop off) | _ => none
  | .rop row => some (row.map .p)
  | _ => none

def aload (P : Program) (t : TypeId) (cells : List AV) : Option AV :=
  match P.underlying t with
  | some (.struct _) | some (.array _ _) => if P.cellsOf t ≤ cells.length then some (.agg ((cells.take (P.cellsOf t)).map AV.plain)) else none
  | some _ => cells.head?.map AV.ld
  | none => none

def fieldOff (P : Program) (st : TypeId) (f : Nat) : Option Nat :=
  match P.underlying st with
  | some (.struct fs) => match fs[f]? with
    | some fd => if P.cellsOf fd.type = 0 then none else some fd.offset
    | none => none
  | _ => none

def afield (P : Program) (st : TypeId) (f : Nat) (x : AV) : Option AV :=
  match fieldOff P st f, x with
  | some off, .ptr k o => some (.ptr k (o + off))
  | some off, .rop row => some (.rop (row.drop off))
  | _, _ => none

def aindex (P : Program) (t : TypeId) (x : AV) (i : Int) : Option AV :=
  match P.underlying t, x with
  | some (.slice e), .p (.vec rows) | some (.slice e), .own rows _ =>
    if 0 ≤ i then match rows[i.toNat]? with
      | some row => if row.length = P.cellsOf e ∧ P.cellsOf e ≠ 0 then some (.rop row) else none
      | none => none
    else none
  | some (.slice e), .ref k off len _ => if 0 ≤ i ∧ i < len ∧ P.cellsOf e ≠ 0 then some (.ptr k (off + i.toNat * P.cellsOf e)) else none
  | some (.array len e), .ptr k off => if 0 ≤ i ∧ i < len ∧ P.cellsOf e ≠ 0 then some (.ptr k (off + i.toNat * P.cellsOf e)) else none
  | _, _ => none

def alen (P : Program) (t : TypeId) (x : AV) : Option AV :=
  match P.underlying t, x with
  | some .string, .p (.str s) => some (.p (.int .i64 s.size))
  | some (.slice _), .p (.vec rows) | some (.slice _), .own rows _ => some (.p (.int .i64 rows.length))
  | some (.slice _), .ref _ _ len _ => some (.p (.int .i64 len))
  | _, _ => none

def anil : AV → Option AV
  | .ptr k o => some (.ptr k o)
  | .rop row => some (.rop row)
  | .fn f a b => some (.fn f a b)
  | .map id => some (.map id)
  | _ => none

/-- A zero value's cell. -/
def zc : Value → Option AV
  | .slice none 0 0 => some (.full [])
  | x => cv x

def zcs : List Value → Option (List AV)
  | [] => some []
  | x :: r => match zc x, zcs r with | some v, some l => some (v :: l) | _, _ => none

def zv : Value → Option AV
  | .agg cs => (zcs cs.toList).map .agg
  | x => (zc x).map AV.ld

def azero (P : Program) (t : TypeId) : Option AV := ((P.info? t).bind (·.zero)).bind zv

def pkeq : PV → PV → Option Bool
  | .int k a, .int k' b => if k = k' then some (a == b) else none
  | .str a, .str b => some (a == b)
  | _, _ => none

def afind (k : PV) : List (PV × AV × Nat) → Option (Option AV)
  | [] => some none
  | (k', v, _) :: r => match pkeq k k' with
    | some true => some (some v)
    | some false => afind k r
    | none => none

/-- A key that can be asked for at once. -/
def keyOk (P : Program) (t : TypeId) : PV → Bool
  | .int k _ => match P.underlying t with | some (.int k') => k == k' | _ => false
  | .str _ => match P.underlying t with | some .string => true | _ => false
  | _ => false

def amapOf (s : St) : AV → Option (List (PV × AV × Nat))
  | .p .nilm => some []
  | .map id => match s.G[id]? with | some (.map es _) => some es | _ => none
  | _ => none

def alookup (P : Program) (s : St) (t : TypeId) (m i : AV) (ok : Bool) : Option AV :=
  match P.underlying t, amapOf s m, i with
  | some (.map key elem), some es, .p k =>
    if keyOk P key k then match afind k es with
      | some (some v) => some (if ok then .tuple [v.plain, .p (.bool true)] else v.plain)
      | some none => (azero P elem).map fun z => if ok then .tuple [z, .p (.bool false)] else z
      | none => none
    else none
  | _, _, _ => none

section
variable {P : Program} {σ : Sg} {s : St} {nt : Nat} {a : Act} {w : World}

theorem info_of_underlying {t : TypeId} {d : TypeDesc} (h : P.underlying t = some d) : ∃ i, P.info? t = some i := by
  unfold Program.underlying at h
  cases hi : P.info? t with
  | none => simp [hi] at h
  | some i => exact ⟨i, rfl⟩

theorem cellsOf_info {t : TypeId} {i : TypeInfo} (h : P.info? t = some i) : P.cellsOf t = i.size := by simp [Program.cellsOf, h]

theorem run_sizeOf' {t : TypeId} {i : TypeInfo} (h : P.info? t = some i) (w : World) : (sizeOf t).run P w = .ok (P.cellsOf t) w := by
  simp [sizeOf, typeInfo, h, cellsOf_info h]

theorem run_sizeOf_ne {t : TypeId} (h : P.cellsOf t ≠ 0) (w : World) : (sizeOf t).run P w = .ok (P.cellsOf t) w := by
  cases hi : P.info? t with
  | none => simp [Program.cellsOf, hi] at h
  | some i => exact run_sizeOf' hi w

/-- What lies at an address, in the model. -/
def CellsRel (σ : Sg) (w : World) (x : Value) (cells : List AV) : Prop :=
  ∃ b o, x = .pointer (some ⟨b, o, none⟩) ∧ ∀ j v, cells[j]? = some v → ∃ u, w.cell? ⟨b, o + j, none⟩ = some u ∧ Rel σ v u

theorem cell_of_block {w : World} {b : Nat} {c : Array Value} {T : TypeId} {f : Nat × Nat} (h : w.heap[b]? = some (.cells c T f)) (o : Nat) : w.cell? ⟨b, o, none⟩ = c[o]? := by
  simp [World.cell?, h]

theorem cellsAt_rel (hr : RelS σ s nt a w) {x : AV} {x' : Value} (hx : Rel σ x x') {cells : List AV} (h : cellsAt s x = some cells) : CellsRel σ w x' cells := by
  unfold cellsAt at h
  split at h
  · rename_i k off
    split at h
    · rename_i cs hl
      simp only [Option.some.injEq] at h; subst h
      cases hx with | ptr off hb =>
      obtain ⟨b', hb', c, T, hc, hsz, hcs⟩ := hr.blks _ _ hl
      rw [hb] at hb'; cases hb'
      refine ⟨_, off, rfl, fun j v hv => ?_⟩
      rw [List.getElem?_drop] at hv
      have hlt : off + j < c.size := Nat.lt_of_lt_of_le (List.getElem?_eq_some_iff.1 hv).1 hsz
      refine ⟨c.getD (off + j) undef, ?_, hcs _ _ hv⟩
      rw [cell_of_block hc]; simp [hlt]
    · simp at h
  · simp only [Option.some.injEq] at h; subst h
    cases hx with | rop b o val hI hR =>
    refine ⟨b, o, rfl, fun j v hv => ?_⟩
    simp only [List.getElem?_map, Option.map_eq_some_iff] at hv
    obtain ⟨c, hc, rfl⟩ := hv
    exact ⟨val j, hr.wf.imm _ _ _ (hI j (List.getElem?_eq_some_iff.1 hc).1), .p (hR j c hc)⟩
  · simp at h

theorem aload_run {t : TypeId} {cells : List AV} {v : AV} (h : aload P t cells = some v) {x : Value} (hc : CellsRel σ w x cells) :
    ∃ r, (Instr.loadAt t x).run P w = .ok r w ∧ Rel σ v r := by
  obtain ⟨b, o, rfl, hcs⟩ := hc
  unfold aload at h
  have agg : ∀ d, P.underlying t = some d → (match d with | .struct _ | .array _ _ => true | _ => false) = true →
      (if P.cellsOf t ≤ cells.length then some (AV.agg ((cells.take (P.cellsOf t)).map AV.plain)) else none) = some v →
      ∃ r, (Instr.loadAt t (.pointer (some ⟨b, o, none⟩))).run P w = .ok r w ∧ Rel σ v r := by
    intro d hd hag h
    obtain ⟨i, hi⟩ := info_of_underlying hd
    split at h
    · rename_i hle
      simp only [Option.some.injEq] at h; subst h
      let f : Nat → Value := fun j => (w.cell? ⟨b, o + j, none⟩).getD undef
      have hf : ∀ j, j < P.cellsOf t → w.cell? ((⟨b, o, none⟩ : Addr).add j) = some (f j) := by
        intro j hj
        obtain ⟨u, hu, _⟩ := hcs j _ (List.getElem?_eq_getElem (show j < cells.length by omega))
        rw [add_none]; simp [f, hu]
      refine ⟨.agg ((List.range (P.cellsOf t)).map f).toArray, ?_, .agg (by simp [hle]) ?_⟩
      · simp only [Instr.loadAt, Instr.sureAddr, loadVar, isAgg, Sem.run_bind, Sem.run_pure, Result.andThen_ok, run_underlying hd]
        cases d <;> simp only [reduceCtorEq] at hag <;> simp only [Sem.run_pure, Result.andThen_ok, if_true, Sem.run_bind, run_sizeOf' hi, run_loadCells w _ _ f hf]
      · intro j v hv
        simp only [List.getElem?_map, Option.map_eq_some_iff, List.getElem?_take] at hv
        obtain ⟨u, hu, rfl⟩ := hv
        split at hu
        · rename_i hj
          obtain ⟨y, hy, hr⟩ := hcs j u hu
          have : ((List.range (P.cellsOf t)).map f).toArray.getD j undef = y := by simp [hj, f, hy]
          rw [this]; exact hr.plain
        · simp at hu
    · simp at h
  split at h
  · exact agg _ (by assumption) rfl h
  · exact agg _ (by assumption) rfl h
  · rename_i d hns hna hd
    rw [Option.map_eq_some_iff] at h
    obtain ⟨u, hu, rfl⟩ := h
    rw [List.head?_eq_getElem?] at hu
    obtain ⟨y, hy, hr⟩ := hcs 0 u hu
    refine ⟨y, ?_, hr.ld⟩
    simp only [Nat.add_zero] at hy
    simp only [Instr.loadAt, Instr.sureAddr, loadVar, isAgg, Sem.run_bind, Sem.run_pure, Result.andThen_ok, run_underlying hd]
    cases d <;> first | exact absurd hd (hns _) | exact absurd hd (hna _ _) | simp [hy]
  · simp at h

theorem afield_run {st : TypeId} {f : Nat} {x v : AV} (h : afield P st f x = some v) {x' : Value} (hx : Rel σ x x') :
    ∃ r, (Instr.fieldAt st x' f).run P w = .ok r w ∧ Rel σ v r := by
  unfold afield at h
  have key : ∀ off b o, fieldOff P st f = some off → (Instr.fieldAt st (.pointer (some ⟨b, o, none⟩)) f).run P w = .ok (.pointer (some ⟨b, o + off, none⟩)) w := by
    intro off b o hf
    unfold fieldOff at hf
    split at hf
    · rename_i fs hu
      split at hf
      · rename_i fd hfd
        split at hf
        · simp at hf
        · rename_i hne
          simp only [Option.some.injEq] at hf; subst hf
          simp [Instr.fieldAt, run_underlying hu, hfd, Instr.sureAddr, fieldPlace, run_sizeOf_ne hne, hne, add_none]
      · simp at hf
    · simp at hf
  split at h
  · rename_i off k o hf
    simp only [Option.some.injEq] at h; subst h
    cases hx with | ptr o hb => exact ⟨_, key _ _ _ hf, .ptr _ hb⟩
  · rename_i off row hf
    simp only [Option.some.injEq] at h; subst h
    cases hx with | rop b o val hI hR =>
    refine ⟨_, key _ _ _ hf, .rop b (o + off) (fun j => val (off + j)) (fun j hj => ?_) (fun j c hc => ?_)⟩
    · simp only [List.length_drop] at hj
      rw [Nat.add_assoc]; exact hI _ (by omega)
    · rw [List.getElem?_drop] at hc; exact hR _ _ hc
  · simp at h

theorem asIntOf_int (k : IntKind) (n : Int) (w : World) : (asIntOf (.int k n)).run P w = .ok (k, n) w := rfl

theorem aindex_run {t : TypeId} {x v : AV} {i : Int} (h : aindex P t x i = some v) {x' : Value} (hx : Rel σ x x') (k : IntKind) :
    ∃ r, (Instr.indexAt t x' (.int k i)).run P w = .ok r w ∧ Rel σ v r := by
  unfold aindex at h
  have vec : ∀ e rows (y : Value), P.underlying t = some (.slice e) → RelP σ.I (.vec rows) y →
      (if 0 ≤ i then match rows[i.toNat]? with
      | some row => if row.length = P.cellsOf e ∧ P.cellsOf e ≠ 0 then some (AV.rop row) else none
      | none => none
    else none) = some v → ∃ r, (Instr.indexAt t y (.int k i)).run P w = .ok r w ∧ Rel σ v r := by
    intro e rows y hu hv h
    split at h
    · rename_i h0
      split at h
      · rename_i row hrow
        split at h
        · rename_i hc
          obtain ⟨hc, hne⟩ := hc
          simp only [Option.some.injEq] at h; subst h
          cases hv with
          | vec0 => simp at hrow
          | vec _ b o cap sz val hsz hI hR hmax hcap =>
            have hlt : i.toNat < rows.length := (List.getElem?_eq_some_iff.1 hrow).1
            have hs : sz = P.cellsOf e := by rw [← hc]; exact (hsz row (List.mem_of_getElem? hrow)).symm
            have hlt' : i < (rows.length : Int) := by omega
            refine ⟨.pointer (some ⟨b, o + i.toNat * P.cellsOf e, none⟩), ?_, .rop _ _ (val i.toNat) (fun j hj => ?_) (fun j c hcc => hR _ _ _ _ hrow hcc)⟩
            · simp [Instr.indexAt, asIntOf_int, run_underlying hu, h0, hlt', run_sizeOf_ne hne, add_none]
            · rw [← hs]; exact hI _ _ hlt (by rw [hs, ← hc]; exact hj)
        · simp at h
      · simp at h
    · simp at h
  split at h
  · rename_i hu; cases hx with | p hx => exact vec _ _ _ hu hx h
  · rename_i hu; cases hx with | own hx _ => exact vec _ _ _ hu hx h
  · rename_i e key off len cap hu
    split at h
    · rename_i hc
      obtain ⟨h0, h1, hne⟩ := hc
      simp only [Option.some.injEq] at h; subst h
      cases hx with | ref _ _ _ cap' hb hcc =>
      exact ⟨.pointer (some ⟨_, off + i.toNat * P.cellsOf e, none⟩), by simp [Instr.indexAt, asIntOf_int, run_underlying hu, h0, h1, run_sizeOf_ne hne, add_none], .ptr _ hb⟩
    · simp at h
  · rename_i len e key off hu
    split at h
    · rename_i hc
      obtain ⟨h0, h1, hne⟩ := hc
      simp only [Option.some.injEq] at h; subst h
      cases hx with | ptr _ hb =>
      exact ⟨.pointer (some ⟨_, off + i.toNat * P.cellsOf e, none⟩), by simp [Instr.indexAt, asIntOf_int, run_underlying hu, h0, h1, run_sizeOf_ne hne, add_none, Instr.sureAddr], .ptr _ hb⟩
    · simp at h
  · simp at h
end
end Go.Abs
