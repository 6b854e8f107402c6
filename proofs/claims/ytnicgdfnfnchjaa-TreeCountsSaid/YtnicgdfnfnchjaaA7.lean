/-
  The operations that write: what each does to the abstract state, and that the model's own run does the same. First: a slot, a cell, a new block.
-/
import Derived.Test.YtnicgdfnfnchjaaA6
import Derived.Laws.NewBlocks
set_option linter.unusedVariables false
namespace Go.Abs

def St.put (s : St) (dst : Option Nat) (v : AV) : St :=
  match dst with
  | some d => { s with ts := (d, v) :: s.ts }
  | none => s

def dstOk (nt : Nat) : Option Nat → Bool
  | some d => decide (d < nt)
  | none => true

@[simp] theorem St.put_L (s : St) (d : Option Nat) (v : AV) : (s.put d v).L = s.L := by cases d <;> rfl
@[simp] theorem St.put_G (s : St) (d : Option Nat) (v : AV) : (s.put d v).G = s.G := by cases d <;> rfl
theorem St.look_put (s : St) (d : Option Nat) (v : AV) (k : Key) : (s.put d v).look k = s.look k := by cases d <;> cases k <;> rfl

def upd : LS → Nat → List AV → LS
  | [], t, cs => [(t, cs)]
  | (u, x) :: r, t, cs => if u = t then (u, cs) :: r else (u, x) :: upd r t cs

theorem get_upd (L : LS) (t : Nat) (cs : List AV) (t' : Nat) : get (upd L t cs) t' = if t = t' then some cs else get L t' := by
  induction L with
  | nil => simp [upd, get]
  | cons x r ih =>
    obtain ⟨u, y⟩ := x
    simp only [upd]
    split
    · rename_i e; subst e; simp only [get]; split <;> simp_all
    · rename_i e
      simp only [get, ih]
      split
      · rename_i e2; subst e2; rw [if_neg (fun h => e h.symm)]
      · rfl

theorem upd_upd (L : LS) (t : Nat) (cs cs' : List AV) : upd (upd L t cs) t cs' = upd L t cs' := by
  induction L with
  | nil => simp [upd]
  | cons x r ih =>
    obtain ⟨u, y⟩ := x
    simp only [upd]
    split
    · rename_i e; simp [upd, e]
    · rename_i e; simp [upd, e, ih]

def St.setBlk (s : St) (k : Key) (cs : List AV) : St :=
  match k with
  | .g id => { s with G := s.G.set id (.cells cs) }
  | .l t => { s with L := upd s.L t cs }

theorem St.setBlk_setBlk (s : St) (k : Key) (cs cs' : List AV) : (s.setBlk k cs).setBlk k cs' = s.setBlk k cs' := by
  cases k <;> simp [St.setBlk, upd_upd]

theorem St.look_setBlk (s : St) (k : Key) (cs cs0 : List AV) (h : s.look k = some (.cells cs0)) : (s.setBlk k cs).look k = some (.cells cs) := by
  cases k with
  | g id =>
    have : id < s.G.length := (List.getElem?_eq_some_iff.1 h).1
    simp [St.setBlk, St.look, this]
  | l t => simp [St.setBlk, St.look, get_upd]

section
variable {P : Program} {σ : Sg} {s : St} {nt : Nat} {a : Act} {w : World}

theorem RelS.put (hr : RelS σ s nt a w) {v : AV} {x : Value} (hx : Rel σ v x) {dst : Option Nat} (hd : dstOk nt dst = true) : RelS σ (s.put dst v) nt (a.put dst x) w := by
  cases dst with
  | none => exact hr
  | some d =>
    have hd : d < nt := by simpa [dstOk] using hd
    refine ⟨by simpa [Act.put] using hr.sz, hr.df, fun t y h => ?_, hr.blks, hr.cinv, hr.gfree, hr.lfree, hr.wf⟩
    simp only [St.put, get] at h
    split at h
    · rename_i e
      subst e
      simp only [Option.some.injEq] at h; subst h
      refine ⟨hd, ?_⟩
      have : d < a.tmps.size := by rw [hr.sz]; exact hd
      simpa [Act.put, Array.getD_eq_getD_getElem?, this] using hx
    · rename_i e
      obtain ⟨h1, h2⟩ := hr.vals t y h
      refine ⟨h1, ?_⟩
      simpa [Act.put, Array.getD_eq_getD_getElem?, Array.getElem?_setIfInBounds_ne e] using h2

/-- Values keep their meaning where a block is only written. -/
theorem look_g {id : Nat} {blk : Blk} (h : s.G[id]? = some blk) : s.look (.g id) = some blk := h

/-- May a value lie in the cell of such a place? -/
def AV.fits (k : Key) (v : AV) : Bool := v.chk (keyf k) (fun _ => false)

theorem BlkInv.set {k : Key} {cs : List AV} (h : BlkInv k (.cells cs)) {v : AV} {off : Nat} (hv : v.chk (keyf k) (fun t => t == .c k off) = true) : BlkInv k (.cells (cs.set off v)) := by
  intro j x hj
  rw [List.getElem?_set] at hj
  split at hj
  · rename_i e
    subst e
    split at hj
    · simp only [Option.some.injEq] at hj; subst hj; exact hv
    · simp at hj
  · exact h j x hj

theorem St.look_setBlk_ne (s : St) (k k' : Key) (cs : List AV) (h : k' ≠ k) : (s.setBlk k cs).look k' = s.look k' := by
  cases k with
  | g id =>
    cases k' with
    | g id' =>
      have : id ≠ id' := fun e => h (by rw [e])
      simp [St.setBlk, St.look, List.getElem?_set, this]
    | l t => rfl
  | l t =>
    cases k' with
    | g id' => rfl
    | l t' =>
      have : t ≠ t' := fun e => h (by rw [e])
      simp [St.setBlk, St.look, get_upd, this]

theorem heap_setCell (w : World) (b o : Nat) (x : Value) (i : Nat) : (w.setCell ⟨b, o, none⟩ x).heap[i]? =
    if b = i then (w.heap[i]?).map (fun | .cells c e f => .cells (c.setIfInBounds o x) e f | y => y) else w.heap[i]? := by
  simp only [World.setCell, Array.getElem?_modify]; rfl

theorem RelS.storeT (hr : RelS σ s nt a w) {k : Key} {cs : List AV} (hl : s.look k = some (.cells cs)) {off : Nat} (hoff : off < cs.length) {v : AV} {x : Value} (hx : Rel σ v x)
    (hv' : v.chk (keyf k) (fun t => t == .c k off) = true) : ∃ b, σ.blk k = some b ∧ (∃ u, w.cell? ⟨b, off, none⟩ = some u) ∧ w.frozen? ⟨b, off, none⟩ = false ∧
      RelS σ (s.setBlk k (cs.set off v)) nt a (w.setCell ⟨b, off, none⟩ x) ∧ Post σ σ w (w.setCell ⟨b, off, none⟩ x) := by
  obtain ⟨b, hb, c, T, hc, hsz, hcs⟩ := hr.blks _ _ hl
  have hlt : off < c.size := by omega
  have hne : ∀ k', k' ≠ k → σ.blk k' ≠ some b := fun k' hk h => hk (hr.wf.inj _ _ _ h hb)
  have hother : ∀ i, i ≠ b → (w.setCell ⟨b, off, none⟩ x).heap[i]? = w.heap[i]? := fun i hi => by rw [heap_setCell, if_neg (fun e => hi e.symm)]
  have hthis : (w.setCell ⟨b, off, none⟩ x).heap[b]? = some (.cells (c.setIfInBounds off x) T (0, 0)) := by rw [heap_setCell, if_pos rfl, hc]; rfl
  refine ⟨b, hb, ⟨c[off], by rw [cell_of_block hc]; simp [hlt]⟩, by simp [World.frozen?, hc], ?_, ?_⟩
  · have hnew : RelB σ (w.setCell ⟨b, off, none⟩ x) b (.cells (cs.set off v)) := by
      refine ⟨_, T, hthis, by simpa using hsz, fun j y hj => ?_⟩
      rw [List.getElem?_set] at hj
      split at hj
      · rename_i e
        subst e
        simp only [hoff, if_true, Option.some.injEq] at hj; subst hj
        simpa [Array.getD_eq_getD_getElem?, hlt] using hx
      · rename_i e
        have := hcs j y hj
        simpa [Array.getD_eq_getD_getElem?, Array.getElem?_setIfInBounds_ne e] using this
    refine ⟨hr.sz, hr.df, ?_, ?_, ?_, ?_, ?_, ?_⟩
    · cases k <;> exact hr.vals
    · intro k' blk h
      by_cases hk : k' = k
      · subst hk
        rw [St.look_setBlk _ _ _ _ hl] at h
        simp only [Option.some.injEq] at h; subst h
        exact ⟨b, hb, hnew⟩
      · rw [St.look_setBlk_ne _ _ _ _ hk] at h
        obtain ⟨b', hb', hB⟩ := hr.blks _ _ h
        have hbb : b' ≠ b := fun e => hne _ hk (e ▸ hb')
        refine ⟨b', hb', ?_⟩
        cases blk with
        | cells cs' => obtain ⟨c', T', h1, h2⟩ := hB; exact ⟨c', T', by rw [hother _ hbb]; exact h1, h2⟩
        | map es cl => obtain ⟨es', h1, h2⟩ := hB; exact ⟨es', by rw [hother _ hbb]; exact h1, h2⟩
        | dead => trivial
    · intro k' blk h
      by_cases hk : k' = k
      · subst hk
        rw [St.look_setBlk _ _ _ _ hl] at h
        simp only [Option.some.injEq] at h; subst h
        exact (hr.cinv _ _ hl).set hv'
      · rw [St.look_setBlk_ne _ _ _ _ hk] at h
        exact hr.cinv _ _ h
    · intro id h
      cases k with
      | g id' => exact hr.gfree _ (by simpa [St.setBlk] using h)
      | l t => exact hr.gfree _ h
    · intro t h
      cases k with
      | g id' => exact hr.lfree _ h
      | l t' =>
        simp only [St.setBlk, get_upd] at h
        split at h
        · simp at h
        · exact hr.lfree _ h
    · refine ⟨hr.wf.inj, hr.wf.injt, hr.wf.injtt, fun k b h => by simpa using hr.wf.lt k b h, fun t b' e l h => ?_, hr.wf.blkI, fun b' o u h => ?_⟩
      · have hbb : b' ≠ b := fun e' => hr.wf.injt _ _ _ _ _ hb (e' ▸ h)
        obtain ⟨⟨c', T', h1, h2⟩, h3⟩ := hr.wf.tokw _ _ _ _ h
        exact ⟨⟨c', T', by rw [hother _ hbb]; exact h1, h2⟩, h3⟩
      · have hbb : b' ≠ b := fun e' => by
          have := hr.wf.blkI _ _ o hb
          rw [e', this] at h; simp at h
        have := hr.wf.imm _ _ _ h
        simpa [World.cell?, hother _ hbb] using this
  · exact ⟨fun _ _ _ h => h, fun _ _ _ h => .inl h, fun _ h => .inl h, fun _ _ h => h, fun b' hb' hn => hother _ (fun e => hn (e ▸ .inl ⟨k, hb⟩)), by simp, rfl, rfl, rfl, rfl, frozen_same fun i => if e : i = b then .inr ⟨by rw [e]; exact nf_cells hc, by rw [e]; exact nf_cells hthis⟩ else .inl (hother i e)⟩

theorem RelS.store (hr : RelS σ s nt a w) {k : Key} {cs : List AV} (hl : s.look k = some (.cells cs)) {off : Nat} (hoff : off < cs.length) {v : AV} {x : Value} (hx : Rel σ v x)
    (hf : v.fits k = true) : ∃ b, σ.blk k = some b ∧ (∃ u, w.cell? ⟨b, off, none⟩ = some u) ∧ w.frozen? ⟨b, off, none⟩ = false ∧
      RelS σ (s.setBlk k (cs.set off v)) nt a (w.setCell ⟨b, off, none⟩ x) ∧ Post σ σ w (w.setCell ⟨b, off, none⟩ x) :=
  hr.storeT hl hoff hx (chk_imp (fun _ h => h) (fun _ h => by simp at h) _ hf)

def Sg.setBlk (σ : Sg) (k : Key) (b : Nat) : Sg := { σ with blk := fun k' => if k' = k then some b else σ.blk k' }

theorem Sg.setBlk_mono {k : Key} {b : Nat} (hk : σ.blk k = none) (k' : Key) (b' : Nat) (h : σ.blk k' = some b') : (σ.setBlk k b).blk k' = some b' := by
  simp only [Sg.setBlk]
  split
  · rename_i e; rw [e, hk] at h; simp at h
  · exact h

theorem Rel.new {k : Key} {b : Nat} (hk : σ.blk k = none) {v : AV} {x : Value} (h : Rel σ v x) : Rel (σ.setBlk k b) v x :=
  Rel.mono (σ := σ) (σ' := σ.setBlk k b) (fun _ _ _ h => h) (fun k' b' h => Sg.setBlk_mono hk k' b' h) (fun _ _ h => h) h

theorem heap_alloc (w : World) (o : Obj) (i : Nat) (h : i < w.heap.size) : (w.alloc o).heap[i]? = w.heap[i]? := by
  show (w.heap.push o)[i]? = _
  rw [Array.getElem?_push, if_neg (by omega)]

theorem heap_alloc_new (w : World) (o : Obj) : (w.alloc o).heap[w.heap.size]? = some o := by
  show (w.heap.push o)[w.heap.size]? = _
  simp

theorem RelB.lt {b : Nat} {blk : Blk} (hd : blk ≠ .dead) (h : RelB σ w b blk) : b < w.heap.size := by
  cases blk with
  | cells cs => obtain ⟨c, T, h1, _⟩ := h; exact (Array.getElem?_eq_some_iff.1 h1).1
  | map es cl => obtain ⟨c, h1, _⟩ := h; exact (Array.getElem?_eq_some_iff.1 h1).1
  | dead => exact absurd rfl hd

theorem RelB.grow {σ' : Sg} {w' : World} (hI : ∀ b o v, σ.I b o = some v → σ'.I b o = some v) (hR : ∀ v x, Rel σ v x → Rel σ' v x) {b : Nat} {blk : Blk}
    (hw : blk ≠ .dead → w'.heap[b]? = w.heap[b]?) (h : RelB σ w b blk) : RelB σ' w' b blk := by
  cases blk with
  | cells cs => obtain ⟨c, T, h1, h2, h3⟩ := h; exact ⟨c, T, by rw [hw (by simp)]; exact h1, h2, fun j x hj => hR _ _ (h3 j x hj)⟩
  | map es cl => obtain ⟨c, h1, h2, h3⟩ := h; exact ⟨c, by rw [hw (by simp)]; exact h1, h2, fun j k v n hj => ⟨(h3 j k v n hj).1.mono hI, hR _ _ (h3 j k v n hj).2.1, (h3 j k v n hj).2.2⟩⟩
  | dead => trivial

theorem WFS.imm_lt (h : WFS σ w) {b o : Nat} {v : Value} (e : σ.I b o = some v) : b < w.heap.size :=
  World.block_lt_of_cell? (w := w) (a := ⟨b, o, none⟩) (h.imm _ _ _ e)

theorem WFS.new (h : WFS σ w) {k : Key} (hk : σ.blk k = none) (o : Obj) : WFS (σ.setBlk k w.heap.size) (w.alloc o) := by
  have old : ∀ k' b, k' ≠ k → (σ.setBlk k w.heap.size).blk k' = some b → σ.blk k' = some b := fun k' b hk' e => by simpa [Sg.setBlk, hk'] using e
  have new : ∀ b, (σ.setBlk k w.heap.size).blk k = some b → b = w.heap.size := fun b e => by simpa [Sg.setBlk, eq_comm] using e
  refine ⟨fun k1 k2 b h1 h2 => ?_, fun k' t b e l h1 h2 => ?_, h.injtt, fun k' b h1 => ?_, fun t b e l h1 => ?_, fun k' b o' h1 => ?_, fun b o' v h1 => ?_⟩
  · by_cases e1 : k1 = k
    · by_cases e2 : k2 = k
      · rw [e1, e2]
      · subst e1; have := new b h1; have := h.lt _ _ (old _ _ e2 h2); omega
    · by_cases e2 : k2 = k
      · subst e2; have := new b h2; have := h.lt _ _ (old _ _ e1 h1); omega
      · exact h.inj _ _ _ (old _ _ e1 h1) (old _ _ e2 h2)
  · by_cases e1 : k' = k
    · subst e1
      have := new b h1
      obtain ⟨⟨c, T, h3, _⟩, _⟩ := h.tokw _ _ _ _ h2
      have := (Array.getElem?_eq_some_iff.1 h3).1
      omega
    · exact h.injt _ _ _ _ _ (old _ _ e1 h1) h2
  · rw [World.size_alloc]
    by_cases e1 : k' = k
    · subst e1; have := new b h1; omega
    · have := h.lt _ _ (old _ _ e1 h1); omega
  · obtain ⟨⟨c, T, h3, h4⟩, h5⟩ := h.tokw _ _ _ _ h1
    exact ⟨⟨c, T, by rw [heap_alloc _ _ _ (Array.getElem?_eq_some_iff.1 h3).1]; exact h3, h4⟩, h5⟩
  · by_cases e1 : k' = k
    · subst e1
      have := new b h1
      subst this
      cases e : σ.I w.heap.size o' with
      | none => exact e
      | some v => have := h.imm_lt e; omega
    · exact h.blkI _ _ _ (old _ _ e1 h1)
  · have h1 : σ.I b o' = some v := h1
    rw [World.cell?_alloc_lt _ _ _ (h.imm_lt h1)]
    exact h.imm _ _ _ h1

theorem Post.new (h : WFS σ w) {k : Key} (hk : σ.blk k = none) (o : Obj) (hnf : ∀ c T r, o = .cells c T r → r = (0, 0)) : Post σ (σ.setBlk k w.heap.size) w (w.alloc o) := by
  refine ⟨fun _ _ _ h => h, fun _ _ _ h => .inl h, fun b hb => ?_, fun id b e => Sg.setBlk_mono hk _ _ e, fun b hb _ => heap_alloc _ _ _ hb, by simp, rfl, rfl, rfl, rfl, frozen_alloc hnf⟩
  rcases hb with ⟨k', hb⟩ | ⟨t, e, l, hb⟩
  · by_cases e1 : k' = k
    · subst e1
      right
      have : b = w.heap.size := by simpa [Sg.setBlk, eq_comm] using hb
      omega
    · exact .inl (.inl ⟨k', by simpa [Sg.setBlk, e1] using hb⟩)
  · exact .inl (.inr ⟨t, e, l, hb⟩)

/-- A new block of the heap. -/
theorem RelS.newG (hr : RelS σ s nt a w) {o : Obj} {blk : Blk} (hB : RelB (σ.setBlk (.g s.G.length) w.heap.size) (w.alloc o) w.heap.size blk) (hc : BlkInv (.g s.G.length) blk) (hnf : ∀ c T r, o = .cells c T r → r = (0, 0) := by intro c T r h; cases h <;> rfl) :
    RelS (σ.setBlk (.g s.G.length) w.heap.size) { s with G := s.G ++ [blk] } nt a (w.alloc o) ∧ Post σ (σ.setBlk (.g s.G.length) w.heap.size) w (w.alloc o) := by
  have hk := hr.gfree s.G.length (Nat.le_refl _)
  refine ⟨⟨hr.sz, hr.df, fun t x h => ⟨(hr.vals t x h).1, (hr.vals t x h).2.new hk⟩, fun k blk' h => ?_, fun k blk' h => ?_, fun id h => ?_, fun t h => ?_, hr.wf.new hk o⟩, Post.new hr.wf hk o hnf⟩
  · have old : s.look k = some blk' → ∃ b, (σ.setBlk (.g s.G.length) w.heap.size).blk k = some b ∧ RelB (σ.setBlk (.g s.G.length) w.heap.size) (w.alloc o) b blk' := fun h => by
      obtain ⟨b, h1, h2⟩ := hr.blks _ _ h
      exact ⟨b, Sg.setBlk_mono hk _ _ h1, RelB.grow (σ := σ) (σ' := σ.setBlk (.g s.G.length) w.heap.size) (w := w) (fun _ _ _ h => h) (fun _ _ h => h.new hk) (fun hd => heap_alloc _ _ _ (h2.lt hd)) h2⟩
    cases k with
    | g id =>
      simp only [St.look, List.getElem?_append] at h
      split at h
      · exact old h
      · rename_i hge
        have : id = s.G.length := by
          have := (List.getElem?_eq_some_iff.1 h).1
          simp at this; omega
        subst this
        simp at h; subst h
        exact ⟨w.heap.size, by simp [Sg.setBlk], hB⟩
    | l t => exact old h
  · cases k with
    | g id =>
      simp only [St.look, List.getElem?_append] at h
      split at h
      · exact hr.cinv (.g id) _ h
      · rename_i hge
        have : id = s.G.length := by
          have := (List.getElem?_eq_some_iff.1 h).1
          simp at this; omega
        subst this
        simp at h; subst h; exact hc
    | l t => exact hr.cinv (.l t) _ h
  · simp only [List.length_append, List.length_cons, List.length_nil] at h
    have : Key.g id ≠ .g s.G.length := by simp; omega
    simp [Sg.setBlk, this, hr.gfree id (by omega)]
  · simp [Sg.setBlk, hr.lfree t h]

/-- A new variable that a slot points to. -/
theorem RelS.newL (hr : RelS σ s nt a w) {o : Obj} {t : Nat} (ht : get s.L t = none) {cs : List AV} (hB : RelB (σ.setBlk (.l t) w.heap.size) (w.alloc o) w.heap.size (.cells cs)) (hc : BlkInv (.l t) (.cells cs)) (hnf : ∀ c T r, o = .cells c T r → r = (0, 0) := by intro c T r h; cases h <;> rfl) :
    RelS (σ.setBlk (.l t) w.heap.size) { s with L := (t, cs) :: s.L } nt a (w.alloc o) ∧ Post σ (σ.setBlk (.l t) w.heap.size) w (w.alloc o) := by
  have hk := hr.lfree t ht
  refine ⟨⟨hr.sz, hr.df, fun t x h => ⟨(hr.vals t x h).1, (hr.vals t x h).2.new hk⟩, fun k blk' h => ?_, fun k blk' h => ?_, fun id h => ?_, fun t' h => ?_, hr.wf.new hk o⟩, Post.new hr.wf hk o hnf⟩
  · have old : s.look k = some blk' → ∃ b, (σ.setBlk (.l t) w.heap.size).blk k = some b ∧ RelB (σ.setBlk (.l t) w.heap.size) (w.alloc o) b blk' := fun h => by
      obtain ⟨b, h1, h2⟩ := hr.blks _ _ h
      exact ⟨b, Sg.setBlk_mono hk _ _ h1, RelB.grow (σ := σ) (σ' := σ.setBlk (.l t) w.heap.size) (w := w) (fun _ _ _ h => h) (fun _ _ h => h.new hk) (fun hd => heap_alloc _ _ _ (h2.lt hd)) h2⟩
    cases k with
    | g id => exact old h
    | l t' =>
      simp only [St.look, get] at h
      split at h
      · rename_i e
        subst e
        simp at h; subst h
        exact ⟨w.heap.size, by simp [Sg.setBlk], hB⟩
      · exact old h
  · cases k with
    | g id => exact hr.cinv (.g id) _ h
    | l t' =>
      simp only [St.look, get] at h
      split at h
      · rename_i e
        subst e
        simp at h; subst h; exact hc
      · exact hr.cinv (.l t') _ h
  · simp [Sg.setBlk, hr.gfree id h]
  · simp only [get] at h
    split at h
    · simp at h
    · rename_i e
      have : Key.l t' ≠ .l t := by simp; exact fun e' => e e'.symm
      simp [Sg.setBlk, this, hr.lfree t' h]
end
end Go.Abs
