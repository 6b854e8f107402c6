/-
  Put together out of texts of this work: A1, A2, A3, A4, A5, A6, A7, A8, A9, A10, A11, A12, A13, A14, A15, B1, B2, B3, B4, A16, A17.
-/
import Derived.Below
import Derived.OrdersHeld
import Derived.Calls
import Derived.Deep.LoopGhost
import Derived.Laws.Cells
import Derived.Laws.Entries
import Derived.Laws.NewBlocks
set_option linter.unusedSimpArgs false
set_option linter.unusedVariables false
/-
  An abstract memory over the model's worlds: data that nobody writes any more ('PV'), values with places of the call's own ('AV'), and what it means that a world is as the abstract state says.
-/
set_option linter.unusedVariables false
namespace Go.Abs

/-- Data that nobody writes any more. A slice is the list of its elements, an element the list of its cells. -/
inductive PV where
  | bool (b : Bool)
  | int (k : IntKind) (n : Int)
  | str (s : ByteArray)
  | vec (rows : List (List PV))
  | nilp
  | nilm
  | nilf
  | nili

/-- A place of the state: a block of the heap, or the variable that slot t of the frame points to. -/
inductive Key where
  | g (id : Nat)
  | l (t : Nat)
  deriving DecidableEq

/-- Who may append: a slot of the frame, or a cell. -/
inductive Tok where
  | s (t : Nat)
  | c (k : Key) (off : Nat)
  | n
  deriving DecidableEq

inductive AV where
  | p (v : PV)
  | own (rows : List (List PV)) (k : Tok)
  | full (rows : List (List PV))
  | ptr (k : Key) (off : Nat)
  | ref (k : Key) (off len cap : Nat)
  | rop (row : List PV)
  | map (id : Nat)
  | fn (f : FuncId) (first caps : List AV)
  | iface (t : TypeId) (v : AV)
  | agg (cells : List AV)
  | tuple (l : List AV)
  | undef

/-- What the state says nothing about in itself: which cells stand for ever, which block a place is, who may grow which block from where. -/
structure Sg where
  I : Nat → Nat → Option Value
  blk : Key → Option Nat
  tok : Tok → Option (Nat × Nat × Nat)
  D : List Deferred := []

def Sg.Owns (σ : Sg) (b : Nat) : Prop := (∃ k, σ.blk k = some b) ∨ ∃ t e l, σ.tok t = some (b, e, l)

inductive RelP (I : Nat → Nat → Option Value) : PV → Value → Prop where
  | bool (b : Bool) : RelP I (.bool b) (.bool b)
  | int (k : IntKind) (n : Int) : RelP I (.int k n) (.int k n)
  | str (s : ByteArray) : RelP I (.str s) (.string s)
  | nilp : RelP I .nilp (.pointer none)
  | nilm : RelP I .nilm (.map none)
  | nilf : RelP I .nilf .nilFunc
  | nili : RelP I .nili .nilIface
  | vec0 (a : Option Addr) (cap : Nat) : RelP I (.vec []) (.slice a 0 cap)
  | vec (rows : List (List PV)) (b o cap sz : Nat) (val : Nat → Nat → Value) (hsz : ∀ row ∈ rows, row.length = sz)
      (hI : ∀ i j, i < rows.length → j < sz → I b (o + i * sz + j) = some (val i j))
      (hR : ∀ i (row : List PV) j c, rows[i]? = some row → row[j]? = some c → RelP I c (val i j))
      (hmax : rows.length ≤ maxLen) (hcap : rows.length ≤ cap) : RelP I (.vec rows) (.slice (some ⟨b, o, none⟩) rows.length cap)

theorem RelP.mono {I I' : Nat → Nat → Option Value} (h : ∀ b o v, I b o = some v → I' b o = some v) {v : PV} {x : Value} (r : RelP I v x) : RelP I' v x := by
  induction r with
  | bool b => exact .bool b
  | int k n => exact .int k n
  | str s => exact .str s
  | nilp => exact .nilp
  | nilm => exact .nilm
  | nilf => exact .nilf
  | nili => exact .nili
  | vec0 a cap => exact .vec0 a cap
  | vec rows b o cap sz val hsz hI hR hmax hcap ih =>
    exact .vec rows b o cap sz val hsz (fun i j hi hj => h _ _ _ (hI i j hi hj)) (fun i row j c hr hc => ih i row j c hr hc) hmax hcap

inductive Rel (σ : Sg) : AV → Value → Prop where
  | p {v : PV} {x : Value} (h : RelP σ.I v x) : Rel σ (.p v) x
  | own {rows : List (List PV)} {k : Tok} {a : Option Addr} {len cap : Nat} (h : RelP σ.I (.vec rows) (.slice a len cap))
      (ho : cap = len ∨ ∃ b o sz l, k ≠ .n ∧ a = some ⟨b, o, none⟩ ∧ (∀ row ∈ rows, row.length = sz) ∧ rows ≠ [] ∧ σ.tok k = some (b, o + len * sz, l) ∧ o + cap * sz ≤ l) : Rel σ (.own rows k) (.slice a len cap)
  | full {rows : List (List PV)} {a : Option Addr} {len : Nat} (h : RelP σ.I (.vec rows) (.slice a len len)) : Rel σ (.full rows) (.slice a len len)
  | ptr {k : Key} {b : Nat} (off : Nat) (h : σ.blk k = some b) : Rel σ (.ptr k off) (.pointer (some ⟨b, off, none⟩))
  | ref {k : Key} {b : Nat} (off len cap cap' : Nat) (h : σ.blk k = some b) (hc : cap ≤ cap') : Rel σ (.ref k off len cap) (.slice (some ⟨b, off, none⟩) len cap')
  | rop {row : List PV} (b o : Nat) (val : Nat → Value) (hI : ∀ j, j < row.length → σ.I b (o + j) = some (val j))
      (hR : ∀ j c, row[j]? = some c → RelP σ.I c (val j)) : Rel σ (.rop row) (.pointer (some ⟨b, o, none⟩))
  | map {id b : Nat} (h : σ.blk (.g id) = some b) : Rel σ (.map id) (.map (some b))
  | fn {f : FuncId} {first caps : List AV} {first' caps' : Array Value} (h1 : first'.size = first.length) (h2 : caps'.size = caps.length)
      (h3 : ∀ i x, first[i]? = some x → Rel σ x (first'.getD i undef)) (h4 : ∀ i x, caps[i]? = some x → Rel σ x (caps'.getD i undef)) : Rel σ (.fn f first caps) (.func (.func f) first' caps')
  | iface {t : TypeId} {v : AV} {x : Value} (h : Rel σ v x) : Rel σ (.iface t v) (.iface t x)
  | agg {l : List AV} {l' : Array Value} (h1 : l'.size = l.length) (h2 : ∀ i x, l[i]? = some x → Rel σ x (l'.getD i undef)) : Rel σ (.agg l) (.agg l')
  | tuple {l : List AV} {l' : Array Value} (h1 : l'.size = l.length) (h2 : ∀ i x, l[i]? = some x → Rel σ x (l'.getD i undef)) : Rel σ (.tuple l) (.tuple l')
  | undef (x : Value) : Rel σ .undef x

mutual
/-- Do all places and tokens in a value pass? -/
def AV.chk (f : Key → Bool) (g : Tok → Bool) : AV → Bool
  | .p _ => true
  | .own _ k => g k
  | .full _ => true
  | .ptr k _ => f k
  | .ref k _ _ _ => f k
  | .rop _ => true
  | .map id => f (.g id)
  | .fn _ a b => AV.chks f g a && AV.chks f g b
  | .iface _ v => AV.chk f g v
  | .agg l => AV.chks f g l
  | .tuple l => AV.chks f g l
  | .undef => true
def AV.chks (f : Key → Bool) (g : Tok → Bool) : List AV → Bool
  | [] => true
  | x :: r => AV.chk f g x && AV.chks f g r
end

theorem AV.chks_get {f : Key → Bool} {g : Tok → Bool} {l : List AV} (h : AV.chks f g l = true) {i : Nat} {x : AV} (hx : l[i]? = some x) : x.chk f g = true := by
  induction l generalizing i with
  | nil => simp at hx
  | cons y r ih =>
    simp only [AV.chks, Bool.and_eq_true] at h
    cases i with
    | zero => simp at hx; exact hx ▸ h.1
    | succ i => exact ih h.2 (by simpa using hx)

/-- What is related stays so where the places and tokens that it names stay. -/
theorem Rel.keep {σ σ' : Sg} {f : Key → Bool} {g : Tok → Bool} (hI : ∀ b o v, σ.I b o = some v → σ'.I b o = some v) (hb : ∀ k b, f k = true → σ.blk k = some b → σ'.blk k = some b)
    (ht : ∀ t x, g t = true → σ.tok t = some x → σ'.tok t = some x) {v : AV} {x : Value} (r : Rel σ v x) (hv : v.chk f g = true) : Rel σ' v x := by
  induction r with
  | p h => exact .p (h.mono hI)
  | full h => exact .full (h.mono hI)
  | own h ho =>
    refine .own (h.mono hI) (ho.imp id ?_)
    rintro ⟨b, o, sz, l, h0, h1, h2, h3, h4, h5⟩
    exact ⟨b, o, sz, l, h0, h1, h2, h3, ht _ _ (by simpa [AV.chk] using hv) h4, h5⟩
  | ptr off h => exact .ptr off (hb _ _ (by simpa [AV.chk] using hv) h)
  | ref off len cap cap' h hc => exact .ref off len cap cap' (hb _ _ (by simpa [AV.chk] using hv) h) hc
  | rop b o val hI' hR => exact .rop b o val (fun j hj => hI _ _ _ (hI' j hj)) (fun j c hc => (hR j c hc).mono hI)
  | map h => exact .map (hb _ _ (by simpa [AV.chk] using hv) h)
  | fn h1 h2 h3 h4 ih3 ih4 =>
    simp only [AV.chk, Bool.and_eq_true] at hv
    exact .fn h1 h2 (fun i x hx => ih3 i x hx (AV.chks_get hv.1 hx)) (fun i x hx => ih4 i x hx (AV.chks_get hv.2 hx))
  | iface h ih => exact .iface (ih (by simpa [AV.chk] using hv))
  | agg h1 h2 ih => exact .agg h1 (fun i x hx => ih i x hx (AV.chks_get (by simpa [AV.chk] using hv) hx))
  | tuple h1 h2 ih => exact .tuple h1 (fun i x hx => ih i x hx (AV.chks_get (by simpa [AV.chk] using hv) hx))
  | undef x => exact .undef x

/-- Where nothing that is there turns. -/
theorem Rel.mono {σ σ' : Sg} (hI : ∀ b o v, σ.I b o = some v → σ'.I b o = some v) (hb : ∀ k b, σ.blk k = some b → σ'.blk k = some b)
    (ht : ∀ t x, σ.tok t = some x → σ'.tok t = some x) {v : AV} {x : Value} (r : Rel σ v x) : Rel σ' v x := by
  induction r with
  | p h => exact .p (h.mono hI)
  | full h => exact .full (h.mono hI)
  | own h ho =>
    refine .own (h.mono hI) (ho.imp id ?_)
    rintro ⟨b, o, sz, l, h0, h1, h2, h3, h4, h5⟩
    exact ⟨b, o, sz, l, h0, h1, h2, h3, ht _ _ h4, h5⟩
  | ptr off h => exact .ptr off (hb _ _ h)
  | ref off len cap cap' h hc => exact .ref off len cap cap' (hb _ _ h) hc
  | rop b o val hI' hR => exact .rop b o val (fun j hj => hI _ _ _ (hI' j hj)) (fun j c hc => (hR j c hc).mono hI)
  | map h => exact .map (hb _ _ h)
  | fn h1 h2 h3 h4 ih3 ih4 => exact .fn h1 h2 ih3 ih4
  | iface h ih => exact .iface ih
  | agg h1 h2 ih => exact .agg h1 ih
  | tuple h1 h2 ih => exact .tuple h1 ih
  | undef x => exact .undef x

mutual
theorem chk_imp {f f' : Key → Bool} {g g' : Tok → Bool} (hf : ∀ k, f k = true → f' k = true) (hg : ∀ t, g t = true → g' t = true) : ∀ v : AV, v.chk f g = true → v.chk f' g' = true
  | .own rows k, h => hg _ h
  | .full rows, h => rfl
  | .fn q a b, h => by simp only [AV.chk, Bool.and_eq_true] at *; exact ⟨chks_imp hf hg a h.1, chks_imp hf hg b h.2⟩
  | .iface t v, h => by simp only [AV.chk] at *; exact chk_imp hf hg v h
  | .agg l, h => by simp only [AV.chk] at *; exact chks_imp hf hg l h
  | .tuple l, h => by simp only [AV.chk] at *; exact chks_imp hf hg l h
  | .p v, h => rfl
  | .ptr k o, h => hf _ h
  | .ref k a b c, h => hf _ h
  | .rop r, h => rfl
  | .map id, h => hf _ h
  | .undef, h => rfl
theorem chks_imp {f f' : Key → Bool} {g g' : Tok → Bool} (hf : ∀ k, f k = true → f' k = true) (hg : ∀ t, g t = true → g' t = true) : ∀ l : List AV, AV.chks f g l = true → AV.chks f' g' l = true
  | [], h => rfl
  | x :: r, h => by simp only [AV.chks, Bool.and_eq_true] at *; exact ⟨chk_imp hf hg x h.1, chks_imp hf hg r h.2⟩
end

inductive Blk where
  | cells (cs : List AV)
  | map (es : List (PV × AV × Nat)) (clock : Nat)
  | dead
  | iter (m since : Nat) (seen : List Nat) (c0 : Nat)

def isC : Tok → Bool
  | .c _ _ => true
  | _ => false
def isCG : Tok → Bool
  | .c (.g _) _ => true
  | _ => false
def isG : Key → Bool
  | .g _ => true
  | _ => false

/-- Which places a value may name that lies in the cell of such a place. -/
def keyf : Key → Key → Bool
  | .g _, .g _ => true
  | .g _, .l _ => false
  | .l _, _ => true

/-- What lies in a block names places that may be named there; who may append is the cell itself. -/
def BlkInv (k : Key) : Blk → Prop
  | .cells cs => ∀ (j : Nat) (x : AV), cs[j]? = some x → x.chk (keyf k) (fun t => t == .c k j) = true
  | .map es _ => ∀ (j : Nat) (e : PV × AV × Nat), es[j]? = some e → e.2.1.chk (keyf k) (fun _ => false) = true
  | .dead => True
  | .iter _ _ _ _ => isG k = true

abbrev TS := List (Nat × AV)
abbrev LS := List (Nat × List AV)

def get {α : Type} : List (Nat × α) → Nat → Option α
  | [], _ => none
  | (u, x) :: r, t => if u = t then some x else get r t

structure St where
  ts : TS
  L : LS
  G : List Blk

def St.look (s : St) : Key → Option Blk
  | .g id => s.G[id]?
  | .l t => (get s.L t).map .cells

def RelB (σ : Sg) (w : World) (b : Nat) : Blk → Prop
  | .cells cs => ∃ c T, w.heap[b]? = some (.cells c T (0, 0)) ∧ cs.length ≤ c.size ∧ ∀ j x, cs[j]? = some x → Rel σ x (c.getD j undef)
  | .map es clock => ∃ es' : Array MapEntry, w.heap[b]? = some (.map es' clock) ∧ es'.size = es.length ∧
      ∀ (j : Nat) (k : PV) (v : AV) (n : Nat), es[j]? = some (k, v, n) → RelP σ.I k (es'.getD j default).key ∧ Rel σ v (es'.getD j default).val ∧ (es'.getD j default).born = n
  | .dead => True
  | .iter m since seen c0 => ∃ bm, σ.blk (.g m) = some bm ∧ w.heap[b]? = some (.mapIter (some bm) since seen.toArray c0)

structure WFS (σ : Sg) (w : World) : Prop where
  inj : ∀ k k' b, σ.blk k = some b → σ.blk k' = some b → k = k'
  injt : ∀ k t b e l, σ.blk k = some b → σ.tok t ≠ some (b, e, l)
  injtt : ∀ t t' b e l e' l', σ.tok t = some (b, e, l) → σ.tok t' = some (b, e', l') → t = t'
  lt : ∀ k b, σ.blk k = some b → b < w.heap.size
  tokw : ∀ t b e l, σ.tok t = some (b, e, l) → (∃ c T, w.heap[b]? = some (.cells c T (0, 0)) ∧ l ≤ c.size) ∧ ∀ o, e ≤ o → σ.I b o = none
  blkI : ∀ k b o, σ.blk k = some b → σ.I b o = none
  imm : ∀ b o v, σ.I b o = some v → w.cell? ⟨b, o, none⟩ = some v

structure RelS (σ : Sg) (s : St) (nt : Nat) (a : Act) (w : World) : Prop where
  sz : a.tmps.size = nt
  df : a.defers = σ.D
  vals : ∀ t x, get s.ts t = some x → t < nt ∧ Rel σ x (a.tmps.getD t undef)
  blks : ∀ k blk, s.look k = some blk → ∃ b, σ.blk k = some b ∧ RelB σ w b blk
  cinv : ∀ k blk, s.look k = some blk → BlkInv k blk
  gfree : ∀ id, s.G.length ≤ id → σ.blk (.g id) = none
  lfree : ∀ t, get s.L t = none → σ.blk (.l t) = none
  wf : WFS σ w

/-- What a stretch of a run may turn. -/
structure Post (σ σ' : Sg) (w w' : World) : Prop where
  I : ∀ b o v, σ.I b o = some v → σ'.I b o = some v
  In : ∀ b o v, σ'.I b o = some v → σ.I b o = some v ∨ σ.Owns b ∨ w.heap.size ≤ b
  own : ∀ b, σ'.Owns b → σ.Owns b ∨ w.heap.size ≤ b
  keys : ∀ id b, σ.blk (.g id) = some b → σ'.blk (.g id) = some b
  frame : ∀ b, b < w.heap.size → ¬ σ.Owns b → w'.heap[b]? = w.heap[b]?
  size : w.heap.size ≤ w'.heap.size
  os : w'.os = w.os
  tape : w'.tape = w.tape
  output : w'.output = w.output
  D : σ'.D = σ.D
  fz : ∀ a, w'.frozen? a = w.frozen? a

/-- No cell of the object is for ever of itself. -/
def NF (o : Option Obj) : Prop := ∀ c T r, o = some (.cells c T r) → r = (0, 0)

theorem frozen_of_nf {w : World} {a : Addr} (h : NF w.heap[a.block]?) : w.frozen? a = false := by
  unfold World.frozen?
  split
  · rename_i c T lo hi e
    have := h _ _ _ e
    simp only [Prod.mk.injEq] at this
    simp [this.1, this.2]
  · rfl

theorem frozen_same {w w' : World} (h : ∀ b : Nat, w'.heap[b]? = w.heap[b]? ∨ (NF w.heap[b]? ∧ NF w'.heap[b]?)) (a : Addr) : w'.frozen? a = w.frozen? a := by
  rcases h a.block with h | ⟨h1, h2⟩
  · unfold World.frozen?; rw [h]
  · rw [frozen_of_nf h1, frozen_of_nf h2]

theorem nf_cells {c : Array Value} {T : TypeId} {o : Option Obj} (h : o = some (.cells c T (0, 0))) : NF o := fun c' T' r e => by
  rw [h] at e; cases e; rfl
theorem nf_map {es : Array MapEntry} {n : Nat} {o : Option Obj} (h : o = some (.map es n)) : NF o := fun c' T' r e => by
  rw [h] at e; cases e

theorem frozen_alloc {w : World} {o : Obj} (h : ∀ c T r, o = .cells c T r → r = (0, 0)) (a : Addr) : (w.alloc o).frozen? a = w.frozen? a := by
  refine frozen_same (fun b => ?_) a
  by_cases hb : b = w.heap.size
  · subst hb
    refine .inr ⟨fun c T r e => by simp at e, fun c T r e => ?_⟩
    have : (w.alloc o).heap[w.heap.size]? = some o := by show (w.heap.push o)[w.heap.size]? = _; simp
    rw [this] at e
    exact h c T r (by simpa using e)
  · left
    show (w.heap.push o)[b]? = _
    rw [Array.getElem?_push, if_neg hb]

theorem Post.refl (σ : Sg) (w : World) : Post σ σ w w :=
  ⟨fun _ _ _ h => h, fun _ _ _ h => .inl h, fun _ h => .inl h, fun _ _ h => h, fun _ _ _ => rfl, Nat.le_refl _, rfl, rfl, rfl, rfl, fun _ => rfl⟩

theorem Post.trans {σ σ' σ'' : Sg} {w w' w'' : World} (h : Post σ σ' w w') (k : Post σ' σ'' w' w'') : Post σ σ'' w w'' where
  I := fun b o v e => k.I _ _ _ (h.I _ _ _ e)
  In := fun b o v e => by
    rcases k.In _ _ _ e with e | e | e
    · exact h.In _ _ _ e
    · rcases h.own _ e with e | e
      · exact .inr (.inl e)
      · exact .inr (.inr e)
    · exact .inr (.inr (Nat.le_trans h.size e))
  own := fun b e => by
    rcases k.own _ e with e | e
    · exact h.own _ e
    · exact .inr (Nat.le_trans h.size e)
  keys := fun id b e => k.keys _ _ (h.keys _ _ e)
  frame := fun b hb hn => by
    rw [k.frame b (Nat.lt_of_lt_of_le hb h.size) (fun e => by
      rcases h.own _ e with e | e
      · exact hn e
      · omega), h.frame b hb hn]
  size := Nat.le_trans h.size k.size
  os := k.os.trans h.os
  tape := k.tape.trans h.tape
  output := k.output.trans h.output
  D := k.D.trans h.D
  fz := fun a => (k.fz a).trans (h.fz a)

inductive AExit where
  | normal
  | exit (id : Nat)
  | goto (l : Nat)
  | ret
  | panic (v : AV)

inductive RelX (σ : Sg) : AExit → Exit → Prop where
  | normal : RelX σ .normal .normal
  | exit (id : Nat) : RelX σ (.exit id) (.exit id)
  | goto (l : Nat) : RelX σ (.goto l) (.goto l)
  | ret : RelX σ .ret .ret
  | panic {v : AV} {x : Value} (h : Rel σ v x) : RelX σ (.panic v) (.panic [{ v := x, recovered := false }])

/-- The post of the model that an abstract post stands for. -/
def Conc (nt : Nat) (Q : AExit → St → Prop) (σ : Sg) (w : World) : Exit → Act → World → Prop := fun e a' w' =>
  ∃ x s' σ', RelX σ' x e ∧ RelS σ' s' nt a' w' ∧ Post σ σ' w w' ∧ Q x s'

theorem Conc.back {nt : Nat} {Q : AExit → St → Prop} {σ σ' : Sg} {w w' : World} (p : Post σ σ' w w') {e : Exit} {a : Act} {w'' : World} (h : Conc nt Q σ' w' e a w'') : Conc nt Q σ w e a w'' :=
  let ⟨x, s', σ'', hx, hs, hp, hq⟩ := h
  ⟨x, s', σ'', hx, hs, p.trans hp, hq⟩

def AWp (P : Program) (nt : Nat) (c : Code) (Q : AExit → St → Prop) (s : St) : Prop :=
  ∀ σ a w, RelS σ s nt a w → c.wp P (Conc nt Q σ w) a w

section rules
variable {P : Program} {nt : Nat} {Q Q' : AExit → St → Prop} {s : St}

theorem AWp.mono {c : Code} (h : AWp P nt c Q s) (hq : ∀ e s, Q e s → Q' e s) : AWp P nt c Q' s :=
  fun σ a w hr => wp_mono (h σ a w hr) fun _ _ _ ⟨x, s', σ', hx, hs, hp, hq'⟩ => ⟨x, s', σ', hx, hs, hp, hq _ _ hq'⟩

def andThen (K : St → Prop) (Q : AExit → St → Prop) : AExit → St → Prop
  | .normal, s => K s
  | e, s => Q e s

theorem awp_skip (h : Q .normal s) : AWp P nt .skip Q s := fun σ a w hr => wp_skip ⟨.normal, s, σ, .normal, hr, .refl _ _, h⟩
theorem awp_label {l : Nat} (h : Q .normal s) : AWp P nt (.label l) Q s := fun σ a w hr => wp_label ⟨.normal, s, σ, .normal, hr, .refl _ _, h⟩
theorem awp_ret (h : Q .ret s) : AWp P nt .ret Q s := fun σ a w hr => wp_ret ⟨.ret, s, σ, .ret, hr, .refl _ _, h⟩
theorem awp_exit {id : Nat} (h : Q (.exit id) s) : AWp P nt (.exit id) Q s := fun σ a w hr => wp_exit ⟨.exit id, s, σ, .exit id, hr, .refl _ _, h⟩

theorem awp_seq {x y : Code} (h : AWp P nt x (andThen (AWp P nt y Q) Q) s) : AWp P nt (.seq x y) Q s := by
  intro σ a w hr
  refine wp_seq (wp_mono (h σ a w hr) ?_)
  rintro e a' w' ⟨x, s', σ', hx, hs, hp, hq⟩
  cases hx with
  | normal => exact wp_mono (hq σ' a' w' hs) fun _ _ _ h => h.back hp
  | exit id => exact ⟨_, s', σ', .exit id, hs, hp, hq⟩
  | goto l => exact ⟨_, s', σ', .goto l, hs, hp, hq⟩
  | ret => exact ⟨_, s', σ', .ret, hs, hp, hq⟩
  | panic hv => exact ⟨_, s', σ', .panic hv, hs, hp, hq⟩

def inBlock (id : Nat) (Q : AExit → St → Prop) : AExit → St → Prop
  | .exit id', s => if id' = id then Q .normal s else Q (.exit id') s
  | e, s => Q e s

theorem awp_block {id : Nat} {c : Code} (h : AWp P nt c (inBlock id Q) s) : AWp P nt (.block id c) Q s := by
  intro σ a w hr
  refine wp_block (wp_mono (h σ a w hr) ?_)
  rintro e a' w' ⟨x, s', σ', hx, hs, hp, hq⟩
  cases hx with
  | normal => exact ⟨_, s', σ', .normal, hs, hp, hq⟩
  | exit id' =>
    simp only [inBlock] at hq
    simp only [Exit.inBlock]
    split
    · rename_i he; rw [if_pos he] at hq; exact ⟨_, s', σ', .normal, hs, hp, hq⟩
    · rename_i he; rw [if_neg he] at hq; exact ⟨_, s', σ', .exit id', hs, hp, hq⟩
  | goto l => exact ⟨_, s', σ', .goto l, hs, hp, hq⟩
  | ret => exact ⟨_, s', σ', .ret, hs, hp, hq⟩
  | panic hv => exact ⟨_, s', σ', .panic hv, hs, hp, hq⟩

/-- s' says no more than s. -/
def Weak (s s' : St) : Prop := ∀ σ nt a w, RelS σ s nt a w → ∃ σ', RelS σ' s' nt a w ∧ Post σ σ' w w

theorem Weak.refl (s : St) : Weak s s := fun σ _ _ w h => ⟨σ, h, .refl σ w⟩

theorem Weak.trans {s s' s'' : St} (h : Weak s s') (k : Weak s' s'') : Weak s s'' := fun σ nt a w hr =>
  let ⟨σ', h1, p1⟩ := h σ nt a w hr
  let ⟨σ'', h2, p2⟩ := k σ' nt a w h1
  ⟨σ'', h2, p1.trans p2⟩

theorem awp_weak {c : Code} {s' : St} (hw : Weak s s') (h : AWp P nt c Q s') : AWp P nt c Q s := fun σ a w hr =>
  let ⟨σ', h1, p1⟩ := hw _ _ _ _ hr
  wp_mono (h σ' a w h1) fun _ _ _ h => h.back p1

/-- A loop: 'I n' holds at the head of a round, n lowers. -/
theorem awp_loop {c : Code} (I : Nat → St → Prop) (n₀ : Nat) (h₀ : I n₀ s)
    (round : ∀ n s, I n s → AWp P nt c (andThen (fun s' => ∃ n' s'', n' < n ∧ Weak s' s'' ∧ I n' s'') Q) s) : AWp P nt (.loop c) Q s := by
  intro σ a w hr
  refine wp_loop_ghost (fun n a' w' => ∃ s' σ', RelS σ' s' nt a' w' ∧ Post σ σ' w w' ∧ I n s') n₀ ⟨s, σ, hr, .refl _ _, h₀⟩ ?_
  rintro n a₁ w₁ ⟨s₁, σ₁, hr₁, hp₁, hI⟩
  refine wp_mono (round n s₁ hI σ₁ a₁ w₁ hr₁) ?_
  rintro e a' w' ⟨x, s', σ', hx, hs, hp, hq⟩
  cases hx with
  | normal =>
    obtain ⟨n', s'', hlt, hwk, hI'⟩ := hq
    obtain ⟨σ'', h1, p1⟩ := hwk _ _ _ _ hs
    exact ⟨n', hlt, s'', σ'', h1, (hp₁.trans hp).trans p1, hI'⟩
  | exit id => exact ⟨_, s', σ', .exit id, hs, hp₁.trans hp, hq⟩
  | goto l => exact ⟨_, s', σ', .goto l, hs, hp₁.trans hp, hq⟩
  | ret => exact ⟨_, s', σ', .ret, hs, hp₁.trans hp, hq⟩
  | panic hv => exact ⟨_, s', σ', .panic hv, hs, hp₁.trans hp, hq⟩

end rules
end Go.Abs

/-
  The operations that only read: what each comes to over the abstract state, and that the model's own run comes to the same.
-/
set_option linter.unusedVariables false
namespace Go.Abs

def cv : Value → Option AV
  | .bool b => some (.p (.bool b))
  | .int k n => some (.p (.int k n))
  | .string s => some (.p (.str s))
  | .pointer none => some (.p .nilp)
  | .map none => some (.p .nilm)
  | .nilFunc => some (.p .nilf)
  | .nilIface => some (.p .nili)
  | .slice none 0 0 => some (.own [] .n)
  | _ => none

def ev (s : St) : Operand → Option AV
  | .tmp t => get s.ts t
  | .const v => cv v
  | .func f => some (.fn f [] [])
  | .global _ => none

theorem cv_rel {σ : Sg} {x : Value} {v : AV} (h : cv x = some v) : Rel σ v x := by
  unfold cv at h
  split at h <;> first | (simp at h; done) | (simp at h; subst h)
  · exact .p (.bool _)
  · exact .p (.int _ _)
  · exact .p (.str _)
  · exact .p .nilp
  · exact .p .nilm
  · exact .p .nilf
  · exact .p .nili
  · exact .own (.vec0 _ _) (.inl rfl)

theorem ev_rel {σ : Sg} {s : St} {nt : Nat} {a : Act} {w : World} (hr : RelS σ s nt a w) {x : Operand} {v : AV} (h : ev s x = some v) : Rel σ v (a.eval x) := by
  cases x with
  | tmp t => exact (hr.vals t v h).2
  | const c => exact cv_rel h
  | func f => simp [ev] at h; subst h; exact .fn rfl rfl (by simp) (by simp)
  | global g => simp [ev] at h

/-- What is read is no longer anybody's to append to. -/
def AV.plain : AV → AV
  | .own rows _ => .p (.vec rows)
  | x => x

theorem Rel.plain {σ : Sg} {v : AV} {x : Value} (h : Rel σ v x) : Rel σ v.plain x := by
  cases h with
  | own h _ => exact .p h
  | full h => exact .full h
  | p h => exact .p h
  | ptr off h => exact .ptr off h
  | ref off len cap cap' h hc => exact .ref off len cap cap' h hc
  | rop b o val h1 h2 => exact .rop b o val h1 h2
  | map h => exact .map h
  | fn h1 h2 h3 h4 => exact .fn h1 h2 h3 h4
  | iface h => exact .iface h
  | agg h1 h2 => exact .agg h1 h2
  | tuple h1 h2 => exact .tuple h1 h2
  | undef x => exact .undef x

/-- As it lies in a cell. -/
def AV.toCell : AV → AV
  | .own rows .n => .full rows
  | x => x.plain

/-- As it is read out of a cell. -/
def AV.ld : AV → AV
  | .full rows => .own rows .n
  | x => x

/-- As it is handed on. -/
def AV.strip : AV → AV
  | .full rows => .p (.vec rows)
  | x => x.plain

theorem Rel.toCell {σ : Sg} {v : AV} {x : Value} (h : Rel σ v x) : Rel σ v.toCell x := by
  unfold AV.toCell
  split
  · cases h with
    | own h ho =>
      rcases ho with rfl | ⟨b, o, sz, l, h1, _⟩
      · exact .full h
      · exact absurd rfl h1
  · exact h.plain

theorem Rel.ld {σ : Sg} {v : AV} {x : Value} (h : Rel σ v x) : Rel σ v.ld x := by
  unfold AV.ld
  split
  · cases h with | full h => exact .own h (.inl rfl)
  · exact h

theorem Rel.strip {σ : Sg} {v : AV} {x : Value} (h : Rel σ v x) : Rel σ v.strip x := by
  unfold AV.strip
  split
  · cases h with | full h => exact .p h
  · exact h.plain

/-! ### numbers, strings, bools -/

def beqS (x y : ByteArray) : Bool := x.toList == y.toList

def ibin (op : BinOp) (k : IntKind) (a : Int) (k' : IntKind) (b : Int) : Option PV :=
  match op with
  | .shl => if 0 ≤ b then some (.int k (k.wrap (a * 2 ^ min b.toNat k.bits))) else none
  | .shr => if 0 ≤ b then some (.int k (a.fdiv (2 ^ min b.toNat k.bits))) else none
  | .add => if k = k' then some (.int k (k.wrap (a + b))) else none
  | .sub => if k = k' then some (.int k (k.wrap (a - b))) else none
  | .mul => if k = k' then some (.int k (k.wrap (a * b))) else none
  | .quo => if k = k' then if b = 0 then none else some (.int k (k.wrap (a.tdiv b))) else none
  | .rem => if k = k' then if b = 0 then none else some (.int k (a.tmod b)) else none
  | .and => if k = k' then some (.int k (k.wrap (BitVec.ofInt k.bits a &&& BitVec.ofInt k.bits b).toNat)) else none
  | .or => if k = k' then some (.int k (k.wrap (BitVec.ofInt k.bits a ||| BitVec.ofInt k.bits b).toNat)) else none
  | .xor => if k = k' then some (.int k (k.wrap (BitVec.ofInt k.bits a ^^^ BitVec.ofInt k.bits b).toNat)) else none
  | .andNot => if k = k' then some (.int k (k.wrap (BitVec.ofInt k.bits a &&& ~~~ BitVec.ofInt k.bits b).toNat)) else none
  | .eql => if k = k' then some (.bool (a == b)) else none
  | .neq => if k = k' then some (.bool (a != b)) else none
  | .lss => if k = k' then some (.bool (decide (a < b))) else none
  | .leq => if k = k' then some (.bool (decide (a ≤ b))) else none
  | .gtr => if k = k' then some (.bool (decide (a > b))) else none
  | .geq => if k = k' then some (.bool (decide (a ≥ b))) else none

def abin (P : Program) (op : BinOp) (t : TypeId) : AV → AV → Option AV
  | .p (.int k a), .p (.int k' b) => (ibin op k a k' b).map .p
  | .p (.str a), .p (.str b) =>
    match op with
    | .add => if a.size + b.size ≤ 9223372036854775807 then some (.p (.str (a ++ b))) else none
    | .eql => some (.p (.bool (beqS a b)))
    | .neq => some (.p (.bool (!beqS a b)))
    | _ => none
  | .p (.bool a), .p (.bool b) =>
    match op, P.underlying t with
    | .eql, some .bool => some (.p (.bool (a == b)))
    | .neq, some .bool => some (.p (.bool (!(a == b))))
    | _, _ => none
  | _, _ => none

def aun (op : UnOp) : AV → Option AV
  | .p (.int k n) =>
    match op with
    | .neg => some (.p (.int k (k.wrap (0 - n))))
    | .xor => some (.p (.int k (k.wrap (BitVec.ofInt k.bits (if k.signed then -1 else k.max) ^^^ BitVec.ofInt k.bits n).toNat)))
    | _ => none
  | .p (.bool b) => match op with | .not => some (.p (.bool !b)) | _ => none
  | _ => none

section
variable {P : Program} {σ : Sg}

theorem eqGuard_pure {op : BinOp} {t : TypeId} {x y : Operand} {a b : Value} (w : World) (h : ∀ l l', (a ≠ .agg l ∨ b ≠ .agg l') ∧ (a ≠ .nilIface)) : (eqGuard op t x y a b).run P w = .ok () w := by
  unfold eqGuard
  cases op <;> simp only [] <;> first | rfl | skip
  all_goals
    cases a <;> cases b <;> first | rfl | (exfalso; first | exact (h #[] #[]).2 rfl | (rename_i l l'; rcases (h l l').1 with h1 | h1 <;> exact h1 rfl))

theorem ibin_run {op : BinOp} {k k' : IntKind} {a b : Int} {v : PV} (h : ibin op k a k' b = some v) (t : TypeId) (w : World) :
    ∃ x, (binOp op t (.int k a) (.int k' b)).run P w = .ok x w ∧ RelP σ.I v x := by
  cases op <;> simp only [ibin] at h
  case shl => split at h <;> simp at h; subst h; rename_i hk; exact ⟨.int _ _, by simp [binOp, Op.shift, show ¬ b < 0 by omega], .int _ _⟩
  case shr => split at h <;> simp at h; subst h; rename_i hk; exact ⟨.int _ _, by simp [binOp, Op.shift, show ¬ b < 0 by omega], .int _ _⟩
  case quo =>
    split at h
    · rename_i hk; subst hk
      split at h
      · simp at h
      · rename_i hb; simp at h; subst h; exact ⟨.int _ _, by simp [binOp, Op.intDiv, hb], .int _ _⟩
    · simp at h
  case rem =>
    split at h
    · rename_i hk; subst hk
      split at h
      · simp at h
      · rename_i hb; simp at h; subst h; exact ⟨.int _ _, by simp [binOp, Op.intDiv, hb], .int _ _⟩
    · simp at h
  all_goals
    split at h
    · rename_i hk; subst hk; simp only [Option.some.injEq] at h; subst h
      refine ⟨_, ?_, by first | exact .int _ _ | exact .bool _⟩
      simp only [binOp, ne_eq, not_true_eq_false, if_false]; rfl
    · simp at h

theorem equal_bool {t : TypeId} (h : P.underlying t = some .bool) (a b : Bool) (w : World) : (Op.equal t (.bool a) (.bool b)).run P w = .ok (a == b) w := by
  show (Op.equalIn (9999 + 1) t (.bool a) (.bool b)).run P w = _
  rw [Op.equalIn, Sem.run_bind, run_underlying h]
  rfl

theorem abin_run {op : BinOp} {t : TypeId} {x y : AV} {v : AV} (h : abin P op t x y = some v) {x' y' : Value} (hx : Rel σ x x') (hy : Rel σ y y') (ox oy : Operand) (w : World) :
    ∃ r, (do eqGuard op t ox oy x' y'; binOp op t x' y').run P w = .ok r w ∧ Rel σ v r := by
  unfold abin at h
  split at h
  · cases hx with | p hx => cases hy with | p hy =>
    cases hx; cases hy
    simp only [Option.map_eq_some_iff] at h
    obtain ⟨u, hu, rfl⟩ := h
    obtain ⟨r, h1, h2⟩ := ibin_run (P := P) (σ := σ) hu t w
    exact ⟨r, by rw [Sem.run_bind, eqGuard_pure w (by simp)]; exact h1, .p h2⟩
  · cases hx with | p hx => cases hy with | p hy =>
    cases hx; cases hy
    rw [Sem.run_bind, eqGuard_pure w (by simp)]
    simp only [Result.andThen_ok]
    split at h
    · split at h
      · rename_i hle
        simp only [Option.some.injEq] at h; subst h
        refine ⟨.string _, ?_, .p (.str _)⟩
        simp only [binOp, Op.stringOp]
        rw [if_neg (by show ¬ (((_ : Nat) : Int) > (2 ^ 63 - 1 : Int)); omega)]; rfl
      · simp at h
    · simp only [Option.some.injEq] at h; subst h; exact ⟨.bool _, by simp [binOp, Op.stringOp, beqS], .p (.bool _)⟩
    · simp only [Option.some.injEq] at h; subst h; exact ⟨.bool _, by simp [binOp, Op.stringOp, beqS], .p (.bool _)⟩
    · simp at h
  · cases hx with | p hx => cases hy with | p hy =>
    cases hx; cases hy
    rw [Sem.run_bind, eqGuard_pure w (by simp)]
    simp only [Result.andThen_ok]
    split at h
    · rename_i hu; simp only [Option.some.injEq] at h; subst h; exact ⟨.bool _, by show (do pure (Value.bool (← Op.equal t _ _))).run P w = _; rw [Sem.run_bind, equal_bool hu]; rfl, .p (.bool _)⟩
    · rename_i hu; simp only [Option.some.injEq] at h; subst h; exact ⟨.bool _, by show (do pure (Value.bool (!(← Op.equal t _ _)))).run P w = _; rw [Sem.run_bind, equal_bool hu]; rfl, .p (.bool _)⟩
    · simp at h
  · simp at h

theorem aun_run {op : UnOp} {x v : AV} (h : aun op x = some v) {x' : Value} (hx : Rel σ x x') (w : World) :
    ∃ r, (Op.unary op x').run P w = .ok r w ∧ Rel σ v r := by
  unfold aun at h
  cases hx with
  | p hx =>
    cases hx with
    | int k n =>
      cases op <;> simp only [Option.some.injEq, reduceCtorEq] at h <;> subst h
      · exact ⟨.int _ _, rfl, .p (.int _ _)⟩
      · exact ⟨.int _ _, rfl, .p (.int _ _)⟩
    | bool b =>
      cases op <;> simp only [Option.some.injEq, reduceCtorEq] at h <;> subst h
      exact ⟨.bool _, rfl, .p (.bool _)⟩
    | _ => simp at h
  | _ => simp at h
end
end Go.Abs

/-
  The operations that read memory, over the abstract state and in the model.
-/
set_option linter.unusedVariables false
namespace Go.Abs

theorem add_none (b o n : Nat) : (⟨b, o, none⟩ : Addr).add n = ⟨b, o + n, none⟩ := by
  unfold Addr.add; split <;> simp_all

/-- The cells from an address on. -/
def cellsAt (s : St) : AV → Option (List AV)
  | .ptr k off => match s.look k with | some (.cells cs) => some (cs.drop off) | _ => none
  | .rop row => some (row.map .p)
  | _ => none

def aload (P : Program) (t : TypeId) (cells : List AV) : Option AV :=
  match P.underlying t with
  | some (.struct _) | some (.array _ _) => if P.cellsOf t ≤ cells.length then some (.agg ((cells.take (P.cellsOf t)).map AV.plain)) else none
  | some _ => cells.head?.map AV.ld
  | none => none

def fieldOff (P : Program) (st : TypeId) (f : Nat) : Option Nat :=
  match P.underlying st with
  | some (.struct fs) => match fs[f]? with
    | some fd => if P.cellsOf fd.type = 0 then none else some fd.offset
    | none => none
  | _ => none

def afield (P : Program) (st : TypeId) (f : Nat) (x : AV) : Option AV :=
  match fieldOff P st f, x with
  | some off, .ptr k o => some (.ptr k (o + off))
  | some off, .rop row => some (.rop (row.drop off))
  | _, _ => none

def aindex (P : Program) (t : TypeId) (x : AV) (i : Int) : Option AV :=
  match P.underlying t, x with
  | some (.slice e), .p (.vec rows) | some (.slice e), .own rows _ =>
    if 0 ≤ i then match rows[i.toNat]? with
      | some row => if row.length = P.cellsOf e ∧ P.cellsOf e ≠ 0 then some (.rop row) else none
      | none => none
    else none
  | some (.slice e), .ref k off len _ => if 0 ≤ i ∧ i < len ∧ P.cellsOf e ≠ 0 then some (.ptr k (off + i.toNat * P.cellsOf e)) else none
  | some (.array len e), .ptr k off => if 0 ≤ i ∧ i < len ∧ P.cellsOf e ≠ 0 then some (.ptr k (off + i.toNat * P.cellsOf e)) else none
  | _, _ => none

def alen (P : Program) (t : TypeId) (x : AV) : Option AV :=
  match P.underlying t, x with
  | some .string, .p (.str s) => some (.p (.int .i64 s.size))
  | some (.slice _), .p (.vec rows) | some (.slice _), .own rows _ => some (.p (.int .i64 rows.length))
  | some (.slice _), .ref _ _ len _ => some (.p (.int .i64 len))
  | _, _ => none

def anil : AV → Option AV
  | .ptr k o => some (.ptr k o)
  | .rop row => some (.rop row)
  | .fn f a b => some (.fn f a b)
  | .map id => some (.map id)
  | _ => none

/-- A zero value's cell. -/
def zc : Value → Option AV
  | .slice none 0 0 => some (.full [])
  | x => cv x

def zcs : List Value → Option (List AV)
  | [] => some []
  | x :: r => match zc x, zcs r with | some v, some l => some (v :: l) | _, _ => none

def zv : Value → Option AV
  | .agg cs => (zcs cs.toList).map .agg
  | x => (zc x).map AV.ld

def azero (P : Program) (t : TypeId) : Option AV := ((P.info? t).bind (·.zero)).bind zv

def pkeq : PV → PV → Option Bool
  | .int k a, .int k' b => if k = k' then some (a == b) else none
  | .str a, .str b => some (a == b)
  | _, _ => none

def afind (k : PV) : List (PV × AV × Nat) → Option (Option AV)
  | [] => some none
  | (k', v, _) :: r => match pkeq k k' with
    | some true => some (some v)
    | some false => afind k r
    | none => none

/-- A key that can be asked for at once. -/
def keyOk (P : Program) (t : TypeId) : PV → Bool
  | .int k _ => match P.underlying t with | some (.int k') => k == k' | _ => false
  | .str _ => match P.underlying t with | some .string => true | _ => false
  | _ => false

def amapOf (s : St) : AV → Option (List (PV × AV × Nat))
  | .p .nilm => some []
  | .map id => match s.G[id]? with | some (.map es _) => some es | _ => none
  | _ => none

def alookup (P : Program) (s : St) (t : TypeId) (m i : AV) (ok : Bool) : Option AV :=
  match P.underlying t, amapOf s m, i with
  | some (.map key elem), some es, .p k =>
    if keyOk P key k then match afind k es with
      | some (some v) => some (if ok then .tuple [v.plain, .p (.bool true)] else v.plain)
      | some none => (azero P elem).map fun z => if ok then .tuple [z, .p (.bool false)] else z
      | none => none
    else none
  | _, _, _ => none

section
variable {P : Program} {σ : Sg} {s : St} {nt : Nat} {a : Act} {w : World}

theorem info_of_underlying {t : TypeId} {d : TypeDesc} (h : P.underlying t = some d) : ∃ i, P.info? t = some i := by
  unfold Program.underlying at h
  cases hi : P.info? t with
  | none => simp [hi] at h
  | some i => exact ⟨i, rfl⟩

theorem cellsOf_info {t : TypeId} {i : TypeInfo} (h : P.info? t = some i) : P.cellsOf t = i.size := by simp [Program.cellsOf, h]

theorem run_sizeOf' {t : TypeId} {i : TypeInfo} (h : P.info? t = some i) (w : World) : (sizeOf t).run P w = .ok (P.cellsOf t) w := by
  simp [sizeOf, typeInfo, h, cellsOf_info h]

theorem run_sizeOf_ne {t : TypeId} (h : P.cellsOf t ≠ 0) (w : World) : (sizeOf t).run P w = .ok (P.cellsOf t) w := by
  cases hi : P.info? t with
  | none => simp [Program.cellsOf, hi] at h
  | some i => exact run_sizeOf' hi w

/-- What lies at an address, in the model. -/
def CellsRel (σ : Sg) (w : World) (x : Value) (cells : List AV) : Prop :=
  ∃ b o, x = .pointer (some ⟨b, o, none⟩) ∧ ∀ j v, cells[j]? = some v → ∃ u, w.cell? ⟨b, o + j, none⟩ = some u ∧ Rel σ v u

theorem cell_of_block {w : World} {b : Nat} {c : Array Value} {T : TypeId} {f : Nat × Nat} (h : w.heap[b]? = some (.cells c T f)) (o : Nat) : w.cell? ⟨b, o, none⟩ = c[o]? := by
  simp [World.cell?, h]

theorem cellsAt_rel (hr : RelS σ s nt a w) {x : AV} {x' : Value} (hx : Rel σ x x') {cells : List AV} (h : cellsAt s x = some cells) : CellsRel σ w x' cells := by
  unfold cellsAt at h
  split at h
  · rename_i k off
    split at h
    · rename_i cs hl
      simp only [Option.some.injEq] at h; subst h
      cases hx with | ptr off hb =>
      obtain ⟨b', hb', c, T, hc, hsz, hcs⟩ := hr.blks _ _ hl
      rw [hb] at hb'; cases hb'
      refine ⟨_, off, rfl, fun j v hv => ?_⟩
      rw [List.getElem?_drop] at hv
      have hlt : off + j < c.size := Nat.lt_of_lt_of_le (List.getElem?_eq_some_iff.1 hv).1 hsz
      refine ⟨c.getD (off + j) undef, ?_, hcs _ _ hv⟩
      rw [cell_of_block hc]; simp [hlt]
    · simp at h
  · simp only [Option.some.injEq] at h; subst h
    cases hx with | rop b o val hI hR =>
    refine ⟨b, o, rfl, fun j v hv => ?_⟩
    simp only [List.getElem?_map, Option.map_eq_some_iff] at hv
    obtain ⟨c, hc, rfl⟩ := hv
    exact ⟨val j, hr.wf.imm _ _ _ (hI j (List.getElem?_eq_some_iff.1 hc).1), .p (hR j c hc)⟩
  · simp at h

theorem aload_run {t : TypeId} {cells : List AV} {v : AV} (h : aload P t cells = some v) {x : Value} (hc : CellsRel σ w x cells) :
    ∃ r, (Instr.loadAt t x).run P w = .ok r w ∧ Rel σ v r := by
  obtain ⟨b, o, rfl, hcs⟩ := hc
  unfold aload at h
  have agg : ∀ d, P.underlying t = some d → (match d with | .struct _ | .array _ _ => true | _ => false) = true →
      (if P.cellsOf t ≤ cells.length then some (AV.agg ((cells.take (P.cellsOf t)).map AV.plain)) else none) = some v →
      ∃ r, (Instr.loadAt t (.pointer (some ⟨b, o, none⟩))).run P w = .ok r w ∧ Rel σ v r := by
    intro d hd hag h
    obtain ⟨i, hi⟩ := info_of_underlying hd
    split at h
    · rename_i hle
      simp only [Option.some.injEq] at h; subst h
      let f : Nat → Value := fun j => (w.cell? ⟨b, o + j, none⟩).getD undef
      have hf : ∀ j, j < P.cellsOf t → w.cell? ((⟨b, o, none⟩ : Addr).add j) = some (f j) := by
        intro j hj
        obtain ⟨u, hu, _⟩ := hcs j _ (List.getElem?_eq_getElem (show j < cells.length by omega))
        rw [add_none]; simp [f, hu]
      refine ⟨.agg ((List.range (P.cellsOf t)).map f).toArray, ?_, .agg (by simp [hle]) ?_⟩
      · simp only [Instr.loadAt, Instr.sureAddr, loadVar, isAgg, Sem.run_bind, Sem.run_pure, Result.andThen_ok, run_underlying hd]
        cases d <;> simp only [reduceCtorEq] at hag <;> simp only [Sem.run_pure, Result.andThen_ok, if_true, Sem.run_bind, run_sizeOf' hi, run_loadCells w _ _ f hf]
      · intro j v hv
        simp only [List.getElem?_map, Option.map_eq_some_iff, List.getElem?_take] at hv
        obtain ⟨u, hu, rfl⟩ := hv
        split at hu
        · rename_i hj
          obtain ⟨y, hy, hr⟩ := hcs j u hu
          have : ((List.range (P.cellsOf t)).map f).toArray.getD j undef = y := by simp [hj, f, hy]
          rw [this]; exact hr.plain
        · simp at hu
    · simp at h
  split at h
  · exact agg _ (by assumption) rfl h
  · exact agg _ (by assumption) rfl h
  · rename_i d hns hna hd
    rw [Option.map_eq_some_iff] at h
    obtain ⟨u, hu, rfl⟩ := h
    rw [List.head?_eq_getElem?] at hu
    obtain ⟨y, hy, hr⟩ := hcs 0 u hu
    refine ⟨y, ?_, hr.ld⟩
    simp only [Nat.add_zero] at hy
    simp only [Instr.loadAt, Instr.sureAddr, loadVar, isAgg, Sem.run_bind, Sem.run_pure, Result.andThen_ok, run_underlying hd]
    cases d <;> first | exact absurd hd (hns _) | exact absurd hd (hna _ _) | simp [hy]
  · simp at h

theorem afield_run {st : TypeId} {f : Nat} {x v : AV} (h : afield P st f x = some v) {x' : Value} (hx : Rel σ x x') :
    ∃ r, (Instr.fieldAt st x' f).run P w = .ok r w ∧ Rel σ v r := by
  unfold afield at h
  have key : ∀ off b o, fieldOff P st f = some off → (Instr.fieldAt st (.pointer (some ⟨b, o, none⟩)) f).run P w = .ok (.pointer (some ⟨b, o + off, none⟩)) w := by
    intro off b o hf
    unfold fieldOff at hf
    split at hf
    · rename_i fs hu
      split at hf
      · rename_i fd hfd
        split at hf
        · simp at hf
        · rename_i hne
          simp only [Option.some.injEq] at hf; subst hf
          simp [Instr.fieldAt, run_underlying hu, hfd, Instr.sureAddr, fieldPlace, run_sizeOf_ne hne, hne, add_none]
      · simp at hf
    · simp at hf
  split at h
  · rename_i off k o hf
    simp only [Option.some.injEq] at h; subst h
    cases hx with | ptr o hb => exact ⟨_, key _ _ _ hf, .ptr _ hb⟩
  · rename_i off row hf
    simp only [Option.some.injEq] at h; subst h
    cases hx with | rop b o val hI hR =>
    refine ⟨_, key _ _ _ hf, .rop b (o + off) (fun j => val (off + j)) (fun j hj => ?_) (fun j c hc => ?_)⟩
    · simp only [List.length_drop] at hj
      rw [Nat.add_assoc]; exact hI _ (by omega)
    · rw [List.getElem?_drop] at hc; exact hR _ _ hc
  · simp at h

theorem asIntOf_int (k : IntKind) (n : Int) (w : World) : (asIntOf (.int k n)).run P w = .ok (k, n) w := rfl

theorem aindex_run {t : TypeId} {x v : AV} {i : Int} (h : aindex P t x i = some v) {x' : Value} (hx : Rel σ x x') (k : IntKind) :
    ∃ r, (Instr.indexAt t x' (.int k i)).run P w = .ok r w ∧ Rel σ v r := by
  unfold aindex at h
  have vec : ∀ e rows (y : Value), P.underlying t = some (.slice e) → RelP σ.I (.vec rows) y →
      (if 0 ≤ i then match rows[i.toNat]? with
      | some row => if row.length = P.cellsOf e ∧ P.cellsOf e ≠ 0 then some (AV.rop row) else none
      | none => none
    else none) = some v → ∃ r, (Instr.indexAt t y (.int k i)).run P w = .ok r w ∧ Rel σ v r := by
    intro e rows y hu hv h
    split at h
    · rename_i h0
      split at h
      · rename_i row hrow
        split at h
        · rename_i hc
          obtain ⟨hc, hne⟩ := hc
          simp only [Option.some.injEq] at h; subst h
          cases hv with
          | vec0 => simp at hrow
          | vec _ b o cap sz val hsz hI hR hmax hcap =>
            have hlt : i.toNat < rows.length := (List.getElem?_eq_some_iff.1 hrow).1
            have hs : sz = P.cellsOf e := by rw [← hc]; exact (hsz row (List.mem_of_getElem? hrow)).symm
            have hlt' : i < (rows.length : Int) := by omega
            refine ⟨.pointer (some ⟨b, o + i.toNat * P.cellsOf e, none⟩), ?_, .rop _ _ (val i.toNat) (fun j hj => ?_) (fun j c hcc => hR _ _ _ _ hrow hcc)⟩
            · simp [Instr.indexAt, asIntOf_int, run_underlying hu, h0, hlt', run_sizeOf_ne hne, add_none]
            · rw [← hs]; exact hI _ _ hlt (by rw [hs, ← hc]; exact hj)
        · simp at h
      · simp at h
    · simp at h
  split at h
  · rename_i hu; cases hx with | p hx => exact vec _ _ _ hu hx h
  · rename_i hu; cases hx with | own hx _ => exact vec _ _ _ hu hx h
  · rename_i e key off len cap hu
    split at h
    · rename_i hc
      obtain ⟨h0, h1, hne⟩ := hc
      simp only [Option.some.injEq] at h; subst h
      cases hx with | ref _ _ _ cap' hb hcc =>
      exact ⟨.pointer (some ⟨_, off + i.toNat * P.cellsOf e, none⟩), by simp [Instr.indexAt, asIntOf_int, run_underlying hu, h0, h1, run_sizeOf_ne hne, add_none], .ptr _ hb⟩
    · simp at h
  · rename_i len e key off hu
    split at h
    · rename_i hc
      obtain ⟨h0, h1, hne⟩ := hc
      simp only [Option.some.injEq] at h; subst h
      cases hx with | ptr _ hb =>
      exact ⟨.pointer (some ⟨_, off + i.toNat * P.cellsOf e, none⟩), by simp [Instr.indexAt, asIntOf_int, run_underlying hu, h0, h1, run_sizeOf_ne hne, add_none, Instr.sureAddr], .ptr _ hb⟩
    · simp at h
  · simp at h
end
end Go.Abs

/-
  More operations that only read: lengths, look-ups in maps, zero values; and all of them together.
-/
set_option linter.unusedVariables false
namespace Go.Abs

section
variable {P : Program} {σ : Sg} {s : St} {nt : Nat} {a : Act} {w : World}

theorem len_vec {rows : List (List PV)} {y : Value} (h : RelP σ.I (.vec rows) y) : ∃ b cap, y = .slice b rows.length cap := by
  cases h with
  | vec0 b cap => exact ⟨b, cap, rfl⟩
  | vec _ b o cap sz val hsz hI hR hmax hcap => exact ⟨_, cap, rfl⟩

theorem alen_run {t ty : TypeId} {x v : AV} (h : alen P t x = some v) {x' : Value} (hx : Rel σ x x') (ts : Array TypeId) (ht : ts[0]? = some t) :
    ∃ r, (Builtin.len_ ts ty #[x']).run P w = .ok r w ∧ Rel σ v r := by
  unfold alen at h
  split at h
  · rename_i hu
    simp only [Option.some.injEq] at h; subst h
    cases hx with | p hx =>
    cases hx
    exact ⟨.int .i64 _, by simp [Builtin.len_, ht, run_underlying hu, goInt], .p (.int _ _)⟩
  · rename_i hu
    simp only [Option.some.injEq] at h; subst h
    cases hx with | p hx =>
    obtain ⟨b, cap, rfl⟩ := len_vec hx
    exact ⟨.int .i64 _, by simp [Builtin.len_, ht, run_underlying hu, goInt], .p (.int _ _)⟩
  · rename_i hu
    simp only [Option.some.injEq] at h; subst h
    cases hx with | own hx _ =>
    obtain ⟨b, cap, hy⟩ := len_vec hx
    cases hy
    exact ⟨.int .i64 _, by simp [Builtin.len_, ht, run_underlying hu, goInt], .p (.int _ _)⟩
  · rename_i hu
    simp only [Option.some.injEq] at h; subst h
    cases hx with | ref _ _ _ cap' hb hcc =>
    exact ⟨.int .i64 _, by simp [Builtin.len_, ht, run_underlying hu, goInt], .p (.int _ _)⟩
  · simp at h

theorem cv_cell {x : Value} {v : AV} (h : cv x = some v) : x.oneCell' = true := by
  unfold cv at h; split at h <;> first | rfl | simp at h

theorem zc_rel {x : Value} {v : AV} (h : zc x = some v) : Rel σ v x := by
  unfold zc at h
  split at h
  · simp at h; subst h; exact .full (.vec0 _ _)
  · exact cv_rel h

theorem zcs_rel : ∀ {l : List Value} {r : List AV}, zcs l = some r → l.length = r.length ∧ ∀ (i : Nat) (v : AV), r[i]? = some v → ∃ x, l[i]? = some x ∧ Rel σ v x
  | [], r, h => by simp [zcs] at h; subst h; simp
  | x :: l, r, h => by
    simp only [zcs] at h
    split at h
    · rename_i v r' hx hl
      simp only [Option.some.injEq] at h; subst h
      obtain ⟨h1, h2⟩ := zcs_rel hl
      refine ⟨by simp [h1], fun i u hu => ?_⟩
      cases i with
      | zero => simp at hu; subst hu; exact ⟨x, rfl, zc_rel hx⟩
      | succ i => exact h2 i u (by simpa using hu)
    · simp at h

theorem zv_rel {x : Value} {v : AV} (h : zv x = some v) : Rel σ v x := by
  unfold zv at h
  split at h
  · rename_i cs
    rw [Option.map_eq_some_iff] at h
    obtain ⟨l, hl, rfl⟩ := h
    obtain ⟨h1, h2⟩ := zcs_rel (σ := σ) hl
    refine .agg (by simpa using h1) fun i u hu => ?_
    obtain ⟨y, hy, hr⟩ := h2 i u hu
    have : cs.getD i undef = y := by
      rw [Array.getElem?_toList] at hy
      simp [Array.getD_eq_getD_getElem?, hy]
    rw [this]; exact hr
  · rw [Option.map_eq_some_iff] at h
    obtain ⟨u, hu, rfl⟩ := h
    exact (zc_rel hu).ld

theorem azero_run {t : TypeId} {v : AV} (h : azero P t = some v) : ∃ z, (zeroValue t).run P w = .ok z w ∧ Rel σ v z := by
  unfold azero at h
  cases hi : P.info? t with
  | none => simp [hi] at h
  | some i =>
    simp only [hi, Option.bind_some] at h
    cases hz : i.zero with
    | none => simp [hz] at h
    | some z =>
      simp only [hz, Option.bind_some] at h
      exact ⟨z, by simp [zeroValue, typeInfo, hi, hz], zv_rel h⟩

theorem keyOk_check {t : TypeId} {k : PV} {x : Value} (hk : keyOk P t k = true) (hx : RelP σ.I k x) (e : Bool) : (Instr.checkKey e 10000 t x).run P w = .ok () w := by
  show (Instr.checkKey e (9999 + 1) t x).run P w = _
  unfold keyOk at hk
  cases hx with
  | int k n =>
    simp only at hk
    split at hk
    · rename_i hu; rw [Instr.checkKey, Sem.run_bind, run_underlying hu]; rfl
    · simp at hk
  | str s =>
    simp only at hk
    split at hk
    · rename_i hu; rw [Instr.checkKey, Sem.run_bind, run_underlying hu]; rfl
    · simp at hk
  | _ => simp at hk

/-- The entries of a map in the model, and what is said of them. -/
def EsRel (σ : Sg) (es' : List MapEntry) (es : List (PV × AV × Nat)) : Prop :=
  es'.length = es.length ∧ ∀ (j : Nat) (k : PV) (v : AV) (n : Nat), es[j]? = some (k, v, n) → RelP σ.I k (es'.getD j default).key ∧ Rel σ v (es'.getD j default).val ∧ (es'.getD j default).born = n

theorem EsRel.tail {e : MapEntry} {es' : List MapEntry} {x : PV × AV × Nat} {es : List (PV × AV × Nat)} (h : EsRel σ (e :: es') (x :: es)) : EsRel σ es' es :=
  ⟨by simpa using h.1, fun j k v n hj => by simpa using h.2 (j + 1) k v n (by simpa using hj)⟩

theorem EsRel.head {e : MapEntry} {es' : List MapEntry} {k : PV} {v : AV} {n : Nat} {es : List (PV × AV × Nat)} (h : EsRel σ (e :: es') ((k, v, n) :: es)) :
    RelP σ.I k e.key ∧ Rel σ v e.val ∧ e.born = n := by simpa using h.2 0 k v n rfl

theorem sameNow_rel {t : TypeId} {k k' : PV} {x x' : Value} {b : Bool} {d : TypeDesc} (hu : P.underlying t = some d) (hk : keyOk P t k = true) (hx : RelP σ.I k x) (hx' : RelP σ.I k' x') (hb : pkeq k k' = some b) :
    Instr.sameNow d x x' = some b := by
  unfold pkeq at hb
  unfold keyOk at hk
  split at hb
  · cases hx; cases hx'
    simp only [hu] at hk
    split at hb
    · rename_i he
      subst he
      simp only [Option.some.injEq] at hb; subst hb
      split at hk
      · rename_i hd; simp only [Option.some.injEq] at hd; subst hd; simp [Instr.sameNow]
      · simp at hk
    · simp at hb
  · cases hx; cases hx'
    simp only [hu] at hk
    simp only [Option.some.injEq] at hb; subst hb
    split at hk
    · rename_i hd; simp only [Option.some.injEq] at hd; subst hd; simp [Instr.sameNow]
    · simp at hk
  · simp at hb

theorem findNow_rel {t : TypeId} {k : PV} {x : Value} {d : TypeDesc} (hu : P.underlying t = some d) (hk : keyOk P t k = true) (hx : RelP σ.I k x) :
    ∀ {es' : List MapEntry} {es : List (PV × AV × Nat)} {r : Option AV} (i : Nat), EsRel σ es' es → afind k es = some r →
      match r with
      | none => Instr.findNow d x es' i = some none
      | some v => ∃ j y, Instr.findNow d x es' i = some (some (i + j, y)) ∧ Rel σ v y ∧ j < es'.length
  | [], [], r, i, _, h => by simp [afind] at h; subst h; rfl
  | [], _ :: _, r, i, he, h => by simp [EsRel] at he
  | _ :: _, [], r, i, he, h => by simp [EsRel] at he
  | e :: es', (k', v, n) :: es, r, i, he, h => by
    simp only [afind] at h
    have hh := he.head
    split at h
    · rename_i hb
      simp only [Option.some.injEq] at h; subst h
      have := sameNow_rel (P := P) hu hk hx hh.1 hb
      exact ⟨0, e.val, by simp [Instr.findNow, this], hh.2.1, by simp⟩
    · rename_i hb
      have hs := sameNow_rel (P := P) hu hk hx hh.1 hb
      have ih := findNow_rel hu hk hx (i + 1) he.tail h
      cases r with
      | none => simp only at ih ⊢; simp [Instr.findNow, hs, ih]
      | some u =>
        obtain ⟨j, y, h1, h2, h3⟩ := ih
        exact ⟨j + 1, y, by simp [Instr.findNow, hs, h1]; omega, h2, by simp; omega⟩
    · simp at h

theorem findKey_run {t : TypeId} {k : PV} {x : Value} (hk : keyOk P t k = true) (hx : RelP σ.I k x) {es' : List MapEntry} {es : List (PV × AV × Nat)} {r : Option AV}
    (he : EsRel σ es' es) (h : afind k es = some r) :
    match r with
    | none => (Instr.findKey t x es').run P w = .ok none w
    | some v => ∃ j y, (Instr.findKey t x es').run P w = .ok (some (j, y)) w ∧ Rel σ v y ∧ j < es'.length := by
  have : ∃ d, P.underlying t = some d := by
    unfold keyOk at hk
    cases hu : P.underlying t with
    | none => cases k <;> simp [hu] at hk
    | some d => exact ⟨d, rfl⟩
  obtain ⟨d, hu⟩ := this
  have hf := findNow_rel (P := P) hu hk hx 0 he h
  cases r with
  | none => simp only at hf ⊢; simp [Instr.findKey, run_underlying hu, hf]
  | some v =>
    obtain ⟨j, y, h1, h2, h3⟩ := hf
    exact ⟨0 + j, y, by simp [Instr.findKey, run_underlying hu, h1], h2, by omega⟩

/-- A map's entries as they lie. -/
theorem amapOf_rel (hr : RelS σ s nt a w) {m : AV} {m' : Value} (hm : Rel σ m m') {es : List (PV × AV × Nat)} (h : amapOf s m = some es) :
    (m' = .map none ∧ es = []) ∨ ∃ b es' clock, m' = .map (some b) ∧ w.heap[b]? = some (.map es' clock) ∧ EsRel σ es'.toList es := by
  unfold amapOf at h
  split at h
  · simp at h; subst h
    cases hm with | p hm => cases hm; exact .inl ⟨rfl, rfl⟩
  · rename_i id
    split at h
    · rename_i es0 clock hg
      simp at h; subst h
      cases hm with | map hb =>
      obtain ⟨b', hb', es', h1, h2, h3⟩ := hr.blks (.g id) _ (show s.look (.g id) = _ from hg)
      rw [hb] at hb'; cases hb'
      exact .inr ⟨_, es', clock, rfl, h1, by simpa using h2, fun j k v n hj => by simpa [Array.getD_eq_getD_getElem?, List.getD_eq_getElem?_getD] using h3 j k v n hj⟩
    · simp at h
  · simp at h

theorem alookup_run (hr : RelS σ s nt a w) {t : TypeId} {m i v : AV} {ok : Bool} (h : alookup P s t m i ok = some v) {m' i' : Value} (hm : Rel σ m m') (hi : Rel σ i i') :
    ∃ r, (Instr.lookup t m' i' ok).run P w = .ok r w ∧ Rel σ v r := by
  unfold alookup at h
  split at h
  · rename_i key elem es k hu hes
    cases hi with | p hi =>
    split at h
    · rename_i hk
      have hget : ∃ es' : Array MapEntry, EsRel σ es'.toList es ∧ ∀ K : Array MapEntry → Sem Value,
          (do let es ← match m' with
                | .map none => (pure #[] : Sem (Array MapEntry))
                | .map (some r) => do
                  let .map es _ ← getObj r | stuck "Lookup: map expected"
                  pure es
                | _ => stuck "Lookup: map expected"
              K es).run P w = (K es').run P w := by
        rcases amapOf_rel hr hm hes with ⟨rfl, rfl⟩ | ⟨b, es', clock, rfl, hb, he⟩
        · exact ⟨#[], ⟨rfl, by simp⟩, fun K => rfl⟩
        · exact ⟨es', he, fun K => by simp [getObj, Sem.run, hb]⟩
      obtain ⟨es', he, hK⟩ := hget
      have hrun : (Instr.lookup t m' i' ok).run P w = (do
          Instr.checkKey es'.isEmpty 10000 key i'
          let (v, ok') ← match ← Instr.findKey key i' es'.toList with
            | some (_, v) => pure (v, true)
            | none => pure (← zeroValue elem, false)
          pure (if ok then Value.tuple #[v, .bool ok'] else v) : Sem Value).run P w := by
        unfold Instr.lookup
        rw [Sem.run_bind, run_underlying hu]
        exact hK _
      rw [hrun, Sem.run_bind, keyOk_check hk hi]
      simp only [Result.andThen_ok]
      split at h
      · rename_i u hf
        obtain ⟨j, y, h1, h2, _⟩ := findKey_run (P := P) (w := w) hk hi he hf
        simp only [Option.some.injEq] at h; subst h
        cases ok
        · exact ⟨y, by simp [h1], by simpa using h2.plain⟩
        · refine ⟨.tuple #[y, .bool true], by simp [h1], .tuple rfl fun j x hj => ?_⟩
          match j, hj with
          | 0, hj => simp at hj; subst hj; exact h2.plain
          | 1, hj => simp at hj; subst hj; exact .p (.bool _)
      · rename_i hf
        have h1 := findKey_run (P := P) (w := w) hk hi he hf
        simp only at h1
        rw [Option.map_eq_some_iff] at h
        obtain ⟨z, hz, rfl⟩ := h
        obtain ⟨z', hz', hzr⟩ := azero_run (P := P) (σ := σ) (w := w) hz
        cases ok
        · exact ⟨z', by simp [h1, hz'], by simpa using hzr⟩
        · refine ⟨.tuple #[z', .bool false], by simp [h1, hz'], .tuple rfl fun j x hj => ?_⟩
          match j, hj with
          | 0, hj => simp at hj; subst hj; exact hzr
          | 1, hj => simp at hj; subst hj; exact .p (.bool _)
      · simp at h
    · simp at h
  · simp at h
end
end Go.Abs

/-
  What each operation that only reads comes to ('aval'), and that the model's own run comes to the same.
-/
set_option linter.unusedVariables false
namespace Go.Abs

def evs (s : St) : List Operand → Option (List AV)
  | [] => some []
  | x :: r => match ev s x, evs s r with | some v, some l => some (v :: l) | _, _ => none

def aslvec (sz : Nat) (rows : List (List PV)) (lo hi mx : Option AV) : Option AV :=
  match lo, hi, mx with
  | none, none, none => some (.p (.vec rows))
  | some (.p (.int _ l)), none, none => if 0 ≤ l ∧ l ≤ rows.length ∧ rows.all (·.length == sz) then some (.p (.vec (rows.drop l.toNat))) else none
  | none, some (.p (.int _ h)), none => if 0 ≤ h ∧ h ≤ rows.length then some (.p (.vec (rows.take h.toNat))) else none
  | none, some (.p (.int _ h)), some (.p (.int _ m)) => if h = 0 ∧ m = 0 then some (.own [] .n) else none
  | _, _, _ => none

def aslref (sz : Nat) (k : Key) (off len cap : Nat) (lo hi mx : Option AV) : Option AV :=
  match lo, hi, mx with
  | some (.p (.int _ l)), none, none => if 0 ≤ l ∧ l ≤ len ∧ l < cap then some (.ref k (off + l.toNat * sz) (len - l.toNat) (cap - l.toNat)) else none
  | none, some (.p (.int _ h)), none => if 0 ≤ h ∧ h ≤ cap ∧ 0 < cap then some (.ref k off h.toNat cap) else none
  | _, _, _ => none

def aslice (P : Program) (t : TypeId) (x : AV) (lo hi : Option AV) (mx : Option AV) : Option AV :=
  match P.underlying t with
  | some (.slice e) =>
    if P.cellsOf e = 0 then none else
    match x with
    | .p (.vec rows) => aslvec (P.cellsOf e) rows lo hi mx
    | .own rows _ => aslvec (P.cellsOf e) rows lo hi mx
    | .ref k off len cap => aslref (P.cellsOf e) k off len cap lo hi mx
    | _ => none
  | _ => none

def aconv (P : Program) (src dst : TypeId) (x : AV) : Option AV :=
  match P.underlying src, P.underlying dst, x with
  | some (.int _), some (.int k), .p (.int _ n) => some (.p (.int k (k.wrap n)))
  | some .string, some .string, .p (.str s) => some (.p (.str s))
  | _, _, _ => none

def aminmax (mx : Bool) : AV → AV → Option AV
  | .p (.int k x), .p (.int _ y) => some (.p (.int k (if mx then (if x < y then y else x) else (if y < x then y else x))))
  | _, _ => none

/-- 'x.(T)', T no interface. -/
def aassert (P : Program) (t : TypeId) (ok : Bool) (x : AV) : Option AV :=
  match P.underlying t with
  | some (.interface _) | none => none
  | some _ => match x with
    | .p .nili => if ok then (azero P t).map fun z => .tuple [z, .p (.bool false)] else none
    | .iface t' v => if t' = t then some (if ok then .tuple [v, .p (.bool true)] else v) else if ok then (azero P t).map fun z => .tuple [z, .p (.bool false)] else none
    | _ => none

def aval (P : Program) (s : St) (o : Oper) : Option AV :=
  match o.op with
  | .move x | .assign x => ev s x
  | .pick c a b => match ev s c with
    | some (.p (.bool true)) => ev s a
    | some (.p (.bool false)) => ev s b
    | _ => none
  | .load t x => ((ev s x).bind (cellsAt s)).bind (aload P t)
  | .fieldAddr st x f => (ev s x).bind (afield P st f)
  | .indexAddr t x i => match ev s x, ev s i with
    | some v, some (.p (.int _ n)) => aindex P t v n
    | _, _ => none
  | .nilCheck x => (ev s x).bind anil
  | .lookup t m i ok => match ev s m, ev s i with
    | some v, some u => alookup P s t v u ok
    | _, _ => none
  | .binOp op t x y _ => match ev s x, ev s y with
    | some v, some u => abin P op t v u
    | _, _ => none
  | .unOp op _ x => (ev s x).bind (aun op)
  | .convert src dst x => (ev s x).bind (aconv P src dst)
  | .extract x i => match ev s x with
    | some (.tuple l) => l[i]?.map AV.ld
    | _ => none
  | .makeInterface t x => match P.underlying t with
    | some (.interface _) | none => none
    | _ => (ev s x).map (AV.iface t ∘ AV.plain)
  | .typeAssert x _ t ok => (ev s x).bind (aassert P t ok)
  | .makeFunc (.func f) first caps => match evs s first.toList, evs s caps.toList with
    | some l, some m => some (.fn f l m)
    | _, _ => none
  | .slice t x lo hi mx => (ev s x).bind fun v =>
    match lo, hi, mx with
    | none, none, none => aslice P t v none none none
    | some l, none, none => (ev s l).bind fun l => aslice P t v (some l) none none
    | none, some h, none => (ev s h).bind fun h => aslice P t v none (some h) none
    | none, some h, some m => (ev s h).bind fun h => (ev s m).bind fun m => aslice P t v none (some h) (some m)
    | _, _, _ => none
  | .call c => match c.callee, c.args.toList with
    | .builtin .len, [x] => match c.argTypes[0]? with | some t => (ev s x).bind (alen P t) | none => none
    | .builtin .min, [x, y] => match ev s x, ev s y with | some v, some u => aminmax false v u | _, _ => none
    | .builtin .max, [x, y] => match ev s x, ev s y with | some v, some u => aminmax true v u | _, _ => none
    | _, _ => none
  | _ => none

section
variable {P : Program} {σ : Sg} {s : St} {nt : Nat} {a : Act} {w : World}

theorem evs_rel (hr : RelS σ s nt a w) : ∀ {l : List Operand} {r : List AV}, evs s l = some r → (l.map a.eval).length = r.length ∧ ∀ (i : Nat) (v : AV), r[i]? = some v → Rel σ v ((l.map a.eval).toArray.getD i undef)
  | [], r, h => by simp [evs] at h; subst h; simp
  | x :: l, r, h => by
    simp only [evs] at h
    split at h
    · rename_i v r' hx hl
      simp only [Option.some.injEq] at h; subst h
      obtain ⟨h1, h2⟩ := evs_rel hr hl
      refine ⟨by simpa using h1, fun i u hu => ?_⟩
      cases i with
      | zero => simp at hu; subst hu; simpa using ev_rel hr hx
      | succ i => simpa [Array.getD_eq_getD_getElem?] using h2 i u (by simpa using hu)
    · simp at h

theorem aconv_run {src dst : TypeId} {x v : AV} (h : aconv P src dst x = some v) {x' : Value} (hx : Rel σ x x') : ∃ r, (convert src dst x').run P w = .ok r w ∧ Rel σ v r := by
  unfold aconv at h
  split at h
  · rename_i h1 h2
    simp only [Option.some.injEq] at h; subst h
    cases hx with | p hx =>
    cases hx
    exact ⟨.int _ _, by simp only [convert, Sem.run_bind, run_underlying h1, run_underlying h2, Result.andThen_ok]; rfl, .p (.int _ _)⟩
  · rename_i h1 h2
    simp only [Option.some.injEq] at h; subst h
    cases hx with | p hx =>
    cases hx
    exact ⟨.string _, by simp only [convert, Sem.run_bind, run_underlying h1, run_underlying h2, Result.andThen_ok]; rfl, .p (.str _)⟩
  · simp at h

theorem RelP.drop {I : Nat → Nat → Option Value} {rows : List (List PV)} {b : Option Addr} {len cap : Nat} (h : RelP I (.vec rows) (.slice b len cap)) {sz l : Nat} (hl : l ≤ rows.length) (hs : ∀ row ∈ rows, row.length = sz) :
    RelP I (.vec (rows.drop l)) (.slice (if cap = l then b else b.map (·.add (l * sz))) (len - l) (cap - l)) := by
  by_cases he : rows.drop l = []
  · rw [he]
    obtain ⟨b', c', hy⟩ : ∃ b' c', Value.slice b len cap = .slice b' rows.length c' := by
      cases h with
      | vec0 => exact ⟨_, _, rfl⟩
      | vec => exact ⟨_, _, rfl⟩
    cases hy
    have : rows.length - l = 0 := by have : rows.length ≤ l := by simpa using he
                                     omega
    rw [this]; exact .vec0 _ _
  · cases h with
    | vec0 => simp at he
    | vec _ b o _ sz' val hsz hI hR hmax hcap =>
      have hlt : l < rows.length := by
        rcases Nat.lt_or_ge l rows.length with h | h
        · exact h
        · exact absurd (List.drop_eq_nil_of_le h) he
      have hss : sz' = sz := by
        have hm := List.getElem_mem (l := rows) (n := 0) (by omega)
        rw [← hsz _ hm, ← hs _ hm]
      subst hss
      have := RelP.vec (I := I) (rows.drop l) b (o + l * sz') (cap - l) sz' (fun i j => val (l + i) j) (fun row hr => hsz row (List.mem_of_mem_drop hr))
        (fun i j hi hj => by
          simp only [List.length_drop] at hi
          have := hI (l + i) j (by omega) hj
          rw [Nat.add_mul] at this
          rw [show o + l * sz' + i * sz' + j = o + (l * sz' + i * sz') + j by omega]; exact this)
        (fun i row j c hr hc => hR (l + i) row j c (by rwa [List.getElem?_drop] at hr) hc) (by simp; omega) (by simp; omega)
      simp only [List.length_drop] at this
      rw [if_neg (by omega)]
      simpa [add_none] using this

theorem RelP.take {I : Nat → Nat → Option Value} {rows : List (List PV)} {b : Option Addr} {len cap : Nat} (h : RelP I (.vec rows) (.slice b len cap)) {n : Nat} (hl : n ≤ rows.length) :
    RelP I (.vec (rows.take n)) (.slice b n cap) := by
  by_cases he : n = 0
  · subst he; exact .vec0 _ _
  · cases h with
    | vec0 => simp at hl; omega
    | vec _ b o _ sz' val hsz hI hR hmax hcap =>
      have := RelP.vec (I := I) (rows.take n) b o cap sz' val (fun row hr => hsz row (List.mem_of_mem_take hr))
        (fun i j hi hj => hI i j (by simp at hi; omega) hj)
        (fun i row j c hr hc => hR i row j c (by rw [List.getElem?_take] at hr; split at hr <;> simp_all) hc) (by simp; omega) (by simp; omega)
      simpa [Nat.min_eq_left hl] using this

theorem cap_le {I : Nat → Nat → Option Value} {rows : List (List PV)} {b : Option Addr} {len cap : Nat} (h : RelP I (.vec rows) (.slice b len cap)) : len = rows.length ∧ rows.length ≤ cap := by
  cases h with
  | vec0 => simp
  | vec _ b o _ sz' val hsz hI hR hmax hcap => exact ⟨rfl, hcap⟩

theorem bound_run {k : IntKind} {i : Int} {y : Nat} {code : BoundsCode} (h0 : 0 ≤ i) (h1 : i ≤ y) (w : World) : (Instr.sliceBound (.int k i) y code).run P w = .ok i.toNat w := by
  simp [Instr.sliceBound, asIntOf_int, h0, h1]

/-- The bounds of a slice, as they stand in the model. -/
inductive OptRel (σ : Sg) : Option AV → Option Value → Prop where
  | none : OptRel σ none none
  | some {v : AV} {x : Value} (h : Rel σ v x) : OptRel σ (some v) (some x)

theorem int_inv {k : IntKind} {n : Int} {x : Value} (h : Rel σ (.p (.int k n)) x) : x = .int k n := by
  cases h with | p h =>
  cases h; rfl

theorem aslice_run {t : TypeId} {x v : AV} {lo hi mx : Option AV} (h : aslice P t x lo hi mx = some v) {x' : Value} (hx : Rel σ x x') {lo' hi' mx' : Option Value}
    (hlo : OptRel σ lo lo') (hhi : OptRel σ hi hi') (hmx : OptRel σ mx mx') :
    ∃ r, (Instr.sliceAt t x' lo' hi' mx').run P w = .ok r w ∧ Rel σ v r := by
  unfold aslice at h
  split at h
  case h_2 => simp at h
  rename_i e hu
  split at h
  · simp at h
  rename_i hne
  have start : ∀ b len cap, (Instr.sliceAt t (.slice b len cap) lo' hi' mx').run P w = ((Instr.sliceBounds true len cap lo' hi' mx').run P w).andThen fun r w =>
      .ok (.slice (if r.2.2 = r.1 then b else b.map (·.add (r.1 * P.cellsOf e))) (r.2.1 - r.1) (r.2.2 - r.1)) w := by
    intro b len cap
    unfold Instr.sliceAt
    rw [Sem.run_bind, run_underlying hu]
    simp only [Result.andThen_ok]
    unfold Instr.slice
    rw [Sem.run_bind, run_underlying hu]
    simp only [Result.andThen_ok]
    rw [Sem.run_bind]
    congr 1
    funext r w
    obtain ⟨l, h, m⟩ := r
    simp only [Sem.run_bind, run_sizeOf_ne hne, Result.andThen_ok]
    rfl
  have vec : ∀ rows y, RelP σ.I (.vec rows) y → aslvec (P.cellsOf e) rows lo hi mx = some v → ∃ r, (Instr.sliceAt t y lo' hi' mx').run P w = .ok r w ∧ Rel σ v r := by
    intro rows y hy h2
    obtain ⟨b, cap, rfl⟩ := len_vec hy
    obtain ⟨_, hcap⟩ := cap_le hy
    rw [start]
    unfold aslvec at h2
    split at h2
    · cases hlo; cases hhi; cases hmx
      simp only [Option.some.injEq] at h2; subst h2
      refine ⟨.slice b rows.length cap, ?_, .p hy⟩
      simp only [Instr.sliceBounds, Sem.run_bind, Sem.run_pure, Result.andThen_ok, Nat.zero_mul, Nat.sub_zero]
      congr 2
      split
      · rfl
      · cases b <;> simp [Addr.add]
    · cases hhi; cases hmx
      cases hlo with | some hl =>
      rw [int_inv hl]
      split at h2
      · rename_i hc
        simp only [Option.some.injEq] at h2; subst h2
        have hd := RelP.drop hy (sz := P.cellsOf e) (l := (by assumption : Int).toNat) (by omega) (by simpa using hc.2.2)
        refine ⟨_, ?_, .p hd⟩
        simp [Instr.sliceBounds, bound_run hc.1 hc.2.1]
      · simp at h2
    · cases hlo; cases hmx
      cases hhi with | some hl =>
      rw [int_inv hl]
      split at h2
      · rename_i hc
        simp only [Option.some.injEq] at h2; subst h2
        have hd := RelP.take hy (n := (by assumption : Int).toNat) (by omega)
        refine ⟨_, ?_, .p hd⟩
        simp [Instr.sliceBounds, bound_run hc.1 (show _ ≤ ((cap : Nat) : Int) by omega)]
        intro _
        cases b <;> simp [Addr.add]
      · simp at h2
    · cases hlo
      cases hmx with | some hm =>
      cases hhi with | some hl =>
      rw [int_inv hl, int_inv hm]
      split at h2
      · rename_i hc
        simp only [Option.some.injEq] at h2; subst h2
        rw [hc.1, hc.2]
        refine ⟨.slice b 0 0, ?_, .own (.vec0 _ _) (.inl rfl)⟩
        have e0 : ∀ k y code, (Instr.sliceBound (.int k 0) y code).run P w = .ok 0 w := fun k y code => bound_run (Int.le_refl 0) (by omega) w
        simp only [Instr.sliceBounds, Sem.run_bind, e0, Result.andThen_ok, Sem.run_pure, Nat.zero_mul, Nat.sub_zero, if_true]
      · simp at h2
    · simp at h2
  split at h
  · cases hx with | p hx => exact vec _ _ hx h
  · cases hx with | own hx _ => exact vec _ _ hx h
  · cases hx with | ref _ _ _ cap' hb hcc =>
    rw [start]
    unfold aslref at h
    split at h
    · cases hhi; cases hmx
      cases hlo with | some hl =>
      rw [int_inv hl]
      split at h
      · rename_i hc
        simp only [Option.some.injEq] at h; subst h
        refine ⟨_, ?_, .ref _ _ _ (cap' - (by assumption : Int).toNat) hb (Nat.sub_le_sub_right hcc _)⟩
        simp [Instr.sliceBounds, bound_run hc.1 hc.2.1]
        rw [if_neg (by omega), add_none]
      · simp at h
    · cases hlo; cases hmx
      cases hhi with | some hl =>
      rw [int_inv hl]
      split at h
      · rename_i hc
        simp only [Option.some.injEq] at h; subst h
        refine ⟨_, ?_, .ref _ _ _ cap' hb hcc⟩
        simp [Instr.sliceBounds, bound_run hc.1 (Int.le_trans hc.2.1 (Int.ofNat_le.2 hcc))]
        intro _; simp [Addr.add]
      · simp at h
    · simp at h
  · simp at h

theorem aminmax_run {mx : Bool} {x y v : AV} (h : aminmax mx x y = some v) {x' y' : Value} (hx : Rel σ x x') (hy : Rel σ y y') (ts : Array TypeId) (t : TypeId) :
    ∃ r, (if mx then Builtin.max_ ts t #[x', y'] else Builtin.min_ ts t #[x', y']).run P w = .ok r w ∧ Rel σ v r := by
  unfold aminmax at h
  split at h
  · simp only [Option.some.injEq] at h; subst h
    rw [int_inv hx, int_inv hy]
    cases mx
    · exact ⟨_, rfl, .p (.int _ _)⟩
    · exact ⟨_, rfl, .p (.int _ _)⟩
  · simp at h

theorem anil_run {x v : AV} (h : anil x = some v) {x' : Value} (hx : Rel σ x x') (o : Oper) (y : Operand) (ρ : Operand → Value) (hρ : ρ y = x') (ho : o.op = .nilCheck y) :
    (execOp ρ o).run P w = .ok (.value x') w ∧ Rel σ v x' := by
  unfold anil at h
  split at h <;> first | (simp at h; done) | (simp only [Option.some.injEq] at h; subst h)
  all_goals
    refine ⟨?_, hx⟩
    unfold execOp
    rw [ho]; simp only [hρ]
    cases hx <;> rfl
end
end Go.Abs

/-
  All operations that only read: the model's run comes to what 'aval' says.
-/
set_option linter.unusedVariables false
namespace Go.Abs

section
variable {P : Program} {σ : Sg} {s : St} {nt : Nat} {a : Act} {w : World}

theorem lift_val {m : Sem Value} {x : Value} {w : World} (h : m.run P w = .ok x w) : (do pure (Next.value (← m)) : Sem Next).run P w = .ok (.value x) w := by
  rw [Sem.run_bind, h]; rfl

theorem opt_none : OptRel σ none none := .none

theorem bool_inv {b : Bool} {x : Value} (h : Rel σ (.p (.bool b)) x) : x = .bool b := by
  cases h with | p h =>
  cases h; rfl

theorem aassert_run {t : TypeId} {ok : Bool} {u v : AV} {y : Value} (h : aassert P t ok u = some v) (hy : Rel σ u y) (xt : TypeId) : ∃ r, (Instr.typeAssert y xt t ok).run P w = .ok r w ∧ Rel σ v r := by
  unfold aassert at h
  split at h
  · cases h
  · cases h
  · rename_i d hd' hd
    have fails : (azero P t).map (fun z => AV.tuple [z, .p (.bool false)]) = some v → ok = true → ∃ r, (do pure (Value.tuple #[← zeroValue t, .bool false]) : Sem Value).run P w = .ok r w ∧ Rel σ v r := fun h _ => by
      rw [Option.map_eq_some_iff] at h
      obtain ⟨z, hz, rfl⟩ := h
      obtain ⟨z', h1, h2⟩ := azero_run (σ := σ) (w := w) hz
      refine ⟨.tuple #[z', .bool false], ?_, .tuple rfl fun i x hx => ?_⟩
      · rw [Sem.run_bind, h1]; rfl
      · match i with
        | 0 => simp at hx; subst hx; exact h2
        | 1 => simp at hx; subst hx; exact .p (.bool false)
        | i + 2 => simp at hx
    split at h
    · split at h
      · rename_i hok
        subst hok
        cases hy with | p hy =>
        cases hy
        obtain ⟨r, h1, h2⟩ := fails h rfl
        refine ⟨r, ?_, h2⟩
        rw [← h1]
        simp only [Instr.typeAssert, Sem.run_bind, run_underlying hd, Result.andThen_ok]
        cases d <;> first | exact (hd' _ rfl).elim | rfl | (simp; done)
      · cases h
    · rename_i t' u'
      cases hy with | iface hy =>
      rename_i y'
      split at h
      · rename_i ht
        simp only [Option.some.injEq] at h; subst h
        subst ht
        cases ok with
        | true =>
          refine ⟨.tuple #[y', .bool true], ?_, .tuple rfl fun i x hx => ?_⟩
          · simp only [Instr.typeAssert, Sem.run_bind, run_underlying hd, Result.andThen_ok]
            cases d <;> first | exact (hd' _ rfl).elim | (simp; done) | rfl
          · match i with
            | 0 => simp at hx; subst hx; exact hy
            | 1 => simp at hx; subst hx; exact .p (.bool true)
            | i + 2 => simp at hx
        | false =>
          refine ⟨y', ?_, hy⟩
          simp only [Instr.typeAssert, Sem.run_bind, run_underlying hd, Result.andThen_ok]
          cases d <;> first | exact (hd' _ rfl).elim | (simp; done) | rfl
      · rename_i ht
        split at h
        · rename_i hok
          subst hok
          obtain ⟨r, h1, h2⟩ := fails h rfl
          refine ⟨r, ?_, h2⟩
          rw [← h1]
          simp only [Instr.typeAssert, Sem.run_bind, run_underlying hd, Result.andThen_ok]
          cases d <;> first | exact (hd' _ rfl).elim | (simp [ht]; done)
        · cases h
    · cases h

theorem aval_run (hr : RelS σ s nt a w) {o : Oper} {v : AV} (h : aval P s o = some v) : ∃ x, (execOp a.eval o).run P w = .ok (.value x) w ∧ Rel σ v x := by
  obtain ⟨dst, op, type, pos, after, guard⟩ := o
  have lv : ∀ (m : Sem Value), (∃ r, m.run P w = .ok r w ∧ Rel σ v r) → ∃ x, (do pure (Next.value (← m)) : Sem Next).run P w = .ok (.value x) w ∧ Rel σ v x :=
    fun m ⟨r, h1, h2⟩ => ⟨r, lift_val h1, h2⟩
  cases op <;> simp only [aval] at h
  case move x => exact ⟨_, rfl, ev_rel hr h⟩
  case assign x => exact ⟨_, rfl, ev_rel hr h⟩
  case pick c x y =>
    split at h
    · rename_i hc
      exact ⟨a.eval x, by simp only [execOp, bool_inv (ev_rel hr hc), asBool]; rfl, ev_rel hr h⟩
    · rename_i hc
      exact ⟨a.eval y, by simp only [execOp, bool_inv (ev_rel hr hc), asBool]; rfl, ev_rel hr h⟩
    · simp at h
  case load t x =>
    rw [Option.bind_eq_some_iff] at h
    obtain ⟨l, hl, h⟩ := h
    rw [Option.bind_eq_some_iff] at hl
    obtain ⟨u, hu, hl⟩ := hl
    exact lv _ (aload_run h (cellsAt_rel hr (ev_rel hr hu) hl))
  case fieldAddr st x f =>
    rw [Option.bind_eq_some_iff] at h
    obtain ⟨u, hu, h⟩ := h
    exact lv _ (afield_run h (ev_rel hr hu))
  case indexAddr t x i =>
    split at h
    · rename_i u k n hu hn
      have hi := int_inv (ev_rel hr hn)
      exact lv _ (by show ∃ r, (Instr.indexAt t (a.eval x) (a.eval i)).run P w = _ ∧ _; rw [hi]; exact aindex_run h (ev_rel hr hu) k)
    · simp at h
  case nilCheck x =>
    rw [Option.bind_eq_some_iff] at h
    obtain ⟨u, hu, h⟩ := h
    exact ⟨_, anil_run h (ev_rel hr hu) _ x a.eval rfl rfl⟩
  case lookup t m i ok =>
    split at h
    · rename_i u k hu hk
      exact lv _ (alookup_run hr h (ev_rel hr hu) (ev_rel hr hk))
    · simp at h
  case binOp op t x y yt =>
    split at h
    · rename_i u k hu hk
      exact lv _ (abin_run h (ev_rel hr hu) (ev_rel hr hk) x y w)
    · simp at h
  case unOp op t x =>
    rw [Option.bind_eq_some_iff] at h
    obtain ⟨u, hu, h⟩ := h
    exact lv _ (aun_run h (ev_rel hr hu) w)
  case convert src dst x =>
    rw [Option.bind_eq_some_iff] at h
    obtain ⟨u, hu, h⟩ := h
    exact lv _ (aconv_run h (ev_rel hr hu))
  case extract x i =>
    split at h
    · rename_i l hl
      rw [Option.map_eq_some_iff] at h
      obtain ⟨u, hu, rfl⟩ := h
      have hx := ev_rel hr hl
      generalize hy : a.eval x = y at hx
      cases hx with | tuple h1 h2 =>
      rename_i l'
      have hlt : i < l'.size := by rw [h1]; exact (List.getElem?_eq_some_iff.1 hu).1
      refine lv _ ⟨l'.getD i undef, ?_, (h2 i u hu).ld⟩
      simp [hy, Instr.extract, hlt]
    · simp at h
  case makeInterface t x =>
    split at h
    · simp at h
    · simp at h
    · rename_i d hn1 hn2
      rw [Option.map_eq_some_iff] at h
      obtain ⟨u, hu, rfl⟩ := h
      cases hd : P.underlying t with
      | none => exact absurd hd hn2
      | some d =>
        refine lv _ ⟨.iface t (a.eval x), ?_, .iface (ev_rel hr hu).plain⟩
        simp only [Instr.makeInterface, Sem.run_bind, run_underlying hd, Result.andThen_ok]
        cases d <;> first | rfl | exact absurd hd (hn1 _)
  case makeFunc fn first caps =>
    cases fn <;> simp only [reduceCtorEq] at h
    split at h
    · rename_i l m hl hm
      simp only [Option.some.injEq] at h; subst h
      obtain ⟨h1, h2⟩ := evs_rel hr hl
      obtain ⟨h3, h4⟩ := evs_rel hr hm
      refine lv _ ⟨_, rfl, .fn (by simpa using h1) (by simpa using h3) (fun i x hx => ?_) (fun i x hx => ?_)⟩
      · have := h2 i x hx
        simpa [Array.getD_eq_getD_getElem?] using this
      · have := h4 i x hx
        simpa [Array.getD_eq_getD_getElem?] using this
    · simp at h
  case typeAssert x xt t ok =>
    rw [Option.bind_eq_some_iff] at h
    obtain ⟨u, hu, h⟩ := h
    exact lv _ (aassert_run h (ev_rel hr hu) xt)
  case slice t x lo hi mx =>
    rw [Option.bind_eq_some_iff] at h
    obtain ⟨u, hu, h⟩ := h
    split at h
    · exact lv _ (aslice_run h (ev_rel hr hu) .none .none .none)
    · rw [Option.bind_eq_some_iff] at h
      obtain ⟨l, hl, h⟩ := h
      exact lv _ (aslice_run h (ev_rel hr hu) (.some (ev_rel hr hl)) .none .none)
    · rw [Option.bind_eq_some_iff] at h
      obtain ⟨l, hl, h⟩ := h
      exact lv _ (aslice_run h (ev_rel hr hu) .none (.some (ev_rel hr hl)) .none)
    · rw [Option.bind_eq_some_iff] at h
      obtain ⟨l, hl, h⟩ := h
      rw [Option.bind_eq_some_iff] at h
      obtain ⟨m, hm, h⟩ := h
      exact lv _ (aslice_run h (ev_rel hr hu) .none (.some (ev_rel hr hl)) (.some (ev_rel hr hm)))
    · simp at h
  case call c =>
    obtain ⟨callee, args, ats⟩ := c
    simp only at h
    split at h
    · rename_i _ x h2
      have hargs : args = #[x] := by rw [← Array.toList_inj]; exact h2
      subst hargs
      split at h
      · rename_i t ht
        rw [Option.bind_eq_some_iff] at h
        obtain ⟨u, hu, h⟩ := h
        show ∃ y, (do pure (Next.value (← Builtin.len_ ats type ((#[x] : Array Operand).map a.eval))) : Sem Next).run P w = _ ∧ _
        rw [show (#[x] : Array Operand).map a.eval = #[a.eval x] by simp]
        exact lv _ (alen_run h (ev_rel hr hu) ats ht)
      · simp at h
    · rename_i _ x y h2
      have hargs : args = #[x, y] := by rw [← Array.toList_inj]; exact h2
      subst hargs
      split at h
      · rename_i u k hu hk
        show ∃ r, (do pure (Next.value (← Builtin.min_ ats type ((#[x, y] : Array Operand).map a.eval))) : Sem Next).run P w = _ ∧ _
        rw [show (#[x, y] : Array Operand).map a.eval = #[a.eval x, a.eval y] by simp]
        exact lv _ (by simpa using aminmax_run (P := P) (w := w) h (ev_rel hr hu) (ev_rel hr hk) ats type)
      · simp at h
    · rename_i _ x y h2
      have hargs : args = #[x, y] := by rw [← Array.toList_inj]; exact h2
      subst hargs
      split at h
      · rename_i u k hu hk
        show ∃ r, (do pure (Next.value (← Builtin.max_ ats type ((#[x, y] : Array Operand).map a.eval))) : Sem Next).run P w = _ ∧ _
        rw [show (#[x, y] : Array Operand).map a.eval = #[a.eval x, a.eval y] by simp]
        exact lv _ (by simpa using aminmax_run (P := P) (w := w) h (ev_rel hr hu) (ev_rel hr hk) ats type)
      · simp at h
    · simp at h
  all_goals simp at h
end
end Go.Abs

/-
  The operations that write: what each does to the abstract state, and that the model's own run does the same. First: a slot, a cell, a new block.
-/
set_option linter.unusedVariables false
namespace Go.Abs

def St.put (s : St) (dst : Option Nat) (v : AV) : St :=
  match dst with
  | some d => { s with ts := (d, v) :: s.ts }
  | none => s

def dstOk (nt : Nat) : Option Nat → Bool
  | some d => decide (d < nt)
  | none => true

@[simp] theorem St.put_L (s : St) (d : Option Nat) (v : AV) : (s.put d v).L = s.L := by cases d <;> rfl
@[simp] theorem St.put_G (s : St) (d : Option Nat) (v : AV) : (s.put d v).G = s.G := by cases d <;> rfl
theorem St.look_put (s : St) (d : Option Nat) (v : AV) (k : Key) : (s.put d v).look k = s.look k := by cases d <;> cases k <;> rfl

def upd : LS → Nat → List AV → LS
  | [], t, cs => [(t, cs)]
  | (u, x) :: r, t, cs => if u = t then (u, cs) :: r else (u, x) :: upd r t cs

theorem get_upd (L : LS) (t : Nat) (cs : List AV) (t' : Nat) : get (upd L t cs) t' = if t = t' then some cs else get L t' := by
  induction L with
  | nil => simp [upd, get]
  | cons x r ih =>
    obtain ⟨u, y⟩ := x
    simp only [upd]
    split
    · rename_i e; subst e; simp only [get]; split <;> simp_all
    · rename_i e
      simp only [get, ih]
      split
      · rename_i e2; subst e2; rw [if_neg (fun h => e h.symm)]
      · rfl

theorem upd_upd (L : LS) (t : Nat) (cs cs' : List AV) : upd (upd L t cs) t cs' = upd L t cs' := by
  induction L with
  | nil => simp [upd]
  | cons x r ih =>
    obtain ⟨u, y⟩ := x
    simp only [upd]
    split
    · rename_i e; simp [upd, e]
    · rename_i e; simp [upd, e, ih]

def St.setBlk (s : St) (k : Key) (cs : List AV) : St :=
  match k with
  | .g id => { s with G := s.G.set id (.cells cs) }
  | .l t => { s with L := upd s.L t cs }

theorem St.setBlk_setBlk (s : St) (k : Key) (cs cs' : List AV) : (s.setBlk k cs).setBlk k cs' = s.setBlk k cs' := by
  cases k <;> simp [St.setBlk, upd_upd]

theorem St.look_setBlk (s : St) (k : Key) (cs cs0 : List AV) (h : s.look k = some (.cells cs0)) : (s.setBlk k cs).look k = some (.cells cs) := by
  cases k with
  | g id =>
    have : id < s.G.length := (List.getElem?_eq_some_iff.1 h).1
    simp [St.setBlk, St.look, this]
  | l t => simp [St.setBlk, St.look, get_upd]

section
variable {P : Program} {σ : Sg} {s : St} {nt : Nat} {a : Act} {w : World}

theorem RelS.put (hr : RelS σ s nt a w) {v : AV} {x : Value} (hx : Rel σ v x) {dst : Option Nat} (hd : dstOk nt dst = true) : RelS σ (s.put dst v) nt (a.put dst x) w := by
  cases dst with
  | none => exact hr
  | some d =>
    have hd : d < nt := by simpa [dstOk] using hd
    refine ⟨by simpa [Act.put] using hr.sz, hr.df, fun t y h => ?_, hr.blks, hr.cinv, hr.gfree, hr.lfree, hr.wf⟩
    simp only [St.put, get] at h
    split at h
    · rename_i e
      subst e
      simp only [Option.some.injEq] at h; subst h
      refine ⟨hd, ?_⟩
      have : d < a.tmps.size := by rw [hr.sz]; exact hd
      simpa [Act.put, Array.getD_eq_getD_getElem?, this] using hx
    · rename_i e
      obtain ⟨h1, h2⟩ := hr.vals t y h
      refine ⟨h1, ?_⟩
      simpa [Act.put, Array.getD_eq_getD_getElem?, Array.getElem?_setIfInBounds_ne e] using h2

/-- Values keep their meaning where a block is only written. -/
theorem look_g {id : Nat} {blk : Blk} (h : s.G[id]? = some blk) : s.look (.g id) = some blk := h

/-- May a value lie in the cell of such a place? -/
def AV.fits (k : Key) (v : AV) : Bool := v.chk (keyf k) (fun _ => false)

theorem BlkInv.set {k : Key} {cs : List AV} (h : BlkInv k (.cells cs)) {v : AV} {off : Nat} (hv : v.chk (keyf k) (fun t => t == .c k off) = true) : BlkInv k (.cells (cs.set off v)) := by
  intro j x hj
  rw [List.getElem?_set] at hj
  split at hj
  · rename_i e
    subst e
    split at hj
    · simp only [Option.some.injEq] at hj; subst hj; exact hv
    · simp at hj
  · exact h j x hj

theorem St.look_setBlk_ne (s : St) (k k' : Key) (cs : List AV) (h : k' ≠ k) : (s.setBlk k cs).look k' = s.look k' := by
  cases k with
  | g id =>
    cases k' with
    | g id' =>
      have : id ≠ id' := fun e => h (by rw [e])
      simp [St.setBlk, St.look, List.getElem?_set, this]
    | l t => rfl
  | l t =>
    cases k' with
    | g id' => rfl
    | l t' =>
      have : t ≠ t' := fun e => h (by rw [e])
      simp [St.setBlk, St.look, get_upd, this]

theorem heap_setCell (w : World) (b o : Nat) (x : Value) (i : Nat) : (w.setCell ⟨b, o, none⟩ x).heap[i]? =
    if b = i then (w.heap[i]?).map (fun | .cells c e f => .cells (c.setIfInBounds o x) e f | y => y) else w.heap[i]? := by
  simp only [World.setCell, Array.getElem?_modify]; rfl

theorem RelS.storeT (hr : RelS σ s nt a w) {k : Key} {cs : List AV} (hl : s.look k = some (.cells cs)) {off : Nat} (hoff : off < cs.length) {v : AV} {x : Value} (hx : Rel σ v x)
    (hv' : v.chk (keyf k) (fun t => t == .c k off) = true) : ∃ b, σ.blk k = some b ∧ (∃ u, w.cell? ⟨b, off, none⟩ = some u) ∧ w.frozen? ⟨b, off, none⟩ = false ∧
      RelS σ (s.setBlk k (cs.set off v)) nt a (w.setCell ⟨b, off, none⟩ x) ∧ Post σ σ w (w.setCell ⟨b, off, none⟩ x) := by
  obtain ⟨b, hb, c, T, hc, hsz, hcs⟩ := hr.blks _ _ hl
  have hlt : off < c.size := by omega
  have hne : ∀ k', k' ≠ k → σ.blk k' ≠ some b := fun k' hk h => hk (hr.wf.inj _ _ _ h hb)
  have hother : ∀ i, i ≠ b → (w.setCell ⟨b, off, none⟩ x).heap[i]? = w.heap[i]? := fun i hi => by rw [heap_setCell, if_neg (fun e => hi e.symm)]
  have hthis : (w.setCell ⟨b, off, none⟩ x).heap[b]? = some (.cells (c.setIfInBounds off x) T (0, 0)) := by rw [heap_setCell, if_pos rfl, hc]; rfl
  refine ⟨b, hb, ⟨c[off], by rw [cell_of_block hc]; simp [hlt]⟩, by simp [World.frozen?, hc], ?_, ?_⟩
  · have hnew : RelB σ (w.setCell ⟨b, off, none⟩ x) b (.cells (cs.set off v)) := by
      refine ⟨_, T, hthis, by simpa using hsz, fun j y hj => ?_⟩
      rw [List.getElem?_set] at hj
      split at hj
      · rename_i e
        subst e
        simp only [hoff, if_true, Option.some.injEq] at hj; subst hj
        simpa [Array.getD_eq_getD_getElem?, hlt] using hx
      · rename_i e
        have := hcs j y hj
        simpa [Array.getD_eq_getD_getElem?, Array.getElem?_setIfInBounds_ne e] using this
    refine ⟨hr.sz, hr.df, ?_, ?_, ?_, ?_, ?_, ?_⟩
    · cases k <;> exact hr.vals
    · intro k' blk h
      by_cases hk : k' = k
      · subst hk
        rw [St.look_setBlk _ _ _ _ hl] at h
        simp only [Option.some.injEq] at h; subst h
        exact ⟨b, hb, hnew⟩
      · rw [St.look_setBlk_ne _ _ _ _ hk] at h
        obtain ⟨b', hb', hB⟩ := hr.blks _ _ h
        have hbb : b' ≠ b := fun e => hne _ hk (e ▸ hb')
        refine ⟨b', hb', ?_⟩
        cases blk with
        | cells cs' => obtain ⟨c', T', h1, h2⟩ := hB; exact ⟨c', T', by rw [hother _ hbb]; exact h1, h2⟩
        | map es cl => obtain ⟨es', h1, h2⟩ := hB; exact ⟨es', by rw [hother _ hbb]; exact h1, h2⟩
        | dead => trivial
        | iter m since seen c0 => obtain ⟨bm, h1, h2⟩ := hB; exact ⟨bm, h1, by rw [hother _ hbb]; exact h2⟩
    · intro k' blk h
      by_cases hk : k' = k
      · subst hk
        rw [St.look_setBlk _ _ _ _ hl] at h
        simp only [Option.some.injEq] at h; subst h
        exact (hr.cinv _ _ hl).set hv'
      · rw [St.look_setBlk_ne _ _ _ _ hk] at h
        exact hr.cinv _ _ h
    · intro id h
      cases k with
      | g id' => exact hr.gfree _ (by simpa [St.setBlk] using h)
      | l t => exact hr.gfree _ h
    · intro t h
      cases k with
      | g id' => exact hr.lfree _ h
      | l t' =>
        simp only [St.setBlk, get_upd] at h
        split at h
        · simp at h
        · exact hr.lfree _ h
    · refine ⟨hr.wf.inj, hr.wf.injt, hr.wf.injtt, fun k b h => by simpa using hr.wf.lt k b h, fun t b' e l h => ?_, hr.wf.blkI, fun b' o u h => ?_⟩
      · have hbb : b' ≠ b := fun e' => hr.wf.injt _ _ _ _ _ hb (e' ▸ h)
        obtain ⟨⟨c', T', h1, h2⟩, h3⟩ := hr.wf.tokw _ _ _ _ h
        exact ⟨⟨c', T', by rw [hother _ hbb]; exact h1, h2⟩, h3⟩
      · have hbb : b' ≠ b := fun e' => by
          have := hr.wf.blkI _ _ o hb
          rw [e', this] at h; simp at h
        have := hr.wf.imm _ _ _ h
        simpa [World.cell?, hother _ hbb] using this
  · exact ⟨fun _ _ _ h => h, fun _ _ _ h => .inl h, fun _ h => .inl h, fun _ _ h => h, fun b' hb' hn => hother _ (fun e => hn (e ▸ .inl ⟨k, hb⟩)), by simp, rfl, rfl, rfl, rfl, frozen_same fun i => if e : i = b then .inr ⟨by rw [e]; exact nf_cells hc, by rw [e]; exact nf_cells hthis⟩ else .inl (hother i e)⟩

theorem RelS.store (hr : RelS σ s nt a w) {k : Key} {cs : List AV} (hl : s.look k = some (.cells cs)) {off : Nat} (hoff : off < cs.length) {v : AV} {x : Value} (hx : Rel σ v x)
    (hf : v.fits k = true) : ∃ b, σ.blk k = some b ∧ (∃ u, w.cell? ⟨b, off, none⟩ = some u) ∧ w.frozen? ⟨b, off, none⟩ = false ∧
      RelS σ (s.setBlk k (cs.set off v)) nt a (w.setCell ⟨b, off, none⟩ x) ∧ Post σ σ w (w.setCell ⟨b, off, none⟩ x) :=
  hr.storeT hl hoff hx (chk_imp (fun _ h => h) (fun _ h => by simp at h) _ hf)

def Sg.setBlk (σ : Sg) (k : Key) (b : Nat) : Sg := { σ with blk := fun k' => if k' = k then some b else σ.blk k' }

theorem Sg.setBlk_mono {k : Key} {b : Nat} (hk : σ.blk k = none) (k' : Key) (b' : Nat) (h : σ.blk k' = some b') : (σ.setBlk k b).blk k' = some b' := by
  simp only [Sg.setBlk]
  split
  · rename_i e; rw [e, hk] at h; simp at h
  · exact h

theorem Rel.new {k : Key} {b : Nat} (hk : σ.blk k = none) {v : AV} {x : Value} (h : Rel σ v x) : Rel (σ.setBlk k b) v x :=
  Rel.mono (σ := σ) (σ' := σ.setBlk k b) (fun _ _ _ h => h) (fun k' b' h => Sg.setBlk_mono hk k' b' h) (fun _ _ h => h) h

theorem heap_alloc (w : World) (o : Obj) (i : Nat) (h : i < w.heap.size) : (w.alloc o).heap[i]? = w.heap[i]? := by
  show (w.heap.push o)[i]? = _
  rw [Array.getElem?_push, if_neg (by omega)]

theorem heap_alloc_new (w : World) (o : Obj) : (w.alloc o).heap[w.heap.size]? = some o := by
  show (w.heap.push o)[w.heap.size]? = _
  simp

theorem RelB.lt {b : Nat} {blk : Blk} (hd : blk ≠ .dead) (h : RelB σ w b blk) : b < w.heap.size := by
  cases blk with
  | cells cs => obtain ⟨c, T, h1, _⟩ := h; exact (Array.getElem?_eq_some_iff.1 h1).1
  | map es cl => obtain ⟨c, h1, _⟩ := h; exact (Array.getElem?_eq_some_iff.1 h1).1
  | dead => exact absurd rfl hd
  | iter m since seen c0 => obtain ⟨bm, _, h1⟩ := h; exact (Array.getElem?_eq_some_iff.1 h1).1

theorem RelB.grow {σ' : Sg} {w' : World} (hI : ∀ b o v, σ.I b o = some v → σ'.I b o = some v) (hR : ∀ v x, Rel σ v x → Rel σ' v x) {b : Nat} {blk : Blk}
    (hw : blk ≠ .dead → w'.heap[b]? = w.heap[b]?) (h : RelB σ w b blk) : RelB σ' w' b blk := by
  cases blk with
  | cells cs => obtain ⟨c, T, h1, h2, h3⟩ := h; exact ⟨c, T, by rw [hw (by simp)]; exact h1, h2, fun j x hj => hR _ _ (h3 j x hj)⟩
  | map es cl => obtain ⟨c, h1, h2, h3⟩ := h; exact ⟨c, by rw [hw (by simp)]; exact h1, h2, fun j k v n hj => ⟨(h3 j k v n hj).1.mono hI, hR _ _ (h3 j k v n hj).2.1, (h3 j k v n hj).2.2⟩⟩
  | dead => trivial
  | iter m since seen c0 =>
    obtain ⟨bm, h1, h2⟩ := h
    have : Rel σ' (.map m) (.map (some bm)) := hR _ _ (.map h1)
    cases this with | map h => exact ⟨bm, h, by rw [hw (by simp)]; exact h2⟩

theorem WFS.imm_lt (h : WFS σ w) {b o : Nat} {v : Value} (e : σ.I b o = some v) : b < w.heap.size :=
  World.block_lt_of_cell? (w := w) (a := ⟨b, o, none⟩) (h.imm _ _ _ e)

theorem WFS.new (h : WFS σ w) {k : Key} (hk : σ.blk k = none) (o : Obj) : WFS (σ.setBlk k w.heap.size) (w.alloc o) := by
  have old : ∀ k' b, k' ≠ k → (σ.setBlk k w.heap.size).blk k' = some b → σ.blk k' = some b := fun k' b hk' e => by simpa [Sg.setBlk, hk'] using e
  have new : ∀ b, (σ.setBlk k w.heap.size).blk k = some b → b = w.heap.size := fun b e => by simpa [Sg.setBlk, eq_comm] using e
  refine ⟨fun k1 k2 b h1 h2 => ?_, fun k' t b e l h1 h2 => ?_, h.injtt, fun k' b h1 => ?_, fun t b e l h1 => ?_, fun k' b o' h1 => ?_, fun b o' v h1 => ?_⟩
  · by_cases e1 : k1 = k
    · by_cases e2 : k2 = k
      · rw [e1, e2]
      · subst e1; have := new b h1; have := h.lt _ _ (old _ _ e2 h2); omega
    · by_cases e2 : k2 = k
      · subst e2; have := new b h2; have := h.lt _ _ (old _ _ e1 h1); omega
      · exact h.inj _ _ _ (old _ _ e1 h1) (old _ _ e2 h2)
  · by_cases e1 : k' = k
    · subst e1
      have := new b h1
      obtain ⟨⟨c, T, h3, _⟩, _⟩ := h.tokw _ _ _ _ h2
      have := (Array.getElem?_eq_some_iff.1 h3).1
      omega
    · exact h.injt _ _ _ _ _ (old _ _ e1 h1) h2
  · rw [World.size_alloc]
    by_cases e1 : k' = k
    · subst e1; have := new b h1; omega
    · have := h.lt _ _ (old _ _ e1 h1); omega
  · obtain ⟨⟨c, T, h3, h4⟩, h5⟩ := h.tokw _ _ _ _ h1
    exact ⟨⟨c, T, by rw [heap_alloc _ _ _ (Array.getElem?_eq_some_iff.1 h3).1]; exact h3, h4⟩, h5⟩
  · by_cases e1 : k' = k
    · subst e1
      have := new b h1
      subst this
      cases e : σ.I w.heap.size o' with
      | none => exact e
      | some v => have := h.imm_lt e; omega
    · exact h.blkI _ _ _ (old _ _ e1 h1)
  · have h1 : σ.I b o' = some v := h1
    rw [World.cell?_alloc_lt _ _ _ (h.imm_lt h1)]
    exact h.imm _ _ _ h1

theorem Post.new (h : WFS σ w) {k : Key} (hk : σ.blk k = none) (o : Obj) (hnf : ∀ c T r, o = .cells c T r → r = (0, 0)) : Post σ (σ.setBlk k w.heap.size) w (w.alloc o) := by
  refine ⟨fun _ _ _ h => h, fun _ _ _ h => .inl h, fun b hb => ?_, fun id b e => Sg.setBlk_mono hk _ _ e, fun b hb _ => heap_alloc _ _ _ hb, by simp, rfl, rfl, rfl, rfl, frozen_alloc hnf⟩
  rcases hb with ⟨k', hb⟩ | ⟨t, e, l, hb⟩
  · by_cases e1 : k' = k
    · subst e1
      right
      have : b = w.heap.size := by simpa [Sg.setBlk, eq_comm] using hb
      omega
    · exact .inl (.inl ⟨k', by simpa [Sg.setBlk, e1] using hb⟩)
  · exact .inl (.inr ⟨t, e, l, hb⟩)

/-- A new block of the heap. -/
theorem RelS.newG (hr : RelS σ s nt a w) {o : Obj} {blk : Blk} (hB : RelB (σ.setBlk (.g s.G.length) w.heap.size) (w.alloc o) w.heap.size blk) (hc : BlkInv (.g s.G.length) blk) (hnf : ∀ c T r, o = .cells c T r → r = (0, 0) := by intro c T r h; cases h <;> rfl) :
    RelS (σ.setBlk (.g s.G.length) w.heap.size) { s with G := s.G ++ [blk] } nt a (w.alloc o) ∧ Post σ (σ.setBlk (.g s.G.length) w.heap.size) w (w.alloc o) := by
  have hk := hr.gfree s.G.length (Nat.le_refl _)
  refine ⟨⟨hr.sz, hr.df, fun t x h => ⟨(hr.vals t x h).1, (hr.vals t x h).2.new hk⟩, fun k blk' h => ?_, fun k blk' h => ?_, fun id h => ?_, fun t h => ?_, hr.wf.new hk o⟩, Post.new hr.wf hk o hnf⟩
  · have old : s.look k = some blk' → ∃ b, (σ.setBlk (.g s.G.length) w.heap.size).blk k = some b ∧ RelB (σ.setBlk (.g s.G.length) w.heap.size) (w.alloc o) b blk' := fun h => by
      obtain ⟨b, h1, h2⟩ := hr.blks _ _ h
      exact ⟨b, Sg.setBlk_mono hk _ _ h1, RelB.grow (σ := σ) (σ' := σ.setBlk (.g s.G.length) w.heap.size) (w := w) (fun _ _ _ h => h) (fun _ _ h => h.new hk) (fun hd => heap_alloc _ _ _ (h2.lt hd)) h2⟩
    cases k with
    | g id =>
      simp only [St.look, List.getElem?_append] at h
      split at h
      · exact old h
      · rename_i hge
        have : id = s.G.length := by
          have := (List.getElem?_eq_some_iff.1 h).1
          simp at this; omega
        subst this
        simp at h; subst h
        exact ⟨w.heap.size, by simp [Sg.setBlk], hB⟩
    | l t => exact old h
  · cases k with
    | g id =>
      simp only [St.look, List.getElem?_append] at h
      split at h
      · exact hr.cinv (.g id) _ h
      · rename_i hge
        have : id = s.G.length := by
          have := (List.getElem?_eq_some_iff.1 h).1
          simp at this; omega
        subst this
        simp at h; subst h; exact hc
    | l t => exact hr.cinv (.l t) _ h
  · simp only [List.length_append, List.length_cons, List.length_nil] at h
    have : Key.g id ≠ .g s.G.length := by simp; omega
    simp [Sg.setBlk, this, hr.gfree id (by omega)]
  · simp [Sg.setBlk, hr.lfree t h]

/-- A new variable that a slot points to. -/
theorem RelS.newL (hr : RelS σ s nt a w) {o : Obj} {t : Nat} (ht : get s.L t = none) {cs : List AV} (hB : RelB (σ.setBlk (.l t) w.heap.size) (w.alloc o) w.heap.size (.cells cs)) (hc : BlkInv (.l t) (.cells cs)) (hnf : ∀ c T r, o = .cells c T r → r = (0, 0) := by intro c T r h; cases h <;> rfl) :
    RelS (σ.setBlk (.l t) w.heap.size) { s with L := (t, cs) :: s.L } nt a (w.alloc o) ∧ Post σ (σ.setBlk (.l t) w.heap.size) w (w.alloc o) := by
  have hk := hr.lfree t ht
  refine ⟨⟨hr.sz, hr.df, fun t x h => ⟨(hr.vals t x h).1, (hr.vals t x h).2.new hk⟩, fun k blk' h => ?_, fun k blk' h => ?_, fun id h => ?_, fun t' h => ?_, hr.wf.new hk o⟩, Post.new hr.wf hk o hnf⟩
  · have old : s.look k = some blk' → ∃ b, (σ.setBlk (.l t) w.heap.size).blk k = some b ∧ RelB (σ.setBlk (.l t) w.heap.size) (w.alloc o) b blk' := fun h => by
      obtain ⟨b, h1, h2⟩ := hr.blks _ _ h
      exact ⟨b, Sg.setBlk_mono hk _ _ h1, RelB.grow (σ := σ) (σ' := σ.setBlk (.l t) w.heap.size) (w := w) (fun _ _ _ h => h) (fun _ _ h => h.new hk) (fun hd => heap_alloc _ _ _ (h2.lt hd)) h2⟩
    cases k with
    | g id => exact old h
    | l t' =>
      simp only [St.look, get] at h
      split at h
      · rename_i e
        subst e
        simp at h; subst h
        exact ⟨w.heap.size, by simp [Sg.setBlk], hB⟩
      · exact old h
  · cases k with
    | g id => exact hr.cinv (.g id) _ h
    | l t' =>
      simp only [St.look, get] at h
      split at h
      · rename_i e
        subst e
        simp at h; subst h; exact hc
      · exact hr.cinv (.l t') _ h
  · simp [Sg.setBlk, hr.gfree id h]
  · simp only [get] at h
    split at h
    · simp at h
    · rename_i e
      have : Key.l t' ≠ .l t := by simp; exact fun e' => e e'.symm
      simp [Sg.setBlk, this, hr.lfree t' h]
end
end Go.Abs

/-
  The operations that write, one by one: stores, new variables, maps.
-/
set_option linter.unusedVariables false
namespace Go.Abs

/-- What one operation does to the state. -/
def Does (P : Program) (nt : Nat) (s : St) (o : Oper) (s' : St) : Prop :=
  ∀ σ a w, RelS σ s nt a w → ∃ x w' σ', ((execOp a.eval o).run P w = .ok (.value x) w' ∨ ((execOp a.eval o).run P w = .ok .skip w' ∧ x = undef)) ∧
    RelS σ' s' nt (a.put o.dst x) w' ∧ Post σ σ' w w'

def setMany : List AV → Nat → List AV → List AV
  | cs, _, [] => cs
  | cs, off, x :: r => setMany (cs.set off x) (off + 1) r

@[simp] theorem length_setMany : ∀ (xs cs : List AV) (off : Nat), (setMany cs off xs).length = cs.length
  | [], _, _ => rfl
  | x :: r, cs, off => by simp [setMany, length_setMany r]

def AV.one : AV → Bool
  | .agg _ | .tuple _ | .undef => false
  | _ => true

/-- A value's cells. -/
def acells : AV → Option (List AV)
  | .agg l => if l.all AV.one then some (l.map AV.toCell) else none
  | .tuple _ | .undef => none
  | v => some [v.toCell]

section
variable {P : Program} {σ : Sg} {s : St} {nt : Nat} {a : Act} {w : World}

theorem one_cell {v : AV} {x : Value} (h : Rel σ v x) (ho : v.one = true) : x.oneCell' = true := by
  cases h with
  | p h => cases h <;> rfl
  | agg => simp [AV.one] at ho
  | tuple => simp [AV.one] at ho
  | undef => simp [AV.one] at ho
  | _ => rfl

theorem acells_rel {v : AV} {l : List AV} (h : acells v = some l) {x : Value} (hx : Rel σ v x) :
    x.cells.toList.length = l.length ∧ ∀ (i : Nat) (u : AV), l[i]? = some u → Rel σ u (x.cells.toList.getD i undef) ∧ (x.cells.toList.getD i undef).oneCell' = true := by
  have single : ∀ {v : AV} {x : Value}, Rel σ v x → v.one = true → [v.toCell] = l → x.cells.toList.length = l.length ∧ ∀ (i : Nat) (u : AV), l[i]? = some u → Rel σ u (x.cells.toList.getD i undef) ∧ (x.cells.toList.getD i undef).oneCell' = true := by
    intro v x hx ho hl
    subst hl
    have hc := one_cell hx ho
    have : x.cells = #[x] := by
      cases x <;> first | rfl | simp [Value.oneCell'] at hc
    rw [this]
    refine ⟨rfl, fun i u hu => ?_⟩
    cases i with
    | zero => simp at hu; subst hu; exact ⟨hx.toCell, hc⟩
    | succ i => simp at hu
  unfold acells at h
  split at h
  · rename_i l0
    split at h
    · rename_i hall
      simp only [Option.some.injEq] at h; subst h
      cases hx with | agg h1 h2 =>
      rename_i l'
      refine ⟨by simpa [Value.cells] using h1, fun i u hu => ?_⟩
      simp only [List.getElem?_map, Option.map_eq_some_iff] at hu
      obtain ⟨y, hy, rfl⟩ := hu
      have h3 := h2 i y hy
      have ho : y.one = true := by
        have := List.all_eq_true.1 hall y (List.mem_of_getElem? hy)
        exact this
      have e : (Value.agg l').cells.toList.getD i undef = l'.getD i undef := by
        simp [Value.cells, Array.getD_eq_getD_getElem?, List.getD_eq_getElem?_getD]
      rw [e]
      exact ⟨h3.toCell, one_cell h3 ho⟩
    · simp at h
  · simp at h
  · simp at h
  · rename_i h1 h2 h3
    simp only [Option.some.injEq] at h
    refine single hx ?_ h
    cases v <;> first | rfl | exact absurd rfl (h1 _) | exact absurd rfl (h2 _) | exact absurd rfl h3

theorem storeMany {k : Key} {b off : Nat} (hb : σ.blk k = some b) : ∀ (vs : List AV) (xs : List Value) (s : St) (cs : List AV) (w : World) (i : Nat), RelS σ s nt a w → s.look k = some (.cells cs) →
    xs.length = vs.length → (∀ (j : Nat) (v : AV), vs[j]? = some v → Rel σ v (xs.getD j undef) ∧ (xs.getD j undef).oneCell' = true) → vs.all (AV.fits k) = true → off + i + vs.length ≤ cs.length →
    ∃ w', (storeCells ⟨b, off, none⟩ xs i).run P w = .ok () w' ∧ RelS σ (if vs = [] then s else s.setBlk k (setMany cs (off + i) vs)) nt a w' ∧ Post σ σ w w'
  | [], xs, s, cs, w, i, hr, _, hlen, _, _, _ => by
    have : xs = [] := by simpa using hlen
    subst this
    exact ⟨w, rfl, by simpa using hr, .refl _ _⟩
  | v :: vs, [], _, _, _, _, _, _, hlen, _, _, _ => by simp at hlen
  | v :: vs, x :: xs, s, cs, w, i, hr, hl, hlen, hrel, hfit, hle => by
    simp only [List.all_cons, Bool.and_eq_true, List.length_cons] at hfit hle
    have h0 := hrel 0 v rfl
    simp only [List.getD_cons_zero] at h0
    have hlt : off + i < cs.length := by omega
    have hle' : off + (i + 1) + vs.length ≤ (cs.set (off + i) v).length := by rw [List.length_set]; omega
    obtain ⟨b', hb', ⟨u, hu⟩, hfz, hr', hp⟩ := hr.store hl hlt h0.1 hfit.1
    rw [hb] at hb'; cases hb'
    obtain ⟨w', h1, h2, h3⟩ := storeMany hb vs xs (s.setBlk k (cs.set (off + i) v)) (cs.set (off + i) v) (w.setCell ⟨b, off + i, none⟩ x) (i + 1) hr' (St.look_setBlk _ _ _ _ hl)
      (by simpa using hlen) (fun j y hj => by simpa using hrel (j + 1) y (by simpa using hj)) hfit.2 hle'
    refine ⟨w', ?_, ?_, hp.trans h3⟩
    · rw [storeCells, Sem.run_bind, add_none, run_store _ _ _ _ _ h0.2, hu]
      simp only [hfz, Bool.false_eq_true, if_false, Result.andThen_ok]
      exact h1
    · simp only [List.cons_ne_nil, if_false, setMany]
      by_cases he : vs = []
      · subst he; simpa [setMany] using h2
      · rw [if_neg he, St.setBlk_setBlk] at h2
        rw [show off + i + 1 = off + (i + 1) by omega]; exact h2

/-- 'x.f = v', 'xs[i] = v', 'v' of one cell or many. -/
def astore (P : Program) (s : St) (t : TypeId) (x v : AV) : Option St :=
  match x, acells v with
  | .ptr k off, some (c :: vs) => match s.look k with
    | some (.cells cs) => if (c :: vs).length = P.cellsOf t ∧ off + (c :: vs).length ≤ cs.length ∧ (c :: vs).all (AV.fits k) then some (s.setBlk k (setMany cs off (c :: vs))) else none
    | _ => none
  | _, _ => none

theorem astore_does {o : Oper} {t : TypeId} {x v : Operand} (ho : o.op = .store t x v) (hd : o.dst = none) {xv vv : AV} (hx : ev s x = some xv) (hv : ev s v = some vv) {s' : St}
    (h : astore P s t xv vv = some s') : Does P nt s o s' := by
  intro σ a w hr
  unfold astore at h
  split at h
  · rename_i k off c vs hc
    split at h
    · rename_i cs hl
      split at h
      · rename_i hcond
        obtain ⟨h1, h2, h3⟩ := hcond
        simp only [Option.some.injEq] at h; subst h
        have hxr := ev_rel hr hx
        have hvr := ev_rel hr hv
        obtain ⟨e1, e2⟩ := acells_rel hc hvr
        generalize hy : a.eval x = y at hxr
        cases hxr with | ptr off hb =>
        obtain ⟨w', g1, g2, g3⟩ := storeMany (P := P) (off := off) hb (c :: vs) (a.eval v).cells.toList s cs w 0 hr hl e1 e2 h3 (by simpa using h2)
        refine ⟨undef, w', σ, .inr ⟨?_, rfl⟩, ?_, g3⟩
        · have hne : P.cellsOf t ≠ 0 := by rw [← h1]; simp
          have hsz : (a.eval v).cells.size = P.cellsOf t := by rw [← h1, ← e1]; simp
          unfold execOp
          rw [ho]
          simp only [hy, Instr.storeAt, Instr.sureAddr, storeVar, Sem.run_bind, Sem.run_pure, Result.andThen_ok, run_sizeOf_ne hne, hsz]
          simp [g1]
        · rw [hd]
          simpa [Act.put] using g2
      · simp at h
    · simp at h
  · simp at h
end
end Go.Abs

/-
  New variables and new maps; stores into maps.
-/
set_option linter.unusedVariables false
namespace Go.Abs

def AV.cellsOf : AV → Option (List AV)
  | .agg l => some (l.map AV.toCell)
  | .tuple _ | .undef => none
  | v => some [v.toCell]

theorem bytesBeq (a b : ByteArray) : (a == b) = true ↔ a = b := by
  obtain ⟨x⟩ := a
  obtain ⟨y⟩ := b
  constructor
  · intro h
    have e : x = y := by simpa using (show (x == y) = true from h)
    rw [e]
  · intro h
    cases h
    show (x == x) = true
    simp

/-- A new variable that only this frame sees. -/
def newL (s : St) (d : Nat) (cs : List AV) : Option St :=
  if (get s.L d).isNone ∧ cs.all (AV.fits (.l d)) then some { ts := (d, .ptr (.l d) 0) :: s.ts, L := (d, cs) :: s.L, G := s.G } else none

/-- A new variable in the heap. -/
def newG (s : St) (d : Nat) (cs : List AV) : Option St :=
  if cs.all (AV.fits (.g s.G.length)) then some { ts := (d, .ptr (.g s.G.length) 0) :: s.ts, L := s.L, G := s.G ++ [.cells cs] } else none

/-- 'heap' says of which slots the variable is seen elsewhere. -/
def newVarA (heap : List Nat) (s : St) (d : Nat) (cs : List AV) : Option St := if heap.contains d then newG s d cs else newL s d cs

def aput (k : PV) (v : AV) (clock : Nat) : List (PV × AV × Nat) → Option (List (PV × AV × Nat) × Nat)
  | [] => some ([(k, v, clock)], clock + 1)
  | (k', v', n) :: r => match pkeq k k' with
    | some true => some ((k, v, n) :: r, clock)
    | some false => (aput k v clock r).map fun (l, c) => ((k', v', n) :: l, c)
    | none => none

def aupdate (P : Program) (s : St) (t : TypeId) (m k v : AV) : Option St :=
  match P.underlying t, m, k with
  | some (.map kt _), .map id, .p k =>
    match s.G[id]? with
    | some (.map es clock) =>
      if keyOk P kt k ∧ v.plain.fits (.g id) then (aput k v.plain clock es).map fun (l, c) => { s with G := s.G.set id (.map l c) } else none
    | _ => none
  | _, _, _ => none

theorem inv_cells {k k' : Key} (hk : keyf k' = keyf k) {cs : List AV} (h : cs.all (AV.fits k') = true) : BlkInv k (.cells cs) := fun j x hj =>
  chk_imp (fun q hq => by rw [hk] at hq; exact hq) (fun _ h => by simp at h) _ (List.all_eq_true.1 h x (List.mem_of_getElem? hj))

section
variable {P : Program} {σ : Sg} {s : St} {nt : Nat} {a : Act} {w : World}

theorem cellsOf_rel {v : AV} {l : List AV} (h : v.cellsOf = some l) {x : Value} (hx : Rel σ v x) :
    x.cells.size = l.length ∧ ∀ (i : Nat) (u : AV), l[i]? = some u → Rel σ u (x.cells.getD i undef) := by
  have single : ∀ {v : AV} {x : Value}, Rel σ v x → v.one = true → [v.toCell] = l → x.cells.size = l.length ∧ ∀ (i : Nat) (u : AV), l[i]? = some u → Rel σ u (x.cells.getD i undef) := by
    intro v x hx ho hl
    subst hl
    have hc := one_cell hx ho
    have : x.cells = #[x] := by
      cases x <;> first | rfl | simp [Value.oneCell'] at hc
    rw [this]
    refine ⟨rfl, fun i u hu => ?_⟩
    cases i with
    | zero => simp at hu; subst hu; exact hx.toCell
    | succ i => simp at hu
  unfold AV.cellsOf at h
  split at h
  · simp only [Option.some.injEq] at h; subst h
    cases hx with | agg h1 h2 =>
    refine ⟨by simpa [Value.cells] using h1, fun i u hu => ?_⟩
    rw [List.getElem?_map, Option.map_eq_some_iff] at hu
    obtain ⟨y, hy, rfl⟩ := hu
    exact (h2 i y hy).toCell
  · simp at h
  · simp at h
  · rename_i h1 h2 h3
    simp only [Option.some.injEq] at h
    refine single hx ?_ h
    cases v <;> first | rfl | exact absurd rfl (h1 _) | exact absurd rfl (h2 _) | exact absurd rfl h3

theorem St.put_some (s : St) (d : Nat) (v : AV) : s.put (some d) v = { s with ts := (d, v) :: s.ts } := rfl

/-- The new variable itself, in the model: 'newVar t v'. -/
theorem newVarA_rel {heap : List Nat} {d : Nat} {cs : List AV} {s' : St} (h : newVarA heap s d cs = some s') (hr : RelS σ s nt a w) (hd : d < nt) {t : TypeId} {x : Value}
    (h1 : x.cells.size = cs.length) (h2 : ∀ (i : Nat) (u : AV), cs[i]? = some u → Rel σ u (x.cells.getD i undef)) :
    ∃ b σ', (newVar t x).run P w = .ok ⟨b, 0, none⟩ (w.alloc (.cells x.cells t)) ∧ RelS σ' s' nt (a.put (some d) (.pointer (some ⟨b, 0, none⟩))) (w.alloc (.cells x.cells t)) ∧ Post σ σ' w (w.alloc (.cells x.cells t)) := by
  have hrun : (newVar t x).run P w = .ok ⟨w.heap.size, 0, none⟩ (w.alloc (.cells x.cells t)) := rfl
  unfold newVarA at h
  split at h
  · unfold newG at h
    split at h
    · rename_i hc
      simp only [Option.some.injEq] at h; subst h
      have hk := hr.gfree s.G.length (Nat.le_refl _)
      obtain ⟨g1, g2⟩ := hr.newG (o := .cells x.cells t) (blk := .cells cs) ⟨_, t, heap_alloc_new _ _, Nat.le_of_eq h1.symm, fun j u hu => (h2 j u hu).new hk⟩ (inv_cells rfl hc)
      refine ⟨_, _, hrun, ?_, g2⟩
      exact g1.put (v := .ptr (.g s.G.length) 0) (.ptr 0 (by simp [Sg.setBlk])) (dst := some d) (by simp [dstOk, hd])
    · simp at h
  · unfold newL at h
    split at h
    · rename_i hc
      simp only [Option.some.injEq] at h; subst h
      have hn : get s.L d = none := by simpa using hc.1
      have hk := hr.lfree d hn
      obtain ⟨g1, g2⟩ := hr.newL (o := .cells x.cells t) (t := d) hn (cs := cs) ⟨_, t, heap_alloc_new _ _, Nat.le_of_eq h1.symm, fun j u hu => (h2 j u hu).new hk⟩ (inv_cells (k' := .l d) rfl hc.2)
      refine ⟨_, _, hrun, ?_, g2⟩
      exact g1.put (v := .ptr (.l d) 0) (.ptr 0 (by simp [Sg.setBlk])) (dst := some d) (by simp [dstOk, hd])
    · simp at h

theorem alloc_does {o : Oper} {t : TypeId} {d : Nat} (ho : o.op = .alloc t) (hd : o.dst = some d) (hn : d < nt) {heap : List Nat} {z : AV} (hz : azero P t = some z) {cs : List AV} (hc : z.cellsOf = some cs)
    {s' : St} (h : newVarA heap s d cs = some s') : Does P nt s o s' := by
  intro σ a w hr
  obtain ⟨x, hx, hxr⟩ := azero_run (σ := σ) (w := w) hz
  obtain ⟨h1, h2⟩ := cellsOf_rel hc hxr
  obtain ⟨b, σ', g1, g2, g3⟩ := newVarA_rel (P := P) (t := t) h hr hn h1 h2
  refine ⟨_, _, σ', .inl ?_, by rw [hd]; exact g2, g3⟩
  unfold execOp
  rw [ho]
  simp only [Instr.alloc, Sem.run_bind, hx, Result.andThen_ok, g1]
  rfl

theorem box_does {o : Oper} {t : TypeId} {x : Operand} {d : Nat} (ho : o.op = .box t x) (hd : o.dst = some d) (hn : d < nt) {heap : List Nat} {v : AV} (hv : ev s x = some v) {cs : List AV} (hc : acells v = some cs)
    {s' : St} (h : newVarA heap s d cs = some s') : Does P nt s o s' := by
  intro σ a w hr
  have hxr := ev_rel hr hv
  obtain ⟨h1, h2⟩ := acells_rel hc hxr
  obtain ⟨b, σ', g1, g2, g3⟩ := newVarA_rel (P := P) (t := t) h hr hn (x := a.eval x) (by simpa using h1) (fun i u hu => by
    have := (h2 i u hu).1
    simpa [Array.getD_eq_getD_getElem?, List.getD_eq_getElem?_getD] using this)
  refine ⟨_, _, σ', .inl ?_, by rw [hd]; exact g2, g3⟩
  unfold execOp
  rw [ho]
  simp only [Instr.box, Sem.run_bind, Result.andThen_ok, g1]
  rfl

theorem makeMap_does {o : Oper} {t : TypeId} {d : Nat} (ho : o.op = .makeMap t none) (hd : o.dst = some d) (hn : d < nt) :
    Does P nt s o { ts := (d, .map s.G.length) :: s.ts, L := s.L, G := s.G ++ [.map [] 0] } := by
  intro σ a w hr
  have hk := hr.gfree s.G.length (Nat.le_refl _)
  obtain ⟨g1, g2⟩ := hr.newG (o := .map #[] 0) (blk := .map [] 0) ⟨_, heap_alloc_new _ _, rfl, by simp⟩ (fun j e he => by simp at he)
  refine ⟨.map (some w.heap.size), _, _, .inl ?_, ?_, g2⟩
  · unfold execOp
    rw [ho]
    rfl
  · rw [hd]
    exact g1.put (v := .map s.G.length) (.map (by simp [Sg.setBlk])) (dst := some d) (by simp [dstOk, hn])

theorem EsRel_toArray {es' : Array MapEntry} {es : List (PV × AV × Nat)} (h : EsRel σ es'.toList es) :
    es'.size = es.length ∧ ∀ (j : Nat) (k : PV) (v : AV) (n : Nat), es[j]? = some (k, v, n) → RelP σ.I k (es'.getD j default).key ∧ Rel σ v (es'.getD j default).val ∧ (es'.getD j default).born = n :=
  ⟨by simpa using h.1, fun j k v n hj => by simpa [Array.getD_eq_getD_getElem?, List.getD_eq_getElem?_getD] using h.2 j k v n hj⟩

/-- A block of the heap is written anew, as a whole. -/
theorem RelS.setG (hr : RelS σ s nt a w) {id : Nat} {blk0 blk : Blk} (hl : s.G[id]? = some blk0) {b : Nat} (hb : σ.blk (.g id) = some b) {o : Obj}
    (hB : ∀ w', w'.heap[b]? = some o → RelB σ w' b blk) (hc : BlkInv (.g id) blk) (hlt : b < w.heap.size) (hnf0 : NF w.heap[b]?) (hnf : ∀ c T r, o = .cells c T r → r = (0, 0) := by intro c T r h; cases h <;> rfl) :
    RelS σ { s with G := s.G.set id blk } nt a { w with heap := w.heap.setIfInBounds b o } ∧ Post σ σ w { w with heap := w.heap.setIfInBounds b o } := by
  have hother : ∀ i, i ≠ b → (w.heap.setIfInBounds b o)[i]? = w.heap[i]? := fun i hi => by rw [Array.getElem?_setIfInBounds_ne (Ne.symm hi)]
  have hthis : (w.heap.setIfInBounds b o)[b]? = some o := by simp [hlt]
  have hid : id < s.G.length := (List.getElem?_eq_some_iff.1 hl).1
  refine ⟨⟨hr.sz, hr.df, hr.vals, fun k blk' h => ?_, fun k blk' h => ?_, fun id' h => hr.gfree _ (by simpa using h), hr.lfree, ?_⟩, ?_⟩
  · have old : k ≠ .g id → s.look k = some blk' → ∃ b', σ.blk k = some b' ∧ RelB σ { w with heap := w.heap.setIfInBounds b o } b' blk' := fun hk h => by
      obtain ⟨b', h1, h2⟩ := hr.blks _ _ h
      have hbb : b' ≠ b := fun e => hk (hr.wf.inj _ _ _ h1 (e ▸ hb))
      exact ⟨b', h1, RelB.grow (σ := σ) (σ' := σ) (w := w) (fun _ _ _ h => h) (fun _ _ h => h) (fun _ => hother _ hbb) h2⟩
    cases k with
    | g id' =>
      by_cases e : id = id'
      · subst e
        simp only [St.look, List.getElem?_set, if_true, hid, Option.some.injEq] at h
        subst h
        exact ⟨b, hb, hB _ hthis⟩
      · exact old (by simp; exact fun e' => e e'.symm) (by simpa [St.look, List.getElem?_set, e] using h)
    | l t => exact old (by simp) h
  · cases k with
    | g id' =>
      by_cases e : id = id'
      · subst e
        simp only [St.look, List.getElem?_set, if_true, hid, Option.some.injEq] at h
        subst h; exact hc
      · exact hr.cinv (.g id') _ (by simpa [St.look, List.getElem?_set, e] using h)
    | l t => exact hr.cinv (.l t) _ h
  · refine ⟨hr.wf.inj, hr.wf.injt, hr.wf.injtt, fun k b' h => by simpa using hr.wf.lt k b' h, fun t b' e l h => ?_, hr.wf.blkI, fun b' o' u h => ?_⟩
    · have hbb : b' ≠ b := fun e' => hr.wf.injt _ _ _ _ _ hb (e' ▸ h)
      obtain ⟨⟨c', T', h1, h2⟩, h3⟩ := hr.wf.tokw _ _ _ _ h
      exact ⟨⟨c', T', by rw [hother _ hbb]; exact h1, h2⟩, h3⟩
    · have hbb : b' ≠ b := fun e' => by
        have := hr.wf.blkI _ _ o' hb
        rw [e', this] at h; simp at h
      have := hr.wf.imm _ _ _ h
      simpa [World.cell?, hother _ hbb] using this
  · exact ⟨fun _ _ _ h => h, fun _ _ _ h => .inl h, fun _ h => .inl h, fun _ _ h => h, fun b' hb' hn => hother _ (fun e => hn (e ▸ .inl ⟨_, hb⟩)), by simp, rfl, rfl, rfl, rfl, frozen_same fun i => if e : i = b then .inr ⟨by rw [e]; exact hnf0, fun c T r h => hnf c T r (by subst e; rw [hthis] at h; simpa using h)⟩ else .inl (hother i e)⟩

theorem sameBits_rel {k k' : PV} {x x' : Value} (h : pkeq k k' = some true) (hx : RelP σ.I k x) (hx' : RelP σ.I k' x') : Instr.sameBits 10000 x' x = true := by
  unfold pkeq at h
  split at h
  · cases hx; cases hx'
    split at h
    · rename_i e; subst e
      simp at h; subst h; simp [Instr.sameBits]
    · simp at h
  · cases hx; cases hx'
    simp only [Option.some.injEq] at h
    rw [bytesBeq] at h
    subst h
    show (_ == _) = true
    exact (bytesBeq _ _).2 rfl
  · simp at h

/-- What a store does to the entries: the list with the entry written, or one more. -/
theorem aput_rel {t : TypeId} {k : PV} {x : Value} {d : TypeDesc} (hu : P.underlying t = some d) (hk : keyOk P t k = true) (hx : RelP σ.I k x) {v : AV} {y : Value} (hv : Rel σ v y) {clock : Nat} :
    ∀ {es' : List MapEntry} {es : List (PV × AV × Nat)} {l : List (PV × AV × Nat)} {c : Nat} (i : Nat), EsRel σ es' es → aput k v clock es = some (l, c) →
      (∃ j z e, Instr.findNow d x es' i = some (some (i + j, z)) ∧ es'[j]? = some e ∧ Instr.sameBits 10000 e.key x = true ∧ c = clock ∧ EsRel σ (es'.modify j fun e => { e with key := x, val := y }) l) ∨
      (Instr.findNow d x es' i = some none ∧ c = clock + 1 ∧ EsRel σ (es' ++ [{ key := x, val := y, born := clock }]) l)
  | [], [], l, c, i, _, h => by
    simp only [aput, Option.some.injEq, Prod.mk.injEq] at h
    obtain ⟨rfl, rfl⟩ := h
    refine .inr ⟨rfl, rfl, rfl, fun j k' v' n hj => ?_⟩
    cases j with
    | zero => simp at hj; obtain ⟨rfl, rfl, rfl⟩ := hj; exact ⟨hx, hv, rfl⟩
    | succ j => simp at hj
  | [], _ :: _, _, _, _, he, _ => by simp [EsRel] at he
  | _ :: _, [], _, _, _, he, _ => by simp [EsRel] at he
  | e :: es', (k', v', n) :: es, l, c, i, he, h => by
    simp only [aput] at h
    have hh := he.head
    split at h
    · rename_i hb
      simp only [Option.some.injEq, Prod.mk.injEq] at h
      obtain ⟨rfl, rfl⟩ := h
      have hs := sameNow_rel (P := P) hu hk hx hh.1 hb
      refine .inl ⟨0, e.val, e, by simp [Instr.findNow, hs], rfl, sameBits_rel hb hx hh.1, rfl, by simpa using he.1, fun j k2 v2 n2 hj => ?_⟩
      cases j with
      | zero => simp at hj; obtain ⟨rfl, rfl, rfl⟩ := hj; simpa using ⟨hx, hv, hh.2.2⟩
      | succ j => simpa using he.2 (j + 1) k2 v2 n2 (by simpa using hj)
    · rename_i hb
      have hs := sameNow_rel (P := P) hu hk hx hh.1 hb
      rw [Option.map_eq_some_iff] at h
      obtain ⟨⟨l', c'⟩, hl, he2⟩ := h
      simp only [Prod.mk.injEq] at he2
      obtain ⟨rfl, rfl⟩ := he2
      rcases aput_rel hu hk hx hv (i + 1) he.tail hl with ⟨j, z, e', h1, h2, h3, h4, h5⟩ | ⟨h1, h2, h3⟩
      · refine .inl ⟨j + 1, z, e', by simp [Instr.findNow, hs, h1]; omega, by simpa using h2, h3, h4, by simpa using h5.1, fun j2 k2 v2 n2 hj => ?_⟩
        cases j2 with
        | zero => simp at hj; obtain ⟨rfl, rfl, rfl⟩ := hj; simpa using hh
        | succ j2 => simpa using h5.2 j2 k2 v2 n2 (by simpa using hj)
      · refine .inr ⟨by simp [Instr.findNow, hs, h1], h2, by simpa using h3.1, fun j2 k2 v2 n2 hj => ?_⟩
        cases j2 with
        | zero => simp at hj; obtain ⟨rfl, rfl, rfl⟩ := hj; simpa using hh
        | succ j2 => simpa using h3.2 j2 k2 v2 n2 (by simpa using hj)
    · simp at h

theorem aupdate_does {o : Oper} {t : TypeId} {m k v : Operand} (ho : o.op = .mapUpdate t m k v ∨ o.op = .insert t m k v) (hd : o.dst = none) {mv kv vv : AV} (hm : ev s m = some mv) (hk : ev s k = some kv) (hv : ev s v = some vv)
    {s' : St} (h : aupdate P s t mv kv vv = some s') : Does P nt s o s' := by
  intro σ a w hr
  unfold aupdate at h
  split at h
  · rename_i kt et id k' hu
    split at h
    · rename_i es clock hg
      split at h
      · rename_i hc
        rw [Option.map_eq_some_iff] at h
        obtain ⟨⟨l, c⟩, hput, he⟩ := h
        simp only at he; subst he
        have hmr := ev_rel hr hm
        have hkr := ev_rel hr hk
        have hvr := (ev_rel hr hv).plain
        generalize hmx : a.eval m = mx at hmr
        generalize hkx : a.eval k = kx at hkr
        generalize hvx : a.eval v = vx at hvr
        cases hmr with | map hb =>
        rename_i b0
        cases hkr with | p hkr =>
        obtain ⟨b', hb', es', h1, h2, h3⟩ := hr.blks (.g id) _ (show s.look (.g id) = _ from hg)
        rw [hb] at hb'; cases hb'
        have hes : EsRel σ es'.toList es := ⟨by simpa using h2, fun j k v n hj => by simpa [Array.getD_eq_getD_getElem?, List.getD_eq_getElem?_getD] using h3 j k v n hj⟩
        have hd0 : ∃ d, P.underlying kt = some d := by
          have := hc.1
          unfold keyOk at this
          cases hu' : P.underlying kt with
          | none => cases k' <;> simp [hu'] at this
          | some d => exact ⟨d, rfl⟩
        obtain ⟨d, hu'⟩ := hd0
        have hlt := hr.wf.lt _ _ hb
        have hchk : ∀ {es : List (PV × AV × Nat)} {l : List (PV × AV × Nat)} {c : Nat}, aput k' vv.plain clock es = some (l, c) → (∀ e ∈ es, e.2.1.chk (keyf (.g id)) (fun _ => false) = true) → ∀ e ∈ l, e.2.1.chk (keyf (.g id)) (fun _ => false) = true := by
          intro es
          induction es with
          | nil => intro l c h _; simp only [aput, Option.some.injEq, Prod.mk.injEq] at h; obtain ⟨rfl, rfl⟩ := h; simp only [List.mem_singleton, forall_eq]; exact hc.2
          | cons x es ih =>
            intro l c h hok
            obtain ⟨k2, v2, n2⟩ := x
            simp only [List.forall_mem_cons] at hok
            simp only [aput] at h
            split at h
            · simp only [Option.some.injEq, Prod.mk.injEq] at h; obtain ⟨rfl, rfl⟩ := h
              simp only [List.forall_mem_cons]; exact ⟨hc.2, hok.2⟩
            · rw [Option.map_eq_some_iff] at h
              obtain ⟨⟨l', c'⟩, hl, he⟩ := h
              simp only [Prod.mk.injEq] at he; obtain ⟨rfl, rfl⟩ := he
              simp only [List.forall_mem_cons]; exact ⟨hok.1, ih hl hok.2⟩
            · simp at h
        have hblk : BlkInv (.g id) (.map l c) := fun j e he => hchk hput (fun e he => by
          obtain ⟨j, hj⟩ := List.getElem?_of_mem he
          exact hr.cinv (.g id) _ (show s.look (.g id) = _ from hg) j e hj) e (List.mem_of_getElem? he)
        rcases aput_rel (P := P) hu' hc.1 hkr hvr 0 hes hput with ⟨j, z, e, g1, g2, g3, g4, g5⟩ | ⟨g1, g2, g3⟩
        · subst g4
          have hej : es'[j]? = some e := by simpa using g2
          obtain ⟨q1, q2⟩ := hr.setG hg hb (o := .map (es'.modify j fun e => { e with key := kx, val := vx }) c) (blk := .map l c)
            (fun w' hw' => ⟨_, hw', EsRel_toArray (by simpa using g5)⟩) hblk hlt (nf_map h1)
          refine ⟨undef, _, σ, .inr ⟨?_, rfl⟩, by rw [hd]; exact q1, q2⟩
          have : (Instr.mapUpdate t (.map (some b0)) kx vx).run P w = .ok () { w with heap := w.heap.setIfInBounds b0 (.map (es'.modify j fun e => { e with key := kx, val := vx }) c) } := by
            simp [Instr.mapUpdate, run_underlying hu, getObj, Sem.run, h1, keyOk_check hc.1 hkr, Instr.findKey, run_underlying hu', g1, hej, Instr.keyThatStays, g3, setObj]
          rcases ho with ho | ho <;> (unfold execOp; rw [ho]; simp only [hmx, hkx, hvx]; rw [Sem.run_bind, this]; rfl)
        · obtain ⟨q1, q2⟩ := hr.setG hg hb (o := .map (es'.push { key := kx, val := vx, born := clock }) (clock + 1)) (blk := .map l c)
            (fun w' hw' => ⟨es'.push { key := kx, val := vx, born := clock }, by rw [g2]; exact hw', EsRel_toArray (by simpa using g3)⟩) hblk hlt (nf_map h1)
          refine ⟨undef, _, σ, .inr ⟨?_, rfl⟩, by rw [hd]; exact q1, q2⟩
          have : (Instr.mapUpdate t (.map (some b0)) kx vx).run P w = .ok () { w with heap := w.heap.setIfInBounds b0 (.map (es'.push { key := kx, val := vx, born := clock }) (clock + 1)) } := by
            simp [Instr.mapUpdate, run_underlying hu, getObj, Sem.run, h1, keyOk_check hc.1 hkr, Instr.findKey, run_underlying hu', g1, setObj]
          rcases ho with ho | ho <;> (unfold execOp; rw [ho]; simp only [hmx, hkx, hvx]; rw [Sem.run_bind, this]; rfl)
      · simp at h
    · simp at h
  · simp at h
end
end Go.Abs

/-
  Who may append: tokens. What is laid down once and for all: cells that nobody writes any more.
-/
set_option linter.unusedVariables false
namespace Go.Abs

mutual
/-- A value that has lost the tokens that 'f' names. -/
def AV.dis (f : Tok → Bool) : AV → AV
  | .own rows k => if f k then .p (.vec rows) else .own rows k
  | .full rows => .full rows
  | .fn g a b => .fn g (AV.diss f a) (AV.diss f b)
  | .iface t v => .iface t (AV.dis f v)
  | .agg l => .agg (AV.diss f l)
  | .tuple l => .tuple (AV.diss f l)
  | .p v => .p v
  | .ptr k o => .ptr k o
  | .ref k a b c => .ref k a b c
  | .rop r => .rop r
  | .map id => .map id
  | .undef => .undef
def AV.diss (f : Tok → Bool) : List AV → List AV
  | [] => []
  | x :: r => AV.dis f x :: AV.diss f r
end

theorem AV.diss_get (f : Tok → Bool) : ∀ (l : List AV) (i : Nat), (AV.diss f l)[i]? = (l[i]?).map (AV.dis f)
  | [], i => by simp [AV.diss]
  | x :: r, 0 => by simp [AV.diss]
  | x :: r, i + 1 => by simp [AV.diss, AV.diss_get f r i]

@[simp] theorem AV.diss_length (f : Tok → Bool) : ∀ (l : List AV), (AV.diss f l).length = l.length
  | [] => rfl
  | x :: r => by simp [AV.diss, AV.diss_length f r]

theorem Rel.dis {σ : Sg} (f : Tok → Bool) {v : AV} {x : Value} (h : Rel σ v x) : Rel σ (v.dis f) x := by
  induction h with
  | p h => exact .p h
  | own h ho =>
    simp only [AV.dis]
    split
    · exact .p h
    · exact .own h ho
  | full h => exact .full h
  | ptr off h => exact .ptr off h
  | ref off len cap cap' h hc => exact .ref off len cap cap' h hc
  | rop b o val h1 h2 => exact .rop b o val h1 h2
  | map h => exact .map h
  | fn h1 h2 h3 h4 ih3 ih4 =>
    refine .fn (by simpa using h1) (by simpa using h2) (fun i x hx => ?_) (fun i x hx => ?_)
    · rw [AV.diss_get, Option.map_eq_some_iff] at hx; obtain ⟨y, hy, rfl⟩ := hx; exact ih3 i y hy
    · rw [AV.diss_get, Option.map_eq_some_iff] at hx; obtain ⟨y, hy, rfl⟩ := hx; exact ih4 i y hy
  | iface h ih => exact .iface ih
  | agg h1 h2 ih =>
    refine .agg (by simpa using h1) (fun i x hx => ?_)
    rw [AV.diss_get, Option.map_eq_some_iff] at hx; obtain ⟨y, hy, rfl⟩ := hx; exact ih i y hy
  | tuple h1 h2 ih =>
    refine .tuple (by simpa using h1) (fun i x hx => ?_)
    rw [AV.diss_get, Option.map_eq_some_iff] at hx; obtain ⟨y, hy, rfl⟩ := hx; exact ih i y hy
  | undef x => exact .undef x

mutual
theorem AV.dis_chk (f : Tok → Bool) : ∀ v : AV, (v.dis f).chk (fun _ => true) (fun t => !f t) = true
  | .own rows k => by
    simp only [AV.dis]
    split
    · rfl
    · rename_i h; simpa [AV.chk] using h
  | .fn g a b => by simp [AV.dis, AV.chk, AV.diss_chk f a, AV.diss_chk f b]
  | .iface t v => by simp [AV.dis, AV.chk, AV.dis_chk f v]
  | .agg l => by simp [AV.dis, AV.chk, AV.diss_chk f l]
  | .tuple l => by simp [AV.dis, AV.chk, AV.diss_chk f l]
  | .p v => rfl
  | .full rows => rfl
  | .ptr k o => rfl
  | .ref k a b c => rfl
  | .rop r => rfl
  | .map id => rfl
  | .undef => rfl
theorem AV.diss_chk (f : Tok → Bool) : ∀ l : List AV, AV.chks (fun _ => true) (fun t => !f t) (AV.diss f l) = true
  | [] => rfl
  | x :: r => by simp [AV.diss, AV.chks, AV.dis_chk f x, AV.diss_chk f r]
end

def St.dis (f : Tok → Bool) (s : St) : St := { s with ts := s.ts.map fun x => (x.1, x.2.dis f) }

theorem get_map {α β : Type} (g : α → β) : ∀ (l : List (Nat × α)) (t : Nat), get (l.map fun x => (x.1, g x.2)) t = (get l t).map g
  | [], t => rfl
  | (u, x) :: r, t => by
    simp only [List.map_cons, get]
    split
    · rfl
    · exact get_map g r t

/-- Only slots' tokens. -/
def onlyS (f : Tok → Bool) : Prop := ∀ t, f t = true → (∀ k o, t ≠ .c k o)

section
variable {P : Program} {σ : Sg} {s : St} {nt : Nat} {a : Act} {w : World}

theorem St.look_dis (f : Tok → Bool) (k : Key) : (s.dis f).look k = s.look k := by cases k <;> rfl

/-- Where the state turns but not the blocks: what is said of the blocks stays. -/
theorem RelB.turn {σ σ' : Sg} {w w' : World} {b : Nat} {k : Key} {blk : Blk} (hI : ∀ b o v, σ.I b o = some v → σ'.I b o = some v)
    (hb : ∀ k b, σ.blk k = some b → σ'.blk k = some b) (ht : ∀ o x, σ.tok (.c k o) = some x → σ'.tok (.c k o) = some x) (hc : BlkInv k blk)
    (hw : blk ≠ .dead → w'.heap[b]? = w.heap[b]?) (h : RelB σ w b blk) : RelB σ' w' b blk := by
  cases blk with
  | cells cs =>
    obtain ⟨c, T, h1, h2, h3⟩ := h
    exact ⟨c, T, by rw [hw (by simp)]; exact h1, h2, fun j x hj => (h3 j x hj).keep hI (fun k b _ h => hb k b h) (fun t x h1 h2 => by
      have : t = .c k j := by simpa using h1
      subst this; exact ht _ _ h2) (hc j x hj)⟩
  | map es cl =>
    obtain ⟨c, h1, h2, h3⟩ := h
    refine ⟨c, by rw [hw (by simp)]; exact h1, h2, fun j k v n hj => ⟨(h3 j k v n hj).1.mono hI, (h3 j k v n hj).2.1.keep hI (fun k b _ h => hb k b h) (fun t x h1 _ => by simp at h1) (hc j _ hj), (h3 j k v n hj).2.2⟩⟩
  | dead => trivial
  | iter m since seen c0 => obtain ⟨bm, h1, h2⟩ := h; exact ⟨bm, hb _ _ h1, by rw [hw (by simp)]; exact h2⟩

/-- The tokens that 'f' names turn; cells are added to what stands for ever; the world turns in blocks that no place is. -/
theorem RelS.turn (hr : RelS σ s nt a w) {σ' : Sg} {w' : World} (f : Tok → Bool) (hfs : ∀ t, f t = true → isC t = false) (hI : ∀ b o v, σ.I b o = some v → σ'.I b o = some v)
    (hb : σ'.blk = σ.blk) (ht : ∀ t x, f t = false → σ.tok t = some x → σ'.tok t = some x) (hw : ∀ k b, σ.blk k = some b → w'.heap[b]? = w.heap[b]?) (hwf : WFS σ' w') (hD : σ'.D = σ.D := by rfl) : RelS σ' (s.dis f) nt a w' := by
  refine ⟨hr.sz, hr.df.trans hD.symm, fun t x h => ?_, fun k blk h => ?_, fun k blk h => hr.cinv k blk (by rwa [St.look_dis] at h), fun id h => by rw [hb]; exact hr.gfree id h, fun t h => by rw [hb]; exact hr.lfree t h, hwf⟩
  · simp only [St.dis, get_map, Option.map_eq_some_iff] at h
    obtain ⟨v, hv, rfl⟩ := h
    obtain ⟨h1, h2⟩ := hr.vals _ _ hv
    exact ⟨h1, (h2.dis f).keep hI (fun k b _ h => by rw [hb]; exact h) (fun t x h1 h2 => ht t x (by simpa using h1) h2) (AV.dis_chk f v)⟩
  · rw [St.look_dis] at h
    obtain ⟨b, h1, h2⟩ := hr.blks _ _ h
    refine ⟨b, by rw [hb]; exact h1, h2.turn hI (fun k b h => by rw [hb]; exact h) (fun o x h => ht _ _ ?_ h) (hr.cinv _ _ h) (fun _ => hw _ _ h1)⟩
    cases hf : f (.c k o) with
    | false => rfl
    | true => have := hfs _ hf; simp [isC] at this

/-- A run of stores into one block. -/
theorem storeCells_block {b off : Nat} {T : TypeId} : ∀ (xs : List Value) (c : Array Value) (w : World) (i : Nat), w.heap[b]? = some (.cells c T (0, 0)) → off + i + xs.length ≤ c.size → (∀ x ∈ xs, x.oneCell' = true) →
    ∃ c', (storeCells ⟨b, off, none⟩ xs i).run P w = .ok () { w with heap := w.heap.setIfInBounds b (.cells c' T (0, 0)) } ∧ c'.size = c.size ∧
      (∀ j x, xs[j]? = some x → c'[off + i + j]? = some x) ∧ (∀ o, o < off + i ∨ off + i + xs.length ≤ o → c'[o]? = c[o]?)
  | [], c, w, i, hw, _, _ => by
    refine ⟨c, ?_, rfl, by simp, fun _ _ => rfl⟩
    have : w.heap.setIfInBounds b (.cells c T (0, 0)) = w.heap := by
      apply Array.ext_getElem?
      intro j
      rw [Array.getElem?_setIfInBounds]
      split
      · rename_i e; subst e
        split
        · exact hw.symm
        · rename_i h; rw [Array.getElem?_eq_none (by omega)]
      · rfl
    rw [this]; rfl
  | x :: xs, c, w, i, hw, hle, hone => by
    simp only [List.length_cons] at hle
    have hlt : off + i < c.size := by omega
    have hb : b < w.heap.size := (Array.getElem?_eq_some_iff.1 hw).1
    have h1 : (w.setCell ⟨b, off + i, none⟩ x) = { w with heap := w.heap.setIfInBounds b (.cells (c.setIfInBounds (off + i) x) T (0, 0)) } := by
      unfold World.setCell
      congr 1
      apply Array.ext_getElem?
      intro j
      rw [Array.getElem?_modify, Array.getElem?_setIfInBounds]
      split
      · rename_i e; subst e
        show (w.heap[b]?).map _ = _
        rw [hw]; rfl
      · rfl
    have h2 : (w.setCell ⟨b, off + i, none⟩ x).heap[b]? = some (.cells (c.setIfInBounds (off + i) x) T (0, 0)) := by rw [h1]; simp [hb]
    have hle' : off + (i + 1) + xs.length ≤ (c.setIfInBounds (off + i) x).size := by rw [Array.size_setIfInBounds]; omega
    obtain ⟨c', g1, g2, g3, g4⟩ := storeCells_block xs (c.setIfInBounds (off + i) x) (w.setCell ⟨b, off + i, none⟩ x) (i + 1)
      h2 hle' (fun y hy => hone y (List.mem_cons_of_mem _ hy))
    refine ⟨c', ?_, by simpa using g2, fun j y hj => ?_, fun o ho => ?_⟩
    · rw [storeCells, Sem.run_bind, add_none, run_store _ _ _ _ _ (hone x (List.mem_cons_self ..)), cell_of_block hw]
      have hz : w.frozen? ⟨b, off + i, none⟩ = false := by simp [World.frozen?, hw]
      rw [Array.getElem?_eq_getElem hlt]
      simp only [hz, Bool.false_eq_true, if_false, Result.andThen_ok]
      rw [g1, h1]
      simp
    · cases j with
      | zero =>
        simp only [List.getElem?_cons_zero, Option.some.injEq] at hj; subst hj
        rw [Nat.add_zero, g4 _ (.inl (by omega))]
        simp [hlt]
      | succ j =>
        rw [show off + i + (j + 1) = off + (i + 1) + j by omega]
        exact g3 j y (by simpa using hj)
    · simp only [List.length_cons] at ho
      rw [g4 o (by omega), Array.getElem?_setIfInBounds_ne (by omega)]
end
end Go.Abs

/-
  Composite literals: a struct's value, a slice's elements.
-/
set_option linter.unusedVariables false
namespace Go.Abs

theorem getElem?_setMany : ∀ (xs cs : List AV) (off o : Nat), off + xs.length ≤ cs.length → (setMany cs off xs)[o]? = if off ≤ o ∧ o < off + xs.length then xs[o - off]? else cs[o]?
  | [], cs, off, o, _ => by
    simp only [setMany, List.length_nil, Nat.add_zero]
    rw [if_neg (by omega)]
  | x :: xs, cs, off, o, h => by
    simp only [List.length_cons] at h
    rw [setMany, getElem?_setMany xs (cs.set off x) (off + 1) o (by simp; omega)]
    simp only [List.length_cons]
    by_cases h1 : off = o
    · subst h1
      rw [if_neg (by omega), if_pos (by omega)]
      simp [show off < cs.length by omega]
    · by_cases h2 : off + 1 ≤ o ∧ o < off + 1 + xs.length
      · rw [if_pos h2, if_pos (by omega), show o - off = (o - (off + 1)) + 1 by omega]
        simp
      · rw [if_neg h2, if_neg (by omega), List.getElem?_set_ne h1]

theorem foldl_set (off : Nat) : ∀ (l : List Value) (k : Nat) (arr : Array Value) (o : Nat), off + k + l.length ≤ arr.size →
    ((l.zipIdx k).foldl (fun cs (x : Value × Nat) => cs.setIfInBounds (off + x.2) x.1) arr)[o]? = if off + k ≤ o ∧ o < off + k + l.length then l[o - (off + k)]? else arr[o]?
  | [], k, arr, o, _ => by simp; omega
  | x :: l, k, arr, o, h => by
    simp only [List.length_cons] at h
    rw [List.zipIdx_cons, List.foldl_cons, foldl_set off l (k + 1) _ o (by simp; omega)]
    simp only [List.length_cons]
    by_cases h1 : off + k = o
    · subst h1
      rw [if_neg (by omega), if_pos (by omega)]
      simp [show off + k < arr.size by omega]
    · by_cases h2 : off + (k + 1) ≤ o ∧ o < off + (k + 1) + l.length
      · rw [if_pos h2, if_pos (by omega), show o - (off + k) = (o - (off + (k + 1))) + 1 by omega]
        simp
      · rw [if_neg h2, if_neg (by omega), Array.getElem?_setIfInBounds_ne h1]

theorem foldl_set_size (off : Nat) : ∀ (l : List (Value × Nat)) (arr : Array Value), (l.foldl (fun cs (x : Value × Nat) => cs.setIfInBounds (off + x.2) x.1) arr).size = arr.size
  | [], arr => rfl
  | x :: l, arr => by rw [List.foldl_cons, foldl_set_size off l]; simp

def afill (place : Nat → Option (Nat × Nat)) : List AV → List (Nat × AV) → Option (List AV)
  | cells, [] => some cells
  | cells, (i, v) :: r => match place i, acells v with
    | some (off, size), some cs => if cs.length = size ∧ off + size ≤ cells.length then afill place (setMany cells off cs) r else none
    | _, _ => none

/-- An array of cells is as a list says. -/
def ArrRel (σ : Sg) (arr : Array Value) (l : List AV) : Prop := arr.size = l.length ∧ ∀ (i : Nat) (v : AV), l[i]? = some v → ∃ x, arr[i]? = some x ∧ Rel σ v x

def PartsRel (σ : Sg) : List (Nat × Value) → List (Nat × AV) → Prop
  | [], [] => True
  | (i, x) :: r, (j, v) :: r' => i = j ∧ Rel σ v x ∧ PartsRel σ r r'
  | _, _ => False

section
variable {P : Program} {σ : Sg} {s : St} {nt : Nat} {a : Act} {w : World}

theorem fill_rel (place : Nat → Option (Nat × Nat)) : ∀ {ps : List (Nat × AV)} {ps' : List (Nat × Value)} {cells : List AV} {arr : Array Value} {out : List AV}, PartsRel σ ps' ps → ArrRel σ arr cells → afill place cells ps = some out →
    ∃ out', Instr.fill place arr ps' = some out' ∧ ArrRel σ out' out
  | [], [], cells, arr, out, _, ha, h => by simp only [afill, Option.some.injEq] at h; subst h; exact ⟨arr, rfl, ha⟩
  | [], _ :: _, _, _, _, hp, _, _ => hp.elim
  | _ :: _, [], _, _, _, hp, _, _ => hp.elim
  | (j, v) :: ps, (i, x) :: ps', cells, arr, out, hp, ha, h => by
    obtain ⟨rfl, hx, hp⟩ := hp
    simp only [afill] at h
    split at h
    · rename_i off size cs hpl hcs
      split at h
      · rename_i hc
        obtain ⟨e1, e2⟩ := acells_rel hcs hx
        have hsz : x.cells.size = size := by rw [← hc.1, ← e1]; simp
        have hle : off + x.cells.size ≤ arr.size := by rw [ha.1, hsz]; exact hc.2
        have ha' : ArrRel σ (x.cells.zipIdx.foldl (fun cs (c, j) => cs.setIfInBounds (off + j) c) arr) (setMany cells off cs) := by
          rw [← Array.foldl_toList, Array.toList_zipIdx]
          refine ⟨by rw [foldl_set_size, length_setMany]; exact ha.1, fun o u hu => ?_⟩
          have hl : x.cells.toList.length = cs.length := e1
          rw [getElem?_setMany _ _ _ _ (by rw [hc.1]; exact hc.2)] at hu
          rw [foldl_set off _ 0 arr o (by simpa using hle)]
          rw [hl, Nat.add_zero]
          split at hu
          · rename_i hin
            rw [if_pos hin]
            have h3 := (e2 _ _ hu).1
            have hlt : o - off < x.cells.toList.length := by rw [hl]; omega
            refine ⟨x.cells.toList[o - off], List.getElem?_eq_getElem hlt, ?_⟩
            rwa [List.getD_eq_getElem?_getD, List.getElem?_eq_getElem hlt] at h3
          · rename_i hin
            rw [if_neg hin]
            exact ha.2 o u hu
        obtain ⟨out', g1, g2⟩ := fill_rel place hp ha' h
        refine ⟨out', ?_, g2⟩
        simp only [Instr.fill, hpl]
        rw [if_neg (by simp [hsz]; omega)]
        exact g1
      · simp at h
    · simp at h

def evParts (s : St) : List (Nat × Operand) → Option (List (Nat × AV))
  | [] => some []
  | (i, x) :: r => match ev s x, evParts s r with | some v, some l => some ((i, v) :: l) | _, _ => none

theorem evParts_rel (hr : RelS σ s nt a w) : ∀ {l : List (Nat × Operand)} {r : List (Nat × AV)}, evParts s l = some r → PartsRel σ (l.map fun x => (x.1, a.eval x.2)) r
  | [], r, h => by simp [evParts] at h; subst h; trivial
  | (i, x) :: l, r, h => by
    simp only [evParts] at h
    split at h
    · rename_i v r' hx hl
      simp only [Option.some.injEq] at h; subst h
      exact ⟨rfl, ev_rel hr hx, evParts_rel hr hl⟩
    · simp at h

theorem ArrRel_of_cells {v : AV} {l : List AV} (h : v.cellsOf = some l) {x : Value} (hx : Rel σ v x) : ArrRel σ x.cells l := by
  obtain ⟨h1, h2⟩ := cellsOf_rel h hx
  refine ⟨h1, fun i u hu => ?_⟩
  have hlt : i < x.cells.size := by rw [h1]; exact (List.getElem?_eq_some_iff.1 hu).1
  refine ⟨x.cells[i], Array.getElem?_eq_getElem hlt, ?_⟩
  simpa [Array.getD_eq_getD_getElem?, hlt] using h2 i u hu

/-- Where a struct's fields lie. -/
def placeOf (P : Program) (fs : Array Field) (i : Nat) : Option (Nat × Nat) := (fs[i]?).map fun f => (f.offset, P.cellsOf f.type)

def allInfo (P : Program) (fs : Array Field) : Bool := fs.toList.all fun f => (P.info? f.type).isSome

def abuild (P : Program) (t : TypeId) (parts : List (Nat × AV)) : Option AV :=
  match P.underlying t, (azero P t).bind AV.cellsOf with
  | some (.struct fs), some z => if allInfo P fs then (afill (placeOf P fs) z parts).map .agg else none
  | some (.array _ e), some z => if (P.info? e).isSome then (afill (fun i => some (i * P.cellsOf e, P.cellsOf e)) z parts).map .agg else none
  | _, _ => none

theorem run_mapM_places : ∀ (fs : List Field) (w : World), (∀ f ∈ fs, (P.info? f.type).isSome = true) →
    (fs.mapM fun f => do pure (f.offset, ← sizeOf f.type) : Sem (List (Nat × Nat))).run P w = .ok (fs.map fun f => (f.offset, P.cellsOf f.type)) w
  | [], w, _ => rfl
  | f :: fs, w, h => by
    obtain ⟨i, hi⟩ := Option.isSome_iff_exists.1 (h f (List.mem_cons_self ..))
    rw [List.mapM_cons]
    simp only [Sem.run_bind, run_sizeOf' hi, Result.andThen_ok, Sem.run_pure]
    rw [run_mapM_places fs w (fun g hg => h g (List.mem_cons_of_mem _ hg))]
    rfl

theorem abuild_run {t : TypeId} {ps : List (Nat × AV)} {v : AV} (h : abuild P t ps = some v) {ps' : List (Nat × Value)} (hp : PartsRel σ ps' ps) :
    ∃ r, (Instr.build t ps'.toArray).run P w = .ok r w ∧ Rel σ v r := by
  unfold abuild at h
  split at h
  · rename_i fs z hu hz
    rw [Option.bind_eq_some_iff] at hz
    obtain ⟨zv, hz1, hz2⟩ := hz
    obtain ⟨zx, hzx, hzr⟩ := azero_run (σ := σ) (w := w) hz1
    split at h
    · rename_i hall
      rw [Option.map_eq_some_iff] at h
      obtain ⟨out, hf, rfl⟩ := h
      obtain ⟨out', g1, g2⟩ := fill_rel (placeOf P fs) hp (ArrRel_of_cells hz2 hzr) hf
      refine ⟨.agg out', ?_, .agg g2.1 (fun i x hx => ?_)⟩
      · have hm : (fs.mapM fun f => do pure (f.offset, ← sizeOf f.type) : Sem (Array (Nat × Nat))).run P w = .ok (fs.map fun f => (f.offset, P.cellsOf f.type)) w := by
          have h1 := run_mapM_places (P := P) fs.toList w (fun f hf => by simpa [allInfo] using List.all_eq_true.1 hall f hf)
          have h2 : (fs.mapM fun f => do pure (f.offset, ← sizeOf f.type) : Sem (Array (Nat × Nat))) = List.toArray <$> (fs.toList.mapM fun f => do pure (f.offset, ← sizeOf f.type) : Sem (List (Nat × Nat))) := by
            rw [Array.mapM_eq_mapM_toList]
          rw [h2, Sem.run_map, h1]
          simp only [Result.andThen_ok]
          rw [show (fs.toList.map fun f => (f.offset, P.cellsOf f.type)).toArray = fs.map fun f => (f.offset, P.cellsOf f.type) by cases fs; simp]
        unfold Instr.build
        simp only [Sem.run_bind, hzx, Result.andThen_ok, run_underlying hu, hm]
        have : (fun i => (fs.map fun f => (f.offset, P.cellsOf f.type))[i]?) = placeOf P fs := by funext i; simp [placeOf]
        rw [this, g1]; rfl
      · obtain ⟨y, hy, hyr⟩ := g2.2 i x hx
        simpa [Array.getD_eq_getD_getElem?, hy] using hyr
    · simp at h
  · rename_i n e z hu hz
    rw [Option.bind_eq_some_iff] at hz
    obtain ⟨zv, hz1, hz2⟩ := hz
    obtain ⟨zx, hzx, hzr⟩ := azero_run (σ := σ) (w := w) hz1
    split at h
    · rename_i hi
      obtain ⟨i, hi⟩ := Option.isSome_iff_exists.1 hi
      rw [Option.map_eq_some_iff] at h
      obtain ⟨out, hf, rfl⟩ := h
      obtain ⟨out', g1, g2⟩ := fill_rel (fun i => some (i * P.cellsOf e, P.cellsOf e)) hp (ArrRel_of_cells hz2 hzr) hf
      refine ⟨.agg out', ?_, .agg g2.1 (fun i x hx => ?_)⟩
      · unfold Instr.build
        simp only [Sem.run_bind, hzx, Result.andThen_ok, run_underlying hu, run_sizeOf' hi]
        rw [g1]; rfl
      · obtain ⟨y, hy, hyr⟩ := g2.2 i x hx
        simpa [Array.getD_eq_getD_getElem?, hy] using hyr
    · simp at h
  · simp at h
end
end Go.Abs

/-
  New slices.
-/
set_option linter.unusedVariables false
namespace Go.Abs

def toPV : AV → Option PV
  | .p v => some v
  | .own rows _ => some (.vec rows)
  | .full rows => some (.vec rows)
  | _ => none

def toPVs : List AV → Option (List PV)
  | [] => some []
  | x :: r => match toPV x, toPVs r with | some v, some l => some (v :: l) | _, _ => none

def chunk (sz : Nat) : Nat → List PV → List (List PV)
  | 0, _ => []
  | n + 1, l => l.take sz :: chunk sz n (l.drop sz)

def zrep : Nat → List AV → List AV
  | 0, _ => []
  | n + 1, z => z ++ zrep n z

theorem length_zrep : ∀ (n : Nat) (z : List AV), (zrep n z).length = n * z.length
  | 0, z => by simp [zrep]
  | n + 1, z => by simp [zrep, length_zrep n z, Nat.add_mul]; omega

theorem getElem?_zrep : ∀ (n : Nat) (z : List AV) (o : Nat), o < n * z.length → (zrep n z)[o]? = z[o % z.length]?
  | 0, z, o, h => by simp at h
  | n + 1, z, o, h => by
    rw [zrep, List.getElem?_append]
    split
    · rename_i hlt; rw [Nat.mod_eq_of_lt hlt]
    · rename_i hge
      rw [getElem?_zrep n z (o - z.length) (by rw [Nat.add_mul] at h; omega)]
      congr 1
      rw [← Nat.mod_eq_sub_mod (by omega)]

theorem length_chunk (sz : Nat) : ∀ (n : Nat) (l : List PV), (chunk sz n l).length = n
  | 0, _ => rfl
  | n + 1, l => by simp [chunk, length_chunk sz n]

theorem getElem?_chunk (sz : Nat) : ∀ (n : Nat) (l : List PV) (i : Nat), i < n → (chunk sz n l)[i]? = some ((l.drop (i * sz)).take sz)
  | 0, _, i, h => by simp at h
  | n + 1, l, 0, h => by simp [chunk]
  | n + 1, l, i + 1, h => by
    rw [chunk, List.getElem?_cons_succ, getElem?_chunk sz n _ i (by omega), List.drop_drop]
    congr 3
    rw [Nat.add_mul]; omega

def abuildSlice (P : Program) (t : TypeId) (len : Nat) (parts : List (Nat × AV)) : Option (List (List PV)) :=
  match P.underlying t with
  | some (.slice e) => match (azero P e).bind AV.cellsOf with
    | some z => if z.length = P.cellsOf e ∧ P.cellsOf e ≠ 0 ∧ len * P.cellsOf e ≤ 16777216 then
        (((afill (fun i => some (i * P.cellsOf e, P.cellsOf e)) (zrep len z) parts).bind toPVs).map (chunk (P.cellsOf e) len)) else none
    | none => none
  | _ => none

/-- Cells from a block's begin on that nobody writes any more. -/
def Sg.addI (σ : Sg) (b n : Nat) (c : Array Value) (tok : Tok → Option (Nat × Nat × Nat)) : Sg :=
  { I := fun b' o => if b' = b then (if o < n then c[o]? else none) else σ.I b' o, blk := σ.blk, tok := tok, D := σ.D }

section
variable {P : Program} {σ : Sg} {s : St} {nt : Nat} {a : Act} {w : World}

theorem toPVs_rel : ∀ {l : List AV} {r : List PV}, toPVs l = some r → l.length = r.length ∧ ∀ (i : Nat) (v : PV), r[i]? = some v → ∃ u, l[i]? = some u ∧ ∀ (σ : Sg) x, Rel σ u x → RelP σ.I v x
  | [], r, h => by simp [toPVs] at h; subst h; simp
  | x :: l, r, h => by
    simp only [toPVs] at h
    split at h
    · rename_i v r' hx hl
      simp only [Option.some.injEq] at h; subst h
      obtain ⟨h1, h2⟩ := toPVs_rel hl
      refine ⟨by simp [h1], fun i u hu => ?_⟩
      cases i with
      | zero =>
        simp at hu; subst hu
        refine ⟨x, rfl, fun σ y hy => ?_⟩
        unfold toPV at hx
        split at hx
        · simp at hx; subst hx; cases hy with | p h => exact h
        · simp at hx; subst hx; cases hy with | own h _ => exact h
        · simp at hx; subst hx; cases hy with | full h => exact h
        · simp at hx
      | succ i => exact h2 i u (by simpa using hu)
    · simp at h

theorem addI_mono (h : WFS σ w) {n : Nat} {c : Array Value} {tok : Tok → Option (Nat × Nat × Nat)} (b o : Nat) (v : Value) (e : σ.I b o = some v) : (σ.addI w.heap.size n c tok).I b o = some v := by
  have := h.imm_lt e
  simp only [Sg.addI]
  rw [if_neg (by omega)]; exact e

theorem WFS.addI (h : WFS σ w) {n : Nat} {c : Array Value} {T : TypeId} (hn : n ≤ c.size) {tok : Tok → Option (Nat × Nat × Nat)} {k : Tok} {l : Nat} (hl : l ≤ c.size)
    (ht : ∀ t x, tok t = some x → σ.tok t = some x ∨ (t = k ∧ x = (w.heap.size, n, l))) : WFS (σ.addI w.heap.size n c tok) (w.alloc (.cells c T)) := by
  have tlt : ∀ t b e l, σ.tok t = some (b, e, l) → b < w.heap.size := fun t b e l e1 => by
    obtain ⟨⟨c, T, h3, _⟩, _⟩ := h.tokw _ _ _ _ e1
    exact (Array.getElem?_eq_some_iff.1 h3).1
  refine ⟨h.inj, fun k' t b e l e1 e2 => ?_, fun t t' b e l e' l' e1 e2 => ?_, fun k' b e1 => by have := h.lt _ _ e1; simp; omega, fun t b e l e1 => ?_, fun k' b o e1 => ?_, fun b o v e1 => ?_⟩
  · have := h.lt _ _ e1
    rcases ht _ _ e2 with e3 | ⟨_, e3⟩
    · exact h.injt _ _ _ _ _ e1 e3
    · simp at e3; omega
  · rcases ht _ _ e1 with e3 | ⟨e3, e5⟩
    · rcases ht _ _ e2 with e4 | ⟨_, e4⟩
      · exact h.injtt _ _ _ _ _ _ _ e3 e4
      · have := tlt _ _ _ _ e3; simp at e4; omega
    · rcases ht _ _ e2 with e4 | ⟨e4, _⟩
      · have := tlt _ _ _ _ e4; simp at e5; omega
      · rw [e3, e4]
  · rcases ht _ _ e1 with e3 | ⟨_, e3⟩
    · have hb := tlt _ _ _ _ e3
      obtain ⟨⟨c', T', h3, h4⟩, h5⟩ := h.tokw _ _ _ _ e3
      refine ⟨⟨c', T', by rw [heap_alloc _ _ _ hb]; exact h3, h4⟩, fun o ho => ?_⟩
      simp only [Sg.addI]
      rw [if_neg (by omega)]; exact h5 o ho
    · simp only [Prod.mk.injEq] at e3
      obtain ⟨rfl, rfl, rfl⟩ := e3
      refine ⟨⟨c, T, heap_alloc_new _ _, hl⟩, fun o ho => ?_⟩
      simp only [Sg.addI, if_true]
      rw [if_neg (by omega)]
  · have := h.lt _ _ e1
    simp only [Sg.addI]
    rw [if_neg (by omega)]; exact h.blkI _ _ _ e1
  · simp only [Sg.addI] at e1
    split at e1
    · rename_i hb
      subst hb
      split at e1
      · rw [World.cell?_alloc_new]; exact e1
      · simp at e1
    · rw [World.cell?_alloc_lt _ _ _ (h.imm_lt e1)]; exact h.imm _ _ _ e1

theorem Post.addI (h : WFS σ w) {n : Nat} {c : Array Value} {T : TypeId} {tok : Tok → Option (Nat × Nat × Nat)} {k : Tok} {l : Nat}
    (ht : ∀ t x, tok t = some x → σ.tok t = some x ∨ (t = k ∧ x = (w.heap.size, n, l))) : Post σ (σ.addI w.heap.size n c tok) w (w.alloc (.cells c T)) := by
  refine ⟨addI_mono h, fun b o v e => ?_, fun b hb => ?_, fun id b e => e, fun b hb _ => heap_alloc _ _ _ hb, by simp, rfl, rfl, rfl, rfl, frozen_alloc fun c T r e => by cases e; rfl⟩
  · simp only [Sg.addI] at e
    split at e
    · rename_i hb; right; right; omega
    · exact .inl e
  · rcases hb with ⟨k', hb⟩ | ⟨t, e, l', hb⟩
    · exact .inl (.inl ⟨k', hb⟩)
    · rcases ht _ _ hb with e1 | ⟨_, e1⟩
      · exact .inl (.inr ⟨t, e, l', e1⟩)
      · simp at e1; right; omega

theorem run_newRow (e : TypeId) (c : Array Value) (w : World) : (newRow e c).run P w = .ok ⟨w.heap.size, 0, none⟩ (w.alloc (.cells c e)) := rfl

/-- A slice's elements, laid down once. -/
theorem abuildSlice_run (hr : RelS σ s nt a w) {t : TypeId} {len : Nat} {ps : List (Nat × AV)} {rows : List (List PV)} (h : abuildSlice P t len ps = some rows) {ps' : List (Nat × Value)} (hp : PartsRel σ ps' ps) :
    ∃ c e, (Instr.buildSlice t len ps'.toArray).run P w = .ok (.slice (some ⟨w.heap.size, 0, none⟩) len len) (w.alloc (.cells c e)) ∧
      RelS (σ.addI w.heap.size c.size c σ.tok) s nt a (w.alloc (.cells c e)) ∧ Post σ (σ.addI w.heap.size c.size c σ.tok) w (w.alloc (.cells c e)) ∧
      RelP (σ.addI w.heap.size c.size c σ.tok).I (.vec rows) (.slice (some ⟨w.heap.size, 0, none⟩) len len) ∧ rows.length = len := by
  unfold abuildSlice at h
  split at h
  · rename_i e hu
    split at h
    · rename_i z hz
      rw [Option.bind_eq_some_iff] at hz
      obtain ⟨zv, hz1, hz2⟩ := hz
      obtain ⟨zx, hzx, hzr⟩ := azero_run (σ := σ) (w := w) hz1
      split at h
      · rename_i hc
        obtain ⟨hc1, hc2, hc3⟩ := hc
        rw [Option.map_eq_some_iff] at h
        obtain ⟨pvs, hpv, rfl⟩ := h
        rw [Option.bind_eq_some_iff] at hpv
        obtain ⟨out, hout, hpv⟩ := hpv
        have hzc := ArrRel_of_cells hz2 hzr
        have hzsz : zx.cells.size = P.cellsOf e := by rw [hzc.1, hc1]
        have hinit : ArrRel σ ((Array.range (len * P.cellsOf e)).map (fun i => zx.cells[i % zx.cells.size]!)) (zrep len z) := by
          refine ⟨by simp [length_zrep, hc1], fun i v hv => ?_⟩
          have hi : i < len * z.length := by rw [← length_zrep]; exact (List.getElem?_eq_some_iff.1 hv).1
          rw [getElem?_zrep _ _ _ hi] at hv
          obtain ⟨x, hx1, hx2⟩ := hzc.2 _ _ hv
          refine ⟨x, ?_, hx2⟩
          rw [hc1] at hi hx1
          rw [hzsz]
          simp [hi, getElem!_def, hx1]
        obtain ⟨c, g1, g2⟩ := fill_rel (fun i => some (i * P.cellsOf e, P.cellsOf e)) hp hinit hout
        have hcs : c.size = len * P.cellsOf e := by
          rw [g2.1]
          have : ∀ {ps : List (Nat × AV)} {cells out : List AV} {pl : Nat → Option (Nat × Nat)}, afill pl cells ps = some out → out.length = cells.length := by
            intro ps
            induction ps with
            | nil => intro cells out pl h; simp only [afill, Option.some.injEq] at h; rw [h]
            | cons p ps ih =>
              intro cells out pl h
              obtain ⟨i, v⟩ := p
              simp only [afill] at h
              split at h
              · split at h
                · rw [ih h, length_setMany]
                · simp at h
              · simp at h
          rw [this hout, length_zrep, hc1]
        obtain ⟨p1, p2⟩ := toPVs_rel hpv
        have hpl : pvs.length = len * P.cellsOf e := by rw [← p1, ← g2.1, hcs]
        have ht : ∀ t x, σ.tok t = some x → σ.tok t = some x ∨ (t = Tok.n ∧ x = (w.heap.size, c.size, c.size)) := fun t x h => .inl h
        have hwf := hr.wf.addI (T := e) (Nat.le_refl c.size) (Nat.le_refl c.size) ht
        refine ⟨c, e, ?_, ?_, Post.addI hr.wf ht, ?_, length_chunk _ _ _⟩
        · unfold Instr.buildSlice
          have hi : ∃ i, P.info? e = some i := by
            cases hi : P.info? e with
            | none => simp [Program.cellsOf, hi] at hc2
            | some i => exact ⟨i, rfl⟩
          simp only [Sem.run_bind, run_underlying hu, Result.andThen_ok, run_sizeOf_ne hc2]
          rw [if_neg (by have : (2 : Nat) ^ 24 = 16777216 := rfl; omega)]
          by_cases h0 : len * P.cellsOf e = 0
          · rw [if_pos h0]
            rw [h0] at g1
            simp only [h0]
            rw [Sem.run_bind, Sem.run_pure]
            simp only [Result.andThen_ok]
            have : (Array.range 0).map (fun i => (#[] : Array Value)[i % (#[] : Array Value).size]!) = (Array.range 0).map (fun i => zx.cells[i % zx.cells.size]!) := by simp
            rw [this, g1]
            simp only [Sem.run_bind, run_newRow, Result.andThen_ok, Sem.run_pure]
          · rw [if_neg h0]
            simp only [Sem.run_bind, hzx, Result.andThen_ok, Sem.run_pure]
            rw [g1]
            simp only [Sem.run_bind, run_newRow, Result.andThen_ok, Sem.run_pure]
        · have := hr.turn (σ' := σ.addI w.heap.size c.size c σ.tok) (w' := w.alloc (.cells c e)) (fun _ => false) (by simp) (addI_mono hr.wf) rfl (fun t x _ h => h)
            (fun k b h => heap_alloc _ _ _ (hr.wf.lt _ _ h)) hwf
          refine ⟨this.sz, this.df, fun t x h => ?_, this.blks, this.cinv, this.gfree, this.lfree, this.wf⟩
          obtain ⟨q1, q2⟩ := hr.vals t x h
          exact ⟨q1, q2.mono (σ' := σ.addI w.heap.size c.size c σ.tok) (addI_mono hr.wf) (fun _ _ h => h) (fun _ _ h => h)⟩
        · by_cases h0 : len = 0
          · subst h0; exact .vec0 _ _
          · have := RelP.vec (I := (σ.addI w.heap.size c.size c σ.tok).I) (chunk (P.cellsOf e) len pvs) w.heap.size 0 len (P.cellsOf e) (fun i j => c.getD (i * P.cellsOf e + j) undef)
              (fun row hrow => by
                obtain ⟨i, hi, rfl⟩ := List.getElem_of_mem hrow
                rw [length_chunk] at hi
                have h1 := getElem?_chunk (P.cellsOf e) len pvs i hi
                rw [List.getElem?_eq_getElem (by rw [length_chunk]; exact hi)] at h1
                simp only [Option.some.injEq] at h1
                rw [h1]
                simp only [List.length_take, List.length_drop, hpl]
                have : i * P.cellsOf e + P.cellsOf e ≤ len * P.cellsOf e := by rw [← Nat.succ_mul]; exact Nat.mul_le_mul_right _ hi
                omega)
              (fun i j hi hj => by
                rw [length_chunk] at hi
                have : i * P.cellsOf e + P.cellsOf e ≤ len * P.cellsOf e := by rw [← Nat.succ_mul]; exact Nat.mul_le_mul_right _ hi
                have hlt : i * P.cellsOf e + j < c.size := by omega
                simp [Sg.addI, hlt, Array.getD_eq_getD_getElem?])
              (fun i row j u hrow hu => by
                have hi : i < len := by have := (List.getElem?_eq_some_iff.1 hrow).1; rwa [length_chunk] at this
                rw [getElem?_chunk _ _ _ _ hi] at hrow
                simp only [Option.some.injEq] at hrow; subst hrow
                rw [List.getElem?_take] at hu
                split at hu
                · rw [List.getElem?_drop] at hu
                  obtain ⟨y, hy1, hy2⟩ := p2 _ _ hu
                  obtain ⟨x, hx1, hx2⟩ := g2.2 _ _ hy1
                  have := hy2 (σ.addI w.heap.size c.size c σ.tok) x (hx2.mono (σ' := σ.addI w.heap.size c.size c σ.tok) (addI_mono hr.wf) (fun _ _ h => h) (fun _ _ h => h))
                  simpa [Array.getD_eq_getD_getElem?, hx1] using this
                · simp at hu)
              (by
                rw [length_chunk]
                have : len ≤ len * P.cellsOf e := Nat.le_mul_of_pos_right _ (by omega)
                unfold maxLen; omega)
              (by rw [length_chunk]; exact Nat.le_refl _)
            rwa [length_chunk] at this
      · simp at h
    · simp at h
  · simp at h
end
end Go.Abs

/-
  append.
-/
set_option linter.unusedVariables false
namespace Go.Abs

/-- The elements of a slice of whatever kind. -/
def rowsOf (s : St) (sz : Nat) : AV → Option (List (List PV))
  | .p (.vec rows) => some rows
  | .own rows _ => some rows
  | .ref k off len _ => match s.look k with
    | some (.cells cs) => if off + len * sz ≤ cs.length then (toPVs ((cs.drop off).take (len * sz))).map (chunk sz len) else none
    | _ => none
  | _ => none

def appendTok (d : Nat) (k : Tok) (t : Tok) : Bool := t == .s d || (t == k && !(isC t) && !(t == .n))

def aappend (P : Program) (s : St) (sT xT : TypeId) (base x : AV) : Option (List (List PV) × Tok) :=
  match P.underlying sT, P.underlying xT, base with
  | some (.slice e), some (.slice _), .own rows k =>
    match rowsOf s (P.cellsOf e) x, (azero P e).bind AV.cellsOf with
    | some rows2, some z =>
      if P.cellsOf e ≠ 0 ∧ z.length = P.cellsOf e ∧ P.bytesOf e ≤ 32768 ∧ isC k = false ∧ rows.all (·.length == P.cellsOf e) ∧ rows2.all (·.length == P.cellsOf e) ∧ rows.length + rows2.length ≤ 2147483648 then
        some (rows ++ rows2, k) else none
    | _, _ => none
  | _, _, _ => none

/-- What an append asks of the elements. -/
def appC (sz : Nat) (rows rows2 : List (List PV)) : Prop := (∀ row ∈ rows, row.length = sz) ∧ (∀ row ∈ rows2, row.length = sz) ∧ rows.length + rows2.length ≤ 2147483648

/-- An append of which the elements are not known, under a condition. -/
def aappend0 (P : Program) (s : St) (sT xT : TypeId) (base x : AV) : Option (List (List PV) × Tok × Prop) :=
  match P.underlying sT, P.underlying xT, base with
  | some (.slice e), some (.slice _), .own rows k =>
    match rowsOf s (P.cellsOf e) x, (azero P e).bind AV.cellsOf with
    | some rows2, some z =>
      if P.cellsOf e ≠ 0 ∧ z.length = P.cellsOf e ∧ P.bytesOf e ≤ 32768 ∧ isC k = false then some (rows ++ rows2, k, appC (P.cellsOf e) rows rows2) else none
    | _, _ => none
  | _, _, _ => none

theorem aappend0_some {P : Program} {s : St} {sT xT : TypeId} {base x : AV} {r : List (List PV)} {k : Tok} {C : Prop} (h : aappend0 P s sT xT base x = some (r, k, C)) (hC : C) : aappend P s sT xT base x = some (r, k) := by
  unfold aappend0 at h
  split at h
  · rename_i e e2 rows k' hu hxu
    split at h
    · rename_i rows2 z hrows hz
      split at h
      · rename_i hc
        simp only [Option.some.injEq, Prod.mk.injEq] at h
        obtain ⟨rfl, rfl, rfl⟩ := h
        obtain ⟨q1, q2, q3⟩ := hC
        unfold aappend
        simp only [hu, hxu, hrows, hz]
        rw [if_pos ⟨hc.1, hc.2.1, hc.2.2.1, hc.2.2.2, List.all_eq_true.2 fun r hr => by simpa using q1 r hr, List.all_eq_true.2 fun r hr => by simpa using q2 r hr, q3⟩]
      · cases h
    · cases h
  · cases h

section
variable {P : Program} {σ : Sg} {s : St} {nt : Nat} {a : Act} {w : World}

theorem relP_one {I : Nat → Nat → Option Value} {v : PV} {x : Value} (h : RelP I v x) : x.oneCell' = true := by cases h <;> rfl

/-- What 'firstCells' reads of a slice whose elements are known. -/
def Cells (I : Nat → Nat → Option Value) (sz : Nat) (rows : List (List PV)) (arr : Array Value) : Prop :=
  arr.size = rows.length * sz ∧ ∀ i row j c, rows[i]? = some row → row[j]? = some c → RelP I c (arr.getD (i * sz + j) undef)

theorem idx_lt {i n sz j : Nat} (hi : i < n) (hj : j < sz) : i * sz + j < n * sz := by
  have : i * sz + sz ≤ n * sz := by rw [← Nat.succ_mul]; exact Nat.mul_le_mul_right _ hi
  omega

theorem vec_cells (hr : RelS σ s nt a w) {rows : List (List PV)} {sz : Nat} (hs : ∀ row ∈ rows, row.length = sz) {ba : Option Addr} {len cap : Nat} (h : RelP σ.I (.vec rows) (.slice ba len cap)) :
    ∃ arr, (Builtin.firstCells sz rows.length (.slice ba len cap)).run P w = .ok arr w ∧ Cells σ.I sz rows arr := by
  cases h with
  | vec0 =>
    refine ⟨#[], ?_, by simp, by simp⟩
    cases ba <;> simp [Builtin.firstCells, loadCells, loadCellsFrom]
  | vec _ b o _ sz' val hsz hI hR hmax hcap =>
    have hz : rows ≠ [] → sz' = sz := fun hne => by
      obtain ⟨r, hm⟩ := List.exists_mem_of_ne_nil _ hne
      exact (hsz _ hm).symm.trans (hs _ hm)
    by_cases hne : rows = []
    · subst hne
      exact ⟨#[], by simp [Builtin.firstCells, loadCells, loadCellsFrom], by simp, by simp⟩
    · have := hz hne; subst this
      by_cases h0 : sz' = 0
      · subst h0
        refine ⟨#[], by simp [Builtin.firstCells, loadCells, loadCellsFrom], by simp, fun i row j c hi hj => ?_⟩
        have h1 := hsz row (List.mem_of_getElem? hi)
        have := (List.getElem?_eq_some_iff.1 hj).1
        omega
      · let f : Nat → Value := fun n => val (n / sz') (n % sz')
        have hf : ∀ n, n < rows.length * sz' → w.cell? ((⟨b, o, none⟩ : Addr).add n) = some (f n) := by
          intro n hn
          rw [add_none]
          have h1 : n / sz' < rows.length := Nat.div_lt_of_lt_mul (by rwa [Nat.mul_comm])
          have h2 : n % sz' < sz' := Nat.mod_lt _ (by omega)
          have h3 := hr.wf.imm _ _ _ (hI _ _ h1 h2)
          have h4 : o + n / sz' * sz' + n % sz' = o + n := by rw [Nat.add_assoc, Nat.div_add_mod']
          rwa [h4] at h3
        refine ⟨((List.range (rows.length * sz')).map f).toArray, ?_, by simp, fun i row j c hi hj => ?_⟩
        · simp only [Builtin.firstCells]
          exact run_loadCells w _ _ f hf
        · have hil := (List.getElem?_eq_some_iff.1 hi).1
          have hjl : j < sz' := by rw [← hsz row (List.mem_of_getElem? hi)]; exact (List.getElem?_eq_some_iff.1 hj).1
          have hlt := idx_lt hil hjl
          have e1 : (i * sz' + j) / sz' = i := by rw [Nat.mul_comm, Nat.mul_add_div (by omega), Nat.div_eq_of_lt hjl, Nat.add_zero]
          have e2 : (i * sz' + j) % sz' = j := by rw [Nat.mul_comm, Nat.mul_add_mod, Nat.mod_eq_of_lt hjl]
          simp only [Array.getD_eq_getD_getElem?, List.getElem?_toArray, List.getElem?_map, List.getElem?_range hlt, Option.map_some, Option.getD_some, f, e1, e2]
          exact hR i row j c hi hj

theorem rowsOf_cells (hr : RelS σ s nt a w) {v : AV} {sz : Nat} (h0 : sz ≠ 0) {rows : List (List PV)} (h : rowsOf s sz v = some rows) (hs : ∀ row ∈ rows, row.length = sz) {x : Value} (hx : Rel σ v x) :
    (∃ ba len cap, x = .slice ba len cap ∧ len = rows.length) ∧ ∃ arr, (Builtin.firstCells sz rows.length x).run P w = .ok arr w ∧ Cells σ.I sz rows arr := by
  unfold rowsOf at h
  split at h
  · simp only [Option.some.injEq] at h; subst h
    cases hx with | p hx =>
    obtain ⟨ba, cap, rfl⟩ := len_vec hx
    exact ⟨⟨_, _, _, rfl, rfl⟩, vec_cells hr hs hx⟩
  · simp only [Option.some.injEq] at h; subst h
    cases hx with | own hx _ =>
    obtain ⟨ba, cap, hy⟩ := len_vec hx
    cases hy
    exact ⟨⟨_, _, _, rfl, rfl⟩, vec_cells hr hs hx⟩
  · rename_i k off len cap
    split at h
    · rename_i cs hl
      split at h
      · rename_i hle
        rw [Option.map_eq_some_iff] at h
        obtain ⟨pvs, hp, rfl⟩ := h
        obtain ⟨p1, p2⟩ := toPVs_rel hp
        have hpl : pvs.length = len * sz := by rw [← p1]; simp; omega
        cases hx with | ref _ _ _ cap' hb hcc =>
        obtain ⟨b', hb', c, T, hc, hsz, hcs⟩ := hr.blks _ _ hl
        rw [hb] at hb'; cases hb'
        refine ⟨⟨_, _, _, rfl, (length_chunk _ _ _).symm⟩, ((List.range (len * sz)).map fun n => c.getD (off + n) undef).toArray, ?_, by simp [length_chunk], fun i row j u hi hj => ?_⟩
        · rw [length_chunk]
          simp only [Builtin.firstCells]
          refine run_loadCells w _ _ _ (fun n hn => ?_)
          rw [add_none, cell_of_block hc]
          have : off + n < c.size := by omega
          simp [this, Array.getD_eq_getD_getElem?]
        · have hil : i < len := by have := (List.getElem?_eq_some_iff.1 hi).1; rwa [length_chunk] at this
          have hjl : j < sz := by rw [← hs row (List.mem_of_getElem? hi)]; exact (List.getElem?_eq_some_iff.1 hj).1
          have hlt := idx_lt hil hjl
          rw [getElem?_chunk _ _ _ _ hil] at hi
          simp only [Option.some.injEq] at hi; subst hi
          rw [List.getElem?_take, if_pos hjl, List.getElem?_drop] at hj
          obtain ⟨y, hy1, hy2⟩ := p2 _ _ hj
          rw [List.getElem?_take, if_pos hlt, List.getElem?_drop] at hy1
          have := hy2 σ _ (hcs _ _ hy1)
          simpa only [Array.getD_eq_getD_getElem?, List.getElem?_toArray, List.getElem?_map, List.getElem?_range hlt, Option.map_some, Option.getD_some] using this
      · simp at h
    · simp at h
  · simp at h

theorem Cells.one {I : Nat → Nat → Option Value} {sz : Nat} (h0 : sz ≠ 0) {rows : List (List PV)} (hs : ∀ row ∈ rows, row.length = sz) {arr : Array Value} (h : Cells I sz rows arr) : ∀ x ∈ arr.toList, x.oneCell' = true := by
  intro x hx
  obtain ⟨n, hn, rfl⟩ := List.getElem_of_mem hx
  simp only [Array.length_toList] at hn
  have hn' : n < rows.length * sz := by rw [← h.1]; exact hn
  have h1 : n / sz < rows.length := Nat.div_lt_of_lt_mul (by rwa [Nat.mul_comm])
  have h2 : n % sz < sz := Nat.mod_lt _ (by omega)
  have hrow := hs _ (List.getElem_mem h1)
  have := h.2 (n / sz) rows[n / sz] (n % sz) (rows[n / sz][n % sz]'(by rw [hrow]; exact h2)) (List.getElem?_eq_getElem h1) (List.getElem?_eq_getElem _)
  rw [Nat.div_add_mod'] at this
  simpa [Array.getD_eq_getD_getElem?, hn] using relP_one this

/-- Two lists of elements, one behind the other. -/
theorem relP_append {I : Nat → Nat → Option Value} {sz b o cap : Nat} {rows rows2 : List (List PV)} (hs : ∀ row ∈ rows, row.length = sz) (hs2 : ∀ row ∈ rows2, row.length = sz) {f : Nat → Value}
    (hI : ∀ n, n < (rows.length + rows2.length) * sz → I b (o + n) = some (f n)) (h1 : ∀ i row j c, rows[i]? = some row → row[j]? = some c → RelP I c (f (i * sz + j)))
    (h2 : ∀ i row j c, rows2[i]? = some row → row[j]? = some c → RelP I c (f ((rows.length + i) * sz + j))) (hmax : rows.length + rows2.length ≤ maxLen) (hcap : rows.length + rows2.length ≤ cap) :
    RelP I (.vec (rows ++ rows2)) (.slice (some ⟨b, o, none⟩) (rows.length + rows2.length) cap) := by
  have := RelP.vec (I := I) (rows ++ rows2) b o cap sz (fun i j => f (i * sz + j)) (fun row hr => by rcases List.mem_append.1 hr with h | h; exact hs _ h; exact hs2 _ h)
    (fun i j hi hj => by rw [Nat.add_assoc]; exact hI _ (by rw [List.length_append] at hi; exact idx_lt hi hj))
    (fun i row j c hi hj => by
      rw [List.getElem?_append] at hi
      split at hi
      · exact h1 i row j c hi hj
      · rename_i hge
        have := h2 (i - rows.length) row j c hi hj
        rwa [show rows.length + (i - rows.length) = i by omega] at this) (by rw [List.length_append]; exact hmax) (by rw [List.length_append]; exact hcap)
  rwa [List.length_append] at this
end
end Go.Abs

/-
  append, in the model.
-/
set_option linter.unusedVariables false
namespace Go.Abs

section
variable {P : Program} {σ : Sg} {s : St} {nt : Nat} {a : Act} {w : World}

theorem nextcap_le (need cap : Nat) (h : cap < need) : Builtin.nextslicecap need cap ≤ 2 * need + 192 := by
  unfold Builtin.nextslicecap
  split
  · omega
  · split
    · omega
    · have : ∀ r c, c < 2 * need + 192 → Builtin.growBy need r c ≤ 2 * need + 192 := by
        intro r
        induction r with
        | zero => intro c h; simp [Builtin.growBy]; omega
        | succ r ih =>
          intro c h
          simp only [Builtin.growBy]
          split
          · omega
          · exact ih _ (by omega)
      exact this 4 cap (by omega)

/-- The tokens behind an append: slot d's is the new one. -/
def tokApp (σ : Sg) (d : Nat) (k : Tok) (x : Option (Nat × Nat × Nat)) : Tok → Option (Nat × Nat × Nat) := fun t => if t = .s d then x else if appendTok d k t then none else σ.tok t

theorem tokApp_keep {d : Nat} {k : Tok} {x : Option (Nat × Nat × Nat)} {t : Tok} {y : Nat × Nat × Nat} (hf : appendTok d k t = false) (h : σ.tok t = some y) : tokApp σ d k x t = some y := by
  unfold tokApp
  have : t ≠ .s d := fun e => by simp [appendTok, e] at hf
  rw [if_neg this, hf]; simpa using h

theorem tokApp_cases {d : Nat} {k : Tok} {x : Nat × Nat × Nat} {t : Tok} {y : Nat × Nat × Nat} (h : tokApp σ d k (some x) t = some y) : (σ.tok t = some y ∧ appendTok d k t = false) ∨ (t = .s d ∧ y = x) := by
  unfold tokApp at h
  split at h
  · rename_i e; simp at h; exact .inr ⟨e, h.symm⟩
  · split at h
    · simp at h
    · rename_i e2; exact .inl ⟨h, by simpa using e2⟩

theorem appendTok_isC {d : Nat} {k : Tok} {t : Tok} (h : appendTok d k t = true) : isC t = false := by
  cases t <;> simp_all [appendTok, isC]

theorem appendTok_self {d : Nat} {k : Tok} (h1 : isC k = false) (h2 : k ≠ .n) : appendTok d k k = true := by simp [appendTok, h1, h2]

theorem RelS.drew (hr : RelS σ s nt a w) : RelS σ s nt a w.drew :=
  ⟨hr.sz, hr.df, hr.vals, hr.blks, hr.cinv, hr.gfree, hr.lfree, hr.wf.inj, hr.wf.injt, hr.wf.injtt, hr.wf.lt, hr.wf.tokw, hr.wf.blkI, hr.wf.imm⟩

theorem Post.drew (σ : Sg) (w : World) : Post σ σ w w.drew :=
  ⟨fun _ _ _ h => h, fun _ _ _ h => .inl h, fun _ h => .inl h, fun _ _ h => h, fun _ _ _ => rfl, Nat.le_refl _, rfl, rfl, rfl, rfl, fun _ => rfl⟩

/-- There is room: the new cells are written behind the old ones. -/
theorem append_room (hr : RelS σ s nt a w) {d : Nat} {k : Tok} (hkc : isC k = false) {sz : Nat} (h0 : sz ≠ 0) {rows rows2 : List (List PV)} (hs : ∀ row ∈ rows, row.length = sz) (hs2 : ∀ row ∈ rows2, row.length = sz)
    {ba : Option Addr} {len cap : Nat} (hb : Rel σ (.own rows k) (.slice ba len cap)) {new : Array Value} (hnew : Cells σ.I sz rows2 new) (hfit : rows.length + rows2.length ≤ cap) (hmax : rows.length + rows2.length ≤ maxLen) :
    ∃ w' σ', (match ba with | some x => storeCells (x.add (len * sz)) new.toList | none => pure () : Sem Unit).run P w = .ok () w' ∧
      RelS σ' (s.dis (appendTok d k)) nt a w' ∧ Post σ σ' w w' ∧ Rel σ' (.own (rows ++ rows2) (.s d)) (.slice ba (rows.length + rows2.length) cap) := by
  cases hb with | own hv ho =>
  obtain ⟨hlen, hcap⟩ := cap_le hv
  by_cases h2 : rows2 = []
  · subst h2
    have hn0 : new = #[] := by
      have := hnew.1
      simp at this; exact this
    subst hn0
    rcases ho with ho | ⟨b, o, sz', l, h3, h4, h5, h6, h7, h8⟩
    · refine ⟨w, σ, ?_, hr.turn (σ' := σ) _ (fun _ h => appendTok_isC h) (fun _ _ _ h => h) rfl (fun _ _ _ h => h) (fun _ _ _ => rfl) hr.wf, .refl _ _, ?_⟩
      · cases ba <;> rfl
      · refine .own (by simpa [hlen] using hv) (.inl (by simp; omega))
    · have hwf : WFS { σ with tok := tokApp σ d k (some (b, o + len * sz', l)) } w := by
        refine ⟨hr.wf.inj, fun k' t b' e l' e1 e2 => ?_, fun t t' b' e l1 e' l2 e1 e2 => ?_, hr.wf.lt, fun t b' e l' e1 => ?_, hr.wf.blkI, hr.wf.imm⟩
        · rcases tokApp_cases e2 with ⟨e3, _⟩ | ⟨_, e3⟩
          · exact hr.wf.injt _ _ _ _ _ e1 e3
          · cases e3; exact hr.wf.injt _ _ _ _ _ e1 h7
        · rcases tokApp_cases e1 with ⟨e3, e4⟩ | ⟨e3, e4⟩
          · rcases tokApp_cases e2 with ⟨e5, _⟩ | ⟨e5, e6⟩
            · exact hr.wf.injtt _ _ _ _ _ _ _ e3 e5
            · cases e6
              have := hr.wf.injtt _ _ _ _ _ _ _ e3 h7
              rw [this, appendTok_self hkc h3] at e4; simp at e4
          · rcases tokApp_cases e2 with ⟨e5, e6⟩ | ⟨e5, _⟩
            · cases e4
              have := hr.wf.injtt _ _ _ _ _ _ _ e5 h7
              rw [this, appendTok_self hkc h3] at e6; simp at e6
            · rw [e3, e5]
        · rcases tokApp_cases e1 with ⟨e3, _⟩ | ⟨_, e3⟩
          · exact hr.wf.tokw _ _ _ _ e3
          · cases e3; exact hr.wf.tokw _ _ _ _ h7
      refine ⟨w, { σ with tok := tokApp σ d k (some (b, o + len * sz', l)) }, ?_, hr.turn (σ' := { σ with tok := tokApp σ d k (some (b, o + len * sz', l)) }) _ (fun _ h => appendTok_isC h) (fun _ _ _ h => h) rfl (fun t x hf h => tokApp_keep hf h) (fun _ _ _ => rfl) hwf, ?_, ?_⟩
      · cases ba <;> rfl
      · refine ⟨fun _ _ _ h => h, fun _ _ _ h => .inl h, fun b' hb' => ?_, fun _ _ h => h, fun _ _ _ => rfl, Nat.le_refl _, rfl, rfl, rfl, rfl, fun _ => rfl⟩
        rcases hb' with ⟨k', hb'⟩ | ⟨t, e, l', hb'⟩
        · exact .inl (.inl ⟨k', hb'⟩)
        · rcases tokApp_cases hb' with ⟨e3, _⟩ | ⟨_, e3⟩
          · exact .inl (.inr ⟨t, e, l', e3⟩)
          · cases e3; exact .inl (.inr ⟨k, _, _, h7⟩)
      · refine .own (by simpa [hlen] using hv) (.inr ⟨b, o, sz', l, by simp, h4, by simpa using h5, by simpa using h6, ?_, h8⟩)
        simp [tokApp, hlen]
  · have hpos : 0 < rows2.length := List.length_pos_iff.2 h2
    rcases ho with ho | ⟨b, o, sz', l, h3, h4, h5, h6, h7, h8⟩
    · omega
    · have hszz : sz' = sz := by
        obtain ⟨r, hm⟩ := List.exists_mem_of_ne_nil _ h6
        exact (h5 _ hm).symm.trans (hs _ hm)
      subst hszz
      subst h4
      obtain ⟨⟨c, T, hc, hlc⟩, hIe⟩ := hr.wf.tokw _ _ _ _ h7
      have hbw : b < w.heap.size := (Array.getElem?_eq_some_iff.1 hc).1
      have hns : new.toList.length = rows2.length * sz' := by simpa using hnew.1
      have hroom : o + len * sz' + rows2.length * sz' ≤ c.size := by
        have : (rows.length + rows2.length) * sz' ≤ cap * sz' := Nat.mul_le_mul_right _ hfit
        rw [Nat.add_mul] at this
        rw [hlen]; omega
      obtain ⟨c', g1, g2, g3, g4⟩ := storeCells_block (P := P) (b := b) (off := o + len * sz') new.toList c w 0 hc (by rw [hns]; omega) (hnew.one h0 hs2)
      simp only [Nat.add_zero] at g3 g4
      let E := o + len * sz' + rows2.length * sz'
      let σ' : Sg := { I := fun b' i => if b' = b ∧ o + len * sz' ≤ i ∧ i < E then c'[i]? else σ.I b' i, blk := σ.blk, tok := tokApp σ d k (some (b, E, l)), D := σ.D }
      have hother : ∀ i, i ≠ b → (w.heap.setIfInBounds b (.cells c' T (0, 0)))[i]? = w.heap[i]? := fun i hi => by rw [Array.getElem?_setIfInBounds_ne (Ne.symm hi)]
      have hthis : (w.heap.setIfInBounds b (.cells c' T (0, 0)))[b]? = some (.cells c' T (0, 0)) := by simp [hbw]
      have hI : ∀ b' i v, σ.I b' i = some v → σ'.I b' i = some v := by
        intro b' i v e
        simp only [σ']
        split
        · rename_i hh
          obtain ⟨rfl, hh1, hh2⟩ := hh
          rw [hIe i hh1] at e; simp at e
        · exact e
      have hwf : WFS σ' { w with heap := w.heap.setIfInBounds b (.cells c' T (0, 0)) } := by
        refine ⟨hr.wf.inj, fun k' t b' e l' e1 e2 => ?_, fun t t' b' e l1 e' l2 e1 e2 => ?_, fun k' b' h => by simpa using hr.wf.lt k' b' h, fun t b' e l' e1 => ?_, fun k' b' i e1 => ?_, fun b' i v e1 => ?_⟩
        · rcases tokApp_cases e2 with ⟨e3, _⟩ | ⟨_, e3⟩
          · exact hr.wf.injt _ _ _ _ _ e1 e3
          · cases e3; exact hr.wf.injt _ _ _ _ _ e1 h7
        · rcases tokApp_cases e1 with ⟨e3, e4⟩ | ⟨e3, e4⟩
          · rcases tokApp_cases e2 with ⟨e5, _⟩ | ⟨e5, e6⟩
            · exact hr.wf.injtt _ _ _ _ _ _ _ e3 e5
            · cases e6
              have := hr.wf.injtt _ _ _ _ _ _ _ e3 h7
              rw [this, appendTok_self hkc h3] at e4; simp at e4
          · rcases tokApp_cases e2 with ⟨e5, e6⟩ | ⟨e5, _⟩
            · cases e4
              have := hr.wf.injtt _ _ _ _ _ _ _ e5 h7
              rw [this, appendTok_self hkc h3] at e6; simp at e6
            · rw [e3, e5]
        · rcases tokApp_cases e1 with ⟨e3, e4⟩ | ⟨_, e3⟩
          · have hne : b' ≠ b := fun e' => by
              subst e'
              have := hr.wf.injtt _ _ _ _ _ _ _ e3 h7
              rw [this, appendTok_self hkc h3] at e4; simp at e4
            obtain ⟨⟨c2, T2, q1, q2⟩, q3⟩ := hr.wf.tokw _ _ _ _ e3
            refine ⟨⟨c2, T2, by rw [hother _ hne]; exact q1, q2⟩, fun i hi => ?_⟩
            simp only [σ']
            rw [if_neg (fun h => hne h.1)]; exact q3 i hi
          · cases e3
            refine ⟨⟨c', T, hthis, by omega⟩, fun i hi => ?_⟩
            simp only [σ']
            rw [if_neg (fun h => by omega)]; exact hIe i (by omega)
        · have hne : b' ≠ b := fun e' => hr.wf.injt _ _ _ _ _ (e' ▸ e1) h7
          simp only [σ']
          rw [if_neg (fun h => hne h.1)]; exact hr.wf.blkI _ _ _ e1
        · simp only [σ'] at e1
          split at e1
          · rename_i hh
            obtain ⟨rfl, hh1, hh2⟩ := hh
            simpa [World.cell?, hbw] using e1
          · rename_i hh
            have := hr.wf.imm _ _ _ e1
            by_cases hne : b' = b
            · subst hne
              have hlt : i < o + len * sz' := by
                rcases Nat.lt_or_ge i (o + len * sz') with h | h
                · exact h
                · rw [hIe i h] at e1; simp at e1
              have h9 := g4 i (.inl hlt)
              simp only [World.cell?, hc] at this
              simp only [World.cell?, hthis]
              simp only [Option.isSome_none, Bool.false_eq_true, if_false] at this ⊢
              rw [h9]; exact this
            · simpa [World.cell?, hother _ hne] using this
      refine ⟨_, σ', by simp only [add_none]; exact g1, hr.turn (σ' := σ') _ (fun _ h => appendTok_isC h) hI rfl (fun t x hf h => tokApp_keep hf h) (fun k' b' h => hother _ (fun e' => hr.wf.injt _ _ _ _ _ (e' ▸ h) h7)) hwf, ?_, ?_⟩
      · refine ⟨hI, fun b' i v e => ?_, fun b' hb' => ?_, fun _ _ h => h, fun b' hb' hn => hother _ (fun e => hn (e ▸ .inr ⟨_, _, _, h7⟩)), by simp, rfl, rfl, rfl, rfl, frozen_same fun i => if e : i = b then .inr ⟨by rw [e]; exact nf_cells hc, by rw [e]; exact nf_cells hthis⟩ else .inl (hother i e)⟩
        · simp only [σ'] at e
          split at e
          · rename_i hh; exact .inr (.inl (hh.1 ▸ .inr ⟨_, _, _, h7⟩))
          · exact .inl e
        · rcases hb' with ⟨k', hb'⟩ | ⟨t, e, l', hb'⟩
          · exact .inl (.inl ⟨k', hb'⟩)
          · rcases tokApp_cases hb' with ⟨e3, _⟩ | ⟨_, e3⟩
            · exact .inl (.inr ⟨t, e, l', e3⟩)
            · cases e3; exact .inl (.inr ⟨k, _, _, h7⟩)
      · have hv' := hv.mono hI
        cases hv with
        | vec0 => exact absurd rfl h6
        | vec _ _ _ _ sz2 val hsz2 hI2 hR2 hmax2 hcap2 =>
          have : sz2 = sz' := by
            obtain ⟨r, hm⟩ := List.exists_mem_of_ne_nil _ h6
            exact (hsz2 _ hm).symm.trans (hs _ hm)
          subst this
          refine .own ?_ (.inr ⟨b, o, sz2, l, by simp, rfl, fun row hr => by rcases List.mem_append.1 hr with h | h; exact hs _ h; exact hs2 _ h, by simp [h6], ?_, h8⟩)
          · refine relP_append (sz := sz2) hs hs2 (f := fun n => if n < rows.length * sz2 then val (n / sz2) (n % sz2) else new.getD (n - rows.length * sz2) undef) (fun n hn => ?_) (fun i row j c hi hj => ?_) (fun i row j c hi hj => ?_) hmax hfit
            · have hsp : 0 < sz2 := Nat.pos_of_ne_zero h0
              by_cases hlt : n < rows.length * sz2
              · rw [if_pos hlt]
                have q1 : n / sz2 < rows.length := Nat.div_lt_of_lt_mul (by rwa [Nat.mul_comm])
                have q2 := hI2 _ _ q1 (Nat.mod_lt n hsp)
                rw [Nat.add_assoc, Nat.div_add_mod'] at q2
                exact hI _ _ _ q2
              · rw [if_neg hlt]
                rw [Nat.add_mul] at hn
                show (if b = b ∧ o + rows.length * sz2 ≤ o + n ∧ o + n < E then c'[o + n]? else σ.I b (o + n)) = _
                rw [if_pos ⟨rfl, by omega, by simp only [E]; omega⟩]
                have hm : n - rows.length * sz2 < new.toList.length := by rw [hns]; omega
                have := g3 (n - rows.length * sz2) _ (List.getElem?_eq_getElem hm)
                rw [show o + rows.length * sz2 + (n - rows.length * sz2) = o + n by omega] at this
                rw [this]
                simp only [Array.length_toList] at hm
                simp [Array.getD_eq_getD_getElem?, hm]
            · have hil := (List.getElem?_eq_some_iff.1 hi).1
              have hjl : j < sz2 := by rw [← hs row (List.mem_of_getElem? hi)]; exact (List.getElem?_eq_some_iff.1 hj).1
              simp only [idx_lt hil hjl, if_true]
              have e1 : (i * sz2 + j) / sz2 = i := by rw [Nat.mul_comm, Nat.mul_add_div (by omega), Nat.div_eq_of_lt hjl, Nat.add_zero]
              have e2 : (i * sz2 + j) % sz2 = j := by rw [Nat.mul_comm, Nat.mul_add_mod, Nat.mod_eq_of_lt hjl]
              rw [e1, e2]
              exact (hR2 i row j c hi hj).mono hI
            · have e1 : ¬ ((rows.length + i) * sz2 + j < rows.length * sz2) := by rw [Nat.add_mul]; omega
              rw [if_neg e1, show (rows.length + i) * sz2 + j - rows.length * sz2 = i * sz2 + j by rw [Nat.add_mul]; omega]
              exact (hnew.2 i row j c hi hj).mono hI
          · simp only [σ', tokApp, if_true, E]
            rw [Nat.add_mul]
            simp; omega
end
end Go.Abs

/-
  append where there is no room; append as a whole.
-/
set_option linter.unusedVariables false
namespace Go.Abs

section
variable {P : Program} {σ : Sg} {s : St} {nt : Nat} {a : Act} {w : World}

theorem append_grow (hr : RelS σ s nt a w) {d : Nat} {k : Tok} {sz : Nat} (h0 : sz ≠ 0) {rows rows2 : List (List PV)} (hs : ∀ row ∈ rows, row.length = sz) (hs2 : ∀ row ∈ rows2, row.length = sz)
    {old new rest : Array Value} (hold : Cells σ.I sz rows old) (hnew : Cells σ.I sz rows2 new) {newCap : Nat} (hcap : rows.length + rows2.length ≤ newCap) (hrest : rest.size = (newCap - (rows.length + rows2.length)) * sz)
    (hmax : rows.length + rows2.length ≤ maxLen) (hpos : 0 < rows.length + rows2.length) (e : TypeId) :
    ∃ σ', RelS σ' (s.dis (appendTok d k)) nt a (w.alloc (.cells (old ++ new ++ rest) e)) ∧ Post σ σ' w (w.alloc (.cells (old ++ new ++ rest) e)) ∧
      Rel σ' (.own (rows ++ rows2) (.s d)) (.slice (some ⟨w.heap.size, 0, none⟩) (rows.length + rows2.length) newCap) := by
  have hsize : (old ++ new ++ rest).size = newCap * sz := by
    simp only [Array.size_append, hold.1, hnew.1, hrest]
    have : newCap = (rows.length + rows2.length) + (newCap - (rows.length + rows2.length)) := by omega
    rw [this]
    simp only [Nat.add_sub_cancel_left, Nat.add_mul]
  have hle : (rows.length + rows2.length) * sz ≤ (old ++ new ++ rest).size := by rw [hsize]; exact Nat.mul_le_mul_right _ hcap
  let tok' := tokApp σ d k (some (w.heap.size, (rows.length + rows2.length) * sz, newCap * sz))
  have ht : ∀ t x, tok' t = some x → σ.tok t = some x ∨ (t = Tok.s d ∧ x = (w.heap.size, (rows.length + rows2.length) * sz, newCap * sz)) := by
    intro t x h
    rcases tokApp_cases h with ⟨h1, _⟩ | h1
    · exact .inl h1
    · exact .inr h1
  have hwf := hr.wf.addI (T := e) hle (l := newCap * sz) (by rw [hsize]; exact Nat.le_refl _) ht
  refine ⟨σ.addI w.heap.size ((rows.length + rows2.length) * sz) (old ++ new ++ rest) tok', hr.turn (σ' := σ.addI w.heap.size ((rows.length + rows2.length) * sz) (old ++ new ++ rest) tok') _ (fun _ h => appendTok_isC h) (addI_mono hr.wf) rfl
    (fun t x hf h => tokApp_keep hf h) (fun k' b h => heap_alloc _ _ _ (hr.wf.lt _ _ h)) hwf, Post.addI hr.wf ht, ?_⟩
  have hI : ∀ n, n < (rows.length + rows2.length) * sz → (σ.addI w.heap.size ((rows.length + rows2.length) * sz) (old ++ new ++ rest) tok').I w.heap.size (0 + n) = some ((old ++ new ++ rest).getD n undef) := by
    intro n hn
    have hlt : n < (old ++ new ++ rest).size := by omega
    simp only [Sg.addI, if_true, Nat.zero_add, hn, Array.getD_eq_getD_getElem?]
    rw [Array.getElem?_eq_getElem hlt]; rfl
  refine .own (relP_append hs hs2 hI (fun i row j c hi hj => ?_) (fun i row j c hi hj => ?_) hmax hcap) ?_
  · have hil := (List.getElem?_eq_some_iff.1 hi).1
    have hjl : j < sz := by rw [← hs row (List.mem_of_getElem? hi)]; exact (List.getElem?_eq_some_iff.1 hj).1
    have hlt : i * sz + j < old.size := by rw [hold.1]; exact idx_lt hil hjl
    have := (hold.2 i row j c hi hj).mono (addI_mono hr.wf (n := (rows.length + rows2.length) * sz) (c := old ++ new ++ rest) (tok := tok'))
    have e2 : (old ++ new ++ rest)[i * sz + j]? = old[i * sz + j]? := by rw [Array.append_assoc, Array.getElem?_append_left hlt]
    rw [Array.getD_eq_getD_getElem?] at this ⊢
    rw [e2]; exact this
  · have hil := (List.getElem?_eq_some_iff.1 hi).1
    have hjl : j < sz := by rw [← hs2 row (List.mem_of_getElem? hi)]; exact (List.getElem?_eq_some_iff.1 hj).1
    have hlt : i * sz + j < new.size := by rw [hnew.1]; exact idx_lt hil hjl
    have := (hnew.2 i row j c hi hj).mono (addI_mono hr.wf (n := (rows.length + rows2.length) * sz) (c := old ++ new ++ rest) (tok := tok'))
    rw [Array.getD_eq_getD_getElem?] at this ⊢
    have e1 : (rows.length + i) * sz + j = old.size + (i * sz + j) := by rw [hold.1, Nat.add_mul]; omega
    have e2 : (old ++ new ++ rest)[old.size + (i * sz + j)]? = new[i * sz + j]? := by rw [Array.append_assoc, Array.getElem?_append_right (by omega), Nat.add_sub_cancel_left, Array.getElem?_append_left hlt]
    rw [e1, e2]; exact this
  · have hrr : rows ++ rows2 ≠ [] := fun h => by rw [← List.length_append, h] at hpos; simp at hpos
    exact .inr ⟨w.heap.size, 0, sz, newCap * sz, by simp, rfl, fun row hr => by rcases List.mem_append.1 hr with h | h; exact hs _ h; exact hs2 _ h, hrr, by simp [Sg.addI, tok', tokApp], by omega⟩

theorem all_len {rows : List (List PV)} {sz : Nat} (h : rows.all (·.length == sz) = true) : ∀ row ∈ rows, row.length = sz := fun row hr => by
  simpa using List.all_eq_true.1 h row hr

theorem zeroCells_size (z : Array Value) (n : Nat) : (Builtin.zeroCells z n).size = n * z.size := by simp [Builtin.zeroCells]

theorem aappend_does {o : Oper} {sT xT : TypeId} {bx xx : Operand} {d : Nat} (ho : o.op = .call { callee := .builtin .append, args := #[bx, xx], argTypes := #[sT, xT] }) (hd : o.dst = some d) (hn : d < nt) {bv xv : AV}
    (hb : ev s bx = some bv) (hx : ev s xx = some xv) {r : List (List PV) × Tok} (h : aappend P s sT xT bv xv = some r) : Does P nt s o ((s.dis (appendTok d r.2)).put (some d) (.own r.1 (.s d))) := by
  intro σ a w hr
  unfold aappend at h
  split at h
  · rename_i e e2 rows k hu hxu
    split at h
    · rename_i rows2 z hrows hz
      split at h
      · rename_i hc
        obtain ⟨h0, hzl, hby, hkc, hs, hs2, hbound⟩ := hc
        simp only [Option.some.injEq] at h; subst h
        have hs := all_len hs
        have hs2 := all_len hs2
        rw [Option.bind_eq_some_iff] at hz
        obtain ⟨zv, hz1, hz2⟩ := hz
        have hbr := ev_rel hr hb
        have hxr := ev_rel hr hx
        generalize hbx : a.eval bx = bx' at hbr
        generalize hxx : a.eval xx = xx' at hxr
        obtain ⟨⟨xa, xlen, xcap, hxe, hxl⟩, new, hnr, hnew⟩ := rowsOf_cells (P := P) hr h0 hrows hs2 hxr
        have hbr' := hbr
        cases hbr with | own hv hown =>
        rename_i ba len cap
        obtain ⟨hlen, hcap⟩ := cap_le hv
        obtain ⟨old, hor, hold⟩ := vec_cells (P := P) hr hs hv
        have hmaxl : rows.length + rows2.length ≤ maxLen := by unfold maxLen; omega
        have hlenOf : (Builtin.lenOf xx').run P w = .ok rows2.length w := by rw [hxe, hxl]; rfl
        have hfin : ∀ v w', (Builtin.append_ #[sT, xT] o.type #[.slice ba len cap, xx']).run P w = .ok v w' → (execOp a.eval o).run P w = .ok (.value v) w' := by
          intro v w' h
          have : execOp a.eval o = (do pure (Next.value (← Builtin.append_ #[sT, xT] o.type ((#[bx, xx] : Array Operand).map a.eval))) : Sem Next) := by
            unfold execOp; rw [ho]; rfl
          rw [this, show (#[bx, xx] : Array Operand).map a.eval = #[.slice ba len cap, xx'] by simp [hbx, hxx]]
          rw [Sem.run_bind, h]; rfl
        by_cases hfit : len + rows2.length ≤ cap
        · obtain ⟨w', σ', g1, g2, g3, g4⟩ := append_room (P := P) (d := d) hr hkc h0 hs hs2 hbr' hnew (by omega) hmaxl
          refine ⟨.slice ba (rows.length + rows2.length) cap, w', σ', .inl (hfin _ _ ?_), ?_, g3⟩
          · cases ba <;> simp [Builtin.append_, run_underlying hu, run_sizeOf_ne h0, run_underlying hxu, hlenOf, hnr, hlen] at g1 ⊢
            · rw [if_pos (by omega), g1]
            · rw [if_pos (by omega), g1]; rfl
          · rw [hd]; exact g2.put g4 (dst := some d) (by simp [dstOk, hn])
        · have hfit' : cap < len + rows2.length := by omega
          obtain ⟨zx, hzx, hzr⟩ := azero_run (σ := σ) (w := w.drew) hz1
          have hzs : zx.cells.size = P.cellsOf e := by rw [(ArrRel_of_cells hz2 hzr).1, hzl]
          obtain ⟨_, new, hnr, hnew⟩ := rowsOf_cells (P := P) hr.drew h0 hrows hs2 hxr
          obtain ⟨old, hor, hold⟩ := vec_cells (P := P) hr.drew hs hv
          obtain ⟨i, hi⟩ : ∃ i, P.info? e = some i := by
            cases hi : P.info? e with
            | none => simp [Program.cellsOf, hi] at h0
            | some i => exact ⟨i, rfl⟩
          have hti : ∀ w, (typeInfo e).run P w = .ok i w := fun w => by simp [typeInfo, hi]
          have hib : i.bytes ≤ 32768 := by simpa [Program.bytesOf, hi] using hby
          let t := w.tape w.drawn (.appendCap (rows.length + rows2.length) cap e)
          have hcut : rows.length + rows2.length ≤ (Question.appendCap (rows.length + rows2.length) cap e).cut t := Nat.le_add_right _ _
          generalize hnc : (Question.appendCap (rows.length + rows2.length) cap e).cut t = newCap at hcut
          obtain ⟨σ', g2, g3, g4⟩ := append_grow (d := d) (k := k) hr.drew h0 hs hs2 hold hnew hcut (rest := Builtin.zeroCells zx.cells (newCap - (rows.length + rows2.length))) (by rw [zeroCells_size, hzs]) hmaxl (by omega) e
          have hnext : ¬ (281474976710656 < Builtin.nextslicecap (rows.length + rows2.length) cap * i.bytes) := by
            have h1 := nextcap_le (rows.length + rows2.length) cap (by omega)
            have h2 : Builtin.nextslicecap (rows.length + rows2.length) cap * i.bytes ≤ 4294967488 * 32768 := Nat.mul_le_mul (by omega) hib
            omega
          refine ⟨.slice (some ⟨w.drew.heap.size, 0, none⟩) (rows.length + rows2.length) newCap, _, σ', .inl (hfin _ _ ?_), by rw [hd]; exact g2.put g4 (dst := some d) (by simp [dstOk, hn]), (Post.drew _ _).trans g3⟩
          have hsc : Builtin.nextslicecap (len + rows2.length) cap = Builtin.nextslicecap (rows.length + rows2.length) cap := by rw [hlen]
          simp [Builtin.append_, run_underlying hu, run_sizeOf_ne h0, run_underlying hxu, hlenOf]
          rw [if_neg (by omega), hti]
          simp only [Result.andThen_ok]
          rw [if_neg (by omega)]
          simp only [hti, Result.andThen_ok]
          rw [hsc, if_neg hnext]
          have hf : (Question.appendCap (len + rows2.length) cap e).forced = false := rfl
          have hc2 : (Question.appendCap (len + rows2.length) cap e).cut (w.tape w.drawn (Question.appendCap (len + rows2.length) cap e)) = newCap := by rw [hlen]; exact hnc
          rw [hf, hc2]
          rw [hlen] at hor ⊢
          simp only [Bool.false_eq_true, if_false, hti, Result.andThen_ok, hor, hnr, hzx, run_newRow]
          rfl
      · simp at h
    · simp at h
  · simp at h
end
end Go.Abs

/-
  make of slices, copy, clear.
-/
set_option linter.unusedVariables false
namespace Go.Abs

/-- 'make([]T, n)': a new block of the heap. -/
def amake (P : Program) (s : St) (d : Nat) (t : TypeId) (n : Int) : Option St :=
  match P.underlying t with
  | some (.slice e) => match (azero P e).bind AV.cellsOf with
    | some z => if z.length = P.cellsOf e ∧ P.cellsOf e ≠ 0 ∧ 0 ≤ n ∧ P.bytesOf e ≤ 32768 ∧ n ≤ 2147483648 ∧ z.all (AV.fits (.g s.G.length)) then
        some { ts := (d, .ref (.g s.G.length) 0 n.toNat n.toNat) :: s.ts, L := s.L, G := s.G ++ [.cells (zrep n.toNat z)] } else none
    | none => none
  | _ => none

def isSl : AV → Bool
  | .p (.vec _) | .own _ _ | .ref _ _ _ _ => true
  | _ => false

/-- 'copy(x, y)', y no longer than x. -/
def acopy (P : Program) (s : St) (t : TypeId) (x y : AV) : Option (St × Nat) :=
  match P.underlying t with
  | some (.slice e) => match rowsOf s (P.cellsOf e) y with
    | some rows => if P.cellsOf e ≠ 0 ∧ rows.all (·.length == P.cellsOf e) then match x with
        | .ref k off len _ => match s.look k with
          | some (.cells cs) => if rows.length ≤ len ∧ off + rows.length * P.cellsOf e ≤ cs.length then
              some (if rows = [] then s else s.setBlk k (setMany cs off (rows.flatten.map .p)), rows.length) else none
          | _ => none
        | v => if isSl v ∧ rows = [] then some (s, 0) else none
      else none
    | none => none
  | _ => none

def aclear (P : Program) (s : St) (t : TypeId) (x : AV) : Option St :=
  match P.underlying t, x with
  | some (.map _ _), .map id => match s.G[id]? with
    | some (.map _ clock) => some { s with G := s.G.set id (.map [] clock) }
    | _ => none
  | _, _ => none

section
variable {P : Program} {σ : Sg} {s : St} {nt : Nat} {a : Act} {w : World}

theorem i64wrap_id {n : Int} (h0 : 0 ≤ n) (h1 : n ≤ 2147483648) : IntKind.i64.wrap n = n := by
  have e : n % (2 ^ 64 : Int) = n := Int.emod_eq_of_lt h0 (by omega)
  have e2 : ¬ (n ≥ (2 ^ 63 : Int)) := by omega
  unfold IntKind.wrap
  show (if IntKind.i64.signed && decide (n % (2 ^ 64 : Int) ≥ (2 ^ 63 : Int)) then n % (2 ^ 64 : Int) - (2 ^ 64 : Int) else n % (2 ^ 64 : Int)) = n
  rw [e]
  simp
  intro _ h
  omega

theorem amake_does {o : Oper} {t : TypeId} {l c : Operand} {d : Nat} (ho : o.op = .makeSlice t l c) (hd : o.dst = some d) (hn : d < nt) {k k' : IntKind} {n : Int} (hl : ev s l = some (.p (.int k n))) (hc : ev s c = some (.p (.int k' n)))
    {s' : St} (h : amake P s d t n = some s') : Does P nt s o s' := by
  intro σ a w hr
  unfold amake at h
  split at h
  · rename_i e hu
    split at h
    · rename_i z hz
      split at h
      · rename_i hcond
        obtain ⟨hz1, hz2, h0, hby, hmax, hfit⟩ := hcond
        simp only [Option.some.injEq] at h; subst h
        rw [Option.bind_eq_some_iff] at hz
        obtain ⟨zv, hzv1, hzv2⟩ := hz
        obtain ⟨zx, hzx, hzr⟩ := azero_run (σ := σ) (w := w) hzv1
        have hzc := ArrRel_of_cells hzv2 hzr
        have hzsz : zx.cells.size = P.cellsOf e := by rw [hzc.1, hz1]
        have hlr := ev_rel hr hl
        have hcr := ev_rel hr hc
        generalize hlx : a.eval l = lx at hlr
        generalize hcx : a.eval c = cx at hcr
        have hl1 : lx = .int k n := by cases hlr with | p hlr => cases hlr; rfl
        have hc1 : cx = .int k' n := by cases hcr with | p hcr => cases hcr; rfl
        subst hl1 hc1
        obtain ⟨i, hi⟩ : ∃ i, P.info? e = some i := by
          cases hi : P.info? e with
          | none => simp [Program.cellsOf, hi] at hz2
          | some i => exact ⟨i, rfl⟩
        have hti : ∀ w, (typeInfo e).run P w = .ok i w := fun w => by simp [typeInfo, hi]
        have hib : i.bytes ≤ 32768 := by simpa [Program.bytesOf, hi] using hby
        let m := n.toNat * P.cellsOf e
        let cs := (Array.range m).map (fun i => zx.cells[i % zx.cells.size]!)
        have hinit : ArrRel σ cs (zrep n.toNat z) := by
          refine ⟨by simp [cs, m, length_zrep, hz1], fun i v hv => ?_⟩
          have hi : i < n.toNat * z.length := by rw [← length_zrep]; exact (List.getElem?_eq_some_iff.1 hv).1
          rw [getElem?_zrep _ _ _ hi] at hv
          obtain ⟨x, hx1, hx2⟩ := hzc.2 _ _ hv
          refine ⟨x, ?_, hx2⟩
          rw [hz1] at hi hx1
          simp only [cs, m]
          rw [hzsz]
          simp [hi, getElem!_def, hx1]
        have hkk := hr.gfree s.G.length (Nat.le_refl _)
        have hB : RelB (σ.setBlk (.g s.G.length) w.heap.size) (w.alloc (.cells cs e)) w.heap.size (.cells (zrep n.toNat z)) := by
          refine ⟨cs, e, heap_alloc_new _ _, Nat.le_of_eq hinit.1.symm, fun j x hj => ?_⟩
          obtain ⟨y, hy, hyr⟩ := hinit.2 j x hj
          have : cs.getD j undef = y := by simp [Array.getD_eq_getD_getElem?, hy]
          rw [this]
          exact hyr.new hkk
        have hinv : BlkInv (.g s.G.length) (.cells (zrep n.toNat z)) := by
          intro j x hj
          have hi : j < n.toNat * z.length := by rw [← length_zrep]; exact (List.getElem?_eq_some_iff.1 hj).1
          rw [getElem?_zrep _ _ _ hi] at hj
          exact chk_imp (fun _ h => h) (fun _ h => by simp at h) _ (List.all_eq_true.1 hfit x (List.mem_of_getElem? hj))
        obtain ⟨g1, g2⟩ := hr.newG (o := .cells cs e) hB hinv
        refine ⟨.slice (some ⟨w.heap.size, 0, none⟩) n.toNat n.toNat, _, _, .inl ?_, ?_, g2⟩
        · have hwr := i64wrap_id h0 hmax
          have hlarge : ¬ (i.bytes * n > 2 ^ 48) := by
            have h1 : (i.bytes : Int) * n ≤ 32768 * 2147483648 := Int.mul_le_mul (by omega) hmax h0 (by omega)
            omega
          unfold execOp; rw [ho]
          have hd1 : (decide (n < 0) || decide (2 ^ 48 < (i.bytes : Int) * n)) = false := by simp; omega
          have hn0 : ¬ n < 0 := by omega
          have hlarge' : ¬ (281474976710656 < (i.bytes : Int) * n) := by omega
          simp [hlx, hcx, Instr.makeSlice, run_underlying hu, asInt, asIntOf, hti, hwr, run_sizeOf_ne hz2, hn0, hlarge']
          by_cases hm0 : n.toNat * P.cellsOf e = 0
          · rw [if_pos hm0, hm0]
            have : (Array.map (fun x => (default : Value)) (Array.range 0)) = cs := by simp [cs, m, hm0]
            rw [this]
            simp [run_newRow]
          · rw [if_neg hm0]
            simp [hzx, run_newRow, cs, m]
        · rw [hd]
          exact g1.put (v := .ref (.g s.G.length) 0 n.toNat n.toNat) (.ref 0 _ _ _ (by simp [Sg.setBlk]) (Nat.le_refl _)) (dst := some d) (by simp [dstOk, hn])
      · simp at h
    · simp at h
  · simp at h

theorem cells_flat {I : Nat → Nat → Option Value} {sz : Nat} {rows : List (List PV)} (hs : ∀ row ∈ rows, row.length = sz) {arr : Array Value} (h : Cells I sz rows arr) :
    arr.size = rows.flatten.length ∧ ∀ (j : Nat) (v : PV), rows.flatten[j]? = some v → RelP I v (arr.getD j undef) := by
  obtain ⟨h1, h2⟩ := h
  have hlen : ∀ rows : List (List PV), (∀ row ∈ rows, row.length = sz) → rows.flatten.length = rows.length * sz := by
    intro rows hs
    induction rows with
    | nil => simp
    | cons r rs ih =>
      simp only [List.flatten_cons, List.length_append, List.length_cons, Nat.add_mul, Nat.one_mul]
      rw [ih (fun row h => hs row (by simp [h])), hs r (by simp)]; omega
  have hget : ∀ (rows : List (List PV)), (∀ row ∈ rows, row.length = sz) → ∀ (j : Nat) (v : PV), rows.flatten[j]? = some v → ∃ i r c, rows[i]? = some r ∧ r[c]? = some v ∧ j = i * sz + c := by
    intro rows hs
    induction rows with
    | nil => intro j v h; simp at h
    | cons r rs ih =>
      intro j v h
      have hr := hs r (by simp)
      rw [List.flatten_cons, List.getElem?_append] at h
      split at h
      · rename_i hj; exact ⟨0, r, j, rfl, h, by simp⟩
      · rename_i hj
        obtain ⟨i, r', c, q1, q2, q3⟩ := ih (fun row h => hs row (by simp [h])) _ _ h
        exact ⟨i + 1, r', c, by simpa using q1, q2, by rw [Nat.add_mul]; omega⟩
  refine ⟨by rw [h1, hlen rows hs], fun j v hj => ?_⟩
  obtain ⟨i, r, c, q1, q2, rfl⟩ := hget rows hs j v hj
  exact h2 i r c v q1 q2

theorem acopy_does {o : Oper} {sT xT : TypeId} {bx xx : Operand} (ho : o.op = .call { callee := .builtin .copy, args := #[bx, xx], argTypes := #[sT, xT] }) (hd : dstOk nt o.dst = true) {bv xv : AV}
    (hb : ev s bx = some bv) (hx : ev s xx = some xv) {r : St × Nat} (h : acopy P s sT bv xv = some r) : Does P nt s o (r.1.put o.dst (.p (.int .i64 r.2))) := by
  intro σ a w hr
  unfold acopy at h
  split at h
  · rename_i e hu
    split at h
    · rename_i rows hrows
      split at h
      · rename_i hcond
        obtain ⟨h0, hs⟩ := hcond
        have hs := all_len hs
        have hbr := ev_rel hr hb
        have hxr := ev_rel hr hx
        generalize hbx : a.eval bx = bx' at hbr
        generalize hxx : a.eval xx = xx' at hxr
        obtain ⟨⟨xa, xlen, xcap, hxe, hxl⟩, arr, hnr, harr⟩ := rowsOf_cells (P := P) hr h0 hrows hs hxr
        have hlenOf : (Builtin.lenOf xx').run P w = .ok rows.length w := by rw [hxe, hxl]; rfl
        have hfin : ∀ v w', (Builtin.copy_ #[sT, xT] o.type #[bx', xx']).run P w = .ok v w' → (execOp a.eval o).run P w = .ok (.value v) w' := by
          intro v w' h
          have : execOp a.eval o = (do pure (Next.value (← Builtin.copy_ #[sT, xT] o.type ((#[bx, xx] : Array Operand).map a.eval))) : Sem Next) := by
            unfold execOp; rw [ho]; rfl
          rw [this, show (#[bx, xx] : Array Operand).map a.eval = #[bx', xx'] by simp [hbx, hxx]]
          rw [Sem.run_bind, h]; rfl
        have res : ∀ {ba len cap}, bx' = .slice ba len cap → rows.length ≤ len → ∀ {w'}, (∀ (b : Addr), ba = some b → (storeCells b arr.toList).run P w = .ok () w') → (ba = none → w' = w) →
            (Builtin.copy_ #[sT, xT] o.type #[bx', xx']).run P w = .ok (goInt rows.length) w' := by
          intro ba len cap he hle w' h1 h2
          have hmin : Nat.min rows.length len = rows.length := Nat.min_eq_left hle
          subst he
          cases ba with
          | none =>
            simp [Builtin.copy_, run_underlying hu, hlenOf, hmin, run_sizeOf_ne h0, hnr, h2 rfl]
          | some b =>
            simp [Builtin.copy_, run_underlying hu, hlenOf, hmin, run_sizeOf_ne h0, hnr, h1 b rfl]
        split at h
        · rename_i k off len cap
          split at h
          · rename_i cs hl
            split at h
            · rename_i hc2
              obtain ⟨hle, hoff⟩ := hc2
              simp only [Option.some.injEq] at h; subst h
              obtain ⟨f1, f2⟩ := cells_flat hs harr
              cases hbr with | ref off len cap cap' hbk hcc =>
              have hflen : rows.flatten.length = rows.length * P.cellsOf e := by rw [← f1, harr.1]
              obtain ⟨w', g1, g2, g3⟩ := storeMany (P := P) (off := off) hbk (rows.flatten.map .p) arr.toList s cs w 0 hr hl (by rw [List.length_map, ← f1]; simp) (fun j v hj => by
                rw [List.getElem?_map, Option.map_eq_some_iff] at hj
                obtain ⟨p, hp, rfl⟩ := hj
                have := f2 j p hp
                have e1 : arr.toList.getD j undef = arr.getD j undef := by simp [Array.getD_eq_getD_getElem?, List.getD_eq_getElem?_getD]
                rw [e1]
                exact ⟨.p this, relP_one this⟩) (List.all_eq_true.2 fun x hx => by
                  obtain ⟨p, _, rfl⟩ := List.mem_map.1 hx; rfl) (by rw [List.length_map, hflen, Nat.add_zero]; exact hoff)
              refine ⟨goInt rows.length, w', σ, .inl (hfin _ _ (res rfl hle (fun b hb => by cases hb; exact g1) (fun h => by simp at h))), ?_, g3⟩
              have hiff : (rows.flatten.map AV.p = []) ↔ rows = [] := by
                constructor
                · intro h
                  have : rows.flatten.length = 0 := by rw [← List.length_map (f := AV.p), h]; rfl
                  rw [hflen] at this
                  rcases Nat.mul_eq_zero.1 this with h | h
                  · exact List.length_eq_zero_iff.1 h
                  · exact absurd h h0
                · intro h; subst h; rfl
              have g2' : RelS σ (if rows = [] then s else s.setBlk k (setMany cs off (rows.flatten.map .p))) nt a w' := by
                by_cases hrw : rows = []
                · rw [if_pos (hiff.2 hrw)] at g2; rw [if_pos hrw]; exact g2
                · rw [if_neg (fun h => hrw (hiff.1 h))] at g2; rw [if_neg hrw]; exact g2
              exact g2'.put (.p (.int _ _)) hd
            · simp at h
          · simp at h
        · rename_i hne
          split at h
          · rename_i hc2
            obtain ⟨hsl, hrw⟩ := hc2
            simp only [Option.some.injEq] at h; subst h
            subst hrw
            obtain ⟨ba, len, cap, rfl⟩ : ∃ ba len cap, bx' = .slice ba len cap := by
              cases hbr with
              | p h => cases h <;> first | (simp [isSl] at hsl; done) | exact ⟨_, _, _, rfl⟩
              | own h _ => exact ⟨_, _, _, rfl⟩
              | ref => exact ⟨_, _, _, rfl⟩
              | _ => simp [isSl] at hsl
            have harr0 : arr = #[] := by
              have := harr.1
              simpa using this
            exact ⟨goInt 0, w, σ, .inl (hfin _ _ (res rfl (by simp) (fun b hb => by rw [harr0]; rfl) (fun _ => rfl))), hr.put (.p (.int _ _)) hd, .refl _ _⟩
          · simp at h
      · simp at h
    · simp at h
  · simp at h

theorem aclear_does {o : Oper} {t : TypeId} {x : Operand} (ho : o.op = .call { callee := .builtin .clear, args := #[x], argTypes := #[t] }) (hd : dstOk nt o.dst = true) {xv : AV} (hx : ev s x = some xv)
    {s' : St} (h : aclear P s t xv = some s') : Does P nt s o (s'.put o.dst (.tuple [])) := by
  intro σ a w hr
  unfold aclear at h
  split at h
  · rename_i kt et id hu
    split at h
    · rename_i es clock hg
      simp only [Option.some.injEq] at h; subst h
      have hxr := ev_rel hr hx
      generalize hxx : a.eval x = x' at hxr
      cases hxr with | map hb =>
      rename_i b0
      obtain ⟨b', hb', es', h1, h2, h3⟩ := hr.blks (.g id) _ (show s.look (.g id) = _ from hg)
      rw [hb] at hb'; cases hb'
      have hlt := hr.wf.lt _ _ hb
      obtain ⟨g1, g2⟩ := hr.setG hg hb (o := .map #[] clock) (blk := .map [] clock) (fun w' hw' => ⟨#[], hw', rfl, by simp⟩) (fun j e he => by simp at he) hlt (nf_map h1)
      refine ⟨.tuple #[], _, σ, .inl ?_, g1.put (.tuple rfl (by simp)) hd, g2⟩
      have : execOp a.eval o = (do pure (Next.value (← Builtin.clear_ #[t] o.type ((#[x] : Array Operand).map a.eval))) : Sem Next) := by
        unfold execOp; rw [ho]; rfl
      rw [this, show (#[x] : Array Operand).map a.eval = #[.map (some b0)] by simp [hxx]]
      simp [Builtin.clear_, run_underlying hu, h1, getObj, setObj, Sem.run]
    · simp at h
  · simp at h
end
end Go.Abs

/-
  A variable that is made anew in each round: the old one is forgotten.
-/
set_option linter.unusedVariables false
namespace Go.Abs

def notKey (d : Nat) : Key → Bool
  | .l t => !(t == d)
  | .g _ => true
def notTok (d : Nat) : Tok → Bool
  | .c (.l t) _ => !(t == d)
  | _ => true

def AV.sans (d : Nat) (v : AV) : Bool := v.chk (notKey d) (notTok d)

def dropL (d : Nat) : LS → LS
  | [] => []
  | (t, cs) :: r => if t = d then dropL d r else (t, cs) :: dropL d r

theorem get_dropL (d : Nat) : ∀ (L : LS) (t : Nat), get (dropL d L) t = if t = d then none else get L t
  | [], t => by simp [dropL, get]
  | (u, cs) :: r, t => by
    simp only [dropL]
    split
    · rename_i e
      rw [get_dropL d r t]
      split
      · rfl
      · rename_i h; simp only [get]; rw [if_neg (fun e2 => h (by rw [← e2, e]))]
    · rename_i e
      simp only [get]
      split
      · rename_i e2; subst e2; rw [if_neg e]
      · exact get_dropL d r t

def St.kill (d : Nat) (s : St) : St :=
  if (get s.L d).isNone then s
  else if (dropL d s.L).all fun p => p.2.all (AV.sans d) then { ts := s.ts.map fun x => (x.1, if x.2.sans d then x.2 else .undef), L := dropL d s.L, G := s.G } else s

def Sg.kill (d : Nat) (σ : Sg) : Sg :=
  { σ with blk := fun k => if notKey d k then σ.blk k else none, tok := fun t => if notTok d t then σ.tok t else none }

section
variable {P : Program} {σ : Sg} {s : St} {nt : Nat} {a : Act} {w : World}

theorem kill_blk {d : Nat} {k : Key} {b : Nat} (h : (σ.kill d).blk k = some b) : notKey d k = true ∧ σ.blk k = some b := by
  simp only [Sg.kill] at h
  split at h
  · rename_i hk; exact ⟨hk, h⟩
  · simp at h
theorem kill_tok {d : Nat} {t : Tok} {x} (h : (σ.kill d).tok t = some x) : notTok d t = true ∧ σ.tok t = some x := by
  simp only [Sg.kill] at h
  split at h
  · rename_i hk; exact ⟨hk, h⟩
  · simp at h

theorem Rel.kill {d : Nat} {v : AV} {x : Value} (h : Rel σ v x) (hv : v.sans d = true) : Rel (σ.kill d) v x :=
  Rel.keep (σ := σ) (σ' := σ.kill d) (fun _ _ _ h => h) (fun k b hk hb => by simp [Sg.kill, hk, hb]) (fun t x ht h => by simp [Sg.kill, ht, h]) h hv

theorem mem_of_get {α : Type} : ∀ {l : List (Nat × α)} {t : Nat} {x : α}, get l t = some x → (t, x) ∈ l
  | [], t, x, h => by simp [get] at h
  | (u, y) :: r, t, x, h => by
    simp only [get] at h
    split at h
    · rename_i e; subst e; simp at h; subst h; simp
    · exact List.mem_cons_of_mem _ (mem_of_get h)

theorem RelS.kill (hr : RelS σ s nt a w) (d : Nat) : ∃ σ', RelS σ' (s.kill d) nt a w ∧ Post σ σ' w w := by
  unfold St.kill
  split
  · exact ⟨σ, hr, .refl _ _⟩
  · split
    · rename_i hall
      have hlook : ∀ {k : Key} {blk : Blk}, ({ ts := s.ts.map fun x => (x.1, if x.2.sans d then x.2 else .undef), L := dropL d s.L, G := s.G } : St).look k = some blk → notKey d k = true ∧ s.look k = some blk ∧
          (∀ cs, blk = .cells cs → ∀ (j : Nat) (x : AV), cs[j]? = some x → x.chk (fun q => notKey d q && keyf k q) (fun t => notTok d t && (t == .c k j)) = true) := fun {k blk} h => by
        cases k with
        | g id =>
          refine ⟨rfl, h, ?_⟩
          rintro cs rfl j x hj
          have hc := hr.cinv (.g id) (.cells cs) h j x hj
          exact chk_imp (f := keyf (.g id)) (g := fun t => t == .c (.g id) j) (fun q hq => by cases q <;> simp_all [keyf, notKey]) (fun t ht => by simp at ht; subst ht; simp [notTok]) _ hc
        | l t =>
          simp only [St.look, get_dropL, Option.map_eq_some_iff] at h
          obtain ⟨cs, h1, rfl⟩ := h
          split at h1
          · simp at h1
          · rename_i hne
            have hl : s.look (.l t) = some (.cells cs) := by simp [St.look, h1]
            refine ⟨by simp [notKey, hne], hl, ?_⟩
            rintro cs' he j x hj
            cases he
            have hmem : (t, cs) ∈ dropL d s.L := mem_of_get (by rw [get_dropL, if_neg hne]; exact h1)
            have h2 := List.all_eq_true.1 (List.all_eq_true.1 hall _ hmem) x (List.mem_of_getElem? hj)
            have h3 := hr.cinv _ _ hl j x hj
            have both : ∀ v : AV, v.chk (notKey d) (notTok d) = true → v.chk (keyf (.l t)) (fun q => q == .c (.l t) j) = true → v.chk (fun q => notKey d q && keyf (.l t) q) (fun q => notTok d q && (q == .c (.l t) j)) = true := by
              intro v
              exact AV.rec (motive_1 := fun v => v.chk (notKey d) (notTok d) = true → v.chk (keyf (.l t)) (fun q => q == .c (.l t) j) = true → v.chk (fun q => notKey d q && keyf (.l t) q) (fun q => notTok d q && (q == .c (.l t) j)) = true)
                (motive_2 := fun l => AV.chks (notKey d) (notTok d) l = true → AV.chks (keyf (.l t)) (fun q => q == .c (.l t) j) l = true → AV.chks (fun q => notKey d q && keyf (.l t) q) (fun q => notTok d q && (q == .c (.l t) j)) l = true)
                (fun _ _ _ => rfl) (fun _ _ h h' => by simp only [AV.chk] at *; simp [h, h']) (fun _ _ _ => rfl) (fun _ _ h h' => by simp only [AV.chk] at *; simp [h, h']) (fun _ _ _ _ h h' => by simp only [AV.chk] at *; simp [h, h'])
                (fun _ _ _ => rfl) (fun _ h h' => by simp only [AV.chk] at *; simp [h, h']) (fun f a b iha ihb h h' => by simp only [AV.chk, Bool.and_eq_true] at *; exact ⟨iha h.1 h'.1, ihb h.2 h'.2⟩) (fun t v ih h h' => by simp only [AV.chk] at *; exact ih h h')
                (fun l ih h h' => by simp only [AV.chk] at *; exact ih h h') (fun l ih h h' => by simp only [AV.chk] at *; exact ih h h') (fun _ _ => rfl) (fun _ _ => rfl)
                (fun x l ihx ihl h h' => by simp only [AV.chks, Bool.and_eq_true] at *; exact ⟨ihx h.1 h'.1, ihl h.2 h'.2⟩) v
            exact both x h2 h3
      have hwf : WFS (σ.kill d) w := ⟨fun k k' b h1 h2 => hr.wf.inj _ _ _ (kill_blk h1).2 (kill_blk h2).2, fun k t b e l h1 h2 => hr.wf.injt _ _ _ _ _ (kill_blk h1).2 (kill_tok h2).2,
        fun t t' b e l e' l' h1 h2 => hr.wf.injtt _ _ _ _ _ _ _ (kill_tok h1).2 (kill_tok h2).2, fun k b h1 => hr.wf.lt _ _ (kill_blk h1).2, fun t b e l h1 => hr.wf.tokw _ _ _ _ (kill_tok h1).2, fun k b o h1 => hr.wf.blkI _ _ _ (kill_blk h1).2, hr.wf.imm⟩
      refine ⟨σ.kill d, ⟨hr.sz, hr.df, fun t x h => ?_, fun k blk h => ?_, fun k blk h => hr.cinv k blk (hlook h).2.1, fun id h => ?_, fun t h => ?_, hwf⟩, ?_⟩
      · have h := h
        simp only [get_map (fun v : AV => if v.sans d then v else .undef)] at h
        rw [Option.map_eq_some_iff] at h
        obtain ⟨v, hv, rfl⟩ := h
        obtain ⟨h1, h2⟩ := hr.vals _ _ hv
        refine ⟨h1, ?_⟩
        split
        · rename_i hs; exact h2.kill hs
        · exact .undef _
      · obtain ⟨h1, h2, h3⟩ := hlook h
        obtain ⟨b, q1, q2⟩ := hr.blks _ _ h2
        refine ⟨b, by simp [Sg.kill, h1, q1], ?_⟩
        cases blk with
        | cells cs =>
          obtain ⟨c, T, g1, g2, g3⟩ := q2
          exact ⟨c, T, g1, g2, fun j x hj => (g3 j x hj).kill (chk_imp (fun q hq => by simp at hq; exact hq.1) (fun t ht => by simp at ht; exact ht.1) _ (h3 cs rfl j x hj))⟩
        | map es cl =>
          obtain ⟨c, g1, g2, g3⟩ := q2
          cases k with
          | g id =>
            have hi := hr.cinv _ _ h2
            exact ⟨c, g1, g2, fun j k v n hj => ⟨(g3 j k v n hj).1, (g3 j k v n hj).2.1.kill (chk_imp (fun q hq => by cases q <;> simp_all [keyf, notKey]) (fun t ht => by simp at ht) _ (hi j _ hj)), (g3 j k v n hj).2.2⟩⟩
          | l t => simp [St.look] at h2
        | dead => trivial
        | iter m since seen c0 => obtain ⟨bm, z1, z2⟩ := q2; exact ⟨bm, by simp [Sg.kill, notKey, z1], z2⟩
      · simp only [Sg.kill, notKey, if_true]; exact hr.gfree id h
      · simp only [get_dropL] at h
        simp only [Sg.kill, notKey]
        split at h
        · rename_i e; subst e; simp
        · rename_i hne; simp [hne, hr.lfree t h]
      · refine ⟨fun _ _ _ h => h, fun _ _ _ h => .inl h, fun b hb => .inl ?_, fun id b h => by simp [Sg.kill, notKey, h], fun _ _ _ => rfl, Nat.le_refl _, rfl, rfl, rfl, rfl, fun _ => rfl⟩
        rcases hb with ⟨k, hb⟩ | ⟨t, e, l, hb⟩
        · exact .inl ⟨k, (kill_blk hb).2⟩
        · exact .inr ⟨t, e, l, (kill_tok hb).2⟩
    · exact ⟨σ, hr, .refl _ _⟩

theorem Does.kill {o : Oper} {d : Nat} {s' : St} (h : Does P nt (s.kill d) o s') : Does P nt s o s' := by
  intro σ a w hr
  obtain ⟨σ1, h1, p1⟩ := hr.kill d
  obtain ⟨x, w', σ', h2, h3, h4⟩ := h σ1 a w h1
  exact ⟨x, w', σ', h2, h3, p1.trans h4⟩
end
end Go.Abs

/-
  append to nothing: a new block of the heap, that may be written in place.
-/
set_option linter.unusedVariables false
namespace Go.Abs

def aappendF (P : Program) (s : St) (d : Nat) (sT xT : TypeId) (base x : AV) : Option St :=
  match P.underlying sT, P.underlying xT, base with
  | some (.slice e), some (.slice _), .own [] _ =>
    match rowsOf s (P.cellsOf e) x, (azero P e).bind AV.cellsOf with
    | some rows2, some z =>
      if P.cellsOf e ≠ 0 ∧ z.length = P.cellsOf e ∧ P.bytesOf e ≤ 32768 ∧ rows2.all (·.length == P.cellsOf e) ∧ rows2.length ≤ 2147483648 ∧ rows2.isEmpty = false then
        some { ts := (d, .ref (.g s.G.length) 0 rows2.length rows2.length) :: s.ts, L := s.L, G := s.G ++ [.cells (rows2.flatten.map .p)] } else none
    | _, _ => none
  | _, _, _ => none

section
variable {P : Program} {σ : Sg} {s : St} {nt : Nat} {a : Act} {w : World}

theorem aappendF_does {o : Oper} {sT xT : TypeId} {bx xx : Operand} {d : Nat} (ho : o.op = .call { callee := .builtin .append, args := #[bx, xx], argTypes := #[sT, xT] }) (hd : o.dst = some d) (hn : d < nt) {bv xv : AV}
    (hb : ev s bx = some bv) (hx : ev s xx = some xv) {s' : St} (h : aappendF P s d sT xT bv xv = some s') : Does P nt s o s' := by
  intro σ a w hr
  unfold aappendF at h
  split at h
  · rename_i e e2 k hu hxu
    split at h
    · rename_i rows2 z hrows hz
      split at h
      · rename_i hc
        obtain ⟨h0, hzl, hby, hs2, hbound, hne⟩ := hc
        simp only [Option.some.injEq] at h; subst h
        have hs2 := all_len hs2
        have hpos : 0 < rows2.length := by cases rows2 <;> simp_all
        rw [Option.bind_eq_some_iff] at hz
        obtain ⟨zv, hz1, hz2⟩ := hz
        have hbr := ev_rel hr hb
        have hxr := ev_rel hr hx
        generalize hbx : a.eval bx = bx' at hbr
        generalize hxx : a.eval xx = xx' at hxr
        obtain ⟨⟨xa, xlen, xcap, hxe, hxl⟩, new, hnr, hnew⟩ := rowsOf_cells (P := P) hr h0 hrows hs2 hxr
        cases hbr with | own hv hown =>
        rename_i ba len cap
        obtain ⟨hlen, hcap⟩ := cap_le hv
        have hlen0 : len = 0 := hlen
        have hcap0 : cap = 0 := by
          rcases hown with h | ⟨b, o, sz, l, _, _, _, h, _⟩
          · rw [h]; exact hlen0
          · exact absurd rfl h
        subst hlen0 hcap0
        have hlenOf : (Builtin.lenOf xx').run P w = .ok rows2.length w := by rw [hxe, hxl]; rfl
        have hfin : ∀ v w', (Builtin.append_ #[sT, xT] o.type #[.slice ba 0 0, xx']).run P w = .ok v w' → (execOp a.eval o).run P w = .ok (.value v) w' := by
          intro v w' h
          have : execOp a.eval o = (do pure (Next.value (← Builtin.append_ #[sT, xT] o.type ((#[bx, xx] : Array Operand).map a.eval))) : Sem Next) := by
            unfold execOp; rw [ho]; rfl
          rw [this, show (#[bx, xx] : Array Operand).map a.eval = #[.slice ba 0 0, xx'] by simp [hbx, hxx]]
          rw [Sem.run_bind, h]; rfl
        obtain ⟨zx, hzx, hzr⟩ := azero_run (σ := σ) (w := w.drew) hz1
        have hzs : zx.cells.size = P.cellsOf e := by rw [(ArrRel_of_cells hz2 hzr).1, hzl]
        obtain ⟨_, new, hnr, hnew⟩ := rowsOf_cells (P := P) hr.drew h0 hrows hs2 hxr
        obtain ⟨old, hor, hold⟩ := vec_cells (P := P) (rows := []) (sz := P.cellsOf e) hr.drew (by simp) hv
        have hold0 : old = #[] := by
          have := hold.1
          simpa using this
        subst hold0
        obtain ⟨i, hi⟩ : ∃ i, P.info? e = some i := by
          cases hi : P.info? e with
          | none => simp [Program.cellsOf, hi] at h0
          | some i => exact ⟨i, rfl⟩
        have hti : ∀ w, (typeInfo e).run P w = .ok i w := fun w => by simp [typeInfo, hi]
        have hib : i.bytes ≤ 32768 := by simpa [Program.bytesOf, hi] using hby
        let t := w.tape w.drawn (.appendCap rows2.length 0 e)
        have hcut : rows2.length ≤ (Question.appendCap rows2.length 0 e).cut t := Nat.le_add_right _ _
        generalize hnc : (Question.appendCap rows2.length 0 e).cut t = newCap at hcut
        let cs : Array Value := #[] ++ (new ++ Builtin.zeroCells zx.cells (newCap - rows2.length))
        have hnext : ¬ (281474976710656 < Builtin.nextslicecap rows2.length 0 * i.bytes) := by
          have h1 := nextcap_le rows2.length 0 (by omega)
          have h2 : Builtin.nextslicecap rows2.length 0 * i.bytes ≤ 4294967488 * 32768 := Nat.mul_le_mul (by omega) hib
          omega
        obtain ⟨f1, f2⟩ := cells_flat hs2 hnew
        have hkk := hr.drew.gfree s.G.length (Nat.le_refl _)
        have hB : RelB (σ.setBlk (.g s.G.length) w.drew.heap.size) (w.drew.alloc (.cells cs e)) w.drew.heap.size (.cells (rows2.flatten.map .p)) := by
          refine ⟨cs, e, heap_alloc_new _ _, by simp only [cs, List.length_map, ← f1, Array.size_append]; omega, fun j x hj => ?_⟩
          rw [List.getElem?_map, Option.map_eq_some_iff] at hj
          obtain ⟨v, hv, rfl⟩ := hj
          have hjl : j < new.size := by rw [f1]; exact (List.getElem?_eq_some_iff.1 hv).1
          have e1 : cs.getD j undef = new.getD j undef := by
            simp only [cs, Array.getD_eq_getD_getElem?]
            rw [Array.empty_append, Array.getElem?_append_left (by simpa using hjl)]
          rw [e1]
          exact .p (f2 j v hv)
        have hinv : BlkInv (.g s.G.length) (.cells (rows2.flatten.map .p)) := by
          intro j x hj
          rw [List.getElem?_map, Option.map_eq_some_iff] at hj
          obtain ⟨v, _, rfl⟩ := hj
          rfl
        obtain ⟨g1, g2⟩ := hr.drew.newG (o := .cells cs e) hB hinv
        refine ⟨.slice (some ⟨w.drew.heap.size, 0, none⟩) rows2.length newCap, _, _, .inl (hfin _ _ ?_), by
          rw [hd]
          exact g1.put (v := .ref (.g s.G.length) 0 rows2.length rows2.length) (.ref 0 _ _ _ (by simp [Sg.setBlk]) hcut) (dst := some d) (by simp [dstOk, hn]), (Post.drew _ _).trans g2⟩
        simp [Builtin.append_, run_underlying hu, run_sizeOf_ne h0, run_underlying hxu, hlenOf]
        have hne' : rows2 ≠ [] := by intro e; rw [e] at hpos; simp at hpos
        rw [if_neg (by first | exact hne' | omega), hti]
        simp only [Result.andThen_ok]
        rw [if_neg (by omega)]
        simp only [hti, Result.andThen_ok]
        rw [if_neg hnext]
        have hf : (Question.appendCap rows2.length 0 e).forced = false := rfl
        have hc2 : (Question.appendCap rows2.length 0 e).cut (w.tape w.drawn (Question.appendCap rows2.length 0 e)) = newCap := hnc
        rw [hf, hc2]
        simp only [Bool.false_eq_true, if_false, hti, Result.andThen_ok]
        have hor' : (Builtin.firstCells (P.cellsOf e) 0 (Value.slice ba 0 0)).run P w.drew = .ok #[] w.drew := hor
        simp only [hor', hnr, hzx, Result.andThen_ok, run_newRow]
        rfl
      · simp at h
    · simp at h
  · simp at h
end
end Go.Abs

/-
  Tokens that go from a slot to a cell and back: 'r.out = append(r.out, x)'.
-/
set_option linter.unusedVariables false
namespace Go.Abs

def tok2 (t1 t2 t : Tok) : Bool := t == t1 || t == t2

/-- The token t1 of a value becomes t2; other values lose both. -/
def rtokV (t1 t2 : Tok) : AV → AV
  | .own rows k => if k = t1 then .own rows t2 else if k = t2 then .p (.vec rows) else .own rows k
  | v => v.dis (tok2 t1 t2)

/-- The cell of which the token is no longer may append. -/
def St.plainC (s : St) : Tok → St
  | .c k off => match s.look k with
    | some (.cells cs) => match cs[off]? with
      | some x => s.setBlk k (cs.set off (x.dis (fun t => t == .c k off)))
      | none => s
    | _ => s
  | _ => s

/-- The token t1 becomes t2. -/
def St.rtok (t1 t2 : Tok) (s : St) : St := { ts := s.ts.map fun x => (x.1, rtokV t1 t2 x.2), L := ((s.plainC t1).plainC t2).L, G := ((s.plainC t1).plainC t2).G }

def Sg.rtok (t1 t2 : Tok) (σ : Sg) : Sg := { σ with tok := fun t => if t = t2 then σ.tok t1 else if t = t1 then none else σ.tok t }

section
variable {P : Program} {σ : Sg} {s : St} {nt : Nat} {a : Act} {w : World}

mutual
theorem chk_dis {f : Key → Bool} {g g' : Tok → Bool} : ∀ v : AV, v.chk f g = true → (v.dis g').chk f (fun t => g t && !g' t) = true
  | .own rows k, h => by
    simp only [AV.dis]
    split
    · rfl
    · rename_i hk; simp only [AV.chk] at h ⊢; simp [h, hk]
  | .fn g a b, h => by simp only [AV.dis, AV.chk, Bool.and_eq_true] at *; exact ⟨chks_dis a h.1, chks_dis b h.2⟩
  | .iface t v, h => by simp only [AV.dis, AV.chk] at *; exact chk_dis v h
  | .agg l, h => by simp only [AV.dis, AV.chk] at *; exact chks_dis l h
  | .tuple l, h => by simp only [AV.dis, AV.chk] at *; exact chks_dis l h
  | .p v, h => rfl
  | .full rows, h => rfl
  | .ptr k o, h => h
  | .ref k a b c, h => h
  | .rop r, h => rfl
  | .map id, h => h
  | .undef, h => rfl
theorem chks_dis {f : Key → Bool} {g g' : Tok → Bool} : ∀ l : List AV, AV.chks f g l = true → AV.chks f (fun t => g t && !g' t) (AV.diss g' l) = true
  | [], _ => rfl
  | x :: r, h => by simp only [AV.diss, AV.chks, Bool.and_eq_true] at *; exact ⟨chk_dis x h.1, chks_dis r h.2⟩
end

mutual
theorem chk_and {f f' : Key → Bool} {g g' : Tok → Bool} : ∀ v : AV, v.chk f g = true → v.chk f' g' = true → v.chk (fun k => f k && f' k) (fun t => g t && g' t) = true
  | .full rows, h, h' => rfl
  | .own rows k, h, h' => by simp only [AV.chk] at *; simp [h, h']
  | .fn q a b, h, h' => by simp only [AV.chk, Bool.and_eq_true] at *; exact ⟨chks_and a h.1 h'.1, chks_and b h.2 h'.2⟩
  | .iface t v, h, h' => by simp only [AV.chk] at *; exact chk_and v h h'
  | .agg l, h, h' => by simp only [AV.chk] at *; exact chks_and l h h'
  | .tuple l, h, h' => by simp only [AV.chk] at *; exact chks_and l h h'
  | .p v, h, h' => rfl
  | .ptr k o, h, h' => by simp only [AV.chk] at *; simp [h, h']
  | .ref k a b c, h, h' => by simp only [AV.chk] at *; simp [h, h']
  | .rop r, h, h' => rfl
  | .map id, h, h' => by simp only [AV.chk] at *; simp [h, h']
  | .undef, h, h' => rfl
theorem chks_and {f f' : Key → Bool} {g g' : Tok → Bool} : ∀ l : List AV, AV.chks f g l = true → AV.chks f' g' l = true → AV.chks (fun k => f k && f' k) (fun t => g t && g' t) l = true
  | [], _, _ => rfl
  | x :: r, h, h' => by simp only [AV.chks, Bool.and_eq_true] at *; exact ⟨chk_and x h.1 h'.1, chks_and r h.2 h'.2⟩
end

/-- A cell is told less of. -/
theorem RelS.lessCell (hr : RelS σ s nt a w) {k : Key} {cs : List AV} (hl : s.look k = some (.cells cs)) {off : Nat} {x y : AV} (hx : cs[off]? = some x) (hxy : ∀ z, Rel σ x z → Rel σ y z) (hc : y.chk (keyf k) (fun t => t == .c k off) = true) : RelS σ (s.setBlk k (cs.set off y)) nt a w := by
  refine ⟨hr.sz, hr.df, ?_, fun k' blk h => ?_, fun k' blk h => ?_, fun id h => ?_, fun t h => ?_, hr.wf⟩
  · cases k <;> exact hr.vals
  · by_cases hk : k' = k
    · subst hk
      rw [St.look_setBlk _ _ _ _ hl] at h
      simp only [Option.some.injEq] at h; subst h
      obtain ⟨b, hb, c, T, h1, h2, h3⟩ := hr.blks _ _ hl
      refine ⟨b, hb, c, T, h1, by simpa using h2, fun j z hj => ?_⟩
      rw [List.getElem?_set] at hj
      split at hj
      · rename_i e
        subst e
        split at hj
        · simp only [Option.some.injEq] at hj; subst hj; exact hxy _ (h3 _ _ hx)
        · simp at hj
      · exact h3 j z hj
    · rw [St.look_setBlk_ne _ _ _ _ hk] at h
      exact hr.blks _ _ h
  · by_cases hk : k' = k
    · subst hk
      rw [St.look_setBlk _ _ _ _ hl] at h
      simp only [Option.some.injEq] at h; subst h
      exact (hr.cinv _ _ hl).set hc
    · rw [St.look_setBlk_ne _ _ _ _ hk] at h
      exact hr.cinv _ _ h
  · cases k with
    | g id' => exact hr.gfree _ (by simpa [St.setBlk] using h)
    | l t => exact hr.gfree _ h
  · cases k with
    | g id' => exact hr.lfree _ h
    | l t' =>
      simp only [St.setBlk, get_upd] at h
      split at h
      · simp at h
      · exact hr.lfree _ h

theorem RelS.plainC (hr : RelS σ s nt a w) (t : Tok) : RelS σ (s.plainC t) nt a w := by
  unfold St.plainC
  split
  · rename_i k off
    split
    · rename_i cs hl
      split
      · rename_i x hx
        exact hr.lessCell hl hx (fun z h => h.dis _) (chk_imp (fun _ h => h) (fun t h => by simp at h) _ (chk_dis (g' := fun t => t == .c k off) x (hr.cinv _ _ hl off x hx)))
      · exact hr
    · exact hr
  · exact hr

/-- Which cells may name which tokens. -/
def noTok (t : Tok) (s : St) : Prop := ∀ (k : Key) (cs : List AV) (j : Nat) (x : AV), s.look k = some (.cells cs) → cs[j]? = some x → x.chk (fun _ => true) (fun t' => !(t' == t)) = true

theorem plainC_noTok (hr : RelS σ s nt a w) (t : Tok) : noTok t (s.plainC t) := by
  intro k cs j x hl hx
  have base : ∀ {cs0 : List AV} {x0 : AV}, s.look k = some (.cells cs0) → cs0[j]? = some x0 → t ≠ .c k j → x0.chk (fun _ => true) (fun t' => !(t' == t)) = true := fun h1 h2 hne =>
    chk_imp (fun _ _ => rfl) (fun t' h => by
      have : t' = .c k j := by simpa using h
      subst this
      have : (Tok.c k j == t) = false := by simpa using fun e => hne e.symm
      simp [this]) _ (hr.cinv _ _ h1 j _ h2)
  unfold St.plainC at hl
  split at hl
  · rename_i k' off
    split at hl
    · rename_i cs' hl'
      split at hl
      · rename_i y hy
        by_cases hk : k = k'
        · subst hk
          rw [St.look_setBlk _ _ _ _ hl'] at hl
          simp only [Option.some.injEq, Blk.cells.injEq] at hl; subst hl
          rw [List.getElem?_set] at hx
          split at hx
          · rename_i e
            subst e
            split at hx
            · simp only [Option.some.injEq] at hx; subst hx; exact AV.dis_chk _ y
            · simp at hx
          · rename_i e
            exact base hl' hx (fun e' => e (by cases e'; rfl))
        · rw [St.look_setBlk_ne _ _ _ _ hk] at hl
          exact base hl hx (fun e => hk (by cases e; rfl))
      · rename_i hn
        refine base hl hx (fun e => ?_)
        cases e
        rw [hl] at hl'
        simp only [Option.some.injEq, Blk.cells.injEq] at hl'; subst hl'
        rw [hx] at hn; simp at hn
    · rename_i hn
      refine base hl hx (fun e => ?_)
      cases e
      exact hn _ hl
  · rename_i hn
    exact base hl hx (fun e => hn _ _ e)

theorem noTok_plainC {t t' : Tok} (h : noTok t s) : noTok t (s.plainC t') := by
  intro k cs j x hl hx
  unfold St.plainC at hl
  split at hl
  · rename_i k' off
    split at hl
    · rename_i cs' hl'
      split at hl
      · rename_i y hy
        by_cases hk : k = k'
        · subst hk
          rw [St.look_setBlk _ _ _ _ hl'] at hl
          simp only [Option.some.injEq, Blk.cells.injEq] at hl; subst hl
          rw [List.getElem?_set] at hx
          split at hx
          · rename_i e
            subst e
            split at hx
            · simp only [Option.some.injEq] at hx; subst hx
              exact chk_imp (fun _ h => h) (fun t h => by simp only [Bool.and_eq_true] at h; exact h.1) _ (chk_dis (g' := fun t => t == .c k off) y (h k cs' off y hl' hy))
            · simp at hx
          · exact h k cs' j x hl' hx
        · rw [St.look_setBlk_ne _ _ _ _ hk] at hl
          exact h k cs j x hl hx
      · exact h k cs j x hl hx
    · exact h k cs j x hl hx
  · exact h k cs j x hl hx

theorem rtokV_rel {t1 t2 : Tok} (hne : t1 ≠ t2) (h2n : t2 ≠ .n) {v : AV} {x : Value} (h : Rel σ v x) : Rel (σ.rtok t1 t2) (rtokV t1 t2 v) x := by
  have other : Rel (σ.rtok t1 t2) (v.dis (tok2 t1 t2)) x :=
    Rel.keep (σ := σ) (σ' := σ.rtok t1 t2) (fun _ _ _ h => h) (fun _ _ _ h => h) (fun t y ht h => by
      simp only [tok2, Bool.not_eq_true', Bool.or_eq_false_iff, beq_eq_false_iff_ne] at ht
      simp [Sg.rtok, ht.1, ht.2, h]) (h.dis _) (AV.dis_chk _ v)
  cases v with
  | own rows k =>
    cases h with | own hv ho =>
    simp only [rtokV]
    split
    · rename_i e
      subst e
      refine .own hv (ho.imp id ?_)
      rintro ⟨b, o, sz, l, q0, q1, q2, q3, q4, q5⟩
      exact ⟨b, o, sz, l, h2n, q1, q2, q3, by simp [Sg.rtok, q4], q5⟩
    · rename_i e1
      split
      · exact .p hv
      · rename_i e2
        refine .own hv (ho.imp id ?_)
        rintro ⟨b, o, sz, l, q0, q1, q2, q3, q4, q5⟩
        exact ⟨b, o, sz, l, q0, q1, q2, q3, by simp [Sg.rtok, e1, e2, q4], q5⟩
  | _ => exact other

theorem rtok_tok {t1 t2 : Tok} (hne : t1 ≠ t2) {t : Tok} {x} (h : (σ.rtok t1 t2).tok t = some x) : ∃ t', σ.tok t' = some x ∧ t' ≠ t2 ∧ (t' = t1 ↔ t = t2) ∧ (t' ≠ t1 → t' = t) := by
  simp only [Sg.rtok] at h
  split at h
  · rename_i e; exact ⟨t1, h, hne, by simp [e], by simp⟩
  · rename_i e1
    split at h
    · simp at h
    · rename_i e2; exact ⟨t, h, e1, by simp [e1, e2], by simp⟩

/-- A token goes from one to the other. -/
theorem RelS.rtok (hr : RelS σ s nt a w) {t1 t2 : Tok} (hne : t1 ≠ t2) (h2n : t2 ≠ .n) : RelS (σ.rtok t1 t2) (s.rtok t1 t2) nt a w ∧ Post σ (σ.rtok t1 t2) w w := by
  -- cells first
  have hP := (hr.plainC t1).plainC t2
  have hN1 : noTok t1 ((s.plainC t1).plainC t2) := noTok_plainC (plainC_noTok hr t1)
  have hN2 : noTok t2 ((s.plainC t1).plainC t2) := plainC_noTok (hr.plainC t1) t2
  have hwf : WFS (σ.rtok t1 t2) w := by
    refine ⟨hr.wf.inj, fun k t b e l h1 h2 => ?_, fun t t' b e l e' l' h1 h2 => ?_, hr.wf.lt, fun t b e l h => ?_, hr.wf.blkI, hr.wf.imm⟩
    · obtain ⟨t', q, _⟩ := rtok_tok hne h2; exact hr.wf.injt _ _ _ _ _ h1 q
    · obtain ⟨u, q1, q2, q3, q4⟩ := rtok_tok hne h1
      obtain ⟨u', r1, r2, r3, r4⟩ := rtok_tok hne h2
      have := hr.wf.injtt _ _ _ _ _ _ _ q1 r1
      subst this
      by_cases hu : u = t1
      · rw [q3.1 hu, r3.1 hu]
      · rw [← q4 hu, ← r4 hu]
    · obtain ⟨t', q, _⟩ := rtok_tok hne h; exact hr.wf.tokw _ _ _ _ q
  refine ⟨?_, ⟨fun _ _ _ h => h, fun _ _ _ h => .inl h, fun b hb => ?_, fun _ _ h => h, fun _ _ _ => rfl, Nat.le_refl _, rfl, rfl, rfl, rfl, fun _ => rfl⟩⟩
  · refine ⟨hr.sz, hr.df, fun t x h => ?_, fun k blk h => ?_, fun k blk h => ?_, hP.gfree, hP.lfree, hwf⟩
    · simp only [St.rtok, get_map, Option.map_eq_some_iff] at h
      obtain ⟨v, hv, rfl⟩ := h
      obtain ⟨h1, h2⟩ := hr.vals _ _ hv
      exact ⟨h1, rtokV_rel hne h2n h2⟩
    · have h : ((s.plainC t1).plainC t2).look k = some blk := by cases k <;> exact h
      obtain ⟨b, h1, h2⟩ := hP.blks k blk h
      refine ⟨b, h1, ?_⟩
      have keep : ∀ {v : AV} {x : Value}, Rel σ v x → v.chk (fun _ => true) (fun t => !(t == t1)) = true → v.chk (fun _ => true) (fun t => !(t == t2)) = true → Rel (σ.rtok t1 t2) v x := fun h q1 q2 =>
        Rel.keep (σ := σ) (σ' := σ.rtok t1 t2) (f := fun _ => true) (g := fun t => !(t == t1) && !(t == t2)) (fun _ _ _ h => h) (fun _ _ _ h => h) (fun t y ht h => by
          simp only [Bool.and_eq_true, Bool.not_eq_true', beq_eq_false_iff_ne] at ht
          simp [Sg.rtok, ht.1, ht.2, h]) h (chk_imp (fun _ h => rfl) (fun t h => h) _ (chk_and _ q1 q2))
      cases blk with
      | cells cs =>
        obtain ⟨c, T, g1, g2, g3⟩ := h2
        exact ⟨c, T, g1, g2, fun j x hj => keep (g3 j x hj) (hN1 k cs j x h hj) (hN2 k cs j x h hj)⟩
      | map es n =>
        obtain ⟨c, g1, g2, g3⟩ := h2
        have hi := hP.cinv k _ h
        refine ⟨c, g1, g2, fun j q v n hj => ⟨(g3 j q v n hj).1, ?_, (g3 j q v n hj).2.2⟩⟩
        have hv : v.chk (keyf k) (fun _ => false) = true := hi j _ hj
        exact keep (g3 j q v n hj).2.1 (chk_imp (fun _ _ => rfl) (fun t h => by simp at h) _ hv) (chk_imp (fun _ _ => rfl) (fun t h => by simp at h) _ hv)
      | dead => trivial
      | iter m since seen c0 => exact h2
    · exact hP.cinv k blk (by cases k <;> exact h)
  · rcases hb with ⟨k, hb⟩ | ⟨t, e, l, hb⟩
    · exact .inl (.inl ⟨k, hb⟩)
    · obtain ⟨t', q, _⟩ := rtok_tok hne hb; exact .inl (.inr ⟨t', e, l, q⟩)
end
end Go.Abs
namespace Go.Abs

/-- What is stored may be appended to from the cell. -/
def astoreT (P : Program) (s : St) (t : TypeId) (x : Operand) (xv vv : AV) : Option St :=
  match xv, vv with
  | .ptr k off, .own rows (.s u) => if P.cellsOf t = 1 then match (s.rtok (.s u) (.c k off)).look k, ev (s.rtok (.s u) (.c k off)) x with
      | some (.cells cs), some (.ptr k' off') => if off < cs.length ∧ k' = k ∧ off' = off then some ((s.rtok (.s u) (.c k off)).setBlk k (cs.set off (.own rows (.c k off)))) else none
      | _, _ => none
    else none
  | _, _ => astore P s t xv vv

/-- An append to what a cell may append to. -/
def aappendT (P : Program) (s : St) (d : Nat) (sT xT : TypeId) (bv : AV) (x : Operand) : Option St :=
  match bv with
  | .own rows (.c k off) => match ev (s.rtok (.c k off) (.s d)) x with
    | some xv => match aappend P (s.rtok (.c k off) (.s d)) sT xT (.own rows (.s d)) xv with
      | some r => some (((s.rtok (.c k off) (.s d)).dis (appendTok d r.2)).put (some d) (.own r.1 (.s d)))
      | none => none
    | none => none
  | _ => none

section
variable {P : Program} {σ : Sg} {s : St} {nt : Nat} {a : Act} {w : World}

theorem ev_rtok {t1 t2 : Tok} {x : Operand} {rows : List (List PV)} (h : ev s x = some (.own rows t1)) (h1 : t1 ≠ .n) : ev (s.rtok t1 t2) x = some (.own rows t2) := by
  cases x with
  | tmp t =>
    simp only [ev] at h ⊢
    show get (s.ts.map fun x => (x.1, rtokV t1 t2 x.2)) t = _
    rw [get_map, h]
    simp [rtokV]
  | const v =>
    simp only [ev] at h
    unfold cv at h
    split at h <;> first | (simp at h; done) | skip
    all_goals (simp at h; try exact absurd h.2.symm h1)
  | func f => simp [ev] at h
  | global g => simp [ev] at h

theorem astoreT_does {o : Oper} {t : TypeId} {x v : Operand} (ho : o.op = .store t x v) (hd : o.dst = none) {xv vv : AV} (hx : ev s x = some xv) (hv : ev s v = some vv) {s' : St}
    (h : astoreT P s t x xv vv = some s') : Does P nt s o s' := by
  unfold astoreT at h
  split at h
  · rename_i k off rows u
    split at h
    · rename_i hsz
      split at h
      · rename_i cs k' off' hl hx'
        split at h
        · rename_i hc
          obtain ⟨hc, rfl, rfl⟩ := hc
          simp only [Option.some.injEq] at h; subst h
          intro σ a w hr
          obtain ⟨h1, p1⟩ := hr.rtok (t1 := .s u) (t2 := .c k' off') (by simp) (by simp)
          have hv1 := ev_rtok (t2 := .c k' off') hv (by simp)
          have hxr := ev_rel h1 hx'
          have hvr := ev_rel h1 hv1
          generalize hy : a.eval x = y at hxr
          cases hxr with | ptr _ hb =>
          rename_i b
          obtain ⟨b', hb', ⟨q, hq⟩, hfz, h2, p2⟩ := h1.storeT hl hc hvr (by simp [AV.chk])
          rw [hb] at hb'; cases hb'
          refine ⟨undef, _, _, .inr ⟨?_, rfl⟩, by rw [hd]; simpa [Act.put] using h2, p1.trans p2⟩
          have hone : (a.eval v).cells.size = 1 := by
            generalize a.eval v = z at hvr
            cases hvr; rfl
          have hcel : (a.eval v).cells = #[a.eval v] := by
            generalize a.eval v = z at hvr
            cases hvr; rfl
          unfold execOp
          rw [ho]
          have hne : P.cellsOf t ≠ 0 := by omega
          simp only [hy, Instr.storeAt, Instr.sureAddr, storeVar, Sem.run_bind, Sem.run_pure, Result.andThen_ok, run_sizeOf_ne hne, hone]
          rw [hcel]
          have hst : (storeCells ⟨b, off', none⟩ [a.eval v] 0).run P w = .ok () (w.setCell ⟨b, off', none⟩ (a.eval v)) := by
            have h1c : (a.eval v).oneCell' = true := by
              generalize a.eval v = z at hvr
              cases hvr; rfl
            rw [storeCells, Sem.run_bind, add_none, run_store _ _ _ _ _ h1c]
            simp only [Nat.add_zero, hq, hfz, Bool.false_eq_true, if_false, Result.andThen_ok]
            rfl
          simp [hsz, hst]
        · cases h
      · cases h
    · cases h
  · exact astore_does ho hd hx hv h

theorem aappendT_does {o : Oper} {sT xT : TypeId} {bx xx : Operand} {d : Nat} (ho : o.op = .call { callee := .builtin .append, args := #[bx, xx], argTypes := #[sT, xT] }) (hd : o.dst = some d) (hn : d < nt) {bv : AV}
    (hb : ev s bx = some bv) {s' : St} (h : aappendT P s d sT xT bv xx = some s') : Does P nt s o s' := by
  unfold aappendT at h
  split at h
  · rename_i rows k off
    split at h
    · rename_i xv hx
      split at h
      · rename_i r hr'
        simp only [Option.some.injEq] at h; subst h
        intro σ a w hr
        obtain ⟨h1, p1⟩ := hr.rtok (t1 := .c k off) (t2 := .s d) (by simp) (by simp)
        obtain ⟨y, w', σ', q1, q2, q3⟩ := aappend_does ho hd hn (ev_rtok (t2 := .s d) hb (by simp)) hx hr' _ a w h1
        exact ⟨y, w', σ', q1, q2, p1.trans q3⟩
      · cases h
    · cases h
  · cases h
end
end Go.Abs

/-
  Contracts of functions over the abstract state; a call by its contract.
-/
set_option linter.unusedVariables false
namespace Go.Abs

inductive AEnd where
  | ret (v : AV)
  | panic (v : AV)

/-- Data, or places of the heap alone; nobody's to append to. -/
def AV.free (v : AV) : Bool := v.chk (keyf (.g 0)) (fun _ => false)

inductive RelR (σ : Sg) : AEnd → Ending → Prop where
  | ret {v : AV} {x : Value} (h : Rel σ v x) (hv : v.free = true) : RelR σ (.ret v) (.returned x)
  | panic {v : AV} {x : Value} (h : Rel σ v x) (hv : v.free = true) : RelR σ (.panic v) (.panicked [{ v := x, recovered := false }])

def zipTs : Nat → List AV → TS
  | _, [] => []
  | i, v :: r => (i, v) :: zipTs (i + 1) r

def St.args (args : List AV) (G : List Blk) : St := { ts := zipTs 0 args, L := [], G := G }

/-- What is known of a call: its arguments are data or places of the heap G. -/
def ACalls (P : Program) (f : FuncId) (args : List AV) (G : List Blk) (R : AEnd → List Blk → Prop) : Prop :=
  (∀ args' w, (callFunc f args').run P w = .ok (.enter f args') w) ∧
  ∀ σ args' w, RelS σ (.args args G) args.length { tmps := args', defers := [] } w → (∀ k b, σ.blk k = some b → ∃ id, k = .g id) → (∀ t x, σ.tok t = some x → isCG t = true) →
    Calls P f args' w fun e w' => ∃ r G' σ', RelR σ' r e ∧ RelS σ' (.args [] G') 0 { tmps := #[], defers := [] } w' ∧ (∀ k b, σ'.blk k = some b → ∃ id, k = .g id) ∧ (∀ t x, σ'.tok t = some x → isCG t = true) ∧ Post σ σ' w w' ∧ R r G'

theorem ACalls.mono {P : Program} {f : FuncId} {args : List AV} {G : List Blk} {R R' : AEnd → List Blk → Prop} (h : ACalls P f args G R) (hR : ∀ r G', R r G' → R' r G') : ACalls P f args G R' :=
  ⟨h.1, fun σ args' w h1 h2 h3 => (h.2 σ args' w h1 h2 h3).mono fun e w' ⟨r, G', σ', q1, q2, q3, q4, q5, q6⟩ => ⟨r, G', σ', q1, q2, q3, q4, q5, hR _ _ q6⟩⟩

theorem get_zipTs : ∀ (args : List AV) (i t : Nat), get (zipTs i args) t = if i ≤ t then args[t - i]? else none
  | [], i, t => by simp [zipTs, get]
  | v :: r, i, t => by
    simp only [zipTs, get]
    split
    · rename_i e; subst e; simp
    · rename_i e
      rw [get_zipTs r (i + 1) t]
      split
      · rename_i h; rw [if_pos (by omega), show t - i = (t - (i + 1)) + 1 by omega]; simp
      · rename_i h
        by_cases h2 : i ≤ t
        · omega
        · rw [if_neg h2]

/-- What a callee sees of the state. -/
def Sg.heap (σ : Sg) : Sg where
  I := σ.I
  blk := fun k => match k with | .g id => σ.blk (.g id) | .l _ => none
  tok := fun t => if isCG t then σ.tok t else none

/-- Behind a call: the heap as the callee left it, the frame's own as it was. -/
def Sg.join (σ σ' : Sg) : Sg where
  I := σ'.I
  blk := fun k => match k with | .g id => σ'.blk (.g id) | .l t => σ.blk (.l t)
  tok := fun t => if isCG t then σ'.tok t else σ.tok t
  D := σ.D

section
variable {P : Program} {σ σ' : Sg} {s : St} {nt : Nat} {a : Act} {w w' : World}

theorem heap_owns {b : Nat} (h : σ.heap.Owns b) : σ.Owns b := by
  rcases h with ⟨k, h⟩ | ⟨t, e, l, h⟩
  · cases k with
    | g id => exact .inl ⟨_, h⟩
    | l t => simp [Sg.heap] at h
  · simp only [Sg.heap] at h
    split at h
    · exact .inr ⟨t, e, l, h⟩
    · simp at h

theorem WFS.heap (h : WFS σ w) : WFS σ.heap w := by
  have hb : ∀ k b, σ.heap.blk k = some b → σ.blk k = some b := fun k b h => by cases k <;> simp_all [Sg.heap]
  have ht : ∀ t x, σ.heap.tok t = some x → σ.tok t = some x := fun t x h => by
    simp only [Sg.heap] at h; split at h; exact h; simp at h
  exact ⟨fun k k' b h1 h2 => h.inj _ _ _ (hb _ _ h1) (hb _ _ h2), fun k t b e l h1 h2 => h.injt _ _ _ _ _ (hb _ _ h1) (ht _ _ h2),
    fun t t' b e l e' l' h1 h2 => h.injtt _ _ _ _ _ _ _ (ht _ _ h1) (ht _ _ h2), fun k b h1 => h.lt _ _ (hb _ _ h1), fun t b e l h1 => h.tokw _ _ _ _ (ht _ _ h1), fun k b o h1 => h.blkI _ _ _ (hb _ _ h1), h.imm⟩

theorem Rel.heap {v : AV} {x : Value} {k : Key} {g : Tok → Bool} (h : Rel σ v x) (hv : v.chk (keyf (.g 0)) g = true) (hg : ∀ t, g t = true → isCG t = true) : Rel σ.heap v x :=
  Rel.keep (σ := σ) (σ' := σ.heap) (fun _ _ _ h => h) (fun k b hk hb => by cases k <;> simp_all [Sg.heap, keyf]) (fun t x ht h => by simp [Sg.heap, hg t ht, h]) h hv

theorem keyf_g (a b : Nat) : keyf (.g a) = keyf (.g b) := by funext k; cases k <;> rfl

theorem RelB.heap {b id : Nat} {blk : Blk} (hi : BlkInv (.g id) blk) (h : RelB σ w b blk) : RelB σ.heap w b blk := by
  cases blk with
  | cells cs =>
    obtain ⟨c, T, h1, h2, h3⟩ := h
    exact ⟨c, T, h1, h2, fun j x hj => (h3 j x hj).heap (k := .g 0) (by rw [keyf_g 0 id]; exact hi j x hj) (fun t ht => by
      have : t = .c (.g id) j := by simpa using ht
      rw [this]; rfl)⟩
  | map es cl =>
    obtain ⟨c, h1, h2, h3⟩ := h
    exact ⟨c, h1, h2, fun j k v n hj => ⟨(h3 j k v n hj).1, (h3 j k v n hj).2.1.heap (k := .g 0) (by rw [keyf_g 0 id]; exact hi j _ hj) (fun t ht => by simp at ht), (h3 j k v n hj).2.2⟩⟩
  | dead => trivial
  | iter m since seen c0 => obtain ⟨bm, h1, h2⟩ := h; exact ⟨bm, h1, h2⟩

/-- Into a call. -/
theorem RelS.callee (hr : RelS σ s nt a w) {args : List AV} {args' : Array Value} (h1 : args'.size = args.length) (h2 : ∀ (i : Nat) (v : AV), args[i]? = some v → Rel σ v (args'.getD i undef)) (h3 : args.all AV.free = true) :
    RelS σ.heap (.args args s.G) args.length { tmps := args', defers := [] } w := by
  refine ⟨h1, rfl, fun t x h => ?_, fun k blk h => ?_, fun k blk h => ?_, fun id h => hr.gfree id h, fun t h => rfl, hr.wf.heap⟩
  · simp only [St.args, get_zipTs, Nat.zero_le, if_true, Nat.sub_zero] at h
    refine ⟨(List.getElem?_eq_some_iff.1 h).1, (h2 t x h).heap (k := .g 0) (List.all_eq_true.1 h3 x (List.mem_of_getElem? h)) (fun t ht => by simp at ht)⟩
  · cases k with
    | g id =>
      have h : s.G[id]? = some blk := h
      obtain ⟨b, q1, q2⟩ := hr.blks (.g id) blk h
      exact ⟨b, q1, q2.heap (hr.cinv (.g id) _ h)⟩
    | l t => simp [St.look, St.args, get] at h
  · cases k with
    | g id => exact hr.cinv (.g id) _ h
    | l t => simp [St.look, St.args, get] at h

/-- And back. -/
theorem RelS.back (hr : RelS σ s nt a w) {G' : List Blk} (hs : RelS σ' (.args [] G') 0 { tmps := #[], defers := [] } w') (hk : ∀ k b, σ'.blk k = some b → ∃ id, k = .g id) (ht : ∀ t x, σ'.tok t = some x → isCG t = true)
    (hp : Post σ.heap σ' w w') : RelS (σ.join σ') ({ s with G := G' }.dis isC) nt a w' ∧ Post σ (σ.join σ') w w' := by
  have notown : ∀ b, (∃ t, σ.blk (.l t) = some b) ∨ (∃ t e l, isCG t = false ∧ σ.tok t = some (b, e, l)) → ¬ σ.heap.Owns b ∧ b < w.heap.size := by
    rintro b (⟨t, h⟩ | ⟨t, e, l, h1, h⟩)
    · refine ⟨?_, hr.wf.lt _ _ h⟩
      rintro (⟨k, h'⟩ | ⟨t', e', l', h'⟩)
      · cases k with
        | g id => have := hr.wf.inj _ _ _ h h'; simp at this
        | l t => simp [Sg.heap] at h'
      · simp only [Sg.heap] at h'
        split at h'
        · exact hr.wf.injt _ _ _ _ _ h h'
        · simp at h'
    · obtain ⟨⟨c, T, h3, _⟩, _⟩ := hr.wf.tokw _ _ _ _ h
      refine ⟨?_, (Array.getElem?_eq_some_iff.1 h3).1⟩
      rintro (⟨k, h'⟩ | ⟨t', e', l', h'⟩)
      · cases k with
        | g id => exact hr.wf.injt _ _ _ _ _ h' h
        | l t => simp [Sg.heap] at h'
      · simp only [Sg.heap] at h'
        split at h'
        · rename_i h2
          have := hr.wf.injtt _ _ _ _ _ _ _ h h'
          rw [this, h2] at h1; simp at h1
        · simp at h'
  have own' : ∀ b, σ'.Owns b → σ.heap.Owns b ∨ w.heap.size ≤ b := hp.own
  have I0 : ∀ b o, ¬ σ.heap.Owns b → b < w.heap.size → σ.I b o = none → σ'.I b o = none := by
    intro b o h1 h2 h3
    cases e : σ'.I b o with
    | none => rfl
    | some v =>
      rcases hp.In _ _ _ e with e1 | e1 | e1
      · rw [show σ.heap.I = σ.I from rfl, h3] at e1; simp at e1
      · exact absurd e1 h1
      · omega
  have hI : ∀ b o v, σ.I b o = some v → (σ.join σ').I b o = some v := hp.I
  have hwf : WFS (σ.join σ') w' := by
    refine ⟨fun k1 k2 b e1 e2 => ?_, fun k t b e l e1 e2 => ?_, fun t1 t2 b e l e' l' e1 e2 => ?_, fun k b e1 => ?_, fun t b e l e1 => ?_, fun k b o e1 => ?_, hs.wf.imm⟩
    · cases k1 with
      | g i1 =>
        cases k2 with
        | g i2 => exact hs.wf.inj _ _ _ e1 e2
        | l t2 =>
          exfalso
          have := notown b (.inl ⟨t2, e2⟩)
          rcases own' b (.inl ⟨_, e1⟩) with h | h
          · exact this.1 h
          · omega
      | l t1 =>
        cases k2 with
        | g i2 =>
          exfalso
          have := notown b (.inl ⟨t1, e1⟩)
          rcases own' b (.inl ⟨_, e2⟩) with h | h
          · exact this.1 h
          · omega
        | l t2 => exact hr.wf.inj _ _ _ e1 e2
    · simp only [Sg.join] at e2
      split at e2
      · cases k with
        | g id => exact hs.wf.injt _ _ _ _ _ e1 e2
        | l t' =>
          have := notown b (.inl ⟨t', e1⟩)
          rcases own' b (.inr ⟨_, _, _, e2⟩) with h | h
          · exact this.1 h
          · omega
      · rename_i hc
        have := notown b (.inr ⟨t, e, l, by simpa using hc, e2⟩)
        cases k with
        | g id =>
          rcases own' b (.inl ⟨_, e1⟩) with h | h
          · exact this.1 h
          · omega
        | l t' => exact hr.wf.injt _ _ _ _ _ e1 e2
    · simp only [Sg.join] at e1 e2
      split at e1
      · split at e2
        · exact hs.wf.injtt _ _ _ _ _ _ _ e1 e2
        · rename_i hc
          exfalso
          have := notown b (.inr ⟨_, _, _, by simpa using hc, e2⟩)
          rcases own' b (.inr ⟨_, _, _, e1⟩) with h | h
          · exact this.1 h
          · omega
      · rename_i hc
        split at e2
        · exfalso
          have := notown b (.inr ⟨_, _, _, by simpa using hc, e1⟩)
          rcases own' b (.inr ⟨_, _, _, e2⟩) with h | h
          · exact this.1 h
          · omega
        · exact hr.wf.injtt _ _ _ _ _ _ _ e1 e2
    · cases k with
      | g id => exact hs.wf.lt _ _ e1
      | l t => exact Nat.lt_of_lt_of_le (hr.wf.lt _ _ e1) hp.size
    · simp only [Sg.join] at e1
      split at e1
      · exact hs.wf.tokw _ _ _ _ e1
      · rename_i hc
        have hno := notown b (.inr ⟨t, e, l, by simpa using hc, e1⟩)
        obtain ⟨⟨c, T, h3, h4⟩, h5⟩ := hr.wf.tokw _ _ _ _ e1
        exact ⟨⟨c, T, by rw [hp.frame _ hno.2 hno.1]; exact h3, h4⟩, fun o ho => I0 _ _ hno.1 hno.2 (h5 o ho)⟩
    · cases k with
      | g id => exact hs.wf.blkI _ _ _ e1
      | l t =>
        have hno := notown b (.inl ⟨t, e1⟩)
        exact I0 _ _ hno.1 hno.2 (hr.wf.blkI _ _ _ e1)
  refine ⟨⟨hr.sz, hr.df, fun t x h => ?_, fun k blk h => ?_, fun k blk h => ?_, fun id h => hs.gfree id h, fun t h => hr.lfree t h, hwf⟩, ?_⟩
  · simp only [St.dis, get_map, Option.map_eq_some_iff] at h
    obtain ⟨v, hv, rfl⟩ := h
    obtain ⟨h1, h2⟩ := hr.vals _ _ hv
    refine ⟨h1, (h2.dis isC).keep hI (fun k b _ h => ?_) (fun t x h1 h2 => ?_) (AV.dis_chk isC v)⟩
    · cases k with
      | g id => exact hp.keys _ _ h
      | l t => exact h
    · have : isCG t = false := by cases t <;> simp_all [isC, isCG]
      simp [Sg.join, this, h2]
  · rw [St.look_dis] at h
    cases k with
    | g id =>
      have h : G'[id]? = some blk := h
      obtain ⟨b, q1, q2⟩ := hs.blks (.g id) blk h
      have hi := hs.cinv (.g id) blk h
      refine ⟨b, q1, ?_⟩
      cases blk with
      | cells cs =>
        obtain ⟨c, T, g1, g2, g3⟩ := q2
        exact ⟨c, T, g1, g2, fun j x hj => Rel.keep (σ := σ') (σ' := σ.join σ') (fun _ _ _ h => h) (fun k b hk hb => by cases k <;> simp_all [Sg.join, keyf]) (fun t x ht h => by
          have : t = .c (.g id) j := by simpa using ht
          subst this; simpa [Sg.join, isCG] using h) (g3 j x hj) (hi j x hj)⟩
      | map es cl =>
        obtain ⟨c, g1, g2, g3⟩ := q2
        exact ⟨c, g1, g2, fun j k v n hj => ⟨(g3 j k v n hj).1.mono (fun _ _ _ h => h), Rel.keep (σ := σ') (σ' := σ.join σ') (fun _ _ _ h => h) (fun k b hk hb => by cases k <;> simp_all [Sg.join, keyf]) (fun t x ht h => by simp at ht) (g3 j k v n hj).2.1 (hi j _ hj), (g3 j k v n hj).2.2⟩⟩
      | dead => trivial
      | iter m since seen c0 => obtain ⟨bm, h1, h2⟩ := q2; exact ⟨bm, h1, h2⟩
    | l t =>
      obtain ⟨b, q1, q2⟩ := hr.blks (.l t) blk h
      have hno := notown b (.inl ⟨t, q1⟩)
      refine ⟨b, q1, q2.turn (k := .l t) hI (fun k b h => ?_) (fun o x h => by simpa [Sg.join, isCG] using h) (hr.cinv (.l t) blk h) (fun _ => hp.frame _ hno.2 hno.1)⟩
      cases k with
      | g id => exact hp.keys _ _ h
      | l t => exact h
  · rw [St.look_dis] at h
    cases k with
    | g id => exact hs.cinv (.g id) blk h
    | l t => exact hr.cinv (.l t) blk h
  · refine ⟨hI, fun b o v e => ?_, fun b hb => ?_, fun id b e => hp.keys _ _ e, fun b hb hn => hp.frame b hb (fun h => hn (heap_owns h)), hp.size, hp.os, hp.tape, hp.output, rfl, hp.fz⟩
    · rcases hp.In _ _ _ e with e1 | e1 | e1
      · exact .inl e1
      · exact .inr (.inl (heap_owns e1))
      · exact .inr (.inr e1)
    · rcases hb with ⟨k, hb⟩ | ⟨t, e, l, hb⟩
      · cases k with
        | g id =>
          rcases own' b (.inl ⟨_, hb⟩) with h | h
          · exact .inl (heap_owns h)
          · exact .inr h
        | l t => exact .inl (.inl ⟨_, hb⟩)
      · simp only [Sg.join] at hb
        split at hb
        · rcases own' b (.inr ⟨_, _, _, hb⟩) with h | h
          · exact .inl (heap_owns h)
          · exact .inr h
        · exact .inl (.inr ⟨_, _, _, hb⟩)
end
end Go.Abs

/-
  What is to be shown of a function's text, reckoned off the text.
-/
set_option linter.unusedVariables false
namespace Go.Abs

structure Cfg where
  nt : Nat
  heap : List Nat := []
  sym : Bool := false
  keep : Nat → Option Bool := fun _ => none
  told : Nat → Option Bool := fun _ => none

inductive Eff where
  | st (s : St)
  | call (f : FuncId) (args : List AV)
  | pan (v : AV)
  | bad

def Eff.of (nt : Nat) (s : St) (dst : Option Nat) : Option AV → Eff
  | some v => if dstOk nt dst then .st (s.put dst v) else .bad
  | none => .bad

def Eff.ofSt : Option St → Eff
  | some s => .st s
  | none => .bad

def sameOp : Operand → Operand → Bool
  | .tmp i, .tmp j => i == j
  | .const (.int _ n), .const (.int _ m) => n == m
  | _, _ => false

theorem sameOp_ev {s : St} {x y : Operand} (h : sameOp x y = true) {k : IntKind} {n : Int} (hx : ev s x = some (.p (.int k n))) : ∃ k', ev s y = some (.p (.int k' n)) := by
  unfold sameOp at h
  split at h
  · simp only [beq_iff_eq] at h; subst h; exact ⟨k, hx⟩
  · simp only [beq_iff_eq] at h; subst h
    simp only [ev, cv, Option.some.injEq, AV.p.injEq, PV.int.injEq] at hx
    obtain ⟨_, rfl⟩ := hx
    exact ⟨_, rfl⟩
  · simp at h

/-- 'x == nil', of a slice that has elements. -/
def anilcmp (P : Program) (s : St) (o : Oper) : Option AV :=
  match o.op with
  | .binOp op t x (.const (.slice none 0 0)) _ => match P.underlying t, ev s x, op with
    | some (.slice _), some (.p (.vec (_ :: _))), .eql => some (.p (.bool false))
    | some (.slice _), some (.p (.vec (_ :: _))), .neq => some (.p (.bool true))
    | _, _, _ => none
  | _ => none

def avalN (P : Program) (s : St) (o : Oper) : Option AV :=
  match anilcmp P s o with
  | some v => some v
  | none => aval P s o

theorem equal_nil {P : Program} {t e : TypeId} (h : P.underlying t = some (.slice e)) (a : Addr) (n k : Nat) (w : World) : (Op.equal t (.slice (some a) n k) (.slice none 0 0)).run P w = .ok false w := by
  show (Op.equalIn (9999 + 1) t (.slice (some a) n k) (.slice none 0 0)).run P w = _
  rw [Op.equalIn, Sem.run_bind, run_underlying h]
  rfl

theorem avalN_run {P : Program} {σ : Sg} {s : St} {nt : Nat} {a : Act} {w : World} (hr : RelS σ s nt a w) {o : Oper} {v : AV} (h : avalN P s o = some v) : ∃ x, (execOp a.eval o).run P w = .ok (.value x) w ∧ Rel σ v x := by
  unfold avalN at h
  split at h
  · rename_i v' hv
    simp only [Option.some.injEq] at h; subst h
    unfold anilcmp at hv
    split at hv
    · rename_i op t x y hop
      have key : ∀ e r rs, P.underlying t = some (.slice e) → ev s x = some (.p (.vec (r :: rs))) → ∃ ad n k, a.eval x = .slice (some ad) n k := by
        intro e r rs hu hx
        have hxr := ev_rel hr hx
        generalize a.eval x = z at hxr
        cases hxr with | p hxr => cases hxr with | vec => exact ⟨_, _, _, rfl⟩
      have hc : a.eval (.const (.slice none 0 0)) = .slice none 0 0 := rfl
      split at hv
      · rename_i e r rs hu hx
        simp only [Option.some.injEq] at hv; subst hv
        obtain ⟨ad, n, k, he⟩ := key _ _ _ hu hx
        refine ⟨.bool false, ?_, .p (.bool _)⟩
        unfold execOp; rw [hop]
        refine lift_val ?_
        rw [he, hc, Sem.run_bind, eqGuard_pure w (by simp)]
        simp only [Result.andThen_ok]
        show (do pure (Value.bool (← Op.equal t _ _))).run P w = _
        rw [Sem.run_bind, equal_nil hu]; rfl
      · rename_i e r rs hu hx
        simp only [Option.some.injEq] at hv; subst hv
        obtain ⟨ad, n, k, he⟩ := key _ _ _ hu hx
        refine ⟨.bool true, ?_, .p (.bool _)⟩
        unfold execOp; rw [hop]
        refine lift_val ?_
        rw [he, hc, Sem.run_bind, eqGuard_pure w (by simp)]
        simp only [Result.andThen_ok]
        show (do pure (Value.bool (!(← Op.equal t _ _)))).run P w = _
        rw [Sem.run_bind, equal_nil hu]; rfl
      · simp at hv
    · simp at hv
  · exact aval_run hr h

def eff (P : Program) (c : Cfg) (s : St) (o : Oper) : Eff :=
  match o.op with
  | .assign x => match ev s x, o.dst with
    | some (.own rows k), some d => if isC k = false ∧ d < c.nt then .st ((s.dis (appendTok d k)).put (some d) (.own rows (.s d))) else if d < c.nt then .st (s.put (some d) (.p (.vec rows))) else .bad
    | some v, dst => Eff.of c.nt s dst (some v)
    | none, _ => .bad
  | .store t x v => match ev s x, ev s v, o.dst with
    | some xv, some vv, none => Eff.ofSt (astoreT P s t x xv vv)
    | _, _, _ => .bad
  | .alloc t => match (azero P t).bind AV.cellsOf, o.dst with
    | some cs, some d => if d < c.nt then Eff.ofSt (newVarA c.heap (s.kill d) d cs) else .bad
    | _, _ => .bad
  | .box t x => match o.dst with
    | some d => match (ev (s.kill d) x).bind acells with
      | some cs => if d < c.nt then Eff.ofSt (newVarA c.heap (s.kill d) d cs) else .bad
      | none => .bad
    | _ => .bad
  | .build t parts => match evParts s parts.toList with
    | some ps => Eff.of c.nt s o.dst (abuild P t ps)
    | none => .bad
  | .buildSlice t len parts => match evParts s parts.toList with
    | some ps => Eff.of c.nt s o.dst ((abuildSlice P t len ps).map fun rows => .own rows .n)
    | none => .bad
  | .makeMap _ none => match o.dst with
    | some d => if d < c.nt then .st { ts := (d, .map s.G.length) :: s.ts, L := s.L, G := s.G ++ [.map [] 0] } else .bad
    | none => .bad
  | .mapUpdate t m k v => match ev s m, ev s k, ev s v, o.dst with
    | some mv, some kv, some vv, none => Eff.ofSt (aupdate P s t mv kv vv)
    | _, _, _, _ => .bad
  | .insert t m k v => match ev s m, ev s k, ev s v, o.dst with
    | some mv, some kv, some vv, none => Eff.ofSt (aupdate P s t mv kv vv)
    | _, _, _, _ => .bad
  | .panic x => match ev s x with
    | some (.iface t v) => .pan (.iface t v)
    | _ => .bad
  | .makeSlice t l m => match ev s l, o.dst with
    | some (.p (.int _ n)), some d => if sameOp l m ∧ d < c.nt then Eff.ofSt (amake P s d t n) else .bad
    | _, _ => .bad
  | .call cl => match cl.callee, cl.args.toList, cl.argTypes.toList with
    | .builtin .append, [b, x], [sT, xT] => match ev s b, ev s x, o.dst with
      | some bv, some xv, some d => if d < c.nt then if c.heap.contains d then Eff.ofSt (aappendF P s d sT xT bv xv) else match aappend P s sT xT bv xv with
        | some r => .st ((s.dis (appendTok d r.2)).put (some d) (.own r.1 (.s d)))
        | none => Eff.ofSt (aappendT P s d sT xT bv x) else .bad
      | _, _, _ => .bad
    | .builtin .copy, [x, y], [sT, _] => match ev s x, ev s y with
      | some xv, some yv => if dstOk c.nt o.dst then match acopy P s sT xv yv with
        | some r => .st (r.1.put o.dst (.p (.int .i64 r.2)))
        | none => .bad else .bad
      | _, _ => .bad
    | .builtin .clear, [x], [t] => match ev s x with
      | some xv => if dstOk c.nt o.dst then match aclear P s t xv with
        | some s' => .st (s'.put o.dst (.tuple []))
        | none => .bad else .bad
      | _ => .bad
    | .value f, args, _ => match ev s f, evs s args with
      | some (.fn g first caps), some l => if dstOk c.nt o.dst then .call g (first ++ l.map AV.strip ++ caps) else .bad
      | _, _ => .bad
    | _, _, _ => Eff.of c.nt s o.dst (aval P s o)
  | _ => Eff.of c.nt s o.dst (avalN P s o)

/-- 'x == nil' of a slice without elements: either may be. -/
def anyB (P : Program) (s : St) (o : Oper) : Bool :=
  match o.op with
  | .binOp op t x (.const (.slice none 0 0)) _ => match P.underlying t, ev s x, op with
    | some (.slice _), some (.p (.vec [])), .eql => true
    | some (.slice _), some (.p (.vec [])), .neq => true
    | _, _, _ => false
  | _ => false

theorem anyB_bad {P : Program} {c : Cfg} {s : St} {o : Oper} (h : anyB P s o = true) : eff P c s o = .bad := by
  unfold anyB at h
  split at h
  · rename_i op t x rt hop
    split at h
    · rename_i e hu hx
      have hk : ev s (.const (.slice none 0 0)) = some (.own [] .n) := rfl
      simp [eff, hop, avalN, anilcmp, aval, hu, hx, hk, abin, Eff.of]
    · rename_i e hu hx
      have hk : ev s (.const (.slice none 0 0)) = some (.own [] .n) := rfl
      simp [eff, hop, avalN, anilcmp, aval, hu, hx, hk, abin, Eff.of]
    · simp at h
  · simp at h

theorem anyB_run {P : Program} {σ : Sg} {s : St} {nt : Nat} {a : Act} {w : World} (hr : RelS σ s nt a w) {o : Oper} (h : anyB P s o = true) : ∃ b, (execOp a.eval o).run P w = .ok (.value (.bool b)) w := by
  unfold anyB at h
  split at h
  · rename_i op t x rt hop
    have hc : a.eval (.const (.slice none 0 0)) = .slice none 0 0 := rfl
    have key : ev s x = some (.p (.vec [])) → ∃ ad n k, a.eval x = .slice ad n k := by
      intro hx
      have hxr := ev_rel hr hx
      generalize a.eval x = z at hxr
      cases hxr with | p hxr => cases hxr <;> exact ⟨_, _, _, rfl⟩
    have eqb : ∀ e ad n k, P.underlying t = some (.slice e) → ∃ b, (Op.equal t (.slice ad n k) (.slice none 0 0)).run P w = .ok b w := by
      intro e ad n k hu
      cases ad with
      | none =>
        refine ⟨true, ?_⟩
        show (Op.equalIn (9999 + 1) t (.slice none n k) (.slice none 0 0)).run P w = _
        rw [Op.equalIn, Sem.run_bind, run_underlying hu]
        rfl
      | some ad => exact ⟨false, equal_nil hu ad n k w⟩
    split at h
    · rename_i e hu hx
      obtain ⟨ad, n, k, he⟩ := key hx
      obtain ⟨b, hb⟩ := eqb e ad n k hu
      refine ⟨b, ?_⟩
      unfold execOp; rw [hop]
      refine lift_val ?_
      rw [he, hc, Sem.run_bind, eqGuard_pure w (by simp)]
      simp only [Result.andThen_ok]
      show (do pure (Value.bool (← Op.equal t _ _))).run P w = _
      rw [Sem.run_bind, hb]; rfl
    · rename_i e hu hx
      obtain ⟨ad, n, k, he⟩ := key hx
      obtain ⟨b, hb⟩ := eqb e ad n k hu
      refine ⟨!b, ?_⟩
      unfold execOp; rw [hop]
      refine lift_val ?_
      rw [he, hc, Sem.run_bind, eqGuard_pure w (by simp)]
      simp only [Result.andThen_ok]
      show (do pure (Value.bool (!(← Op.equal t _ _)))).run P w = _
      rw [Sem.run_bind, hb]; rfl
    · simp at h
  · simp at h

def vop (P : Program) (c : Cfg) (o : Oper) (K : St → Prop) (Q : AExit → St → Prop) (s : St) : Prop :=
  if anyB P s o then dstOk c.nt o.dst = true ∧ ∀ b, K (s.put o.dst (.p (.bool b))) else
  match eff P c s o with
  | .st s' => K s'
  | .call f args => args.all AV.free = true ∧ ACalls P f args s.G fun r G' => match r with
    | .ret v => K (({ s with G := G' }.dis isC).put o.dst v)
    | .panic v => Q (.panic v) ({ s with G := G' }.dis isC)
  | .pan v => Q (.panic v) s
  | .bad => False

def guardVal (ops : Array Oper) (s : St) (j : Nat) (want : Bool) : Option Bool :=
  match (ops[j]?).bind (·.dst) with
  | some d => match get s.ts d with
    | some (.p (.bool b)) => some b
    | some (.tuple []) => some (!want)
    | _ => none
  | none => none

def vops (P : Program) (c : Cfg) (ops : Array Oper) (Q : AExit → St → Prop) : List Nat → St → Prop
  | [], s => Q .normal s
  | i :: rest, s => match ops[i]? with
    | none => False
    | some o => match o.guard with
      | none => vop P c o (vops P c ops Q rest) Q s
      | some (j, want) => match guardVal ops s j want with
        | some b => (b = want → vop P c o (vops P c ops Q rest) Q s) ∧ (b = (!want) → dstOk c.nt o.dst = true ∧ vops P c ops Q rest (s.put o.dst (.tuple [])))
        | none => False

section
variable {P : Program} {σ σ' : Sg} {s : St} {nt : Nat} {a : Act} {w w' : World}

theorem retok (hr : RelS σ s nt a w) {d : Nat} {k : Tok} (hkc : isC k = false) {rows : List (List PV)} {x : Value} (hb : Rel σ (.own rows k) x) :
    ∃ σ', RelS σ' (s.dis (appendTok d k)) nt a w ∧ Post σ σ' w w ∧ Rel σ' (.own rows (.s d)) x := by
  cases hb with | own hv ho =>
  rename_i ba len cap
  rcases ho with ho | ⟨b, o, sz', l, h3, h4, h5, h6, h7, h8⟩
  · exact ⟨σ, hr.turn (σ' := σ) _ (fun _ h => appendTok_isC h) (fun _ _ _ h => h) rfl (fun _ _ _ h => h) (fun _ _ _ => rfl) hr.wf, .refl _ _, .own hv (.inl ho)⟩
  · have hwf : WFS { σ with tok := tokApp σ d k (some (b, o + len * sz', l)) } w := by
      refine ⟨hr.wf.inj, fun k' t b' e l' e1 e2 => ?_, fun t t' b' e l1 e' l2 e1 e2 => ?_, hr.wf.lt, fun t b' e l' e1 => ?_, hr.wf.blkI, hr.wf.imm⟩
      · rcases tokApp_cases e2 with ⟨e3, _⟩ | ⟨_, e3⟩
        · exact hr.wf.injt _ _ _ _ _ e1 e3
        · cases e3; exact hr.wf.injt _ _ _ _ _ e1 h7
      · rcases tokApp_cases e1 with ⟨e3, e4⟩ | ⟨e3, e4⟩
        · rcases tokApp_cases e2 with ⟨e5, _⟩ | ⟨e5, e6⟩
          · exact hr.wf.injtt _ _ _ _ _ _ _ e3 e5
          · cases e6
            have := hr.wf.injtt _ _ _ _ _ _ _ e3 h7
            rw [this, appendTok_self hkc h3] at e4; simp at e4
        · rcases tokApp_cases e2 with ⟨e5, e6⟩ | ⟨e5, _⟩
          · cases e4
            have := hr.wf.injtt _ _ _ _ _ _ _ e5 h7
            rw [this, appendTok_self hkc h3] at e6; simp at e6
          · rw [e3, e5]
      · rcases tokApp_cases e1 with ⟨e3, _⟩ | ⟨_, e3⟩
        · exact hr.wf.tokw _ _ _ _ e3
        · cases e3; exact hr.wf.tokw _ _ _ _ h7
    refine ⟨{ σ with tok := tokApp σ d k (some (b, o + len * sz', l)) }, hr.turn (σ' := { σ with tok := tokApp σ d k (some (b, o + len * sz', l)) }) _ (fun _ h => appendTok_isC h) (fun _ _ _ h => h) rfl (fun t x hf h => tokApp_keep hf h) (fun _ _ _ => rfl) hwf, ?_, ?_⟩
    · refine ⟨fun _ _ _ h => h, fun _ _ _ h => .inl h, fun b' hb' => ?_, fun _ _ h => h, fun _ _ _ => rfl, Nat.le_refl _, rfl, rfl, rfl, rfl, fun _ => rfl⟩
      rcases hb' with ⟨k', hb'⟩ | ⟨t, e, l', hb'⟩
      · exact .inl (.inl ⟨k', hb'⟩)
      · rcases tokApp_cases hb' with ⟨e3, _⟩ | ⟨_, e3⟩
        · exact .inl (.inr ⟨t, e, l', e3⟩)
        · cases e3; exact .inl (.inr ⟨k, _, _, h7⟩)
    · exact .own hv (.inr ⟨b, o, sz', l, by simp, h4, h5, h6, by simp [tokApp], h8⟩)

theorem of_does {o : Oper} {c : Cfg} {v : Option AV} {s' : St} (h : Eff.of c.nt s o.dst v = .st s')
    (hv : ∀ u σ a w, v = some u → RelS σ s c.nt a w → ∃ x, (execOp a.eval o).run P w = .ok (.value x) w ∧ Rel σ u x) : Does P c.nt s o s' := by
  unfold Eff.of at h
  split at h
  · split at h
    · rename_i u hd
      simp only [Eff.st.injEq] at h; subst h
      intro σ a w hr
      obtain ⟨x, h1, h2⟩ := hv u σ a w rfl hr
      exact ⟨x, w, σ, .inl h1, hr.put h2 hd, .refl _ _⟩
    · simp at h
  · simp at h

theorem of_aval {o : Oper} {c : Cfg} {s' : St} (h : Eff.of c.nt s o.dst (aval P s o) = .st s') : Does P c.nt s o s' :=
  of_does h fun u σ a w hu hr => aval_run hr hu

theorem of_avalN {o : Oper} {c : Cfg} {s' : St} (h : Eff.of c.nt s o.dst (avalN P s o) = .st s') : Does P c.nt s o s' :=
  of_does h fun u σ a w hu hr => avalN_run hr hu

theorem ofSt_some {x : Option St} {s' : St} (h : Eff.ofSt x = .st s') : x = some s' := by
  cases x with
  | none => simp [Eff.ofSt] at h
  | some y => simp [Eff.ofSt] at h; rw [h]

theorem Eff.of_ne_call {nt : Nat} {d : Option Nat} {v : Option AV} {f : FuncId} {l : List AV} : Eff.of nt s d v ≠ .call f l := by
  unfold Eff.of; repeat' split
  all_goals simp
theorem Eff.of_ne_pan {nt : Nat} {d : Option Nat} {v : Option AV} {u : AV} : Eff.of nt s d v ≠ .pan u := by
  unfold Eff.of; repeat' split
  all_goals simp
theorem Eff.ofSt_ne_call {v : Option St} {f : FuncId} {l : List AV} : Eff.ofSt v ≠ .call f l := by cases v <;> simp [Eff.ofSt]
theorem Eff.ofSt_ne_pan {v : Option St} {u : AV} : Eff.ofSt v ≠ .pan u := by cases v <;> simp [Eff.ofSt]

/-- What changes nothing but its slot. -/
def avalB (P : Program) (s : St) (o : Oper) : Option AV :=
  match o.op with
  | .build t parts => (evParts s parts.toList).bind (abuild P t)
  | _ => aval P s o

theorem avalB_run (hr : RelS σ s nt a w) {o : Oper} {v : AV} (h : avalB P s o = some v) : ∃ x, (execOp a.eval o).run P w = .ok (.value x) w ∧ Rel σ v x := by
  unfold avalB at h
  split at h
  · rename_i t parts hop
    rw [Option.bind_eq_some_iff] at h
    obtain ⟨ps, hps, hu⟩ := h
    have hp := evParts_rel hr hps
    obtain ⟨r, h1, h2⟩ := abuild_run (P := P) (w := w) hu hp
    refine ⟨r, ?_, h2⟩
    unfold execOp; rw [hop]
    refine lift_val ?_
    rw [← h1]
    congr 2
    cases parts; simp
  · exact aval_run hr h

theorem eff_does {c : Cfg} {o : Oper} {s' : St} (h : eff P c s o = .st s') : Does P c.nt s o s' := by
  unfold eff at h
  split at h
  · rename_i x hop
    split at h
    · rename_i rows k d hx hd
      split at h
      · rename_i hc
        simp only [Eff.st.injEq] at h; subst h
        intro σ a w hr
        obtain ⟨σ', h1, h2, h3⟩ := retok (d := d) hr hc.1 (ev_rel hr hx)
        exact ⟨a.eval x, w, σ', .inl (by unfold execOp; rw [hop]; rfl), by rw [hd]; exact h1.put h3 (dst := some d) (by simp [dstOk, hc.2]), h2⟩
      · split at h
        · rename_i hdn
          simp only [Eff.st.injEq] at h; subst h
          intro σ a w hr
          exact ⟨a.eval x, w, σ, .inl (by unfold execOp; rw [hop]; rfl), by rw [hd]; exact hr.put (ev_rel hr hx).plain (dst := some d) (by simp [dstOk, hdn]), .refl _ _⟩
        · simp at h
    · rename_i v hx hne
      refine of_does (v := some v) h (fun u σ a w hu hr => ?_)
      simp only [Option.some.injEq] at hu; subst hu
      exact ⟨a.eval x, by unfold execOp; rw [hop]; rfl, ev_rel hr hx⟩
    · simp at h
  · rename_i t x v hop
    split at h
    · rename_i xv vv hx hv hd
      exact astoreT_does hop hd hx hv (ofSt_some h)
    · simp at h
  · rename_i t hop
    split at h
    · rename_i cs d hz hd
      split at h
      · rename_i hn
        rw [Option.bind_eq_some_iff] at hz
        obtain ⟨z, hz1, hz2⟩ := hz
        exact (alloc_does hop hd hn hz1 hz2 (ofSt_some h)).kill
      · simp at h
    · simp at h
  · rename_i t x hop
    split at h
    · rename_i d hd
      split at h
      · rename_i cs hz
        split at h
        · rename_i hn
          rw [Option.bind_eq_some_iff] at hz
          obtain ⟨z, hz1, hz2⟩ := hz
          exact (box_does hop hd hn hz1 hz2 (ofSt_some h)).kill
        · simp at h
      · simp at h
    · simp at h
  · rename_i t parts hop
    split at h
    · rename_i ps hps
      refine of_does h (fun u σ a w hu hr => ?_)
      have hp := evParts_rel hr hps
      obtain ⟨r, h1, h2⟩ := abuild_run (P := P) (w := w) hu hp
      refine ⟨r, ?_, h2⟩
      unfold execOp; rw [hop]
      refine lift_val ?_
      rw [← h1]
      congr 2
      cases parts; simp
    · simp at h
  · rename_i t len parts hop
    split at h
    · rename_i ps hps
      unfold Eff.of at h
      split at h
      · rename_i v hv
        split at h
        · rename_i hd
          simp only [Eff.st.injEq] at h; subst h
          rw [Option.map_eq_some_iff] at hv
          obtain ⟨rows, hrows, rfl⟩ := hv
          intro σ a w hr
          obtain ⟨c', e, g1, g2, g3, g4, g5⟩ := abuildSlice_run (P := P) hr hrows (evParts_rel hr hps)
          refine ⟨_, _, _, .inl ?_, g2.put (.own g4 (.inl rfl)) hd, g3⟩
          unfold execOp; rw [hop]
          show (do pure (Next.value (← Instr.buildSlice t len (parts.map fun x => (x.1, a.eval x.2)))) : Sem Next).run P w = _
          rw [Sem.run_bind, show (parts.map fun x => (x.1, a.eval x.2)) = (parts.toList.map fun x => (x.1, a.eval x.2)).toArray by cases parts; simp, g1]
          rfl
        · simp at h
      · simp at h
    · simp at h
  · rename_i t hop
    split at h
    · rename_i d hd
      split at h
      · rename_i hn
        simp only [Eff.st.injEq] at h; subst h
        exact makeMap_does hop hd hn
      · simp at h
    · simp at h
  · rename_i t m k v hop
    split at h
    · rename_i mv kv vv hm hk hv hd
      exact aupdate_does (.inl hop) hd hm hk hv (ofSt_some h)
    · simp at h
  · rename_i t m k v hop
    split at h
    · rename_i mv kv vv hm hk hv hd
      exact aupdate_does (.inr hop) hd hm hk hv (ofSt_some h)
    · simp at h
  · split at h <;> simp at h
  · rename_i t l m hop
    split at h
    · rename_i k n d hl hd
      split at h
      · rename_i hc
        obtain ⟨k', hm⟩ := sameOp_ev hc.1 hl
        exact amake_does hop hd hc.2 hl hm (ofSt_some h)
      · simp at h
    · simp at h
  · rename_i cl hop
    obtain ⟨callee, args, ats⟩ := cl
    simp only at h
    split at h
    · rename_i _ b x sT xT ha ht
      have hargs : args = #[b, x] := by rw [← Array.toList_inj]; exact ha
      have hats : ats = #[sT, xT] := by rw [← Array.toList_inj]; exact ht
      subst hargs; subst hats
      split at h
      · rename_i bv xv d hb hx hd
        split at h
        · rename_i hn
          split at h
          · exact aappendF_does hop hd hn hb hx (ofSt_some h)
          · split at h
            · rename_i r hr
              simp only [Eff.st.injEq] at h; subst h
              exact aappend_does hop hd hn hb hx hr
            · exact aappendT_does hop hd hn hb (ofSt_some h)
        · simp at h
      · simp at h
    · rename_i _ x y sT xT ha ht
      have hargs : args = #[x, y] := by rw [← Array.toList_inj]; exact ha
      have hats : ats = #[sT, xT] := by rw [← Array.toList_inj]; exact ht
      subst hargs; subst hats
      split at h
      · rename_i xv yv hx hy
        split at h
        · rename_i hd
          split at h
          · rename_i r hr
            simp only [Eff.st.injEq] at h; subst h
            exact acopy_does hop hd hx hy hr
          · simp at h
        · simp at h
      · simp at h
    · rename_i _ x t ha ht
      have hargs : args = #[x] := by rw [← Array.toList_inj]; exact ha
      have hats : ats = #[t] := by rw [← Array.toList_inj]; exact ht
      subst hargs; subst hats
      split at h
      · rename_i xv hx
        split at h
        · rename_i hd
          split at h
          · rename_i s1 hr
            simp only [Eff.st.injEq] at h; subst h
            exact aclear_does hop hd hx hr
          · simp at h
        · simp at h
      · simp at h
    · split at h
      · split at h <;> simp at h
      · simp at h
    · exact of_aval h
  · exact of_avalN h
end
end Go.Abs

