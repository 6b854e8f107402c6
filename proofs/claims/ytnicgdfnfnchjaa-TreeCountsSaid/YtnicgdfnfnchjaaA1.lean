/-
  An abstract memory over the model's worlds: data that nobody writes any more ('PV'), values with places of the call's own ('AV'), and what it means that a world is as the abstract state says.
-/
import Derived.Below
import Derived.OrdersHeld
import Derived.Calls
import Derived.Deep.LoopGhost
set_option linter.unusedVariables false
namespace Go.Abs

/-- Data that nobody writes any more. A slice is the list of its elements, an element the list of its cells. -/
inductive PV where
  | bool (b : Bool)
  | int (k : IntKind) (n : Int)
  | str (s : ByteArray)
  | vec (rows : List (List PV))
  | nilp
  | nilm
  | nilf
  | nili

/-- A place of the state: a block of the heap, or the variable that slot t of the frame points to. -/
inductive Key where
  | g (id : Nat)
  | l (t : Nat)
  deriving DecidableEq

/-- Who may append: a slot of the frame, or a cell. -/
inductive Tok where
  | s (t : Nat)
  | c (k : Key) (off : Nat)
  | n
  deriving DecidableEq

inductive AV where
  | p (v : PV)
  | own (rows : List (List PV)) (k : Tok)
  | full (rows : List (List PV))
  | ptr (k : Key) (off : Nat)
  | ref (k : Key) (off len cap : Nat)
  | rop (row : List PV)
  | map (id : Nat)
  | fn (f : FuncId) (first caps : List AV)
  | iface (t : TypeId) (v : AV)
  | agg (cells : List AV)
  | tuple (l : List AV)
  | undef

/-- What the state says nothing about in itself: which cells stand for ever, which block a place is, who may grow which block from where. -/
structure Sg where
  I : Nat → Nat → Option Value
  blk : Key → Option Nat
  tok : Tok → Option (Nat × Nat × Nat)
  D : List Deferred := []

def Sg.Owns (σ : Sg) (b : Nat) : Prop := (∃ k, σ.blk k = some b) ∨ ∃ t e l, σ.tok t = some (b, e, l)

inductive RelP (I : Nat → Nat → Option Value) : PV → Value → Prop where
  | bool (b : Bool) : RelP I (.bool b) (.bool b)
  | int (k : IntKind) (n : Int) : RelP I (.int k n) (.int k n)
  | str (s : ByteArray) : RelP I (.str s) (.string s)
  | nilp : RelP I .nilp (.pointer none)
  | nilm : RelP I .nilm (.map none)
  | nilf : RelP I .nilf .nilFunc
  | nili : RelP I .nili .nilIface
  | vec0 (a : Option Addr) (cap : Nat) : RelP I (.vec []) (.slice a 0 cap)
  | vec (rows : List (List PV)) (b o cap sz : Nat) (val : Nat → Nat → Value) (hsz : ∀ row ∈ rows, row.length = sz)
      (hI : ∀ i j, i < rows.length → j < sz → I b (o + i * sz + j) = some (val i j))
      (hR : ∀ i (row : List PV) j c, rows[i]? = some row → row[j]? = some c → RelP I c (val i j))
      (hmax : rows.length ≤ maxLen) (hcap : rows.length ≤ cap) : RelP I (.vec rows) (.slice (some ⟨b, o, none⟩) rows.length cap)

theorem RelP.mono {I I' : Nat → Nat → Option Value} (h : ∀ b o v, I b o = some v → I' b o = some v) {v : PV} {x : Value} (r : RelP I v x) : RelP I' v x := by
  induction r with
  | bool b => exact .bool b
  | int k n => exact .int k n
  | str s => exact .str s
  | nilp => exact .nilp
  | nilm => exact .nilm
  | nilf => exact .nilf
  | nili => exact .nili
  | vec0 a cap => exact .vec0 a cap
  | vec rows b o cap sz val hsz hI hR hmax hcap ih =>
    exact .vec rows b o cap sz val hsz (fun i j hi hj => h _ _ _ (hI i j hi hj)) (fun i row j c hr hc => ih i row j c hr hc) hmax hcap

inductive Rel (σ : Sg) : AV → Value → Prop where
  | p {v : PV} {x : Value} (h : RelP σ.I v x) : Rel σ (.p v) x
  | own {rows : List (List PV)} {k : Tok} {a : Option Addr} {len cap : Nat} (h : RelP σ.I (.vec rows) (.slice a len cap))
      (ho : cap = len ∨ ∃ b o sz l, k ≠ .n ∧ a = some ⟨b, o, none⟩ ∧ (∀ row ∈ rows, row.length = sz) ∧ rows ≠ [] ∧ σ.tok k = some (b, o + len * sz, l) ∧ o + cap * sz ≤ l) : Rel σ (.own rows k) (.slice a len cap)
  | full {rows : List (List PV)} {a : Option Addr} {len : Nat} (h : RelP σ.I (.vec rows) (.slice a len len)) : Rel σ (.full rows) (.slice a len len)
  | ptr {k : Key} {b : Nat} (off : Nat) (h : σ.blk k = some b) : Rel σ (.ptr k off) (.pointer (some ⟨b, off, none⟩))
  | ref {k : Key} {b : Nat} (off len cap cap' : Nat) (h : σ.blk k = some b) (hc : cap ≤ cap') : Rel σ (.ref k off len cap) (.slice (some ⟨b, off, none⟩) len cap')
  | rop {row : List PV} (b o : Nat) (val : Nat → Value) (hI : ∀ j, j < row.length → σ.I b (o + j) = some (val j))
      (hR : ∀ j c, row[j]? = some c → RelP σ.I c (val j)) : Rel σ (.rop row) (.pointer (some ⟨b, o, none⟩))
  | map {id b : Nat} (h : σ.blk (.g id) = some b) : Rel σ (.map id) (.map (some b))
  | fn {f : FuncId} {first caps : List AV} {first' caps' : Array Value} (h1 : first'.size = first.length) (h2 : caps'.size = caps.length)
      (h3 : ∀ i x, first[i]? = some x → Rel σ x (first'.getD i undef)) (h4 : ∀ i x, caps[i]? = some x → Rel σ x (caps'.getD i undef)) : Rel σ (.fn f first caps) (.func (.func f) first' caps')
  | iface {t : TypeId} {v : AV} {x : Value} (h : Rel σ v x) : Rel σ (.iface t v) (.iface t x)
  | agg {l : List AV} {l' : Array Value} (h1 : l'.size = l.length) (h2 : ∀ i x, l[i]? = some x → Rel σ x (l'.getD i undef)) : Rel σ (.agg l) (.agg l')
  | tuple {l : List AV} {l' : Array Value} (h1 : l'.size = l.length) (h2 : ∀ i x, l[i]? = some x → Rel σ x (l'.getD i undef)) : Rel σ (.tuple l) (.tuple l')
  | undef (x : Value) : Rel σ .undef x

mutual
/-- Do all places and tokens in a value pass? -/
def AV.chk (f : Key → Bool) (g : Tok → Bool) : AV → Bool
  | .p _ => true
  | .own _ k => g k
  | .full _ => true
  | .ptr k _ => f k
  | .ref k _ _ _ => f k
  | .rop _ => true
  | .map id => f (.g id)
  | .fn _ a b => AV.chks f g a && AV.chks f g b
  | .iface _ v => AV.chk f g v
  | .agg l => AV.chks f g l
  | .tuple l => AV.chks f g l
  | .undef => true
def AV.chks (f : Key → Bool) (g : Tok → Bool) : List AV → Bool
  | [] => true
  | x :: r => AV.chk f g x && AV.chks f g r
end

theorem AV.chks_get {f : Key → Bool} {g : Tok → Bool} {l : List AV} (h : AV.chks f g l = true) {i : Nat} {x : AV} (hx : l[i]? = some x) : x.chk f g = true := by
  induction l generalizing i with
  | nil => simp at hx
  | cons y r ih =>
    simp only [AV.chks, Bool.and_eq_true] at h
    cases i with
    | zero => simp at hx; exact hx ▸ h.1
    | succ i => exact ih h.2 (by simpa using hx)

/-- What is related stays so where the places and tokens that it names stay. -/
theorem Rel.keep {σ σ' : Sg} {f : Key → Bool} {g : Tok → Bool} (hI : ∀ b o v, σ.I b o = some v → σ'.I b o = some v) (hb : ∀ k b, f k = true → σ.blk k = some b → σ'.blk k = some b)
    (ht : ∀ t x, g t = true → σ.tok t = some x → σ'.tok t = some x) {v : AV} {x : Value} (r : Rel σ v x) (hv : v.chk f g = true) : Rel σ' v x := by
  induction r with
  | p h => exact .p (h.mono hI)
  | full h => exact .full (h.mono hI)
  | own h ho =>
    refine .own (h.mono hI) (ho.imp id ?_)
    rintro ⟨b, o, sz, l, h0, h1, h2, h3, h4, h5⟩
    exact ⟨b, o, sz, l, h0, h1, h2, h3, ht _ _ (by simpa [AV.chk] using hv) h4, h5⟩
  | ptr off h => exact .ptr off (hb _ _ (by simpa [AV.chk] using hv) h)
  | ref off len cap cap' h hc => exact .ref off len cap cap' (hb _ _ (by simpa [AV.chk] using hv) h) hc
  | rop b o val hI' hR => exact .rop b o val (fun j hj => hI _ _ _ (hI' j hj)) (fun j c hc => (hR j c hc).mono hI)
  | map h => exact .map (hb _ _ (by simpa [AV.chk] using hv) h)
  | fn h1 h2 h3 h4 ih3 ih4 =>
    simp only [AV.chk, Bool.and_eq_true] at hv
    exact .fn h1 h2 (fun i x hx => ih3 i x hx (AV.chks_get hv.1 hx)) (fun i x hx => ih4 i x hx (AV.chks_get hv.2 hx))
  | iface h ih => exact .iface (ih (by simpa [AV.chk] using hv))
  | agg h1 h2 ih => exact .agg h1 (fun i x hx => ih i x hx (AV.chks_get (by simpa [AV.chk] using hv) hx))
  | tuple h1 h2 ih => exact .tuple h1 (fun i x hx => ih i x hx (AV.chks_get (by simpa [AV.chk] using hv) hx))
  | undef x => exact .undef x

/-- Where nothing that is there turns. -/
theorem Rel.mono {σ σ' : Sg} (hI : ∀ b o v, σ.I b o = some v → σ'.I b o = some v) (hb : ∀ k b, σ.blk k = some b → σ'.blk k = some b)
    (ht : ∀ t x, σ.tok t = some x → σ'.tok t = some x) {v : AV} {x : Value} (r : Rel σ v x) : Rel σ' v x := by
  induction r with
  | p h => exact .p (h.mono hI)
  | full h => exact .full (h.mono hI)
  | own h ho =>
    refine .own (h.mono hI) (ho.imp id ?_)
    rintro ⟨b, o, sz, l, h0, h1, h2, h3, h4, h5⟩
    exact ⟨b, o, sz, l, h0, h1, h2, h3, ht _ _ h4, h5⟩
  | ptr off h => exact .ptr off (hb _ _ h)
  | ref off len cap cap' h hc => exact .ref off len cap cap' (hb _ _ h) hc
  | rop b o val hI' hR => exact .rop b o val (fun j hj => hI _ _ _ (hI' j hj)) (fun j c hc => (hR j c hc).mono hI)
  | map h => exact .map (hb _ _ h)
  | fn h1 h2 h3 h4 ih3 ih4 => exact .fn h1 h2 ih3 ih4
  | iface h ih => exact .iface ih
  | agg h1 h2 ih => exact .agg h1 ih
  | tuple h1 h2 ih => exact .tuple h1 ih
  | undef x => exact .undef x

mutual
theorem chk_imp {f f' : Key → Bool} {g g' : Tok → Bool} (hf : ∀ k, f k = true → f' k = true) (hg : ∀ t, g t = true → g' t = true) : ∀ v : AV, v.chk f g = true → v.chk f' g' = true
  | .own rows k, h => hg _ h
  | .full rows, h => rfl
  | .fn q a b, h => by simp only [AV.chk, Bool.and_eq_true] at *; exact ⟨chks_imp hf hg a h.1, chks_imp hf hg b h.2⟩
  | .iface t v, h => by simp only [AV.chk] at *; exact chk_imp hf hg v h
  | .agg l, h => by simp only [AV.chk] at *; exact chks_imp hf hg l h
  | .tuple l, h => by simp only [AV.chk] at *; exact chks_imp hf hg l h
  | .p v, h => rfl
  | .ptr k o, h => hf _ h
  | .ref k a b c, h => hf _ h
  | .rop r, h => rfl
  | .map id, h => hf _ h
  | .undef, h => rfl
theorem chks_imp {f f' : Key → Bool} {g g' : Tok → Bool} (hf : ∀ k, f k = true → f' k = true) (hg : ∀ t, g t = true → g' t = true) : ∀ l : List AV, AV.chks f g l = true → AV.chks f' g' l = true
  | [], h => rfl
  | x :: r, h => by simp only [AV.chks, Bool.and_eq_true] at *; exact ⟨chk_imp hf hg x h.1, chks_imp hf hg r h.2⟩
end

inductive Blk where
  | cells (cs : List AV)
  | map (es : List (PV × AV × Nat)) (clock : Nat)
  | dead

def isC : Tok → Bool
  | .c _ _ => true
  | _ => false
def isCG : Tok → Bool
  | .c (.g _) _ => true
  | _ => false
def isG : Key → Bool
  | .g _ => true
  | _ => false

/-- Which places a value may name that lies in the cell of such a place. -/
def keyf : Key → Key → Bool
  | .g _, .g _ => true
  | .g _, .l _ => false
  | .l _, _ => true

/-- What lies in a block names places that may be named there; who may append is the cell itself. -/
def BlkInv (k : Key) : Blk → Prop
  | .cells cs => ∀ (j : Nat) (x : AV), cs[j]? = some x → x.chk (keyf k) (fun t => t == .c k j) = true
  | .map es _ => ∀ (j : Nat) (e : PV × AV × Nat), es[j]? = some e → e.2.1.chk (keyf k) (fun _ => false) = true
  | .dead => True

abbrev TS := List (Nat × AV)
abbrev LS := List (Nat × List AV)

def get {α : Type} : List (Nat × α) → Nat → Option α
  | [], _ => none
  | (u, x) :: r, t => if u = t then some x else get r t

structure St where
  ts : TS
  L : LS
  G : List Blk

def St.look (s : St) : Key → Option Blk
  | .g id => s.G[id]?
  | .l t => (get s.L t).map .cells

def RelB (σ : Sg) (w : World) (b : Nat) : Blk → Prop
  | .cells cs => ∃ c T, w.heap[b]? = some (.cells c T (0, 0)) ∧ cs.length ≤ c.size ∧ ∀ j x, cs[j]? = some x → Rel σ x (c.getD j undef)
  | .map es clock => ∃ es' : Array MapEntry, w.heap[b]? = some (.map es' clock) ∧ es'.size = es.length ∧
      ∀ (j : Nat) (k : PV) (v : AV) (n : Nat), es[j]? = some (k, v, n) → RelP σ.I k (es'.getD j default).key ∧ Rel σ v (es'.getD j default).val ∧ (es'.getD j default).born = n
  | .dead => True

structure WFS (σ : Sg) (w : World) : Prop where
  inj : ∀ k k' b, σ.blk k = some b → σ.blk k' = some b → k = k'
  injt : ∀ k t b e l, σ.blk k = some b → σ.tok t ≠ some (b, e, l)
  injtt : ∀ t t' b e l e' l', σ.tok t = some (b, e, l) → σ.tok t' = some (b, e', l') → t = t'
  lt : ∀ k b, σ.blk k = some b → b < w.heap.size
  tokw : ∀ t b e l, σ.tok t = some (b, e, l) → (∃ c T, w.heap[b]? = some (.cells c T (0, 0)) ∧ l ≤ c.size) ∧ ∀ o, e ≤ o → σ.I b o = none
  blkI : ∀ k b o, σ.blk k = some b → σ.I b o = none
  imm : ∀ b o v, σ.I b o = some v → w.cell? ⟨b, o, none⟩ = some v

structure RelS (σ : Sg) (s : St) (nt : Nat) (a : Act) (w : World) : Prop where
  sz : a.tmps.size = nt
  df : a.defers = σ.D
  vals : ∀ t x, get s.ts t = some x → t < nt ∧ Rel σ x (a.tmps.getD t undef)
  blks : ∀ k blk, s.look k = some blk → ∃ b, σ.blk k = some b ∧ RelB σ w b blk
  cinv : ∀ k blk, s.look k = some blk → BlkInv k blk
  gfree : ∀ id, s.G.length ≤ id → σ.blk (.g id) = none
  lfree : ∀ t, get s.L t = none → σ.blk (.l t) = none
  wf : WFS σ w

/-- What a stretch of a run may turn. -/
structure Post (σ σ' : Sg) (w w' : World) : Prop where
  I : ∀ b o v, σ.I b o = some v → σ'.I b o = some v
  In : ∀ b o v, σ'.I b o = some v → σ.I b o = some v ∨ σ.Owns b ∨ w.heap.size ≤ b
  own : ∀ b, σ'.Owns b → σ.Owns b ∨ w.heap.size ≤ b
  keys : ∀ id b, σ.blk (.g id) = some b → σ'.blk (.g id) = some b
  frame : ∀ b, b < w.heap.size → ¬ σ.Owns b → w'.heap[b]? = w.heap[b]?
  size : w.heap.size ≤ w'.heap.size
  os : w'.os = w.os
  tape : w'.tape = w.tape
  output : w'.output = w.output
  D : σ'.D = σ.D
  fz : ∀ a, w'.frozen? a = w.frozen? a

/-- No cell of the object is for ever of itself. -/
def NF (o : Option Obj) : Prop := ∀ c T r, o = some (.cells c T r) → r = (0, 0)

theorem frozen_of_nf {w : World} {a : Addr} (h : NF w.heap[a.block]?) : w.frozen? a = false := by
  unfold World.frozen?
  split
  · rename_i c T lo hi e
    have := h _ _ _ e
    simp only [Prod.mk.injEq] at this
    simp [this.1, this.2]
  · rfl

theorem frozen_same {w w' : World} (h : ∀ b : Nat, w'.heap[b]? = w.heap[b]? ∨ (NF w.heap[b]? ∧ NF w'.heap[b]?)) (a : Addr) : w'.frozen? a = w.frozen? a := by
  rcases h a.block with h | ⟨h1, h2⟩
  · unfold World.frozen?; rw [h]
  · rw [frozen_of_nf h1, frozen_of_nf h2]

theorem nf_cells {c : Array Value} {T : TypeId} {o : Option Obj} (h : o = some (.cells c T (0, 0))) : NF o := fun c' T' r e => by
  rw [h] at e; cases e; rfl
theorem nf_map {es : Array MapEntry} {n : Nat} {o : Option Obj} (h : o = some (.map es n)) : NF o := fun c' T' r e => by
  rw [h] at e; cases e

theorem frozen_alloc {w : World} {o : Obj} (h : ∀ c T r, o = .cells c T r → r = (0, 0)) (a : Addr) : (w.alloc o).frozen? a = w.frozen? a := by
  refine frozen_same (fun b => ?_) a
  by_cases hb : b = w.heap.size
  · subst hb
    refine .inr ⟨fun c T r e => by simp at e, fun c T r e => ?_⟩
    have : (w.alloc o).heap[w.heap.size]? = some o := by show (w.heap.push o)[w.heap.size]? = _; simp
    rw [this] at e
    exact h c T r (by simpa using e)
  · left
    show (w.heap.push o)[b]? = _
    rw [Array.getElem?_push, if_neg hb]

theorem Post.refl (σ : Sg) (w : World) : Post σ σ w w :=
  ⟨fun _ _ _ h => h, fun _ _ _ h => .inl h, fun _ h => .inl h, fun _ _ h => h, fun _ _ _ => rfl, Nat.le_refl _, rfl, rfl, rfl, rfl, fun _ => rfl⟩

theorem Post.trans {σ σ' σ'' : Sg} {w w' w'' : World} (h : Post σ σ' w w') (k : Post σ' σ'' w' w'') : Post σ σ'' w w'' where
  I := fun b o v e => k.I _ _ _ (h.I _ _ _ e)
  In := fun b o v e => by
    rcases k.In _ _ _ e with e | e | e
    · exact h.In _ _ _ e
    · rcases h.own _ e with e | e
      · exact .inr (.inl e)
      · exact .inr (.inr e)
    · exact .inr (.inr (Nat.le_trans h.size e))
  own := fun b e => by
    rcases k.own _ e with e | e
    · exact h.own _ e
    · exact .inr (Nat.le_trans h.size e)
  keys := fun id b e => k.keys _ _ (h.keys _ _ e)
  frame := fun b hb hn => by
    rw [k.frame b (Nat.lt_of_lt_of_le hb h.size) (fun e => by
      rcases h.own _ e with e | e
      · exact hn e
      · omega), h.frame b hb hn]
  size := Nat.le_trans h.size k.size
  os := k.os.trans h.os
  tape := k.tape.trans h.tape
  output := k.output.trans h.output
  D := k.D.trans h.D
  fz := fun a => (k.fz a).trans (h.fz a)

inductive AExit where
  | normal
  | exit (id : Nat)
  | goto (l : Nat)
  | ret
  | panic (v : AV)

inductive RelX (σ : Sg) : AExit → Exit → Prop where
  | normal : RelX σ .normal .normal
  | exit (id : Nat) : RelX σ (.exit id) (.exit id)
  | goto (l : Nat) : RelX σ (.goto l) (.goto l)
  | ret : RelX σ .ret .ret
  | panic {v : AV} {x : Value} (h : Rel σ v x) : RelX σ (.panic v) (.panic [{ v := x, recovered := false }])

/-- The post of the model that an abstract post stands for. -/
def Conc (nt : Nat) (Q : AExit → St → Prop) (σ : Sg) (w : World) : Exit → Act → World → Prop := fun e a' w' =>
  ∃ x s' σ', RelX σ' x e ∧ RelS σ' s' nt a' w' ∧ Post σ σ' w w' ∧ Q x s'

theorem Conc.back {nt : Nat} {Q : AExit → St → Prop} {σ σ' : Sg} {w w' : World} (p : Post σ σ' w w') {e : Exit} {a : Act} {w'' : World} (h : Conc nt Q σ' w' e a w'') : Conc nt Q σ w e a w'' :=
  let ⟨x, s', σ'', hx, hs, hp, hq⟩ := h
  ⟨x, s', σ'', hx, hs, p.trans hp, hq⟩

def AWp (P : Program) (nt : Nat) (c : Code) (Q : AExit → St → Prop) (s : St) : Prop :=
  ∀ σ a w, RelS σ s nt a w → c.wp P (Conc nt Q σ w) a w

section rules
variable {P : Program} {nt : Nat} {Q Q' : AExit → St → Prop} {s : St}

theorem AWp.mono {c : Code} (h : AWp P nt c Q s) (hq : ∀ e s, Q e s → Q' e s) : AWp P nt c Q' s :=
  fun σ a w hr => wp_mono (h σ a w hr) fun _ _ _ ⟨x, s', σ', hx, hs, hp, hq'⟩ => ⟨x, s', σ', hx, hs, hp, hq _ _ hq'⟩

def andThen (K : St → Prop) (Q : AExit → St → Prop) : AExit → St → Prop
  | .normal, s => K s
  | e, s => Q e s

theorem awp_skip (h : Q .normal s) : AWp P nt .skip Q s := fun σ a w hr => wp_skip ⟨.normal, s, σ, .normal, hr, .refl _ _, h⟩
theorem awp_label {l : Nat} (h : Q .normal s) : AWp P nt (.label l) Q s := fun σ a w hr => wp_label ⟨.normal, s, σ, .normal, hr, .refl _ _, h⟩
theorem awp_ret (h : Q .ret s) : AWp P nt .ret Q s := fun σ a w hr => wp_ret ⟨.ret, s, σ, .ret, hr, .refl _ _, h⟩
theorem awp_exit {id : Nat} (h : Q (.exit id) s) : AWp P nt (.exit id) Q s := fun σ a w hr => wp_exit ⟨.exit id, s, σ, .exit id, hr, .refl _ _, h⟩

theorem awp_seq {x y : Code} (h : AWp P nt x (andThen (AWp P nt y Q) Q) s) : AWp P nt (.seq x y) Q s := by
  intro σ a w hr
  refine wp_seq (wp_mono (h σ a w hr) ?_)
  rintro e a' w' ⟨x, s', σ', hx, hs, hp, hq⟩
  cases hx with
  | normal => exact wp_mono (hq σ' a' w' hs) fun _ _ _ h => h.back hp
  | exit id => exact ⟨_, s', σ', .exit id, hs, hp, hq⟩
  | goto l => exact ⟨_, s', σ', .goto l, hs, hp, hq⟩
  | ret => exact ⟨_, s', σ', .ret, hs, hp, hq⟩
  | panic hv => exact ⟨_, s', σ', .panic hv, hs, hp, hq⟩

def inBlock (id : Nat) (Q : AExit → St → Prop) : AExit → St → Prop
  | .exit id', s => if id' = id then Q .normal s else Q (.exit id') s
  | e, s => Q e s

theorem awp_block {id : Nat} {c : Code} (h : AWp P nt c (inBlock id Q) s) : AWp P nt (.block id c) Q s := by
  intro σ a w hr
  refine wp_block (wp_mono (h σ a w hr) ?_)
  rintro e a' w' ⟨x, s', σ', hx, hs, hp, hq⟩
  cases hx with
  | normal => exact ⟨_, s', σ', .normal, hs, hp, hq⟩
  | exit id' =>
    simp only [inBlock] at hq
    simp only [Exit.inBlock]
    split
    · rename_i he; rw [if_pos he] at hq; exact ⟨_, s', σ', .normal, hs, hp, hq⟩
    · rename_i he; rw [if_neg he] at hq; exact ⟨_, s', σ', .exit id', hs, hp, hq⟩
  | goto l => exact ⟨_, s', σ', .goto l, hs, hp, hq⟩
  | ret => exact ⟨_, s', σ', .ret, hs, hp, hq⟩
  | panic hv => exact ⟨_, s', σ', .panic hv, hs, hp, hq⟩

/-- s' says no more than s. -/
def Weak (s s' : St) : Prop := ∀ σ nt a w, RelS σ s nt a w → ∃ σ', RelS σ' s' nt a w ∧ Post σ σ' w w

theorem Weak.refl (s : St) : Weak s s := fun σ _ _ w h => ⟨σ, h, .refl σ w⟩

theorem Weak.trans {s s' s'' : St} (h : Weak s s') (k : Weak s' s'') : Weak s s'' := fun σ nt a w hr =>
  let ⟨σ', h1, p1⟩ := h σ nt a w hr
  let ⟨σ'', h2, p2⟩ := k σ' nt a w h1
  ⟨σ'', h2, p1.trans p2⟩

theorem awp_weak {c : Code} {s' : St} (hw : Weak s s') (h : AWp P nt c Q s') : AWp P nt c Q s := fun σ a w hr =>
  let ⟨σ', h1, p1⟩ := hw _ _ _ _ hr
  wp_mono (h σ' a w h1) fun _ _ _ h => h.back p1

/-- A loop: 'I n' holds at the head of a round, n lowers. -/
theorem awp_loop {c : Code} (I : Nat → St → Prop) (n₀ : Nat) (h₀ : I n₀ s)
    (round : ∀ n s, I n s → AWp P nt c (andThen (fun s' => ∃ n' s'', n' < n ∧ Weak s' s'' ∧ I n' s'') Q) s) : AWp P nt (.loop c) Q s := by
  intro σ a w hr
  refine wp_loop_ghost (fun n a' w' => ∃ s' σ', RelS σ' s' nt a' w' ∧ Post σ σ' w w' ∧ I n s') n₀ ⟨s, σ, hr, .refl _ _, h₀⟩ ?_
  rintro n a₁ w₁ ⟨s₁, σ₁, hr₁, hp₁, hI⟩
  refine wp_mono (round n s₁ hI σ₁ a₁ w₁ hr₁) ?_
  rintro e a' w' ⟨x, s', σ', hx, hs, hp, hq⟩
  cases hx with
  | normal =>
    obtain ⟨n', s'', hlt, hwk, hI'⟩ := hq
    obtain ⟨σ'', h1, p1⟩ := hwk _ _ _ _ hs
    exact ⟨n', hlt, s'', σ'', h1, (hp₁.trans hp).trans p1, hI'⟩
  | exit id => exact ⟨_, s', σ', .exit id, hs, hp₁.trans hp, hq⟩
  | goto l => exact ⟨_, s', σ', .goto l, hs, hp₁.trans hp, hq⟩
  | ret => exact ⟨_, s', σ', .ret, hs, hp₁.trans hp, hq⟩
  | panic hv => exact ⟨_, s', σ', .panic hv, hs, hp₁.trans hp, hq⟩

end rules
end Go.Abs
