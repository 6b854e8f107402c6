/-
  A callee sees but a part of the heap, under numbers of its own.
-/
import Derived.Test.YtnicgdfnfnchjaaA21
set_option linter.unusedVariables false
namespace Go.Abs

def Key.ren (ids : List Nat) : Key → Key
  | .g i => .g (ids.getD i 0)
  | .l t => .l t

def Tok.ren (ids : List Nat) : Tok → Tok
  | .c k o => .c (k.ren ids) o
  | .s t => .s t
  | .n => .n

mutual
def AV.ren (ids : List Nat) : AV → AV
  | .p v => .p v
  | .own rows k => .own rows (k.ren ids)
  | .full rows => .full rows
  | .ptr k o => .ptr (k.ren ids) o
  | .ref k a b c => .ref (k.ren ids) a b c
  | .rop r => .rop r
  | .map id => .map (ids.getD id 0)
  | .fn f a b => .fn f (AV.rens ids a) (AV.rens ids b)
  | .iface t v => .iface t (AV.ren ids v)
  | .agg l => .agg (AV.rens ids l)
  | .tuple l => .tuple (AV.rens ids l)
  | .undef => .undef
def AV.rens (ids : List Nat) : List AV → List AV
  | [] => []
  | x :: r => AV.ren ids x :: AV.rens ids r
end

def Blk.ren (ids : List Nat) : Blk → Blk
  | .cells cs => .cells (AV.rens ids cs)
  | .map es n => .map (es.map fun e => (e.1, e.2.1.ren ids, e.2.2)) n
  | .dead => .dead

def AEnd.ren (ids : List Nat) : AEnd → AEnd
  | .ret v => .ret (v.ren ids)
  | .panic v => .panic (v.ren ids)

theorem AV.rens_get (ids : List Nat) : ∀ (l : List AV) (i : Nat), (AV.rens ids l)[i]? = (l[i]?).map (AV.ren ids)
  | [], i => by simp [AV.rens]
  | x :: r, 0 => by simp [AV.rens]
  | x :: r, i + 1 => by simp [AV.rens, AV.rens_get ids r i]

@[simp] theorem AV.rens_length (ids : List Nat) : ∀ l : List AV, (AV.rens ids l).length = l.length
  | [] => rfl
  | x :: r => by simp [AV.rens, AV.rens_length ids r]

/-- From one numbering to the other. -/
theorem Rel.ren {σ σ' : Sg} {ids : List Nat} {f : Key → Bool} {g : Tok → Bool} (hI : ∀ b o v, σ.I b o = some v → σ'.I b o = some v) (hb : ∀ k b, f k = true → σ.blk k = some b → σ'.blk (k.ren ids) = some b)
    (ht : ∀ t x, g t = true → σ.tok t = some x → σ'.tok (t.ren ids) = some x) {v : AV} {x : Value} (r : Rel σ v x) (hv : v.chk f g = true) : Rel σ' (v.ren ids) x := by
  induction r with
  | p h => exact .p (h.mono hI)
  | full h => exact .full (h.mono hI)
  | own h ho =>
    refine .own (h.mono hI) (ho.imp id ?_)
    rintro ⟨b, o, sz, l, h0, h1, h2, h3, h4, h5⟩
    rename_i rows k a len cap
    exact ⟨b, o, sz, l, by cases k <;> simp_all [Tok.ren], h1, h2, h3, ht _ _ (by simpa [AV.chk] using hv) h4, h5⟩
  | ptr off h => exact .ptr off (hb _ _ (by simpa [AV.chk] using hv) h)
  | ref off len cap cap' h hc => exact .ref off len cap cap' (hb _ _ (by simpa [AV.chk] using hv) h) hc
  | rop b o val hI' hR => exact .rop b o val (fun j hj => hI _ _ _ (hI' j hj)) (fun j c hc => (hR j c hc).mono hI)
  | map h => exact .map (hb (.g _) _ (by simpa [AV.chk] using hv) h)
  | fn h1 h2 h3 h4 ih3 ih4 =>
    simp only [AV.chk, Bool.and_eq_true] at hv
    refine .fn (by simpa using h1) (by simpa using h2) (fun i x hx => ?_) (fun i x hx => ?_)
    · rw [AV.rens_get, Option.map_eq_some_iff] at hx
      obtain ⟨y, hy, rfl⟩ := hx
      exact ih3 i y hy (AV.chks_get hv.1 hy)
    · rw [AV.rens_get, Option.map_eq_some_iff] at hx
      obtain ⟨y, hy, rfl⟩ := hx
      exact ih4 i y hy (AV.chks_get hv.2 hy)
  | iface h ih => exact .iface (ih (by simpa [AV.chk] using hv))
  | agg h1 h2 ih =>
    refine .agg (by simpa using h1) fun i x hx => ?_
    rw [AV.rens_get, Option.map_eq_some_iff] at hx
    obtain ⟨y, hy, rfl⟩ := hx
    exact ih i y hy (AV.chks_get (by simpa [AV.chk] using hv) hy)
  | tuple h1 h2 ih =>
    refine .tuple (by simpa using h1) fun i x hx => ?_
    rw [AV.rens_get, Option.map_eq_some_iff] at hx
    obtain ⟨y, hy, rfl⟩ := hx
    exact ih i y hy (AV.chks_get (by simpa [AV.chk] using hv) hy)
  | undef x => exact .undef x

mutual
/-- And back. -/
theorem Rel.unren {σ σ' : Sg} {ids : List Nat} {f : Key → Bool} {g : Tok → Bool} (hI : ∀ b o v, σ.I b o = some v → σ'.I b o = some v) (hb : ∀ k b, f k = true → σ.blk (k.ren ids) = some b → σ'.blk k = some b)
    (ht : ∀ t x, g t = true → σ.tok (t.ren ids) = some x → σ'.tok t = some x) : ∀ (v : AV) {x : Value}, Rel σ (v.ren ids) x → v.chk f g = true → Rel σ' v x
  | .p v, x, r, hv => by cases r with | p h => exact .p (h.mono hI)
  | .own rows k, x, r, hv => by
    simp only [AV.ren] at r
    cases r with
    | own h ho =>
      refine .own (h.mono hI) (ho.imp id ?_)
      rintro ⟨b, o, sz, l, h0, h1, h2, h3, h4, h5⟩
      exact ⟨b, o, sz, l, by cases k <;> simp_all [Tok.ren], h1, h2, h3, ht _ _ (by simpa [AV.chk] using hv) h4, h5⟩
  | .full rows, x, r, hv => by simp only [AV.ren] at r; cases r with | full h => exact .full (h.mono hI)
  | .ptr k o, x, r, hv => by simp only [AV.ren] at r; cases r with | ptr off h => exact .ptr _ (hb _ _ (by simpa [AV.chk] using hv) h)
  | .ref k a b c, x, r, hv => by simp only [AV.ren] at r; cases r with | ref off len cap cap' h hc => exact .ref _ _ _ _ (hb _ _ (by simpa [AV.chk] using hv) h) hc
  | .rop row, x, r, hv => by
    simp only [AV.ren] at r
    cases r with | rop b o val hI' hR => exact .rop b o val (fun j hj => hI _ _ _ (hI' j hj)) (fun j c hc => (hR j c hc).mono hI)
  | .map id, x, r, hv => by simp only [AV.ren] at r; cases r with | map h => exact .map (hb (.g id) _ (by simpa [AV.chk] using hv) h)
  | .fn q a b, x, r, hv => by
    simp only [AV.ren] at r
    simp only [AV.chk, Bool.and_eq_true] at hv
    cases r with
    | fn h1 h2 h3 h4 =>
      exact .fn (by simpa using h1) (by simpa using h2) (Rel.unrens hI hb ht a (fun i x hx => h3 i x hx) hv.1) (Rel.unrens hI hb ht b (fun i x hx => h4 i x hx) hv.2)
  | .iface t v, x, r, hv => by simp only [AV.ren] at r; cases r with | iface h => exact .iface (Rel.unren hI hb ht v h (by simpa [AV.chk] using hv))
  | .agg l, x, r, hv => by
    simp only [AV.ren] at r
    cases r with | agg h1 h2 => exact .agg (by simpa using h1) (Rel.unrens hI hb ht l (fun i x hx => h2 i x hx) (by simpa [AV.chk] using hv))
  | .tuple l, x, r, hv => by
    simp only [AV.ren] at r
    cases r with | tuple h1 h2 => exact .tuple (by simpa using h1) (Rel.unrens hI hb ht l (fun i x hx => h2 i x hx) (by simpa [AV.chk] using hv))
  | .undef, x, r, hv => .undef x
theorem Rel.unrens {σ σ' : Sg} {ids : List Nat} {f : Key → Bool} {g : Tok → Bool} (hI : ∀ b o v, σ.I b o = some v → σ'.I b o = some v) (hb : ∀ k b, f k = true → σ.blk (k.ren ids) = some b → σ'.blk k = some b)
    (ht : ∀ t x, g t = true → σ.tok (t.ren ids) = some x → σ'.tok t = some x) : ∀ (l : List AV) {y : Nat → Value}, (∀ (i : Nat) (x : AV), (AV.rens ids l)[i]? = some x → Rel σ x (y i)) → AV.chks f g l = true → ∀ (i : Nat) (x : AV), l[i]? = some x → Rel σ' x (y i)
  | [], _, _, _, i, x, hx => by simp at hx
  | v :: l, y, h, hv, i, x, hx => by
    simp only [AV.chks, Bool.and_eq_true] at hv
    cases i with
    | zero =>
      simp at hx; subst hx
      exact Rel.unren hI hb ht v (h 0 _ (by simp [AV.rens])) hv.1
    | succ i => exact Rel.unrens hI hb ht l (y := fun i => y (i + 1)) (fun i x hx => h (i + 1) x (by simpa [AV.rens] using hx)) hv.2 i x (by simpa using hx)
end

/-- What a callee sees. -/
def Sg.sub (ids : List Nat) (σ : Sg) : Sg where
  I := σ.I
  blk := fun k => match k with | .g i => if i < ids.length then σ.blk (.g (ids.getD i 0)) else none | .l _ => none
  tok := fun t => match t with | .c (.g i) o => if i < ids.length then σ.tok (.c (.g (ids.getD i 0)) o) else none | _ => none

/-- Where a place of the heap lies in the callee's. -/
def whereIs : List Nat → Nat → Option Nat
  | [], _ => none
  | i :: r, j => if i = j then some 0 else (whereIs r j).map (· + 1)

theorem whereIs_some : ∀ {ids : List Nat} {j i : Nat}, whereIs ids j = some i → i < ids.length ∧ ids.getD i 0 = j
  | [], j, i, h => by simp [whereIs] at h
  | a :: r, j, i, h => by
    simp only [whereIs] at h
    split at h
    · rename_i e; simp at h; subst h; simp [e]
    · rw [Option.map_eq_some_iff] at h
      obtain ⟨i', h1, rfl⟩ := h
      obtain ⟨h2, h3⟩ := whereIs_some h1
      exact ⟨by simp [h2], by rw [List.getD_cons_succ]; exact h3⟩

theorem whereIs_nodup : ∀ {ids : List Nat} {i : Nat}, ids.Nodup → i < ids.length → whereIs ids (ids.getD i 0) = some i
  | [], i, _, h => by simp at h
  | a :: r, 0, _, h => by simp [whereIs]
  | a :: r, i + 1, hn, h => by
    simp only [List.nodup_cons] at hn
    simp only [List.length_cons, Nat.add_lt_add_iff_right] at h
    have : a ≠ r.getD i 0 := fun e => hn.1 (by rw [e]; simp [List.getD_eq_getElem?_getD, h])
    simp only [List.getD_cons_succ, whereIs]
    rw [if_neg this, whereIs_nodup hn.2 h]; rfl

def Sg.joinSub (ids : List Nat) (σ σ' : Sg) : Sg where
  I := σ'.I
  blk := σ.blk
  tok := fun t => match t with
    | .c (.g j) o => match whereIs ids j with | some i => σ'.tok (.c (.g i) o) | none => σ.tok t
    | _ => none
  D := σ.D

def writeBack (ids : List Nat) (H' : List Blk) (G : List Blk) : List Blk :=
  match ids, H' with
  | i :: r, b :: H => writeBack r H (G.set i b)
  | _, _ => G

end Go.Abs
