/-
  Single steps with a heap that is not told whole.
-/
import Derived.Test.YtnicgdfnfnchjaaL1
set_option linter.unusedVariables false
namespace Go.Abs

section
variable {P : Program} {s s' : St} {c : Cfg} {ops : Array Oper} {Q : AExit → St → Prop}

theorem vop_st {K : St → Prop} {o : Oper} (he : eff P c s o = .st s') (k : K s') : vop P c o K Q s := by
  unfold vop
  rw [if_neg (fun ha => by rw [anyB_bad ha] at he; cases he), he]
  exact k

theorem vopsL_st {o : Oper} {l : List Oper} (hg : o.guard = none) (he : eff P c s o = .st s') (k : vopsL P c ops Q l s') : vopsL P c ops Q (o :: l) s := by
  simp only [vopsL, hg]
  unfold vop
  rw [if_neg (fun ha => by rw [anyB_bad ha] at he; cases he), he]
  exact k

/-- A one-cell value of data is stored. -/
theorem eff_store {o : Oper} {t : TypeId} {x v : Operand} {k : Key} {off : Nat} {p : PV} {cs : List AV} (ho : o.op = .store t x v) (hd : o.dst = none) (hx : ev s x = some (.ptr k off)) (hv : ev s v = some (.p p))
    (hl : s.look k = some (.cells cs)) (hoff : off < cs.length) (ht : P.cellsOf t = 1) : eff P c s o = .st (s.setBlk k (cs.set off (.p p))) := by
  simp only [eff, ho, hx, hv, hd, astoreT, astore, acells, hl, ht]
  have : off + 1 ≤ cs.length := hoff
  simp [this, AV.fits, AV.chk, setMany, Eff.ofSt, AV.toCell, AV.plain]

def marks : List Nat → Array Bool → Array Bool
  | [], l => l
  | i :: r, l => marks r (l.setIfInBounds i true)

/-- The slots of such operations get such values. -/
def puts (ops : Array Oper) : List Nat → List AV → St → St
  | i :: r, v :: vs, s => puts ops r vs (match ops[i]? with | some o => s.put o.dst v | none => s)
  | _, _, s => s

def pends (ops : Array Oper) : List (Nat × AV) → Pend
  | [] => []
  | (i, v) :: r => match ops[i]? with | some o => (o, v) :: pends ops r | none => pends ops r

/-- All of a region of open order: what goes ahead (fv, tv: its values), then the rest. -/
theorem awp_open [PP Q] {id : Nat} {l : List Oper} (n : Nat) (frees : List Nat) (fv : List AV) (takes : List Nat) (tv : List AV) (pv : List (Nat × AV)) (rest : Plan) (hm : P.follows .mixedOrders = true) (hs : Region.noSelect l.toArray = true) (hl : rest.size + takes.length + frees.length = l.length)
    (h0 : d2F P c l.toArray frees (Array.replicate l.length false) s = some (marks frees (Array.replicate l.length false), puts l.toArray frees fv s))
    (h1 : d2A P c l.toArray n takes (marks frees (Array.replicate l.length false)) [] (puts l.toArray frees fv s) = some (marks takes (marks frees (Array.replicate l.length false)), pends l.toArray pv, puts l.toArray takes tv (puts l.toArray frees fv s)))
    (k : d2B P c l.toArray n (pends l.toArray pv) Q rest (marks takes (marks frees (Array.replicate l.length false))) (puts l.toArray takes tv (puts l.toArray frees fv s))) : AWp P c.nt (.region id l.toArray true) Q s :=
  awp_d2 n frees takes rest hm hs hl h0 h1 k

theorem okG_set {G : List Blk} (h : okG G) (i : Nat) {b : Blk} (hb : b.okm G.length = true) : okG (G.set i b) := by
  unfold okG at *
  rw [List.length_set]
  refine List.all_eq_true.2 fun x hx => ?_
  rcases List.mem_or_eq_of_mem_set hx with h1 | rfl
  · exact List.all_eq_true.1 h _ h1
  · exact hb
end
end Go.Abs
