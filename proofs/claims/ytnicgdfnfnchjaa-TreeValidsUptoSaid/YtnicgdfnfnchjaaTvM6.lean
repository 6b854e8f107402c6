/-
  Put together out of texts of this work: L2, V16.
-/
import Derived.WalkKit
import Derived.ProofKit
import Derived.OpenShut
import Derived.ShutString
import Derived.WideKeyArgs
import Derived.Test.YtnicgdfnfnchjaaTvM5
set_option linter.unusedSimpArgs false
set_option linter.unusedVariables false
/-
  What a statement's arguments read as is data of the abstract state; and the frame of a statement whose parameters are data.
-/
set_option linter.unusedVariables false
namespace Go.Abs
open Go.ChangeShapes Go.RowKit

section
variable {H : Type} {enc : TypeId × Value → H} {P : Program} {W : World} {bulk : DataW H → Nat}

def RowRel (W : World) (pvs : List PV) (cs : List Value) : Prop := pvs.length = cs.length ∧ ∀ (j : Nat) (c : PV), pvs[j]? = some c → RelP (Sg.top W).I c (cs.getD j undef)

/-- A measure of what is read. -/
structure Weigh (bulk : DataW H → Nat) : Prop where
  sl : ∀ e s, (e.map bulk).sum + 1 ≤ bulk (.slice e s)
  ag : ∀ p, (p.map bulk).sum ≤ bulk (.agg p)
  pos : ∀ d, 1 ≤ bulk d

/-- What reads at a type is data of this form. -/
def Dec (bulk : DataW H → Nat) (enc : TypeId × Value → H) (P : Program) (W : World) (m : Nat) (t : TypeId) {α : Type} (row : α → List PV) (sz : α → Nat) : Prop :=
  ∀ cs x, DataW.trod enc P W 0 (fun _ => true) true m t cs = some x → ∃ a : α, RowRel W (row a) cs ∧ sz a ≤ bulk x.1

theorem rowRel_one {p : PV} {x : Value} (h : RelP (Sg.top W).I p x) : RowRel W [p] [x] := by
  refine ⟨rfl, fun j c hc => ?_⟩
  match j with
  | 0 => simp at hc; subst hc; simpa using h
  | j + 1 => simp at hc

theorem dec_int (hb : Weigh bulk) {m : Nat} {t : TypeId} {k : IntKind} (ht : P.underlying t = some (.int k)) : Dec bulk enc P W m t (fun n : Int => [.int k n]) (fun _ => 1) := by
  intro cs x h
  obtain ⟨n, rfl, -, -⟩ := DataW.trod_int ht h
  exact ⟨n, rowRel_one (.int k n), hb.pos _⟩
theorem dec_bool (hb : Weigh bulk) {m : Nat} {t : TypeId} (ht : P.underlying t = some .bool) : Dec bulk enc P W m t (fun b : Bool => [.bool b]) (fun _ => 1) := by
  intro cs x h
  obtain ⟨b, rfl, -⟩ := DataW.trod_bool ht h
  exact ⟨b, rowRel_one (.bool b), hb.pos _⟩
theorem dec_str (hb : Weigh bulk) {m : Nat} {t : TypeId} (ht : P.underlying t = some .string) : Dec bulk enc P W m t (fun s : ByteArray => [.str s]) (fun _ => 1) := by
  intro cs x h
  obtain ⟨s, rfl, -⟩ := DataW.trod_string ht h
  exact ⟨s, rowRel_one (.str s), hb.pos _⟩

theorem cells_get {a : Addr} {n : Nat} {cs : List Value} (h : W.cells? 0 a n = some cs) : cs.length = n ∧ ∀ j, j < n → W.cell? (a.add j) = some (cs.getD j undef) := by
  obtain ⟨-, h1, h2⟩ := World.cells?_some h
  refine ⟨h1, fun j hj => ?_⟩
  rw [h2 j hj]
  simp [List.getD_eq_getElem?_getD, show j < cs.length by omega]

theorem dec_slice (hb : Weigh bulk) {m : Nat} {t e : TypeId} {α : Type} {row : α → List PV} {sz : α → Nat} (ht : P.underlying t = some (.slice e)) (h0 : P.cellsOf e ≠ 0) (hd : ∀ m', m = m' + 1 → Dec bulk enc P W m' e row sz) : Dec bulk enc P W m t (fun l : List α => [.vec (l.map row)]) (fun l => (l.map sz).sum + 1) := by
  intro cs x h
  rcases DataW.trod_slice ht h with ⟨rfl, -⟩ | ⟨a, len, cap, elems, rest, n, hm, rfl, hxe, -, hlc, hcm, hel, hget, -⟩
  · exact ⟨[], rowRel_one (.vec0 _ _), hb.pos _⟩
  · have hdec := hd n hm
    have hex : ∀ i : Fin len, ∃ y : α, ∃ ci, W.cells? 0 (a.add (i.1 * P.cellsOf e)) (P.cellsOf e) = some ci ∧ RowRel W (row y) ci ∧ ∃ z, elems[i.1]? = some z ∧ sz y ≤ bulk z.1 := fun i => by
      have h1 := hget i.1 i.2
      have h2 : ∃ z, elems[i.1]? = some z := ⟨elems[i.1]'(by omega), List.getElem?_eq_getElem (by omega)⟩
      obtain ⟨z, hz⟩ := h2
      rw [hz, Option.bind_eq_some_iff] at h1
      obtain ⟨ci, hc, htr⟩ := h1
      obtain ⟨y, hy, hz'⟩ := hdec _ _ htr
      exact ⟨y, ci, hc, hy, z, hz, hz'⟩
    by_cases hlen : len = 0
    · subst hlen; exact ⟨[], rowRel_one (.vec0 _ _), hb.pos _⟩
    · have hspot : a = ⟨a.block, a.off, none⟩ := by
        obtain ⟨y, ci, hc, hy⟩ := hex ⟨0, by omega⟩
        have h1 := (cells_get hc).2 0 (by omega)
        simp only [Nat.zero_mul, Addr.add, if_true] at h1
        unfold World.cell? at h1
        split at h1
        · split at h1
          · simp at h1
          · rename_i hs
            obtain ⟨b, o, sp⟩ := a
            cases sp with
            | none => rfl
            | some s => simp at hs
        · simp at h1
      rw [hspot] at hex ⊢
      generalize a.block = b at hex
      generalize a.off = o at hex
      let f : Fin len → α := fun i => (hex i).choose
      have hf : ∀ i : Fin len, ∃ ci, W.cells? 0 ((⟨b, o, none⟩ : Addr).add (i.1 * P.cellsOf e)) (P.cellsOf e) = some ci ∧ RowRel W (row (f i)) ci ∧ ∃ z, elems[i.1]? = some z ∧ sz (f i) ≤ bulk z.1 := fun i => (hex i).choose_spec
      have hsum : ((List.ofFn f).map sz).sum + 1 ≤ bulk x.1 := by
        rw [hxe]
        refine Nat.le_trans ?_ (hb.sl _ _)
        have : ∀ (l : List Nat) (r : List Nat), l.length = r.length → (∀ i, i < l.length → l.getD i 0 ≤ r.getD i 0) → l.sum ≤ r.sum := by
          intro l
          induction l with
          | nil => intro r _ _; simp
          | cons a l ih =>
            intro r hl h
            cases r with
            | nil => simp at hl
            | cons b r =>
              have h0 := h 0 (by simp)
              have h1 := ih r (by simpa using hl) (fun i hi => by have := h (i + 1) (by simp; omega); simpa using this)
              simp at h0 ⊢; omega
        refine Nat.add_le_add_right (this _ _ (by simp [hel]) fun i hi => ?_) 1
        have hi' : i < len := by simpa using hi
        obtain ⟨ci, -, -, z, hz, hle⟩ := hf ⟨i, hi'⟩
        have hie : i < elems.length := by omega
        have hz' : elems[i] = z := by
          have := List.getElem?_eq_getElem hie
          rw [hz] at this
          exact (Option.some.inj this).symm
        simp [List.getD_eq_getElem?_getD, hi', hie, hz', hle]
      refine ⟨List.ofFn f, rowRel_one ?_, hsum⟩
      have hl : ((List.ofFn f).map row).length = len := by simp
      have hrow : ∀ i (hi : i < len), ((List.ofFn f).map row)[i]? = some (row (f ⟨i, hi⟩)) := fun i hi => by simp [hi]
      have := RelP.vec (I := (Sg.top W).I) ((List.ofFn f).map row) b o cap (P.cellsOf e) (fun i j => if hi : i < len then (hf ⟨i, hi⟩).choose.getD j undef else undef)
        (fun r hr => by
          obtain ⟨i, hi, rfl⟩ := List.mem_iff_getElem.1 hr
          have hi' : i < len := by rw [hl] at hi; exact hi
          have hs := (hf ⟨i, hi'⟩).choose_spec
          have : ((List.ofFn f).map row)[i] = row (f ⟨i, hi'⟩) := by simp
          rw [this, hs.2.1.1]
          exact (cells_get hs.1).1)
        (fun i j hi hj => by
          have hi' : i < len := by rw [hl] at hi; exact hi
          have hs := (hf ⟨i, hi'⟩).choose_spec
          simp only [dif_pos hi']
          have h2 := (cells_get hs.1).2 j hj
          generalize (hf ⟨i, hi'⟩).choose = ci at h2 ⊢
          rw [add_none, add_none] at h2
          exact h2)
        (fun i r j c hr hc => by
          have hi' : i < len := by have := (List.getElem?_eq_some_iff.1 hr).1; rw [hl] at this; exact this
          rw [hrow i hi'] at hr
          cases hr
          have hs := (hf ⟨i, hi'⟩).choose_spec
          simp only [dif_pos hi']
          exact hs.2.1.2 j c hc)
        (by rw [hl]; omega) (by rw [hl]; exact hlc)
      rw [hl] at this
      exact this

/-- A field of one cell. -/
theorem dec_field {n : Nat} {t : TypeId} {cs : List Value} {off : Nat} {α : Type} {p : α → PV} {sz : α → Nat} {y : DataW H × List MemPlace} (hd : Dec bulk enc P W n t (fun a => [p a]) sz) (h1 : P.cellsOf t = 1) (h : DataW.trod enc P W 0 (fun _ => true) true n t ((cs.drop off).take (P.cellsOf t)) = some y) :
    ∃ a : α, RelP (Sg.top W).I (p a) (cs.getD off undef) ∧ sz a ≤ bulk y.1 := by
  obtain ⟨a, ⟨hl, hr⟩, hz⟩ := hd _ _ h
  refine ⟨a, ?_, hz⟩
  have := hr 0 (p a) rfl
  rw [h1] at hl this
  have ho : off < cs.length := by
    simp at hl
    omega
  simpa [List.getD_eq_getElem?_getD, List.getElem?_take, List.getElem?_drop] using this

theorem dec_struct (hb : Weigh bulk) {m : Nat} {t : TypeId} {fs : Array Field} {cs : List Value} {x : DataW H × List MemPlace} (ht : P.underlying t = some (.struct fs)) (h : DataW.trod enc P W 0 (fun _ => true) true m t cs = some x) :
    ∃ (n : Nat) (xs : List (DataW H × List MemPlace)), m = n + 1 ∧ cs.length = P.cellsOf t ∧ xs.length = fs.size ∧ (xs.map fun y => bulk y.1).sum ≤ bulk x.1 ∧
      ∀ (i : Nat) (f : Field), fs[i]? = some f → DataW.trod enc P W 0 (fun _ => true) true n f.type ((cs.drop f.offset).take (P.cellsOf f.type)) = xs[i]? := by
  obtain ⟨xs, n, hm, hx0, hl, hx, hf⟩ := DataW.trod_struct ht h
  refine ⟨n, xs, hm, hl, hx, ?_, hf⟩
  have := hb.ag (xs.map (·.1))
  rw [hx0]
  simpa [List.map_map, Function.comp_def] using this

theorem rowRel_cells {ps : List PV} {cs : List Value} (hl : ps.length = cs.length) (h : ∀ i, i < ps.length → ∀ c, ps[i]? = some c → RelP (Sg.top W).I c (cs.getD i undef)) : RowRel W ps cs :=
  ⟨hl, fun j c hc => h j (List.getElem?_eq_some_iff.1 hc).1 c hc⟩

/-- A parameter that is a struct. -/
theorem rel_struct {t : TypeId} {fs : Array Field} {v : Value} {base : Nat} {d : DataW H} {ps : List MemPlace} {α : Type} {row : α → List PV} {sz : α → Nat} (ht : P.underlying t = some (.struct fs)) (hv : Value.okWide P W .any base t v) (h : DataW.Trod enc P W 0 (fun _ => true) true t v d ps)
    (hd : ∀ m, Dec bulk enc P W m t row sz) : ∃ a : α, Rel (Sg.top W) (.agg ((row a).map .p)) v ∧ sz a ≤ bulk d := by
  obtain ⟨n, hn⟩ := h
  obtain ⟨a, ha, hz⟩ := hd n _ _ hn
  unfold Value.okWide at hv
  rw [ht] at hv
  obtain ⟨cs, rfl, -, -⟩ := hv
  refine ⟨a, .agg ?_ fun i x hx => ?_, hz⟩
  · have := ha.1
    rw [List.length_map, this]
    rfl
  · rw [List.getElem?_map, Option.map_eq_some_iff] at hx
    obtain ⟨c, hc, rfl⟩ := hx
    have := ha.2 i c hc
    refine .p ?_
    have e : (Value.agg cs).cells.toList.getD i undef = cs.getD i undef := by
      show cs.toList.getD i undef = _
      simp [Array.getD_eq_getD_getElem?, List.getD_eq_getElem?_getD]
    rwa [e] at this

/-- A parameter that is a slice. -/
theorem rel_slice {t e : TypeId} {v : Value} {base : Nat} {d : DataW H} {ps : List MemPlace} {α : Type} {p : α → PV} {sz : α → Nat} (ht : P.underlying t = some (.slice e)) (hv : Value.okWide P W .any base t v) (h : DataW.Trod enc P W 0 (fun _ => true) true t v d ps)
    (hd : ∀ m, Dec bulk enc P W m t (fun a => [p a]) sz) : ∃ a : α, Rel (Sg.top W) (.p (p a)) v ∧ sz a ≤ bulk d := by
  obtain ⟨a0, len, cap, rfl⟩ := Go.WideShapes.okWide_slice ht hv
  obtain ⟨n, hn⟩ := h
  obtain ⟨a, ha, hz⟩ := hd n _ _ hn
  exact ⟨a, .p (by simpa [Value.cells] using ha.2 0 (p a) rfl), hz⟩

theorem Below.of_post {σ' : Sg} {w w' : World} (h : Post (Sg.top w) σ' w w') : Go.RowKit.Below w.heap.size w w' :=
  ⟨h.os, h.tape, h.output, h.size, fun k hk => h.frame k hk top_owns⟩

/-- A statement's call, by its contract. -/
theorem calls_law2 {f : FuncId} {args : List AV} {args' : Array Value} {w : World} {R : AEnd → List Blk → Prop} (h : ACalls P f args [] R) (hsz : args'.size = args.length)
    (hrel : ∀ (i : Nat) (v : AV), args[i]? = some v → Rel (Sg.top w) v (args'.getD i undef)) (hR : ∀ r G, R r G → r = .ret (.p (.bool true))) :
    Calls P f args' w fun e w' => e = .returned (.bool true) ∧ Go.RowKit.Grown w w' ∧ Go.RowKit.Below w.heap.size w w' := by
  have hs : RelS (Sg.top w) (.args args []) args.length { tmps := args', defers := [] } w := by
    refine ⟨hsz, rfl, fun t x h => ?_, fun k blk h => ?_, fun k blk h => ?_, fun id h => rfl, fun t h => rfl, ⟨?_, ?_, ?_, ?_, ?_, ?_, fun _ _ _ h => h⟩⟩
    · simp only [St.args, get_zipTs, Nat.zero_le, if_true, Nat.sub_zero] at h
      exact ⟨(List.getElem?_eq_some_iff.1 h).1, hrel t x h⟩
    · cases k <;> simp [St.look, St.args, get] at h
    · cases k <;> simp [St.look, St.args, get] at h
    all_goals intros; simp_all [Sg.top]
  refine (h.2 (Sg.top w) args' w hs (fun k b h => by simp [Sg.top] at h) (fun t x h => by simp [Sg.top] at h)).mono ?_
  rintro e w' ⟨r, G', σ', h1, h2, h3, h4, h5, h6⟩
  have := hR _ _ h6
  subst this
  cases h1 with | ret hv _ =>
  exact ⟨by rw [bool_inv hv], Grown.of_post h5, Below.of_post h5⟩

/-- The arguments read behind the call as they did. -/
theorem trodAll_stays (hl : laidOutB P = true) {W' : World} {sp' : Nat → Bool} : ∀ {ts : List TypeId} {vs : List Value} {ds : List (DataW H)} {ps : List MemPlace}, (∀ t ∈ ts, P.readableRec t = true ∧ t < P.types.size) →
    DataW.TrodAll enc P W 0 (fun _ => true) true ts vs ds ps → (∀ p ∈ ps, W.sameAt W' p) → (∀ p ∈ ps, sp' p.block = true) → DataW.TrodAll enc P W' 0 sp' true ts vs ds ps
  | [], [], [], _, _, h, _, _ => h
  | t :: ts, v :: vs, d :: ds, _, ht, ⟨p, q, h1, h2, rfl⟩, hs, hp =>
    ⟨p, q, Go.WideElems.Trod_stays hl (ht t (by simp)).1 (ht t (by simp)).2 h1 (fun x hx => hs x (by simp [hx])) (fun x hx => hp x (by simp [hx])),
      trodAll_stays hl (fun t h => ht t (by simp [h])) h2 (fun x hx => hs x (by simp [hx])) (fun x hx => hp x (by simp [hx])), rfl⟩
  | [], [], _ :: _, _, _, h, _, _ => h.elim
  | [], _ :: _, _, _, _, h, _, _ => h.elim
  | _ :: _, [], _, _, _, h, _, _ => h.elim
  | _ :: _, _ :: _, [], _, _, h, _, _ => h.elim
end
end Go.Abs

/-
  What reads as tree code is tree code.
-/
set_option linter.unusedVariables false
set_option maxRecDepth 100000
namespace Go.Proofs.Ytnicgdfnfnchjaa
open Go.Abs

mutual
def E.wt : E → Nat
  | .mk _ _ _ kids => E.wts kids + 1
def E.wts : List E → Nat
  | [] => 0
  | e :: r => e.wt + E.wts r
end
mutual
def S.wt : S → Nat
  | .mk _ _ exprs body other => E.wts exprs + S.wts body + S.wts other + 1
def S.wts : List S → Nat
  | [] => 0
  | e :: r => e.wt + S.wts r
end
def F.wt (f : F) : Nat := S.wts f.body + 1
def RF.wt (_ : RF) : Nat := 1
def D.wt (d : D) : Nat := d.words.length + d.refs.length + 1
def M.wt (m : M) : Nat := (m.funcs.map F.wt).sum + (m.datas.map D.wt).sum + 1

theorem E.wts_eq : ∀ l : List E, E.wts l = (l.map E.wt).sum
  | [] => rfl
  | e :: r => by simp [E.wts, E.wts_eq r]
theorem S.wts_eq : ∀ l : List S, S.wts l = (l.map S.wt).sum
  | [] => rfl
  | e :: r => by simp [S.wts, S.wts_eq r]
theorem sum_ones {α : Type} : ∀ l : List α, (l.map fun _ => 1).sum = l.length
  | [] => rfl
  | e :: r => by simp [sum_ones r]; omega
theorem len_le_sum {α : Type} {f : α → Nat} (h : ∀ a, 1 ≤ f a) : ∀ l : List α, l.length ≤ (l.map f).sum
  | [] => by simp
  | e :: r => by have := len_le_sum h r; have := h e; simp; omega

theorem cells2 : Try.prog.cellsOf 2 = 1 := by kernel_rfl
theorem cells3 : Try.prog.cellsOf 3 = 1 := by kernel_rfl
theorem cells4 : Try.prog.cellsOf 4 = 1 := by kernel_rfl
theorem cells9 : Try.prog.cellsOf 9 = 1 := by kernel_rfl
theorem cells22 : Try.prog.cellsOf 22 = 1 := by kernel_rfl
theorem cells23 : Try.prog.cellsOf 23 = 1 := by kernel_rfl
theorem cells43 : Try.prog.cellsOf 43 = 1 := by kernel_rfl
theorem cells46 : Try.prog.cellsOf 46 = 1 := by kernel_rfl
theorem cells72 : Try.prog.cellsOf 72 = 1 := by kernel_rfl
theorem cells73 : Try.prog.cellsOf 73 = 1 := by kernel_rfl
theorem cells25 : Try.prog.cellsOf 25 = 3 := by kernel_rfl
theorem cells45 : Try.prog.cellsOf 45 = 5 := by kernel_rfl
theorem cells48 : Try.prog.cellsOf 48 = 5 := by kernel_rfl
theorem cells70 : Try.prog.cellsOf 70 = 4 := by kernel_rfl
theorem cells75 : Try.prog.cellsOf 75 = 4 := by kernel_rfl
theorem cells133 : Try.prog.cellsOf 133 = 2 := by kernel_rfl

section
variable {H : Type} {enc : TypeId × Value → H} {W : World} {bulk : DataW H → Nat} (hb : Weigh bulk)
include hb
theorem dec_E : ∀ m, Dec bulk enc Try.prog W m 70 E.row E.wt := by
  intro m
  induction m using Nat.strongRecOn with | ind m ih => ?_
  intro cs x h
  obtain ⟨n, xs, rfl, hl, hx, hs, hf⟩ := dec_struct hb Try.underlying70 h
  rw [cells70] at hl
  obtain ⟨y0, y1, y2, y3, rfl⟩ : ∃ y0 y1 y2 y3, xs = [y0, y1, y2, y3] := by
    match xs, hx with
    | [y0, y1, y2, y3], _ => exact ⟨y0, y1, y2, y3, rfl⟩
  obtain ⟨op, r0, z0⟩ := dec_field (off := 0) (dec_int hb Try.underlying3) cells3 (hf 0 _ rfl)
  obtain ⟨n, r1, z1⟩ := dec_field (off := 1) (dec_int hb Try.underlying2) cells2 (hf 1 _ rfl)
  obtain ⟨nm, r2, z2⟩ := dec_field (off := 2) (dec_str hb Try.underlying9) cells9 (hf 2 _ rfl)
  obtain ⟨ks, r3, z3⟩ := dec_field (off := 3) (dec_slice hb Try.underlying46 (by rw [cells70]; decide) (fun k hk => ih k (by omega))) cells46 (hf 3 _ rfl)
  refine ⟨.mk op n nm ks, rowRel_cells (by rw [hl]; rfl) (fun i hi c hc => ?_), ?_⟩
  · match i, hi with
    | 0, _ => have e : j64 op = c := Option.some.inj hc; rw [← e]; exact r0
    | 1, _ => have e : j64 n = c := Option.some.inj hc; rw [← e]; exact r1
    | 2, _ => have e : .str nm = c := Option.some.inj hc; rw [← e]; exact r2
    | 3, _ => have e : .vec (E.rows ks) = c := Option.some.inj hc; rw [← e]; rw [E.rows_eq]; exact r3
  · simp only [List.map_cons, List.map_nil, List.sum_cons, List.sum_nil] at hs
    simp only [E.wt, E.wts_eq]; omega
theorem dec_S : ∀ m, Dec bulk enc Try.prog W m 48 S.row S.wt := by
  intro m
  induction m using Nat.strongRecOn with | ind m ih => ?_
  intro cs x h
  obtain ⟨n, xs, rfl, hl, hx, hs, hf⟩ := dec_struct hb Try.underlying48 h
  rw [cells48] at hl
  obtain ⟨y0, y1, y2, y3, y4, rfl⟩ : ∃ y0 y1 y2 y3 y4, xs = [y0, y1, y2, y3, y4] := by
    match xs, hx with
    | [y0, y1, y2, y3, y4], _ => exact ⟨y0, y1, y2, y3, y4, rfl⟩
  obtain ⟨op, r0, z0⟩ := dec_field (off := 0) (dec_int hb Try.underlying3) cells3 (hf 0 _ rfl)
  obtain ⟨n, r1, z1⟩ := dec_field (off := 1) (dec_int hb Try.underlying2) cells2 (hf 1 _ rfl)
  obtain ⟨ex, r2, z2⟩ := dec_field (off := 2) (dec_slice hb Try.underlying46 (by rw [cells70]; decide) (fun k hk => dec_E hb k)) cells46 (hf 2 _ rfl)
  obtain ⟨bo, r3, z3⟩ := dec_field (off := 3) (dec_slice hb Try.underlying43 (by rw [cells48]; decide) (fun k hk => ih k (by omega))) cells43 (hf 3 _ rfl)
  obtain ⟨ot, r4, z4⟩ := dec_field (off := 4) (dec_slice hb Try.underlying43 (by rw [cells48]; decide) (fun k hk => ih k (by omega))) cells43 (hf 4 _ rfl)
  refine ⟨.mk op n ex bo ot, rowRel_cells (by rw [hl]; rfl) (fun i hi c hc => ?_), ?_⟩
  · match i, hi with
    | 0, _ => have e : j64 op = c := Option.some.inj hc; rw [← e]; exact r0
    | 1, _ => have e : j64 n = c := Option.some.inj hc; rw [← e]; exact r1
    | 2, _ => have e : .vec (E.rows ex) = c := Option.some.inj hc; rw [← e]; rw [E.rows_eq]; exact r2
    | 3, _ => have e : .vec (S.rows bo) = c := Option.some.inj hc; rw [← e]; rw [S.rows_eq]; exact r3
    | 4, _ => have e : .vec (S.rows ot) = c := Option.some.inj hc; rw [← e]; rw [S.rows_eq]; exact r4
  · simp only [List.map_cons, List.map_nil, List.sum_cons, List.sum_nil] at hs
    simp only [S.wt, E.wts_eq, S.wts_eq]; omega
theorem dec_F : ∀ m, Dec bulk enc Try.prog W m 45 F.row F.wt := by
  intro m
  intro cs x h
  obtain ⟨n, xs, rfl, hl, hx, hs, hf⟩ := dec_struct hb Try.underlying45 h
  rw [cells45] at hl
  obtain ⟨y0, y1, y2, y3, y4, rfl⟩ : ∃ y0 y1 y2 y3 y4, xs = [y0, y1, y2, y3, y4] := by
    match xs, hx with
    | [y0, y1, y2, y3, y4], _ => exact ⟨y0, y1, y2, y3, y4, rfl⟩
  obtain ⟨nm, r0, z0⟩ := dec_field (off := 0) (dec_str hb Try.underlying9) cells9 (hf 0 _ rfl)
  obtain ⟨wk, r1, z1⟩ := dec_field (off := 1) (dec_bool hb Try.underlying4) cells4 (hf 1 _ rfl)
  obtain ⟨ps, r2, z2⟩ := dec_field (off := 2) (dec_int hb Try.underlying3) cells3 (hf 2 _ rfl)
  obtain ⟨ls, r3, z3⟩ := dec_field (off := 3) (dec_int hb Try.underlying3) cells3 (hf 3 _ rfl)
  obtain ⟨bo, r4, z4⟩ := dec_field (off := 4) (dec_slice hb Try.underlying43 (by rw [cells48]; decide) (fun k hk => dec_S hb k)) cells43 (hf 4 _ rfl)
  refine ⟨⟨nm, wk, ps, ls, bo⟩, rowRel_cells (by rw [hl]; rfl) (fun i hi c hc => ?_), ?_⟩
  · match i, hi with
    | 0, _ => have e : .str nm = c := Option.some.inj hc; rw [← e]; exact r0
    | 1, _ => have e : .bool wk = c := Option.some.inj hc; rw [← e]; exact r1
    | 2, _ => have e : j64 ps = c := Option.some.inj hc; rw [← e]; exact r2
    | 3, _ => have e : j64 ls = c := Option.some.inj hc; rw [← e]; exact r3
    | 4, _ => have e : .vec (S.rows bo) = c := Option.some.inj hc; rw [← e]; rw [S.rows_eq]; exact r4
  · simp only [List.map_cons, List.map_nil, List.sum_cons, List.sum_nil] at hs
    simp only [F.wt, S.wts_eq]; omega
theorem dec_RF : ∀ m, Dec bulk enc Try.prog W m 133 RF.row RF.wt := by
  intro m
  intro cs x h
  obtain ⟨n, xs, rfl, hl, hx, hs, hf⟩ := dec_struct hb Try.underlying133 h
  rw [cells133] at hl
  obtain ⟨y0, y1, rfl⟩ : ∃ y0 y1, xs = [y0, y1] := by
    match xs, hx with
    | [y0, y1], _ => exact ⟨y0, y1, rfl⟩
  obtain ⟨at_, r0, z0⟩ := dec_field (off := 0) (dec_int hb Try.underlying3) cells3 (hf 0 _ rfl)
  obtain ⟨nm, r1, z1⟩ := dec_field (off := 1) (dec_str hb Try.underlying9) cells9 (hf 1 _ rfl)
  refine ⟨⟨at_, nm⟩, rowRel_cells (by rw [hl]; rfl) (fun i hi c hc => ?_), ?_⟩
  · match i, hi with
    | 0, _ => have e : j64 at_ = c := Option.some.inj hc; rw [← e]; exact r0
    | 1, _ => have e : .str nm = c := Option.some.inj hc; rw [← e]; exact r1
  · simp only [List.map_cons, List.map_nil, List.sum_cons, List.sum_nil] at hs
    simp only [RF.wt]; omega
theorem dec_W : ∀ m, Dec bulk enc Try.prog W m 2 wordRow (fun _ => 1) := fun m => dec_int hb Try.underlying2
theorem dec_D : ∀ m, Dec bulk enc Try.prog W m 75 D.row D.wt := by
  intro m
  intro cs x h
  obtain ⟨n, xs, rfl, hl, hx, hs, hf⟩ := dec_struct hb Try.underlying75 h
  rw [cells75] at hl
  obtain ⟨y0, y1, y2, y3, rfl⟩ : ∃ y0 y1 y2 y3, xs = [y0, y1, y2, y3] := by
    match xs, hx with
    | [y0, y1, y2, y3], _ => exact ⟨y0, y1, y2, y3, rfl⟩
  obtain ⟨nm, r0, z0⟩ := dec_field (off := 0) (dec_str hb Try.underlying9) cells9 (hf 0 _ rfl)
  obtain ⟨wk, r1, z1⟩ := dec_field (off := 1) (dec_bool hb Try.underlying4) cells4 (hf 1 _ rfl)
  obtain ⟨ws, r2, z2⟩ := dec_field (off := 2) (dec_slice hb Try.underlying72 (by rw [cells2]; decide) (fun k hk => dec_W hb k)) cells72 (hf 2 _ rfl)
  obtain ⟨rs, r3, z3⟩ := dec_field (off := 3) (dec_slice hb Try.underlying73 (by rw [cells133]; decide) (fun k hk => dec_RF hb k)) cells73 (hf 3 _ rfl)
  refine ⟨⟨nm, wk, ws, rs⟩, rowRel_cells (by rw [hl]; rfl) (fun i hi c hc => ?_), ?_⟩
  · match i, hi with
    | 0, _ => have e : .str nm = c := Option.some.inj hc; rw [← e]; exact r0
    | 1, _ => have e : .bool wk = c := Option.some.inj hc; rw [← e]; exact r1
    | 2, _ => have e : .vec (ws.map wordRow) = c := Option.some.inj hc; rw [← e]; exact r2
    | 3, _ => have e : .vec (rs.map RF.row) = c := Option.some.inj hc; rw [← e]; exact r3
  · simp only [List.map_cons, List.map_nil, List.sum_cons, List.sum_nil] at hs
    have e1 := sum_ones ws
    have e2 := sum_ones rs
    simp only [D.wt]
    have z3' : (rs.map fun _ => 1).sum + 1 ≤ bulk y3.1 := z3
    omega
theorem dec_M : ∀ m, Dec bulk enc Try.prog W m 25 M.row M.wt := by
  intro m
  intro cs x h
  obtain ⟨n, xs, rfl, hl, hx, hs, hf⟩ := dec_struct hb Try.underlying25 h
  rw [cells25] at hl
  obtain ⟨y0, y1, y2, rfl⟩ : ∃ y0 y1 y2, xs = [y0, y1, y2] := by
    match xs, hx with
    | [y0, y1, y2], _ => exact ⟨y0, y1, y2, rfl⟩
  obtain ⟨pk, r0, z0⟩ := dec_field (off := 0) (dec_str hb Try.underlying9) cells9 (hf 0 _ rfl)
  obtain ⟨fs, r1, z1⟩ := dec_field (off := 1) (dec_slice hb Try.underlying22 (by rw [cells45]; decide) (fun k hk => dec_F hb k)) cells22 (hf 1 _ rfl)
  obtain ⟨ds, r2, z2⟩ := dec_field (off := 2) (dec_slice hb Try.underlying23 (by rw [cells75]; decide) (fun k hk => dec_D hb k)) cells23 (hf 2 _ rfl)
  refine ⟨⟨pk, fs, ds⟩, rowRel_cells (by rw [hl]; rfl) (fun i hi c hc => ?_), ?_⟩
  · match i, hi with
    | 0, _ => have e : .str pk = c := Option.some.inj hc; rw [← e]; exact r0
    | 1, _ => have e : .vec (fs.map F.row) = c := Option.some.inj hc; rw [← e]; exact r1
    | 2, _ => have e : .vec (ds.map D.row) = c := Option.some.inj hc; rw [← e]; exact r2
  · simp only [List.map_cons, List.map_nil, List.sum_cons, List.sum_nil] at hs
    simp only [M.wt]; omega
end

theorem M.wt_fit {m : M} {k : Nat} (h : m.wt ≤ k) (hk : k < 1000000000) : m.fit := by
  have h1 := len_le_sum (f := F.wt) (fun a => by simp [F.wt]) m.funcs
  have h2 := len_le_sum (f := D.wt) (fun a => by simp [D.wt]) m.datas
  simp only [M.wt] at h
  exact ⟨by omega, by omega⟩
end Go.Proofs.Ytnicgdfnfnchjaa

