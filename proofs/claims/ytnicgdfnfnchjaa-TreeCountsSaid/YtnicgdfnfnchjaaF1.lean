/-
  The order of a region's operations, reckoned with numbers for sets.
-/
import Derived.StillTail
import Derived.OrdersHeld
set_option linter.unusedVariables false
namespace Go.Abs

/-- A set of numbers as a number. -/
def maskL : List Nat → Nat
  | [] => 0
  | i :: r => (1 <<< i) ||| maskL r

theorem testBit_maskL : ∀ (l : List Nat) (j : Nat), (maskL l).testBit j = l.contains j
  | [], j => by simp [maskL]
  | i :: r, j => by
    simp only [maskL, Nat.testBit_or, testBit_maskL r j, List.contains_cons]
    congr 1
    rw [Nat.one_shiftLeft, Nat.testBit_two_pow]
    by_cases h : i = j
    · subst h; simp
    · have : (j == i) = false := by simpa using fun e => h e.symm
      simp [h, this]

/-- Which are listed. -/
def maskA : List Bool → Nat
  | [] => 0
  | b :: r => (if b then 1 else 0) + 2 * maskA r

theorem testBit_maskA : ∀ (l : List Bool) (j : Nat), (maskA l).testBit j = l.getD j false
  | [], j => by simp [maskA]
  | b :: r, 0 => by cases b <;> simp [maskA, Nat.testBit_zero] <;> omega
  | b :: r, j + 1 => by
    rw [Nat.testBit_succ]
    have : maskA (b :: r) / 2 = maskA r := by cases b <;> simp [maskA] <;> omega
    rw [this, testBit_maskA r j]
    simp

/-- What an operation waits for. -/
def eOf (o : Oper) : Nat := maskL ((o.after.toList.filter (Region.binds .any)).map (·.on))

theorem testBit_eOf {o : Oper} {i : Nat} : (eOf o).testBit i = true ↔ ∃ e ∈ o.after, Region.binds .any e = true ∧ e.on = i := by
  unfold eOf
  rw [testBit_maskL]
  simp only [List.contains_iff_mem, List.mem_map, List.mem_filter, Array.mem_toList_iff]
  constructor
  · rintro ⟨e, ⟨h1, h2⟩, h3⟩; exact ⟨e, h1, h2, h3⟩
  · rintro ⟨e, h1, h2, h3⟩; exact ⟨e, ⟨h1, h2⟩, h3⟩

def sub (a b : Nat) : Bool := a &&& b == a

theorem sub_iff {a b : Nat} : sub a b = true ↔ ∀ i, a.testBit i = true → b.testBit i = true := by
  unfold sub
  rw [beq_iff_eq]
  constructor
  · intro h i hi
    have : (a &&& b).testBit i = true := by rw [h]; exact hi
    rw [Nat.testBit_and, Bool.and_eq_true] at this
    exact this.2
  · intro h
    apply Nat.eq_of_testBit_eq
    intro i
    rw [Nat.testBit_and]
    cases hi : a.testBit i with
    | false => rfl
    | true => rw [h i hi]; rfl

def readyGo (L : Nat) : Nat → List Oper → List Nat
  | _, [] => []
  | i, o :: r => if !L.testBit i && sub (eOf o) L then i :: readyGo L (i + 1) r else readyGo L (i + 1) r

def readyF (ops : Array Oper) (listed : Array Bool) : List Nat := readyGo (maskA listed.toList) 0 ops.toList

theorem getD_toList (listed : Array Bool) (j : Nat) (b : Bool) : listed.toList.getD j b = listed.getD j b := by
  rw [List.getD_eq_getElem?_getD, Array.getD_eq_getD_getElem?, Array.getElem?_toList]

theorem readyGo_eq (ops : Array Oper) (listed : Array Bool) (hs : listed.size = ops.size) : ∀ (l : List Oper) (k : Nat), (∀ j, l[j]? = ops[k + j]?) →
    readyGo (maskA listed.toList) k l = (List.range' k l.length).filter fun i => !listed.getD i true && ((ops[i]?).map (·.after.all fun e => !Region.binds .any e || listed.getD e.on false)).getD false
  | [], k, _ => by simp [readyGo]
  | o :: l, k, h => by
    have h0 : ops[k]? = some o := by simpa using (h 0).symm
    have hk : k < ops.size := (Array.getElem?_eq_some_iff.1 h0).1
    have ih := readyGo_eq ops listed hs l (k + 1) (fun j => by have := h (j + 1); simpa [Nat.add_assoc, Nat.add_comm 1 j] using this)
    have hT : (maskA listed.toList).testBit k = listed.getD k true := by
      rw [testBit_maskA, getD_toList]
      simp [hs, hk]
    have hE : sub (eOf o) (maskA listed.toList) = o.after.all fun e => !Region.binds .any e || listed.getD e.on false := by
      rw [Bool.eq_iff_iff, sub_iff, Array.all_eq_true_iff_forall_mem]
      constructor
      · intro h e he
        cases hb : Region.binds .any e with
        | false => rfl
        | true =>
          have := h e.on (testBit_eOf.2 ⟨e, he, hb, rfl⟩)
          rw [testBit_maskA, getD_toList] at this
          simp only [Bool.not_true, Bool.false_or]; exact this
      · intro h i hi
        obtain ⟨e, he, hb, rfl⟩ := testBit_eOf.1 hi
        have := h e he
        rw [hb] at this
        rw [testBit_maskA, getD_toList]
        simpa using this
    simp only [readyGo, List.length_cons, List.range'_succ, List.filter_cons, h0, Option.map_some, Option.getD_some, hT, hE, ih]

theorem readyF_eq {ops : Array Oper} {listed : Array Bool} (hs : listed.size = ops.size) : readyF ops listed = Region.ready .any ops listed := by
  unfold readyF Region.ready
  rw [readyGo_eq ops listed hs ops.toList 0 (by simp), List.range_eq_range']
  simp

/-- Slots as a set. -/
def dOf (o : Oper) : Nat := match o.dst with | some d => 1 <<< d | none => 0
def lOf (ops : Array Oper) (o : Oper) : Nat := maskL (o.looksAt ops)

def apartF (ops : Array Oper) (x y : Oper) : Bool := (dOf x &&& lOf ops y == 0) && (dOf x &&& dOf y == 0) && (dOf y &&& lOf ops x == 0)

theorem and_shift {d m : Nat} (h : (1 <<< d) &&& m = 0) : m.testBit d = false := by
  have : ((1 <<< d) &&& m).testBit d = false := by rw [h]; simp
  rw [Nat.testBit_and, Nat.one_shiftLeft, Nat.testBit_two_pow] at this
  simpa using this

theorem apartF_apart {ops : Array Oper} {x y : Oper} (h : apartF ops x y = true) : x.apart ops y = true := by
  simp only [apartF, Bool.and_eq_true, beq_iff_eq] at h
  obtain ⟨⟨h1, h2⟩, h3⟩ := h
  unfold Oper.apart
  rw [Bool.and_eq_true]
  constructor
  · cases hd : x.dst with
    | none => rfl
    | some d =>
      simp only [dOf, hd] at h1 h2
      have q1 := and_shift h1
      rw [lOf, testBit_maskL] at q1
      have q2 : y.dst ≠ some d := fun e => by
        simp only [e] at h2
        have := and_shift h2
        rw [Nat.one_shiftLeft, Nat.testBit_two_pow] at this
        simp at this
      simp only [q1, Bool.not_false, Bool.true_and, bne_iff_ne, ne_eq]
      exact q2
  · cases hd : y.dst with
    | none => rfl
    | some d =>
      simp only [dOf, hd] at h3
      have q1 := and_shift h3
      rw [lOf, testBit_maskL] at q1
      simp only [q1, Bool.not_false]

def freeGo (ops : Array Oper) (L i : Nat) (oi : Oper) : Nat → List Oper → Bool
  | _, [] => true
  | j, oj :: r => (j == i || L.testBit j || (eOf oj).testBit i || apartF ops oi oj) && freeGo ops L i oi (j + 1) r

def freeF (ops : Array Oper) (listed : Array Bool) (i : Nat) : Bool :=
  match ops[i]? with
  | none => false
  | some oi => freeGo ops (maskA listed.toList) i oi 0 ops.toList

theorem freeGo_spec {ops : Array Oper} {L i : Nat} {oi : Oper} : ∀ (l : List Oper) (k : Nat), freeGo ops L i oi k l = true → ∀ (j : Nat) (oj : Oper), l[j]? = some oj → (k + j == i || L.testBit (k + j) || (eOf oj).testBit i || apartF ops oi oj) = true
  | [], k, h, j, oj, hj => by simp at hj
  | o :: l, k, h, j, oj, hj => by
    simp only [freeGo, Bool.and_eq_true] at h
    cases j with
    | zero => simp at hj; subst hj; exact h.1
    | succ j =>
      have := freeGo_spec l (k + 1) h.2 j oj (by simpa using hj)
      rwa [show k + 1 + j = k + (j + 1) by omega] at this

theorem freeF_free {ops : Array Oper} {listed : Array Bool} (hs : listed.size = ops.size) {i : Nat} (h : freeF ops listed i = true) : Region.free .any ops listed i = true := by
  unfold freeF at h
  unfold Region.free
  cases hi : ops[i]? with
  | none => simp [hi] at h
  | some oi =>
    simp only [hi] at h ⊢
    refine List.all_eq_true.2 fun j hj => ?_
    have hj' : j < ops.size := List.mem_range.1 hj
    have hoj : ops[j]? = some ops[j] := by simp [hj']
    have hoj' : ops.toList[j]? = some ops[j] := by rw [Array.getElem?_toList]; exact hoj
    have := freeGo_spec _ 0 h j ops[j] hoj'
    rw [Nat.zero_add, testBit_maskA, getD_toList] at this
    simp only [Bool.or_eq_true, hoj] at this ⊢
    rcases this with ((h | h) | h) | h
    · exact .inl (.inl h)
    · exact .inl (.inr (by simpa [hs, hj'] using h))
    · refine .inr (.inl ?_)
      obtain ⟨e, he, hb, rfl⟩ := testBit_eOf.1 h
      exact Array.any_eq_true'.2 ⟨e, he, by simp [hb]⟩
    · exact .inr (.inr (apartF_apart h))

section
variable {ops : Array Oper} {md : Region.Mode}

/-- j waits for i, itself or by way of others. -/
inductive Waits (md : Region.Mode) (ops : Array Oper) (i : Nat) : Nat → Prop where
  | one {j : Nat} {oj : Oper} {e : Edge} (hj : ops[j]? = some oj) (he : e ∈ oj.after) (hb : Region.binds md e = true) (hi : e.on = i) : Waits md ops i j
  | step {j : Nat} {oj : Oper} {e : Edge} (hj : ops[j]? = some oj) (he : e ∈ oj.after) (hb : Region.binds md e = true) (h : Waits md ops i e.on) : Waits md ops i j

theorem waits_listed {listed : Array Bool} (hcl : HeadInv md ops ops.size listed) {i j : Nat} (h : Waits md ops i j) : ∀ oj, ops[j]? = some oj → (∀ e ∈ oj.after, Region.binds md e = true → listed.getD e.on false = true) → listed.getD i false = true := by
  induction h with
  | one hj he hb hi =>
    intro oj' hoj' hall
    rw [hj] at hoj'; cases hoj'
    have := hall _ he hb
    rwa [hi] at this
  | step hj he hb h ih =>
    intro oj' hoj' hall
    rw [hj] at hoj'; cases hoj'
    have hl := hall _ he hb
    rename_i e
    cases hk : ops[e.on]? with
    | none => cases h <;> simp_all
    | some ok => exact ih ok hk (fun e' he' hb' => hcl.closed _ ok hk hl e' he' hb')

end

/-- Who waits for one of D, in turn. -/
def descGo : Nat → Nat → List Oper → Nat
  | D, _, [] => D
  | D, j, o :: r => if eOf o &&& D == 0 then descGo D (j + 1) r else descGo (D ||| (1 <<< j)) (j + 1) r

def lateF (ops : Array Oper) (n i : Nat) : Bool := sub (maskL (List.range' n (ops.size - n))) (descGo (1 <<< i) 0 ops.toList)

theorem descGo_spec {ops : Array Oper} {i : Nat} : ∀ (l : List Oper) (k D : Nat), (∀ j, l[j]? = ops[k + j]?) → (∀ j, D.testBit j = true → j = i ∨ Waits .any ops i j) → ∀ j, (descGo D k l).testBit j = true → j = i ∨ Waits .any ops i j
  | [], k, D, _, h, j, hj => h j hj
  | o :: l, k, D, hl, h, j, hj => by
    have h0 : ops[k]? = some o := by simpa using (hl 0).symm
    have hl' : ∀ j, l[j]? = ops[k + 1 + j]? := fun j => by have := hl (j + 1); simpa [Nat.add_assoc, Nat.add_comm 1 j] using this
    simp only [descGo] at hj
    split at hj
    · exact descGo_spec l (k + 1) D hl' h j hj
    · rename_i hne
      refine descGo_spec l (k + 1) _ hl' (fun j' hj' => ?_) j hj
      rw [Nat.testBit_or, Bool.or_eq_true] at hj'
      rcases hj' with hj' | hj'
      · exact h j' hj'
      · rw [Nat.one_shiftLeft, Nat.testBit_two_pow] at hj'
        have hjk : k = j' := by simpa using hj'
        subst hjk
        right
        have : eOf o &&& D ≠ 0 := by simpa using hne
        obtain ⟨b, hb⟩ : ∃ b, (eOf o &&& D).testBit b = true := by
          apply Classical.byContradiction
          intro hn
          apply this
          apply Nat.eq_of_testBit_eq
          intro b
          rw [Nat.zero_testBit]
          cases hb : (eOf o &&& D).testBit b with
          | false => rfl
          | true => exact absurd ⟨b, hb⟩ hn
        rw [Nat.testBit_and, Bool.and_eq_true] at hb
        obtain ⟨e, he, hbi, rfl⟩ := testBit_eOf.1 hb.1
        rcases h _ hb.2 with q | q
        · exact .one h0 he hbi q
        · exact .step h0 he hbi q

theorem lateF_waits {ops : Array Oper} {n i : Nat} (h : lateF ops n i = true) (j : Nat) (hj : n ≤ j) (hjs : j < ops.size) : j = i ∨ Waits .any ops i j := by
  refine descGo_spec ops.toList 0 (1 <<< i) (by simp) (fun j hj => ?_) j (sub_iff.1 h j ?_)
  · rw [Nat.one_shiftLeft, Nat.testBit_two_pow] at hj
    left; simpa [eq_comm] using hj
  · rw [testBit_maskL]
    simp only [List.contains_iff_mem, List.mem_range'_1]
    omega

/-! ### one behind the other -/

def lexGo (ops : Array Oper) : Nat → Nat → Array Bool → Bool
  | 0, _, listed => (readyF ops listed).isEmpty
  | fuel + 1, k, listed => (readyF ops listed).contains k && freeF ops listed k && lexGo ops fuel (k + 1) (listed.setIfInBounds k true)

def lexF (ops : Array Oper) : Bool := Region.noSelect ops && lexGo ops ops.size 0 (Array.replicate ops.size false)

theorem lexGo_from {ops : Array Oper} : ∀ (fuel k : Nat) (listed : Array Bool), listed.size = ops.size → lexGo ops fuel k listed = true → Region.lexFrom .any ops fuel k listed = true
  | 0, k, listed, hs, h => by
    simp only [lexGo] at h
    rw [readyF_eq hs] at h
    exact h
  | fuel + 1, k, listed, hs, h => by
    simp only [lexGo, Bool.and_eq_true] at h
    rw [readyF_eq hs] at h
    simp only [Region.lexFrom, Bool.and_eq_true]
    exact ⟨⟨h.1.1, freeF_free hs h.1.2⟩, lexGo_from fuel (k + 1) _ (by simpa using hs) h.2⟩

theorem lexF_lexB {ops : Array Oper} (h : lexF ops = true) : Region.lexB .any ops = true := by
  simp only [lexF, Bool.and_eq_true] at h
  simp only [Region.lexB, Bool.and_eq_true]
  exact ⟨h.1, lexGo_from _ _ _ (by simp) h.2⟩
end Go.Abs
