/-
  Blocks that a call leaves behind may become data.
-/
import Derived.Test.YtnicgdfnfnchjaaA23
set_option linter.unusedVariables false
namespace Go.Abs

open Classical in
/-- Blocks from number m on (of which the ghost knows) turn to data. -/
noncomputable def frzI (m : Nat) (σ : Sg) (w : World) (b o : Nat) : Option Value :=
  match σ.I b o with
  | some v => some v
  | none => if ∃ id, m ≤ id ∧ σ.blk (.g id) = some b then w.cell? ⟨b, o, none⟩ else none

noncomputable def Sg.frz (m : Nat) (σ : Sg) (w : World) : Sg := { σ.cut m with I := frzI m σ w }

def mapO {α β : Type} (f : α → Option β) : List α → Option (List β)
  | [] => some []
  | x :: r => match f x, mapO f r with
    | some y, some l => some (y :: l)
    | _, _ => none

theorem mapO_get {α β : Type} {f : α → Option β} : ∀ {l : List α} {r : List β}, mapO f l = some r → r.length = l.length ∧ ∀ (i : Nat) (y : β), r[i]? = some y → ∃ x, l[i]? = some x ∧ f x = some y
  | [], r, h => by simp only [mapO, Option.some.injEq] at h; subst h; simp
  | x :: l, r, h => by
    simp only [mapO] at h
    split at h
    · rename_i y r' hy hr'
      simp only [Option.some.injEq] at h; subst h
      obtain ⟨h1, h2⟩ := mapO_get hr'
      refine ⟨by simp [h1], fun i z hz => ?_⟩
      cases i with
      | zero => simp at hz; subst hz; exact ⟨x, rfl, hy⟩
      | succ i => simpa using h2 i z (by simpa using hz)
    · cases h

def AV.pv0 : AV → Option PV
  | .p v => some v
  | .own rows _ => some (.vec rows)
  | .full rows => some (.vec rows)
  | _ => none

def cutRows {α : Type} (sz : Nat) : Nat → List α → List (List α)
  | 0, _ => []
  | n + 1, l => l.take sz :: cutRows sz n (l.drop sz)

theorem cutRows_length {α : Type} (sz : Nat) : ∀ (n : Nat) (l : List α), (cutRows sz n l).length = n
  | 0, _ => rfl
  | n + 1, l => by simp [cutRows, cutRows_length sz n]

theorem cutRows_get {α : Type} (sz : Nat) : ∀ (n : Nat) (l : List α) (i : Nat) (row : List α), (cutRows sz n l)[i]? = some row → i < n ∧ row = (l.drop (i * sz)).take sz
  | 0, _, _, _, h => by simp [cutRows] at h
  | n + 1, l, 0, row, h => by simp [cutRows] at h; simp [← h]
  | n + 1, l, i + 1, row, h => by
    simp only [cutRows, List.getElem?_cons_succ] at h
    obtain ⟨h1, h2⟩ := cutRows_get sz n _ i row h
    refine ⟨by omega, ?_⟩
    rw [h2, List.drop_drop, Nat.succ_mul, Nat.add_comm]

/-- A value of the state as data; blocks from m on may be looked into. -/
def pvOf (m : Nat) (G : List Blk) : Nat → AV → Option PV
  | 0, v => v.pv0
  | d + 1, v => match v with
    | .ref (.g id) off len cap => if m ≤ id ∧ len ≤ cap ∧ len ≤ maxLen then match G[id]? with
        | some (.cells cs) => if len * ((cs.length - off) / cap) ≤ cs.length - off then (mapO (mapO (pvOf m G d)) (cutRows ((cs.length - off) / cap) len (cs.drop off))).map .vec else none
        | _ => none
      else none
    | v => v.pv0

def frz1 (m : Nat) (G : List Blk) (d : Nat) (v : AV) : AV :=
  match pvOf m G d v with
  | some p => .p p
  | none => v

def frz2 (m : Nat) (G : List Blk) (d : Nat) : AV → AV
  | .agg l => .agg (l.map (frz1 m G d))
  | v => frz1 m G d v

def AV.frz (m : Nat) (G : List Blk) (d : Nat) : AV → AV
  | .tuple l => .tuple (l.map (frz2 m G d))
  | v => frz2 m G d v

section
variable {P : Program} {σ : Sg} {s : St} {nt : Nat} {a : Act} {w : World} {m : Nat}

theorem frzI_mono (b o : Nat) (v : Value) (h : σ.I b o = some v) : frzI m σ w b o = some v := by simp [frzI, h]

theorem frzI_cell (hr : RelS σ s nt a w) {id b : Nat} (hm : m ≤ id) (hb : σ.blk (.g id) = some b) (o : Nat) : frzI m σ w b o = w.cell? ⟨b, o, none⟩ := by
  unfold frzI
  rw [hr.wf.blkI _ _ o hb]
  exact if_pos ⟨id, hm, hb⟩

theorem pv0_rel {v : AV} {p : PV} {x : Value} (h : v.pv0 = some p) (hx : Rel σ v x) : RelP σ.I p x := by
  cases v <;> simp only [AV.pv0, Option.some.injEq] at h <;> try cases h
  · cases hx; assumption
  · cases hx; assumption
  · cases hx; assumption

theorem pvOf_rel (hr : RelS σ s nt a w) : ∀ (d : Nat) (v : AV) (p : PV) (x : Value), pvOf m s.G d v = some p → Rel σ v x → RelP (frzI m σ w) p x
  | 0, v, p, x, h, hx => (pv0_rel (by simpa [pvOf] using h) hx).mono frzI_mono
  | d + 1, v, p, x, h, hx => by
    have other : v.pv0 = some p → RelP (frzI m σ w) p x := fun h => (pv0_rel h hx).mono frzI_mono
    unfold pvOf at h
    split at h
    · rename_i id off len cap
      split at h
      · rename_i hc
        obtain ⟨hm, hlc, hmax⟩ := hc
        split at h
        · rename_i cs hg
          split at h
          · rename_i hfit
            rw [Option.map_eq_some_iff] at h
            obtain ⟨rows, hrows, rfl⟩ := h
            cases hx with | ref _ _ _ cap' hb hcap =>
            rename_i b
            obtain ⟨b', hb', hB⟩ := hr.blks (.g id) _ hg
            rw [hb] at hb'
            simp only [Option.some.injEq] at hb'; subst hb'
            obtain ⟨c, T, g1, g2, g3⟩ := hB
            obtain ⟨e1, e2⟩ := mapO_get hrows
            rw [cutRows_length] at e1
            have cell : ∀ o, o < c.size → frzI m σ w b o = some (c.getD o undef) := fun o ho => by
              rw [frzI_cell hr hm hb]
              simp [World.cell?, g1, Array.getD_eq_getD_getElem?, ho]
            have row : ∀ (i : Nat) (r : List PV), rows[i]? = some r → i < len ∧ r.length = (cs.length - off) / cap ∧ ∀ (j : Nat) (q : PV), r[j]? = some q → ∃ y, cs[off + i * ((cs.length - off) / cap) + j]? = some y ∧ pvOf m s.G d y = some q := by
              intro i r hir
              obtain ⟨cr, h1, h2⟩ := e2 i r hir
              obtain ⟨h3, rfl⟩ := cutRows_get _ _ _ _ _ h1
              obtain ⟨h4, h5⟩ := mapO_get h2
              have hle : (i + 1) * ((cs.length - off) / cap) ≤ len * ((cs.length - off) / cap) := Nat.mul_le_mul_right _ h3
              refine ⟨h3, ?_, fun j q hq => ?_⟩
              · rw [h4, List.length_take, List.length_drop, List.length_drop]
                rw [Nat.succ_mul] at hle
                omega
              · obtain ⟨y, h6, h7⟩ := h5 j q hq
                refine ⟨y, ?_, h7⟩
                rw [List.getElem?_take] at h6
                split at h6
                · rw [List.getElem?_drop, List.getElem?_drop] at h6
                  rw [Nat.add_assoc]; exact h6
                · cases h6
            subst e1
            have hsz : ∀ r ∈ rows, r.length = (cs.length - off) / cap := fun r hm => by
              obtain ⟨i, hi⟩ := List.getElem?_of_mem hm
              exact (row i r hi).2.1
            refine .vec rows b off cap' _ (fun i j => c.getD (off + i * ((cs.length - off) / cap) + j) undef) hsz (fun i j hi hj => ?_) (fun i r j q hir hq => ?_) hmax (by omega)
            · refine cell _ ?_
              have h0 := row i _ (List.getElem?_eq_getElem hi)
              have hle : (i + 1) * ((cs.length - off) / cap) ≤ rows.length * ((cs.length - off) / cap) := Nat.mul_le_mul_right _ hi
              rw [Nat.succ_mul] at hle
              omega
            · obtain ⟨y, h1, h2⟩ := (row i r hir).2.2 j q hq
              exact pvOf_rel hr d y q _ h2 (g3 _ y h1)
          · cases h
        · cases h
      · cases h
    · exact other h

theorem frz1_rel (hr : RelS σ s nt a w) {d : Nat} {v : AV} {x : Value} (h : Rel σ v x) : Rel { σ with I := frzI m σ w } (frz1 m s.G d v) x := by
  unfold frz1
  split
  · rename_i p hp; exact .p (pvOf_rel hr d v p x hp h)
  · exact Rel.mono (σ := σ) (σ' := { σ with I := frzI m σ w }) frzI_mono (fun _ _ h => h) (fun _ _ h => h) h

theorem frz2_rel (hr : RelS σ s nt a w) {d : Nat} {v : AV} {x : Value} (h : Rel σ v x) : Rel { σ with I := frzI m σ w } (frz2 m s.G d v) x := by
  cases v with
  | agg l =>
    cases h with | agg h1 h2 =>
    refine .agg (by simpa using h1) fun i y hy => ?_
    rw [List.getElem?_map, Option.map_eq_some_iff] at hy
    obtain ⟨z, hz, rfl⟩ := hy
    exact frz1_rel hr (h2 i z hz)
  | _ => exact frz1_rel hr h

theorem frz_rel (hr : RelS σ s nt a w) {d : Nat} {v : AV} {x : Value} (h : Rel σ v x) : Rel { σ with I := frzI m σ w } (v.frz m s.G d) x := by
  cases v with
  | tuple l =>
    cases h with | tuple h1 h2 =>
    refine .tuple (by simpa using h1) fun i y hy => ?_
    rw [List.getElem?_map, Option.map_eq_some_iff] at hy
    obtain ⟨z, hz, rfl⟩ := hy
    exact frz2_rel hr (h2 i z hz)
  | _ => exact frz2_rel hr h

theorem WFS.frz (h : WFS σ w) (m : Nat) : WFS (σ.frz m w) w := by
  have hc := h.cut m
  refine ⟨hc.inj, hc.injt, hc.injtt, hc.lt, fun t b e l h1 => ?_, fun k b o h1 => ?_, fun b o v h1 => ?_⟩
  · obtain ⟨q1, q2⟩ := hc.tokw _ _ _ _ h1
    refine ⟨q1, fun o ho => ?_⟩
    show frzI m σ w b o = none
    unfold frzI
    rw [show σ.I b o = none from q2 o ho]
    exact if_neg fun ⟨id, _, hb⟩ => h.injt _ _ _ _ _ hb (cut_tok h1).2
  · show frzI m σ w b o = none
    unfold frzI
    obtain ⟨g1, g2⟩ := cut_blk h1
    rw [h.blkI _ _ o g2]
    refine if_neg fun ⟨id, hm, hb⟩ => ?_
    have := h.inj _ _ _ g2 hb
    subst this
    simp only [keym, decide_eq_true_eq] at g1
    omega
  · have h1 : frzI m σ w b o = some v := h1
    unfold frzI at h1
    split at h1
    · rename_i v' hv; simp only [Option.some.injEq] at h1; subst h1; exact h.imm _ _ _ hv
    · split at h1
      · exact h1
      · cases h1

/-- Of a call that leaves blocks behind: they are data. -/
theorem ACalls.frz {f : FuncId} {args : List AV} {G G1 : List Blk} {v : AV} (h : ACalls P f args G fun r G' => r = .ret v ∧ G' = G1) (d : Nat) (hc : cutOk G.length G1 (v.frz G.length G1 d) = true) :
    ACalls P f args G fun r G' => r = .ret (v.frz G.length G1 d) ∧ G' = G1.take G.length := by
  refine ⟨h.1, fun σ args' w hr hk ht => (h.2 σ args' w hr hk ht).mono ?_⟩
  rintro e w' ⟨r, G', σ', hR, hs, hk', ht', hp, rfl, rfl⟩
  simp only [cutOk, Bool.and_eq_true] at hc
  have h0 : ∀ id b, σ.blk (.g id) = some b → id < G.length := fun id b h => by
    by_cases hid : G.length ≤ id
    · have := hr.gfree id hid
      rw [h] at this; simp at this
    · omega
  cases hR with | ret hx hv =>
  have hl := hs.leave (m := G.length) hc.1
  have hmono : ∀ {v : AV} {x : Value}, Rel (σ'.cut G.length) v x → Rel (σ'.frz G.length w') v x := fun h => Rel.mono (σ := σ'.cut G.length) (σ' := σ'.frz G.length w') (frzI_mono (σ := σ')) (fun _ _ h => h) (fun _ _ h => h) h
  refine ⟨_, _, σ'.frz G.length w', .ret ?_ (chk_free hc.2), ⟨hl.sz, hl.df, fun t x h => by simp [St.args, zipTs, get] at h, fun k blk h => ?_, hl.cinv, hl.gfree, hl.lfree, hs.wf.frz _⟩, fun k b h => ?_, fun t x h => ?_, ?_, rfl, rfl⟩
  · exact Rel.keep (σ := { σ' with I := frzI G.length σ' w' }) (σ' := σ'.frz G.length w') (fun _ _ _ h => h) (fun k b hk hb => blk_cut hk hb) (fun t x ht h => by simp at ht) (frz_rel hs hx) hc.2
  · obtain ⟨b, h1, h2⟩ := hl.blks k blk h
    refine ⟨b, h1, ?_⟩
    cases blk with
    | cells cs => obtain ⟨c, T, g1, g2, g3⟩ := h2; exact ⟨c, T, g1, g2, fun j x hj => hmono (g3 j x hj)⟩
    | map es n => obtain ⟨c, g1, g2, g3⟩ := h2; exact ⟨c, g1, g2, fun j k v n hj => ⟨RelP.mono (I' := frzI G.length σ' w') (frzI_mono (σ := σ')) (g3 j k v n hj).1, hmono (g3 j k v n hj).2.1, (g3 j k v n hj).2.2⟩⟩
    | dead => trivial
  · exact hk' k b (cut_blk h).2
  · exact ht' t x (cut_tok h).2
  · have hpc := hp.cut (m := G.length) hr.df h0
    refine ⟨fun b o v h => frzI_mono _ _ _ (hp.I _ _ _ h), fun b o v h => ?_, hpc.own, hpc.keys, hpc.frame, hpc.size, hpc.os, hpc.tape, hpc.output, hpc.D, hpc.fz⟩
    have h : frzI G.length σ' w' b o = some v := h
    unfold frzI at h
    split at h
    · rename_i v' hv; simp only [Option.some.injEq] at h; subst h; exact hp.In _ _ _ hv
    · split at h
      · rename_i hex
        obtain ⟨id, _, hb⟩ := hex
        exact .inr (hp.own b (.inl ⟨_, hb⟩))
      · cases h
end
end Go.Abs
