/-
  The frame rule: a contract about a part of the heap serves where there is more.
-/
import Derived.Test.YtnicgdfnfnchjaaA22
set_option linter.unusedVariables false
namespace Go.Abs

theorem writeBack_length : ∀ (ids : List Nat) (H G : List Blk), (writeBack ids H G).length = G.length
  | [], H, G => by simp [writeBack]
  | i :: r, [], G => by simp [writeBack]
  | i :: r, b :: H, G => by simp [writeBack, writeBack_length r H]

theorem writeBack_get : ∀ (ids : List Nat) (H G : List Blk) (j : Nat), ids.Nodup → H.length = ids.length → (∀ i ∈ ids, i < G.length) → (writeBack ids H G)[j]? = match whereIs ids j with | some i => H[i]? | none => G[j]?
  | [], H, G, j, _, _, _ => by simp [writeBack, whereIs]
  | i :: r, [], G, j, _, h, _ => by simp at h
  | i :: r, b :: H, G, j, hn, h, hl => by
    simp only [List.nodup_cons] at hn
    simp only [writeBack, whereIs]
    rw [writeBack_get r H (G.set i b) j hn.2 (by simpa using h) (fun k hk => by simpa using hl k (by simp [hk]))]
    by_cases e : i = j
    · subst e
      have : whereIs r i = none := by
        cases hw : whereIs r i with
        | none => rfl
        | some q =>
          obtain ⟨h1, h2⟩ := whereIs_some hw
          exact absurd (by rw [← h2]; simp [List.getD_eq_getElem?_getD, h1]) hn.1
      simp [this, hl i (by simp)]
    · rw [if_neg e]
      cases hw : whereIs r j with
      | none => simp [List.getElem?_set, e]
      | some q => simp

def blkInvB (i : Nat) : Blk → Bool
  | .cells cs => (List.range cs.length).all fun j => match cs[j]? with | some x => x.chk (keyf (.g i)) (fun t => t == .c (.g i) j) | none => true
  | .map es _ => es.all fun e => e.2.1.chk (keyf (.g i)) (fun _ => false)
  | .dead => true

theorem blkInv_of {i : Nat} {b : Blk} (h : blkInvB i b = true) : BlkInv (.g i) b := by
  cases b with
  | cells cs =>
    intro j x hj
    have := List.all_eq_true.1 h j (List.mem_range.2 (List.getElem?_eq_some_iff.1 hj).1)
    simpa [hj] using this
  | map es n => exact fun j e hj => List.all_eq_true.1 h e (List.mem_of_getElem? hj)
  | dead => trivial

/-- May a callee be shown this? -/
def subOk (args : List AV) (H : List Blk) : Bool :=
  args.all (fun v => v.chk (keym H.length) (fun _ => false)) && H.all (Blk.okm H.length) && (List.range H.length).all (fun i => match H[i]? with | some b => blkInvB i b | none => true)

section
variable {P : Program} {σ σ' : Sg} {s : St} {nt : Nat} {a : Act} {w w' : World} {ids : List Nat}

theorem sub_blk {k : Key} {b : Nat} (h : (σ.sub ids).blk k = some b) : ∃ i, k = .g i ∧ i < ids.length ∧ σ.blk (.g (ids.getD i 0)) = some b := by
  cases k with
  | g i =>
    simp only [Sg.sub] at h
    split at h
    · rename_i hi; exact ⟨i, rfl, hi, h⟩
    · simp at h
  | l t => simp [Sg.sub] at h

theorem sub_tok {t : Tok} {x} (h : (σ.sub ids).tok t = some x) : ∃ i o, t = .c (.g i) o ∧ i < ids.length ∧ σ.tok (.c (.g (ids.getD i 0)) o) = some x := by
  simp only [Sg.sub] at h
  split at h
  · rename_i i o
    split at h
    · rename_i hi; exact ⟨i, o, rfl, hi, h⟩
    · simp at h
  · simp at h

theorem getD_inj (hn : ids.Nodup) {i j : Nat} (hi : i < ids.length) (hj : j < ids.length) (h : ids.getD i 0 = ids.getD j 0) : i = j := by
  have h1 := whereIs_nodup hn hi
  rw [h, whereIs_nodup hn hj] at h1
  simpa using h1.symm

theorem sub_owns {b : Nat} (h : (σ.sub ids).Owns b) : σ.Owns b := by
  rcases h with ⟨k, h⟩ | ⟨t, e, l, h⟩
  · obtain ⟨i, _, _, h⟩ := sub_blk h; exact .inl ⟨_, h⟩
  · obtain ⟨i, o, _, _, h⟩ := sub_tok h; exact .inr ⟨_, e, l, h⟩

theorem WFS.sub (hn : ids.Nodup) (h : WFS σ w) : WFS (σ.sub ids) w := by
  refine ⟨fun k k' b h1 h2 => ?_, fun k t b e l h1 h2 => ?_, fun t t' b e l e' l' h1 h2 => ?_, fun k b h1 => ?_, fun t b e l h1 => ?_, fun k b o h1 => ?_, h.imm⟩
  · obtain ⟨i, rfl, hi, h1⟩ := sub_blk h1
    obtain ⟨j, rfl, hj, h2⟩ := sub_blk h2
    have := h.inj _ _ _ h1 h2
    simp only [Key.g.injEq] at this
    rw [getD_inj hn hi hj this]
  · obtain ⟨i, rfl, hi, h1⟩ := sub_blk h1
    obtain ⟨j, o, rfl, hj, h2⟩ := sub_tok h2
    exact h.injt _ _ _ _ _ h1 h2
  · obtain ⟨i, o, rfl, hi, h1⟩ := sub_tok h1
    obtain ⟨j, o', rfl, hj, h2⟩ := sub_tok h2
    have := h.injtt _ _ _ _ _ _ _ h1 h2
    simp only [Tok.c.injEq, Key.g.injEq] at this
    rw [getD_inj hn hi hj this.1, this.2]
  · obtain ⟨i, rfl, hi, h1⟩ := sub_blk h1; exact h.lt _ _ h1
  · obtain ⟨i, o, rfl, hi, h1⟩ := sub_tok h1; exact h.tokw _ _ _ _ h1
  · obtain ⟨i, rfl, hi, h1⟩ := sub_blk h1; exact h.blkI _ _ _ h1

theorem Rel.sub {v : AV} {x : Value} {g : Tok → Bool} (h : Rel σ (v.ren ids) x) (hv : v.chk (keym ids.length) g = true) (hg : ∀ t, g t = true → tokm ids.length t = true) : Rel (σ.sub ids) v x := by
  refine Rel.unren (σ := σ) (σ' := σ.sub ids) (fun _ _ _ h => h) (fun k b hk hb => ?_) (fun t x ht h => ?_) v h hv
  · cases k with
    | g i =>
      simp only [keym, decide_eq_true_eq] at hk
      simp only [Key.ren] at hb
      simp only [Sg.sub, if_pos hk]; exact hb
    | l t => simp [keym] at hk
  · have := hg t ht
    cases t with
    | c k o =>
      cases k with
      | g i =>
        simp only [tokm, decide_eq_true_eq] at this
        simp only [Tok.ren, Key.ren] at h
        simp only [Sg.sub, if_pos this]; exact h
      | l t => simp [tokm] at this
    | s t => simp [tokm] at this
    | n => simp [tokm] at this

theorem ACalls.frame {f : FuncId} {args : List AV} {H G : List Blk} {R : AEnd → List Blk → Prop} (h : ACalls P f args H R) (ids : List Nat) (hn : ids.Nodup) (hl : H.length = ids.length) (hok : subOk args H = true)
    (hG : ∀ i b, H[i]? = some b → G[ids.getD i 0]? = some (b.ren ids)) (hR : ∀ r H', R r H' → H'.length = H.length) :
    ACalls P f (args.map (AV.ren ids)) G fun r G' => ∃ r0 H', R r0 H' ∧ r = r0.ren ids ∧ G' = writeBack ids (H'.map (Blk.ren ids)) G := by
  refine ⟨h.1, fun σ args' w hr hk ht => ?_⟩
  simp only [subOk, Bool.and_eq_true] at hok
  obtain ⟨⟨hok1, hok2⟩, hok3⟩ := hok
  have hH : ∀ i b, H[i]? = some b → i < ids.length ∧ BlkInv (.g i) b ∧ b.okm ids.length = true := fun i b hb => by
    have hi := (List.getElem?_eq_some_iff.1 hb).1
    refine ⟨by omega, blkInv_of (by have := List.all_eq_true.1 hok3 i (List.mem_range.2 hi); simpa [hb] using this), by rw [← hl]; exact List.all_eq_true.1 hok2 b (List.mem_of_getElem? hb)⟩
  have hlt : ∀ i ∈ ids, i < G.length := fun i hi => by
    obtain ⟨j, hj, hij⟩ := List.mem_iff_getElem.1 hi
    have hj' : j < H.length := by omega
    have := hG j _ (List.getElem?_eq_getElem hj')
    have e : ids.getD j 0 = i := by simp [List.getD_eq_getElem?_getD, hj, hij]
    rw [e] at this
    exact (List.getElem?_eq_some_iff.1 this).1
  have hc : RelS (σ.sub ids) (.args args H) args.length { tmps := args', defers := [] } w := by
    refine ⟨by simpa using hr.sz, rfl, fun t x h => ?_, fun k blk h => ?_, fun k blk h => ?_, fun id h => ?_, fun t h => rfl, hr.wf.sub hn⟩
    · simp only [St.args, get_zipTs, Nat.zero_le, if_true, Nat.sub_zero] at h
      have h' : get (St.args (args.map (AV.ren ids)) G).ts t = some (x.ren ids) := by
        simp only [St.args, get_zipTs, Nat.zero_le, if_true, Nat.sub_zero, List.getElem?_map, h, Option.map_some]
      obtain ⟨h1, h2⟩ := hr.vals _ _ h'
      refine ⟨by simpa using h1, Rel.sub h2 (g := fun _ => false) ?_ (fun t h => by simp at h)⟩
      rw [← hl]
      exact List.all_eq_true.1 hok1 x (List.mem_of_getElem? h)
    · cases k with
      | l t => simp [St.look, St.args, get] at h
      | g i =>
        have h : H[i]? = some blk := h
        obtain ⟨hi, hinv, hokm⟩ := hH i blk h
        obtain ⟨b, q1, q2⟩ := hr.blks (.g (ids.getD i 0)) (blk.ren ids) (hG i blk h)
        refine ⟨b, by simp only [Sg.sub, if_pos hi]; exact q1, ?_⟩
        cases blk with
        | cells cs =>
          obtain ⟨c, T, g1, g2, g3⟩ := q2
          refine ⟨c, T, g1, by simpa using g2, fun j x hj => ?_⟩
          have hx := AV.chks_get (show AV.chks (keym ids.length) (fun _ => true) cs = true from hokm) hj
          have hg3 := g3 j (x.ren ids) (by rw [AV.rens_get, hj]; rfl)
          exact Rel.sub hg3 (g := fun t => t == .c (.g i) j) (chk_imp (f := fun k => keym ids.length k && keyf (.g i) k) (g := fun t => true && (t == .c (.g i) j)) (fun k hk => by simp at hk; exact hk.1) (fun t ht => by simpa using ht) _ (chk_and _ hx (hinv j x hj)))
            (fun t ht => by simp at ht; subst ht; simp [tokm, hi])
        | map es cl =>
          obtain ⟨c, g1, g2, g3⟩ := q2
          refine ⟨c, g1, by simpa using g2, fun j k v n hj => ?_⟩
          have hx := List.all_eq_true.1 (show es.all (fun e => e.2.1.chk (keym ids.length) (fun _ => true)) = true from hokm) _ (List.mem_of_getElem? hj)
          have hg3 := g3 j k (v.ren ids) n (by rw [List.getElem?_map, hj]; rfl)
          exact ⟨hg3.1, Rel.sub hg3.2.1 (g := fun _ => false) (chk_imp (f := fun q => keym ids.length q && keyf (.g i) q) (g := fun t => true && false) (fun k hk => by simp at hk; exact hk.1) (fun t ht => by simp at ht) _ (chk_and _ hx (hinv j _ hj))) (fun t ht => by simp at ht), hg3.2.2⟩
        | dead => trivial
    · cases k with
      | l t => simp [St.look, St.args, get] at h
      | g i => exact (hH i blk h).2.1
    · have h : H.length ≤ id := h
      simp only [Sg.sub]
      rw [if_neg (by omega)]
  refine (h.2 (σ.sub ids) args' w hc (fun k b hb => ?_) (fun t x hx => ?_)).mono ?_
  · obtain ⟨i, rfl, _⟩ := sub_blk hb; exact ⟨i, rfl⟩
  · obtain ⟨i, o, rfl, _⟩ := sub_tok hx; rfl
  rintro e w' ⟨r, H', σ', g1, g2, g3, g4, g5, g6⟩
  have hl' : H'.length = ids.length := by rw [hR _ _ g6, hl]
  -- which blocks the callee has
  have hb' : ∀ i b, i < ids.length → (σ'.blk (.g i) = some b ↔ σ.blk (.g (ids.getD i 0)) = some b) := by
    intro i b hi
    have hi' : i < H.length := by omega
    obtain ⟨b0, q1, -⟩ := hc.blks (.g i) _ (List.getElem?_eq_getElem hi')
    have q2 := g5.keys _ _ q1
    simp only [Sg.sub, if_pos hi] at q1
    rw [q1, q2]
  have hbk : ∀ k b, σ'.blk k = some b → ∃ i, k = .g i ∧ i < ids.length ∧ σ.blk (.g (ids.getD i 0)) = some b := by
    intro k b hb
    obtain ⟨i, rfl⟩ := g3 _ _ hb
    by_cases hi : i < ids.length
    · exact ⟨i, rfl, hi, (hb' i b hi).1 hb⟩
    · have := g2.gfree i (by show H'.length ≤ i; omega)
      rw [this] at hb; simp at hb
  have hid : ∀ b, (∃ j, whereIs ids j = none ∧ σ.blk (.g j) = some b) ∨ (∃ j o e l, whereIs ids j = none ∧ σ.tok (.c (.g j) o) = some (b, e, l)) → ¬ (σ.sub ids).Owns b ∧ b < w.heap.size := by
    rintro b (⟨j, hj, h⟩ | ⟨j, o, e, l, hj, h⟩)
    · refine ⟨?_, hr.wf.lt _ _ h⟩
      rintro (⟨k, h'⟩ | ⟨t', e', l', h'⟩)
      · obtain ⟨i, rfl, hi, h'⟩ := sub_blk h'
        have := hr.wf.inj _ _ _ h h'
        simp only [Key.g.injEq] at this
        rw [this, whereIs_nodup hn hi] at hj; simp at hj
      · obtain ⟨i, o, rfl, hi, h'⟩ := sub_tok h'
        exact hr.wf.injt _ _ _ _ _ h h'
    · obtain ⟨⟨c, T, h3, _⟩, _⟩ := hr.wf.tokw _ _ _ _ h
      refine ⟨?_, (Array.getElem?_eq_some_iff.1 h3).1⟩
      rintro (⟨k, h'⟩ | ⟨t', e', l', h'⟩)
      · obtain ⟨i, rfl, hi, h'⟩ := sub_blk h'
        exact hr.wf.injt _ _ _ _ _ h' h
      · obtain ⟨i, o', rfl, hi, h'⟩ := sub_tok h'
        have := hr.wf.injtt _ _ _ _ _ _ _ h h'
        simp only [Tok.c.injEq, Key.g.injEq] at this
        rw [this.1, whereIs_nodup hn hi] at hj; simp at hj
  have jt : ∀ t x, (σ.joinSub ids σ').tok t = some x → (∃ j o i, t = .c (.g j) o ∧ whereIs ids j = some i ∧ σ'.tok (.c (.g i) o) = some x) ∨ (∃ j o, t = .c (.g j) o ∧ whereIs ids j = none ∧ σ.tok t = some x) := by
    intro t x h
    simp only [Sg.joinSub] at h
    split at h
    · rename_i j o
      split at h
      · rename_i i hi; exact .inl ⟨j, o, i, rfl, hi, h⟩
      · rename_i hi; exact .inr ⟨j, o, rfl, hi, h⟩
    · simp at h
  have I0 : ∀ b o, ¬ (σ.sub ids).Owns b → b < w.heap.size → σ.I b o = none → σ'.I b o = none := by
    intro b o h1 h2 h3
    cases e : σ'.I b o with
    | none => rfl
    | some v =>
      rcases g5.In _ _ _ e with e1 | e1 | e1
      · rw [show (σ.sub ids).I = σ.I from rfl, h3] at e1; simp at e1
      · exact absurd e1 h1
      · omega
  have hI : ∀ b o v, σ.I b o = some v → (σ.joinSub ids σ').I b o = some v := g5.I
  have mixed : ∀ b, σ'.Owns b → ¬ (¬ (σ.sub ids).Owns b ∧ b < w.heap.size) := fun b h ⟨h1, h2⟩ => by
    rcases g5.own b h with h | h
    · exact h1 h
    · omega
  have hwf : WFS (σ.joinSub ids σ') w' := by
    refine ⟨fun k1 k2 b e1 e2 => hr.wf.inj _ _ _ e1 e2, fun k t b e l e1 e2 => ?_, fun t1 t2 b e l e' l' e1 e2 => ?_, fun k b e1 => Nat.lt_of_lt_of_le (hr.wf.lt _ _ e1) g5.size, fun t b e l e1 => ?_, fun k b o e1 => ?_, g2.wf.imm⟩
    · rcases jt _ _ e2 with ⟨j, o, i, rfl, hj, e3⟩ | ⟨j, o, rfl, hj, e3⟩
      · obtain ⟨j', rfl⟩ := hk _ _ e1
        cases hw : whereIs ids j' with
        | some i' =>
          obtain ⟨q1, q2⟩ := whereIs_some hw
          exact g2.wf.injt (.g i') _ _ _ _ ((hb' i' b q1).2 (by rw [q2]; exact e1)) e3
        | none => exact mixed b (.inr ⟨_, _, _, e3⟩) (hid b (.inl ⟨j', hw, e1⟩))
      · exact hr.wf.injt _ _ _ _ _ e1 e3
    · rcases jt _ _ e1 with ⟨j, o, i, rfl, hj, e3⟩ | ⟨j, o, rfl, hj, e3⟩
      · rcases jt _ _ e2 with ⟨j2, o2, i2, rfl, hj2, e4⟩ | ⟨j2, o2, rfl, hj2, e4⟩
        · have := g2.wf.injtt _ _ _ _ _ _ _ e3 e4
          simp only [Tok.c.injEq, Key.g.injEq] at this
          rw [← (whereIs_some hj).2, ← (whereIs_some hj2).2, this.1, this.2]
        · exact (mixed b (.inr ⟨_, _, _, e3⟩) (hid b (.inr ⟨_, _, _, _, hj2, e4⟩))).elim
      · rcases jt _ _ e2 with ⟨j2, o2, i2, rfl, hj2, e4⟩ | ⟨j2, o2, rfl, hj2, e4⟩
        · exact (mixed b (.inr ⟨_, _, _, e4⟩) (hid b (.inr ⟨_, _, _, _, hj, e3⟩))).elim
        · exact hr.wf.injtt _ _ _ _ _ _ _ e3 e4
    · rcases jt _ _ e1 with ⟨j, o, i, rfl, hj, e3⟩ | ⟨j, o, rfl, hj, e3⟩
      · exact g2.wf.tokw _ _ _ _ e3
      · have hno := hid b (.inr ⟨_, _, _, _, hj, e3⟩)
        obtain ⟨⟨c, T, h3, h4⟩, h5⟩ := hr.wf.tokw _ _ _ _ e3
        exact ⟨⟨c, T, by rw [g5.frame _ hno.2 hno.1]; exact h3, h4⟩, fun o ho => I0 _ _ hno.1 hno.2 (h5 o ho)⟩
    · obtain ⟨j, rfl⟩ := hk _ _ e1
      cases hw : whereIs ids j with
      | some i =>
        obtain ⟨q1, q2⟩ := whereIs_some hw
        exact g2.wf.blkI (.g i) _ _ ((hb' i b q1).2 (by rw [q2]; exact e1))
      | none =>
        have hno := hid b (.inl ⟨j, hw, e1⟩)
        exact I0 _ _ hno.1 hno.2 (hr.wf.blkI _ _ _ e1)
  -- values
  have jrel : ∀ {v : AV} {x : Value} {g : Tok → Bool}, Rel σ' v x → v.chk (fun _ => true) g = true → (∀ t, g t = true → tokm ids.length t = true) → Rel (σ.joinSub ids σ') (v.ren ids) x := fun {v x g} hv hc hg => by
    refine Rel.ren (σ := σ') (σ' := σ.joinSub ids σ') (fun _ _ _ h => h) (fun k b hk hb => ?_) (fun t x ht h => ?_) hv hc
    · obtain ⟨i, rfl, hi, h⟩ := hbk _ _ hb; exact h
    · have := hg t ht
      cases t with
      | c k o =>
        cases k with
        | g i =>
          simp only [tokm, decide_eq_true_eq] at this
          simp only [Sg.joinSub, Tok.ren, Key.ren, whereIs_nodup hn this]; exact h
        | l t => simp [tokm] at this
      | s t => simp [tokm] at this
      | n => simp [tokm] at this
  have hfree : ∀ {v : AV}, v.free = true → v.chk (fun _ => true) (fun _ => false) = true := fun {v} h => chk_imp (fun _ _ => rfl) (fun _ h => h) v h
  have hfr : ∀ {v : AV}, v.free = true → (v.ren ids).free = true := fun {v} h => by
    have : ∀ v : AV, v.free = true → (v.ren ids).free = true := by
      intro v
      exact AV.rec (motive_1 := fun v => v.free = true → (v.ren ids).free = true) (motive_2 := fun l => AV.chks (keyf (.g 0)) (fun _ => false) l = true → AV.chks (keyf (.g 0)) (fun _ => false) (AV.rens ids l) = true)
        (fun _ _ => rfl) (fun _ _ h => by simp [AV.free, AV.chk] at h) (fun _ _ => rfl) (fun k o h => by cases k <;> simp_all [AV.free, AV.chk, AV.ren, Key.ren, keyf]) (fun k a b c h => by cases k <;> simp_all [AV.free, AV.chk, AV.ren, Key.ren, keyf])
        (fun _ _ => rfl) (fun _ _ => by simp [AV.free, AV.chk, AV.ren, keyf]) (fun f a b iha ihb h => by simp only [AV.free, AV.chk, AV.ren, Bool.and_eq_true] at *; exact ⟨iha h.1, ihb h.2⟩) (fun t v ih h => by simp only [AV.free, AV.chk, AV.ren] at *; exact ih h)
        (fun l ih h => by simp only [AV.free, AV.chk, AV.ren] at *; exact ih h) (fun l ih h => by simp only [AV.free, AV.chk, AV.ren] at *; exact ih h) (fun _ => rfl) (fun _ => rfl)
        (fun x l ihx ihl h => by simp only [AV.chks, AV.rens, Bool.and_eq_true] at *; exact ⟨ihx h.1, ihl h.2⟩) v
    exact this v h
  have hres : RelR (σ.joinSub ids σ') (r.ren ids) e := by
    cases g1 with
    | ret hx hv => exact .ret (jrel hx (hfree hv) (fun t h => by simp at h)) (hfr hv)
    | panic hx hv => exact .panic (jrel hx (hfree hv) (fun t h => by simp at h)) (hfr hv)
  have hget : ∀ j, (writeBack ids (H'.map (Blk.ren ids)) G)[j]? = match whereIs ids j with | some i => (H'.map (Blk.ren ids))[i]? | none => G[j]? := fun j => writeBack_get ids _ G j hn (by simpa using hl') hlt
  refine ⟨r.ren ids, writeBack ids (H'.map (Blk.ren ids)) G, σ.joinSub ids σ', hres, ⟨rfl, hr.df, fun t x h => by simp [St.args, zipTs, get] at h, fun k blk h => ?_, fun k blk h => ?_, fun id h => ?_, fun t h => ?_, hwf⟩, hk, fun t x h => ?_, ⟨hI, fun b o v e => ?_, fun b hb => ?_, fun id b h => h, fun b h1 h2 => g5.frame b h1 (fun h => h2 (sub_owns h)), g5.size, g5.os, g5.tape, g5.output, rfl, g5.fz⟩, r, H', g6, rfl, rfl⟩
  · cases k with
    | l t => simp [St.look, St.args, get] at h
    | g j =>
      have h : (writeBack ids (H'.map (Blk.ren ids)) G)[j]? = some blk := h
      rw [hget] at h
      cases hw : whereIs ids j with
      | some i =>
        simp only [hw, List.getElem?_map, Option.map_eq_some_iff] at h
        obtain ⟨blk', h0, rfl⟩ := h
        obtain ⟨q1, q2⟩ := whereIs_some hw
        obtain ⟨b, p1, p2⟩ := g2.blks (.g i) blk' h0
        have hi := g2.cinv (.g i) blk' h0
        refine ⟨b, by rw [← q2]; exact (hb' i b q1).1 p1, ?_⟩
        cases blk' with
        | cells cs =>
          obtain ⟨c, T, u1, u2, u3⟩ := p2
          refine ⟨c, T, u1, by simpa using u2, fun q x hq => ?_⟩
          rw [AV.rens_get, Option.map_eq_some_iff] at hq
          obtain ⟨y, hy, rfl⟩ := hq
          exact jrel (u3 q y hy) (g := fun t => t == .c (.g i) q) (chk_imp (fun _ _ => rfl) (fun _ h => h) _ (hi q y hy)) (fun t ht => by simp at ht; subst ht; simp [tokm, q1])
        | map es cl =>
          obtain ⟨c, u1, u2, u3⟩ := p2
          refine ⟨c, u1, by simpa using u2, fun q k v n hq => ?_⟩
          rw [List.getElem?_map, Option.map_eq_some_iff] at hq
          obtain ⟨⟨k', v', n'⟩, hy, he⟩ := hq
          simp only [Prod.mk.injEq] at he
          obtain ⟨rfl, rfl, rfl⟩ := he
          obtain ⟨z1, z2, z3⟩ := u3 q k' v' n' hy
          exact ⟨z1, jrel z2 (g := fun _ => false) (chk_imp (fun _ _ => rfl) (fun _ h => h) _ (hi q _ hy)) (fun t ht => by simp at ht), z3⟩
        | dead => trivial
      | none =>
        simp only [hw] at h
        obtain ⟨b, p1, p2⟩ := hr.blks (.g j) blk h
        have hno := hid b (.inl ⟨j, hw, p1⟩)
        refine ⟨b, p1, p2.turn (k := .g j) hI (fun k b h => h) (fun o x h => by simpa [Sg.joinSub, hw] using h) (hr.cinv (.g j) blk h) (fun _ => g5.frame _ hno.2 hno.1)⟩
  · cases k with
    | l t => simp [St.look, St.args, get] at h
    | g j =>
      have h : (writeBack ids (H'.map (Blk.ren ids)) G)[j]? = some blk := h
      rw [hget] at h
      cases hw : whereIs ids j with
      | some i =>
        simp only [hw, List.getElem?_map, Option.map_eq_some_iff] at h
        obtain ⟨blk', h0, rfl⟩ := h
        obtain ⟨q1, q2⟩ := whereIs_some hw
        have hi := g2.cinv (.g i) blk' h0
        have ren : ∀ (v : AV) {g g' : Tok → Bool}, (∀ t, g t = true → g' (t.ren ids) = true) → v.chk (keyf (.g i)) g = true → (v.ren ids).chk (keyf (.g j)) g' = true := by
          intro v g g' hg
          exact AV.rec (motive_1 := fun v => v.chk (keyf (.g i)) g = true → (v.ren ids).chk (keyf (.g j)) g' = true) (motive_2 := fun l => AV.chks (keyf (.g i)) g l = true → AV.chks (keyf (.g j)) g' (AV.rens ids l) = true)
            (fun _ _ => rfl) (fun _ k h => by simp only [AV.chk, AV.ren] at *; exact hg _ h) (fun _ _ => rfl) (fun k o h => by cases k <;> simp_all [AV.chk, AV.ren, Key.ren, keyf]) (fun k a b c h => by cases k <;> simp_all [AV.chk, AV.ren, Key.ren, keyf])
            (fun _ _ => rfl) (fun _ _ => by simp [AV.chk, AV.ren, keyf]) (fun f a b iha ihb h => by simp only [AV.chk, AV.ren, Bool.and_eq_true] at *; exact ⟨iha h.1, ihb h.2⟩) (fun t v ih h => by simp only [AV.chk, AV.ren] at *; exact ih h)
            (fun l ih h => by simp only [AV.chk, AV.ren] at *; exact ih h) (fun l ih h => by simp only [AV.chk, AV.ren] at *; exact ih h) (fun _ => rfl) (fun _ => rfl)
            (fun x l ihx ihl h => by simp only [AV.chks, AV.rens, Bool.and_eq_true] at *; exact ⟨ihx h.1, ihl h.2⟩) v
        cases blk' with
        | cells cs =>
          intro q x hq
          rw [AV.rens_get, Option.map_eq_some_iff] at hq
          obtain ⟨y, hy, rfl⟩ := hq
          exact ren y (fun t ht => by simp at ht; subst ht; simp [Tok.ren, Key.ren, List.getD_eq_getElem?_getD] at q2 ⊢; exact q2) (hi q y hy)
        | map es cl =>
          intro q e hq
          rw [List.getElem?_map, Option.map_eq_some_iff] at hq
          obtain ⟨e', hy, rfl⟩ := hq
          exact ren _ (fun t ht => by simp at ht) (hi q _ hy)
        | dead => trivial
      | none =>
        simp only [hw] at h
        exact hr.cinv (.g j) blk h
  · have h : (writeBack ids (H'.map (Blk.ren ids)) G).length ≤ id := h
    rw [writeBack_length] at h
    exact hr.gfree id h
  · exact hr.lfree t rfl
  · rcases jt _ _ h with ⟨j, o, i, rfl, _⟩ | ⟨j, o, rfl, _⟩ <;> rfl
  · rcases g5.In _ _ _ e with e1 | e1 | e1
    · exact .inl e1
    · exact .inr (.inl (sub_owns e1))
    · exact .inr (.inr e1)
  · rcases hb with ⟨k, hb⟩ | ⟨t, e, l, hb⟩
    · exact .inl (.inl ⟨k, hb⟩)
    · rcases jt _ _ hb with ⟨j, o, i, rfl, _, h⟩ | ⟨j, o, rfl, _, h⟩
      · rcases g5.own b (.inr ⟨_, _, _, h⟩) with h | h
        · exact .inl (sub_owns h)
        · exact .inr h
      · exact .inl (.inr ⟨_, _, _, h⟩)
end
end Go.Abs
