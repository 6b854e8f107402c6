/-
  append, in the model.
-/
import Derived.Test.YtnicgdfnfnchjaaA13
set_option linter.unusedVariables false
namespace Go.Abs

section
variable {P : Program} {σ : Sg} {s : St} {nt : Nat} {a : Act} {w : World}

theorem nextcap_le (need cap : Nat) (h : cap < need) : Builtin.nextslicecap need cap ≤ 2 * need + 192 := by
  unfold Builtin.nextslicecap
  split
  · omega
  · split
    · omega
    · have : ∀ r c, c < 2 * need + 192 → Builtin.growBy need r c ≤ 2 * need + 192 := by
        intro r
        induction r with
        | zero => intro c h; simp [Builtin.growBy]; omega
        | succ r ih =>
          intro c h
          simp only [Builtin.growBy]
          split
          · omega
          · exact ih _ (by omega)
      exact this 4 cap (by omega)

/-- The tokens behind an append: slot d's is the new one. -/
def tokApp (σ : Sg) (d : Nat) (k : Tok) (x : Option (Nat × Nat × Nat)) : Tok → Option (Nat × Nat × Nat) := fun t => if t = .s d then x else if appendTok d k t then none else σ.tok t

theorem tokApp_keep {d : Nat} {k : Tok} {x : Option (Nat × Nat × Nat)} {t : Tok} {y : Nat × Nat × Nat} (hf : appendTok d k t = false) (h : σ.tok t = some y) : tokApp σ d k x t = some y := by
  unfold tokApp
  have : t ≠ .s d := fun e => by simp [appendTok, e] at hf
  rw [if_neg this, hf]; simpa using h

theorem tokApp_cases {d : Nat} {k : Tok} {x : Nat × Nat × Nat} {t : Tok} {y : Nat × Nat × Nat} (h : tokApp σ d k (some x) t = some y) : (σ.tok t = some y ∧ appendTok d k t = false) ∨ (t = .s d ∧ y = x) := by
  unfold tokApp at h
  split at h
  · rename_i e; simp at h; exact .inr ⟨e, h.symm⟩
  · split at h
    · simp at h
    · rename_i e2; exact .inl ⟨h, by simpa using e2⟩

theorem appendTok_isC {d : Nat} {k : Tok} {t : Tok} (h : appendTok d k t = true) : isC t = false := by
  cases t <;> simp_all [appendTok, isC]

theorem appendTok_self {d : Nat} {k : Tok} (h1 : isC k = false) (h2 : k ≠ .n) : appendTok d k k = true := by simp [appendTok, h1, h2]

theorem RelS.drew (hr : RelS σ s nt a w) : RelS σ s nt a w.drew :=
  ⟨hr.sz, hr.df, hr.vals, hr.blks, hr.cinv, hr.gfree, hr.lfree, hr.wf.inj, hr.wf.injt, hr.wf.injtt, hr.wf.lt, hr.wf.tokw, hr.wf.blkI, hr.wf.imm⟩

theorem Post.drew (σ : Sg) (w : World) : Post σ σ w w.drew :=
  ⟨fun _ _ _ h => h, fun _ _ _ h => .inl h, fun _ h => .inl h, fun _ _ h => h, fun _ _ _ => rfl, Nat.le_refl _, rfl, rfl, rfl, rfl, fun _ => rfl⟩

/-- There is room: the new cells are written behind the old ones. -/
theorem append_room (hr : RelS σ s nt a w) {d : Nat} {k : Tok} (hkc : isC k = false) {sz : Nat} (h0 : sz ≠ 0) {rows rows2 : List (List PV)} (hs : ∀ row ∈ rows, row.length = sz) (hs2 : ∀ row ∈ rows2, row.length = sz)
    {ba : Option Addr} {len cap : Nat} (hb : Rel σ (.own rows k) (.slice ba len cap)) {new : Array Value} (hnew : Cells σ.I sz rows2 new) (hfit : rows.length + rows2.length ≤ cap) (hmax : rows.length + rows2.length ≤ maxLen) :
    ∃ w' σ', (match ba with | some x => storeCells (x.add (len * sz)) new.toList | none => pure () : Sem Unit).run P w = .ok () w' ∧
      RelS σ' (s.dis (appendTok d k)) nt a w' ∧ Post σ σ' w w' ∧ Rel σ' (.own (rows ++ rows2) (.s d)) (.slice ba (rows.length + rows2.length) cap) := by
  cases hb with | own hv ho =>
  obtain ⟨hlen, hcap⟩ := cap_le hv
  by_cases h2 : rows2 = []
  · subst h2
    have hn0 : new = #[] := by
      have := hnew.1
      simp at this; exact this
    subst hn0
    rcases ho with ho | ⟨b, o, sz', l, h3, h4, h5, h6, h7, h8⟩
    · refine ⟨w, σ, ?_, hr.turn (σ' := σ) _ (fun _ h => appendTok_isC h) (fun _ _ _ h => h) rfl (fun _ _ _ h => h) (fun _ _ _ => rfl) hr.wf, .refl _ _, ?_⟩
      · cases ba <;> rfl
      · refine .own (by simpa [hlen] using hv) (.inl (by simp; omega))
    · have hwf : WFS { σ with tok := tokApp σ d k (some (b, o + len * sz', l)) } w := by
        refine ⟨hr.wf.inj, fun k' t b' e l' e1 e2 => ?_, fun t t' b' e l1 e' l2 e1 e2 => ?_, hr.wf.lt, fun t b' e l' e1 => ?_, hr.wf.blkI, hr.wf.imm⟩
        · rcases tokApp_cases e2 with ⟨e3, _⟩ | ⟨_, e3⟩
          · exact hr.wf.injt _ _ _ _ _ e1 e3
          · cases e3; exact hr.wf.injt _ _ _ _ _ e1 h7
        · rcases tokApp_cases e1 with ⟨e3, e4⟩ | ⟨e3, e4⟩
          · rcases tokApp_cases e2 with ⟨e5, _⟩ | ⟨e5, e6⟩
            · exact hr.wf.injtt _ _ _ _ _ _ _ e3 e5
            · cases e6
              have := hr.wf.injtt _ _ _ _ _ _ _ e3 h7
              rw [this, appendTok_self hkc h3] at e4; simp at e4
          · rcases tokApp_cases e2 with ⟨e5, e6⟩ | ⟨e5, _⟩
            · cases e4
              have := hr.wf.injtt _ _ _ _ _ _ _ e5 h7
              rw [this, appendTok_self hkc h3] at e6; simp at e6
            · rw [e3, e5]
        · rcases tokApp_cases e1 with ⟨e3, _⟩ | ⟨_, e3⟩
          · exact hr.wf.tokw _ _ _ _ e3
          · cases e3; exact hr.wf.tokw _ _ _ _ h7
      refine ⟨w, { σ with tok := tokApp σ d k (some (b, o + len * sz', l)) }, ?_, hr.turn (σ' := { σ with tok := tokApp σ d k (some (b, o + len * sz', l)) }) _ (fun _ h => appendTok_isC h) (fun _ _ _ h => h) rfl (fun t x hf h => tokApp_keep hf h) (fun _ _ _ => rfl) hwf, ?_, ?_⟩
      · cases ba <;> rfl
      · refine ⟨fun _ _ _ h => h, fun _ _ _ h => .inl h, fun b' hb' => ?_, fun _ _ h => h, fun _ _ _ => rfl, Nat.le_refl _, rfl, rfl, rfl, rfl, fun _ => rfl⟩
        rcases hb' with ⟨k', hb'⟩ | ⟨t, e, l', hb'⟩
        · exact .inl (.inl ⟨k', hb'⟩)
        · rcases tokApp_cases hb' with ⟨e3, _⟩ | ⟨_, e3⟩
          · exact .inl (.inr ⟨t, e, l', e3⟩)
          · cases e3; exact .inl (.inr ⟨k, _, _, h7⟩)
      · refine .own (by simpa [hlen] using hv) (.inr ⟨b, o, sz', l, by simp, h4, by simpa using h5, by simpa using h6, ?_, h8⟩)
        simp [tokApp, hlen]
  · have hpos : 0 < rows2.length := List.length_pos_iff.2 h2
    rcases ho with ho | ⟨b, o, sz', l, h3, h4, h5, h6, h7, h8⟩
    · omega
    · have hszz : sz' = sz := by
        obtain ⟨r, hm⟩ := List.exists_mem_of_ne_nil _ h6
        exact (h5 _ hm).symm.trans (hs _ hm)
      subst hszz
      subst h4
      obtain ⟨⟨c, T, hc, hlc⟩, hIe⟩ := hr.wf.tokw _ _ _ _ h7
      have hbw : b < w.heap.size := (Array.getElem?_eq_some_iff.1 hc).1
      have hns : new.toList.length = rows2.length * sz' := by simpa using hnew.1
      have hroom : o + len * sz' + rows2.length * sz' ≤ c.size := by
        have : (rows.length + rows2.length) * sz' ≤ cap * sz' := Nat.mul_le_mul_right _ hfit
        rw [Nat.add_mul] at this
        rw [hlen]; omega
      obtain ⟨c', g1, g2, g3, g4⟩ := storeCells_block (P := P) (b := b) (off := o + len * sz') new.toList c w 0 hc (by rw [hns]; omega) (hnew.one h0 hs2)
      simp only [Nat.add_zero] at g3 g4
      let E := o + len * sz' + rows2.length * sz'
      let σ' : Sg := { I := fun b' i => if b' = b ∧ o + len * sz' ≤ i ∧ i < E then c'[i]? else σ.I b' i, blk := σ.blk, tok := tokApp σ d k (some (b, E, l)), D := σ.D }
      have hother : ∀ i, i ≠ b → (w.heap.setIfInBounds b (.cells c' T (0, 0)))[i]? = w.heap[i]? := fun i hi => by rw [Array.getElem?_setIfInBounds_ne (Ne.symm hi)]
      have hthis : (w.heap.setIfInBounds b (.cells c' T (0, 0)))[b]? = some (.cells c' T (0, 0)) := by simp [hbw]
      have hI : ∀ b' i v, σ.I b' i = some v → σ'.I b' i = some v := by
        intro b' i v e
        simp only [σ']
        split
        · rename_i hh
          obtain ⟨rfl, hh1, hh2⟩ := hh
          rw [hIe i hh1] at e; simp at e
        · exact e
      have hwf : WFS σ' { w with heap := w.heap.setIfInBounds b (.cells c' T (0, 0)) } := by
        refine ⟨hr.wf.inj, fun k' t b' e l' e1 e2 => ?_, fun t t' b' e l1 e' l2 e1 e2 => ?_, fun k' b' h => by simpa using hr.wf.lt k' b' h, fun t b' e l' e1 => ?_, fun k' b' i e1 => ?_, fun b' i v e1 => ?_⟩
        · rcases tokApp_cases e2 with ⟨e3, _⟩ | ⟨_, e3⟩
          · exact hr.wf.injt _ _ _ _ _ e1 e3
          · cases e3; exact hr.wf.injt _ _ _ _ _ e1 h7
        · rcases tokApp_cases e1 with ⟨e3, e4⟩ | ⟨e3, e4⟩
          · rcases tokApp_cases e2 with ⟨e5, _⟩ | ⟨e5, e6⟩
            · exact hr.wf.injtt _ _ _ _ _ _ _ e3 e5
            · cases e6
              have := hr.wf.injtt _ _ _ _ _ _ _ e3 h7
              rw [this, appendTok_self hkc h3] at e4; simp at e4
          · rcases tokApp_cases e2 with ⟨e5, e6⟩ | ⟨e5, _⟩
            · cases e4
              have := hr.wf.injtt _ _ _ _ _ _ _ e5 h7
              rw [this, appendTok_self hkc h3] at e6; simp at e6
            · rw [e3, e5]
        · rcases tokApp_cases e1 with ⟨e3, e4⟩ | ⟨_, e3⟩
          · have hne : b' ≠ b := fun e' => by
              subst e'
              have := hr.wf.injtt _ _ _ _ _ _ _ e3 h7
              rw [this, appendTok_self hkc h3] at e4; simp at e4
            obtain ⟨⟨c2, T2, q1, q2⟩, q3⟩ := hr.wf.tokw _ _ _ _ e3
            refine ⟨⟨c2, T2, by rw [hother _ hne]; exact q1, q2⟩, fun i hi => ?_⟩
            simp only [σ']
            rw [if_neg (fun h => hne h.1)]; exact q3 i hi
          · cases e3
            refine ⟨⟨c', T, hthis, by omega⟩, fun i hi => ?_⟩
            simp only [σ']
            rw [if_neg (fun h => by omega)]; exact hIe i (by omega)
        · have hne : b' ≠ b := fun e' => hr.wf.injt _ _ _ _ _ (e' ▸ e1) h7
          simp only [σ']
          rw [if_neg (fun h => hne h.1)]; exact hr.wf.blkI _ _ _ e1
        · simp only [σ'] at e1
          split at e1
          · rename_i hh
            obtain ⟨rfl, hh1, hh2⟩ := hh
            simpa [World.cell?, hbw] using e1
          · rename_i hh
            have := hr.wf.imm _ _ _ e1
            by_cases hne : b' = b
            · subst hne
              have hlt : i < o + len * sz' := by
                rcases Nat.lt_or_ge i (o + len * sz') with h | h
                · exact h
                · rw [hIe i h] at e1; simp at e1
              have h9 := g4 i (.inl hlt)
              simp only [World.cell?, hc] at this
              simp only [World.cell?, hthis]
              simp only [Option.isSome_none, Bool.false_eq_true, if_false] at this ⊢
              rw [h9]; exact this
            · simpa [World.cell?, hother _ hne] using this
      refine ⟨_, σ', by simp only [add_none]; exact g1, hr.turn (σ' := σ') _ (fun _ h => appendTok_isC h) hI rfl (fun t x hf h => tokApp_keep hf h) (fun k' b' h => hother _ (fun e' => hr.wf.injt _ _ _ _ _ (e' ▸ h) h7)) hwf, ?_, ?_⟩
      · refine ⟨hI, fun b' i v e => ?_, fun b' hb' => ?_, fun _ _ h => h, fun b' hb' hn => hother _ (fun e => hn (e ▸ .inr ⟨_, _, _, h7⟩)), by simp, rfl, rfl, rfl, rfl, frozen_same fun i => if e : i = b then .inr ⟨by rw [e]; exact nf_cells hc, by rw [e]; exact nf_cells hthis⟩ else .inl (hother i e)⟩
        · simp only [σ'] at e
          split at e
          · rename_i hh; exact .inr (.inl (hh.1 ▸ .inr ⟨_, _, _, h7⟩))
          · exact .inl e
        · rcases hb' with ⟨k', hb'⟩ | ⟨t, e, l', hb'⟩
          · exact .inl (.inl ⟨k', hb'⟩)
          · rcases tokApp_cases hb' with ⟨e3, _⟩ | ⟨_, e3⟩
            · exact .inl (.inr ⟨t, e, l', e3⟩)
            · cases e3; exact .inl (.inr ⟨k, _, _, h7⟩)
      · have hv' := hv.mono hI
        cases hv with
        | vec0 => exact absurd rfl h6
        | vec _ _ _ _ sz2 val hsz2 hI2 hR2 hmax2 hcap2 =>
          have : sz2 = sz' := by
            obtain ⟨r, hm⟩ := List.exists_mem_of_ne_nil _ h6
            exact (hsz2 _ hm).symm.trans (hs _ hm)
          subst this
          refine .own ?_ (.inr ⟨b, o, sz2, l, by simp, rfl, fun row hr => by rcases List.mem_append.1 hr with h | h; exact hs _ h; exact hs2 _ h, by simp [h6], ?_, h8⟩)
          · refine relP_append (sz := sz2) hs hs2 (f := fun n => if n < rows.length * sz2 then val (n / sz2) (n % sz2) else new.getD (n - rows.length * sz2) undef) (fun n hn => ?_) (fun i row j c hi hj => ?_) (fun i row j c hi hj => ?_) hmax hfit
            · have hsp : 0 < sz2 := Nat.pos_of_ne_zero h0
              by_cases hlt : n < rows.length * sz2
              · rw [if_pos hlt]
                have q1 : n / sz2 < rows.length := Nat.div_lt_of_lt_mul (by rwa [Nat.mul_comm])
                have q2 := hI2 _ _ q1 (Nat.mod_lt n hsp)
                rw [Nat.add_assoc, Nat.div_add_mod'] at q2
                exact hI _ _ _ q2
              · rw [if_neg hlt]
                rw [Nat.add_mul] at hn
                show (if b = b ∧ o + rows.length * sz2 ≤ o + n ∧ o + n < E then c'[o + n]? else σ.I b (o + n)) = _
                rw [if_pos ⟨rfl, by omega, by simp only [E]; omega⟩]
                have hm : n - rows.length * sz2 < new.toList.length := by rw [hns]; omega
                have := g3 (n - rows.length * sz2) _ (List.getElem?_eq_getElem hm)
                rw [show o + rows.length * sz2 + (n - rows.length * sz2) = o + n by omega] at this
                rw [this]
                simp only [Array.length_toList] at hm
                simp [Array.getD_eq_getD_getElem?, hm]
            · have hil := (List.getElem?_eq_some_iff.1 hi).1
              have hjl : j < sz2 := by rw [← hs row (List.mem_of_getElem? hi)]; exact (List.getElem?_eq_some_iff.1 hj).1
              simp only [idx_lt hil hjl, if_true]
              have e1 : (i * sz2 + j) / sz2 = i := by rw [Nat.mul_comm, Nat.mul_add_div (by omega), Nat.div_eq_of_lt hjl, Nat.add_zero]
              have e2 : (i * sz2 + j) % sz2 = j := by rw [Nat.mul_comm, Nat.mul_add_mod, Nat.mod_eq_of_lt hjl]
              rw [e1, e2]
              exact (hR2 i row j c hi hj).mono hI
            · have e1 : ¬ ((rows.length + i) * sz2 + j < rows.length * sz2) := by rw [Nat.add_mul]; omega
              rw [if_neg e1, show (rows.length + i) * sz2 + j - rows.length * sz2 = i * sz2 + j by rw [Nat.add_mul]; omega]
              exact (hnew.2 i row j c hi hj).mono hI
          · simp only [σ', tokApp, if_true, E]
            rw [Nat.add_mul]
            simp; omega
end
end Go.Abs
