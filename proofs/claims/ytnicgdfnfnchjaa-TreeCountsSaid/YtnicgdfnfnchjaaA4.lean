/-
  More operations that only read: lengths, look-ups in maps, zero values; and all of them together.
-/
import Derived.Test.YtnicgdfnfnchjaaA3
set_option linter.unusedVariables false
namespace Go.Abs

section
variable {P : Program} {σ : Sg} {s : St} {nt : Nat} {a : Act} {w : World}

theorem len_vec {rows : List (List PV)} {y : Value} (h : RelP σ.I (.vec rows) y) : ∃ b cap, y = .slice b rows.length cap := by
  cases h with
  | vec0 b cap => exact ⟨b, cap, rfl⟩
  | vec _ b o cap sz val hsz hI hR hmax hcap => exact ⟨_, cap, rfl⟩

theorem alen_run {t ty : TypeId} {x v : AV} (h : alen P t x = some v) {x' : Value} (hx : Rel σ x x') (ts : Array TypeId) (ht : ts[0]? = some t) :
    ∃ r, (Builtin.len_ ts ty #[x']).run P w = .ok r w ∧ Rel σ v r := by
  unfold alen at h
  split at h
  · rename_i hu
    simp only [Option.some.injEq] at h; subst h
    cases hx with | p hx =>
    cases hx
    exact ⟨.int .i64 _, by simp [Builtin.len_, ht, run_underlying hu, goInt], .p (.int _ _)⟩
  · rename_i hu
    simp only [Option.some.injEq] at h; subst h
    cases hx with | p hx =>
    obtain ⟨b, cap, rfl⟩ := len_vec hx
    exact ⟨.int .i64 _, by simp [Builtin.len_, ht, run_underlying hu, goInt], .p (.int _ _)⟩
  · rename_i hu
    simp only [Option.some.injEq] at h; subst h
    cases hx with | own hx _ =>
    obtain ⟨b, cap, hy⟩ := len_vec hx
    cases hy
    exact ⟨.int .i64 _, by simp [Builtin.len_, ht, run_underlying hu, goInt], .p (.int _ _)⟩
  · rename_i hu
    simp only [Option.some.injEq] at h; subst h
    cases hx with | ref _ _ _ cap' hb hcc =>
    exact ⟨.int .i64 _, by simp [Builtin.len_, ht, run_underlying hu, goInt], .p (.int _ _)⟩
  · simp at h

theorem cv_cell {x : Value} {v : AV} (h : cv x = some v) : x.oneCell' = true := by
  unfold cv at h; split at h <;> first | rfl | simp at h

theorem zc_rel {x : Value} {v : AV} (h : zc x = some v) : Rel σ v x := by
  unfold zc at h
  split at h
  · simp at h; subst h; exact .full (.vec0 _ _)
  · exact cv_rel h

theorem zcs_rel : ∀ {l : List Value} {r : List AV}, zcs l = some r → l.length = r.length ∧ ∀ (i : Nat) (v : AV), r[i]? = some v → ∃ x, l[i]? = some x ∧ Rel σ v x
  | [], r, h => by simp [zcs] at h; subst h; simp
  | x :: l, r, h => by
    simp only [zcs] at h
    split at h
    · rename_i v r' hx hl
      simp only [Option.some.injEq] at h; subst h
      obtain ⟨h1, h2⟩ := zcs_rel hl
      refine ⟨by simp [h1], fun i u hu => ?_⟩
      cases i with
      | zero => simp at hu; subst hu; exact ⟨x, rfl, zc_rel hx⟩
      | succ i => exact h2 i u (by simpa using hu)
    · simp at h

theorem zv_rel {x : Value} {v : AV} (h : zv x = some v) : Rel σ v x := by
  unfold zv at h
  split at h
  · rename_i cs
    rw [Option.map_eq_some_iff] at h
    obtain ⟨l, hl, rfl⟩ := h
    obtain ⟨h1, h2⟩ := zcs_rel (σ := σ) hl
    refine .agg (by simpa using h1) fun i u hu => ?_
    obtain ⟨y, hy, hr⟩ := h2 i u hu
    have : cs.getD i undef = y := by
      rw [Array.getElem?_toList] at hy
      simp [Array.getD_eq_getD_getElem?, hy]
    rw [this]; exact hr
  · rw [Option.map_eq_some_iff] at h
    obtain ⟨u, hu, rfl⟩ := h
    exact (zc_rel hu).ld

theorem azero_run {t : TypeId} {v : AV} (h : azero P t = some v) : ∃ z, (zeroValue t).run P w = .ok z w ∧ Rel σ v z := by
  unfold azero at h
  cases hi : P.info? t with
  | none => simp [hi] at h
  | some i =>
    simp only [hi, Option.bind_some] at h
    cases hz : i.zero with
    | none => simp [hz] at h
    | some z =>
      simp only [hz, Option.bind_some] at h
      exact ⟨z, by simp [zeroValue, typeInfo, hi, hz], zv_rel h⟩

theorem keyOk_check {t : TypeId} {k : PV} {x : Value} (hk : keyOk P t k = true) (hx : RelP σ.I k x) (e : Bool) : (Instr.checkKey e 10000 t x).run P w = .ok () w := by
  show (Instr.checkKey e (9999 + 1) t x).run P w = _
  unfold keyOk at hk
  cases hx with
  | int k n =>
    simp only at hk
    split at hk
    · rename_i hu; rw [Instr.checkKey, Sem.run_bind, run_underlying hu]; rfl
    · simp at hk
  | str s =>
    simp only at hk
    split at hk
    · rename_i hu; rw [Instr.checkKey, Sem.run_bind, run_underlying hu]; rfl
    · simp at hk
  | _ => simp at hk

/-- The entries of a map in the model, and what is said of them. -/
def EsRel (σ : Sg) (es' : List MapEntry) (es : List (PV × AV × Nat)) : Prop :=
  es'.length = es.length ∧ ∀ (j : Nat) (k : PV) (v : AV) (n : Nat), es[j]? = some (k, v, n) → RelP σ.I k (es'.getD j default).key ∧ Rel σ v (es'.getD j default).val ∧ (es'.getD j default).born = n

theorem EsRel.tail {e : MapEntry} {es' : List MapEntry} {x : PV × AV × Nat} {es : List (PV × AV × Nat)} (h : EsRel σ (e :: es') (x :: es)) : EsRel σ es' es :=
  ⟨by simpa using h.1, fun j k v n hj => by simpa using h.2 (j + 1) k v n (by simpa using hj)⟩

theorem EsRel.head {e : MapEntry} {es' : List MapEntry} {k : PV} {v : AV} {n : Nat} {es : List (PV × AV × Nat)} (h : EsRel σ (e :: es') ((k, v, n) :: es)) :
    RelP σ.I k e.key ∧ Rel σ v e.val ∧ e.born = n := by simpa using h.2 0 k v n rfl

theorem sameNow_rel {t : TypeId} {k k' : PV} {x x' : Value} {b : Bool} {d : TypeDesc} (hu : P.underlying t = some d) (hk : keyOk P t k = true) (hx : RelP σ.I k x) (hx' : RelP σ.I k' x') (hb : pkeq k k' = some b) :
    Instr.sameNow d x x' = some b := by
  unfold pkeq at hb
  unfold keyOk at hk
  split at hb
  · cases hx; cases hx'
    simp only [hu] at hk
    split at hb
    · rename_i he
      subst he
      simp only [Option.some.injEq] at hb; subst hb
      split at hk
      · rename_i hd; simp only [Option.some.injEq] at hd; subst hd; simp [Instr.sameNow]
      · simp at hk
    · simp at hb
  · cases hx; cases hx'
    simp only [hu] at hk
    simp only [Option.some.injEq] at hb; subst hb
    split at hk
    · rename_i hd; simp only [Option.some.injEq] at hd; subst hd; simp [Instr.sameNow]
    · simp at hk
  · simp at hb

theorem findNow_rel {t : TypeId} {k : PV} {x : Value} {d : TypeDesc} (hu : P.underlying t = some d) (hk : keyOk P t k = true) (hx : RelP σ.I k x) :
    ∀ {es' : List MapEntry} {es : List (PV × AV × Nat)} {r : Option AV} (i : Nat), EsRel σ es' es → afind k es = some r →
      match r with
      | none => Instr.findNow d x es' i = some none
      | some v => ∃ j y, Instr.findNow d x es' i = some (some (i + j, y)) ∧ Rel σ v y ∧ j < es'.length
  | [], [], r, i, _, h => by simp [afind] at h; subst h; rfl
  | [], _ :: _, r, i, he, h => by simp [EsRel] at he
  | _ :: _, [], r, i, he, h => by simp [EsRel] at he
  | e :: es', (k', v, n) :: es, r, i, he, h => by
    simp only [afind] at h
    have hh := he.head
    split at h
    · rename_i hb
      simp only [Option.some.injEq] at h; subst h
      have := sameNow_rel (P := P) hu hk hx hh.1 hb
      exact ⟨0, e.val, by simp [Instr.findNow, this], hh.2.1, by simp⟩
    · rename_i hb
      have hs := sameNow_rel (P := P) hu hk hx hh.1 hb
      have ih := findNow_rel hu hk hx (i + 1) he.tail h
      cases r with
      | none => simp only at ih ⊢; simp [Instr.findNow, hs, ih]
      | some u =>
        obtain ⟨j, y, h1, h2, h3⟩ := ih
        exact ⟨j + 1, y, by simp [Instr.findNow, hs, h1]; omega, h2, by simp; omega⟩
    · simp at h

theorem findKey_run {t : TypeId} {k : PV} {x : Value} (hk : keyOk P t k = true) (hx : RelP σ.I k x) {es' : List MapEntry} {es : List (PV × AV × Nat)} {r : Option AV}
    (he : EsRel σ es' es) (h : afind k es = some r) :
    match r with
    | none => (Instr.findKey t x es').run P w = .ok none w
    | some v => ∃ j y, (Instr.findKey t x es').run P w = .ok (some (j, y)) w ∧ Rel σ v y ∧ j < es'.length := by
  have : ∃ d, P.underlying t = some d := by
    unfold keyOk at hk
    cases hu : P.underlying t with
    | none => cases k <;> simp [hu] at hk
    | some d => exact ⟨d, rfl⟩
  obtain ⟨d, hu⟩ := this
  have hf := findNow_rel (P := P) hu hk hx 0 he h
  cases r with
  | none => simp only at hf ⊢; simp [Instr.findKey, run_underlying hu, hf]
  | some v =>
    obtain ⟨j, y, h1, h2, h3⟩ := hf
    exact ⟨0 + j, y, by simp [Instr.findKey, run_underlying hu, h1], h2, by omega⟩

/-- A map's entries as they lie. -/
theorem amapOf_rel (hr : RelS σ s nt a w) {m : AV} {m' : Value} (hm : Rel σ m m') {es : List (PV × AV × Nat)} (h : amapOf s m = some es) :
    (m' = .map none ∧ es = []) ∨ ∃ b es' clock, m' = .map (some b) ∧ w.heap[b]? = some (.map es' clock) ∧ EsRel σ es'.toList es := by
  unfold amapOf at h
  split at h
  · simp at h; subst h
    cases hm with | p hm => cases hm; exact .inl ⟨rfl, rfl⟩
  · rename_i id
    split at h
    · rename_i es0 clock hg
      simp at h; subst h
      cases hm with | map hb =>
      obtain ⟨b', hb', es', h1, h2, h3⟩ := hr.blks (.g id) _ (show s.look (.g id) = _ from hg)
      rw [hb] at hb'; cases hb'
      exact .inr ⟨_, es', clock, rfl, h1, by simpa using h2, fun j k v n hj => by simpa [Array.getD_eq_getD_getElem?, List.getD_eq_getElem?_getD] using h3 j k v n hj⟩
    · simp at h
  · simp at h

theorem alookup_run (hr : RelS σ s nt a w) {t : TypeId} {m i v : AV} {ok : Bool} (h : alookup P s t m i ok = some v) {m' i' : Value} (hm : Rel σ m m') (hi : Rel σ i i') :
    ∃ r, (Instr.lookup t m' i' ok).run P w = .ok r w ∧ Rel σ v r := by
  unfold alookup at h
  split at h
  · rename_i key elem es k hu hes
    cases hi with | p hi =>
    split at h
    · rename_i hk
      have hget : ∃ es' : Array MapEntry, EsRel σ es'.toList es ∧ ∀ K : Array MapEntry → Sem Value,
          (do let es ← match m' with
                | .map none => (pure #[] : Sem (Array MapEntry))
                | .map (some r) => do
                  let .map es _ ← getObj r | stuck "Lookup: map expected"
                  pure es
                | _ => stuck "Lookup: map expected"
              K es).run P w = (K es').run P w := by
        rcases amapOf_rel hr hm hes with ⟨rfl, rfl⟩ | ⟨b, es', clock, rfl, hb, he⟩
        · exact ⟨#[], ⟨rfl, by simp⟩, fun K => rfl⟩
        · exact ⟨es', he, fun K => by simp [getObj, Sem.run, hb]⟩
      obtain ⟨es', he, hK⟩ := hget
      have hrun : (Instr.lookup t m' i' ok).run P w = (do
          Instr.checkKey es'.isEmpty 10000 key i'
          let (v, ok') ← match ← Instr.findKey key i' es'.toList with
            | some (_, v) => pure (v, true)
            | none => pure (← zeroValue elem, false)
          pure (if ok then Value.tuple #[v, .bool ok'] else v) : Sem Value).run P w := by
        unfold Instr.lookup
        rw [Sem.run_bind, run_underlying hu]
        exact hK _
      rw [hrun, Sem.run_bind, keyOk_check hk hi]
      simp only [Result.andThen_ok]
      split at h
      · rename_i u hf
        obtain ⟨j, y, h1, h2, _⟩ := findKey_run (P := P) (w := w) hk hi he hf
        simp only [Option.some.injEq] at h; subst h
        cases ok
        · exact ⟨y, by simp [h1], by simpa using h2.plain⟩
        · refine ⟨.tuple #[y, .bool true], by simp [h1], .tuple rfl fun j x hj => ?_⟩
          match j, hj with
          | 0, hj => simp at hj; subst hj; exact h2.plain
          | 1, hj => simp at hj; subst hj; exact .p (.bool _)
      · rename_i hf
        have h1 := findKey_run (P := P) (w := w) hk hi he hf
        simp only at h1
        rw [Option.map_eq_some_iff] at h
        obtain ⟨z, hz, rfl⟩ := h
        obtain ⟨z', hz', hzr⟩ := azero_run (P := P) (σ := σ) (w := w) hz
        cases ok
        · exact ⟨z', by simp [h1, hz'], by simpa using hzr⟩
        · refine ⟨.tuple #[z', .bool false], by simp [h1, hz'], .tuple rfl fun j x hj => ?_⟩
          match j, hj with
          | 0, hj => simp at hj; subst hj; exact hzr
          | 1, hj => simp at hj; subst hj; exact .p (.bool _)
      · simp at h
    · simp at h
  · simp at h
end
end Go.Abs
