/-
  A variable that is made anew in each round: the old one is forgotten.
-/
import Derived.Test.YtnicgdfnfnchjaaB1
set_option linter.unusedVariables false
namespace Go.Abs

def notKey (d : Nat) : Key → Bool
  | .l t => !(t == d)
  | .g _ => true
def notTok (d : Nat) : Tok → Bool
  | .c (.l t) _ => !(t == d)
  | _ => true

def AV.sans (d : Nat) (v : AV) : Bool := v.chk (notKey d) (notTok d)

def dropL (d : Nat) : LS → LS
  | [] => []
  | (t, cs) :: r => if t = d then dropL d r else (t, cs) :: dropL d r

theorem get_dropL (d : Nat) : ∀ (L : LS) (t : Nat), get (dropL d L) t = if t = d then none else get L t
  | [], t => by simp [dropL, get]
  | (u, cs) :: r, t => by
    simp only [dropL]
    split
    · rename_i e
      rw [get_dropL d r t]
      split
      · rfl
      · rename_i h; simp only [get]; rw [if_neg (fun e2 => h (by rw [← e2, e]))]
    · rename_i e
      simp only [get]
      split
      · rename_i e2; subst e2; rw [if_neg e]
      · exact get_dropL d r t

def St.kill (d : Nat) (s : St) : St :=
  if (get s.L d).isNone then s
  else if (dropL d s.L).all fun p => p.2.all (AV.sans d) then { ts := s.ts.map fun x => (x.1, if x.2.sans d then x.2 else .undef), L := dropL d s.L, G := s.G } else s

def Sg.kill (d : Nat) (σ : Sg) : Sg :=
  { σ with blk := fun k => if notKey d k then σ.blk k else none, tok := fun t => if notTok d t then σ.tok t else none }

section
variable {P : Program} {σ : Sg} {s : St} {nt : Nat} {a : Act} {w : World}

theorem kill_blk {d : Nat} {k : Key} {b : Nat} (h : (σ.kill d).blk k = some b) : notKey d k = true ∧ σ.blk k = some b := by
  simp only [Sg.kill] at h
  split at h
  · rename_i hk; exact ⟨hk, h⟩
  · simp at h
theorem kill_tok {d : Nat} {t : Tok} {x} (h : (σ.kill d).tok t = some x) : notTok d t = true ∧ σ.tok t = some x := by
  simp only [Sg.kill] at h
  split at h
  · rename_i hk; exact ⟨hk, h⟩
  · simp at h

theorem Rel.kill {d : Nat} {v : AV} {x : Value} (h : Rel σ v x) (hv : v.sans d = true) : Rel (σ.kill d) v x :=
  Rel.keep (σ := σ) (σ' := σ.kill d) (fun _ _ _ h => h) (fun k b hk hb => by simp [Sg.kill, hk, hb]) (fun t x ht h => by simp [Sg.kill, ht, h]) h hv

theorem mem_of_get {α : Type} : ∀ {l : List (Nat × α)} {t : Nat} {x : α}, get l t = some x → (t, x) ∈ l
  | [], t, x, h => by simp [get] at h
  | (u, y) :: r, t, x, h => by
    simp only [get] at h
    split at h
    · rename_i e; subst e; simp at h; subst h; simp
    · exact List.mem_cons_of_mem _ (mem_of_get h)

theorem RelS.kill (hr : RelS σ s nt a w) (d : Nat) : ∃ σ', RelS σ' (s.kill d) nt a w ∧ Post σ σ' w w := by
  unfold St.kill
  split
  · exact ⟨σ, hr, .refl _ _⟩
  · split
    · rename_i hall
      have hlook : ∀ {k : Key} {blk : Blk}, ({ ts := s.ts.map fun x => (x.1, if x.2.sans d then x.2 else .undef), L := dropL d s.L, G := s.G } : St).look k = some blk → notKey d k = true ∧ s.look k = some blk ∧
          (∀ cs, blk = .cells cs → ∀ (j : Nat) (x : AV), cs[j]? = some x → x.chk (fun q => notKey d q && keyf k q) (fun t => notTok d t && (t == .c k j)) = true) := fun {k blk} h => by
        cases k with
        | g id =>
          refine ⟨rfl, h, ?_⟩
          rintro cs rfl j x hj
          have hc := hr.cinv (.g id) (.cells cs) h j x hj
          exact chk_imp (f := keyf (.g id)) (g := fun t => t == .c (.g id) j) (fun q hq => by cases q <;> simp_all [keyf, notKey]) (fun t ht => by simp at ht; subst ht; simp [notTok]) _ hc
        | l t =>
          simp only [St.look, get_dropL, Option.map_eq_some_iff] at h
          obtain ⟨cs, h1, rfl⟩ := h
          split at h1
          · simp at h1
          · rename_i hne
            have hl : s.look (.l t) = some (.cells cs) := by simp [St.look, h1]
            refine ⟨by simp [notKey, hne], hl, ?_⟩
            rintro cs' he j x hj
            cases he
            have hmem : (t, cs) ∈ dropL d s.L := mem_of_get (by rw [get_dropL, if_neg hne]; exact h1)
            have h2 := List.all_eq_true.1 (List.all_eq_true.1 hall _ hmem) x (List.mem_of_getElem? hj)
            have h3 := hr.cinv _ _ hl j x hj
            have both : ∀ v : AV, v.chk (notKey d) (notTok d) = true → v.chk (keyf (.l t)) (fun q => q == .c (.l t) j) = true → v.chk (fun q => notKey d q && keyf (.l t) q) (fun q => notTok d q && (q == .c (.l t) j)) = true := by
              intro v
              exact AV.rec (motive_1 := fun v => v.chk (notKey d) (notTok d) = true → v.chk (keyf (.l t)) (fun q => q == .c (.l t) j) = true → v.chk (fun q => notKey d q && keyf (.l t) q) (fun q => notTok d q && (q == .c (.l t) j)) = true)
                (motive_2 := fun l => AV.chks (notKey d) (notTok d) l = true → AV.chks (keyf (.l t)) (fun q => q == .c (.l t) j) l = true → AV.chks (fun q => notKey d q && keyf (.l t) q) (fun q => notTok d q && (q == .c (.l t) j)) l = true)
                (fun _ _ _ => rfl) (fun _ _ h h' => by simp only [AV.chk] at *; simp [h, h']) (fun _ _ _ => rfl) (fun _ _ h h' => by simp only [AV.chk] at *; simp [h, h']) (fun _ _ _ _ h h' => by simp only [AV.chk] at *; simp [h, h'])
                (fun _ _ _ => rfl) (fun _ h h' => by simp only [AV.chk] at *; simp [h, h']) (fun f a b iha ihb h h' => by simp only [AV.chk, Bool.and_eq_true] at *; exact ⟨iha h.1 h'.1, ihb h.2 h'.2⟩) (fun t v ih h h' => by simp only [AV.chk] at *; exact ih h h')
                (fun l ih h h' => by simp only [AV.chk] at *; exact ih h h') (fun l ih h h' => by simp only [AV.chk] at *; exact ih h h') (fun _ _ => rfl) (fun _ _ => rfl)
                (fun x l ihx ihl h h' => by simp only [AV.chks, Bool.and_eq_true] at *; exact ⟨ihx h.1 h'.1, ihl h.2 h'.2⟩) v
            exact both x h2 h3
      have hwf : WFS (σ.kill d) w := ⟨fun k k' b h1 h2 => hr.wf.inj _ _ _ (kill_blk h1).2 (kill_blk h2).2, fun k t b e l h1 h2 => hr.wf.injt _ _ _ _ _ (kill_blk h1).2 (kill_tok h2).2,
        fun t t' b e l e' l' h1 h2 => hr.wf.injtt _ _ _ _ _ _ _ (kill_tok h1).2 (kill_tok h2).2, fun k b h1 => hr.wf.lt _ _ (kill_blk h1).2, fun t b e l h1 => hr.wf.tokw _ _ _ _ (kill_tok h1).2, fun k b o h1 => hr.wf.blkI _ _ _ (kill_blk h1).2, hr.wf.imm⟩
      refine ⟨σ.kill d, ⟨hr.sz, hr.df, fun t x h => ?_, fun k blk h => ?_, fun k blk h => hr.cinv k blk (hlook h).2.1, fun id h => ?_, fun t h => ?_, hwf⟩, ?_⟩
      · have h := h
        simp only [get_map (fun v : AV => if v.sans d then v else .undef)] at h
        rw [Option.map_eq_some_iff] at h
        obtain ⟨v, hv, rfl⟩ := h
        obtain ⟨h1, h2⟩ := hr.vals _ _ hv
        refine ⟨h1, ?_⟩
        split
        · rename_i hs; exact h2.kill hs
        · exact .undef _
      · obtain ⟨h1, h2, h3⟩ := hlook h
        obtain ⟨b, q1, q2⟩ := hr.blks _ _ h2
        refine ⟨b, by simp [Sg.kill, h1, q1], ?_⟩
        cases blk with
        | cells cs =>
          obtain ⟨c, T, g1, g2, g3⟩ := q2
          exact ⟨c, T, g1, g2, fun j x hj => (g3 j x hj).kill (chk_imp (fun q hq => by simp at hq; exact hq.1) (fun t ht => by simp at ht; exact ht.1) _ (h3 cs rfl j x hj))⟩
        | map es cl =>
          obtain ⟨c, g1, g2, g3⟩ := q2
          cases k with
          | g id =>
            have hi := hr.cinv _ _ h2
            exact ⟨c, g1, g2, fun j k v n hj => ⟨(g3 j k v n hj).1, (g3 j k v n hj).2.1.kill (chk_imp (fun q hq => by cases q <;> simp_all [keyf, notKey]) (fun t ht => by simp at ht) _ (hi j _ hj)), (g3 j k v n hj).2.2⟩⟩
          | l t => simp [St.look] at h2
        | dead => trivial
      · simp only [Sg.kill, notKey, if_true]; exact hr.gfree id h
      · simp only [get_dropL] at h
        simp only [Sg.kill, notKey]
        split at h
        · rename_i e; subst e; simp
        · rename_i hne; simp [hne, hr.lfree t h]
      · refine ⟨fun _ _ _ h => h, fun _ _ _ h => .inl h, fun b hb => .inl ?_, fun id b h => by simp [Sg.kill, notKey, h], fun _ _ _ => rfl, Nat.le_refl _, rfl, rfl, rfl, rfl, fun _ => rfl⟩
        rcases hb with ⟨k, hb⟩ | ⟨t, e, l, hb⟩
        · exact .inl ⟨k, (kill_blk hb).2⟩
        · exact .inr ⟨t, e, l, (kill_tok hb).2⟩
    · exact ⟨σ, hr, .refl _ _⟩

theorem Does.kill {o : Oper} {d : Nat} {s' : St} (h : Does P nt (s.kill d) o s') : Does P nt s o s' := by
  intro σ a w hr
  obtain ⟨σ1, h1, p1⟩ := hr.kill d
  obtain ⟨x, w', σ', h2, h3, h4⟩ := h σ1 a w h1
  exact ⟨x, w', σ', h2, h3, p1.trans h4⟩
end
end Go.Abs
