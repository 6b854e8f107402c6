/-
  A run of TreeCounts' module.
-/
import Derived.Test.YtnicgdfnfnchjaaW6
set_option linter.unusedVariables false
set_option maxRecDepth 100000
namespace Go.Proofs.Ytnicgdfnfnchjaa
open Go.Abs

def loopAns (args : List AV) (G : List Blk) : Option (AEnd × List Blk × List Prop) :=
  match G with
  | [_, _, _, .cells [.own fr _, _, _, _, _, _, _, _, .p (.int .i64 x), _], _, _, .cells [.p (.int .i64 j)], _] =>
    some (.ret (.p (i64 0)), heapC fr (outO (rowsC j j.toNat)) (x + 10 * j + 5) 0,
      [args = [.ptr (.g 3) 0, .ptr (.g 7) 0, .p (.vec bodyC)] ∧ G = heapC fr (.full []) x j ∧ 0 ≤ j ∧ j ≤ 255 ∧ 0 ≤ x ∧ x ≤ 50])
  | _ => none

def extL : XF := fun f args G => if f = 153 then loopAns args G else extOf f args G

theorem extL_ok : extL.ok Try.prog := by
  intro f args G r G' ps h hp
  unfold extL at h
  split at h
  · rename_i hf
    subst hf
    unfold loopAns at h
    split at h
    · rename_i b0 b1 b2 fr tok c1 c2 c3 c4 c5 c6 c7 x c9 b4 b5 j b7
      simp only [Option.some.injEq, Prod.mk.injEq] at h
      obtain ⟨rfl, rfl, rfl⟩ := h
      obtain ⟨h1, h2, h3, h4, h5, h6⟩ := hp _ (List.mem_singleton.2 rfl)
      rw [h1, h2]
      have hj : ((j.toNat : Nat) : Int) = j := Int.toNat_of_nonneg h3
      have := c_loop fr j.toNat x (by omega) ⟨h5, h6⟩
      rw [hj] at this
      exact this
    · cases h
  · exact ext_ok _ _ _ _ _ _ h hp

def argsC (k : Int) : List AV := [.p (modC k), .p (.vec [[.str bytesF]]), .p (i64 1), .p (.vec []), .p (i64 100000)]

def keep81 : List Nat := [0, 5, 7, 9, 11, 12, 14, 16, 18, 20, 22, 24, 25, 27, 28, 29, 32, 33, 39, 40, 60, 61, 89, 90, 96, 97, 148, 149, 212, 213, 214, 235, 236, 237]
def soft81 : List Nat := [1, 31, 38, 59, 88, 95, 147]
/-- Which slots are told where two ways meet. -/
def orcT : FuncId → Orc := fun f t =>
  if f = 113 then (if (t == 1000000 || t == 2000004) = true then some true else none)
  else if f = 137 then (if (t == 1000000) = true then some true else none)
  else if f = 81 then (if t = 1000000 then some true else if t < 2000000 then none else if keep81.contains (t - 2000000) then some true else if soft81.contains (t - 2000000) then some false else none)
  else none

def bytesFF : ByteArray := { data := #[102, 102] }
def s1C (k : Int) : List PV := [i64 1, i64 0, .vec [eC k], .vec [], .vec []]
def frC (k : Int) : List (List PV) := [[.str bytes0, .bool false, i64 0, i64 0, .vec []], funC k]
def rowM (k : Int) : List PV := [.str bytes0, .vec [funC k], .vec []]
def heapV (d : Int) : List Blk := [.map [(.str bytesF, .p (i64 1), 0)] 1, .cells [.p (i64 1), .p (i64 d)]]
def heapY (k : Int) : List Blk := [.map [(.str bytesF, .p (i64 1), 0)] 1, .map [] 0, .cells [.p (i64 0)],
   runB (.own (frC k) (.c (.g 3) 0)) (.map 0) (.map 1) (.ref (.g 2) 0 1 1) (.p (i64 1)) (.p (.vec [])) (.full []) 100000 0 (.p (i64 0)),
   .cells [.p (i64 0)], .cells [.p (i64 0)], .map [(.str bytesFF, .p (i64 2), 0)] 1]

def same (G : List Blk) (L : LS) : Prop := G = G ∧ L = L
def sameV (d : Int) (st : List PV) : Prop := same (heapV d) [(3, st.map AV.p)]
def sameO (v : AV) : Prop := some v = some v

def certsR (k : Int) : List Prop :=
  [sameV 0 (s1C k), sameV 0 (s1C k), sameV 1 sB, sameV 1 sB, sameV 1 sD, sameV 1 sD,
   same (heapY k) [(16, (funC k).map AV.p), (14, (rowM k).map AV.p), (9, (funC k).map AV.p), (7, (rowM k).map AV.p)],
   sameO (.p (.vec [funC k])), sameO (.p (modC k)), sameO (.p (.vec [])), sameO (.p (.vec [funC k])), sameO (.p (modC k)), sameO (.p (modC k)),
   same (heapC (frC k) (.full []) 2 k) [(5, (s1C k).map AV.p)],
   ([.ptr (.g 3) 0, .ptr (.g 7) 0, .p (.vec bodyC)] : List AV) = [.ptr (.g 3) 0, .ptr (.g 7) 0, .p (.vec bodyC)] ∧ heapC (frC k) (.full []) 3 k = heapC (frC k) (.full []) 3 k ∧ 0 ≤ k ∧ k ≤ 255 ∧ (0 : Int) ≤ 3 ∧ (3 : Int) ≤ 50]

theorem run_reckoned (k : Int) : xcall Try.prog extL xdOf heapOf orcT fzOf 1000 30 18 (argsC k) [] =
    some (.ret (.agg [.p (i64 1), .p (i64 0), .p (.vec (rowsC k k.toNat)), .p (i64 (3 + 10 * k + 5))]), [], certsR k) := by kernel_rfl

/-- A run of the module that counts down from k. -/
theorem c_run (k : Int) (hk : 0 ≤ k ∧ k ≤ 255) : ACalls Try.prog 18 (argsC k) [] fun r G => r = .ret (.agg [.p (i64 1), .p (i64 0), .p (.vec (rowsC k k.toNat)), .p (i64 (3 + 10 * k + 5))]) ∧ G = [] := by
  refine xcall_sound extL_ok xd_ok mixed 30 _ _ _ _ _ _ (run_reckoned k) ?_
  have hs : ∀ G L, same G L := fun G L => ⟨rfl, rfl⟩
  have hv : ∀ d st, sameV d st := fun d st => hs _ _
  have ho : ∀ v, sameO v := fun v => rfl
  unfold certsR
  refine certs_cons (hv _ _) <| certs_cons (hv _ _) <| certs_cons (hv _ _) <| certs_cons (hv _ _) <| certs_cons (hv _ _) <| certs_cons (hv _ _) <| certs_cons (hs _ _) <|
    certs_cons (ho _) <| certs_cons (ho _) <| certs_cons (ho _) <| certs_cons (ho _) <| certs_cons (ho _) <| certs_cons (ho _) <| certs_cons (hs _ _) <|
    certs_cons ⟨rfl, rfl, hk.1, hk.2, by decide, by decide⟩ certs_nil
end Go.Proofs.Ytnicgdfnfnchjaa
