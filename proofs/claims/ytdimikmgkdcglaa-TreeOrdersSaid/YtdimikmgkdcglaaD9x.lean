/- Walks: what layer 4 shows; a chain with a loop. No conditions. Printed by gen2.py. -/
import Derived.Test.YtdimikmgkdcglaaC7
import Derived.Test.YtdimikmgkdcglaaD8
import Derived.Test.YtdimikmgkdcglaaE2
set_option linter.unusedVariables false
set_option linter.unusedSimpArgs false
namespace Go.Proofs.Ytdimikmgkdcglaa
open Go.RowKit

def shL : List Nd := [zNd (some [1, 2]), zNd none, zNd (some [3]), zNd none]
theorem shPg : Pg (.ro (eN shL)) shL := ⟨IsR.mk_ro _, by decide, by decide⟩
theorem shCheck : checkE shL = none := by kernel_rfl
theorem shWalk : (walkP shL).1 = [0, 1, 2, 3] := by kernel_rfl
theorem shDepths : depthsP shL = [1, 2, 2, 3] := by kernel_rfl
theorem Pg.nil : Pg nilS [] := ⟨IsR.mk_nil, by decide, by decide⟩
theorem checkP_nil : checkP [] = (0, 43) := by kernel_rfl
theorem Pg.depths {x : AV} {l : List Nd} (h : Pg x l) (σ : AH) : AC Try.prog 32 [x] σ fun r σ' => match checkE l with | some p => r = .tu [nilS, eI p.2] ∧ σ' = σ | none => r = .tu [slv (eIs (depthsP l)), eI 0] ∧ σ' = σ := Depths_ac σ x l h
theorem Pg.parents {x : AV} {l : List Nd} (h : Pg x l) (σ : AH) : AC Try.prog 33 [x] σ fun r σ' => match checkE l with | some p => r = .tu [nilS, eI p.2] ∧ σ' = σ | none => r = .tu [.ro (eIs (parsP l (prs l).length)), eI 0] ∧ σ' = σ := Parents_ac σ x l h


set_option maxHeartbeats 4000000 in
theorem shown04_ac (σ : AH) : AC Try.prog 28 [] σ fun r σ' => r = eB true ∧ σ' = σ := by
  refine AC.of_body Try.func28 (by kernel_rfl) rfl (by rw [Try.ntmps28]; simp) ?_
  rw [Try.ntmps28]
  refine AT.seq fun K1 hK1 => ?_
  refine AT.regionK [] fun K2 hK2 => ?_
  simp (disch := omega)
  refine hK2 _ _ ?_; try clear hK2 K2
  refine hK1 _ _ ?_; try clear hK1 K1
  refine AT.seq fun K3 hK3 => ?_
  refine AT.regionK [] fun K4 hK4 => ?_
  simp (disch := omega)
  refine hK4 _ _ ?_; try clear hK4 K4
  refine hK3 _ _ ?_; try clear hK3 K3
  refine AT.seq fun K5 hK5 => ?_
  refine AT.region [] ?_
  refine vops_cut 2 fun Kc7 hKc7 => ?_
  simp (disch := omega)
  have h4 := shPg.order σ
  rw [shCheck] at h4
  refine AC.q h4 ?_
  try simp (disch := omega)
  refine hKc7 _ _ ?_; try clear hKc7 Kc7
  refine vops_end fun K6 hK6 => ?_
  simp (disch := omega)
  refine hK6 _ _ ?_; try clear hK6 K6
  refine hK5 _ _ ?_; try clear hK5 K5
  refine AT.seq fun K8 hK8 => ?_
  refine AT.region [] ?_
  refine vops_cut 2 fun Kc10 hKc10 => ?_
  simp (disch := omega)
  have h4 := shPg.depths σ
  rw [shCheck] at h4
  refine AC.q h4 ?_
  try simp (disch := omega)
  refine hKc10 _ _ ?_; try clear hKc10 Kc10
  refine vops_end fun K9 hK9 => ?_
  simp (disch := omega)
  refine hK9 _ _ ?_; try clear hK9 K9
  refine hK8 _ _ ?_; try clear hK8 K8
  refine AT.seq fun K11 hK11 => ?_
  refine AT.region [] ?_
  refine vops_cut 1 fun Kc13 hKc13 => ?_
  simp (disch := omega)
  refine AC.q ((Pg.nil).check σ) ?_
  try simp (disch := omega)
  refine hKc13 _ _ ?_; try clear hKc13 Kc13
  refine vops_end fun K12 hK12 => ?_
  simp (disch := omega)
  refine hK12 _ _ ?_; try clear hK12 K12
  refine hK11 _ _ ?_; try clear hK11 K11
  refine AT.seq fun K14 hK14 => ?_
  refine AT.region [] ?_
  refine vops_cut 14 fun Kc16 hKc16 => ?_
  simp +contextual (disch := omega) [checkP_nil, shWalk, shDepths]
  refine AC.q (ints_ac σ _ _ [0, 1, 2, 3] [0, 1, 2, 3] (IsR.mk_ro _) (IsR.mk_ro _) (by simp)) ?_
  try simp +contextual (disch := omega)
  refine hKc16 _ _ ?_; try clear hKc16 Kc16
  refine vops_cut 5 fun Kc17 hKc17 => ?_
  simp +contextual (disch := omega) [checkP_nil, shWalk, shDepths]
  refine AC.q (ints_ac σ _ _ [1, 2, 2, 3] [1, 2, 2, 3] (IsR.mk_ro _) (IsR.mk_ro _) (by simp)) ?_
  try simp +contextual (disch := omega)
  refine hKc17 _ _ ?_; try clear hKc17 Kc17
  refine vops_end fun K15 hK15 => ?_
  simp +contextual (disch := omega) [checkP_nil, shWalk, shDepths]
  refine hK15 _ _ ?_; try clear hK15 K15
  refine hK14 _ _ ?_; try clear hK14 K14
  refine AT.ret ?_
  try simp only [thenQ, blockQ, scopeQ]
  exact ret_keep rfl (AH.le_refl _) ⟨by simp [aret], rfl⟩

/-- A chain's first links. -/
def chainL (n i : Nat) : List Nd := (List.range n).map fun j => zNd (if j < i then some [(j : Int) + 1] else none)
@[simp] theorem chainL_len (n i : Nat) : (chainL n i).length = n := by simp [chainL]
theorem chainL_zero (n : Nat) : chainL n 0 = List.replicate n (zNd none) := by
  unfold chainL
  rw [List.eq_replicate_iff]
  simp
theorem chainL_at {n i j : Nat} (h : j < n) : (chainL n i)[j]'(by simp [h]) = zNd (if j < i then some [(j : Int) + 1] else none) := by simp [chainL]
theorem chainL_succ {n i : Nat} (h : i < n) : (chainL n i).set i (zNd (some [(i : Int) + 1])) = chainL n (i + 1) := by
  refine List.ext_getElem (by simp) fun j h1 h2 => ?_
  have hj : j < n := by simpa using h2
  rw [List.getElem_set, chainL_at hj, chainL_at hj]
  by_cases hij : i = j
  · subst hij; simp
  · simp only [hij, if_false]
    by_cases h3 : j < i
    · simp [h3, show j < i + 1 by omega]
    · simp [h3, show ¬ j < i + 1 by omega]
theorem zNd_wk (k : Sl) (a : List Int) : (zNd k).wk (some a) = zNd (some a) := rfl
theorem chainL_loop {n fr to : Nat} (hf : fr < n) : (chainL n (n - 1)).set fr (zNd (some ((zNd (if fr < n - 1 then some [(fr : Int) + 1] else none)).kids.l ++ [(to : Int)]))) = loopL n fr to := by
  refine List.ext_getElem (by simp [loopL_len]) fun j h1 h2 => ?_
  have hj : j < n := by simpa using h1
  have h3 : (loopL n fr to)[j] = zNd (loopK n fr to j) := by simp [loopL]
  rw [List.getElem_set, h3, chainL_at hj]
  unfold loopK
  by_cases hij : fr = j
  · subst hij
    by_cases h4 : fr < n - 1
    · simp [h4, show fr + 1 < n by omega, Sl.l]
    · simp [h4, show ¬ fr + 1 < n by omega, Sl.l]
  · by_cases h4 : j < n - 1
    · simp [hij, Ne.symm hij, h4, show j + 1 < n by omega]
    · simp [hij, Ne.symm hij, h4, show ¬ j + 1 < n by omega]
theorem chainL_loopK {n fr to : Nat} (hf : fr < n) : (chainL n (n - 1)).set fr (zNd (some ((if fr < n - 1 then some [(fr : Int) + 1] else none : Sl).l ++ [(to : Int)]))) = loopL n fr to := chainL_loop hf
theorem loopPg {n fr to : Nat} (hn : n ≤ 60) (hf : fr < n) : Pg (.ro (eN (loopL n fr to))) (loopL n fr to) := by
  refine ⟨IsR.mk_ro _, by rw [loopL_len]; omega, ?_⟩
  have h1 : ∀ m, m ≤ n → ((List.range m).flatMap fun i : Nat => (kidsAt (loopL n fr to) i).map fun k => (i, k)).length ≤ 2 * m := by
    intro m
    induction m with
    | zero => simp
    | succ m ih =>
      intro hm
      rw [List.range_succ, List.flatMap_append, List.length_append]
      have := ih (by omega)
      simp only [List.flatMap_cons, List.flatMap_nil, List.append_nil, List.length_map]
      rw [loopL_kids (by omega), loopK_l, List.length_append]
      have e1 : (if m + 1 < n then [((m : Int) + 1)] else []).length ≤ 1 := by split <;> simp
      have e2 : (if m = fr then [(to : Int)] else []).length ≤ 1 := by split <;> simp
      omega
  have h2 := h1 n (Nat.le_refl _)
  rw [prs_flat, loopL_len]
  omega


end Go.Proofs.Ytdimikmgkdcglaa
