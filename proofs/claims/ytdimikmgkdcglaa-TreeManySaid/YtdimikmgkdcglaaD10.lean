/- Walks: a star of nodes. No conditions. Printed by gen2.py. -/
import Derived.Test.YtdimikmgkdcglaaD9x
set_option linter.unusedVariables false
set_option linter.unusedSimpArgs false
namespace Go.Proofs.Ytdimikmgkdcglaa
open Go.RowKit

def rowK (n : Nat) (kv : AV) : List (List AV) := (eN (List.replicate n (zNd none))).set 0 (cellsK kv (zNd none))
@[simp] theorem rowK_len (n : Nat) (kv : AV) : (rowK n kv).length = n := by simp [rowK]
theorem rowK_at {n : Nat} (h : 0 < n) (kv : AV) : (rowK n kv)[0]? = some (cellsK kv (zNd none)) := by
  unfold rowK
  rw [List.getElem?_set_self (by simp; exact h)]
@[simp] theorem rowK_set (n : Nat) (kv kv' : AV) : (rowK n kv).set 0 (cellsK kv' (zNd none)) = rowK n kv' := by simp [rowK]
theorem rowK_nil (n : Nat) : rowK n nilS = eN (List.replicate n (zNd none)) := by
  unfold rowK
  show (eN (List.replicate n (zNd none))).set 0 (zNd none).cells = _
  rw [eN_set]
  congr 1
  cases n with
  | zero => rfl
  | succ n => simp [List.replicate]
def starK (j : Nat) : List Int := (List.range j).map fun k : Nat => (k : Int) + 1
theorem starK_len (j : Nat) : (starK j).length = j := by simp [starK]
theorem starK_succ (j : Nat) : starK (j + 1) = starK j ++ [(j : Int) + 1] := by simp [starK, List.range_succ]
theorem star_row {n : Nat} (h : 2 ≤ n) : (List.replicate n (zNd none)).set 0 ((zNd none).wk (some (starK (n - 1)))) = starL n := by
  refine List.ext_getElem (by simp [starL_len]) fun j h1 h2 => ?_
  have hj : j < n := by simpa using h1
  rw [List.getElem_set]
  simp only [starL, List.getElem_map, List.getElem_range, List.getElem_replicate]
  have h3 : ¬ n = 1 := by omega
  by_cases h0 : 0 = j
  · subst h0; simp [h3, starK, zNd, Nd.wk]
  · simp [h0, show ¬ j = 0 by omega]
theorem starPg {n : Nat} (h : 2 ≤ n) (hn : n < 1000000) : Pg (.ro (eN (starL n))) (starL n) := by
  refine ⟨IsR.mk_ro _, by rw [starL_len]; omega, ?_⟩
  rw [star_prs h]
  simp
  omega


set_option maxHeartbeats 4000000 in
theorem TreeMany_ac (σ : AH) (n : Int) : AC Try.prog 4 [eI n] σ fun r σ' => r = eB true := by
  refine AC.of_body Try.func4 (by kernel_rfl) rfl (by rw [Try.ntmps4]; simp) ?_
  rw [Try.ntmps4]
  refine AT.seq fun K1 hK1 => ?_
  refine AT.regionK [] fun K2 hK2 => ?_
  simp (disch := omega)
  refine hK2 _ _ ?_; try clear hK2 K2
  refine hK1 _ _ ?_; try clear hK1 K1
  refine AT.seq fun K3 hK3 => ?_
  refine AT.region [] ?_
  refine vops_cut 1 fun Kc5 hKc5 => ?_
  simp (disch := omega)
  refine AC.q (shown04_ac σ) ?_
  try simp (disch := omega)
  refine hKc5 _ _ ?_; try clear hKc5 Kc5
  refine vops_end fun K4 hK4 => ?_
  simp (disch := omega)
  refine hK4 _ _ ?_; try clear hK4 K4
  refine hK3 _ _ ?_; try clear hK3 K3
  refine AT.seq fun K6 hK6 => ?_
  refine AT.seq fun K7 hK7 => ?_
  refine AT.regionK [] fun K8 hK8 => ?_
  simp +contextual (disch := omega)
  refine hK8 _ _ ?_; try clear hK8 K8
  refine hK7 _ _ ?_; try clear hK7 K7
  refine AT.cond rfl (fun ht => ?_) (fun hf => ?_)
  · skip
    refine AT.seq fun K9 hK9 => ?_
    refine AT.keep [3] ?_
    simp only [keep, List.map_cons, List.map_nil, gt_sel, gt_nil, gsel, Nat.reduceBEq]
    refine AT.regionK [] fun K10 hK10 => ?_
    simp (disch := omega)
    refine hK10 _ _ ?_; try clear hK10 K10
    refine hK9 _ _ ?_; try clear hK9 K9
    refine AT.ret ?_
    try simp only [thenQ, blockQ, scopeQ]
    exact ret_keep (σ := σ) rfl (AH.le_refl _) rfl
  · simp at hf
    refine AT.skip ?_
    refine hK6 _ _ ?_; try clear hK6 K6
    refine AT.seq fun K11 hK11 => ?_
    refine AT.keep [0, 3] ?_
    simp only [keep, List.map_cons, List.map_nil, gt_sel, gt_nil, gsel, Nat.reduceBEq]
    obtain ⟨nn, rfl⟩ := Int.eq_ofNat_of_zero_le (show 0 ≤ n by omega)
    have hn1 : 65530 ≤ nn := by omega
    have hn2 : nn ≤ 65550 := by omega
    refine AT.regionK [] fun K12 hK12 => ?_
    simp (disch := omega)
    refine ⟨by omega, by omega, ?_⟩
    intro o ho
    refine hK12 _ _ ?_; try clear hK12 K12
    refine hK11 _ _ ?_; try clear hK11 K11
    refine AT.seq fun K13 hK13 => ?_
    refine AT.seq fun K14 hK14 => ?_
    refine AT.regionK [] fun K15 hK15 => ?_
    simp (disch := omega)
    refine hK15 _ _ ?_; try clear hK15 K15
    refine hK14 _ _ ?_; try clear hK14 K14
    refine AT.block ?_
    refine AT.whileK [0, 3, 4] (fun (p : Nat × AV) => [(5, eI ((p.1 : Int) + 1))]) (fun (p : Nat × AV) σ' => p.1 + 1 ≤ nn ∧ ∃ st, st ≤ nn ∧ Own (σ.set o (.row (rowK nn p.2) 34 37 st)) σ' p.2 (eIs (starK p.1)) 1 3) (fun (p : Nat × AV) => nn - p.1) ((0, nilS)) (by simp (disch := omega) [has, keep, AH.del_ne, AH.del_same]) ⟨by simp; omega, 0, by omega, by rw [rowK_nil]; exact Own.nil _ _ _⟩ ?_
    rintro ⟨j, kv⟩ τ ⟨hj, st, hst, hO⟩
    dsimp only at hj hO ⊢
    simp only [keep, List.map_cons, List.map_nil, List.cons_append, List.nil_append, gt_sel, gt_nil, gsel, Nat.reduceBEq]
    refine AT.seq fun K16 hK16 => ?_
    refine AT.seq fun K17 hK17 => ?_
    refine AT.regionK [] fun K18 hK18 => ?_
    simp (disch := omega)
    refine hK18 _ _ ?_; try clear hK18 K18
    refine hK17 _ _ ?_; try clear hK17 K17
    refine AT.cond rfl (fun ht => ?_) (fun hf => ?_)
    · simp at ht
      have hjn : j + 1 < nn := by omega
      have h0n : 0 < nn := by omega
      have hro := hO.at (AH.set_same _ _ _)
      have hsl := starK_len j
      have hone := hO.one
      have hcel := hO.cells
      refine AT.skip ?_
      refine hK16 _ _ ?_; try clear hK16 K16
      refine AT.seq fun K19 hK19 => ?_
      refine AT.block ?_
      refine AT.region [] ?_
      refine vops_cut 8 fun Kc21 hKc21 => ?_
      simp (disch := omega) [hro, hst, h0n, rowK_at, hone, hcel]
      refine hO.app (by simp; omega) (by simp; omega) fun kv2 τ2 hO2 => ?_
      have hro2 := hO2.at (AH.set_same _ _ _)
      have hone2 := hO2.one
      have hcel2 := hO2.cells
      try simp (disch := omega) [hro2, hone2, hcel2]
      refine hKc21 _ _ ?_; try clear hKc21 Kc21
      refine vops_end fun K20 hK20 => ?_
      simp (disch := omega) [hro2, hone2, hcel2, hro, hst, h0n, rowK_at, hone, hcel]
      have hO4 := hO2.setO (b := o) (.inr (by rw [AH.set_same]; simp)) (.row (rowK nn kv2) 34 37 nn)
      rw [AH.set_set, show eIs (starK j) ++ [[AV.sc (.int .i64 ((j : Int) + 1))]] = eIs (starK (j + 1)) by rw [starK_succ]; simp] at hO4
      refine hK20 _ _ ?_; try clear hK20 K20
      refine hK19 _ _ ?_; try clear hK19 K19
      refine AT.regionK [] fun K22 hK22 => ?_
      simp (disch := omega) [hro2, hone2, hcel2]
      refine hK22 _ _ ?_; try clear hK22 K22
      exact ⟨(j + 1, kv2), by dsimp only; omega, by simp (disch := omega) [has, keep, AH.del_ne, AH.del_same], by dsimp only; omega, nn, by omega, hO4⟩
    · simp at hf
      have hjn : j = nn - 1 := by omega
      subst hjn
      refine AT.exit ?_
      try simp only [thenQ, blockQ, scopeQ, if_true]
      refine hK13 _ _ ?_; try clear hK13 K13
      refine AT.seq fun K23 hK23 => ?_
      have hsl := starK_len (nn - 1)
      rcases hO with ⟨-, h9, -⟩ | ⟨y, sty, rfl, hy0, rfl, -, -⟩
      · rw [eIs_eq_nil] at h9; rw [h9] at hsl; simp at hsl; omega
      have hyo : y ≠ o := fun e => by subst e; rw [AH.set_same] at hy0; cases hy0
      have hyo2 := hyo.symm
      have hy : σ y = none := by rw [AH.set_other _ hyo] at hy0; exact hy0
      refine AT.freezeKid (σ := σ) (o := o) (y := y) (f := 0) (st := st) (sty := sty) (L := List.replicate nn (zNd none)) (n0 := zNd none) (m := nn - 1) (a := starK (nn - 1)) (by repeat (first | exact AH.le_refl _ | assumption | refine AH.le_set _ (by assumption) ?_ | refine AH.le_del (by assumption) ?_)) (by simp (disch := omega) [has, keep, AH.del_ne, AH.del_same, rowK, hsl]) (by simp (disch := omega) [has, keep, AH.del_ne, AH.del_same]) (by rw [hsl]) hyo2 hy [(0, eI nn), (3, eB true), (4, .sl o nn)] (by simp (disch := omega) [has, keep, AH.del_ne, AH.del_same]) (by simp [frz, hyo2]) ?_
      rw [star_row (by omega)]
      refine AT.freezeTop ho ?_
      have hll := starL_len nn
      try simp (disch := omega) [frz, hll]
      have hcp : checkP (starL nn) = (0, if (nn : Int) ≤ 65536 then 0 else 43) := by
        rw [checkP, star_check (by omega)]
        by_cases h : nn > 65536
        · rw [if_pos h, if_neg (by omega)]; rfl
        · rw [if_neg h, if_pos (by omega)]; rfl
      refine AT.region [] ?_
      refine vops_cut 2 fun Kc25 hKc25 => ?_
      simp (disch := omega)
      refine AC.q ((starPg (by omega) (by omega)).check σ) ?_
      try simp (disch := omega)
      refine hKc25 _ _ ?_; try clear hKc25 Kc25
      refine vops_end fun K24 hK24 => ?_
      simp (disch := omega)
      refine hK24 _ _ ?_; try clear hK24 K24
      refine hK23 _ _ ?_; try clear hK23 K23
      refine AT.seq fun K26 hK26 => ?_
      by_cases hc10_0 : (nn : Int) ≤ 65536
      · skip
        refine AT.regionK [] fun K27 hK27 => ?_
        simp +contextual (disch := omega) [hcp, hc10_0]
        refine hK27 _ _ ?_; try clear hK27 K27
        refine hK26 _ _ ?_; try clear hK26 K26
        refine AT.ret ?_
        try simp only [thenQ, blockQ, scopeQ]
        exact ret_keep (σ := σ) rfl (AH.le_refl _) (by simp [aret])
      · skip
        refine AT.keep [0, 3, 7] ?_
        simp only [keep, List.map_cons, List.map_nil, gt_sel, gt_nil, gsel, Nat.reduceBEq]
        refine AT.regionK [] fun K27 hK27 => ?_
        simp +contextual (disch := omega) [hcp, hc10_0]
        refine hK27 _ _ ?_; try clear hK27 K27
        refine hK26 _ _ ?_; try clear hK26 K26
        refine AT.ret ?_
        try simp only [thenQ, blockQ, scopeQ]
        exact ret_keep (σ := σ) rfl (AH.le_refl _) (by simp [aret])

end Go.Proofs.Ytdimikmgkdcglaa
