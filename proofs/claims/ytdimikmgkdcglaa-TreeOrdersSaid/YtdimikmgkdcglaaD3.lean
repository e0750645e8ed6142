/- Walks: a node that is right. No conditions. Printed by gen_walk.py. -/
import Derived.Test.YtdimikmgkdcglaaD2
set_option linter.unusedVariables false
set_option linter.unusedSimpArgs false
namespace Go.Proofs.Ytdimikmgkdcglaa
open Go.RowKit

/-- The first place, or -1. -/
def idxP {α : Type} (p : α → Bool) (l : List α) : Int := match l.findIdx? p with
  | some i => i
  | none => -1
theorem idxP_some {α : Type} {p : α → Bool} {l : List α} {i : Nat} {n : α} (h : l[i]? = some n) (hn : p n = true) (hb : ∀ (j : Nat) m, j < i → l[j]? = some m → p m = false) : idxP p l = i := by
  obtain ⟨hlt, rfl⟩ := List.getElem?_eq_some_iff.1 h
  unfold idxP
  rw [List.findIdx?_eq_some_iff_getElem.2 ⟨hlt, hn, fun j hj => by rw [hb j _ hj (by simp)]; simp⟩]
theorem idxP_none {α : Type} {p : α → Bool} {l : List α} (h : ∀ (j : Nat) m, l[j]? = some m → p m = false) : idxP p l = -1 := by
  unfold idxP
  rw [List.findIdx?_eq_none_iff.2 fun x hx => by
    obtain ⟨j, hj⟩ := List.mem_iff_getElem?.1 hx
    exact h j x hj]

theorem indexFunc64_ac (σ : AH) (x : AV) (g : FuncId) (caps : List AV) (p : Int → Bool) (l : List Int) (hx : IsS x (eIs l)) (hl : l.length < 9223372036854775807) (hp : ∀ n ∈ l, AC Try.prog g (eI n :: caps) σ fun r σ' => r = eB (p n) ∧ σ' = σ) : AC Try.prog 169 [x, .fn g caps] σ fun r σ' => r = eI (idxP p l) ∧ σ' = σ := by
  refine AC.of_body Try.func169 (by kernel_rfl) rfl (by rw [Try.ntmps169]; simp) ?_
  rw [Try.ntmps169]
  have hlen := hx.len
  rw [eIs_len] at hlen
  refine AT.seq fun K1 hK1 => ?_
  refine AT.regionK [] fun K2 hK2 => ?_
  simp [and_assoc, rdS, Value.cells, beqI, bneI, asfill, afill, splice, List.replicate, AV.isPtr, AV.plus, ifS_some, avG, avI, avB, avM, avA, avT, abMap, abRow, dops, dput, gev, oev, Res.run, Res.runQ, rcall, rapp, rbin, run1, ridx, rslice, dqs, dputQ, qok, dls, dputL, dthen, vmax, vstep, ofInt?, gt, ev, constAV, argTm, glook, dlt, aload, astore, ptCells, eI, eB, AH.set_same, AH.set_none, AH.set_set, nilS, hlen]
  refine hK2 _ _ ?_; clear hK2 K2
  refine hK1 _ _ ?_
  refine AT.seq fun K3 hK3 => ?_
  refine AT.seq fun K4 hK4 => ?_
  refine AT.regionK [] fun K5 hK5 => ?_
  simp [and_assoc, rdS, Value.cells, beqI, bneI, asfill, afill, splice, List.replicate, AV.isPtr, AV.plus, ifS_some, avG, avI, avB, avM, avA, avT, abMap, abRow, dops, dput, gev, oev, Res.run, Res.runQ, rcall, rapp, rbin, run1, ridx, rslice, dqs, dputQ, qok, dls, dputL, dthen, vmax, vstep, ofInt?, gt, ev, constAV, argTm, glook, dlt, aload, astore, ptCells, eI, eB, AH.set_same, AH.set_none, AH.set_set, nilS, hlen]
  refine hK5 _ _ ?_; clear hK5 K5
  refine hK4 _ _ ?_
  refine AT.block ?_
  refine AT.while (fun i : Nat => [(8, eI i), (7, eI l.length), (1, .fn g caps), (0, x)]) (fun i σ' => i ≤ l.length ∧ (∀ (j : Nat) n, j < i → l[j]? = some n → p n = false) ∧ σ = σ') (fun i => l.length - i) 0 (by simp [has, gt, eI]) ⟨by omega, fun j n hj => absurd hj (by omega), rfl⟩ ?_
  rintro i σ' ⟨hi, hall, rfl⟩
  refine AT.seq fun K6 hK6 => ?_
  refine AT.regionK [] fun K7 hK7 => ?_
  simp [and_assoc, rdS, Value.cells, beqI, bneI, asfill, afill, splice, List.replicate, AV.isPtr, AV.plus, ifS_some, avG, avI, avB, avM, avA, avT, abMap, abRow, dops, dput, gev, oev, Res.run, Res.runQ, rcall, rapp, rbin, run1, ridx, rslice, dqs, dputQ, qok, dls, dputL, dthen, vmax, vstep, ofInt?, gt, ev, constAV, argTm, glook, dlt, aload, astore, ptCells, eI, eB, AH.set_same, AH.set_none, AH.set_set, nilS, hlen]
  refine hK7 _ _ ?_; clear hK7 K7
  refine hK6 _ _ ?_
  refine AT.seq fun K8 hK8 => ?_
  refine AT.cond rfl (fun ht => ?_) (fun hf => ?_)
  · simp at ht
    have hget : l[i]? = some l[i] := by simp
    have hro := hx.at (eIs_get hget)
    subst hro
    have hw : IntKind.i64.wrap ((i : Int) + 1) = (i : Int) + 1 := wI (by omega) (by omega)
    refine AT.skip ?_
    refine hK8 _ _ ?_
    refine AT.seq fun K9 hK9 => ?_
    refine AT.block ?_
    refine AT.seq fun K10 hK10 => ?_
    refine AT.regionK [] fun K11 hK11 => ?_
    simp [and_assoc, rdS, Value.cells, beqI, bneI, asfill, afill, splice, List.replicate, AV.isPtr, AV.plus, ifS_some, avG, avI, avB, avM, avA, avT, abMap, abRow, dops, dput, gev, oev, Res.run, Res.runQ, rcall, rapp, rbin, run1, ridx, rslice, dqs, dputQ, qok, dls, dputL, dthen, vmax, vstep, ofInt?, gt, ev, constAV, argTm, glook, dlt, aload, astore, ptCells, eI, eB, AH.set_same, AH.set_none, AH.set_set, nilS, hlen]
    refine hK11 _ _ ?_; clear hK11 K11
    refine hK10 _ _ ?_
    refine AT.seq fun K12 hK12 => ?_
    refine AT.regionK [] fun K13 hK13 => ?_
    simp [and_assoc, rdS, Value.cells, beqI, bneI, asfill, afill, splice, List.replicate, AV.isPtr, AV.plus, ifS_some, avG, avI, avB, avM, avA, avT, abMap, abRow, dops, dput, gev, oev, Res.run, Res.runQ, rcall, rapp, rbin, run1, ridx, rslice, dqs, dputQ, qok, dls, dputL, dthen, vmax, vstep, ofInt?, gt, ev, constAV, argTm, glook, dlt, aload, astore, ptCells, eI, eB, AH.set_same, AH.set_none, AH.set_set, nilS, hlen, eIs_get hget, ht]
    refine AC.q (hp l[i] (List.getElem_mem ht)) ?_
    refine hK13 _ _ ?_; clear hK13 K13
    refine hK12 _ _ ?_
    refine AT.cond rfl (fun ht => ?_) (fun hf => ?_)
    · skip
      refine AT.seq fun K14 hK14 => ?_
      refine AT.regionK [] fun K15 hK15 => ?_
      simp [and_assoc, rdS, Value.cells, beqI, bneI, asfill, afill, splice, List.replicate, AV.isPtr, AV.plus, ifS_some, avG, avI, avB, avM, avA, avT, abMap, abRow, dops, dput, gev, oev, Res.run, Res.runQ, rcall, rapp, rbin, run1, ridx, rslice, dqs, dputQ, qok, dls, dputL, dthen, vmax, vstep, ofInt?, gt, ev, constAV, argTm, glook, dlt, aload, astore, ptCells, eI, eB, AH.set_same, AH.set_none, AH.set_set, nilS, hlen]
      refine hK15 _ _ ?_; clear hK15 K15
      refine hK14 _ _ ?_
      refine AT.ret ?_
      try simp only [thenQ, blockQ, scopeQ]
      exact ret_keep rfl (AH.le_refl _) ⟨by rw [idxP_some hget ht hall]; rfl, rfl⟩
    · skip
      refine AT.skip ?_
      refine hK9 _ _ ?_
      refine AT.regionK [] fun K16 hK16 => ?_
      simp [and_assoc, rdS, Value.cells, beqI, bneI, asfill, afill, splice, List.replicate, AV.isPtr, AV.plus, ifS_some, avG, avI, avB, avM, avA, avT, abMap, abRow, dops, dput, gev, oev, Res.run, Res.runQ, rcall, rapp, rbin, run1, ridx, rslice, dqs, dputQ, qok, dls, dputL, dthen, vmax, vstep, ofInt?, gt, ev, constAV, argTm, glook, dlt, aload, astore, ptCells, eI, eB, AH.set_same, AH.set_none, AH.set_set, nilS, hlen]
      refine hK16 _ _ ?_; clear hK16 K16
      exact ⟨i + 1, by omega, by simp [has, gt, eI, eB, hw], by omega, fun j n hj hg => by
        by_cases hji : j = i
        · subst hji; rw [hget] at hg; injection hg with hg; subst hg; simpa using hf
        · exact hall j n (by omega) hg, rfl⟩
  · simp at hf
    have hend : i = l.length := by omega
    refine AT.exit ?_
    try simp only [thenQ, blockQ, scopeQ, if_true]
    refine hK3 _ _ ?_
    refine AT.seq fun K17 hK17 => ?_
    refine AT.regionK [] fun K18 hK18 => ?_
    simp [and_assoc, rdS, Value.cells, beqI, bneI, asfill, afill, splice, List.replicate, AV.isPtr, AV.plus, ifS_some, avG, avI, avB, avM, avA, avT, abMap, abRow, dops, dput, gev, oev, Res.run, Res.runQ, rcall, rapp, rbin, run1, ridx, rslice, dqs, dputQ, qok, dls, dputL, dthen, vmax, vstep, ofInt?, gt, ev, constAV, argTm, glook, dlt, aload, astore, ptCells, eI, eB, AH.set_same, AH.set_none, AH.set_set, nilS, hlen]
    refine hK18 _ _ ?_; clear hK18 K18
    refine hK17 _ _ ?_
    refine AT.ret ?_
    try simp only [thenQ, blockQ, scopeQ]
    exact ret_keep rfl (AH.le_refl _) ⟨by rw [idxP_none fun j n hj => hall j n (by have := (List.getElem?_eq_some_iff.1 hj).1; omega) hj]; rfl, rfl⟩

theorem indexFuncN_ac (σ : AH) (x : AV) (g : FuncId) (caps : List AV) (p : Nd → Bool) (l : List Nd) (hx : IsS x (eN l)) (hl : l.length < 9223372036854775807) (hp : ∀ n ∈ l, AC Try.prog g (.ag n.cells :: caps) σ fun r σ' => r = eB (p n) ∧ σ' = σ) : AC Try.prog 120 [x, .fn g caps] σ fun r σ' => r = eI (idxP p l) ∧ σ' = σ := by
  refine AC.of_body Try.func120 (by kernel_rfl) rfl (by rw [Try.ntmps120]; simp) ?_
  rw [Try.ntmps120]
  have hlen := hx.len
  rw [eN_len] at hlen
  refine AT.seq fun K1 hK1 => ?_
  refine AT.regionK [] fun K2 hK2 => ?_
  simp [and_assoc, rdS, Value.cells, beqI, bneI, asfill, afill, splice, List.replicate, AV.isPtr, AV.plus, ifS_some, avG, avI, avB, avM, avA, avT, abMap, abRow, dops, dput, gev, oev, Res.run, Res.runQ, rcall, rapp, rbin, run1, ridx, rslice, dqs, dputQ, qok, dls, dputL, dthen, vmax, vstep, ofInt?, gt, ev, constAV, argTm, glook, dlt, aload, astore, ptCells, eI, eB, AH.set_same, AH.set_none, AH.set_set, nilS, hlen]
  refine hK2 _ _ ?_; clear hK2 K2
  refine hK1 _ _ ?_
  refine AT.seq fun K3 hK3 => ?_
  refine AT.seq fun K4 hK4 => ?_
  refine AT.regionK [] fun K5 hK5 => ?_
  simp [and_assoc, rdS, Value.cells, beqI, bneI, asfill, afill, splice, List.replicate, AV.isPtr, AV.plus, ifS_some, avG, avI, avB, avM, avA, avT, abMap, abRow, dops, dput, gev, oev, Res.run, Res.runQ, rcall, rapp, rbin, run1, ridx, rslice, dqs, dputQ, qok, dls, dputL, dthen, vmax, vstep, ofInt?, gt, ev, constAV, argTm, glook, dlt, aload, astore, ptCells, eI, eB, AH.set_same, AH.set_none, AH.set_set, nilS, hlen]
  refine hK5 _ _ ?_; clear hK5 K5
  refine hK4 _ _ ?_
  refine AT.block ?_
  refine AT.while (fun i : Nat => [(8, eI i), (7, eI l.length), (1, .fn g caps), (0, x)]) (fun i σ' => i ≤ l.length ∧ (∀ (j : Nat) n, j < i → l[j]? = some n → p n = false) ∧ σ = σ') (fun i => l.length - i) 0 (by simp [has, gt, eI]) ⟨by omega, fun j n hj => absurd hj (by omega), rfl⟩ ?_
  rintro i σ' ⟨hi, hall, rfl⟩
  refine AT.seq fun K6 hK6 => ?_
  refine AT.regionK [] fun K7 hK7 => ?_
  simp [and_assoc, rdS, Value.cells, beqI, bneI, asfill, afill, splice, List.replicate, AV.isPtr, AV.plus, ifS_some, avG, avI, avB, avM, avA, avT, abMap, abRow, dops, dput, gev, oev, Res.run, Res.runQ, rcall, rapp, rbin, run1, ridx, rslice, dqs, dputQ, qok, dls, dputL, dthen, vmax, vstep, ofInt?, gt, ev, constAV, argTm, glook, dlt, aload, astore, ptCells, eI, eB, AH.set_same, AH.set_none, AH.set_set, nilS, hlen]
  refine hK7 _ _ ?_; clear hK7 K7
  refine hK6 _ _ ?_
  refine AT.seq fun K8 hK8 => ?_
  refine AT.cond rfl (fun ht => ?_) (fun hf => ?_)
  · simp at ht
    have hget : l[i]? = some l[i] := by simp
    have hro := hx.at (eN_get hget)
    subst hro
    have hw : IntKind.i64.wrap ((i : Int) + 1) = (i : Int) + 1 := wI (by omega) (by omega)
    refine AT.skip ?_
    refine hK8 _ _ ?_
    refine AT.seq fun K9 hK9 => ?_
    refine AT.block ?_
    refine AT.seq fun K10 hK10 => ?_
    refine AT.regionK [] fun K11 hK11 => ?_
    simp [and_assoc, rdS, Value.cells, beqI, bneI, asfill, afill, splice, List.replicate, AV.isPtr, AV.plus, ifS_some, avG, avI, avB, avM, avA, avT, abMap, abRow, dops, dput, gev, oev, Res.run, Res.runQ, rcall, rapp, rbin, run1, ridx, rslice, dqs, dputQ, qok, dls, dputL, dthen, vmax, vstep, ofInt?, gt, ev, constAV, argTm, glook, dlt, aload, astore, ptCells, eI, eB, AH.set_same, AH.set_none, AH.set_set, nilS, hlen]
    refine hK11 _ _ ?_; clear hK11 K11
    refine hK10 _ _ ?_
    refine AT.seq fun K12 hK12 => ?_
    refine AT.regionK [] fun K13 hK13 => ?_
    simp [and_assoc, rdS, Value.cells, beqI, bneI, asfill, afill, splice, List.replicate, AV.isPtr, AV.plus, ifS_some, avG, avI, avB, avM, avA, avT, abMap, abRow, dops, dput, gev, oev, Res.run, Res.runQ, rcall, rapp, rbin, run1, ridx, rslice, dqs, dputQ, qok, dls, dputL, dthen, vmax, vstep, ofInt?, gt, ev, constAV, argTm, glook, dlt, aload, astore, ptCells, eI, eB, AH.set_same, AH.set_none, AH.set_set, nilS, hlen, eN_get hget, ht]
    refine AC.q (hp l[i] (List.getElem_mem ht)) ?_
    refine hK13 _ _ ?_; clear hK13 K13
    refine hK12 _ _ ?_
    refine AT.cond rfl (fun ht => ?_) (fun hf => ?_)
    · skip
      refine AT.seq fun K14 hK14 => ?_
      refine AT.regionK [] fun K15 hK15 => ?_
      simp [and_assoc, rdS, Value.cells, beqI, bneI, asfill, afill, splice, List.replicate, AV.isPtr, AV.plus, ifS_some, avG, avI, avB, avM, avA, avT, abMap, abRow, dops, dput, gev, oev, Res.run, Res.runQ, rcall, rapp, rbin, run1, ridx, rslice, dqs, dputQ, qok, dls, dputL, dthen, vmax, vstep, ofInt?, gt, ev, constAV, argTm, glook, dlt, aload, astore, ptCells, eI, eB, AH.set_same, AH.set_none, AH.set_set, nilS, hlen]
      refine hK15 _ _ ?_; clear hK15 K15
      refine hK14 _ _ ?_
      refine AT.ret ?_
      try simp only [thenQ, blockQ, scopeQ]
      exact ret_keep rfl (AH.le_refl _) ⟨by rw [idxP_some hget ht hall]; rfl, rfl⟩
    · skip
      refine AT.skip ?_
      refine hK9 _ _ ?_
      refine AT.regionK [] fun K16 hK16 => ?_
      simp [and_assoc, rdS, Value.cells, beqI, bneI, asfill, afill, splice, List.replicate, AV.isPtr, AV.plus, ifS_some, avG, avI, avB, avM, avA, avT, abMap, abRow, dops, dput, gev, oev, Res.run, Res.runQ, rcall, rapp, rbin, run1, ridx, rslice, dqs, dputQ, qok, dls, dputL, dthen, vmax, vstep, ofInt?, gt, ev, constAV, argTm, glook, dlt, aload, astore, ptCells, eI, eB, AH.set_same, AH.set_none, AH.set_set, nilS, hlen]
      refine hK16 _ _ ?_; clear hK16 K16
      exact ⟨i + 1, by omega, by simp [has, gt, eI, eB, hw], by omega, fun j n hj hg => by
        by_cases hji : j = i
        · subst hji; rw [hget] at hg; injection hg with hg; subst hg; simpa using hf
        · exact hall j n (by omega) hg, rfl⟩
  · simp at hf
    have hend : i = l.length := by omega
    refine AT.exit ?_
    try simp only [thenQ, blockQ, scopeQ, if_true]
    refine hK3 _ _ ?_
    refine AT.seq fun K17 hK17 => ?_
    refine AT.regionK [] fun K18 hK18 => ?_
    simp [and_assoc, rdS, Value.cells, beqI, bneI, asfill, afill, splice, List.replicate, AV.isPtr, AV.plus, ifS_some, avG, avI, avB, avM, avA, avT, abMap, abRow, dops, dput, gev, oev, Res.run, Res.runQ, rcall, rapp, rbin, run1, ridx, rslice, dqs, dputQ, qok, dls, dputL, dthen, vmax, vstep, ofInt?, gt, ev, constAV, argTm, glook, dlt, aload, astore, ptCells, eI, eB, AH.set_same, AH.set_none, AH.set_set, nilS, hlen]
    refine hK18 _ _ ?_; clear hK18 K18
    refine hK17 _ _ ?_
    refine AT.ret ?_
    try simp only [thenQ, blockQ, scopeQ]
    exact ret_keep rfl (AH.le_refl _) ⟨by rw [idxP_none fun j n hj => hall j n (by have := (List.getElem?_eq_some_iff.1 hj).1; omega) hj]; rfl, rfl⟩

theorem lenOne_ac (σ : AH) (n : Int) : AC Try.prog 164 [eI n] σ fun r σ' => r = eB (decide (n < 0) || decide (n > 1073741824)) ∧ σ' = σ := by
  refine AC.of_body Try.func164 (by kernel_rfl) rfl (by rw [Try.ntmps164]; simp) ?_
  rw [Try.ntmps164]
  refine AT.seq fun K1 hK1 => ?_
  refine AT.regionK [] fun K2 hK2 => ?_
  simp [and_assoc, rdS, Value.cells, beqI, bneI, asfill, afill, splice, List.replicate, AV.isPtr, AV.plus, ifS_some, avG, avI, avB, avM, avA, avT, abMap, abRow, dops, dput, gev, oev, Res.run, Res.runQ, rcall, rapp, rbin, run1, ridx, rslice, dqs, dputQ, qok, dls, dputL, dthen, vmax, vstep, ofInt?, gt, ev, constAV, argTm, glook, dlt, aload, astore, ptCells, eI, eB, AH.set_same, AH.set_none, AH.set_set, nilS]
  refine hK2 _ _ ?_; clear hK2 K2
  refine hK1 _ _ ?_
  refine AT.cut (fun α' σ' => has [(2, eB (decide (n < 0) || decide (n > 1073741824)))] α' ∧ σ = σ') ?_ ?_
  · skip
    refine AT.regionK [] fun K3 hK3 => ?_
    by_cases h3_0 : n < 0
    · skip
      simp [and_assoc, rdS, Value.cells, beqI, bneI, asfill, afill, splice, List.replicate, AV.isPtr, AV.plus, ifS_some, avG, avI, avB, avM, avA, avT, abMap, abRow, dops, dput, gev, oev, Res.run, Res.runQ, rcall, rapp, rbin, run1, ridx, rslice, dqs, dputQ, qok, dls, dputL, dthen, vmax, vstep, ofInt?, gt, ev, constAV, argTm, glook, dlt, aload, astore, ptCells, eI, eB, AH.set_same, AH.set_none, AH.set_set, nilS, h3_0]
      refine hK3 _ _ ?_
      exact ⟨by simp [has, gt, eI, eB, h3_0], rfl⟩
    · skip
      simp [and_assoc, rdS, Value.cells, beqI, bneI, asfill, afill, splice, List.replicate, AV.isPtr, AV.plus, ifS_some, avG, avI, avB, avM, avA, avT, abMap, abRow, dops, dput, gev, oev, Res.run, Res.runQ, rcall, rapp, rbin, run1, ridx, rslice, dqs, dputQ, qok, dls, dputL, dthen, vmax, vstep, ofInt?, gt, ev, constAV, argTm, glook, dlt, aload, astore, ptCells, eI, eB, AH.set_same, AH.set_none, AH.set_set, nilS, h3_0]
      refine hK3 _ _ ?_
      exact ⟨by simp [has, gt, eI, eB, h3_0], rfl⟩
  · rintro α' σ' ⟨hα, rfl⟩
    refine AT.has _ hα ?_
    refine AT.ret ?_
    try simp only [thenQ, blockQ, scopeQ]
    obtain ⟨ha, -⟩ := hα
    exact ret_keep rfl (AH.le_refl _) ⟨rfl, rfl⟩

theorem contains64_ac (σ : AH) (x : AV) (g : FuncId) (caps : List AV) (p : Int → Bool) (l : List Int) (hx : IsS x (eIs l)) (hl : l.length < 9223372036854775807) (hp : ∀ n ∈ l, AC Try.prog g (eI n :: caps) σ fun r σ' => r = eB (p n) ∧ σ' = σ) : AC Try.prog 163 [x, .fn g caps] σ fun r σ' => r = eB (decide (idxP p l ≥ 0)) ∧ σ' = σ := by
  refine AC.of_body Try.func163 (by kernel_rfl) rfl (by rw [Try.ntmps163]; simp) ?_
  rw [Try.ntmps163]
  refine AT.seq fun K1 hK1 => ?_
  refine AT.regionK [] fun K2 hK2 => ?_
  simp [and_assoc, rdS, Value.cells, beqI, bneI, asfill, afill, splice, List.replicate, AV.isPtr, AV.plus, ifS_some, avG, avI, avB, avM, avA, avT, abMap, abRow, dops, dput, gev, oev, Res.run, Res.runQ, rcall, rapp, rbin, run1, ridx, rslice, dqs, dputQ, qok, dls, dputL, dthen, vmax, vstep, ofInt?, gt, ev, constAV, argTm, glook, dlt, aload, astore, ptCells, eI, eB, AH.set_same, AH.set_none, AH.set_set, nilS]
  refine hK2 _ _ ?_; clear hK2 K2
  refine hK1 _ _ ?_
  refine AT.seq fun K3 hK3 => ?_
  refine AT.regionK [] fun K4 hK4 => ?_
  simp [and_assoc, rdS, Value.cells, beqI, bneI, asfill, afill, splice, List.replicate, AV.isPtr, AV.plus, ifS_some, avG, avI, avB, avM, avA, avT, abMap, abRow, dops, dput, gev, oev, Res.run, Res.runQ, rcall, rapp, rbin, run1, ridx, rslice, dqs, dputQ, qok, dls, dputL, dthen, vmax, vstep, ofInt?, gt, ev, constAV, argTm, glook, dlt, aload, astore, ptCells, eI, eB, AH.set_same, AH.set_none, AH.set_set, nilS]
  refine AC.q (indexFunc64_ac σ x g caps p l hx hl hp) ?_
  simp [and_assoc, rdS, Value.cells, beqI, bneI, asfill, afill, splice, List.replicate, AV.isPtr, AV.plus, ifS_some, avG, avI, avB, avM, avA, avT, abMap, abRow, dops, dput, gev, oev, Res.run, Res.runQ, rcall, rapp, rbin, run1, ridx, rslice, dqs, dputQ, qok, dls, dputL, dthen, vmax, vstep, ofInt?, gt, ev, constAV, argTm, glook, dlt, aload, astore, ptCells, eI, eB, AH.set_same, AH.set_none, AH.set_set, nilS]
  refine hK4 _ _ ?_; clear hK4 K4
  refine hK3 _ _ ?_
  refine AT.ret ?_
  try simp only [thenQ, blockQ, scopeQ]
  exact ret_keep rfl (AH.le_refl _) ⟨rfl, rfl⟩

def lenNo (n : Int) : Bool := decide (n < 0) || decide (n > 1073741824)


theorem areLen_ac (σ : AH) (x : AV) (l : List Int) (hx : IsS x (eIs l)) (hl : l.length < 9223372036854775807) : AC Try.prog 150 [x] σ fun r σ' => r = eB (!decide (idxP lenNo l ≥ 0)) ∧ σ' = σ := by
  refine AC.of_body Try.func150 (by kernel_rfl) rfl (by rw [Try.ntmps150]; simp) ?_
  rw [Try.ntmps150]
  refine AT.seq fun K1 hK1 => ?_
  refine AT.regionK [] fun K2 hK2 => ?_
  simp [and_assoc, rdS, Value.cells, beqI, bneI, asfill, afill, splice, List.replicate, AV.isPtr, AV.plus, ifS_some, avG, avI, avB, avM, avA, avT, abMap, abRow, dops, dput, gev, oev, Res.run, Res.runQ, rcall, rapp, rbin, run1, ridx, rslice, dqs, dputQ, qok, dls, dputL, dthen, vmax, vstep, ofInt?, gt, ev, constAV, argTm, glook, dlt, aload, astore, ptCells, eI, eB, AH.set_same, AH.set_none, AH.set_set, nilS]
  refine hK2 _ _ ?_; clear hK2 K2
  refine hK1 _ _ ?_
  refine AT.seq fun K3 hK3 => ?_
  refine AT.regionK [] fun K4 hK4 => ?_
  simp [and_assoc, rdS, Value.cells, beqI, bneI, asfill, afill, splice, List.replicate, AV.isPtr, AV.plus, ifS_some, avG, avI, avB, avM, avA, avT, abMap, abRow, dops, dput, gev, oev, Res.run, Res.runQ, rcall, rapp, rbin, run1, ridx, rslice, dqs, dputQ, qok, dls, dputL, dthen, vmax, vstep, ofInt?, gt, ev, constAV, argTm, glook, dlt, aload, astore, ptCells, eI, eB, AH.set_same, AH.set_none, AH.set_set, nilS]
  refine AC.q (contains64_ac σ x 164 [] lenNo l hx hl fun n _ => lenOne_ac σ n) ?_
  simp [and_assoc, rdS, Value.cells, beqI, bneI, asfill, afill, splice, List.replicate, AV.isPtr, AV.plus, ifS_some, avG, avI, avB, avM, avA, avT, abMap, abRow, dops, dput, gev, oev, Res.run, Res.runQ, rcall, rapp, rbin, run1, ridx, rslice, dqs, dputQ, qok, dls, dputL, dthen, vmax, vstep, ofInt?, gt, ev, constAV, argTm, glook, dlt, aload, astore, ptCells, eI, eB, AH.set_same, AH.set_none, AH.set_set, nilS]
  refine hK4 _ _ ?_; clear hK4 K4
  refine hK3 _ _ ?_
  refine AT.ret ?_
  try simp only [thenQ, blockQ, scopeQ]
  exact ret_keep rfl (AH.le_refl _) ⟨rfl, rfl⟩

def areLenP (l : List Int) : Bool := !decide (idxP lenNo l ≥ 0)
theorem areLenP_eq (l : List Int) : (!decide (idxP lenNo l ≥ 0)) = areLenP l := rfl
def wrongA (n : Nd) : Bool := decide (n.kind < 0) || decide (n.kind > 10) || !validP n.sty || decide ((n.words.l.length : Int) > 10000)
def wrongB (n : Nd) : Bool := !areLenP n.words.l || !areLenP [n.blank, n.high]
def bareP (n : Nd) : Bool := decide (n.words.l.length = 0) && decide (n.blank = 0) && decide (n.high = 0)
def leafP (n : Nd) : Bool := decide (n.kids.l.length = 0)
def isRightP (n : Nd) : Bool := if wrongA n = true then false else if wrongB n = true then false else if n.kind = 1 then leafP n else if n.kind = 5 then leafP n && bareP n else bareP n


set_option maxHeartbeats 4000000 in
theorem isRight_ac (σ : AH) (n : Nd) : AC Try.prog 122 [.ag n.cells] σ fun r σ' => r = eB (isRightP n) ∧ σ' = σ := by
  refine AC.of_body Try.func122 (by kernel_rfl) rfl (by rw [Try.ntmps122]; simp) ?_
  rw [Try.ntmps122]
  refine AT.seq fun K1 hK1 => ?_
  refine AT.regionK [] fun K2 hK2 => ?_
  simp [and_assoc, rdS, Value.cells, beqI, bneI, asfill, afill, splice, List.replicate, AV.isPtr, AV.plus, ifS_some, avG, avI, avB, avM, avA, avT, abMap, abRow, dops, dput, gev, oev, Res.run, Res.runQ, rcall, rapp, rbin, run1, ridx, rslice, dqs, dputQ, qok, dls, dputL, dthen, vmax, vstep, ofInt?, gt, ev, constAV, argTm, glook, dlt, aload, astore, ptCells, eI, eB, AH.set_same, AH.set_none, AH.set_set, nilS]
  refine hK2 _ _ ?_; clear hK2 K2
  refine hK1 _ _ ?_
  refine AT.seq fun K3 hK3 => ?_
  refine AT.cut (fun α' σ' => has [(24, eB (wrongA n)), (1, .pr n.cells 0)] α' ∧ σ = σ') ?_ ?_
  · skip
    refine AT.regionK [] fun K hK => ?_
    by_cases h1 : n.kind < 0
    · simp [and_assoc, rdS, Value.cells, beqI, bneI, asfill, afill, splice, List.replicate, AV.isPtr, AV.plus, ifS_some, avG, avI, avB, avM, avA, avT, abMap, abRow, dops, dput, gev, oev, Res.run, Res.runQ, rcall, rapp, rbin, run1, ridx, rslice, dqs, dputQ, qok, dls, dputL, dthen, vmax, vstep, ofInt?, gt, ev, constAV, argTm, glook, dlt, aload, astore, ptCells, eI, eB, AH.set_same, AH.set_none, AH.set_set, nilS, h1]
      refine hK _ _ ⟨?_, rfl⟩; simp [has, gt, wrongA, h1, eB]
    · by_cases h2 : n.kind > 10
      · simp [and_assoc, rdS, Value.cells, beqI, bneI, asfill, afill, splice, List.replicate, AV.isPtr, AV.plus, ifS_some, avG, avI, avB, avM, avA, avT, abMap, abRow, dops, dput, gev, oev, Res.run, Res.runQ, rcall, rapp, rbin, run1, ridx, rslice, dqs, dputQ, qok, dls, dputL, dthen, vmax, vstep, ofInt?, gt, ev, constAV, argTm, glook, dlt, aload, astore, ptCells, eI, eB, AH.set_same, AH.set_none, AH.set_set, nilS, h1, h2]
        refine hK _ _ ⟨?_, rfl⟩; simp [has, gt, wrongA, h2, eB]
      · simp [and_assoc, rdS, Value.cells, beqI, bneI, asfill, afill, splice, List.replicate, AV.isPtr, AV.plus, ifS_some, avG, avI, avB, avM, avA, avT, abMap, abRow, dops, dput, gev, oev, Res.run, Res.runQ, rcall, rapp, rbin, run1, ridx, rslice, dqs, dputQ, qok, dls, dputL, dthen, vmax, vstep, ofInt?, gt, ev, constAV, argTm, glook, dlt, aload, astore, ptCells, eI, eB, AH.set_same, AH.set_none, AH.set_set, nilS, h1, h2]
        refine AC.q (valid_ac σ n.sty) ?_
        by_cases h3 : validP n.sty = true
        · simp [and_assoc, rdS, Value.cells, beqI, bneI, asfill, afill, splice, List.replicate, AV.isPtr, AV.plus, ifS_some, avG, avI, avB, avM, avA, avT, abMap, abRow, dops, dput, gev, oev, Res.run, Res.runQ, rcall, rapp, rbin, run1, ridx, rslice, dqs, dputQ, qok, dls, dputL, dthen, vmax, vstep, ofInt?, gt, ev, constAV, argTm, glook, dlt, aload, astore, ptCells, eI, eB, AH.set_same, AH.set_none, AH.set_set, nilS, h3]
          refine hK _ _ ⟨?_, rfl⟩; simp [has, gt, wrongA, h1, h2, h3, eB]
        · simp [and_assoc, rdS, Value.cells, beqI, bneI, asfill, afill, splice, List.replicate, AV.isPtr, AV.plus, ifS_some, avG, avI, avB, avM, avA, avT, abMap, abRow, dops, dput, gev, oev, Res.run, Res.runQ, rcall, rapp, rbin, run1, ridx, rslice, dqs, dputQ, qok, dls, dputL, dthen, vmax, vstep, ofInt?, gt, ev, constAV, argTm, glook, dlt, aload, astore, ptCells, eI, eB, AH.set_same, AH.set_none, AH.set_set, nilS, h3]
          refine hK _ _ ⟨?_, rfl⟩; simp [has, gt, wrongA, h3, eB]
  · rintro α' σ' ⟨hα, rfl⟩
    refine AT.has _ hα ?_
    refine AT.cond rfl (fun ht => ?_) (fun hf => ?_)
    · skip
      refine AT.seq fun K5 hK5 => ?_
      refine AT.regionK [] fun K6 hK6 => ?_
      simp [and_assoc, rdS, Value.cells, beqI, bneI, asfill, afill, splice, List.replicate, AV.isPtr, AV.plus, ifS_some, avG, avI, avB, avM, avA, avT, abMap, abRow, dops, dput, gev, oev, Res.run, Res.runQ, rcall, rapp, rbin, run1, ridx, rslice, dqs, dputQ, qok, dls, dputL, dthen, vmax, vstep, ofInt?, gt, ev, constAV, argTm, glook, dlt, aload, astore, ptCells, eI, eB, AH.set_same, AH.set_none, AH.set_set, nilS]
      refine hK6 _ _ ?_; clear hK6 K6
      refine hK5 _ _ ?_
      refine AT.ret ?_
      try simp only [thenQ, blockQ, scopeQ]
      exact ret_keep rfl (AH.le_refl _) ⟨by simp [aret, gt, eB, isRightP, ht], rfl⟩
    · skip
      refine AT.skip ?_
      refine hK3 _ _ ?_
      refine AT.seq fun K7 hK7 => ?_
      refine AT.cut (fun α' σ' => has [(37, eB (wrongB n)), (1, .pr n.cells 0)] α' ∧ σ = σ') ?_ ?_
      · skip
        refine AT.regionK [] fun K hK => ?_
        have hwl : n.words.l.length < 9223372036854775807 := by simp [wrongA] at hf; omega
        simp [and_assoc, rdS, Value.cells, beqI, bneI, asfill, afill, splice, List.replicate, AV.isPtr, AV.plus, ifS_some, avG, avI, avB, avM, avA, avT, abMap, abRow, dops, dput, gev, oev, Res.run, Res.runQ, rcall, rapp, rbin, run1, ridx, rslice, dqs, dputQ, qok, dls, dputL, dthen, vmax, vstep, ofInt?, gt, ev, constAV, argTm, glook, dlt, aload, astore, ptCells, eI, eB, AH.set_same, AH.set_none, AH.set_set, nilS]
        refine AC.q (areLen_ac σ _ n.words.l n.words.isS hwl) ?_
        by_cases h1 : areLenP n.words.l = true
        · simp [and_assoc, rdS, Value.cells, beqI, bneI, asfill, afill, splice, List.replicate, AV.isPtr, AV.plus, ifS_some, avG, avI, avB, avM, avA, avT, abMap, abRow, dops, dput, gev, oev, Res.run, Res.runQ, rcall, rapp, rbin, run1, ridx, rslice, dqs, dputQ, qok, dls, dputL, dthen, vmax, vstep, ofInt?, gt, ev, constAV, argTm, glook, dlt, aload, astore, ptCells, eI, eB, AH.set_same, AH.set_none, AH.set_set, nilS, h1, areLenP_eq]
          refine AC.q (areLen_ac σ _ [n.blank, n.high] (IsS.mk_ro _) (by simp)) ?_
          simp [and_assoc, rdS, Value.cells, beqI, bneI, asfill, afill, splice, List.replicate, AV.isPtr, AV.plus, ifS_some, avG, avI, avB, avM, avA, avT, abMap, abRow, dops, dput, gev, oev, Res.run, Res.runQ, rcall, rapp, rbin, run1, ridx, rslice, dqs, dputQ, qok, dls, dputL, dthen, vmax, vstep, ofInt?, gt, ev, constAV, argTm, glook, dlt, aload, astore, ptCells, eI, eB, AH.set_same, AH.set_none, AH.set_set, nilS, areLenP_eq]
          refine hK _ _ ⟨?_, rfl⟩; simp [has, gt, wrongB, h1, eB]
        · simp [and_assoc, rdS, Value.cells, beqI, bneI, asfill, afill, splice, List.replicate, AV.isPtr, AV.plus, ifS_some, avG, avI, avB, avM, avA, avT, abMap, abRow, dops, dput, gev, oev, Res.run, Res.runQ, rcall, rapp, rbin, run1, ridx, rslice, dqs, dputQ, qok, dls, dputL, dthen, vmax, vstep, ofInt?, gt, ev, constAV, argTm, glook, dlt, aload, astore, ptCells, eI, eB, AH.set_same, AH.set_none, AH.set_set, nilS, h1, areLenP_eq]
          refine hK _ _ ⟨?_, rfl⟩; simp [has, gt, wrongB, h1, eB]
      · rintro α' σ' ⟨hα, rfl⟩
        refine AT.has _ hα ?_
        refine AT.cond rfl (fun ht => ?_) (fun hf => ?_)
        · skip
          refine AT.seq fun K9 hK9 => ?_
          refine AT.regionK [] fun K10 hK10 => ?_
          simp [and_assoc, rdS, Value.cells, beqI, bneI, asfill, afill, splice, List.replicate, AV.isPtr, AV.plus, ifS_some, avG, avI, avB, avM, avA, avT, abMap, abRow, dops, dput, gev, oev, Res.run, Res.runQ, rcall, rapp, rbin, run1, ridx, rslice, dqs, dputQ, qok, dls, dputL, dthen, vmax, vstep, ofInt?, gt, ev, constAV, argTm, glook, dlt, aload, astore, ptCells, eI, eB, AH.set_same, AH.set_none, AH.set_set, nilS]
          refine hK10 _ _ ?_; clear hK10 K10
          refine hK9 _ _ ?_
          refine AT.ret ?_
          try simp only [thenQ, blockQ, scopeQ]
          exact ret_keep rfl (AH.le_refl _) ⟨by simp [aret, gt, eB, isRightP, *], rfl⟩
        · skip
          refine AT.skip ?_
          refine hK7 _ _ ?_
          refine AT.cut (fun α' σ' => has [(3, eB (bareP n)), (1, .pr n.cells 0)] α' ∧ σ = σ') ?_ ?_
          · skip
            refine AT.regionK [] fun K hK => ?_
            by_cases h1 : n.words.l.length = 0
            · by_cases h2 : n.blank = 0
              · simp [and_assoc, rdS, Value.cells, beqI, bneI, asfill, afill, splice, List.replicate, AV.isPtr, AV.plus, ifS_some, avG, avI, avB, avM, avA, avT, abMap, abRow, dops, dput, gev, oev, Res.run, Res.runQ, rcall, rapp, rbin, run1, ridx, rslice, dqs, dputQ, qok, dls, dputL, dthen, vmax, vstep, ofInt?, gt, ev, constAV, argTm, glook, dlt, aload, astore, ptCells, eI, eB, AH.set_same, AH.set_none, AH.set_set, nilS, h1, h2]
                refine hK _ _ ⟨?_, rfl⟩; simp [has, gt, bareP, h1, h2, eB, beqI]
              · simp [and_assoc, rdS, Value.cells, beqI, bneI, asfill, afill, splice, List.replicate, AV.isPtr, AV.plus, ifS_some, avG, avI, avB, avM, avA, avT, abMap, abRow, dops, dput, gev, oev, Res.run, Res.runQ, rcall, rapp, rbin, run1, ridx, rslice, dqs, dputQ, qok, dls, dputL, dthen, vmax, vstep, ofInt?, gt, ev, constAV, argTm, glook, dlt, aload, astore, ptCells, eI, eB, AH.set_same, AH.set_none, AH.set_set, nilS, h1, h2]
                refine hK _ _ ⟨?_, rfl⟩; simp [has, gt, bareP, h1, h2, eB, beqI]
            · simp [and_assoc, rdS, Value.cells, beqI, bneI, asfill, afill, splice, List.replicate, AV.isPtr, AV.plus, ifS_some, avG, avI, avB, avM, avA, avT, abMap, abRow, dops, dput, gev, oev, Res.run, Res.runQ, rcall, rapp, rbin, run1, ridx, rslice, dqs, dputQ, qok, dls, dputL, dthen, vmax, vstep, ofInt?, gt, ev, constAV, argTm, glook, dlt, aload, astore, ptCells, eI, eB, AH.set_same, AH.set_none, AH.set_set, nilS, h1]
              refine hK _ _ ⟨?_, rfl⟩; simp [has, gt, bareP, h1, eB]
          · rintro α' σ' ⟨hα, rfl⟩
            refine AT.has _ hα ?_
            refine AT.seq fun K12 hK12 => ?_
            refine AT.regionK [] fun K13 hK13 => ?_
            simp [and_assoc, rdS, Value.cells, beqI, bneI, asfill, afill, splice, List.replicate, AV.isPtr, AV.plus, ifS_some, avG, avI, avB, avM, avA, avT, abMap, abRow, dops, dput, gev, oev, Res.run, Res.runQ, rcall, rapp, rbin, run1, ridx, rslice, dqs, dputQ, qok, dls, dputL, dthen, vmax, vstep, ofInt?, gt, ev, constAV, argTm, glook, dlt, aload, astore, ptCells, eI, eB, AH.set_same, AH.set_none, AH.set_set, nilS]
            have hleaf : (decide ((n.kids.l.length : Int) = 0)) = leafP n := by simp [leafP]
            try simp only [Int.natCast_eq_zero, List.length_eq_zero_iff]
            have hleaf2 : decide (n.kids.l = []) = leafP n := by simp [leafP]
            rw [hleaf2]
            refine hK13 _ _ ?_; clear hK13 K13
            refine hK12 _ _ ?_
            refine AT.seq fun K14 hK14 => ?_
            refine AT.seq fun K15 hK15 => ?_
            refine AT.regionK [] fun K16 hK16 => ?_
            simp [and_assoc, rdS, Value.cells, beqI, bneI, asfill, afill, splice, List.replicate, AV.isPtr, AV.plus, ifS_some, avG, avI, avB, avM, avA, avT, abMap, abRow, dops, dput, gev, oev, Res.run, Res.runQ, rcall, rapp, rbin, run1, ridx, rslice, dqs, dputQ, qok, dls, dputL, dthen, vmax, vstep, ofInt?, gt, ev, constAV, argTm, glook, dlt, aload, astore, ptCells, eI, eB, AH.set_same, AH.set_none, AH.set_set, nilS]
            refine hK16 _ _ ?_; clear hK16 K16
            refine hK15 _ _ ?_
            refine AT.block ?_
            refine AT.seq fun K17 hK17 => ?_
            refine AT.regionK [] fun K18 hK18 => ?_
            simp [and_assoc, rdS, Value.cells, beqI, bneI, asfill, afill, splice, List.replicate, AV.isPtr, AV.plus, ifS_some, avG, avI, avB, avM, avA, avT, abMap, abRow, dops, dput, gev, oev, Res.run, Res.runQ, rcall, rapp, rbin, run1, ridx, rslice, dqs, dputQ, qok, dls, dputL, dthen, vmax, vstep, ofInt?, gt, ev, constAV, argTm, glook, dlt, aload, astore, ptCells, eI, eB, AH.set_same, AH.set_none, AH.set_set, nilS]
            refine hK18 _ _ ?_; clear hK18 K18
            refine hK17 _ _ ?_
            refine AT.cond rfl (fun ht => ?_) (fun hf => ?_)
            · try simp at ht
              refine AT.seq fun K19 hK19 => ?_
              refine AT.regionK [] fun K20 hK20 => ?_
              simp [and_assoc, rdS, Value.cells, beqI, bneI, asfill, afill, splice, List.replicate, AV.isPtr, AV.plus, ifS_some, avG, avI, avB, avM, avA, avT, abMap, abRow, dops, dput, gev, oev, Res.run, Res.runQ, rcall, rapp, rbin, run1, ridx, rslice, dqs, dputQ, qok, dls, dputL, dthen, vmax, vstep, ofInt?, gt, ev, constAV, argTm, glook, dlt, aload, astore, ptCells, eI, eB, AH.set_same, AH.set_none, AH.set_set, nilS]
              refine hK20 _ _ ?_; clear hK20 K20
              refine hK19 _ _ ?_
              refine AT.ret ?_
              try simp only [thenQ, blockQ, scopeQ]
              exact ret_keep rfl (AH.le_refl _) ⟨by simp [aret, gt, eB, isRightP, *], rfl⟩
            · try simp at hf
              refine AT.seq fun K21 hK21 => ?_
              refine AT.regionK [] fun K22 hK22 => ?_
              simp [and_assoc, rdS, Value.cells, beqI, bneI, asfill, afill, splice, List.replicate, AV.isPtr, AV.plus, ifS_some, avG, avI, avB, avM, avA, avT, abMap, abRow, dops, dput, gev, oev, Res.run, Res.runQ, rcall, rapp, rbin, run1, ridx, rslice, dqs, dputQ, qok, dls, dputL, dthen, vmax, vstep, ofInt?, gt, ev, constAV, argTm, glook, dlt, aload, astore, ptCells, eI, eB, AH.set_same, AH.set_none, AH.set_set, nilS]
              refine hK22 _ _ ?_; clear hK22 K22
              refine hK21 _ _ ?_
              refine AT.cond rfl (fun ht => ?_) (fun hf => ?_)
              · try simp at ht
                refine AT.cut (fun α' σ' => has [(2, eB (leafP n && bareP n))] α' ∧ σ = σ') ?_ ?_
                · skip
                  refine AT.regionK [] fun K hK => ?_
                  by_cases h1 : leafP n = true
                  · simp [and_assoc, rdS, Value.cells, beqI, bneI, asfill, afill, splice, List.replicate, AV.isPtr, AV.plus, ifS_some, avG, avI, avB, avM, avA, avT, abMap, abRow, dops, dput, gev, oev, Res.run, Res.runQ, rcall, rapp, rbin, run1, ridx, rslice, dqs, dputQ, qok, dls, dputL, dthen, vmax, vstep, ofInt?, gt, ev, constAV, argTm, glook, dlt, aload, astore, ptCells, eI, eB, AH.set_same, AH.set_none, AH.set_set, nilS, h1]
                    refine hK _ _ ⟨?_, rfl⟩; simp [has, gt, h1, eB]
                  · simp [and_assoc, rdS, Value.cells, beqI, bneI, asfill, afill, splice, List.replicate, AV.isPtr, AV.plus, ifS_some, avG, avI, avB, avM, avA, avT, abMap, abRow, dops, dput, gev, oev, Res.run, Res.runQ, rcall, rapp, rbin, run1, ridx, rslice, dqs, dputQ, qok, dls, dputL, dthen, vmax, vstep, ofInt?, gt, ev, constAV, argTm, glook, dlt, aload, astore, ptCells, eI, eB, AH.set_same, AH.set_none, AH.set_set, nilS, h1]
                    refine hK _ _ ⟨?_, rfl⟩; simp [has, gt, h1, eB]
                · rintro α' σ' ⟨hα, rfl⟩
                  refine AT.has _ hα ?_
                  refine AT.ret ?_
                  try simp only [thenQ, blockQ, scopeQ]
                  exact ret_keep rfl (AH.le_refl _) ⟨by simp [aret, gt, eB, isRightP, *], rfl⟩
              · try simp at hf
                refine AT.skip ?_
                refine hK14 _ _ ?_
                refine AT.seq fun K24 hK24 => ?_
                refine AT.regionK [] fun K25 hK25 => ?_
                simp [and_assoc, rdS, Value.cells, beqI, bneI, asfill, afill, splice, List.replicate, AV.isPtr, AV.plus, ifS_some, avG, avI, avB, avM, avA, avT, abMap, abRow, dops, dput, gev, oev, Res.run, Res.runQ, rcall, rapp, rbin, run1, ridx, rslice, dqs, dputQ, qok, dls, dputL, dthen, vmax, vstep, ofInt?, gt, ev, constAV, argTm, glook, dlt, aload, astore, ptCells, eI, eB, AH.set_same, AH.set_none, AH.set_set, nilS]
                refine hK25 _ _ ?_; clear hK25 K25
                refine hK24 _ _ ?_
                refine AT.ret ?_
                try simp only [thenQ, blockQ, scopeQ]
                exact ret_keep rfl (AH.le_refl _) ⟨by simp [aret, gt, eB, isRightP, *], rfl⟩

theorem check1_ac (σ : AH) (n : Nd) : AC Try.prog 121 [.ag n.cells] σ fun r σ' => r = eB (!isRightP n) ∧ σ' = σ := by
  refine AC.of_body Try.func121 (by kernel_rfl) rfl (by rw [Try.ntmps121]; simp) ?_
  rw [Try.ntmps121]
  refine AT.seq fun K1 hK1 => ?_
  refine AT.regionK [] fun K2 hK2 => ?_
  simp [and_assoc, rdS, Value.cells, beqI, bneI, asfill, afill, splice, List.replicate, AV.isPtr, AV.plus, ifS_some, avG, avI, avB, avM, avA, avT, abMap, abRow, dops, dput, gev, oev, Res.run, Res.runQ, rcall, rapp, rbin, run1, ridx, rslice, dqs, dputQ, qok, dls, dputL, dthen, vmax, vstep, ofInt?, gt, ev, constAV, argTm, glook, dlt, aload, astore, ptCells, eI, eB, AH.set_same, AH.set_none, AH.set_set, nilS]
  refine hK2 _ _ ?_; clear hK2 K2
  refine hK1 _ _ ?_
  refine AT.seq fun K3 hK3 => ?_
  refine AT.regionK [] fun K4 hK4 => ?_
  simp [and_assoc, rdS, Value.cells, beqI, bneI, asfill, afill, splice, List.replicate, AV.isPtr, AV.plus, ifS_some, avG, avI, avB, avM, avA, avT, abMap, abRow, dops, dput, gev, oev, Res.run, Res.runQ, rcall, rapp, rbin, run1, ridx, rslice, dqs, dputQ, qok, dls, dputL, dthen, vmax, vstep, ofInt?, gt, ev, constAV, argTm, glook, dlt, aload, astore, ptCells, eI, eB, AH.set_same, AH.set_none, AH.set_set, nilS]
  refine AC.q (isRight_ac σ n) ?_
  simp [and_assoc, rdS, Value.cells, beqI, bneI, asfill, afill, splice, List.replicate, AV.isPtr, AV.plus, ifS_some, avG, avI, avB, avM, avA, avT, abMap, abRow, dops, dput, gev, oev, Res.run, Res.runQ, rcall, rapp, rbin, run1, ridx, rslice, dqs, dputQ, qok, dls, dputL, dthen, vmax, vstep, ofInt?, gt, ev, constAV, argTm, glook, dlt, aload, astore, ptCells, eI, eB, AH.set_same, AH.set_none, AH.set_set, nilS]
  refine hK4 _ _ ?_; clear hK4 K4
  refine hK3 _ _ ?_
  refine AT.ret ?_
  try simp only [thenQ, blockQ, scopeQ]
  exact ret_keep rfl (AH.le_refl _) ⟨rfl, rfl⟩

end Go.Proofs.Ytdimikmgkdcglaa
