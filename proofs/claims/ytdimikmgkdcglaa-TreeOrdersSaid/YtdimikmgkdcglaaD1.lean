/- Walks: numbers between bounds, sizes. No conditions. Printed by gen_walk.py. -/
import Derived.Test.YtdimikmgkdcglaaC4
set_option linter.unusedVariables false
set_option linter.unusedSimpArgs false
namespace Go.Proofs.Ytdimikmgkdcglaa
open Go.RowKit

def withinP (a b : Int) (l : List Int) : Bool := l.all fun n => !(decide (n < a) || decide (n > b))
theorem withinP_no {a b : Int} {l : List Int} {i : Nat} {n : Int} (h : l[i]? = some n) (hn : (decide (n < a) || decide (n > b)) = true) : withinP a b l = false := by
  unfold withinP
  rw [List.all_eq_false]
  exact ⟨n, List.mem_of_getElem? h, by simp [hn]⟩
theorem withinP_yes {a b : Int} {l : List Int} (h : ∀ (i : Nat) (n : Int), l[i]? = some n → (decide (n < a) || decide (n > b)) = false) : withinP a b l = true := by
  unfold withinP
  rw [List.all_eq_true]
  intro n hn
  obtain ⟨i, hi⟩ := List.mem_iff_getElem?.1 hn
  simp [h i n hi]

theorem within_ac (σ : AH) (x : AV) (a b : Int) (l : List Int) (hx : IsS x (eIs l)) (hl : l.length < 9223372036854775807) : AC Try.prog 153 [eI a, eI b, x] σ fun r σ' => r = eB (withinP a b l) ∧ σ' = σ := by
  refine AC.of_body Try.func153 (by kernel_rfl) rfl (by rw [Try.ntmps153]; simp) ?_
  rw [Try.ntmps153]
  have hlen := hx.len
  rw [eIs_len] at hlen
  refine AT.seq fun K1 hK1 => ?_
  refine AT.regionK [] fun K2 hK2 => ?_
  simp [and_assoc, rdS, Value.cells, beqI, bneI, asfill, afill, splice, List.replicate, AV.isPtr, AV.plus, ifS_some, avG, avI, avB, avM, avA, avT, abMap, abRow, dops, dput, gev, oev, Res.run, Res.runQ, rcall, rapp, rbin, run1, ridx, rslice, dqs, dputQ, qok, dls, dputL, dthen, vmax, vstep, ofInt?, gt, ev, constAV, argTm, glook, dlt, aload, astore, ptCells, eI, eB, AH.set_same, AH.set_none, AH.set_set, nilS, hlen]
  refine hK2 _ _ ?_; clear hK2 K2
  refine hK1 _ _ ?_
  refine AT.seq fun K3 hK3 => ?_
  refine AT.seq fun K4 hK4 => ?_
  refine AT.regionK [] fun K5 hK5 => ?_
  simp [and_assoc, rdS, Value.cells, beqI, bneI, asfill, afill, splice, List.replicate, AV.isPtr, AV.plus, ifS_some, avG, avI, avB, avM, avA, avT, abMap, abRow, dops, dput, gev, oev, Res.run, Res.runQ, rcall, rapp, rbin, run1, ridx, rslice, dqs, dputQ, qok, dls, dputL, dthen, vmax, vstep, ofInt?, gt, ev, constAV, argTm, glook, dlt, aload, astore, ptCells, eI, eB, AH.set_same, AH.set_none, AH.set_set, nilS, hlen]
  refine hK5 _ _ ?_; clear hK5 K5
  refine hK4 _ _ ?_
  refine AT.block ?_
  refine AT.while (fun i : Nat => [(11, eI i), (10, eI l.length), (9, x), (0, eI a), (1, eI b)]) (fun i σ' => i ≤ l.length ∧ (∀ (j : Nat) (n : Int), j < i → l[j]? = some n → (decide (n < a) || decide (n > b)) = false) ∧ σ = σ') (fun i => l.length - i) 0 (by simp [has, gt, eI]) ⟨by omega, fun j n hj => absurd hj (by omega), rfl⟩ ?_
  rintro i σ' ⟨hi, hall, rfl⟩
  refine AT.seq fun K6 hK6 => ?_
  refine AT.regionK [] fun K7 hK7 => ?_
  simp [and_assoc, rdS, Value.cells, beqI, bneI, asfill, afill, splice, List.replicate, AV.isPtr, AV.plus, ifS_some, avG, avI, avB, avM, avA, avT, abMap, abRow, dops, dput, gev, oev, Res.run, Res.runQ, rcall, rapp, rbin, run1, ridx, rslice, dqs, dputQ, qok, dls, dputL, dthen, vmax, vstep, ofInt?, gt, ev, constAV, argTm, glook, dlt, aload, astore, ptCells, eI, eB, AH.set_same, AH.set_none, AH.set_set, nilS, hlen]
  refine hK7 _ _ ?_; clear hK7 K7
  refine hK6 _ _ ?_
  refine AT.seq fun K8 hK8 => ?_
  refine AT.cond rfl (fun ht => ?_) (fun hf => ?_)
  · simp at ht
    have hget : l[i]? = some l[i] := by simp
    have hro := hx.at (eIs_get hget)
    subst hro
    have hw : IntKind.i64.wrap ((i : Int) + 1) = (i : Int) + 1 := wI (by omega) (by omega)
    refine AT.skip ?_
    refine hK8 _ _ ?_
    refine AT.seq fun K9 hK9 => ?_
    refine AT.block ?_
    refine AT.seq fun K10 hK10 => ?_
    refine AT.regionK [] fun K11 hK11 => ?_
    simp [and_assoc, rdS, Value.cells, beqI, bneI, asfill, afill, splice, List.replicate, AV.isPtr, AV.plus, ifS_some, avG, avI, avB, avM, avA, avT, abMap, abRow, dops, dput, gev, oev, Res.run, Res.runQ, rcall, rapp, rbin, run1, ridx, rslice, dqs, dputQ, qok, dls, dputL, dthen, vmax, vstep, ofInt?, gt, ev, constAV, argTm, glook, dlt, aload, astore, ptCells, eI, eB, AH.set_same, AH.set_none, AH.set_set, nilS, hlen, eIs_get hget, ht]
    refine hK11 _ _ ?_; clear hK11 K11
    refine hK10 _ _ ?_
    refine AT.cut (fun α' σ' => has [(22, eB (decide (l[i] < a) || decide (l[i] > b))), (11, eI i), (10, eI l.length), (9, .ro (eIs l)), (0, eI a), (1, eI b)] α' ∧ σ = σ') ?_ ?_
    · skip
      refine AT.regionK [] fun K12 hK12 => ?_
      by_cases h12_0 : l[i] < a
      · skip
        simp [and_assoc, rdS, Value.cells, beqI, bneI, asfill, afill, splice, List.replicate, AV.isPtr, AV.plus, ifS_some, avG, avI, avB, avM, avA, avT, abMap, abRow, dops, dput, gev, oev, Res.run, Res.runQ, rcall, rapp, rbin, run1, ridx, rslice, dqs, dputQ, qok, dls, dputL, dthen, vmax, vstep, ofInt?, gt, ev, constAV, argTm, glook, dlt, aload, astore, ptCells, eI, eB, AH.set_same, AH.set_none, AH.set_set, nilS, hlen, h12_0]
        refine hK12 _ _ ?_
        exact ⟨by simp [has, gt, eI, eB, h12_0], rfl⟩
      · skip
        simp [and_assoc, rdS, Value.cells, beqI, bneI, asfill, afill, splice, List.replicate, AV.isPtr, AV.plus, ifS_some, avG, avI, avB, avM, avA, avT, abMap, abRow, dops, dput, gev, oev, Res.run, Res.runQ, rcall, rapp, rbin, run1, ridx, rslice, dqs, dputQ, qok, dls, dputL, dthen, vmax, vstep, ofInt?, gt, ev, constAV, argTm, glook, dlt, aload, astore, ptCells, eI, eB, AH.set_same, AH.set_none, AH.set_set, nilS, hlen, h12_0]
        refine hK12 _ _ ?_
        exact ⟨by simp [has, gt, eI, eB, h12_0], rfl⟩
    · rintro α' σ' ⟨hα, rfl⟩
      refine AT.has _ hα ?_
      refine AT.cond rfl (fun ht => ?_) (fun hf => ?_)
      · skip
        refine AT.seq fun K13 hK13 => ?_
        refine AT.regionK [] fun K14 hK14 => ?_
        simp [and_assoc, rdS, Value.cells, beqI, bneI, asfill, afill, splice, List.replicate, AV.isPtr, AV.plus, ifS_some, avG, avI, avB, avM, avA, avT, abMap, abRow, dops, dput, gev, oev, Res.run, Res.runQ, rcall, rapp, rbin, run1, ridx, rslice, dqs, dputQ, qok, dls, dputL, dthen, vmax, vstep, ofInt?, gt, ev, constAV, argTm, glook, dlt, aload, astore, ptCells, eI, eB, AH.set_same, AH.set_none, AH.set_set, nilS, hlen]
        refine hK14 _ _ ?_; clear hK14 K14
        refine hK13 _ _ ?_
        refine AT.ret ?_
        try simp only [thenQ, blockQ, scopeQ]
        exact ret_keep rfl (AH.le_refl _) ⟨by rw [withinP_no hget ht]; rfl, rfl⟩
      · skip
        refine AT.skip ?_
        refine hK9 _ _ ?_
        refine AT.regionK [] fun K15 hK15 => ?_
        simp [and_assoc, rdS, Value.cells, beqI, bneI, asfill, afill, splice, List.replicate, AV.isPtr, AV.plus, ifS_some, avG, avI, avB, avM, avA, avT, abMap, abRow, dops, dput, gev, oev, Res.run, Res.runQ, rcall, rapp, rbin, run1, ridx, rslice, dqs, dputQ, qok, dls, dputL, dthen, vmax, vstep, ofInt?, gt, ev, constAV, argTm, glook, dlt, aload, astore, ptCells, eI, eB, AH.set_same, AH.set_none, AH.set_set, nilS, hlen]
        refine hK15 _ _ ?_; clear hK15 K15
        exact ⟨i + 1, by omega, by simp [has, gt, eI, eB, hw], by omega, fun j n hj hg => by
          by_cases hji : j = i
          · subst hji; rw [hget] at hg; injection hg with hg; subst hg; exact hf
          · exact hall j n (by omega) hg, rfl⟩
  · simp at hf
    refine AT.exit ?_
    try simp only [thenQ, blockQ, scopeQ, if_true]
    refine hK3 _ _ ?_
    refine AT.seq fun K16 hK16 => ?_
    refine AT.regionK [] fun K17 hK17 => ?_
    simp [and_assoc, rdS, Value.cells, beqI, bneI, asfill, afill, splice, List.replicate, AV.isPtr, AV.plus, ifS_some, avG, avI, avB, avM, avA, avT, abMap, abRow, dops, dput, gev, oev, Res.run, Res.runQ, rcall, rapp, rbin, run1, ridx, rslice, dqs, dputQ, qok, dls, dputL, dthen, vmax, vstep, ofInt?, gt, ev, constAV, argTm, glook, dlt, aload, astore, ptCells, eI, eB, AH.set_same, AH.set_none, AH.set_set, nilS, hlen]
    refine hK17 _ _ ?_; clear hK17 K17
    refine hK16 _ _ ?_
    refine AT.ret ?_
    try simp only [thenQ, blockQ, scopeQ]
    exact ret_keep rfl (AH.le_refl _) ⟨by rw [withinP_yes fun j n hj => hall j n (by have := (List.getElem?_eq_some_iff.1 hj).1; omega) hj]; rfl, rfl⟩

theorem areLengths_ac (σ : AH) (x : AV) (l : List Int) (hx : IsS x (eIs l)) (hl : l.length < 9223372036854775807) : AC Try.prog 152 [x] σ fun r σ' => r = eB (withinP (-1073741824) 1073741824 l) ∧ σ' = σ := by
  refine AC.of_body Try.func152 (by kernel_rfl) rfl (by rw [Try.ntmps152]; simp) ?_
  rw [Try.ntmps152]
  refine AT.seq fun K1 hK1 => ?_
  refine AT.regionK [] fun K2 hK2 => ?_
  simp [and_assoc, rdS, Value.cells, beqI, bneI, asfill, afill, splice, List.replicate, AV.isPtr, AV.plus, ifS_some, avG, avI, avB, avM, avA, avT, abMap, abRow, dops, dput, gev, oev, Res.run, Res.runQ, rcall, rapp, rbin, run1, ridx, rslice, dqs, dputQ, qok, dls, dputL, dthen, vmax, vstep, ofInt?, gt, ev, constAV, argTm, glook, dlt, aload, astore, ptCells, eI, eB, AH.set_same, AH.set_none, AH.set_set, nilS]
  refine hK2 _ _ ?_; clear hK2 K2
  refine hK1 _ _ ?_
  refine AT.seq fun K3 hK3 => ?_
  refine AT.regionK [] fun K4 hK4 => ?_
  simp [and_assoc, rdS, Value.cells, beqI, bneI, asfill, afill, splice, List.replicate, AV.isPtr, AV.plus, ifS_some, avG, avI, avB, avM, avA, avT, abMap, abRow, dops, dput, gev, oev, Res.run, Res.runQ, rcall, rapp, rbin, run1, ridx, rslice, dqs, dputQ, qok, dls, dputL, dthen, vmax, vstep, ofInt?, gt, ev, constAV, argTm, glook, dlt, aload, astore, ptCells, eI, eB, AH.set_same, AH.set_none, AH.set_set, nilS]
  refine AC.q (within_ac σ x _ _ l hx hl) ?_
  try simp
  refine hK4 _ _ ?_; clear hK4 K4
  refine hK3 _ _ ?_
  refine AT.ret ?_
  try simp only [thenQ, blockQ, scopeQ]
  exact ret_keep rfl (AH.le_refl _) ⟨rfl, rfl⟩

def isSizeP (s : Sz) : Bool := if s.kind = 1 then withinP (-1073741824) 1073741824 [s.n] else if s.kind = 2 then withinP 0 10000000 [s.n] else if s.kind = 0 then true else false


theorem isSize_ac (σ : AH) (s : Sz) : AC Try.prog 151 [.ag s.cells] σ fun r σ' => r = eB (isSizeP s) ∧ σ' = σ := by
  refine AC.of_body Try.func151 (by kernel_rfl) rfl (by rw [Try.ntmps151]; simp) ?_
  rw [Try.ntmps151]
  refine AT.seq fun K1 hK1 => ?_
  refine AT.regionK [] fun K2 hK2 => ?_
  simp [and_assoc, rdS, Value.cells, beqI, bneI, asfill, afill, splice, List.replicate, AV.isPtr, AV.plus, ifS_some, avG, avI, avB, avM, avA, avT, abMap, abRow, dops, dput, gev, oev, Res.run, Res.runQ, rcall, rapp, rbin, run1, ridx, rslice, dqs, dputQ, qok, dls, dputL, dthen, vmax, vstep, ofInt?, gt, ev, constAV, argTm, glook, dlt, aload, astore, ptCells, eI, eB, AH.set_same, AH.set_none, AH.set_set, nilS]
  refine hK2 _ _ ?_; clear hK2 K2
  refine hK1 _ _ ?_
  refine AT.seq fun K3 hK3 => ?_
  refine AT.seq fun K4 hK4 => ?_
  refine AT.regionK [] fun K5 hK5 => ?_
  simp [and_assoc, rdS, Value.cells, beqI, bneI, asfill, afill, splice, List.replicate, AV.isPtr, AV.plus, ifS_some, avG, avI, avB, avM, avA, avT, abMap, abRow, dops, dput, gev, oev, Res.run, Res.runQ, rcall, rapp, rbin, run1, ridx, rslice, dqs, dputQ, qok, dls, dputL, dthen, vmax, vstep, ofInt?, gt, ev, constAV, argTm, glook, dlt, aload, astore, ptCells, eI, eB, AH.set_same, AH.set_none, AH.set_set, nilS]
  refine hK5 _ _ ?_; clear hK5 K5
  refine hK4 _ _ ?_
  refine AT.block ?_
  refine AT.seq fun K6 hK6 => ?_
  refine AT.block ?_
  refine AT.seq fun K7 hK7 => ?_
  refine AT.block ?_
  refine AT.seq fun K8 hK8 => ?_
  refine AT.block ?_
  refine AT.seq fun K9 hK9 => ?_
  refine AT.seq fun K10 hK10 => ?_
  refine AT.seq fun K11 hK11 => ?_
  refine AT.regionK [] fun K12 hK12 => ?_
  simp [and_assoc, rdS, Value.cells, beqI, bneI, asfill, afill, splice, List.replicate, AV.isPtr, AV.plus, ifS_some, avG, avI, avB, avM, avA, avT, abMap, abRow, dops, dput, gev, oev, Res.run, Res.runQ, rcall, rapp, rbin, run1, ridx, rslice, dqs, dputQ, qok, dls, dputL, dthen, vmax, vstep, ofInt?, gt, ev, constAV, argTm, glook, dlt, aload, astore, ptCells, eI, eB, AH.set_same, AH.set_none, AH.set_set, nilS]
  refine hK12 _ _ ?_; clear hK12 K12
  refine hK11 _ _ ?_
  refine AT.cond rfl (fun ht => ?_) (fun hf => ?_)
  · try simp at ht
    refine AT.exit ?_
    try simp only [thenQ, blockQ, scopeQ, if_true]
    refine hK8 _ _ ?_
    refine AT.seq fun K13 hK13 => ?_
    refine AT.seq fun K14 hK14 => ?_
    refine AT.regionK [] fun K15 hK15 => ?_
    simp [and_assoc, rdS, Value.cells, beqI, bneI, asfill, afill, splice, List.replicate, AV.isPtr, AV.plus, ifS_some, avG, avI, avB, avM, avA, avT, abMap, abRow, dops, dput, gev, oev, Res.run, Res.runQ, rcall, rapp, rbin, run1, ridx, rslice, dqs, dputQ, qok, dls, dputL, dthen, vmax, vstep, ofInt?, gt, ev, constAV, argTm, glook, dlt, aload, astore, ptCells, eI, eB, AH.set_same, AH.set_none, AH.set_set, nilS]
    refine AC.q (areLengths_ac σ _ [s.n] (IsS.mk_ro _) (by simp)) ?_
    try simp
    refine hK15 _ _ ?_; clear hK15 K15
    refine hK14 _ _ ?_
    refine AT.ret ?_
    try simp only [thenQ, blockQ, scopeQ]
    exact ret_keep rfl (AH.le_refl _) ⟨by simp [isSizeP, aret, gt, eB, *], rfl⟩
  · try simp at hf
    refine AT.skip ?_
    refine hK10 _ _ ?_
    refine AT.seq fun K16 hK16 => ?_
    refine AT.seq fun K17 hK17 => ?_
    refine AT.regionK [] fun K18 hK18 => ?_
    simp [and_assoc, rdS, Value.cells, beqI, bneI, asfill, afill, splice, List.replicate, AV.isPtr, AV.plus, ifS_some, avG, avI, avB, avM, avA, avT, abMap, abRow, dops, dput, gev, oev, Res.run, Res.runQ, rcall, rapp, rbin, run1, ridx, rslice, dqs, dputQ, qok, dls, dputL, dthen, vmax, vstep, ofInt?, gt, ev, constAV, argTm, glook, dlt, aload, astore, ptCells, eI, eB, AH.set_same, AH.set_none, AH.set_set, nilS]
    refine hK18 _ _ ?_; clear hK18 K18
    refine hK17 _ _ ?_
    refine AT.cond rfl (fun ht => ?_) (fun hf => ?_)
    · try simp at ht
      refine AT.exit ?_
      try simp only [thenQ, blockQ, scopeQ, if_true]
      refine hK7 _ _ ?_
      refine AT.seq fun K19 hK19 => ?_
      refine AT.regionK [] fun K20 hK20 => ?_
      simp [and_assoc, rdS, Value.cells, beqI, bneI, asfill, afill, splice, List.replicate, AV.isPtr, AV.plus, ifS_some, avG, avI, avB, avM, avA, avT, abMap, abRow, dops, dput, gev, oev, Res.run, Res.runQ, rcall, rapp, rbin, run1, ridx, rslice, dqs, dputQ, qok, dls, dputL, dthen, vmax, vstep, ofInt?, gt, ev, constAV, argTm, glook, dlt, aload, astore, ptCells, eI, eB, AH.set_same, AH.set_none, AH.set_set, nilS]
      refine AC.q (within_ac σ _ _ _ [s.n] (IsS.mk_ro _) (by simp)) ?_
      try simp
      refine hK20 _ _ ?_; clear hK20 K20
      refine hK19 _ _ ?_
      refine AT.cond rfl (fun ht => ?_) (fun hf => ?_)
      · try simp at ht
        refine AT.seq fun K21 hK21 => ?_
        refine AT.regionK [] fun K22 hK22 => ?_
        simp [and_assoc, rdS, Value.cells, beqI, bneI, asfill, afill, splice, List.replicate, AV.isPtr, AV.plus, ifS_some, avG, avI, avB, avM, avA, avT, abMap, abRow, dops, dput, gev, oev, Res.run, Res.runQ, rcall, rapp, rbin, run1, ridx, rslice, dqs, dputQ, qok, dls, dputL, dthen, vmax, vstep, ofInt?, gt, ev, constAV, argTm, glook, dlt, aload, astore, ptCells, eI, eB, AH.set_same, AH.set_none, AH.set_set, nilS]
        refine hK22 _ _ ?_; clear hK22 K22
        refine hK21 _ _ ?_
        refine AT.ret ?_
        try simp only [thenQ, blockQ, scopeQ]
        exact ret_keep rfl (AH.le_refl _) ⟨by simp [isSizeP, aret, gt, eB, *], rfl⟩
      · try simp at hf
        refine AT.skip ?_
        refine hK6 _ _ ?_
        refine AT.seq fun K23 hK23 => ?_
        refine AT.seq fun K24 hK24 => ?_
        refine AT.regionK [] fun K25 hK25 => ?_
        simp [and_assoc, rdS, Value.cells, beqI, bneI, asfill, afill, splice, List.replicate, AV.isPtr, AV.plus, ifS_some, avG, avI, avB, avM, avA, avT, abMap, abRow, dops, dput, gev, oev, Res.run, Res.runQ, rcall, rapp, rbin, run1, ridx, rslice, dqs, dputQ, qok, dls, dputL, dthen, vmax, vstep, ofInt?, gt, ev, constAV, argTm, glook, dlt, aload, astore, ptCells, eI, eB, AH.set_same, AH.set_none, AH.set_set, nilS]
        refine hK25 _ _ ?_; clear hK25 K25
        refine hK24 _ _ ?_
        refine AT.ret ?_
        try simp only [thenQ, blockQ, scopeQ]
        exact ret_keep rfl (AH.le_refl _) ⟨by simp [isSizeP, aret, gt, eB, *], rfl⟩
    · try simp at hf
      refine AT.skip ?_
      refine hK16 _ _ ?_
      refine AT.seq fun K26 hK26 => ?_
      refine AT.regionK [] fun K27 hK27 => ?_
      simp [and_assoc, rdS, Value.cells, beqI, bneI, asfill, afill, splice, List.replicate, AV.isPtr, AV.plus, ifS_some, avG, avI, avB, avM, avA, avT, abMap, abRow, dops, dput, gev, oev, Res.run, Res.runQ, rcall, rapp, rbin, run1, ridx, rslice, dqs, dputQ, qok, dls, dputL, dthen, vmax, vstep, ofInt?, gt, ev, constAV, argTm, glook, dlt, aload, astore, ptCells, eI, eB, AH.set_same, AH.set_none, AH.set_set, nilS]
      refine hK27 _ _ ?_; clear hK27 K27
      refine hK26 _ _ ?_
      refine AT.cond rfl (fun ht => ?_) (fun hf => ?_)
      · try simp at ht
        refine AT.exit ?_
        try simp only [thenQ, blockQ, scopeQ, if_true]
        refine hK6 _ _ ?_
        refine AT.seq fun K28 hK28 => ?_
        refine AT.seq fun K29 hK29 => ?_
        refine AT.regionK [] fun K30 hK30 => ?_
        simp [and_assoc, rdS, Value.cells, beqI, bneI, asfill, afill, splice, List.replicate, AV.isPtr, AV.plus, ifS_some, avG, avI, avB, avM, avA, avT, abMap, abRow, dops, dput, gev, oev, Res.run, Res.runQ, rcall, rapp, rbin, run1, ridx, rslice, dqs, dputQ, qok, dls, dputL, dthen, vmax, vstep, ofInt?, gt, ev, constAV, argTm, glook, dlt, aload, astore, ptCells, eI, eB, AH.set_same, AH.set_none, AH.set_set, nilS]
        refine hK30 _ _ ?_; clear hK30 K30
        refine hK29 _ _ ?_
        refine AT.ret ?_
        try simp only [thenQ, blockQ, scopeQ]
        exact ret_keep rfl (AH.le_refl _) ⟨by simp [isSizeP, aret, gt, eB, *], rfl⟩
      · try simp at hf
        refine AT.skip ?_
        refine hK9 _ _ ?_
        refine AT.exit ?_
        try simp only [thenQ, blockQ, scopeQ, if_true]
        refine hK3 _ _ ?_
        refine AT.seq fun K31 hK31 => ?_
        refine AT.regionK [] fun K32 hK32 => ?_
        simp [and_assoc, rdS, Value.cells, beqI, bneI, asfill, afill, splice, List.replicate, AV.isPtr, AV.plus, ifS_some, avG, avI, avB, avM, avA, avT, abMap, abRow, dops, dput, gev, oev, Res.run, Res.runQ, rcall, rapp, rbin, run1, ridx, rslice, dqs, dputQ, qok, dls, dputL, dthen, vmax, vstep, ofInt?, gt, ev, constAV, argTm, glook, dlt, aload, astore, ptCells, eI, eB, AH.set_same, AH.set_none, AH.set_set, nilS]
        refine hK32 _ _ ?_; clear hK32 K32
        refine hK31 _ _ ?_
        refine AT.ret ?_
        try simp only [thenQ, blockQ, scopeQ]
        exact ret_keep rfl (AH.le_refl _) ⟨by simp [isSizeP, aret, gt, eB, *], rfl⟩

theorem sides_ac (σ : AH) (s : Sty) : AC Try.prog 142 [.ag s.cells] σ fun r σ' => r = .fn 158 [.pr s.cells 0] ∧ σ' = σ := by
  refine AC.of_body Try.func142 (by kernel_rfl) rfl (by rw [Try.ntmps142]; simp) ?_
  rw [Try.ntmps142]
  refine AT.seq fun K1 hK1 => ?_
  refine AT.regionK [] fun K2 hK2 => ?_
  simp [and_assoc, rdS, Value.cells, beqI, bneI, asfill, afill, splice, List.replicate, AV.isPtr, AV.plus, ifS_some, avG, avI, avB, avM, avA, avT, abMap, abRow, dops, dput, gev, oev, Res.run, Res.runQ, rcall, rapp, rbin, run1, ridx, rslice, dqs, dputQ, qok, dls, dputL, dthen, vmax, vstep, ofInt?, gt, ev, constAV, argTm, glook, dlt, aload, astore, ptCells, eI, eB, AH.set_same, AH.set_none, AH.set_set, nilS]
  refine hK2 _ _ ?_; clear hK2 K2
  refine hK1 _ _ ?_
  refine AT.seq fun K3 hK3 => ?_
  refine AT.regionK [] fun K4 hK4 => ?_
  simp [and_assoc, rdS, Value.cells, beqI, bneI, asfill, afill, splice, List.replicate, AV.isPtr, AV.plus, ifS_some, avG, avI, avB, avM, avA, avT, abMap, abRow, dops, dput, gev, oev, Res.run, Res.runQ, rcall, rapp, rbin, run1, ridx, rslice, dqs, dputQ, qok, dls, dputL, dthen, vmax, vstep, ofInt?, gt, ev, constAV, argTm, glook, dlt, aload, astore, ptCells, eI, eB, AH.set_same, AH.set_none, AH.set_set, nilS]
  refine hK4 _ _ ?_; clear hK4 K4
  refine hK3 _ _ ?_
  refine AT.ret ?_
  try simp only [thenQ, blockQ, scopeQ]
  exact ret_keep rfl (AH.le_refl _) ⟨rfl, rfl⟩

theorem sides1_ac (σ : AH) (s : Sty) (id : Nat) (I : Nat → AH → Prop) (D : AH → Prop) (h0 : I 0 σ) (hY : ∀ k σ, k < 4 → I k σ → YC Try.prog id [eI (s.p k), .ag (s.b k).cells] σ fun r σ' => (r = eB true ∧ I (k + 1) σ') ∨ (r = eB false ∧ D σ')) : AC Try.prog 158 [.yl id, .pr s.cells 0] σ fun r σ' => I 4 σ' ∨ D σ' := by
  refine AC.of_body Try.func158 (by kernel_rfl) rfl (by rw [Try.ntmps158]; simp) ?_
  rw [Try.ntmps158]
  refine AT.seq fun K1 hK1 => ?_
  refine AT.regionK [] fun K2 hK2 => ?_
  simp [and_assoc, rdS, Value.cells, beqI, bneI, asfill, afill, splice, List.replicate, AV.isPtr, AV.plus, ifS_some, avG, avI, avB, avM, avA, avT, abMap, abRow, dops, dput, gev, oev, Res.run, Res.runQ, rcall, rapp, rbin, run1, ridx, rslice, dqs, dputQ, qok, dls, dputL, dthen, vmax, vstep, ofInt?, gt, ev, constAV, argTm, glook, dlt, aload, astore, ptCells, eI, eB, AH.set_same, AH.set_none, AH.set_set, nilS, AV.isPtr, AV.plus]
  refine hK2 _ _ ?_; clear hK2 K2
  refine hK1 _ _ ?_
  refine AT.block ?_
  refine AT.while (fun i : Nat => [(7, eI i), (6, .ag s.pads), (0, .yl id), (1, .pr s.cells 0)]) (fun i σ' => i ≤ 4 ∧ I i σ') (fun i => 4 - i) 0 (by simp [has, gt, eI]) ⟨by omega, h0⟩ ?_
  rintro i σ1 ⟨hi, hI⟩
  refine AT.seq fun K3 hK3 => ?_
  refine AT.regionK [] fun K4 hK4 => ?_
  simp [and_assoc, rdS, Value.cells, beqI, bneI, asfill, afill, splice, List.replicate, AV.isPtr, AV.plus, ifS_some, avG, avI, avB, avM, avA, avT, abMap, abRow, dops, dput, gev, oev, Res.run, Res.runQ, rcall, rapp, rbin, run1, ridx, rslice, dqs, dputQ, qok, dls, dputL, dthen, vmax, vstep, ofInt?, gt, ev, constAV, argTm, glook, dlt, aload, astore, ptCells, eI, eB, AH.set_same, AH.set_none, AH.set_set, nilS, AV.isPtr, AV.plus]
  refine hK4 _ _ ?_; clear hK4 K4
  refine hK3 _ _ ?_
  refine AT.seq fun K5 hK5 => ?_
  refine AT.cond rfl (fun ht => ?_) (fun hf => ?_)
  · simp at ht
    have ht' : i < 4 := by omega
    have h3 : 3 ≤ 29 - (8 + i * 3) := by omega
    have hw : IntKind.i64.wrap ((i : Int) + 1) = (i : Int) + 1 := wI (by omega) (by omega)
    refine AT.skip ?_
    refine hK5 _ _ ?_
    refine AT.seq fun K6 hK6 => ?_
    refine AT.block ?_
    refine AT.seq fun K7 hK7 => ?_
    refine AT.regionK [] fun K8 hK8 => ?_
    simp [and_assoc, rdS, Value.cells, beqI, bneI, asfill, afill, splice, List.replicate, AV.isPtr, AV.plus, ifS_some, avG, avI, avB, avM, avA, avT, abMap, abRow, dops, dput, gev, oev, Res.run, Res.runQ, rcall, rapp, rbin, run1, ridx, rslice, dqs, dputQ, qok, dls, dputL, dthen, vmax, vstep, ofInt?, gt, ev, constAV, argTm, glook, dlt, aload, astore, ptCells, eI, eB, AH.set_same, AH.set_none, AH.set_set, nilS, AV.isPtr, AV.plus, ht', ht, s.at_p ht']
    refine hK8 _ _ ?_; clear hK8 K8
    refine hK7 _ _ ?_
    refine AT.seq fun K9 hK9 => ?_
    refine AT.regionK [] fun K10 hK10 => ?_
    simp [and_assoc, rdS, Value.cells, beqI, bneI, asfill, afill, splice, List.replicate, AV.isPtr, AV.plus, ifS_some, avG, avI, avB, avM, avA, avT, abMap, abRow, dops, dput, gev, oev, Res.run, Res.runQ, rcall, rapp, rbin, run1, ridx, rslice, dqs, dputQ, qok, dls, dputL, dthen, vmax, vstep, ofInt?, gt, ev, constAV, argTm, glook, dlt, aload, astore, ptCells, eI, eB, AH.set_same, AH.set_none, AH.set_set, nilS, AV.isPtr, AV.plus, ht', ht, s.take_b ht', h3]
    refine (hY i σ1 ht' hI).mono ?_
    rintro _ σ2 (⟨rfl, hI'⟩ | ⟨rfl, hD⟩)
    · skip
      simp [eB]
      refine hK10 _ _ ?_; clear hK10 K10
      refine hK9 _ _ ?_
      refine AT.cond (t := false) rfl (fun h => by cases h) (fun _ => ?_)
      refine AT.skip ?_
      refine hK6 _ _ ?_
      refine AT.regionK [] fun K11 hK11 => ?_
      simp [and_assoc, rdS, Value.cells, beqI, bneI, asfill, afill, splice, List.replicate, AV.isPtr, AV.plus, ifS_some, avG, avI, avB, avM, avA, avT, abMap, abRow, dops, dput, gev, oev, Res.run, Res.runQ, rcall, rapp, rbin, run1, ridx, rslice, dqs, dputQ, qok, dls, dputL, dthen, vmax, vstep, ofInt?, gt, ev, constAV, argTm, glook, dlt, aload, astore, ptCells, eI, eB, AH.set_same, AH.set_none, AH.set_set, nilS, AV.isPtr, AV.plus]
      refine hK11 _ _ ?_; clear hK11 K11
      exact ⟨i + 1, by omega, by simp [has, gt, eI, eB, hw], by omega, hI'⟩
    · skip
      simp [eB]
      refine hK10 _ _ ?_; clear hK10 K10
      refine hK9 _ _ ?_
      refine AT.cond (t := true) rfl (fun _ => ?_) (fun h => by cases h)
      refine AT.ret ?_
      try simp only [thenQ, blockQ, scopeQ]
      exact ret_keep rfl (AH.le_refl _) (.inr hD)
  · simp at hf
    have h4 : i = 4 := by omega
    subst h4
    refine AT.exit ?_
    try simp only [thenQ, blockQ, scopeQ, if_true]
    exact end_keep rfl (AH.le_refl _) (.inl hI)

end Go.Proofs.Ytdimikmgkdcglaa
