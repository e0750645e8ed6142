/- Walks: styles. No conditions. Printed by gen_walk.py. -/
import Derived.Test.YtdimikmgkdcglaaC5
import Derived.Test.YtdimikmgkdcglaaD1
set_option linter.unusedVariables false
set_option linter.unusedSimpArgs false
namespace Go.Proofs.Ytdimikmgkdcglaa
open Go.RowKit

theorem sides1_iter (s : Sty) : Iter Try.prog 158 [.pr s.cells 0] 4 fun k => [eI (s.p k), .ag (s.b k).cells] :=
  fun lid I D σ h0 h => sides1_ac σ s lid I D h0 fun k σ hk hI => h k σ hk hI

/-- One side. -/
def sideP (s : Sty) (k : Nat) : Bool := withinP (-1073741824) 1073741824 [s.p k, (s.b k).w] && withinP 0 9 [(s.b k).st]
def validA (s : Sty) : Bool := isSizeP s.width && isSizeP s.height && withinP (-1073741824) 1073741824 [s.sp0, s.sp1]
def validB (s : Sty) : Bool := withinP (-1000) 1000 [s.colSpan, s.rowSpan] && withinP 0 3 [s.align]
def validP (s : Sty) : Bool := validA s && validB s && (sideP s 0 && sideP s 1 && sideP s 2 && sideP s 3)
theorem validP_no {s : Sty} {k : Nat} (hk : k < 4) (h : sideP s k = false) : validP s = false := by
  unfold validP
  match k, hk with
  | 0, _ => simp [h]
  | 1, _ => simp [h]
  | 2, _ => simp [h]
  | 3, _ => simp [h]
def sidesP (s : Sty) : Nat → Bool
  | 0 => true
  | k + 1 => sidesP s k && sideP s k

set_option maxHeartbeats 4000000 in
theorem valid_ac (σ : AH) (s : Sty) : AC Try.prog 125 [.ag s.cells] σ fun r σ' => r = eB (validP s) ∧ σ' = σ := by
  refine AC.of_body Try.func125 (by kernel_rfl) rfl (by rw [Try.ntmps125]; simp) ?_
  rw [Try.ntmps125]
  refine AT.seq fun K1 hK1 => ?_
  refine AT.regionK [] fun K2 hK2 => ?_
  simp [and_assoc, rdS, Value.cells, beqI, bneI, asfill, afill, splice, List.replicate, AV.isPtr, AV.plus, ifS_some, avG, avI, avB, avM, avA, avT, abMap, abRow, dops, dput, gev, oev, Res.run, Res.runQ, rcall, rapp, rbin, run1, ridx, rslice, dqs, dputQ, qok, dls, dputL, dthen, vmax, vstep, ofInt?, gt, ev, constAV, argTm, glook, dlt, aload, astore, ptCells, eI, eB, AH.set_same, AH.set_none, AH.set_set, nilS]
  refine hK2 _ _ ?_; clear hK2 K2
  refine hK1 _ _ ?_
  refine AT.scope0 ?_
  refine AT.cut (fun α' σ' => ∃ id, σ id = none ∧ has [(1, .pr s.cells 0), (3, .pt id 0)] α' ∧ σ' = σ.set id (.box [eB (validA s)] 4)) ?_ ?_
  · skip
    refine AT.regionK [] fun K hK => ?_
    simp [and_assoc, rdS, Value.cells, beqI, bneI, asfill, afill, splice, List.replicate, AV.isPtr, AV.plus, ifS_some, avG, avI, avB, avM, avA, avT, abMap, abRow, dops, dput, gev, oev, Res.run, Res.runQ, rcall, rapp, rbin, run1, ridx, rslice, dqs, dputQ, qok, dls, dputL, dthen, vmax, vstep, ofInt?, gt, ev, constAV, argTm, glook, dlt, aload, astore, ptCells, eI, eB, AH.set_same, AH.set_none, AH.set_set, nilS]
    refine AC.q (isSize_ac σ s.width) ?_
    by_cases h1 : isSizeP s.width = true
    · simp [and_assoc, rdS, Value.cells, beqI, bneI, asfill, afill, splice, List.replicate, AV.isPtr, AV.plus, ifS_some, avG, avI, avB, avM, avA, avT, abMap, abRow, dops, dput, gev, oev, Res.run, Res.runQ, rcall, rapp, rbin, run1, ridx, rslice, dqs, dputQ, qok, dls, dputL, dthen, vmax, vstep, ofInt?, gt, ev, constAV, argTm, glook, dlt, aload, astore, ptCells, eI, eB, AH.set_same, AH.set_none, AH.set_set, nilS, h1]
      refine AC.q (isSize_ac σ s.height) ?_
      by_cases h2 : isSizeP s.height = true
      · simp [and_assoc, rdS, Value.cells, beqI, bneI, asfill, afill, splice, List.replicate, AV.isPtr, AV.plus, ifS_some, avG, avI, avB, avM, avA, avT, abMap, abRow, dops, dput, gev, oev, Res.run, Res.runQ, rcall, rapp, rbin, run1, ridx, rslice, dqs, dputQ, qok, dls, dputL, dthen, vmax, vstep, ofInt?, gt, ev, constAV, argTm, glook, dlt, aload, astore, ptCells, eI, eB, AH.set_same, AH.set_none, AH.set_set, nilS, h2]
        refine AC.q (areLengths_ac σ _ [s.sp0, s.sp1] (IsS.mk_ro _) (by simp)) ?_
        simp [and_assoc, rdS, Value.cells, beqI, bneI, asfill, afill, splice, List.replicate, AV.isPtr, AV.plus, ifS_some, avG, avI, avB, avM, avA, avT, abMap, abRow, dops, dput, gev, oev, Res.run, Res.runQ, rcall, rapp, rbin, run1, ridx, rslice, dqs, dputQ, qok, dls, dputL, dthen, vmax, vstep, ofInt?, gt, ev, constAV, argTm, glook, dlt, aload, astore, ptCells, eI, eB, AH.set_same, AH.set_none, AH.set_set, nilS]
        intro id hid
        exact hK _ _ ⟨id, hid, by simp [has, gt], by simp [validA, h1, h2, eB]⟩
      · simp [and_assoc, rdS, Value.cells, beqI, bneI, asfill, afill, splice, List.replicate, AV.isPtr, AV.plus, ifS_some, avG, avI, avB, avM, avA, avT, abMap, abRow, dops, dput, gev, oev, Res.run, Res.runQ, rcall, rapp, rbin, run1, ridx, rslice, dqs, dputQ, qok, dls, dputL, dthen, vmax, vstep, ofInt?, gt, ev, constAV, argTm, glook, dlt, aload, astore, ptCells, eI, eB, AH.set_same, AH.set_none, AH.set_set, nilS, h2]
        intro id hid
        exact hK _ _ ⟨id, hid, by simp [has, gt], by simp [validA, h1, h2, eB]⟩
    · simp [and_assoc, rdS, Value.cells, beqI, bneI, asfill, afill, splice, List.replicate, AV.isPtr, AV.plus, ifS_some, avG, avI, avB, avM, avA, avT, abMap, abRow, dops, dput, gev, oev, Res.run, Res.runQ, rcall, rapp, rbin, run1, ridx, rslice, dqs, dputQ, qok, dls, dputL, dthen, vmax, vstep, ofInt?, gt, ev, constAV, argTm, glook, dlt, aload, astore, ptCells, eI, eB, AH.set_same, AH.set_none, AH.set_set, nilS, h1]
      intro id hid
      exact hK _ _ ⟨id, hid, by simp [has, gt], by simp [validA, h1, eB]⟩
  · rintro α' σ' ⟨id, hid, hα, rfl⟩
    refine AT.has _ hα ?_
    refine AT.cut (fun α' σ' => ∃ id, σ id = none ∧ has [(1, .pr s.cells 0), (3, .pt id 0)] α' ∧ σ' = σ.set id (.box [eB (validA s && validB s)] 4)) ?_ ?_
    · skip
      refine AT.regionK [] fun K hK => ?_
      by_cases h1 : validA s = true
      · simp [and_assoc, rdS, Value.cells, beqI, bneI, asfill, afill, splice, List.replicate, AV.isPtr, AV.plus, ifS_some, avG, avI, avB, avM, avA, avT, abMap, abRow, dops, dput, gev, oev, Res.run, Res.runQ, rcall, rapp, rbin, run1, ridx, rslice, dqs, dputQ, qok, dls, dputL, dthen, vmax, vstep, ofInt?, gt, ev, constAV, argTm, glook, dlt, aload, astore, ptCells, eI, eB, AH.set_same, AH.set_none, AH.set_set, nilS, h1]
        refine AC.q (within_ac _ _ _ _ [s.colSpan, s.rowSpan] (IsS.mk_ro _) (by simp)) ?_
        by_cases h2 : withinP (-1000) 1000 [s.colSpan, s.rowSpan] = true
        · simp [and_assoc, rdS, Value.cells, beqI, bneI, asfill, afill, splice, List.replicate, AV.isPtr, AV.plus, ifS_some, avG, avI, avB, avM, avA, avT, abMap, abRow, dops, dput, gev, oev, Res.run, Res.runQ, rcall, rapp, rbin, run1, ridx, rslice, dqs, dputQ, qok, dls, dputL, dthen, vmax, vstep, ofInt?, gt, ev, constAV, argTm, glook, dlt, aload, astore, ptCells, eI, eB, AH.set_same, AH.set_none, AH.set_set, nilS, h1, h2]
          refine AC.q (within_ac _ _ _ _ [s.align] (IsS.mk_ro _) (by simp)) ?_
          simp [and_assoc, rdS, Value.cells, beqI, bneI, asfill, afill, splice, List.replicate, AV.isPtr, AV.plus, ifS_some, avG, avI, avB, avM, avA, avT, abMap, abRow, dops, dput, gev, oev, Res.run, Res.runQ, rcall, rapp, rbin, run1, ridx, rslice, dqs, dputQ, qok, dls, dputL, dthen, vmax, vstep, ofInt?, gt, ev, constAV, argTm, glook, dlt, aload, astore, ptCells, eI, eB, AH.set_same, AH.set_none, AH.set_set, nilS, h1, h2]
          exact hK _ _ ⟨id, hid, by simp [has, gt], by simp [validB, h1, h2, eB]⟩
        · simp [and_assoc, rdS, Value.cells, beqI, bneI, asfill, afill, splice, List.replicate, AV.isPtr, AV.plus, ifS_some, avG, avI, avB, avM, avA, avT, abMap, abRow, dops, dput, gev, oev, Res.run, Res.runQ, rcall, rapp, rbin, run1, ridx, rslice, dqs, dputQ, qok, dls, dputL, dthen, vmax, vstep, ofInt?, gt, ev, constAV, argTm, glook, dlt, aload, astore, ptCells, eI, eB, AH.set_same, AH.set_none, AH.set_set, nilS, h1, h2]
          exact hK _ _ ⟨id, hid, by simp [has, gt], by simp [validB, h1, h2, eB]⟩
      · simp [and_assoc, rdS, Value.cells, beqI, bneI, asfill, afill, splice, List.replicate, AV.isPtr, AV.plus, ifS_some, avG, avI, avB, avM, avA, avT, abMap, abRow, dops, dput, gev, oev, Res.run, Res.runQ, rcall, rapp, rbin, run1, ridx, rslice, dqs, dputQ, qok, dls, dputL, dthen, vmax, vstep, ofInt?, gt, ev, constAV, argTm, glook, dlt, aload, astore, ptCells, eI, eB, AH.set_same, AH.set_none, AH.set_set, nilS, h1]
        exact hK _ _ ⟨id, hid, by simp [has, gt], by simp [h1, eB]⟩
    · rintro α' σ' ⟨id, hid, hα, rfl⟩
      refine AT.has _ hα ?_
      refine AT.seq fun K5 hK5 => ?_
      refine AT.label ?_
      refine hK5 _ _ ?_
      refine AT.cut (fun α' σ' => has [(1, .pr s.cells 0), (3, .pt id 0)] α' ∧ σ.le σ' ∧ σ' id = some (.box [eB (validP s)] 4)) ?_ ?_
      · skip
        refine AT.seq fun K6 hK6 => ?_
        refine AT.regionK [] fun K7 hK7 => ?_
        simp [and_assoc, rdS, Value.cells, beqI, bneI, asfill, afill, splice, List.replicate, AV.isPtr, AV.plus, ifS_some, avG, avI, avB, avM, avA, avT, abMap, abRow, dops, dput, gev, oev, Res.run, Res.runQ, rcall, rapp, rbin, run1, ridx, rslice, dqs, dputQ, qok, dls, dputL, dthen, vmax, vstep, ofInt?, gt, ev, constAV, argTm, glook, dlt, aload, astore, ptCells, eI, eB, AH.set_same, AH.set_none, AH.set_set, nilS]
        refine AC.q (sides_ac _ s) ?_
        refine hK7 _ _ ?_; clear hK7 K7
        refine hK6 _ _ ?_
        refine AT.block ?_
        have hle0 : σ.le (σ.set id (.box [eB (validA s && validB s)] 4)) := AH.le_set _ hid (AH.le_refl _)
        refine AT.rangeI rfl (by intro r hr; cases hr) (sides1_iter s) (fun k τ => σ.le τ ∧ sidesP s k = true ∧ τ id = some (.box [eB (validA s && validB s)] 4)) (fun c τ => c = .exit 0 ∧ σ.le τ ∧ validP s = false ∧ τ id = some (.box [eB false] 4)) ⟨hle0, rfl, AH.set_same _ _ _⟩ (fun k => rfl) (by decide) ?_ ?_ ?_
        · skip
          rintro lid k τ hk hlid ⟨hle, hsk, hτ⟩
          have hne : id ≠ lid := by rintro rfl; rw [AH.del_same] at hτ; cases hτ
          rw [AH.del_ne _ hne] at hτ
          simp only [putArgs]
          refine AT.seq fun K8 hK8 => ?_
          refine AT.regionK [] fun K9 hK9 => ?_
          simp [and_assoc, rdS, Value.cells, beqI, bneI, asfill, afill, splice, List.replicate, AV.isPtr, AV.plus, ifS_some, avG, avI, avB, avM, avA, avT, abMap, abRow, dops, dput, gev, oev, Res.run, Res.runQ, rcall, rapp, rbin, run1, ridx, rslice, dqs, dputQ, qok, dls, dputL, dthen, vmax, vstep, ofInt?, gt, ev, constAV, argTm, glook, dlt, aload, astore, ptCells, eI, eB, AH.set_same, AH.set_none, AH.set_set, nilS]
          refine hK9 _ _ ?_; clear hK9 K9
          refine hK8 _ _ ?_
          refine AT.regionK [] fun K10 hK10 => ?_
          simp [and_assoc, rdS, Value.cells, beqI, bneI, asfill, afill, splice, List.replicate, AV.isPtr, AV.plus, ifS_some, avG, avI, avB, avM, avA, avT, abMap, abRow, dops, dput, gev, oev, Res.run, Res.runQ, rcall, rapp, rbin, run1, ridx, rslice, dqs, dputQ, qok, dls, dputL, dthen, vmax, vstep, ofInt?, gt, ev, constAV, argTm, glook, dlt, aload, astore, ptCells, eI, eB, AH.set_same, AH.set_none, AH.set_set, nilS]
          intro x hx
          refine hK10 _ _ ?_; clear hK10 K10
          simp only [thenQ]
          have hxl : x ≠ lid := by rintro rfl; rw [hlid] at hx; cases hx
          have hxi : x ≠ id := by rintro rfl; rw [hτ] at hx; cases hx
          have hxs : σ x = none := AH.le_none (AH.le_trans hle (AH.del_le τ lid)) hx
          refine ⟨by rw [AH.set_other _ (Ne.symm hxl)]; exact hlid, ?_⟩
          have hb1 : ∀ L, ((τ.set x (AB.box (s.b k).cells 30)).set lid L) x = some (.box (s.b k).cells 30) := fun L => by rw [AH.set_other _ hxl, AH.set_same]
          have hb2 : ∀ L, ((τ.set x (AB.box (s.b k).cells 30)).set lid L) id = some (.box [eB (validA s && validB s)] 4) := fun L => by rw [AH.set_other _ hne, AH.set_other _ (Ne.symm hxi)]; exact hτ
          have hle2 : ∀ L, σ.le (((τ.set x (AB.box (s.b k).cells 30)).set lid L).del lid) := fun L => by
            refine AH.le_del (AH.le_none hle (AH.del_same _ _)) (AH.le_set _ (AH.le_none hle (AH.del_same _ _)) (AH.le_set _ hxs (AH.le_trans hle (AH.del_le τ lid))))
          generalize hL : AB.loop LoopState.busy none _ _ _ _ _ = L
          refine AT.block ?_
          refine AT.cut (fun α' σ' => has [(3, .pt id 0), (50, eB (!sideP s k))] α' ∧ σ' = (τ.set x (AB.box (s.b k).cells 30)).set lid L) ?_ ?_
          · skip
            refine AT.regionK [] fun K hK => ?_
            simp [and_assoc, rdS, Value.cells, beqI, bneI, asfill, afill, splice, List.replicate, AV.isPtr, AV.plus, ifS_some, avG, avI, avB, avM, avA, avT, abMap, abRow, dops, dput, gev, oev, Res.run, Res.runQ, rcall, rapp, rbin, run1, ridx, rslice, dqs, dputQ, qok, dls, dputL, dthen, vmax, vstep, ofInt?, gt, ev, constAV, argTm, glook, dlt, aload, astore, ptCells, eI, eB, AH.set_same, AH.set_none, AH.set_set, nilS, hb1]
            refine AC.q (areLengths_ac _ _ [s.p k, (s.b k).w] (IsS.mk_ro _) (by simp)) ?_
            by_cases h1 : withinP (-1073741824) 1073741824 [s.p k, (s.b k).w] = true
            · simp [and_assoc, rdS, Value.cells, beqI, bneI, asfill, afill, splice, List.replicate, AV.isPtr, AV.plus, ifS_some, avG, avI, avB, avM, avA, avT, abMap, abRow, dops, dput, gev, oev, Res.run, Res.runQ, rcall, rapp, rbin, run1, ridx, rslice, dqs, dputQ, qok, dls, dputL, dthen, vmax, vstep, ofInt?, gt, ev, constAV, argTm, glook, dlt, aload, astore, ptCells, eI, eB, AH.set_same, AH.set_none, AH.set_set, nilS, h1, hb1]
              refine AC.q (within_ac _ _ _ _ [(s.b k).st] (IsS.mk_ro _) (by simp)) ?_
              simp [and_assoc, rdS, Value.cells, beqI, bneI, asfill, afill, splice, List.replicate, AV.isPtr, AV.plus, ifS_some, avG, avI, avB, avM, avA, avT, abMap, abRow, dops, dput, gev, oev, Res.run, Res.runQ, rcall, rapp, rbin, run1, ridx, rslice, dqs, dputQ, qok, dls, dputL, dthen, vmax, vstep, ofInt?, gt, ev, constAV, argTm, glook, dlt, aload, astore, ptCells, eI, eB, AH.set_same, AH.set_none, AH.set_set, nilS, h1]
              exact hK _ _ ⟨by simp [has, gt, sideP, h1, eB], rfl⟩
            · simp [and_assoc, rdS, Value.cells, beqI, bneI, asfill, afill, splice, List.replicate, AV.isPtr, AV.plus, ifS_some, avG, avI, avB, avM, avA, avT, abMap, abRow, dops, dput, gev, oev, Res.run, Res.runQ, rcall, rapp, rbin, run1, ridx, rslice, dqs, dputQ, qok, dls, dputL, dthen, vmax, vstep, ofInt?, gt, ev, constAV, argTm, glook, dlt, aload, astore, ptCells, eI, eB, AH.set_same, AH.set_none, AH.set_set, nilS, h1]
              exact hK _ _ ⟨by simp [has, gt, sideP, h1, eB], rfl⟩
          · rintro α' σ' ⟨hα, rfl⟩
            refine AT.has _ hα ?_
            refine AT.cond rfl (fun ht => ?_) (fun hf => ?_)
            · have hs : sideP s k = false := by simpa using ht
              refine AT.seq fun K12 hK12 => ?_
              refine AT.regionK [] fun K13 hK13 => ?_
              simp [and_assoc, rdS, Value.cells, beqI, bneI, asfill, afill, splice, List.replicate, AV.isPtr, AV.plus, ifS_some, avG, avI, avB, avM, avA, avT, abMap, abRow, dops, dput, gev, oev, Res.run, Res.runQ, rcall, rapp, rbin, run1, ridx, rslice, dqs, dputQ, qok, dls, dputL, dthen, vmax, vstep, ofInt?, gt, ev, constAV, argTm, glook, dlt, aload, astore, ptCells, eI, eB, AH.set_same, AH.set_none, AH.set_set, nilS, hb2]
              refine hK13 _ _ ?_; clear hK13 K13
              refine hK12 _ _ ?_
              refine AT.exit ?_
              try simp only [thenQ, blockQ, scopeQ]
              rw [if_neg (by decide)]
              refine ⟨by rw [AH.set_other _ (Ne.symm hne), AH.set_same, hL], rfl, ?_, validP_no hk hs, by rw [AH.del_ne _ hne, AH.set_same]; rfl⟩
              rw [AH.set_del' hne]
              exact AH.le_set _ hid (hle2 _)
            · have hs : sideP s k = true := by simpa using hf
              refine AT.skip ?_
              exact ⟨by rw [AH.set_same, hL], hle2 _, by simp [sidesP, hsk, hs], by rw [AH.del_ne _ hne]; exact hb2 _⟩
        · rintro τ ⟨hle, hsk, hτ⟩
          exact ⟨by simp [has, gt], hle, by rw [hτ, validP]; simp [sidesP] at hsk; simp [hsk]⟩
          skip
        · rintro c τ ⟨rfl, hle, hv, hτ⟩
          refine AT.exit ?_
          simp only [blockQ, if_true]
          exact ⟨by simp [has, gt], hle, by rw [hτ, hv]⟩
      · rintro α' σ' ⟨hα, hle, hbox⟩
        refine AT.has _ hα ?_
        refine AT.seq fun K14 hK14 => ?_
        refine AT.regionK [] fun K15 hK15 => ?_
        simp [and_assoc, rdS, Value.cells, beqI, bneI, asfill, afill, splice, List.replicate, AV.isPtr, AV.plus, ifS_some, avG, avI, avB, avM, avA, avT, abMap, abRow, dops, dput, gev, oev, Res.run, Res.runQ, rcall, rapp, rbin, run1, ridx, rslice, dqs, dputQ, qok, dls, dputL, dthen, vmax, vstep, ofInt?, gt, ev, constAV, argTm, glook, dlt, aload, astore, ptCells, eI, eB, AH.set_same, AH.set_none, AH.set_set, nilS, hbox]
        refine hK15 _ _ ?_; clear hK15 K15
        refine hK14 _ _ ?_
        refine AT.ret ?_
        try simp only [thenQ, blockQ, scopeQ]
        exact ret_keep rfl hle ⟨by simp [aret, gt, eB], rfl⟩

end Go.Proofs.Ytdimikmgkdcglaa
