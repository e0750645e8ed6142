/- Walks: Check, Order; lists of numbers compared. No conditions. Printed by gen_walk.py. -/
import Derived.Test.YtdimikmgkdcglaaD6
set_option linter.unusedVariables false
set_option linter.unusedSimpArgs false
namespace Go.Proofs.Ytdimikmgkdcglaa
open Go.RowKit

def checkP (l : List Nd) : Int × Int := (checkE l).getD (0, 0)
theorem checkE_len {l : List Nd} (h : checkE l = none) : 0 < l.length := by
  unfold checkE at h
  split at h
  · cases h
  · omega
theorem checkE_code {l : List Nd} {p : Int × Int} (h : checkE l = some p) : p.2 ≠ 0 := by
  unfold checkE at h
  split at h
  · injection h with h; subst h; simp
  · split at h
    · injection h with h; subst h; simp
    · split at h
      · injection h with h; subst h; simp
      · split at h
        · injection h with h; subst h; simp
        · split at h
          · injection h with h; subst h; simp
          · cases h
theorem goesP_grow (l : List Nd) : ∀ (f : Nat) (i d : Int) (s : Wk), s.1.length ≤ (goesP l f i d s).1.length
  | 0, i, d, s => Nat.le_refl _
  | f + 1, i, d, s => by
    unfold goesP
    split
    · exact Nat.le_refl _
    · have key : ∀ (ks : List Int) (s' : Wk), s'.1.length ≤ (ks.foldl (fun s k => goesP l f k (d + 1) s) s').1.length := by
        intro ks
        induction ks with
        | nil => intro s'; exact Nat.le_refl _
        | cons k ks ih => intro s'; exact Nat.le_trans (goesP_grow l f k (d + 1) s') (ih _)
      refine Nat.le_trans ?_ (key _ _)
      simp
theorem walkP_ne {l : List Nd} (h : 0 < l.length) : (walkP l).1 ≠ [] := fun h0 => by
  have : 1 ≤ (walkP l).1.length := by
    unfold walkP goesP
    rw [if_neg (by simp)]
    have key : ∀ (ks : List Int) (s' : Wk), s'.1.length ≤ (ks.foldl (fun s k => goesP l l.length k (1 + 1) s) s').1.length := by
      intro ks
      induction ks with
      | nil => intro s'; exact Nat.le_refl _
      | cons k ks ih => intro s'; exact Nat.le_trans (goesP_grow l _ k (1 + 1) s') (ih _)
    exact Nat.le_trans (by simp) (key _ _)
  rw [h0] at this
  simp at this


theorem Check_ac (σ : AH) (x : AV) (l : List Nd) (hx : IsS x (eN l)) (hx1 : x.one = true) (hx2 : x.cells = [x]) (hlen : l.length < 1000000000) (hprs : (prs l).length < 4611686018427387904) : AC Try.prog 29 [x] σ fun r σ' => r = .tu [eI (checkP l).1, eI (checkP l).2] ∧ σ' = σ := by
  refine AC.of_body Try.func29 (by kernel_rfl) rfl (by rw [Try.ntmps29]; simp) ?_
  rw [Try.ntmps29]
  refine AT.seq fun K1 hK1 => ?_
  refine AT.regionK [] fun K2 hK2 => ?_
  simp [and_assoc, rdS, Value.cells, beqI, bneI, asfill, afill, splice, List.replicate, AV.isPtr, AV.plus, ifS_some, avG, avI, avB, avM, avA, avT, abMap, abRow, dops, dput, gev, oev, Res.run, Res.runQ, rcall, rapp, rbin, run1, ridx, rslice, dqs, dputQ, qok, dls, dputL, dthen, vmax, vstep, ofInt?, gt, ev, constAV, argTm, glook, dlt, aload, astore, ptCells, eI, eB, AH.set_same, AH.set_none, AH.set_set, nilS]
  refine hK2 _ _ ?_; clear hK2 K2
  refine hK1 _ _ ?_
  refine AT.seq fun K3 hK3 => ?_
  refine AT.regionK [] fun K4 hK4 => ?_
  simp [and_assoc, rdS, Value.cells, beqI, bneI, asfill, afill, splice, List.replicate, AV.isPtr, AV.plus, ifS_some, avG, avI, avB, avM, avA, avT, abMap, abRow, dops, dput, gev, oev, Res.run, Res.runQ, rcall, rapp, rbin, run1, ridx, rslice, dqs, dputQ, qok, dls, dputL, dthen, vmax, vstep, ofInt?, gt, ev, constAV, argTm, glook, dlt, aload, astore, ptCells, eI, eB, AH.set_same, AH.set_none, AH.set_set, nilS]
  refine (check_ac σ x l hx hx1 hx2 hlen hprs).mono ?_
  intro r σq hr
  rcases hce : checkE l with _ | p <;> rw [hce] at hr
  · skip
    obtain ⟨wid, mid, rfl, hW⟩ := hr
    simp [and_assoc, rdS, Value.cells, beqI, bneI, asfill, afill, splice, List.replicate, AV.isPtr, AV.plus, ifS_some, avG, avI, avB, avM, avA, avT, abMap, abRow, dops, dput, gev, oev, Res.run, Res.runQ, rcall, rapp, rbin, run1, ridx, rslice, dqs, dputQ, qok, dls, dputL, dthen, vmax, vstep, ofInt?, gt, ev, constAV, argTm, glook, dlt, aload, astore, ptCells, eI, eB, AH.set_same, AH.set_none, AH.set_set, nilS]
    refine hK4 _ _ ?_; clear hK4 K4
    refine hK3 _ _ ?_
    refine AT.seq fun K5 hK5 => ?_
    refine AT.regionK [] fun K6 hK6 => ?_
    simp [and_assoc, rdS, Value.cells, beqI, bneI, asfill, afill, splice, List.replicate, AV.isPtr, AV.plus, ifS_some, avG, avI, avB, avM, avA, avT, abMap, abRow, dops, dput, gev, oev, Res.run, Res.runQ, rcall, rapp, rbin, run1, ridx, rslice, dqs, dputQ, qok, dls, dputL, dthen, vmax, vstep, ofInt?, gt, ev, constAV, argTm, glook, dlt, aload, astore, ptCells, eI, eB, AH.set_same, AH.set_none, AH.set_set, nilS]
    refine hK6 _ _ ?_; clear hK6 K6
    refine hK5 _ _ ?_
    refine AT.ret ?_
    try simp only [thenQ, blockQ, scopeQ]
    exact ret_keep rfl hW.le ⟨by simp [checkP, hce, aret, gt, eI], rfl⟩
  · skip
    obtain ⟨rfl, hσ⟩ := hr
    subst σq
    simp [and_assoc, rdS, Value.cells, beqI, bneI, asfill, afill, splice, List.replicate, AV.isPtr, AV.plus, ifS_some, avG, avI, avB, avM, avA, avT, abMap, abRow, dops, dput, gev, oev, Res.run, Res.runQ, rcall, rapp, rbin, run1, ridx, rslice, dqs, dputQ, qok, dls, dputL, dthen, vmax, vstep, ofInt?, gt, ev, constAV, argTm, glook, dlt, aload, astore, ptCells, eI, eB, AH.set_same, AH.set_none, AH.set_set, nilS]
    refine hK4 _ _ ?_; clear hK4 K4
    refine hK3 _ _ ?_
    refine AT.seq fun K7 hK7 => ?_
    refine AT.regionK [] fun K8 hK8 => ?_
    simp [and_assoc, rdS, Value.cells, beqI, bneI, asfill, afill, splice, List.replicate, AV.isPtr, AV.plus, ifS_some, avG, avI, avB, avM, avA, avT, abMap, abRow, dops, dput, gev, oev, Res.run, Res.runQ, rcall, rapp, rbin, run1, ridx, rslice, dqs, dputQ, qok, dls, dputL, dthen, vmax, vstep, ofInt?, gt, ev, constAV, argTm, glook, dlt, aload, astore, ptCells, eI, eB, AH.set_same, AH.set_none, AH.set_set, nilS]
    refine hK8 _ _ ?_; clear hK8 K8
    refine hK7 _ _ ?_
    refine AT.ret ?_
    try simp only [thenQ, blockQ, scopeQ]
    exact ret_keep rfl (AH.le_refl _) ⟨by simp [checkP, hce, aret, gt, eI], rfl⟩

theorem Order_ac (σ : AH) (x : AV) (l : List Nd) (hx : IsS x (eN l)) (hx1 : x.one = true) (hx2 : x.cells = [x]) (hlen : l.length < 1000000000) (hprs : (prs l).length < 4611686018427387904) : AC Try.prog 31 [x] σ fun r σ' => match checkE l with | some p => r = .tu [nilS, eI p.2] ∧ σ' = σ | none => r = .tu [.ro (eIs (walkP l).1), eI 0] ∧ σ' = σ := by
  refine AC.of_body Try.func31 (by kernel_rfl) rfl (by rw [Try.ntmps31]; simp) ?_
  rw [Try.ntmps31]
  refine AT.seq fun K1 hK1 => ?_
  refine AT.regionK [] fun K2 hK2 => ?_
  simp [and_assoc, rdS, Value.cells, beqI, bneI, asfill, afill, splice, List.replicate, AV.isPtr, AV.plus, ifS_some, avG, avI, avB, avM, avA, avT, abMap, abRow, dops, dput, gev, oev, Res.run, Res.runQ, rcall, rapp, rbin, run1, ridx, rslice, dqs, dputQ, qok, dls, dputL, dthen, vmax, vstep, ofInt?, gt, ev, constAV, argTm, glook, dlt, aload, astore, ptCells, eI, eB, AH.set_same, AH.set_none, AH.set_set, nilS]
  refine hK2 _ _ ?_; clear hK2 K2
  refine hK1 _ _ ?_
  refine AT.seq fun K3 hK3 => ?_
  refine AT.regionK [] fun K4 hK4 => ?_
  simp [and_assoc, rdS, Value.cells, beqI, bneI, asfill, afill, splice, List.replicate, AV.isPtr, AV.plus, ifS_some, avG, avI, avB, avM, avA, avT, abMap, abRow, dops, dput, gev, oev, Res.run, Res.runQ, rcall, rapp, rbin, run1, ridx, rslice, dqs, dputQ, qok, dls, dputL, dthen, vmax, vstep, ofInt?, gt, ev, constAV, argTm, glook, dlt, aload, astore, ptCells, eI, eB, AH.set_same, AH.set_none, AH.set_set, nilS]
  refine (check_ac σ x l hx hx1 hx2 hlen hprs).mono ?_
  intro r σq hr
  rcases hce : checkE l with _ | p <;> rw [hce] at hr
  · skip
    obtain ⟨wid, mid, rfl, hW⟩ := hr
    simp [and_assoc, rdS, Value.cells, beqI, bneI, asfill, afill, splice, List.replicate, AV.isPtr, AV.plus, ifS_some, avG, avI, avB, avM, avA, avT, abMap, abRow, dops, dput, gev, oev, Res.run, Res.runQ, rcall, rapp, rbin, run1, ridx, rslice, dqs, dputQ, qok, dls, dputL, dthen, vmax, vstep, ofInt?, gt, ev, constAV, argTm, glook, dlt, aload, astore, ptCells, eI, eB, AH.set_same, AH.set_none, AH.set_set, nilS]
    refine hK4 _ _ ?_; clear hK4 K4
    refine hK3 _ _ ?_
    refine AT.seq fun K5 hK5 => ?_
    refine AT.seq fun K6 hK6 => ?_
    refine AT.regionK [] fun K7 hK7 => ?_
    simp [and_assoc, rdS, Value.cells, beqI, bneI, asfill, afill, splice, List.replicate, AV.isPtr, AV.plus, ifS_some, avG, avI, avB, avM, avA, avT, abMap, abRow, dops, dput, gev, oev, Res.run, Res.runQ, rcall, rapp, rbin, run1, ridx, rslice, dqs, dputQ, qok, dls, dputL, dthen, vmax, vstep, ofInt?, gt, ev, constAV, argTm, glook, dlt, aload, astore, ptCells, eI, eB, AH.set_same, AH.set_none, AH.set_set, nilS]
    refine hK7 _ _ ?_; clear hK7 K7
    refine hK6 _ _ ?_
    refine AT.cond (t := false) rfl (fun h => by cases h) (fun _ => ?_)
    refine AT.skip ?_
    refine hK5 _ _ ?_
    refine AT.seq fun K8 hK8 => ?_
    refine AT.regionK [] fun K9 hK9 => ?_
    obtain ⟨ov, hw, hov⟩ := hW.w
    simp [and_assoc, rdS, Value.cells, beqI, bneI, asfill, afill, splice, List.replicate, AV.isPtr, AV.plus, ifS_some, avG, avI, avB, avM, avA, avT, abMap, abRow, dops, dput, gev, oev, Res.run, Res.runQ, rcall, rapp, rbin, run1, ridx, rslice, dqs, dputQ, qok, dls, dputL, dthen, vmax, vstep, ofInt?, gt, ev, constAV, argTm, glook, dlt, aload, astore, ptCells, eI, eB, AH.set_same, AH.set_none, AH.set_set, nilS, hw]
    refine hK9 _ _ ?_; clear hK9 K9
    refine hK8 _ _ ?_
    refine AT.ret ?_
    try simp only [thenQ, blockQ, scopeQ]
    rcases hov with ⟨rfl, h0⟩ | ⟨oid, st, rfl, ho, -, -, ho0⟩
    · exact absurd h0 (walkP_ne (checkE_len hce))
    · refine ⟨_, _, σ, rfl, PubL.sl ho (by simp [eIs]) (PubL.keep _ (PubL.nil (AH.le_del ho0 hW.le))), ?_⟩
      simp [hce, aret, gt, eI]
  · skip
    obtain ⟨rfl, hσ⟩ := hr
    subst σq
    simp [and_assoc, rdS, Value.cells, beqI, bneI, asfill, afill, splice, List.replicate, AV.isPtr, AV.plus, ifS_some, avG, avI, avB, avM, avA, avT, abMap, abRow, dops, dput, gev, oev, Res.run, Res.runQ, rcall, rapp, rbin, run1, ridx, rslice, dqs, dputQ, qok, dls, dputL, dthen, vmax, vstep, ofInt?, gt, ev, constAV, argTm, glook, dlt, aload, astore, ptCells, eI, eB, AH.set_same, AH.set_none, AH.set_set, nilS]
    refine hK4 _ _ ?_; clear hK4 K4
    refine hK3 _ _ ?_
    refine AT.seq fun K10 hK10 => ?_
    refine AT.seq fun K11 hK11 => ?_
    refine AT.regionK [] fun K12 hK12 => ?_
    simp [and_assoc, rdS, Value.cells, beqI, bneI, asfill, afill, splice, List.replicate, AV.isPtr, AV.plus, ifS_some, avG, avI, avB, avM, avA, avT, abMap, abRow, dops, dput, gev, oev, Res.run, Res.runQ, rcall, rapp, rbin, run1, ridx, rslice, dqs, dputQ, qok, dls, dputL, dthen, vmax, vstep, ofInt?, gt, ev, constAV, argTm, glook, dlt, aload, astore, ptCells, eI, eB, AH.set_same, AH.set_none, AH.set_set, nilS]
    refine hK12 _ _ ?_; clear hK12 K12
    refine hK11 _ _ ?_
    refine AT.cond (t := true) (by have := checkE_code hce; simp [gt, ev, this]) (fun _ => ?_) (fun h => by cases h)
    refine AT.seq fun K13 hK13 => ?_
    refine AT.regionK [] fun K14 hK14 => ?_
    simp [and_assoc, rdS, Value.cells, beqI, bneI, asfill, afill, splice, List.replicate, AV.isPtr, AV.plus, ifS_some, avG, avI, avB, avM, avA, avT, abMap, abRow, dops, dput, gev, oev, Res.run, Res.runQ, rcall, rapp, rbin, run1, ridx, rslice, dqs, dputQ, qok, dls, dputL, dthen, vmax, vstep, ofInt?, gt, ev, constAV, argTm, glook, dlt, aload, astore, ptCells, eI, eB, AH.set_same, AH.set_none, AH.set_set, nilS]
    refine hK14 _ _ ?_; clear hK14 K14
    refine hK13 _ _ ?_
    refine AT.ret ?_
    try simp only [thenQ, blockQ, scopeQ]
    exact ret_keep rfl (AH.le_refl _) (by simp [hce, aret, gt, eI, nilS])

end Go.Proofs.Ytdimikmgkdcglaa
