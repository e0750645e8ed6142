/- Walks: the links of a page. No conditions. Printed by gen_walk.py. -/
import Derived.Test.YtdimikmgkdcglaaD3
set_option linter.unusedVariables false
set_option linter.unusedSimpArgs false
namespace Go.Proofs.Ytdimikmgkdcglaa
open Go.RowKit

/-- All links, in order: whose kid, which. -/
def prsFrom : Nat → List Nd → List (Nat × Int)
  | _, [] => []
  | i, n :: r => n.kids.l.map (fun k => (i, k)) ++ prsFrom (i + 1) r
def prs (l : List Nd) : List (Nat × Int) := prsFrom 0 l
/-- How many links are ahead of node i's. -/
def pos : List Nd → Nat → Nat
  | _, 0 => 0
  | [], _ + 1 => 0
  | n :: r, i + 1 => n.kids.l.length + pos r i
theorem pos_succ : ∀ {l : List Nd} {i : Nat} {n : Nd}, l[i]? = some n → pos l (i + 1) = pos l i + n.kids.l.length
  | [], i, n, h => by simp at h
  | m :: r, 0, n, h => by simp at h; subst h; simp [pos]
  | m :: r, i + 1, n, h => by
    have := pos_succ (l := r) (i := i) (n := n) (by simpa using h)
    show m.kids.l.length + pos r (i + 1) = m.kids.l.length + pos r i + n.kids.l.length
    omega
theorem prsFrom_len : ∀ (l : List Nd) (b : Nat), (prsFrom b l).length = pos l l.length
  | [], b => rfl
  | n :: r, b => by simp [prsFrom, pos, prsFrom_len r (b + 1)]
theorem prsFrom_at : ∀ {l : List Nd} {i : Nat} {n : Nd} (b : Nat), l[i]? = some n → ∀ {k : Nat} {x : Int}, n.kids.l[k]? = some x → (prsFrom b l)[pos l i + k]? = some (b + i, x)
  | [], i, n, b, h, k, x, hk => by simp at h
  | m :: r, 0, n, b, h, k, x, hk => by
    simp at h
    subst h
    have hlt := (List.getElem?_eq_some_iff.1 hk).1
    simp [prsFrom, pos, List.getElem?_append, hlt, (List.getElem?_eq_some_iff.1 hk).2]
  | m :: r, i + 1, n, b, h, k, x, hk => by
    have h1 := prsFrom_at (l := r) (i := i) (n := n) (b + 1) (by simpa using h) hk
    have h2 : m.kids.l.length + pos r i + k - m.kids.l.length = pos r i + k := by omega
    simp only [prsFrom, pos]
    rw [List.getElem?_append_right (by simp; omega), List.length_map, h2, h1]
    congr 2
    omega

theorem links_ac (σ : AH) (x : AV) (hx : x.one = true) (hx2 : x.cells = [x]) : AC Try.prog 80 [x] σ fun r σ' => r = .fn 124 [.pr [x] 0] ∧ σ' = σ := by
  refine AC.of_body Try.func80 (by kernel_rfl) rfl (by rw [Try.ntmps80]; simp) ?_
  rw [Try.ntmps80]
  refine AT.seq fun K1 hK1 => ?_
  refine AT.regionK [] fun K2 hK2 => ?_
  simp [and_assoc, rdS, Value.cells, beqI, bneI, asfill, afill, splice, List.replicate, AV.isPtr, AV.plus, ifS_some, avG, avI, avB, avM, avA, avT, abMap, abRow, dops, dput, gev, oev, Res.run, Res.runQ, rcall, rapp, rbin, run1, ridx, rslice, dqs, dputQ, qok, dls, dputL, dthen, vmax, vstep, ofInt?, gt, ev, constAV, argTm, glook, dlt, aload, astore, ptCells, eI, eB, AH.set_same, AH.set_none, AH.set_set, nilS, hx, hx2]
  refine hK2 _ _ ?_; clear hK2 K2
  refine hK1 _ _ ?_
  refine AT.seq fun K3 hK3 => ?_
  refine AT.regionK [] fun K4 hK4 => ?_
  simp [and_assoc, rdS, Value.cells, beqI, bneI, asfill, afill, splice, List.replicate, AV.isPtr, AV.plus, ifS_some, avG, avI, avB, avM, avA, avT, abMap, abRow, dops, dput, gev, oev, Res.run, Res.runQ, rcall, rapp, rbin, run1, ridx, rslice, dqs, dputQ, qok, dls, dputL, dthen, vmax, vstep, ofInt?, gt, ev, constAV, argTm, glook, dlt, aload, astore, ptCells, eI, eB, AH.set_same, AH.set_none, AH.set_set, nilS, hx, hx2]
  refine hK4 _ _ ?_; clear hK4 K4
  refine hK3 _ _ ?_
  refine AT.ret ?_
  try simp only [thenQ, blockQ, scopeQ]
  exact ret_keep rfl (AH.le_refl _) ⟨rfl, rfl⟩

set_option maxHeartbeats 4000000 in
theorem links1_ac (σ : AH) (x : AV) (l : List Nd) (hx : IsS x (eN l)) (hlen : l.length < 9223372036854775807) (hkl : ∀ n ∈ l, n.kids.l.length < 9223372036854775807) (id : Nat) (I : Nat → AH → Prop) (D : AH → Prop) (h0 : I 0 σ) (hY : ∀ (m i : Nat) (k : Int) σ, (prs l)[m]? = some (i, k) → I m σ → YC Try.prog id [eI i, eI k] σ fun r σ' => (r = eB true ∧ I (m + 1) σ') ∨ (r = eB false ∧ D σ')) : AC Try.prog 124 [.yl id, .pr [x] 0] σ fun r σ' => I (prs l).length σ' ∨ D σ' := by
  refine AC.of_body Try.func124 (by kernel_rfl) rfl (by rw [Try.ntmps124]; simp) ?_
  rw [Try.ntmps124]
  have hxl := hx.len
  rw [eN_len] at hxl
  refine AT.seq fun K1 hK1 => ?_
  refine AT.regionK [] fun K2 hK2 => ?_
  simp [and_assoc, rdS, Value.cells, beqI, bneI, asfill, afill, splice, List.replicate, AV.isPtr, AV.plus, ifS_some, avG, avI, avB, avM, avA, avT, abMap, abRow, dops, dput, gev, oev, Res.run, Res.runQ, rcall, rapp, rbin, run1, ridx, rslice, dqs, dputQ, qok, dls, dputL, dthen, vmax, vstep, ofInt?, gt, ev, constAV, argTm, glook, dlt, aload, astore, ptCells, eI, eB, AH.set_same, AH.set_none, AH.set_set, nilS, hxl]
  refine hK2 _ _ ?_; clear hK2 K2
  refine hK1 _ _ ?_
  refine AT.block ?_
  refine AT.while (fun i : Nat => [(9, eI i), (8, eI l.length), (7, x), (0, .yl id), (1, .pr [x] 0)]) (fun i σ' => i ≤ l.length ∧ I (pos l i) σ') (fun i => l.length - i) 0 (by simp [has, gt, eI]) ⟨by omega, by cases l <;> exact h0⟩ ?_
  rintro i σ1 ⟨hi, hI⟩
  refine AT.seq fun K3 hK3 => ?_
  refine AT.regionK [] fun K4 hK4 => ?_
  simp [and_assoc, rdS, Value.cells, beqI, bneI, asfill, afill, splice, List.replicate, AV.isPtr, AV.plus, ifS_some, avG, avI, avB, avM, avA, avT, abMap, abRow, dops, dput, gev, oev, Res.run, Res.runQ, rcall, rapp, rbin, run1, ridx, rslice, dqs, dputQ, qok, dls, dputL, dthen, vmax, vstep, ofInt?, gt, ev, constAV, argTm, glook, dlt, aload, astore, ptCells, eI, eB, AH.set_same, AH.set_none, AH.set_set, nilS, hxl]
  refine hK4 _ _ ?_; clear hK4 K4
  refine hK3 _ _ ?_
  refine AT.seq fun K5 hK5 => ?_
  refine AT.cond rfl (fun ht => ?_) (fun hf => ?_)
  · simp at ht
    have hget : l[i]? = some l[i] := by simp
    have hro := hx.at (eN_get hget)
    subst hro
    have hw : IntKind.i64.wrap ((i : Int) + 1) = (i : Int) + 1 := wI (by omega) (by omega)
    refine AT.skip ?_
    refine hK5 _ _ ?_
    refine AT.seq fun K6 hK6 => ?_
    refine AT.block ?_
    refine AT.seq fun K7 hK7 => ?_
    refine AT.regionK [] fun K8 hK8 => ?_
    simp [and_assoc, rdS, Value.cells, beqI, bneI, asfill, afill, splice, List.replicate, AV.isPtr, AV.plus, ifS_some, avG, avI, avB, avM, avA, avT, abMap, abRow, dops, dput, gev, oev, Res.run, Res.runQ, rcall, rapp, rbin, run1, ridx, rslice, dqs, dputQ, qok, dls, dputL, dthen, vmax, vstep, ofInt?, gt, ev, constAV, argTm, glook, dlt, aload, astore, ptCells, eI, eB, AH.set_same, AH.set_none, AH.set_set, nilS, hxl, eN_get hget, ht]
    intro y hy
    refine hK8 _ _ ?_; clear hK8 K8
    refine hK7 _ _ ?_
    refine AT.seq fun K9 hK9 => ?_
    refine AT.regionK [] fun K10 hK10 => ?_
    simp [and_assoc, rdS, Value.cells, beqI, bneI, asfill, afill, splice, List.replicate, AV.isPtr, AV.plus, ifS_some, avG, avI, avB, avM, avA, avT, abMap, abRow, dops, dput, gev, oev, Res.run, Res.runQ, rcall, rapp, rbin, run1, ridx, rslice, dqs, dputQ, qok, dls, dputL, dthen, vmax, vstep, ofInt?, gt, ev, constAV, argTm, glook, dlt, aload, astore, ptCells, eI, eB, AH.set_same, AH.set_none, AH.set_set, nilS, hxl]
    refine hK10 _ _ ?_; clear hK10 K10
    refine hK9 _ _ ?_
    refine AT.block ?_
    refine AT.drop (σ₁ := σ1) (AH.le_set _ hy (AH.le_refl _)) ?_
    have hkk := hkl _ (List.getElem_mem ht)
    generalize hn : l[i] = n at *
    refine AT.while (fun k : Nat => [(17, eI k), (16, eI n.kids.l.length), (15, n.kids.av), (3, eI i), (9, eI i), (8, eI l.length), (7, .ro (eN l)), (0, .yl id), (1, .pr [.ro (eN l)] 0)]) (fun k σ' => k ≤ n.kids.l.length ∧ I (pos l i + k) σ') (fun k => n.kids.l.length - k) 0 (by simp [has, gt, eI]) ⟨by omega, hI⟩ ?_
    rintro k σ2 ⟨hk, hI2⟩
    refine AT.seq fun K11 hK11 => ?_
    refine AT.regionK [] fun K12 hK12 => ?_
    simp [and_assoc, rdS, Value.cells, beqI, bneI, asfill, afill, splice, List.replicate, AV.isPtr, AV.plus, ifS_some, avG, avI, avB, avM, avA, avT, abMap, abRow, dops, dput, gev, oev, Res.run, Res.runQ, rcall, rapp, rbin, run1, ridx, rslice, dqs, dputQ, qok, dls, dputL, dthen, vmax, vstep, ofInt?, gt, ev, constAV, argTm, glook, dlt, aload, astore, ptCells, eI, eB, AH.set_same, AH.set_none, AH.set_set, nilS, hxl]
    refine hK12 _ _ ?_; clear hK12 K12
    refine hK11 _ _ ?_
    refine AT.seq fun K13 hK13 => ?_
    refine AT.cond rfl (fun ht => ?_) (fun hf => ?_)
    · simp at ht
      have hgk : n.kids.l[k]? = some n.kids.l[k] := by simp
      have hro2 := n.kids.isS.at (eIs_get hgk)
      have hw2 : IntKind.i64.wrap ((k : Int) + 1) = (k : Int) + 1 := wI (by omega) (by omega)
      refine AT.skip ?_
      refine hK13 _ _ ?_
      refine AT.seq fun K14 hK14 => ?_
      refine AT.block ?_
      refine AT.seq fun K15 hK15 => ?_
      refine AT.regionK [] fun K16 hK16 => ?_
      simp [and_assoc, rdS, Value.cells, beqI, bneI, asfill, afill, splice, List.replicate, AV.isPtr, AV.plus, ifS_some, avG, avI, avB, avM, avA, avT, abMap, abRow, dops, dput, gev, oev, Res.run, Res.runQ, rcall, rapp, rbin, run1, ridx, rslice, dqs, dputQ, qok, dls, dputL, dthen, vmax, vstep, ofInt?, gt, ev, constAV, argTm, glook, dlt, aload, astore, ptCells, eI, eB, AH.set_same, AH.set_none, AH.set_set, nilS, hxl, hro2, eIs_get hgk, ht]
      refine hK16 _ _ ?_; clear hK16 K16
      refine hK15 _ _ ?_
      refine AT.seq fun K17 hK17 => ?_
      refine AT.regionK [] fun K18 hK18 => ?_
      simp [and_assoc, rdS, Value.cells, beqI, bneI, asfill, afill, splice, List.replicate, AV.isPtr, AV.plus, ifS_some, avG, avI, avB, avM, avA, avT, abMap, abRow, dops, dput, gev, oev, Res.run, Res.runQ, rcall, rapp, rbin, run1, ridx, rslice, dqs, dputQ, qok, dls, dputL, dthen, vmax, vstep, ofInt?, gt, ev, constAV, argTm, glook, dlt, aload, astore, ptCells, eI, eB, AH.set_same, AH.set_none, AH.set_set, nilS, hxl]
      refine (hY _ i n.kids.l[k] σ2 (by have := prsFrom_at 0 hget hgk; simpa [prs] using this) hI2).mono ?_
      rintro _ σ3 (⟨rfl, hI3⟩ | ⟨rfl, hD⟩)
      · skip
        simp [eB]
        refine hK18 _ _ ?_; clear hK18 K18
        refine hK17 _ _ ?_
        refine AT.cond (t := false) rfl (fun h => by cases h) (fun _ => ?_)
        refine AT.skip ?_
        refine hK14 _ _ ?_
        refine AT.regionK [] fun K19 hK19 => ?_
        simp [and_assoc, rdS, Value.cells, beqI, bneI, asfill, afill, splice, List.replicate, AV.isPtr, AV.plus, ifS_some, avG, avI, avB, avM, avA, avT, abMap, abRow, dops, dput, gev, oev, Res.run, Res.runQ, rcall, rapp, rbin, run1, ridx, rslice, dqs, dputQ, qok, dls, dputL, dthen, vmax, vstep, ofInt?, gt, ev, constAV, argTm, glook, dlt, aload, astore, ptCells, eI, eB, AH.set_same, AH.set_none, AH.set_set, nilS, hxl]
        refine hK19 _ _ ?_; clear hK19 K19
        exact ⟨k + 1, by omega, by simp [has, gt, eI, eB, hw2, hro2], by omega, hI3⟩
      · skip
        simp [eB]
        refine hK18 _ _ ?_; clear hK18 K18
        refine hK17 _ _ ?_
        refine AT.cond (t := true) rfl (fun _ => ?_) (fun h => by cases h)
        refine AT.ret ?_
        try simp only [thenQ, blockQ, scopeQ]
        exact ret_keep rfl (AH.le_refl _) (.inr hD)
    · simp at hf
      have hend2 : k = n.kids.l.length := by omega
      subst hend2
      refine AT.exit ?_
      try simp only [thenQ, blockQ, scopeQ, if_true]
      refine hK6 _ _ ?_
      refine AT.regionK [] fun K20 hK20 => ?_
      simp [and_assoc, rdS, Value.cells, beqI, bneI, asfill, afill, splice, List.replicate, AV.isPtr, AV.plus, ifS_some, avG, avI, avB, avM, avA, avT, abMap, abRow, dops, dput, gev, oev, Res.run, Res.runQ, rcall, rapp, rbin, run1, ridx, rslice, dqs, dputQ, qok, dls, dputL, dthen, vmax, vstep, ofInt?, gt, ev, constAV, argTm, glook, dlt, aload, astore, ptCells, eI, eB, AH.set_same, AH.set_none, AH.set_set, nilS, hxl]
      refine hK20 _ _ ?_; clear hK20 K20
      exact ⟨i + 1, by omega, by simp [has, gt, eI, eB, hw], by omega, by rw [pos_succ hget]; exact hI2⟩
  · simp at hf
    have hend : i = l.length := by omega
    subst hend
    refine AT.exit ?_
    try simp only [thenQ, blockQ, scopeQ, if_true]
    exact end_keep rfl (AH.le_refl _) (.inl (by rw [prs, prsFrom_len]; exact hI))

end Go.Proofs.Ytdimikmgkdcglaa
