/- Walks: the law of orders. No conditions. Printed by gen2.py. -/
import Derived.Test.YtdimikmgkdcglaaD11
import Derived.Test.YtdimikmgkdcglaaD9x
import Derived.Test.YtdimikmgkdcglaaE4
set_option linter.unusedVariables false
set_option linter.unusedSimpArgs false
namespace Go.Proofs.Ytdimikmgkdcglaa
open Go.RowKit

@[simp] theorem slen_ro (es : List (List AV)) : slen (.ro es) = some es.length := rfl
@[simp] theorem slen_sl (i n : Nat) : slen (.sl i n) = some n := rfl
@[simp] theorem slen_nil : slen (.sc (.slice none 0 0)) = some 0 := rfl


set_option maxHeartbeats 4000000 in
theorem TreeOrdersN_ac (σ : AH) (x : AV) (l : List Nd) (hx : IsR x (eN l)) (hl : l.length < 9223372036854775808) (p : Int × Int) (hce : checkE (cutP l) = some p) : AC Try.prog 5 [x] σ fun r σ' => r = eB true := by
  refine AC.of_body Try.func5 (by kernel_rfl) rfl (by rw [Try.ntmps5]; simp) ?_
  rw [Try.ntmps5]
  have hC := cutPg l
  have hcut := Cut_ac σ x l hx hl
  generalize cutP l = L at *
  have hLl := hC.len
  have hpc := checkE_code hce
  refine AT.seq fun K1 hK1 => ?_
  refine AT.regionK [] fun K2 hK2 => ?_
  simp (disch := omega)
  refine hK2 _ _ ?_; try clear hK2 K2
  refine hK1 _ _ ?_; try clear hK1 K1
  refine AT.seq fun K3 hK3 => ?_
  refine AT.region [] ?_
  refine vops_cut 1 fun Kc5 hKc5 => ?_
  simp (disch := omega)
  refine AC.q (shown04_ac σ) ?_
  try simp (disch := omega)
  refine hKc5 _ _ ?_; try clear hKc5 Kc5
  refine vops_end fun K4 hK4 => ?_
  simp (disch := omega)
  refine hK4 _ _ ?_; try clear hK4 K4
  refine hK3 _ _ ?_; try clear hK3 K3
  refine AT.seq fun K6 hK6 => ?_
  refine AT.region [] ?_
  refine vops_cut 2 fun Kc8 hKc8 => ?_
  simp (disch := omega)
  refine AC.q hcut ?_
  try simp (disch := omega)
  refine hKc8 _ _ ?_; try clear hKc8 Kc8
  refine vops_end fun K7 hK7 => ?_
  simp (disch := omega)
  refine hK7 _ _ ?_; try clear hK7 K7
  refine hK6 _ _ ?_; try clear hK6 K6
  refine AT.seq fun K9 hK9 => ?_
  refine AT.region [] ?_
  refine vops_cut 2 fun Kc11 hKc11 => ?_
  simp (disch := omega)
  have h4 := hC.order σ
  rw [hce] at h4
  refine AC.q h4 ?_
  try simp (disch := omega)
  refine hKc11 _ _ ?_; try clear hKc11 Kc11
  refine vops_end fun K10 hK10 => ?_
  simp (disch := omega)
  refine hK10 _ _ ?_; try clear hK10 K10
  refine hK9 _ _ ?_; try clear hK9 K9
  refine AT.seq fun K12 hK12 => ?_
  refine AT.region [] ?_
  refine vops_cut 2 fun Kc14 hKc14 => ?_
  simp (disch := omega)
  have h4 := hC.depths σ
  rw [hce] at h4
  refine AC.q h4 ?_
  try simp (disch := omega)
  refine hKc14 _ _ ?_; try clear hKc14 Kc14
  refine vops_end fun K13 hK13 => ?_
  simp (disch := omega)
  refine hK13 _ _ ?_; try clear hK13 K13
  refine hK12 _ _ ?_; try clear hK12 K12
  refine AT.seq fun K15 hK15 => ?_
  refine AT.region [] ?_
  refine vops_cut 2 fun Kc17 hKc17 => ?_
  simp (disch := omega)
  have h4 := hC.parents σ
  rw [hce] at h4
  refine AC.q h4 ?_
  try simp (disch := omega)
  refine hKc17 _ _ ?_; try clear hKc17 Kc17
  refine vops_end fun K16 hK16 => ?_
  simp (disch := omega)
  refine hK16 _ _ ?_; try clear hK16 K16
  refine hK15 _ _ ?_; try clear hK15 K15
  refine AT.seq fun K18 hK18 => ?_
  refine AT.seq fun K19 hK19 => ?_
  refine AT.regionK [] fun K20 hK20 => ?_
  simp (disch := omega) [hpc]
  refine hK20 _ _ ?_; try clear hK20 K20
  refine hK19 _ _ ?_; try clear hK19 K19
  refine AT.cond (t := true) rfl (fun _ => ?_) (fun h => by cases h)
  refine AT.seq fun K21 hK21 => ?_
  refine AT.regionK [] fun K22 hK22 => ?_
  simp +contextual (disch := omega)
  refine hK22 _ _ ?_; try clear hK22 K22
  refine hK21 _ _ ?_; try clear hK21 K21
  refine AT.ret ?_
  try simp only [thenQ, blockQ, scopeQ]
  exact ret_keep (σ := σ) rfl (AH.le_refl _) (by simp [aret])

set_option maxHeartbeats 4000000 in
theorem TreeOrdersY_ac (σ : AH) (x : AV) (l : List Nd) (hx : IsR x (eN l)) (hl : l.length < 9223372036854775808) (hce : checkE (cutP l) = none) : AC Try.prog 5 [x] σ fun r σ' => r = eB true := by
  refine AC.of_body Try.func5 (by kernel_rfl) rfl (by rw [Try.ntmps5]; simp) ?_
  rw [Try.ntmps5]
  have hC := cutPg l
  have hcut := Cut_ac σ x l hx hl
  generalize cutP l = L at *
  have hLl := hC.len
  have hR := right_of hce
  have hpos := hR.pos
  have hO := hR.len
  have hdl := depthsP_len L
  have hpl := parsP_len L (prs L).length
  have hsd : slv (eIs (depthsP L)) = .ro (eIs (depthsP L)) := slv_ne fun h => by rw [eIs_eq_nil] at h; rw [h] at hdl; simp at hdl; omega
  refine AT.seq fun K1 hK1 => ?_
  refine AT.regionK [] fun K2 hK2 => ?_
  simp (disch := omega)
  refine hK2 _ _ ?_; try clear hK2 K2
  refine hK1 _ _ ?_; try clear hK1 K1
  refine AT.seq fun K3 hK3 => ?_
  refine AT.region [] ?_
  refine vops_cut 1 fun Kc5 hKc5 => ?_
  simp (disch := omega)
  refine AC.q (shown04_ac σ) ?_
  try simp (disch := omega)
  refine hKc5 _ _ ?_; try clear hKc5 Kc5
  refine vops_end fun K4 hK4 => ?_
  simp (disch := omega)
  refine hK4 _ _ ?_; try clear hK4 K4
  refine hK3 _ _ ?_; try clear hK3 K3
  refine AT.seq fun K6 hK6 => ?_
  refine AT.region [] ?_
  refine vops_cut 2 fun Kc8 hKc8 => ?_
  simp (disch := omega)
  refine AC.q hcut ?_
  try simp (disch := omega)
  refine hKc8 _ _ ?_; try clear hKc8 Kc8
  refine vops_end fun K7 hK7 => ?_
  simp (disch := omega)
  refine hK7 _ _ ?_; try clear hK7 K7
  refine hK6 _ _ ?_; try clear hK6 K6
  refine AT.seq fun K9 hK9 => ?_
  refine AT.region [] ?_
  refine vops_cut 2 fun Kc11 hKc11 => ?_
  simp (disch := omega)
  have h4 := hC.order σ
  rw [hce] at h4
  refine AC.q h4 ?_
  try simp (disch := omega)
  refine hKc11 _ _ ?_; try clear hKc11 Kc11
  refine vops_end fun K10 hK10 => ?_
  simp (disch := omega)
  refine hK10 _ _ ?_; try clear hK10 K10
  refine hK9 _ _ ?_; try clear hK9 K9
  refine AT.seq fun K12 hK12 => ?_
  refine AT.region [] ?_
  refine vops_cut 2 fun Kc14 hKc14 => ?_
  simp (disch := omega) [hsd]
  have h4 := hC.depths σ
  rw [hce] at h4
  refine AC.q h4 ?_
  try simp (disch := omega)
  refine hKc14 _ _ ?_; try clear hKc14 Kc14
  refine vops_end fun K13 hK13 => ?_
  simp (disch := omega) [hsd]
  refine hK13 _ _ ?_; try clear hK13 K13
  refine hK12 _ _ ?_; try clear hK12 K12
  refine AT.seq fun K15 hK15 => ?_
  refine AT.region [] ?_
  refine vops_cut 2 fun Kc17 hKc17 => ?_
  simp (disch := omega)
  have h4 := hC.parents σ
  rw [hce] at h4
  refine AC.q h4 ?_
  try simp (disch := omega)
  refine hKc17 _ _ ?_; try clear hKc17 Kc17
  refine vops_end fun K16 hK16 => ?_
  simp (disch := omega)
  refine hK16 _ _ ?_; try clear hK16 K16
  refine hK15 _ _ ?_; try clear hK15 K15
  refine AT.seq fun K18 hK18 => ?_
  refine AT.seq fun K19 hK19 => ?_
  refine AT.regionK [] fun K20 hK20 => ?_
  simp (disch := omega)
  refine hK20 _ _ ?_; try clear hK20 K20
  refine hK19 _ _ ?_; try clear hK19 K19
  refine AT.cond (t := false) rfl (fun h => by cases h) (fun _ => ?_)
  refine AT.skip ?_
  refine hK18 _ _ ?_; try clear hK18 K18
  refine AT.seq fun K21 hK21 => ?_
  refine AT.seq fun K22 hK22 => ?_
  refine AT.regionK [] fun K23 hK23 => ?_
  simp +contextual (disch := omega) [hO, hdl, hpl]
  refine hK23 _ _ ?_; try clear hK23 K23
  refine hK22 _ _ ?_; try clear hK22 K22
  refine AT.cond (t := false) rfl (fun h => by cases h) (fun _ => ?_)
  refine AT.skip ?_
  refine hK21 _ _ ?_; try clear hK21 K21
  refine AT.seq fun K24 hK24 => ?_
  refine AT.keep [0, 3, 4, 6, 8] ?_
  simp only [keep, List.map_cons, List.map_nil, gt_sel, gt_nil, gsel, Nat.reduceBEq]
  refine AT.regionK [] fun K25 hK25 => ?_
  simp (disch := omega)
  refine ⟨by omega, by omega, ?_⟩
  intro o ho
  refine hK25 _ _ ?_; try clear hK25 K25
  refine hK24 _ _ ?_; try clear hK24 K24
  refine AT.seq fun K26 hK26 => ?_
  refine AT.seq fun K27 hK27 => ?_
  refine AT.regionK [] fun K28 hK28 => ?_
  simp (disch := omega)
  refine hK28 _ _ ?_; try clear hK28 K28
  refine hK27 _ _ ?_; try clear hK27 K27
  refine AT.block ?_
  refine AT.whileK [0, 3, 4, 6, 8, 10] (fun (i : Nat) => [(11, eI i)]) (fun (i : Nat) σ' => i ≤ L.length ∧ ∃ st, st ≤ L.length ∧ σ' = σ.set o (.row (eIs (atP (walkP L).1 L.length i)) 1 3 st)) (fun (i : Nat) => L.length - i) (0) (by simp (disch := omega) [has, keep, AH.del_ne, AH.del_same]) ⟨by omega, 0, by omega, by rw [atP_zero]⟩ ?_
  rintro i τ ⟨hi, st, hst, rfl⟩
  simp only [keep, List.map_cons, List.map_nil, List.cons_append, List.nil_append, gt_sel, gt_nil, gsel, Nat.reduceBEq]
  refine AT.seq fun K29 hK29 => ?_
  refine AT.seq fun K30 hK30 => ?_
  refine AT.regionK [] fun K31 hK31 => ?_
  simp (disch := omega) [hO]
  refine hK31 _ _ ?_; try clear hK31 K31
  refine hK30 _ _ ?_; try clear hK30 K30
  refine AT.cond rfl (fun ht => ?_) (fun hf => ?_)
  · simp at ht
    obtain ⟨k, hk, hOi, hat⟩ := hR.fresh ht
    obtain ⟨l1, hOi2⟩ := List.getElem?_eq_some_iff.1 hOi
    obtain ⟨l2, hat2⟩ := List.getElem?_eq_some_iff.1 hat
    have halen := atP_len (walkP L).1 L.length i
    have hk2 : ¬ (L.length : Int) ≤ k := by omega
    have hk3 : k < (atP (walkP L).1 L.length i).length := by omega
    have hk0 : ((k : Int) < 0) = False := by simp
    refine AT.skip ?_
    refine hK29 _ _ ?_; try clear hK29 K29
    refine AT.seq fun K32 hK32 => ?_
    refine AT.block ?_
    refine AT.seq fun K33 hK33 => ?_
    refine AT.seq fun K34 hK34 => ?_
    refine AT.regionK [] fun K35 hK35 => ?_
    simp +contextual (disch := omega) [hO, hOi2, hat2, hk, hk2, hk0, halen, hst]
    refine hK35 _ _ ?_; try clear hK35 K35
    refine hK34 _ _ ?_; try clear hK34 K34
    refine AT.cond (t := false) rfl (fun h => by cases h) (fun _ => ?_)
    refine AT.skip ?_
    refine hK33 _ _ ?_; try clear hK33 K33
    refine AT.keep [0, 3, 4, 6, 8, 10, 11] ?_
    simp only [keep, List.map_cons, List.map_nil, gt_sel, gt_nil, gsel, Nat.reduceBEq]
    refine AT.regionK [] fun K36 hK36 => ?_
    simp (disch := omega) [hO, hOi2, hk, halen, hst]
    refine hK36 _ _ ?_; try clear hK36 K36
    refine hK32 _ _ ?_; try clear hK32 K32
    refine AT.regionK [] fun K37 hK37 => ?_
    simp (disch := omega)
    refine hK37 _ _ ?_; try clear hK37 K37
    exact ⟨i + 1, by omega, by simp (disch := omega) [has, keep, AH.del_ne, AH.del_same], by omega, L.length, by omega, by rw [atP_succ hOi]⟩
  · simp at hf
    have hend : i = L.length := by omega
    subst hend
    have halen := atP_len (walkP L).1 L.length L.length
    refine AT.exit ?_
    try simp only [thenQ, blockQ, scopeQ, if_true]
    refine hK26 _ _ ?_; try clear hK26 K26
    refine AT.seq fun K38 hK38 => ?_
    refine AT.seq fun K39 hK39 => ?_
    refine AT.regionK [] fun K40 hK40 => ?_
    simp (disch := omega)
    refine hK40 _ _ ?_; try clear hK40 K40
    refine hK39 _ _ ?_; try clear hK39 K39
    refine AT.block ?_
    refine AT.whileK [0, 3, 6, 8, 10] (fun (i : Nat) => [(12, eI i)]) (fun (i : Nat) σ' => 1 ≤ i ∧ i ≤ L.length ∧ σ' = σ.set o (.row (eIs (atP (walkP L).1 L.length L.length)) 1 3 st)) (fun (i : Nat) => L.length - i) (1) (by simp (disch := omega) [has, keep, AH.del_ne, AH.del_same]) ⟨by omega, by omega, rfl⟩ ?_
    rintro i τ ⟨h1i, hi2, rfl⟩
    simp only [keep, List.map_cons, List.map_nil, List.cons_append, List.nil_append, gt_sel, gt_nil, gsel, Nat.reduceBEq]
    refine AT.seq fun K41 hK41 => ?_
    refine AT.seq fun K42 hK42 => ?_
    refine AT.regionK [] fun K43 hK43 => ?_
    simp (disch := omega)
    refine hK43 _ _ ?_; try clear hK43 K43
    refine hK42 _ _ ?_; try clear hK42 K42
    refine AT.cond rfl (fun ht => ?_) (fun hf => ?_)
    · simp at ht
      obtain ⟨q, u, t, hq, hut, e1, e2, e3, e4, e5, hdeep⟩ := hR.orders h1i ht
      obtain ⟨l1, e1⟩ := List.getElem?_eq_some_iff.1 e1
      obtain ⟨l2, e2⟩ := List.getElem?_eq_some_iff.1 e2
      obtain ⟨l3, e3⟩ := List.getElem?_eq_some_iff.1 e3
      obtain ⟨l4, e4⟩ := List.getElem?_eq_some_iff.1 e4
      obtain ⟨l5, e5⟩ := List.getElem?_eq_some_iff.1 e5
      have hq2 : ¬ (L.length : Int) ≤ q := by omega
      have hut2 : ¬ (t : Int) ≤ u := by omega
      have hq0 : ((q : Int) < 0) = False := by simp
      have hut3 : (t ≤ u) = False := by simp; omega
      have hdp : ¬ 64 < (walkP L).2 (q : Int) + 1 := by omega
      have hdw : IntKind.i64.wrap ((walkP L).2 (q : Int) + 1) = (walkP L).2 (q : Int) + 1 := wI (by have := hR.inv.pos q; omega) (by omega)
      refine AT.skip ?_
      refine hK41 _ _ ?_; try clear hK41 K41
      refine AT.seq fun K44 hK44 => ?_
      refine AT.block ?_
      refine AT.seq fun K45 hK45 => ?_
      refine AT.drawnK [] [true, true, true, true, true, true, true, true, true, true, true, true, true, true, true, true, true, true, true, true, true, true, true, true, true, true, true, true, true, true, true, true, true, true, true, true, true, true, true, true, true, true, true, true, true, true, true, true, true, true] mixed rfl (by kernel_rfl) fun K46 hK46 => ?_
      set_option maxRecDepth 100000 in simp +contextual (maxSteps := 4000000) (disch := omega) [e1, e2, e3, e4, e5, hq, hq2, hq0, hut2, hut3, hdp, hdw, halen, hst, ht]
      refine hK46 _ _ ?_; try clear hK46 K46
      refine hK45 _ _ ?_; try clear hK45 K45
      refine AT.cond (t := false) rfl (fun h => by cases h) (fun _ => ?_)
      refine AT.skip ?_
      refine hK44 _ _ ?_; try clear hK44 K44
      refine AT.keep [0, 3, 6, 8, 10, 12] ?_
      simp only [keep, List.map_cons, List.map_nil, gt_sel, gt_nil, gsel, Nat.reduceBEq]
      refine AT.regionK [] fun K47 hK47 => ?_
      simp (disch := omega)
      refine hK47 _ _ ?_; try clear hK47 K47
      exact ⟨i + 1, by omega, by simp (disch := omega) [has, keep, AH.del_ne, AH.del_same], by omega, by omega, rfl⟩
    · simp at hf
      refine AT.exit ?_
      try simp only [thenQ, blockQ, scopeQ, if_true]
      refine hK38 _ _ ?_; try clear hK38 K38
      refine AT.seq fun K48 hK48 => ?_
      obtain ⟨l1, z1⟩ := List.getElem?_eq_some_iff.1 (parsP_root hR _ (Nat.le_refl _))
      obtain ⟨l2, z2⟩ := List.getElem?_eq_some_iff.1 hR.dep0
      obtain ⟨l3, z3⟩ := List.getElem?_eq_some_iff.1 hR.at0
      refine AT.regionK [] fun K49 hK49 => ?_
      set_option maxRecDepth 100000 in simp +contextual (maxSteps := 4000000) (disch := omega) [z1, z2, z3, hst, hpos, halen]
      refine hK49 _ _ ?_; try clear hK49 K49
      refine hK48 _ _ ?_; try clear hK48 K48
      refine AT.ret ?_
      try simp only [thenQ, blockQ, scopeQ]
      exact ret_keep (σ := σ) rfl (by repeat (first | exact AH.le_refl _ | assumption | refine AH.le_set _ (by assumption) ?_ | refine AH.le_del (by assumption) ?_)) (by simp [aret])

theorem TreeOrders_ac (σ : AH) (x : AV) (l : List Nd) (hx : IsR x (eN l)) (hl : l.length < 9223372036854775808) : AC Try.prog 5 [x] σ fun r _ => r = eB true := by
  cases hce : checkE (cutP l) with
  | none => exact TreeOrdersY_ac σ x l hx hl hce
  | some p => exact TreeOrdersN_ac σ x l hx hl p hce


end Go.Proofs.Ytdimikmgkdcglaa
