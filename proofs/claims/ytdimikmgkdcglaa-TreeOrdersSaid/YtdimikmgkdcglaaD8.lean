/- Walks: lists of numbers compared; Depths, Parents; clones. No conditions. Printed by gen2.py. -/
import Derived.Test.YtdimikmgkdcglaaC6
import Derived.Test.YtdimikmgkdcglaaD7
set_option linter.unusedVariables false
set_option linter.unusedSimpArgs false
namespace Go.Proofs.Ytdimikmgkdcglaa
open Go.RowKit

/-- A page of a size that a machine can hold. -/
structure Pg (x : AV) (l : List Nd) : Prop where
  r : IsR x (eN l)
  len : l.length < 1000000000
  pr : (prs l).length < 4611686018427387904
section
variable {x : AV} {l : List Nd}
theorem Pg.S (h : Pg x l) : IsS x (eN l) := h.r.isS
theorem Pg.slen (h : Pg x l) : slen x = some l.length := by rw [h.S.len, eN_len]
theorem Pg.check (h : Pg x l) (σ : AH) : AC Try.prog 29 [x] σ fun r σ' => r = .tu [eI (checkP l).1, eI (checkP l).2] ∧ σ' = σ := Check_ac σ x l h.S h.r.one h.r.cells h.len h.pr
theorem Pg.order (h : Pg x l) (σ : AH) : AC Try.prog 31 [x] σ fun r σ' => match checkE l with | some p => r = .tu [nilS, eI p.2] ∧ σ' = σ | none => r = .tu [.ro (eIs (walkP l).1), eI 0] ∧ σ' = σ := Order_ac σ x l h.S h.r.one h.r.cells h.len h.pr
theorem Pg.ck (h : Pg x l) (σ : AH) : AC Try.prog 79 [x] σ fun r σ' => match checkE l with | some p => r = .tu [.sc (.pointer none), eI p.1, eI p.2] ∧ σ' = σ | none => ∃ wid mid, r = .tu [.pt wid 0, eI 0, eI 0] ∧ WkAt σ σ' wid mid (walkP l) := check_ac σ x l h.S h.r.one h.r.cells h.len h.pr
theorem Pg.links (h : Pg x l) (σ : AH) : AC Try.prog 80 [x] σ fun r σ' => r = .fn 124 [.pr [x] 0] ∧ σ' = σ := links_ac σ x h.r.one h.r.cells
theorem Pg.kl (h : Pg x l) : ∀ n ∈ l, n.kids.l.length < 4611686018427387904 := fun n hn => by have := kids_le hn; have := h.pr; omega
theorem Pg.iter (h : Pg x l) : Iter Try.prog 124 [.pr [x] 0] (prs l).length fun m => [eI ((prs l).getD m (0, 0)).1, eI ((prs l).getD m (0, 0)).2] := links_iter h.S (by have := h.len; omega) fun n hn => by have := h.kl n hn; omega
end
theorem ret_own {P : Program} {fn : Func} {K : AV → AH → Prop} {α : Tm} {σ τ τ0 : AH} {y : AV} {es : List (List AV)} {sz : Nat} {t : TypeId} {rest : List AV} (hv : ares P τ α fn.results.toList = some (y :: rest)) (ho : Own τ0 τ y es sz t) (hle : σ.le τ0) (hK : K (aret (slv es :: rest)) σ) : retQ P fn K .ret α τ := by
  refine ⟨y :: rest, slv es :: rest, σ, hv, PubL.own ho ?_, hK⟩
  clear hv hK
  induction rest with
  | nil => exact PubL.nil hle
  | cons v vs ih => exact PubL.keep v ih
theorem end_own {P : Program} {fn : Func} {K : AV → AH → Prop} {α : Tm} {σ τ τ0 : AH} {y : AV} {es : List (List AV)} {sz : Nat} {t : TypeId} {rest : List AV} (hv : ares P τ α fn.results.toList = some (y :: rest)) (ho : Own τ0 τ y es sz t) (hle : σ.le τ0) (hK : K (aret (slv es :: rest)) σ) : retQ P fn K .normal α τ := ret_own hv ho hle hK
@[simp] theorem rep_eIs (n : Nat) : List.replicate n [AV.sc (.int .i64 0)] = eIs (List.replicate n 0) := by simp [eIs, eI]
@[simp] theorem eIs_set (l : List Int) (i : Nat) (v : Int) : (eIs l).set i [AV.sc (.int .i64 v)] = eIs (l.set i v) := by simp [eIs, eI, List.map_set]


set_option maxHeartbeats 4000000 in
theorem ints_ac (σ : AH) (x y : AV) (a b : List Int) (hx : IsR x (eIs a)) (hy : IsR y (eIs b)) (ha : a.length < 9223372036854775807) : AC Try.prog 37 [x, y] σ fun r σ' => r = eB (decide (a = b)) ∧ σ' = σ := by
  refine AC.of_body Try.func37 (by kernel_rfl) rfl (by rw [Try.ntmps37]; simp) ?_
  rw [Try.ntmps37]
  have hxl := hx.len
  rw [eIs_len] at hxl
  have hyl := hy.len
  rw [eIs_len] at hyl
  refine AT.seq fun K1 hK1 => ?_
  refine AT.regionK [] fun K2 hK2 => ?_
  simp (disch := omega) [hxl, hyl]
  refine hK2 _ _ ?_; try clear hK2 K2
  refine hK1 _ _ ?_; try clear hK1 K1
  refine AT.seq fun K3 hK3 => ?_
  refine AT.seq fun K4 hK4 => ?_
  refine AT.regionK [] fun K5 hK5 => ?_
  simp (disch := omega) [hxl, hyl]
  refine hK5 _ _ ?_; try clear hK5 K5
  refine hK4 _ _ ?_; try clear hK4 K4
  refine AT.cond rfl (fun ht => ?_) (fun hf => ?_)
  · simp at ht
    refine AT.seq fun K6 hK6 => ?_
    refine AT.regionK [] fun K7 hK7 => ?_
    simp (disch := omega) [hxl, hyl]
    refine hK7 _ _ ?_; try clear hK7 K7
    refine hK6 _ _ ?_; try clear hK6 K6
    refine AT.ret ?_
    try simp only [thenQ, blockQ, scopeQ]
    exact ret_keep rfl (AH.le_refl _) ⟨by simp [aret]; rintro rfl; omega, rfl⟩
  · simp at hf
    have hab : a.length = b.length := by omega
    refine AT.skip ?_
    refine hK3 _ _ ?_; try clear hK3 K3
    refine AT.seq fun K8 hK8 => ?_
    refine AT.seq fun K9 hK9 => ?_
    refine AT.regionK [] fun K10 hK10 => ?_
    simp (disch := omega) [hxl, hyl]
    refine hK10 _ _ ?_; try clear hK10 K10
    refine hK9 _ _ ?_; try clear hK9 K9
    refine AT.block ?_
    refine AT.whileK [0, 1] (fun (i : Nat) => [(5, eI i)]) (fun (i : Nat) σ' => i ≤ a.length ∧ (∀ (j : Nat), j < i → a[j]? = b[j]?) ∧ σ = σ') (fun (i : Nat) => a.length - i) (0) (by simp (disch := omega) [has, keep, AH.del_ne, AH.del_same]) ⟨by omega, fun j hj => absurd hj (by omega), rfl⟩ ?_
    rintro i σ1 ⟨hi, hall, rfl⟩
    simp only [keep, List.map_cons, List.map_nil, List.cons_append, List.nil_append, gt_sel, gt_nil, gsel, Nat.reduceBEq]
    refine AT.seq fun K11 hK11 => ?_
    refine AT.seq fun K12 hK12 => ?_
    refine AT.regionK [] fun K13 hK13 => ?_
    simp (disch := omega) [hxl, hyl]
    refine hK13 _ _ ?_; try clear hK13 K13
    refine hK12 _ _ ?_; try clear hK12 K12
    refine AT.cond rfl (fun ht => ?_) (fun hf => ?_)
    · simp at ht
      have ht' : i < a.length := by omega
      have htb : i < b.length := by omega
      have hga : a[i]? = some a[i] := by simp
      have hgb : b[i]? = some b[i] := by simp
      have hro := hx.isS.at (eIs_get hga)
      have hro2 := hy.isS.at (eIs_get hgb)
      subst hro hro2
      refine AT.skip ?_
      refine hK11 _ _ ?_; try clear hK11 K11
      refine AT.seq fun K14 hK14 => ?_
      refine AT.block ?_
      refine AT.seq fun K15 hK15 => ?_
      refine AT.drawnK [] [true, true, true, true, true, true, true, true, true] mixed rfl (by kernel_rfl) fun K16 hK16 => ?_
      simp (disch := omega) [hxl, hyl]
      refine hK16 _ _ ?_; try clear hK16 K16
      refine hK15 _ _ ?_; try clear hK15 K15
      refine AT.cond rfl (fun ht => ?_) (fun hf => ?_)
      · simp at ht
        refine AT.seq fun K17 hK17 => ?_
        refine AT.regionK [] fun K18 hK18 => ?_
        simp (disch := omega) [hxl, hyl]
        refine hK18 _ _ ?_; try clear hK18 K18
        refine hK17 _ _ ?_; try clear hK17 K17
        refine AT.ret ?_
        try simp only [thenQ, blockQ, scopeQ]
        exact ret_keep rfl (AH.le_refl _) ⟨by simp [aret]; rintro rfl; exact ht rfl, rfl⟩
      · simp at hf
        refine AT.skip ?_
        refine hK14 _ _ ?_; try clear hK14 K14
        refine AT.regionK [] fun K19 hK19 => ?_
        simp (disch := omega) [hxl, hyl]
        refine hK19 _ _ ?_; try clear hK19 K19
        exact ⟨i + 1, by omega, by simp (disch := omega) [has, keep, AH.del_ne, AH.del_same], by omega, fun j hj => by
          by_cases hji : j = i
          · subst hji; rw [hga, hgb, hf]
          · exact hall j (by omega), rfl⟩
    · simp at hf
      have hend : i = a.length := by omega
      refine AT.exit ?_
      try simp only [thenQ, blockQ, scopeQ, if_true]
      refine hK8 _ _ ?_; try clear hK8 K8
      refine AT.seq fun K20 hK20 => ?_
      refine AT.regionK [] fun K21 hK21 => ?_
      simp (disch := omega) [hxl, hyl]
      refine hK21 _ _ ?_; try clear hK21 K21
      refine hK20 _ _ ?_; try clear hK20 K20
      refine AT.ret ?_
      try simp only [thenQ, blockQ, scopeQ]
      have hab2 : a = b := List.ext_getElem? fun j => by
        by_cases hj : j < i
        · exact hall j hj
        · rw [List.getElem?_eq_none (by omega), List.getElem?_eq_none (by omega)]
      exact ret_keep rfl (AH.le_refl _) ⟨by simp [aret, hab2], rfl⟩

def depthsP (l : List Nd) : List Int := (List.range l.length).map fun i : Nat => (walkP l).2 i
/-- Whose kids they are, by the first m links. -/
def parsP (l : List Nd) (m : Nat) : List Int := ((prs l).take m).foldl (fun p q => p.set q.2.toNat q.1) ((List.replicate l.length 0).set 0 (-1))
theorem parsP_zero (l : List Nd) : parsP l 0 = (List.replicate l.length 0).set 0 (-1) := by simp [parsP]
theorem parsP_succ {l : List Nd} {m i : Nat} {k : Int} (h : (prs l)[m]? = some (i, k)) : parsP l (m + 1) = (parsP l m).set k.toNat i := by
  obtain ⟨hlt, he⟩ := List.getElem?_eq_some_iff.1 h
  unfold parsP
  rw [List.take_succ_eq_append_getElem hlt, List.foldl_append, he]
  rfl
theorem parsP_len (l : List Nd) : ∀ m, (parsP l m).length = l.length := by
  intro m
  unfold parsP
  have : ∀ (ps : List (Nat × Int)) (p : List Int), (ps.foldl (fun p q => p.set q.2.toNat (q.1 : Int)) p).length = p.length := by
    intro ps
    induction ps with
    | nil => intro p; rfl
    | cons q ps ih => intro p; rw [List.foldl_cons, ih]; simp
  rw [this]; simp
theorem prs_good {l : List Nd} (h : checkE l = none) {m i : Nat} {k : Int} (hp : (prs l)[m]? = some (i, k)) : 1 ≤ k ∧ k < l.length := by
  have hg : (prs l).find? (badLink l) = none := by
    cases hq : (prs l).find? (badLink l) with
    | none => rfl
    | some p =>
      exfalso
      unfold checkE at h
      rw [hq] at h
      split at h
      · cases h
      · split at h <;> cases h
  have := List.find?_eq_none.1 hg _ (List.mem_of_getElem? hp)
  simp [badLink] at this
  omega


set_option maxHeartbeats 4000000 in
theorem Depths_ac (σ : AH) (x : AV) (l : List Nd) (hP : Pg x l) : AC Try.prog 32 [x] σ fun r σ' => match checkE l with | some p => r = .tu [nilS, eI p.2] ∧ σ' = σ | none => r = .tu [slv (eIs (depthsP l)), eI 0] ∧ σ' = σ := by
  refine AC.of_body Try.func32 (by kernel_rfl) rfl (by rw [Try.ntmps32]; simp) ?_
  rw [Try.ntmps32]
  have hxl := hP.slen
  have hlen := hP.len
  refine AT.seq fun K1 hK1 => ?_
  refine AT.regionK [] fun K2 hK2 => ?_
  simp (disch := omega) [hxl]
  refine hK2 _ _ ?_; try clear hK2 K2
  refine hK1 _ _ ?_; try clear hK1 K1
  refine AT.seq fun K3 hK3 => ?_
  refine AT.regionK [] fun K4 hK4 => ?_
  simp (disch := omega) [hxl]
  refine (hP.ck σ).mono ?_
  intro r σq hr
  rcases hce : checkE l with _ | p <;> rw [hce] at hr
  · skip
    obtain ⟨wid, mid, rfl, hW⟩ := hr
    try simp (disch := omega) [hxl]
    refine hK4 _ _ ?_; try clear hK4 K4
    refine hK3 _ _ ?_; try clear hK3 K3
    refine AT.seq fun K5 hK5 => ?_
    refine AT.seq fun K6 hK6 => ?_
    refine AT.regionK [] fun K7 hK7 => ?_
    simp (disch := omega) [hxl]
    refine hK7 _ _ ?_; try clear hK7 K7
    refine hK6 _ _ ?_; try clear hK6 K6
    refine AT.cond (t := false) rfl (fun h => by cases h) (fun _ => ?_)
    refine AT.skip ?_
    refine hK5 _ _ ?_; try clear hK5 K5
    refine AT.seq fun K8 hK8 => ?_
    refine AT.regionK [] fun K9 hK9 => ?_
    simp (disch := omega) [hxl]
    refine hK9 _ _ ?_; try clear hK9 K9
    refine hK8 _ _ ?_; try clear hK8 K8
    refine AT.seq fun K10 hK10 => ?_
    refine AT.seq fun K11 hK11 => ?_
    refine AT.regionK [] fun K12 hK12 => ?_
    simp (disch := omega) [hxl]
    refine hK12 _ _ ?_; try clear hK12 K12
    refine hK11 _ _ ?_; try clear hK11 K11
    refine AT.block ?_
    obtain ⟨ov, hw, -⟩ := hW.w
    have hm := hW.m
    have hdl : (depthsP l).length = l.length := by simp [depthsP]
    refine AT.whileK [4, 19] (fun (p : Nat × AV) => [(20, eI p.1), (7, p.2)]) (fun (p : Nat × AV) σ' => p.1 ≤ l.length ∧ Own σq σ' p.2 (eIs ((depthsP l).take p.1)) 1 3) (fun (p : Nat × AV) => l.length - p.1) ((0, nilS)) (by simp (disch := omega) [has, keep, AH.del_ne, AH.del_same]) ⟨by simp, by simpa using Own.nil σq 1 3⟩ ?_
    rintro ⟨i, o⟩ τ ⟨hi, ho⟩
    dsimp only at hi ho ⊢
    simp only [keep, List.map_cons, List.map_nil, List.cons_append, List.nil_append, gt_sel, gt_nil, gsel, Nat.reduceBEq]
    refine AT.seq fun K13 hK13 => ?_
    refine AT.regionK [] fun K14 hK14 => ?_
    simp (disch := omega) [hxl]
    refine hK14 _ _ ?_; try clear hK14 K14
    refine hK13 _ _ ?_; try clear hK13 K13
    refine AT.seq fun K15 hK15 => ?_
    refine AT.cond rfl (fun ht => ?_) (fun hf => ?_)
    · simp at ht
      have hdi : (depthsP l)[i]? = some ((walkP l).2 i) := by simp [depthsP, ht]
      have htk : (depthsP l).take (i + 1) = (depthsP l).take i ++ [(walkP l).2 i] := by rw [List.take_add_one, hdi]; rfl
      refine AT.skip ?_
      refine hK15 _ _ ?_; try clear hK15 K15
      refine AT.seq fun K16 hK16 => ?_
      refine AT.block ?_
      refine AT.seq fun K17 hK17 => ?_
      refine AT.regionK [] fun K18 hK18 => ?_
      simp (disch := omega) [hxl]
      refine hK18 _ _ ?_; try clear hK18 K18
      refine hK17 _ _ ?_; try clear hK17 K17
      refine AT.region [] ?_
      refine vops_cut 9 fun Kc20 hKc20 => ?_
      simp (disch := omega) [hxl, ho.at hw, ho.at hm, mapF_get]
      refine ho.app (by simp; omega) (by simp; omega) fun o2 τ2 ho2 => ?_
      try simp (disch := omega) [hxl]
      try simp (disch := omega) [hxl]
      refine hKc20 _ _ ?_; try clear hKc20 Kc20
      refine vops_end fun K19 hK19 => ?_
      simp (disch := omega) [hxl, ho.at hw, ho.at hm, mapF_get]
      refine hK19 _ _ ?_; try clear hK19 K19
      refine hK16 _ _ ?_; try clear hK16 K16
      refine AT.regionK [] fun K21 hK21 => ?_
      simp (disch := omega) [hxl]
      refine hK21 _ _ ?_; try clear hK21 K21
      exact ⟨(i + 1, o2), by dsimp only; omega, by simp (disch := omega) [has, keep, AH.del_ne, AH.del_same], by dsimp only; omega, by dsimp only; rw [htk]; simpa using ho2⟩
    · simp at hf
      have hend : i = l.length := by omega
      subst hend
      refine AT.exit ?_
      try simp only [thenQ, blockQ, scopeQ, if_true]
      refine hK10 _ _ ?_; try clear hK10 K10
      refine AT.seq fun K22 hK22 => ?_
      refine AT.regionK [] fun K23 hK23 => ?_
      simp (disch := omega) [hxl]
      refine hK23 _ _ ?_; try clear hK23 K23
      refine hK22 _ _ ?_; try clear hK22 K22
      refine AT.ret ?_
      try simp only [thenQ, blockQ, scopeQ]
      rw [← hdl, List.take_length] at ho
      exact ret_own rfl ho hW.le (by simp [hce, aret])
  · skip
    obtain ⟨rfl, hσ⟩ := hr
    subst σq
    try simp (disch := omega) [hxl]
    refine hK4 _ _ ?_; try clear hK4 K4
    refine hK3 _ _ ?_; try clear hK3 K3
    refine AT.seq fun K24 hK24 => ?_
    refine AT.seq fun K25 hK25 => ?_
    refine AT.regionK [] fun K26 hK26 => ?_
    simp (disch := omega) [hxl]
    refine hK26 _ _ ?_; try clear hK26 K26
    refine hK25 _ _ ?_; try clear hK25 K25
    refine AT.cond (t := true) (by have := checkE_code hce; simp [this]) (fun _ => ?_) (fun h => by cases h)
    refine AT.seq fun K27 hK27 => ?_
    refine AT.regionK [] fun K28 hK28 => ?_
    simp (disch := omega) [hxl]
    refine hK28 _ _ ?_; try clear hK28 K28
    refine hK27 _ _ ?_; try clear hK27 K27
    refine AT.ret ?_
    try simp only [thenQ, blockQ, scopeQ]
    exact ret_keep rfl (AH.le_refl _) (by simp [hce, aret])

set_option maxHeartbeats 4000000 in
theorem Parents_ac (σ : AH) (x : AV) (l : List Nd) (hP : Pg x l) : AC Try.prog 33 [x] σ fun r σ' => match checkE l with | some p => r = .tu [nilS, eI p.2] ∧ σ' = σ | none => r = .tu [.ro (eIs (parsP l (prs l).length)), eI 0] ∧ σ' = σ := by
  refine AC.of_body Try.func33 (by kernel_rfl) rfl (by rw [Try.ntmps33]; simp) ?_
  rw [Try.ntmps33]
  have hxl := hP.slen
  have hlen := hP.len
  refine AT.seq fun K1 hK1 => ?_
  refine AT.regionK [] fun K2 hK2 => ?_
  simp (disch := omega) [hxl]
  refine hK2 _ _ ?_; try clear hK2 K2
  refine hK1 _ _ ?_; try clear hK1 K1
  refine AT.seq fun K3 hK3 => ?_
  refine AT.seq fun K4 hK4 => ?_
  refine AT.regionK [] fun K5 hK5 => ?_
  simp (disch := omega) [hxl]
  refine AC.q (hP.check σ) ?_
  try simp (disch := omega) [hxl]
  rcases hce : checkE l with _ | p
  all_goals simp only [checkP, hce, Option.getD]
  · skip
    skip
    refine hK5 _ _ ?_; try clear hK5 K5
    refine hK4 _ _ ?_; try clear hK4 K4
    refine AT.seq fun K6 hK6 => ?_
    refine AT.regionK [] fun K7 hK7 => ?_
    simp (disch := omega) [hxl]
    refine hK7 _ _ ?_; try clear hK7 K7
    refine hK6 _ _ ?_; try clear hK6 K6
    refine AT.cond (t := false) rfl (fun h => by cases h) (fun _ => ?_)
    refine AT.skip ?_
    refine hK3 _ _ ?_; try clear hK3 K3
    refine AT.seq fun K8 hK8 => ?_
    refine AT.regionK [] fun K9 hK9 => ?_
    have hpos := checkE_len hce
    have hrl : (List.replicate l.length (0 : Int)).length = l.length := by simp
    simp (disch := omega) [hxl]
    refine ⟨by omega, by omega, ?_⟩
    intro o ho b hbo hb
    refine hK9 _ _ ?_; try clear hK9 K9
    refine hK8 _ _ ?_; try clear hK8 K8
    refine AT.seq fun K10 hK10 => ?_
    refine AT.regionK [] fun K11 hK11 => ?_
    simp (disch := omega) [hxl, hpos]
    refine hK11 _ _ ?_; try clear hK11 K11
    refine hK10 _ _ ?_; try clear hK10 K10
    refine AT.seq fun K12 hK12 => ?_
    refine AT.seq fun K13 hK13 => ?_
    refine AT.regionK [] fun K14 hK14 => ?_
    simp (disch := omega) [hxl]
    refine AC.q (hP.links _) ?_
    try simp (disch := omega) [hxl]
    refine hK14 _ _ ?_; try clear hK14 K14
    refine hK13 _ _ ?_; try clear hK13 K13
    refine AT.block ?_
    refine AT.rangeJ rfl (by intro r hr; cases hr) hP.iter (fun m τ => σ.le τ ∧ τ o = some (.row (eIs (parsP l m)) 1 3 l.length) ∧ τ b = some (.box [.sl o l.length] 24)) (fun c τ' => False) ⟨(by repeat (first | exact AH.le_refl _ | assumption | refine AH.le_set _ (by assumption) ?_ | refine AH.le_del (by assumption) ?_)), by simp (disch := omega) [has, keep, AH.del_ne, AH.del_same, parsP_zero], by simp (disch := omega) [has, keep, AH.del_ne, AH.del_same]⟩ (fun k => rfl) (by decide) ?_ ?_ ?_
    · skip
      rintro lid m τ Lr L hm hlid ⟨hle, hto, htb⟩ hL
      obtain ⟨⟨i, k⟩, hp⟩ : ∃ p, (prs l)[m]? = some p := ⟨_, List.getElem?_eq_getElem hm⟩
      simp only [List.getD_eq_getElem?_getD, hp, Option.getD_some]
      have hob : o ≠ lid := by rintro rfl; rw [hto] at hlid; cases hlid
      have hbb : b ≠ lid := by rintro rfl; rw [htb] at hlid; cases hlid
      have hσl := AH.le_none hle hlid
      obtain ⟨hk0, hk1⟩ := prs_good hce hp
      obtain ⟨kn, rfl⟩ := Int.eq_ofNat_of_zero_le (show 0 ≤ k by omega)
      have hkn : kn < l.length := by omega
      have hpl := parsP_len l m
      refine AT.seq fun K15 hK15 => ?_
      refine AT.regionK [] fun K16 hK16 => ?_
      simp (disch := omega) [hxl]
      refine hK16 _ _ ?_; try clear hK16 K16
      refine hK15 _ _ ?_; try clear hK15 K15
      refine AT.regionK [] fun K17 hK17 => ?_
      simp (disch := omega) [hxl]
      refine hK17 _ _ ?_; try clear hK17 K17
      simp only [thenQ]
      refine ⟨τ, hlid, rfl, ?_⟩
      refine AT.block ?_
      refine AT.regionK [] fun K18 hK18 => ?_
      simp (disch := omega) [hxl, hto, htb, hpl, hkn]
      refine hK18 _ _ ?_; try clear hK18 K18
      refine ⟨by simp (disch := omega) [has, keep, AH.del_ne, AH.del_same], (by repeat (first | exact AH.le_refl _ | assumption | refine AH.le_set _ (by assumption) ?_ | refine AH.le_del (by assumption) ?_)), by simp (disch := omega) [has, keep, AH.del_ne, AH.del_same, parsP_succ hp], by simp (disch := omega) [has, keep, AH.del_ne, AH.del_same, htb]⟩
    · rintro τ3 ⟨hle3, hto3, htb3⟩
      refine hK12 _ _ ?_; try clear hK12 K12
      refine AT.seq fun K19 hK19 => ?_
      refine AT.regionK [] fun K20 hK20 => ?_
      simp (disch := omega) [hxl, htb3]
      refine hK20 _ _ ?_; try clear hK20 K20
      refine hK19 _ _ ?_; try clear hK19 K19
      refine AT.ret ?_
      try simp only [thenQ, blockQ, scopeQ]
      refine ⟨_, _, σ, rfl, PubL.sl hto3 (by simp [parsP_len]) (PubL.keep _ (PubL.nil (AH.le_del ho hle3))), ?_⟩
      simp [hce, aret]
    · intro c τ3 h
      exact h.elim
  · skip
    skip
    refine hK5 _ _ ?_; try clear hK5 K5
    refine hK4 _ _ ?_; try clear hK4 K4
    refine AT.seq fun K21 hK21 => ?_
    refine AT.regionK [] fun K22 hK22 => ?_
    simp (disch := omega) [hxl]
    refine hK22 _ _ ?_; try clear hK22 K22
    refine hK21 _ _ ?_; try clear hK21 K21
    refine AT.cond (t := true) (by have := checkE_code hce; simp [this]) (fun _ => ?_) (fun h => by cases h)
    refine AT.seq fun K23 hK23 => ?_
    refine AT.regionK [] fun K24 hK24 => ?_
    simp (disch := omega) [hxl]
    refine hK24 _ _ ?_; try clear hK24 K24
    refine hK23 _ _ ?_; try clear hK23 K23
    refine AT.ret ?_
    try simp only [thenQ, blockQ, scopeQ]
    exact ret_keep rfl (AH.le_refl _) (by simp [hce, aret])

end Go.Proofs.Ytdimikmgkdcglaa
