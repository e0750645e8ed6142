/- Walks: what is wrong with a page. No conditions. Printed by gen_walk.py. -/
import Derived.Test.YtdimikmgkdcglaaD5
set_option linter.unusedVariables false
set_option linter.unusedSimpArgs false
namespace Go.Proofs.Ytdimikmgkdcglaa
open Go.RowKit

def badLink (l : List Nd) (p : Nat × Int) : Bool := decide (p.2 < 1) || decide (p.2 ≥ l.length)
/-- How often a node is a kid, of the first m links. -/
def tmP (l : List Nd) (m : Nat) : Int → Int := fun k => ((prs l).take m).countP fun p => decide (p.2 = k)
def walkP (l : List Nd) : Wk := goesP l (l.length + 1) 0 1 ([], fun _ => 0)
def badAt (l : List Nd) (i : Nat) : Bool := decide (i > 0) && (!decide (tmP l (prs l).length i = 1) || decide ((walkP l).2 i = 0))
def deepAt (l : List Nd) (i : Nat) : Bool := decide ((walkP l).2 i > 64)
/-- What is wrong, and where. -/
def checkE (l : List Nd) : Option (Int × Int) :=
  if l.length = 0 ∨ l.length > 65536 then some (0, 43)
  else if idxP (fun n => !isRightP n) l ≥ 0 then some (idxP (fun n => !isRightP n) l, 50)
  else match (prs l).find? (badLink l) with
    | some p => some (p.1, 40)
    | none => match (List.range l.length).find? (badAt l) with
      | some i => some (i, 41)
      | none => match (List.range l.length).find? (deepAt l) with
        | some i => some (i, 42)
        | none => none

theorem links_iter {x : AV} {l : List Nd} (hx : IsS x (eN l)) (hlen : l.length < 9223372036854775807) (hkl : ∀ n ∈ l, n.kids.l.length < 9223372036854775807) : Iter Try.prog 124 [.pr [x] 0] (prs l).length fun m => [eI ((prs l).getD m (0, 0)).1, eI ((prs l).getD m (0, 0)).2] :=
  fun lid I D σ h0 h => links1_ac σ x l hx hlen hkl lid I D h0 fun m i k σ hm hI => by
    have h1 := h m σ (List.getElem?_eq_some_iff.1 hm).1 hI
    dsimp only at h1
    rw [List.getD_eq_getElem?_getD, hm] at h1
    exact h1
theorem kids_le {l : List Nd} {n : Nd} (h : n ∈ l) : n.kids.l.length ≤ (prs l).length := by
  unfold prs
  have : ∀ (l : List Nd) (b : Nat), n ∈ l → n.kids.l.length ≤ (prsFrom b l).length := by
    intro l
    induction l with
    | nil => intro b h; cases h
    | cons m r ih =>
      intro b h
      simp only [prsFrom, List.length_append, List.length_map]
      rcases List.mem_cons.1 h with rfl | h
      · omega
      · have := ih (b + 1) h; omega
  exact this l 0 h
theorem AH.set_del_set (σ : AH) (i : Nat) (b : AB) : σ.set i b = (σ.del i).set i b := by
  funext j
  unfold AH.set AH.del
  by_cases hj : j = i <;> simp [hj]

theorem find_first {α : Type} {f : α → Bool} {l : List α} {m : Nat} {p : α} (hp : l[m]? = some p) (h : f p = true) (hall : ∀ (j : Nat) q, j < m → l[j]? = some q → f q = false) : l.find? f = some p := by
  obtain ⟨hlt, he⟩ := List.getElem?_eq_some_iff.1 hp
  exact List.find?_eq_some_iff_getElem.2 ⟨h, m, hlt, he, fun j hj => by rw [hall j _ hj (by simp)]; rfl⟩
theorem find_none {α : Type} {f : α → Bool} {l : List α} (hall : ∀ (j : Nat) q, l[j]? = some q → f q = false) : l.find? f = none :=
  List.find?_eq_none.2 fun q hq => by
    obtain ⟨j, hj⟩ := List.mem_iff_getElem?.1 hq
    rw [hall j q hj]; simp

theorem cnt_all (p : Nat → Bool) : ∀ n, cnt p n ≤ n
  | 0 => Nat.le_refl _
  | n + 1 => by
    have := cnt_all p n
    simp only [cnt]
    split <;> omega
theorem find_range {f : Nat → Bool} {n i : Nat} (h : f i = true) (hall : ∀ j, j < i → f j = false) (hi : i < n) : (List.range n).find? f = some i :=
  find_first (m := i) (by simp [hi]) h fun j q hj hq => by
    have : j < n := by omega
    simp [this] at hq
    subst hq
    exact hall _ hj
theorem find_range0 {f : Nat → Bool} {n : Nat} (hall : ∀ j, j < n → f j = false) : (List.range n).find? f = none :=
  find_none fun j q hq => by
    by_cases h : j < n
    · simp [h] at hq; subst hq; exact hall _ h
    · simp [h] at hq
theorem prs_mem {l : List Nd} {n : Nd} {k : Int} (h : n ∈ l) (hk : k ∈ n.kids.l) : ∃ (j i : Nat), (prs l)[j]? = some (i, k) := by
  obtain ⟨i, hi⟩ := List.mem_iff_getElem?.1 h
  obtain ⟨t, ht⟩ := List.mem_iff_getElem?.1 hk
  exact ⟨_, _, prsFrom_at 0 hi ht⟩

theorem tmP_succ {l : List Nd} {m i : Nat} {k : Int} (h : (prs l)[m]? = some (i, k)) : tmP l (m + 1) = updF (tmP l m) k (tmP l m k + 1) := by
  obtain ⟨hlt, he⟩ := List.getElem?_eq_some_iff.1 h
  funext j
  unfold tmP updF
  rw [List.take_succ_eq_append_getElem hlt, List.countP_append, he]
  by_cases hj : j = k
  · subst hj; simp
  · have : ¬ k = j := fun e => hj e.symm
    simp [hj, this]
theorem tmP_le (l : List Nd) (m : Nat) (k : Int) : 0 ≤ tmP l m k ∧ tmP l m k ≤ m := by
  unfold tmP
  refine ⟨by omega, ?_⟩
  have h1 := List.countP_le_length (p := fun p : Nat × Int => decide (p.2 = k)) (l := (prs l).take m)
  have h2 : ((prs l).take m).length ≤ m := by simp; omega
  omega

/-- Check's blocks. -/
structure Ck (σ τ : AH) (b1 m1 b2 wid mid : Nat) (tm : Int → Int) (a : Int) (s : Wk) : Prop where
  le : σ.le τ
  tb : τ b1 = some (.box [.mp m1] 104)
  mt : τ m1 = some (.map (mapF tm) 1)
  ab : τ b2 = some (.box [eI a] 3)
  wk : WkAt σ τ wid mid s
  ne : m1 ≠ mid
  tb0 : σ b1 = none
  mt0 : σ m1 = none
  ab0 : σ b2 = none

theorem ne_of_vals {τ : AH} {i j : Nat} {a b : AB} (h1 : τ i = some a) (h2 : τ j = some b) (h : a ≠ b) : i ≠ j := fun e => by
  subst e; rw [h1] at h2; injection h2 with h2; exact h h2

section
variable {σ τ : AH} {b1 m1 b2 wid mid : Nat} {tm : Int → Int} {a : Int} {s : Wk}
theorem Ck.n1 (h : Ck σ τ b1 m1 b2 wid mid tm a s) : b2 ≠ b1 := ne_of_vals h.ab h.tb (by simp [eI])
theorem Ck.n2 (h : Ck σ τ b1 m1 b2 wid mid tm a s) : b2 ≠ m1 := ne_of_vals h.ab h.mt (by simp)
theorem Ck.n3 (h : Ck σ τ b1 m1 b2 wid mid tm a s) : b1 ≠ m1 := ne_of_vals h.tb h.mt (by simp)
theorem Ck.n4 (h : Ck σ τ b1 m1 b2 wid mid tm a s) : b2 ≠ mid := ne_of_vals h.ab h.wk.m (by simp)
theorem Ck.n5 (h : Ck σ τ b1 m1 b2 wid mid tm a s) : b1 ≠ mid := ne_of_vals h.tb h.wk.m (by simp)
theorem Ck.n6 (h : Ck σ τ b1 m1 b2 wid mid tm a s) : b2 ≠ wid := by obtain ⟨ov, hw, _⟩ := h.wk.w; exact ne_of_vals h.ab hw (by simp)
theorem Ck.n7 (h : Ck σ τ b1 m1 b2 wid mid tm a s) : b1 ≠ wid := by obtain ⟨ov, hw, _⟩ := h.wk.w; exact ne_of_vals h.tb hw (by simp)
theorem Ck.n8 (h : Ck σ τ b1 m1 b2 wid mid tm a s) : m1 ≠ wid := by obtain ⟨ov, hw, _⟩ := h.wk.w; exact ne_of_vals h.mt hw (by simp)

/-- Another place is noted. -/
theorem Ck.setA (h : Ck σ τ b1 m1 b2 wid mid tm a s) (a' : Int) : Ck σ (τ.set b2 (.box [eI a'] 3)) b1 m1 b2 wid mid tm a' s := by
  refine ⟨AH.le_set _ h.ab0 h.le, by rw [AH.set_other _ (Ne.symm h.n1)]; exact h.tb, by rw [AH.set_other _ (Ne.symm h.n2)]; exact h.mt, AH.set_same _ _ _, ?_, h.ne, h.tb0, h.mt0, h.ab0⟩
  obtain ⟨ov, hw, hov⟩ := h.wk.w
  refine ⟨⟨ov, by rw [AH.set_other _ (Ne.symm h.n6)]; exact hw, ?_⟩, by rw [AH.set_other _ (Ne.symm h.n4)]; exact h.wk.m, h.wk.ne, AH.le_set _ h.ab0 h.le, h.wk.w0, h.wk.m0⟩
  rcases hov with hov | ⟨oid, st, q1, q2, q3, q4, q5⟩
  · exact .inl hov
  · exact .inr ⟨oid, st, q1, by rw [AH.set_other _ (ne_of_vals q2 h.ab (by simp))]; exact q2, q3, q4, q5⟩
/-- Another count. -/
theorem Ck.setT (h : Ck σ τ b1 m1 b2 wid mid tm a s) (tm' : Int → Int) : Ck σ (τ.set m1 (.map (mapF tm') 1)) b1 m1 b2 wid mid tm' a s := by
  refine ⟨AH.le_set _ h.mt0 h.le, by rw [AH.set_other _ h.n3]; exact h.tb, AH.set_same _ _ _, by rw [AH.set_other _ h.n2]; exact h.ab, ?_, h.ne, h.tb0, h.mt0, h.ab0⟩
  obtain ⟨ov, hw, hov⟩ := h.wk.w
  refine ⟨⟨ov, by rw [AH.set_other _ (Ne.symm h.n8)]; exact hw, ?_⟩, by rw [AH.set_other _ (Ne.symm h.ne)]; exact h.wk.m, h.wk.ne, AH.le_set _ h.mt0 h.le, h.wk.w0, h.wk.m0⟩
  rcases hov with hov | ⟨oid, st, q1, q2, q3, q4, q5⟩
  · exact .inl hov
  · exact .inr ⟨oid, st, q1, by rw [AH.set_other _ (ne_of_vals q2 h.mt (by simp))]; exact q2, q3, q4, q5⟩
/-- The walk. -/
theorem Ck.base (h : Ck σ τ b1 m1 b2 wid mid tm a s) : σ.le ((τ.del wid).del mid) := AH.le_del h.wk.m0 (AH.le_del h.wk.w0 h.le)
theorem Ck.go (h : Ck σ τ b1 m1 b2 wid mid tm a ([], fun _ => 0)) (hw : τ wid = some (.box [nilS, .mp mid] 106)) : WkAt ((τ.del wid).del mid) τ wid mid ([], fun _ => 0) :=
  ⟨⟨nilS, hw, .inl ⟨rfl, rfl⟩⟩, h.wk.m, h.wk.ne, AH.le_trans (AH.del_le _ _) (AH.del_le _ _), by rw [AH.del_ne _ h.wk.ne, AH.del_same], AH.del_same _ _⟩
theorem Ck.gone (h : Ck σ τ b1 m1 b2 wid mid tm a ([], fun _ => 0)) {τ' : AH} {s : Wk} (hW : WkAt ((τ.del wid).del mid) τ' wid mid s) : Ck σ τ' b1 m1 b2 wid mid tm a s := by
  have hk : ∀ id, id ≠ wid → id ≠ mid → τ id ≠ none → τ' id = τ id := fun id h1 h2 h3 => by
    have := AH.le_some hW.le (id := id) (by rw [AH.del_ne _ h2, AH.del_ne _ h1]; exact h3)
    rw [this, AH.del_ne _ h2, AH.del_ne _ h1]
  have hle := AH.le_trans h.base hW.le
  refine ⟨hle, by rw [hk _ h.n7 h.n5 (by rw [h.tb]; simp)]; exact h.tb, by rw [hk _ h.n8 h.ne (by rw [h.mt]; simp)]; exact h.mt, by rw [hk _ h.n6 h.n4 (by rw [h.ab]; simp)]; exact h.ab, ?_, h.ne, h.tb0, h.mt0, h.ab0⟩
  obtain ⟨ov, hw, hov⟩ := hW.w
  refine ⟨⟨ov, hw, ?_⟩, hW.m, hW.ne, hle, h.wk.w0, h.wk.m0⟩
  rcases hov with hov | ⟨oid, st, q1, q2, q3, q4, q5⟩
  · exact .inl hov
  · exact .inr ⟨oid, st, q1, q2, q3, q4, AH.le_none h.base q5⟩
/-- At the start. -/
theorem Ck.start {σ : AH} {b1 m1 b2 wid mid : Nat} (h1 : σ m1 = none) (h2 : σ b1 = none) (h3 : σ mid = none) (h4 : σ wid = none) (h5 : σ b2 = none) (n1 : b1 ≠ m1) (n2 : mid ≠ m1) (n3 : mid ≠ b1) (n4 : wid ≠ m1) (n5 : wid ≠ b1) (n6 : wid ≠ mid) (n7 : b2 ≠ m1) (n8 : b2 ≠ b1) (n9 : b2 ≠ mid) (n10 : b2 ≠ wid) :
    Ck σ (((((σ.set m1 (.map (fun _ => none) 1)).set b1 (.box [.mp m1] 104)).set mid (.map (fun _ => none) 1)).set wid (.box [nilS, .mp mid] 106)).set b2 (.box [eI 0] 3)) b1 m1 b2 wid mid (fun _ => 0) 0 ([], fun _ => 0) ∧
    (((((σ.set m1 (.map (fun _ => none) 1)).set b1 (.box [.mp m1] 104)).set mid (.map (fun _ => none) 1)).set wid (.box [nilS, .mp mid] 106)).set b2 (.box [eI 0] 3)) wid = some (.box [nilS, .mp mid] 106) := by
  have hle : σ.le (((((σ.set m1 (.map (fun _ => none) 1)).set b1 (.box [.mp m1] 104)).set mid (.map (fun _ => none) 1)).set wid (.box [nilS, .mp mid] 106)).set b2 (.box [eI 0] 3)) :=
    AH.le_set _ h5 (AH.le_set _ h4 (AH.le_set _ h3 (AH.le_set _ h2 (AH.le_set _ h1 (AH.le_refl _)))))
  have hw : (((((σ.set m1 (.map (fun _ => none) 1)).set b1 (.box [.mp m1] 104)).set mid (.map (fun _ => none) 1)).set wid (.box [nilS, .mp mid] 106)).set b2 (.box [eI 0] 3)) wid = some (.box [nilS, .mp mid] 106) := by
    rw [AH.set_other _ (Ne.symm n10), AH.set_same]
  refine ⟨⟨hle, ?_, ?_, AH.set_same _ _ _, ⟨⟨nilS, hw, .inl ⟨rfl, rfl⟩⟩, ?_, n6, hle, h4, h3⟩, Ne.symm n2, h2, h1, h5⟩, hw⟩
  · rw [AH.set_other _ (Ne.symm n8), AH.set_other _ (Ne.symm n5), AH.set_other _ (Ne.symm n3), AH.set_same]
  · rw [AH.set_other _ (Ne.symm n7), AH.set_other _ (Ne.symm n4), AH.set_other _ (Ne.symm n2), AH.set_other _ (Ne.symm n1), AH.set_same, mapF_zero]
  · rw [AH.set_other _ (Ne.symm n9), AH.set_other _ (Ne.symm n6), AH.set_same, mapF_zero]
end

set_option maxHeartbeats 4000000 in
set_option maxRecDepth 10000 in
theorem check_ac (σ : AH) (x : AV) (l : List Nd) (hx : IsS x (eN l)) (hx1 : x.one = true) (hx2 : x.cells = [x]) (hlen : l.length < 1000000000) (hprs : (prs l).length < 4611686018427387904) : AC Try.prog 79 [x] σ fun r σ' => match checkE l with | some p => r = .tu [.sc (.pointer none), eI p.1, eI p.2] ∧ σ' = σ | none => ∃ wid mid, r = .tu [.pt wid 0, eI 0, eI 0] ∧ WkAt σ σ' wid mid (walkP l) := by
  refine AC.of_body Try.func79 (by kernel_rfl) rfl (by rw [Try.ntmps79]; simp) ?_
  rw [Try.ntmps79]
  have hxl := hx.len
  rw [eN_len] at hxl
  refine AT.seq fun K1 hK1 => ?_
  refine AT.regionK [] fun K2 hK2 => ?_
  simp [and_assoc, rdS, Value.cells, beqI, bneI, asfill, afill, splice, List.replicate, AV.isPtr, AV.plus, ifS_some, avG, avI, avB, avM, avA, avT, abMap, abRow, dops, dput, gev, oev, Res.run, Res.runQ, rcall, rapp, rbin, run1, ridx, rslice, dqs, dputQ, qok, dls, dputL, dthen, vmax, vstep, ofInt?, gt, ev, constAV, argTm, glook, dlt, aload, astore, ptCells, eI, eB, AH.set_same, AH.set_none, AH.set_set, nilS, hxl, hx1, hx2]
  refine hK2 _ _ ?_; clear hK2 K2
  refine hK1 _ _ ?_
  refine AT.scope (fun k lb α τ => lb = 0 ∧ ∃ b2 a e, has [(7, .pt b2 0), (8, eI e)] α ∧ σ.le τ ∧ τ b2 = some (.box [eI a] 3) ∧ checkE l = some (a, e)) ?_ ?_
  rotate_left
  · rintro k lb α' τ' rest ⟨rfl, b2, a, e, hα, hle, hab, hce⟩ hrest
    obtain rfl := Option.some.inj hrest
    refine AT.has _ hα ?_
    refine AT.seq fun K0 hK0 => ?_
    first
    | refine AT.label ?_
    | refine AT.skip ?_
    refine hK0 _ _ ?_
    refine AT.seq fun K hK => ?_
    refine AT.drawnK [] [true, true, false, false, false] mixed rfl (by kernel_rfl) fun K2 hK2 => ?_
    simp [and_assoc, rdS, Value.cells, beqI, bneI, asfill, afill, splice, List.replicate, AV.isPtr, AV.plus, ifS_some, avG, avI, avB, avM, avA, avT, abMap, abRow, dops, dput, gev, oev, Res.run, Res.runQ, rcall, rapp, rbin, run1, ridx, rslice, dqs, dputQ, qok, dls, dputL, dthen, vmax, vstep, ofInt?, gt, ev, constAV, argTm, glook, dlt, aload, astore, ptCells, eI, eB, AH.set_same, AH.set_none, AH.set_set, nilS, hxl, hab]
    refine hK2 _ _ ?_
    refine hK _ _ ?_
    refine AT.ret ?_
    simp only [thenQ, blockQ, scopeQ]
    refine ret_keep (σ := σ) rfl hle ?_
    simp only [hce]
    first
    | exact ⟨rfl, rfl⟩
    | exact ⟨rfl, trivial⟩
  refine AT.seq fun K3 hK3 => ?_
  refine AT.regionK [] fun K4 hK4 => ?_
  simp [and_assoc, rdS, Value.cells, beqI, bneI, asfill, afill, splice, List.replicate, AV.isPtr, AV.plus, ifS_some, avG, avI, avB, avM, avA, avT, abMap, abRow, dops, dput, gev, oev, Res.run, Res.runQ, rcall, rapp, rbin, run1, ridx, rslice, dqs, dputQ, qok, dls, dputL, dthen, vmax, vstep, ofInt?, gt, ev, constAV, argTm, glook, dlt, aload, astore, ptCells, eI, eB, AH.set_same, AH.set_none, AH.set_set, nilS, hxl]
  intro m1 hm1 b1 hb1m hb1
  refine hK4 _ _ ?_; clear hK4 K4
  refine hK3 _ _ ?_
  refine AT.seq fun K5 hK5 => ?_
  refine AT.regionK [16] fun K6 hK6 => ?_
  simp [and_assoc, rdS, Value.cells, beqI, bneI, asfill, afill, splice, List.replicate, AV.isPtr, AV.plus, ifS_some, avG, avI, avB, avM, avA, avT, abMap, abRow, dops, dput, gev, oev, Res.run, Res.runQ, rcall, rapp, rbin, run1, ridx, rslice, dqs, dputQ, qok, dls, dputL, dthen, vmax, vstep, ofInt?, gt, ev, constAV, argTm, glook, dlt, aload, astore, ptCells, eI, eB, AH.set_same, AH.set_none, AH.set_set, nilS, hxl]
  intro mid n3 n2 hmid wid n6 n5 n4 hwid
  refine hK6 _ _ ?_; clear hK6 K6
  refine hK5 _ _ ?_
  refine AT.seq fun K7 hK7 => ?_
  refine AT.regionK [] fun K8 hK8 => ?_
  simp [and_assoc, rdS, Value.cells, beqI, bneI, asfill, afill, splice, List.replicate, AV.isPtr, AV.plus, ifS_some, avG, avI, avB, avM, avA, avT, abMap, abRow, dops, dput, gev, oev, Res.run, Res.runQ, rcall, rapp, rbin, run1, ridx, rslice, dqs, dputQ, qok, dls, dputL, dthen, vmax, vstep, ofInt?, gt, ev, constAV, argTm, glook, dlt, aload, astore, ptCells, eI, eB, AH.set_same, AH.set_none, AH.set_set, nilS, hxl]
  intro b2 n10 n9 n8 n7 hb2
  obtain ⟨hCk, hw0⟩ := Ck.start hm1 hb1 hmid hwid hb2 hb1m n2 n3 n4 n5 n6 n7 n8 n9 n10
  simp only [eI, nilS] at hCk hw0
  generalize AH.set _ b2 _ = τ at hCk hw0 ⊢
  refine hK8 _ _ ?_; clear hK8 K8
  refine hK7 _ _ ?_
  refine AT.seq fun K9 hK9 => ?_
  refine AT.regionK [] fun K10 hK10 => ?_
  simp [and_assoc, rdS, Value.cells, beqI, bneI, asfill, afill, splice, List.replicate, AV.isPtr, AV.plus, ifS_some, avG, avI, avB, avM, avA, avT, abMap, abRow, dops, dput, gev, oev, Res.run, Res.runQ, rcall, rapp, rbin, run1, ridx, rslice, dqs, dputQ, qok, dls, dputL, dthen, vmax, vstep, ofInt?, gt, ev, constAV, argTm, glook, dlt, aload, astore, ptCells, eI, eB, AH.set_same, AH.set_none, AH.set_set, nilS, hxl]
  refine hK10 _ _ ?_; clear hK10 K10
  refine hK9 _ _ ?_
  refine AT.seq fun K11 hK11 => ?_
  refine AT.cut (fun α' σ' => has [(24, eB (decide (l.length = 0) || decide (l.length > 65536))), (1, .pr [x] 0), (5, .pt b1 0), (6, .pt wid 0), (7, .pt b2 0), (8, eI 43)] α' ∧ τ = σ') ?_ ?_
  · skip
    refine AT.regionK [] fun K12 hK12 => ?_
    by_cases h12_0 : l.length = 0
    · skip
      simp [and_assoc, rdS, Value.cells, beqI, bneI, asfill, afill, splice, List.replicate, AV.isPtr, AV.plus, ifS_some, avG, avI, avB, avM, avA, avT, abMap, abRow, dops, dput, gev, oev, Res.run, Res.runQ, rcall, rapp, rbin, run1, ridx, rslice, dqs, dputQ, qok, dls, dputL, dthen, vmax, vstep, ofInt?, gt, ev, constAV, argTm, glook, dlt, aload, astore, ptCells, eI, eB, AH.set_same, AH.set_none, AH.set_set, nilS, hxl, h12_0]
      refine hK12 _ _ ?_
      exact ⟨by simp [has, gt, eI, eB, h12_0] <;> omega, rfl⟩
    · skip
      simp [and_assoc, rdS, Value.cells, beqI, bneI, asfill, afill, splice, List.replicate, AV.isPtr, AV.plus, ifS_some, avG, avI, avB, avM, avA, avT, abMap, abRow, dops, dput, gev, oev, Res.run, Res.runQ, rcall, rapp, rbin, run1, ridx, rslice, dqs, dputQ, qok, dls, dputL, dthen, vmax, vstep, ofInt?, gt, ev, constAV, argTm, glook, dlt, aload, astore, ptCells, eI, eB, AH.set_same, AH.set_none, AH.set_set, nilS, hxl, h12_0]
      refine hK12 _ _ ?_
      exact ⟨by simp [has, gt, eI, eB, h12_0] <;> omega, rfl⟩
  · rintro α' σ' ⟨hα, rfl⟩
    refine AT.has _ hα ?_
    refine AT.cond rfl (fun ht => ?_) (fun hf => ?_)
    · have h1 : l.length = 0 ∨ l.length > 65536 := by simpa using ht
      refine AT.goto ?_
      try simp only [thenQ, blockQ, scopeQ]
      exact ⟨⟨0, by trivial, b2, 0, 43, by simp [has, gt, eI], hCk.le, hCk.ab, by unfold checkE; rw [if_pos h1]⟩, by first | rfl | trivial⟩
    · have h1 : ¬ (l.length = 0 ∨ l.length > 65536) := by simpa using hf
      refine AT.skip ?_
      refine hK11 _ _ ?_
      refine AT.seq fun K13 hK13 => ?_
      refine AT.regionK [] fun K14 hK14 => ?_
      simp [and_assoc, rdS, Value.cells, beqI, bneI, asfill, afill, splice, List.replicate, AV.isPtr, AV.plus, ifS_some, avG, avI, avB, avM, avA, avT, abMap, abRow, dops, dput, gev, oev, Res.run, Res.runQ, rcall, rapp, rbin, run1, ridx, rslice, dqs, dputQ, qok, dls, dputL, dthen, vmax, vstep, ofInt?, gt, ev, constAV, argTm, glook, dlt, aload, astore, ptCells, eI, eB, AH.set_same, AH.set_none, AH.set_set, nilS, hxl]
      refine hK14 _ _ ?_; clear hK14 K14
      refine hK13 _ _ ?_
      refine AT.seq fun K15 hK15 => ?_
      refine AT.seq fun K16 hK16 => ?_
      refine AT.regionK [] fun K17 hK17 => ?_
      simp [and_assoc, rdS, Value.cells, beqI, bneI, asfill, afill, splice, List.replicate, AV.isPtr, AV.plus, ifS_some, avG, avI, avB, avM, avA, avT, abMap, abRow, dops, dput, gev, oev, Res.run, Res.runQ, rcall, rapp, rbin, run1, ridx, rslice, dqs, dputQ, qok, dls, dputL, dthen, vmax, vstep, ofInt?, gt, ev, constAV, argTm, glook, dlt, aload, astore, ptCells, eI, eB, AH.set_same, AH.set_none, AH.set_set, nilS, hxl]
      refine AC.q (indexFuncN_ac τ x 121 [] (fun n => !isRightP n) l hx (by omega) fun n _ => check1_ac τ n) ?_
      have hab := hCk.ab
      simp [and_assoc, rdS, Value.cells, beqI, bneI, asfill, afill, splice, List.replicate, AV.isPtr, AV.plus, ifS_some, avG, avI, avB, avM, avA, avT, abMap, abRow, dops, dput, gev, oev, Res.run, Res.runQ, rcall, rapp, rbin, run1, ridx, rslice, dqs, dputQ, qok, dls, dputL, dthen, vmax, vstep, ofInt?, gt, ev, constAV, argTm, glook, dlt, aload, astore, ptCells, eI, eB, AH.set_same, AH.set_none, AH.set_set, nilS, hxl, hab]
      have hCk2 := hCk.setA (idxP (fun n => !isRightP n) l)
      have hw2 : (τ.set b2 (.box [eI (idxP (fun n => !isRightP n) l)] 3)) wid = _ := (AH.set_other _ (Ne.symm hCk.n6)).trans hw0
      simp only [eI, nilS] at hCk2 hw2
      generalize AH.set τ b2 _ = τ2 at hCk2 hw2 ⊢
      refine hK17 _ _ ?_; clear hK17 K17
      refine hK16 _ _ ?_
      refine AT.seq fun K18 hK18 => ?_
      refine AT.regionK [] fun K19 hK19 => ?_
      have hab2 := hCk2.ab
      simp [and_assoc, rdS, Value.cells, beqI, bneI, asfill, afill, splice, List.replicate, AV.isPtr, AV.plus, ifS_some, avG, avI, avB, avM, avA, avT, abMap, abRow, dops, dput, gev, oev, Res.run, Res.runQ, rcall, rapp, rbin, run1, ridx, rslice, dqs, dputQ, qok, dls, dputL, dthen, vmax, vstep, ofInt?, gt, ev, constAV, argTm, glook, dlt, aload, astore, ptCells, eI, eB, AH.set_same, AH.set_none, AH.set_set, nilS, hxl, hab2]
      refine hK19 _ _ ?_; clear hK19 K19
      refine hK18 _ _ ?_
      refine AT.cond rfl (fun ht => ?_) (fun hf => ?_)
      · simp at ht
        refine AT.goto ?_
        try simp only [thenQ, blockQ, scopeQ]
        exact ⟨⟨0, by trivial, b2, _, 50, by simp [has, gt, eI], hCk2.le, hCk2.ab, by unfold checkE; rw [if_neg h1, if_pos ht]⟩, by first | rfl | trivial⟩
      · simp at hf
        refine AT.skip ?_
        refine hK15 _ _ ?_
        refine AT.seq fun K20 hK20 => ?_
        refine AT.regionK [] fun K21 hK21 => ?_
        simp [and_assoc, rdS, Value.cells, beqI, bneI, asfill, afill, splice, List.replicate, AV.isPtr, AV.plus, ifS_some, avG, avI, avB, avM, avA, avT, abMap, abRow, dops, dput, gev, oev, Res.run, Res.runQ, rcall, rapp, rbin, run1, ridx, rslice, dqs, dputQ, qok, dls, dputL, dthen, vmax, vstep, ofInt?, gt, ev, constAV, argTm, glook, dlt, aload, astore, ptCells, eI, eB, AH.set_same, AH.set_none, AH.set_set, nilS, hxl]
        refine hK21 _ _ ?_; clear hK21 K21
        refine hK20 _ _ ?_
        refine AT.seq fun K22 hK22 => ?_
        refine AT.seq fun K23 hK23 => ?_
        refine AT.regionK [] fun K24 hK24 => ?_
        simp [and_assoc, rdS, Value.cells, beqI, bneI, asfill, afill, splice, List.replicate, AV.isPtr, AV.plus, ifS_some, avG, avI, avB, avM, avA, avT, abMap, abRow, dops, dput, gev, oev, Res.run, Res.runQ, rcall, rapp, rbin, run1, ridx, rslice, dqs, dputQ, qok, dls, dputL, dthen, vmax, vstep, ofInt?, gt, ev, constAV, argTm, glook, dlt, aload, astore, ptCells, eI, eB, AH.set_same, AH.set_none, AH.set_set, nilS, hxl]
        refine AC.q (links_ac _ x hx1 hx2) ?_
        try simp
        refine hK24 _ _ ?_; clear hK24 K24
        refine hK23 _ _ ?_
        refine AT.block ?_
        have hkl : ∀ n ∈ l, n.kids.l.length < 4611686018427387904 := fun n hn => by have := kids_le hn; omega
        refine AT.rangeI rfl (by intro r hr; cases hr) (links_iter hx (by omega) fun n hn => by have := hkl n hn; omega) (fun m τ' => ∃ a, Ck σ τ' b1 m1 b2 wid mid (tmP l m) a ([], fun _ => 0) ∧ τ' wid = some (.box [nilS, .mp mid] 106) ∧ ∀ (j : Nat) p, j < m → (prs l)[j]? = some p → badLink l p = false) (fun c τ' => c = .goto 0 ∧ ∃ a, σ.le τ' ∧ τ' b2 = some (.box [eI a] 3) ∧ checkE l = some (a, 40)) ⟨_, hCk2, hw2, fun j p hj => absurd hj (by omega)⟩ (fun k => rfl) (by decide) ?_ ?_ ?_
        · skip
          rintro lid m τ3 hm hlid ⟨a, hC, hw3, hall⟩
          obtain ⟨p, hp⟩ : ∃ p, (prs l)[m]? = some p := ⟨(prs l)[m], by simp [hm]⟩
          simp only [putArgs, List.getD_eq_getElem?_getD, hp, Option.getD_some]
          refine AT.seq fun K25 hK25 => ?_
          refine AT.regionK [] fun K26 hK26 => ?_
          simp [and_assoc, rdS, Value.cells, beqI, bneI, asfill, afill, splice, List.replicate, AV.isPtr, AV.plus, ifS_some, avG, avI, avB, avM, avA, avT, abMap, abRow, dops, dput, gev, oev, Res.run, Res.runQ, rcall, rapp, rbin, run1, ridx, rslice, dqs, dputQ, qok, dls, dputL, dthen, vmax, vstep, ofInt?, gt, ev, constAV, argTm, glook, dlt, aload, astore, ptCells, eI, eB, AH.set_same, AH.set_none, AH.set_set, nilS, hxl]
          refine hK26 _ _ ?_; clear hK26 K26
          refine hK25 _ _ ?_
          refine AT.regionK [] fun K27 hK27 => ?_
          simp [and_assoc, rdS, Value.cells, beqI, bneI, asfill, afill, splice, List.replicate, AV.isPtr, AV.plus, ifS_some, avG, avI, avB, avM, avA, avT, abMap, abRow, dops, dput, gev, oev, Res.run, Res.runQ, rcall, rapp, rbin, run1, ridx, rslice, dqs, dputQ, qok, dls, dputL, dthen, vmax, vstep, ofInt?, gt, ev, constAV, argTm, glook, dlt, aload, astore, ptCells, eI, eB, AH.set_same, AH.set_none, AH.set_set, nilS, hxl]
          refine hK27 _ _ ?_; clear hK27 K27
          simp only [thenQ]
          refine ⟨hlid, ?_⟩
          rw [AH.set_del_set]
          generalize hτd : τ3.del lid = τd at hC hw3 ⊢
          have hlid0 : τd lid = none := by rw [← hτd]; exact AH.del_same _ _
          generalize hL : AB.loop LoopState.busy none _ _ _ _ _ = L
          have e2 : b2 ≠ lid := by rintro rfl; rw [hC.ab] at hlid0; cases hlid0
          have e1 : b1 ≠ lid := by rintro rfl; rw [hC.tb] at hlid0; cases hlid0
          have e3 : m1 ≠ lid := by rintro rfl; rw [hC.mt] at hlid0; cases hlid0
          have e4 : wid ≠ lid := by rintro rfl; rw [hw3] at hlid0; cases hlid0
          have hab3 : (τd.set lid L) b2 = _ := (AH.set_other _ e2).trans hC.ab
          refine AT.block ?_
          refine AT.seq fun K28 hK28 => ?_
          refine AT.regionK [] fun K29 hK29 => ?_
          simp [and_assoc, rdS, Value.cells, beqI, bneI, asfill, afill, splice, List.replicate, AV.isPtr, AV.plus, ifS_some, avG, avI, avB, avM, avA, avT, abMap, abRow, dops, dput, gev, oev, Res.run, Res.runQ, rcall, rapp, rbin, run1, ridx, rslice, dqs, dputQ, qok, dls, dputL, dthen, vmax, vstep, ofInt?, gt, ev, constAV, argTm, glook, dlt, aload, astore, ptCells, eI, eB, AH.set_same, AH.set_none, AH.set_set, nilS, hxl, hab3]
          rw [AH.set_comm _ _ (Ne.symm e2)]
          have hC2 := hC.setA (p.1 : Int)
          have hw4 : (τd.set b2 (.box [eI (p.1 : Int)] 3)) wid = _ := (AH.set_other _ (Ne.symm hC.n6)).trans hw3
          have hlid1 : (τd.set b2 (.box [eI (p.1 : Int)] 3)) lid = none := (AH.set_other _ (Ne.symm e2)).trans hlid0
          simp only [eI] at hC2 hw4 hlid1
          generalize AH.set τd b2 _ = τe at hC2 hw4 hlid1 ⊢
          refine hK29 _ _ ?_; clear hK29 K29
          refine hK28 _ _ ?_
          refine AT.seq fun K30 hK30 => ?_
          refine AT.cut (fun α' σ' => has [(41, eB (badLink l p)), (1, .pr [x] 0), (5, .pt b1 0), (6, .pt wid 0), (7, .pt b2 0), (8, eI 40), (10, eI p.2)] α' ∧ τe.set lid L = σ') ?_ ?_
          · skip
            refine AT.regionK [] fun K31 hK31 => ?_
            by_cases h31_0 : p.2 < 1
            · skip
              simp [and_assoc, rdS, Value.cells, beqI, bneI, asfill, afill, splice, List.replicate, AV.isPtr, AV.plus, ifS_some, avG, avI, avB, avM, avA, avT, abMap, abRow, dops, dput, gev, oev, Res.run, Res.runQ, rcall, rapp, rbin, run1, ridx, rslice, dqs, dputQ, qok, dls, dputL, dthen, vmax, vstep, ofInt?, gt, ev, constAV, argTm, glook, dlt, aload, astore, ptCells, eI, eB, AH.set_same, AH.set_none, AH.set_set, nilS, hxl, h31_0]
              refine hK31 _ _ ?_
              exact ⟨by simp [has, gt, eI, eB, badLink, h31_0], rfl⟩
            · skip
              simp [and_assoc, rdS, Value.cells, beqI, bneI, asfill, afill, splice, List.replicate, AV.isPtr, AV.plus, ifS_some, avG, avI, avB, avM, avA, avT, abMap, abRow, dops, dput, gev, oev, Res.run, Res.runQ, rcall, rapp, rbin, run1, ridx, rslice, dqs, dputQ, qok, dls, dputL, dthen, vmax, vstep, ofInt?, gt, ev, constAV, argTm, glook, dlt, aload, astore, ptCells, eI, eB, AH.set_same, AH.set_none, AH.set_set, nilS, hxl, h31_0]
              refine hK31 _ _ ?_
              exact ⟨by simp [has, gt, eI, eB, badLink, h31_0], rfl⟩
          · rintro α' σ' ⟨hα, rfl⟩
            refine AT.has _ hα ?_
            refine AT.cond rfl (fun ht => ?_) (fun hf => ?_)
            · skip
              refine AT.goto ?_
              try simp only [thenQ, blockQ, scopeQ]
              refine ⟨by rw [AH.set_same, hL], rfl, (p.1 : Int), ?_, ?_, ?_⟩
              · rw [AH.set_del hlid1]; exact hC2.le
              · rw [AH.set_del hlid1]; exact hC2.ab
              · unfold checkE
                rw [if_neg h1, if_neg (by omega), find_first hp ht hall]
            · skip
              refine AT.skip ?_
              refine hK30 _ _ ?_
              refine AT.regionK [] fun K32 hK32 => ?_
              have htb : (τe.set lid L) b1 = _ := (AH.set_other _ e1).trans hC2.tb
              have hmt : (τe.set lid L) m1 = _ := (AH.set_other _ e3).trans hC2.mt
              obtain ⟨t0, t1⟩ := tmP_le l m p.2
              have hwt : IntKind.i64.wrap (tmP l m p.2 + 1) = tmP l m p.2 + 1 := wI (by omega) (by omega)
              simp [and_assoc, rdS, Value.cells, beqI, bneI, asfill, afill, splice, List.replicate, AV.isPtr, AV.plus, ifS_some, avG, avI, avB, avM, avA, avT, abMap, abRow, dops, dput, gev, oev, Res.run, Res.runQ, rcall, rapp, rbin, run1, ridx, rslice, dqs, dputQ, qok, dls, dputL, dthen, vmax, vstep, ofInt?, gt, ev, constAV, argTm, glook, dlt, aload, astore, ptCells, eI, eB, AH.set_same, AH.set_none, AH.set_set, nilS, hxl, htb, hmt, mapF_get, hwt, mapF_upd (show tmP l m p.2 + 1 ≠ 0 by omega)]
              refine hK32 _ _ ?_; clear hK32 K32
              rw [AH.set_comm _ _ (Ne.symm e3)]
              refine ⟨by rw [AH.set_same, hL], ?_⟩
              rw [AH.set_del (by rw [AH.set_other _ (Ne.symm e3)]; exact hlid1)]
              refine ⟨_, by rw [tmP_succ hp]; exact hC2.setT _, by rw [AH.set_other _ (Ne.symm hC2.n8)]; exact hw4, fun j q hj hq => ?_⟩
              by_cases hjm : j = m
              · subst hjm; rw [hp] at hq; injection hq with hq; subst hq; exact hf
              · exact hall j q (by omega) hq
        · rintro τ3 ⟨a, hC, hw3, hall⟩
          simp only [thenQ, blockQ]
          refine hK22 _ _ ?_
          refine AT.seq fun K33 hK33 => ?_
          refine AT.regionK [] fun K34 hK34 => ?_
          simp [and_assoc, rdS, Value.cells, beqI, bneI, asfill, afill, splice, List.replicate, AV.isPtr, AV.plus, ifS_some, avG, avI, avB, avM, avA, avT, abMap, abRow, dops, dput, gev, oev, Res.run, Res.runQ, rcall, rapp, rbin, run1, ridx, rslice, dqs, dputQ, qok, dls, dputL, dthen, vmax, vstep, ofInt?, gt, ev, constAV, argTm, glook, dlt, aload, astore, ptCells, eI, eB, AH.set_same, AH.set_none, AH.set_set, nilS, hxl]
          have hkr : ∀ n ∈ l, ∀ k ∈ n.kids.l, 0 ≤ k ∧ k < l.length := fun n hn k hk => by
            obtain ⟨j, i, hj⟩ := prs_mem hn hk
            have h2 := hall j _ (List.getElem?_eq_some_iff.1 hj).1 hj
            simp [badLink] at h2
            omega
          have hu0 : unv l (fun _ => 0) ≤ l.length := cnt_all _ _
          refine (goes_ac hx (N := l.length) hlen hkr hkl (l.length + 1) 0 1 ([], fun _ => 0) τ3 (by omega) (by omega) (by omega) ⟨fun i => Int.le_refl _, by simpa using hu0⟩ (Nat.lt_succ_of_le hu0) (hC.go hw3)).mono ?_
          rintro _ τ4 hW
          have hC4 : Ck σ τ4 b1 m1 b2 wid mid (tmP l (prs l).length) a (walkP l) := hC.gone hW
          have hgood : (prs l).find? (badLink l) = none := find_none fun j p hj => hall j p (List.getElem?_eq_some_iff.1 hj).1 hj
          refine hK34 _ _ ?_; clear hK34 K34
          refine hK33 _ _ ?_
          refine AT.seq fun K35 hK35 => ?_
          refine AT.regionK [] fun K36 hK36 => ?_
          simp [and_assoc, rdS, Value.cells, beqI, bneI, asfill, afill, splice, List.replicate, AV.isPtr, AV.plus, ifS_some, avG, avI, avB, avM, avA, avT, abMap, abRow, dops, dput, gev, oev, Res.run, Res.runQ, rcall, rapp, rbin, run1, ridx, rslice, dqs, dputQ, qok, dls, dputL, dthen, vmax, vstep, ofInt?, gt, ev, constAV, argTm, glook, dlt, aload, astore, ptCells, eI, eB, AH.set_same, AH.set_none, AH.set_set, nilS, hxl]
          refine hK36 _ _ ?_; clear hK36 K36
          refine hK35 _ _ ?_
          refine AT.seq fun K37 hK37 => ?_
          refine AT.seq fun K38 hK38 => ?_
          refine AT.regionK [] fun K39 hK39 => ?_
          simp [and_assoc, rdS, Value.cells, beqI, bneI, asfill, afill, splice, List.replicate, AV.isPtr, AV.plus, ifS_some, avG, avI, avB, avM, avA, avT, abMap, abRow, dops, dput, gev, oev, Res.run, Res.runQ, rcall, rapp, rbin, run1, ridx, rslice, dqs, dputQ, qok, dls, dputL, dthen, vmax, vstep, ofInt?, gt, ev, constAV, argTm, glook, dlt, aload, astore, ptCells, eI, eB, AH.set_same, AH.set_none, AH.set_set, nilS, hxl]
          refine hK39 _ _ ?_; clear hK39 K39
          refine hK38 _ _ ?_
          refine AT.block ?_
          refine AT.while (fun i : Nat => [(51, eI i), (50, eI l.length), (1, .pr [x] 0), (5, .pt b1 0), (6, .pt wid 0), (7, .pt b2 0), (8, eI 41)]) (fun i τ' => i ≤ l.length ∧ (∃ a, Ck σ τ' b1 m1 b2 wid mid (tmP l (prs l).length) a (walkP l)) ∧ ∀ (j : Nat), j < i → badAt l j = false) (fun i => l.length - i) 0 (by simp [has, gt, eI]) ⟨by omega, ⟨_, hC4⟩, fun j hj => absurd hj (by omega)⟩ ?_
          rintro i τ5 ⟨hi, ⟨a5, hC5⟩, hb5⟩
          refine AT.seq fun K40 hK40 => ?_
          refine AT.regionK [] fun K41 hK41 => ?_
          simp [and_assoc, rdS, Value.cells, beqI, bneI, asfill, afill, splice, List.replicate, AV.isPtr, AV.plus, ifS_some, avG, avI, avB, avM, avA, avT, abMap, abRow, dops, dput, gev, oev, Res.run, Res.runQ, rcall, rapp, rbin, run1, ridx, rslice, dqs, dputQ, qok, dls, dputL, dthen, vmax, vstep, ofInt?, gt, ev, constAV, argTm, glook, dlt, aload, astore, ptCells, eI, eB, AH.set_same, AH.set_none, AH.set_set, nilS, hxl]
          refine hK41 _ _ ?_; clear hK41 K41
          refine hK40 _ _ ?_
          refine AT.seq fun K42 hK42 => ?_
          refine AT.cond rfl (fun ht => ?_) (fun hf => ?_)
          · simp at ht
            have hw6 : IntKind.i64.wrap ((i : Int) + 1) = (i : Int) + 1 := wI (by omega) (by omega)
            have hab5 := hC5.ab
            refine AT.skip ?_
            refine hK42 _ _ ?_
            refine AT.seq fun K43 hK43 => ?_
            refine AT.block ?_
            refine AT.seq fun K44 hK44 => ?_
            refine AT.regionK [] fun K45 hK45 => ?_
            simp [and_assoc, rdS, Value.cells, beqI, bneI, asfill, afill, splice, List.replicate, AV.isPtr, AV.plus, ifS_some, avG, avI, avB, avM, avA, avT, abMap, abRow, dops, dput, gev, oev, Res.run, Res.runQ, rcall, rapp, rbin, run1, ridx, rslice, dqs, dputQ, qok, dls, dputL, dthen, vmax, vstep, ofInt?, gt, ev, constAV, argTm, glook, dlt, aload, astore, ptCells, eI, eB, AH.set_same, AH.set_none, AH.set_set, nilS, hxl]
            refine hK45 _ _ ?_; clear hK45 K45
            refine hK44 _ _ ?_
            refine AT.seq fun K46 hK46 => ?_
            refine AT.regionK [] fun K47 hK47 => ?_
            simp [and_assoc, rdS, Value.cells, beqI, bneI, asfill, afill, splice, List.replicate, AV.isPtr, AV.plus, ifS_some, avG, avI, avB, avM, avA, avT, abMap, abRow, dops, dput, gev, oev, Res.run, Res.runQ, rcall, rapp, rbin, run1, ridx, rslice, dqs, dputQ, qok, dls, dputL, dthen, vmax, vstep, ofInt?, gt, ev, constAV, argTm, glook, dlt, aload, astore, ptCells, eI, eB, AH.set_same, AH.set_none, AH.set_set, nilS, hxl, hab5]
            have hC6 := hC5.setA (i : Int)
            simp only [eI] at hC6
            generalize AH.set τ5 b2 _ = τ6 at hC6 ⊢
            obtain ⟨ov, hw, hov⟩ := hC6.wk.w
            have htb6 := hC6.tb
            have hmt6 := hC6.mt
            have hmd6 := hC6.wk.m
            refine hK47 _ _ ?_; clear hK47 K47
            refine hK46 _ _ ?_
            refine AT.cut (fun α' σ' => has [(71, eB (badAt l i)), (51, eI i), (50, eI l.length), (1, .pr [x] 0), (5, .pt b1 0), (6, .pt wid 0), (7, .pt b2 0), (8, eI 41)] α' ∧ τ6 = σ') ?_ ?_
            · skip
              refine AT.regionK [] fun K hK => ?_
              by_cases h2 : i > 0
              · by_cases h3 : tmP l (prs l).length i = 1
                · simp [and_assoc, rdS, Value.cells, beqI, bneI, asfill, afill, splice, List.replicate, AV.isPtr, AV.plus, ifS_some, avG, avI, avB, avM, avA, avT, abMap, abRow, dops, dput, gev, oev, Res.run, Res.runQ, rcall, rapp, rbin, run1, ridx, rslice, dqs, dputQ, qok, dls, dputL, dthen, vmax, vstep, ofInt?, gt, ev, constAV, argTm, glook, dlt, aload, astore, ptCells, eI, eB, AH.set_same, AH.set_none, AH.set_set, nilS, hxl, htb6, hmt6, hmd6, hw, mapF_get, h2, h3]
                  refine hK _ _ ⟨?_, rfl⟩
                  simp [has, gt, eI, eB, badAt, h2, h3]
                · simp [and_assoc, rdS, Value.cells, beqI, bneI, asfill, afill, splice, List.replicate, AV.isPtr, AV.plus, ifS_some, avG, avI, avB, avM, avA, avT, abMap, abRow, dops, dput, gev, oev, Res.run, Res.runQ, rcall, rapp, rbin, run1, ridx, rslice, dqs, dputQ, qok, dls, dputL, dthen, vmax, vstep, ofInt?, gt, ev, constAV, argTm, glook, dlt, aload, astore, ptCells, eI, eB, AH.set_same, AH.set_none, AH.set_set, nilS, hxl, htb6, hmt6, hmd6, hw, mapF_get, h2, h3]
                  refine hK _ _ ⟨?_, rfl⟩
                  simp [has, gt, eI, eB, badAt, h2, h3]
              · simp [and_assoc, rdS, Value.cells, beqI, bneI, asfill, afill, splice, List.replicate, AV.isPtr, AV.plus, ifS_some, avG, avI, avB, avM, avA, avT, abMap, abRow, dops, dput, gev, oev, Res.run, Res.runQ, rcall, rapp, rbin, run1, ridx, rslice, dqs, dputQ, qok, dls, dputL, dthen, vmax, vstep, ofInt?, gt, ev, constAV, argTm, glook, dlt, aload, astore, ptCells, eI, eB, AH.set_same, AH.set_none, AH.set_set, nilS, hxl, htb6, hmt6, hmd6, hw, mapF_get, h2]
                refine hK _ _ ⟨?_, rfl⟩
                simp [has, gt, eI, eB, badAt, h2]
            · rintro α' σ' ⟨hα, rfl⟩
              refine AT.has _ hα ?_
              refine AT.cond rfl (fun ht => ?_) (fun hf => ?_)
              · skip
                refine AT.goto ?_
                try simp only [thenQ, blockQ, scopeQ]
                exact ⟨⟨0, by trivial, b2, i, 41, by simp [has, gt, eI], hC6.le, hC6.ab, by unfold checkE; rw [if_neg h1, if_neg (by omega), hgood, find_range ht hb5 (by omega)]⟩, by first | rfl | trivial⟩
              · skip
                refine AT.skip ?_
                refine hK43 _ _ ?_
                refine AT.regionK [] fun K49 hK49 => ?_
                simp [and_assoc, rdS, Value.cells, beqI, bneI, asfill, afill, splice, List.replicate, AV.isPtr, AV.plus, ifS_some, avG, avI, avB, avM, avA, avT, abMap, abRow, dops, dput, gev, oev, Res.run, Res.runQ, rcall, rapp, rbin, run1, ridx, rslice, dqs, dputQ, qok, dls, dputL, dthen, vmax, vstep, ofInt?, gt, ev, constAV, argTm, glook, dlt, aload, astore, ptCells, eI, eB, AH.set_same, AH.set_none, AH.set_set, nilS, hxl]
                refine hK49 _ _ ?_; clear hK49 K49
                exact ⟨i + 1, by omega, by simp [has, gt, eI, eB, hw6], by omega, ⟨_, hC6⟩, fun j hj => by
                  by_cases hji : j = i
                  · subst hji; exact hf
                  · exact hb5 j (by omega)⟩
          · simp at hf
            have hend : i = l.length := by omega
            subst hend
            refine AT.exit ?_
            try simp only [thenQ, blockQ, scopeQ, if_true]
            refine hK37 _ _ ?_
            refine AT.seq fun K50 hK50 => ?_
            refine AT.regionK [] fun K51 hK51 => ?_
            simp [and_assoc, rdS, Value.cells, beqI, bneI, asfill, afill, splice, List.replicate, AV.isPtr, AV.plus, ifS_some, avG, avI, avB, avM, avA, avT, abMap, abRow, dops, dput, gev, oev, Res.run, Res.runQ, rcall, rapp, rbin, run1, ridx, rslice, dqs, dputQ, qok, dls, dputL, dthen, vmax, vstep, ofInt?, gt, ev, constAV, argTm, glook, dlt, aload, astore, ptCells, eI, eB, AH.set_same, AH.set_none, AH.set_set, nilS, hxl]
            refine hK51 _ _ ?_; clear hK51 K51
            refine hK50 _ _ ?_
            refine AT.seq fun K52 hK52 => ?_
            refine AT.label ?_
            refine hK52 _ _ ?_
            refine AT.seq fun K53 hK53 => ?_
            refine AT.seq fun K54 hK54 => ?_
            refine AT.regionK [] fun K55 hK55 => ?_
            simp [and_assoc, rdS, Value.cells, beqI, bneI, asfill, afill, splice, List.replicate, AV.isPtr, AV.plus, ifS_some, avG, avI, avB, avM, avA, avT, abMap, abRow, dops, dput, gev, oev, Res.run, Res.runQ, rcall, rapp, rbin, run1, ridx, rslice, dqs, dputQ, qok, dls, dputL, dthen, vmax, vstep, ofInt?, gt, ev, constAV, argTm, glook, dlt, aload, astore, ptCells, eI, eB, AH.set_same, AH.set_none, AH.set_set, nilS, hxl]
            refine hK55 _ _ ?_; clear hK55 K55
            refine hK54 _ _ ?_
            refine AT.block ?_
            refine AT.while (fun i : Nat => [(75, eI i), (74, eI l.length), (1, .pr [x] 0), (6, .pt wid 0), (7, .pt b2 0), (8, eI 42)]) (fun i τ' => i ≤ l.length ∧ (∃ a, Ck σ τ' b1 m1 b2 wid mid (tmP l (prs l).length) a (walkP l)) ∧ ∀ (j : Nat), j < i → deepAt l j = false) (fun i => l.length - i) 0 (by simp [has, gt, eI]) ⟨by omega, ⟨_, hC5⟩, fun j hj => absurd hj (by omega)⟩ ?_
            rintro i τ6 ⟨hi, ⟨a6, hC6⟩, hb6⟩
            refine AT.seq fun K56 hK56 => ?_
            refine AT.regionK [] fun K57 hK57 => ?_
            simp [and_assoc, rdS, Value.cells, beqI, bneI, asfill, afill, splice, List.replicate, AV.isPtr, AV.plus, ifS_some, avG, avI, avB, avM, avA, avT, abMap, abRow, dops, dput, gev, oev, Res.run, Res.runQ, rcall, rapp, rbin, run1, ridx, rslice, dqs, dputQ, qok, dls, dputL, dthen, vmax, vstep, ofInt?, gt, ev, constAV, argTm, glook, dlt, aload, astore, ptCells, eI, eB, AH.set_same, AH.set_none, AH.set_set, nilS, hxl]
            refine hK57 _ _ ?_; clear hK57 K57
            refine hK56 _ _ ?_
            refine AT.seq fun K58 hK58 => ?_
            refine AT.cond rfl (fun ht => ?_) (fun hf => ?_)
            · simp at ht
              have hw6 : IntKind.i64.wrap ((i : Int) + 1) = (i : Int) + 1 := wI (by omega) (by omega)
              obtain ⟨ov, hw, hov⟩ := hC6.wk.w
              have hmd6 := hC6.wk.m
              have hab6 := hC6.ab
              refine AT.skip ?_
              refine hK58 _ _ ?_
              refine AT.seq fun K59 hK59 => ?_
              refine AT.block ?_
              refine AT.seq fun K60 hK60 => ?_
              refine AT.regionK [] fun K61 hK61 => ?_
              simp [and_assoc, rdS, Value.cells, beqI, bneI, asfill, afill, splice, List.replicate, AV.isPtr, AV.plus, ifS_some, avG, avI, avB, avM, avA, avT, abMap, abRow, dops, dput, gev, oev, Res.run, Res.runQ, rcall, rapp, rbin, run1, ridx, rslice, dqs, dputQ, qok, dls, dputL, dthen, vmax, vstep, ofInt?, gt, ev, constAV, argTm, glook, dlt, aload, astore, ptCells, eI, eB, AH.set_same, AH.set_none, AH.set_set, nilS, hxl]
              refine hK61 _ _ ?_; clear hK61 K61
              refine hK60 _ _ ?_
              refine AT.seq fun K62 hK62 => ?_
              refine AT.seq fun K63 hK63 => ?_
              refine AT.regionK [] fun K64 hK64 => ?_
              simp [and_assoc, rdS, Value.cells, beqI, bneI, asfill, afill, splice, List.replicate, AV.isPtr, AV.plus, ifS_some, avG, avI, avB, avM, avA, avT, abMap, abRow, dops, dput, gev, oev, Res.run, Res.runQ, rcall, rapp, rbin, run1, ridx, rslice, dqs, dputQ, qok, dls, dputL, dthen, vmax, vstep, ofInt?, gt, ev, constAV, argTm, glook, dlt, aload, astore, ptCells, eI, eB, AH.set_same, AH.set_none, AH.set_set, nilS, hxl, hw, hmd6, mapF_get]
              refine hK64 _ _ ?_; clear hK64 K64
              refine hK63 _ _ ?_
              refine AT.cond rfl (fun ht => ?_) (fun hf => ?_)
              · simp at ht
                refine AT.exit ?_
                try simp only [thenQ, blockQ, scopeQ, if_true]
                refine hK59 _ _ ?_
                refine AT.regionK [] fun K65 hK65 => ?_
                simp [and_assoc, rdS, Value.cells, beqI, bneI, asfill, afill, splice, List.replicate, AV.isPtr, AV.plus, ifS_some, avG, avI, avB, avM, avA, avT, abMap, abRow, dops, dput, gev, oev, Res.run, Res.runQ, rcall, rapp, rbin, run1, ridx, rslice, dqs, dputQ, qok, dls, dputL, dthen, vmax, vstep, ofInt?, gt, ev, constAV, argTm, glook, dlt, aload, astore, ptCells, eI, eB, AH.set_same, AH.set_none, AH.set_set, nilS, hxl]
                refine hK65 _ _ ?_; clear hK65 K65
                exact ⟨i + 1, by omega, by simp [has, gt, eI, eB, hw6], by omega, ⟨_, hC6⟩, fun j hj => by
                  by_cases hji : j = i
                  · subst hji; simpa [deepAt] using ht
                  · exact hb6 j (by omega)⟩
              · simp at hf
                refine AT.skip ?_
                refine hK62 _ _ ?_
                refine AT.seq fun K66 hK66 => ?_
                refine AT.regionK [] fun K67 hK67 => ?_
                simp [and_assoc, rdS, Value.cells, beqI, bneI, asfill, afill, splice, List.replicate, AV.isPtr, AV.plus, ifS_some, avG, avI, avB, avM, avA, avT, abMap, abRow, dops, dput, gev, oev, Res.run, Res.runQ, rcall, rapp, rbin, run1, ridx, rslice, dqs, dputQ, qok, dls, dputL, dthen, vmax, vstep, ofInt?, gt, ev, constAV, argTm, glook, dlt, aload, astore, ptCells, eI, eB, AH.set_same, AH.set_none, AH.set_set, nilS, hxl, hab6]
                have hC7 := hC6.setA (i : Int)
                simp only [eI] at hC7
                generalize AH.set τ6 b2 _ = τ7 at hC7 ⊢
                refine hK67 _ _ ?_; clear hK67 K67
                refine hK66 _ _ ?_
                refine AT.goto ?_
                try simp only [thenQ, blockQ, scopeQ]
                exact ⟨⟨0, by trivial, b2, i, 42, by simp [has, gt, eI], hC7.le, hC7.ab, by unfold checkE; rw [if_neg h1, if_neg (by omega), hgood, find_range0 hb5 , find_range (by simpa [deepAt] using hf) hb6 (by omega)]⟩, by first | rfl | trivial⟩
            · simp at hf
              have hend : i = l.length := by omega
              subst hend
              refine AT.exit ?_
              try simp only [thenQ, blockQ, scopeQ, if_true]
              refine hK53 _ _ ?_
              refine AT.seq fun K68 hK68 => ?_
              refine AT.seq fun K69 hK69 => ?_
              refine AT.regionK [] fun K70 hK70 => ?_
              simp [and_assoc, rdS, Value.cells, beqI, bneI, asfill, afill, splice, List.replicate, AV.isPtr, AV.plus, ifS_some, avG, avI, avB, avM, avA, avT, abMap, abRow, dops, dput, gev, oev, Res.run, Res.runQ, rcall, rapp, rbin, run1, ridx, rslice, dqs, dputQ, qok, dls, dputL, dthen, vmax, vstep, ofInt?, gt, ev, constAV, argTm, glook, dlt, aload, astore, ptCells, eI, eB, AH.set_same, AH.set_none, AH.set_set, nilS, hxl]
              refine hK70 _ _ ?_; clear hK70 K70
              refine hK69 _ _ ?_
              refine AT.ret ?_
              try simp only [thenQ, blockQ, scopeQ]
              have hce : checkE l = none := by unfold checkE; rw [if_neg h1, if_neg (by omega), hgood, find_range0 hb5, find_range0 hb6]
              refine ret_keep (σ := τ6) rfl (AH.le_refl _) ?_
              simp only [hce]
              exact ⟨wid, mid, rfl, hC6.wk⟩
        · rintro c τ3 ⟨rfl, a, hle, hab3, hce⟩
          refine AT.goto ?_
          try simp only [thenQ, blockQ, scopeQ]
          exact ⟨⟨0, by trivial, b2, a, 40, by simp [has, gt, eI], hle, hab3, hce⟩, by first | rfl | trivial⟩

end Go.Proofs.Ytdimikmgkdcglaa
