/- Walks: what is met of a page from its root on. No conditions. Printed by gen_walk.py. -/
import Derived.Test.YtdimikmgkdcglaaD4
set_option linter.unusedVariables false
set_option linter.unusedSimpArgs false
namespace Go.Proofs.Ytdimikmgkdcglaa
open Go.RowKit

@[simp] theorem keyOps3 : KeyOps Try.prog 3 1 = True := eq_true (keyOps_int (by kernel_rfl))
@[simp] theorem akey_int (n : Int) : akey (.sc (.int .i64 n)) = some [n] := rfl

/-- A map of whole numbers, none of them naught. -/
def mapF (D : Int → Int) : List Int → Option AV
  | [i] => if D i = 0 then none else some (.sc (.int .i64 (D i)))
  | _ => none
def updF (D : Int → Int) (k v : Int) : Int → Int := fun i => if i = k then v else D i
theorem mapF_get (D : Int → Int) (k : Int) : (mapF D [k]).getD (.sc (.int .i64 0)) = .sc (.int .i64 (D k)) := by
  by_cases h : D k = 0 <;> simp [mapF, h]
theorem mapF_upd {D : Int → Int} {k v : Int} (hv : v ≠ 0) : mupd (mapF D) [k] (.sc (.int .i64 v)) = mapF (updF D k v) := by
  funext ks
  unfold mupd
  by_cases h : ks = [k]
  · subst h; simp [mapF, updF, hv]
  · rw [if_neg h]
    match ks with
    | [] => rfl
    | [i] =>
      have : i ≠ k := fun e => h (by rw [e])
      simp [mapF, updF, this]
    | _ :: _ :: _ => rfl
theorem mapF_zero : mapF (fun _ => 0) = fun _ => none := by
  funext ks
  match ks with
  | [] => rfl
  | [i] => simp [mapF]
  | _ :: _ :: _ => rfl

def kidsAt (l : List Nd) (i : Int) : List Int := match l[i.toNat]? with
  | some n => n.kids.l
  | none => []
/-- A walk: places in order, depths. -/
abbrev Wk := List Int × (Int → Int)
def goesP (l : List Nd) : Nat → Int → Int → Wk → Wk
  | 0, _, _, s => s
  | f + 1, at', deep, s => if s.2 at' > 0 then s else (kidsAt l at').foldl (fun s k => goesP l f k (deep + 1) s) (s.1 ++ [at'], updF s.2 at' deep)
/-- How many nodes have not been met. -/
def unv (l : List Nd) (D : Int → Int) : Nat := cnt (fun i => decide (D i = 0)) l.length
theorem unv_upd {l : List Nd} {D : Int → Int} {i : Nat} {v : Int} (hi : i < l.length) (h0 : D i = 0) (hv : v ≠ 0) : unv l (updF D i v) + 1 ≤ unv l D := by
  refine cnt_lt (fun j hj => ?_) (x := i) ?_ ?_ _ hi
  · have hj' := of_decide_eq_true hj
    unfold updF at hj'
    split at hj'
    · exact absurd hj' hv
    · exact decide_eq_true hj'
  · simp [updF, hv]
  · simp [h0]
/-- The walk's blocks. -/
structure WkAt (σ0 σ : AH) (wid mid : Nat) (s : Wk) : Prop where
  w : ∃ ov, σ wid = some (.box [ov, .mp mid] 106) ∧ ((ov = nilS ∧ s.1 = []) ∨ ∃ oid st, ov = .sl oid s.1.length ∧ σ oid = some (.row (eIs s.1) 1 3 st) ∧ oid ≠ wid ∧ oid ≠ mid ∧ σ0 oid = none)
  m : σ mid = some (.map (mapF s.2) 1)
  ne : wid ≠ mid
  le : σ0.le σ
  w0 : σ0 wid = none
  m0 : σ0 mid = none
/-- Links that are right; depths that are counted from one. -/
structure WkOK (l : List Nd) (N : Nat) (s : Wk) : Prop where
  pos : ∀ i, 0 ≤ s.2 i
  many : s.1.length + unv l s.2 ≤ N

theorem goesP_ok {l : List Nd} {N : Nat} (hk : ∀ n ∈ l, ∀ k ∈ n.kids.l, 0 ≤ k ∧ k < l.length) : ∀ (f : Nat) (i deep : Int) (s : Wk), 0 < deep → 0 ≤ i → i < l.length → WkOK l N s → WkOK l N (goesP l f i deep s) ∧ unv l (goesP l f i deep s).2 ≤ unv l s.2
  | 0, i, deep, s, _, _, _, h => ⟨h, Nat.le_refl _⟩
  | f + 1, i, deep, s, hd, h0, hi, h => by
    unfold goesP
    split
    · exact ⟨h, Nat.le_refl _⟩
    · rename_i hz
      have hz' : s.2 i = 0 := by have := h.pos i; omega
      obtain ⟨n, rfl⟩ := Int.eq_ofNat_of_zero_le h0
      have hn : n < l.length := by omega
      have hu := unv_upd (l := l) (D := s.2) (i := n) (v := deep) hn hz' (by omega)
      have hstart : WkOK l N (s.1 ++ [(n : Int)], updF s.2 n deep) := ⟨fun j => by simp only [updF]; split; omega; exact h.pos j, by have := h.many; simp; omega⟩
      have key : ∀ (ks : List Int) (s' : Wk), (∀ k ∈ ks, 0 ≤ k ∧ k < l.length) → WkOK l N s' → WkOK l N (ks.foldl (fun s k => goesP l f k (deep + 1) s) s') ∧ unv l (ks.foldl (fun s k => goesP l f k (deep + 1) s) s').2 ≤ unv l s'.2 := by
        intro ks
        induction ks with
        | nil => intro s' _ h'; exact ⟨h', Nat.le_refl _⟩
        | cons k ks ih =>
          intro s' hks h'
          obtain ⟨q1, q2⟩ := goesP_ok hk f k (deep + 1) s' (by omega) (hks k (by simp)).1 (hks k (by simp)).2 h'
          obtain ⟨q3, q4⟩ := ih _ (fun k hk => hks k (by simp [hk])) q1
          exact ⟨q3, Nat.le_trans q4 q2⟩
      have hks : ∀ k ∈ kidsAt l (n : Int), 0 ≤ k ∧ k < l.length := fun k hkm => by
        unfold kidsAt at hkm
        rw [Int.toNat_natCast] at hkm
        cases hg : l[n]? with
        | none => rw [hg] at hkm; simp at hkm
        | some nd => rw [hg] at hkm; exact hk nd (List.mem_of_getElem? hg) k hkm
      obtain ⟨q1, q2⟩ := key _ _ hks hstart
      exact ⟨q1, Nat.le_trans q2 (by show unv l (updF s.2 (n : Int) deep) ≤ _; omega)⟩
theorem wk_start {l : List Nd} {N : Nat} {s : Wk} {i : Nat} {deep : Int} (h : WkOK l N s) (hz : s.2 i = 0) (hi : i < l.length) (hd : 0 < deep) : WkOK l N (s.1 ++ [(i : Int)], updF s.2 i deep) ∧ unv l (updF s.2 i deep) + 1 ≤ unv l s.2 := by
  have hu := unv_upd (l := l) (D := s.2) (i := i) (v := deep) hi hz (by omega)
  exact ⟨⟨fun j => by simp only [updF]; split; omega; exact h.pos j, by have := h.many; simp; omega⟩, hu⟩

set_option maxHeartbeats 4000000 in
theorem goesStep_ac {l : List Nd} {x : AV} (hx : IsS x (eN l)) {σ0 : AH} {wid mid N : Nat} (hN : N < 1000000000) (hk : ∀ n ∈ l, ∀ k ∈ n.kids.l, 0 ≤ k ∧ k < l.length) (hkl : ∀ n ∈ l, n.kids.l.length < 4611686018427387904) (f : Nat)
    (IH : ∀ (i : Nat) (deep : Int) (s : Wk) (σ : AH), 0 < deep → deep + f < 4611686018427387904 → i < l.length → WkOK l N s → unv l s.2 < f → WkAt σ0 σ wid mid s → AC Try.prog 123 [.pt wid 0, x, eI i, eI deep] σ fun _ σ' => WkAt σ0 σ' wid mid (goesP l f i deep s))
    (i : Nat) (deep : Int) (s : Wk) (σ : AH) (hd : 0 < deep) (hdf : deep + (f + 1 : Nat) < 4611686018427387904) (hi : i < l.length) (hok : WkOK l N s) (hu : unv l s.2 < f + 1) (hW : WkAt σ0 σ wid mid s) : AC Try.prog 123 [.pt wid 0, x, eI i, eI deep] σ fun r σ' => WkAt σ0 σ' wid mid (goesP l (f + 1) i deep s) := by
  refine AC.of_body Try.func123 (by kernel_rfl) rfl (by rw [Try.ntmps123]; simp) ?_
  rw [Try.ntmps123]
  obtain ⟨ov, hw, hov⟩ := hW.w
  have hm := hW.m
  have hget : l[i]? = some l[i] := by simp
  have hro := hx.at (eN_get hget)
  subst hro
  refine AT.seq fun K1 hK1 => ?_
  refine AT.seq fun K2 hK2 => ?_
  refine AT.regionK [] fun K3 hK3 => ?_
  simp [and_assoc, rdS, Value.cells, beqI, bneI, asfill, afill, splice, List.replicate, AV.isPtr, AV.plus, ifS_some, avG, avI, avB, avM, avA, avT, abMap, abRow, dops, dput, gev, oev, Res.run, Res.runQ, rcall, rapp, rbin, run1, ridx, rslice, dqs, dputQ, qok, dls, dputL, dthen, vmax, vstep, ofInt?, gt, ev, constAV, argTm, glook, dlt, aload, astore, ptCells, eI, eB, AH.set_same, AH.set_none, AH.set_set, nilS, hw, hm, mapF_get]
  refine hK3 _ _ ?_; clear hK3 K3
  refine hK2 _ _ ?_
  refine AT.cond rfl (fun ht => ?_) (fun hf => ?_)
  · simp at ht
    refine AT.ret ?_
    try simp only [thenQ, blockQ, scopeQ]
    refine ret_keep rfl (AH.le_refl _) ?_
    have : goesP l (f + 1) i deep s = s := by unfold goesP; rw [if_pos ht]
    rw [this]; exact hW
  · simp at hf
    refine AT.skip ?_
    refine hK1 _ _ ?_
    refine AT.cut (fun α' σ' => has [(0, .pt wid 0), (1, .ro (eN l)), (2, eI i), (3, eI deep)] α' ∧ WkAt σ0 σ' wid mid (s.1 ++ [(i : Int)], s.2)) ?_ ?_
    · skip
      refine AT.regionK [] fun K hK => ?_
      have hne := hW.ne
      have hlen : s.1.length < 1000000000 := by have := hok.many; omega
      rcases hov with ⟨rfl, hnil⟩ | ⟨oid, st, rfl, ho, ho1, ho2, ho3⟩
      · simp [and_assoc, rdS, Value.cells, beqI, bneI, asfill, afill, splice, List.replicate, AV.isPtr, AV.plus, ifS_some, avG, avI, avB, avM, avA, avT, abMap, abRow, dops, dput, gev, oev, Res.run, Res.runQ, rcall, rapp, rbin, run1, ridx, rslice, dqs, dputQ, qok, dls, dputL, dthen, vmax, vstep, ofInt?, gt, ev, constAV, argTm, glook, dlt, aload, astore, ptCells, eI, eB, AH.set_same, AH.set_none, AH.set_set, nilS, hw]
        intro y hy
        have hyw : y ≠ wid := by rintro rfl; rw [hw] at hy; cases hy
        have hym : y ≠ mid := by rintro rfl; rw [hm] at hy; cases hy
        have hwy : ∀ b, (σ.set y b) wid = some (.box [.sc (.slice none 0 0), .mp mid] 106) := fun b => by rw [AH.set_other _ (Ne.symm hyw)]; exact hw
        simp [and_assoc, rdS, Value.cells, beqI, bneI, asfill, afill, splice, List.replicate, AV.isPtr, AV.plus, ifS_some, avG, avI, avB, avM, avA, avT, abMap, abRow, dops, dput, gev, oev, Res.run, Res.runQ, rcall, rapp, rbin, run1, ridx, rslice, dqs, dputQ, qok, dls, dputL, dthen, vmax, vstep, ofInt?, gt, ev, constAV, argTm, glook, dlt, aload, astore, ptCells, eI, eB, AH.set_same, AH.set_none, AH.set_set, nilS, hwy]
        refine hK _ _ ⟨by simp [has, gt, eI], ?_⟩
        refine ⟨⟨.sl y 1, by rw [AH.set_same], .inr ⟨y, 0, by simp [hnil], by rw [AH.set_other _ hyw, AH.set_same]; simp [hnil, eIs, eI], hyw, hym, AH.le_none hW.le hy⟩⟩, by rw [AH.set_other _ (Ne.symm hne), AH.set_other _ (Ne.symm hym)]; exact hm, hne, ?_, hW.w0, hW.m0⟩
        exact AH.le_set _ hW.w0 (AH.le_set _ (AH.le_none hW.le hy) hW.le)
      · have hcap : s.1.length + 1 ≤ 17592186044416 := by omega
        have hcap2 : s.1.length + 1 ≤ 140737488355328 := by omega
        have hcap3 : (s.1.length + 1) * 8 ≤ 140737488355328 := by omega
        have hcap4 : s.1.length ≤ 140737488355327 := by omega
        have hwo : ∀ b, (σ.set oid b) wid = some (.box [.sl oid s.1.length, .mp mid] 106) := fun b => by rw [AH.set_other _ (Ne.symm ho1)]; exact hw
        simp [and_assoc, rdS, Value.cells, beqI, bneI, asfill, afill, splice, List.replicate, AV.isPtr, AV.plus, ifS_some, avG, avI, avB, avM, avA, avT, abMap, abRow, dops, dput, gev, oev, Res.run, Res.runQ, rcall, rapp, rbin, run1, ridx, rslice, dqs, dputQ, qok, dls, dputL, dthen, vmax, vstep, ofInt?, gt, ev, constAV, argTm, glook, dlt, aload, astore, ptCells, eI, eB, AH.set_same, AH.set_none, AH.set_set, nilS, hw, ho, eIs_len, hcap4, hcap3, hwo]
        refine hK _ _ ⟨by simp [has, gt, eI], ?_⟩
        refine ⟨⟨.sl oid (s.1.length + 1), by rw [AH.set_same], .inr ⟨oid, st, by simp, by rw [AH.set_other _ ho1, AH.set_same]; simp [eIs, eI], ho1, ho2, ho3⟩⟩, by rw [AH.set_other _ (Ne.symm hne), AH.set_other _ (Ne.symm ho2)]; exact hm, hne, ?_, hW.w0, hW.m0⟩
        exact AH.le_set _ hW.w0 (AH.le_set _ ho3 hW.le)
    · rintro α' σ1 ⟨hα, hW1⟩
      refine AT.has _ hα ?_
      refine AT.cut (fun α' σ' => has [(0, .pt wid 0), (1, .ro (eN l)), (2, eI i), (3, eI deep)] α' ∧ WkAt σ0 σ' wid mid (s.1 ++ [(i : Int)], updF s.2 i deep)) ?_ ?_
      · skip
        refine AT.regionK [] fun K hK => ?_
        obtain ⟨ov1, hw1, hov1⟩ := hW1.w
        have hm1 := hW1.m
        simp [and_assoc, rdS, Value.cells, beqI, bneI, asfill, afill, splice, List.replicate, AV.isPtr, AV.plus, ifS_some, avG, avI, avB, avM, avA, avT, abMap, abRow, dops, dput, gev, oev, Res.run, Res.runQ, rcall, rapp, rbin, run1, ridx, rslice, dqs, dputQ, qok, dls, dputL, dthen, vmax, vstep, ofInt?, gt, ev, constAV, argTm, glook, dlt, aload, astore, ptCells, eI, eB, AH.set_same, AH.set_none, AH.set_set, nilS, hw1, hm1, mapF_upd (show deep ≠ 0 by omega)]
        refine hK _ _ ⟨by simp [has, gt, eI], ?_⟩
        have hne := hW1.ne
        refine ⟨⟨ov1, by rw [AH.set_other _ hne]; exact hw1, ?_⟩, AH.set_same _ _ _, hne, AH.le_set _ hW1.m0 hW1.le, hW1.w0, hW1.m0⟩
        rcases hov1 with h | ⟨oid, st, q1, q2, q3, q4, q5⟩
        · exact .inl h
        · exact .inr ⟨oid, st, q1, by rw [AH.set_other _ q4]; exact q2, q3, q4, q5⟩
      · rintro α' σ2 ⟨hα, hW2⟩
        refine AT.has _ hα ?_
        refine AT.seq fun K6 hK6 => ?_
        refine AT.regionK [] fun K7 hK7 => ?_
        simp [and_assoc, rdS, Value.cells, beqI, bneI, asfill, afill, splice, List.replicate, AV.isPtr, AV.plus, ifS_some, avG, avI, avB, avM, avA, avT, abMap, abRow, dops, dput, gev, oev, Res.run, Res.runQ, rcall, rapp, rbin, run1, ridx, rslice, dqs, dputQ, qok, dls, dputL, dthen, vmax, vstep, ofInt?, gt, ev, constAV, argTm, glook, dlt, aload, astore, ptCells, eI, eB, AH.set_same, AH.set_none, AH.set_set, nilS, hget, eN_get hget]
        refine hK7 _ _ ?_; clear hK7 K7
        refine hK6 _ _ ?_
        refine AT.block ?_
        have hz : s.2 i = 0 := by have := hok.pos i; omega
        obtain ⟨hok1, hu1⟩ := wk_start hok hz hi hd
        have hkk := hkl _ (List.getElem_mem hi)
        have hkm := hk _ (List.getElem_mem hi)
        generalize hn : l[i] = n at *
        have hkids : kidsAt l (i : Int) = n.kids.l := by simp [kidsAt, hget]
        refine AT.while (fun j : Nat => [(39, eI j), (38, eI n.kids.l.length), (37, n.kids.av), (0, .pt wid 0), (1, .ro (eN l)), (3, eI deep)]) (fun j σ' => j ≤ n.kids.l.length ∧ WkAt σ0 σ' wid mid ((n.kids.l.take j).foldl (fun s k => goesP l f k (deep + 1) s) (s.1 ++ [(i : Int)], updF s.2 i deep)) ∧ WkOK l N ((n.kids.l.take j).foldl (fun s k => goesP l f k (deep + 1) s) (s.1 ++ [(i : Int)], updF s.2 i deep)) ∧ unv l ((n.kids.l.take j).foldl (fun s k => goesP l f k (deep + 1) s) (s.1 ++ [(i : Int)], updF s.2 i deep)).2 < f) (fun j => n.kids.l.length - j) 0 (by simp [has, gt, eI]) ⟨by omega, hW2, hok1, by show unv l (updF s.2 i deep) < f; omega⟩ ?_
        rintro j σ3 ⟨hj, hW3, hok3, hu3⟩
        refine AT.seq fun K8 hK8 => ?_
        refine AT.regionK [] fun K9 hK9 => ?_
        simp [and_assoc, rdS, Value.cells, beqI, bneI, asfill, afill, splice, List.replicate, AV.isPtr, AV.plus, ifS_some, avG, avI, avB, avM, avA, avT, abMap, abRow, dops, dput, gev, oev, Res.run, Res.runQ, rcall, rapp, rbin, run1, ridx, rslice, dqs, dputQ, qok, dls, dputL, dthen, vmax, vstep, ofInt?, gt, ev, constAV, argTm, glook, dlt, aload, astore, ptCells, eI, eB, AH.set_same, AH.set_none, AH.set_set, nilS]
        refine hK9 _ _ ?_; clear hK9 K9
        refine hK8 _ _ ?_
        refine AT.seq fun K10 hK10 => ?_
        refine AT.cond rfl (fun ht => ?_) (fun hf => ?_)
        · simp at ht
          have hgk : n.kids.l[j]? = some n.kids.l[j] := by simp
          have hro2 := n.kids.isS.at (eIs_get hgk)
          have hw2 : IntKind.i64.wrap ((j : Int) + 1) = (j : Int) + 1 := wI (by omega) (by omega)
          obtain ⟨hk0, hk1⟩ := hkm _ (List.getElem_mem ht)
          obtain ⟨kn, hkn⟩ := Int.eq_ofNat_of_zero_le hk0
          have hknl : kn < l.length := by omega
          have hwd : IntKind.i64.wrap (deep + 1) = deep + 1 := wI (by omega) (by omega)
          have hT : (n.kids.l.take (j + 1)).foldl (fun s k => goesP l f k (deep + 1) s) (s.1 ++ [(i : Int)], updF s.2 i deep) = goesP l f kn (deep + 1) ((n.kids.l.take j).foldl (fun s k => goesP l f k (deep + 1) s) (s.1 ++ [(i : Int)], updF s.2 i deep)) := by
            rw [List.take_succ_eq_append_getElem ht, List.foldl_append, List.foldl_cons, List.foldl_nil, hkn]
          refine AT.skip ?_
          refine hK10 _ _ ?_
          refine AT.seq fun K11 hK11 => ?_
          refine AT.block ?_
          refine AT.seq fun K12 hK12 => ?_
          refine AT.regionK [] fun K13 hK13 => ?_
          simp [and_assoc, rdS, Value.cells, beqI, bneI, asfill, afill, splice, List.replicate, AV.isPtr, AV.plus, ifS_some, avG, avI, avB, avM, avA, avT, abMap, abRow, dops, dput, gev, oev, Res.run, Res.runQ, rcall, rapp, rbin, run1, ridx, rslice, dqs, dputQ, qok, dls, dputL, dthen, vmax, vstep, ofInt?, gt, ev, constAV, argTm, glook, dlt, aload, astore, ptCells, eI, eB, AH.set_same, AH.set_none, AH.set_set, nilS, hro2, eIs_get hgk, ht, hkn]
          refine hK13 _ _ ?_; clear hK13 K13
          refine hK12 _ _ ?_
          refine AT.regionK [] fun K14 hK14 => ?_
          simp [and_assoc, rdS, Value.cells, beqI, bneI, asfill, afill, splice, List.replicate, AV.isPtr, AV.plus, ifS_some, avG, avI, avB, avM, avA, avT, abMap, abRow, dops, dput, gev, oev, Res.run, Res.runQ, rcall, rapp, rbin, run1, ridx, rslice, dqs, dputQ, qok, dls, dputL, dthen, vmax, vstep, ofInt?, gt, ev, constAV, argTm, glook, dlt, aload, astore, ptCells, eI, eB, AH.set_same, AH.set_none, AH.set_set, nilS, hwd]
          refine (IH kn (deep + 1) _ σ3 (by omega) (by omega) hknl hok3 hu3 hW3).mono ?_
          rintro _ σ4 hW4
          refine hK14 _ _ ?_; clear hK14 K14
          refine hK11 _ _ ?_
          refine AT.regionK [] fun K15 hK15 => ?_
          simp [and_assoc, rdS, Value.cells, beqI, bneI, asfill, afill, splice, List.replicate, AV.isPtr, AV.plus, ifS_some, avG, avI, avB, avM, avA, avT, abMap, abRow, dops, dput, gev, oev, Res.run, Res.runQ, rcall, rapp, rbin, run1, ridx, rslice, dqs, dputQ, qok, dls, dputL, dthen, vmax, vstep, ofInt?, gt, ev, constAV, argTm, glook, dlt, aload, astore, ptCells, eI, eB, AH.set_same, AH.set_none, AH.set_set, nilS]
          refine hK15 _ _ ?_; clear hK15 K15
          exact ⟨j + 1, by omega, by simp [has, gt, eI, eB, hw2, hro2], by omega, by rw [hT]; exact hW4, by rw [hT]; exact (goesP_ok hk f kn (deep + 1) _ (by omega) (by omega) (by omega) hok3).1, by rw [hT]; have := (goesP_ok hk f kn (deep + 1) _ (by omega) (by omega) (by omega) hok3).2; omega⟩
        · simp at hf
          have hend : j = n.kids.l.length := by omega
          subst hend
          rw [List.take_length] at hW3
          refine AT.exit ?_
          try simp only [thenQ, blockQ, scopeQ, if_true]
          refine end_keep rfl (AH.le_refl _) ?_
          have : goesP l (f + 1) i deep s = (kidsAt l i).foldl (fun s k => goesP l f k (deep + 1) s) (s.1 ++ [(i : Int)], updF s.2 i deep) := by rw [goesP, if_neg (by omega)]
          rw [this, hkids]
          exact hW3

theorem goes_ac {l : List Nd} {x : AV} (hx : IsS x (eN l)) {σ0 : AH} {wid mid N : Nat} (hN : N < 1000000000) (hk : ∀ n ∈ l, ∀ k ∈ n.kids.l, 0 ≤ k ∧ k < l.length) (hkl : ∀ n ∈ l, n.kids.l.length < 4611686018427387904) : ∀ (f i : Nat) (deep : Int) (s : Wk) (σ : AH), 0 < deep → deep + f < 4611686018427387904 → i < l.length → WkOK l N s → unv l s.2 < f → WkAt σ0 σ wid mid s →
    AC Try.prog 123 [.pt wid 0, x, eI i, eI deep] σ fun _ σ' => WkAt σ0 σ' wid mid (goesP l f i deep s)
  | 0, _, _, _, _, _, _, _, _, hu, _ => absurd hu (by omega)
  | f + 1, i, deep, s, σ, hd, hdf, hi, hok, hu, hW => goesStep_ac hx hN hk hkl f (fun i deep s σ h1 h2 h3 h4 h5 h6 => goes_ac hx hN hk hkl f i deep s σ h1 h2 h3 h4 h5 h6) i deep s σ hd hdf hi hok hu hW


end Go.Proofs.Ytdimikmgkdcglaa
