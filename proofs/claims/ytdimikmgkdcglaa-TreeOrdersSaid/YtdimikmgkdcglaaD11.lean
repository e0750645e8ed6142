/- Walks: a page cut to size. No conditions. Printed by gen2.py. -/
import Derived.Test.YtdimikmgkdcglaaC7
import Derived.Test.YtdimikmgkdcglaaD8
set_option linter.unusedVariables false
set_option linter.unusedSimpArgs false
namespace Go.Proofs.Ytdimikmgkdcglaa
open Go.RowKit

attribute [-simp] rslice
/-- A slice's first ones. -/
def slT (m : Nat) (s : Sl) : Sl := s.map fun l => l.take m
theorem slT_l (m : Nat) (s : Sl) : (slT m s).l = s.l.take m := by cases s <;> simp [slT, Sl.l]
theorem rslice_run {P : Program} {σ : AH} {K : AV → AH → Prop} {t : TypeId} (s : Sl) (m : Nat) (hm : m ≤ s.l.length) (ht : (tslice P t).bind (tsz P) = some 1) (hK : K (slT m s).av σ) : (rslice P t none (some (.sc (.int .i64 m))) none σ s.av).run P σ K := by
  have ht2 : ∀ es : List (List AV), ifS ((tslice P t).bind (tsz P)) = fun f => f 1 := fun _ => by rw [ht]; rfl
  cases s with
  | none =>
    have h0 : m = 0 := by simpa [Sl.l] using hm
    subst h0
    exact ⟨⟨by rw [ht]; rfl, rfl, rfl, rfl⟩, hK⟩
  | some l =>
    have hl : m ≤ l.length := by simpa [Sl.l] using hm
    show (rslice P t none (some (.sc (.int .i64 m))) none σ (.ro (eIs l))).run P σ K
    unfold rslice
    simp only [ht, ifS_some]
    refine ⟨(eIs_all l).2 trivial, ?_⟩
    have hb : bound (eIs l).length (some (.sc (.int .i64 m))) = some m := by simp [bound]
    have hb0 : bound 0 (none : Option AV) = some 0 := rfl
    have hb1 : bound (eIs l).length (none : Option AV) = some l.length := by simp [bound]
    rw [hb0, ifS_some, hb, ifS_some, hb1, ifS_some]
    refine ⟨⟨by simp, by omega, hl, by simp⟩, ?_⟩
    have : ((eIs l).take m).drop 0 = eIs (l.take m) := by simp [eIs, List.map_take]
    rw [this]
    exact hK
@[simp] theorem wk_words (n : Nd) (k : Sl) : (n.wk k).words = n.words := rfl
@[simp] theorem wk_sty (n : Nd) (k : Sl) : (n.wk k).sty = n.sty := rfl
@[simp] theorem wk_kind (n : Nd) (k : Sl) : (n.wk k).kind = n.kind := rfl
def Nd.ww (n : Nd) (s : Sl) : Nd := { n with words := s }
@[simp] theorem splice_words (n : Nd) (s : Sl) : splice n.cells 31 [s.av] = (n.ww s).cells := rfl
def cutNd (n : Nd) : Nd := (n.wk (slT (min n.kids.l.length 30) n.kids)).ww (slT (min n.words.l.length 40) n.words)
def cutP (l : List Nd) : List Nd := (l.take 150).map cutNd
theorem cutP_len (l : List Nd) : (cutP l).length = min 150 l.length := by simp [cutP]
theorem cutP_prs (l : List Nd) : (prs (cutP l)).length ≤ 150 * 30 := by
  have h1 : ∀ (l : List Nd) (b : Nat), (∀ n ∈ l, n.kids.l.length ≤ 30) → (prsFrom b l).length ≤ l.length * 30 := by
    intro l
    induction l with
    | nil => intro b _; simp [prsFrom]
    | cons n r ih =>
      intro b h
      have h2 := ih (b + 1) fun m hm => h m (by simp [hm])
      have h3 := h n (by simp)
      simp only [prsFrom, List.length_append, List.length_map, List.length_cons]
      omega
  have h2 := h1 (cutP l) 0 fun n hn => by
    obtain ⟨m, _, rfl⟩ := List.mem_map.1 hn
    show (slT (min m.kids.l.length 30) m.kids).l.length ≤ 30
    rw [slT_l, List.length_take]
    omega
  rw [cutP_len] at h2
  unfold prs
  omega
theorem cutPg (l : List Nd) : Pg (slv (eN (cutP l))) (cutP l) := ⟨slv_isR _, by rw [cutP_len]; omega, by have := cutP_prs l; omega⟩
theorem cutP_take {l : List Nd} {i : Nat} (h : i < l.length) : (l.take (i + 1)).map cutNd = (l.take i).map cutNd ++ [cutNd l[i]] := by
  rw [List.take_succ_eq_append_getElem h, List.map_append]; rfl


set_option maxHeartbeats 4000000 in
set_option maxRecDepth 10000 in
theorem Cut_ac (σ : AH) (x : AV) (l : List Nd) (hx : IsR x (eN l)) (hl : l.length < 9223372036854775808) : AC Try.prog 30 [x] σ fun r σ' => r = slv (eN (cutP l)) ∧ σ' = σ := by
  refine AC.of_body Try.func30 (by kernel_rfl) rfl (by rw [Try.ntmps30]; simp) ?_
  rw [Try.ntmps30]
  have hxl : slen x = some l.length := by rw [hx.len, eN_len]
  refine AT.seq fun K1 hK1 => ?_
  refine AT.regionK [] fun K2 hK2 => ?_
  simp (disch := omega) [hxl]
  refine hK2 _ _ ?_; try clear hK2 K2
  refine hK1 _ _ ?_; try clear hK1 K1
  refine AT.seq fun K3 hK3 => ?_
  refine AT.regionK [] fun K4 hK4 => ?_
  simp (disch := omega) [hxl]
  refine hK4 _ _ ?_; try clear hK4 K4
  refine hK3 _ _ ?_; try clear hK3 K3
  refine AT.seq fun K5 hK5 => ?_
  refine AT.seq fun K6 hK6 => ?_
  refine AT.regionK [] fun K7 hK7 => ?_
  simp (disch := omega) [hxl]
  refine hK7 _ _ ?_; try clear hK7 K7
  refine hK6 _ _ ?_; try clear hK6 K6
  refine AT.block ?_
  refine AT.whileK [0] (fun (p : Nat × AV) => [(4, eI p.1), (3, p.2)]) (fun (p : Nat × AV) σ' => p.1 ≤ l.length ∧ p.1 ≤ 150 ∧ ∃ τ0, τ0.le σ' ∧ Own σ τ0 p.2 (eN ((l.take p.1).map cutNd)) 34 37) (fun (p : Nat × AV) => 150 - p.1) ((0, nilS)) (by simp (disch := omega) [has, keep, AH.del_ne, AH.del_same]) ⟨by simp, by simp, σ, AH.le_refl _, by simpa using Own.nil σ 34 37⟩ ?_
  rintro ⟨i, o⟩ τ1 ⟨hi, hi2, τ, hle, ho⟩
  dsimp only at hi hi2 ho ⊢
  refine AT.drop hle ?_
  simp only [keep, List.map_cons, List.map_nil, List.cons_append, List.nil_append, gt_sel, gt_nil, gsel, Nat.reduceBEq]
  refine AT.seq fun K8 hK8 => ?_
  refine AT.seq fun K9 hK9 => ?_
  refine AT.regionK [] fun K10 hK10 => ?_
  simp +contextual (disch := omega) [hxl]
  refine hK10 _ _ ?_; try clear hK10 K10
  refine hK9 _ _ ?_; try clear hK9 K9
  refine AT.cond rfl (fun ht => ?_) (fun hf => ?_)
  · simp at ht
    have hil : i < l.length := by omega
    have hi3 : i < 150 := by omega
    have hro := hx.isS.at (eN_get (List.getElem?_eq_getElem hil))
    subst hro
    generalize hn : l[i] = n at *
    refine AT.skip ?_
    refine hK8 _ _ ?_; try clear hK8 K8
    refine AT.seq fun K11 hK11 => ?_
    refine AT.block ?_
    refine AT.seq fun K12 hK12 => ?_
    refine AT.keep [0, 3, 4] ?_
    simp only [keep, List.map_cons, List.map_nil, gt_sel, gt_nil, gsel, Nat.reduceBEq]
    refine AT.regionK [] fun K13 hK13 => ?_
    simp (disch := omega) [hxl, hil, hn]
    intro b hb
    have hσb := ho.none hb
    have hkm : (if (30 : Int) < (n.kids.l.length : Int) then (30 : Int) else (n.kids.l.length : Int)) = ((min n.kids.l.length 30 : Nat) : Int) := by split <;> omega
    have hwm : (if (40 : Int) < (n.words.l.length : Int) then (40 : Int) else (n.words.l.length : Int)) = ((min n.words.l.length 40 : Nat) : Int) := by split <;> omega
    refine hK13 _ _ ?_; try clear hK13 K13
    refine hK12 _ _ ?_; try clear hK12 K12
    refine AT.seq fun K14 hK14 => ?_
    refine AT.region [] ?_
    refine vops_cut 7 fun Kc16 hKc16 => ?_
    simp (disch := omega) [hxl, hkm]
    refine rslice_run n.kids (min n.kids.l.length 30) (Nat.min_le_left _ _) (by simp) ?_
    try simp (disch := omega) [hxl]
    refine hKc16 _ _ ?_; try clear hKc16 Kc16
    refine vops_end fun K15 hK15 => ?_
    simp (disch := omega) [hxl, hkm]
    refine hK15 _ _ ?_; try clear hK15 K15
    refine hK14 _ _ ?_; try clear hK14 K14
    refine AT.seq fun K17 hK17 => ?_
    refine AT.region [] ?_
    refine vops_cut 7 fun Kc19 hKc19 => ?_
    simp (disch := omega) [hxl, hwm]
    refine rslice_run n.words (min n.words.l.length 40) (Nat.min_le_left _ _) (by simp) ?_
    try simp (disch := omega) [hxl]
    refine hKc19 _ _ ?_; try clear hKc19 Kc19
    refine vops_end fun K18 hK18 => ?_
    simp (disch := omega) [hxl, hwm]
    refine hK18 _ _ ?_; try clear hK18 K18
    refine hK17 _ _ ?_; try clear hK17 K17
    refine AT.region [] ?_
    have hO := ho.setO (b := b) (.inl hb) (.box (cutNd n).cells 37)
    refine vops_cut 4 fun Kc21 hKc21 => ?_
    simp (disch := omega) [hxl]
    refine hO.app (by simp; omega) (by simp; omega) fun o2 τ2 ho2 => ?_
    try simp (disch := omega) [hxl]
    refine hKc21 _ _ ?_; try clear hKc21 Kc21
    refine vops_end fun K20 hK20 => ?_
    simp (disch := omega) [hxl]
    refine hK20 _ _ ?_; try clear hK20 K20
    refine hK11 _ _ ?_; try clear hK11 K11
    refine AT.regionK [] fun K22 hK22 => ?_
    simp (disch := omega) [hxl]
    refine hK22 _ _ ?_; try clear hK22 K22
    obtain ⟨τ4, hle4, ho4⟩ := ho2.drop (τ0 := σ) (by repeat (first | exact AH.le_refl _ | assumption | refine AH.le_set _ (by assumption) ?_ | refine AH.le_del (by assumption) ?_))
    exact ⟨(i + 1, o2), by dsimp only; omega, by simp (disch := omega) [has, keep, AH.del_ne, AH.del_same], by dsimp only; omega, by dsimp only; omega, τ4, hle4, by dsimp only; rw [cutP_take hil, hn]; simpa [cutNd] using ho4⟩
  · simp at hf
    have hend : (l.take i).map cutNd = cutP l := by
      unfold cutP
      by_cases h150 : i = 150
      · rw [h150]
      · have : i = l.length := by omega
        rw [this, List.take_length, List.take_of_length_le (by omega)]
    rw [hend] at ho
    refine AT.exit ?_
    try simp only [thenQ, blockQ, scopeQ, if_true]
    refine hK5 _ _ ?_; try clear hK5 K5
    refine AT.seq fun K23 hK23 => ?_
    refine AT.keep [3] ?_
    simp only [keep, List.map_cons, List.map_nil, gt_sel, gt_nil, gsel, Nat.reduceBEq]
    refine AT.regionK [] fun K24 hK24 => ?_
    simp (disch := omega) [hxl]
    refine hK24 _ _ ?_; try clear hK24 K24
    refine hK23 _ _ ?_; try clear hK23 K23
    refine AT.ret ?_
    try simp only [thenQ, blockQ, scopeQ]
    exact ret_own rfl ho (AH.le_refl _) (by simp [aret])

end Go.Proofs.Ytdimikmgkdcglaa
