/- Regions that draw their order: the lexical walk. No conditions. -/
import Derived.Test.YtdimikmgkdcglaaB9
set_option linter.unusedVariables false
set_option linter.unusedSimpArgs false
namespace Go.Proofs.Ytdimikmgkdcglaa
open Go.RowKit

/-- The operations of the mask, one behind the other: they leave the heap alone. -/
def vqs (P : Program) (nt : Nat) (owns : List Tmp) : Nat → List (Nat × Nat) → List Oper → List Bool → Tm → AH → (Tm → Prop) → Prop
  | _, _, [], _, α, _, K => K α
  | _, _, _ :: _, [], α, _, K => K α
  | i, dm, o :: rest, m :: ms, α, σ, K => if m = true then match o.dst with
      | none => False
      | some d => d < nt ∧ match o.guard with
        | none => vopQ P owns o α σ fun v => vqs P nt owns (i + 1) ((i, d) :: dm) rest ms ((d, v) :: α) σ K
        | some (j, want) => ∃ g t, glook dm j = some g ∧ avG (gt α g) = some t ∧ if t = some want then vopQ P owns o α σ fun v => vqs P nt owns (i + 1) ((i, d) :: dm) rest ms ((d, v) :: α) σ K
          else vqs P nt owns (i + 1) ((i, d) :: dm) rest ms ((d, .tu []) :: α) σ K
    else vqs P nt owns (i + 1) dm rest ms α σ K

/-- The others. -/
def dlt (nt : Nat) : Option Tmp → Prop
  | none => True
  | some d => d < nt
def vls (P : Program) (nt : Nat) (owns : List Tmp) : Nat → List (Nat × Nat) → List Oper → List Bool → Tm → AH → (Tm → AH → Prop) → Prop
  | _, _, [], _, α, σ, K => K α σ
  | _, _, _ :: _, [], α, σ, K => False
  | i, dm, o :: rest, m :: ms, α, σ, K => if m = true then vls P nt owns (i + 1) (match o.dst with | some d => (i, d) :: dm | none => dm) rest ms α σ K
    else dlt nt o.dst ∧ match o.guard with
    | none => vop P owns o α σ fun v σ' => match o.dst with
      | some d => vls P nt owns (i + 1) ((i, d) :: dm) rest ms ((d, v) :: α) σ' K
      | none => vls P nt owns (i + 1) dm rest ms α σ' K
    | some (j, want) => ∃ g t, glook dm j = some g ∧ avG (gt α g) = some t ∧ if t = some want then vop P owns o α σ fun v σ' => match o.dst with
        | some d => vls P nt owns (i + 1) ((i, d) :: dm) rest ms ((d, v) :: α) σ' K
        | none => vls P nt owns (i + 1) dm rest ms α σ' K
      else match o.dst with
        | some d => vls P nt owns (i + 1) ((i, d) :: dm) rest ms ((d, .tu []) :: α) σ K
        | none => vls P nt owns (i + 1) dm rest ms α σ K

def chainOK (ops : Array Oper) : Nat → List Bool → Array Bool → Bool
  | _, [], listed => (Region.ready .any ops listed).isEmpty
  | i, m :: ms, listed => if m = true then chainOK ops (i + 1) ms listed else Region.ready .any ops listed == [i] && chainOK ops (i + 1) ms (listed.setIfInBounds i true)
def lates : List Bool → Nat
  | [] => 0
  | m :: ms => if m = true then lates ms else lates ms + 1
def drawnOK (ops : Array Oper) (mask : List Bool) : Bool :=
  drawOK ops mask && chainOK ops 0 mask (uni mask (Array.replicate ops.size false)) && cnt (fun i => mask.getD i false) ops.size + lates mask == ops.size

section
variable {P : Program} {nt : Nat} {rd : Option Nat} {ops : Array Oper} {mask : List Bool} {α : Tm} {σ : AH}

theorem glook_cons {i d : Nat} {dm : List (Nat × Nat)} {o : Oper} (hi : ops[i]? = some o) (hd : o.dst = some d) (h : ∀ j g, glook dm j = some g → (ops[j]?).bind (·.dst) = some g) : ∀ j g, glook ((i, d) :: dm) j = some g → (ops[j]?).bind (·.dst) = some g := fun j g hg => by
  simp only [glook] at hg
  split at hg
  · rename_i hij
    subst hij
    injection hg with hg
    subst hg
    simp [hi, hd]
  · exact h j g hg

theorem vqs_ok (owns : List Tmp) (hD : DrawOK ops mask) {K : Tm → Prop} : ∀ (rest : List Oper) (i : Nat) (dm : List (Nat × Nat)) (ms : List Bool) (α : Tm), ops.toList.drop i = rest → mask.drop i = ms →
    (∀ j g, glook dm j = some g → (ops[j]?).bind (·.dst) = some g) → vqs P nt owns i dm rest ms α σ K →
    ∃ αE, K αE ∧ (∀ t, (∀ j oj, i ≤ j → ops[j]? = some oj → mask.getD j false = true → oj.dst ≠ some t) → gt αE t = gt α t) ∧
      ∀ j o d, i ≤ j → ops[j]? = some o → mask.getD j false = true → o.dst = some d → ∀ (α : Tm) (τ : AH), σ.le τ → (∀ t ∈ o.looksAt ops, gt α t = gt αE t) →
        d < nt ∧ ∃ b, awant ops α o = some b ∧ if b = true then ∀ K : AV → AH → Prop, K (gt αE d) τ → vop P owns o α τ K else gt αE d = .tu []
  | [], i, dm, ms, α, hr, _, _, h => by
    have hle : ops.size ≤ i := by simpa using hr
    refine ⟨α, by unfold vqs at h; exact h, fun _ _ => rfl, fun j o d hij ho => ?_⟩
    have := (Array.getElem?_eq_some_iff.1 ho).1
    omega
  | o :: rest, i, dm, [], α, hr, hms, _, h => by
    have hle : mask.length ≤ i := by simpa using hms
    refine ⟨α, by unfold vqs at h; exact h, fun _ _ => rfl, fun j o d hij ho hm => ?_⟩
    rw [List.getD_eq_getElem?_getD, List.getElem?_eq_none (by omega)] at hm
    cases hm
  | o :: rest, i, dm, m :: ms, α, hr, hms, hdm, h => by
    have hi : ops[i]? = some o := by
      have := congrArg (·[0]?) hr
      simpa using this
    have hr' : ops.toList.drop (i + 1) = rest := by
      have := congrArg (·.drop 1) hr
      simpa [List.drop_drop, Nat.add_comm] using this
    have hmi : mask.getD i false = m := by
      have := congrArg (·[0]?) hms
      rw [List.getD_eq_getElem?_getD]
      simp at this
      rw [this]; rfl
    have hms' : mask.drop (i + 1) = ms := by
      have := congrArg (·.drop 1) hms
      simpa [List.drop_drop, Nat.add_comm] using this
    rw [vqs] at h
    cases m with
    | false =>
      rw [if_neg (by simp)] at h
      obtain ⟨αE, h1, h2, h3⟩ := vqs_ok owns hD rest (i + 1) dm ms α hr' hms' hdm h
      refine ⟨αE, h1, fun t ht => h2 t fun j oj hj => ht j oj (by omega), fun j oj d hj hoj hm => ?_⟩
      have hne : j ≠ i := fun e => by rw [e, hmi] at hm; cases hm
      exact h3 j oj d (by omega) hoj hm
    | true =>
      rw [if_pos rfl] at h
      cases hd : o.dst with
      | none => rw [hd] at h; exact h.elim
      | some d =>
        rw [hd] at h
        obtain ⟨hnt, h⟩ := h
        have key : ∀ (v : AV) (b : Bool), awant ops α o = some b → (if b = true then ∀ τ, σ.le τ → ∀ K' : AV → AH → Prop, K' v τ → vop P owns o α τ K' else v = .tu []) → vqs P nt owns (i + 1) ((i, d) :: dm) rest ms ((d, v) :: α) σ K →
            ∃ αE, K αE ∧ (∀ t, (∀ j oj, i ≤ j → ops[j]? = some oj → mask.getD j false = true → oj.dst ≠ some t) → gt αE t = gt α t) ∧
            ∀ j o d, i ≤ j → ops[j]? = some o → mask.getD j false = true → o.dst = some d → ∀ (α : Tm) (τ : AH), σ.le τ → (∀ t ∈ o.looksAt ops, gt α t = gt αE t) →
              d < nt ∧ ∃ b, awant ops α o = some b ∧ if b = true then ∀ K : AV → AH → Prop, K (gt αE d) τ → vop P owns o α τ K else gt αE d = .tu [] := fun v b hb hv hrest => by
          obtain ⟨αE, h1, h2, h3⟩ := vqs_ok owns hD rest (i + 1) ((i, d) :: dm) ms ((d, v) :: α) hr' hms' (glook_cons hi hd hdm) hrest
          have hout : ∀ t, (∀ j oj, i ≤ j → ops[j]? = some oj → mask.getD j false = true → oj.dst ≠ some t) → gt αE t = gt α t := fun t ht => by
            rw [h2 t fun j oj hj => ht j oj (by omega)]
            have hdt : d ≠ t := fun e => ht i o (Nat.le_refl _) hi hmi (by rw [hd, e])
            simp [gt, hdt]
          have hdv : gt αE d = v := by
            rw [h2 d fun j oj hj hoj hmj hdj => ?_]
            · simp [gt]
            · rcases (hD.ee i o j oj hi hoj hmi hmj).1 with h4 | h4
              · omega
              · exact h4 (by rw [hdj, hd])
          refine ⟨αE, h1, hout, fun j oj dj hj hoj hmj hdj α' τ hle hag => ?_⟩
          by_cases hji : j = i
          · subst hji
            rw [hi] at hoj
            injection hoj with hoj
            subst hoj
            rw [hd] at hdj
            injection hdj with hdj
            subst hdj
            have hsame : ∀ t ∈ o.looksAt ops, gt α t = gt α' t := fun t ht => by
              rw [hag t ht]
              refine (hout t fun k ok hk hok hmk hdk => ?_).symm
              have h5 := (hD.ee j o k ok hi hok hmi hmk).2 (by rw [hdk]; exact looks_mem.2 ht)
              obtain ⟨e, he, hbe, rfl⟩ := aft_spec h5
              have := (hD.pred j o hi hmi e he hbe).2
              omega
            refine ⟨hnt, b, ?_, ?_⟩
            · rw [← hb]
              unfold awant
              cases hg : o.guard with
              | none => rfl
              | some p =>
                obtain ⟨k, want⟩ := p
                dsimp only
                cases hk : (ops[k]?).bind (·.dst) with
                | none => rfl
                | some g =>
                  dsimp only
                  rw [hsame g (by simp [Oper.looksAt, hg, hk])]
            · rw [hdv]
              cases b with
              | true =>
                rw [if_pos rfl] at hv ⊢
                intro K' hK'
                refine vop_congr (fun x hx => ?_) (hv τ hle K' hK')
                cases x with
                | tmp t => exact hsame t (List.mem_append_left _ (List.mem_filterMap.2 ⟨.tmp t, by simpa using hx, rfl⟩))
                | _ => rfl
              | false => rw [if_neg (by simp)] at hv ⊢; exact hv
          · exact h3 j oj dj (by omega) hoj hmj hdj α' τ hle hag
        cases hg : o.guard with
        | none =>
          rw [hg] at h
          obtain ⟨v, h1, h2⟩ := vopQ_spec h
          exact key v true (by simp [awant, hg]) (by rw [if_pos rfl]; exact h2) h1
        | some p =>
          obtain ⟨j, want⟩ := p
          rw [hg] at h
          obtain ⟨g, t, hgl, ht, h⟩ := h
          have haw : awant ops α o = some (t == some want) := by simp [awant, hg, hdm j g hgl, ht]
          by_cases htw : t = some want
          · rw [if_pos htw] at h
            obtain ⟨v, h1, h2⟩ := vopQ_spec h
            exact key v (t == some want) haw (by rw [if_pos (by simp [htw])]; exact h2) h1
          · rw [if_neg htw] at h
            exact key (.tu []) (t == some want) haw (by rw [if_neg (by simp [htw])]) h

theorem vls_ok (owns : List Tmp) {Q : Tm → AH → Prop} : ∀ (rest : List Oper) (i : Nat) (dm : List (Nat × Nat)) (ms : List Bool) (listed : Array Bool) (α : Tm) (σ : AH), ops.toList.drop i = rest →
    (∀ j g, glook dm j = some g → (ops[j]?).bind (·.dst) = some g) → rest.length = ms.length → chainOK ops i ms listed = true → vls P nt owns i dm rest ms α σ Q → vAny P nt owns ops Q (lates ms) listed α σ
  | [], i, dm, [], listed, α, σ, hr, _, _, hc, h => by
    unfold vls at h
    simp only [chainOK, List.isEmpty_iff] at hc
    exact ⟨hc, h⟩
  | [], i, dm, m :: ms, listed, α, σ, hr, _, hl, hc, h => by simp at hl
  | o :: rest, i, dm, [], listed, α, σ, hr, _, hl, hc, h => by simp at hl
  | o :: rest, i, dm, m :: ms, listed, α, σ, hr, hdm, hl, hc, h => by
    have hi : ops[i]? = some o := by
      have := congrArg (·[0]?) hr
      simpa using this
    have hr' : ops.toList.drop (i + 1) = rest := by
      have := congrArg (·.drop 1) hr
      simpa [List.drop_drop, Nat.add_comm] using this
    have hl' : rest.length = ms.length := by simpa using hl
    rw [vls] at h
    cases m with
    | true =>
      rw [if_pos rfl] at h
      simp only [chainOK, lates, if_true] at hc ⊢
      refine vls_ok owns rest (i + 1) _ ms listed α σ hr' ?_ hl' hc h
      cases hd : o.dst with
      | none => exact hdm
      | some d => exact glook_cons hi hd hdm
    | false =>
      rw [if_neg (by simp)] at h
      simp only [chainOK, lates, Bool.false_eq_true, if_false, Bool.and_eq_true, beq_iff_eq] at hc ⊢
      obtain ⟨hdl, h⟩ := h
      refine ⟨fun h0 => (by rw [h0] at hc; exact absurd hc.1 (by simp)), fun j hj o' ho' => ?_⟩
      rw [hc.1, List.mem_singleton] at hj
      subst hj
      rw [hi] at ho'
      injection ho' with ho'
      subst ho'
      have step : ∀ v σ', (match o.dst with
          | some d => vls P nt owns (j + 1) ((j, d) :: dm) rest ms ((d, v) :: α) σ' Q
          | none => vls P nt owns (j + 1) dm rest ms α σ' Q) → vAny P nt owns ops Q (lates ms) (listed.setIfInBounds j true) (vput o.dst v α) σ' := fun v σ' h => by
        cases hd : o.dst with
        | none =>
          rw [hd] at h
          exact vls_ok owns rest (j + 1) dm ms _ α σ' hr' hdm hl' hc.2 h
        | some d =>
          rw [hd] at h
          exact vls_ok owns rest (j + 1) _ ms _ _ σ' hr' (glook_cons hi hd hdm) hl' hc.2 h
      refine ⟨fun d hd => by rw [hd] at hdl; exact hdl, ?_⟩
      cases hg : o.guard with
      | none =>
        rw [hg] at h
        refine ⟨true, by simp [awant, hg], ?_⟩
        rw [if_pos rfl]
        exact vop_mono step h
      | some p =>
        obtain ⟨k, want⟩ := p
        rw [hg] at h
        obtain ⟨g, t, hgl, ht, h⟩ := h
        refine ⟨t == some want, by simp [awant, hg, hdm k g hgl, ht], ?_⟩
        by_cases htw : t = some want
        · rw [if_pos htw] at h
          rw [if_pos (by simp [htw])]
          exact vop_mono step h
        · rw [if_neg htw] at h
          rw [if_neg (by simp [htw])]
          exact step (.tu []) σ h

/-- **A region that draws its order**: what leaves the heap alone, as it stands in the text; then the others. -/
theorem AT.drawn {id : Nat} {Q : Exit → Tm → AH → Prop} (owns : List Tmp) (mask : List Bool) (hm : P.follows .mixedOrders = true) (hl : ops.toList.length = mask.length) (hB : drawnOK ops mask = true)
    (h : vqs P nt owns 0 [] ops.toList mask α σ fun αE => vls P nt owns 0 [] ops.toList mask αE σ (Q .normal)) : AT P nt rd (.region id ops true) Q α σ := by
  simp only [drawnOK, Bool.and_eq_true, beq_iff_eq] at hB
  obtain ⟨⟨h1, h2⟩, h3⟩ := hB
  have hD := drawOK_spec h1
  refine AT.drawnAny owns hm ?_
  obtain ⟨αE, k1, k2, k3⟩ := vqs_ok owns hD ops.toList 0 [] mask α (by simp) (by simp) (fun j g hg => by simp [glook] at hg) h
  have k4 : vls P nt owns 0 [] ops.toList mask αE σ (fun α' σ' => ∃ α'', (∀ t, gt α'' t = gt α' t) ∧ Q .normal α'' σ') := by
    have hmono : ∀ (rest : List Oper) (i : Nat) (dm : List (Nat × Nat)) (ms : List Bool) (α : Tm) (σ : AH), vls P nt owns i dm rest ms α σ (Q .normal) → vls P nt owns i dm rest ms α σ (fun α' σ' => ∃ α'', (∀ t, gt α'' t = gt α' t) ∧ Q .normal α'' σ') := by
      intro rest
      induction rest with
      | nil => intro i dm ms α σ h; unfold vls at h ⊢; exact ⟨α, fun _ => rfl, h⟩
      | cons o rest ih =>
        intro i dm ms α σ h
        cases ms with
        | nil => unfold vls at h; exact h.elim
        | cons m ms =>
          rw [vls] at h ⊢
          split at h
          · rename_i hm; rw [if_pos hm]; exact ih _ _ _ _ _ h
          · rename_i hm
            rw [if_neg hm]
            refine ⟨h.1, ?_⟩
            have h := h.2
            have hs : ∀ v σ', (match o.dst with
                | some d => vls P nt owns (i + 1) ((i, d) :: dm) rest ms ((d, v) :: α) σ' (Q .normal)
                | none => vls P nt owns (i + 1) dm rest ms α σ' (Q .normal)) → (match o.dst with
                | some d => vls P nt owns (i + 1) ((i, d) :: dm) rest ms ((d, v) :: α) σ' (fun α' σ' => ∃ α'', (∀ t, gt α'' t = gt α' t) ∧ Q .normal α'' σ')
                | none => vls P nt owns (i + 1) dm rest ms α σ' (fun α' σ' => ∃ α'', (∀ t, gt α'' t = gt α' t) ∧ Q .normal α'' σ')) := fun v σ' h => by
              cases hd : o.dst with
              | none => rw [hd] at h; exact ih _ _ _ _ _ h
              | some d => rw [hd] at h; exact ih _ _ _ _ _ h
            cases hg : o.guard with
            | none => rw [hg] at h; exact vop_mono hs h
            | some p =>
              obtain ⟨k, want⟩ := p
              rw [hg] at h
              obtain ⟨g, t, hgl, ht, h⟩ := h
              refine ⟨g, t, hgl, ht, ?_⟩
              by_cases htw : t = some want
              · rw [if_pos htw] at h ⊢
                exact vop_mono hs h
              · rw [if_neg htw] at h ⊢
                exact hs (.tu []) σ h
    exact hmono _ _ _ _ _ _ k1
  have k5 := vls_ok owns ops.toList 0 [] mask (uni mask (Array.replicate ops.size false)) αE σ (by simp) (fun j g hg => by simp [glook] at hg) hl h2 k4
  have hrep : ∀ i d, i < ops.size → (Array.replicate ops.size false).getD i d = false := fun i d hi => by simp [hi]
  refine batch hD (σ := σ) (αE := αE) (fun i o d hi hmi hd => k3 i o d (Nat.zero_le _) hi hmi hd) (fun a a' s ha ⟨a'', q1, q2⟩ => ⟨a'', fun t => (q1 t).trans (ha t), q2⟩) ops.size (lates mask) (ops.size - lates mask) (Array.replicate ops.size false) α αE σ (by omega)
    ⟨by simp, fun i o hi hlis => ?_, fun _ => AH.le_refl _, fun i o d hi _ hlis => ?_, fun i o hi hmi _ t ht hno => ?_⟩ ⟨fun _ _ _ _ _ _ => rfl, fun t ht => ?_⟩ ?_ k5
  · rw [hrep i false (Array.getElem?_eq_some_iff.1 hi).1] at hlis; cases hlis
  · rw [hrep i false (Array.getElem?_eq_some_iff.1 hi).1] at hlis; cases hlis
  · exact (k2 t fun j oj _ => hno j oj).symm
  · exact k2 t fun j oj _ => ht j oj
  · refine Nat.le_trans (cnt_le (q := fun i => mask.getD i false) (fun i hi => ?_) _) (by omega)
    simp only [Bool.and_eq_true] at hi
    exact hi.1

end
end Go.Proofs.Ytdimikmgkdcglaa
