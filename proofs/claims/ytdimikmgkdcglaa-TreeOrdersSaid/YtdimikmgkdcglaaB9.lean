/- Regions that draw their order: the rule. No conditions. -/
import Derived.Test.YtdimikmgkdcglaaB8
set_option linter.unusedVariables false
set_option linter.unusedSimpArgs false
namespace Go.Proofs.Ytdimikmgkdcglaa
open Go.RowKit

theorem getDs {A : Array Bool} {i j : Nat} (d : Bool) (hi : i < A.size) : (A.setIfInBounds i true).getD j d = if i = j then true else A.getD j d := by
  by_cases h : i = j
  · subst h; simp [hi]
  · simp [h, Array.getElem?_setIfInBounds_ne h]

/-- How many of the first n. -/
def cnt (p : Nat → Bool) : Nat → Nat
  | 0 => 0
  | n + 1 => (if p n then 1 else 0) + cnt p n
theorem cnt_le {p q : Nat → Bool} (h : ∀ i, p i = true → q i = true) : ∀ n, cnt p n ≤ cnt q n
  | 0 => Nat.le_refl _
  | n + 1 => by
    simp only [cnt]
    have := cnt_le h n
    cases hp : p n with
    | false => simp; omega
    | true => rw [h n hp]; simp; omega
theorem cnt_lt {p q : Nat → Bool} (h : ∀ i, p i = true → q i = true) {x : Nat} (hp : p x = false) (hq : q x = true) : ∀ n, x < n → cnt p n + 1 ≤ cnt q n
  | 0, hx => absurd hx (by omega)
  | n + 1, hx => by
    simp only [cnt]
    by_cases hxn : x = n
    · subst hxn
      rw [hp, hq]
      have := cnt_le h x
      simp; omega
    · have := cnt_lt h hp hq n (by omega)
      cases hp' : p n with
      | false => simp; omega
      | true => rw [h n hp']; simp; omega
theorem cnt_zero {p : Nat → Bool} : ∀ n, cnt p n = 0 → ∀ i, i < n → p i = false
  | 0, _, i, hi => absurd hi (by omega)
  | n + 1, h, i, hi => by
    simp only [cnt] at h
    by_cases hin : i = n
    · subst hin
      cases hp : p i with
      | false => rfl
      | true => rw [hp] at h; simp at h
    · exact cnt_zero n (by omega) i (by omega)

section
variable {P : Program} {nt : Nat} {rd : Option Nat} {owns : List Tmp} {ops : Array Oper} {mask : List Bool}

def uni (mask : List Bool) (listed : Array Bool) : Array Bool := listed.mapIdx fun i b => b || mask.getD i false
theorem uni_getD {listed : Array Bool} {i : Nat} (hi : i < listed.size) (d : Bool) : (uni mask listed).getD i d = (listed.getD i d || mask.getD i false) := by
  simp [uni, hi]
theorem uni_out {listed : Array Bool} {i : Nat} (hi : ¬ i < listed.size) (d : Bool) : (uni mask listed).getD i d = d := by
  simp [uni, hi]

/-- The operations of the mask, and what they have left. -/
def Quieted (P : Program) (nt : Nat) (owns : List Tmp) (ops : Array Oper) (mask : List Bool) (σ : AH) (αE : Tm) : Prop :=
  ∀ i o d, ops[i]? = some o → mask.getD i false = true → o.dst = some d → ∀ (α : Tm) (τ : AH), σ.le τ → (∀ t ∈ o.looksAt ops, gt α t = gt αE t) →
    d < nt ∧ ∃ b, awant ops α o = some b ∧ if b = true then ∀ K : AV → AH → Prop, K (gt αE d) τ → vop P owns o α τ K else gt αE d = .tu []

structure BInv (ops : Array Oper) (mask : List Bool) (σ : AH) (αE : Tm) (listed : Array Bool) (α : Tm) (τ : AH) : Prop where
  size : listed.size = ops.size
  cl : closed ops listed
  le : (∃ i o, ops[i]? = some o ∧ mask.getD i false = true ∧ listed.getD i false = false) → σ.le τ
  val : ∀ i o d, ops[i]? = some o → mask.getD i false = true → listed.getD i false = true → o.dst = some d → gt α d = gt αE d
  env : ∀ i o, ops[i]? = some o → mask.getD i false = true → listed.getD i false = false → ∀ t ∈ o.looksAt ops, (∀ j oj, ops[j]? = some oj → mask.getD j false = true → oj.dst ≠ some t) → gt α t = gt αE t

structure BMer (ops : Array Oper) (mask : List Bool) (αE α αs : Tm) : Prop where
  inn : ∀ t i o, ops[i]? = some o → mask.getD i false = true → o.dst = some t → gt αs t = gt αE t
  out : ∀ t, (∀ i o, ops[i]? = some o → mask.getD i false = true → o.dst ≠ some t) → gt αs t = gt α t

theorem looks_mem {o : Oper} {t : Tmp} : looks ops o (some t) = true ↔ t ∈ o.looksAt ops := by simp [looks]

theorem uni_all {listed : Array Bool} (hsz : listed.size = ops.size) (hE : ∀ i o, ops[i]? = some o → mask.getD i false = true → listed.getD i false = true) : uni mask listed = listed := by
  apply Array.ext
  · simp [uni]
  · intro i h1 h2
    have hi : i < ops.size := by rw [← hsz]; exact h2
    have := hE i ops[i] (by simp [hi])
    simp only [uni, Array.getElem_mapIdx]
    cases hm : mask.getD i false with
    | false => simp
    | true =>
      have h3 := this hm
      simp [h2] at h3
      simp [h3]

theorem batch (hD : DrawOK ops mask) {σ : AH} {αE : Tm} (hq : Quieted P nt owns ops mask σ αE) {Q : Tm → AH → Prop} (hQ : ∀ α α' σ, (∀ t, gt α t = gt α' t) → Q α σ → Q α' σ) :
    ∀ (N fE m : Nat) (listed : Array Bool) (α αs : Tm) (τ : AH), fE + m = N → BInv ops mask σ αE listed α τ → BMer ops mask αE α αs →
      cnt (fun i => mask.getD i false && !listed.getD i true) ops.size ≤ m → vAny P nt owns ops Q fE (uni mask listed) αs τ → vAny P nt owns ops Q N listed α τ := by
  classical
  -- all of the mask are listed
  have hall : ∀ (listed : Array Bool) (α αs : Tm) (τ : AH), BInv ops mask σ αE listed α τ → BMer ops mask αE α αs → (∀ i o, ops[i]? = some o → mask.getD i false = true → listed.getD i false = true) → ∀ t, gt αs t = gt α t := fun listed α αs τ hI hM hE t => by
    by_cases ht : ∃ i o, ops[i]? = some o ∧ mask.getD i false = true ∧ o.dst = some t
    · obtain ⟨i, o, h1, h2, h3⟩ := ht
      rw [hM.inn t i o h1 h2 h3, hI.val i o t h1 h2 (hE i o h1 h2) h3]
    · exact hM.out t fun i o h1 h2 h3 => ht ⟨i, o, h1, h2, h3⟩
  -- nothing is ready: all of the mask are listed
  have hdone : ∀ (listed : Array Bool), listed.size = ops.size → Region.ready .any ops listed = [] → ∀ i o, ops[i]? = some o → mask.getD i false = true → listed.getD i false = true := fun listed hsz hr i => by
    induction i using Nat.strongRecOn with
    | _ i ih =>
      intro o ho hm
      refine Classical.byContradiction fun hn => ?_
      have hlt : i < listed.size := by rw [hsz]; exact (Array.getElem?_eq_some_iff.1 ho).1
      have hmem : i ∈ Region.ready .any ops listed := mem_ready.2 ⟨by
        rw [Bool.not_eq_true] at hn
        simpa [hlt] using hn, o, ho, fun e he hb => by
        obtain ⟨h1, h2⟩ := hD.pred i o ho hm e he hb
        have hl2 : e.on < ops.size := by rw [← hsz]; omega
        exact ih e.on h2 ops[e.on] (by simp [hl2]) h1⟩
      rw [hr] at hmem
      cases hmem
  intro N
  induction N with
  | zero =>
    intro fE m listed α αs τ hN hI hM hcnt hV
    have hE : ∀ i o, ops[i]? = some o → mask.getD i false = true → listed.getD i false = true := fun i o ho hm => by
      have hlt := (Array.getElem?_eq_some_iff.1 ho).1
      have := cnt_zero (p := fun i => mask.getD i false && !listed.getD i true) ops.size (by omega) i hlt
      have hls : i < listed.size := by rw [hI.size]; exact hlt
      rw [hm] at this
      simpa [hls] using this
    have hf : fE = 0 := by omega
    subst hf
    rw [uni_all hI.size hE] at hV
    exact ⟨hV.1, hQ _ _ _ (hall listed α αs τ hI hM hE) hV.2⟩
  | succ N ih =>
    intro fE m listed α αs τ hN hI hM hcnt hV
    refine ⟨fun hr => ?_, fun i hi o ho => ?_⟩
    · have hE := hdone listed hI.size hr
      rw [uni_all hI.size hE] at hV
      cases fE with
      | zero => exact hQ _ _ _ (hall listed α αs τ hI hM hE) hV.2
      | succ f => exact hQ _ _ _ (hall listed α αs τ hI hM hE) (hV.1 hr)
    · have hi' := mem_ready.1 hi
      obtain ⟨hun, o', ho', hpred⟩ := hi'
      rw [ho] at ho'
      injection ho' with ho'
      subst ho'
      have hlt : i < ops.size := (Array.getElem?_eq_some_iff.1 ho).1
      have hls : i < listed.size := by rw [hI.size]; exact hlt
      have hunf : listed.getD i false = false := by simpa [hls] using hun
      have hcl' : closed ops (listed.setIfInBounds i true) := fun j oj hoj hj e he hb => by
        rw [getDs _ hls] at hj ⊢
        split at hj
        · rename_i hij
          subst hij
          rw [hoj] at ho
          injection ho with ho
          subst ho
          split
          · rfl
          · exact hpred e he hb
        · split
          · rfl
          · exact hI.cl j oj hoj hj e he hb
      have haft : ∀ j, aft o j = true → listed.getD j false = true := fun j hj => by
        obtain ⟨e, he, hb, rfl⟩ := aft_spec hj
        exact hpred e he hb
      cases hm : mask.getD i false with
      | true =>
        obtain ⟨d, hd⟩ := hD.dst i o ho hm
        have hagree : ∀ t ∈ o.looksAt ops, gt α t = gt αE t := fun t ht => by
          by_cases hin : ∃ j oj, ops[j]? = some oj ∧ mask.getD j false = true ∧ oj.dst = some t
          · obtain ⟨j, oj, h1, h2, h3⟩ := hin
            have := (hD.ee i o j oj ho h1 hm h2).2 (by rw [h3]; exact looks_mem.2 ht)
            exact hI.val j oj t h1 h2 (haft j this) h3
          · exact hI.env i o ho hm hunf t ht fun j oj h1 h2 h3 => hin ⟨j, oj, h1, h2, h3⟩
        obtain ⟨hdlt, b, hb, hstep⟩ := hq i o d ho hm hd α τ (hI.le ⟨i, o, ho, hm, hunf⟩) hagree
        have hc1 : cnt (fun k => mask.getD k false && !(listed.setIfInBounds i true).getD k true) ops.size + 1 ≤ cnt (fun k => mask.getD k false && !listed.getD k true) ops.size := by
          refine cnt_lt (fun k hk => ?_) (x := i) ?_ ?_ _ hlt
          · rw [getDs _ hls] at hk
            split at hk
            · simp at hk
            · exact hk
          · rw [getDs _ hls]; simp
          · rw [hm, hun]; rfl
        have hmpos : ∃ m', m = m' + 1 := ⟨m - 1, by omega⟩
        obtain ⟨m', rfl⟩ := hmpos
        have huni : uni mask (listed.setIfInBounds i true) = uni mask listed := by
          apply Array.ext
          · simp [uni]
          · intro k h1 h2
            simp only [uni, Array.getElem_mapIdx]
            by_cases hik : i = k
            · subst hik
              rw [hm]; simp
            · rw [Array.getElem_setIfInBounds_ne _ hik]
        have next : vAny P nt owns ops Q N (listed.setIfInBounds i true) ((d, gt αE d) :: α) τ := by
          refine ih fE m' _ _ αs τ (by omega) ⟨by simp [hI.size], hcl', fun ⟨k, ok, h1, h2, h3⟩ => hI.le ⟨k, ok, h1, h2, ?_⟩, fun k ok dk h1 h2 h3 h4 => ?_, fun k ok h1 h2 h3 t ht hno => ?_⟩ ⟨hM.inn, fun t ht => ?_⟩ (by omega) (by rw [huni]; exact hV)
          · rw [getDs _ hls] at h3
            split at h3
            · cases h3
            · exact h3
          · simp only [gt]
            split
            · rename_i hdk; rw [hdk]
            · rename_i hdk
              rw [getDs _ hls] at h3
              split at h3
              · rename_i hik
                subst hik
                rw [h1] at ho; injection ho with ho; subst ho
                rw [h4] at hd; injection hd with hd; exact absurd hd.symm hdk
              · exact hI.val k ok dk h1 h2 h3 h4
          · have hdt : d ≠ t := fun h => hno i o ho hm (by rw [hd, h])
            simp only [gt, hdt, if_false]
            rw [getDs _ hls] at h3
            split at h3
            · cases h3
            · exact hI.env k ok h1 h2 h3 t ht hno
          · have hdt : d ≠ t := fun h => ht i o ho hm (by rw [hd, h])
            simp only [gt, hdt, if_false]
            exact hM.out t ht
        refine ⟨fun x hx => by rw [hd] at hx; injection hx with hx; rw [← hx]; exact hdlt, b, hb, ?_⟩
        cases b with
        | true =>
          rw [if_pos rfl] at hstep ⊢
          refine hstep _ ?_
          rw [hd]
          exact next
        | false =>
          rw [if_neg (by simp)] at hstep ⊢
          rw [hd]
          have h9 : vput (some d) (.tu []) α = (d, gt αE d) :: α := by rw [hstep]; rfl
          rw [h9]
          exact next
      | false =>
        have hir : i ∈ Region.ready .any ops (uni mask listed) := mem_ready.2 ⟨by rw [uni_getD hls, hun, hm]; rfl, o, ho, fun e he hb => by
          have h1 := hpred e he hb
          have h2 : e.on < listed.size := by
            refine Classical.byContradiction fun h => ?_
            simp [h] at h1
          rw [uni_getD h2, h1]; rfl⟩
        cases fE with
        | zero => rw [hV.1] at hir; cases hir
        | succ f =>
          have hstep := hV.2 i hir o ho
          have hset : (uni mask listed).setIfInBounds i true = uni mask (listed.setIfInBounds i true) := by
            apply Array.ext
            · simp [uni]
            · intro k h1 h2
              by_cases hik : i = k
              · subst hik
                simp [uni]
              · have h3 : k < listed.size := by simpa [uni] using h2
                rw [Array.getElem_setIfInBounds_ne (by simpa [uni] using h3) hik]
                simp only [uni, Array.getElem_mapIdx]
                rw [Array.getElem_setIfInBounds_ne h3 hik]
          rw [hset] at hstep
          have hagree : ∀ t ∈ o.looksAt ops, gt αs t = gt α t := fun t ht => by
            by_cases hin : ∃ j oj, ops[j]? = some oj ∧ mask.getD j false = true ∧ oj.dst = some t
            · obtain ⟨j, oj, h1, h2, h3⟩ := hin
              rcases (hD.el j oj i o h1 ho h2 hm).2 with h4 | ⟨h4, _⟩
              · rw [hM.inn t j oj h1 h2 h3, hI.val j oj t h1 h2 (haft j h4) h3]
              · rw [h3, looks_mem.2 ht] at h4; cases h4
            · exact hM.out t fun j oj h1 h2 h3 => hin ⟨j, oj, h1, h2, h3⟩
          have next : ∀ (v : AV) (τ' : AH), ((∃ k ok, ops[k]? = some ok ∧ mask.getD k false = true ∧ listed.getD k false = false) → σ.le τ') → vAny P nt owns ops Q f (uni mask (listed.setIfInBounds i true)) (vput o.dst v αs) τ' →
              vAny P nt owns ops Q N (listed.setIfInBounds i true) (vput o.dst v α) τ' := fun v τ' hle hnext => by
            have hne : ∀ j oj t, ops[j]? = some oj → mask.getD j false = true → oj.dst = some t → ∀ β, gt (vput o.dst v β) t = gt β t := fun j oj t h1 h2 h3 β => by
              have := (hD.el j oj i o h1 ho h2 hm).1
              cases hod : o.dst with
              | none => rfl
              | some x =>
                have hx : x ≠ t := fun h => this (by rw [hod, h3, h])
                simp [vput, gt, hx]
            refine ih f m _ _ _ τ' (by omega) ⟨by simp [hI.size], hcl', fun ⟨k, ok, h1, h2, h3⟩ => hle ⟨k, ok, h1, h2, ?_⟩, fun k ok dk h1 h2 h3 h4 => ?_, fun k ok h1 h2 h3 t ht hno => ?_⟩ ⟨fun t k ok h1 h2 h3 => ?_, fun t ht => ?_⟩ (Nat.le_trans (cnt_le (fun k hk => ?_) _) hcnt) hnext
            · rw [getDs _ hls] at h3
              split at h3
              · cases h3
              · exact h3
            · rw [hne k ok dk h1 h2 h4]
              rw [getDs _ hls] at h3
              split at h3
              · rename_i hik; subst hik; rw [hm] at h2; cases h2
              · exact hI.val k ok dk h1 h2 h3 h4
            · rw [getDs _ hls] at h3
              split at h3
              · cases h3
              · rw [← hI.env k ok h1 h2 h3 t ht hno]
                cases hod : o.dst with
                | none => rfl
                | some x =>
                  have hx : x ≠ t := fun h => by
                    rcases (hD.el k ok i o h1 ho h2 hm).2 with h5 | ⟨_, h5⟩
                    · rw [haft k h5] at h3; cases h3
                    · rw [hod, h, looks_mem.2 ht] at h5; cases h5
                  simp [vput, gt, hx]
            · rw [hne k ok t h1 h2 h3, hM.inn t k ok h1 h2 h3]
            · cases hod : o.dst with
              | none => exact hM.out t ht
              | some x =>
                simp only [vput, gt]
                split
                · rfl
                · exact hM.out t ht
            · rw [getDs _ hls] at hk
              split at hk
              · simp at hk
              · exact hk
          rcases hD.late i o ho hm with hg | hw
          · refine aop_mono (aop_congr hagree (aop_grow hg hstep)) ?_
            rintro α'' τ' ⟨v, rfl, hle, hnext⟩
            exact next v τ' (fun hex => AH.le_trans (hI.le hex) hle) hnext
          · refine aop_mono (aop_congr hagree hstep) ?_
            rintro α'' τ' ⟨v, rfl, hnext⟩
            refine next v τ' (fun ⟨k, ok, h1, h2, h3⟩ => ?_) hnext
            have := waits_listed hI.cl 3 i k (hw k ok h1 h2) fun o' ho' p hp hb => by
              rw [ho] at ho'; injection ho' with ho'; subst ho'; exact hpred p hp hb
            rw [this] at h3; cases h3

end
end Go.Proofs.Ytdimikmgkdcglaa
