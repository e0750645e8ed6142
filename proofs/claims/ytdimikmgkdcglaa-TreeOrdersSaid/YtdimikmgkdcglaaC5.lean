/- A range over a function whose contract counts its yields. No conditions. -/
import Derived.Test.YtdimikmgkdcglaaC4
set_option linter.unusedVariables false
set_option linter.unusedSimpArgs false
namespace Go.Proofs.Ytdimikmgkdcglaa
open Go.RowKit

theorem AH.del_same (σ : AH) (i : Nat) : (σ.del i) i = none := by simp [AH.del]
theorem AH.del_ne (σ : AH) {i j : Nat} (h : j ≠ i) : (σ.del i) j = σ j := by simp [AH.del, h]
theorem AH.del_set {σ : AH} {i : Nat} {b : AB} (h : σ i = some b) : (σ.del i).set i b = σ := by
  funext j
  unfold AH.set AH.del
  by_cases hj : j = i
  · subst hj; simp [h]
  · simp [hj]
theorem AH.set_del {σ : AH} {i : Nat} {b : AB} (h : σ i = none) : (σ.set i b).del i = σ := by
  funext j
  unfold AH.set AH.del
  by_cases hj : j = i
  · subst hj; simp [h]
  · simp [hj]
theorem AH.set_del' {σ : AH} {i j : Nat} {b : AB} (h : i ≠ j) : (σ.set i b).del j = (σ.del j).set i b := by
  funext k
  unfold AH.set AH.del
  by_cases hj : k = j
  · subst hj; simp [Ne.symm h]
  · simp [hj]

/-- The iterator's contract: n yields, one after the other, until one says no. -/
def Iter (P : Program) (gf : FuncId) (caps : List AV) (n : Nat) (args : Nat → List AV) : Prop :=
  ∀ (lid : Nat) (I : Nat → AH → Prop) (D : AH → Prop) (σ : AH), I 0 σ →
    (∀ k σ, k < n → I k σ → YC P lid (args k) σ fun r σ' => (r = eB true ∧ I (k + 1) σ') ∨ (r = eB false ∧ D σ')) →
    AC P gf (.yl lid :: caps) σ fun _ σ' => I n σ' ∨ D σ'

def bodyQ (lid nt : Nat) (α : Tm) (ps : Array Tmp) (asg body : Code) (J : AH → Prop) (E : Code → AH → Prop) : Exit → Tm → AH → Prop
  | .normal, _, σ => σ lid = some (.loop .busy none nt α ps asg body) ∧ J (σ.del lid)
  | .ret, _, σ => σ lid = some (.loop .busy none nt α ps asg body) ∧ E .ret (σ.del lid)
  | .exit id, _, σ => σ lid = some (.loop .busy none nt α ps asg body) ∧ E (.exit id) (σ.del lid)
  | .goto t, _, σ => σ lid = some (.loop .busy none nt α ps asg body) ∧ E (.goto t) (σ.del lid)
  | _, _, _ => False

section
variable {P : Program} {nt : Nat} {rd : Option Nat} {α : Tm} {σ : AH} {Q : Exit → Tm → AH → Prop}

theorem AT.rangeI {g : Operand} {ps : Array Tmp} {asg body : Code} {gf : FuncId} {caps : List AV} {n : Nat} {args : Nat → List AV} (hg : ev α g = .fn gf caps)
    (hrd : ∀ r, rd = some r → ∃ st pend nt' al ps' as' bo', σ r = some (.loop st pend nt' al ps' as' bo'))
    (hit : Iter P gf caps n args) (J : Nat → AH → Prop) (E : Code → AH → Prop) (h0 : J 0 σ)
    (hps : ∀ k, ps.size = (args k).length) (hlt : ∀ p ∈ ps.toList, p < nt)
    (hround : ∀ lid k σ, k < n → σ lid = some (.loop .ready none nt α ps asg body) → J k (σ.del lid) →
      AT P nt (some lid) asg (thenQ (fun α₁ σ₁ => σ₁ lid = some (.loop .ready none nt α ps asg body) ∧ AT P nt (some lid) body (bodyQ lid nt α ps asg body (J (k + 1)) E) α₁ (σ₁.set lid (.loop .busy none nt α ps asg body))) (fun _ _ _ => False)) (putArgs ps.toList (args k) α) σ)
    (hend : ∀ σ, J n σ → Q .normal α σ) (hex : ∀ c σ, E c σ → AT P nt rd c Q α σ) : AT P nt rd (.rangeFunc g ps asg body) Q α σ := by
  refine AT.rangeFunc hg hrd fun lid hlid => ?_
  refine (hit lid (fun k σ' => σ' lid = some (.loop .ready none nt α ps asg body) ∧ J k (σ'.del lid)) (fun σ' => ∃ c, σ' lid = some (.loop .done (some c) nt α ps asg body) ∧ E c (σ'.del lid)) _
    ⟨AH.set_same _ _ _, by rw [AH.set_del hlid]; exact h0⟩ fun k σ' hk ⟨h1, h2⟩ => ?_).mono ?_
  · refine YC.of_body h1 (hps k) hlt ((hround lid k σ' hk h1 h2).mono ?_)
    intro e α₁ σ₁ h
    cases e with
    | normal =>
      obtain ⟨h3, h4⟩ := h
      refine ⟨none, h3, h4.mono ?_⟩
      intro e α₂ σ₂ h
      cases e with
      | normal => exact ⟨_, _, h.1, .inl ⟨rfl, AH.set_same _ _ _, by
          have : (σ₂.set lid (.loop .ready none nt α ps asg body)).del lid = σ₂.del lid := by
            funext j; unfold AH.set AH.del; by_cases hj : j = lid <;> simp [hj]
          rw [this]; exact h.2⟩⟩
      | ret => exact ⟨_, _, h.1, .inr ⟨rfl, .ret, AH.set_same _ _ _, by
          have : (σ₂.set lid (.loop .done (some .ret) nt α ps asg body)).del lid = σ₂.del lid := by
            funext j; unfold AH.set AH.del; by_cases hj : j = lid <;> simp [hj]
          rw [this]; exact h.2⟩⟩
      | exit id => exact ⟨_, _, h.1, .inr ⟨rfl, .exit id, AH.set_same _ _ _, by
          have : (σ₂.set lid (.loop .done (some (.exit id)) nt α ps asg body)).del lid = σ₂.del lid := by
            funext j; unfold AH.set AH.del; by_cases hj : j = lid <;> simp [hj]
          rw [this]; exact h.2⟩⟩
      | goto t => exact ⟨_, _, h.1, .inr ⟨rfl, .goto t, AH.set_same _ _ _, by
          have : (σ₂.set lid (.loop .done (some (.goto t)) nt α ps asg body)).del lid = σ₂.del lid := by
            funext j; unfold AH.set AH.del; by_cases hj : j = lid <;> simp [hj]
          rw [this]; exact h.2⟩⟩
      | panic c => exact h.elim
      | outgrown => exact h.elim
    | exit id => exact h.elim
    | goto t => exact h.elim
    | ret => exact h.elim
    | panic c => exact h.elim
    | outgrown => exact h.elim
  · rintro r σ' (⟨h1, h2⟩ | ⟨c, h1, h2⟩)
    · exact ⟨_, _, h1, by simp, hend _ h2⟩
    · exact ⟨_, _, h1, by simp, hex _ _ h2⟩

theorem AT.scope0 {c : Code} (h0 : AT P nt rd c (scopeQ (fun _ _ _ => False) Q) α σ) : AT P nt rd (.scope c) Q α σ :=
  AT.scope (fun _ _ _ _ => False) (h0.mono fun e α' σ' h => by cases e <;> first | exact h | exact h.elim) (fun k l α' σ' rest h => h.elim)

end
end Go.Proofs.Ytdimikmgkdcglaa
