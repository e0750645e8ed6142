/- The frame rule: what a call does in a small heap it does in a larger. No conditions. -/
import Derived.Test.YtdimikmgkdcglaaB5
set_option linter.unusedVariables false
set_option linter.unusedSimpArgs false
namespace Go.Proofs.Ytdimikmgkdcglaa
open Go.RowKit

theorem BOK.placed {φ : Pl} {R : Nat → Prop} {w : World} {id : Nat} {ab : AB} (h : BOK φ R w id ab) : ∃ n p, φ id n = some p := by
  cases h with
  | box hp => exact ⟨_, _, hp⟩
  | row hsz hst hp => obtain ⟨b, c, h⟩ := hp; exact ⟨_, _, h⟩
  | map hp => exact ⟨_, _, hp⟩
  | loop hp => exact ⟨_, _, hp⟩

theorem AH.le_some {σ τ : AH} (h : σ.le τ) {id : Nat} (h1 : σ id ≠ none) : τ id = σ id := by
  rcases h id with h4 | h4
  · exact absurd h4 h1
  · exact h4.symm
theorem AH.le_none {σ τ : AH} (h : σ.le τ) {id : Nat} (h1 : τ id = none) : σ id = none := by
  rcases h id with h4 | h4
  · exact h4
  · exact h4.trans h1
theorem AH.le_trans {σ τ υ : AH} (h : σ.le τ) (k : τ.le υ) : σ.le υ := fun id => by
  rcases h id with h1 | h1
  · exact .inl h1
  · rcases k id with h2 | h2
    · exact .inl (h1.trans h2)
    · exact .inr (h1.trans h2)

/-- What is framed stays; the rest is the small run's. -/
def join (σ τ σ' : AH) : AH := fun id => match σ id, τ id with
  | none, some b => some b
  | _, _ => σ' id
theorem join_fr {σ τ σ' : AH} {id : Nat} {b : AB} (h1 : σ id = none) (h2 : τ id = some b) : join σ τ σ' id = some b := by simp [join, h1, h2]
theorem join_nf {σ τ σ' : AH} {id : Nat} (h : ¬ (σ id = none ∧ τ id ≠ none)) : join σ τ σ' id = σ' id := by
  unfold join
  cases h1 : σ id with
  | some b => rfl
  | none => cases h2 : τ id with
    | none => rfl
    | some b => exact absurd ⟨h1, by simp [h2]⟩ h
theorem join_self {σ τ : AH} (h : σ.le τ) : join σ τ σ = τ := by
  funext id
  by_cases hf : σ id = none ∧ τ id ≠ none
  · obtain ⟨b, hb⟩ := Option.ne_none_iff_exists'.1 hf.2
    rw [join_fr hf.1 hb, hb]
  · rw [join_nf hf]
    by_cases h1 : σ id = none
    · have h2 : τ id = none := Classical.byContradiction fun h2 => hf ⟨h1, h2⟩
      rw [h1, h2]
    · exact (AH.le_some h h1).symm

theorem Cfg.frame {B : Nat} {R R' : Nat → Prop} {σ τ σ' : AH} {φ φ' : Pl} {w w' : World} (hc : Cfg B R τ φ w) (hle : σ.le τ) (hc' : Cfg B R' σ' φ' w') (hE : Ext R σ φ w R' σ' φ' w') :
    Cfg B R' (join σ τ σ') φ' w' ∧ Ext R τ φ w R' (join σ τ σ') φ' w' ∧ ∀ id, σ id = none → τ id ≠ none → σ' id = none := by
  have hpl : ∀ id, τ id ≠ none → ∃ n p, φ id n = some p := fun id h => by
    obtain ⟨b, hb⟩ := Option.ne_none_iff_exists'.1 h
    exact (hc.ok id b hb).placed
  have hph : ∀ id, σ id = none → τ id ≠ none → ∀ n, φ' id n = φ id n := fun id h1 h2 => hE.dead id h1 (hpl id h2)
  have hnone : ∀ id, σ id = none → τ id ≠ none → σ' id = none := fun id h1 h2 => Classical.byContradiction fun h3 => by
    obtain ⟨n, p, hp⟩ := hpl id h2
    rw [hE.new id h3 h1 n] at hp
    cases hp
  have hown : ∀ b, owned σ φ b → owned τ φ b := fun b ⟨id, n, c, h1, h2⟩ => ⟨id, n, c, by rw [AH.le_some hle h1]; exact h1, h2⟩
  have hno : ∀ id n b c, σ id = none → τ id ≠ none → φ id n = some (b, c) → ¬ owned σ φ b := fun id n b c h1 h2 h3 ⟨id', n', c', h4, h5⟩ => by
    have := hc.sep id id' n n' b c c' h2 (by rw [AH.le_some hle h4]; exact h4) h3 h5
    subst this
    exact h4 h1
  -- the two sorts of names
  have hcase : ∀ id, join σ τ σ' id ≠ none → (σ id = none ∧ τ id ≠ none ∧ ∀ n, φ' id n = φ id n) ∨ σ' id ≠ none := fun id h => by
    by_cases hf : σ id = none ∧ τ id ≠ none
    · exact .inl ⟨hf.1, hf.2, hph id hf.1 hf.2⟩
    · rw [join_nf hf] at h
      exact .inr h
  refine ⟨⟨fun id ab h => ?_, fun id id' n n' b c c' h1 h2 h3 h4 => ?_, fun id n b c h1 h2 => ?_, hc'.lt, ?_, hc'.bs, fun b hb ⟨id, n, c, h1, h2⟩ => ?_, hc'.rlt⟩, ⟨hE.ph, hE.sz, fun b hb h => hE.keep b hb fun h2 => h (hown b h2), fun b hb ⟨id, n, c, h1, h2⟩ => ?_, fun id h1 h2 n => ?_, fun id h1 h2 => hE.dead id (AH.le_none hle h1) h2, hE.ro, hE.rok, fun b hb h => ?_, hE.os, hE.tape, hE.output⟩, hnone⟩
  · by_cases hf : σ id = none ∧ τ id ≠ none
    · obtain ⟨b, hb⟩ := Option.ne_none_iff_exists'.1 hf.2
      rw [join_fr hf.1 hb] at h
      injection h with h
      subst h
      exact (hc.ok id _ hb).keep hE.toKeep (hph id hf.1 hf.2) fun n b c h3 => hE.keep b (hc.lt _ _ _ _ h3) (hno id n b c hf.1 hf.2 h3)
    · rw [join_nf hf] at h
      exact hc'.ok id ab h
  · rcases hcase id h1 with ⟨a1, a2, a3⟩ | a <;> rcases hcase id' h2 with ⟨b1, b2, b3⟩ | b'
    · rw [a3] at h3; rw [b3] at h4
      exact hc.sep id id' n n' b c c' a2 b2 h3 h4
    · rw [a3] at h3
      exact absurd (hE.own b (hc.lt _ _ _ _ h3) ⟨id', n', c', b', h4⟩) (hno id n b c a1 a2 h3)
    · rw [b3] at h4
      exact absurd (hE.own b (hc.lt _ _ _ _ h4) ⟨id, n, c, a, h3⟩) (hno id' n' b c' b1 b2 h4)
    · exact hc'.sep id id' n n' b c c' a b' h3 h4
  · rcases hcase id h1 with ⟨a1, a2, a3⟩ | a
    · rw [a3] at h2
      exact hc.low id n b c a2 h2
    · exact hc'.low id n b c a h2
  · obtain ⟨N, hN⟩ := hc.fin
    obtain ⟨M, hM⟩ := hc'.fin
    refine ⟨max N M, fun id hid => ⟨?_, (hM id (by omega)).2⟩⟩
    rw [join_nf fun h => h.2 (hN id (by omega)).1]
    exact (hM id (by omega)).1
  · rcases hcase id h1 with ⟨a1, a2, a3⟩ | a
    · rw [a3] at h2
      rcases hE.rn b (hc.lt _ _ _ _ h2) hb with h3 | h3
      · exact hc.dj b h3 ⟨id, n, c, a2, h2⟩
      · exact hno id n b c a1 a2 h2 h3
    · exact hc'.dj b hb ⟨id, n, c, a, h2⟩
  · rcases hcase id h1 with ⟨a1, a2, a3⟩ | a
    · rw [a3] at h2
      exact ⟨id, n, c, a2, h2⟩
    · exact hown b (hE.own b hb ⟨id, n, c, a, h2⟩)
  · rcases hcase id h1 with ⟨a1, a2, a3⟩ | a
    · exact absurd h2 a2
    · exact hE.new id a (AH.le_none hle h2) n
  · rcases hE.rn b hb h with h3 | h3
    · exact .inl h3
    · exact .inr (hown b h3)

theorem AC.frame {P : Program} {f : FuncId} {args : List AV} {σ τ : AH} {K : AV → AH → Prop} (h : AC P f args σ K) (hle : σ.le τ) :
    AC P f args τ fun r τ' => ∃ σ', K r σ' ∧ (∀ id, σ id = none → τ id ≠ none → σ' id = none) ∧ τ' = join σ τ σ' :=
  ⟨h.1, fun B R φ w us hc hr => (h.2 B R φ w us (hc.drop hle) hr).mono fun e w' ⟨u, r, R', σ', φ', h1, h2, h3, h4, h5⟩ => by
    obtain ⟨k1, k2, k3⟩ := hc.frame hle h2 h3
    exact ⟨u, r, R', join σ τ σ', φ', h1, k1, k2, h4, σ', h5, k3, rfl⟩⟩

/-- A call that leaves the heap as it is, in a larger one. -/
theorem AC.frameQ {P : Program} {f : FuncId} {args : List AV} {σ τ : AH} {v : AV} (h : AC P f args σ fun r σ' => r = v ∧ σ' = σ) (hle : σ.le τ) {K : AV → AH → Prop} (hK : K v τ) :
    AC P f args τ K := (h.frame hle).mono fun r τ' ⟨σ', ⟨h1, h2⟩, _, h3⟩ => by
  subst h1 h2 h3
  rw [join_self hle]
  exact hK
theorem AH.empty_le (τ : AH) : AH.le (fun _ => none) τ := fun _ => .inl rfl
/-- What a function makes of values alone it makes in every heap. -/
theorem AC.pure {P : Program} {f : FuncId} {args : List AV} {v : AV} (h : AC P f args (fun _ => none) fun r σ' => r = v ∧ σ' = fun _ => none) (τ : AH) {K : AV → AH → Prop} (hK : K v τ) : AC P f args τ K :=
  h.frameQ (AH.empty_le τ) hK

end Go.Proofs.Ytdimikmgkdcglaa
