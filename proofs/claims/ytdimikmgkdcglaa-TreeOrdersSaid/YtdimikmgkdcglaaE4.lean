/- Plain: where places stand in an order. No program in sight. No conditions. -/
import Derived.Test.YtdimikmgkdcglaaE3
set_option linter.unusedVariables false
set_option linter.unusedSimpArgs false
namespace Go.Proofs.Ytdimikmgkdcglaa
open Go.RowKit

/-- Where the first i places of an order stand in it, counted from one; naught: not there. -/
def atP (O : List Int) (n i : Nat) : List Int := (List.range i).foldl (fun a (j : Nat) => a.set (O.getD j 0).toNat ((j : Int) + 1)) (List.replicate n 0)
theorem atP_zero (O : List Int) (n : Nat) : atP O n 0 = List.replicate n 0 := rfl
theorem atP_succ {O : List Int} {n i : Nat} {k : Nat} (h : O[i]? = some (k : Int)) : atP O n (i + 1) = (atP O n i).set k ((i : Int) + 1) := by
  unfold atP
  rw [List.range_succ, List.foldl_append]
  simp [List.getD_eq_getElem?_getD, h]
theorem atP_len (O : List Int) (n : Nat) : ∀ i, (atP O n i).length = n
  | 0 => by simp [atP]
  | i + 1 => by
    have := atP_len O n i
    unfold atP at this ⊢
    rw [List.range_succ, List.foldl_append]
    simpa using this
theorem atP_none {O : List Int} {n : Nat} {k : Nat} (hk : k < n) : ∀ i, i ≤ O.length → (∀ (j : Nat) (x : Int), j < i → O[j]? = some x → 0 ≤ x ∧ x ≠ k) → (atP O n i)[k]? = some 0
  | 0, _, _ => by rw [atP_zero]; simp [hk]
  | i + 1, hi, h => by
    obtain ⟨x0, x1⟩ := h i O[i] (by omega) (List.getElem?_eq_getElem (by omega))
    obtain ⟨m, hm⟩ := Int.eq_ofNat_of_zero_le x0
    have hO : O[i]? = some (m : Int) := by rw [List.getElem?_eq_getElem (by omega), hm]
    rw [atP_succ hO, List.getElem?_set_ne (by omega)]
    exact atP_none hk i (by omega) fun j x hj hx => h j x (by omega) hx
theorem atP_at {O : List Int} {n : Nat} (hnd : O.Nodup) (hpos : ∀ x ∈ O, 0 ≤ x) {k j : Nat} (hk : k < n) (hj : O[j]? = some (k : Int)) : ∀ i, i ≤ O.length → j < i → (atP O n i)[k]? = some ((j : Int) + 1)
  | 0, _, h => by omega
  | i + 1, hi, h => by
    obtain ⟨m, hm⟩ := Int.eq_ofNat_of_zero_le (hpos O[i] (List.getElem_mem (by omega)))
    have hO : O[i]? = some (m : Int) := by rw [List.getElem?_eq_getElem (by omega), hm]
    rw [atP_succ hO]
    by_cases hji : j = i
    · subst hji
      rw [hO] at hj
      injection hj with hj
      have : m = k := by omega
      subst this
      rw [List.getElem?_set_self (by rw [atP_len]; exact hk)]
    · have hmk : m ≠ k := by
        rintro rfl
        exact hji (nodup_idx hnd hj hO)
      rw [List.getElem?_set_ne hmk]
      exact atP_at hnd hpos hk hj i (by omega) (by omega)

/-- What the law of orders asks of each place. -/
theorem Right.orders {l : List Nd} (h : Right l) {i : Nat} (h1 : 1 ≤ i) (hi : i < l.length) :
    ∃ q u t : Nat, q < l.length ∧ u < t ∧ (parsP l (prs l).length)[i]? = some (q : Int) ∧ (atP (walkP l).1 l.length l.length)[q]? = some ((u : Int) + 1) ∧ (atP (walkP l).1 l.length l.length)[i]? = some ((t : Int) + 1) ∧
      (depthsP l)[i]? = some ((walkP l).2 q + 1) ∧ (depthsP l)[q]? = some ((walkP l).2 q) ∧ (walkP l).2 q + 1 ≤ 64 := by
  obtain ⟨q, hq, hp, hd, -, u, t, hut, hu, ht⟩ := h.par h1 hi
  have hlen := h.len
  have htl := (List.getElem?_eq_some_iff.1 ht).1
  have hul := (List.getElem?_eq_some_iff.1 hu).1
  have hpos : ∀ x ∈ (walkP l).1, 0 ≤ x := fun x hx => (h.inv.rng x hx).1
  refine ⟨q, u, t, hq, hut, hp, atP_at h.inv.nd hpos hq hu _ (by omega) (by omega), atP_at h.inv.nd hpos hi ht _ (by omega) (by omega), ?_, ?_, ?_⟩
  · rw [← hd]; simp [depthsP, hi]
  · simp [depthsP, hq]
  · rw [← hd]; exact h.deep i hi
/-- A place of the order: it was not met before. -/
theorem Right.fresh {l : List Nd} (h : Right l) {i : Nat} (hi : i < l.length) : ∃ k : Nat, k < l.length ∧ (walkP l).1[i]? = some (k : Int) ∧ (atP (walkP l).1 l.length i)[k]? = some 0 := by
  have hlen := h.len
  have hil : i < (walkP l).1.length := by omega
  obtain ⟨x0, x1⟩ := h.inv.rng _ (List.getElem_mem hil)
  obtain ⟨k, hk⟩ := Int.eq_ofNat_of_zero_le x0
  refine ⟨k, by omega, by rw [List.getElem?_eq_getElem hil, hk], atP_none (by omega) i (by omega) fun j x hj hx => ⟨(h.inv.rng x (List.mem_of_getElem? hx)).1, fun e => ?_⟩⟩
  subst e
  have := nodup_idx h.inv.nd hx (by rw [List.getElem?_eq_getElem hil, hk])
  omega
theorem Right.at0 {l : List Nd} (h : Right l) : (atP (walkP l).1 l.length l.length)[0]? = some 1 := by
  have := atP_at h.inv.nd (fun x hx => (h.inv.rng x hx).1) (k := 0) h.pos h.root l.length (by rw [h.len]; exact Nat.le_refl _) h.pos
  simpa using this
theorem Right.dep0 {l : List Nd} (h : Right l) : (depthsP l)[0]? = some 1 := by
  have := h.pos
  have h1 := h.root1
  simp [depthsP, this, h1]
theorem depthsP_len (l : List Nd) : (depthsP l).length = l.length := by simp [depthsP]

end Go.Proofs.Ytdimikmgkdcglaa
