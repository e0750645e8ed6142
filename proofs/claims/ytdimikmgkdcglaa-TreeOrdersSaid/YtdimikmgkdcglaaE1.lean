/- Plain: what is met of a page whose links are right. No program in sight. No conditions. -/
import Derived.Test.YtdimikmgkdcglaaD7
set_option linter.unusedVariables false
set_option linter.unusedSimpArgs false
namespace Go.Proofs.Ytdimikmgkdcglaa
open Go.RowKit

/-- Places are met once; each one's parent is met before it, and is one less deep. -/
structure WkInv (l : List Nd) (s : Wk) : Prop where
  nd : s.1.Nodup
  mem : ∀ i, i ∈ s.1 ↔ s.2 i ≠ 0
  pos : ∀ i, 0 ≤ s.2 i
  rng : ∀ i ∈ s.1, 0 ≤ i ∧ i < l.length
  par : ∀ (t : Nat) (i : Int), s.1[t]? = some i → t = 0 ∨ ∃ (u : Nat) (q : Int), u < t ∧ s.1[u]? = some q ∧ i ∈ kidsAt l q ∧ s.2 i = s.2 q + 1

theorem WkInv.start (l : List Nd) : WkInv l ([], fun _ => 0) :=
  ⟨List.nodup_nil, by simp, fun _ => Int.le_refl _, by simp, by simp⟩

theorem updF_same (D : Int → Int) (k v : Int) : updF D k v k = v := by simp [updF]
theorem updF_ne (D : Int → Int) (v : Int) {k j : Int} (h : j ≠ k) : updF D k v j = D j := by simp [updF, h]

theorem WkInv.add {l : List Nd} {s : Wk} (h : WkInv l s) {i deep : Int} (hd : 0 < deep) (h0 : 0 ≤ i) (hi : i < l.length) (hz : s.2 i = 0) (hp : s.1 = [] ∨ ∃ q, q ∈ s.1 ∧ i ∈ kidsAt l q ∧ s.2 q + 1 = deep) :
    WkInv l (s.1 ++ [i], updF s.2 i deep) := by
  have hni : i ∉ s.1 := fun hm => (h.mem i).1 hm hz
  refine ⟨?_, fun j => ?_, fun j => ?_, fun j hj => ?_, fun t j hj => ?_⟩
  · rw [List.nodup_append]
    exact ⟨h.nd, by simp, fun a ha b hb => by simp at hb; subst hb; intro e; subst e; exact hni ha⟩
  · simp only [List.mem_append, List.mem_singleton]
    by_cases hji : j = i
    · subst hji; rw [updF_same]; simp; omega
    · rw [updF_ne _ _ hji, h.mem j]; simp [hji]
  · show 0 ≤ updF s.2 i deep j
    by_cases hji : j = i
    · subst hji; rw [updF_same]; omega
    · rw [updF_ne _ _ hji]; exact h.pos j
  · simp only [List.mem_append, List.mem_singleton] at hj
    rcases hj with hj | rfl
    · exact h.rng j hj
    · exact ⟨h0, hi⟩
  · by_cases ht : t < s.1.length
    · rw [List.getElem?_append_left ht] at hj
      have hji : j ≠ i := by rintro rfl; exact hni (List.mem_of_getElem? hj)
      rcases h.par t j hj with h1 | ⟨u, q, h1, h2, h3, h4⟩
      · exact .inl h1
      · have hqi : q ≠ i := by rintro rfl; exact hni (List.mem_of_getElem? h2)
        refine .inr ⟨u, q, h1, ?_, h3, by simp only [updF_ne _ _ hji, updF_ne _ _ hqi]; exact h4⟩
        rw [List.getElem?_append_left (by omega)]; exact h2
    · rw [List.getElem?_append_right (by omega)] at hj
      have ht0 : t - s.1.length = 0 := by
        have := (List.getElem?_eq_some_iff.1 hj).1
        simp at this; omega
      rw [ht0] at hj
      simp at hj
      subst hj
      rcases hp with hp | ⟨q, h1, h2, h3⟩
      · left; rw [hp] at ht0; simpa using ht0
      · obtain ⟨u, hu⟩ := List.mem_iff_getElem?.1 h1
        have hul := (List.getElem?_eq_some_iff.1 hu).1
        have hqi : q ≠ i := by rintro rfl; exact hni h1
        refine .inr ⟨u, q, by omega, by rw [List.getElem?_append_left hul]; exact hu, h2, ?_⟩
        simp only [updF_same, updF_ne _ _ hqi]; omega

theorem goesP_inv {l : List Nd} (hk : ∀ n ∈ l, ∀ k ∈ n.kids.l, 0 ≤ k ∧ k < l.length) : ∀ (f : Nat) (i deep : Int) (s : Wk), 0 < deep → 0 ≤ i → i < l.length → WkInv l s → (s.1 = [] ∨ ∃ q, q ∈ s.1 ∧ i ∈ kidsAt l q ∧ s.2 q + 1 = deep) →
    WkInv l (goesP l f i deep s) ∧ s.1 <+: (goesP l f i deep s).1 ∧ ∀ j, s.2 j ≠ 0 → (goesP l f i deep s).2 j = s.2 j
  | 0, i, deep, s, _, _, _, h, _ => ⟨h, List.prefix_refl _, fun _ _ => rfl⟩
  | f + 1, i, deep, s, hd, h0, hi, h, hp => by
    unfold goesP
    split
    · exact ⟨h, List.prefix_refl _, fun _ _ => rfl⟩
    · rename_i hz
      have hz' : s.2 i = 0 := by have := h.pos i; omega
      have hadd := h.add hd h0 hi hz' hp
      have key : ∀ (ks : List Int) (s' : Wk), (∀ k ∈ ks, k ∈ kidsAt l i) → WkInv l s' → i ∈ s'.1 → s'.2 i = deep →
          WkInv l (ks.foldl (fun s k => goesP l f k (deep + 1) s) s') ∧ s'.1 <+: (ks.foldl (fun s k => goesP l f k (deep + 1) s) s').1 ∧ ∀ j, s'.2 j ≠ 0 → (ks.foldl (fun s k => goesP l f k (deep + 1) s) s').2 j = s'.2 j := by
        intro ks
        induction ks with
        | nil => intro s' _ h' _ _; exact ⟨h', List.prefix_refl _, fun _ _ => rfl⟩
        | cons k ks ih =>
          intro s' hks h' him hid
          have hki := hks k (by simp)
          have hkr : 0 ≤ k ∧ k < l.length := by
            unfold kidsAt at hki
            cases hg : l[i.toNat]? with
            | none => rw [hg] at hki; simp at hki
            | some nd => rw [hg] at hki; exact hk nd (List.mem_of_getElem? hg) k hki
          obtain ⟨q1, q2, q3⟩ := goesP_inv hk f k (deep + 1) s' (by omega) hkr.1 hkr.2 h' (.inr ⟨i, him, hki, by omega⟩)
          obtain ⟨p1, p2, p3⟩ := ih (goesP l f k (deep + 1) s') (fun k hk => hks k (by simp [hk])) q1 (q2.subset him) (by rw [q3 i (by omega)]; exact hid)
          exact ⟨p1, q2.trans p2, fun j hj => by rw [List.foldl_cons, p3 j (by rw [q3 j hj]; exact hj), q3 j hj]⟩
      obtain ⟨p1, p2, p3⟩ := key (kidsAt l i) (s.1 ++ [i], updF s.2 i deep) (fun _ h => h) hadd (by simp) (updF_same _ _ _)
      refine ⟨p1, (List.prefix_append _ _).trans p2, fun j hj => ?_⟩
      have hji : j ≠ i := by rintro rfl; exact hj hz'
      rw [p3 j (by show updF s.2 i deep j ≠ 0; rw [updF_ne _ _ hji]; exact hj)]
      exact updF_ne _ _ hji

end Go.Proofs.Ytdimikmgkdcglaa
