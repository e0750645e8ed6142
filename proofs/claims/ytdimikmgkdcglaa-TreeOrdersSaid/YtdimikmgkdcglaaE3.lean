/- Plain: the order, the depths, the parents of a page that is right. No program in sight. No conditions. -/
import Derived.Test.YtdimikmgkdcglaaE1
import Derived.Test.YtdimikmgkdcglaaE2
import Derived.Test.YtdimikmgkdcglaaD8
set_option linter.unusedVariables false
set_option linter.unusedSimpArgs false
namespace Go.Proofs.Ytdimikmgkdcglaa
open Go.RowKit

/-- What a page is that nothing is wrong with. -/
structure Right (l : List Nd) : Prop where
  pos : 0 < l.length
  most : l.length ≤ 65536
  node : ∀ n ∈ l, isRightP n = true
  link : ∀ n ∈ l, ∀ k ∈ n.kids.l, 1 ≤ k ∧ k < l.length
  once : ∀ k : Nat, 1 ≤ k → k < l.length → tmP l (prs l).length k = 1
  met : ∀ k : Nat, k < l.length → (walkP l).2 k ≠ 0
  deep : ∀ k : Nat, k < l.length → (walkP l).2 k ≤ 64
  inv : WkInv l (walkP l)
  root : (walkP l).1[0]? = some 0
  root1 : (walkP l).2 0 = 1

theorem find_range_none {f : Nat → Bool} {n : Nat} (h : (List.range n).find? f = none) : ∀ k, k < n → f k = false := fun k hk => by
  have := List.find?_eq_none.1 h k (by simp [hk])
  simpa using this
theorem idxP_neg {α : Type} {p : α → Bool} {l : List α} (h : ¬ idxP p l ≥ 0) : ∀ x ∈ l, p x = false := fun x hx => by
  unfold idxP at h
  split at h
  · omega
  · rename_i hn
    simpa using List.findIdx?_eq_none_iff.1 hn x hx

theorem right_of {l : List Nd} (h : checkE l = none) : Right l := by
  have hpos := checkE_len h
  unfold checkE at h
  split at h
  · cases h
  · rename_i h1
    split at h
    · cases h
    · rename_i h2
      split at h
      · cases h
      · rename_i hl
        split at h
        · cases h
        · rename_i hb
          split at h
          · cases h
          · rename_i hd
            have hlink : ∀ n ∈ l, ∀ k ∈ n.kids.l, 1 ≤ k ∧ k < l.length := fun n hn k hk => by
              obtain ⟨j, i, hj⟩ := prs_mem hn hk
              have := List.find?_eq_none.1 hl _ (List.mem_of_getElem? hj)
              simp [badLink] at this
              omega
            have hlink0 : ∀ n ∈ l, ∀ k ∈ n.kids.l, 0 ≤ k ∧ k < l.length := fun n hn k hk => by have := hlink n hn k hk; omega
            obtain ⟨hI, -, -⟩ := goesP_inv hlink0 (l.length + 1) 0 1 ([], fun _ => 0) (by omega) (by omega) (by omega) (WkInv.start l) (.inl rfl)
            have hstep : walkP l = (kidsAt l 0).foldl (fun s k => goesP l l.length k (1 + 1) s) ([0], updF (fun _ => 0) 0 1) := by
              unfold walkP
              rw [goesP, if_neg (by simp)]
              rfl
            have hfold : ∀ (ks : List Int) (s : Wk), (∀ k ∈ ks, k ∈ kidsAt l 0) → WkInv l s → (0 : Int) ∈ s.1 → s.2 0 = 1 → s.1 <+: (ks.foldl (fun s k => goesP l l.length k (1 + 1) s) s).1 ∧ (ks.foldl (fun s k => goesP l l.length k (1 + 1) s) s).2 0 = 1 := by
              intro ks
              induction ks with
              | nil => intro s _ _ _ h; exact ⟨List.prefix_refl _, h⟩
              | cons k ks ih =>
                intro s hks hs h0 h1
                have hk0 := hks k (by simp)
                have hkr : 0 ≤ k ∧ k < l.length := by
                  unfold kidsAt at hk0
                  cases hg : l[(0 : Int).toNat]? with
                  | none => rw [hg] at hk0; simp at hk0
                  | some nd => rw [hg] at hk0; exact hlink0 nd (List.mem_of_getElem? hg) k hk0
                obtain ⟨q1, q2, q3⟩ := goesP_inv hlink0 l.length k (1 + 1) s (by omega) hkr.1 hkr.2 hs (.inr ⟨0, h0, hk0, by omega⟩)
                obtain ⟨p1, p2⟩ := ih (goesP l l.length k (1 + 1) s) (fun k hk => hks k (by simp [hk])) q1 (q2.subset h0) (by rw [q3 0 (by omega)]; exact h1)
                exact ⟨q2.trans p1, p2⟩
            have hadd := (WkInv.start l).add (i := 0) (deep := 1) (by omega) (by omega) (by omega) rfl (.inl rfl)
            obtain ⟨r1, r2⟩ := hfold (kidsAt l 0) ([0], updF (fun _ => 0) 0 1) (fun _ h => h) hadd (by simp) (by simp [updF])
            rw [← hstep] at r1 r2
            have hbad := find_range_none hb
            have hdeep := find_range_none hd
            have hmet : ∀ k : Nat, k < l.length → (walkP l).2 k ≠ 0 := fun k hk => by
              by_cases h0 : k = 0
              · subst h0; show (walkP l).2 0 ≠ 0; omega
              · have := hbad k hk
                unfold badAt at this
                simp at this
                exact (this (by omega)).2
            refine ⟨hpos, by omega, fun n hn => by have := idxP_neg h2 n hn; simpa using this, hlink, fun k h1 hk => ?_, hmet, fun k hk => ?_, hI, ?_, r2⟩
            · have := hbad k hk
              unfold badAt at this
              simp at this
              exact (this (by omega)).1
            · have := hdeep k hk
              unfold deepAt at this
              simp at this
              exact this
            · obtain ⟨c, hc⟩ := r1
              rw [← hc]; rfl

theorem Right.link0 {l : List Nd} (h : Right l) : ∀ n ∈ l, ∀ k ∈ n.kids.l, 0 ≤ k ∧ k < l.length := fun n hn k hk => by have := h.link n hn k hk; omega
theorem nodup_len {o : List Int} {n : Nat} (h1 : o.Nodup) (h2 : ∀ i, i ∈ o ↔ 0 ≤ i ∧ i < n) : o.length = n := by
  have hp : o.Perm ((List.range n).map fun k : Nat => (k : Int)) := by
    refine (List.perm_ext_iff_of_nodup h1 ?_).2 fun i => ?_
    · rw [List.Nodup, List.pairwise_map]
      exact List.nodup_range.imp fun h e => h (Int.ofNat.inj e)
    · rw [h2 i]
      simp only [List.mem_map, List.mem_range]
      constructor
      · rintro ⟨q1, q2⟩
        exact ⟨i.toNat, by omega, by omega⟩
      · rintro ⟨k, hk, rfl⟩
        omega
  rw [hp.length_eq]; simp
theorem Right.mem {l : List Nd} (h : Right l) (i : Int) : i ∈ (walkP l).1 ↔ 0 ≤ i ∧ i < l.length := by
  constructor
  · exact h.inv.rng i
  · rintro ⟨h0, h1⟩
    obtain ⟨k, rfl⟩ := Int.eq_ofNat_of_zero_le h0
    exact (h.inv.mem _).2 (h.met k (by omega))
theorem Right.len {l : List Nd} (h : Right l) : (walkP l).1.length = l.length := nodup_len h.inv.nd h.mem

/-! ### Parents -/
theorem kids_prs {l : List Nd} {q : Int} {k : Int} (h : k ∈ kidsAt l q) : (q.toNat, k) ∈ prs l := by
  unfold kidsAt at h
  cases hg : l[q.toNat]? with
  | none => rw [hg] at h; simp at h
  | some nd =>
    rw [hg] at h
    obtain ⟨j, hj⟩ := List.mem_iff_getElem?.1 h
    have := prsFrom_at 0 hg hj
    rw [Nat.zero_add] at this
    exact List.mem_of_getElem? this
theorem once_eq {α : Type} {p : α → Bool} {l : List α} (h : l.countP p = 1) {a b : α} (ha : a ∈ l) (hb : b ∈ l) (pa : p a = true) (pb : p b = true) : a = b := by
  rw [List.countP_eq_length_filter] at h
  obtain ⟨c, hc⟩ := List.length_eq_one_iff.1 h
  have h1 : a ∈ l.filter p := List.mem_filter.2 ⟨ha, pa⟩
  have h2 : b ∈ l.filter p := List.mem_filter.2 ⟨hb, pb⟩
  rw [hc] at h1 h2
  simp at h1 h2
  rw [h1, h2]
theorem Right.parent1 {l : List Nd} (h : Right l) {a b : Nat} {k : Int} (h1 : (a, k) ∈ prs l) (h2 : (b, k) ∈ prs l) : a = b := by
  obtain ⟨j, hj⟩ := List.mem_iff_getElem?.1 h1
  have hk : 1 ≤ k ∧ k < l.length := by
    rw [prs_flat] at h1
    simp only [List.mem_flatMap, List.mem_map, List.mem_range] at h1
    obtain ⟨i, hi, k', hk', e⟩ := h1
    have hkids : kidsAt l (i : Int) = l[i].kids.l := kidsAt_of (by simp)
    rw [hkids] at hk'
    injection e with e1 e2
    subst e2
    exact h.link _ (List.getElem_mem hi) _ hk'
  obtain ⟨n, rfl⟩ := Int.eq_ofNat_of_zero_le (show 0 ≤ k by omega)
  have ho := h.once n (by omega) (by omega)
  unfold tmP at ho
  rw [List.take_length] at ho
  have := once_eq (p := fun p : Nat × Int => decide (p.2 = (n : Int))) (by exact_mod_cast ho) h1 h2 (by simp) (by simp)
  injection this

theorem parsP_root {l : List Nd} (h : Right l) : ∀ m, m ≤ (prs l).length → (parsP l m)[0]? = some (-1)
  | 0, _ => by rw [parsP_zero]; have := h.pos; simp [this]
  | m + 1, hm => by
    have hp : (prs l)[m]? = some ((prs l)[m].1, (prs l)[m].2) := List.getElem?_eq_getElem (by omega)
    rw [parsP_succ hp, List.getElem?_set_ne ?_]
    · exact parsP_root h m (by omega)
    · have h1 : (prs l)[m] ∈ prs l := List.getElem_mem _
      have : 1 ≤ (prs l)[m].2 := by
        generalize (prs l)[m] = q at h1
        rw [prs_flat] at h1
        simp only [List.mem_flatMap, List.mem_map, List.mem_range] at h1
        obtain ⟨i, hi, k', hk', rfl⟩ := h1
        rw [kidsAt_of (n := l[i]) (by simp)] at hk'
        exact (h.link _ (List.getElem_mem hi) _ hk').1
      omega
theorem parsP_at {l : List Nd} (h : Right l) {q : Nat} {k : Nat} (hq : (q, (k : Int)) ∈ prs l) (hk : k < l.length) : (parsP l (prs l).length)[k]? = some (q : Int) := by
  have key : ∀ m, m ≤ (prs l).length → (∃ j, j < m ∧ (prs l)[j]? = some (q, (k : Int))) → (parsP l m)[k]? = some (q : Int) := by
    intro m
    induction m with
    | zero => rintro _ ⟨j, hj, _⟩; omega
    | succ m ih =>
      rintro hm ⟨j, hj, hjq⟩
      have hp : (prs l)[m]? = some ((prs l)[m].1, (prs l)[m].2) := List.getElem?_eq_getElem (by omega)
      rw [parsP_succ hp]
      by_cases hkm : (prs l)[m].2 = (k : Int)
      · have h1 : ((prs l)[m].1, (k : Int)) ∈ prs l := by rw [← hkm]; exact List.getElem_mem _
        have := h.parent1 h1 hq
        rw [this, hkm, Int.toNat_natCast, List.getElem?_set_self (by rw [parsP_len]; exact hk)]
      · have h1 : (prs l)[m].2.toNat ≠ k := by
          have hmem : (prs l)[m] ∈ prs l := List.getElem_mem _
          have : 1 ≤ (prs l)[m].2 := by
            generalize (prs l)[m] = q at hmem
            rw [prs_flat] at hmem
            simp only [List.mem_flatMap, List.mem_map, List.mem_range] at hmem
            obtain ⟨i, hi, k', hk', rfl⟩ := hmem
            rw [kidsAt_of (n := l[i]) (by simp)] at hk'
            exact (h.link _ (List.getElem_mem hi) _ hk').1
          omega
        rw [List.getElem?_set_ne h1]
        refine ih (by omega) ⟨j, ?_, hjq⟩
        by_cases hjm : j = m
        · subst hjm
          rw [hp] at hjq
          injection hjq with hjq
          injection hjq with _ e
          exact absurd e hkm
        · omega
  obtain ⟨j, hj⟩ := List.mem_iff_getElem?.1 hq
  exact key _ (Nat.le_refl _) ⟨j, (List.getElem?_eq_some_iff.1 hj).1, hj⟩
/-- A node's parent: met before it, one less deep. -/
theorem Right.par {l : List Nd} (h : Right l) {k : Nat} (h1 : 1 ≤ k) (hk : k < l.length) : ∃ q : Nat, q < l.length ∧ (parsP l (prs l).length)[k]? = some (q : Int) ∧ (walkP l).2 k = (walkP l).2 q + 1 ∧
    (k : Int) ∈ kidsAt l q ∧ ∃ u t : Nat, u < t ∧ (walkP l).1[u]? = some (q : Int) ∧ (walkP l).1[t]? = some (k : Int) := by
  obtain ⟨t, ht⟩ := List.mem_iff_getElem?.1 ((h.mem (k : Int)).2 ⟨by omega, by omega⟩)
  rcases h.inv.par t k ht with h0 | ⟨u, q, hu, hq, hkq, hd⟩
  · subst h0; rw [h.root] at ht; injection ht with ht; omega
  · obtain ⟨q0, q1⟩ := h.inv.rng q (List.mem_of_getElem? hq)
    obtain ⟨n, rfl⟩ := Int.eq_ofNat_of_zero_le q0
    have hm := kids_prs hkq
    rw [Int.toNat_natCast] at hm
    exact ⟨n, by omega, parsP_at h hm hk, hd, hkq, u, t, hu, hq, ht⟩

end Go.Proofs.Ytdimikmgkdcglaa
