/- Plain: what is wrong with a chain that has one link more, with a star. No program in sight. No conditions. -/
import Derived.Test.YtdimikmgkdcglaaD7
import Derived.Test.YtdimikmgkdcglaaC7
set_option linter.unusedVariables false
set_option linter.unusedSimpArgs false
namespace Go.Proofs.Ytdimikmgkdcglaa
open Go.RowKit

theorem zNd_right (k : Sl) : isRightP (zNd k) = true := by
  unfold isRightP
  have h1 : wrongA (zNd k) = false := rfl
  have h2 : wrongB (zNd k) = false := rfl
  rw [h1, h2]; rfl
theorem zPage_right {l : List Nd} (h : ∀ n ∈ l, ∃ k, n = zNd k) : idxP (fun n => !isRightP n) l = -1 :=
  idxP_none fun j m hj => by
    obtain ⟨k, rfl⟩ := h m (List.mem_of_getElem? hj)
    simp [zNd_right]

/-! ### All links, node by node -/
theorem prsFrom_app : ∀ (a c : List Nd) (b : Nat), prsFrom b (a ++ c) = prsFrom b a ++ prsFrom (b + a.length) c
  | [], c, b => by simp [prsFrom]
  | n :: a, c, b => by
    simp only [List.cons_append, prsFrom, prsFrom_app a c (b + 1), List.append_assoc, List.length_cons]
    rw [show b + 1 + a.length = b + (a.length + 1) by omega]
theorem kidsAt_of {l : List Nd} {i : Nat} {n : Nd} (h : l[i]? = some n) : kidsAt l (i : Int) = n.kids.l := by simp [kidsAt, h]
theorem prs_take : ∀ (l : List Nd) (m : Nat), m ≤ l.length → prsFrom 0 (l.take m) = (List.range m).flatMap fun i : Nat => (kidsAt l i).map fun k => (i, k) := by
  intro l m
  induction m with
  | zero => intro _; simp [prsFrom]
  | succ m ih =>
    intro hm
    have hlt : m < l.length := by omega
    rw [List.take_succ_eq_append_getElem hlt, prsFrom_app, ih (by omega), List.range_succ, List.flatMap_append]
    congr 1
    have : kidsAt l (m : Int) = l[m].kids.l := kidsAt_of (by simp)
    simp [prsFrom, this, Nat.min_eq_left (show m ≤ l.length by omega)]
theorem prs_flat (l : List Nd) : prs l = (List.range l.length).flatMap fun i : Nat => (kidsAt l i).map fun k => (i, k) := by
  have := prs_take l l.length (Nat.le_refl _)
  rwa [List.take_length] at this
theorem tmP_all (l : List Nd) (k : Int) : tmP l (prs l).length k = ((List.range l.length).flatMap fun i : Nat => (kidsAt l i).map fun k => (i, k)).countP fun p => decide (p.2 = k) := by
  unfold tmP
  rw [List.take_length, prs_flat]

/-! ### A chain with one link more -/
def loopK (n fr to : Nat) (i : Nat) : Sl := if i = fr then some ((if i + 1 < n then [((i : Int) + 1)] else []) ++ [(to : Int)]) else if i + 1 < n then some [((i : Int) + 1)] else none
def loopL (n fr to : Nat) : List Nd := (List.range n).map fun i => zNd (loopK n fr to i)
theorem loopL_len (n fr to : Nat) : (loopL n fr to).length = n := by simp [loopL]
theorem loopL_at {n fr to i : Nat} (h : i < n) : (loopL n fr to)[i]? = some (zNd (loopK n fr to i)) := by simp [loopL, h]
theorem loopL_kids {n fr to i : Nat} (h : i < n) : kidsAt (loopL n fr to) (i : Int) = (loopK n fr to i).l := kidsAt_of (loopL_at h)
theorem loopK_l (n fr to i : Nat) : (loopK n fr to i).l = (if i + 1 < n then [((i : Int) + 1)] else []) ++ (if i = fr then [(to : Int)] else []) := by
  unfold loopK Sl.l
  by_cases h1 : i = fr <;> by_cases h2 : i + 1 < n <;> simp [h1, h2] <;> (subst h1; simp [h2])

def chD (i : Nat) : Int → Int := fun j => if 0 ≤ j ∧ j < i then j + 1 else 0
def chS (i : Nat) : Wk := ((List.range i).map fun k : Nat => (k : Int), chD i)
theorem chS_succ (i : Nat) : ((chS i).1 ++ [(i : Int)], updF (chS i).2 i ((i : Int) + 1)) = chS (i + 1) := by
  unfold chS
  rw [List.range_succ, List.map_append]
  congr 1
  funext j
  show updF (chD i) (i : Int) ((i : Int) + 1) j = chD (i + 1) j
  unfold updF chD
  by_cases hj : j = (i : Int)
  · subst hj; rw [if_pos rfl, if_pos (by omega)]
  · by_cases h : 0 ≤ j ∧ j < (i : Int)
    · rw [if_neg hj, if_pos h, if_pos (by omega)]
    · rw [if_neg hj, if_neg h, if_neg (by omega)]
theorem goesP_met {l : List Nd} {s : Wk} {i d : Int} (h : s.2 i > 0) : ∀ f, goesP l f i d s = s
  | 0 => rfl
  | f + 1 => by unfold goesP; rw [if_pos h]
theorem loop_walk {n fr to : Nat} (hfr : fr < n) (hto : to < n) : ∀ (d i f : Nat), i + d + 1 = n → d + 2 ≤ f + 1 → goesP (loopL n fr to) (f + 1) i ((i : Int) + 1) (chS i) = chS n := by
  intro d
  induction d with
  | zero =>
    intro i f hn hf
    have hz : ¬ (chS i).2 i > 0 := by simp [chS, chD]
    unfold goesP
    rw [if_neg hz, chS_succ, loopL_kids (by omega), loopK_l, if_neg (by omega)]
    have hin : i + 1 = n := by omega
    rw [hin]
    by_cases h : i = fr
    · rw [if_pos h]
      simp only [List.nil_append, List.foldl_cons, List.foldl_nil]
      exact goesP_met (by simp [chS, chD]; omega) _
    · rw [if_neg h]; rfl
  | succ d ih =>
    intro i f hn hf
    have hz : ¬ (chS i).2 i > 0 := by simp [chS, chD]
    unfold goesP
    rw [if_neg hz, chS_succ, loopL_kids (by omega), loopK_l, if_pos (by omega), List.foldl_append]
    obtain ⟨f, rfl⟩ : ∃ f', f = f' + 1 := ⟨f - 1, by omega⟩
    have h1 := ih (i + 1) f (by omega) (by omega)
    simp only [List.foldl_cons, List.foldl_nil]
    have hcast : ((i : Int) + 1) = ((i + 1 : Nat) : Int) := by omega
    rw [hcast, h1]
    by_cases h : i = fr
    · rw [if_pos h]
      simp only [List.foldl_cons, List.foldl_nil]
      exact goesP_met (by simp [chS, chD]; omega) _
    · rw [if_neg h]; rfl
theorem loop_walkP {n fr to : Nat} (h2 : 2 ≤ n) (hfr : fr < n) (hto : to < n) : walkP (loopL n fr to) = chS n := by
  unfold walkP
  rw [loopL_len]
  have h0 : (([], fun _ => 0) : Wk) = chS 0 := by
    unfold chS; congr 1; funext j; unfold chD; rw [if_neg (by omega)]
  rw [h0]
  exact loop_walk hfr hto (n - 1) 0 n (by omega) (by omega)
theorem loop_count {n fr to : Nat} (k : Nat) : ∀ m, m ≤ n → ((List.range m).flatMap fun i : Nat => (kidsAt (loopL n fr to) i).map fun k => (i, k)).countP (fun p => decide (p.2 = (k : Int))) = (if 1 ≤ k ∧ k ≤ m ∧ k < n then 1 else 0) + (if fr < m ∧ k = to then 1 else 0)
  | 0, _ => by
    simp only [List.range_zero, List.flatMap_nil, List.countP_nil]
    rw [if_neg (by omega), if_neg (by omega)]
  | m + 1, hm => by
    rw [List.range_succ, List.flatMap_append, List.countP_append, loop_count k m (by omega)]
    simp only [List.flatMap_cons, List.flatMap_nil, List.append_nil]
    rw [loopL_kids (by omega), loopK_l]
    have e1 : (if m + 1 < n then [((m : Int) + 1)] else []).countP (fun j => decide (j = (k : Int))) = if m + 1 < n ∧ k = m + 1 then 1 else 0 := by
      by_cases h1 : m + 1 < n
      · by_cases h2 : k = m + 1
        · subst h2; simp [h1]
        · have : ¬ ((m : Int) + 1 = (k : Int)) := by omega
          simp [h1, h2, this]
      · simp [h1]
    have e2 : (if m = fr then [(to : Int)] else []).countP (fun j => decide (j = (k : Int))) = if m = fr ∧ k = to then 1 else 0 := by
      by_cases h1 : m = fr
      · by_cases h2 : k = to
        · subst h2; simp [h1]
        · have : ¬ ((to : Int) = (k : Int)) := by omega
          simp [h1, h2, this]
      · simp [h1]
    rw [List.countP_map]
    have e3 : ((fun p : Nat × Int => decide (p.2 = (k : Int))) ∘ fun j => (m, j)) = fun j => decide (j = (k : Int)) := rfl
    rw [e3, List.countP_append, e1, e2]
    repeat' split
    all_goals omega
theorem loop_find0 {n fr : Nat} (hfr : fr < n) : ∀ m, m ≤ n → ((List.range m).flatMap fun i : Nat => (kidsAt (loopL n fr 0) i).map fun k => (i, k)).find? (badLink (loopL n fr 0)) = if fr < m then some (fr, 0) else none
  | 0, _ => by simp
  | m + 1, hm => by
    rw [List.range_succ, List.flatMap_append, List.find?_append, loop_find0 hfr m (by omega)]
    by_cases h1 : fr < m
    · simp [h1, show fr < m + 1 by omega]
    · simp only [List.flatMap_cons, List.flatMap_nil, List.append_nil, if_neg h1, Option.none_or]
      rw [loopL_kids (by omega), loopK_l]
      have e0 : badLink (loopL n fr 0) (m, (0 : Int)) = true := by simp [badLink]
      have e1 : m + 1 < n → badLink (loopL n fr 0) (m, (m : Int) + 1) = false := fun h => by simp [badLink, loopL_len]; omega
      by_cases h2 : m = fr
      · subst h2
        by_cases h3 : m + 1 < n
        · simp [h3, e1 h3, e0]
        · simp [h3, e0]
      · have h4 : ¬ fr < m + 1 := by omega
        by_cases h3 : m + 1 < n
        · simp [h2, h3, h4, e1 h3]
        · simp [h2, h3, h4]
theorem loop_find {n fr to : Nat} (ht : 1 ≤ to) (hto : to < n) : ∀ m, m ≤ n → ((List.range m).flatMap fun i : Nat => (kidsAt (loopL n fr to) i).map fun k => (i, k)).find? (badLink (loopL n fr to)) = none
  | 0, _ => by simp
  | m + 1, hm => by
    rw [List.range_succ, List.flatMap_append, List.find?_append, loop_find ht hto m (by omega), Option.none_or]
    simp only [List.flatMap_cons, List.flatMap_nil, List.append_nil]
    rw [loopL_kids (by omega), loopK_l, List.find?_eq_none]
    intro p hp
    simp only [List.map_append, List.mem_append, List.mem_map] at hp
    rcases hp with ⟨k, hk, rfl⟩ | ⟨k, hk, rfl⟩
    · split at hk
      · simp at hk; subst hk; simp [badLink, loopL_len]; omega
      · simp at hk
    · split at hk
      · simp at hk; subst hk; simp [badLink, loopL_len]; omega
      · simp at hk
theorem loop_check {n fr to : Nat} (h2 : 2 ≤ n) (hn : n ≤ 60) (hfr : fr < n) (hto : to < n) : checkE (loopL n fr to) = some (if to = 0 then ((fr : Int), 40) else ((to : Int), 41)) := by
  unfold checkE
  rw [if_neg (by rw [loopL_len]; omega), if_neg (by rw [zPage_right fun n hn => by simp [loopL] at hn; obtain ⟨i, _, rfl⟩ := hn; exact ⟨_, rfl⟩]; omega)]
  by_cases ht : to = 0
  · subst ht
    rw [prs_flat, loopL_len, loop_find0 hfr n (Nat.le_refl _), if_pos hfr]
    rfl
  · have hg : (prs (loopL n fr to)).find? (badLink (loopL n fr to)) = none := by rw [prs_flat, loopL_len]; exact loop_find (by omega) hto n (Nat.le_refl _)
    have htm : ∀ k : Nat, 1 ≤ k → k < n → tmP (loopL n fr to) (prs (loopL n fr to)).length k = 1 + if k = to then 1 else 0 := fun k h1 h3 => by
      rw [tmP_all, loopL_len, loop_count k n (Nat.le_refl _), if_pos (by omega)]
      by_cases hk : k = to <;> simp [hk, hfr]
    have hw := loop_walkP h2 hfr hto
    have hbad : ∀ k, k < n → badAt (loopL n fr to) k = decide (k = to) := fun k hk => by
      unfold badAt
      by_cases h0 : k = 0
      · subst h0; simp; omega
      · rw [htm k (by omega) hk, hw]
        have : (chS n).2 (k : Int) = (k : Int) + 1 := by simp [chS, chD]; omega
        rw [this]
        by_cases hkt : k = to
        · subst hkt; simp; omega
        · simp [hkt]; omega
    rw [hg]
    simp only
    rw [loopL_len, find_range (i := to) (by rw [hbad to hto]; simp) (fun j hj => by rw [hbad j (by omega)]; simp; omega) hto]
    simp [ht]

/-! ### A star -/
def starL (n : Nat) : List Nd := (List.range n).map fun i => zNd (if i = 0 then (if n = 1 then none else some ((List.range (n - 1)).map fun k : Nat => (k : Int) + 1)) else none)
theorem starL_len (n : Nat) : (starL n).length = n := by simp [starL]
theorem starL_kids0 {n : Nat} (h : 2 ≤ n) : kidsAt (starL n) ((0 : Nat) : Int) = (List.range (n - 1)).map fun k : Nat => (k : Int) + 1 := by
  rw [kidsAt_of (n := zNd (some ((List.range (n - 1)).map fun k : Nat => (k : Int) + 1))) (by simp [starL, show 0 < n by omega, show ¬ n = 1 by omega])]
  rfl
theorem starL_kids {n i : Nat} (h : 1 ≤ i) (hi : i < n) : kidsAt (starL n) (i : Int) = [] := by
  have h1 : ¬ i = 0 := by omega
  rw [kidsAt_of (n := zNd none) (by simp [starL, hi, h1])]
  rfl
theorem star_prs {n : Nat} (h : 2 ≤ n) : prs (starL n) = (List.range (n - 1)).map fun k : Nat => (0, (k : Int) + 1) := by
  rw [prs_flat, starL_len]
  obtain ⟨m, rfl⟩ : ∃ m, n = m + 1 := ⟨n - 1, by omega⟩
  rw [List.range_succ_eq_map, List.flatMap_cons, starL_kids0 h, List.map_map]
  have : (List.map Nat.succ (List.range m)).flatMap (fun i : Nat => (kidsAt (starL (m + 1)) i).map fun k => (i, k)) = [] := by
    rw [List.flatMap_eq_nil_iff]
    intro i hi
    simp at hi
    obtain ⟨j, hj, rfl⟩ := hi
    rw [starL_kids (by omega) (by omega)]
    rfl
  rw [this, List.append_nil]
  rfl
def stD (j : Nat) : Int → Int := fun k => if k = 0 then 1 else if 1 ≤ k ∧ k ≤ j then 2 else 0
theorem star_fold {n : Nat} (h : 2 ≤ n) (f : Nat) : ∀ j (o : List Int), j ≤ n - 1 → ∃ o', ((List.range j).map fun k : Nat => (k : Int) + 1).foldl (fun s k => goesP (starL n) (f + 1) k (1 + 1) s) (o, stD 0) = (o', stD j)
  | 0, o, _ => ⟨o, rfl⟩
  | j + 1, o, hj => by
    obtain ⟨o', ho⟩ := star_fold h f j o (by omega)
    rw [List.range_succ, List.map_append, List.foldl_append, ho]
    simp only [List.map_cons, List.map_nil, List.foldl_cons, List.foldl_nil]
    have hz : ¬ (stD j ((j : Int) + 1) > 0) := by
      unfold stD; rw [if_neg (by omega), if_neg (by omega)]; omega
    unfold goesP
    rw [if_neg hz]
    have hk : kidsAt (starL n) ((j : Int) + 1) = [] := starL_kids (i := j + 1) (by omega) (by omega)
    rw [hk]
    refine ⟨_, Prod.ext rfl ?_⟩
    funext k
    show updF (stD j) ((j : Int) + 1) (1 + 1) k = stD (j + 1) k
    unfold updF stD
    by_cases h1 : k = (j : Int) + 1
    · subst h1; rw [if_pos rfl, if_neg (by omega), if_pos (by omega)]; rfl
    · rw [if_neg h1]
      by_cases h2 : k = 0
      · rw [if_pos h2, if_pos h2]
      · rw [if_neg h2, if_neg h2]
        by_cases h3 : 1 ≤ k ∧ k ≤ (j : Int)
        · rw [if_pos h3, if_pos (by omega)]
        · rw [if_neg h3, if_neg (by omega)]
theorem star_walk {n : Nat} (h : 2 ≤ n) : (walkP (starL n)).2 = stD (n - 1) := by
  unfold walkP
  rw [starL_len]
  unfold goesP
  rw [if_neg (by simp)]
  have h0 := starL_kids0 h
  rw [show ((0 : Nat) : Int) = 0 from rfl] at h0
  rw [h0]
  have hD : updF (fun _ => 0) (0 : Int) 1 = stD 0 := by
    funext k; unfold updF stD
    by_cases h1 : k = 0
    · rw [if_pos h1, if_pos h1]
    · rw [if_neg h1, if_neg h1, if_neg (by omega)]
  obtain ⟨f, hf⟩ : ∃ f, n = f + 1 := ⟨n - 1, by omega⟩
  obtain ⟨o', ho⟩ := star_fold h f (n - 1) [0] (Nat.le_refl _)
  show (List.foldl (fun s k => goesP (starL n) n k (1 + 1) s) ([] ++ [0], updF (fun _ => 0) 0 1) _).2 = _
  rw [hD]
  rw [← hf] at ho
  rw [show ([] ++ [0] : List Int) = [0] from rfl, ho]
theorem star_tm {n : Nat} (h : 2 ≤ n) (k : Nat) (h1 : 1 ≤ k) (hk : k < n) : tmP (starL n) (prs (starL n)).length k = 1 := by
  unfold tmP
  rw [List.take_length, star_prs h, List.countP_map]
  have e : ∀ m, ((List.range m).countP ((fun p : Nat × Int => decide (p.2 = (k : Int))) ∘ fun k : Nat => (0, (k : Int) + 1))) = if k ≤ m then 1 else 0 := by
    intro m
    induction m with
    | zero => rw [if_neg (by omega)]; rfl
    | succ m ih =>
      rw [List.range_succ, List.countP_append, ih]
      simp only [List.countP_cons, List.countP_nil, Function.comp]
      by_cases h2 : k = m + 1
      · subst h2; simp
      · have h3 : ¬ ((m : Int) + 1 = (k : Int)) := by omega
        simp only [decide_eq_true_eq, h3, if_false]
        repeat' split
        all_goals omega
  rw [e, if_pos (by omega)]
  rfl
theorem star_check {n : Nat} (h : 2 ≤ n) : checkE (starL n) = if n > 65536 then some (0, 43) else none := by
  unfold checkE
  rw [starL_len]
  by_cases hn : n > 65536
  · rw [if_pos (.inr hn), if_pos hn]
  · rw [if_neg (by omega), if_neg (by rw [zPage_right fun n hn => by simp [starL] at hn; obtain ⟨i, _, rfl⟩ := hn; exact ⟨_, rfl⟩]; omega), if_neg hn]
    have hg : (prs (starL n)).find? (badLink (starL n)) = none := by
      rw [star_prs h, List.find?_eq_none]
      intro p hp
      simp at hp
      obtain ⟨k, hk, rfl⟩ := hp
      simp [badLink, starL_len]; omega
    rw [hg]
    simp only
    rw [find_range0 fun j hj => ?_]
    · simp only
      rw [find_range0 fun j hj => ?_]
      unfold deepAt
      rw [star_walk h]
      unfold stD
      simp only [decide_eq_false_iff_not]
      repeat' split
      all_goals omega
    · unfold badAt
      by_cases h0 : j = 0
      · subst h0; simp
      · rw [star_tm h j (by omega) hj, star_walk h]
        have : stD (n - 1) (j : Int) = 2 := by unfold stD; rw [if_neg (by omega), if_pos (by omega)]
        rw [this]; simp

end Go.Proofs.Ytdimikmgkdcglaa
