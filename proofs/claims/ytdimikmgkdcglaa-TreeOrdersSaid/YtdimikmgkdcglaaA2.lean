/- The abstract heap when a block is made or written. No conditions. -/
import Derived.Test.YtdimikmgkdcglaaA1
set_option linter.unusedVariables false
set_option linter.unusedSimpArgs false
namespace Go.Proofs.Ytdimikmgkdcglaa
open Go.RowKit

theorem AH.set_same (σ : AH) (id : Nat) (b : AB) : σ.set id b id = some b := by simp [AH.set]
theorem AH.set_ne (σ : AH) {id j : Nat} (b : AB) (h : j ≠ id) : σ.set id b j = σ j := by simp [AH.set, h]

/-- One name's blocks turn, or a name is new. -/
theorem Cfg.upd {B : Nat} {R : Nat → Prop} {σ : AH} {φ : Pl} {w : World} (hc : Cfg B R σ φ w) (id : Nat) (ab : AB) (φ' : Pl) (w' : World)
    (hφ : ∀ j, j ≠ id → ∀ n, φ' j n = φ j n) (hmono : ∀ n p, φ id n = some p → φ' id n = some p)
    (hn : ∀ n b c, φ' id n = some (b, c) → (b < w'.heap.size ∧ (w.heap.size ≤ b ∨ ∃ n' c', φ id n' = some (b, c') ∧ (σ id = none → False))))
    (hfresh : σ id = none → ∀ n, φ id n = none)
    (hk : ∀ b, b < w.heap.size → (∀ n c, φ id n ≠ some (b, c)) → w'.heap[b]? = w.heap[b]?)
    (hsz : w.heap.size ≤ w'.heap.size) (hos : w'.os = w.os) (htape : w'.tape = w.tape) (hout : w'.output = w.output)
    (hb : Ext R σ φ w R (σ.set id ab) φ' w' → BOK φ' R w' id ab) :
    Cfg B R (σ.set id ab) φ' w' ∧ Ext R σ φ w R (σ.set id ab) φ' w' := by
  have hold : ∀ j, j ≠ id → σ j ≠ none → ∀ n b c, φ j n = some (b, c) → ∀ n' c', φ id n' = some (b, c') → σ id ≠ none → False := fun j hj h1 n b c h2 n' c' h3 h4 =>
    hj (hc.sep j id n n' b c c' h1 h4 h2 h3)
  have hE : Ext R σ φ w R (σ.set id ab) φ' w' := by
    refine ⟨fun j n p hp => ?_, hsz, fun b hb' ho => hk b hb' (fun n c h1 => ?_), fun b hb' ⟨j, n, c, h1, h2⟩ => ?_, fun j h1 h2 n => ?_, fun j h1 ⟨n, p, h2⟩ m => ?_, fun _ h => h, fun b hb' hlt => hk b hlt (fun n c h1 => ?_), fun _ _ h => .inl h, hos, htape, hout⟩
    · by_cases hj : j = id
      · subst hj; exact hmono n p hp
      · rw [hφ j hj]; exact hp
    · by_cases hs : σ id = none
      · rw [hfresh hs] at h1; cases h1
      · exact ho ⟨id, n, c, hs, h1⟩
    · by_cases hj : j = id
      · subst hj
        rcases (hn n b c h2).2 with h3 | ⟨n', c', h3, h4⟩
        · omega
        · exact ⟨j, n', c', fun h5 => h4 h5, h3⟩
      · rw [hφ j hj] at h2
        rw [AH.set_ne σ ab hj] at h1
        exact ⟨j, n, c, h1, h2⟩
    · by_cases hj : j = id
      · subst hj; exact hfresh h2 n
      · rw [AH.set_ne σ ab hj] at h1; exact absurd h2 h1
    · by_cases hj : j = id
      · subst hj; rw [hfresh h1 n] at h2; cases h2
      · exact hφ j hj m
    · by_cases hs : σ id = none
      · rw [hfresh hs] at h1; cases h1
      · exact hc.dj b hb' ⟨id, n, c, hs, h1⟩
  refine ⟨⟨fun j aj hj => ?_, ?_, ?_, ?_, ?_, Nat.le_trans hc.bs hsz, fun b hb' ho => hc.dj b hb' (hE.own b (hc.rlt b hb') ho), fun b hb' => Nat.lt_of_lt_of_le (hc.rlt b hb') hsz⟩, hE⟩
  · by_cases hji : j = id
    · subst hji
      rw [AH.set_same] at hj
      injection hj with hj
      subst hj
      exact hb hE
    · rw [AH.set_ne σ ab hji] at hj
      have h1 : σ j ≠ none := by rw [hj]; simp
      refine (hc.ok j aj hj).ext hE (fun n => hφ j hji n) (fun n b c h2 => hk b (hc.lt _ _ _ _ h2) (fun n' c' h3 => ?_))
      by_cases hs : σ id = none
      · rw [hfresh hs] at h3; cases h3
      · exact hold j hji h1 n b c h2 n' c' h3 hs
  · intro j j' n n' b c c' h1 h1' h2 h2'
    by_cases hj : j = id
    · by_cases hj' : j' = id
      · rw [hj, hj']
      · subst hj
        rw [hφ j' hj'] at h2'
        rw [AH.set_ne σ ab hj'] at h1'
        rcases (hn n b c h2).2 with h3 | ⟨m, d, h3, h4⟩
        · have := hc.lt _ _ _ _ h2'; omega
        · exact (hold j' hj' h1' n' b c' h2' m d h3 h4).elim
    · rw [hφ j hj] at h2
      rw [AH.set_ne σ ab hj] at h1
      by_cases hj' : j' = id
      · subst hj'
        rcases (hn n' b c' h2').2 with h3 | ⟨m, d, h3, h4⟩
        · have := hc.lt _ _ _ _ h2; omega
        · exact (hold j hj h1 n b c h2 m d h3 h4).elim
      · rw [hφ j' hj'] at h2'
        rw [AH.set_ne σ ab hj'] at h1'
        exact hc.sep j j' n n' b c c' h1 h1' h2 h2'
  · intro j n b c h1 h2
    by_cases hj : j = id
    · subst hj
      rcases (hn n b c h2).2 with h3 | ⟨m, d, h3, h4⟩
      · exact Nat.le_trans hc.bs h3
      · exact hc.low j m b d h4 h3
    · rw [hφ j hj] at h2
      rw [AH.set_ne σ ab hj] at h1
      exact hc.low j n b c h1 h2
  · intro j n b c h2
    by_cases hj : j = id
    · subst hj; exact (hn n b c h2).1
    · rw [hφ j hj] at h2
      exact Nat.lt_of_lt_of_le (hc.lt j n b c h2) hsz
  · obtain ⟨N, hN⟩ := hc.fin
    refine ⟨max N (id + 1), fun j hj => ?_⟩
    have hji : j ≠ id := by omega
    refine ⟨?_, fun n => ?_⟩
    · rw [AH.set_ne σ ab hji]; exact (hN j (by omega)).1
    · rw [hφ j hji]; exact (hN j (by omega)).2 n

def Pl.put (φ : Pl) (id n : Nat) (p : Nat × Nat) : Pl := fun j m => if j = id ∧ m = n then some p else φ j m
theorem Pl.put_same (φ : Pl) (id n : Nat) (p : Nat × Nat) : φ.put id n p id n = some p := by simp [Pl.put]
theorem Pl.put_ne (φ : Pl) (id n : Nat) (p : Nat × Nat) {j : Nat} (h : j ≠ id) (m : Nat) : φ.put id n p j m = φ j m := by simp [Pl.put, h]
theorem Pl.put_ne' (φ : Pl) (id n : Nat) (p : Nat × Nat) {m : Nat} (j : Nat) (h : m ≠ n) : φ.put id n p j m = φ j m := by simp [Pl.put, h]

/-- A name that was never used. -/
theorem Cfg.fresh {B : Nat} {R : Nat → Prop} {σ : AH} {φ : Pl} {w : World} (hc : Cfg B R σ φ w) : ∃ id, σ id = none ∧ ∀ n, φ id n = none :=
  let ⟨N, hN⟩ := hc.fin
  ⟨N, (hN N (Nat.le_refl _)).1, (hN N (Nat.le_refl _)).2⟩

/-- A new block. -/
theorem Cfg.alloc {B : Nat} {R : Nat → Prop} {σ : AH} {φ : Pl} {w : World} (hc : Cfg B R σ φ w) (id n cap : Nat) (ab : AB) (o : Obj) (h0 : σ id = none) (h1 : ∀ n, φ id n = none)
    (hb : Ext R σ φ w R (σ.set id ab) (φ.put id n (w.heap.size, cap)) (w.alloc o) → BOK (φ.put id n (w.heap.size, cap)) R (w.alloc o) id ab) :
    Cfg B R (σ.set id ab) (φ.put id n (w.heap.size, cap)) (w.alloc o) ∧ Ext R σ φ w R (σ.set id ab) (φ.put id n (w.heap.size, cap)) (w.alloc o) := by
  refine hc.upd id ab _ _ (fun j hj m => Pl.put_ne _ _ _ _ hj m) (fun m p hp => by rw [h1] at hp; cases hp) (fun m b c h2 => ?_) (fun _ => h1) (fun b hb' _ => ?_) (by simp) rfl rfl rfl hb
  · by_cases hm : m = n
    · subst hm
      rw [Pl.put_same] at h2
      injection h2 with h2
      injection h2 with h2 h3
      subst h2
      exact ⟨by simp, .inl (Nat.le_refl _)⟩
    · rw [Pl.put_ne' _ _ _ _ _ hm, h1] at h2; cases h2
  · exact Below.heap_alloc _ _ _ hb'

/-- Values side by side: those of a list of cells. -/
theorem cellsAt_of {φ : Pl} {R : Nat → Prop} {w : World} {cs : List AV} {us : Array Value} (hl : us.size = cs.length) (h1 : ∀ c ∈ cs, c.one = true)
    (hv : ∀ (i : Nat) c u, cs[i]? = some c → us[i]? = some u → RV φ R w c u) : CellsAt φ R w cs us 0 := by
  intro j c hj
  refine ⟨h1 c (List.mem_of_getElem? hj), ?_⟩
  have hlt : j < us.size := by rw [hl]; exact (List.getElem?_eq_some_iff.1 hj).1
  refine ⟨us[j], by simp [hlt], hv j c _ hj (by simp [hlt])⟩

/-- What a value's cells are. -/
theorem RV.cells {φ : Pl} {R : Nat → Prop} {w : World} {v : AV} {u : Value} (h : RV φ R w v u) (h1 : v.one = true ∨ ∃ cs, v = .ag cs) :
    u.cells.size = v.cells.length ∧ (∀ c ∈ v.cells, c.one = true) ∧ ∀ (i : Nat) c x, v.cells[i]? = some c → u.cells[i]? = some x → RV φ R w c x := by
  rcases h1 with h1 | ⟨cs, rfl⟩
  · have ho := h.one h1
    have e1 : u.cells = #[u] := by cases u <;> first | rfl | (simp [Value.oneCell'] at ho; done)
    have e2 : v.cells = [v] := by cases v <;> first | rfl | (simp [AV.one] at h1; done)
    rw [e1, e2]
    refine ⟨rfl, by simpa using h1, fun i c x hc hx => ?_⟩
    cases i with
    | zero => simp at hc hx; subst hc; subst hx; exact h
    | succ i => simp at hc
  · cases h with
    | ag hl h2 hv => exact ⟨hl, h2, hv⟩

theorem heap_alloc_at (w : World) (o : Obj) : (w.alloc o).heap[w.heap.size]? = some o := heap_alloc_new w o

/-- A new variable. -/
theorem Cfg.newBox {B : Nat} {R : Nat → Prop} {σ : AH} {φ : Pl} {w : World} (hc : Cfg B R σ φ w) {id : Nat} (h0 : σ id = none) (h1 : ∀ n, φ id n = none) (t : TypeId) {cs : List AV} {us : Array Value}
    (hl : us.size = cs.length) (h2 : ∀ c ∈ cs, c.one = true) (hv : ∀ (i : Nat) c u, cs[i]? = some c → us[i]? = some u → RV φ R w c u) :
    Cfg B R (σ.set id (.box cs t)) (φ.put id 0 (w.heap.size, 0)) (w.alloc (.cells us t)) ∧ Ext R σ φ w R (σ.set id (.box cs t)) (φ.put id 0 (w.heap.size, 0)) (w.alloc (.cells us t)) :=
  hc.alloc id 0 0 (.box cs t) _ h0 h1 fun hE => .box (Pl.put_same _ _ _ _) (heap_alloc_at _ _) hl ((cellsAt_of hl h2 hv).ext hE)

/-- A new row: n elements; behind them spare places. -/
theorem Cfg.newRow {B : Nat} {R : Nat → Prop} {σ : AH} {φ : Pl} {w : World} (hc : Cfg B R σ φ w) {id : Nat} (h0 : σ id = none) (h1 : ∀ n, φ id n = none) (t : TypeId) {es : List (List AV)} {sz cap : Nat} {us : Array Value}
    (hsz : ∀ e ∈ es, e.length = sz) (hcap : es.length ≤ cap) (hm : cap ≤ maxLen) (hl : us.size = cap * sz) (hr : RowAt φ R w es us sz es.length) :
    Cfg B R (σ.set id (.row es sz t 0)) (φ.put id es.length (w.heap.size, cap)) (w.alloc (.cells us t)) ∧ Ext R σ φ w R (σ.set id (.row es sz t 0)) (φ.put id es.length (w.heap.size, cap)) (w.alloc (.cells us t)) :=
  hc.alloc id es.length cap (.row es sz t 0) _ h0 h1 fun hE => .row hsz (Nat.zero_le _) ⟨_, _, Pl.put_same _ _ _ _⟩ (fun m hlt => by rw [Pl.put_ne' _ _ _ _ _ (by omega)]; exact h1 m)
    fun m b c _ h3 h4 => by
      by_cases hme : m = es.length
      · subst hme
        rw [Pl.put_same] at h4
        injection h4 with h4
        injection h4 with h4 h5
        subst h4; subst h5
        exact ⟨hcap, hm, us, heap_alloc_at _ _, hl, hr.ext hE⟩
      · rw [Pl.put_ne' _ _ _ _ _ hme, h1] at h4; cases h4

/-- A block of cells is written whole. -/
theorem Cfg.setRow {B : Nat} {R : Nat → Prop} {σ : AH} {φ : Pl} {w : World} (hc : Cfg B R σ φ w) {id : Nat} {ab : AB} (hs : σ id ≠ none) {n b c : Nat} (hp : φ id n = some (b, c)) (us : Array Value)
    (hb : Ext R σ φ w R (σ.set id ab) φ (w.setRow b us) → BOK φ R (w.setRow b us) id ab) :
    Cfg B R (σ.set id ab) φ (w.setRow b us) ∧ Ext R σ φ w R (σ.set id ab) φ (w.setRow b us) := by
  refine hc.upd id ab φ _ (fun _ _ _ => rfl) (fun _ _ h => h) (fun m d e h => ⟨by have := hc.lt _ _ _ _ h; simpa [World.setRow] using this, .inr ⟨m, e, h, hs⟩⟩) (fun h => absurd h hs)
    (fun d hd h => ?_) (by simp [World.setRow]) rfl rfl rfl hb
  exact setRow_other w b d us (fun e => h n c (by rw [e]; exact hp))

end Go.Proofs.Ytdimikmgkdcglaa
