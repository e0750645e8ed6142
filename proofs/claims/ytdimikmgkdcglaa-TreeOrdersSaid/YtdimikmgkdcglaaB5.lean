/- The statement that ranges over a function, over the abstract heap. No conditions. -/
import Derived.Test.YtdimikmgkdcglaaB4
set_option linter.unusedVariables false
set_option linter.unusedSimpArgs false
namespace Go.Proofs.Ytdimikmgkdcglaa
open Go.RowKit

section rules
variable {P : Program} {nt : Nat} {rd : Option Nat} {α : Tm} {σ : AH} {Q : Exit → Tm → AH → Prop}

/-- What is asked when the function that was ranged over has returned. -/
def rangeQ (P : Program) (nt : Nat) (rd : Option Nat) (lid : Nat) (α : Tm) (ps : Array Tmp) (asg body : Code) (Q : Exit → Tm → AH → Prop) (r : AV) (σ' : AH) : Prop :=
  ∃ st pend, σ' lid = some (.loop st pend nt α ps asg body) ∧ st ≠ .busy ∧ match pend with
    | none => Q .normal α (σ'.del lid)
    | some c => AT P nt rd c Q α (σ'.del lid)

theorem AT.rangeFunc {g : Operand} {ps : Array Tmp} {asg body : Code} {gf : FuncId} {caps : List AV} (hg : ev α g = .fn gf caps)
    (hrd : ∀ r, rd = some r → ∃ st pend nt' al ps' as' bo', σ r = some (.loop st pend nt' al ps' as' bo'))
    (h : ∀ lid, σ lid = none → AC P gf (.yl lid :: caps) (σ.set lid (.loop .ready none nt α ps asg body)) (rangeQ P nt rd lid α ps asg body Q)) : AT P nt rd (.rangeFunc g ps asg body) Q α σ := by
  intro lo B R φ w a hlo hc ha
  refine wpIn_rangeFunc ?_
  intro fn _
  have hgv := ha.ev g
  rw [hg] at hgv
  obtain ⟨us, hus, hul, huv⟩ : ∃ us : Array Value, a.eval g = .func (.func gf) #[] us ∧ us.size = caps.length ∧ ∀ (i : Nat) c u, caps[i]? = some c → us[i]? = some u → RV φ R w c u := by
    generalize a.eval g = q at hgv
    cases hgv with
    | fn hl hv => exact ⟨_, rfl, hl, hv⟩
  -- what entering lays
  obtain ⟨w₁, mark, dfr, he, hc₁, hE₁, hm⟩ : ∃ w₁ mark dfr, (Instr.enterLoop fn a.tmps ps asg body (fenR (rdOf φ rd)).round).run P w = .ok (w₁.heap.size, mark) (w₁.alloc (.loop { state := .ready, pending := none, fn, tmps := a.tmps, params := ps, assign := asg, body, defers := dfr })) ∧
      Cfg B R σ φ w₁ ∧ Ext R σ φ w R σ φ w₁ ∧
      (mark = [] ∨ (mark = [{ target := .collected w.heap.size, args := #[] }] ∧ w₁ = w.alloc (.deferred (some [])))) := by
    rw [fenR_round]
    cases rd with
    | none =>
      obtain ⟨k1, k2⟩ := hc.alloc0 (.deferred (some []))
      refine ⟨w.alloc (.deferred (some [])), [{ target := .collected w.heap.size, args := #[] }], w.heap.size, ?_, k1, k2, .inr ⟨rfl, rfl⟩⟩
      simp only [rdOf, Option.bind_none, Instr.enterLoop, Sem.run_bind, run_newObj, Result.andThen_ok, Sem.run_pure, World.alloc]
    | some r =>
      obtain ⟨st, pend, nt', al, ps', as', bo', hs⟩ := hrd r rfl
      obtain ⟨l₀, c₀, L₀, k1, k2, _⟩ := hc.atLoop hs
      refine ⟨w, [], L₀.defers, ?_, hc, Ext.refl _ _ _ _, .inl rfl⟩
      have : rdOf φ (some r) = some l₀ := by simp [rdOf, k1]
      rw [this]
      simp only [Instr.enterLoop, Sem.run_bind, run_getLoop k2, run_newObj, Result.andThen_ok, Sem.run_pure, World.alloc]
  obtain ⟨lid, hid0, hid1⟩ := hc₁.fresh
  have ha₁ := ha.ext hE₁
  obtain ⟨hc₂, hE₂⟩ := hc₁.alloc lid 0 0 (.loop .ready none nt α ps asg body) (.loop { state := .ready, pending := none, fn, tmps := a.tmps, params := ps, assign := asg, body, defers := dfr }) hid0 hid1
    (fun hE => .loop (Pl.put_same _ _ _ _) (heap_alloc_at _ _) rfl rfl rfl rfl rfl (ha₁.tm.ext hE) ha₁.sz)
  have hE₁₂ := hE₁.trans hE₂
  obtain ⟨hent, hAC⟩ := h lid hid0
  refine ⟨w₁.heap.size, mark, w₁.alloc (.loop { state := .ready, pending := none, fn, tmps := a.tmps, params := ps, assign := asg, body, defers := dfr }), { target := .fn (.func gf) us, args := #[.func (.yield w₁.heap.size) #[] #[]] }, w₁.alloc (.loop { state := .ready, pending := none, fn, tmps := a.tmps, params := ps, assign := asg, body, defers := dfr }), gf, #[.func (.yield w₁.heap.size) #[] #[]] ++ us, w₁.alloc (.loop { state := .ready, pending := none, fn, tmps := a.tmps, params := ps, assign := asg, body, defers := dfr }), he, ?_, fun f' _ => fenR_fn _ f', ?_, fun hd => by rw [fenR_depth] at hd; simp at hd, ?_⟩
  · have hcst : a.eval (.const (.func (.yield w₁.heap.size) #[] #[])) = .func (.yield w₁.heap.size) #[] #[] := rfl
    simp only [resolve, rangeCall, hus, Deferred.ofValue, List.map_toArray, List.map_cons, List.map_nil, hcst, Sem.run_pure, Array.empty_append]
  · simp only [invoke]
    exact hent.run _ _
  · have hrv : RVs (φ.put lid 0 (w₁.heap.size, 0)) R (w₁.alloc (.loop { state := .ready, pending := none, fn, tmps := a.tmps, params := ps, assign := asg, body, defers := dfr })) (.yl lid :: caps) (#[.func (.yield w₁.heap.size) #[] #[]] ++ us) := by
      refine ⟨by simp [hul, Nat.add_comm], fun i v u h1 h2 => ?_⟩
      cases i with
      | zero =>
        rw [Array.getElem?_append_left (by simp)] at h2
        simp only [List.getElem?_cons_zero, Option.some.injEq] at h1
        have h2' : u = .func (.yield w₁.heap.size) #[] #[] := by simpa using h2.symm
        subst h1; subst h2'
        exact .yl (Pl.put_same _ _ _ _)
      | succ i =>
        simp at h1
        rw [Array.getElem?_append_right (by simp)] at h2
        simp at h2
        exact (huv i v u h1 h2).ext hE₁₂
    refine (callsIn_fen (hAC B R _ _ _ hc₂ hrv)).mono ?_
    rintro e w₃ ⟨u, r, R', σ', φ', rfl, q1, q2, q3, q4⟩
    obtain ⟨st, pend, q5, q6, q7⟩ := q4
    obtain ⟨l', c', L, s1, s2, s3, s4, s5, s6, s7, s8, s9, _⟩ := q1.atLoop q5
    have hl' : l' = w₁.heap.size := by
      have := q2.ph _ _ _ (Pl.put_same φ lid 0 (w₁.heap.size, 0))
      rw [s1] at this
      injection this with this
      injection this
    subst hl'
    have hEall := hE₁₂.trans q2
    have hown : owned σ' φ' w₁.heap.size := ⟨lid, 0, c', by rw [q5]; simp, s1⟩
    have hnR : ¬ R' w₁.heap.size := fun hR => q1.dj _ hR hown
    have hcd := q1.drop (AH.del_le σ' lid)
    have hEd := Ext.drop (R := R') (φ := φ') (w := w₃) (AH.del_le σ' lid)
    have hnown : ¬ owned (σ'.del lid) φ' w₁.heap.size := fun ⟨j, n, e, p1, p2⟩ => by
      have hj : σ' j ≠ none := fun q => p1 (by unfold AH.del; split <;> simp_all)
      have := q1.sep j lid n 0 _ e c' hj (by rw [q5]; simp) p2 s1
      subst this
      exact p1 (by simp [AH.del])
    obtain ⟨hc₄, hk₄⟩ := hcd.shut (D := w₁.heap.size) (.loop { L with state := .exhausted }) hnown hnR
    obtain ⟨w₄, hw₄⟩ : ∃ w₄, w₄ = ({ w₃ with heap := w₃.heap.setIfInBounds w₁.heap.size (.loop { L with state := .exhausted }) } : World) := ⟨_, rfl⟩
    rw [← hw₄] at hc₄ hk₄
    have hne₄ : ∀ b, b ≠ w₁.heap.size → w₄.heap[b]? = w₃.heap[b]? := fun b hb => by rw [hw₄]; simp [Ne.symm hb]
    have hsz₄ : w₄.heap.size = w₃.heap.size := by rw [hw₄]; simp
    have hE₀ := hEall.trans hEd
    have hle₁ : w.heap.size ≤ w₁.heap.size := hE₁.sz
    have hE₄ : Ext R σ φ w R' (σ'.del lid) φ' w₄ := ⟨hE₀.ph, by rw [hsz₄]; exact hE₀.sz, fun b p1 p2 => (hne₄ b (by omega)).trans (hE₀.keep b p1 p2), hE₀.own, hE₀.new, hE₀.dead, hE₀.ro, fun b p1 p2 => (hne₄ b (by omega)).trans (hE₀.rok b p1 p2), hE₀.rn,
      by rw [hw₄]; exact hE₀.os, by rw [hw₄]; exact hE₀.tape, by rw [hw₄]; exact hE₀.output⟩
    have hact : ActAt lo rd nt R' (σ'.del lid) φ' w₄ α { a with defers := mark ++ a.defers } := by
      have h0 := ha.ext hE₄
      refine ⟨h0.tm, h0.sz, fun d hd => ?_, ?_, h0.rd⟩
      · rcases List.mem_append.1 hd with hd | hd
        · rcases hm with rfl | ⟨rfl, rfl⟩
          · simp at hd
          · simp only [List.mem_singleton] at hd
            subst hd
            have hlt : w.heap.size < (w.alloc (.deferred (some []))).heap.size := by simp
            have hD1 : (w.alloc (.deferred (some []))).heap[w.heap.size]? = some (.deferred (some [])) := heap_alloc_at _ _
            have hno1 : ¬ owned σ φ w.heap.size := fun ⟨j, n, e, _, q⟩ => by have := hc.lt _ _ _ _ q; omega
            have hnR1 : ¬ R w.heap.size := fun hR => by have := hc.rlt _ hR; omega
            have hE₂' := hE₂.trans (q2.trans hEd)
            refine ⟨w.heap.size, rfl, hlo, ?_, fun ho => hno1 (hE₂'.own _ hlt ho), fun hR => ?_⟩
            · rw [hne₄ _ (by simp)]
              exact (hE₂'.keep _ hlt hno1).trans hD1
            · rcases hE₂'.rn _ hlt hR with p | p
              · exact hnR1 p
              · exact hno1 p
        · exact h0.df d hd
      · rcases hm with rfl | ⟨rfl, rfl⟩
        · simpa using ha.nd
        · simp only [List.singleton_append, List.nodup_cons]
          refine ⟨fun hd => ?_, ha.nd⟩
          obtain ⟨D, p1, _, p3, _⟩ := ha.df _ hd
          injection p1 with p1 _
          injection p1 with p1
          subst p1
          have := (Array.getElem?_eq_some_iff.1 p3).1
          omega
    have hrun : (Instr.endLoop w₁.heap.size).run P w₃ = .ok pend w₄ := by
      have hst : (L.state == LoopState.busy) = false := by rw [s3]; simpa using q6
      simp only [Instr.endLoop, Sem.run_bind, run_getLoop s2, Result.andThen_ok, hst, Bool.false_eq_true, if_false, Sem.run_pure, run_setLoop s2, s4, hw₄]
    refine ⟨pend, w₄, hrun, ?_⟩
    cases pend with
    | none => exact ⟨α, R', _, φ', hc₄, hact, hE₄, q7⟩
    | some c =>
      have h2 := q7 lo B R' φ' w₄ _ (Nat.le_trans hlo hE₄.sz) hc₄ hact
      rw [rdOf_ext hE₄ ha] at h2
      exact wpIn_mono h2 fun e a'' w'' ⟨α'', R'', σ'', φ'', r1, r2, r3, r4⟩ => ⟨α'', R'', σ'', φ'', r1, r2, hE₄.trans r3, r4⟩

end rules
end Go.Proofs.Ytdimikmgkdcglaa
