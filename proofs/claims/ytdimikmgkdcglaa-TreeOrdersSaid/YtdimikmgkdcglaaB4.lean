/- Scopes with jumps, and a range over a function, over the abstract heap. No conditions. -/
import Derived.Test.YtdimikmgkdcglaaB3
import Derived.RangeFuncNested
set_option linter.unusedVariables false
set_option linter.unusedSimpArgs false
namespace Go.Proofs.Ytdimikmgkdcglaa
open Go.RowKit

/-! ### Scopes -/
def jumpQ (G : Nat → Act → World → Prop) (Q : Exit → Act → World → Prop) : Exit → Act → World → Prop
  | .goto l, a, w => G l a w
  | e, a, w => Q e a w

section
variable {P : Program} {b : Frame} {a : Act} {k : List Item} {cs : List Frame} {w : World}
theorem stepR_scope' {c : Code} : step P (lone (b.atR a (.code (.scope c) :: k)) cs w) = .next (lone (b.atR a (.code c :: .inScope c :: k)) cs w) :=
  step_lone_go (by simp [stepG, stepG.exec, Frame.atR])
theorem stepR_inScope' {c : Code} : step P (lone (b.atR a (.inScope c :: k)) cs w) = .next (lone (b.atR a k) cs w) :=
  step_lone_go (by simp [stepG, stepG.exec, Frame.atR])
end

theorem wpIn_scope' {F : Fence} {n : Nat} {P : Program} {Q : Exit → Act → World → Prop} {a : Act} {w : World} {c : Code} (J : Nat → Nat → Act → World → Prop)
    (h0 : c.wpIn F n P (jumpQ (fun l a w => (∃ k, J k l a w) ∧ (findLabel c l).isSome = true) Q) a w)
    (hj : ∀ k l a w rest, J k l a w → findLabel c l = some rest → rest.wpIn F n P (jumpQ (fun l' a' w' => (∃ m, m < k ∧ J m l' a' w') ∧ (findLabel c l').isSome = true) Q) a w) : (Code.scope c).wpIn F n P Q a w := by
  intro b k cs hro hb hr
  have hf0 : (lone (b.atR a (.code (.scope c) :: k)) cs w).fenced P F := fenced_calm hb hr rfl
  have hg : ∀ l rest, findLabel c l = some rest → gotoIn l (.inScope c :: k) = some (.code rest :: .inScope c :: k) := fun l rest h => by simp [gotoIn, h]
  have wrap : ∀ (m : Machine) (e : Exit) (a₁ : Act) (w₁ : World), (∀ l, e ≠ .goto l) → ArrivesIn (Machine.fenced P F) P m b (.inScope c :: k) cs e a₁ w₁ → ArrivesIn (Machine.fenced P F) P m b k cs e a₁ w₁ := by
    intro m e a₁ w₁ hne harr
    cases e with
    | normal => exact StepsIn.trans harr (.one (fenced_calm hb hr rfl) stepR_inScope')
    | exit id => exact ⟨fun k' hk => harr.1 k' (by simp [exitTo, hk]), fun hr' hk => harr.2 hr' (by simp [exitTo, hk])⟩
    | goto l => exact absurd rfl (hne l)
    | ret => exact harr
    | panic ch => exact harr
    | outgrown => exact harr
  have key : ∀ n l a w rest, J n l a w → findLabel c l = some rest → ∃ e a' w', Q e a' w' ∧ ArrivesIn (Machine.fenced P F) P (lone (b.atR a (.code rest :: .inScope c :: k)) cs w) b k cs e a' w' := by
    intro n
    induction n using Nat.strongRecOn with
    | _ n ih =>
      intro l a w rest hJ hrest
      obtain ⟨e, a₁, w₁, hq, harr⟩ := hj n l a w rest hJ hrest b (.inScope c :: k) cs hro hb hr
      by_cases he : ∃ l', e = .goto l'
      · obtain ⟨l', rfl⟩ := he
        obtain ⟨⟨m, hm, hJ'⟩, hs⟩ := hq
        obtain ⟨rest', hrest'⟩ := Option.isSome_iff_exists.1 hs
        obtain ⟨e₂, a₂, w₂, hq₂, harr₂⟩ := ih m hm l' a₁ w₁ rest' hJ' hrest'
        exact ⟨e₂, a₂, w₂, hq₂, .of_steps (harr.1 _ (hg l' rest' hrest')) harr₂⟩
      · have hne : ∀ l, e ≠ .goto l := fun l h => he ⟨l, h⟩
        refine ⟨e, a₁, w₁, ?_, wrap _ e a₁ w₁ hne harr⟩
        cases e <;> first | exact hq | exact absurd rfl (hne _)
  obtain ⟨e, a₁, w₁, hq, harr⟩ := h0 b (.inScope c :: k) cs hro hb hr
  by_cases he : ∃ l', e = .goto l'
  · obtain ⟨l', rfl⟩ := he
    obtain ⟨⟨m, hJ'⟩, hs⟩ := hq
    obtain ⟨rest', hrest'⟩ := Option.isSome_iff_exists.1 hs
    obtain ⟨e₂, a₂, w₂, hq₂, harr₂⟩ := key m l' a₁ w₁ rest' hJ' hrest'
    exact ⟨e₂, a₂, w₂, hq₂, .of_steps (.head hf0 stepR_scope' (harr.1 _ (hg l' rest' hrest'))) harr₂⟩
  · have hne : ∀ l, e ≠ .goto l := fun l h => he ⟨l, h⟩
    refine ⟨e, a₁, w₁, ?_, .of_steps (.one hf0 stepR_scope') (wrap _ e a₁ w₁ hne harr)⟩
    cases e <;> first | exact hq | exact absurd rfl (hne _)

def scopeQ (G : Nat → Tm → AH → Prop) (Q : Exit → Tm → AH → Prop) : Exit → Tm → AH → Prop
  | .goto l => G l
  | e => Q e

section rules
variable {P : Program} {nt : Nat} {rd : Option Nat} {α : Tm} {σ : AH} {Q : Exit → Tm → AH → Prop}

/-- A scope: what holds at each jump to a label, with a number that every pass lowers. -/
theorem AT.scope {c : Code} (J : Nat → Nat → Tm → AH → Prop) (h0 : AT P nt rd c (scopeQ (fun l α' σ' => (∃ k, J k l α' σ') ∧ (findLabel c l).isSome = true) Q) α σ)
    (hj : ∀ k l α' σ' rest, J k l α' σ' → findLabel c l = some rest → AT P nt rd rest (scopeQ (fun l' α'' σ'' => (∃ m, m < k ∧ J m l' α'' σ'') ∧ (findLabel c l').isSome = true) Q) α' σ') : AT P nt rd (.scope c) Q α σ := by
  intro lo B R φ w a hlo hc ha
  let JJ : Nat → Nat → Act → World → Prop := fun k l a' w' => ∃ α' R' σ' φ', Cfg B R' σ' φ' w' ∧ ActAt lo rd nt R' σ' φ' w' α' a' ∧ Ext R σ φ w R' σ' φ' w' ∧ J k l α' σ'
  refine wpIn_scope' JJ (wpIn_mono (h0 lo B R φ w a hlo hc ha) ?_) ?_
  · rintro e a' w' ⟨α', R', σ', φ', q1, q2, q3, q4⟩
    cases e with
    | goto l => obtain ⟨⟨k, q5⟩, q6⟩ := q4; exact ⟨⟨k, α', R', σ', φ', q1, q2, q3, q5⟩, q6⟩
    | _ => exact ⟨α', R', σ', φ', q1, q2, q3, q4⟩
  · rintro k l a' w' rest ⟨α', R', σ', φ', q1, q2, q3, q4⟩ hrest
    have h2 := hj k l α' σ' rest q4 hrest lo B R' φ' w' a' (Nat.le_trans hlo q3.sz) q1 q2
    rw [rdOf_ext q3 ha] at h2
    refine wpIn_mono h2 ?_
    rintro e a'' w'' ⟨α'', R'', σ'', φ'', r1, r2, r3, r4⟩
    cases e with
    | goto l' => obtain ⟨⟨m, hm, r5⟩, r6⟩ := r4; exact ⟨⟨m, hm, α'', R'', σ'', φ'', r1, r2, q3.trans r3, r5⟩, r6⟩
    | _ => exact ⟨α'', R'', σ'', φ'', r1, r2, q3.trans r3, r4⟩

/-! ### A range over a function -/
theorem Cfg.alloc0 {B : Nat} {R : Nat → Prop} {σ : AH} {φ : Pl} {w : World} (hc : Cfg B R σ φ w) (o : Obj) : Cfg B R σ φ (w.alloc o) ∧ Ext R σ φ w R σ φ (w.alloc o) := by
  have hE : Ext R σ φ w R σ φ (w.alloc o) := ⟨fun _ _ _ h => h, by simp, fun b hb _ => Below.heap_alloc _ _ _ hb, fun _ _ h => h, fun _ h h' => absurd h' h, fun _ _ _ _ => rfl, fun _ h => h,
    fun b _ hb => Below.heap_alloc _ _ _ hb, fun b hb h => .inl h, rfl, rfl, rfl⟩
  exact ⟨⟨fun id ab h => (hc.ok id ab h).ext hE (fun _ => rfl) (fun n b c h => Below.heap_alloc _ _ _ (hc.lt _ _ _ _ h)), hc.sep, hc.low, fun id n b c h => by have := hc.lt id n b c h; simp; omega, hc.fin, by have := hc.bs; simp; omega,
    hc.dj, fun b hb => by have := hc.rlt b hb; simp; omega⟩, hE⟩

theorem Cfg.atLoop {B : Nat} {R : Nat → Prop} {σ : AH} {φ : Pl} {w : World} (hc : Cfg B R σ φ w) {lid : Nat} {st : LoopState} {pend : Option Code} {nt : Nat} {al : Tm} {ps : Array Tmp} {asg body : Code} (hs : σ lid = some (.loop st pend nt al ps asg body)) :
    ∃ l c L, φ lid 0 = some (l, c) ∧ w.heap[l]? = some (.loop L) ∧ L.state = st ∧ L.pending = pend ∧ L.params = ps ∧ L.assign = asg ∧ L.body = body ∧ TmAt φ R w al L.tmps ∧ L.tmps.size = nt ∧
      ∀ st' pend', Cfg B R (σ.set lid (.loop st' pend' nt al ps asg body)) φ { w with heap := w.heap.setIfInBounds l (.loop { L with state := st', pending := pend' }) } ∧
        Ext R σ φ w R (σ.set lid (.loop st' pend' nt al ps asg body)) φ { w with heap := w.heap.setIfInBounds l (.loop { L with state := st', pending := pend' }) } := by
  have hne : σ lid ≠ none := by rw [hs]; simp
  cases hc.ok lid _ hs with
  | loop hp hb h1 h2 h3 h4 h5 h6 h7 =>
    rename_i l c L
    refine ⟨l, c, L, hp, hb, h1, h2, h3, h4, h5, h6, h7, fun st' pend' => ?_⟩
    have hlt := hc.lt _ _ _ _ hp
    refine hc.upd lid _ φ _ (fun _ _ _ => rfl) (fun _ _ h => h) (fun m d e h => ⟨by have := hc.lt _ _ _ _ h; simpa using this, .inr ⟨m, e, h, hne⟩⟩) (fun h => absurd h hne)
      (fun d hd' h => ?_) (by simp) rfl rfl rfl (fun hE => .loop (L := { L with state := st', pending := pend' }) hp (by simp [hlt]) rfl rfl h3 h4 h5 (h6.ext hE) h7)
    have hdb : l ≠ d := fun e => h 0 c (by rw [← e]; exact hp)
    simp [hdb]

theorem run_getLoop {P : Program} {w : World} {l : Nat} {L : Loop} (h : w.heap[l]? = some (.loop L)) : (Instr.getLoop l).run P w = .ok L w := by
  have : (getObj l).run P w = .ok (.loop L) w := by simp [getObj, Sem.run, h]
  simp [Instr.getLoop, this]
theorem run_setLoop {P : Program} {w : World} {l : Nat} {L : Loop} {o : Obj} (h : w.heap[l]? = some (.loop L)) : (setObj l o).run P w = .ok () { w with heap := w.heap.setIfInBounds l o } := by
  simp [setObj, Sem.run, h]

/-- How a round is left. -/
def roundQ (lid nt : Nat) (al : Tm) (ps : Array Tmp) (asg body : Code) (K : AV → AH → Prop) : Exit → Tm → AH → Prop
  | .normal, _, σ => ∃ st pend, σ lid = some (.loop st pend nt al ps asg body) ∧ K (.sc (.bool true)) (σ.set lid (.loop .ready none nt al ps asg body))
  | .ret, _, σ => ∃ st pend, σ lid = some (.loop st pend nt al ps asg body) ∧ K (.sc (.bool false)) (σ.set lid (.loop .done (some .ret) nt al ps asg body))
  | .exit id, _, σ => ∃ st pend, σ lid = some (.loop st pend nt al ps asg body) ∧ K (.sc (.bool false)) (σ.set lid (.loop .done (some (.exit id)) nt al ps asg body))
  | .goto t, _, σ => ∃ st pend, σ lid = some (.loop st pend nt al ps asg body) ∧ K (.sc (.bool false)) (σ.set lid (.loop .done (some (.goto t)) nt al ps asg body))
  | _, _, _ => False

def putArgs : List Tmp → List AV → Tm → Tm
  | p :: ps, v :: vs, α => putArgs ps vs ((p, v) :: α)
  | _, _, α => α

theorem putArgs_ok {φ : Pl} {R : Nat → Prop} {w : World} : ∀ (ps : List Tmp) (vs : List AV) (us : List Value) (α : Tm) (tmps : Array Value), TmAt φ R w α tmps → us.length = vs.length → (∀ (i : Nat) v u, vs[i]? = some v → us[i]? = some u → RV φ R w v u) →
    (∀ p ∈ ps, p < tmps.size) → TmAt φ R w (putArgs ps vs α) ((ps.zip us).foldl (fun t (p, u) => t.setIfInBounds p u) tmps) ∧ ((ps.zip us).foldl (fun t (p, u) => t.setIfInBounds p u) tmps).size = tmps.size
  | [], vs, us, α, tmps, h, _, _, _ => by cases vs <;> exact ⟨h, rfl⟩
  | p :: ps, [], us, α, tmps, h, hl, _, _ => by
    have : us = [] := List.eq_nil_of_length_eq_zero (by simpa using hl)
    subst this
    exact ⟨h, rfl⟩
  | p :: ps, v :: vs, [], α, tmps, h, hl, _, _ => by simp at hl
  | p :: ps, v :: vs, u :: us, α, tmps, h, hl, hr, hp => by
    have hv := hr 0 v u rfl rfl
    have h1 : TmAt φ R w ((p, v) :: α) (tmps.setIfInBounds p u) := fun t => by
      simp only [gt]
      by_cases ht : p = t
      · subst ht
        rw [if_pos rfl]
        have : p < tmps.size := hp p (by simp)
        simpa [Array.getD_eq_getD_getElem?, this] using hv
      · rw [if_neg ht]
        have := h t
        simpa [Array.getD_eq_getD_getElem?, Array.getElem?_setIfInBounds, ht] using this
    obtain ⟨q1, q2⟩ := putArgs_ok ps vs us ((p, v) :: α) (tmps.setIfInBounds p u) h1 (by simpa using hl) (fun i v u a b => hr (i + 1) v u (by simpa using a) (by simpa using b)) (fun p' hp' => by simpa using hp p' (by simp [hp']))
    exact ⟨q1, by simpa using q2⟩

/-- A loop's round, from its body. -/
theorem YC.of_body {lid : Nat} {args : List AV} {σ : AH} {K : AV → AH → Prop} {pend : Option Code} {nt : Nat} {al : Tm} {ps : Array Tmp} {asg body : Code} (hs : σ lid = some (.loop .ready pend nt al ps asg body)) (hps : ps.size = args.length) (hlt : ∀ p ∈ ps.toList, p < nt)
    (h : AT P nt (some lid) asg (thenQ (fun α₁ σ₁ => ∃ pend, σ₁ lid = some (.loop .ready pend nt al ps asg body) ∧ AT P nt (some lid) body (roundQ lid nt al ps asg body K) α₁ (σ₁.set lid (.loop .busy pend nt al ps asg body))) (fun _ _ _ => False)) (putArgs ps.toList args al) σ) :
    YC P lid args σ K := by
  intro B R φ w us l c hc hr hφ
  obtain ⟨l', c', L, p1, p2, p3, p4, p5, p6, p7, p8, p9, _⟩ := hc.atLoop hs
  rw [hφ] at p1
  injection p1 with p1
  injection p1 with p1 _
  subst p1
  have hsz : us.size = L.params.size := by rw [p5, hr.1, hps]
  refine ⟨L.fn, (L.params.zip us).foldl (fun tmps (t, a) => tmps.setIfInBounds t a) L.tmps, L.assign, L.body, by simp [Instr.yield, run_getLoop p2, hsz], roundIn_of_wpIn trivial ?_⟩
  have htm := putArgs_ok ps.toList args us.toList al L.tmps p8 (by simpa using hr.1) (fun i v u a b => hr.2 i v u a (by simpa using b)) (fun p hp => by rw [p9]; exact hlt p hp)
  have hfold : (L.params.zip us).foldl (fun tmps (t, a) => tmps.setIfInBounds t a) L.tmps = (ps.toList.zip us.toList).foldl (fun t (p, u) => t.setIfInBounds p u) L.tmps := by
    rw [← Array.foldl_toList, Array.toList_zip, p5]
  have hact : ActAt w.heap.size (some lid) nt R σ φ w (putArgs ps.toList args al) { tmps := (L.params.zip us).foldl (fun tmps (t, a) => tmps.setIfInBounds t a) L.tmps, defers := [] } := by
    rw [hfold]
    exact ⟨htm.1, htm.2.trans p9, fun d hd => by simp at hd, List.nodup_nil, fun id h => by injection h with h; subst h; exact ⟨_, hφ⟩⟩
  have h1 := h w.heap.size B R φ w _ (Nat.le_refl _) hc hact
  have hrd : rdOf φ (some lid) = some l := by simp [rdOf, hφ]
  rw [hrd] at h1
  rw [p6, p7]
  refine wpIn_mono h1 ?_
  rintro e a₁ w₁ ⟨α₁, R₁, σ₁, φ₁, q1, q2, q3, q4⟩
  cases e with
  | normal =>
    obtain ⟨pend₁, q5, q6⟩ := q4
    obtain ⟨l₁, c₁, L₁, s1, s2, s3, s4, s5, s6, s7, s8, s9, s10⟩ := q1.atLoop q5
    have hl₁ : l₁ = l := by
      have := q3.ph _ _ _ hφ
      rw [s1] at this
      injection this with this
      injection this
    subst hl₁
    obtain ⟨t1, t2⟩ := s10 .busy pend₁
    refine ⟨{ w₁ with heap := w₁.heap.setIfInBounds l₁ (.loop { L₁ with state := .busy, pending := pend₁ }) }, ?_, ?_⟩
    · have hL : ({ L₁ with state := .busy } : Loop) = { L₁ with state := .busy, pending := pend₁ } := by rw [← s4]
      simp [Instr.beginRound, run_getLoop s2, run_setLoop s2, s3, hL]
    · have h2 := q6 w.heap.size B R₁ φ₁ _ a₁ (Nat.le_trans q3.sz t2.sz) t1 (q2.ext t2)
      have hrd₁ : rdOf φ₁ (some lid) = some l₁ := by simp [rdOf, s1]
      rw [hrd₁] at h2
      refine wpIn_mono h2 ?_
      rintro e a₂ w₂ ⟨α₂, R₂, σ₂, φ₂, u1, u2, u3, u4⟩
      have fin : ∀ (jump : Option Code) (st pend), σ₂ lid = some (.loop st pend nt al ps asg body) → K (.sc (.bool jump.isNone)) (σ₂.set lid (.loop (if jump.isNone then .ready else .done) jump nt al ps asg body)) →
          ∃ v w', (Instr.endRound l₁ jump).run P w₂ = .ok v w' ∧ ∃ u r R' σ' φ', Ending.returned v = .returned u ∧ Cfg B R' σ' φ' w' ∧ Ext R σ φ w R' σ' φ' w' ∧ RV φ' R' w' r u ∧ K r σ' := by
        intro jump st pend v1 v2
        obtain ⟨l₂, c₂, L₂, x1, x2, x3, x4, x5, x6, x7, x8, x9, x10⟩ := u1.atLoop v1
        have hl₂ : l₂ = l₁ := by
          have := u3.ph _ _ _ s1
          rw [x1] at this
          injection this with this
          injection this
        subst hl₂
        obtain ⟨y1, y2⟩ := x10 (if jump.isNone then .ready else .done) jump
        exact ⟨.bool jump.isNone, _, by simp only [Instr.endRound, Sem.run_bind, run_getLoop x2, Result.andThen_ok, run_setLoop x2, Sem.run_pure], _, _, _, _, _, rfl, y1, q3.trans (t2.trans (u3.trans y2)), .sc rfl, v2⟩
      cases e with
      | normal => obtain ⟨st, pend, v1, v2⟩ := u4; exact fin none st pend v1 v2
      | ret => obtain ⟨st, pend, v1, v2⟩ := u4; exact fin (some .ret) st pend v1 v2
      | exit id => obtain ⟨st, pend, v1, v2⟩ := u4; exact fin (some (.exit id)) st pend v1 v2
      | goto t => obtain ⟨st, pend, v1, v2⟩ := u4; exact fin (some (.goto t)) st pend v1 v2
      | panic c => exact u4.elim
      | outgrown => exact u4.elim
  | exit id => exact q4.elim
  | goto t => exact q4.elim
  | ret => exact q4.elim
  | panic c => exact q4.elim
  | outgrown => exact q4.elim

end rules
end Go.Proofs.Ytdimikmgkdcglaa
