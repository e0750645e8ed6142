/- Code over the abstract heap: the triple and its rules. No conditions. -/
import Derived.Test.YtdimikmgkdcglaaB1
set_option linter.unusedVariables false
set_option linter.unusedSimpArgs false
namespace Go.Proofs.Ytdimikmgkdcglaa
open Go.RowKit

/-- The triple. -/
def AT (P : Program) (nt : Nat) (rd : Option Nat) (c : Code) (Q : Exit → Tm → AH → Prop) (α : Tm) (σ : AH) : Prop :=
  ∀ (lo B : Nat) (R : Nat → Prop) (φ : Pl) (w : World) (a : Act), lo ≤ w.heap.size → Cfg B R σ φ w → ActAt lo rd nt R σ φ w α a →
    c.wpIn (fenR (rdOf φ rd)) 0 P (fun e a' w' => ∃ α' R' σ' φ', Cfg B R' σ' φ' w' ∧ ActAt lo rd nt R' σ' φ' w' α' a' ∧ Ext R σ φ w R' σ' φ' w' ∧ Q e α' σ') a w

section rules
variable {P : Program} {nt : Nat} {rd : Option Nat} {α : Tm} {σ : AH} {Q : Exit → Tm → AH → Prop}

theorem AT.mono {c : Code} {Q' : Exit → Tm → AH → Prop} (h : AT P nt rd c Q α σ) (hq : ∀ e α σ, Q e α σ → Q' e α σ) : AT P nt rd c Q' α σ :=
  fun lo B R φ w a hlo hc ha => wpIn_mono (h lo B R φ w a hlo hc ha) fun e a' w' ⟨α', R', σ', φ', h1, h2, h3, h4⟩ => ⟨α', R', σ', φ', h1, h2, h3, hq _ _ _ h4⟩

/-- The state is seen otherwise. -/
theorem AT.ghost {c : Code} {α₁ : Tm} {σ₁ : AH} (h : AT P nt rd c Q α₁ σ₁)
    (hg : ∀ lo B R φ w a, Cfg B R σ φ w → ActAt lo rd nt R σ φ w α a → ∃ R₁, Cfg B R₁ σ₁ φ w ∧ ActAt lo rd nt R₁ σ₁ φ w α₁ a ∧ Ext R σ φ w R₁ σ₁ φ w) : AT P nt rd c Q α σ := by
  intro lo B R φ w a hlo hc ha
  obtain ⟨R₁, h1, h2, h3⟩ := hg lo B R φ w a hc ha
  exact wpIn_mono (h lo B R₁ φ w a hlo h1 h2) fun e a' w' ⟨α', R', σ', φ', q1, q2, q3, q4⟩ => ⟨α', R', σ', φ', q1, q2, h3.trans q3, q4⟩

theorem AT.drop {c : Code} {σ₁ : AH} (hle : σ₁.le σ) (h : AT P nt rd c Q α σ₁) : AT P nt rd c Q α σ :=
  h.ghost fun lo B R φ w a hc ha => ⟨R, hc.drop hle, ha.ext (Ext.drop hle), Ext.drop hle⟩

def Tm.le (α' α : Tm) : Prop := ∀ t, gt α' t = .un ∨ gt α' t = gt α t
theorem AT.weaken {c : Code} {α₁ : Tm} (hle : α₁.le α) (h : AT P nt rd c Q α₁ σ) : AT P nt rd c Q α σ :=
  h.ghost fun lo B R φ w a hc ha => ⟨R, hc, ⟨fun t => by
    rcases hle t with h1 | h1
    · rw [h1]; exact .un
    · rw [h1]; exact ha.tm t, ha.sz, ha.df, ha.nd, ha.rd⟩, Ext.refl _ _ _ _⟩

/-- Only some temporaries are kept. -/
def keep (ks : List Nat) (α : Tm) : Tm := ks.map fun k => (k, gt α k)
theorem gt_keep (α : Tm) : ∀ (ks : List Nat) (t : Nat), gt (keep ks α) t = if t ∈ ks then gt α t else .un
  | [], t => by simp [keep, gt]
  | k :: ks, t => by
    have ih := gt_keep α ks t
    unfold keep at ih ⊢
    simp only [List.map_cons, gt, ih]
    by_cases h : k = t
    · subst h; simp
    · simp [h, Ne.symm h]
theorem AT.keep {c : Code} (ks : List Nat) (h : AT P nt rd c Q (keep ks α) σ) : AT P nt rd c Q α σ :=
  AT.weaken (fun t => by rw [gt_keep]; split <;> simp) h

def thenQ (K : Tm → AH → Prop) (Q : Exit → Tm → AH → Prop) : Exit → Tm → AH → Prop
  | .normal => K
  | e => Q e

theorem AT.skip (h : Q .normal α σ) : AT P nt rd .skip Q α σ := fun lo B R φ w a hlo hc ha => wpIn_skip ⟨α, R, σ, φ, hc, ha, Ext.refl _ _ _ _, h⟩
theorem AT.label {l : Nat} (h : Q .normal α σ) : AT P nt rd (.label l) Q α σ := fun lo B R φ w a hlo hc ha => wpIn_label ⟨α, R, σ, φ, hc, ha, Ext.refl _ _ _ _, h⟩
theorem AT.exit {id : Nat} (h : Q (.exit id) α σ) : AT P nt rd (.exit id) Q α σ := fun lo B R φ w a hlo hc ha => wpIn_exit ⟨α, R, σ, φ, hc, ha, Ext.refl _ _ _ _, h⟩
theorem AT.goto {l : Nat} (h : Q (.goto l) α σ) : AT P nt rd (.goto l) Q α σ := fun lo B R φ w a hlo hc ha => wpIn_goto ⟨α, R, σ, φ, hc, ha, Ext.refl _ _ _ _, h⟩
theorem AT.ret (h : Q .ret α σ) : AT P nt rd .ret Q α σ := fun lo B R φ w a hlo hc ha => wpIn_ret ⟨α, R, σ, φ, hc, ha, Ext.refl _ _ _ _, h⟩

theorem AT.seq {x y : Code} (h : ∀ K : Tm → AH → Prop, (∀ α σ, AT P nt rd y Q α σ → K α σ) → AT P nt rd x (thenQ K Q) α σ) : AT P nt rd (.seq x y) Q α σ := by
  intro lo B R φ w a hlo hc ha
  refine wpIn_seq (wpIn_mono (h (AT P nt rd y Q) (fun _ _ h => h) lo B R φ w a hlo hc ha) ?_)
  rintro e a' w' ⟨α', R', σ', φ', q1, q2, q3, q4⟩
  cases e with
  | normal =>
    have h2 := q4 lo B R' φ' w' a' (Nat.le_trans hlo q3.sz) q1 q2
    rw [rdOf_ext q3 ha] at h2
    exact wpIn_mono h2 fun e a'' w'' ⟨α'', R'', σ'', φ'', r1, r2, r3, r4⟩ => ⟨α'', R'', σ'', φ'', r1, r2, q3.trans r3, r4⟩
  | exit id => exact ⟨α', R', σ', φ', q1, q2, q3, q4⟩
  | goto l => exact ⟨α', R', σ', φ', q1, q2, q3, q4⟩
  | ret => exact ⟨α', R', σ', φ', q1, q2, q3, q4⟩
  | panic c => exact ⟨α', R', σ', φ', q1, q2, q3, q4⟩
  | outgrown => exact ⟨α', R', σ', φ', q1, q2, q3, q4⟩

/-- A sequence, what holds between told: the ways meet there. -/
theorem AT.cut {x y : Code} (M : Tm → AH → Prop) (h1 : AT P nt rd x (thenQ M Q) α σ) (h2 : ∀ α σ, M α σ → AT P nt rd y Q α σ) : AT P nt rd (.seq x y) Q α σ :=
  AT.seq fun K hK => h1.mono fun e α σ h => by cases e <;> first | exact hK _ _ (h2 _ _ h) | exact h

theorem AT.cond {c : Operand} {x y : Code} {t : Bool} (hc : ev α c = .sc (.bool t)) (h1 : t = true → AT P nt rd x Q α σ) (h2 : t = false → AT P nt rd y Q α σ) : AT P nt rd (.cond c x y) Q α σ := by
  intro lo B R φ w a hlo hcf ha
  have hb := ha.ev c
  rw [hc] at hb
  have hbe : a.eval c = .bool t := by generalize a.eval c = q at hb; cases hb; rfl
  refine wpIn_cond hbe ?_
  cases t
  · exact h2 rfl lo B R φ w a hlo hcf ha
  · exact h1 rfl lo B R φ w a hlo hcf ha

def blockQ (id : Nat) (Q : Exit → Tm → AH → Prop) : Exit → Tm → AH → Prop
  | .exit id' => if id' = id then Q .normal else Q (.exit id')
  | e => Q e
theorem AT.block {id : Nat} {c : Code} (h : AT P nt rd c (blockQ id Q) α σ) : AT P nt rd (.block id c) Q α σ := by
  intro lo B R φ w a hlo hc ha
  refine wpIn_block (wpIn_mono (h lo B R φ w a hlo hc ha) ?_)
  rintro e a' w' ⟨α', R', σ', φ', q1, q2, q3, q4⟩
  cases e with
  | exit id' =>
    simp only [Exit.inBlock, blockQ] at q4 ⊢
    split
    · rename_i hid; rw [if_pos hid] at q4; exact ⟨α', R', σ', φ', q1, q2, q3, q4⟩
    · rename_i hid; rw [if_neg hid] at q4; exact ⟨α', R', σ', φ', q1, q2, q3, q4⟩
  | normal => exact ⟨α', R', σ', φ', q1, q2, q3, q4⟩
  | goto l => exact ⟨α', R', σ', φ', q1, q2, q3, q4⟩
  | ret => exact ⟨α', R', σ', φ', q1, q2, q3, q4⟩
  | panic c => exact ⟨α', R', σ', φ', q1, q2, q3, q4⟩
  | outgrown => exact ⟨α', R', σ', φ', q1, q2, q3, q4⟩

/-- A loop: what holds at every round's head, with a number that every round lowers. -/
theorem AT.loop {c : Code} (I : Nat → Tm → AH → Prop) (n₀ : Nat) (h0 : I n₀ α σ)
    (round : ∀ n α σ, I n α σ → AT P nt rd c (thenQ (fun α' σ' => ∃ m, m < n ∧ I m α' σ') Q) α σ) : AT P nt rd (.loop c) Q α σ := by
  intro lo B R φ w a hlo hc ha
  let J : Nat → Act → World → Prop := fun n a' w' => ∃ α' R' σ' φ', Cfg B R' σ' φ' w' ∧ ActAt lo rd nt R' σ' φ' w' α' a' ∧ Ext R σ φ w R' σ' φ' w' ∧ I n α' σ'
  have hex : ∀ a' w', (∃ n, J n a' w') → ∃ n, J n a' w' ∧ ∀ m, J m a' w' → n ≤ m := fun a' w' ⟨n, hn⟩ => by
    induction n using Nat.strongRecOn with
    | _ n ih =>
      by_cases h : ∃ m, m < n ∧ J m a' w'
      · obtain ⟨m, hm, hJ⟩ := h
        exact ih m hm hJ
      · exact ⟨n, hn, fun m hm => Nat.le_of_not_lt fun hlt => h ⟨m, hlt, hm⟩⟩
  classical
  let μ : Act → World → Nat := fun a' w' => if h : ∃ n, J n a' w' then Classical.choose (hex a' w' h) else 0
  have hμ : ∀ a' w' (h : ∃ n, J n a' w'), J (μ a' w') a' w' ∧ ∀ m, J m a' w' → μ a' w' ≤ m := fun a' w' h => by
    simp only [μ, dif_pos h]
    exact Classical.choose_spec (hex a' w' h)
  refine wpIn_loop (fun a' w' => ∃ n, J n a' w') μ ⟨n₀, α, R, σ, φ, hc, ha, Ext.refl _ _ _ _, h0⟩ ?_
  intro a' w' hI
  obtain ⟨⟨α', R', σ', φ', q1, q2, q3, q4⟩, hmin⟩ := hμ a' w' hI
  have hr := round _ α' σ' q4 lo B R' φ' w' a' (Nat.le_trans hlo q3.sz) q1 q2
  rw [rdOf_ext q3 ha] at hr
  refine wpIn_mono hr ?_
  rintro e a'' w'' ⟨α'', R'', σ'', φ'', r1, r2, r3, r4⟩
  cases e with
  | normal =>
    obtain ⟨m, hm, hI'⟩ := r4
    have hJ : J m a'' w'' := ⟨α'', R'', σ'', φ'', r1, r2, q3.trans r3, hI'⟩
    exact ⟨⟨m, hJ⟩, Nat.lt_of_le_of_lt ((hμ a'' w'' ⟨m, hJ⟩).2 m hJ) hm⟩
  | exit id => exact ⟨α'', R'', σ'', φ'', r1, r2, q3.trans r3, r4⟩
  | goto l => exact ⟨α'', R'', σ'', φ'', r1, r2, q3.trans r3, r4⟩
  | ret => exact ⟨α'', R'', σ'', φ'', r1, r2, q3.trans r3, r4⟩
  | panic c => exact ⟨α'', R'', σ'', φ'', r1, r2, q3.trans r3, r4⟩
  | outgrown => exact ⟨α'', R'', σ'', φ'', r1, r2, q3.trans r3, r4⟩

/-! ### Regions -/
def glook : List (Nat × Nat) → Nat → Option Nat
  | [], _ => none
  | (i, d) :: r, j => if i = j then some d else glook r j

/-- A guard's value: true, false, or not worked out. -/
def avG : AV → Option (Option Bool)
  | .sc (.bool t) => some (some t)
  | .tu [] => some none
  | _ => none
/-- A region's operations, one behind the other. dm: which temporaries those before have written. -/
def vops (P : Program) (nt : Nat) (owns : List Tmp) : Nat → List (Nat × Nat) → List Oper → Tm → AH → (Tm → AH → Prop) → Prop
  | _, _, [], α, σ, K => K α σ
  | i, dm, o :: rest, α, σ, K =>
    match o.guard with
    | none => vop P owns o α σ fun v σ' => match o.dst with
      | some d => d < nt ∧ vops P nt owns (i + 1) ((i, d) :: dm) rest ((d, v) :: α) σ' K
      | none => vops P nt owns (i + 1) dm rest α σ' K
    | some (j, want) => ∃ g t, glook dm j = some g ∧ avG (gt α g) = some t ∧ if t = some want then vop P owns o α σ fun v σ' => match o.dst with
        | some d => d < nt ∧ vops P nt owns (i + 1) ((i, d) :: dm) rest ((d, v) :: α) σ' K
        | none => vops P nt owns (i + 1) dm rest α σ' K
      else match o.dst with
        | some d => d < nt ∧ vops P nt owns (i + 1) ((i, d) :: dm) rest ((d, .tu []) :: α) σ K
        | none => vops P nt owns (i + 1) dm rest α σ K

theorem callsIn_fen {P : Program} {r : Option Nat} {n : Nat} {f : FuncId} {args : Array Value} {w : World} {R : Ending → World → Prop} (h : Calls P f args w R) : CallsIn (fenR r) n P f args w R := by
  cases r with
  | none => exact callsIn_wide.2 h
  | some l => exact (callsIn_wide.2 h : CallsIn Fence.wide n P f args w R)
theorem roundIn_fen {P : Program} {r : Option Nat} {l : Nat} {f : FuncId} {tmps : Array Value} {asg body : Code} {w : World} {R : Ending → World → Prop} (h : RoundIn Fence.wide 0 P l f tmps asg body w R) : RoundIn (fenR r) 0 P l f tmps asg body w R := by
  cases r with
  | none => exact h
  | some l => exact h

theorem op_wp {P : Program} {r : Option Nat} {o : Oper} {a : Act} {w : World} {P1 : Value → World → Prop} (h : OpRes P o a w P1) (hd : ∀ c, o.op ≠ .defer c) {next : Act → World → Prop} {Qc : Exit → Act → World → Prop}
    (hn : ∀ u w', P1 u w' → next (a.put o.dst u) w') : o.wpIn (fenR r) 0 P a w next Qc := by
  refine ⟨fun f _ => fenR_fn r f, ?_⟩
  rw [Oper.semAt_eq _ _ _ hd]
  have hdep : ∀ k, (fenR r).depth.isSome = true → 1 ≤ k := fun k hk => by rw [fenR_depth] at hk; simp at hk
  rcases h with ⟨u, w', h1, h2⟩ | ⟨w', h1, h2⟩ | ⟨f, args, h1, h2⟩ | ⟨l, f, tmps, asg, body, h1, h2⟩
  · rw [h1]; exact hn u w' h2
  · rw [h1]; exact hn _ w' h2
  · rw [h1, Oper.uponIn_enter]
    refine ⟨hdep 0, (callsIn_fen h2).mono ?_⟩
    rintro e w' ⟨u, rfl, h3⟩
    exact hn u w' h3
  · rw [h1, Oper.uponIn_round]
    refine ⟨hdep 0, (roundIn_fen h2).mono ?_⟩
    rintro e w' ⟨u, rfl, h3⟩
    exact hn u w' h3

theorem yielded_of {φ : Pl} {R : Nat → Prop} {w : World} {α : Tm} {tmps : Array Value} (h : TmAt φ R w α tmps) {ops : Array Oper} {j g : Nat} {t : Bool} (hg : (ops[j]?).bind (·.dst) = some g) (ht : gt α g = .sc (.bool t)) :
    yielded ops tmps j = some t := by
  have h1 := h g
  rw [ht] at h1
  have h2 : tmps.getD g undef = .bool t := by generalize tmps.getD g undef = q at h1; cases h1; rfl
  have h3 : tmps[g]? = some (.bool t) := by
    rw [Array.getD_eq_getD_getElem?] at h2
    cases hq : tmps[g]? with
    | none => rw [hq] at h2; cases h2
    | some v => rw [hq] at h2; simp at h2; rw [h2]
  unfold yielded
  rw [hg]
  simp [h3]

theorem undef_ok (φ : Pl) (R : Nat → Prop) (w : World) : RV φ R w (.tu []) undef := .tu rfl fun i c u h => by simp at h
theorem yielded_G {φ : Pl} {R : Nat → Prop} {w : World} {α : Tm} {tmps : Array Value} (h : TmAt φ R w α tmps) {ops : Array Oper} {j g : Nat} {t : Option Bool} (hg : (ops[j]?).bind (·.dst) = some g) (ht : avG (gt α g) = some t) :
    yielded ops tmps j = t := by
  unfold avG at ht
  split at ht
  · rename_i b heq
    injection ht with ht
    subst ht
    exact yielded_of h hg heq
  · rename_i heq
    injection ht with ht
    subst ht
    have h1 := h g
    rw [heq] at h1
    have h2 : tmps.getD g undef = .tuple #[] := by
      generalize tmps.getD g undef = q at h1
      cases h1 with
      | @tu _ us hl _ =>
        have : us = #[] := by simpa using hl
        rw [this]
    unfold yielded
    rw [hg]
    rw [Array.getD_eq_getD_getElem?] at h2
    cases hq : tmps[g]? with
    | none => simp [hq]
    | some v => rw [hq] at h2; simp at h2; simp [hq, h2]
  · cases ht

theorem vops_ok {P : Program} {nt : Nat} {rd : Option Nat} {lo B : Nat} {owns : List Tmp} {ops : Array Oper} {K : Tm → AH → Prop} {r : Option Nat} {R₀ : Nat → Prop} {σ₀ : AH} {φ₀ : Pl} {w₀ : World} {Qc : Exit → Act → World → Prop}
    (hK : ∀ α' R' σ' φ' w' a', Cfg B R' σ' φ' w' → ActAt lo rd nt R' σ' φ' w' α' a' → Ext R₀ σ₀ φ₀ w₀ R' σ' φ' w' → K α' σ' → Qc .normal a' w') :
    ∀ (rest : List Oper) (i : Nat) (dm : List (Nat × Nat)) (α : Tm) (R : Nat → Prop) (σ : AH) (φ : Pl) (w : World) (a : Act), ops.toList.drop i = rest → (∀ j g, glook dm j = some g → (ops[j]?).bind (·.dst) = some g) →
      Cfg B R σ φ w → ActAt lo rd nt R σ φ w α a → Ext R₀ σ₀ φ₀ w₀ R σ φ w → vops P nt owns i dm rest α σ K → wpOpsIn (fenR r) 0 P ops Qc (List.range' i rest.length) a w
  | [], i, dm, α, R, σ, φ, w, a, _, _, hc, ha, hE, h => by
    simp only [List.length_nil, List.range'_zero, wpOpsIn]
    exact hK α R σ φ w a hc ha hE h
  | o :: rest, i, dm, α, R, σ, φ, w, a, hdrop, hdm, hc, ha, hE, h => by
    have hi : ops[i]? = some o := by
      have := congrArg (·[0]?) hdrop
      simpa using this
    have hdrop' : ops.toList.drop (i + 1) = rest := by
      have := congrArg (·.drop 1) hdrop
      simpa [List.drop_drop, Nat.add_comm] using this
    have next : ∀ (u : Value) (w' : World) (v : AV) (R' : Nat → Prop) (σ' : AH) (φ' : Pl), Cfg B R' σ' φ' w' → Ext R σ φ w R' σ' φ' w' → RV φ' R' w' v u →
        (match o.dst with
          | some d => d < nt ∧ vops P nt owns (i + 1) ((i, d) :: dm) rest ((d, v) :: α) σ' K
          | none => vops P nt owns (i + 1) dm rest α σ' K) → wpOpsIn (fenR r) 0 P ops Qc (List.range' (i + 1) rest.length) (a.put o.dst u) w' := by
      intro u w' v R' σ' φ' q1 q2 q3 q4
      cases hd : o.dst with
      | none =>
        rw [hd] at q4
        exact vops_ok hK rest (i + 1) dm α R' σ' φ' w' a hdrop' hdm q1 (ha.ext q2) (hE.trans q2) q4
      | some d =>
        rw [hd] at q4
        refine vops_ok hK rest (i + 1) ((i, d) :: dm) ((d, v) :: α) R' σ' φ' w' _ hdrop' (fun j g hg => ?_) q1 ((ha.ext q2).put q4.1 q3) (hE.trans q2) q4.2
        simp only [glook] at hg
        split at hg
        · rename_i hij
          subst hij
          injection hg with hg
          subst hg
          simp [hi, hd]
        · exact hdm j g hg
    simp only [List.length_cons, List.range'_succ, wpOpsIn, hi]
    simp only [vops] at h
    cases hgd : o.guard with
    | none =>
      simp only [hgd] at h
      have hw : Region.wanted o (yielded ops a.tmps) = true := by simp [Region.wanted, hgd]
      rw [if_pos hw]
      obtain ⟨h1, h2⟩ := vop_ok hc ha h
      exact op_wp h1 h2 fun u w' ⟨v, R', σ', φ', q1, q2, q3, q4⟩ => next u w' v R' σ' φ' q1 q2 q3 q4
    | some p =>
      obtain ⟨j, want⟩ := p
      simp only [hgd] at h
      obtain ⟨g, t, hg, ht, h⟩ := h
      have hy := yielded_G ha.tm (hdm j g hg) ht
      by_cases htw : t = some want
      · rw [if_pos htw] at h
        have hw : Region.wanted o (yielded ops a.tmps) = true := by simp [Region.wanted, hgd, hy, htw]
        rw [if_pos hw]
        obtain ⟨h1, h2⟩ := vop_ok hc ha h
        exact op_wp h1 h2 fun u w' ⟨v, R', σ', φ', q1, q2, q3, q4⟩ => next u w' v R' σ' φ' q1 q2 q3 q4
      · rw [if_neg htw] at h
        have hw : ¬ (Region.wanted o (yielded ops a.tmps) = true) := by simp [Region.wanted, hgd, hy, htw]
        rw [if_neg hw]
        exact ⟨fun f _ => fenR_fn r f, next undef w (.tu []) R σ φ hc (Ext.refl _ _ _ _) (undef_ok _ _ _) h⟩

theorem AT.region {id : Nat} {ops : Array Oper} (owns : List Tmp) (h : vops P nt owns 0 [] ops.toList α σ (Q .normal)) : AT P nt rd (.region id ops false) Q α σ := by
  intro lo B R φ w a hlo hc ha
  refine wpIn_region ?_
  have := vops_ok (P := P) (nt := nt) (rd := rd) (lo := lo) (B := B) (owns := owns) (ops := ops) (K := Q .normal) (r := rdOf φ rd) (R₀ := R) (σ₀ := σ) (φ₀ := φ) (w₀ := w)
    (Qc := fun e a' w' => ∃ α' R' σ' φ', Cfg B R' σ' φ' w' ∧ ActAt lo rd nt R' σ' φ' w' α' a' ∧ Ext R σ φ w R' σ' φ' w' ∧ Q e α' σ')
    (fun α' R' σ' φ' w' a' q1 q2 q3 q4 => ⟨α', R', σ', φ', q1, q2, q3, q4⟩) ops.toList 0 [] α R σ φ w a rfl (fun j g hg => by simp [glook] at hg) hc ha (Ext.refl _ _ _ _) h
  rw [List.range_eq_range']
  simpa using this

end rules
end Go.Proofs.Ytdimikmgkdcglaa
