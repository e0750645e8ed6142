/- Regions that draw their order: what leaves the heap alone goes first. No conditions. -/
import Derived.Test.YtdimikmgkdcglaaB7
set_option linter.unusedVariables false
set_option linter.unusedSimpArgs false
namespace Go.Proofs.Ytdimikmgkdcglaa
open Go.RowKit

section
variable {P : Program} {nt : Nat} {rd : Option Nat} {owns : List Tmp} {ops : Array Oper} {α : Tm} {σ : AH}

/-! ### One operation, any order -/
def awant (ops : Array Oper) (α : Tm) (o : Oper) : Option Bool := match o.guard with
  | none => some true
  | some (j, want) => match (ops[j]?).bind (·.dst) with
    | some g => (avG (gt α g)).map fun t => t == some want
    | none => none
theorem awant_ok {φ : Pl} {R : Nat → Prop} {w : World} {tmps : Array Value} (h : TmAt φ R w α tmps) {o : Oper} {b : Bool} (hw : awant ops α o = some b) : Region.wanted o (yielded ops tmps) = b := by
  unfold awant at hw
  split at hw
  · rename_i hg
    injection hw with hw
    subst hw
    simp [Region.wanted, hg]
  · rename_i j want hg
    split at hw
    · rename_i g hd
      cases ht : avG (gt α g) with
      | none => rw [ht] at hw; cases hw
      | some t =>
        rw [ht] at hw
        injection hw with hw
        subst hw
        simp only [Region.wanted, hg, yielded_G h hd ht]
    · cases hw

def aop (P : Program) (nt : Nat) (owns : List Tmp) (ops : Array Oper) (o : Oper) (α : Tm) (σ : AH) (K : Tm → AH → Prop) : Prop :=
  (∀ d, o.dst = some d → d < nt) ∧ ∃ b, awant ops α o = some b ∧ if b = true then vop P owns o α σ fun v σ' => K (vput o.dst v α) σ' else K (vput o.dst (.tu []) α) σ

theorem ActAt.vput {lo : Nat} {R : Nat → Prop} {φ : Pl} {w : World} {a : Act} (h : ActAt lo rd nt R σ φ w α a) {d : Option Tmp} (hd : ∀ x, d = some x → x < nt) {v : AV} {u : Value} (hv : RV φ R w v u) :
    ActAt lo rd nt R σ φ w (vput d v α) (a.put d u) := by
  cases d with
  | none => exact h
  | some d => exact h.put (hd d rfl) hv

theorem aop_ok {lo B : Nat} {r : Option Nat} {i : Nat} {o : Oper} (hi : ops[i]? = some o) {R : Nat → Prop} {φ : Pl} {w : World} {a : Act} (hc : Cfg B R σ φ w) (ha : ActAt lo rd nt R σ φ w α a)
    {K : Tm → AH → Prop} (h : aop P nt owns ops o α σ K) {Qc : Exit → Act → World → Prop} {K' : Act → World → Prop}
    (hK : ∀ α' R' σ' φ' w' a', Cfg B R' σ' φ' w' → ActAt lo rd nt R' σ' φ' w' α' a' → Ext R σ φ w R' σ' φ' w' → K α' σ' → K' a' w') : wpOpIn (fenR r) 0 P ops Qc i K' a w := by
  obtain ⟨hd, b, hb, h⟩ := h
  unfold wpOpIn
  simp only [hi]
  rw [awant_ok ha.tm hb]
  cases b with
  | true =>
    rw [if_pos rfl] at h ⊢
    obtain ⟨h1, h2⟩ := vop_ok hc ha h
    exact op_wp h1 h2 fun u w' ⟨v, R', σ', φ', q1, q2, q3, q4⟩ => hK _ R' σ' φ' w' _ q1 ((ha.ext q2).vput hd q3) q2 q4
  | false =>
    rw [if_neg (by simp)] at h ⊢
    exact ⟨fun f _ => fenR_fn r f, hK _ R σ φ w _ hc (ha.vput hd (undef_ok _ _ _)) (Ext.refl _ _ _ _) h⟩

theorem YC.mono {id : Nat} {args : List AV} {K K' : AV → AH → Prop} (h : YC P id args σ K) (hk : ∀ r σ', K r σ' → K' r σ') : YC P id args σ K' :=
  fun B R φ w us l c hc hr hp => by
    obtain ⟨f, tmps, asg, body, h1, h2⟩ := h B R φ w us l c hc hr hp
    exact ⟨f, tmps, asg, body, h1, h2.mono fun e w' ⟨u, r, R', σ', φ', q1, q2, q3, q4, q5⟩ => ⟨u, r, R', σ', φ', q1, q2, q3, q4, hk _ _ q5⟩⟩

theorem OneV.mono {V : (AV → Prop) → Prop} (h : OneV V) {K K' : AV → Prop} (hk : ∀ v, K v → K' v) (hv : V K) : V K' := by
  obtain ⟨v, h1, h2⟩ := h _ hv
  exact h2 _ (hk _ h1)

theorem vcall_mono {c : Call} {ty : TypeId} {K K' : AV → AH → Prop} (hk : ∀ v σ, K v σ → K' v σ) (h : vcall P c ty α σ K) : vcall P c ty α σ K' := by
  unfold vcall at *
  cases hc : c.callee with
  | value f =>
    simp only [hc] at h ⊢
    cases hf : ev α f <;> simp only [hf] at h ⊢ <;> try exact h.elim
    · exact h.mono hk
    · exact h.mono hk
  | invoke r m => simp only [hc] at h
  | builtin b =>
    cases b <;> simp only [hc] at h ⊢ <;> try exact h.elim
    case append =>
      rcases hl : c.args.toList with _ | ⟨x, _ | ⟨y, _ | ⟨z, r⟩⟩⟩ <;> rw [hl] at h <;> try exact h.elim
      rcases ht : c.argTypes.toList with _ | ⟨t, _ | ⟨t', _ | ⟨t'', r'⟩⟩⟩ <;> rw [ht] at h <;> try exact h.elim
      dsimp only at h ⊢
      obtain ⟨h0, el, sz, by_, z, src, h1, h2, h3, h4, h5, h6, h7, h8⟩ := h
      refine ⟨h0, el, sz, by_, z, src, h1, h2, h3, h4, h5, h6, h7, ?_⟩
      split at h8
      · split at h8
        · rename_i hs; rw [if_pos hs]; exact hk _ _ h8
        · rename_i hs; rw [if_neg hs]; exact ⟨h8.1, h8.2.1, fun id hid => hk _ _ (h8.2.2 id hid)⟩
      · obtain ⟨es, sz', el', st, q1, q2, q3, q4, q5, q6, q7⟩ := h8
        exact ⟨es, sz', el', st, q1, q2, q3, q4, q5, q6, hk _ _ q7⟩
      · exact h8.elim
    case len =>
      rcases hl : c.args.toList with _ | ⟨x, _ | ⟨y, r⟩⟩ <;> rw [hl] at h <;> try exact h.elim
      rcases ht : c.argTypes.toList with _ | ⟨t, _ | ⟨t', r'⟩⟩ <;> rw [ht] at h <;> try exact h.elim
      obtain ⟨h1, n, h2, h3⟩ := h
      exact ⟨h1, n, h2, hk _ _ h3⟩
    case max => obtain ⟨v, h1, h2⟩ := h; exact ⟨v, h1, hk _ _ h2⟩
    case min => obtain ⟨v, h1, h2⟩ := h; exact ⟨v, h1, hk _ _ h2⟩

theorem vop_mono {o : Oper} {K K' : AV → AH → Prop} (hk : ∀ v σ, K v σ → K' v σ) (h : vop P owns o α σ K) : vop P owns o α σ K' := by
  obtain ⟨dst, op, type, pos, after, guard⟩ := o
  cases op <;> simp only [vop] at h ⊢ <;> try exact h.elim
  case move => exact hk _ _ h
  case assign => exact hk _ _ h
  case pick => obtain ⟨t, h1, h2⟩ := h; exact ⟨t, h1, hk _ _ h2⟩
  case alloc => obtain ⟨cs, h1, h2⟩ := h; exact ⟨cs, h1, fun id hid => hk _ _ (h2 id hid)⟩
  case box =>
    obtain ⟨h1, h7⟩ := h
    refine ⟨h1, ?_⟩
    split at h7
    · rename_i hc
      rw [if_pos hc]
      exact fun id hid => hk _ _ (h7 id hid)
    · rename_i hc
      rw [if_neg hc]
      exact hk _ _ h7
  case build => obtain ⟨place, zs, cs, h1, h2, h3, h4⟩ := h; exact ⟨place, zs, cs, h1, h2, h3, hk _ _ h4⟩
  case buildSlice =>
    obtain ⟨el, zs, es, h1, h2, h3, h4, h5, h6, h7⟩ := h
    refine ⟨el, zs, es, h1, h2, h3, h4, h5, h6, ?_⟩
    split at h7
    · rename_i hc
      rw [if_pos hc]
      exact fun id hid => hk _ _ (h7 id hid)
    · rename_i hc
      rw [if_neg hc]
      exact hk _ _ h7
  case load => obtain ⟨v, h1, h2⟩ := h; exact ⟨v, h1, hk _ _ h2⟩
  case store => obtain ⟨v, h1, h2⟩ := h; exact ⟨v, h1, hk _ _ h2⟩
  case nilCheck => exact ⟨h.1, hk _ _ h.2⟩
  case binOp => exact (vbin_one _ _ _ _ _ _ _).mono (fun v q => hk _ _ q) h
  case unOp => exact (vun_one _ _).mono (fun v q => hk _ _ q) h
  case convert => obtain ⟨h0, k, k', n, h1, h2, h3⟩ := h; exact ⟨h0, k, k', n, h1, h2, hk _ _ h3⟩
  case makeFunc fn first caps =>
    cases fn <;> simp only at h ⊢ <;> try exact h.elim
    exact ⟨h.1, hk _ _ h.2⟩
  case makeMap t r =>
    cases r <;> simp only at h ⊢ <;> try exact h.elim
    obtain ⟨kl, h1, h2⟩ := h; exact ⟨kl, h1, fun id hid => hk _ _ (h2 id hid)⟩
  case makeSlice =>
    obtain ⟨el, zs, by_, kl, kc, l', c', h1, h2, h3, h4, h5, h6, h7, h8, h9, h10, h11⟩ := h
    exact ⟨el, zs, by_, kl, kc, l', c', h1, h2, h3, h4, h5, h6, h7, h8, h9, h10, fun id hid => hk _ _ (h11 id hid)⟩
  case slice => exact (vslice_one _ _ _ _ _ _).mono (fun v q => hk _ _ q) h
  case fieldAddr => obtain ⟨h0, off, h1, h2⟩ := h; exact ⟨h0, off, h1, hk _ _ h2⟩
  case indexAddr => obtain ⟨k, i, h1, h2, h3⟩ := h; exact ⟨k, i, h1, h2, (vidx_one _ _ _ _).mono (fun v q => hk _ _ q) h3⟩
  case index => obtain ⟨k, i', cs, len, el, c, h1, h2, h3, h4, h5, h6, h7, h8, h9⟩ := h; exact ⟨k, i', cs, len, el, c, h1, h2, h3, h4, h5, h6, h7, h8, hk _ _ h9⟩
  case field => obtain ⟨cs, off, c, h1, h2, h3, h4⟩ := h; exact ⟨cs, off, c, h1, h2, h3, hk _ _ h4⟩
  case lookup =>
    obtain ⟨id, f, kl, ks, kt, e, z, h1, h2, h3, h4, h5, h6, h7, h9⟩ := h
    exact ⟨id, f, kl, ks, kt, e, z, h1, h2, h3, h4, h5, h6, h7, hk _ _ h9⟩
  case mapUpdate =>
    obtain ⟨id, f, kl, ks, kt, e, h1, h2, h3, h4, h5, h6, h9⟩ := h
    exact ⟨id, f, kl, ks, kt, e, h1, h2, h3, h4, h5, h6, hk _ _ h9⟩
  case insert =>
    obtain ⟨id, f, kl, ks, kt, e, h1, h2, h3, h4, h5, h6, h9⟩ := h
    exact ⟨id, f, kl, ks, kt, e, h1, h2, h3, h4, h5, h6, hk _ _ h9⟩
  case extract => obtain ⟨vs, v, h1, h2, h3⟩ := h; exact ⟨vs, v, h1, h2, hk _ _ h3⟩
  case call c => exact vcall_mono hk h

theorem aop_mono {o : Oper} {K K' : Tm → AH → Prop} (h : aop P nt owns ops o α σ K) (hk : ∀ α σ, K α σ → K' α σ) : aop P nt owns ops o α σ K' := by
  obtain ⟨hd, b, hb, h⟩ := h
  refine ⟨hd, b, hb, ?_⟩
  cases b with
  | true => rw [if_pos rfl] at h ⊢; exact vop_mono (fun v σ' q => hk _ _ q) h
  | false => exact hk _ _ h

/-- Operands that say the same. -/
theorem aop_congr {o : Oper} {α' : Tm} {K : Tm → AH → Prop} (hl : ∀ t ∈ o.looksAt ops, gt α t = gt α' t) (h : aop P nt owns ops o α σ K) : aop P nt owns ops o α' σ fun α'' σ' => ∃ v, α'' = vput o.dst v α' ∧ K (vput o.dst v α) σ' := by
  obtain ⟨hd, b, hb, h⟩ := h
  refine ⟨hd, b, ?_, ?_⟩
  · rw [← hb]
    unfold awant
    cases hg : o.guard with
    | none => rfl
    | some p =>
      obtain ⟨j, want⟩ := p
      dsimp only
      cases hj : (ops[j]?).bind (·.dst) with
      | none => rfl
      | some g =>
        dsimp only
        rw [hl g (by simp [Oper.looksAt, hg, hj])]
  · cases b with
    | true =>
      rw [if_pos rfl] at h ⊢
      refine vop_congr (fun x hx => ?_) (vop_mono (fun v σ' q => ⟨v, rfl, q⟩) h)
      cases x with
      | tmp t => exact hl t (List.mem_append_left _ (List.mem_filterMap.2 ⟨.tmp t, by simpa using hx, rfl⟩))
      | _ => rfl
    | false =>
      rw [if_neg (by simp)] at h ⊢
      exact ⟨_, rfl, h⟩
theorem aop_grow {o : Oper} {K : Tm → AH → Prop} (hg : growing o = true) (h : aop P nt owns ops o α σ K) : aop P nt owns ops o α σ fun α' σ' => σ.le σ' ∧ K α' σ' := by
  obtain ⟨hd, b, hb, h⟩ := h
  refine ⟨hd, b, hb, ?_⟩
  cases b with
  | true => rw [if_pos rfl] at h ⊢; exact vop_grow hg h
  | false => rw [if_neg (by simp)] at h ⊢; exact ⟨AH.le_refl _, h⟩

/-! ### Whatever order is drawn -/
def vAny (P : Program) (nt : Nat) (owns : List Tmp) (ops : Array Oper) (Q : Tm → AH → Prop) : Nat → Array Bool → Tm → AH → Prop
  | 0, listed, α, σ => Region.ready .any ops listed = [] ∧ Q α σ
  | fuel + 1, listed, α, σ =>
    (Region.ready .any ops listed = [] → Q α σ) ∧
    ∀ i ∈ Region.ready .any ops listed, ∀ o, ops[i]? = some o → aop P nt owns ops o α σ (vAny P nt owns ops Q fuel (listed.setIfInBounds i true))

theorem vAny_sound {lo B : Nat} {r : Option Nat} {Q : Tm → AH → Prop} {R₀ : Nat → Prop} {σ₀ : AH} {φ₀ : Pl} {w₀ : World} {Qc : Exit → Act → World → Prop}
    (hQ : ∀ α' R' σ' φ' w' a', Cfg B R' σ' φ' w' → ActAt lo rd nt R' σ' φ' w' α' a' → Ext R₀ σ₀ φ₀ w₀ R' σ' φ' w' → Q α' σ' → Qc .normal a' w') :
    ∀ (fuel : Nat) (listed : Array Bool) (α : Tm) (R : Nat → Prop) (σ : AH) (φ : Pl) (w : World) (a : Act), Cfg B R σ φ w → ActAt lo rd nt R σ φ w α a → Ext R₀ σ₀ φ₀ w₀ R σ φ w → vAny P nt owns ops Q fuel listed α σ →
      wpAnyIn (fenR r) 0 P .any ops Qc fuel listed a w
  | 0, listed, α, R, σ, φ, w, a, hc, ha, hE, h => ⟨h.1, hQ _ _ _ _ _ _ hc ha hE h.2⟩
  | fuel + 1, listed, α, R, σ, φ, w, a, hc, ha, hE, h => by
    refine ⟨fun h0 => hQ _ _ _ _ _ _ hc ha hE (h.1 h0), fun i hi => ?_⟩
    obtain ⟨_, o, ho, _⟩ := mem_ready.1 hi
    exact aop_ok ho hc ha (h.2 i hi o ho) fun α' R' σ' φ' w' a' q1 q2 q3 q4 => vAny_sound hQ fuel _ α' R' σ' φ' w' a' q1 q2 (hE.trans q3) q4

theorem AT.drawnAny {id : Nat} {Q : Exit → Tm → AH → Prop} (owns : List Tmp) (hm : P.follows .mixedOrders = true)
    (h : vAny P nt owns ops (fun α' σ' => ∃ α'', (∀ t, gt α'' t = gt α' t) ∧ Q .normal α'' σ') ops.size (Array.replicate ops.size false) α σ) : AT P nt rd (.region id ops true) Q α σ := by
  intro lo B R φ w a hlo hc ha
  refine wpIn_region_any hm ?_
  obtain ⟨hcd, hEd⟩ := hc.drew
  exact vAny_sound (R₀ := R) (σ₀ := σ) (φ₀ := φ) (w₀ := w) (r := rdOf φ rd)
    (fun α' R' σ' φ' w' a' q1 q2 q3 ⟨α'', q4, q5⟩ => ⟨α'', R', σ', φ', q1, ⟨fun t => by rw [q4]; exact q2.tm t, q2.sz, q2.df, q2.nd, q2.rd⟩, q3, q5⟩) _ _ α R σ φ w.drew a hcd (ha.ext hEd) hEd h

/-! ### What is asked of the order -/
def aft (o : Oper) (j : Nat) : Bool := o.after.any fun e => Region.binds .any e && e.on == j
def waits (ops : Array Oper) : Nat → Nat → Nat → Bool
  | 0, _, _ => false
  | k + 1, i, e => match ops[i]? with
    | some o => o.after.any fun p => Region.binds .any p && (p.on == e || waits ops k p.on e)
    | none => false
def looks (ops : Array Oper) (o : Oper) (d : Option Tmp) : Bool := match d with
  | some d => (o.looksAt ops).contains d
  | none => false
def drawOK (ops : Array Oper) (mask : List Bool) : Bool :=
  (List.range ops.size).all fun i => match ops[i]? with
    | none => true
    | some oi => if mask.getD i false then
        oi.dst.isSome && (oi.after.all fun e => !Region.binds .any e || mask.getD e.on false && Nat.blt e.on i) &&
        (List.range ops.size).all fun j => match ops[j]? with
          | none => true
          | some oj => if mask.getD j false then (j == i || oj.dst != oi.dst) && (!looks ops oi oj.dst || aft oi j)
            else oj.dst != oi.dst && (aft oj i || !looks ops oj oi.dst && !looks ops oi oj.dst)
      else growing oi || (List.range ops.size).all fun j => !mask.getD j false || waits ops 3 i j

structure DrawOK (ops : Array Oper) (mask : List Bool) : Prop where
  dst : ∀ i oi, ops[i]? = some oi → mask.getD i false = true → ∃ d, oi.dst = some d
  pred : ∀ i oi, ops[i]? = some oi → mask.getD i false = true → ∀ e ∈ oi.after, Region.binds .any e = true → mask.getD e.on false = true ∧ e.on < i
  ee : ∀ i oi j oj, ops[i]? = some oi → ops[j]? = some oj → mask.getD i false = true → mask.getD j false = true → (j = i ∨ oj.dst ≠ oi.dst) ∧ (looks ops oi oj.dst = true → aft oi j = true)
  el : ∀ i oi j oj, ops[i]? = some oi → ops[j]? = some oj → mask.getD i false = true → mask.getD j false = false → oj.dst ≠ oi.dst ∧ (aft oj i = true ∨ looks ops oj oi.dst = false ∧ looks ops oi oj.dst = false)
  late : ∀ i oi, ops[i]? = some oi → mask.getD i false = false → growing oi = true ∨ ∀ j oj, ops[j]? = some oj → mask.getD j false = true → waits ops 3 i j = true

theorem drawOK_spec {mask : List Bool} (h : drawOK ops mask = true) : DrawOK ops mask := by
  have lt : ∀ i oi, ops[i]? = some oi → i < ops.size := fun i oi h => (Array.getElem?_eq_some_iff.1 h).1
  unfold drawOK at h
  rw [List.all_eq_true] at h
  have h1 : ∀ i oi, ops[i]? = some oi → mask.getD i false = true → _ := fun i oi hi hm => by
    have := h i (List.mem_range.2 (lt i oi hi))
    rw [hi] at this
    simp only [hm, if_true, Bool.and_eq_true] at this
    exact this
  have h2 : ∀ i oi, ops[i]? = some oi → mask.getD i false = false → _ := fun i oi hi hm => by
    have := h i (List.mem_range.2 (lt i oi hi))
    rw [hi] at this
    simp only [hm, Bool.false_eq_true, if_false, Bool.or_eq_true] at this
    exact this
  refine ⟨fun i oi hi hm => ?_, fun i oi hi hm e he hb => ?_, fun i oi j oj hi hj hm hn => ?_, fun i oi j oj hi hj hm hn => ?_, fun i oi hi hm => ?_⟩
  · exact Option.isSome_iff_exists.1 (h1 i oi hi hm).1.1
  · have := Array.all_eq_true_iff_forall_mem.1 (h1 i oi hi hm).1.2 e he
    simpa [hb, Nat.blt_eq] using this
  · have := (List.all_eq_true.1 (h1 i oi hi hm).2) j (List.mem_range.2 (lt j oj hj))
    rw [hj] at this
    simp only [hn, if_true, Bool.and_eq_true, Bool.or_eq_true, beq_iff_eq, bne_iff_ne, Bool.not_eq_true'] at this
    refine ⟨this.1, fun hl => ?_⟩
    rcases this.2 with h3 | h3
    · rw [hl] at h3; cases h3
    · exact h3
  · have := (List.all_eq_true.1 (h1 i oi hi hm).2) j (List.mem_range.2 (lt j oj hj))
    rw [hj] at this
    simp only [hn, Bool.false_eq_true, if_false, Bool.and_eq_true, Bool.or_eq_true, bne_iff_ne, Bool.not_eq_true'] at this
    exact this
  · rcases h2 i oi hi hm with h3 | h3
    · exact .inl h3
    · refine .inr fun j oj hj hn => ?_
      have := (List.all_eq_true.1 h3) j (List.mem_range.2 (lt j oj hj))
      simp only [hn, Bool.not_true, Bool.false_or] at this
      exact this

theorem aft_spec {o : Oper} {j : Nat} (h : aft o j = true) : ∃ e ∈ o.after, Region.binds .any e = true ∧ e.on = j := by
  unfold aft at h
  obtain ⟨e, he, hb⟩ := Array.any_eq_true'.1 h
  simp only [Bool.and_eq_true, beq_iff_eq] at hb
  exact ⟨e, he, hb⟩

def closed (ops : Array Oper) (listed : Array Bool) : Prop := ∀ i o, ops[i]? = some o → listed.getD i false = true → ∀ e ∈ o.after, Region.binds .any e = true → listed.getD e.on false = true

theorem waits_listed {listed : Array Bool} (hcl : closed ops listed) : ∀ (k i e : Nat), waits ops k i e = true → (∀ o, ops[i]? = some o → ∀ p ∈ o.after, Region.binds .any p = true → listed.getD p.on false = true) → listed.getD e false = true
  | 0, i, e, h, _ => by simp [waits] at h
  | k + 1, i, e, h, hp => by
    simp only [waits] at h
    cases ho : ops[i]? with
    | none => simp [ho] at h
    | some o =>
      rw [ho] at h
      obtain ⟨p, hpm, hb⟩ := Array.any_eq_true'.1 h
      simp only [Bool.and_eq_true, Bool.or_eq_true, beq_iff_eq] at hb
      have h1 := hp o ho p hpm hb.1
      rcases hb.2 with h2 | h2
      · rw [← h2]; exact h1
      · exact waits_listed hcl k p.on e h2 fun o' ho' q hq hbq => hcl p.on o' ho' h1 q hq hbq

end
end Go.Proofs.Ytdimikmgkdcglaa
