/- What an operation asks is enough. No conditions. -/
import Derived.Test.YtdimikmgkdcglaaA8
set_option linter.unusedVariables false
set_option linter.unusedSimpArgs false
namespace Go.Proofs.Ytdimikmgkdcglaa
open Go.RowKit

/-- How an operation may end. -/
def OpRes (P : Program) (o : Oper) (a : Act) (w : World) (P1 : Value → World → Prop) : Prop :=
  (∃ u w', (execOp a.eval o).run P w = .ok (.value u) w' ∧ P1 u w') ∨
  (∃ w', (execOp a.eval o).run P w = .ok .skip w' ∧ P1 undef w') ∨
  (∃ f args, (execOp a.eval o).run P w = .ok (.enter f args) w ∧ Calls P f args w fun e w' => ∃ u, e = .returned u ∧ P1 u w') ∨
  (∃ l f tmps asg body, (execOp a.eval o).run P w = .ok (.round l f tmps asg body) w ∧ RoundIn Fence.wide 0 P l f tmps asg body w fun e w' => ∃ u, e = .returned u ∧ P1 u w')

def Post (B : Nat) (R : Nat → Prop) (σ : AH) (φ : Pl) (w : World) (K : AV → AH → Prop) (u : Value) (w' : World) : Prop :=
  ∃ v R' σ' φ', Cfg B R' σ' φ' w' ∧ Ext R σ φ w R' σ' φ' w' ∧ RV φ' R' w' v u ∧ K v σ'

theorem vint_ok {P : Program} {φ : Pl} {R : Nat → Prop} {w : World} {op : BinOp} {t : TypeId} {xo yo : Operand} {k k' : IntKind} {a b : Int} {K : AV → Prop} (h : vint op k k' a b K) :
    ∃ u v, (do eqGuard op t xo yo (.int k a) (.int k' b); binOp op t (.int k a) (.int k' b) : Sem Value).run P w = .ok u w ∧ RV φ R w v u ∧ K v := by
  have hg : ∀ op, (eqGuard op t xo yo (.int k a) (.int k' b)).run P w = .ok () w := fun op => by
    unfold eqGuard; cases op <;> simp
  cases op <;> simp only [vint] at h
  case add => obtain ⟨rfl, h⟩ := h; exact ⟨_, _, by simp [hg, binOp, Op.intArith], .sc rfl, h⟩
  case sub => obtain ⟨rfl, h⟩ := h; exact ⟨_, _, by simp [hg, binOp, Op.intArith], .sc rfl, h⟩
  case mul => obtain ⟨rfl, h⟩ := h; exact ⟨_, _, by simp [hg, binOp, Op.intArith], .sc rfl, h⟩
  case quo => obtain ⟨rfl, h0, h⟩ := h; exact ⟨_, _, by simp [hg, binOp, Op.intDiv, h0], .sc rfl, h⟩
  case rem => obtain ⟨rfl, h0, h⟩ := h; exact ⟨_, _, by simp [hg, binOp, Op.intDiv, h0], .sc rfl, h⟩
  case and => obtain ⟨rfl, h⟩ := h; exact ⟨_, _, by simp [hg, binOp, Op.intBits]; rfl, .sc rfl, by simpa using h⟩
  case shr => obtain ⟨h0, h⟩ := h; exact ⟨_, _, by simp [hg, binOp, Op.shift, show ¬ b < 0 by omega], .sc rfl, h⟩
  case eql => obtain ⟨rfl, h⟩ := h; exact ⟨_, _, by simp [hg, binOp, Op.intCmp], .sc rfl, h⟩
  case neq => obtain ⟨rfl, h⟩ := h; exact ⟨_, _, by simp [hg, binOp, Op.intCmp], .sc rfl, h⟩
  case lss => obtain ⟨rfl, h⟩ := h; exact ⟨_, _, by simp [hg, binOp, Op.intCmp], .sc rfl, h⟩
  case leq => obtain ⟨rfl, h⟩ := h; exact ⟨_, _, by simp [hg, binOp, Op.intCmp], .sc rfl, h⟩
  case gtr => obtain ⟨rfl, h⟩ := h; exact ⟨.bool (decide (a > b)), _, by simp [hg, binOp, Op.intCmp], .sc rfl, h⟩
  case geq => obtain ⟨rfl, h⟩ := h; exact ⟨.bool (decide (a ≥ b)), _, by simp [hg, binOp, Op.intCmp], .sc rfl, h⟩

theorem conc_ok {φ : Pl} {R : Nat → Prop} {w : World} {x : AV} {u c : Value} (h : RV φ R w x u) (hc : conc x = some c) : u = c := by
  cases h with
  | sc => simp [conc] at hc; exact hc
  | ag hl h1 hv =>
    rename_i cs us
    simp only [conc] at hc
    cases hm : cs.mapM conc1 with
    | none => simp [hm] at hc
    | some l =>
      simp [hm] at hc
      subst hc
      have key : ∀ (cs : List AV) (us : List Value) (l : List Value), us.length = cs.length → (∀ (i : Nat) c u, cs[i]? = some c → us[i]? = some u → RV φ R w c u) → cs.mapM conc1 = some l → us = l := by
        intro cs
        induction cs with
        | nil => intro us l hl _ hk; have : us = [] := List.eq_nil_of_length_eq_zero (by simpa using hl); subst this; simpa using hk
        | cons c cs ih =>
          intro us l hl hv hk
          cases us with
          | nil => simp at hl
          | cons u us =>
            have hcu := hv 0 c u rfl rfl
            simp only [List.mapM_cons] at hk
            cases hc : conc1 c with
            | none => simp [hc] at hk
            | some n =>
              cases hr : cs.mapM conc1 with
              | none => simp [hc, hr] at hk
              | some l' =>
                simp [hc, hr] at hk
                subst hk
                have h2 := ih us l' (by simpa using hl) (fun i c u h1 h2 => hv (i + 1) c u (by simpa using h1) (by simpa using h2)) hr
                have h3 : u = n := by
                  cases c <;> simp [conc1] at hc
                  subst hc; cases hcu; rfl
                rw [h2, h3]
      have := key cs us.toList l (by simpa using hl) (fun i c u h1 h2 => hv i c u h1 (by simpa using h2)) hm
      rw [← this]
  | _ => simp [conc] at hc

theorem equal_bool {P : Program} {w : World} {t : TypeId} (hu : P.underlying t = some .bool) (a b : Bool) : (Op.equal t (.bool a) (.bool b)).run P w = .ok (a == b) w := by
  have key : ∀ n, (Op.equalIn (n + 1) t (.bool a) (.bool b)).run P w = .ok (a == b) w := fun n => by
    unfold Op.equalIn
    simp only [Sem.run_bind, run_underlying hu, Result.andThen_ok, Sem.run_pure]
  exact key 9999
theorem equal_slice_nil {P : Program} {w : World} {t e : TypeId} (hu : P.underlying t = some (.slice e)) (A : Option Addr) (n c : Nat) : (Op.equal t (.slice A n c) (.slice none 0 0)).run P w = .ok A.isNone w := by
  have key : ∀ m, (Op.equalIn (m + 1) t (.slice A n c) (.slice none 0 0)).run P w = .ok A.isNone w := fun m => by
    unfold Op.equalIn
    simp only [Sem.run_bind, run_underlying hu, Result.andThen_ok]
    cases A <;> simp
  exact key 9999
theorem guard_none {P : Program} {w : World} (op : BinOp) (t : TypeId) (xo yo : Operand) {a b : Value} (h1 : a ≠ .nilIface) (h2 : ∀ cs, a ≠ .agg cs) : (eqGuard op t xo yo a b).run P w = .ok () w := by
  unfold eqGuard
  cases op <;> cases a <;> simp_all

theorem vbin_ok {P : Program} {φ : Pl} {R : Nat → Prop} {w : World} {op : BinOp} {t : TypeId} {xo yo : Operand} {x y : AV} {ux uy : Value} (hx : RV φ R w x ux) (hy : RV φ R w y uy) {K : AV → Prop} (h : vbin P op t xo yo x y K) :
    ∃ u v, (do eqGuard op t xo yo ux uy; binOp op t ux uy : Sem Value).run P w = .ok u w ∧ RV φ R w v u ∧ K v := by
  unfold vbin at h
  split at h
  · cases hx; cases hy; exact vint_ok h
  · rename_i a b
    cases hx; cases hy
    obtain ⟨hu, h⟩ := h
    have hr := equal_bool (P := P) (w := w) hu a b
    have hg := guard_none (P := P) (w := w) op t xo yo (a := .bool a) (b := .bool b) (by simp) (by simp)
    cases op <;> simp only at h
    · exact ⟨_, _, by simp [hg, binOp, hr], .sc rfl, h⟩
    · exact ⟨_, _, by simp [hg, binOp, hr], .sc rfl, h⟩
  · cases hx; cases hy
    obtain ⟨hu, h⟩ := h
    obtain ⟨el, hel⟩ := Option.isSome_iff_exists.1 hu
    have hr := equal_slice_nil (P := P) (w := w) (tslice_spec hel) none 0 0
    have hg := guard_none (P := P) (w := w) op t xo yo (a := .slice none 0 0) (b := .slice none 0 0) (by simp) (by simp)
    cases op <;> simp only at h
    · exact ⟨_, _, by simp [hg, binOp, hr], .sc rfl, h⟩
    · exact ⟨_, _, by simp [hg, binOp, hr], .sc rfl, h⟩
  · cases hy
    obtain ⟨hu, h⟩ := h
    obtain ⟨el, hel⟩ := Option.isSome_iff_exists.1 hu
    obtain ⟨a, n, c, rfl⟩ : ∃ a n c, ux = .slice (some a) n c := by cases hx <;> exact ⟨_, _, _, rfl⟩
    have hr := equal_slice_nil (P := P) (w := w) (tslice_spec hel) (some a) n c
    have hg := guard_none (P := P) (w := w) op t xo yo (a := .slice (some a) n c) (b := .slice none 0 0) (by simp) (by simp)
    cases op <;> simp only at h
    · exact ⟨_, _, by simp [hg, binOp, hr], .sc rfl, h⟩
    · exact ⟨_, _, by simp [hg, binOp, hr], .sc rfl, h⟩
  · cases hy
    obtain ⟨hu, h⟩ := h
    obtain ⟨el, hel⟩ := Option.isSome_iff_exists.1 hu
    obtain ⟨a, n, c, rfl⟩ : ∃ a n c, ux = .slice (some a) n c := by cases hx <;> exact ⟨_, _, _, rfl⟩
    have hr := equal_slice_nil (P := P) (w := w) (tslice_spec hel) (some a) n c
    have hg := guard_none (P := P) (w := w) op t xo yo (a := .slice (some a) n c) (b := .slice none 0 0) (by simp) (by simp)
    cases op <;> simp only at h
    · exact ⟨_, _, by simp [hg, binOp, hr], .sc rfl, h⟩
    · exact ⟨_, _, by simp [hg, binOp, hr], .sc rfl, h⟩
  · obtain ⟨a, b, v, h1, h2, h3, h4, h5⟩ := h
    have e1 := conc_ok hx h1
    have e2 := conc_ok hy h2
    subst e1; subst e2
    exact ⟨v, _, h3 w, .sc h4, h5⟩
  · exact h.elim

theorem vstep_none (ge : Bool) (l : List AV) : l.foldl (vstep ge) none = none := by induction l with | nil => rfl | cons z l ih => simpa [vstep] using ih

theorem vmax_ok {P : Program} {φ : Pl} {R : Nat → Prop} {w : World} (ge : Bool) : ∀ (xs : List AV) (us : List Value) (k : IntKind) (a : Int), us.length = xs.length → (∀ (i : Nat) c u, xs[i]? = some c → us[i]? = some u → RV φ R w c u) → ∀ v,
    xs.foldl (vstep ge) (some (.sc (.int k a))) = some v → ∃ r, (us.foldlM (if ge then Builtin.max2 else Builtin.min2) (.int k a)).run P w = .ok r w ∧ RV φ R w v r
  | [], us, k, a, hl, _, v, h => by
    have : us = [] := List.eq_nil_of_length_eq_zero (by simpa using hl)
    subst this
    simp at h
    subst h
    exact ⟨_, by simp, .sc rfl⟩
  | y :: xs, [], k, a, hl, _, v, h => by simp at hl
  | y :: xs, uy :: us, k, a, hl, hv, v, h => by
    have hy := hv 0 y uy rfl rfl
    simp only [List.foldl_cons] at h
    by_cases hb : ∃ k' b, y = .sc (.int k' b)
    · obtain ⟨k', b, rfl⟩ := hb
      cases hy
      simp only [vstep, Option.bind_some] at h
      obtain ⟨r, h1, h2⟩ := vmax_ok ge xs us k _ (by simpa using hl) (fun i c u h1 h2 => hv (i + 1) c u (by simpa using h1) (by simpa using h2)) v h
      refine ⟨r, ?_, h2⟩
      cases ge
      · simp only [Bool.false_eq_true, if_false] at h1 ⊢
        simp only [List.foldlM_cons, Builtin.min2, Sem.run_bind, Sem.run_pure, Result.andThen_ok]
        exact h1
      · simp only [if_true] at h1 ⊢
        simp only [List.foldlM_cons, Builtin.max2, Sem.run_bind, Sem.run_pure, Result.andThen_ok]
        exact h1
    · have : vstep ge (some (.sc (.int k a))) y = none := by
        unfold vstep
        simp only [Option.bind_some]
        split
        · rename_i heq1 heq2; exact absurd ⟨_, _, rfl⟩ hb
        · rfl
      rw [this, vstep_none] at h
      cases h

theorem vmax_top {P : Program} {φ : Pl} {R : Nat → Prop} {w : World} (ge : Bool) {xs : List AV} {us : List Value} (hl : us.length = xs.length) (hv : ∀ (i : Nat) c u, xs[i]? = some c → us[i]? = some u → RV φ R w c u) {v : AV} (h : vmax ge xs = some v) :
    ∃ u rest r, us = u :: rest ∧ (rest.foldlM (if ge then Builtin.max2 else Builtin.min2) u).run P w = .ok r w ∧ RV φ R w v r := by
  cases xs with
  | nil => simp [vmax] at h
  | cons x xs =>
    cases us with
    | nil => simp at hl
    | cons u us =>
      have hx := hv 0 x u rfl rfl
      simp only [vmax] at h
      cases hi : ofInt? x with
      | none => simp [hi] at h
      | some p =>
        simp only [hi] at h
        have hxe : ∃ k n, x = .sc (.int k n) := by
          unfold ofInt? at hi
          split at hi
          · exact ⟨_, _, rfl⟩
          · cases hi
        obtain ⟨k, n, rfl⟩ := hxe
        cases hx
        obtain ⟨r, h1, h2⟩ := vmax_ok ge xs us k n (by simpa using hl) (fun i c u h1 h2 => hv (i + 1) c u (by simpa using h1) (by simpa using h2)) v h
        exact ⟨_, us, r, rfl, h1, h2⟩

theorem rvs_map {lo : Nat} {rd : Option Nat} {nt : Nat} {R : Nat → Prop} {σ : AH} {φ : Pl} {w : World} {α : Tm} {a : Act} (h : ActAt lo rd nt R σ φ w α a) (xs : List Operand) :
    ∀ (i : Nat) v u, (xs.map (ev α))[i]? = some v → (xs.map a.eval)[i]? = some u → RV φ R w v u := by
  intro i v u h1 h2
  rw [List.getElem?_map] at h1 h2
  cases hx : xs[i]? with
  | none => simp [hx] at h1
  | some x =>
    simp [hx] at h1 h2
    subst h1; subst h2
    exact h.ev x

/-- Calls. -/
theorem vcall_ok {P : Program} {B lo : Nat} {rd : Option Nat} {nt : Nat} {R : Nat → Prop} {σ : AH} {φ : Pl} {w : World} {α : Tm} {a : Act} (hc : Cfg B R σ φ w) (ha : ActAt lo rd nt R σ φ w α a) {c : Call} {o : Oper} (ho : o.op = .call c) {K : AV → AH → Prop} (h : vcall P c o.type α σ K) :
    OpRes P o a w (Post B R σ φ w K) := by
  have hrun : ∀ r, ((resolve a.eval c o.type).run P w).andThen (fun d w' => (invoke d.target d.args).run P w') = r → (execOp a.eval o).run P w = r := fun r hr => by
    rw [← hr]; unfold execOp; simp only [ho, Sem.run_bind]
  unfold vcall at h
  obtain ⟨callee, args, argTypes⟩ := c
  simp only at h
  split at h
  · -- len
    rename_i hcal
    split at h
    · rename_i x t hx1 ht1
      obtain ⟨ht, n, hn, hK⟩ := h
      obtain ⟨el, hel⟩ := Option.isSome_iff_exists.1 ht
      obtain ⟨A, cc, hu⟩ := slen_ok (P := P) (ha.ev x) hn
      have e1 : args = #[x] := Array.toList_inj.1 hx1
      have e2 : argTypes = #[t] := Array.toList_inj.1 ht1
      subst e1; subst e2
      have hr := run_underlying (tslice_spec hel) w
      exact .inl ⟨.int .i64 n, w, hrun _ (by simp [resolve, invoke, builtin, Builtin.len_, hr, hu, goInt]), _, R, σ, φ, hc, Ext.refl _ _ _ _, .sc rfl, hK⟩
    · exact h.elim
  · -- max
    rename_i hcal
    obtain ⟨v, hv, hK⟩ := h
    obtain ⟨u, rest, r, h1, h2, h3⟩ := vmax_top (P := P) true (us := args.toList.map a.eval) (by simp) (rvs_map ha args.toList) hv
    exact .inl ⟨r, w, hrun _ (by
      simp only [resolve, Sem.run_pure, Result.andThen_ok, invoke, builtin, Sem.run_bind, Builtin.max_, Array.toList_map, h1]
      simp only [if_true] at h2
      rw [h2]; rfl), _, R, σ, φ, hc, Ext.refl _ _ _ _, h3, hK⟩
  · -- min
    rename_i hcal
    obtain ⟨v, hv, hK⟩ := h
    obtain ⟨u, rest, r, h1, h2, h3⟩ := vmax_top (P := P) false (us := args.toList.map a.eval) (by simp) (rvs_map ha args.toList) hv
    exact .inl ⟨r, w, hrun _ (by
      simp only [resolve, Sem.run_pure, Result.andThen_ok, invoke, builtin, Sem.run_bind, Builtin.min_, Array.toList_map, h1]
      simp only [Bool.false_eq_true, if_false] at h2
      rw [h2]; rfl), _, R, σ, φ, hc, Ext.refl _ _ _ _, h3, hK⟩
  · -- append
    rename_i hcal
    split at h
    · rename_i s x t t' hx1 ht1
      obtain ⟨rfl, el, sz, by_, z, src, h1, h2, h3, h4, h5, h6, h7, h⟩ := h
      have e1 : args = #[s, x] := Array.toList_inj.1 hx1
      have e2 : argTypes = #[t', t'] := Array.toList_inj.1 ht1
      subst e1; subst e2
      have hs := ha.ev s
      have hx := ha.ev x
      have hgo : ∀ u w', (Builtin.append_ #[t', t'] o.type #[a.eval s, a.eval x]).run P w = .ok u w' → (execOp a.eval o).run P w = .ok (.value u) w' := fun u w' hq => hrun _ (by
        simp only [resolve, Sem.run_pure, Result.andThen_ok, invoke, builtin, Sem.run_bind, List.map_toArray, List.map_cons, List.map_nil, hq])
      split at h
      · rename_i heq
        rw [heq] at hs
        have hsn : a.eval s = .slice none 0 0 := by generalize a.eval s = q at hs; cases hs; rfl
        split at h
        · rename_i hnil
          subst hnil
          obtain ⟨A, cc, news, e3, _, _⟩ := rdS_ok hc hx h6 h7
          exact .inl ⟨_, _, hgo _ _ (by rw [hsn, e3]; exact append_none h1 h2), nilS, R, σ, φ, hc, Ext.refl _ _ _ _, .sc rfl, h⟩
        · rename_i hne
          obtain ⟨h8, h9, hK⟩ := h
          obtain ⟨id, hid0, hid1⟩ := hc.fresh
          obtain ⟨v', φ', w', q1, q2, q3, q4⟩ := append_nil (ty := o.type) hc hx h6 h1 h2 h3 h4 h5 h7 hne h8 h9 hid0 hid1
          exact .inl ⟨_, _, hgo _ _ (by rw [hsn]; exact q1), _, R, _, φ', q2, q3, q4, hK id hid0⟩
      · rename_i id n heq
        rw [heq] at hs
        obtain ⟨es, sz', el', st, h8, rfl, rfl, h9, h10, h11, hK⟩ := h
        obtain ⟨v', φ', w', q1, q2, q3, q4⟩ := append_sl (ty := o.type) hc hs hx h6 h8 h9 h1 h2 h3 h4 h5 h7 h10 h11
        exact .inl ⟨_, _, hgo _ _ q1, _, R, _, φ', q2, q3, q4, hK⟩
      · exact h.elim
    · exact h.elim
  · -- a value that is called
    rename_i f
    split at h
    · rename_i g caps heq
      obtain ⟨hent, hAC⟩ := h
      have hf := ha.ev f
      rw [heq] at hf
      obtain ⟨us, hus, hl, hv⟩ : ∃ us : Array Value, a.eval f = .func (.func g) #[] us ∧ us.size = caps.length ∧ ∀ (i : Nat) c u, caps[i]? = some c → us[i]? = some u → RV φ R w c u := by
        generalize a.eval f = q at hf
        cases hf with
        | fn hl hv => exact ⟨_, rfl, hl, hv⟩
      refine .inr (.inr (.inl ⟨g, args.map a.eval ++ us, hrun _ ?_, ?_⟩))
      · simp only [resolve, hus, Deferred.ofValue, Sem.run_pure, Result.andThen_ok, invoke, Array.empty_append]
        exact hent.run _ _
      · have hrv : RVs φ R w (args.toList.map (ev α) ++ caps) (args.map a.eval ++ us) := by
          refine ⟨by simp [hl], fun i v u h1 h2 => ?_⟩
          by_cases hi : i < args.size
          · rw [List.getElem?_append_left (by simpa using hi)] at h1
            rw [Array.getElem?_append_left (by simpa using hi)] at h2
            exact rvs_map ha args.toList i v u h1 (by simpa using h2)
          · rw [List.getElem?_append_right (by simp; omega)] at h1
            rw [Array.getElem?_append_right (by simp; omega)] at h2
            simp at h1 h2
            exact hv _ v u h1 h2
        exact (hAC B R φ w _ hc hrv).mono fun e w' ⟨u, r, R', σ', φ', q1, q2, q3, q4, q5⟩ => ⟨u, q1, r, R', σ', φ', q2, q3, q4, q5⟩
    · rename_i id heq
      have hf := ha.ev f
      rw [heq] at hf
      obtain ⟨b, cap, hfe, hφ⟩ : ∃ b cap, a.eval f = .func (.yield b) #[] #[] ∧ φ id 0 = some (b, cap) := by
        generalize a.eval f = q at hf
        cases hf with
        | yl h => exact ⟨_, _, rfl, h⟩
      have hrv : RVs φ R w (args.toList.map (ev α)) (args.map a.eval) := ⟨by simp, fun i v u h1 h2 => rvs_map ha args.toList i v u h1 (by simpa using h2)⟩
      obtain ⟨f', tmps, asg, body, q1, q2⟩ := h B R φ w _ b cap hc hrv hφ
      refine .inr (.inr (.inr ⟨b, f', tmps, asg, body, hrun _ ?_, q2.mono fun e w' ⟨u, r, R', σ', φ', q1, q2, q3, q4, q5⟩ => ⟨u, q1, r, R', σ', φ', q2, q3, q4, q5⟩⟩))
      simp only [resolve, hfe, Deferred.ofValue, Sem.run_pure, Result.andThen_ok, invoke, Array.empty_append]
      exact q1
    · exact h.elim
  · exact h.elim

theorem part_ok {P : Program} {φ : Pl} {R : Nat → Prop} {w : World} {cs : List AV} {us : Array Value} (h : RV φ R w (.ag cs) (.agg us)) {t : TypeId} (hg : tagg P t = some false) {off : Nat} {c : AV} (hc : cs[off]? = some c) :
    ∃ v, (part t us off).run P w = .ok v w ∧ RV φ R w c v := by
  cases h with
  | ag hl h1 hv =>
    have hlt : off < us.size := by rw [hl]; exact (List.getElem?_eq_some_iff.1 hc).1
    have hu : us[off]? = some us[off] := by simp [hlt]
    exact ⟨us[off], by simp [part, run_isAgg hg, hu], hv off c _ hc hu⟩
theorem index_ok {P : Program} {φ : Pl} {R : Nat → Prop} {w : World} {cs : List AV} {u : Value} (h : RV φ R w (.ag cs) u) {t el : TypeId} {len : Nat} (ht : tarray P t = some (len, el)) (hs : tsz P el = some 1) (hg : tagg P el = some false)
    {i : Int} (hi : 0 ≤ i) (hn : i < len) {c : AV} (hc : cs[i.toNat]? = some c) (k : IntKind) : ∃ v, (Instr.index t u (.int k i)).run P w = .ok v w ∧ RV φ R w c v := by
  obtain ⟨us, rfl⟩ : ∃ us, u = .agg us := by cases h; exact ⟨_, rfl⟩
  obtain ⟨v, h1, h2⟩ := part_ok (P := P) h hg hc
  exact ⟨v, by simp [Instr.index, asIntOf, run_underlying (tarray_spec ht), hi, hn, run_sizeOf' hs, h1], h2⟩
theorem fieldV_ok {P : Program} {φ : Pl} {R : Nat → Prop} {w : World} {cs : List AV} {u : Value} (h : RV φ R w (.ag cs) u) {t f off : Nat} (ht : tfld P t f = some (off, false)) {c : AV} (hc : cs[off]? = some c) :
    ∃ v, (Instr.field t u f).run P w = .ok v w ∧ RV φ R w c v := by
  obtain ⟨us, rfl⟩ : ∃ us, u = .agg us := by cases h; exact ⟨_, rfl⟩
  unfold tfld at ht
  cases hu : P.underlying t with
  | none => simp [hu] at ht
  | some d =>
    simp only [hu, Option.bind_some] at ht
    split at ht
    · rename_i fs
      cases hf : fs[f]? with
      | none => simp [hf] at ht
      | some fl =>
        simp only [hf, Option.bind_some] at ht
        cases hg : tagg P fl.type with
        | none => simp [hg] at ht
        | some g =>
          simp only [hg, Option.map_some, Option.some.injEq, Prod.mk.injEq] at ht
          obtain ⟨rfl, rfl⟩ := ht
          obtain ⟨v, h1, h2⟩ := part_ok (P := P) h hg hc
          exact ⟨v, by simp [Instr.field, run_underlying hu, hf, asAgg, h1], h2⟩
    · cases ht
theorem slicePr_ok {P : Program} {φ : Pl} {R : Nat → Prop} {w : World} {cs : List AV} {off : Nat} {u : Value} (h : RV φ R w (.pr cs off) u) {t el : TypeId} {len : Nat} (ht : tarray P t = some (len, el)) (hs : tsz P el = some 1) (h0 : 0 < len) (hle : off + len ≤ cs.length) :
    ∃ v, (Instr.sliceAt t u none none none).run P w = .ok v w ∧ RV φ R w (.ro (((cs.drop off).take len).map fun c => [c])) v := by
  cases h with
  | pr ho hv =>
    rename_i b o vs
    have hlen : (((cs.drop off).take len).map fun c => [c]).length = len := by simp; omega
    have key : ∀ (i : Nat) e j c, (((cs.drop off).take len).map fun c => [c])[i]? = some e → e[j]? = some c → j = 0 ∧ cs[off + i]? = some c := fun i e j c h1 h2 => by
      rw [List.getElem?_map] at h1
      cases hq : ((cs.drop off).take len)[i]? with
      | none => simp [hq] at h1
      | some x =>
        simp only [hq, Option.map_some, Option.some.injEq] at h1
        subst h1
        cases j with
        | zero =>
          simp at h2
          subst h2
          refine ⟨rfl, ?_⟩
          have := List.getElem?_take (l := cs.drop off) (i := len) (j := i)
          rw [hq] at this
          split at this
          · rw [List.getElem?_drop] at this; exact this.symm
          · cases this
        | succ j => simp at h2
    refine ⟨.slice (some ⟨b, o + off, none⟩) len len, ?_, ?_⟩
    · have hb : (Instr.sliceBounds false len len none none none).run P w = .ok (0, len, len) w := by simp [Instr.sliceBounds]
      simp [Instr.sliceAt, run_underlying (tarray_spec ht), Instr.sureAddr, hb, run_sizeOf' hs, Addr.add]
    · have hm : RV φ R w (.ro (((cs.drop off).take len).map fun c => [c])) (.slice (some ⟨b, o + off, none⟩) (((cs.drop off).take len).map fun c => [c]).length len) := by
        refine .ro (sz := 1) (vs := fun i j => vs (off + i)) (by omega) (fun e he => ?_) (fun i e j c h1 h2 => ?_) (fun i e j c h1 h2 => ?_)
        · obtain ⟨c, _, rfl⟩ := List.mem_map.1 he
          rfl
        · obtain ⟨rfl, hc⟩ := key i e j c h1 h2
          obtain ⟨a1, a2, a3⟩ := ho (off + i) c hc
          refine ⟨a1, a2, ?_⟩
          rw [← a3]
          congr 2
          omega
        · obtain ⟨rfl, hc⟩ := key i e j c h1 h2
          exact hv _ c hc
      rw [hlen] at hm
      exact hm

end Go.Proofs.Ytdimikmgkdcglaa
