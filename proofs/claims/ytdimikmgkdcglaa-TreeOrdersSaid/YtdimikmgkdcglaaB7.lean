/- Regions that draw their order: what may be taken first. No conditions. -/
import Derived.Test.YtdimikmgkdcglaaB6
import Derived.OrdersIn
set_option linter.unusedVariables false
set_option linter.unusedSimpArgs false
namespace Go.Proofs.Ytdimikmgkdcglaa
open Go.RowKit

/-! ### An operation asks only after its operands -/
theorem vcall_congr {P : Program} {c : Call} {ty : TypeId} {α α' : Tm} {σ : AH} {K : AV → AH → Prop} (h : ∀ x ∈ c.operands, ev α x = ev α' x) (hv : vcall P c ty α σ K) : vcall P c ty α' σ K := by
  have hargs : c.args.toList.map (ev α) = c.args.toList.map (ev α') := List.map_congr_left fun x hx => h x (by simp [Call.operands]; right; simpa using hx)
  unfold vcall at *
  cases hc : c.callee with
  | value f =>
    have hf : ev α f = ev α' f := h f (by simp [Call.operands, hc])
    simp only [hc] at hv ⊢
    rw [← hf, ← hargs]
    exact hv
  | invoke r m => simp only [hc] at hv
  | builtin b =>
    cases b <;> simp only [hc] at hv ⊢ <;> try exact hv
    case append =>
      rcases hl : c.args.toList with _ | ⟨x, _ | ⟨y, _ | ⟨z, r⟩⟩⟩ <;> rw [hl] at hv hargs <;> try exact hv
      simp only [List.map_cons, List.map_nil, List.cons.injEq, and_true] at hargs
      rcases ht : c.argTypes.toList with _ | ⟨t, _ | ⟨t', _ | ⟨t'', r'⟩⟩⟩ <;> rw [ht] at hv <;> try exact hv.elim
      dsimp only at hv ⊢
      rw [← hargs.1, ← hargs.2]
      exact hv
    case len =>
      rcases hl : c.args.toList with _ | ⟨x, _ | ⟨y, r⟩⟩ <;> rw [hl] at hv hargs <;> try exact hv
      simp only [List.map_cons, List.map_nil, List.cons.injEq, and_true] at hargs
      rcases ht : c.argTypes.toList with _ | ⟨t, _ | ⟨t', r'⟩⟩ <;> rw [ht] at hv <;> try exact hv.elim
      dsimp only at hv ⊢
      rw [← hargs]
      exact hv
    case max => rw [← hargs]; exact hv
    case min => rw [← hargs]; exact hv

theorem vop_congr {P : Program} {owns : List Tmp} {o : Oper} {α α' : Tm} {σ : AH} {K : AV → AH → Prop} (h : ∀ x ∈ o.op.operands, ev α x = ev α' x) (hv : vop P owns o α σ K) : vop P owns o α' σ K := by
  obtain ⟨dst, op, type, pos, after, guard⟩ := o
  have pairs : ∀ ps : Array (Nat × Operand), (∀ x ∈ (ps.toList.map (·.2)).toArray, ev α x = ev α' x) →
      (ps.toList.map fun p => (p.1, ev α p.2)) = (ps.toList.map fun p => (p.1, ev α' p.2)) := fun ps hp =>
    List.map_congr_left fun p hm => by rw [hp p.2 (by simpa using ⟨p.1, by simpa using hm⟩)]
  have opt : ∀ l : Option Operand, (∀ x ∈ l.toArray, ev α x = ev α' x) → l.map (ev α) = l.map (ev α') := fun l hl => by
    cases l with
    | none => rfl
    | some x => simp only [Option.map_some]; rw [hl x (by simp)]
  cases op <;> simp only [Op.operands] at h <;> simp only [vop] at hv ⊢ <;> try exact hv
  case makeFunc fn first caps =>
    cases fn <;> simp only at hv ⊢ <;> try exact hv
    rw [← (List.map_congr_left (l := caps.toList) fun x hx => h x (by simp; right; simpa using hx) : caps.toList.map (ev α) = caps.toList.map (ev α'))]
    exact hv
  case makeMap t r => cases r <;> simp only at hv ⊢ <;> exact hv
  case call c => exact vcall_congr h hv
  case build t ps => rw [← pairs ps h]; exact hv
  case buildSlice t n ps => rw [← pairs ps h]; exact hv
  case slice t x lo hi mx =>
    have h1 := h x (by simp)
    have h2 := opt lo fun y hy => h y (by simp at hy ⊢; simp [hy])
    have h3 := opt hi fun y hy => h y (by simp at hy ⊢; simp [hy])
    have h4 := opt mx fun y hy => h y (by simp at hy ⊢; simp [hy])
    rw [← h1, ← h2, ← h3, ← h4]
    exact hv
  all_goals (simp at h; simp only [h] at hv; exact hv)

/-! ### An operation that writes nothing -/
def growing (o : Oper) : Bool := match o.op with
  | .store .. | .mapUpdate .. | .insert .. => false
  | .call c => match c.callee with
    | .builtin .append => false
    | .builtin _ => true
    | _ => false
  | _ => true

theorem vcall_grow {P : Program} {c : Call} {ty : TypeId} {α : Tm} {σ : AH} {K : AV → AH → Prop} (hg : (match c.callee with | .builtin .append => false | .builtin _ => true | _ => false) = true) (h : vcall P c ty α σ K) :
    vcall P c ty α σ fun v σ' => σ.le σ' ∧ K v σ' := by
  unfold vcall at *
  cases hc : c.callee with
  | value f => simp [hc] at hg
  | invoke r m => simp [hc] at hg
  | builtin b =>
    cases b <;> simp only [hc] at hg h ⊢ <;> first | exact h | skip
    case append => simp at hg
    case len =>
      rcases hl : c.args.toList with _ | ⟨x, _ | ⟨y, r⟩⟩ <;> rw [hl] at h <;> try exact h.elim
      rcases ht : c.argTypes.toList with _ | ⟨t, _ | ⟨t', r'⟩⟩ <;> rw [ht] at h <;> try exact h.elim
      obtain ⟨h1, n, h2, h3⟩ := h
      exact ⟨h1, n, h2, AH.le_refl _, h3⟩
    case max => obtain ⟨v, h1, h2⟩ := h; exact ⟨v, h1, AH.le_refl _, h2⟩
    case min => obtain ⟨v, h1, h2⟩ := h; exact ⟨v, h1, AH.le_refl _, h2⟩

/-- There is one value, and all is as well with another continuation. -/
def OneV (V : (AV → Prop) → Prop) : Prop := ∀ K, V K → ∃ v, K v ∧ ∀ K' : AV → Prop, K' v → V K'
theorem vint_one (op : BinOp) (k k' : IntKind) (a b : Int) : OneV (vint op k k' a b) := fun K h => by
  unfold vint at *
  cases op <;> simp only at h ⊢ <;> first
    | exact h.elim
    | exact ⟨_, h.2, fun K' h' => ⟨h.1, h'⟩⟩
    | exact ⟨_, h.2.2, fun K' h' => ⟨h.1, h.2.1, h'⟩⟩
theorem vbin_one (P : Program) (op : BinOp) (t : TypeId) (xo yo : Operand) (x y : AV) : OneV (vbin P op t xo yo x y) := fun K h => by
  unfold vbin at *
  split at h
  · exact vint_one _ _ _ _ _ K h
  · cases op <;> simp only at h ⊢ <;> first
      | exact h.2.elim
      | exact ⟨_, h.2, fun K' h' => ⟨h.1, h'⟩⟩
  · cases op <;> simp only at h ⊢ <;> first
      | exact h.2.elim
      | exact ⟨_, h.2, fun K' h' => ⟨h.1, h'⟩⟩
  · cases op <;> simp only at h ⊢ <;> first
      | exact h.2.elim
      | exact ⟨_, h.2, fun K' h' => ⟨h.1, h'⟩⟩
  · cases op <;> simp only at h ⊢ <;> first
      | exact h.2.elim
      | exact ⟨_, h.2, fun K' h' => ⟨h.1, h'⟩⟩
  · obtain ⟨a, b, v, h1, h2, h3, h4, h5⟩ := h
    exact ⟨_, h5, fun K' h' => ⟨a, b, v, h1, h2, h3, h4, h'⟩⟩
  · exact h.elim
theorem vun_one (op : UnOp) (x : AV) : OneV (vun op x) := fun K h => by
  unfold vun at *
  split at h
  · exact ⟨_, h, fun K' h' => h'⟩
  · exact ⟨_, h, fun K' h' => h'⟩
  · exact h.elim
theorem vidx_one (P : Program) (t : TypeId) (x : AV) (i : Int) : OneV (vidx P t x i) := fun K h => by
  unfold vidx at *
  split at h
  · obtain ⟨e, el, h1, h2, h3, h4⟩ := h
    exact ⟨_, h4, fun K' h' => ⟨e, el, h1, h2, h3, h'⟩⟩
  · obtain ⟨e, el, h1, h2, h3, h4⟩ := h
    exact ⟨_, h4, fun K' h' => ⟨e, el, h1, h2, h3, h'⟩⟩
  · rename_i x h8 h9
    obtain ⟨h0, e, el, sz, h1, h2, h3, h4⟩ := h
    refine ⟨_, h4, fun K' h' => ?_⟩
    exact ⟨h0, e, el, sz, h1, h2, h3, h'⟩
theorem vslice_one (P : Program) (t : TypeId) (x : AV) (lo hi mx : Option AV) : OneV (vslice P t x lo hi mx) := fun K h => by
  unfold vslice at *
  split at h
  · obtain ⟨el, sz, L, H, M, h1, h2, h3, h4, h5, h6, h7, h8, h9, h10, h11⟩ := h
    exact ⟨_, h11, fun K' h' => ⟨el, sz, L, H, M, h1, h2, h3, h4, h5, h6, h7, h8, h9, h10, h'⟩⟩
  · obtain ⟨len, el, h1, h2, h3, h4, h5, h6, h7, h8⟩ := h
    exact ⟨_, h8, fun K' h' => ⟨len, el, h1, h2, h3, h4, h5, h6, h7, h'⟩⟩
  · obtain ⟨el, sz, h1, h2, h3, h4, h5, h6⟩ := h
    exact ⟨_, h6, fun K' h' => ⟨el, sz, h1, h2, h3, h4, h5, h'⟩⟩
  · exact h.elim

theorem OneV.grow {V : (AV → Prop) → Prop} (h : OneV V) {σ : AH} {K : AV → AH → Prop} (hv : V fun v => K v σ) : V fun v => σ.le σ ∧ K v σ := by
  obtain ⟨v, h1, h2⟩ := h _ hv
  exact h2 _ ⟨AH.le_refl _, h1⟩

theorem vop_grow {P : Program} {owns : List Tmp} {o : Oper} {α : Tm} {σ : AH} {K : AV → AH → Prop} (hg : growing o = true) (h : vop P owns o α σ K) : vop P owns o α σ fun v σ' => σ.le σ' ∧ K v σ' := by
  have hr := AH.le_refl σ
  have hs : ∀ {id : Nat} (b : AB), σ id = none → σ.le (σ.set id b) := fun b hid => AH.le_set b hid (AH.le_refl σ)
  obtain ⟨dst, op, type, pos, after, guard⟩ := o
  cases op <;> simp only [vop, growing] at h hg ⊢ <;> try exact h.elim
  case move => exact ⟨hr, h⟩
  case assign => exact ⟨hr, h⟩
  case pick => obtain ⟨t, h1, h2⟩ := h; exact ⟨t, h1, hr, h2⟩
  case alloc => obtain ⟨cs, h1, h2⟩ := h; exact ⟨cs, h1, fun id hid => ⟨hs _ hid, h2 id hid⟩⟩
  case box =>
    obtain ⟨h1, h7⟩ := h
    refine ⟨h1, ?_⟩
    split at h7
    · rename_i hc
      rw [if_pos hc]
      exact fun id hid => ⟨hs _ hid, h7 id hid⟩
    · rename_i hc
      rw [if_neg hc]
      exact ⟨hr, h7⟩
  case build => obtain ⟨place, zs, cs, h1, h2, h3, h4⟩ := h; exact ⟨place, zs, cs, h1, h2, h3, hr, h4⟩
  case buildSlice =>
    obtain ⟨el, zs, es, h1, h2, h3, h4, h5, h6, h7⟩ := h
    refine ⟨el, zs, es, h1, h2, h3, h4, h5, h6, ?_⟩
    split at h7
    · rename_i hc
      rw [if_pos hc]
      exact fun id hid => ⟨hs _ hid, h7 id hid⟩
    · rename_i hc
      rw [if_neg hc]
      exact ⟨hr, h7⟩
  case load => obtain ⟨v, h1, h2⟩ := h; exact ⟨v, h1, hr, h2⟩
  case store => simp at hg
  case nilCheck => exact ⟨h.1, hr, h.2⟩
  case binOp => exact (vbin_one _ _ _ _ _ _ _).grow h
  case unOp => exact (vun_one _ _).grow h
  case convert => obtain ⟨h0, k, k', n, h1, h2, h3⟩ := h; exact ⟨h0, k, k', n, h1, h2, hr, h3⟩
  case makeFunc fn first caps =>
    cases fn <;> simp only at h ⊢ <;> try exact h.elim
    exact ⟨h.1, hr, h.2⟩
  case makeMap t r =>
    cases r <;> simp only at h ⊢ <;> try exact h.elim
    obtain ⟨kl, h1, h2⟩ := h; exact ⟨kl, h1, fun id hid => ⟨hs _ hid, h2 id hid⟩⟩
  case makeSlice =>
    obtain ⟨el, zs, by_, kl, kc, l', c', h1, h2, h3, h4, h5, h6, h7, h8, h9, h10, h11⟩ := h
    exact ⟨el, zs, by_, kl, kc, l', c', h1, h2, h3, h4, h5, h6, h7, h8, h9, h10, fun id hid => ⟨hs _ hid, h11 id hid⟩⟩
  case slice => exact (vslice_one _ _ _ _ _ _).grow h
  case fieldAddr => obtain ⟨h0, off, h1, h2⟩ := h; exact ⟨h0, off, h1, hr, h2⟩
  case indexAddr => obtain ⟨k, i, h1, h2, h3⟩ := h; exact ⟨k, i, h1, h2, (vidx_one _ _ _ _).grow h3⟩
  case index => obtain ⟨k, i', cs, len, el, c, h1, h2, h3, h4, h5, h6, h7, h8, h9⟩ := h; exact ⟨k, i', cs, len, el, c, h1, h2, h3, h4, h5, h6, h7, h8, hr, h9⟩
  case field => obtain ⟨cs, off, c, h1, h2, h3, h4⟩ := h; exact ⟨cs, off, c, h1, h2, h3, hr, h4⟩
  case lookup =>
    obtain ⟨id, f, kl, ks, kt, e, z, h1, h2, h3, h4, h5, h6, h7, h9⟩ := h
    exact ⟨id, f, kl, ks, kt, e, z, h1, h2, h3, h4, h5, h6, h7, hr, h9⟩
  case mapUpdate => simp at hg
  case insert => simp at hg
  case extract => obtain ⟨vs, v, h1, h2, h3⟩ := h; exact ⟨vs, v, h1, h2, hr, h3⟩
  case call c => exact vcall_grow hg h

/-! ### An operation that leaves the heap alone -/
def vopQ (P : Program) (owns : List Tmp) (o : Oper) (α : Tm) (σ : AH) (K : AV → Prop) : Prop :=
  match o.op with
  | .call c => match c.callee with
    | .value f => match ev α f with
      | .fn g caps => ∃ v, AC P g (c.args.toList.map (ev α) ++ caps) σ (fun r σ' => r = v ∧ σ' = σ) ∧ K v
      | _ => False
    | .builtin .append => False
    | _ => vcall P c o.type α σ fun v _ => K v
  | .store .. | .alloc .. | .mapUpdate .. | .insert .. | .makeSlice .. | .makeMap .. => False
  | .buildSlice .. | .box .. => o.dst.any owns.contains = false ∧ vop P owns o α σ fun v _ => K v
  | _ => vop P owns o α σ fun v _ => K v

theorem ptCells_le {σ τ : AH} (hle : σ.le τ) {p : AV} {cs : List AV} (h : ptCells σ p = some cs) : ptCells τ p = some cs := by
  unfold ptCells at *
  split at h
  · rename_i id off
    cases hs : σ id with
    | none => simp [hs] at h
    | some b => rw [AH.le_some hle (by simp [hs]), hs]; rw [hs] at h; exact h
  · rename_i id n sz i off
    cases hs : σ id with
    | none => simp [hs] at h
    | some b => rw [AH.le_some hle (by simp [hs]), hs]; rw [hs] at h; exact h
  · exact h
  · cases h
theorem aload_le {P : Program} {σ τ : AH} (hle : σ.le τ) {t : TypeId} {p v : AV} (h : aload P σ t p = some v) : aload P τ t p = some v := by
  unfold aload at *
  cases hp : ptCells σ p with
  | none => simp [hp] at h
  | some cs => rw [ptCells_le hle hp]; rw [hp] at h; exact h

theorem vopQ_spec {P : Program} {owns : List Tmp} {o : Oper} {α : Tm} {σ : AH} {K : AV → Prop} (h : vopQ P owns o α σ K) : ∃ v, K v ∧ ∀ τ, σ.le τ → ∀ K' : AV → AH → Prop, K' v τ → vop P owns o α τ K' := by
  obtain ⟨dst, op, type, pos, after, guard⟩ := o
  cases op <;> simp only [vopQ, vop] at h ⊢ <;> try exact h.elim
  case move => exact ⟨_, h, fun τ _ K' h' => h'⟩
  case assign => exact ⟨_, h, fun τ _ K' h' => h'⟩
  case pick => obtain ⟨t, h1, h2⟩ := h; exact ⟨_, h2, fun τ _ K' h' => ⟨t, h1, h'⟩⟩
  case build => obtain ⟨place, zs, cs, h1, h2, h3, h4⟩ := h; exact ⟨_, h4, fun τ _ K' h' => ⟨place, zs, cs, h1, h2, h3, h'⟩⟩
  case buildSlice =>
    obtain ⟨hd, el, zs, es, h1, h2, h3, h4, h5, h6, h7⟩ := h
    simp only [hd, Bool.false_eq_true, if_false] at h7 ⊢
    exact ⟨_, h7, fun τ _ K' h' => ⟨el, zs, es, h1, h2, h3, h4, h5, h6, h'⟩⟩
  case box =>
    obtain ⟨hd, h1, h7⟩ := h
    simp only [hd, Bool.false_eq_true, if_false] at h7 ⊢
    exact ⟨_, h7, fun τ _ K' h' => ⟨h1, h'⟩⟩
  case load => obtain ⟨v, h1, h2⟩ := h; exact ⟨_, h2, fun τ hle K' h' => ⟨v, aload_le hle h1, h'⟩⟩
  case nilCheck => exact ⟨_, h.2, fun τ _ K' h' => ⟨h.1, h'⟩⟩
  case binOp =>
    obtain ⟨v, h1, h2⟩ := vbin_one _ _ _ _ _ _ _ _ h
    exact ⟨v, h1, fun τ _ K' h' => h2 _ h'⟩
  case unOp =>
    obtain ⟨v, h1, h2⟩ := vun_one _ _ _ h
    exact ⟨v, h1, fun τ _ K' h' => h2 _ h'⟩
  case convert => obtain ⟨h0, k, k', n, h1, h2, h3⟩ := h; exact ⟨_, h3, fun τ _ K' h' => ⟨h0, k, k', n, h1, h2, h'⟩⟩
  case makeFunc fn first caps =>
    cases fn <;> simp only at h ⊢ <;> try exact h.elim
    exact ⟨_, h.2, fun τ _ K' h' => ⟨h.1, h'⟩⟩
  case slice =>
    obtain ⟨v, h1, h2⟩ := vslice_one _ _ _ _ _ _ _ h
    exact ⟨v, h1, fun τ _ K' h' => h2 _ h'⟩
  case fieldAddr => obtain ⟨h0, off, h1, h2⟩ := h; exact ⟨_, h2, fun τ _ K' h' => ⟨h0, off, h1, h'⟩⟩
  case indexAddr =>
    obtain ⟨k, i, h1, h2, h3⟩ := h
    obtain ⟨v, h4, h5⟩ := vidx_one _ _ _ _ _ h3
    exact ⟨v, h4, fun τ _ K' h' => ⟨k, i, h1, h2, h5 _ h'⟩⟩
  case index => obtain ⟨k, i', cs, len, el, c, h1, h2, h3, h4, h5, h6, h7, h8, h9⟩ := h; exact ⟨_, h9, fun τ _ K' h' => ⟨k, i', cs, len, el, c, h1, h2, h3, h4, h5, h6, h7, h8, h'⟩⟩
  case field => obtain ⟨cs, off, c, h1, h2, h3, h4⟩ := h; exact ⟨_, h4, fun τ _ K' h' => ⟨cs, off, c, h1, h2, h3, h'⟩⟩
  case lookup =>
    obtain ⟨id, f, kl, ks, kt, e, z, h1, h2, h3, h4, h5, h6, h7, h9⟩ := h
    exact ⟨_, h9, fun τ hle K' h' => ⟨id, f, kl, ks, kt, e, z, h1, (AH.le_some hle (by simp [h2])).trans h2, h3, h4, h5, h6, h7, h'⟩⟩
  case extract => obtain ⟨vs, v, h1, h2, h3⟩ := h; exact ⟨_, h3, fun τ _ K' h' => ⟨vs, v, h1, h2, h'⟩⟩
  case call c =>
    unfold vcall at *
    cases hc : c.callee with
    | value f =>
      simp only [hc] at h ⊢
      cases hf : ev α f <;> simp only [hf] at h ⊢ <;> try exact h.elim
      obtain ⟨v, h1, h2⟩ := h
      exact ⟨v, h2, fun τ hle K' h' => h1.frameQ hle h'⟩
    | invoke r m => simp only [hc] at h
    | builtin b =>
      cases b <;> simp only [hc] at h ⊢ <;> try exact h.elim
      case len =>
        rcases hl : c.args.toList with _ | ⟨x, _ | ⟨y, r⟩⟩ <;> rw [hl] at h <;> try exact h.elim
        rcases ht : c.argTypes.toList with _ | ⟨t, _ | ⟨t', r'⟩⟩ <;> rw [ht] at h <;> try exact h.elim
        obtain ⟨h1, n, h2, h3⟩ := h
        exact ⟨_, h3, fun τ _ K' h' => ⟨h1, n, h2, h'⟩⟩
      case max => obtain ⟨v, h1, h2⟩ := h; exact ⟨v, h2, fun τ _ K' h' => ⟨v, h1, h'⟩⟩
      case min => obtain ⟨v, h1, h2⟩ := h; exact ⟨v, h2, fun τ _ K' h' => ⟨v, h1, h'⟩⟩

end Go.Proofs.Ytdimikmgkdcglaa
