/- What operations ask, in a form that is worked out from the front. No conditions. -/
import Derived.Test.YtdimikmgkdcglaaC1
set_option linter.unusedVariables false
set_option linter.unusedSimpArgs false
namespace Go.Proofs.Ytdimikmgkdcglaa
open Go.RowKit

/-- If there is one. -/
def opt {α : Type} (x : Option α) (K : α → Prop) : Prop := match x with
  | some v => K v
  | none => False
theorem opt_some {α : Type} (v : α) (K : α → Prop) : opt (some v) K = K v := rfl
theorem opt_ex {α : Type} {x : Option α} {K : α → Prop} (h : opt x K) : ∃ v, x = some v ∧ K v := by
  cases x with
  | none => exact h.elim
  | some v => exact ⟨v, rfl, h⟩
@[congr] theorem opt_congr' {α : Type} {x x' : Option α} {K : α → Prop} (h : x = x') : opt x K = opt x' K := by rw [h]

def avI : AV → Option (IntKind × Int)
  | .sc (.int k n) => some (k, n)
  | _ => none
def avB : AV → Option Bool
  | .sc (.bool b) => some b
  | _ => none
def avM : AV → Option Nat
  | .mp id => some id
  | _ => none
def avA : AV → Option (List AV)
  | .ag cs => some cs
  | _ => none
def avT : AV → Option (List AV)
  | .tu cs => some cs
  | _ => none
def abMap : Option AB → Option ((List Int → Option AV) × Nat)
  | some (.map f kl) => some (f, kl)
  | _ => none
def abRow : Option AB → Option (List (List AV) × Nat × TypeId × Nat)
  | some (.row es sz t st) => some (es, sz, t, st)
  | _ => none
theorem avI_spec {x : AV} {p : IntKind × Int} (h : avI x = some p) : x = .sc (.int p.1 p.2) := by
  unfold avI at h; split at h <;> simp at h; subst h; rfl
theorem avB_spec {x : AV} {b : Bool} (h : avB x = some b) : x = .sc (.bool b) := by
  unfold avB at h; split at h <;> simp at h; subst h; rfl
theorem avM_spec {x : AV} {b : Nat} (h : avM x = some b) : x = .mp b := by
  unfold avM at h; split at h <;> simp at h; subst h; rfl
theorem avA_spec {x : AV} {b : List AV} (h : avA x = some b) : x = .ag b := by
  unfold avA at h; split at h <;> simp at h; subst h; rfl
theorem avT_spec {x : AV} {b : List AV} (h : avT x = some b) : x = .tu b := by
  unfold avT at h; split at h <;> simp at h; subst h; rfl
theorem abMap_spec {x : Option AB} {p : (List Int → Option AV) × Nat} (h : abMap x = some p) : x = some (.map p.1 p.2) := by
  unfold abMap at h; split at h <;> simp at h; subst h; rfl
theorem abRow_spec {x : Option AB} {p : List (List AV) × Nat × TypeId × Nat} (h : abRow x = some p) : x = some (.row p.1 p.2.1 p.2.2.1 p.2.2.2) := by
  unfold abRow at h; split at h <;> simp at h; subst h; rfl

def dcall (P : Program) (c : Call) (ty : TypeId) (α : Tm) (σ : AH) (K : AV → AH → Prop) : Prop :=
  match c.callee with
  | .builtin .len => match c.args.toList, c.argTypes.toList with
    | [x], [t] => (tslice P t).isSome = true ∧ opt (slen (ev α x)) fun n => K (.sc (.int .i64 n)) σ
    | _, _ => False
  | .builtin .max => opt (vmax true (c.args.toList.map (ev α))) fun v => K v σ
  | .builtin .min => opt (vmax false (c.args.toList.map (ev α))) fun v => K v σ
  | .builtin .append => match c.args.toList, c.argTypes.toList with
    | [s, x], [t, t'] => t' = t ∧ opt (tslice P t) fun el => opt (tsz P el) fun sz => opt (tbytes P el) fun by_ => opt (tzero P el) fun z => z.cells.size = sz ∧ opt (rdS σ (ev α x)) fun src => (∀ e ∈ src, e.length = sz) ∧
        (match ev α s with
        | .sc (.slice none 0 0) => if src = [] then K nilS σ else src.length * by_ ≤ 140737488355328 ∧ src.length ≤ 140737488355328 ∧ ∀ id, σ id = none → K (.sl id src.length) (σ.set id (.row src sz el 0))
        | .sl id n => opt (abRow (σ id)) fun p => p.2.1 = sz ∧ p.2.2.1 = el ∧ n = p.1.length ∧ (n + src.length) * by_ ≤ 140737488355328 ∧ n + src.length ≤ 140737488355328 ∧ K (.sl id (n + src.length)) (σ.set id (.row (p.1 ++ src) sz el p.2.2.2))
        | _ => False)
    | _, _ => False
  | .value f => match ev α f with
    | .fn g caps => AC P g (c.args.toList.map (ev α) ++ caps) σ K
    | .yl id => YC P id (c.args.toList.map (ev α)) σ K
    | _ => False
  | _ => False

theorem dcall_ok {P : Program} {c : Call} {ty : TypeId} {α : Tm} {σ : AH} {K : AV → AH → Prop} (h : dcall P c ty α σ K) : vcall P c ty α σ K := by
  unfold dcall at h
  unfold vcall
  cases hc : c.callee with
  | value f => simp only [hc] at h ⊢; exact h
  | invoke r m => simp only [hc] at h
  | builtin b =>
    cases b <;> simp only [hc] at h ⊢ <;> try exact h.elim
    case append =>
      rcases hl : c.args.toList with _ | ⟨x, _ | ⟨y, _ | ⟨z, r⟩⟩⟩ <;> rw [hl] at h <;> try exact h.elim
      rcases ht : c.argTypes.toList with _ | ⟨t, _ | ⟨t', _ | ⟨t'', r'⟩⟩⟩ <;> rw [ht] at h <;> try exact h.elim
      dsimp only at h ⊢
      obtain ⟨h0, h⟩ := h
      obtain ⟨el, h1, h⟩ := opt_ex h
      obtain ⟨sz, h2, h⟩ := opt_ex h
      obtain ⟨by_, h3, h⟩ := opt_ex h
      obtain ⟨z, h4, h5, h⟩ := opt_ex h
      obtain ⟨src, h6, h7, h⟩ := opt_ex h
      refine ⟨h0, el, sz, by_, z, src, h1, h2, h3, h4, h5, h6, h7, ?_⟩
      split at h
      · rename_i heq; rw [heq]; exact h
      · rename_i heq
        rw [heq]
        obtain ⟨⟨es, sz', el', st⟩, q1, q2, q3, q4, q5, q6, q7⟩ := opt_ex h
        exact ⟨es, sz', el', st, abRow_spec q1, q2, q3, q4, q5, q6, q7⟩
      · exact h.elim
    case len =>
      rcases hl : c.args.toList with _ | ⟨x, _ | ⟨y, r⟩⟩ <;> rw [hl] at h <;> try exact h.elim
      rcases ht : c.argTypes.toList with _ | ⟨t, _ | ⟨t', r'⟩⟩ <;> rw [ht] at h <;> try exact h.elim
      obtain ⟨h1, h⟩ := h
      obtain ⟨n, h2, h3⟩ := opt_ex h
      exact ⟨h1, n, h2, h3⟩
    case max => obtain ⟨v, h1, h2⟩ := opt_ex h; exact ⟨v, h1, h2⟩
    case min => obtain ⟨v, h1, h2⟩ := opt_ex h; exact ⟨v, h1, h2⟩

def didx (P : Program) (t : TypeId) (x : AV) (i : Int) (K : AV → Prop) : Prop :=
  match x with
  | .ro es => opt es[i.toNat]? fun e => (tslice P t).bind (tsz P) = some e.length ∧ K (.pr e 0)
  | .sl id n => opt ((tslice P t).bind (tsz P)) fun sz => i < n ∧ K (.pe id n sz i.toNat 0)
  | p => p.isPtr = true ∧ opt (tarray P t) fun q => opt (tsz P q.2) fun sz => i < q.1 ∧ K (p.plus (i.toNat * sz))
theorem didx_ok {P : Program} {t : TypeId} {x : AV} {i : Int} {K : AV → Prop} (h : didx P t x i K) : vidx P t x i K := by
  unfold didx at h
  unfold vidx
  split at h
  · obtain ⟨e, h1, h2, h3⟩ := opt_ex h
    cases hs : tslice P t with
    | none => simp [hs] at h2
    | some el => exact ⟨e, el, h1, rfl, by simpa [hs] using h2, h3⟩
  · obtain ⟨sz, h1, h2, h3⟩ := opt_ex h
    cases hs : tslice P t with
    | none => simp [hs] at h1
    | some el => exact ⟨el, sz, rfl, by simpa [hs] using h1, h2, h3⟩
  · rename_i p h8 h9
    obtain ⟨h0, h⟩ := h
    obtain ⟨⟨len, el⟩, h1, h⟩ := opt_ex h
    obtain ⟨sz, h2, h3, h4⟩ := opt_ex h
    have hm : ∃ len el sz, tarray P t = some (len, el) ∧ tsz P el = some sz ∧ i < len ∧ K (x.plus (i.toNat * sz)) := ⟨len, el, sz, h1, h2, h3, h4⟩
    cases x <;> first | exact ⟨h0, hm⟩ | exact absurd rfl (p _) | exact absurd rfl (h8 _) | exact absurd rfl (h9 _ _) | exact absurd rfl (h8 _ _)

def dslice (P : Program) (t : TypeId) (x : AV) (lo hi mx : Option AV) (K : AV → Prop) : Prop :=
  match x with
  | .ro es => opt ((tslice P t).bind (tsz P)) fun sz => (∀ e ∈ es, e.length = sz) ∧ opt (bound 0 lo) fun L => opt (bound es.length hi) fun H => opt (bound es.length mx) fun M =>
      (mx.isSome = true → hi.isSome = true) ∧ L ≤ H ∧ H ≤ M ∧ M ≤ es.length ∧ K (.ro ((es.take H).drop L))
  | .pr cs off => opt (tarray P t) fun q => tsz P q.2 = some 1 ∧ lo = none ∧ hi = none ∧ mx = none ∧ 0 < q.1 ∧ off + q.1 ≤ cs.length ∧ K (.ro (((cs.drop off).take q.1).map fun c => [c]))
  | .sc (.slice none 0 0) => ((tslice P t).bind (tsz P)).isSome = true ∧ mx = none ∧ bound 0 lo = some 0 ∧ bound 0 hi = some 0 ∧ K nilS
  | _ => False
theorem dslice_ok {P : Program} {t : TypeId} {x : AV} {lo hi mx : Option AV} {K : AV → Prop} (h : dslice P t x lo hi mx K) : vslice P t x lo hi mx K := by
  unfold dslice at h
  unfold vslice
  split at h
  · obtain ⟨sz, h1, h2, h⟩ := opt_ex h
    obtain ⟨L, h3, h⟩ := opt_ex h
    obtain ⟨H, h4, h⟩ := opt_ex h
    obtain ⟨M, h5, h6, h7, h8, h9, h10⟩ := opt_ex h
    cases hs : tslice P t with
    | none => simp [hs] at h1
    | some el => exact ⟨el, sz, L, H, M, rfl, by simpa [hs] using h1, h2, h3, h4, h5, h6, h7, h8, h9, h10⟩
  · obtain ⟨⟨len, el⟩, h1, h2, h3, h4, h5, h6, h7, h8⟩ := opt_ex h
    exact ⟨len, el, h1, h2, h3, h4, h5, h6, h7, h8⟩
  · obtain ⟨h1, h2, h3, h4, h5⟩ := h
    cases hs : tslice P t with
    | none => simp [hs] at h1
    | some el =>
      obtain ⟨sz, hsz⟩ := Option.isSome_iff_exists.1 h1
      exact ⟨el, sz, rfl, by simpa [hs] using hsz, h2, h3, h4, h5⟩
  · exact h.elim

def dop (P : Program) (owns : List Tmp) (o : Oper) (α : Tm) (σ : AH) (K : AV → AH → Prop) : Prop :=
  match o.op with
  | .move x | .assign x => K (ev α x) σ
  | .pick c a b => opt (avB (ev α c)) fun t => K (if t then ev α a else ev α b) σ
  | .alloc t => opt (zcells P t) fun cs => ∀ id, σ id = none → K (.pt id 0) (σ.set id (.box cs t))
  | .box t x => AV.allOne (ev α x).cells = true ∧ (if o.dst.any owns.contains then ∀ id, σ id = none → K (.pt id 0) (σ.set id (.box (ev α x).cells t)) else K (.pr (ev α x).cells 0) σ)
  | .build t parts => opt (tplaces P t) fun place => opt (zcells P t) fun zs => opt (afill place zs (parts.toList.map fun p => (p.1, ev α p.2))) fun cs => K (.ag cs) σ
  | .buildSlice t len parts => opt (tslice P t) fun el => opt (zcells P el) fun zs => tsz P el = some zs.length ∧ len * zs.length ≤ 16777216 ∧ len ≤ 16777216 ∧
      opt (asfill zs.length (List.replicate len zs) (parts.toList.map fun p => (p.1, ev α p.2))) fun es =>
      (if o.dst.any owns.contains then ∀ id, σ id = none → K (.sl id len) (σ.set id (.row es zs.length el 0)) else K (.ro es) σ)
  | .load t x => opt (aload P σ t (ev α x)) fun v => K v σ
  | .store t x v => opt (astore P σ t (ev α x) (ev α v)) fun σ' => K .un σ'
  | .nilCheck x => (ev α x).isPtr = true ∧ K (ev α x) σ
  | .binOp op t x y _ => vbin P op t x y (ev α x) (ev α y) fun v => K v σ
  | .unOp op _ x => vun op (ev α x) fun v => K v σ
  | .convert src dst x => hasU P src = true ∧ opt (tint P dst) fun k => opt (avI (ev α x)) fun p => K (.sc (.int k (k.wrap p.2))) σ
  | .makeFunc (.func f) first caps => first.toList = [] ∧ K (.fn f (caps.toList.map (ev α))) σ
  | .makeMap t none => opt (tkl P t) fun kl => ∀ id, σ id = none → K (.mp id) (σ.set id (.map (fun _ => none) kl))
  | .makeSlice t l c => opt (tslice P t) fun el => opt (zcells P el) fun zs => tsz P el = some zs.length ∧ opt (tbytes P el) fun by_ => opt (avI (ev α l)) fun l' => opt (avI (ev α c)) fun c' =>
      0 ≤ l'.2 ∧ l'.2 ≤ c'.2 ∧ (by_ : Int) * c'.2 ≤ 281474976710656 ∧ c'.2 ≤ 281474976710656 ∧ ∀ id, σ id = none → K (.sl id l'.2.toNat) (σ.set id (.row (List.replicate l'.2.toNat zs) zs.length el 0))
  | .slice t x lo hi mx => dslice P t (ev α x) (lo.map (ev α)) (hi.map (ev α)) (mx.map (ev α)) fun v => K v σ
  | .fieldAddr s x f => (ev α x).isPtr = true ∧ opt (tfield P s f) fun off => K ((ev α x).plus off) σ
  | .indexAddr t x i => opt (avI (ev α i)) fun p => 0 ≤ p.2 ∧ didx P t (ev α x) p.2 fun v => K v σ
  | .index t x i => opt (avI (ev α i)) fun p => 0 ≤ p.2 ∧ opt (avA (ev α x)) fun cs => opt (tarray P t) fun q => p.2 < q.1 ∧ tsz P q.2 = some 1 ∧ tagg P q.2 = some false ∧ opt cs[p.2.toNat]? fun c => K c σ
  | .field t x f => opt (avA (ev α x)) fun cs => opt (tfld P t f) fun q => q.2 = false ∧ opt cs[q.1]? fun c => K c σ
  | .lookup t m k ok => opt (avM (ev α m)) fun id => opt (abMap (σ id)) fun p => opt (akey (ev α k)) fun ks => ks.length = p.2 ∧ opt (tmap P t) fun q => KeyOps P q.1 p.2 ∧ opt (azero P q.2) fun z =>
      K (if ok = true then .tu [(p.1 ks).getD z, .sc (.bool (p.1 ks).isSome)] else (p.1 ks).getD z) σ
  | .mapUpdate t m k x | .insert t m k x => opt (avM (ev α m)) fun id => opt (abMap (σ id)) fun p => opt (akey (ev α k)) fun ks => ks.length = p.2 ∧ opt (tmap P t) fun q => KeyOps P q.1 p.2 ∧ K .un (σ.set id (.map (mupd p.1 ks (ev α x)) p.2))
  | .extract x i => opt (avT (ev α x)) fun vs => opt vs[i]? fun v => K v σ
  | .call c => dcall P c o.type α σ K
  | _ => False

theorem dop_ok {P : Program} {owns : List Tmp} {o : Oper} {α : Tm} {σ : AH} {K : AV → AH → Prop} (h : dop P owns o α σ K) : vop P owns o α σ K := by
  obtain ⟨dst, op, type, pos, after, guard⟩ := o
  cases op <;> simp only [dop] at h <;> simp only [vop] <;> try exact h.elim
  case move => exact h
  case assign => exact h
  case pick => obtain ⟨t, h1, h2⟩ := opt_ex h; exact ⟨t, avB_spec h1, h2⟩
  case alloc => obtain ⟨t, h1, h2⟩ := opt_ex h; exact ⟨t, h1, h2⟩
  case box => exact h
  case build =>
    obtain ⟨pl, h1, h⟩ := opt_ex h
    obtain ⟨zs, h2, h⟩ := opt_ex h
    obtain ⟨cs, h3, h⟩ := opt_ex h
    exact ⟨pl, zs, cs, h1, h2, h3, h⟩
  case buildSlice =>
    obtain ⟨el, h1, h⟩ := opt_ex h
    obtain ⟨zs, h2, h3, h4, h5, h⟩ := opt_ex h
    obtain ⟨es, h6, h⟩ := opt_ex h
    exact ⟨el, zs, es, h1, h2, h3, h4, h5, h6, h⟩
  case load => obtain ⟨t, h1, h2⟩ := opt_ex h; exact ⟨t, h1, h2⟩
  case store => obtain ⟨t, h1, h2⟩ := opt_ex h; exact ⟨t, h1, h2⟩
  case nilCheck => exact h
  case binOp => exact h
  case unOp => exact h
  case convert =>
    obtain ⟨h0, h⟩ := h
    obtain ⟨k, h1, h⟩ := opt_ex h
    obtain ⟨⟨k', n⟩, h2, h⟩ := opt_ex h
    exact ⟨h0, k, k', n, h1, avI_spec h2, h⟩
  case makeFunc fn first caps =>
    cases fn <;> simp only at h ⊢ <;> try exact h.elim
    exact h
  case makeMap t r =>
    cases r <;> simp only at h ⊢ <;> try exact h.elim
    obtain ⟨t, h1, h2⟩ := opt_ex h; exact ⟨t, h1, h2⟩
  case makeSlice =>
    obtain ⟨el, h1, h⟩ := opt_ex h
    obtain ⟨zs, h2, h3, h⟩ := opt_ex h
    obtain ⟨by_, h4, h⟩ := opt_ex h
    obtain ⟨⟨kl, l'⟩, h5, h⟩ := opt_ex h
    obtain ⟨⟨kc, c'⟩, h6, h⟩ := opt_ex h
    exact ⟨el, zs, by_, kl, kc, l', c', h1, h2, h3, h4, avI_spec h5, avI_spec h6, h⟩
  case slice => exact dslice_ok h
  case fieldAddr =>
    obtain ⟨h0, h⟩ := h
    obtain ⟨off, h1, h⟩ := opt_ex h
    exact ⟨h0, off, h1, h⟩
  case indexAddr =>
    obtain ⟨⟨k, i⟩, h1, h2, h⟩ := opt_ex h
    exact ⟨k, i, avI_spec h1, h2, didx_ok h⟩
  case index =>
    obtain ⟨⟨k, i⟩, h1, h2, h⟩ := opt_ex h
    obtain ⟨cs, h3, h⟩ := opt_ex h
    obtain ⟨⟨len, el⟩, h4, h5, h6, h7, h⟩ := opt_ex h
    obtain ⟨c, h8, h⟩ := opt_ex h
    exact ⟨k, i, cs, len, el, c, avI_spec h1, h2, avA_spec h3, h4, h5, h6, h7, h8, h⟩
  case field =>
    obtain ⟨cs, h1, h⟩ := opt_ex h
    obtain ⟨⟨off, g⟩, h2, h3, h⟩ := opt_ex h
    dsimp only at h3 h
    obtain ⟨c, h4, h⟩ := opt_ex h
    subst h3
    exact ⟨cs, off, c, avA_spec h1, h2, h4, h⟩
  case lookup =>
    obtain ⟨id, h1, h⟩ := opt_ex h
    obtain ⟨⟨f, kl⟩, h2, h⟩ := opt_ex h
    obtain ⟨ks, h3, h4, h⟩ := opt_ex h
    obtain ⟨⟨kt, e⟩, h5, h6, h⟩ := opt_ex h
    obtain ⟨z, h7, h⟩ := opt_ex h
    exact ⟨id, f, kl, ks, kt, e, z, avM_spec h1, abMap_spec h2, h3, h4, h5, h6, h7, h⟩
  case mapUpdate =>
    obtain ⟨id, h1, h⟩ := opt_ex h
    obtain ⟨⟨f, kl⟩, h2, h⟩ := opt_ex h
    obtain ⟨ks, h3, h4, h⟩ := opt_ex h
    obtain ⟨⟨kt, e⟩, h5, h6, h⟩ := opt_ex h
    exact ⟨id, f, kl, ks, kt, e, avM_spec h1, abMap_spec h2, h3, h4, h5, h6, h⟩
  case insert =>
    obtain ⟨id, h1, h⟩ := opt_ex h
    obtain ⟨⟨f, kl⟩, h2, h⟩ := opt_ex h
    obtain ⟨ks, h3, h4, h⟩ := opt_ex h
    obtain ⟨⟨kt, e⟩, h5, h6, h⟩ := opt_ex h
    exact ⟨id, f, kl, ks, kt, e, avM_spec h1, abMap_spec h2, h3, h4, h5, h6, h⟩
  case extract =>
    obtain ⟨vs, h1, h⟩ := opt_ex h
    obtain ⟨v, h2, h⟩ := opt_ex h
    exact ⟨vs, v, avT_spec h1, h2, h⟩
  case call c => exact dcall_ok h

/-! ### What an operation comes to -/
inductive Res where
  | val (v : AV) (σ : AH)
  | req (c : Prop) (r : Res)
  | newB (cs : List AV) (t : TypeId)
  | newR (n : Nat) (es : List (List AV)) (sz : Nat) (t : TypeId)
  | newM (kl : Nat)
  | call (g : FuncId) (args : List AV)
  | yld (id : Nat) (args : List AV)
  | hard (p : (AV → AH → Prop) → Prop)
  | stuck
def Res.run (P : Program) (σ : AH) (K : AV → AH → Prop) : Res → Prop
  | .val v σ' => K v σ'
  | .req c r => c ∧ r.run P σ K
  | .newB cs t => ∀ id, σ id = none → K (.pt id 0) (σ.set id (.box cs t))
  | .newR n es sz t => ∀ id, σ id = none → K (.sl id n) (σ.set id (.row es sz t 0))
  | .newM kl => ∀ id, σ id = none → K (.mp id) (σ.set id (.map (fun _ => none) kl))
  | .call g args => AC P g args σ K
  | .yld id args => YC P id args σ K
  | .hard p => p K
  | .stuck => False
/-- If there is one. -/
def ifS {α : Type} (x : Option α) (f : α → Res) : Res := match x with
  | some v => f v
  | none => .stuck
theorem ifS_some {α : Type} (v : α) (f : α → Res) : ifS (some v) f = f v := rfl
theorem ifS_run {α : Type} {x : Option α} {f : α → Res} {P : Program} {σ : AH} {K : AV → AH → Prop} (h : (ifS x f).run P σ K) : opt x fun v => (f v).run P σ K := by
  cases x with
  | none => exact h
  | some v => exact h

def rbin (P : Program) (op : BinOp) (t : TypeId) (xo yo : Operand) (σ : AH) : AV → AV → Res
  | .sc (.int k a), .sc (.int k' b) => match op with
    | .add => .req (k = k') (.val (.sc (.int k (k.wrap (a + b)))) σ)
    | .sub => .req (k = k') (.val (.sc (.int k (k.wrap (a - b)))) σ)
    | .mul => .req (k = k') (.val (.sc (.int k (k.wrap (a * b)))) σ)
    | .quo => .req (k = k' ∧ b ≠ 0) (.val (.sc (.int k (k.wrap (a.tdiv b)))) σ)
    | .rem => .req (k = k' ∧ b ≠ 0) (.val (.sc (.int k (a.tmod b))) σ)
    | .and => .req (k = k') (.val (.sc (.int k (k.wrap ((BitVec.ofInt k.bits a &&& BitVec.ofInt k.bits b).toNat : Int)))) σ)
    | .shr => .req (0 ≤ b) (.val (.sc (.int k (a.fdiv (2 ^ min b.toNat k.bits)))) σ)
    | .eql => .req (k = k') (.val (.sc (.bool (a == b))) σ)
    | .neq => .req (k = k') (.val (.sc (.bool (a != b))) σ)
    | .lss => .req (k = k') (.val (.sc (.bool (decide (a < b)))) σ)
    | .leq => .req (k = k') (.val (.sc (.bool (decide (a ≤ b)))) σ)
    | .gtr => .req (k = k') (.val (.sc (.bool (decide (a > b)))) σ)
    | .geq => .req (k = k') (.val (.sc (.bool (decide (a ≥ b)))) σ)
    | _ => .stuck
  | .sc (.bool a), .sc (.bool b) => match op with
    | .eql => .req (P.underlying t = some .bool) (.val (.sc (.bool (a == b))) σ)
    | .neq => .req (P.underlying t = some .bool) (.val (.sc (.bool (!(a == b)))) σ)
    | _ => .stuck
  | x, y => .hard fun K => vbin P op t xo yo x y fun v => K v σ
theorem rbin_ok {P : Program} {op : BinOp} {t : TypeId} {xo yo : Operand} {σ : AH} {x y : AV} {K : AV → AH → Prop} (h : (rbin P op t xo yo σ x y).run P σ K) : vbin P op t xo yo x y fun v => K v σ := by
  unfold rbin at h
  split at h
  · unfold vbin vint
    cases op <;> simp only [Res.run] at h ⊢ <;> first | exact h.elim | exact h | exact ⟨h.1.1, h.1.2, h.2⟩
  · unfold vbin
    cases op <;> simp only [Res.run] at h ⊢ <;> first | exact h.elim | exact h
  · exact h

def run1 (op : UnOp) (σ : AH) : AV → Res
  | .sc (.bool b) => match op with
    | .not => .val (.sc (.bool !b)) σ
    | _ => .stuck
  | .sc (.int k n) => match op with
    | .neg => .val (.sc (.int k (k.wrap (0 - n)))) σ
    | _ => .stuck
  | _ => .stuck
theorem run1_ok {P : Program} {op : UnOp} {σ : AH} {x : AV} {K : AV → AH → Prop} (h : (run1 op σ x).run P σ K) : vun op x fun v => K v σ := by
  unfold run1 at h
  split at h
  · cases op <;> simp only [Res.run] at h <;> first | exact h.elim | exact h
  · cases op <;> simp only [Res.run] at h <;> first | exact h.elim | exact h
  · exact h.elim

def ridx (P : Program) (t : TypeId) (i : Int) (σ : AH) : AV → Res
  | .ro es => ifS es[i.toNat]? fun e => .req ((tslice P t).bind (tsz P) = some e.length) (.val (.pr e 0) σ)
  | .sl id n => ifS ((tslice P t).bind (tsz P)) fun sz => .req (i < n) (.val (.pe id n sz i.toNat 0) σ)
  | p => .req (p.isPtr = true) (ifS (tarray P t) fun q => ifS (tsz P q.2) fun sz => .req (i < q.1) (.val (p.plus (i.toNat * sz)) σ))
theorem ridx_ok {P : Program} {t : TypeId} {x : AV} {i : Int} {σ : AH} {K : AV → AH → Prop} (h : (ridx P t i σ x).run P σ K) : didx P t x i fun v => K v σ := by
  unfold ridx at h
  unfold didx
  split at h
  · exact ifS_run h
  · obtain ⟨sz, h1, h2⟩ := opt_ex (ifS_run h)
    rw [h1]; exact h2
  · rename_i p h8
    have hm : x.isPtr = true ∧ opt (tarray P t) fun q => opt (tsz P q.2) fun sz => i < q.1 ∧ K (x.plus (i.toNat * sz)) σ := by
      refine ⟨h.1, ?_⟩
      obtain ⟨q, h1, h2⟩ := opt_ex (ifS_run h.2)
      obtain ⟨sz, h3, h4⟩ := opt_ex (ifS_run h2)
      rw [h1, opt_some, h3, opt_some]
      exact h4
    cases x <;> first | exact hm | exact absurd rfl (p _) | exact absurd rfl (h8 _ _)

def rslice (P : Program) (t : TypeId) (lo hi mx : Option AV) (σ : AH) : AV → Res
  | .ro es => ifS ((tslice P t).bind (tsz P)) fun sz => .req (∀ e ∈ es, e.length = sz) (ifS (bound 0 lo) fun L => ifS (bound es.length hi) fun H => ifS (bound es.length mx) fun M =>
      .req ((mx.isSome = true → hi.isSome = true) ∧ L ≤ H ∧ H ≤ M ∧ M ≤ es.length) (.val (.ro ((es.take H).drop L)) σ))
  | .pr cs off => ifS (tarray P t) fun q => .req (tsz P q.2 = some 1 ∧ lo = none ∧ hi = none ∧ mx = none ∧ 0 < q.1 ∧ off + q.1 ≤ cs.length) (.val (.ro (((cs.drop off).take q.1).map fun c => [c])) σ)
  | .sc (.slice none 0 0) => .req (((tslice P t).bind (tsz P)).isSome = true ∧ mx = none ∧ bound 0 lo = some 0 ∧ bound 0 hi = some 0) (.val nilS σ)
  | _ => .stuck
theorem rslice_ok {P : Program} {t : TypeId} {x : AV} {lo hi mx : Option AV} {σ : AH} {K : AV → AH → Prop} (h : (rslice P t lo hi mx σ x).run P σ K) : dslice P t x lo hi mx fun v => K v σ := by
  unfold rslice at h
  unfold dslice
  split at h
  · obtain ⟨sz, h1, h2, h⟩ := opt_ex (ifS_run h)
    obtain ⟨L, h3, h⟩ := opt_ex (ifS_run h)
    obtain ⟨H, h4, h⟩ := opt_ex (ifS_run h)
    obtain ⟨M, h5, h6, h⟩ := opt_ex (ifS_run h)
    rw [h1]
    refine ⟨h2, ?_⟩
    rw [h3, opt_some, h4, opt_some, h5, opt_some]
    exact ⟨h6.1, h6.2.1, h6.2.2.1, h6.2.2.2, h⟩
  · obtain ⟨q, h1, h2, h⟩ := opt_ex (ifS_run h)
    rw [h1]
    exact ⟨h2.1, h2.2.1, h2.2.2.1, h2.2.2.2.1, h2.2.2.2.2.1, h2.2.2.2.2.2, h⟩
  · exact ⟨h.1.1, h.1.2.1, h.1.2.2.1, h.1.2.2.2, h.2⟩
  · exact h.elim

def rapp (P : Program) (el : TypeId) (sz by_ : Nat) (src : List (List AV)) (σ : AH) : AV → Res
  | .sc (.slice none 0 0) => match src with
    | [] => .val nilS σ
    | e :: r => .req ((r.length + 1) * by_ ≤ 140737488355328 ∧ r.length + 1 ≤ 140737488355328) (.newR (r.length + 1) (e :: r) sz el)
  | .sl id n => ifS (abRow (σ id)) fun p => .req (p.2.1 = sz ∧ p.2.2.1 = el ∧ n = p.1.length ∧ (n + src.length) * by_ ≤ 140737488355328 ∧ n + src.length ≤ 140737488355328) (.val (.sl id (n + src.length)) (σ.set id (.row (p.1 ++ src) sz el p.2.2.2)))
  | _ => .stuck
def rcall (P : Program) (c : Call) (α : Tm) (σ : AH) : Res :=
  match c.callee with
  | .builtin .len => match c.args.toList, c.argTypes.toList with
    | [x], [t] => .req ((tslice P t).isSome = true) (ifS (slen (ev α x)) fun n => .val (.sc (.int .i64 n)) σ)
    | _, _ => .stuck
  | .builtin .max => ifS (vmax true (c.args.toList.map (ev α))) fun v => .val v σ
  | .builtin .min => ifS (vmax false (c.args.toList.map (ev α))) fun v => .val v σ
  | .builtin .append => match c.args.toList, c.argTypes.toList with
    | [s, x], [t, t'] => .req (t' = t) (ifS (tslice P t) fun el => ifS (tsz P el) fun sz => ifS (tbytes P el) fun by_ => ifS (tzero P el) fun z => .req (z.cells.size = sz) (ifS (rdS σ (ev α x)) fun src => .req (∀ e ∈ src, e.length = sz) (rapp P el sz by_ src σ (ev α s))))
    | _, _ => .stuck
  | .value f => match ev α f with
    | .fn g caps => .call g (c.args.toList.map (ev α) ++ caps)
    | .yl id => .yld id (c.args.toList.map (ev α))
    | _ => .stuck
  | _ => .stuck
theorem rcall_ok {P : Program} {c : Call} {ty : TypeId} {α : Tm} {σ : AH} {K : AV → AH → Prop} (h : (rcall P c α σ).run P σ K) : dcall P c ty α σ K := by
  unfold rcall at h
  unfold dcall
  cases hc : c.callee with
  | value f =>
    simp only [hc] at h ⊢
    cases hf : ev α f <;> simp only [hf] at h ⊢ <;> first | exact h | exact h.elim
  | invoke r m => simp only [hc] at h; exact h.elim
  | builtin b =>
    cases b <;> simp only [hc] at h ⊢ <;> try exact h.elim
    case append =>
      rcases hl : c.args.toList with _ | ⟨x, _ | ⟨y, _ | ⟨z, r⟩⟩⟩ <;> rw [hl] at h <;> try exact h.elim
      rcases ht : c.argTypes.toList with _ | ⟨t, _ | ⟨t', _ | ⟨t'', r'⟩⟩⟩ <;> rw [ht] at h <;> try exact h.elim
      dsimp only at h ⊢
      obtain ⟨h0, h⟩ := h
      obtain ⟨el, h1, h⟩ := opt_ex (ifS_run h)
      obtain ⟨sz, h2, h⟩ := opt_ex (ifS_run h)
      obtain ⟨by_, h3, h⟩ := opt_ex (ifS_run h)
      obtain ⟨z, h4, h5, h⟩ := opt_ex (ifS_run h)
      obtain ⟨src, h6, h7, h⟩ := opt_ex (ifS_run h)
      refine ⟨h0, ?_⟩
      rw [h1, opt_some, h2, opt_some, h3, opt_some, h4, opt_some]
      refine ⟨h5, ?_⟩
      rw [h6, opt_some]
      refine ⟨h7, ?_⟩
      unfold rapp at h
      split at h
      · cases src with
        | nil => simp only [if_true]; exact h
        | cons e r => simp only [List.cons_ne_nil, if_false, List.length_cons]; exact ⟨h.1.1, h.1.2, h.2⟩
      · obtain ⟨p, q1, q2, q3⟩ := opt_ex (ifS_run h)
        rw [q1, opt_some]
        exact ⟨q2.1, q2.2.1, q2.2.2.1, q2.2.2.2.1, q2.2.2.2.2, q3⟩
      · exact h.elim
    case len =>
      rcases hl : c.args.toList with _ | ⟨x, _ | ⟨y, r⟩⟩ <;> rw [hl] at h <;> try exact h.elim
      rcases ht : c.argTypes.toList with _ | ⟨t, _ | ⟨t', r'⟩⟩ <;> rw [ht] at h <;> try exact h.elim
      exact ⟨h.1, ifS_run h.2⟩
    case max => exact ifS_run h
    case min => exact ifS_run h

def oev (P : Program) (owns : List Tmp) (o : Oper) (α : Tm) (σ : AH) : Res :=
  match o.op with
  | .move x | .assign x => .val (ev α x) σ
  | .pick c a b => ifS (avB (ev α c)) fun t => .val (if t then ev α a else ev α b) σ
  | .alloc t => ifS (zcells P t) fun cs => .newB cs t
  | .box t x => .req (AV.allOne (ev α x).cells = true) (if o.dst.any owns.contains then .newB (ev α x).cells t else .val (.pr (ev α x).cells 0) σ)
  | .build t parts => ifS (tplaces P t) fun place => ifS (zcells P t) fun zs => ifS (afill place zs (parts.toList.map fun p => (p.1, ev α p.2))) fun cs => .val (.ag cs) σ
  | .buildSlice t len parts => ifS (tslice P t) fun el => ifS (zcells P el) fun zs => .req (tsz P el = some zs.length ∧ len * zs.length ≤ 16777216 ∧ len ≤ 16777216)
      (ifS (asfill zs.length (List.replicate len zs) (parts.toList.map fun p => (p.1, ev α p.2))) fun es => if o.dst.any owns.contains then .newR len es zs.length el else .val (.ro es) σ)
  | .load t x => ifS (aload P σ t (ev α x)) fun v => .val v σ
  | .store t x v => ifS (astore P σ t (ev α x) (ev α v)) fun σ' => .val .un σ'
  | .nilCheck x => .req ((ev α x).isPtr = true) (.val (ev α x) σ)
  | .binOp op t x y _ => rbin P op t x y σ (ev α x) (ev α y)
  | .unOp op _ x => run1 op σ (ev α x)
  | .convert src dst x => .req (hasU P src = true) (ifS (tint P dst) fun k => ifS (avI (ev α x)) fun p => .val (.sc (.int k (k.wrap p.2))) σ)
  | .makeFunc (.func f) first caps => .req (first.toList = []) (.val (.fn f (caps.toList.map (ev α))) σ)
  | .makeMap t none => ifS (tkl P t) fun kl => .newM kl
  | .makeSlice t l c => ifS (tslice P t) fun el => ifS (zcells P el) fun zs => .req (tsz P el = some zs.length) (ifS (tbytes P el) fun by_ => ifS (avI (ev α l)) fun l' => ifS (avI (ev α c)) fun c' =>
      .req (0 ≤ l'.2 ∧ l'.2 ≤ c'.2 ∧ (by_ : Int) * c'.2 ≤ 281474976710656 ∧ c'.2 ≤ 281474976710656) (.newR l'.2.toNat (List.replicate l'.2.toNat zs) zs.length el))
  | .slice t x lo hi mx => rslice P t (lo.map (ev α)) (hi.map (ev α)) (mx.map (ev α)) σ (ev α x)
  | .fieldAddr s x f => .req ((ev α x).isPtr = true) (ifS (tfield P s f) fun off => .val ((ev α x).plus off) σ)
  | .indexAddr t x i => ifS (avI (ev α i)) fun p => .req (0 ≤ p.2) (ridx P t p.2 σ (ev α x))
  | .index t x i => ifS (avI (ev α i)) fun p => .req (0 ≤ p.2) (ifS (avA (ev α x)) fun cs => ifS (tarray P t) fun q => .req (p.2 < q.1 ∧ tsz P q.2 = some 1 ∧ tagg P q.2 = some false) (ifS cs[p.2.toNat]? fun c => .val c σ))
  | .field t x f => ifS (avA (ev α x)) fun cs => ifS (tfld P t f) fun q => .req (q.2 = false) (ifS cs[q.1]? fun c => .val c σ)
  | .lookup t m k ok => ifS (avM (ev α m)) fun id => ifS (abMap (σ id)) fun p => ifS (akey (ev α k)) fun ks => .req (ks.length = p.2) (ifS (tmap P t) fun q => .req (KeyOps P q.1 p.2) (ifS (azero P q.2) fun z =>
      .val (if ok = true then .tu [(p.1 ks).getD z, .sc (.bool (p.1 ks).isSome)] else (p.1 ks).getD z) σ))
  | .mapUpdate t m k x | .insert t m k x => ifS (avM (ev α m)) fun id => ifS (abMap (σ id)) fun p => ifS (akey (ev α k)) fun ks => .req (ks.length = p.2) (ifS (tmap P t) fun q => .req (KeyOps P q.1 p.2) (.val .un (σ.set id (.map (mupd p.1 ks (ev α x)) p.2))))
  | .extract x i => ifS (avT (ev α x)) fun vs => ifS vs[i]? fun v => .val v σ
  | .call c => rcall P c α σ
  | _ => .stuck

theorem opt_of {α : Type} {x : Option α} {v : α} {K : α → Prop} (h : x = some v) (hk : K v) : opt x K := by rw [h]; exact hk
theorem oev_ok {P : Program} {owns : List Tmp} {o : Oper} {α : Tm} {σ : AH} {K : AV → AH → Prop} (h : (oev P owns o α σ).run P σ K) : dop P owns o α σ K := by
  obtain ⟨dst, op, type, pos, after, guard⟩ := o
  cases op <;> simp only [oev] at h <;> simp only [dop] <;> try exact h.elim
  case move => exact h
  case assign => exact h
  case pick => exact ifS_run h
  case alloc => exact ifS_run h
  case box =>
    refine ⟨h.1, ?_⟩
    have h := h.2
    split at h
    · rename_i hc; rw [if_pos hc]; exact h
    · rename_i hc; rw [if_neg hc]; exact h
  case build =>
    obtain ⟨pl, h1, h⟩ := opt_ex (ifS_run h)
    obtain ⟨zs, h2, h⟩ := opt_ex (ifS_run h)
    exact opt_of h1 (opt_of h2 (ifS_run h))
  case buildSlice =>
    obtain ⟨el, h1, h⟩ := opt_ex (ifS_run h)
    obtain ⟨zs, h2, h3, h⟩ := opt_ex (ifS_run h)
    obtain ⟨es, h6, h⟩ := opt_ex (ifS_run h)
    refine opt_of h1 (opt_of h2 ⟨h3.1, h3.2.1, h3.2.2, opt_of h6 ?_⟩)
    split at h
    · rename_i hc; rw [if_pos hc]; exact h
    · rename_i hc; rw [if_neg hc]; exact h
  case load => exact ifS_run h
  case store => exact ifS_run h
  case nilCheck => exact h
  case binOp => exact rbin_ok h
  case unOp => exact run1_ok h
  case convert =>
    obtain ⟨k, h1, h2⟩ := opt_ex (ifS_run h.2)
    exact ⟨h.1, opt_of h1 (ifS_run h2)⟩
  case makeFunc fn first caps =>
    cases fn <;> simp only at h ⊢ <;> first | exact h | exact h.elim
  case makeMap t r =>
    cases r <;> simp only at h ⊢ <;> first | exact ifS_run h | exact h.elim
  case makeSlice =>
    obtain ⟨el, h1, h⟩ := opt_ex (ifS_run h)
    obtain ⟨zs, h2, h3, h⟩ := opt_ex (ifS_run h)
    obtain ⟨by_, h4, h⟩ := opt_ex (ifS_run h)
    obtain ⟨l', h5, h⟩ := opt_ex (ifS_run h)
    obtain ⟨c', h6, h7, h⟩ := opt_ex (ifS_run h)
    exact opt_of h1 (opt_of h2 ⟨h3, opt_of h4 (opt_of h5 (opt_of h6 ⟨h7.1, h7.2.1, h7.2.2.1, h7.2.2.2, h⟩))⟩)
  case slice => exact rslice_ok h
  case fieldAddr => exact ⟨h.1, ifS_run h.2⟩
  case indexAddr =>
    obtain ⟨p, h1, h2, h⟩ := opt_ex (ifS_run h)
    exact opt_of h1 ⟨h2, ridx_ok h⟩
  case index =>
    obtain ⟨p, h1, h2, h⟩ := opt_ex (ifS_run h)
    obtain ⟨cs, h3, h⟩ := opt_ex (ifS_run h)
    obtain ⟨q, h4, h5, h⟩ := opt_ex (ifS_run h)
    exact opt_of h1 ⟨h2, opt_of h3 (opt_of h4 ⟨h5.1, h5.2.1, h5.2.2, ifS_run h⟩)⟩
  case field =>
    obtain ⟨cs, h1, h⟩ := opt_ex (ifS_run h)
    obtain ⟨q, h2, h3, h⟩ := opt_ex (ifS_run h)
    exact opt_of h1 (opt_of h2 ⟨h3, ifS_run h⟩)
  case lookup =>
    obtain ⟨id, h1, h⟩ := opt_ex (ifS_run h)
    obtain ⟨p, h2, h⟩ := opt_ex (ifS_run h)
    obtain ⟨ks, h3, h4, h⟩ := opt_ex (ifS_run h)
    obtain ⟨q, h5, h6, h⟩ := opt_ex (ifS_run h)
    exact opt_of h1 (opt_of h2 (opt_of h3 ⟨h4, opt_of h5 ⟨h6, ifS_run h⟩⟩))
  case mapUpdate =>
    obtain ⟨id, h1, h⟩ := opt_ex (ifS_run h)
    obtain ⟨p, h2, h⟩ := opt_ex (ifS_run h)
    obtain ⟨ks, h3, h4, h⟩ := opt_ex (ifS_run h)
    obtain ⟨q, h5, h6, h⟩ := opt_ex (ifS_run h)
    exact opt_of h1 (opt_of h2 (opt_of h3 ⟨h4, opt_of h5 ⟨h6, h⟩⟩))
  case insert =>
    obtain ⟨id, h1, h⟩ := opt_ex (ifS_run h)
    obtain ⟨p, h2, h⟩ := opt_ex (ifS_run h)
    obtain ⟨ks, h3, h4, h⟩ := opt_ex (ifS_run h)
    obtain ⟨q, h5, h6, h⟩ := opt_ex (ifS_run h)
    exact opt_of h1 (opt_of h2 (opt_of h3 ⟨h4, opt_of h5 ⟨h6, h⟩⟩))
  case extract =>
    obtain ⟨vs, h1, h⟩ := opt_ex (ifS_run h)
    exact opt_of h1 (ifS_run h)
  case call c => exact rcall_ok h

/-! ### Regions, with nothing to look into -/
/-- A guarded operation. -/
def gev (P : Program) (owns : List Tmp) (dm : List (Nat × Nat)) (o : Oper) (α : Tm) (σ : AH) : Res := match o.guard with
  | none => oev P owns o α σ
  | some (j, want) => ifS (glook dm j) fun g => ifS (avG (gt α g)) fun t => if t = some want then oev P owns o α σ else .val (.tu []) σ
def dput (nt i : Nat) (dm : List (Nat × Nat)) (α : Tm) (F : Nat → List (Nat × Nat) → Tm → AH → (Tm → AH → Prop) → Prop) (K : Tm → AH → Prop) : Option Tmp → AV → AH → Prop
  | some d => fun v σ => d < nt ∧ F (i + 1) ((i, d) :: dm) ((d, v) :: α) σ K
  | none => fun _ σ => F (i + 1) dm α σ K
def dops (P : Program) (nt : Nat) (owns : List Tmp) : List Oper → Nat → List (Nat × Nat) → Tm → AH → (Tm → AH → Prop) → Prop
  | [] => fun _ _ α σ K => K α σ
  | o :: rest => fun i dm α σ K => (gev P owns dm o α σ).run P σ (dput nt i dm α (dops P nt owns rest) K o.dst)

theorem dops_ok {P : Program} {nt : Nat} {owns : List Tmp} {K : Tm → AH → Prop} : ∀ (rest : List Oper) (i : Nat) (dm : List (Nat × Nat)) (α : Tm) (σ : AH), dops P nt owns rest i dm α σ K → vops P nt owns i dm rest α σ K
  | [], i, dm, α, σ, h => by unfold dops at h; unfold vops; exact h
  | o :: rest, i, dm, α, σ, h => by
    rw [dops] at h
    rw [vops]
    have hs : ∀ v σ', dput nt i dm α (dops P nt owns rest) K o.dst v σ' → (match o.dst with
        | some d => d < nt ∧ vops P nt owns (i + 1) ((i, d) :: dm) rest ((d, v) :: α) σ' K
        | none => vops P nt owns (i + 1) dm rest α σ' K) := fun v σ' h => by
      cases hd : o.dst with
      | none => rw [hd] at h; exact dops_ok rest _ _ _ _ h
      | some d => rw [hd] at h; exact ⟨h.1, dops_ok rest _ _ _ _ h.2⟩
    unfold gev at h
    cases hg : o.guard with
    | none => rw [hg] at h; exact vop_mono hs (dop_ok (oev_ok h))
    | some p =>
      obtain ⟨j, want⟩ := p
      rw [hg] at h
      obtain ⟨g, h1, h⟩ := opt_ex (ifS_run h)
      obtain ⟨t, h2, h⟩ := opt_ex (ifS_run h)
      refine ⟨g, t, h1, h2, ?_⟩
      by_cases htw : t = some want
      · rw [if_pos htw] at h ⊢; exact vop_mono hs (dop_ok (oev_ok h))
      · rw [if_neg htw] at h ⊢; exact hs (.tu []) σ h

/-! ### Operations that leave the heap alone -/
def ACQ (P : Program) (g : FuncId) (args : List AV) (σ : AH) (K : AV → Prop) : Prop := ∃ v, AC P g args σ (fun r σ' => r = v ∧ σ' = σ) ∧ K v
theorem ACQ.q {P : Program} {g : FuncId} {args : List AV} {σ : AH} {v : AV} (h : AC P g args σ fun r σ' => r = v ∧ σ' = σ) {K : AV → Prop} (hK : K v) : ACQ P g args σ K := ⟨v, h, hK⟩
def Res.runQ (P : Program) (σ : AH) (K : AV → Prop) : Res → Prop
  | .val v _ => K v
  | .req c r => c ∧ r.runQ P σ K
  | .call g args => ACQ P g args σ K
  | .hard p => p fun v _ => K v
  | _ => False
theorem runQ_run {P : Program} {σ : AH} {K : AV → Prop} : ∀ {r : Res}, r.runQ P σ K → r.run P σ fun v _ => K v
  | .val v _, h => h
  | .req c r, h => ⟨h.1, runQ_run h.2⟩
  | .call g args, ⟨v, h1, h2⟩ => AC.mono h1 fun r σ' ⟨q1, q2⟩ => by rw [q1]; exact h2
  | .hard p, h => h
  | .newB _ _, h => h.elim
  | .newR _ _ _ _, h => h.elim
  | .newM _, h => h.elim
  | .yld _ _, h => h.elim
  | .stuck, h => h.elim
def qok (owns : List Tmp) (o : Oper) : Bool := match o.op with
  | .store .. | .alloc .. | .mapUpdate .. | .insert .. | .makeSlice .. | .makeMap .. => false
  | .buildSlice .. | .box .. => !o.dst.any owns.contains
  | .call c => match c.callee with
    | .builtin .append => false
    | _ => true
  | _ => true
theorem oevQ_ok {P : Program} {owns : List Tmp} {o : Oper} {α : Tm} {σ : AH} {K : AV → Prop} (hq : qok owns o = true) (h : (oev P owns o α σ).runQ P σ K) : vopQ P owns o α σ K := by
  have hd := dop_ok (oev_ok (runQ_run h))
  obtain ⟨dst, op, type, pos, after, guard⟩ := o
  unfold vopQ
  cases op <;> simp only [qok] at hq ⊢ <;> first | exact hd | (simp at hq; done) | skip
  case call c =>
    simp only [oev, rcall] at h
    cases hc : c.callee with
    | value f =>
      simp only [hc] at h ⊢
      cases hf : ev α f <;> simp only [hf] at h ⊢ <;> first | exact h | exact h.elim
    | invoke r m => simp only [hc] at h; exact h.elim
    | builtin b =>
      simp only [hc] at hq
      cases b <;> simp only [] at hq ⊢ <;> first | (simp at hq; done) | exact hd
  case buildSlice => exact ⟨by simpa using hq, hd⟩
  case box => exact ⟨by simpa using hq, hd⟩

theorem vopQ_mono {P : Program} {owns : List Tmp} {o : Oper} {α : Tm} {σ : AH} {K K' : AV → Prop} (hk : ∀ v, K v → K' v) (h : vopQ P owns o α σ K) : vopQ P owns o α σ K' := by
  have hd := vop_mono (P := P) (owns := owns) (o := o) (α := α) (σ := σ) (K := fun v _ => K v) (K' := fun v _ => K' v) (fun v _ => hk v)
  obtain ⟨dst, op, type, pos, after, guard⟩ := o
  unfold vopQ at h ⊢
  cases op <;> simp only at h ⊢ <;> try exact h.elim
  case call c =>
    cases hc : c.callee with
    | value f =>
      simp only [hc] at h ⊢
      cases hf : ev α f <;> simp only [hf] at h ⊢ <;> try exact h.elim
      obtain ⟨v, h1, h2⟩ := h
      exact ⟨v, h1, hk _ h2⟩
    | invoke r m => simp only [hc] at h ⊢; exact vcall_mono (fun v _ => hk v) h
    | builtin b => cases b <;> simp only [hc] at h ⊢ <;> first | exact vcall_mono (fun v _ => hk v) h | exact h.elim
  case buildSlice => exact ⟨h.1, hd h.2⟩
  case box => exact ⟨h.1, hd h.2⟩
  all_goals exact hd h


def dputQ (nt i : Nat) (dm : List (Nat × Nat)) (α : Tm) (F : Nat → List (Nat × Nat) → Tm → (Tm → Prop) → Prop) (K : Tm → Prop) (d : Tmp) (v : AV) : Prop := F (i + 1) ((i, d) :: dm) ((d, v) :: α) K
def dqs (P : Program) (nt : Nat) (owns : List Tmp) (σ : AH) : List Oper → List Bool → Nat → List (Nat × Nat) → Tm → (Tm → Prop) → Prop
  | [], _ => fun _ _ α K => K α
  | _ :: _, [] => fun _ _ α K => K α
  | o :: rest, m :: ms => fun i dm α K => if m = true then (match o.dst with
      | none => False
      | some d => (d < nt ∧ qok owns o = true) ∧ (gev P owns dm o α σ).runQ P σ (dputQ nt i dm α (dqs P nt owns σ rest ms) K d))
    else dqs P nt owns σ rest ms (i + 1) dm α K
theorem dqs_ok {P : Program} {nt : Nat} {owns : List Tmp} {K : Tm → Prop} {σ : AH} : ∀ (rest : List Oper) (ms : List Bool) (i : Nat) (dm : List (Nat × Nat)) (α : Tm), dqs P nt owns σ rest ms i dm α K → vqs P nt owns i dm rest ms α σ K
  | [], ms, i, dm, α, h => by unfold dqs at h; unfold vqs; exact h
  | o :: rest, [], i, dm, α, h => by unfold dqs at h; unfold vqs; exact h
  | o :: rest, m :: ms, i, dm, α, h => by
    rw [dqs] at h
    rw [vqs]
    split at h
    · rename_i hm
      rw [if_pos hm]
      cases hd : o.dst with
      | none => rw [hd] at h; exact h.elim
      | some d =>
        rw [hd] at h
        obtain ⟨⟨hlt, hq⟩, h⟩ := h
        refine ⟨hlt, ?_⟩
        have hs : ∀ v, dputQ nt i dm α (dqs P nt owns σ rest ms) K d v → vqs P nt owns (i + 1) ((i, d) :: dm) rest ms ((d, v) :: α) σ K := fun v h => dqs_ok rest ms _ _ _ h
        unfold gev at h
        cases hg : o.guard with
        | none => rw [hg] at h; exact vopQ_mono hs (oevQ_ok hq h)
        | some p =>
          obtain ⟨j, want⟩ := p
          rw [hg] at h
          dsimp only at h ⊢
          cases h1 : glook dm j with
          | none => rw [h1] at h; exact h.elim
          | some g =>
            rw [h1, ifS_some] at h
            cases h2 : avG (gt α g) with
            | none => rw [h2] at h; exact h.elim
            | some t =>
              rw [h2, ifS_some] at h
              refine ⟨g, t, rfl, h2, ?_⟩
              by_cases htw : t = some want
              · rw [if_pos htw] at h ⊢; exact vopQ_mono hs (oevQ_ok hq h)
              · rw [if_neg htw] at h ⊢; exact hs (.tu []) h
    · rename_i hm
      rw [if_neg hm]
      exact dqs_ok rest ms _ _ _ h

def dputL (i : Nat) (dm : List (Nat × Nat)) (α : Tm) (F : Nat → List (Nat × Nat) → Tm → AH → (Tm → AH → Prop) → Prop) (K : Tm → AH → Prop) : Option Tmp → AV → AH → Prop
  | some d => fun v σ => F (i + 1) ((i, d) :: dm) ((d, v) :: α) σ K
  | none => fun _ σ => F (i + 1) dm α σ K
def dls (P : Program) (nt : Nat) (owns : List Tmp) : List Oper → List Bool → Nat → List (Nat × Nat) → Tm → AH → (Tm → AH → Prop) → Prop
  | [], _ => fun _ _ α σ K => K α σ
  | _ :: _, [] => fun _ _ _ _ _ => False
  | o :: rest, m :: ms => fun i dm α σ K => if m = true then dls P nt owns rest ms (i + 1) (match o.dst with | some d => (i, d) :: dm | none => dm) α σ K
    else dlt nt o.dst ∧ (gev P owns dm o α σ).run P σ (dputL i dm α (dls P nt owns rest ms) K o.dst)
theorem dls_ok {P : Program} {nt : Nat} {owns : List Tmp} {K : Tm → AH → Prop} : ∀ (rest : List Oper) (ms : List Bool) (i : Nat) (dm : List (Nat × Nat)) (α : Tm) (σ : AH), dls P nt owns rest ms i dm α σ K → vls P nt owns i dm rest ms α σ K
  | [], ms, i, dm, α, σ, h => by unfold dls at h; unfold vls; exact h
  | o :: rest, [], i, dm, α, σ, h => by unfold dls at h; exact h.elim
  | o :: rest, m :: ms, i, dm, α, σ, h => by
    rw [dls] at h
    rw [vls]
    split at h
    · rename_i hm
      rw [if_pos hm]
      exact dls_ok rest ms _ _ _ _ h
    · rename_i hm
      rw [if_neg hm]
      refine ⟨h.1, ?_⟩
      have h := h.2
      have hs : ∀ v σ', dputL i dm α (dls P nt owns rest ms) K o.dst v σ' → (match o.dst with
          | some d => vls P nt owns (i + 1) ((i, d) :: dm) rest ms ((d, v) :: α) σ' K
          | none => vls P nt owns (i + 1) dm rest ms α σ' K) := fun v σ' h => by
        cases hd : o.dst with
        | none => rw [hd] at h; exact dls_ok rest ms _ _ _ _ h
        | some d => rw [hd] at h; exact dls_ok rest ms _ _ _ _ h
      unfold gev at h
      cases hg : o.guard with
      | none => rw [hg] at h; exact vop_mono hs (dop_ok (oev_ok h))
      | some p =>
        obtain ⟨j, want⟩ := p
        rw [hg] at h
        obtain ⟨g, h1, h⟩ := opt_ex (ifS_run h)
        obtain ⟨t, h2, h⟩ := opt_ex (ifS_run h)
        refine ⟨g, t, h1, h2, ?_⟩
        by_cases htw : t = some want
        · rw [if_pos htw] at h ⊢; exact vop_mono hs (dop_ok (oev_ok h))
        · rw [if_neg htw] at h ⊢; exact hs (.tu []) σ h
/-- The early ones have been done: the others. -/
def dthen (P : Program) (nt : Nat) (owns : List Tmp) (ops : List Oper) (mask : List Bool) (σ : AH) (K : Tm → AH → Prop) (αE : Tm) : Prop := dls P nt owns ops mask 0 [] αE σ K

section
variable {P : Program} {nt : Nat} {rd : Option Nat} {α : Tm} {σ : AH} {Q : Exit → Tm → AH → Prop} {id : Nat} {ops : Array Oper}
theorem AT.regionK (owns : List Tmp)
    (h : ∀ K : Tm → AH → Prop, (∀ α σ, Q .normal α σ → K α σ) → dops P nt owns ops.toList 0 [] α σ K) : AT P nt rd (.region id ops false) Q α σ :=
  AT.region owns (dops_ok _ _ _ _ _ (h _ fun _ _ h => h))
theorem AT.drawnK (owns : List Tmp) (mask : List Bool) (hm : P.follows .mixedOrders = true) (hl : ops.toList.length = mask.length) (hB : drawnOK ops mask = true)
    (h : ∀ K : Tm → AH → Prop, (∀ α σ, Q .normal α σ → K α σ) → dqs P nt owns σ ops.toList mask 0 [] α (dthen P nt owns ops.toList mask σ K)) : AT P nt rd (.region id ops true) Q α σ := by
  refine AT.drawn owns mask hm hl hB ?_
  have hmono : ∀ (rest : List Oper) (i : Nat) (dm : List (Nat × Nat)) (ms : List Bool) (α : Tm) (K K' : Tm → Prop), (∀ α, K α → K' α) → vqs P nt owns i dm rest ms α σ K → vqs P nt owns i dm rest ms α σ K' := by
    intro rest
    induction rest with
    | nil => intro i dm ms α K K' hk h; unfold vqs at h ⊢; exact hk _ h
    | cons o rest ih =>
      intro i dm ms α K K' hk h
      cases ms with
      | nil => unfold vqs at h ⊢; exact hk _ h
      | cons m ms =>
        rw [vqs] at h ⊢
        split at h
        · rename_i hm
          rw [if_pos hm]
          cases hd : o.dst with
          | none => rw [hd] at h; exact h.elim
          | some d =>
            rw [hd] at h
            refine ⟨h.1, ?_⟩
            have h := h.2
            cases hg : o.guard with
            | none => rw [hg] at h; exact vopQ_mono (fun v h => ih _ _ _ _ _ _ hk h) h
            | some p =>
              obtain ⟨j, want⟩ := p
              rw [hg] at h
              obtain ⟨g, t, h1, h2, h⟩ := h
              refine ⟨g, t, h1, h2, ?_⟩
              by_cases htw : t = some want
              · rw [if_pos htw] at h ⊢; exact vopQ_mono (fun v h => ih _ _ _ _ _ _ hk h) h
              · rw [if_neg htw] at h ⊢; exact ih _ _ _ _ _ _ hk h
        · rename_i hm
          rw [if_neg hm]
          exact ih _ _ _ _ _ _ hk h
  exact hmono _ _ _ _ _ _ _ (fun α h => dls_ok _ _ _ _ _ _ h) (dqs_ok _ _ _ _ _ (h _ fun _ _ h => h))
end

end Go.Proofs.Ytdimikmgkdcglaa
