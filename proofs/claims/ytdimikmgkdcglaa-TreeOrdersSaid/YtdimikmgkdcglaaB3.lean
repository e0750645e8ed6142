/- A function's contract from its body; scopes; a range over a function. No conditions. -/
import Derived.Test.YtdimikmgkdcglaaB2
set_option linter.unusedVariables false
set_option linter.unusedSimpArgs false
namespace Go.Proofs.Ytdimikmgkdcglaa
open Go.RowKit

/-! ### Sub-heaps -/
theorem AH.le_refl (σ : AH) : σ.le σ := fun _ => .inr rfl
theorem AH.le_set {σ τ : AH} {id : Nat} (b : AB) (h : σ id = none) (hle : σ.le τ) : σ.le (τ.set id b) := fun j => by
  by_cases hj : j = id
  · subst hj; exact .inl h
  · rw [AH.set_ne τ b hj]; exact hle j
theorem AH.le_del {σ τ : AH} {id : Nat} (h : σ id = none) (hle : σ.le τ) : σ.le (τ.del id) := fun j => by
  by_cases hj : j = id
  · subst hj; exact .inl h
  · simp only [AH.del, hj, if_false]; exact hle j
theorem AH.del_le (σ : AH) (id : Nat) : (σ.del id).le σ := fun j => by
  unfold AH.del
  by_cases hj : j = id
  · exact .inl (by simp [hj])
  · exact .inr (by simp [hj])

/-! ### Results -/
def ares (P : Program) (σ : AH) (α : Tm) : List ResultVar → Option (List AV)
  | [] => some []
  | .tmp t :: rs => (ares P σ α rs).map fun l => gt α t :: l
  | .cell p ty :: rs => (aload P σ ty (gt α p)).bind fun v => (ares P σ α rs).map fun l => v :: l
def aret : List AV → AV
  | [v] => v
  | vs => .tu vs

/-- Values that are handed out: rows of one's own may become read only. -/
def PubL (σ : AH) (vs : List AV) (σ' : AH) (rs : List AV) : Prop :=
  rs.length = vs.length ∧ ∀ (B : Nat) (R : Nat → Prop) (φ : Pl) (w : World) (us : List Value), Cfg B R σ φ w → us.length = vs.length → (∀ (i : Nat) v u, vs[i]? = some v → us[i]? = some u → RV φ R w v u) →
    ∃ R', Cfg B R' σ' φ w ∧ Ext R σ φ w R' σ' φ w ∧ ∀ (i : Nat) v u, rs[i]? = some v → us[i]? = some u → RV φ R' w v u

theorem PubL.nil {σ σ' : AH} (h : σ'.le σ) : PubL σ [] σ' [] :=
  ⟨rfl, fun B R φ w us hc _ _ => ⟨R, hc.drop h, Ext.drop h, fun i v u h1 => by simp at h1⟩⟩
theorem PubL.keep {σ σ' : AH} {vs rs : List AV} (v : AV) (h : PubL σ vs σ' rs) : PubL σ (v :: vs) σ' (v :: rs) := by
  refine ⟨by simp [h.1], fun B R φ w us hc hl hr => ?_⟩
  cases us with
  | nil => simp at hl
  | cons u us =>
    obtain ⟨R', h1, h2, h3⟩ := h.2 B R φ w us hc (by simpa using hl) (fun i v u a b => hr (i + 1) v u (by simpa using a) (by simpa using b))
    refine ⟨R', h1, h2, fun i v' u' a b => ?_⟩
    cases i with
    | zero => simp at a b; subst a; subst b; exact (hr 0 _ _ rfl rfl).ext h2
    | succ i => exact h3 i v' u' (by simpa using a) (by simpa using b)

/-- A row of one's own that nobody will write any more. -/
theorem publish {B : Nat} {R : Nat → Prop} {σ : AH} {φ : Pl} {w : World} (hc : Cfg B R σ φ w) {id : Nat} {es : List (List AV)} {sz : Nat} {t : TypeId} {st : Nat} (hs : σ id = some (.row es sz t st)) :
    ∃ R', Cfg B R' (σ.del id) φ w ∧ Ext R σ φ w R' (σ.del id) φ w ∧ ∀ u, RV φ R w (.sl id es.length) u → RV φ R' w (.ro es) u := by
  have hne : σ id ≠ none := by rw [hs]; simp
  have hd := hc.drop (AH.del_le σ id)
  cases hc.ok id _ hs with
  | row hsz hst hp htop hm =>
    obtain ⟨b, c, hp⟩ := hp
    obtain ⟨h1, h2, C, h3, h4, h5⟩ := hm _ b c hst (Nat.le_refl _) hp
    have hlt := hc.lt _ _ _ _ hp
    have hE : Ext R σ φ w (Rplus R b) (σ.del id) φ w := by
      have h := Ext.drop (R := R) (φ := φ) (w := w) (AH.del_le σ id)
      exact ⟨h.ph, h.sz, h.keep, h.own, h.new, h.dead, fun _ hb => .inl hb, h.rok, fun d hd' hR => by
        rcases hR with hR | hR
        · exact .inl hR
        · subst hR; exact .inr ⟨id, _, c, hne, hp⟩, rfl, rfl, rfl⟩
    have hno : ¬ owned (σ.del id) φ b := fun ⟨j, n, e, q1, q2⟩ => by
      have hj : σ j ≠ none := fun q => q1 (by unfold AH.del; split <;> simp_all)
      have := hc.sep j id n _ b e c hj hne q2 hp
      subst this
      exact q1 (by simp [AH.del])
    refine ⟨Rplus R b, ⟨fun j ab hj => (hd.ok j ab hj).keep ⟨fun _ _ _ h => h, fun _ _ q1 q2 => ⟨q2, .inl q1⟩⟩ (fun _ => rfl) (fun _ _ _ _ => rfl), hd.sep, hd.low, hd.lt, hd.fin, hd.bs,
      fun d hd' ho => ?_, fun d hd' => ?_⟩, hE, fun u hu => ?_⟩
    · rcases hd' with hd' | hd'
      · exact hd.dj d hd' ho
      · subst hd'; exact hno ho
    · rcases hd' with hd' | hd'
      · exact hd.rlt d hd'
      · subst hd'; exact hlt
    · cases hu with
      | sl q1 q2 =>
        rw [hp] at q1
        injection q1 with q1
        injection q1 with q1 q3
        subst q1; subst q3
        have hfit : es.length * sz ≤ C.size := by rw [h4]; exact Nat.mul_le_mul_right _ h1
        have hF := (Flat.of_row hsz h5 (Nat.le_refl _) hfit)
        rw [List.take_length] at hF
        have hF' : Flat φ (Rplus R b) w es sz (C.toList.take (es.length * sz)) := hF.ext hE
        exact hF'.ro (.inr rfl) h3 (by rw [hF.len]) h1

theorem PubL.sl {σ σ' : AH} {vs rs : List AV} {id : Nat} {es : List (List AV)} {sz : Nat} {t : TypeId} {st n : Nat} (hs : σ id = some (.row es sz t st)) (hn : n = es.length) (h : PubL (σ.del id) vs σ' rs) : PubL σ (.sl id n :: vs) σ' (.ro es :: rs) := by
  subst hn
  refine ⟨by simp [h.1], fun B R φ w us hc hl hr => ?_⟩
  cases us with
  | nil => simp at hl
  | cons u us =>
    obtain ⟨R₁, p1, p2, p3⟩ := publish hc hs
    obtain ⟨R', h1, h2, h3⟩ := h.2 B R₁ φ w us p1 (by simpa using hl) (fun i v u a b => (hr (i + 1) v u (by simpa using a) (by simpa using b)).ext p2)
    refine ⟨R', h1, p2.trans h2, fun i v' u' a b => ?_⟩
    cases i with
    | zero => simp at a b; subst a; subst b; exact (p3 _ (hr 0 _ _ rfl rfl)).ext h2
    | succ i => exact h3 i v' u' (by simpa using a) (by simpa using b)

/-- A row becomes read only, in the temporaries too. -/
def frz (id n : Nat) (es : List (List AV)) : AV → AV
  | .sl j m => if j = id ∧ m = n then .ro es else .sl j m
  | v => v
theorem gt_map (f : AV → AV) (hf : f .un = .un) : ∀ (α : Tm) (t : Nat), gt (α.map fun p => (p.1, f p.2)) t = f (gt α t)
  | [], t => hf.symm
  | (k, v) :: r, t => by
    simp only [List.map_cons, gt, gt_map f hf r t]
    split <;> rfl
theorem AT.freeze {P : Program} {nt : Nat} {rd : Option Nat} {α : Tm} {σ : AH} {Q : Exit → Tm → AH → Prop} {c : Code} {id : Nat} {es : List (List AV)} {sz : Nat} {t : TypeId} {st : Nat} (hs : σ id = some (.row es sz t st))
    (h : AT P nt rd c Q (α.map fun p => (p.1, frz id es.length es p.2)) (σ.del id)) : AT P nt rd c Q α σ :=
  h.ghost fun lo B R φ w a hc ha => by
    obtain ⟨R₁, p1, p2, p3⟩ := publish hc hs
    have ha' := ha.ext p2
    refine ⟨R₁, p1, ⟨fun t => ?_, ha'.sz, ha'.df, ha'.nd, ha'.rd⟩, p2⟩
    rw [gt_map _ rfl]
    have h1 := ha.tm t
    have h2 := ha'.tm t
    cases hg : gt α t with
    | sl j m =>
      simp only [frz]
      split
      · rename_i hjm
        obtain ⟨rfl, rfl⟩ := hjm
        rw [hg] at h1
        exact p3 _ h1
      · rw [hg] at h2; exact h2
    | _ => rw [hg] at h2; exact h2

/-! ### Leaving -/
/-- What a function's body must come to. -/
def retQ (P : Program) (fn : Func) (K : AV → AH → Prop) : Exit → Tm → AH → Prop
  | .normal, α, σ => ∃ vs rs σ', ares P σ α fn.results.toList = some vs ∧ PubL σ vs σ' rs ∧ K (aret rs) σ'
  | .ret, α, σ => ∃ vs rs σ', ares P σ α fn.results.toList = some vs ∧ PubL σ vs σ' rs ∧ K (aret rs) σ'
  | _, _, _ => False

def resVal (tmps : Array Value) : ResultVar → Sem Value
  | .tmp t => pure (tmps.getD t undef)
  | .cell a t => do loadVar t (← asAddr (tmps.getD a undef))
theorem results_eq (fn : Func) (tmps : Array Value) : results fn tmps = (do
    let vs ← fn.results.mapM (resVal tmps)
    pure (if h : vs.size = 1 then vs[0] else .tuple vs)) := by
  unfold results
  congr 1

def tupOf : List Value → Value
  | [u] => u
  | us => .tuple us.toArray
theorem ares_ok {P : Program} {B : Nat} {R : Nat → Prop} {σ : AH} {φ : Pl} {w : World} (hc : Cfg B R σ φ w) {α : Tm} {tmps : Array Value} (ht : TmAt φ R w α tmps) : ∀ (rs : List ResultVar) (vs : List AV), ares P σ α rs = some vs →
    ∃ us : List Value, us.length = vs.length ∧ (rs.mapM (resVal tmps)).run P w = .ok us w ∧ ∀ (i : Nat) v u, vs[i]? = some v → us[i]? = some u → RV φ R w v u
  | [], vs, h => by
    simp only [ares] at h
    injection h with h
    subst h
    exact ⟨[], rfl, by simp, fun i v u h => by simp at h⟩
  | .tmp t :: rs, vs, h => by
    simp only [ares] at h
    cases hr : ares P σ α rs with
    | none => simp [hr] at h
    | some l =>
      simp [hr] at h
      subst h
      obtain ⟨us, h1, h2, h3⟩ := ares_ok hc ht rs l hr
      refine ⟨tmps.getD t undef :: us, by simp [h1], by simp only [List.mapM_cons, resVal, Sem.run_bind, Sem.run_pure, Result.andThen_ok, h2], fun i v u a b => ?_⟩
      cases i with
      | zero => simp at a; subst a; simp only [List.getElem?_cons_zero, Option.some.injEq] at b; subst b; exact ht t
      | succ i => exact h3 i v u (by simpa using a) (by simpa using b)
  | .cell p ty :: rs, vs, h => by
    simp only [ares] at h
    cases hl : aload P σ ty (gt α p) with
    | none => simp [hl] at h
    | some x =>
      cases hr : ares P σ α rs with
      | none => simp [hl, hr] at h
      | some l =>
        simp [hl, hr] at h
        subst h
        obtain ⟨us, h1, h2, h3⟩ := ares_ok hc ht rs l hr
        obtain ⟨u, q1, q2⟩ := aload_ok hc (ht p) hl
        have hptr : ∃ a, tmps.getD p undef = .pointer (some a) := by
          unfold aload at hl
          cases hpc : ptCells σ (gt α p) with
          | none => simp [hpc] at hl
          | some cs => obtain ⟨b, o, hu, _⟩ := ptCells_at hc (ht p) hpc; exact ⟨_, hu⟩
        obtain ⟨a, hptr⟩ := hptr
        have hld : (loadVar ty a).run P w = .ok u w := by
          rw [hptr] at q1
          simpa [Instr.loadAt, Instr.sureAddr] using q1
        refine ⟨u :: us, by simp [h1], by simp only [List.mapM_cons, resVal, Sem.run_bind, hptr, asAddr, Sem.run_pure, Result.andThen_ok, hld, h2], fun i v u' a b => ?_⟩
        cases i with
        | zero => simp at a b; subst a; subst b; exact q2
        | succ i => exact h3 i v u' (by simpa using a) (by simpa using b)

/-- A mark is taken: its block is shut. -/
theorem Cfg.shut {B : Nat} {R : Nat → Prop} {σ : AH} {φ : Pl} {w : World} (hc : Cfg B R σ φ w) {D : Nat} (o : Obj) (h2 : ¬ owned σ φ D) (h3 : ¬ R D) :
    Cfg B R σ φ { w with heap := w.heap.setIfInBounds D o } ∧ Keep φ R w φ R { w with heap := w.heap.setIfInBounds D o } := by
  have hne : ∀ b, b ≠ D → ({ w with heap := w.heap.setIfInBounds D o } : World).heap[b]? = w.heap[b]? := fun b hb => by simp [Ne.symm hb]
  have hk : Keep φ R w φ R { w with heap := w.heap.setIfInBounds D o } := ⟨fun _ _ _ h => h, fun a v q1 q2 => ⟨by
    rw [← q2]; exact World.cell?_of_block (w := w) (hne _ (fun e => h3 (by rw [← e]; exact q1))), q1⟩⟩
  exact ⟨⟨fun id ab h => (hc.ok id ab h).keep hk (fun _ => rfl) (fun n b c q => hne b (fun e => h2 ⟨id, n, c, by rw [h]; simp, by rw [← e]; exact q⟩)), hc.sep, hc.low, fun id n b c h => by simpa using hc.lt id n b c h, hc.fin, by simpa using hc.bs, hc.dj, fun b hb => by simpa using hc.rlt b hb⟩, hk⟩

theorem leaves_ok {P : Program} {fn : Func} {r : Option Nat} {K : AV → AH → Prop} {B : Nat} {R₀ : Nat → Prop} {σ₀ : AH} {φ₀ : Pl} {w₀ : World} {R : Nat → Prop} {σ : AH} {φ : Pl} {α : Tm} {tmps : Array Value}
    {vs rs : List AV} {σ' : AH} (h1 : ares P σ α fn.results.toList = some vs) (h2 : PubL σ vs σ' rs) (h3 : K (aret rs) σ') : ∀ (ds : List Deferred) (w : World), Cfg B R σ φ w → Ext R₀ σ₀ φ₀ w₀ R σ φ w → TmAt φ R w α tmps →
      (∀ d ∈ ds, ∃ D, d = { target := .collected D, args := #[] } ∧ w₀.heap.size ≤ D ∧ w.heap[D]? = some (.deferred (some [])) ∧ ¬ owned σ φ D ∧ ¬ R D) → ds.Nodup →
      LeavesInM (fenR r) 0 P fn tmps (fun e w' => ∃ u r R' σ' φ', e = .returned u ∧ Cfg B R' σ' φ' w' ∧ Ext R₀ σ₀ φ₀ w₀ R' σ' φ' w' ∧ RV φ' R' w' r u ∧ K r σ') ds .returning w
  | [], w, hc, hE, ht, _, _ => by
    obtain ⟨us, q1, q2, q3⟩ := ares_ok hc ht _ _ h1
    obtain ⟨R', p1, p2, p3⟩ := h2.2 B R φ w us hc q1 q3
    have hrun : (results fn tmps).run P w = .ok (tupOf us) w := by
      rw [results_eq, Array.mapM_eq_mapM_toList]
      simp only [Sem.run_bind, Sem.run_map]
      rw [q2]
      simp only [Result.andThen_ok, Sem.run_pure]
      congr 1
      cases us with
      | nil => rfl
      | cons u us => cases us <;> simp [tupOf]
    refine ⟨_, hrun, _, aret rs, R', σ', φ, rfl, p1, hE.trans p2, ?_, h3⟩
    have hlen : rs.length = us.length := by rw [h2.1, q1]
    cases us with
    | nil =>
      have : rs = [] := List.eq_nil_of_length_eq_zero (by simpa using hlen)
      subst this
      exact .tu rfl (fun i c u h => by simp at h)
    | cons u us =>
      cases us with
      | nil =>
        cases rs with
        | nil => simp at hlen
        | cons r rs =>
          have : rs = [] := List.eq_nil_of_length_eq_zero (by simpa using hlen)
          subst this
          exact p3 0 _ _ rfl rfl
      | cons u' us =>
        cases rs with
        | nil => simp at hlen
        | cons r rs =>
          cases rs with
          | nil => simp at hlen
          | cons r' rs => exact .tu (by simpa using hlen.symm) (fun i c x a b => p3 i c x a (by simpa using b))
  | d :: ds, w, hc, hE, ht, hd, hn => by
    obtain ⟨D, rfl, k1, k2, k3, k4⟩ := hd d (by simp)
    obtain ⟨hc', hk⟩ := hc.shut (.deferred none) k3 k4
    refine ⟨by simp, .inl ⟨D, { w with heap := w.heap.setIfInBounds D (.deferred none) }, rfl, ?_, ?_⟩⟩
    · have hg : (getObj D).run P w = .ok (.deferred (some [])) w := by simp [getObj, Sem.run, k2]
      have hs : (setObj D (.deferred none)).run P w = .ok () { w with heap := w.heap.setIfInBounds D (.deferred none) } := by simp [setObj, Sem.run, k2]
      simp [Instr.takeDeferred, hg, hs]
    · rw [List.nodup_cons] at hn
      have hneD : ∀ b, b ≠ D → ({ w with heap := w.heap.setIfInBounds D (.deferred none) } : World).heap[b]? = w.heap[b]? := fun b hb => by simp [Ne.symm hb]
      refine leaves_ok h1 h2 h3 ds _ hc' ⟨hE.ph, by simpa using hE.sz, fun b q1 q2 => (hneD b (by omega)).trans (hE.keep b q1 q2), hE.own, hE.new, hE.dead, hE.ro, fun b q1 q2 => (hneD b (by omega)).trans (hE.rok b q1 q2), hE.rn, hE.os, hE.tape, hE.output⟩
        (ht.keep hk) (fun d' hd' => ?_) hn.2
      obtain ⟨D', rfl, k1', k2', k3', k4'⟩ := hd d' (by simp [hd'])
      have hDD : D' ≠ D := fun e => hn.1 (by rw [← e]; exact hd')
      exact ⟨D', rfl, k1', (hneD D' hDD).trans k2', k3', k4'⟩

def argTm : List AV → Nat → Tm
  | [], _ => []
  | v :: r, i => (i, v) :: argTm r (i + 1)
theorem gt_argTm : ∀ (vs : List AV) (i t : Nat), gt (argTm vs i) t = if i ≤ t ∧ t < i + vs.length then vs.getD (t - i) .un else .un
  | [], i, t => by simp [argTm, gt]
  | v :: r, i, t => by
    simp only [argTm, gt, gt_argTm r (i + 1) t, List.length_cons]
    by_cases h : i = t
    · subst h; simp
    · rw [if_neg h]
      by_cases h2 : i + 1 ≤ t ∧ t < i + 1 + r.length
      · rw [if_pos h2, if_pos (by omega)]
        obtain ⟨k, hk⟩ : ∃ k, t - i = k + 1 := ⟨t - i - 1, by omega⟩
        rw [hk, show t - (i + 1) = k by omega]
        rfl
      · rw [if_neg h2, if_neg (by omega)]

/-- **A contract from the body.** -/
theorem AC.of_body {P : Program} {f : FuncId} {fn : Func} {c : Code} {args : List AV} {σ : AH} {K : AV → AH → Prop} (hf : P.funcs[f]? = some fn) (hname : (fn.name == "runtime.NumGoroutine") = false) (hb : fn.body = some c)
    (hlen : args.length ≤ fn.ntmps) (h : AT P fn.ntmps none c (retQ P fn K) (argTm args 0) σ) : AC P f args σ K := by
  refine ⟨⟨fn, hf, hname, by rw [hb]; rfl⟩, fun B R φ w us hc hr => ?_⟩
  obtain ⟨hl, hr⟩ := hr
  refine callsIn_wide.1 (callsIn_of_wp_marks (F := Fence.wide) (n := 0) hf hb trivial ?_)
  have hact : ActAt w.heap.size none fn.ntmps R σ φ w (argTm args 0) { tmps := us ++ Array.replicate (fn.ntmps - us.size) undef, defers := [] } := by
    refine ⟨fun t => ?_, by simp only [Array.size_append, Array.size_replicate]; omega, fun d hd => by simp at hd, List.nodup_nil, fun id h => by cases h⟩
    rw [gt_argTm]
    split
    · rename_i ht
      have ht' : t < us.size := by omega
      have h1 : args[t]? = some (args.getD (t - 0) .un) := by
        have : t < args.length := by omega
        simp [List.getD, this]
      refine hr t _ _ h1 ?_
      rw [Array.getD_eq_getD_getElem?, Array.getElem?_append_left ht']
      simp [ht']
    · exact .un
  refine wpIn_mono (h w.heap.size B R φ w _ (Nat.le_refl _) hc hact) ?_
  rintro e a' w' ⟨α', R', σ', φ', q1, q2, q3, q4⟩
  cases e with
  | normal =>
    obtain ⟨vs, rs, σ'', p1, p2, p3⟩ := q4
    exact leaves_ok (r := none) p1 p2 p3 a'.defers w' q1 q3 q2.tm q2.df q2.nd
  | ret =>
    obtain ⟨vs, rs, σ'', p1, p2, p3⟩ := q4
    exact leaves_ok (r := none) p1 p2 p3 a'.defers w' q1 q3 q2.tm q2.df q2.nd
  | exit id => exact q4.elim
  | goto l => exact q4.elim
  | panic c => exact q4.elim
  | outgrown => exact q4.elim

end Go.Proofs.Ytdimikmgkdcglaa
