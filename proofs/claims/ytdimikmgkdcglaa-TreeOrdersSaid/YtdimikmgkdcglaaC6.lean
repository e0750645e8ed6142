/- Slices that grew from nil: one's own, exactly; handed out; more lemmas for the walks. No conditions. -/
import Derived.Test.YtdimikmgkdcglaaC5
set_option linter.unusedVariables false
set_option linter.unusedSimpArgs false
namespace Go.Proofs.Ytdimikmgkdcglaa
open Go.RowKit

/-! ### Slices that are read -/
/-- Nil, or a slice of read-only blocks. -/
def IsR (x : AV) (es : List (List AV)) : Prop := (x = nilS ∧ es = []) ∨ x = .ro es
section
variable {x : AV} {es : List (List AV)}
theorem IsR.isS (h : IsR x es) : IsS x es := by
  rcases h with ⟨rfl, rfl⟩ | rfl
  · exact IsS.mk_nil
  · exact IsS.mk_ro _
theorem IsR.one (h : IsR x es) : x.one = true := by rcases h with ⟨rfl, rfl⟩ | rfl <;> rfl
theorem IsR.cells (h : IsR x es) : x.cells = [x] := by rcases h with ⟨rfl, rfl⟩ | rfl <;> rfl
theorem IsR.rd (h : IsR x es) (σ : AH) : rdS σ x = some es := by rcases h with ⟨rfl, rfl⟩ | rfl <;> rfl
theorem IsR.len (h : IsR x es) : slen x = some es.length := h.isS.len
theorem IsR.mk_ro (es : List (List AV)) : IsR (.ro es) es := .inr rfl
theorem IsR.mk_nil : IsR nilS [] := .inl ⟨rfl, rfl⟩
end
theorem Sl.isR (s : Sl) : IsR s.av (eIs s.l) := by
  cases s with
  | none => exact IsR.mk_nil
  | some l => exact IsR.mk_ro _
@[simp] theorem Sl.rd (s : Sl) (σ : AH) : rdS σ s.av = some (eIs s.l) := s.isR.rd σ
/-- A slice that grew from nil, as it is handed out. -/
def slv (es : List (List AV)) : AV := if es = [] then nilS else .ro es
theorem slv_nil : slv [] = nilS := rfl
theorem slv_ne {es : List (List AV)} (h : es ≠ []) : slv es = .ro es := by simp [slv, h]
theorem slv_isR (es : List (List AV)) : IsR (slv es) es := by
  by_cases h : es = []
  · subst h; exact IsR.mk_nil
  · rw [slv_ne h]; exact IsR.mk_ro _
@[simp] theorem slv_one (es : List (List AV)) : (slv es).one = true := (slv_isR es).one
@[simp] theorem slv_cells (es : List (List AV)) : (slv es).cells = [slv es] := (slv_isR es).cells
@[simp] theorem slv_len (es : List (List AV)) : slen (slv es) = some es.length := (slv_isR es).len
@[simp] theorem slv_rd (es : List (List AV)) (σ : AH) : rdS σ (slv es) = some es := (slv_isR es).rd σ
theorem eIs_at {l : List Int} {i : Nat} (h : i < l.length) : (eIs l)[i]? = some [eI (l[i]'h)] := eIs_get (by simp)
theorem eN_at {l : List Nd} {i : Nat} (h : i < l.length) : (eN l)[i]? = some (l[i]'h).cells := eN_get (by simp)
@[simp] theorem eIs_nil : eIs [] = [] := rfl
@[simp] theorem eIs_app (a b : List Int) : eIs (a ++ b) = eIs a ++ eIs b := by simp [eIs]
@[simp] theorem eIs_cons (a : Int) (b : List Int) : eIs (a :: b) = [eI a] :: eIs b := by simp [eIs]
@[simp] theorem eN_nil : eN [] = [] := rfl
@[simp] theorem eN_app (a b : List Nd) : eN (a ++ b) = eN a ++ eN b := by simp [eN]
@[simp] theorem eN_cons (a : Nd) (b : List Nd) : eN (a :: b) = a.cells :: eN b := by simp [eN]
theorem eIs_eq_nil {l : List Int} : eIs l = [] ↔ l = [] := by simp [eIs]
theorem eN_eq_nil {l : List Nd} : eN l = [] ↔ l = [] := by simp [eN]

/-! ### Slices that grow -/
def AH.grow (σ0 : AH) : AV → AB → AH
  | .sl id _, b => σ0.set id b
  | _, _ => σ0
/-- A slice that grew from nil, over a heap. -/
def Own (σ0 σ : AH) (y : AV) (es : List (List AV)) (sz : Nat) (t : TypeId) : Prop :=
  (y = nilS ∧ es = [] ∧ σ = σ0) ∨ ∃ id st, y = .sl id es.length ∧ σ0 id = none ∧ σ = σ0.set id (.row es sz t st) ∧ st ≤ es.length ∧ es ≠ []
section
variable {σ0 σ : AH} {y : AV} {es : List (List AV)} {sz : Nat} {t : TypeId}
theorem Own.nil (σ : AH) (sz : Nat) (t : TypeId) : Own σ σ nilS [] sz t := .inl ⟨rfl, rfl, rfl⟩
theorem Own.le (h : Own σ0 σ y es sz t) : σ0.le σ := by
  rcases h with ⟨_, _, rfl⟩ | ⟨id, st, _, h0, rfl, _⟩
  · exact AH.le_refl _
  · exact AH.le_set _ h0 (AH.le_refl _)
theorem Own.at (h : Own σ0 σ y es sz t) {id : Nat} {b : AB} (hb : σ0 id = some b) : σ id = some b := by
  rw [AH.le_some h.le (by rw [hb]; simp), hb]
theorem Own.none (h : Own σ0 σ y es sz t) {id : Nat} (hb : σ id = none) : σ0 id = none := AH.le_none h.le hb
theorem Own.len (h : Own σ0 σ y es sz t) : slen y = some es.length := by
  rcases h with ⟨rfl, rfl, _⟩ | ⟨id, st, rfl, _⟩ <;> rfl
theorem Own.one (h : Own σ0 σ y es sz t) : y.one = true := by
  rcases h with ⟨rfl, rfl, _⟩ | ⟨id, st, rfl, _⟩ <;> rfl
theorem Own.cells (h : Own σ0 σ y es sz t) : y.cells = [y] := by
  rcases h with ⟨rfl, rfl, _⟩ | ⟨id, st, rfl, _⟩ <;> rfl
theorem Own.rd (h : Own σ0 σ y es sz t) : rdS σ y = some es := by
  rcases h with ⟨rfl, rfl, _⟩ | ⟨id, st, rfl, h0, rfl, hst, _⟩
  · rfl
  · simp [rdS, AH.set_same, hst]
theorem Own.app {P : Program} {by_ : Nat} {src : List (List AV)} {K : AV → AH → Prop} (h : Own σ0 σ y es sz t) (hb : (es.length + src.length) * by_ ≤ 140737488355328) (hn : es.length + src.length ≤ 140737488355328)
    (hK : ∀ y' σ', Own σ0 σ' y' (es ++ src) sz t → K y' σ') : (rapp P t sz by_ src σ y).run P σ K := by
  rcases h with ⟨rfl, rfl, rfl⟩ | ⟨id, st, rfl, h0, rfl, hst, hne⟩
  · unfold rapp nilS
    cases src with
    | nil => exact hK _ _ (.inl ⟨rfl, rfl, rfl⟩)
    | cons e r =>
      refine ⟨⟨by simpa using hb, by simpa using hn⟩, fun id hid => hK _ _ (.inr ⟨id, 0, rfl, hid, rfl, by simp, by simp⟩)⟩
  · unfold rapp
    simp only [AH.set_same, abRow, ifS_some]
    refine ⟨⟨trivial, trivial, trivial, hb, hn⟩, ?_⟩
    rw [AH.set_set]
    exact hK _ _ (.inr ⟨id, st, by simp, h0, rfl, by simp; omega, by simp [hne]⟩)
/-- Another block. -/
theorem Own.setO (h : Own σ0 σ y es sz t) {b : Nat} (hb : σ b = Option.none ∨ σ0 b ≠ Option.none) (x : AB) : Own (σ0.set b x) (σ.set b x) y es sz t := by
  rcases h with ⟨rfl, rfl, rfl⟩ | ⟨id, st, rfl, h0, rfl, hst, hne⟩
  · exact .inl ⟨rfl, rfl, rfl⟩
  · have hid : id ≠ b := by
      rintro rfl
      rcases hb with hb | hb
      · rw [AH.set_same] at hb; cases hb
      · exact hb h0
    exact .inr ⟨id, st, rfl, by rw [AH.set_other _ hid]; exact h0, AH.set_comm _ _ hid, hst, hne⟩
theorem Own.delO (h : Own σ0 σ y es sz t) {b : Nat} (hb : σ0 b ≠ Option.none) : Own (σ0.del b) (σ.del b) y es sz t := by
  rcases h with ⟨rfl, rfl, rfl⟩ | ⟨id, st, rfl, h0, rfl, hst, hne⟩
  · exact .inl ⟨rfl, rfl, rfl⟩
  · have hid : id ≠ b := by rintro rfl; exact hb h0
    exact .inr ⟨id, st, rfl, by rw [AH.del_ne _ hid]; exact h0, AH.set_del' hid, hst, hne⟩
/-- Less below it. -/
theorem Own.drop (h : Own σ0 σ y es sz t) {τ0 : AH} (hle : τ0.le σ0) : ∃ τ, τ.le σ ∧ Own τ0 τ y es sz t := by
  rcases h with ⟨rfl, rfl, rfl⟩ | ⟨id, st, rfl, h0, rfl, hst, hne⟩
  · exact ⟨_, hle, .inl ⟨rfl, rfl, rfl⟩⟩
  · refine ⟨τ0.set id (.row es sz t st), fun j => ?_, .inr ⟨id, st, rfl, AH.le_none hle h0, rfl, hst, hne⟩⟩
    by_cases hj : j = id
    · subst hj; right; simp [AH.set]
    · rw [AH.set_other _ hj, AH.set_other _ hj]; exact hle j
/-- Two that grow: the lower one is seen as the upper one. -/
theorem Own.swap {σ1 : AH} {y2 : AV} {es2 : List (List AV)} {sz2 : Nat} {t2 : TypeId} (h : Own σ0 σ1 y es sz t) (k : Own σ1 σ y2 es2 sz2 t2) : ∃ σ1', Own σ0 σ1' y2 es2 sz2 t2 ∧ Own σ1' σ y es sz t := by
  rcases k with ⟨rfl, rfl, rfl⟩ | ⟨id, st, rfl, h0, rfl, hst, hne⟩
  · exact ⟨σ0, Own.nil _ _ _, h⟩
  · exact ⟨σ0.set id (.row es2 sz2 t2 st), .inr ⟨id, st, rfl, h.none h0, rfl, hst, hne⟩, h.setO (.inl h0) _⟩
/-- It is handed out. -/
theorem PubL.own {vs rs : List AV} {σ' : AH} (h : Own σ0 σ y es sz t) (k : PubL σ0 vs σ' rs) : PubL σ (y :: vs) σ' (slv es :: rs) := by
  rcases h with ⟨rfl, rfl, rfl⟩ | ⟨id, st, rfl, h0, rfl, hst, hne⟩
  · exact PubL.keep _ k
  · rw [slv_ne hne]
    exact PubL.sl (AH.set_same _ _ _) rfl (by rw [AH.set_del h0]; exact k)
theorem Own.pub {B : Nat} {R : Nat → Prop} {φ : Pl} {w : World} (h : Own σ0 σ y es sz t) (hc : Cfg B R σ φ w) :
    ∃ R', Cfg B R' σ0 φ w ∧ Ext R σ φ w R' σ0 φ w ∧ ∀ u, RV φ R w y u → RV φ R' w (slv es) u := by
  rcases h with ⟨rfl, rfl, rfl⟩ | ⟨id, st, rfl, h0, rfl, hst, hne⟩
  · exact ⟨R, hc, Ext.refl _ _ _ _, fun u h => h⟩
  · obtain ⟨R', h1, h2, h3⟩ := publish hc (AH.set_same _ _ _)
    rw [AH.set_del h0] at h1 h2
    rw [slv_ne hne]
    exact ⟨R', h1, h2, h3⟩
end
theorem AC.pub {P : Program} {f : FuncId} {args : List AV} {σ : AH} {es : List (List AV)} {sz : Nat} {t : TypeId} (h : AC P f args σ fun r σ' => Own σ σ' r es sz t) : AC P f args σ fun r σ' => r = slv es ∧ σ' = σ :=
  ⟨h.1, fun B R φ w us hc hr => (h.2 B R φ w us hc hr).mono fun e w' ⟨u, r, R', σ', φ', h1, h2, h3, h4, h5⟩ => by
    obtain ⟨R'', p1, p2, p3⟩ := h5.pub h2
    exact ⟨u, slv es, R'', σ, φ', h1, p1, h3.trans p2, p3 u h4, rfl, rfl⟩⟩
/-- Temporaries, one of whose values is handed out. -/
def hasP (y v : AV) : Tm → Tm → Prop
  | [], _ => True
  | (t, x) :: r, α => (gt α t = x ∨ (gt α t = y ∧ x = v)) ∧ hasP y v r α
theorem hasP_gt {y v : AV} : ∀ {β α : Tm}, hasP y v β α → ∀ t, gt β t = .un ∨ gt β t = gt α t ∨ (gt α t = y ∧ gt β t = v)
  | [], α, _, t => .inl rfl
  | (k, x) :: r, α, h, t => by
    simp only [gt]
    by_cases hk : k = t
    · subst hk
      rw [if_pos rfl]
      rcases h.1 with h1 | ⟨h1, h2⟩
      · exact .inr (.inl h1.symm)
      · exact .inr (.inr ⟨h1, h2⟩)
    · rw [if_neg hk]; exact hasP_gt h.2 t
theorem AT.pubE {P : Program} {nt : Nat} {rd : Option Nat} {α : Tm} {σ : AH} {Q : Exit → Tm → AH → Prop} {c : Code} {σ0 : AH} {y : AV} {es : List (List AV)} {sz : Nat} {t : TypeId} (ho : Own σ0 σ y es sz t) (β : Tm) (hβ : hasP y (slv es) β α)
    (h : AT P nt rd c Q β σ0) : AT P nt rd c Q α σ :=
  h.ghost fun lo B R φ w a hc ha => by
    obtain ⟨R₁, p1, p2, p3⟩ := ho.pub hc
    have ha' := ha.ext p2
    refine ⟨R₁, p1, ⟨fun t => ?_, ha'.sz, ha'.df, ha'.nd, ha'.rd⟩, p2⟩
    rcases hasP_gt hβ t with h1 | h1 | ⟨h1, h2⟩
    · rw [h1]; exact .un
    · rw [h1]; exact ha'.tm t
    · rw [h2]
      have := ha.tm t
      rw [h1] at this
      exact p3 _ this
/-- A call that makes a slice of its own, in a larger heap. -/
theorem AC.ownF {P : Program} {f : FuncId} {args : List AV} {σ τ : AH} {es : List (List AV)} {sz : Nat} {t : TypeId} (h : AC P f args σ fun r σ' => Own σ σ' r es sz t) (hle : σ.le τ) {K : AV → AH → Prop}
    (hK : ∀ r τ', Own τ τ' r es sz t → K r τ') : AC P f args τ K := (h.frame hle).mono fun r τ' ⟨σ', h1, h2, h3⟩ => hK r τ' (by
  rcases h1 with ⟨rfl, rfl, rfl⟩ | ⟨id, st, rfl, h0, rfl, hst, hne⟩
  · exact .inl ⟨rfl, rfl, by rw [h3, join_self hle]⟩
  · have hid : τ id = none := Classical.byContradiction fun h => by have := h2 id h0 h; rw [AH.set_same] at this; cases this
    refine .inr ⟨id, st, rfl, hid, ?_, hst, hne⟩
    rw [h3]
    funext j
    by_cases hj : j = id
    · subst hj; rw [join_nf (by simp [hid]), AH.set_same, AH.set_same]
    · rw [AH.set_other _ hj]
      by_cases hjn : σ j = none ∧ τ j ≠ none
      · cases hτ : τ j with
        | none => exact absurd hτ hjn.2
        | some b => exact join_fr hjn.1 hτ
      · rw [join_nf hjn, AH.set_other _ hj]
        rcases hle j with h | h
        · have : τ j = none := Classical.byContradiction fun q => hjn ⟨h, q⟩
          rw [this, h]
        · exact h)

/-! ### Loops and meeting ways: what does not change is kept -/
theorem has_app : ∀ {β γ α : Tm}, has β α → has γ α → has (β ++ γ) α
  | [], _, _, _, h => h
  | (t, v) :: r, _, _, h, k => ⟨h.1, has_app h.2 k⟩
theorem has_keep (α : Tm) : ∀ (ks : List Nat), has (keep ks α) α
  | [] => trivial
  | k :: ks => ⟨rfl, has_keep α ks⟩
section
variable {P : Program} {nt : Nat} {rd : Option Nat} {α : Tm} {σ : AH} {Q : Exit → Tm → AH → Prop}
theorem AT.whileK {c : Code} {ι : Type} (ks : List Nat) (chg : ι → Tm) (H : ι → AH → Prop) (μ : ι → Nat) (i₀ : ι) (h0 : Go.Proofs.Ytdimikmgkdcglaa.has (chg i₀) α) (h1 : H i₀ σ)
    (round : ∀ i σ, H i σ → AT P nt rd c (thenQ (fun α' σ' => ∃ j, μ j < μ i ∧ Go.Proofs.Ytdimikmgkdcglaa.has (chg j ++ Go.Proofs.Ytdimikmgkdcglaa.keep ks α) α' ∧ H j σ') Q) (chg i ++ Go.Proofs.Ytdimikmgkdcglaa.keep ks α) σ) : AT P nt rd (.loop c) Q α σ :=
  AT.while (fun i => chg i ++ Go.Proofs.Ytdimikmgkdcglaa.keep ks α) H μ i₀ (has_app h0 (has_keep _ _)) h1 round
theorem AT.cutK {x y : Code} {ι : Type} (ks : List Nat) (chg : ι → Tm) (H : ι → AH → Prop)
    (h1 : AT P nt rd x (thenQ (fun α' σ' => ∃ i, Go.Proofs.Ytdimikmgkdcglaa.has (chg i ++ Go.Proofs.Ytdimikmgkdcglaa.keep ks α) α' ∧ H i σ') Q) α σ)
    (h2 : ∀ i σ', H i σ' → AT P nt rd y Q (chg i ++ Go.Proofs.Ytdimikmgkdcglaa.keep ks α) σ') : AT P nt rd (.seq x y) Q α σ :=
  AT.cut _ h1 fun α' σ' ⟨i, ha, hh⟩ => AT.has _ ha (h2 i σ' hh)
theorem AT.cutS {x y : Code} {ι : Type} (ks : List Nat) (chg : ι → Tm)
    (h1 : AT P nt rd x (thenQ (fun α' σ' => ∃ i, Go.Proofs.Ytdimikmgkdcglaa.has (chg i ++ Go.Proofs.Ytdimikmgkdcglaa.keep ks α) α' ∧ σ' = σ) Q) α σ)
    (h2 : ∀ i, AT P nt rd y Q (chg i ++ Go.Proofs.Ytdimikmgkdcglaa.keep ks α) σ) : AT P nt rd (.seq x y) Q α σ :=
  AT.cut _ h1 fun α' σ' ⟨i, ha, hh⟩ => by rw [hh]; exact AT.has _ ha (h2 i)
theorem AT.cut1 {x y : Code} (ks : List Nat) (chg : Tm)
    (h1 : AT P nt rd x (thenQ (fun α' σ' => Go.Proofs.Ytdimikmgkdcglaa.has (chg ++ Go.Proofs.Ytdimikmgkdcglaa.keep ks α) α' ∧ σ' = σ) Q) α σ)
    (h2 : AT P nt rd y Q (chg ++ Go.Proofs.Ytdimikmgkdcglaa.keep ks α) σ) : AT P nt rd (.seq x y) Q α σ :=
  AT.cut _ h1 fun α' σ' ⟨ha, hh⟩ => by rw [hh]; exact AT.has _ ha h2
end

/-! ### A range over an iterator, the loop's block told apart -/
theorem AH.split (σ : AH) {i : Nat} {b : AB} (h : σ i = some b) : σ = (σ.del i).set i b := (AH.del_set h).symm
theorem AH.set_set_del {σ : AH} {i : Nat} {b c : AB} : (((σ.del i).set i b).set i c) = (σ.del i).set i c := AH.set_set _ _ _ _
section
variable {P : Program} {nt : Nat} {rd : Option Nat} {α : Tm} {σ : AH} {Q : Exit → Tm → AH → Prop}
/-- How a round is left: the loop's block stands as it was. -/
def roundJ (lid : Nat) (L : AB) (J : AH → Prop) (E : Code → AH → Prop) : Exit → Tm → AH → Prop
  | .normal, _, σ => σ lid = some L ∧ J (σ.del lid)
  | .ret, _, σ => σ lid = some L ∧ E .ret (σ.del lid)
  | .exit id, _, σ => σ lid = some L ∧ E (.exit id) (σ.del lid)
  | .goto t, _, σ => σ lid = some L ∧ E (.goto t) (σ.del lid)
  | _, _, _ => False
theorem AT.rangeJ {g : Operand} {ps : Array Tmp} {asg body : Code} {gf : FuncId} {caps : List AV} {n : Nat} {args : Nat → List AV} (hg : ev α g = .fn gf caps)
    (hrd : ∀ r, rd = some r → ∃ st pend nt' al ps' as' bo', σ r = some (.loop st pend nt' al ps' as' bo'))
    (hit : Iter P gf caps n args) (J : Nat → AH → Prop) (E : Code → AH → Prop) (h0 : J 0 σ)
    (hps : ∀ k, ps.size = (args k).length) (hlt : ∀ p ∈ ps.toList, p < nt)
    (hround : ∀ lid k τ Lr L, k < n → τ lid = none → J k τ → L = AB.loop .busy none nt α ps asg body →
      AT P nt (some lid) asg (thenQ (fun α₁ σ₁ => ∃ τ₁ : AH, τ₁ lid = none ∧ σ₁ = τ₁.set lid Lr ∧ AT P nt (some lid) body (roundJ lid L (J (k + 1)) E) α₁ (τ₁.set lid L)) (fun _ _ _ => False)) (putArgs ps.toList (args k) α) (τ.set lid Lr))
    (hend : ∀ σ, J n σ → Q .normal α σ) (hex : ∀ c σ, E c σ → AT P nt rd c Q α σ) : AT P nt rd (.rangeFunc g ps asg body) Q α σ := by
  refine AT.rangeI hg hrd hit J E h0 hps hlt (fun lid k σ' hk h1 h2 => ?_) hend hex
  rw [AH.split σ' h1]
  refine (hround lid k (σ'.del lid) _ _ hk (AH.del_same _ _) h2 rfl).mono ?_
  intro e α₁ σ₁ h
  cases e with
  | normal =>
    obtain ⟨τ₁, q1, rfl, q3⟩ := h
    refine ⟨AH.set_same _ _ _, ?_⟩
    rw [AH.set_set]
    refine q3.mono ?_
    intro e α₂ σ₂ h
    cases e <;> exact h
  | _ => exact h
theorem round_end {lid : Nat} {L : AB} {J : AH → Prop} {τ : AH} (h : τ lid = none) (hJ : J τ) : (τ.set lid L) lid = some L ∧ J ((τ.set lid L).del lid) := ⟨AH.set_same _ _ _, by rw [AH.set_del h]; exact hJ⟩
end

/-! ### A row becomes read only, in one block too -/
theorem Cfg.reset {B : Nat} {R : Nat → Prop} {σ : AH} {φ : Pl} {w : World} (hc : Cfg B R σ φ w) {b : Nat} (hb : σ b ≠ none) {ab : AB} (hB : BOK φ R w b ab) : Cfg B R (σ.set b ab) φ w ∧ Ext R σ φ w R (σ.set b ab) φ w := by
  have hn : ∀ j, (σ.set b ab) j ≠ none → σ j ≠ none := fun j h => by
    by_cases hj : j = b
    · subst hj; exact hb
    · rwa [AH.set_other _ hj] at h
  have hn' : ∀ j, σ j ≠ none → (σ.set b ab) j ≠ none := fun j h => by
    by_cases hj : j = b
    · subst hj; rw [AH.set_same]; simp
    · rwa [AH.set_other _ hj]
  have how : ∀ d, owned (σ.set b ab) φ d → owned σ φ d := fun d ⟨j, n, e, q1, q2⟩ => ⟨j, n, e, hn j q1, q2⟩
  refine ⟨⟨fun j x hj => ?_, fun j j' n n' d c c' h1 h2 => hc.sep j j' n n' d c c' (hn j h1) (hn j' h2), fun j n d c h1 => hc.low j n d c (hn j h1), hc.lt, ?_, hc.bs, fun d hd ho => hc.dj d hd (how d ho), hc.rlt⟩, ?_⟩
  · by_cases hjb : j = b
    · subst hjb; rw [AH.set_same] at hj; injection hj with hj; subst hj; exact hB
    · rw [AH.set_other _ hjb] at hj; exact hc.ok j x hj
  · obtain ⟨N, hN⟩ := hc.fin
    refine ⟨N, fun j hj => ⟨?_, (hN j hj).2⟩⟩
    exact Classical.byContradiction fun h => hn j h (hN j hj).1
  · exact ⟨fun _ _ _ h => h, Nat.le_refl _, fun _ _ _ => rfl, fun d _ ho => how d ho, fun j h1 h2 => absurd h2 (hn j h1), fun _ _ _ _ => rfl, fun _ h => h, fun _ _ _ => rfl, fun _ _ h => .inl h, rfl, rfl, rfl⟩
def AB.frz (id n : Nat) (es : List (List AV)) : AB → AB
  | .box cs t => .box (cs.map (Go.Proofs.Ytdimikmgkdcglaa.frz id n es)) t
  | .row es' sz t st => .row (es'.map fun e => e.map (Go.Proofs.Ytdimikmgkdcglaa.frz id n es)) sz t st
  | x => x
theorem frz_one (id n : Nat) (es : List (List AV)) {c : AV} (h : c.one = true) : (frz id n es c).one = true := by
  cases c <;> first | exact h | (simp only [frz]; split <;> rfl)
theorem AT.freezeIn {P : Program} {nt : Nat} {rd : Option Nat} {α : Tm} {σ : AH} {Q : Exit → Tm → AH → Prop} {c : Code} {id : Nat} {es : List (List AV)} {sz : Nat} {t : TypeId} {st : Nat} (hs : σ id = some (.row es sz t st))
    {b : Nat} {ab : AB} (hb : σ b = some ab) (hne : b ≠ id)
    (h : AT P nt rd c Q (α.map fun p => (p.1, frz id es.length es p.2)) ((σ.del id).set b (ab.frz id es.length es))) : AT P nt rd c Q α σ :=
  h.ghost fun lo B R φ w a hc ha => by
    obtain ⟨R₁, p1, p2, p3⟩ := publish hc hs
    have hF : ∀ x u, RV φ R w x u → RV φ R₁ w (frz id es.length es x) u := fun x u hx => by
      cases x with
      | sl j m =>
        simp only [frz]
        split
        · rename_i hjm
          obtain ⟨rfl, rfl⟩ := hjm
          exact p3 _ hx
        · exact hx.ext p2
      | _ => exact hx.ext p2
    have hC : ∀ (cs : List AV) (C : Array Value) (o : Nat), CellsAt φ R w cs C o → CellsAt φ R₁ w (cs.map (frz id es.length es)) C o := fun cs C o hcs j x hj => by
      rw [List.getElem?_map] at hj
      cases hq : cs[j]? with
      | none => rw [hq] at hj; cases hj
      | some y =>
        rw [hq] at hj
        injection hj with hj
        subst hj
        obtain ⟨h1, v, h2, h3⟩ := hcs j y hq
        exact ⟨frz_one _ _ _ h1, v, h2, hF _ _ h3⟩
    have hB : BOK φ R₁ w b (ab.frz id es.length es) := by
      have hbok := hc.ok b ab hb
      cases hbok with
      | box hp hb' hs' hcs => exact .box hp hb' (by rw [hs']; simp) (hC _ _ _ hcs)
      | row hsz hst hp htop hm =>
        refine .row (fun e he => ?_) (by simpa using hst) (by simpa using hp) (by simpa using htop) (fun m d c h1 h2 h3 => ?_)
        · obtain ⟨e', he', rfl⟩ := List.mem_map.1 he
          simpa using hsz e' he'
        · obtain ⟨a1, a2, C, a3, a4, a5⟩ := hm m d c h1 (by simpa using h2) h3
          refine ⟨a1, a2, C, a3, a4, fun i e hi he => ?_⟩
          rw [List.getElem?_map] at he
          cases hq : (_ : List (List AV))[i]? with
          | none => rw [hq] at he; cases he
          | some y =>
            rw [hq] at he
            injection he with he
            subst he
            exact hC _ _ _ (a5 i y hi hq)
      | map hp hb' hk hd hn hf => exact (BOK.map hp hb' hk hd hn hf).ext p2 (fun _ => rfl) (fun _ _ _ _ => rfl)
      | loop hp hb' h1 h2 h3 h4 h5 h6 h7 => exact (BOK.loop hp hb' h1 h2 h3 h4 h5 h6 h7).ext p2 (fun _ => rfl) (fun _ _ _ _ => rfl)
    obtain ⟨q1, q2⟩ := p1.reset (b := b) (by rw [AH.del_ne _ hne, hb]; simp) hB
    have hE := p2.trans q2
    have ha' := ha.ext hE
    refine ⟨R₁, q1, ⟨fun t => ?_, ha'.sz, ha'.df, ha'.nd, ha'.rd⟩, hE⟩
    rw [gt_map _ rfl]
    exact hF _ _ (ha.tm t)

/-! ### Guarded operations without cases -/
@[simp] theorem ite_val {p : Prop} [Decidable p] (v v' : AV) (σ : AH) : (if p then Res.val v σ else Res.val v' σ) = Res.val (if p then v else v') σ := by split <;> rfl
@[simp] theorem run_ite_req {P : Program} {σ : AH} {K : AV → AH → Prop} {p c : Prop} [Decidable p] (r r' : Res) : (if p then Res.req c r else r').run P σ K ↔ (p → c) ∧ (if p then r else r').run P σ K := by
  by_cases h : p <;> simp [h, Res.run]
@[simp] theorem runQ_ite_req {P : Program} {σ : AH} {K : AV → Prop} {p c : Prop} [Decidable p] (r r' : Res) : (if p then Res.req c r else r').runQ P σ K ↔ (p → c) ∧ (if p then r else r').runQ P σ K := by
  by_cases h : p <;> simp [h, Res.runQ]
@[simp] theorem run_ite_req' {P : Program} {σ : AH} {K : AV → AH → Prop} {p c : Prop} [Decidable p] (r r' : Res) : (if p then r' else Res.req c r).run P σ K ↔ (¬p → c) ∧ (if p then r' else r).run P σ K := by
  by_cases h : p <;> simp [h, Res.run]
@[simp] theorem runQ_ite_req' {P : Program} {σ : AH} {K : AV → Prop} {p c : Prop} [Decidable p] (r r' : Res) : (if p then r' else Res.req c r).runQ P σ K ↔ (¬p → c) ∧ (if p then r' else r).runQ P σ K := by
  by_cases h : p <;> simp [h, Res.runQ]
@[simp] theorem ite_scb {p : Prop} [Decidable p] (a b : Bool) : (if p then AV.sc (.bool a) else AV.sc (.bool b)) = AV.sc (.bool (if p then a else b)) := by split <;> rfl
@[simp] theorem ite_sci {p : Prop} [Decidable p] (k : IntKind) (a b : Int) : (if p then AV.sc (.int k a) else AV.sc (.int k b)) = AV.sc (.int k (if p then a else b)) := by split <;> rfl
@[congr] theorem iteRes_congr {p q : Prop} [Decidable p] [Decidable q] {a b c d : Res} (h : p = q) (h1 : q → a = c) (h2 : ¬q → b = d) : (if p then a else b) = (if q then c else d) := by
  subst h
  split
  · rename_i hp; exact h1 hp
  · rename_i hp; exact h2 hp
@[congr] theorem iteAV_congr {p q : Prop} [Decidable p] [Decidable q] {a b c d : AV} (h : p = q) (h1 : q → a = c) (h2 : ¬q → b = d) : (if p then a else b) = (if q then c else d) := by
  subst h
  split
  · rename_i hp; exact h1 hp
  · rename_i hp; exact h2 hp
@[congr] theorem Res.run_congr {P : Program} {σ : AH} {K : AV → AH → Prop} {r r' : Res} (h : r = r') : Res.run P σ K r = Res.run P σ K r' := by rw [h]
@[congr] theorem Res.runQ_congr {P : Program} {σ : AH} {K : AV → Prop} {r r' : Res} (h : r = r') : Res.runQ P σ K r = Res.runQ P σ K r' := by rw [h]
@[congr] theorem ifS_congr {α : Type} {x x' : Option α} {f : α → Res} (h : x = x') : ifS x f = ifS x' f := by rw [h]
def gsel : Bool → AV → AV → AV
  | true, v, _ => v
  | false, _, e => e
@[simp] theorem gsel_true (v e : AV) : gsel true v e = v := rfl
@[simp] theorem gsel_false (v e : AV) : gsel false v e = e := rfl
@[congr] theorem gsel_congr {b b' : Bool} {v e : AV} (h : b = b') : gsel b v e = gsel b' v e := by rw [h]
def evO (α : Tm) : List Operand → List AV
  | [] => []
  | o :: r => ev α o :: evO α r
def evP (α : Tm) : List (Nat × Operand) → List (Nat × AV)
  | [] => []
  | (i, o) :: r => (i, ev α o) :: evP α r
@[simp ↓] theorem map_evO (α : Tm) : ∀ l : List Operand, List.map (ev α) l = evO α l
  | [] => rfl
  | o :: r => by simp only [List.map_cons, evO, map_evO α r]
@[simp ↓] theorem map_evP (α : Tm) : ∀ l : List (Nat × Operand), List.map (fun p => (p.1, ev α p.2)) l = evP α l
  | [] => rfl
  | (i, o) :: r => by simp only [List.map_cons, evP, map_evP α r]
theorem splice_zero (cs vs : List AV) : splice cs 0 vs = vs ++ cs.drop vs.length := by simp [splice]
theorem splice_succ (c : AV) (cs : List AV) (n : Nat) (vs : List AV) : splice (c :: cs) (n + 1) vs = c :: splice cs n vs := by
  have : n + 1 + vs.length = n + vs.length + 1 := by omega
  simp [splice, this]

/-! ### A region piece by piece -/
def dmx : List Oper → Nat → List (Nat × Nat) → List (Nat × Nat)
  | [], _, dm => dm
  | o :: r, i, dm => dmx r (i + 1) (match o.dst with | some d => (i, d) :: dm | none => dm)
section
variable {P : Program} {nt : Nat} {owns : List Tmp} {K : Tm → AH → Prop}
theorem vops_mono {K' : Tm → AH → Prop} (hk : ∀ α σ, K α σ → K' α σ) : ∀ (ops : List Oper) (i : Nat) (dm : List (Nat × Nat)) (α : Tm) (σ : AH), vops P nt owns i dm ops α σ K → vops P nt owns i dm ops α σ K'
  | [], i, dm, α, σ, h => by unfold vops at h ⊢; exact hk _ _ h
  | o :: r, i, dm, α, σ, h => by
    rw [vops] at h ⊢
    have hs : ∀ v σ', (match o.dst with | some d => d < nt ∧ vops P nt owns (i + 1) ((i, d) :: dm) r ((d, v) :: α) σ' K | none => vops P nt owns (i + 1) dm r α σ' K) →
        (match o.dst with | some d => d < nt ∧ vops P nt owns (i + 1) ((i, d) :: dm) r ((d, v) :: α) σ' K' | none => vops P nt owns (i + 1) dm r α σ' K') := fun v σ' h => by
      cases hd : o.dst with
      | none => rw [hd] at h; exact vops_mono hk r _ _ _ _ h
      | some d => rw [hd] at h; exact ⟨h.1, vops_mono hk r _ _ _ _ h.2⟩
    cases hg : o.guard with
    | none => rw [hg] at h; exact vop_mono hs h
    | some p =>
      obtain ⟨j, want⟩ := p
      rw [hg] at h
      obtain ⟨g, t, h1, h2, h3⟩ := h
      refine ⟨g, t, h1, h2, ?_⟩
      by_cases htw : t = some want
      · rw [if_pos htw] at h3 ⊢; exact vop_mono hs h3
      · rw [if_neg htw] at h3 ⊢; exact hs (.tu []) σ h3
theorem vops_app (post : List Oper) : ∀ (pre : List Oper) (i : Nat) (dm : List (Nat × Nat)) (α : Tm) (σ : AH), vops P nt owns i dm pre α σ (fun α σ => vops P nt owns (i + pre.length) (dmx pre i dm) post α σ K) → vops P nt owns i dm (pre ++ post) α σ K
  | [], i, dm, α, σ, h => by unfold vops at h; exact h
  | o :: r, i, dm, α, σ, h => by
    rw [List.cons_append]
    rw [vops] at h ⊢
    have hlen : i + (o :: r).length = i + 1 + r.length := by simp; omega
    have hs : ∀ v σ', (match o.dst with | some d => d < nt ∧ vops P nt owns (i + 1) ((i, d) :: dm) r ((d, v) :: α) σ' (fun α σ => vops P nt owns (i + (o :: r).length) (dmx (o :: r) i dm) post α σ K) | none => vops P nt owns (i + 1) dm r α σ' (fun α σ => vops P nt owns (i + (o :: r).length) (dmx (o :: r) i dm) post α σ K)) →
        (match o.dst with | some d => d < nt ∧ vops P nt owns (i + 1) ((i, d) :: dm) (r ++ post) ((d, v) :: α) σ' K | none => vops P nt owns (i + 1) dm (r ++ post) α σ' K) := fun v σ' h => by
      cases hd : o.dst with
      | none =>
        rw [hd] at h
        refine vops_app post r _ _ _ _ (vops_mono (fun α σ h => ?_) r _ _ _ _ h)
        rw [hlen] at h
        simpa only [dmx, hd] using h
      | some d =>
        rw [hd] at h
        refine ⟨h.1, vops_app post r _ _ _ _ (vops_mono (fun α σ h => ?_) r _ _ _ _ h.2)⟩
        rw [hlen] at h
        simpa only [dmx, hd] using h
    cases hg : o.guard with
    | none => rw [hg] at h; exact vop_mono hs h
    | some p =>
      obtain ⟨j, want⟩ := p
      rw [hg] at h
      obtain ⟨g, t, h1, h2, h3⟩ := h
      refine ⟨g, t, h1, h2, ?_⟩
      by_cases htw : t = some want
      · rw [if_pos htw] at h3 ⊢; exact vop_mono hs h3
      · rw [if_neg htw] at h3 ⊢; exact hs (.tu []) σ h3
theorem vops_cut (n : Nat) {ops : List Oper} {i : Nat} {dm : List (Nat × Nat)} {α : Tm} {σ : AH}
    (h : ∀ K' : Tm → AH → Prop, (∀ α σ, vops P nt owns (i + (ops.take n).length) (dmx (ops.take n) i dm) (ops.drop n) α σ K → K' α σ) → dops P nt owns (ops.take n) i dm α σ K') : vops P nt owns i dm ops α σ K := by
  have := vops_app (P := P) (nt := nt) (owns := owns) (K := K) (ops.drop n) (ops.take n) i dm α σ (dops_ok _ _ _ _ _ (h _ fun _ _ h => h))
  rwa [List.take_append_drop] at this
theorem vops_end {ops : List Oper} {i : Nat} {dm : List (Nat × Nat)} {α : Tm} {σ : AH}
    (h : ∀ K' : Tm → AH → Prop, (∀ α σ, K α σ → K' α σ) → dops P nt owns ops i dm α σ K') : vops P nt owns i dm ops α σ K := dops_ok _ _ _ _ _ (h _ fun _ _ h => h)
end

/-- A guard that asks for true, or for false: the condition as it stands. -/
def gsw (t : Option Bool) (want : Bool) (a e : Res) : Res := if t = some want then a else e
theorem gsw_eq (t : Option Bool) (want : Bool) (a e : Res) : gsw t want a e = if t = some want then a else e := rfl
@[simp ↓] theorem gsw_T (b : Bool) (a e : Res) : gsw (some b) true a e = if b = true then a else e := by cases b <;> rfl
@[simp ↓] theorem gsw_F (b : Bool) (a e : Res) : gsw (some b) false a e = if b = true then e else a := by cases b <;> rfl
@[simp ↓] theorem gsw_N (w : Bool) (a e : Res) : gsw none w a e = e := rfl
/-! ### Operations from the front: worked out before their parts are looked into -/
section
variable {P : Program} {nt : Nat} {owns : List Tmp} {i : Nat} {dm : List (Nat × Nat)} {α : Tm} {σ : AH} {K : Tm → AH → Prop} {KQ : Tm → Prop} {rest : List Oper} {ms : List Bool} {F : Nat → List (Nat × Nat) → Tm → AH → (Tm → AH → Prop) → Prop} {FQ : Nat → List (Nat × Nat) → Tm → (Tm → Prop) → Prop} {v : AV} {d : Tmp} {o : Oper}
@[simp ↓] theorem dops_nil' : dops P nt owns [] i dm α σ K = K α σ := rfl
@[simp ↓] theorem dops_cons' : dops P nt owns (o :: rest) i dm α σ K = (gev P owns dm o α σ).run P σ (dput nt i dm α (dops P nt owns rest) K o.dst) := rfl
@[simp ↓] theorem dput_some' : dput nt i dm α F K (some d) v σ = (d < nt ∧ F (i + 1) ((i, d) :: dm) ((d, v) :: α) σ K) := rfl
@[simp ↓] theorem dput_none' : dput nt i dm α F K none v σ = F (i + 1) dm α σ K := rfl
@[simp ↓] theorem dputQ' : dputQ nt i dm α FQ KQ d v = FQ (i + 1) ((i, d) :: dm) ((d, v) :: α) KQ := rfl
@[simp ↓] theorem dputL_some' : dputL i dm α F K (some d) v σ = F (i + 1) ((i, d) :: dm) ((d, v) :: α) σ K := rfl
@[simp ↓] theorem dputL_none' : dputL i dm α F K none v σ = F (i + 1) dm α σ K := rfl
@[simp ↓] theorem dthen' {ops : List Oper} : dthen P nt owns ops ms σ K α = dls P nt owns ops ms 0 [] α σ K := rfl
@[simp ↓] theorem dqs_nil' : dqs P nt owns σ [] ms i dm α KQ = KQ α := by cases ms <;> rfl
@[simp ↓] theorem dqs_f' : dqs P nt owns σ (o :: rest) (false :: ms) i dm α KQ = dqs P nt owns σ rest ms (i + 1) dm α KQ := by simp only [dqs, Bool.false_eq_true, if_false]
@[simp ↓] theorem dls_nil' : dls P nt owns [] ms i dm α σ K = K α σ := by cases ms <;> rfl
@[simp ↓] theorem dls_f' : dls P nt owns (o :: rest) (false :: ms) i dm α σ K = (dlt nt o.dst ∧ (gev P owns dm o α σ).run P σ (dputL i dm α (dls P nt owns rest ms) K o.dst)) := by simp only [dls, Bool.false_eq_true, if_false]
@[simp ↓] theorem run_val' {K : AV → AH → Prop} {σ' : AH} : Res.run P σ K (.val v σ') = K v σ' := rfl
@[simp ↓] theorem runQ_val' {K : AV → Prop} {σ' : AH} : Res.runQ P σ K (.val v σ') = K v := rfl
variable {op : Op} {ty : TypeId} {pos : String} {after : Array Edge} {dst : Option Tmp} {g : Option (Nat × Bool)}
@[simp ↓] theorem dqs_t' : dqs P nt owns σ (⟨some d, op, ty, pos, after, g⟩ :: rest) (true :: ms) i dm α KQ = ((d < nt ∧ qok owns ⟨some d, op, ty, pos, after, g⟩ = true) ∧ (gev P owns dm ⟨some d, op, ty, pos, after, g⟩ α σ).runQ P σ (dputQ nt i dm α (dqs P nt owns σ rest ms) KQ d)) := by simp only [dqs, if_true]
@[simp ↓] theorem dls_t' : dls P nt owns (⟨some d, op, ty, pos, after, g⟩ :: rest) (true :: ms) i dm α σ K = dls P nt owns rest ms (i + 1) ((i, d) :: dm) α σ K := by simp only [dls, if_true]
@[simp ↓] theorem dls_tn' : dls P nt owns (⟨none, op, ty, pos, after, g⟩ :: rest) (true :: ms) i dm α σ K = dls P nt owns rest ms (i + 1) dm α σ K := by simp only [dls, if_true]
@[simp ↓] theorem gev_none' : gev P owns dm ⟨dst, op, ty, pos, after, none⟩ α σ = oev P owns ⟨dst, op, ty, pos, after, none⟩ α σ := rfl
@[simp ↓] theorem gev_some' {j : Nat} {want : Bool} : gev P owns dm ⟨dst, op, ty, pos, after, some (j, want)⟩ α σ = ifS (glook dm j) fun g => ifS (avG (gt α g)) fun t => gsw t want (oev P owns ⟨dst, op, ty, pos, after, some (j, want)⟩ α σ) (.val (.tu []) σ) := by
  unfold gev
  simp only [gsw_eq]
@[simp ↓] theorem ev_tmp' {t : Tmp} : ev α (.tmp t) = gt α t := rfl
@[simp ↓] theorem ev_const' {v : Value} : ev α (.const v) = constAV v := rfl
@[simp ↓] theorem ev_func' {f : FuncId} : ev α (.func f) = .fn f [] := rfl
@[simp ↓] theorem gt_nil (t : Nat) : gt [] t = .un := rfl
@[simp ↓] theorem gt_sel (k : Nat) (v : AV) (r : Tm) (t : Nat) : gt ((k, v) :: r) t = gsel (k == t) v (gt r t) := by
  simp only [gt]
  by_cases h : k = t
  · subst h; simp
  · rw [if_neg h, beq_false_of_ne h]; rfl
@[simp ↓] theorem oev_move1 {x : Operand} : oev P owns ⟨dst, .move x, ty, pos, after, g⟩ α σ = .val (ev α x) σ := rfl
@[simp ↓] theorem oev_assign2 {x : Operand} : oev P owns ⟨dst, .assign x, ty, pos, after, g⟩ α σ = .val (ev α x) σ := rfl
@[simp ↓] theorem oev_pick3 {c a b : Operand} : oev P owns ⟨dst, .pick c a b, ty, pos, after, g⟩ α σ = ifS (avB (ev α c)) fun t => .val (if t then ev α a else ev α b) σ := rfl
@[simp ↓] theorem oev_alloc4 {t : TypeId} : oev P owns ⟨dst, .alloc t, ty, pos, after, g⟩ α σ = ifS (zcells P t) fun cs => .newB cs t := rfl
@[simp ↓] theorem oev_box5 {t : TypeId} {x : Operand} : oev P owns ⟨dst, .box t x, ty, pos, after, g⟩ α σ = .req (AV.allOne (ev α x).cells = true) (if dst.any owns.contains then .newB (ev α x).cells t else .val (.pr (ev α x).cells 0) σ) := rfl
@[simp ↓] theorem oev_build6 {t : TypeId} {parts : Array (Nat × Operand)} : oev P owns ⟨dst, .build t parts, ty, pos, after, g⟩ α σ = ifS (tplaces P t) fun place => ifS (zcells P t) fun zs => ifS (afill place zs (parts.toList.map fun p => (p.1, ev α p.2))) fun cs => .val (.ag cs) σ := rfl
@[simp ↓] theorem oev_buildSlice7 {t : TypeId} {len : Nat} {parts : Array (Nat × Operand)} : oev P owns ⟨dst, .buildSlice t len parts, ty, pos, after, g⟩ α σ = ifS (tslice P t) fun el => ifS (zcells P el) fun zs => .req (tsz P el = some zs.length ∧ len * zs.length ≤ 16777216 ∧ len ≤ 16777216) (ifS (asfill zs.length (List.replicate len zs) (parts.toList.map fun p => (p.1, ev α p.2))) fun es => if dst.any owns.contains then .newR len es zs.length el else .val (.ro es) σ) := rfl
@[simp ↓] theorem oev_load8 {t : TypeId} {x : Operand} : oev P owns ⟨dst, .load t x, ty, pos, after, g⟩ α σ = ifS (aload P σ t (ev α x)) fun v => .val v σ := rfl
@[simp ↓] theorem oev_store9 {t : TypeId} {x v : Operand} : oev P owns ⟨dst, .store t x v, ty, pos, after, g⟩ α σ = ifS (astore P σ t (ev α x) (ev α v)) fun σ' => .val .un σ' := rfl
@[simp ↓] theorem oev_nilCheck10 {x : Operand} : oev P owns ⟨dst, .nilCheck x, ty, pos, after, g⟩ α σ = .req ((ev α x).isPtr = true) (.val (ev α x) σ) := rfl
@[simp ↓] theorem oev_binOp11 {op : BinOp} {t z : TypeId} {x y : Operand} : oev P owns ⟨dst, .binOp op t x y z, ty, pos, after, g⟩ α σ = rbin P op t x y σ (ev α x) (ev α y) := rfl
@[simp ↓] theorem oev_unOp12 {op : UnOp} {u : TypeId} {x : Operand} : oev P owns ⟨dst, .unOp op u x, ty, pos, after, g⟩ α σ = run1 op σ (ev α x) := rfl
@[simp ↓] theorem oev_convert13 {src dst2 : TypeId} {x : Operand} : oev P owns ⟨dst, .convert src dst2 x, ty, pos, after, g⟩ α σ = .req (hasU P src = true) (ifS (tint P dst2) fun k => ifS (avI (ev α x)) fun p => .val (.sc (.int k (k.wrap p.2))) σ) := rfl
@[simp ↓] theorem oev_makeFunc14 {f : FuncId} {first : Array Operand} {caps : Array Operand} : oev P owns ⟨dst, .makeFunc (.func f) first caps, ty, pos, after, g⟩ α σ = .req (first.toList = []) (.val (.fn f (caps.toList.map (ev α))) σ) := rfl
@[simp ↓] theorem oev_makeMap15 {t : TypeId} : oev P owns ⟨dst, .makeMap t none, ty, pos, after, g⟩ α σ = ifS (tkl P t) fun kl => .newM kl := rfl
@[simp ↓] theorem oev_makeSlice16 {t : TypeId} {l c : Operand} : oev P owns ⟨dst, .makeSlice t l c, ty, pos, after, g⟩ α σ = ifS (tslice P t) fun el => ifS (zcells P el) fun zs => .req (tsz P el = some zs.length) (ifS (tbytes P el) fun by_ => ifS (avI (ev α l)) fun l' => ifS (avI (ev α c)) fun c' => .req (0 ≤ l'.2 ∧ l'.2 ≤ c'.2 ∧ (by_ : Int) * c'.2 ≤ 281474976710656 ∧ c'.2 ≤ 281474976710656) (.newR l'.2.toNat (List.replicate l'.2.toNat zs) zs.length el)) := rfl
@[simp ↓] theorem oev_slice17 {t : TypeId} {x : Operand} {lo hi mx : Option Operand} : oev P owns ⟨dst, .slice t x lo hi mx, ty, pos, after, g⟩ α σ = rslice P t (lo.map (ev α)) (hi.map (ev α)) (mx.map (ev α)) σ (ev α x) := rfl
@[simp ↓] theorem oev_fieldAddr18 {s : TypeId} {x : Operand} {f : Nat} : oev P owns ⟨dst, .fieldAddr s x f, ty, pos, after, g⟩ α σ = .req ((ev α x).isPtr = true) (ifS (tfield P s f) fun off => .val ((ev α x).plus off) σ) := rfl
@[simp ↓] theorem oev_indexAddr19 {t : TypeId} {x i : Operand} : oev P owns ⟨dst, .indexAddr t x i, ty, pos, after, g⟩ α σ = ifS (avI (ev α i)) fun p => .req (0 ≤ p.2) (ridx P t p.2 σ (ev α x)) := rfl
@[simp ↓] theorem oev_index20 {t : TypeId} {x i : Operand} : oev P owns ⟨dst, .index t x i, ty, pos, after, g⟩ α σ = ifS (avI (ev α i)) fun p => .req (0 ≤ p.2) (ifS (avA (ev α x)) fun cs => ifS (tarray P t) fun q => .req (p.2 < q.1 ∧ tsz P q.2 = some 1 ∧ tagg P q.2 = some false) (ifS cs[p.2.toNat]? fun c => .val c σ)) := rfl
@[simp ↓] theorem oev_field21 {t : TypeId} {x : Operand} {f : Nat} : oev P owns ⟨dst, .field t x f, ty, pos, after, g⟩ α σ = ifS (avA (ev α x)) fun cs => ifS (tfld P t f) fun q => .req (q.2 = false) (ifS cs[q.1]? fun c => .val c σ) := rfl
@[simp ↓] theorem oev_lookup22 {t : TypeId} {m k : Operand} {ok : Bool} : oev P owns ⟨dst, .lookup t m k ok, ty, pos, after, g⟩ α σ = ifS (avM (ev α m)) fun id => ifS (abMap (σ id)) fun p => ifS (akey (ev α k)) fun ks => .req (ks.length = p.2) (ifS (tmap P t) fun q => .req (KeyOps P q.1 p.2) (ifS (azero P q.2) fun z => .val (if ok = true then .tu [(p.1 ks).getD z, .sc (.bool (p.1 ks).isSome)] else (p.1 ks).getD z) σ)) := rfl
@[simp ↓] theorem oev_mapUpdate23 {t : TypeId} {m k x : Operand} : oev P owns ⟨dst, .mapUpdate t m k x, ty, pos, after, g⟩ α σ = ifS (avM (ev α m)) fun id => ifS (abMap (σ id)) fun p => ifS (akey (ev α k)) fun ks => .req (ks.length = p.2) (ifS (tmap P t) fun q => .req (KeyOps P q.1 p.2) (.val .un (σ.set id (.map (mupd p.1 ks (ev α x)) p.2)))) := rfl
@[simp ↓] theorem oev_insert24 {t : TypeId} {m k x : Operand} : oev P owns ⟨dst, .insert t m k x, ty, pos, after, g⟩ α σ = ifS (avM (ev α m)) fun id => ifS (abMap (σ id)) fun p => ifS (akey (ev α k)) fun ks => .req (ks.length = p.2) (ifS (tmap P t) fun q => .req (KeyOps P q.1 p.2) (.val .un (σ.set id (.map (mupd p.1 ks (ev α x)) p.2)))) := rfl
@[simp ↓] theorem oev_extract25 {x : Operand} {i : Nat} : oev P owns ⟨dst, .extract x i, ty, pos, after, g⟩ α σ = ifS (avT (ev α x)) fun vs => ifS vs[i]? fun v => .val v σ := rfl
@[simp ↓] theorem oev_call26 {c : Call} : oev P owns ⟨dst, .call c, ty, pos, after, g⟩ α σ = rcall P c α σ := rfl
end

@[simp] theorem rdS_ro (σ : AH) (es : List (List AV)) : rdS σ (.ro es) = some es := rfl
@[simp] theorem rdS_nil (σ : AH) : rdS σ (.sc (.slice none 0 0)) = some [] := rfl
@[simp] theorem rdS_sl (σ : AH) (id n : Nat) : rdS σ (.sl id n) = match σ id with
    | some (.row es _ _ st) => if st ≤ n ∧ n ≤ es.length then some (es.take n) else none
    | _ => none := rfl
@[simp] theorem eIs_all (l : List Int) : (∀ e, e ∈ eIs l → e.length = 1) ↔ True := by
  refine ⟨fun _ => trivial, fun _ e he => ?_⟩
  obtain ⟨n, _, rfl⟩ := List.mem_map.1 he
  rfl
@[simp] theorem eN_all (l : List Nd) : (∀ e, e ∈ eN l → e.length = 34) ↔ True := by
  refine ⟨fun _ => trivial, fun _ e he => ?_⟩
  obtain ⟨n, _, rfl⟩ := List.mem_map.1 he
  rfl

/-! ### What the walks work out by themselves -/
attribute [simp] Res.run Res.runQ dmx evO evP and_assoc Value.cells beqI bneI asfill afill splice_zero splice_succ List.replicate AV.isPtr AV.plus ifS_some avG avI avB avM avA avT abMap abRow rcall rbin run1 ridx rslice qok vmax vstep ofInt? constAV argTm glook dlt aload astore ptCells eI eB AH.set_same AH.set_none AH.set_set nilS AH.set_other eIs_at eN_at eIs_len eN_len wI bound putArgs List.getElem?_cons_zero List.getElem?_cons_succ

end Go.Proofs.Ytdimikmgkdcglaa
