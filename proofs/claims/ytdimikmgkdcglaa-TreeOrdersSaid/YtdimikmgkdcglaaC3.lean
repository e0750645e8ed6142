/- Helpers for the walks: the heap's updates, loops with a listed frame, slices that are read. No conditions. -/
import Derived.Test.YtdimikmgkdcglaaC2
set_option linter.unusedVariables false
set_option linter.unusedSimpArgs false
namespace Go.Proofs.Ytdimikmgkdcglaa
open Go.RowKit

/-! ### The heap's updates -/
theorem AH.set_other {σ : AH} {i j : Nat} (b : AB) (h : j ≠ i) : (σ.set i b) j = σ j := by simp [AH.set, h]
theorem AH.set_none {σ : AH} {i j : Nat} {b : AB} : (σ.set i b) j = none ↔ j ≠ i ∧ σ j = none := by
  unfold AH.set
  split
  · rename_i h; simp [h]
  · rename_i h; simp [h]
theorem AH.set_set (σ : AH) (i : Nat) (b c : AB) : (σ.set i b).set i c = σ.set i c := by
  funext j
  unfold AH.set
  split <;> rfl
theorem AH.set_comm {σ : AH} {i j : Nat} (b c : AB) (h : i ≠ j) : (σ.set i b).set j c = (σ.set j c).set i b := by
  funext k
  unfold AH.set
  by_cases h1 : k = i
  · subst h1; simp [h]
  · simp [h1]
/-- An update of the block below. -/
theorem AH.set_upd {σ : AH} {i j : Nat} (b b' c : AB) (h : i ≠ j) : ((σ.set i b).set j c).set i b' = (σ.set i b').set j c := by
  rw [AH.set_comm c b' (Ne.symm h), AH.set_set]
theorem AH.set_upd2 {σ : AH} {i j k : Nat} (b b' c d : AB) (h : i ≠ j) (h2 : i ≠ k) : (((σ.set i b).set j c).set k d).set i b' = ((σ.set i b').set j c).set k d := by
  rw [AH.set_comm d b' (Ne.symm h2), AH.set_upd b b' c h]
theorem AH.set_upd3 {σ : AH} {i j k l : Nat} (b b' c d e : AB) (h : i ≠ j) (h2 : i ≠ k) (h3 : i ≠ l) : ((((σ.set i b).set j c).set k d).set l e).set i b' = (((σ.set i b').set j c).set k d).set l e := by
  rw [AH.set_comm e b' (Ne.symm h3), AH.set_upd2 b b' c d h h2]
theorem AH.set_self {σ : AH} {i : Nat} {b : AB} (h : σ i = some b) : σ.set i b = σ := by
  funext j
  unfold AH.set
  split
  · rename_i hj; rw [hj, h]
  · rfl

/-! ### A loop whose frame is listed -/
def has : Tm → Tm → Prop
  | [], _ => True
  | (t, v) :: r, α => gt α t = v ∧ has r α
theorem has_le : ∀ {β α : Tm}, has β α → β.le α
  | [], α, _ => fun t => .inl rfl
  | (k, v) :: r, α, h => fun t => by
    simp only [gt]
    by_cases hk : k = t
    · subst hk
      rw [if_pos rfl]
      exact .inr h.1.symm
    · rw [if_neg hk]
      exact has_le h.2 t

section rules
variable {P : Program} {nt : Nat} {rd : Option Nat} {α : Tm} {σ : AH} {Q : Exit → Tm → AH → Prop}
theorem AT.has {c : Code} (β : Tm) (h : has β α) (hc : AT P nt rd c Q β σ) : AT P nt rd c Q α σ := AT.weaken (has_le h) hc
theorem AT.while {c : Code} {ι : Type} (env : ι → Tm) (H : ι → AH → Prop) (μ : ι → Nat) (i₀ : ι) (h0 : Go.Proofs.Ytdimikmgkdcglaa.has (env i₀) α) (h1 : H i₀ σ)
    (round : ∀ i σ, H i σ → AT P nt rd c (thenQ (fun α' σ' => ∃ j, μ j < μ i ∧ Go.Proofs.Ytdimikmgkdcglaa.has (env j) α' ∧ H j σ') Q) (env i) σ) : AT P nt rd (.loop c) Q α σ :=
  AT.loop (fun n α σ => ∃ i, μ i = n ∧ Go.Proofs.Ytdimikmgkdcglaa.has (env i) α ∧ H i σ) (μ i₀) ⟨i₀, rfl, h0, h1⟩ fun n α σ ⟨i, hi, ha, hh⟩ =>
    AT.has _ ha ((round i σ hh).mono fun e α' σ' h => by
      cases e with
      | normal => obtain ⟨j, h1, h2, h3⟩ := h; exact ⟨μ j, by omega, j, rfl, h2, h3⟩
      | _ => exact h)
end rules

/-! ### Slices that are read -/
def eI (n : Int) : AV := .sc (.int .i64 n)
def eB (b : Bool) : AV := .sc (.bool b)
def eIs (l : List Int) : List (List AV) := l.map fun n => [eI n]
/-- A slice of read-only blocks, or nil. -/
structure IsS (x : AV) (es : List (List AV)) : Prop where
  len : slen x = some es.length
  ro : es ≠ [] → x = .ro es
theorem IsS.mk_ro (es : List (List AV)) : IsS (.ro es) es := ⟨rfl, fun _ => rfl⟩
theorem IsS.mk_nil : IsS nilS [] := ⟨rfl, fun h => absurd rfl h⟩
theorem IsS.at {x : AV} {es : List (List AV)} (h : IsS x es) {i : Nat} {e : List AV} (he : es[i]? = some e) : x = .ro es := h.ro fun h0 => by rw [h0] at he; simp at he
theorem eIs_len (l : List Int) : (eIs l).length = l.length := by simp [eIs]
theorem eIs_get {l : List Int} {i : Nat} {n : Int} (h : l[i]? = some n) : (eIs l)[i]? = some [eI n] := by simp [eIs, h]
theorem wI {n : Int} (h1 : -9223372036854775808 ≤ n) (h2 : n ≤ 9223372036854775807) : IntKind.i64.wrap n = n := by rw [IntKind.wrap_i64]; omega
@[simp] theorem allOne_nil : AV.allOne [] = true := rfl
@[simp] theorem allOne_cons (c : AV) (cs : List AV) : AV.allOne (c :: cs) = (c.one && AV.allOne cs) := rfl
@[simp] theorem one_sc (v : Value) : (AV.sc v).one = true := rfl
@[simp] theorem one_ro (es : List (List AV)) : (AV.ro es).one = true := rfl
@[simp] theorem one_sl (i n : Nat) : (AV.sl i n).one = true := rfl
@[simp] theorem one_pt (i n : Nat) : (AV.pt i n).one = true := rfl
@[simp] theorem one_pr (cs : List AV) (n : Nat) : (AV.pr cs n).one = true := rfl
@[simp] theorem one_mp (i : Nat) : (AV.mp i).one = true := rfl
@[simp] theorem one_yl (i : Nat) : (AV.yl i).one = true := rfl
@[simp] theorem one_fn (f : FuncId) (cs : List AV) : (AV.fn f cs).one = true := rfl
theorem AC.q {P : Program} {f : FuncId} {args : List AV} {σ : AH} {v : AV} (h : AC P f args σ fun r σ' => r = v ∧ σ' = σ) {K : AV → AH → Prop} (hK : K v σ) : AC P f args σ K := h.frameQ (AH.le_refl _) hK
@[simp] theorem cells_ag (cs : List AV) : (AV.ag cs).cells = cs := rfl
@[simp] theorem cells_sc (v : Value) : (AV.sc v).cells = [AV.sc v] := rfl
@[simp] theorem cells_ro (es : List (List AV)) : (AV.ro es).cells = [AV.ro es] := rfl
@[simp] theorem cells_sl (i n : Nat) : (AV.sl i n).cells = [AV.sl i n] := rfl
@[simp] theorem cells_pt (i n : Nat) : (AV.pt i n).cells = [AV.pt i n] := rfl
@[simp] theorem cells_pr (cs : List AV) (n : Nat) : (AV.pr cs n).cells = [AV.pr cs n] := rfl
@[simp] theorem cells_mp (i : Nat) : (AV.mp i).cells = [AV.mp i] := rfl
@[simp] theorem cells_yl (i : Nat) : (AV.yl i).cells = [AV.yl i] := rfl
@[simp] theorem cells_fn (f : FuncId) (cs : List AV) : (AV.fn f cs).cells = [AV.fn f cs] := rfl
theorem beqI (a b : Int) : (a == b) = decide (a = b) := rfl
theorem bneI (a b : Int) : (a != b) = !decide (a = b) := rfl
theorem blockQ_exit {id : Nat} {Q : Exit → Tm → AH → Prop} {α : Tm} {σ : AH} (h : Q .normal α σ) : blockQ id Q (.exit id) α σ := by
  simp only [blockQ, if_true]
  exact h
/-- Returning values that are kept; the function's own blocks are dropped. -/
theorem ret_keep {P : Program} {fn : Func} {K : AV → AH → Prop} {α : Tm} {σ σ' : AH} {vs : List AV} (hv : ares P σ' α fn.results.toList = some vs) (hle : σ.le σ') (hK : K (aret vs) σ) : retQ P fn K .ret α σ' := by
  refine ⟨vs, vs, σ, hv, ?_, hK⟩
  clear hv hK
  induction vs with
  | nil => exact PubL.nil hle
  | cons v vs ih => exact PubL.keep v ih
theorem end_keep {P : Program} {fn : Func} {K : AV → AH → Prop} {α : Tm} {σ σ' : AH} {vs : List AV} (hv : ares P σ' α fn.results.toList = some vs) (hle : σ.le σ') (hK : K (aret vs) σ) : retQ P fn K .normal α σ' := ret_keep hv hle hK

end Go.Proofs.Ytdimikmgkdcglaa
