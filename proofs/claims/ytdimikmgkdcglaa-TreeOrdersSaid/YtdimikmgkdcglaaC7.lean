/- Rows of nodes of one's own. No conditions. -/
import Derived.Test.YtdimikmgkdcglaaC6
set_option linter.unusedVariables false
set_option linter.unusedSimpArgs false
namespace Go.Proofs.Ytdimikmgkdcglaa
open Go.RowKit

def zSty : Sty := ⟨⟨0, 0⟩, ⟨0, 0⟩, [0, 0, 0, 0], [⟨0, 0, 0⟩, ⟨0, 0, 0⟩, ⟨0, 0, 0⟩, ⟨0, 0, 0⟩], 0, 0, 0, false, false, 0, 0, false, false, rfl, rfl⟩
def zNd (k : Sl) : Nd := ⟨0, k, zSty, none, 0, 0⟩
/-- A node's cells, the kids given otherwise. -/
def cellsK (kv : AV) (n : Nd) : List AV := eI n.kind :: kv :: (n.sty.cells ++ [n.words.av, eI n.blank, eI n.high])
def Nd.wk (n : Nd) (k : Sl) : Nd := { n with kids := k }
@[simp] theorem cellsK_len (kv : AV) (n : Nd) : (cellsK kv n).length = 34 := rfl
@[simp] theorem cellsK_at1 (kv : AV) (n : Nd) : (cellsK kv n)[1]? = some kv := rfl
@[simp] theorem cellsK_get1 (kv : AV) (n : Nd) {h : 1 < (cellsK kv n).length} : (cellsK kv n)[1] = kv := rfl
@[simp] theorem cellsK_at0 (kv : AV) (n : Nd) : (cellsK kv n)[0]? = some (eI n.kind) := rfl
@[simp] theorem splice_kids (n : Nd) (kv : AV) : splice n.cells 1 [kv] = cellsK kv n := rfl
@[simp] theorem splice_kidsK (n : Nd) (kv kv' : AV) : splice (cellsK kv n) 1 [kv'] = cellsK kv' n := rfl
@[simp] theorem cellsK_av (n : Nd) (k : Sl) : cellsK k.av n = (n.wk k).cells := rfl
@[simp] theorem cellsK_ro (n : Nd) (a : List Int) : cellsK (.ro (eIs a)) n = (n.wk (some a)).cells := rfl
@[simp] theorem cellsK_ro1 (n : Nd) (v : Int) : cellsK (.ro [[.sc (.int .i64 v)]]) n = (n.wk (some [v])).cells := rfl
@[simp] theorem cellsK_nil (n : Nd) : cellsK (.sc (.slice none 0 0)) n = (n.wk none).cells := rfl
@[simp] theorem wk_wk (n : Nd) (k k' : Sl) : (n.wk k).wk k' = n.wk k' := rfl
@[simp] theorem wk_kids (n : Nd) (k : Sl) : (n.wk k).kids = k := rfl
@[simp] theorem wk_zNd (k k' : Sl) : (zNd k).wk k' = zNd k' := rfl
@[simp] theorem zNd_kids (k : Sl) : (zNd k).kids = k := rfl
@[simp] theorem eN_set (l : List Nd) (i : Nat) (n : Nd) : (eN l).set i n.cells = eN (l.set i n) := by simp [eN, List.map_set]
@[simp] theorem rep_eN (n : Nat) : List.replicate n [AV.sc (.int .i64 0), AV.sc (.slice none 0 0), AV.sc (.int .i64 0), AV.sc (.int .i64 0), AV.sc (.int .i64 0), AV.sc (.int .i64 0), AV.sc (.int .i64 0), AV.sc (.int .i64 0), AV.sc (.int .i64 0), AV.sc (.int .i64 0), AV.sc (.int .i64 0), AV.sc (.int .i64 0), AV.sc (.int .u32 0), AV.sc (.int .i64 0), AV.sc (.int .i64 0), AV.sc (.int .u32 0), AV.sc (.int .i64 0), AV.sc (.int .i64 0), AV.sc (.int .u32 0), AV.sc (.int .i64 0), AV.sc (.int .i64 0), AV.sc (.int .u32 0), AV.sc (.int .i64 0), AV.sc (.int .i64 0), AV.sc (.int .i64 0), AV.sc (.bool false), AV.sc (.bool false), AV.sc (.int .i64 0), AV.sc (.int .i64 0), AV.sc (.bool false), AV.sc (.bool false), AV.sc (.slice none 0 0), AV.sc (.int .i64 0), AV.sc (.int .i64 0)] = eN (List.replicate n (zNd none)) := by
  have : (zNd none).cells = [AV.sc (.int .i64 0), AV.sc (.slice none 0 0), AV.sc (.int .i64 0), AV.sc (.int .i64 0), AV.sc (.int .i64 0), AV.sc (.int .i64 0), AV.sc (.int .i64 0), AV.sc (.int .i64 0), AV.sc (.int .i64 0), AV.sc (.int .i64 0), AV.sc (.int .i64 0), AV.sc (.int .i64 0), AV.sc (.int .u32 0), AV.sc (.int .i64 0), AV.sc (.int .i64 0), AV.sc (.int .u32 0), AV.sc (.int .i64 0), AV.sc (.int .i64 0), AV.sc (.int .u32 0), AV.sc (.int .i64 0), AV.sc (.int .i64 0), AV.sc (.int .u32 0), AV.sc (.int .i64 0), AV.sc (.int .i64 0), AV.sc (.int .i64 0), AV.sc (.bool false), AV.sc (.bool false), AV.sc (.int .i64 0), AV.sc (.int .i64 0), AV.sc (.bool false), AV.sc (.bool false), AV.sc (.slice none 0 0), AV.sc (.int .i64 0), AV.sc (.int .i64 0)] := rfl
  rw [← this]; simp [eN]

theorem frz_sty (id n : Nat) (es : List (List AV)) (s : Sty) : s.cells.map (frz id n es) = s.cells := rfl
theorem frz_av (id n : Nat) (es : List (List AV)) (s : Sl) : frz id n es s.av = s.av := by cases s <;> rfl
theorem frz_cells (id n : Nat) (es : List (List AV)) (m : Nd) : m.cells.map (frz id n es) = m.cells := by
  simp only [Nd.cells, List.map_cons, List.map_append, frz_sty, frz_av, List.map_nil]
  rfl
theorem frz_cellsK (id n : Nat) (es : List (List AV)) (kv : AV) (m : Nd) : (cellsK kv m).map (frz id n es) = cellsK (frz id n es kv) m := by
  simp only [cellsK, List.map_cons, List.map_append, frz_sty, frz_av, List.map_nil]
  rfl
theorem frz_eN (id n : Nat) (es : List (List AV)) (l : List Nd) : ((eN l).map fun e => e.map (frz id n es)) = eN l := by
  unfold eN
  rw [List.map_map]
  exact List.map_congr_left fun m _ => frz_cells id n es m
theorem frz_set (id n : Nat) (es : List (List AV)) (l : List Nd) (i : Nat) (kv : AV) (m : Nd) : (((eN l).set i (cellsK kv m)).map fun e => e.map (frz id n es)) = (eN l).set i (cellsK (frz id n es kv) m) := by
  rw [List.map_set, frz_eN, frz_cellsK]
theorem frz_sl (id n : Nat) (es : List (List AV)) : frz id n es (.sl id n) = .ro es := by simp [frz]

theorem AT.freezeKid {P : Program} {nt : Nat} {rd : Option Nat} {α : Tm} {σ τ : AH} {Q : Exit → Tm → AH → Prop} {c : Code} {o y f st sty m : Nat} {L : List Nd} {n0 : Nd} {a : List Int} (hle : σ.le τ)
    (ho : τ o = some (.row ((eN L).set f (cellsK (.sl y m) n0)) 34 37 st)) (hy : τ y = some (.row (eIs a) 1 3 sty)) (hm : m = a.length) (hne : o ≠ y) (hσy : σ y = none) (β : Tm) (hβ : Go.Proofs.Ytdimikmgkdcglaa.has β α)
    (hfz : (β.map fun p => (p.1, frz y a.length (eIs a) p.2)) = β)
    (h : AT P nt rd c Q β (σ.set o (.row (eN (L.set f (n0.wk (some a)))) 34 37 st))) : AT P nt rd c Q α τ := by
  subst hm
  refine AT.has β hβ (AT.freezeIn hy ho hne ?_)
  have hl : (eIs a).length = a.length := by simp
  rw [hl, hfz]
  refine AT.drop ?_ h
  simp only [AB.frz]
  rw [frz_set]
  have : frz y a.length (eIs a) (.sl y a.length) = .ro (eIs a) := by simp [frz]
  rw [this, cellsK_ro, eN_set]
  intro j
  by_cases hj : j = o
  · subst hj; right; rw [AH.set_same, AH.set_same]
  · rw [AH.set_other _ hj, AH.set_other _ hj]
    by_cases hjy : j = y
    · subst hjy
      exact .inl hσy
    · rw [AH.del_ne _ hjy]; exact hle j
theorem AT.freezeTop {P : Program} {nt : Nat} {rd : Option Nat} {α : Tm} {σ : AH} {Q : Exit → Tm → AH → Prop} {c : Code} {o sz st : Nat} {t : TypeId} {es : List (List AV)} (hσ : σ o = none)
    (h : AT P nt rd c Q (α.map fun p => (p.1, frz o es.length es p.2)) σ) : AT P nt rd c Q α (σ.set o (.row es sz t st)) :=
  AT.freeze (AH.set_same _ _ _) (by rw [AH.set_del hσ]; exact h)

/-! ### Appending to what is known -/
@[simp] theorem rapp_sl (P : Program) (el : TypeId) (sz by_ : Nat) (src : List (List AV)) (σ : AH) (id n : Nat) : rapp P el sz by_ src σ (.sl id n) =
    ifS (abRow (σ id)) fun p => .req (p.2.1 = sz ∧ p.2.2.1 = el ∧ n = p.1.length ∧ (n + src.length) * by_ ≤ 140737488355328 ∧ n + src.length ≤ 140737488355328) (.val (.sl id (n + src.length)) (σ.set id (.row (p.1 ++ src) sz el p.2.2.2))) := rfl
@[simp] theorem rapp_nil (P : Program) (el : TypeId) (sz by_ : Nat) (e : List AV) (r : List (List AV)) (σ : AH) : rapp P el sz by_ (e :: r) σ (.sc (.slice none 0 0)) =
    .req ((r.length + 1) * by_ ≤ 140737488355328 ∧ r.length + 1 ≤ 140737488355328) (.newR (r.length + 1) (e :: r) sz el) := rfl

end Go.Proofs.Ytdimikmgkdcglaa
