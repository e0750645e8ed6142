/- From a contract over the empty abstract heap to the call as the row asks for it. No conditions. -/
import Derived.Test.YtdimikmgkdcglaaC6
import Derived.Carry
import Derived.ChangeSame
set_option linter.unusedVariables false
set_option linter.unusedSimpArgs false
namespace Go.Proofs.Ytdimikmgkdcglaa
open Go.RowKit

/-- Nothing is one's own yet; all that there is is read only. -/
theorem Cfg.start (W : World) : Cfg W.heap.size (fun b => b < W.heap.size) (fun _ => none) (fun _ _ => none) W where
  ok := fun id ab h => by cases h
  sep := fun id id' n n' b c c' h => absurd rfl h
  low := fun id n b c h => absurd rfl h
  lt := fun id n b c h => by cases h
  fin := ⟨0, fun id _ => ⟨rfl, fun _ => rfl⟩⟩
  bs := Nat.le_refl _
  dj := fun b _ ⟨id, n, c, h, _⟩ => h rfl
  rlt := fun b h => h
theorem Ext.below {W W' : World} {R' : Nat → Prop} {σ' : AH} {φ' : Pl} (h : Ext (fun b => b < W.heap.size) (fun _ => none) (fun _ _ => none) W R' σ' φ' W') : Below W.heap.size W W' where
  os := h.os
  tape := h.tape
  output := h.output
  size := h.sz
  block := fun k hk => h.keep k hk fun ⟨id, n, c, q, _⟩ => q rfl
theorem AC.walk {P : Program} {f : FuncId} {args : List AV} (h : AC P f args (fun _ => none) fun r _ => r = eB true) {W : World} {us : Array Value} (hr : RVs (fun _ _ => none) (fun b => b < W.heap.size) W args us) :
    Calls P f us W fun e W' => e = .returned (.bool true) ∧ Below W.heap.size W W' :=
  (h.2 _ _ _ W us (Cfg.start W) hr).mono fun e W' ⟨u, r, R', σ', φ', h1, h2, h3, h4, h5⟩ => by
    subst h5
    refine ⟨?_, h3.below⟩
    rw [h1]
    cases h4
    rfl
theorem RVs.nil (φ : Pl) (R : Nat → Prop) (w : World) : RVs φ R w [] #[] := ⟨rfl, fun i v u h => by simp at h⟩
theorem RVs.cons {φ : Pl} {R : Nat → Prop} {w : World} {v : AV} {vs : List AV} {u : Value} {us : List Value} (h : RV φ R w v u) (k : RVs φ R w vs us.toArray) : RVs φ R w (v :: vs) (u :: us).toArray := by
  refine ⟨by simpa using k.1, fun i x y h1 h2 => ?_⟩
  cases i with
  | zero => simp at h1 h2; subst h1; subst h2; exact h
  | succ i => exact k.2 i x y (by simpa using h1) (by simpa using h2)
theorem RV.int {φ : Pl} {R : Nat → Prop} {w : World} (n : Int) : RV φ R w (.sc (.int .i64 n)) (.int .i64 n) := .sc rfl

/-- The row's end: what is read of the arguments behind the call. -/
theorem post_below {H : Type} {enc : TypeId × Value → H} {P : Program} {f : Func} {s : ChangeSpec} {apart fresh handsOn : Bool} {W W' : World} {args : Array Value} {v : Value} {ds gs : List (DataW H)} {before pa pv : List MemPlace}
    (hW : DataW.Whole enc P f.params.toList s.vars apart W args.toList ds gs before)
    (hres : ∀ (b : Nat) (sp : Nat → Bool) (hd : Bool), DataW.TrodAll enc P W' b sp hd f.resultTypes.toList (v.resultList f.resultTypes.size) (s.fn H (ds ++ gs)).results [])
    (hargs : DataW.TrodAll enc P W' 0 (fun b => decide (b < W.heap.size)) true f.params.toList args.toList (s.fn H (ds ++ gs)).args pa)
    (hvars : DataW.TrodVars enc P W' (fun b => decide (b < W.heap.size)) s.vars (s.fn H (ds ++ gs)).vars pv) (hb : Below W.heap.size W W') :
    s.post enc P f apart fresh handsOn false W args v W' :=
  ⟨ds, gs, before, [], pa, pv, hW, hres _ _ _, hargs, hvars, hb.frame _, fun h => by cases h⟩

end Go.Proofs.Ytdimikmgkdcglaa
