/- The Go function TreeOrders, of a page, answers true whatever the page, and changes nothing. No conditions. -/
import Derived.Test.YtdimikmgkdcglaaRows
import Derived.Test.YtdimikmgkdcglaaZ0
import Derived.Test.YtdimikmgkdcglaaZ1
import Derived.Test.YtdimikmgkdcglaaD12
import Derived.Test.YtdimikmgkdcglaaZ2
import Derived.Carry
import Derived.WalkKit
import Derived.ProofKit
import Derived.OpenShut
namespace Go.Proofs.Ytdimikmgkdcglaa.treeOrders
open Go.ChangeShapes Go.WideShapes Go.ChangeAt Go.RowKit
set_option linter.unusedVariables false

theorem own : ownKnob Try.prog.godebug = none := by kernel_rfl

set_option maxRecDepth 100000 in
theorem lifted (os : Os) (started : os.Started) (H : Type) (enc : TypeId × Value → H) :
    ReturnsInHanded {} Try.checked os 5 .any (Rows.treeOrdersSpec.pre6 enc Try.prog Try.f5 Rows.treeOrdersRow.domain false) (Rows.treeOrdersSpec.post enc Try.prog Try.f5 false true false false) := by
  refine returnsInHanded_of_change (C := Try.checked) own started (by kernel_rfl) Try.func5
    (ChangeSpec.witness6 (enc := enc) (C := Try.checked) false ⟨#[], #[.slice none 0 0], []⟩ 8 (by kernel_rfl) (by kernel_rfl) (by kernel_rfl) (by kernel_rfl)) ?_
  intro W base args ds gs before hval0 hW hcnd _
  have hval : ∀ (j : Nat) t v, Try.f5.params[j]? = some t → args[j]? = some v → Value.okWide Try.prog W .any base t v := hval0
  have hW' := hW
  obtain ⟨p, q, hA0, hV, rfl, hfz, hnd⟩ := hW
  have hA : DataW.TrodAll enc Try.prog W 0 (fun _ => true) true Try.f5.params.toList args.toList ds p := hA0
  rw [Try.params5] at hA hval
  obtain ⟨v0, vs0, d0, ds0, p0, q0, hargs, rfl, rfl, h0, r0⟩ := trodAll_cons hA
  obtain ⟨rfl, rfl, rfl⟩ := trodAll_nil r0
  obtain rfl : args = #[v0] := by cases args; simp_all
  obtain ⟨rfl, rfl⟩ := trodVars_none hV
  have hc : v0.cells.toList = [v0] := by
    have hv := hval 0 23 v0 rfl rfl
    cases v0 with
    | agg cs => simp [Value.okWide, Try.underlying23, Cell.okWide, Cell.ok] at hv
    | _ => rfl
  have hlt := hA.lt
  obtain ⟨fuel, hf⟩ := id h0
  rw [hc] at hf
  obtain ⟨l, a, -, hl, hx, hr⟩ := rd_page hf
  clear hA0 hval0
  refine (AC.walk (TreeOrders_ac (fun _ => none) a l hx (Nat.lt_of_le_of_lt hl (by decide))) (RVs.cons hr (RVs.nil _ _ _))).mono fun e W' ⟨he, hg⟩ => ?_
  subst he
  exact ⟨_, rfl, post_below (pv := []) hW' (fun _ _ _ => (trodAll_cons_mk (shut_bool Try.underlying4 _) trodAll_mk0)) (trodAll_cons_mk (Below.trod whole1 (by kernel_rfl) (of_decide_eq_true (by kernel_rfl)) h0 hg (fun x hx => hlt x (by simpa using hx))) trodAll_mk0) rfl hg⟩

theorem fact0 : (Rows.treeOrdersRow.wf (OpenSpec.ofChange Rows.treeOrdersSpec) : Bool) = true := by kernel_rfl
theorem fact3 : (Try.f5.params.all (Try.prog.readableRec ·) : Bool) = true := by kernel_rfl
theorem fact4 : (namedTie Try.prog Rows.treeOrdersRow.named Rows.treeOrdersSpec.vars : Bool) = true := by kernel_rfl
theorem fact5 : ((Rows.treeOrdersRow.stops == []) : Bool) = true := by kernel_rfl
theorem fact7 : ((Rows.treeOrdersRow.knobs == []) : Bool) = true := by kernel_rfl
theorem fact9 : ((Rows.treeOrdersRow.inPlace == Try.prog.inPlace 5) : Bool) = true := by kernel_rfl
theorem fact10 : ((Rows.treeOrdersRow.unfollowed == Try.prog.unfollowed 5) : Bool) = true := by kernel_rfl
theorem fact11 : ((Rows.treeOrdersRow.recurses == Try.prog.recurses 5) : Bool) = true := by kernel_rfl
theorem fact12 : ((Rows.treeOrdersRow.named == Try.prog.varsNamed 5) : Bool) = true := by kernel_rfl
theorem fact13 : ((Rows.treeOrdersRow.maps == (Try.f5.params.toList ++ Rows.treeOrdersSpec.plain.varTypes Try.prog).any (Try.prog.mapsRec ·)) : Bool) = true := by kernel_rfl
theorem fact14 : ((Rows.treeOrdersRow.ifaces == (Try.f5.params.toList ++ Rows.treeOrdersSpec.plain.varTypes Try.prog).any (Try.prog.ifacesRec ·)) : Bool) = true := by kernel_rfl
theorem fact15 : ((Rows.treeOrdersRow.mapsOut == Try.prog.mapsAmong Try.f5.resultTypes.toList) : Bool) = true := by kernel_rfl
theorem fact16 : ((Rows.treeOrdersRow.loops == (Try.f5.params.toList ++ Rows.treeOrdersSpec.plain.varTypes Try.prog).any (Try.prog.loopsFrom ·)) : Bool) = true := by kernel_rfl
theorem fact17 : ((Rows.treeOrdersRow.wideKeys == (Try.f5.params.toList ++ Rows.treeOrdersSpec.plain.varTypes Try.prog ++ Try.f5.resultTypes.toList).any (Try.prog.wideKeysFrom ·)) : Bool) = true := by kernel_rfl
theorem fact18 : (Rows.treeOrdersSpec.vars.all (Try.prog.varReadable ·) : Bool) = true := by kernel_rfl
theorem fact19 : (Try.f5.resultTypes.all (fun t => Try.prog.readableRec t && decide (t < Try.prog.types.size)) : Bool) = true := by kernel_rfl
theorem fact20 : ((Rows.treeOrdersRow.ifacesOut == Try.f5.resultTypes.toList.any (Try.prog.ifacesRec ·)) : Bool) = true := by kernel_rfl
theorem fact21 : ((Rows.treeOrdersRow.loopsOut == Try.f5.resultTypes.toList.any (Try.prog.loopsFrom ·)) : Bool) = true := by kernel_rfl
theorem fact22 : ((Rows.treeOrdersRow.plainKeys == Try.prog.plainKeys) : Bool) = true := by kernel_rfl
theorem fact23 : (Rows.treeOrdersRow.shortTexts.isNone : Bool) = true := by kernel_rfl
theorem fact26 : ((Rows.treeOrdersRow.lifted == Try.prog.liftsFinal) : Bool) = true := (congrArg (fun b => Rows.treeOrdersRow.lifted == b) wholeLifts).trans (by kernel_rfl)
theorem fact27 : ((Try.prog.make == some Rows.treeOrdersRow.make) : Bool) = true := (congrArg (fun b => b == some Rows.treeOrdersRow.make) wholeMake).trans (by kernel_rfl)
theorem fact28 : ((Rows.treeOrdersRow.kinds == (if Rows.treeOrdersRow.domain.isEmpty then [] else Try.f5.params.toList.map fun t => match Try.prog.underlying t with | some (.int k) => some k | _ => none)) : Bool) = true := by kernel_rfl
theorem fact29 : ((Rows.treeOrdersRow.pinned == Rows.treeOrdersRow.pinnedBy) : Bool) = true := by kernel_rfl
theorem fact30 : ((Rows.treeOrdersRow.veiled == (Try.f5.params.toList ++ Rows.treeOrdersSpec.plain.varTypes Try.prog ++ Try.f5.resultTypes.toList).any (Try.prog.veiledRec ·)) : Bool) = true := by kernel_rfl
theorem fact31 : (Rows.treeOrdersRow.veiledFits Try.prog Try.f5.params.toList (Try.f5.params.toList ++ Rows.treeOrdersSpec.plain.varTypes Try.prog ++ Try.f5.resultTypes.toList) : Bool) = true := by kernel_rfl
set_option maxRecDepth 100000 in
theorem closed1 : joinedFacts Try.prog 5 Try.f5 Rows.treeOrdersSpec Rows.treeOrdersRow = true := joined_of fact0 whole1 whole2 fact3 fact4 fact5 whole6 fact7 whole8 fact9 fact10 fact11 fact12 fact13 fact14 fact15 fact16 fact17 fact18 fact19 fact20 fact21 fact22 fact23 whole24 whole25 fact26 fact27 fact28 fact29 fact30 fact31
theorem inst : Try.f5.isInstance Try.prog Rows.treeOrdersRow.origin Rows.treeOrdersRow.targs := of_decide_eq_true (by kernel_rfl)
theorem wrap : Try.f5.isWrapper Try.prog Rows.treeOrdersRow.wrapper Rows.treeOrdersRow.mainSum := by
  unfold Func.isWrapper
  first
  | (rw [if_pos (by decide +kernel)]; kernel_rfl)
  | (rw [if_neg (by decide +kernel)]; exact ⟨rfl, rfl⟩)
theorem named : Try.prog.funcNamed Rows.treeOrdersRow.func = some 5 := by kernel_rfl
theorem over : Rows.treeOrdersRow.holds Try.pinned (OpenSpec.ofChange Rows.treeOrdersSpec) :=
  OpenClaim.holds_of_wide 5 Try.f5 rfl rfl rfl rfl rfl rfl rfl ⟨rfl, rfl, rfl, rfl, rfl⟩ rfl rfl rfl rfl rfl named Try.func5 closed1 inst wrap (fun os started H enc _ => lifted os started H enc)

theorem proved : Rows.TreeOrdersSaid :=
  over
#print axioms proved
end Go.Proofs.Ytdimikmgkdcglaa.treeOrders

