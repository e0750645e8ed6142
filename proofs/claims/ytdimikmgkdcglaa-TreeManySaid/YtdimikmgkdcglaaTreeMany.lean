/- The Go function TreeMany, of whole numbers, answers true whatever they are, and changes nothing. No conditions. -/
import Derived.Test.YtdimikmgkdcglaaRows
import Derived.Test.YtdimikmgkdcglaaZ0
import Derived.Test.YtdimikmgkdcglaaZ1
import Derived.Test.YtdimikmgkdcglaaD10
import Derived.WalkKit
import Derived.ProofKit
import Derived.OpenShut
namespace Go.Proofs.Ytdimikmgkdcglaa.treeMany
open Go.ChangeShapes Go.WideShapes Go.ChangeAt Go.RowKit
set_option linter.unusedVariables false

theorem own : ownKnob Try.prog.godebug = none := by kernel_rfl

set_option maxRecDepth 100000 in
theorem lifted (os : Os) (started : os.Started) (H : Type) (enc : TypeId × Value → H) :
    ReturnsInHanded {} Try.checked os 4 .any (Rows.treeManySpec.pre6 enc Try.prog Try.f4 Rows.treeManyRow.domain false) (Rows.treeManySpec.post enc Try.prog Try.f4 false true false false) := by
  refine returnsInHanded_of_change (C := Try.checked) own started (by kernel_rfl) Try.func4
    (ChangeSpec.witness6 (enc := enc) (C := Try.checked) false ⟨#[], #[.int .i64 0], []⟩ 8 (by kernel_rfl) (by kernel_rfl) (by kernel_rfl) (by kernel_rfl)) ?_
  intro W base args ds gs before hval0 hW hcnd _
  have hval : ∀ (j : Nat) t v, Try.f4.params[j]? = some t → args[j]? = some v → Value.okWide Try.prog W .any base t v := hval0
  have hW' := hW
  obtain ⟨p, q, hA0, hV, rfl, hfz, hnd⟩ := hW
  have hA : DataW.TrodAll enc Try.prog W 0 (fun _ => true) true Try.f4.params.toList args.toList ds p := hA0
  rw [Try.params4] at hA hval
  obtain ⟨v0, vs0, d0, ds0, p0, q0, hargs, rfl, rfl, h0, r0⟩ := trodAll_cons hA
  obtain ⟨rfl, rfl, rfl⟩ := trodAll_nil r0
  obtain rfl : args = #[v0] := by cases args; simp_all
  obtain ⟨rfl, rfl⟩ := trodVars_none hV
  obtain ⟨a0, rfl, rfl, rfl, w0⟩ := open_int Try.underlying3 (hval 0 3 v0 rfl rfl) h0
  clear hA0 hval0
  simp only [List.append_nil] at hW'
  refine (AC.walk (TreeMany_ac (fun _ => none) a0) (RVs.cons (RV.int _) (RVs.nil _ _ _))).mono fun e W' ⟨he, hg⟩ => ?_
  subst he
  exact ⟨_, rfl, post_below (pa := []) (pv := []) hW' (fun _ _ _ => (trodAll_cons_mk (shut_bool Try.underlying4 _) trodAll_mk0)) (trodAll_cons_mk (shut_int Try.underlying3 w0) trodAll_mk0) rfl hg⟩

theorem fact0 : (Rows.treeManyRow.wf (OpenSpec.ofChange Rows.treeManySpec) : Bool) = true := by kernel_rfl
theorem fact3 : (Try.f4.params.all (Try.prog.readableRec ·) : Bool) = true := by kernel_rfl
theorem fact4 : (namedTie Try.prog Rows.treeManyRow.named Rows.treeManySpec.vars : Bool) = true := by kernel_rfl
theorem fact5 : ((Rows.treeManyRow.stops == []) : Bool) = true := by kernel_rfl
theorem fact7 : ((Rows.treeManyRow.knobs == []) : Bool) = true := by kernel_rfl
theorem fact9 : ((Rows.treeManyRow.inPlace == Try.prog.inPlace 4) : Bool) = true := by kernel_rfl
theorem fact10 : ((Rows.treeManyRow.unfollowed == Try.prog.unfollowed 4) : Bool) = true := by kernel_rfl
theorem fact11 : ((Rows.treeManyRow.recurses == Try.prog.recurses 4) : Bool) = true := by kernel_rfl
theorem fact12 : ((Rows.treeManyRow.named == Try.prog.varsNamed 4) : Bool) = true := by kernel_rfl
theorem fact13 : ((Rows.treeManyRow.maps == (Try.f4.params.toList ++ Rows.treeManySpec.plain.varTypes Try.prog).any (Try.prog.mapsRec ·)) : Bool) = true := by kernel_rfl
theorem fact14 : ((Rows.treeManyRow.ifaces == (Try.f4.params.toList ++ Rows.treeManySpec.plain.varTypes Try.prog).any (Try.prog.ifacesRec ·)) : Bool) = true := by kernel_rfl
theorem fact15 : ((Rows.treeManyRow.mapsOut == Try.prog.mapsAmong Try.f4.resultTypes.toList) : Bool) = true := by kernel_rfl
theorem fact16 : ((Rows.treeManyRow.loops == (Try.f4.params.toList ++ Rows.treeManySpec.plain.varTypes Try.prog).any (Try.prog.loopsFrom ·)) : Bool) = true := by kernel_rfl
theorem fact17 : ((Rows.treeManyRow.wideKeys == (Try.f4.params.toList ++ Rows.treeManySpec.plain.varTypes Try.prog ++ Try.f4.resultTypes.toList).any (Try.prog.wideKeysFrom ·)) : Bool) = true := by kernel_rfl
theorem fact18 : (Rows.treeManySpec.vars.all (Try.prog.varReadable ·) : Bool) = true := by kernel_rfl
theorem fact19 : (Try.f4.resultTypes.all (fun t => Try.prog.readableRec t && decide (t < Try.prog.types.size)) : Bool) = true := by kernel_rfl
theorem fact20 : ((Rows.treeManyRow.ifacesOut == Try.f4.resultTypes.toList.any (Try.prog.ifacesRec ·)) : Bool) = true := by kernel_rfl
theorem fact21 : ((Rows.treeManyRow.loopsOut == Try.f4.resultTypes.toList.any (Try.prog.loopsFrom ·)) : Bool) = true := by kernel_rfl
theorem fact22 : ((Rows.treeManyRow.plainKeys == Try.prog.plainKeys) : Bool) = true := by kernel_rfl
theorem fact23 : (Rows.treeManyRow.shortTexts.isNone : Bool) = true := by kernel_rfl
theorem fact26 : ((Rows.treeManyRow.lifted == Try.prog.liftsFinal) : Bool) = true := (congrArg (fun b => Rows.treeManyRow.lifted == b) wholeLifts).trans (by kernel_rfl)
theorem fact27 : ((Try.prog.make == some Rows.treeManyRow.make) : Bool) = true := (congrArg (fun b => b == some Rows.treeManyRow.make) wholeMake).trans (by kernel_rfl)
theorem fact28 : ((Rows.treeManyRow.kinds == (if Rows.treeManyRow.domain.isEmpty then [] else Try.f4.params.toList.map fun t => match Try.prog.underlying t with | some (.int k) => some k | _ => none)) : Bool) = true := by kernel_rfl
theorem fact29 : ((Rows.treeManyRow.pinned == Rows.treeManyRow.pinnedBy) : Bool) = true := by kernel_rfl
theorem fact30 : ((Rows.treeManyRow.veiled == (Try.f4.params.toList ++ Rows.treeManySpec.plain.varTypes Try.prog ++ Try.f4.resultTypes.toList).any (Try.prog.veiledRec ·)) : Bool) = true := by kernel_rfl
theorem fact31 : (Rows.treeManyRow.veiledFits Try.prog Try.f4.params.toList (Try.f4.params.toList ++ Rows.treeManySpec.plain.varTypes Try.prog ++ Try.f4.resultTypes.toList) : Bool) = true := by kernel_rfl
set_option maxRecDepth 100000 in
theorem closed1 : joinedFacts Try.prog 4 Try.f4 Rows.treeManySpec Rows.treeManyRow = true := joined_of fact0 whole1 whole2 fact3 fact4 fact5 whole6 fact7 whole8 fact9 fact10 fact11 fact12 fact13 fact14 fact15 fact16 fact17 fact18 fact19 fact20 fact21 fact22 fact23 whole24 whole25 fact26 fact27 fact28 fact29 fact30 fact31
theorem inst : Try.f4.isInstance Try.prog Rows.treeManyRow.origin Rows.treeManyRow.targs := of_decide_eq_true (by kernel_rfl)
theorem wrap : Try.f4.isWrapper Try.prog Rows.treeManyRow.wrapper Rows.treeManyRow.mainSum := by
  unfold Func.isWrapper
  first
  | (rw [if_pos (by decide +kernel)]; kernel_rfl)
  | (rw [if_neg (by decide +kernel)]; exact ⟨rfl, rfl⟩)
theorem named : Try.prog.funcNamed Rows.treeManyRow.func = some 4 := by kernel_rfl
theorem over : Rows.treeManyRow.holds Try.pinned (OpenSpec.ofChange Rows.treeManySpec) :=
  OpenClaim.holds_of_wide 4 Try.f4 rfl rfl rfl rfl rfl rfl rfl ⟨rfl, rfl, rfl, rfl, rfl⟩ rfl rfl rfl rfl rfl named Try.func4 closed1 inst wrap (fun os started H enc _ => lifted os started H enc)

theorem proved : Rows.TreeManySaid :=
  over
#print axioms proved
end Go.Proofs.Ytdimikmgkdcglaa.treeMany

