/- Every operation over the abstract heap. No conditions. -/
import Derived.Test.YtdimikmgkdcglaaA9
set_option linter.unusedVariables false
set_option linter.unusedSimpArgs false
namespace Go.Proofs.Ytdimikmgkdcglaa
open Go.RowKit

theorem post_same {B : Nat} {R : Nat → Prop} {σ : AH} {φ : Pl} {w : World} (hc : Cfg B R σ φ w) {K : AV → AH → Prop} {v : AV} {u : Value} (hv : RV φ R w v u) (hK : K v σ) : Post B R σ φ w K u w := ⟨v, R, σ, φ, hc, Ext.refl _ _ _ _, hv, hK⟩

theorem parts_rv {lo : Nat} {rd : Option Nat} {nt : Nat} {R : Nat → Prop} {σ : AH} {φ : Pl} {w : World} {α : Tm} {a : Act} (ha : ActAt lo rd nt R σ φ w α a) (parts : Array (Nat × Operand)) :
    (parts.map fun (i, x) => (i, a.eval x)) = ((parts.toList.map fun p => (p.1, a.eval p.2))).toArray ∧ (parts.toList.map fun p => (p.1, a.eval p.2)).length = (parts.toList.map fun p => (p.1, ev α p.2)).length ∧
    ∀ (i : Nat) p q, (parts.toList.map fun p => (p.1, ev α p.2))[i]? = some p → (parts.toList.map fun p => (p.1, a.eval p.2))[i]? = some q → p.1 = q.1 ∧ RV φ R w p.2 q.2 := by
  refine ⟨?_, by simp, fun i p q h1 h2 => ?_⟩
  · apply Array.toList_inj.1
    simp
  · rw [List.getElem?_map] at h1 h2
    cases hx : parts.toList[i]? with
    | none => simp [hx] at h1
    | some x =>
      simp only [hx, Option.map_some, Option.some.injEq] at h1 h2
      subst h1; subst h2
      exact ⟨rfl, ha.ev _⟩

theorem vop_ok {P : Program} {B lo : Nat} {rd : Option Nat} {nt : Nat} {R : Nat → Prop} {σ : AH} {φ : Pl} {w : World} {α : Tm} {a : Act} (hc : Cfg B R σ φ w) (ha : ActAt lo rd nt R σ φ w α a) {owns : List Tmp} {o : Oper} {K : AV → AH → Prop} (h : vop P owns o α σ K) :
    OpRes P o a w (Post B R σ φ w K) ∧ ∀ c, o.op ≠ .defer c := by
  have val : ∀ {s : Sem Value} {u : Value} {w' : World}, (execOp a.eval o = (do pure (.value (← s)) : Sem Next)) → s.run P w = .ok u w' → Post B R σ φ w K u w' → OpRes P o a w (Post B R σ φ w K) := fun h1 h2 h3 =>
    .inl ⟨_, _, by rw [h1]; simp [h2], h3⟩
  unfold vop at h
  cases ho : o.op with
  | move x =>
    simp only [ho] at h
    exact ⟨.inl ⟨_, _, by simp only [execOp, ho, Sem.run_pure], post_same hc (ha.ev x) h⟩, by simp⟩
  | assign x =>
    simp only [ho] at h
    exact ⟨.inl ⟨_, _, by simp only [execOp, ho, Sem.run_pure], post_same hc (ha.ev x) h⟩, by simp⟩
  | pick c x y =>
    simp only [ho] at h
    obtain ⟨t, h1, h2⟩ := h
    have hb := ha.ev c
    rw [h1] at hb
    have hbe : a.eval c = .bool t := by generalize a.eval c = q at hb; cases hb; rfl
    refine ⟨.inl ⟨if t then a.eval x else a.eval y, w, by simp [execOp, ho, hbe, asBool], post_same hc (v := if t then ev α x else ev α y) ?_ h2⟩, by simp⟩
    cases t
    · exact ha.ev y
    · exact ha.ev x
  | alloc t =>
    simp only [ho] at h
    obtain ⟨cs, h1, hK⟩ := h
    obtain ⟨z, z1, z2, z3, z4⟩ := zcells_ok h1
    obtain ⟨id, hid0, hid1⟩ := hc.fresh
    obtain ⟨q1, q2⟩ := hc.newBox hid0 hid1 t (cs := cs) (us := z.cells) z2 z3 (z4 _ _ _)
    have hz := run_zero' (P := P) z1 w
    refine ⟨val (s := Instr.alloc t true (.tuple #[])) (by simp only [execOp, ho]) (by simp [Instr.alloc, hz, newVar, newRow]) ⟨_, _, _, _, q1, q2, .pt (Pl.put_same _ _ _ _), hK id hid0⟩, by simp⟩
  | box t x =>
    simp only [ho] at h
    obtain ⟨h1, hK⟩ := h
    obtain ⟨x1, x2⟩ := (ha.ev x).cells' h1
    split at hK
    · obtain ⟨id, hid0, hid1⟩ := hc.fresh
      obtain ⟨q1, q2⟩ := hc.newBox hid0 hid1 t x1 (allOne_mem h1) x2
      exact ⟨val (s := Instr.box t (a.eval x)) (by simp only [execOp, ho]) (by simp [Instr.box, newVar, newRow]) ⟨_, _, _, _, q1, q2, .pt (Pl.put_same _ _ _ _), hK id hid0⟩, by simp⟩
    · obtain ⟨q1, q2⟩ := hc.garbage (.cells (a.eval x).cells t)
      refine ⟨val (s := Instr.box t (a.eval x)) (u := .pointer (some ⟨w.heap.size, 0, none⟩)) (by simp only [execOp, ho]) (by simp [Instr.box, newVar, newRow]) ⟨_, _, _, _, q1, q2, ?_, hK⟩, by simp⟩
      have hm : RV φ (Rplus R w.heap.size) (w.alloc (.cells (a.eval x).cells t)) (.pr (ev α x).cells 0) (.pointer (some ⟨w.heap.size, 0 + 0, none⟩)) := by
        refine .pr (vs := fun j => (a.eval x).cells.getD j undef) (fun j c hj => ⟨.inr rfl, allOne_mem h1 c (List.mem_of_getElem? hj), ?_⟩) (fun j c hj => ?_)
        · have hlt : j < (a.eval x).cells.size := by rw [x1]; exact (List.getElem?_eq_some_iff.1 hj).1
          rw [Nat.zero_add]
          exact cell_of_heap (heap_alloc_at _ _) (by simp [hlt])
        · have hlt : j < (a.eval x).cells.size := by rw [x1]; exact (List.getElem?_eq_some_iff.1 hj).1
          exact (x2 j c _ hj (by simp [hlt])).ext q2
      exact hm
  | build t parts =>
    simp only [ho] at h
    obtain ⟨place, zs, cs, h1, h2, h3, hK⟩ := h
    obtain ⟨p1, p2, p3⟩ := parts_rv ha parts
    obtain ⟨v, q1, q2⟩ := build_ok (P := P) h1 h2 p2 p3 h3
    exact ⟨val (s := Instr.build t (parts.map fun (i, x) => (i, a.eval x))) (by simp only [execOp, ho]) (by rw [p1]; exact q1) (post_same hc q2 hK), by simp⟩
  | buildSlice t len parts =>
    simp only [ho] at h
    obtain ⟨el, zs, es, h1, h2, h3, h4, h5, h6, hK⟩ := h
    obtain ⟨p1, p2, p3⟩ := parts_rv ha parts
    have hval := fun {u w'} => val (s := Instr.buildSlice t len (parts.map fun (i, x) => (i, a.eval x))) (u := u) (w' := w') (by simp only [execOp, ho])
    rw [p1] at hval
    split at hK
    · obtain ⟨id, hid0, hid1⟩ := hc.fresh
      obtain ⟨v, φ', w', q1, q2, q3, q4⟩ := buildSlice_own hc h1 h2 h3 h4 h5 p2 p3 h6 hid0 hid1
      exact ⟨hval q1 ⟨_, _, _, _, q2, q3, q4, hK id hid0⟩, by simp⟩
    · obtain ⟨v, R', w', q1, q2, q3, q4⟩ := buildSlice_ro hc h1 h2 h3 h4 p2 p3 h6
      exact ⟨hval q1 ⟨_, _, _, _, q2, q3, q4, hK⟩, by simp⟩
  | load t x =>
    simp only [ho] at h
    obtain ⟨v, h1, hK⟩ := h
    obtain ⟨u, q1, q2⟩ := aload_ok hc (ha.ev x) h1
    exact ⟨val (s := Instr.loadAt t (a.eval x)) (by simp only [execOp, ho]) q1 (post_same hc q2 hK), by simp⟩
  | store t x v =>
    simp only [ho] at h
    obtain ⟨σ', h1, hK⟩ := h
    obtain ⟨w', q1, q2, q3⟩ := astore_ok hc (ha.ev x) (ha.ev v) h1
    exact ⟨.inr (.inl ⟨w', by simp only [execOp, ho, Sem.run_bind, q1, Result.andThen_ok, Sem.run_pure], _, _, _, _, q2, q3, .un, hK⟩), by simp⟩
  | nilCheck x =>
    simp only [ho] at h
    obtain ⟨h1, hK⟩ := h
    obtain ⟨b, off, hu, _⟩ := (ha.ev x).plus h1
    exact ⟨.inl ⟨a.eval x, w, by simp only [execOp, ho, hu, Sem.run_bind, Sem.run_pure, Result.andThen_ok], post_same hc (ha.ev x) hK⟩, by simp⟩
  | binOp op t x y ty =>
    simp only [ho] at h
    obtain ⟨u, v, q1, q2, hK⟩ := vbin_ok (P := P) (ha.ev x) (ha.ev y) h
    exact ⟨val (s := (do eqGuard op t x y (a.eval x) (a.eval y); binOp op t (a.eval x) (a.eval y) : Sem Value)) (by simp only [execOp, ho]) q1 (post_same hc q2 hK), by simp⟩
  | unOp op t x =>
    simp only [ho] at h
    have hx := ha.ev x
    unfold vun at h
    split at h
    · rename_i b heq
      rw [heq] at hx
      have hu : a.eval x = .bool b := by generalize a.eval x = q at hx; cases hx; rfl
      exact ⟨val (s := Op.unary .not (a.eval x)) (by simp only [execOp, ho]) (by simp [hu, Op.unary]) (post_same hc (.sc rfl) h), by simp⟩
    · rename_i k n heq
      rw [heq] at hx
      have hu : a.eval x = .int k n := by generalize a.eval x = q at hx; cases hx; rfl
      exact ⟨val (s := Op.unary .neg (a.eval x)) (by simp only [execOp, ho]) (by simp only [hu, Op.unary, Op.intArith, Sem.run_pure]) (post_same hc (.sc rfl) h), by simp⟩
    · exact h.elim
  | convert src dst x =>
    simp only [ho] at h
    obtain ⟨h1, k, k', n, h2, h3, hK⟩ := h
    have hx := ha.ev x
    rw [h3] at hx
    have hu : a.eval x = .int k' n := by generalize a.eval x = q at hx; cases hx; rfl
    obtain ⟨d1, hd1⟩ := Option.isSome_iff_exists.1 h1
    have hd2 : P.underlying dst = some (.int k) := by
      unfold tint at h2
      cases hq : P.underlying dst with
      | none => simp [hq] at h2
      | some d => cases d <;> simp [hq] at h2; subst h2; rfl
    exact ⟨val (s := convert src dst (a.eval x)) (by simp only [execOp, ho]) (by
      simp only [hu, convert, Sem.run_bind, run_underlying hd1, run_underlying hd2, Result.andThen_ok]
      cases d1 <;> simp [Conv.intToInt] <;> rfl) (post_same hc (.sc rfl) hK), by simp⟩
  | makeFunc fn first caps =>
    cases fn with
    | func f =>
      simp only [ho] at h
      obtain ⟨h1, hK⟩ := h
      have e1 : first = #[] := Array.toList_inj.1 h1
      subst e1
      refine ⟨val (s := Instr.makeFunc (.func f) ((#[] : Array Operand).map a.eval) (caps.map a.eval)) (by simp only [execOp, ho]) (by simp [Instr.makeFunc]; rfl) (post_same hc (.fn (by simp) (fun i c u h1 h2 => ?_)) hK), by simp⟩
      exact rvs_map ha caps.toList i c u h1 (by simpa using h2)
    | _ => simp [ho] at h
  | makeMap t r =>
    cases r with
    | none =>
      simp only [ho] at h
      obtain ⟨kl, h1, hK⟩ := h
      obtain ⟨id, hid0, hid1⟩ := hc.fresh
      obtain ⟨v, φ', w', q1, q2, q3, q4⟩ := makeMap_ok (P := P) hc t hid0 hid1 kl
      exact ⟨val (s := Instr.makeMap t none) (by simp only [execOp, ho, Option.map_none]) q1 ⟨_, _, _, _, q2, q3, q4, hK id hid0⟩, by simp⟩
    | some r => simp [ho] at h
  | makeSlice t l c =>
    simp only [ho] at h
    obtain ⟨el, zs, by_, kl, kc, l', c', h1, h2, h3, h4, h5, h6, h7, h8, h9, h10, hK⟩ := h
    have hl := ha.ev l
    have hcc := ha.ev c
    rw [h5] at hl
    rw [h6] at hcc
    have el1 : a.eval l = .int kl l' := by generalize a.eval l = q at hl; cases hl; rfl
    have ec1 : a.eval c = .int kc c' := by generalize a.eval c = q at hcc; cases hcc; rfl
    obtain ⟨id, hid0, hid1⟩ := hc.fresh
    obtain ⟨v, φ', w', q1, q2, q3, q4⟩ := makeSlice_ok (P := P) hc h1 h2 h3 h4 (kl := kl) (kc := kc) h7 h8 h9 h10 hid0 hid1
    exact ⟨val (s := Instr.makeSlice t (a.eval l) (a.eval c)) (by simp only [execOp, ho]) (by rw [el1, ec1]; exact q1) ⟨_, _, _, _, q2, q3, q4, hK id hid0⟩, by simp⟩
  | slice t x lo' hi mx =>
    simp only [ho] at h
    have hopt : ∀ (p : Option Operand) (x : AV) (y : Value), p.map (ev α) = some x → p.map a.eval = some y → RV φ R w x y := fun p x y h1 h2 => by
      cases p with
      | none => simp at h1
      | some p => simp at h1 h2; subst h1; subst h2; exact ha.ev p
    have hsome : ∀ (p : Option Operand), (p.map a.eval).isSome = (p.map (ev α)).isSome := fun p => by cases p <;> rfl
    have hx := ha.ev x
    unfold vslice at h
    split at h
    · rename_i es heq
      rw [heq] at hx
      obtain ⟨el, sz, L, H, M, h1, h2, h3, h4, h5, h6, h7, h8, h9, h10, hK⟩ := h
      obtain ⟨v, q1, q2⟩ := slice_ok (P := P) hx h1 h2 h3 (hopt lo') (hopt hi) (hopt mx) (hsome lo') (hsome hi) (hsome mx) h4 h5 h6 h7 h8 h9 h10
      exact ⟨val (s := Instr.sliceAt t (a.eval x) (lo'.map a.eval) (hi.map a.eval) (mx.map a.eval)) (by simp only [execOp, ho]) q1 (post_same hc q2 hK), by simp⟩
    · rename_i cs off heq
      rw [heq] at hx
      obtain ⟨len, el, h1, h2, h3, h4, h5, h6, h7, hK⟩ := h
      have e3 : lo' = none := by cases lo' with | none => rfl | some _ => simp at h3
      have e4 : hi = none := by cases hi with | none => rfl | some _ => simp at h4
      have e5 : mx = none := by cases mx with | none => rfl | some _ => simp at h5
      subst e3 e4 e5
      obtain ⟨v, q1, q2⟩ := slicePr_ok (P := P) hx h1 h2 h6 h7
      exact ⟨val (s := Instr.sliceAt t (a.eval x) none none none) (by simp only [execOp, ho, Option.map_none]) q1 (post_same hc q2 hK), by simp⟩
    · rename_i heq
      rw [heq] at hx
      obtain ⟨el, sz, h1, h2, h3, h4, h5, hK⟩ := h
      have hxe : a.eval x = .slice none 0 0 := by generalize a.eval x = q at hx; cases hx; rfl
      have hmx : mx = none := by cases mx <;> simp at h3; rfl
      subst hmx
      have hr := run_underlying (P := P) (tslice_spec h1) w
      have hb : ∃ M', (Instr.sliceBounds true 0 0 (lo'.map a.eval) (hi.map a.eval) none).run P w = .ok (0, 0, M') w := by
        cases hi with
        | none =>
          cases lo' with
          | none => exact ⟨0, by simp [Instr.sliceBounds]⟩
          | some q =>
            have r3 := run_bound (P := P) (ha.ev q) h4 (Nat.le_refl 0) .sliceB
            exact ⟨0, by simp [Instr.sliceBounds, r3]⟩
        | some p =>
          have r2 := run_bound (P := P) (ha.ev p) h5 (Nat.le_refl 0) .sliceAcap
          cases lo' with
          | none => exact ⟨0, by simp [Instr.sliceBounds, r2]⟩
          | some q =>
            have r3 := run_bound (P := P) (ha.ev q) h4 (Nat.le_refl 0) .sliceB
            exact ⟨0, by simp [Instr.sliceBounds, r2, r3]⟩
      obtain ⟨M', hb⟩ := hb
      have hM : (Instr.sliceAt t (a.eval x) (lo'.map a.eval) (hi.map a.eval) none).run P w = .ok (.slice none 0 M') w := by
        simp [Instr.sliceAt, Instr.slice, hxe, hr, hb, run_sizeOf' h2]
      have hM0 : M' = 0 := by
        have h0 := hb
        cases hi with
        | none =>
          cases lo' with
          | none => simp [Instr.sliceBounds] at h0; omega
          | some q =>
            have r3 := run_bound (P := P) (ha.ev q) h4 (Nat.le_refl 0) .sliceB
            simp [Instr.sliceBounds, r3] at h0; omega
        | some p =>
          have r2 := run_bound (P := P) (ha.ev p) h5 (Nat.le_refl 0) .sliceAcap
          cases lo' with
          | none => simp [Instr.sliceBounds, r2] at h0; omega
          | some q =>
            have r3 := run_bound (P := P) (ha.ev q) h4 (Nat.le_refl 0) .sliceB
            simp [Instr.sliceBounds, r2, r3] at h0; omega
      subst hM0
      exact ⟨val (s := Instr.sliceAt t (a.eval x) (lo'.map a.eval) (hi.map a.eval) none) (by simp only [execOp, ho, Option.map_none]) hM (post_same hc (.sc rfl) hK), by simp⟩
    · exact h.elim
  | fieldAddr s x f =>
    simp only [ho] at h
    obtain ⟨h1, off, h2, hK⟩ := h
    obtain ⟨v, q1, q2⟩ := field_ok (P := P) (ha.ev x) h1 h2
    exact ⟨val (s := Instr.fieldAt s (a.eval x) f) (by simp only [execOp, ho]) q1 (post_same hc q2 hK), by simp⟩
  | indexAddr t x i =>
    simp only [ho] at h
    obtain ⟨k, i', h1, h2, h⟩ := h
    have hi := ha.ev i
    rw [h1] at hi
    have hie : a.eval i = .int k i' := by generalize a.eval i = q at hi; cases hi; rfl
    have hx := ha.ev x
    have hval := fun {u w'} => val (s := Instr.indexAt t (a.eval x) (a.eval i)) (u := u) (w' := w') (by simp only [execOp, ho])
    rw [hie] at hval
    unfold vidx at h
    split at h
    · rename_i es heq
      rw [heq] at hx
      obtain ⟨e, el, h3, h4, h5, hK⟩ := h
      obtain ⟨v, q1, q2⟩ := idx_ro (P := P) hx h4 h2 h3 h5 k
      exact ⟨hval q1 (post_same hc q2 hK), by simp⟩
    · rename_i id n heq
      rw [heq] at hx
      obtain ⟨el, sz, h3, h4, h5, hK⟩ := h
      obtain ⟨v, q1, q2⟩ := idx_sl (P := P) hx h3 h2 h5 h4 k
      exact ⟨hval q1 (post_same hc q2 hK), by simp⟩
    · obtain ⟨h3, len, el, sz, h4, h5, h6, hK⟩ := h
      obtain ⟨v, q1, q2⟩ := idx_arr (P := P) hx h3 h4 h2 h6 h5 k
      exact ⟨hval q1 (post_same hc q2 hK), by simp⟩
  | index t x i =>
    simp only [ho] at h
    obtain ⟨k, i', cs, len, el, c, h1, h2, h3, h4, h5, h6, h7, h8, hK⟩ := h
    have hx := ha.ev x
    rw [h3] at hx
    have hi := ha.ev i
    rw [h1] at hi
    have ei : a.eval i = .int k i' := by generalize a.eval i = q at hi; cases hi; rfl
    obtain ⟨v, q1, q2⟩ := index_ok (P := P) hx h4 h6 h7 h2 h5 h8 k
    exact ⟨val (s := Instr.index t (a.eval x) (a.eval i)) (by simp only [execOp, ho]) (by rw [ei]; exact q1) (post_same hc q2 hK), by simp⟩
  | field t x f =>
    simp only [ho] at h
    obtain ⟨cs, off, c, h1, h2, h3, hK⟩ := h
    have hx := ha.ev x
    rw [h1] at hx
    obtain ⟨v, q1, q2⟩ := fieldV_ok (P := P) hx h2 h3
    exact ⟨val (s := Instr.field t (a.eval x) f) (by simp only [execOp, ho]) q1 (post_same hc q2 hK), by simp⟩
  | lookup t m k ok =>
    simp only [ho] at h
    obtain ⟨id, f, kl, ks, kt, e, z, h1, h2, h3, h4, h5, h6, h7, hK⟩ := h
    obtain ⟨v, q1, q2⟩ := lookup_ok (P := P) hc (ha.ev m) (ha.ev k) h1 h2 h3 h4 h5 h6 h7 ok
    exact ⟨val (s := Instr.lookup t (a.eval m) (a.eval k) ok) (by simp only [execOp, ho]) q1 (post_same hc q2 hK), by simp⟩
  | mapUpdate t m k x =>
    simp only [ho] at h
    obtain ⟨id, f, kl, ks, kt, e, h1, h2, h3, h4, h5, h6, hK⟩ := h
    have hm := ha.ev m
    rw [h1] at hm
    obtain ⟨w', q1, q2, q3⟩ := mapUpdate_ok (P := P) hc hm (ha.ev k) (ha.ev x) h2 h3 h4 h5 h6
    exact ⟨.inr (.inl ⟨w', by simp only [execOp, ho, Sem.run_bind, q1, Result.andThen_ok, Sem.run_pure], _, _, _, _, q2, q3, .un, hK⟩), by simp⟩
  | insert t m k x =>
    simp only [ho] at h
    obtain ⟨id, f, kl, ks, kt, e, h1, h2, h3, h4, h5, h6, hK⟩ := h
    have hm := ha.ev m
    rw [h1] at hm
    obtain ⟨w', q1, q2, q3⟩ := mapUpdate_ok (P := P) hc hm (ha.ev k) (ha.ev x) h2 h3 h4 h5 h6
    exact ⟨.inr (.inl ⟨w', by simp only [execOp, ho, Sem.run_bind, q1, Result.andThen_ok, Sem.run_pure], _, _, _, _, q2, q3, .un, hK⟩), by simp⟩
  | extract x i =>
    simp only [ho] at h
    obtain ⟨vs, v, h1, h2, hK⟩ := h
    have hx := ha.ev x
    rw [h1] at hx
    obtain ⟨us, hus, hl, hv⟩ : ∃ us, a.eval x = .tuple us ∧ us.size = vs.length ∧ ∀ (i : Nat) c u, vs[i]? = some c → us[i]? = some u → RV φ R w c u := by
      generalize a.eval x = q at hx
      cases hx with
      | tu hl hv => exact ⟨_, rfl, hl, hv⟩
    have hlt : i < us.size := by rw [hl]; exact (List.getElem?_eq_some_iff.1 h2).1
    exact ⟨val (s := Instr.extract (a.eval x) i) (by simp only [execOp, ho]) (by simp [Instr.extract, hus, hlt]) (post_same hc (hv i v us[i] h2 (by simp [hlt])) hK), by simp⟩
  | call c =>
    simp only [ho] at h
    exact ⟨vcall_ok hc ha ho h, by simp⟩
  | _ => simp [ho] at h

end Go.Proofs.Ytdimikmgkdcglaa
