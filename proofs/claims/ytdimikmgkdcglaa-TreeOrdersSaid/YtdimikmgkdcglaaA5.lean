/- New rows, slices of slices, structs put together, and maps, over the abstract heap. No conditions. -/
import Derived.Test.YtdimikmgkdcglaaA4
set_option linter.unusedVariables false
set_option linter.unusedSimpArgs false
namespace Go.Proofs.Ytdimikmgkdcglaa
open Go.RowKit

/-! ### slices of slices -/
/-- An end of a slice expression: absent, or a number in bounds. -/
def bound (d : Nat) : Option AV → Option Nat
  | none => some d
  | some (.sc (.int _ i)) => if 0 ≤ i then some i.toNat else none
  | _ => none

theorem bound_ok {P : Program} {φ : Pl} {R : Nat → Prop} {w : World} {k : IntKind} {i : Int} {u : Value} (h : RV φ R w (.sc (.int k i)) u) : u = .int k i := by
  cases h; rfl

theorem run_bound {P : Program} {w : World} {φ : Pl} {R : Nat → Prop} {x : AV} {u : Value} (h : RV φ R w x u) {d n y : Nat} (hb : bound d (some x) = some n) (hy : n ≤ y) (code : BoundsCode) :
    (Instr.sliceBound u y code).run P w = .ok n w := by
  unfold bound at hb
  split at hb
  · rename_i heq; cases heq
  · rename_i k i heq
    injection heq with heq
    subst heq
    cases h
    split at hb
    · rename_i h0
      injection hb with hb
      subst hb
      have : (0 : Int) ≤ i ∧ i ≤ (y : Int) := ⟨h0, by omega⟩
      simp [Instr.sliceBound, asIntOf, this]
    · cases hb
  · cases hb

/-- Part of a read-only slice. -/
theorem slice_ok {P : Program} {φ : Pl} {R : Nat → Prop} {w : World} {es : List (List AV)} {u : Value} (h : RV φ R w (.ro es) u) {t el : TypeId} (ht : tslice P t = some el) {sz : Nat} (hs : tsz P el = some sz)
    (hsz : ∀ e ∈ es, e.length = sz)
    {lo hi mx : Option AV} {ulo uhi umx : Option Value} (h1 : ∀ x y, lo = some x → ulo = some y → RV φ R w x y) (h2 : ∀ x y, hi = some x → uhi = some y → RV φ R w x y) (h3 : ∀ x y, mx = some x → umx = some y → RV φ R w x y)
    (e1 : ulo.isSome = lo.isSome) (e2 : uhi.isSome = hi.isSome) (e3 : umx.isSome = mx.isSome)
    {L H M : Nat} (b1 : bound 0 lo = some L) (b2 : bound es.length hi = some H) (b3 : bound es.length mx = some M) (hm : mx.isSome = true → hi.isSome = true) (c1 : L ≤ H) (c2 : H ≤ M) (c3 : M ≤ es.length) :
    ∃ v, (Instr.sliceAt t u ulo uhi umx).run P w = .ok v w ∧ RV φ R w (.ro ((es.take H).drop L)) v := by
  obtain ⟨a, cap, rfl, hcap⟩ : ∃ a cap, u = .slice (some a) es.length cap ∧ es.length ≤ cap := by
    cases h with
    | ro hl => exact ⟨_, _, rfl, hl⟩
    | roe => exact ⟨_, _, rfl, Nat.zero_le _⟩
  have hb : ∃ M', (Instr.sliceBounds true es.length cap ulo uhi umx).run P w = .ok (L, H, M') w ∧ H ≤ M' := by
    cases mx with
    | some x =>
      obtain ⟨y, rfl⟩ : ∃ y, umx = some y := Option.isSome_iff_exists.1 (by rw [e3]; rfl)
      obtain ⟨x', rfl⟩ := Option.isSome_iff_exists.1 (hm rfl)
      obtain ⟨y', rfl⟩ : ∃ y, uhi = some y := Option.isSome_iff_exists.1 (by rw [e2]; rfl)
      have r1 := run_bound (P := P) (h3 x y rfl rfl) b3 (show M ≤ cap by omega) .slice3Acap
      have r2 := run_bound (P := P) (h2 x' y' rfl rfl) b2 c2 .slice3B
      refine ⟨M, ?_, c2⟩
      cases lo with
      | none =>
        have : ulo = none := by cases ulo <;> simp_all
        subst this
        simp [bound] at b1
        subst b1
        simp [Instr.sliceBounds, r1, r2]
      | some x'' =>
        obtain ⟨y'', rfl⟩ : ∃ y, ulo = some y := Option.isSome_iff_exists.1 (by rw [e1]; rfl)
        have r3 := run_bound (P := P) (h1 x'' y'' rfl rfl) b1 c1 .slice3C
        simp [Instr.sliceBounds, r1, r2, r3]
    | none =>
      have : umx = none := by cases umx <;> simp_all
      subst this
      simp [bound] at b3
      subst b3
      cases hi with
      | none =>
        have : uhi = none := by cases uhi <;> simp_all
        subst this
        simp [bound] at b2
        subst b2
        cases lo with
        | none =>
          have : ulo = none := by cases ulo <;> simp_all
          subst this
          simp [bound] at b1
          subst b1
          exact ⟨cap, by simp [Instr.sliceBounds], hcap⟩
        | some x'' =>
          obtain ⟨y'', rfl⟩ : ∃ y, ulo = some y := Option.isSome_iff_exists.1 (by rw [e1]; rfl)
          have r3 := run_bound (P := P) (h1 x'' y'' rfl rfl) b1 c1 .sliceB
          exact ⟨cap, by simp [Instr.sliceBounds, r3], hcap⟩
      | some x' =>
        obtain ⟨y', rfl⟩ : ∃ y, uhi = some y := Option.isSome_iff_exists.1 (by rw [e2]; rfl)
        have r2 := run_bound (P := P) (h2 x' y' rfl rfl) b2 (show H ≤ cap by omega) .sliceAcap
        cases lo with
        | none =>
          have : ulo = none := by cases ulo <;> simp_all
          subst this
          simp [bound] at b1
          subst b1
          exact ⟨cap, by simp [Instr.sliceBounds, r2], by omega⟩
        | some x'' =>
          obtain ⟨y'', rfl⟩ : ∃ y, ulo = some y := Option.isSome_iff_exists.1 (by rw [e1]; rfl)
          have r3 := run_bound (P := P) (h1 x'' y'' rfl rfl) b1 c1 .sliceB
          exact ⟨cap, by simp [Instr.sliceBounds, r2, r3], by omega⟩
  obtain ⟨M', hb, hM'⟩ := hb
  have hu := run_underlying (P := P) (tslice_spec ht) w
  refine ⟨.slice (if M' = L then some a else (some a).map (·.add (L * sz))) (H - L) (M' - L), ?_, ?_⟩
  · simp [Instr.sliceAt, Instr.slice, hu, hb, run_sizeOf' hs]
  · have hlen : ((es.take H).drop L).length = H - L := by simp; omega
    by_cases h0 : H - L = 0
    · have hnil : (es.take H).drop L = [] := List.eq_nil_of_length_eq_zero (by omega)
      rw [hnil, h0]
      split
      · exact .roe
      · exact .roe
    · have hne : ¬ M' = L := by omega
      rw [if_neg hne]
      cases h with
      | roe => simp at c3; omega
      | ro hl hs' ho hv =>
        rename_i b o sz' vs
        have hsz' : sz' = sz := by
          have h00 : 0 < es.length := by omega
          rw [← hs' _ (List.getElem_mem h00), hsz _ (List.getElem_mem h00)]
        subst hsz'
        simp only [Option.map_some, Addr.add_lit]
        rw [← hlen]
        refine .ro (sz := sz') (vs := fun i j => vs (L + i) j) (by omega) (fun e he => hs' e (List.mem_of_mem_take (List.mem_of_mem_drop he))) (fun i e j c hi hj => ?_) (fun i e j c hi hj => ?_)
        · rw [List.getElem?_drop, List.getElem?_take] at hi
          split at hi
          · obtain ⟨q1, q2, q3⟩ := ho (L + i) e j c hi hj
            refine ⟨q1, q2, ?_⟩
            rw [← q3]
            congr 2
            rw [Nat.add_mul]
            omega
          · cases hi
        · rw [List.getElem?_drop, List.getElem?_take] at hi
          split at hi
          · exact hv (L + i) e j c hi hj
          · cases hi

/-! ### Structs put together -/
/-- A zero, as cells. -/
def zcells (P : Program) (t : TypeId) : Option (List AV) := (tzero P t).bind fun z => if z.cells.toList.all (·.oneCell') then some (z.cells.toList.map .sc) else none
theorem zcells_ok {P : Program} {t : TypeId} {cs : List AV} (h : zcells P t = some cs) : ∃ z, tzero P t = some z ∧ z.cells.size = cs.length ∧ (∀ c ∈ cs, c.one = true) ∧
    ∀ φ R w (i : Nat) c u, cs[i]? = some c → z.cells[i]? = some u → RV φ R w c u := by
  unfold zcells at h
  cases hz : tzero P t with
  | none => simp [hz] at h
  | some z =>
    simp only [hz, Option.bind_some] at h
    split at h
    · rename_i hall
      injection h with h
      subst h
      refine ⟨z, rfl, by simp, fun c hc => ?_, fun φ R w i c u hc hu => ?_⟩
      · obtain ⟨v, _, rfl⟩ := List.mem_map.1 hc
        rfl
      · rw [List.getElem?_map] at hc
        have hu' : z.cells.toList[i]? = some u := by simpa using hu
        rw [hu'] at hc
        injection hc with hc
        subst hc
        exact .sc ((List.all_eq_true.1 hall) u (List.mem_of_getElem? hu'))
    · cases h

/-- A zero value. -/
def azero (P : Program) (t : TypeId) : Option AV := (tzero P t).bind fun
  | .agg cs => if cs.toList.all (·.oneCell') then some (.ag (cs.toList.map .sc)) else none
  | .tuple _ => none
  | z => some (.sc z)

/-- The places of a struct's or an array's parts: offset and size. -/
def tplaces (P : Program) (t : TypeId) : Option (Nat → Option (Nat × Nat)) := (P.underlying t).bind fun
  | .struct fs => (fs.toList.mapM fun f => (tsz P f.type).map fun k => (f.offset, k)).map fun l i => l[i]?
  | .array _ el => (tsz P el).map fun k i => some (i * k, k)
  | _ => none

def afill (place : Nat → Option (Nat × Nat)) (cs : List AV) : List (Nat × AV) → Option (List AV)
  | [] => some cs
  | (i, v) :: rest => match place i with
    | none => none
    | some (off, size) => if v.cells.length = size ∧ off + v.cells.length ≤ cs.length ∧ AV.allOne v.cells = true then afill place (splice cs off v.cells) rest else none

theorem fold_set (us : Array Value) (off : Nat) (xs : List Value) (h : off + xs.length ≤ us.size) :
    xs.zipIdx.foldl (fun cs (c, j) => cs.setIfInBounds (off + j) c) us = (us.toList.take off ++ xs ++ us.toList.drop (off + xs.length)).toArray := by
  have key : ∀ (xs : List Value) (n : Nat) (us : Array Value), off + n + xs.length ≤ us.size →
      (xs.zipIdx n).foldl (fun cs (c, j) => cs.setIfInBounds (off + j) c) us = (us.toList.take (off + n) ++ xs ++ us.toList.drop (off + n + xs.length)).toArray := by
    intro xs
    induction xs with
    | nil => intro n us h; simp
    | cons x xs ih =>
      intro n us h
      simp only [List.zipIdx_cons, List.foldl_cons]
      rw [ih (n + 1) _ (by simp at h ⊢; omega)]
      congr 1
      apply List.ext_getElem?
      intro k
      simp only [List.length_cons] at h
      rw [show off + n + (x :: xs).length = off + n + (x :: xs).length from rfl]
      rw [getElem?_splice (by simp; omega), getElem?_splice (by simp; omega)]
      simp only [Array.toList_setIfInBounds, List.getElem?_set, Array.length_toList, List.length_cons]
      by_cases hk : k < off + n
      · rw [if_pos (by omega), if_pos hk, if_neg (by omega)]
      · rw [if_neg hk]
        by_cases hk2 : k = off + n
        · subst hk2
          rw [if_pos (by omega), if_pos rfl, if_pos (by omega), if_pos (by omega)]
          simp
        · rw [if_neg (by omega)]
          by_cases hk3 : k < off + n + (xs.length + 1)
          · rw [if_pos (by omega), if_pos hk3, show k - (off + n) = (k - (off + (n + 1))) + 1 by omega, List.getElem?_cons_succ]
          · rw [if_neg (by omega), if_neg hk3, if_neg (by omega)]
  have := key xs 0 us (by simpa using h)
  simpa using this

theorem fill_ok {φ : Pl} {R : Nat → Prop} {w : World} (place : Nat → Option (Nat × Nat)) : ∀ (parts : List (Nat × AV)) (ups : List (Nat × Value)) (cs cs' : List AV) (us : Array Value), us.size = cs.length → CellsAt φ R w cs us 0 →
    (ups.length = parts.length) → (∀ (i : Nat) p q, parts[i]? = some p → ups[i]? = some q → p.1 = q.1 ∧ RV φ R w p.2 q.2) → afill place cs parts = some cs' →
    ∃ us', Instr.fill place us ups = some us' ∧ us'.size = cs'.length ∧ CellsAt φ R w cs' us' 0
  | [], ups, cs, cs', us, hl, hc, hlen, _, h => by
    have : ups = [] := List.eq_nil_of_length_eq_zero (by simpa using hlen)
    subst this
    simp only [afill] at h
    injection h with h
    subst h
    exact ⟨us, rfl, hl, hc⟩
  | (i, v) :: rest, [], cs, cs', us, hl, hc, hlen, hr, h => by simp at hlen
  | (i, v) :: rest, (i', u) :: ups, cs, cs', us, hl, hc, hlen, hr, h => by
    obtain ⟨h0, hv⟩ := hr 0 (i, v) (i', u) rfl rfl
    simp only at h0 hv
    subst h0
    simp only [afill] at h
    cases hp : place i with
    | none => simp [hp] at h
    | some p =>
      obtain ⟨off, size⟩ := p
      simp only [hp] at h
      split at h
      · rename_i hcond
        obtain ⟨c1, c2, c3⟩ := hcond
        obtain ⟨x1, x2⟩ := hv.cells' c3
        have hfold : u.cells.zipIdx.foldl (fun cs (c, j) => cs.setIfInBounds (off + j) c) us = (us.toList.take off ++ u.cells.toList ++ us.toList.drop (off + u.cells.toList.length)).toArray := by
          rw [← fold_set us off u.cells.toList (by simp; omega), ← Array.foldl_toList, Array.toList_zipIdx]
        obtain ⟨us', r1, r2, r3⟩ := fill_ok place rest ups (splice cs off v.cells) cs' (us.toList.take off ++ u.cells.toList ++ us.toList.drop (off + u.cells.toList.length)).toArray
          (by rw [splice_length c2]; simp; omega)
          (fun j c hj => by
            unfold splice at hj
            rw [getElem?_splice c2] at hj
            simp only [Nat.zero_add, List.getElem?_toArray]
            rw [getElem?_splice (by simp; omega)]
            simp only [Array.length_toList, x1]
            split at hj
            · rename_i hlt
              obtain ⟨a1, y, a2, a3⟩ := hc j c hj
              exact ⟨a1, y, by rw [if_pos hlt]; simpa using a2, a3⟩
            · rename_i hlt
              split at hj
              · rename_i hlt2
                have hlt3 : j - off < u.cells.size := by omega
                exact ⟨allOne_mem c3 c (List.mem_of_getElem? hj), u.cells[j - off], by rw [if_neg hlt, if_pos hlt2]; simp [hlt3], x2 _ c _ hj (by simp [hlt3])⟩
              · rename_i hlt2
                obtain ⟨a1, y, a2, a3⟩ := hc j c hj
                exact ⟨a1, y, by rw [if_neg hlt, if_neg hlt2]; simpa using a2, a3⟩)
          (by simpa using hlen) (fun k p q hk hq => hr (k + 1) p q (by simpa using hk) (by simpa using hq)) h
        refine ⟨us', ?_, r2, r3⟩
        simp only [Instr.fill, hp]
        rw [if_neg (by simp; omega)]
        rw [← r1, hfold]
      · cases h

theorem build_ok {P : Program} {φ : Pl} {R : Nat → Prop} {w : World} {t : TypeId} {place : Nat → Option (Nat × Nat)} (hp : tplaces P t = some place) {zs : List AV} (hz : zcells P t = some zs)
    {parts : List (Nat × AV)} {ups : List (Nat × Value)} (hlen : ups.length = parts.length) (hr : ∀ (i : Nat) p q, parts[i]? = some p → ups[i]? = some q → p.1 = q.1 ∧ RV φ R w p.2 q.2) {cs : List AV} (h : afill place zs parts = some cs) :
    ∃ v, (Instr.build t ups.toArray).run P w = .ok v w ∧ RV φ R w (.ag cs) v := by
  obtain ⟨z, z1, z2, z3, z4⟩ := zcells_ok hz
  obtain ⟨us, r1, r2, r3⟩ := fill_ok (φ := φ) (R := R) (w := w) place parts ups zs cs z.cells z2 (cellsAt_of z2 z3 (z4 φ R w)) hlen hr h
  have hzr := run_zero' (P := P) z1
  have hag : RV φ R w (.ag cs) (.agg us) := by
    refine .ag r2 (fun c hc => ?_) (fun i c u hc hu => ?_)
    · obtain ⟨i, hi⟩ := List.mem_iff_getElem?.1 hc
      exact (r3 i c hi).1
    · obtain ⟨_, x, hx, hv⟩ := r3 i c hc
      rw [Nat.zero_add, hu] at hx
      injection hx with hx
      subst hx
      exact hv
  refine ⟨.agg us, ?_, hag⟩
  unfold tplaces at hp
  cases hu : P.underlying t with
  | none => simp [hu] at hp
  | some d =>
    cases d with
    | struct fs =>
      simp only [hu, Option.bind_some] at hp
      cases hm : (fs.toList.mapM fun f => (tsz P f.type).map fun k => (f.offset, k)) with
      | none => simp [hm] at hp
      | some l =>
        simp only [hm, Option.map_some] at hp
        injection hp with hp
        have hrunl : ∀ (gs : List Field) (l : List (Nat × Nat)), (gs.mapM fun f => (tsz P f.type).map fun k => (f.offset, k)) = some l →
            (gs.mapM (fun f => Prod.mk f.offset <$> sizeOf f.type : Field → Sem (Nat × Nat))).run P w = .ok l w := by
          intro gs
          induction gs with
          | nil => intro l hl; simp at hl; subst hl; simp
          | cons g gs ih =>
            intro l hl
            simp only [List.mapM_cons] at hl
            cases hk : tsz P g.type with
            | none => simp [hk] at hl
            | some k =>
              cases hq : (gs.mapM fun f => (tsz P f.type).map fun k => (f.offset, k)) with
              | none => simp [hk, hq] at hl
              | some l' =>
                simp [hk, hq] at hl
                subst hl
                simp [List.mapM_cons, run_sizeOf' hk, ih l' hq]
        have hrun := hrunl fs.toList l hm
        have hfa : (fs.mapM (fun f => Prod.mk f.offset <$> sizeOf f.type : Field → Sem (Nat × Nat))).run P w = .ok l.toArray w := by
          rw [Array.mapM_eq_mapM_toList]
          simp [hrun]
        subst hp
        simp [Instr.build, hzr, run_underlying hu, hfa, r1]
    | array n el =>
      simp only [hu, Option.bind_some] at hp
      cases hk : tsz P el with
      | none => simp [hk] at hp
      | some k =>
        simp only [hk, Option.map_some] at hp
        injection hp with hp
        subst hp
        simp [Instr.build, hzr, run_underlying hu, run_sizeOf' hk, r1]
    | _ => simp [hu] at hp

end Go.Proofs.Ytdimikmgkdcglaa
