/- Reading and writing through abstract pointers. No conditions. -/
import Derived.Test.YtdimikmgkdcglaaA2
set_option linter.unusedVariables false
set_option linter.unusedSimpArgs false
namespace Go.Proofs.Ytdimikmgkdcglaa
open Go.RowKit

/-- Is a type a struct's or an array's; how many cells it takes; its zero. -/
def tagg (P : Program) (t : TypeId) : Option Bool := (P.underlying t).map fun | .struct _ | .array .. => true | _ => false
def tsz (P : Program) (t : TypeId) : Option Nat := (P.info? t).map (·.size)
def tzero (P : Program) (t : TypeId) : Option Value := (P.info? t).bind (·.zero)

theorem run_isAgg {P : Program} {t : TypeId} {g : Bool} (h : tagg P t = some g) (w : World) : (isAgg t).run P w = .ok g w := by
  unfold tagg at h
  cases hu : P.underlying t with
  | none => simp [hu] at h
  | some d =>
    simp only [hu, Option.map_some] at h
    injection h with h
    subst h
    unfold isAgg
    simp only [Sem.run_bind, run_underlying hu, Result.andThen_ok]
    cases d <;> rfl
theorem run_sizeOf' {P : Program} {t : TypeId} {k : Nat} (h : tsz P t = some k) (w : World) : (sizeOf t).run P w = .ok k w := by
  unfold tsz at h
  cases hu : P.info? t with
  | none => simp [hu] at h
  | some i =>
    simp only [hu, Option.map_some] at h
    injection h with h
    subst h
    simp [sizeOf, typeInfo, hu]
theorem run_zero' {P : Program} {t : TypeId} {z : Value} (h : tzero P t = some z) (w : World) : (zeroValue t).run P w = .ok z w := by
  unfold tzero at h
  cases hu : P.info? t with
  | none => simp [hu] at h
  | some i =>
    simp only [hu, Option.bind_some] at h
    simp [zeroValue, typeInfo, hu, h]

/-- The cells from a pointer on. -/
def ptCells (σ : AH) : AV → Option (List AV)
  | .pt id off => match σ id with
    | some (.box cs _) => some (cs.drop off)
    | _ => none
  | .pe id n sz i off => match σ id with
    | some (.row es sz' _ st) => if sz' = sz ∧ st ≤ n ∧ n ≤ es.length ∧ i < n then (es[i]?).map (·.drop off) else none
    | _ => none
  | .pr cs off => some (cs.drop off)
  | _ => none

theorem cell_of_heap {w : World} {b o : Nat} {C : Array Value} {t : TypeId} {fr : Nat × Nat} {x : Value} (h : w.heap[b]? = some (.cells C t fr)) (hx : C[o]? = some x) : w.cell? ⟨b, o, none⟩ = some x := by
  simp [World.cell?, h, hx]

theorem ptCells_at {B : Nat} {R : Nat → Prop} {σ : AH} {φ : Pl} {w : World} (hc : Cfg B R σ φ w) {p : AV} {u : Value} (hr : RV φ R w p u) {cs : List AV} (hp : ptCells σ p = some cs) :
    ∃ b o, u = .pointer (some ⟨b, o, none⟩) ∧ ∀ j c, cs[j]? = some c → c.one = true ∧ ∃ x, w.cell? ⟨b, o + j, none⟩ = some x ∧ RV φ R w c x := by
  cases hr with
  | pt h1 =>
    rename_i id off b cap
    simp only [ptCells] at hp
    split at hp
    · rename_i ds ty hs
      injection hp with hp
      subst hp
      refine ⟨b, off, rfl, fun j c hj => ?_⟩
      rw [List.getElem?_drop] at hj
      cases hc.ok id _ hs with
      | box hq hb hsz hcs =>
        rw [h1] at hq
        injection hq with hq
        injection hq with hq
        subst hq
        obtain ⟨h2, x, h3, h4⟩ := hcs _ c hj
        exact ⟨h2, x, cell_of_heap hb (by simpa using h3), h4⟩
    · cases hp
  | pe h1 =>
    rename_i id n sz i off b cap
    simp only [ptCells] at hp
    split at hp
    · rename_i es sz' ty st hs
      split at hp
      · rename_i hcond
        obtain ⟨rfl, h2, h3, h4⟩ := hcond
        cases he : es[i]? with
        | none => simp [he] at hp
        | some e =>
          simp only [he, Option.map_some] at hp
          injection hp with hp
          subst hp
          refine ⟨b, _, rfl, fun j c hj => ?_⟩
          rw [List.getElem?_drop] at hj
          cases hc.ok id _ hs with
          | row hsz hst hpp htop hm =>
            obtain ⟨_, _, C, h5, h6, h7⟩ := hm n b cap h2 h3 h1
            obtain ⟨h8, x, h9, h10⟩ := h7 i e h4 he _ c hj
            exact ⟨h8, x, cell_of_heap h5 (by rw [← Nat.add_assoc] at h9; exact h9), h10⟩
      · cases hp
    · cases hp
  | pr ho hv =>
    rename_i ds off b o vs
    simp only [ptCells] at hp
    injection hp with hp
    subst hp
    refine ⟨b, _, rfl, fun j c hj => ?_⟩
    rw [List.getElem?_drop] at hj
    obtain ⟨_, h2, h3⟩ := ho _ c hj
    exact ⟨h2, _, by rw [Nat.add_assoc]; exact h3, hv _ c hj⟩
  | _ => simp [ptCells] at hp

/-- A variable is read. -/
def aload (P : Program) (σ : AH) (t : TypeId) (p : AV) : Option AV :=
  match ptCells σ p, tagg P t with
  | some cs, some true => match tsz P t with
    | some k => if k ≤ cs.length then some (.ag (cs.take k)) else none
    | none => none
  | some cs, some false => cs[0]?
  | _, _ => none

theorem aload_ok {P : Program} {B : Nat} {R : Nat → Prop} {σ : AH} {φ : Pl} {w : World} (hc : Cfg B R σ φ w) {p : AV} {u : Value} (hr : RV φ R w p u) {t : TypeId} {v : AV} (h : aload P σ t p = some v) :
    ∃ x, (Instr.loadAt t u).run P w = .ok x w ∧ RV φ R w v x := by
  unfold aload at h
  split at h
  · rename_i cs hcs hg
    split at h
    · rename_i k hk
      split at h
      · rename_i hle
        injection h with h
        subst h
        obtain ⟨b, o, rfl, hat⟩ := ptCells_at hc hr hcs
        have hx : ∀ j, j < k → ∃ x, w.cell? ⟨b, o + j, none⟩ = some x ∧ ∀ c, cs[j]? = some c → c.one = true ∧ RV φ R w c x := fun j hj => by
          have hlt : j < cs.length := by omega
          obtain ⟨h1, x, h2, h3⟩ := hat j cs[j] (by simp [hlt])
          refine ⟨x, h2, fun c hc' => ?_⟩
          have : cs[j] = c := by simpa [hlt] using hc'
          subst this
          exact ⟨h1, h3⟩
        have hf : ∃ f : Nat → Value, ∀ j, j < k → w.cell? ⟨b, o + j, none⟩ = some (f j) ∧ ∀ c, cs[j]? = some c → c.one = true ∧ RV φ R w c (f j) := by
          refine ⟨fun j => if h : j < k then Classical.choose (hx j h) else undef, fun j hj => ?_⟩
          simp only [hj, dif_pos]
          exact Classical.choose_spec (hx j hj)
        obtain ⟨f, hf⟩ := hf
        refine ⟨.agg ((List.range k).map f).toArray, ?_, ?_⟩
        · have hl := run_loadCells (P := P) w ⟨b, o, none⟩ k f (fun j hj => by rw [Addr.add_lit]; exact (hf j hj).1)
          simp [Instr.loadAt, Instr.sureAddr, loadVar, run_isAgg hg, run_sizeOf' hk, hl]
        · refine .ag (by simp; omega) (fun c hc' => ?_) (fun i c u h1 h2 => ?_)
          · obtain ⟨i, hi⟩ := List.mem_iff_getElem?.1 hc'
            rw [List.getElem?_take] at hi
            split at hi
            · rename_i hik
              exact ((hf i hik).2 c hi).1
            · cases hi
          · rw [List.getElem?_take] at h1
            split at h1
            · rename_i hik
              have : u = f i := by simp [hik] at h2; exact h2.symm
              subst this
              exact ((hf i hik).2 c h1).2
            · cases h1
      · cases h
    · cases h
  · rename_i cs hcs hg
    obtain ⟨b, o, rfl, hat⟩ := ptCells_at hc hr hcs
    obtain ⟨h1, x, h2, h3⟩ := hat 0 v h
    refine ⟨x, ?_, h3⟩
    simp only [Nat.add_zero] at h2
    simp [Instr.loadAt, Instr.sureAddr, loadVar, run_isAgg hg, h2]
  · cases h

/-! ### Writing -/
def splice (cs : List AV) (off : Nat) (vs : List AV) : List AV := cs.take off ++ vs ++ cs.drop (off + vs.length)
theorem splice_length {cs : List AV} {off : Nat} {vs : List AV} (h : off + vs.length ≤ cs.length) : (splice cs off vs).length = cs.length := by
  simp [splice]; omega
theorem getElem?_splice {α : Type} {cs : List α} {off : Nat} {vs : List α} (h : off + vs.length ≤ cs.length) (k : Nat) :
    (cs.take off ++ vs ++ cs.drop (off + vs.length))[k]? = if k < off then cs[k]? else if k < off + vs.length then vs[k - off]? else cs[k]? := by
  by_cases h1 : k < off
  · rw [if_pos h1, List.getElem?_append_left (by simp; omega), List.getElem?_append_left (by simp; omega), List.getElem?_take, if_pos h1]
  · rw [if_neg h1]
    by_cases h2 : k < off + vs.length
    · rw [if_pos h2, List.getElem?_append_left (by simp; omega), List.getElem?_append_right (by simp; omega)]
      simp [show min off cs.length = off by omega]
    · rw [if_neg h2, List.getElem?_append_right (by simp; omega), List.getElem?_drop]
      congr 1
      simp
      omega

def AV.allOne (cs : List AV) : Bool := cs.all (·.one)

/-- A variable is written. -/
def astore (P : Program) (σ : AH) (t : TypeId) (p v : AV) : Option AH :=
  match p with
  | .pt id off => match σ id with
    | some (.box cs ty) => if tsz P t = some v.cells.length ∧ AV.allOne v.cells = true ∧ off + v.cells.length ≤ cs.length then some (σ.set id (.box (splice cs off v.cells) ty)) else none
    | _ => none
  | .pe id n sz i off => match σ id with
    | some (.row es sz' ty st) => if tsz P t = some v.cells.length ∧ AV.allOne v.cells = true ∧ sz' = sz ∧ n = es.length ∧ i < n ∧ off + v.cells.length ≤ sz then
        some (σ.set id (.row (es.set i (splice (es.getD i []) off v.cells)) sz ty n)) else none
    | _ => none
  | _ => none

theorem run_storeAt' {P : Program} {w : World} {t : TypeId} {b o k : Nat} {x : Value} (ht : tsz P t = some k) (hk : x.cells.size = k) {C : Array Value} {ty : TypeId} (hb : w.heap[b]? = some (.cells C ty (0, 0)))
    (hfit : o + k ≤ C.size) (h1 : ∀ u ∈ x.cells.toList, u.oneCell' = true) :
    (Instr.storeAt t (.pointer (some ⟨b, o, none⟩)) x).run P w = .ok () (w.setRow b (C.toList.take o ++ x.cells.toList ++ C.toList.drop (o + x.cells.toList.length)).toArray) := by
  have hst := run_storeCells_at P b o ty x.cells.toList 0 C w hb (by simp [hk]; omega) h1
  simp only [Nat.add_zero] at hst
  simp only [Instr.storeAt, Instr.sureAddr, storeVar, Sem.run_bind, Sem.run_pure, Result.andThen_ok, run_sizeOf' ht, hk]
  simp only [ne_eq, not_true_eq_false, if_false, Sem.run_ite, Sem.run_pure, Result.andThen_ok, hst]

theorem allOne_mem {cs : List AV} (h : AV.allOne cs = true) : ∀ c ∈ cs, c.one = true := by simpa [AV.allOne] using h

/-- The value's cells in the machine. -/
theorem RV.cells' {φ : Pl} {R : Nat → Prop} {w : World} {v : AV} {u : Value} (h : RV φ R w v u) (h1 : AV.allOne v.cells = true) :
    u.cells.size = v.cells.length ∧ ∀ (i : Nat) c x, v.cells[i]? = some c → u.cells[i]? = some x → RV φ R w c x := by
  have h2 := h.cells (by
    cases v with
    | ag cs => exact .inr ⟨cs, rfl⟩
    | _ => left; simpa [AV.allOne, AV.cells] using h1)
  exact ⟨h2.1, h2.2.2⟩

theorem RV.cells_one {φ : Pl} {R : Nat → Prop} {w : World} {v : AV} {u : Value} (h : RV φ R w v u) (h1 : AV.allOne v.cells = true) : ∀ x ∈ u.cells.toList, x.oneCell' = true := by
  intro x hx
  obtain ⟨i, hi⟩ := List.mem_iff_getElem?.1 hx
  obtain ⟨h2, h3⟩ := h.cells' h1
  have hlt : i < v.cells.length := by rw [← h2]; simpa using (List.getElem?_eq_some_iff.1 hi).1
  have hc : v.cells[i]? = some v.cells[i] := by simp [hlt]
  exact (h3 i _ x hc (by simpa using hi)).one (allOne_mem h1 _ (List.mem_of_getElem? hc))

theorem astore_ok {P : Program} {B : Nat} {R : Nat → Prop} {σ : AH} {φ : Pl} {w : World} (hc : Cfg B R σ φ w) {p : AV} {u : Value} (hr : RV φ R w p u) {v : AV} {x : Value} (hv : RV φ R w v x)
    {t : TypeId} {σ' : AH} (h : astore P σ t p v = some σ') :
    ∃ w', (Instr.storeAt t u x).run P w = .ok () w' ∧ Cfg B R σ' φ w' ∧ Ext R σ φ w R σ' φ w' := by
  unfold astore at h
  cases hr with
  | pt h1 =>
    rename_i id off b cap
    simp only at h
    split at h
    · rename_i cs ty hs
      split at h
      · rename_i hcond
        obtain ⟨ht, ho, hfit⟩ := hcond
        injection h with h
        subst h
        obtain ⟨hx1, hx2⟩ := hv.cells' ho
        cases hc.ok id _ hs with
        | box hq hb hsz hcs =>
          rename_i b' c' C
          rw [h1] at hq
          injection hq with hq
          injection hq with hq
          subst hq
          have hrun := run_storeAt' (P := P) (w := w) (x := x) ht hx1 hb (o := off) (by omega) (hv.cells_one ho)
          refine ⟨_, hrun, hc.setRow (by rw [hs]; simp) h1 _ fun hE => .box h1 (setRow_heap w b C _ ty (0, 0) hb) ?_ ?_⟩
          · rw [splice_length hfit]
            simp
            omega
          · refine CellsAt.ext hE fun j c hj => ?_
            unfold splice at hj
            rw [getElem?_splice hfit] at hj
            simp only [Nat.zero_add, List.getElem?_toArray]
            rw [getElem?_splice (by simp; omega)]
            simp only [Array.length_toList, hx1]
            split at hj
            · rename_i hlt
              obtain ⟨a1, y, a2, a3⟩ := hcs j c hj
              exact ⟨a1, y, by rw [if_pos hlt]; simpa using a2, a3⟩
            · rename_i hlt
              split at hj
              · rename_i hlt2
                have hlt3 : j - off < x.cells.size := by omega
                refine ⟨allOne_mem ho c (List.mem_of_getElem? hj), x.cells[j - off], ?_, hx2 _ c _ hj (by simp [hlt3])⟩
                rw [if_neg hlt, if_pos hlt2]
                simp [hlt3]
              · rename_i hlt2
                obtain ⟨a1, y, a2, a3⟩ := hcs j c hj
                exact ⟨a1, y, by rw [if_neg hlt, if_neg hlt2]; simpa using a2, a3⟩
      · cases h
    · cases h
  | pe h1 =>
    rename_i id n sz i off b cap
    simp only at h
    split at h
    · rename_i es sz' ty st hs
      split at h
      · rename_i hcond
        obtain ⟨ht, ho, rfl, rfl, hi, hfit⟩ := hcond
        injection h with h
        subst h
        obtain ⟨hx1, hx2⟩ := hv.cells' ho
        cases hc.ok id _ hs with
        | row hsz hst hpp htop hm =>
          obtain ⟨hcap, hmax, C, hb, hCs, hrow⟩ := hm _ b cap hst (Nat.le_refl _) h1
          have hei : es[i]? = some es[i] := by simp [hi]
          have hel : es[i].length = sz' := hsz _ (List.getElem_mem hi)
          have hge : es.getD i [] = es[i] := by simp [List.getD, hi]
          have hpos : i * sz' + sz' ≤ cap * sz' := by
            have := Nat.mul_le_mul_right sz' (show i + 1 ≤ cap by omega)
            rwa [Nat.succ_mul] at this
          have hfitC : i * sz' + off + v.cells.length ≤ C.size := by omega
          have hrun := run_storeAt' (P := P) (w := w) (x := x) ht hx1 hb (o := i * sz' + off) hfitC (hv.cells_one ho)
          rw [hge]
          have hsl : (splice es[i] off v.cells).length = sz' := by rw [splice_length (by omega), hel]
          refine ⟨_, hrun, hc.setRow (by rw [hs]; simp) h1 _ fun hE => .row (fun e he => ?_) (by simp) ?_ (fun m hlt => htop m (by simpa using hlt)) (fun m b' c' h3 h4 h5 => ?_)⟩
          · obtain ⟨k, hk⟩ := List.mem_iff_getElem?.1 he
            by_cases hki : k = i
            · subst hki
              rw [List.getElem?_set_self hi] at hk
              injection hk with hk
              rw [← hk]; exact hsl
            · rw [List.getElem?_set_ne (fun e' => hki e'.symm)] at hk
              exact hsz e (List.mem_of_getElem? hk)
          · simpa using hpp
          · simp only [List.length_set] at h4
            obtain rfl : m = es.length := by omega
            rw [h1] at h5
            injection h5 with h5
            injection h5 with h5 h6
            subst h5; subst h6
            refine ⟨hcap, hmax, _, setRow_heap w b C _ ty (0, 0) hb, ?_, ?_⟩
            · simp
              omega
            · refine RowAt.ext hE fun k e hk he j c hj => ?_
              simp only [List.getElem?_toArray]
              rw [getElem?_splice (by simp; omega)]
              simp only [Array.length_toList, hx1]
              by_cases hki : k = i
              · subst hki
                rw [List.getElem?_set_self hi] at he
                injection he with he
                subst he
                unfold splice at hj
                rw [getElem?_splice (by omega)] at hj
                split at hj
                · rename_i hlt
                  obtain ⟨a1, y, a2, a3⟩ := hrow k _ hk hei j c hj
                  exact ⟨a1, y, by rw [if_pos (by omega)]; simpa using a2, a3⟩
                · rename_i hlt
                  split at hj
                  · rename_i hlt2
                    have hlt3 : j - off < x.cells.size := by omega
                    refine ⟨allOne_mem ho c (List.mem_of_getElem? hj), x.cells[j - off], ?_, hx2 _ c _ hj (by simp [hlt3])⟩
                    rw [if_neg (by omega), if_pos (by omega)]
                    simp [show k * sz' + j - (k * sz' + off) = j - off by omega, hlt3]
                  · rename_i hlt2
                    obtain ⟨a1, y, a2, a3⟩ := hrow k _ hk hei j c hj
                    exact ⟨a1, y, by rw [if_neg (by omega), if_neg (by omega)]; simpa using a2, a3⟩
              · rw [List.getElem?_set_ne (fun e' => hki e'.symm)] at he
                have hlj : j < sz' := by
                  have := (List.getElem?_eq_some_iff.1 hj).1
                  rwa [hsz e (List.mem_of_getElem? he)] at this
                obtain ⟨a1, y, a2, a3⟩ := hrow k e hk he j c hj
                refine ⟨a1, y, ?_, a3⟩
                rcases Nat.lt_or_gt_of_ne hki with hlt | hgt
                · have := Nat.mul_le_mul_right sz' (show k + 1 ≤ i by omega)
                  rw [Nat.succ_mul] at this
                  rw [if_pos (by omega)]; simpa using a2
                · have := Nat.mul_le_mul_right sz' (show i + 1 ≤ k by omega)
                  rw [Nat.succ_mul] at this
                  rw [if_neg (by omega), if_neg (by omega)]; simpa using a2
      · cases h
    · cases h
  | _ => simp at h

end Go.Proofs.Ytdimikmgkdcglaa
