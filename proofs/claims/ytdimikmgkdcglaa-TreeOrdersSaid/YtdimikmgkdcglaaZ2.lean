/- Arguments opened: pages of nodes. No conditions. -/
import Derived.Test.YtdimikmgkdcglaaZ0
import Derived.Test.YtdimikmgkdcglaaF1
import Derived.Test.YtdimikmgkdcglaaC7
import Derived.OpenShut
set_option linter.unusedVariables false
set_option linter.unusedSimpArgs false
namespace Go.Proofs.Ytdimikmgkdcglaa
open Go.ChangeShapes Go.RowKit

section
variable {H : Type} {enc : TypeId × Value → H} {w : World} {sp : Nat → Bool} {held : Bool}

/-- Cells that lie in a list of values, from a place on. -/
def Rd (w : World) (cs : List Value) (o : Nat) (avs : List AV) : Prop :=
  ∀ (j : Nat) (c : AV), avs[j]? = some c → c.one = true ∧ ∃ v, cs[o + j]? = some v ∧ RV (fun _ _ => none) (fun b => b < w.heap.size) w c v
theorem Rd.app {cs : List Value} {o : Nat} {a b : List AV} (h : Rd w cs o a) (k : Rd w cs (o + a.length) b) : Rd w cs o (a ++ b) := fun j c hj => by
  by_cases hlt : j < a.length
  · rw [List.getElem?_append_left hlt] at hj; exact h j c hj
  · rw [List.getElem?_append_right (by omega)] at hj
    have := k (j - a.length) c hj
    rwa [show o + a.length + (j - a.length) = o + j by omega] at this
theorem Rd.appN {cs : List Value} {o : Nat} {a b : List AV} (n : Nat) (hn : a.length = n) (h : Rd w cs o a) (k : Rd w cs (o + n) b) : Rd w cs o (a ++ b) := by
  subst hn; exact h.app k
theorem Rd.to {cs : List Value} {o o' : Nat} {a : List AV} (h : Rd w cs o a) (e : o = o') : Rd w cs o' a := e ▸ h
theorem Rd.one {cs : List Value} {o : Nat} {c : AV} {v : Value} (h1 : c.one = true) (h : cs[o]? = some v) (hr : RV (fun _ _ => none) (fun b => b < w.heap.size) w c v) : Rd w cs o [c] := fun j x hj => by
  cases j with
  | zero => simp at hj; subst hj; exact ⟨h1, v, h, hr⟩
  | succ j => simp at hj
theorem Rd.int {cs : List Value} {o : Nat} {n : Int} (h : cs[o]? = some (.int .i64 n)) : Rd w cs o [eI n] := Rd.one rfl h (.sc rfl)
theorem Rd.u32 {cs : List Value} {o : Nat} {n : Int} (h : cs[o]? = some (.int .u32 n)) : Rd w cs o [eU n] := Rd.one rfl h (.sc rfl)
theorem Rd.bool {cs : List Value} {o : Nat} {b : Bool} (h : cs[o]? = some (.bool b)) : Rd w cs o [eB b] := Rd.one rfl h (.sc rfl)

theorem at_of {cs : List Value} {o : Nat} {v : Value} (h : (cs.drop o).take 1 = [v]) : cs[o]? = some v := by
  have := congrArg (fun l : List Value => l[0]?) h
  simpa using this
theorem sub_drop {cs : List Value} {o m o' k' : Nat} (h : o' + k' ≤ m) : (((cs.drop o).take m).drop o').take k' = (cs.drop (o + o')).take k' := by
  rw [List.drop_take, List.take_take, List.drop_drop, Nat.min_eq_left (by omega)]

variable {fuel : Nat} {cs : List Value} {x : DataW H × List MemPlace}
theorem rd_int {t : TypeId} {k : IntKind} {o : Nat} (ht : Try.prog.underlying t = some (.int k)) (h : DataW.trod enc Try.prog w 0 sp held fuel t ((cs.drop o).take 1) = some x) : ∃ n, cs[o]? = some (.int k n) := by
  obtain ⟨n, h1, _⟩ := DataW.trod_int ht h
  exact ⟨n, at_of h1⟩
theorem rd_bool {t : TypeId} {o : Nat} (ht : Try.prog.underlying t = some .bool) (h : DataW.trod enc Try.prog w 0 sp held fuel t ((cs.drop o).take 1) = some x) : ∃ b, cs[o]? = some (.bool b) := by
  obtain ⟨n, h1, _⟩ := DataW.trod_bool ht h
  exact ⟨n, at_of h1⟩
theorem rd_field {t : TypeId} (i t' o' k' : Nat) {o m : Nat} (ht : Try.prog.underlying t = some (.struct (Try.prog.fieldsOf t))) (h : DataW.trod enc Try.prog w 0 sp held fuel t ((cs.drop o).take m) = some x)
    (hf : ((Try.prog.fieldsOf t)[i]?.map fun f => (f.type, f.offset)) = some (t', o')) (hk : tsz Try.prog t' = some k') (hle : o' + k' ≤ m) :
    ∃ (n : Nat) (y : DataW H × List MemPlace), DataW.trod enc Try.prog w 0 sp held n t' ((cs.drop (o + o')).take k') = some y := by
  obtain ⟨xs, n, _, _, _, hl, hx⟩ := DataW.trod_struct ht h
  cases hfi : (Try.prog.fieldsOf t)[i]? with
  | none => rw [hfi] at hf; cases hf
  | some f =>
    rw [hfi] at hf
    simp only [Option.map_some, Option.some.injEq, Prod.mk.injEq] at hf
    obtain ⟨rfl, rfl⟩ := hf
    have h1 := hx i f hfi
    rw [cellsOf_tsz hk, sub_drop hle] at h1
    have hi : i < xs.length := by rw [hl]; exact (Array.getElem?_eq_some_iff.1 hfi).1
    rw [List.getElem?_eq_getElem hi] at h1
    exact ⟨n, _, h1⟩
theorem rd_elem {t e n k : Nat} {o m : Nat} (ht : Try.prog.underlying t = some (.array n e)) (h : DataW.trod enc Try.prog w 0 sp held fuel t ((cs.drop o).take m) = some x) (hk : tsz Try.prog e = some k) (hm : n * k = m) :
    ∃ f, ∀ i, i < n → ∃ y : DataW H × List MemPlace, DataW.trod enc Try.prog w 0 sp held f e ((cs.drop (o + i * k)).take k) = some y := by
  obtain ⟨xs, f, _, _, _, hl, hx⟩ := DataW.trod_array ht h
  refine ⟨f, fun i hi => ?_⟩
  have h1 := hx i hi
  have hle : i * k + k ≤ m := by
    rw [← hm]
    have := Nat.mul_le_mul_right k (show i + 1 ≤ n by omega)
    rwa [Nat.succ_mul] at this
  rw [cellsOf_tsz hk, sub_drop hle] at h1
  have hi' : i < xs.length := by rw [hl]; exact hi
  rw [List.getElem?_eq_getElem hi'] at h1
  exact ⟨_, h1⟩

theorem rd26 {o : Nat} (h : DataW.trod enc Try.prog w 0 sp held fuel 26 ((cs.drop o).take 2) = some x) : ∃ s : Sz, Rd w cs o s.cells := by
  obtain ⟨n0, y0, h0⟩ := rd_field 0 3 0 1 (by kernel_rfl) h (by kernel_rfl) tsz_3 (by omega)
  obtain ⟨n1, y1, h1⟩ := rd_field 1 2 1 1 (by kernel_rfl) h (by kernel_rfl) tsz_2 (by omega)
  obtain ⟨a, ha⟩ := rd_int (k := .i64) (by kernel_rfl) h0
  obtain ⟨b, hb⟩ := rd_int (k := .i64) (by kernel_rfl) h1
  exact ⟨⟨a, b⟩, (Rd.int ha).app (Rd.int hb)⟩
theorem rd30 {o : Nat} (h : DataW.trod enc Try.prog w 0 sp held fuel 30 ((cs.drop o).take 3) = some x) : ∃ s : Ln, Rd w cs o s.cells := by
  obtain ⟨n0, y0, h0⟩ := rd_field 0 3 0 1 (by kernel_rfl) h (by kernel_rfl) tsz_3 (by omega)
  obtain ⟨n1, y1, h1⟩ := rd_field 1 2 1 1 (by kernel_rfl) h (by kernel_rfl) tsz_2 (by omega)
  obtain ⟨n2, y2, h2⟩ := rd_field 2 28 2 1 (by kernel_rfl) h (by kernel_rfl) tsz_28 (by omega)
  obtain ⟨a, ha⟩ := rd_int (k := .i64) (by kernel_rfl) h0
  obtain ⟨b, hb⟩ := rd_int (k := .i64) (by kernel_rfl) h1
  obtain ⟨c, hc⟩ := rd_int (k := .u32) (by kernel_rfl) h2
  exact ⟨⟨a, b, c⟩, ((Rd.int ha).app (Rd.int hb)).app (Rd.u32 hc)⟩
set_option maxHeartbeats 2000000 in
theorem rd34 {o : Nat} (h : DataW.trod enc Try.prog w 0 sp held fuel 34 ((cs.drop o).take 29) = some x) : ∃ s : Sty, Rd w cs o s.cells := by
  obtain ⟨n0, y0, h0⟩ := rd_field 0 26 0 2 (by kernel_rfl) h (by kernel_rfl) tsz_26 (by omega)
  obtain ⟨n1, y1, h1⟩ := rd_field 1 26 2 2 (by kernel_rfl) h (by kernel_rfl) tsz_26 (by omega)
  obtain ⟨n2, y2, h2⟩ := rd_field 2 27 4 4 (by kernel_rfl) h (by kernel_rfl) tsz_27 (by omega)
  obtain ⟨n3, y3, h3⟩ := rd_field 3 31 8 12 (by kernel_rfl) h (by kernel_rfl) tsz_31 (by omega)
  obtain ⟨n4, y4, h4⟩ := rd_field 4 3 20 1 (by kernel_rfl) h (by kernel_rfl) tsz_3 (by omega)
  obtain ⟨n5, y5, h5⟩ := rd_field 5 3 21 1 (by kernel_rfl) h (by kernel_rfl) tsz_3 (by omega)
  obtain ⟨n6, y6, h6⟩ := rd_field 6 3 22 1 (by kernel_rfl) h (by kernel_rfl) tsz_3 (by omega)
  obtain ⟨n7, y7, h7⟩ := rd_field 7 4 23 1 (by kernel_rfl) h (by kernel_rfl) tsz_4 (by omega)
  obtain ⟨n8, y8, h8⟩ := rd_field 8 4 24 1 (by kernel_rfl) h (by kernel_rfl) tsz_4 (by omega)
  obtain ⟨n9, y9, h9⟩ := rd_field 9 32 25 2 (by kernel_rfl) h (by kernel_rfl) tsz_32 (by omega)
  obtain ⟨n10, y10, h10⟩ := rd_field 10 4 27 1 (by kernel_rfl) h (by kernel_rfl) tsz_4 (by omega)
  obtain ⟨n11, y11, h11⟩ := rd_field 11 4 28 1 (by kernel_rfl) h (by kernel_rfl) tsz_4 (by omega)
  obtain ⟨s0, e0⟩ := rd26 h0
  obtain ⟨s1, e1⟩ := rd26 h1
  obtain ⟨f2, g2⟩ := rd_elem (n := 4) (e := 2) (by kernel_rfl) h2 tsz_2 (by omega)
  obtain ⟨f3, g3⟩ := rd_elem (n := 4) (e := 30) (by kernel_rfl) h3 tsz_30 (by omega)
  obtain ⟨f9, g9⟩ := rd_elem (n := 2) (e := 2) (by kernel_rfl) h9 tsz_2 (by omega)
  obtain ⟨_, q0⟩ := g2 0 (by omega)
  obtain ⟨_, q1⟩ := g2 1 (by omega)
  obtain ⟨_, q2⟩ := g2 2 (by omega)
  obtain ⟨_, q3⟩ := g2 3 (by omega)
  obtain ⟨p0, r0⟩ := rd_int (k := .i64) (by kernel_rfl) q0
  obtain ⟨p1, r1⟩ := rd_int (k := .i64) (by kernel_rfl) q1
  obtain ⟨p2, r2⟩ := rd_int (k := .i64) (by kernel_rfl) q2
  obtain ⟨p3, r3⟩ := rd_int (k := .i64) (by kernel_rfl) q3
  obtain ⟨_, u0⟩ := g3 0 (by omega)
  obtain ⟨_, u1⟩ := g3 1 (by omega)
  obtain ⟨_, u2⟩ := g3 2 (by omega)
  obtain ⟨_, u3⟩ := g3 3 (by omega)
  obtain ⟨b0, v0⟩ := rd30 u0
  obtain ⟨b1, v1⟩ := rd30 u1
  obtain ⟨b2, v2⟩ := rd30 u2
  obtain ⟨b3, v3⟩ := rd30 u3
  obtain ⟨c4, k4⟩ := rd_int (k := .i64) (by kernel_rfl) h4
  obtain ⟨c5, k5⟩ := rd_int (k := .i64) (by kernel_rfl) h5
  obtain ⟨c6, k6⟩ := rd_int (k := .i64) (by kernel_rfl) h6
  obtain ⟨c7, k7⟩ := rd_bool (by kernel_rfl) h7
  obtain ⟨c8, k8⟩ := rd_bool (by kernel_rfl) h8
  obtain ⟨_, w0⟩ := g9 0 (by omega)
  obtain ⟨_, w1⟩ := g9 1 (by omega)
  obtain ⟨d0, z0⟩ := rd_int (k := .i64) (by kernel_rfl) w0
  obtain ⟨d1, z1⟩ := rd_int (k := .i64) (by kernel_rfl) w1
  obtain ⟨c10, k10⟩ := rd_bool (by kernel_rfl) h10
  obtain ⟨c11, k11⟩ := rd_bool (by kernel_rfl) h11
  have a0 : Rd w cs (o + 0) s0.cells := Rd.to e0 (by omega)
  have a1 : Rd w cs (o + 2) s1.cells := Rd.to e1 (by omega)
  have a2 : Rd w cs (o + 4) [eI p0] := Rd.to (Rd.int r0) (by omega)
  have a3 : Rd w cs (o + 5) [eI p1] := Rd.to (Rd.int r1) (by omega)
  have a4 : Rd w cs (o + 6) [eI p2] := Rd.to (Rd.int r2) (by omega)
  have a5 : Rd w cs (o + 7) [eI p3] := Rd.to (Rd.int r3) (by omega)
  have a6 : Rd w cs (o + 8) b0.cells := Rd.to v0 (by omega)
  have a7 : Rd w cs (o + 11) b1.cells := Rd.to v1 (by omega)
  have a8 : Rd w cs (o + 14) b2.cells := Rd.to v2 (by omega)
  have a9 : Rd w cs (o + 17) b3.cells := Rd.to v3 (by omega)
  have a10 : Rd w cs (o + 20) [eI c4] := Rd.to (Rd.int k4) (by omega)
  have a11 : Rd w cs (o + 21) [eI c5] := Rd.to (Rd.int k5) (by omega)
  have a12 : Rd w cs (o + 22) [eI c6] := Rd.to (Rd.int k6) (by omega)
  have a13 : Rd w cs (o + 23) [eB c7] := Rd.to (Rd.bool k7) (by omega)
  have a14 : Rd w cs (o + 24) [eB c8] := Rd.to (Rd.bool k8) (by omega)
  have a15 : Rd w cs (o + 25) [eI d0] := Rd.to (Rd.int z0) (by omega)
  have a16 : Rd w cs (o + 26) [eI d1] := Rd.to (Rd.int z1) (by omega)
  have a17 : Rd w cs (o + 27) [eB c10] := Rd.to (Rd.bool k10) (by omega)
  have a18 : Rd w cs (o + 28) [eB c11] := Rd.to (Rd.bool k11) (by omega)
  have g0 : Rd w cs o s0.cells := Rd.to a0 (by omega)
  have g1 := Rd.appN 2 (by rfl) g0 a1
  have g2 := Rd.appN 4 (by rfl) g1 a2
  have g3 := Rd.appN 5 (by rfl) g2 a3
  have g4 := Rd.appN 6 (by rfl) g3 a4
  have g5 := Rd.appN 7 (by rfl) g4 a5
  have g6 := Rd.appN 8 (by rfl) g5 a6
  have g7 := Rd.appN 11 (by rfl) g6 a7
  have g8 := Rd.appN 14 (by rfl) g7 a8
  have g9 := Rd.appN 17 (by rfl) g8 a9
  have g10 := Rd.appN 20 (by rfl) g9 a10
  have g11 := Rd.appN 21 (by rfl) g10 a11
  have g12 := Rd.appN 22 (by rfl) g11 a12
  have g13 := Rd.appN 23 (by rfl) g12 a13
  have g14 := Rd.appN 24 (by rfl) g13 a14
  have g15 := Rd.appN 25 (by rfl) g14 a15
  have g16 := Rd.appN 26 (by rfl) g15 a16
  have g17 := Rd.appN 27 (by rfl) g16 a17
  have g18 := Rd.appN 28 (by rfl) g17 a18
  exact ⟨⟨s0, s1, [p0, p1, p2, p3], [b0, b1, b2, b3], c4, c5, c6, c7, c8, d0, d1, c10, c11, rfl, rfl⟩, g18⟩

/-! ### Slices -/
theorem spot_none {a : Addr} {v : Value} (h : w.cell? a = some v) : a.spot = none := by
  unfold World.cell? at h
  split at h
  · split at h
    · cases h
    · rename_i hs; simpa using hs
  · cases h
theorem add_eq {b o i : Nat} : (⟨b, o, none⟩ : Addr).add i = ⟨b, o + i, none⟩ := by
  unfold Addr.add
  split
  · rename_i h; subst h; rfl
  · rfl
theorem cells_at {a : Addr} {n : Nat} {l : List Value} (h : w.cells? 0 a n = some l) : l.length = n ∧ ∀ j, j < n → w.cell? (a.add j) = l[j]? := by
  unfold World.cells? at h
  rw [if_pos (Nat.zero_le _)] at h
  exact ⟨by simpa using mapM_some_length h, fun j hj => mapM_some_get h j j (by simp [hj])⟩
/-- A slice whose elements are opened one by one. -/
theorem rd_slice {α : Type} {t e k : Nat} (f : α → List AV) (hf : ∀ a, (f a).length = k) (hk0 : 0 < k) (ht : Try.prog.underlying t = some (.slice e)) (hk : tsz Try.prog e = some k)
    (hel : ∀ (fuel : Nat) (l : List Value) (y : DataW H × List MemPlace), l.length = k → DataW.trod enc Try.prog w 0 sp held fuel e l = some y → ∃ a, Rd w l 0 (f a)) {v : Value}
    (h : DataW.trod enc Try.prog w 0 sp held fuel t [v] = some x) : (v = .slice none 0 0) ∨ ∃ l : List α, l.length ≤ maxLen ∧ RV (fun _ _ => none) (fun b => b < w.heap.size) w (.ro (l.map f)) v := by
  rcases DataW.trod_slice ht h with ⟨h1, _⟩ | ⟨a, len, cap, elems, rest, n, _, h1, _, _, hlc, hcap, hlen, hi, _⟩
  · left; simpa using h1
  · right
    simp only [List.cons.injEq, and_true] at h1
    subst h1
    rw [cellsOf_tsz hk] at hi
    have hone : ∀ i, i < len → ∃ (c : α) (cs : List Value), Rd w cs 0 (f c) ∧ cs.length = k ∧ ∀ j, j < k → w.cell? ((a.add (i * k)).add j) = cs[j]? := fun i hil => by
      have h2 := hi i hil
      rw [List.getElem?_eq_getElem (by omega)] at h2
      obtain ⟨cs, h3, h4⟩ := Option.bind_eq_some_iff.1 h2
      obtain ⟨q1, q2⟩ := cells_at h3
      obtain ⟨c, hc⟩ := hel n cs _ q1 h4
      exact ⟨c, cs, hc, q1, q2⟩
    by_cases h0 : len = 0
    · subst h0
      exact ⟨[], by simp, .roe⟩
    · obtain ⟨c0, cs0, r0, l0, q0⟩ := hone 0 (by omega)
      have hsp : a.spot = none := by
        have h3 := q0 0 hk0
        have h4 : ((a.add (0 * k)).add 0) = a := by simp [Addr.add]
        rw [h4, List.getElem?_eq_getElem (by omega)] at h3
        exact spot_none h3
      obtain ⟨b, o, s⟩ := a
      simp only at hsp
      subst hsp
      classical
      let g : Nat → α := fun i => if h : i < len then Classical.choose (hone i h) else c0
      have hg : ∀ i, i < len → ∃ cs : List Value, Rd w cs 0 (f (g i)) ∧ cs.length = k ∧ ∀ j, j < k → w.cell? (((⟨b, o, none⟩ : Addr).add (i * k)).add j) = cs[j]? := fun i hil => by
        simp only [g, dif_pos hil]
        exact Classical.choose_spec (hone i hil)
      let vs : Nat → Nat → Value := fun i j => (w.cell? ⟨b, o + i * k + j, none⟩).getD (.bool false)
      have hl : ((List.range len).map g).length = len := by simp
      have hv : RV (fun _ _ => none) (fun b => b < w.heap.size) w (.ro (((List.range len).map g).map f)) (.slice (some ⟨b, o, none⟩) (((List.range len).map g).map f).length cap) := by
        refine .ro (sz := k) (vs := vs) (by simp; exact hlc) (fun e he => ?_) (fun i e j c hie hjc => ?_) (fun i e j c hie hjc => ?_)
        · obtain ⟨q, _, rfl⟩ := List.mem_map.1 he
          exact hf q
        all_goals
          have hil : i < len := by
            have := (List.getElem?_eq_some_iff.1 hie).1
            simpa using this
          have he : e = f (g i) := by
            rw [List.getElem?_map, List.getElem?_map] at hie
            simp [hil] at hie
            exact hie.symm
          subst he
          obtain ⟨cs, r1, r2, r3⟩ := hg i hil
          have hjk : j < k := by
            have := (List.getElem?_eq_some_iff.1 hjc).1
            rw [hf] at this; exact this
          obtain ⟨p1, u, p2, p3⟩ := r1 j c hjc
          rw [Nat.zero_add] at p2
          have r4 := r3 j hjk
          rw [add_eq, add_eq, p2] at r4
          have hvs : vs i j = u := by simp only [vs, r4, Option.getD_some]
        · exact ⟨World.block_lt_of_cell? w _ r4, p1, by rw [hvs]; exact r4⟩
        · rw [hvs]; exact p3
      refine ⟨(List.range len).map g, by rw [hl]; omega, ?_⟩
      have hl2 : (((List.range len).map g).map f).length = len := by simp
      rw [hl2] at hv
      exact hv
theorem rd_ints {t e : Nat} (ht : Try.prog.underlying t = some (.slice e)) (he : Try.prog.underlying e = some (.int .i64)) (hk : tsz Try.prog e = some 1) {o : Nat} (h : DataW.trod enc Try.prog w 0 sp held fuel t ((cs.drop o).take 1) = some x) :
    ∃ s : Sl, s.l.length ≤ maxLen ∧ Rd w cs o [s.av] := by
  cases hd : (cs.drop o).take 1 with
  | nil =>
    rw [hd] at h
    rcases DataW.trod_slice ht h with ⟨h1, _⟩ | ⟨a, len, cap, elems, rest, n, _, h1, _⟩ <;> cases h1
  | cons v r =>
    have hr : r = [] := by
      have : ((cs.drop o).take 1).length ≤ 1 := by simp; omega
      rw [hd] at this
      simp at this
      exact this
    subst hr
    rw [hd] at h
    have hv := at_of hd
    rcases rd_slice (α := Int) (k := 1) (fun n => [eI n]) (fun _ => rfl) (by omega) ht hk (fun fuel l y hl hy => by
        obtain ⟨n, h1, _⟩ := DataW.trod_int he hy
        subst h1
        exact ⟨n, Rd.int rfl⟩) h with rfl | ⟨l, hl, hr⟩
    · exact ⟨none, Nat.zero_le _, Rd.one rfl hv (.sc rfl)⟩
    · exact ⟨some l, hl, Rd.one rfl hv hr⟩
theorem rd37 (hl : cs.length = 34) (h : DataW.trod enc Try.prog w 0 sp held fuel 37 cs = some x) : ∃ n : Nd, (n.kids.l.length ≤ maxLen ∧ n.words.l.length ≤ maxLen) ∧ Rd w cs 0 n.cells := by
  have hcs : (cs.drop 0).take 34 = cs := by rw [List.drop_zero, List.take_of_length_le (by omega)]
  rw [← hcs] at h
  obtain ⟨n0, y0, h0⟩ := rd_field 0 3 0 1 (by kernel_rfl) h (by kernel_rfl) tsz_3 (by omega)
  obtain ⟨n1, y1, h1⟩ := rd_field 1 24 1 1 (by kernel_rfl) h (by kernel_rfl) tsz_24 (by omega)
  obtain ⟨n2, y2, h2⟩ := rd_field 2 34 2 29 (by kernel_rfl) h (by kernel_rfl) tsz_34 (by omega)
  obtain ⟨n3, y3, h3⟩ := rd_field 3 35 31 1 (by kernel_rfl) h (by kernel_rfl) tsz_35 (by omega)
  obtain ⟨n4, y4, h4⟩ := rd_field 4 2 32 1 (by kernel_rfl) h (by kernel_rfl) tsz_2 (by omega)
  obtain ⟨n5, y5, h5⟩ := rd_field 5 2 33 1 (by kernel_rfl) h (by kernel_rfl) tsz_2 (by omega)
  obtain ⟨kd, e0⟩ := rd_int (k := .i64) (by kernel_rfl) h0
  obtain ⟨ks, lk, e1⟩ := rd_ints (e := 3) (by kernel_rfl) (by kernel_rfl) tsz_3 h1
  obtain ⟨s, e2⟩ := rd34 h2
  obtain ⟨ws, lw, e3⟩ := rd_ints (e := 2) (by kernel_rfl) (by kernel_rfl) tsz_2 h3
  obtain ⟨bl, e4⟩ := rd_int (k := .i64) (by kernel_rfl) h4
  obtain ⟨hi, e5⟩ := rd_int (k := .i64) (by kernel_rfl) h5
  refine ⟨⟨kd, ks, s, ws, bl, hi⟩, ⟨lk, lw⟩, ?_⟩
  have a0 : Rd w cs 0 [eI kd] := Rd.to (Rd.int e0) (by omega)
  have a1 : Rd w cs (0 + 1) [ks.av] := Rd.to e1 (by omega)
  have a2 : Rd w cs (0 + 2) s.cells := Rd.to e2 (by omega)
  have a3 : Rd w cs (0 + 31) [ws.av] := Rd.to e3 (by omega)
  have a4 : Rd w cs (0 + 32) [eI bl] := Rd.to (Rd.int e4) (by omega)
  have a5 : Rd w cs (0 + 33) [eI hi] := Rd.to (Rd.int e5) (by omega)
  exact Rd.appN 33 (by rfl) (Rd.appN 32 (by rfl) (Rd.appN 31 (by rfl) (Rd.appN 2 (by rfl) (Rd.appN 1 (by rfl) a0 a1) a2) a3) a4) a5
/-- A page that is handed in. -/
theorem rd_page {v : Value} (h : DataW.trod enc Try.prog w 0 sp held fuel 23 [v] = some x) :
    ∃ (l : List Nd) (a : AV), (∀ n ∈ l, n.kids.l.length ≤ maxLen ∧ n.words.l.length ≤ maxLen) ∧ l.length ≤ maxLen ∧ IsR a (eN l) ∧ RV (fun _ _ => none) (fun b => b < w.heap.size) w a v := by
  rcases rd_slice (α := { n : Nd // n.kids.l.length ≤ maxLen ∧ n.words.l.length ≤ maxLen }) (k := 34) (fun n => n.1.cells) (fun _ => rfl) (by omega) (by kernel_rfl) tsz_37 (fun fuel l y hl hy => by
      obtain ⟨n, h1, h2⟩ := rd37 hl hy
      exact ⟨⟨n, h1⟩, h2⟩) h with rfl | ⟨l, hl, hr⟩
  · exact ⟨[], nilS, by simp, by simp, IsR.mk_nil, .sc rfl⟩
  · refine ⟨l.map (·.1), .ro (eN (l.map (·.1))), fun n hn => ?_, by simpa using hl, IsR.mk_ro _, ?_⟩
    · obtain ⟨q, _, rfl⟩ := List.mem_map.1 hn
      exact q.2
    · unfold eN
      rw [List.map_map]
      exact hr
end

end Go.Proofs.Ytdimikmgkdcglaa
