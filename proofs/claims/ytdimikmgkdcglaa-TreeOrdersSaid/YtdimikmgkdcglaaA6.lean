/- New rows and maps over the abstract heap. No conditions. -/
import Derived.Test.YtdimikmgkdcglaaA5
set_option linter.unusedVariables false
set_option linter.unusedSimpArgs false
namespace Go.Proofs.Ytdimikmgkdcglaa
open Go.RowKit

/-! ### What nobody names -/
/-- A new block that nobody will write. -/
def Rplus (R : Nat → Prop) (b : Nat) : Nat → Prop := fun k => R k ∨ k = b
theorem Cfg.garbage {B : Nat} {R : Nat → Prop} {σ : AH} {φ : Pl} {w : World} (hc : Cfg B R σ φ w) (o : Obj) : Cfg B (Rplus R w.heap.size) σ φ (w.alloc o) ∧ Ext R σ φ w (Rplus R w.heap.size) σ φ (w.alloc o) := by
  have hE : Ext R σ φ w (Rplus R w.heap.size) σ φ (w.alloc o) := ⟨fun _ _ _ h => h, by simp, fun b hb _ => Below.heap_alloc _ _ _ hb, fun _ _ h => h, fun _ h h' => absurd h' h, fun _ _ _ _ => rfl, fun _ h => .inl h,
    fun b _ hb => Below.heap_alloc _ _ _ hb, fun b hb h => by rcases h with h | h; exact .inl h; omega, rfl, rfl, rfl⟩
  refine ⟨⟨fun id ab h => (hc.ok id ab h).ext hE (fun _ => rfl) (fun n b c h => Below.heap_alloc _ _ _ (hc.lt _ _ _ _ h)), hc.sep, hc.low, fun id n b c h => by have := hc.lt id n b c h; simp; omega, hc.fin, by have := hc.bs; simp; omega,
    fun b hb ho => ?_, fun b hb => ?_⟩, hE⟩
  · rcases hb with hb | hb
    · exact hc.dj b hb ho
    · obtain ⟨id, n, c, h1, h2⟩ := ho
      have := hc.lt id n b c h2; omega
  · rcases hb with hb | hb
    · have := hc.rlt b hb; simp; omega
    · simp; omega

/-- Cells that nobody writes, as a read-only slice. -/
theorem Flat.ro {φ : Pl} {R : Nat → Prop} {w : World} {es : List (List AV)} {sz : Nat} {xs : List Value} (h : Flat φ R w es sz xs) {b cap : Nat} {C : Array Value} {t : TypeId} (ho : R b)
    (hb : w.heap[b]? = some (.cells C t (0, 0))) (hC : C.toList.take xs.length = xs) (hcap : es.length ≤ cap) : RV φ R w (.ro es) (.slice (some ⟨b, 0, none⟩) es.length cap) := by
  have hR := h.row C hC
  refine .ro (sz := sz) (vs := fun i j => C.getD (i * sz + j) undef) hcap h.els (fun i e j c hi hj => ?_) (fun i e j c hi hj => ?_)
  · obtain ⟨h1, u, h2, h3⟩ := hR i e (List.getElem?_eq_some_iff.1 hi).1 hi j c hj
    refine ⟨ho, h1, ?_⟩
    rw [Nat.zero_add]
    refine cell_of_heap hb ?_
    simp only [Array.getD_eq_getD_getElem?, h2, Option.getD_some]
  · obtain ⟨h1, u, h2, h3⟩ := hR i e (List.getElem?_eq_some_iff.1 hi).1 hi j c hj
    simp only [Array.getD_eq_getD_getElem?, h2, Option.getD_some]
    exact h3

/-! ### Rows written out -/
def asfill (sz : Nat) (es : List (List AV)) : List (Nat × AV) → Option (List (List AV))
  | [] => some es
  | (i, v) :: rest => if i < es.length ∧ v.cells.length = sz ∧ AV.allOne v.cells = true then asfill sz (es.set i v.cells) rest else none

theorem Flat.set {φ : Pl} {R : Nat → Prop} {w : World} {es : List (List AV)} {sz : Nat} {xs : List Value} (h : Flat φ R w es sz xs) {i : Nat} (hi : i < es.length) {v : AV} {u : Value} (hv : RV φ R w v u)
    (h1 : v.cells.length = sz) (h2 : AV.allOne v.cells = true) : Flat φ R w (es.set i v.cells) sz (xs.take (i * sz) ++ u.cells.toList ++ xs.drop (i * sz + u.cells.toList.length)) := by
  obtain ⟨x1, x2⟩ := hv.cells' h2
  have hfit : i * sz + u.cells.toList.length ≤ xs.length := by
    have := Nat.mul_le_mul_right sz (show i + 1 ≤ es.length by omega)
    rw [Nat.succ_mul] at this
    rw [h.len]; simp; omega
  refine ⟨?_, fun e he => ?_, fun k e j c hk hj => ?_⟩
  · rw [List.length_set, ← h.len]
    simp only [List.length_append, List.length_take, List.length_drop]
    omega
  · obtain ⟨k, hk⟩ := List.mem_iff_getElem?.1 he
    by_cases hki : k = i
    · subst hki
      rw [List.getElem?_set_self hi] at hk
      injection hk with hk
      rw [← hk]; exact h1
    · rw [List.getElem?_set_ne (fun e' => hki e'.symm)] at hk
      exact h.els e (List.mem_of_getElem? hk)
  · rw [getElem?_splice hfit]
    by_cases hki : k = i
    · subst hki
      rw [List.getElem?_set_self hi] at hk
      injection hk with hk
      subst hk
      have hjl := (List.getElem?_eq_some_iff.1 hj).1
      have hjl2 : j < u.cells.size := by omega
      refine ⟨allOne_mem h2 c (List.mem_of_getElem? hj), u.cells[j], ?_, x2 j c _ hj (by simp [hjl2])⟩
      rw [if_neg (by omega), if_pos (by simp; omega)]
      simp [show k * sz + j - k * sz = j by omega, hjl2]
    · rw [List.getElem?_set_ne (fun e' => hki e'.symm)] at hk
      obtain ⟨a1, y, a2, a3⟩ := h.at_ k e j c hk hj
      have hjl : j < sz := by rw [← h.els e (List.mem_of_getElem? hk)]; exact (List.getElem?_eq_some_iff.1 hj).1
      refine ⟨a1, y, ?_, a3⟩
      rcases Nat.lt_or_gt_of_ne hki with hlt | hgt
      · have := Nat.mul_le_mul_right sz (show k + 1 ≤ i by omega)
        rw [Nat.succ_mul] at this
        rw [if_pos (by omega)]; exact a2
      · have := Nat.mul_le_mul_right sz (show i + 1 ≤ k by omega)
        rw [Nat.succ_mul] at this
        rw [if_neg (by omega), if_neg (by simp; omega)]; exact a2

theorem sfill_ok {φ : Pl} {R : Nat → Prop} {w : World} (sz : Nat) : ∀ (parts : List (Nat × AV)) (ups : List (Nat × Value)) (es es' : List (List AV)) (us : Array Value), Flat φ R w es sz us.toList →
    (ups.length = parts.length) → (∀ (i : Nat) p q, parts[i]? = some p → ups[i]? = some q → p.1 = q.1 ∧ RV φ R w p.2 q.2) → asfill sz es parts = some es' →
    ∃ us', Instr.fill (fun i => some (i * sz, sz)) us ups = some us' ∧ Flat φ R w es' sz us'.toList ∧ es'.length = es.length
  | [], ups, es, es', us, hF, hlen, _, h => by
    have : ups = [] := List.eq_nil_of_length_eq_zero (by simpa using hlen)
    subst this
    simp only [asfill] at h
    injection h with h
    subst h
    exact ⟨us, rfl, hF, rfl⟩
  | (i, v) :: rest, [], es, es', us, hF, hlen, hr, h => by simp at hlen
  | (i, v) :: rest, (i', u) :: ups, es, es', us, hF, hlen, hr, h => by
    obtain ⟨h0, hv⟩ := hr 0 (i, v) (i', u) rfl rfl
    simp only at h0 hv
    subst h0
    simp only [asfill] at h
    split at h
    · rename_i hcond
      obtain ⟨c1, c2, c3⟩ := hcond
      obtain ⟨x1, x2⟩ := hv.cells' c3
      have hus : us.size = es.length * sz := by rw [← hF.len]; simp
      have hm := Nat.mul_le_mul_right sz (show i + 1 ≤ es.length by omega)
      rw [Nat.succ_mul] at hm
      have hfold : u.cells.zipIdx.foldl (fun cs (c, j) => cs.setIfInBounds (i * sz + j) c) us = (us.toList.take (i * sz) ++ u.cells.toList ++ us.toList.drop (i * sz + u.cells.toList.length)).toArray := by
        rw [← fold_set us (i * sz) u.cells.toList (by simp; omega), ← Array.foldl_toList, Array.toList_zipIdx]
      obtain ⟨us', r1, r2, r3⟩ := sfill_ok sz rest ups (es.set i v.cells) es' (us.toList.take (i * sz) ++ u.cells.toList ++ us.toList.drop (i * sz + u.cells.toList.length)).toArray
        (by rw [List.toList_toArray]; exact hF.set c1 hv c2 c3)
        (by simpa using hlen) (fun k p q hk hq => hr (k + 1) p q (by simpa using hk) (by simpa using hq)) h
      refine ⟨us', ?_, r2, by simpa using r3⟩
      simp only [Instr.fill]
      rw [if_neg (by simp; omega)]
      rw [← r1, hfold]
    · cases h

/-- So many zeros. -/
theorem flat_zeros {φ : Pl} {R : Nat → Prop} {w : World} {P : Program} {el : TypeId} {zs : List AV} {z : Value} (h1 : z.cells.size = zs.length) (h2 : ∀ c ∈ zs, c.one = true)
    (h3 : ∀ (i : Nat) c u, zs[i]? = some c → z.cells[i]? = some u → RV φ R w c u) (n : Nat) : Flat φ R w (List.replicate n zs) zs.length (madeCells z.cells (n * zs.length)).toList := by
  refine ⟨by simp [madeCells], fun e he => by rw [(List.mem_replicate.1 he).2], fun i e j c hi hj => ?_⟩
  have hin : i < n := by have := (List.getElem?_eq_some_iff.1 hi).1; simpa using this
  have he : e = zs := by
    rw [List.getElem?_replicate, if_pos hin] at hi
    injection hi with hi
    exact hi.symm
  subst he
  have hjl := (List.getElem?_eq_some_iff.1 hj).1
  have hm := Nat.mul_le_mul_right e.length (show i + 1 ≤ n by omega)
  rw [Nat.succ_mul] at hm
  have hmod : (i * e.length + j) % e.length = j := by rw [Nat.mul_comm, Nat.mul_add_mod, Nat.mod_eq_of_lt hjl]
  have hj2 : j < z.cells.size := by omega
  refine ⟨h2 c (List.mem_of_getElem? hj), z.cells[j], ?_, h3 j c _ hj (by simp [hj2])⟩
  have : i * e.length + j < n * e.length := by omega
  simp only [madeCells, Array.toList_map, Array.toList_range, List.getElem?_map, List.getElem?_range this, Option.map_some, h1, hmod]
  rw [getElem!_pos z.cells j hj2]

theorem made_eq (z : Array Value) (n : Nat) : (Array.range n).map (fun k => z[k % z.size]!) = madeCells z n := rfl

/-- The row of a slice that is written out. -/
theorem buildSlice_run {P : Program} {φ : Pl} {R : Nat → Prop} {w : World} {t el : TypeId} (ht : tslice P t = some el) {zs : List AV} (hz : zcells P el = some zs) (hs : tsz P el = some zs.length) {len : Nat} (hlen : len * zs.length ≤ 16777216)
    {parts : List (Nat × AV)} {ups : List (Nat × Value)} (hlp : ups.length = parts.length) (hr : ∀ (i : Nat) p q, parts[i]? = some p → ups[i]? = some q → p.1 = q.1 ∧ RV φ R w p.2 q.2)
    {es : List (List AV)} (h : asfill zs.length (List.replicate len zs) parts = some es) :
    ∃ us, (Instr.buildSlice t len ups.toArray).run P w = .ok (.slice (some ⟨w.heap.size, 0, none⟩) len len) (w.alloc (.cells us el)) ∧ Flat φ R w es zs.length us.toList ∧ es.length = len := by
  obtain ⟨z, z1, z2, z3, z4⟩ := zcells_ok hz
  have hF := flat_zeros (P := P) (el := el) z2 z3 (z4 φ R w) len
  obtain ⟨us, r1, r2, r3⟩ := sfill_ok zs.length parts ups _ es _ hF hlp hr h
  have hzr := run_zero' (P := P) z1
  refine ⟨us, ?_, r2, by simpa using r3⟩
  have hle : ¬ (16777216 < len * zs.length) := by omega
  by_cases h0 : len * zs.length = 0
  · have hm : madeCells z.cells (len * zs.length) = #[] := by simp [h0, madeCells]
    rw [hm] at r1
    have e0 : Array.map (fun (x : Nat) => (default : Value)) (Array.range 0) = #[] := Array.eq_empty_of_size_eq_zero (by simp)
    simp [Instr.buildSlice, run_underlying (tslice_spec ht), run_sizeOf' hs, h0, newRow, e0, r1]
  · have e1 : Instr.fill (fun i => some (i * zs.length, zs.length)) (Array.map (fun x => z.cells[x % z.cells.size]!) (Array.range (len * zs.length))) ups = some us := r1
    simp [Instr.buildSlice, run_underlying (tslice_spec ht), run_sizeOf' hs, h0, hle, hzr, e1, newRow]

/-- As a row of one's own. -/
theorem buildSlice_own {P : Program} {B : Nat} {R : Nat → Prop} {σ : AH} {φ : Pl} {w : World} (hc : Cfg B R σ φ w) {t el : TypeId} (ht : tslice P t = some el) {zs : List AV} (hz : zcells P el = some zs) (hs : tsz P el = some zs.length) {len : Nat} (hlen : len * zs.length ≤ 16777216) (hlen' : len ≤ 16777216)
    {parts : List (Nat × AV)} {ups : List (Nat × Value)} (hlp : ups.length = parts.length) (hr : ∀ (i : Nat) p q, parts[i]? = some p → ups[i]? = some q → p.1 = q.1 ∧ RV φ R w p.2 q.2)
    {es : List (List AV)} (h : asfill zs.length (List.replicate len zs) parts = some es) {id : Nat} (hid0 : σ id = none) (hid1 : ∀ n, φ id n = none) :
    ∃ v φ' w', (Instr.buildSlice t len ups.toArray).run P w = .ok v w' ∧ Cfg B R (σ.set id (.row es zs.length el 0)) φ' w' ∧ Ext R σ φ w R (σ.set id (.row es zs.length el 0)) φ' w' ∧ RV φ' R w' (.sl id len) v := by
  obtain ⟨us, r1, r2, r3⟩ := buildSlice_run ht hz hs hlen hlp hr h
  subst r3
  have hsz : us.size = es.length * zs.length := by rw [← r2.len]; simp
  obtain ⟨h1, h2⟩ := hc.newRow hid0 hid1 el r2.els (Nat.le_refl _) (show es.length ≤ maxLen by simp only [maxLen]; omega) hsz (r2.row us (by rw [List.take_length]))
  exact ⟨_, _, _, r1, h1, h2, .sl (Pl.put_same _ _ _ _) (Nat.le_refl _)⟩

/-- As a read-only slice. -/
theorem buildSlice_ro {P : Program} {B : Nat} {R : Nat → Prop} {σ : AH} {φ : Pl} {w : World} (hc : Cfg B R σ φ w) {t el : TypeId} (ht : tslice P t = some el) {zs : List AV} (hz : zcells P el = some zs) (hs : tsz P el = some zs.length) {len : Nat} (hlen : len * zs.length ≤ 16777216)
    {parts : List (Nat × AV)} {ups : List (Nat × Value)} (hlp : ups.length = parts.length) (hr : ∀ (i : Nat) p q, parts[i]? = some p → ups[i]? = some q → p.1 = q.1 ∧ RV φ R w p.2 q.2)
    {es : List (List AV)} (h : asfill zs.length (List.replicate len zs) parts = some es) :
    ∃ v R' w', (Instr.buildSlice t len ups.toArray).run P w = .ok v w' ∧ Cfg B R' σ φ w' ∧ Ext R σ φ w R' σ φ w' ∧ RV φ R' w' (.ro es) v := by
  obtain ⟨us, r1, r2, r3⟩ := buildSlice_run ht hz hs hlen hlp hr h
  subst r3
  obtain ⟨h1, h2⟩ := hc.garbage (.cells us el)
  exact ⟨_, _, _, r1, h1, h2, (r2.ext h2).ro (.inr rfl) (heap_alloc_at _ _) (by rw [List.take_length]) (Nat.le_refl _)⟩

/-- make. -/
theorem makeSlice_ok {P : Program} {B : Nat} {R : Nat → Prop} {σ : AH} {φ : Pl} {w : World} (hc : Cfg B R σ φ w) {t el : TypeId} (ht : tslice P t = some el) {zs : List AV} (hz : zcells P el = some zs) (hs : tsz P el = some zs.length) {by_ : Nat} (hb : tbytes P el = some by_)
    {kl kc : IntKind} {l c : Int} (h0 : 0 ≤ l) (hlc : l ≤ c) (hbytes : (by_ : Int) * c ≤ 281474976710656) (h63 : c ≤ 281474976710656) {id : Nat} (hid0 : σ id = none) (hid1 : ∀ n, φ id n = none) :
    ∃ v φ' w', (Instr.makeSlice t (.int kl l) (.int kc c)).run P w = .ok v w' ∧ Cfg B R (σ.set id (.row (List.replicate l.toNat zs) zs.length el 0)) φ' w' ∧ Ext R σ φ w R (σ.set id (.row (List.replicate l.toNat zs) zs.length el 0)) φ' w' ∧
      RV φ' R w' (.sl id l.toNat) v := by
  obtain ⟨z, z1, z2, z3, z4⟩ := zcells_ok hz
  obtain ⟨i, hi, hi1, hi2, hi3⟩ := tinfo_of hs hb z1
  subst hi2
  have hrun := run_make (P := P) w t el i z (tslice_spec ht) hi hi3 kl kc l c h0 hlc hbytes (by omega)
  rw [hi1] at hrun
  have hle : l.toNat ≤ c.toNat := by omega
  have hF := flat_zeros (P := P) (el := el) (w := w) (φ := φ) (R := R) z2 z3 (z4 _ _ _) l.toNat
  obtain ⟨h1, h2⟩ := hc.newRow hid0 hid1 el (es := List.replicate l.toNat zs) (sz := zs.length) (cap := c.toNat) (us := madeCells z.cells (c.toNat * zs.length)) hF.els (by simpa using hle) (by simp only [maxLen]; omega) (size_madeCells _ _) (hF.row _ (by
    have hm := Nat.mul_le_mul_right zs.length hle
    apply List.ext_getElem?
    intro k
    rw [List.getElem?_take]
    simp only [Array.length_toList, size_madeCells]
    by_cases hk : k < l.toNat * zs.length
    · rw [if_pos hk]
      have : k < c.toNat * zs.length := by omega
      simp [madeCells, hk, this]
    · rw [if_neg hk]
      simp [madeCells, hk]))
  refine ⟨_, _, _, hrun, h1, h2, .sl ?_ hle⟩
  have := Pl.put_same φ id (List.replicate l.toNat zs).length (w.heap.size, c.toNat)
  simpa using this

end Go.Proofs.Ytdimikmgkdcglaa
