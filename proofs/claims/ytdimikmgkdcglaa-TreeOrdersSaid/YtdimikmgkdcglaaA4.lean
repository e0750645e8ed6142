/- Elements, fields, slices of slices, append, and new rows, over the abstract heap. No conditions. -/
import Derived.Test.YtdimikmgkdcglaaA3
set_option linter.unusedVariables false
set_option linter.unusedSimpArgs false
namespace Go.Proofs.Ytdimikmgkdcglaa
open Go.RowKit

def tslice (P : Program) (t : TypeId) : Option TypeId := (P.underlying t).bind fun | .slice e => some e | _ => none
def tarray (P : Program) (t : TypeId) : Option (Nat × TypeId) := (P.underlying t).bind fun | .array n e => some (n, e) | _ => none
/-- A field's place: none for a field that takes no cell. -/
def tfield (P : Program) (s f : Nat) : Option Nat := (P.underlying s).bind fun
  | .struct fs => (fs[f]?).bind fun fl => (tsz P fl.type).bind fun k => if k = 0 then none else some fl.offset
  | _ => none

theorem tslice_spec {P : Program} {t e : TypeId} (h : tslice P t = some e) : P.underlying t = some (.slice e) := by
  unfold tslice at h
  cases hu : P.underlying t with
  | none => simp [hu] at h
  | some d => cases d <;> simp [hu] at h; subst h; rfl
theorem tarray_spec {P : Program} {t : TypeId} {n e : Nat} (h : tarray P t = some (n, e)) : P.underlying t = some (.array n e) := by
  unfold tarray at h
  cases hu : P.underlying t with
  | none => simp [hu] at h
  | some d => cases d <;> simp [hu] at h; obtain ⟨rfl, rfl⟩ := h; rfl

/-- A pointer moved on. -/
def AV.plus : AV → Nat → AV
  | .pt id o, d => .pt id (o + d)
  | .pe id n sz i o, d => .pe id n sz i (o + d)
  | .pr cs o, d => .pr cs (o + d)
  | _, _ => .un
def AV.isPtr : AV → Bool
  | .pt .. | .pe .. | .pr .. => true
  | _ => false

theorem RV.plus {φ : Pl} {R : Nat → Prop} {w : World} {p : AV} {u : Value} (h : RV φ R w p u) (hp : p.isPtr = true) :
    ∃ b o, u = .pointer (some ⟨b, o, none⟩) ∧ ∀ d, RV φ R w (p.plus d) (.pointer (some ⟨b, o + d, none⟩)) := by
  cases h with
  | pt h1 => exact ⟨_, _, rfl, fun d => .pt h1⟩
  | pe h1 => exact ⟨_, _, rfl, fun d => by rw [Nat.add_assoc]; exact .pe h1⟩
  | pr h1 h2 => exact ⟨_, _, rfl, fun d => by rw [Nat.add_assoc]; exact .pr h1 h2⟩
  | _ => simp [AV.isPtr] at hp

theorem field_ok {P : Program} {φ : Pl} {R : Nat → Prop} {w : World} {p : AV} {u : Value} (h : RV φ R w p u) (hp : p.isPtr = true) {s f off : Nat} (ht : tfield P s f = some off) :
    ∃ x, (Instr.fieldAt s u f).run P w = .ok x w ∧ RV φ R w (p.plus off) x := by
  obtain ⟨b, o, rfl, h1⟩ := h.plus hp
  refine ⟨_, ?_, h1 off⟩
  unfold tfield at ht
  cases hu : P.underlying s with
  | none => simp [hu] at ht
  | some d =>
    cases d with
    | struct fs =>
      simp only [hu, Option.bind_some] at ht
      cases hf : fs[f]? with
      | none => simp [hf] at ht
      | some fl =>
        simp only [hf, Option.bind_some] at ht
        cases hk : tsz P fl.type with
        | none => simp [hk] at ht
        | some k =>
          simp only [hk, Option.bind_some] at ht
          split at ht
          · cases ht
          · rename_i hk0
            injection ht with ht
            subst ht
            simp [Instr.fieldAt, run_underlying hu, hf, Instr.sureAddr, fieldPlace, run_sizeOf' hk, hk0, Addr.add_lit]
    | _ => simp [hu] at ht

/-- An element's address. -/
theorem idx_ro {P : Program} {φ : Pl} {R : Nat → Prop} {w : World} {es : List (List AV)} {u : Value} (h : RV φ R w (.ro es) u) {t el : TypeId} (ht : tslice P t = some el) {i : Int} (hi : 0 ≤ i)
    {e : List AV} (he : es[i.toNat]? = some e) (hs : tsz P el = some e.length) (k : IntKind) : ∃ x, (Instr.indexAt t u (.int k i)).run P w = .ok x w ∧ RV φ R w (.pr e 0) x := by
  have hlt := (List.getElem?_eq_some_iff.1 he).1
  cases h with
  | ro hl hs' ho hv =>
    rename_i b o cap sz vs
    have hsz : e.length = sz := hs' e (List.mem_of_getElem? he)
    rw [hsz] at hs
    refine ⟨.pointer (some ⟨b, o + i.toNat * sz + 0, none⟩), ?_, .pr (vs := fun j => vs i.toNat j) (fun j c hj => ?_) (fun j c hj => hv _ e j c he hj)⟩
    · have : (i : Int) < es.length := by omega
      simp [Instr.indexAt, asIntOf, run_underlying (tslice_spec ht), hi, this, run_sizeOf' hs, Addr.add_lit]
    · exact ho _ e j c he hj
  | roe => simp at he

theorem idx_sl {P : Program} {φ : Pl} {R : Nat → Prop} {w : World} {id n : Nat} {u : Value} (h : RV φ R w (.sl id n) u) {t el : TypeId} (ht : tslice P t = some el) {i : Int} (hi : 0 ≤ i)
    (hn : i < n) {sz : Nat} (hs : tsz P el = some sz) (k : IntKind) : ∃ x, (Instr.indexAt t u (.int k i)).run P w = .ok x w ∧ RV φ R w (.pe id n sz i.toNat 0) x := by
  cases h with
  | sl h1 h2 =>
    rename_i b cap
    refine ⟨.pointer (some ⟨b, i.toNat * sz + 0, none⟩), ?_, .pe h1⟩
    simp [Instr.indexAt, asIntOf, run_underlying (tslice_spec ht), hi, hn, run_sizeOf' hs, Addr.add_lit]

theorem idx_arr {P : Program} {φ : Pl} {R : Nat → Prop} {w : World} {p : AV} {u : Value} (h : RV φ R w p u) (hp : p.isPtr = true) {t el : TypeId} {len : Nat} (ht : tarray P t = some (len, el)) {i : Int} (hi : 0 ≤ i)
    (hn : i < len) {sz : Nat} (hs : tsz P el = some sz) (k : IntKind) : ∃ x, (Instr.indexAt t u (.int k i)).run P w = .ok x w ∧ RV φ R w (p.plus (i.toNat * sz)) x := by
  obtain ⟨b, o, rfl, h1⟩ := h.plus hp
  refine ⟨_, ?_, h1 _⟩
  simp [Instr.indexAt, asIntOf, run_underlying (tarray_spec ht), hi, hn, run_sizeOf' hs, Addr.add_lit, Instr.sureAddr]

/-! ### Slices as lists -/
/-- What a slice holds. -/
def rdS (σ : AH) : AV → Option (List (List AV))
  | .ro es => some es
  | .sl id n => match σ id with
    | some (.row es _ _ st) => if st ≤ n ∧ n ≤ es.length then some (es.take n) else none
    | _ => none
  | .sc (.slice none 0 0) => some []
  | _ => none
def slen : AV → Option Nat
  | .ro es => some es.length
  | .sl _ n => some n
  | .sc (.slice none 0 0) => some 0
  | _ => none

theorem slen_ok {P : Program} {φ : Pl} {R : Nat → Prop} {w : World} {v : AV} {u : Value} (h : RV φ R w v u) {n : Nat} (hn : slen v = some n) : ∃ A c, u = .slice A n c := by
  cases h with
  | ro => simp [slen] at hn; subst hn; exact ⟨_, _, rfl⟩
  | roe => simp [slen] at hn; subst hn; exact ⟨_, _, rfl⟩
  | sl => simp [slen] at hn; subst hn; exact ⟨_, _, rfl⟩
  | sc h1 =>
    unfold slen at hn
    split at hn
    · rename_i heq; cases heq
    · rename_i heq; cases heq
    · rename_i heq; injection heq with heq; subst heq; injection hn with hn; subst hn; exact ⟨_, _, rfl⟩
    · cases hn
  | _ => simp [slen] at hn

/-- Elements side by side, and the machine's cells. -/
structure Flat (φ : Pl) (R : Nat → Prop) (w : World) (es : List (List AV)) (sz : Nat) (news : List Value) : Prop where
  len : news.length = es.length * sz
  els : ∀ e ∈ es, e.length = sz
  at_ : ∀ i e j c, es[i]? = some e → e[j]? = some c → c.one = true ∧ ∃ u, news[i * sz + j]? = some u ∧ RV φ R w c u

theorem Flat.one {φ : Pl} {R : Nat → Prop} {w : World} {es : List (List AV)} {sz : Nat} {news : List Value} (h : Flat φ R w es sz news) : ∀ u ∈ news, u.oneCell' = true := by
  intro u hu
  obtain ⟨k, hk⟩ := List.mem_iff_getElem?.1 hu
  have hlt : k < es.length * sz := by rw [← h.len]; exact (List.getElem?_eq_some_iff.1 hk).1
  have hs0 : 0 < sz := by
    rcases Nat.eq_zero_or_pos sz with h0 | h0
    · rw [h0] at hlt; simp at hlt
    · exact h0
  have hi : k / sz < es.length := by rw [Nat.div_lt_iff_lt_mul hs0]; exact hlt
  have hj : k % sz < es[k / sz].length := by rw [h.els _ (List.getElem_mem hi)]; exact Nat.mod_lt _ hs0
  obtain ⟨h1, v, h2, h3⟩ := h.at_ (k / sz) es[k / sz] (k % sz) es[k / sz][k % sz] (by simp [hi]) (by simp [hj])
  have : k / sz * sz + k % sz = k := by rw [Nat.mul_comm]; exact Nat.div_add_mod k sz
  rw [this, hk] at h2
  injection h2 with h2
  subst h2
  exact h3.one h1

theorem Flat.nil (φ : Pl) (R : Nat → Prop) (w : World) (sz : Nat) : Flat φ R w [] sz [] := ⟨by simp, by simp, by simp⟩

theorem Flat.append {φ : Pl} {R : Nat → Prop} {w : World} {es fs : List (List AV)} {sz : Nat} {xs ys : List Value} (h : Flat φ R w es sz xs) (k : Flat φ R w fs sz ys) : Flat φ R w (es ++ fs) sz (xs ++ ys) := by
  refine ⟨by simp [h.len, k.len, Nat.add_mul], fun e he => ?_, fun i e j c hi hj => ?_⟩
  · rcases List.mem_append.1 he with h1 | h1
    · exact h.els e h1
    · exact k.els e h1
  · by_cases hlt : i < es.length
    · rw [List.getElem?_append_left hlt] at hi
      obtain ⟨h1, u, h2, h3⟩ := h.at_ i e j c hi hj
      exact ⟨h1, u, by rw [List.getElem?_append_left (List.getElem?_eq_some_iff.1 h2).1]; exact h2, h3⟩
    · rw [List.getElem?_append_right (by omega)] at hi
      obtain ⟨h1, u, h2, h3⟩ := k.at_ _ e j c hi hj
      refine ⟨h1, u, ?_, h3⟩
      have hm : es.length * sz + (i - es.length) * sz = i * sz := by rw [← Nat.add_mul]; congr 1; omega
      rw [List.getElem?_append_right (by rw [h.len]; omega), h.len, ← h2]
      congr 1
      omega

theorem Flat.ext {R R' : Nat → Prop} {σ : AH} {φ : Pl} {w : World} {σ' : AH} {φ' : Pl} {w' : World} (hE : Ext R σ φ w R' σ' φ' w') {es : List (List AV)} {sz : Nat} {xs : List Value} (h : Flat φ R w es sz xs) : Flat φ' R' w' es sz xs :=
  ⟨h.len, h.els, fun i e j c hi hj => let ⟨h1, u, h2, h3⟩ := h.at_ i e j c hi hj; ⟨h1, u, h2, h3.ext hE⟩⟩

/-- In a row's first cells. -/
theorem Flat.row {φ : Pl} {R : Nat → Prop} {w : World} {es : List (List AV)} {sz : Nat} {xs : List Value} (h : Flat φ R w es sz xs) (C : Array Value) (hC : C.toList.take xs.length = xs) : RowAt φ R w es C sz es.length := by
  intro i e hi he j c hj
  obtain ⟨h1, u, h2, h3⟩ := h.at_ i e j c he hj
  refine ⟨h1, u, ?_, h3⟩
  rw [← hC, List.getElem?_take] at h2
  split at h2
  · simpa using h2
  · cases h2

theorem Flat.of_row {φ : Pl} {R : Nat → Prop} {w : World} {es : List (List AV)} {sz m : Nat} {C : Array Value} (hs : ∀ e ∈ es, e.length = sz) (h : RowAt φ R w es C sz m) (hm : m ≤ es.length) (hC : m * sz ≤ C.size) :
    Flat φ R w (es.take m) sz (C.toList.take (m * sz)) := by
  refine ⟨by simp [Nat.min_eq_left hm, Nat.min_eq_left hC], fun e he => hs e (List.mem_of_mem_take he), fun i e j c hi hj => ?_⟩
  rw [List.getElem?_take] at hi
  split at hi
  · rename_i him
    obtain ⟨h1, u, h2, h3⟩ := h i e him hi j c hj
    have hel := hs e (List.mem_of_getElem? hi)
    have hjl : j < sz := by rw [← hel]; exact (List.getElem?_eq_some_iff.1 hj).1
    have := Nat.mul_le_mul_right sz (show i + 1 ≤ m by omega)
    rw [Nat.succ_mul] at this
    exact ⟨h1, u, by rw [List.getElem?_take, if_pos (by omega)]; simpa using h2, h3⟩
  · cases hi

/-- A slice that is read: its machine's value and its cells. -/
theorem rdS_ok {B : Nat} {R : Nat → Prop} {σ : AH} {φ : Pl} {w : World} (hc : Cfg B R σ φ w) {v : AV} {u : Value} (hr : RV φ R w v u) {es : List (List AV)} (h : rdS σ v = some es) {sz : Nat} (hsz : ∀ e ∈ es, e.length = sz) :
    ∃ A c news, u = .slice A es.length c ∧ Flat φ R w es sz news ∧ ((A = none ∧ es = [] ∧ news = []) ∨ ∃ a, A = some a ∧ ∀ j x, news[j]? = some x → w.cell? (a.add j) = some x) := by
  cases hr with
  | ro hl hs ho hv =>
    rename_i fs b o cap sz' vs
    simp only [rdS] at h
    injection h with h
    subst h
    by_cases h0 : fs = []
    · subst h0
      exact ⟨_, _, [], rfl, Flat.nil _ _ _ _, .inr ⟨_, rfl, fun j x hx => by simp at hx⟩⟩
    · obtain ⟨e0, he0⟩ := List.exists_mem_of_ne_nil fs h0
      have hss : sz' = sz := by rw [← hs e0 he0, hsz e0 he0]
      subst hss
      have key : ∀ k, k < fs.length * sz' → ∃ (hi : k / sz' < fs.length) (hj : k % sz' < fs[k / sz'].length), k / sz' * sz' + k % sz' = k := fun k hk => by
        have hs0 : 0 < sz' := by
          rcases Nat.eq_zero_or_pos sz' with h1 | h1
          · rw [h1] at hk; simp at hk
          · exact h1
        have hi : k / sz' < fs.length := by rw [Nat.div_lt_iff_lt_mul hs0]; exact hk
        exact ⟨hi, by rw [hsz _ (List.getElem_mem hi)]; exact Nat.mod_lt _ hs0, by rw [Nat.mul_comm]; exact Nat.div_add_mod k sz'⟩
      refine ⟨_, _, (List.range (fs.length * sz')).map fun k => vs (k / sz') (k % sz'), rfl, ⟨by simp, hsz, fun i e j c hi hj => ?_⟩, .inr ⟨_, rfl, fun k x hx => ?_⟩⟩
      · have hlt := (List.getElem?_eq_some_iff.1 hi).1
        have hjl : j < sz' := by rw [← hsz e (List.mem_of_getElem? hi)]; exact (List.getElem?_eq_some_iff.1 hj).1
        obtain ⟨_, h1, h2⟩ := ho i e j c hi hj
        refine ⟨h1, vs i j, ?_, hv i e j c hi hj⟩
        have := Nat.mul_le_mul_right sz' (show i + 1 ≤ fs.length by omega)
        rw [Nat.succ_mul] at this
        have hd : (i * sz' + j) / sz' = i := by rw [Nat.mul_comm, Nat.mul_add_div (by omega), Nat.div_eq_of_lt hjl]; omega
        have hmd : (i * sz' + j) % sz' = j := by rw [Nat.mul_comm, Nat.mul_add_mod, Nat.mod_eq_of_lt hjl]
        simp [show i * sz' + j < fs.length * sz' by omega, hd, hmd]
      · have hk : k < fs.length * sz' := by have := (List.getElem?_eq_some_iff.1 hx).1; simpa using this
        obtain ⟨hi, hj, hkk⟩ := key k hk
        have hx' : x = vs (k / sz') (k % sz') := by simp [hk] at hx; exact hx.symm
        obtain ⟨_, _, h2⟩ := ho (k / sz') fs[k / sz'] (k % sz') fs[k / sz'][k % sz'] (by simp [hi]) (by simp [hj])
        rw [Addr.add_lit, hx', ← h2]
        congr 2
        omega
  | roe =>
    simp only [rdS] at h
    injection h with h
    subst h
    exact ⟨_, _, [], rfl, Flat.nil _ _ _ _, .inr ⟨_, rfl, fun j x hx => by simp at hx⟩⟩
  | sl h1 h2 =>
    rename_i id n b cap
    simp only [rdS] at h
    split at h
    · rename_i fs sz' ty st hs
      split at h
      · rename_i hcond
        injection h with h
        subst h
        cases hc.ok id _ hs with
        | row hsz' hst hpp htop hm =>
          obtain ⟨h3, h4, C, h5, h6, h7⟩ := hm n b cap hcond.1 hcond.2 h1
          have hfit : n * sz' ≤ C.size := by rw [h6]; exact Nat.mul_le_mul_right _ h3
          have hF := Flat.of_row hsz' h7 hcond.2 hfit
          have hlen : (fs.take n).length = n := by simp [Nat.min_eq_left hcond.2]
          rw [hlen]
          by_cases h0 : n = 0
          · subst h0
            exact ⟨_, _, [], rfl, by simpa using Flat.nil _ _ _ _, .inr ⟨_, rfl, fun j x hx => by simp at hx⟩⟩
          · have hss : sz' = sz := by
              have he0 : fs[0]'(by omega) ∈ fs.take n := by
                rw [List.mem_iff_getElem?]
                exact ⟨0, by rw [List.getElem?_take, if_pos (by omega)]; simp⟩
              rw [← hsz _ he0, hsz' _ (List.mem_of_mem_take he0)]
            subst hss
            refine ⟨_, _, _, rfl, hF, .inr ⟨_, rfl, fun j x hx => ?_⟩⟩
            rw [List.getElem?_take] at hx
            split at hx
            · rw [Addr.add_lit]
              exact cell_of_heap h5 (by simpa using hx)
            · cases hx
      · cases h
    · cases h
  | sc h1 =>
    unfold rdS at h
    split at h
    · rename_i heq; cases heq
    · rename_i heq; cases heq
    · rename_i heq
      injection heq with heq
      subst heq
      injection h with h
      subst h
      exact ⟨none, 0, [], rfl, Flat.nil _ _ _ _, .inl ⟨rfl, rfl, rfl⟩⟩
    · cases h
  | _ => simp [rdS] at h

/-! ### append -/
/-- A draw. -/
theorem Cfg.drew {B : Nat} {R : Nat → Prop} {σ : AH} {φ : Pl} {w : World} (hc : Cfg B R σ φ w) : Cfg B R σ φ w.drew ∧ Ext R σ φ w R σ φ w.drew := by
  have hE : Ext R σ φ w R σ φ w.drew := ⟨fun _ _ _ h => h, Nat.le_refl _, fun _ _ _ => rfl, fun _ _ h => h, fun _ h h' => absurd h' h, fun _ _ _ _ => rfl, fun _ h => h, fun _ _ _ => rfl, fun _ _ h => .inl h, rfl, rfl, rfl⟩
  exact ⟨⟨fun id ab h => (hc.ok id ab h).ext hE (fun _ => rfl) (fun _ _ _ _ => rfl), hc.sep, hc.low, hc.lt, hc.fin, hc.bs, hc.dj, hc.rlt⟩, hE⟩
theorem run_firstCells' {P : Program} {w : World} {A : Option Addr} {sz n c : Nat} {news : List Value} (hl : news.length = n * sz)
    (h : (A = none ∧ news = []) ∨ ∃ a, A = some a ∧ ∀ j x, news[j]? = some x → w.cell? (a.add j) = some x) (k : Nat) :
    (Builtin.firstCells sz n (.slice A k c)).run P w = .ok news.toArray w := by
  rcases h with ⟨rfl, rfl⟩ | ⟨a, rfl, h⟩
  · simp [Builtin.firstCells]
  · exact run_firstCells_some w sz n a k c news hl h

def tbytes (P : Program) (t : TypeId) : Option Nat := (P.info? t).map (·.bytes)
theorem tinfo_of {P : Program} {t : TypeId} {sz by_ : Nat} {z : Value} (h1 : tsz P t = some sz) (h2 : tbytes P t = some by_) (h3 : tzero P t = some z) : ∃ i, P.info? t = some i ∧ i.size = sz ∧ i.bytes = by_ ∧ i.zero = some z := by
  unfold tsz at h1
  unfold tbytes at h2
  unfold tzero at h3
  cases hu : P.info? t with
  | none => simp [hu] at h1
  | some i =>
    simp [hu] at h1 h2 h3
    exact ⟨i, rfl, h1, h2, h3⟩

/-- Behind a nil slice: nothing to append. -/
theorem append_none {P : Program} {w : World} {t ty el : TypeId} (ht : tslice P t = some el) {sz : Nat} (hs : tsz P el = some sz) {A : Option Addr} {c : Nat} :
    (Builtin.append_ #[t, t] ty #[.slice none 0 0, .slice A 0 c]).run P w = .ok (.slice none 0 0) w := by
  have hf : (Builtin.firstCells sz 0 (.slice A 0 c)).run P w = .ok #[] w := by
    cases A with
    | none => simp [Builtin.firstCells]
    | some a => simp [Builtin.firstCells, loadCells, loadCellsFrom]
  simp [Builtin.append_, run_underlying (tslice_spec ht), run_sizeOf' hs, Builtin.lenOf, hf]

/-- Behind a nil slice: a new row. -/
theorem append_nil {P : Program} {B : Nat} {R : Nat → Prop} {σ : AH} {φ : Pl} {w : World} (hc : Cfg B R σ φ w) {x : AV} {ux : Value} (hx : RV φ R w x ux) {src : List (List AV)} (hsrc : rdS σ x = some src)
    {t ty el : TypeId} (ht : tslice P t = some el) {sz by_ : Nat} {z : Value} (hs : tsz P el = some sz) (hb : tbytes P el = some by_) (hz : tzero P el = some z) (hzs : z.cells.size = sz)
    (hsz : ∀ e ∈ src, e.length = sz) (h0 : src ≠ []) (hle : src.length * by_ ≤ 140737488355328) (hle' : src.length ≤ 140737488355328)
    {id : Nat} (hid0 : σ id = none) (hid1 : ∀ n, φ id n = none) :
    ∃ v' φ' w', (Builtin.append_ #[t, t] ty #[.slice none 0 0, ux]).run P w = .ok v' w' ∧ Cfg B R (σ.set id (.row src sz el 0)) φ' w' ∧ Ext R σ φ w R (σ.set id (.row src sz el 0)) φ' w' ∧
      RV φ' R w' (.sl id src.length) v' := by
  obtain ⟨A, c, news, rfl, hF, hA⟩ := rdS_ok hc hx hsrc hsz
  obtain ⟨i, hi, hi1, hi2, hi3⟩ := tinfo_of hs hb hz
  subst hi1; subst hi2
  have hpos : 0 < src.length := List.length_pos_iff.2 h0
  have hcapge := grownCap_ge w src.length 0 el
  have hcapm : grownCap w src.length 0 el ≤ maxLen := grownCap_le_maxLen w src.length 0 el (by simp only [maxLen]; omega)
  have hrun : (Builtin.append_ #[t, t] ty #[.slice none 0 0, .slice A src.length c]).run P w = .ok (.slice (some ⟨w.heap.size, 0, none⟩) src.length (grownCap w src.length 0 el))
      (w.drew.alloc (.cells (news.toArray ++ Builtin.zeroCells z.cells (grownCap w src.length 0 el - src.length)) el)) := by
    rcases hA with ⟨rfl, h1, _⟩ | ⟨a, rfl, hA⟩
    · exact absurd h1 h0
    · exact run_append_nil w t ty el i z (tslice_spec ht) hi hi3 a src.length c news hF.len hA hpos (by omega) (by omega)
  obtain ⟨hcd, hEd⟩ := hc.drew
  have hFd := hF.ext hEd
  obtain ⟨h1, h2⟩ := hcd.newRow (id := id) hid0 hid1 el (es := src) (sz := i.size) (cap := grownCap w src.length 0 el) (us := news.toArray ++ Builtin.zeroCells z.cells (grownCap w src.length 0 el - src.length))
    hsz hcapge hcapm (by
      simp only [Array.size_append, List.size_toArray, size_zeroCells, hzs, hF.len, ← Nat.add_mul]
      congr 1; omega) (hFd.row _ (by simp))
  exact ⟨_, _, _, hrun, h1, hEd.trans h2, .sl (Pl.put_same _ _ _ _) hcapge⟩

/-- Behind a row of one's own: in place, or in a new row. -/
theorem append_sl {P : Program} {B : Nat} {R : Nat → Prop} {σ : AH} {φ : Pl} {w : World} (hc : Cfg B R σ φ w) {id n : Nat} {u : Value} (hr : RV φ R w (.sl id n) u) {x : AV} {ux : Value} (hx : RV φ R w x ux)
    {src es : List (List AV)} (hsrc : rdS σ x = some src) {sz st : Nat} {t ty el : TypeId} (hs0 : σ id = some (.row es sz el st)) (hn : n = es.length)
    (ht : tslice P t = some el) {by_ : Nat} {z : Value} (hs : tsz P el = some sz) (hb : tbytes P el = some by_) (hz : tzero P el = some z) (hzs : z.cells.size = sz)
    (hsz : ∀ e ∈ src, e.length = sz) (hle : (n + src.length) * by_ ≤ 140737488355328) (hle' : n + src.length ≤ 140737488355328) :
    ∃ v' φ' w', (Builtin.append_ #[t, t] ty #[u, ux]).run P w = .ok v' w' ∧ Cfg B R (σ.set id (.row (es ++ src) sz el st)) φ' w' ∧ Ext R σ φ w R (σ.set id (.row (es ++ src) sz el st)) φ' w' ∧
      RV φ' R w' (.sl id (n + src.length)) v' := by
  subst hn
  obtain ⟨A, c, news, rfl, hF, hA⟩ := rdS_ok hc hx hsrc hsz
  obtain ⟨i, hi, hi1, hi2, hi3⟩ := tinfo_of hs hb hz
  subst hi1; subst hi2
  have hne : σ id ≠ none := by rw [hs0]; simp
  cases hr with
  | sl h1 h2 =>
  rename_i b cap
  cases hc.ok id _ hs0 with
  | row hels hst hpp htop hm =>
  obtain ⟨_, hcm, C, hb0, hCs, hrow⟩ := hm _ b cap hst (Nat.le_refl _) h1
  have hfit0 : es.length * i.size ≤ C.size := by rw [hCs]; exact Nat.mul_le_mul_right _ h2
  have hFe := Flat.of_row hels hrow (Nat.le_refl _) hfit0
  rw [List.take_length] at hFe
  have hFall := hFe.append hF
  by_cases hroom : es.length + src.length ≤ cap
  · -- in place
    have hfit : es.length * i.size + news.length ≤ C.size := by rw [hF.len, ← Nat.add_mul, hCs]; exact Nat.mul_le_mul_right _ hroom
    have hrun : (Builtin.append_ #[t, t] ty #[.slice (some ⟨b, 0, none⟩) es.length cap, .slice A src.length c]).run P w =
        .ok (.slice (some ⟨b, 0, none⟩) (es.length + src.length) cap) (w.setRow b (C.toList.take (es.length * i.size) ++ news ++ C.toList.drop (es.length * i.size + news.length)).toArray) := by
      have hf := run_firstCells' (P := P) (w := w) (A := A) (c := c) hF.len (by rcases hA with ⟨h3, _, h4⟩ | h3; exact .inl ⟨h3, h4⟩; exact .inr h3) src.length
      have hst' := run_storeCells_at P b (es.length * i.size) el news 0 C w hb0 (by simpa using hfit) hF.one
      simp only [Nat.add_zero] at hst'
      simp [Builtin.append_, run_underlying (tslice_spec ht), sizeOf, typeInfo, hi, Builtin.lenOf, hroom, hf, Addr.add_lit, hst']
    refine ⟨_, φ.put id (es.length + src.length) (b, cap), _, hrun, ?_⟩
    have hput : ∀ m p, φ id m = some p → φ.put id (es.length + src.length) (b, cap) id m = some p := fun m p hp => by
      by_cases hme : m = es.length + src.length
      · subst hme
        rw [Pl.put_same]
        by_cases h0 : src.length = 0
        · rw [h0, Nat.add_zero, h1] at hp; exact hp
        · rw [htop _ (by omega)] at hp; cases hp
      · rw [Pl.put_ne' _ _ _ _ _ hme]; exact hp
    have key := hc.upd id (.row (es ++ src) i.size el st) (φ.put id (es.length + src.length) (b, cap)) (w.setRow b (C.toList.take (es.length * i.size) ++ news ++ C.toList.drop (es.length * i.size + news.length)).toArray)
      (fun j hj m => Pl.put_ne _ _ _ _ hj m) hput
      (fun m d e hd => by
        by_cases hme : m = es.length + src.length
        · subst hme
          rw [Pl.put_same] at hd
          injection hd with hd
          injection hd with hd hd'
          subst hd
          exact ⟨by have := hc.lt _ _ _ _ h1; simpa [World.setRow] using this, .inr ⟨_, _, h1, fun h => hne h⟩⟩
        · rw [Pl.put_ne' _ _ _ _ _ hme] at hd
          exact ⟨by have := hc.lt _ _ _ _ hd; simpa [World.setRow] using this, .inr ⟨_, _, hd, fun h => hne h⟩⟩)
      (fun h => absurd h hne)
      (fun d hd h => setRow_other w b d _ (fun e => h es.length cap (by rw [e]; exact h1)))
      (by simp [World.setRow]) rfl rfl rfl
      (fun hE => .row (fun e he => by
          rcases List.mem_append.1 he with h3 | h3
          · exact hels e h3
          · exact hsz e h3) (by simp; omega) ⟨b, cap, by rw [List.length_append, Pl.put_same]⟩
        (fun m hlt => by
          simp only [List.length_append] at hlt
          rw [Pl.put_ne' _ _ _ _ _ (by omega)]
          exact htop m (by omega))
        (fun m d e h3 h4 h5 => by
          simp only [List.length_append] at h4
          by_cases hme : m = es.length + src.length
          · subst hme
            rw [Pl.put_same] at h5
            injection h5 with h5
            injection h5 with h5 h6
            subst h5; subst h6
            refine ⟨hroom, hcm, _, setRow_heap w b C _ el (0, 0) hb0, ?_, ?_⟩
            · simp; omega
            · have := (hFall.ext hE).row (C := (C.toList.take (es.length * i.size) ++ news ++ C.toList.drop (es.length * i.size + news.length)).toArray) (by
                rw [List.toList_toArray]
                exact List.take_left)
              simpa using this
          · rw [Pl.put_ne' _ _ _ _ _ hme] at h5
            by_cases hml : m ≤ es.length
            · obtain ⟨h6, h7, C', h8, h9, h10⟩ := hm m d e h3 hml h5
              have hR : RowAt φ R w (es ++ src) C' i.size m := fun k f hk hf => h10 k f hk (by rw [List.getElem?_append_left (by omega)] at hf; exact hf)
              by_cases hdb : d = b
              · subst hdb
                rw [hb0] at h8
                injection h8 with h8
                injection h8 with h8 _ _
                subst h8
                refine ⟨h6, h7, _, setRow_heap w d C _ el (0, 0) hb0, ?_, ?_⟩
                · simp; omega
                · refine RowAt.ext hE fun k f hk hf j c' hj => ?_
                  obtain ⟨a1, y, a2, a3⟩ := hR k f hk hf j c' hj
                  have hfl : f.length = i.size := by
                    rw [List.getElem?_append_left (by omega)] at hf
                    exact hels f (List.mem_of_getElem? hf)
                  have hjl : j < i.size := by rw [← hfl]; exact (List.getElem?_eq_some_iff.1 hj).1
                  have := Nat.mul_le_mul_right i.size (show k + 1 ≤ es.length by omega)
                  rw [Nat.succ_mul] at this
                  refine ⟨a1, y, ?_, a3⟩
                  rw [List.getElem?_toArray, getElem?_splice (by simpa using hfit), if_pos (by omega)]
                  simpa using a2
              · exact ⟨h6, h7, C', (setRow_other w b d _ hdb).trans h8, h9, hR.ext hE⟩
            · rw [htop m (by omega)] at h5; cases h5))
    exact ⟨key.1, key.2, .sl (Pl.put_same _ _ _ _) hroom⟩
  · -- a new row
    have hcapge := grownCap_ge w (es.length + src.length) cap el
    have hcapm : grownCap w (es.length + src.length) cap el ≤ maxLen := grownCap_le_maxLen w _ cap el (by simp only [maxLen]; omega)
    have hrun : (Builtin.append_ #[t, t] ty #[.slice (some ⟨b, 0, none⟩) es.length cap, .slice A src.length c]).run P w = .ok (.slice (some ⟨w.heap.size, 0, none⟩) (es.length + src.length) (grownCap w (es.length + src.length) cap el))
        (w.drew.alloc (.cells ((C.toList.take (es.length * i.size)).toArray ++ news.toArray ++ Builtin.zeroCells z.cells (grownCap w (es.length + src.length) cap el - (es.length + src.length))) el)) := by
      rcases hA with ⟨rfl, h3, _⟩ | ⟨a, rfl, hA⟩
      · subst h3; simp at hroom; omega
      · refine run_append_grow w t ty el i z (tslice_spec ht) hi hi3 ⟨b, 0, none⟩ es.length cap _ hFe.len (fun j v hj => ?_) a src.length c news hF.len hA (by omega) (by omega) (growslice_fits (by omega) hle)
        rw [Addr.add_lit]
        rw [List.getElem?_take] at hj
        split at hj
        · exact cell_of_heap hb0 (by simpa using hj)
        · cases hj
    refine ⟨_, φ.put id (es.length + src.length) (w.heap.size, grownCap w (es.length + src.length) cap el), _, hrun, ?_⟩
    have hnone : φ id (es.length + src.length) = none := htop _ (by omega)
    obtain ⟨hcd, hEd⟩ := hc.drew
    have key := hcd.upd id (.row (es ++ src) i.size el st) (φ.put id (es.length + src.length) (w.heap.size, grownCap w (es.length + src.length) cap el))
      (w.drew.alloc (.cells ((C.toList.take (es.length * i.size)).toArray ++ news.toArray ++ Builtin.zeroCells z.cells (grownCap w (es.length + src.length) cap el - (es.length + src.length))) el))
      (fun j hj m => Pl.put_ne _ _ _ _ hj m)
      (fun m p hp => by
        by_cases hme : m = es.length + src.length
        · rw [hme, hnone] at hp; cases hp
        · rw [Pl.put_ne' _ _ _ _ _ hme]; exact hp)
      (fun m d e hd => by
        by_cases hme : m = es.length + src.length
        · subst hme
          rw [Pl.put_same] at hd
          injection hd with hd
          injection hd with hd hd'
          subst hd
          exact ⟨by simp, .inl (Nat.le_refl _)⟩
        · rw [Pl.put_ne' _ _ _ _ _ hme] at hd
          exact ⟨by have := hc.lt _ _ _ _ hd; simp; omega, .inr ⟨_, _, hd, fun h => hne h⟩⟩)
      (fun h => absurd h hne)
      (fun d hd h => Below.heap_alloc _ _ _ hd)
      (by simp) rfl rfl rfl
      (fun hE => .row (fun e he => by
          rcases List.mem_append.1 he with h3 | h3
          · exact hels e h3
          · exact hsz e h3) (by simp; omega) ⟨_, _, by rw [List.length_append, Pl.put_same]⟩
        (fun m hlt => by
          simp only [List.length_append] at hlt
          rw [Pl.put_ne' _ _ _ _ _ (by omega)]
          exact htop m (by omega))
        (fun m d e h3 h4 h5 => by
          simp only [List.length_append] at h4
          by_cases hme : m = es.length + src.length
          · subst hme
            rw [Pl.put_same] at h5
            injection h5 with h5
            injection h5 with h5 h6
            subst h5; subst h6
            refine ⟨hcapge, hcapm, _, heap_alloc_at _ _, ?_, ?_⟩
            · simp only [Array.size_append, List.size_toArray, size_zeroCells, hzs, hF.len, hFe.len, ← Nat.add_mul]
              congr 1; omega
            · have hFd := (hFall.ext hEd).ext hE
              have := hFd.row (C := (C.toList.take (es.length * i.size)).toArray ++ news.toArray ++ Builtin.zeroCells z.cells (grownCap w (es.length + src.length) cap el - (es.length + src.length))) (by
                simp only [Array.toList_append, List.toList_toArray]
                exact List.take_left)
              simpa using this
          · rw [Pl.put_ne' _ _ _ _ _ hme] at h5
            by_cases hml : m ≤ es.length
            · obtain ⟨h6, h7, C', h8, h9, h10⟩ := hm m d e h3 hml h5
              have hR : RowAt φ R w (es ++ src) C' i.size m := fun k f hk hf => h10 k f hk (by rw [List.getElem?_append_left (by omega)] at hf; exact hf)
              exact ⟨h6, h7, C', (Below.heap_alloc _ _ _ (hc.lt _ _ _ _ h5)).trans h8, h9, (hR.ext hEd).ext hE⟩
            · rw [htop m (by omega)] at h5; cases h5))
    exact ⟨key.1, hEd.trans key.2, .sl (Pl.put_same _ _ _ _) hcapge⟩

end Go.Proofs.Ytdimikmgkdcglaa
