/- An abstract view of memory: abstract values, the relation between them and the machine's values in a world, and what keeps that relation. No conditions. -/
import Derived.Below
import Derived.CallsIn
import Derived.RangeFuncLeaves
import Derived.Laws.AppendOwn
import Derived.Laws.MakeOwn
import Derived.ArgAppend
import Derived.Maps.Own
namespace Go.Proofs.Ytdimikmgkdcglaa
open Go.RowKit

/-- Abstract values. -/
inductive AV where
  | un
  | sc (v : Value)
  | ro (es : List (List AV))
  | sl (id n : Nat)
  | pt (id off : Nat)
  | pe (id n sz i off : Nat)
  | pr (cs : List AV) (off : Nat)
  | mp (id : Nat)
  | fn (f : FuncId) (caps : List AV)
  | yl (id : Nat)
  | ag (cs : List AV)
  | tu (vs : List AV)
  deriving Inhabited

/-- It may lie in one cell. -/
def AV.one : AV → Bool
  | .un | .ag _ | .tu _ => false
  | _ => true

/-- The cells that it takes. -/
def AV.cells : AV → List AV
  | .ag cs => cs
  | v => [v]

/-- Where the blocks of one's own lie: name and length to block and capacity. -/
abbrev Pl := Nat → Nat → Option (Nat × Nat)

section rel
variable (φ : Pl) (R : Nat → Prop) (w : World)

/-- An abstract value, and the machine's. -/
inductive RV : AV → Value → Prop
  | un {v : Value} : RV .un v
  | sc {v : Value} (h : v.oneCell' = true) : RV (.sc v) v
  | ro {es : List (List AV)} {b o cap sz : Nat} {vs : Nat → Nat → Value} (hl : es.length ≤ cap)
      (hs : ∀ e ∈ es, e.length = sz)
      (ho : ∀ i e j c, es[i]? = some e → e[j]? = some c → R b ∧ c.one = true ∧ w.cell? ⟨b, o + i * sz + j, none⟩ = some (vs i j))
      (hv : ∀ i e j c, es[i]? = some e → e[j]? = some c → RV c (vs i j)) : RV (.ro es) (.slice (some ⟨b, o, none⟩) es.length cap)
  | roe {a : Addr} {cap : Nat} : RV (.ro []) (.slice (some a) 0 cap)
  | sl {id n b cap : Nat} (h : φ id n = some (b, cap)) (hc : n ≤ cap) : RV (.sl id n) (.slice (some ⟨b, 0, none⟩) n cap)
  | pt {id off b cap : Nat} (h : φ id 0 = some (b, cap)) : RV (.pt id off) (.pointer (some ⟨b, off, none⟩))
  | pe {id n sz i off b cap : Nat} (h : φ id n = some (b, cap)) : RV (.pe id n sz i off) (.pointer (some ⟨b, i * sz + off, none⟩))
  | pr {cs : List AV} {off b o : Nat} {vs : Nat → Value}
      (ho : ∀ j c, cs[j]? = some c → R b ∧ c.one = true ∧ w.cell? ⟨b, o + j, none⟩ = some (vs j))
      (hv : ∀ j c, cs[j]? = some c → RV c (vs j)) : RV (.pr cs off) (.pointer (some ⟨b, o + off, none⟩))
  | mp {id b cap : Nat} (h : φ id 0 = some (b, cap)) : RV (.mp id) (.map (some b))
  | fn {f : FuncId} {caps : List AV} {us : Array Value} (hl : us.size = caps.length) (hv : ∀ (i : Nat) c u, caps[i]? = some c → us[i]? = some u → RV c u) : RV (.fn f caps) (.func (.func f) #[] us)
  | yl {id b cap : Nat} (h : φ id 0 = some (b, cap)) : RV (.yl id) (.func (.yield b) #[] #[])
  | ag {cs : List AV} {us : Array Value} (hl : us.size = cs.length) (h1 : ∀ c ∈ cs, c.one = true) (hv : ∀ (i : Nat) c u, cs[i]? = some c → us[i]? = some u → RV c u) : RV (.ag cs) (.agg us)
  | tu {cs : List AV} {us : Array Value} (hl : us.size = cs.length) (hv : ∀ (i : Nat) c u, cs[i]? = some c → us[i]? = some u → RV c u) : RV (.tu cs) (.tuple us)
end rel

theorem RV.one {φ : Pl} {R : Nat → Prop} {w : World} {c : AV} {v : Value} (h : RV φ R w c v) (h1 : c.one = true) : v.oneCell' = true := by
  cases h <;> first | rfl | (simp [AV.one] at h1; done) | assumption

/-- Abstract blocks. -/
inductive AB where
  | box (cs : List AV) (t : TypeId)
  | row (es : List (List AV)) (sz : Nat) (t : TypeId) (st : Nat)
  | map (f : List Int → Option AV) (kl : Nat)
  | loop (st : LoopState) (pend : Option Code) (nt : Nat) (al : List (Nat × AV)) (ps : Array Tmp) (assign body : Code)

/-- The abstract heap. -/
abbrev AH := Nat → Option AB
def AH.set (σ : AH) (id : Nat) (b : AB) : AH := fun j => if j = id then some b else σ j
def AH.del (σ : AH) (id : Nat) : AH := fun j => if j = id then none else σ j
def AH.le (σ τ : AH) : Prop := ∀ id, σ id = none ∨ σ id = τ id

/-- The temporaries: the newest first. -/
abbrev Tm := List (Nat × AV)
def gt : Tm → Nat → AV
  | [], _ => .un
  | (k, v) :: r, t => if k = t then v else gt r t

/-- The blocks that are one's own now. -/
def owned (σ : AH) (φ : Pl) (b : Nat) : Prop := ∃ id n c, σ id ≠ none ∧ φ id n = some (b, c)

def CellsAt (φ : Pl) (R : Nat → Prop) (w : World) (cs : List AV) (C : Array Value) (o : Nat) : Prop :=
  ∀ j c, cs[j]? = some c → c.one = true ∧ ∃ v, C[o + j]? = some v ∧ RV φ R w c v
def RowAt (φ : Pl) (R : Nat → Prop) (w : World) (es : List (List AV)) (C : Array Value) (sz m : Nat) : Prop :=
  ∀ i e, i < m → es[i]? = some e → CellsAt φ R w e C (i * sz)
def TmAt (φ : Pl) (R : Nat → Prop) (w : World) (α : Tm) (tmps : Array Value) : Prop := ∀ t, RV φ R w (gt α t) (tmps.getD t undef)

/-- A key: a whole number, or an array of them. -/
def intOf? : Value → Option Int
  | .int .i64 n => some n
  | _ => none
def keyOf : Value → Option (List Int)
  | .int .i64 n => some [n]
  | .agg cs => (cs.toList.mapM intOf?).map fun l => 0 :: 0 :: l
  | _ => none
/-- A block, and the machine's. -/
inductive BOK (φ : Pl) (R : Nat → Prop) (w : World) (id : Nat) : AB → Prop
  | box {cs : List AV} {t : TypeId} {b c : Nat} {C : Array Value} (hp : φ id 0 = some (b, c)) (hb : w.heap[b]? = some (.cells C t (0, 0)))
      (hs : C.size = cs.length) (hc : CellsAt φ R w cs C 0) : BOK φ R w id (.box cs t)
  | row {es : List (List AV)} {sz : Nat} {t : TypeId} {st : Nat} (hsz : ∀ e ∈ es, e.length = sz) (hst : st ≤ es.length) (hp : ∃ b c, φ id es.length = some (b, c))
      (htop : ∀ m, es.length < m → φ id m = none)
      (hm : ∀ m b c, st ≤ m → m ≤ es.length → φ id m = some (b, c) → m ≤ c ∧ c ≤ maxLen ∧ ∃ C, w.heap[b]? = some (.cells C t (0, 0)) ∧ C.size = c * sz ∧ RowAt φ R w es C sz m) :
      BOK φ R w id (.row es sz t st)
  | map {f : List Int → Option AV} {kl : Nat} {b c : Nat} {es : Array MapEntry} {clock : Nat} (hp : φ id 0 = some (b, c)) (hb : w.heap[b]? = some (.map es clock))
      (hk : ∀ en ∈ es.toList, ∃ ks, keyOf en.key = some ks ∧ ks.length = kl)
      (hd : (es.toList.map fun e => keyOf e.key).Nodup)
      (hn : ∀ ks, f ks = none → ∀ e ∈ es.toList, keyOf e.key ≠ some ks)
      (hf : ∀ ks c, f ks = some c → ∃ e, e ∈ es.toList ∧ keyOf e.key = some ks ∧ RV φ R w c e.val) : BOK φ R w id (.map f kl)
  | loop {st : LoopState} {pend : Option Code} {nt : Nat} {al : List (Nat × AV)} {ps : Array Tmp} {assign body : Code} {b c : Nat} {L : Loop} (hp : φ id 0 = some (b, c)) (hb : w.heap[b]? = some (.loop L))
      (h1 : L.state = st) (h2 : L.pending = pend) (h3 : L.params = ps) (h4 : L.assign = assign) (h5 : L.body = body) (h6 : TmAt φ R w al L.tmps) (h7 : L.tmps.size = nt) : BOK φ R w id (.loop st pend nt al ps assign body)

/-- The abstract heap, and the world. Blocks of one's own lie from B on; those of R are read only. -/
structure Cfg (B : Nat) (R : Nat → Prop) (σ : AH) (φ : Pl) (w : World) : Prop where
  ok : ∀ id ab, σ id = some ab → BOK φ R w id ab
  sep : ∀ id id' n n' b c c', σ id ≠ none → σ id' ≠ none → φ id n = some (b, c) → φ id' n' = some (b, c') → id = id'
  low : ∀ id n b c, σ id ≠ none → φ id n = some (b, c) → B ≤ b
  lt : ∀ id n b c, φ id n = some (b, c) → b < w.heap.size
  fin : ∃ N, ∀ id, N ≤ id → σ id = none ∧ ∀ n, φ id n = none
  bs : B ≤ w.heap.size
  dj : ∀ b, R b → ¬ owned σ φ b
  rlt : ∀ b, R b → b < w.heap.size

/-- What a run has left as it was. -/
structure Ext (R : Nat → Prop) (σ : AH) (φ : Pl) (w : World) (R' : Nat → Prop) (σ' : AH) (φ' : Pl) (w' : World) : Prop where
  ph : ∀ id n p, φ id n = some p → φ' id n = some p
  sz : w.heap.size ≤ w'.heap.size
  keep : ∀ b, b < w.heap.size → ¬ owned σ φ b → w'.heap[b]? = w.heap[b]?
  own : ∀ b, b < w.heap.size → owned σ' φ' b → owned σ φ b
  new : ∀ id, σ' id ≠ none → σ id = none → ∀ n, φ id n = none
  dead : ∀ id, σ id = none → (∃ n p, φ id n = some p) → ∀ n, φ' id n = φ id n
  ro : ∀ b, R b → R' b
  rok : ∀ b, R b → b < w.heap.size → w'.heap[b]? = w.heap[b]?
  rn : ∀ b, b < w.heap.size → R' b → R b ∨ owned σ φ b
  os : w'.os = w.os
  tape : w'.tape = w.tape
  output : w'.output = w.output

theorem Ext.refl (R : Nat → Prop) (σ : AH) (φ : Pl) (w : World) : Ext R σ φ w R σ φ w :=
  ⟨fun _ _ _ h => h, Nat.le_refl _, fun _ _ _ => rfl, fun _ _ h => h, fun _ h h' => absurd h' h, fun _ _ _ _ => rfl, fun _ h => h, fun _ _ _ => rfl, fun _ _ h => .inl h, rfl, rfl, rfl⟩

section trans
variable {R₁ R₂ R₃ : Nat → Prop} {σ₁ σ₂ σ₃ : AH} {φ₁ φ₂ φ₃ : Pl} {w₁ w₂ w₃ : World}
theorem Ext.trans (h : Ext R₁ σ₁ φ₁ w₁ R₂ σ₂ φ₂ w₂) (k : Ext R₂ σ₂ φ₂ w₂ R₃ σ₃ φ₃ w₃) : Ext R₁ σ₁ φ₁ w₁ R₃ σ₃ φ₃ w₃ where
  ph := fun id n p hp => k.ph id n p (h.ph id n p hp)
  sz := Nat.le_trans h.sz k.sz
  keep := fun b hb ho => (k.keep b (Nat.lt_of_lt_of_le hb h.sz) (fun h2 => ho (h.own b hb h2))).trans (h.keep b hb ho)
  own := fun b hb ho => h.own b hb (k.own b (Nat.lt_of_lt_of_le hb h.sz) ho)
  new := fun id h3 h1 n => by
    by_cases h2 : σ₂ id = none
    · have := k.new id h3 h2 n
      cases hq : φ₁ id n with
      | none => rfl
      | some p => rw [h.ph id n p hq] at this; cases this
    · exact h.new id h2 h1 n
  dead := fun id h1 ⟨n, p, hp⟩ m => by
    have h2 : σ₂ id = none := Classical.byContradiction fun h2 => by rw [h.new id h2 h1 n] at hp; cases hp
    rw [k.dead id h2 ⟨n, p, h.ph _ _ _ hp⟩ m, h.dead id h1 ⟨n, p, hp⟩ m]
  ro := fun b hb => k.ro b (h.ro b hb)
  rok := fun b hb hlt => (k.rok b (h.ro b hb) (Nat.lt_of_lt_of_le hlt h.sz)).trans (h.rok b hb hlt)
  rn := fun b hb h3 => by
    rcases k.rn b (Nat.lt_of_lt_of_le hb h.sz) h3 with h4 | h4
    · exact h.rn b hb h4
    · exact .inr (h.own b hb h4)
  os := k.os.trans h.os
  tape := k.tape.trans h.tape
  output := k.output.trans h.output
end trans

section ext
variable {R R' : Nat → Prop} {σ σ' : AH} {φ φ' : Pl} {w w' : World}

/-- A read-only block reads as it did. -/
theorem Ext.cell (h : Ext R σ φ w R' σ' φ' w') {a : Addr} {v : Value} (hn : R a.block) (hc : w.cell? a = some v) : w'.cell? a = some v ∧ R' a.block := by
  have hlt : a.block < w.heap.size := World.block_lt_of_cell? w a hc
  refine ⟨?_, h.ro _ hn⟩
  rw [← hc]
  exact World.cell?_of_block (w := w) (h.rok _ hn hlt)

/-- What a value leans on: places, and the cells of read-only blocks. -/
structure Keep (φ : Pl) (R : Nat → Prop) (w : World) (φ' : Pl) (R' : Nat → Prop) (w' : World) : Prop where
  ph : ∀ id n p, φ id n = some p → φ' id n = some p
  cell : ∀ (a : Addr) v, R a.block → w.cell? a = some v → w'.cell? a = some v ∧ R' a.block
theorem Ext.toKeep (h : Ext R σ φ w R' σ' φ' w') : Keep φ R w φ' R' w' := ⟨h.ph, fun _ _ h1 h2 => h.cell h1 h2⟩

theorem RV.keep (h : Keep φ R w φ' R' w') {x : AV} {v : Value} (hr : RV φ R w x v) : RV φ' R' w' x v := by
  induction hr with
  | un => exact .un
  | sc h1 => exact .sc h1
  | ro hl hs ho _ ih =>
    refine .ro hl hs (fun i e j c h1 h2 => ?_) ih
    obtain ⟨a1, a2, a3⟩ := ho i e j c h1 h2
    have := h.cell ⟨_, _, none⟩ _ a1 a3
    exact ⟨this.2, a2, this.1⟩
  | roe => exact .roe
  | sl h1 h2 => exact .sl (h.ph _ _ _ h1) h2
  | pt h1 => exact .pt (h.ph _ _ _ h1)
  | pe h1 => exact .pe (h.ph _ _ _ h1)
  | pr ho _ ih =>
    refine .pr (fun j c h1 => ?_) ih
    obtain ⟨a1, a2, a3⟩ := ho j c h1
    have := h.cell ⟨_, _, none⟩ _ a1 a3
    exact ⟨this.2, a2, this.1⟩
  | mp h1 => exact .mp (h.ph _ _ _ h1)
  | fn hl _ ih => exact .fn hl ih
  | yl h1 => exact .yl (h.ph _ _ _ h1)
  | ag hl h1 _ ih => exact .ag hl h1 ih
  | tu hl _ ih => exact .tu hl ih
theorem RV.ext (h : Ext R σ φ w R' σ' φ' w') {x : AV} {v : Value} (hr : RV φ R w x v) : RV φ' R' w' x v := hr.keep h.toKeep

theorem CellsAt.keep (h : Keep φ R w φ' R' w') {cs : List AV} {C : Array Value} {o : Nat} (hc : CellsAt φ R w cs C o) :
    CellsAt φ' R' w' cs C o := fun j c hj => let ⟨h1, v, h2, h3⟩ := hc j c hj; ⟨h1, v, h2, h3.keep h⟩
theorem RowAt.keep (h : Keep φ R w φ' R' w') {es : List (List AV)} {C : Array Value} {sz m : Nat} (hc : RowAt φ R w es C sz m) :
    RowAt φ' R' w' es C sz m := fun i e hi he => (hc i e hi he).keep h
theorem TmAt.keep (h : Keep φ R w φ' R' w') {α : Tm} {tmps : Array Value} (hc : TmAt φ R w α tmps) : TmAt φ' R' w' α tmps := fun t => (hc t).keep h
theorem CellsAt.ext (h : Ext R σ φ w R' σ' φ' w') {cs : List AV} {C : Array Value} {o : Nat} (hc : CellsAt φ R w cs C o) : CellsAt φ' R' w' cs C o := hc.keep h.toKeep
theorem RowAt.ext (h : Ext R σ φ w R' σ' φ' w') {es : List (List AV)} {C : Array Value} {sz m : Nat} (hc : RowAt φ R w es C sz m) : RowAt φ' R' w' es C sz m := hc.keep h.toKeep
theorem TmAt.ext (h : Ext R σ φ w R' σ' φ' w') {α : Tm} {tmps : Array Value} (hc : TmAt φ R w α tmps) : TmAt φ' R' w' α tmps := hc.keep h.toKeep

/-- A block that lies as it lay. -/
theorem BOK.keep (h : Keep φ R w φ' R' w') {id : Nat} {ab : AB} (hb : BOK φ R w id ab)
    (hφ : ∀ n, φ' id n = φ id n) (hk : ∀ n b c, φ id n = some (b, c) → w'.heap[b]? = w.heap[b]?) : BOK φ' R' w' id ab := by
  cases hb with
  | box hp hb hs hc => exact .box ((hφ _).trans hp) ((hk _ _ _ hp).trans hb) hs (hc.keep h)
  | row hsz hst hp htop hm =>
    refine .row hsz hst ?_ (fun m hlt => (hφ m).trans (htop m hlt)) (fun m b c h1 h2 h3 => ?_)
    · obtain ⟨b, c, h1⟩ := hp
      exact ⟨b, c, (hφ _).trans h1⟩
    · rw [hφ] at h3
      obtain ⟨a1, a2, C, a3, a4, a5⟩ := hm m b c h1 h2 h3
      exact ⟨a1, a2, C, (hk _ _ _ h3).trans a3, a4, a5.keep h⟩
  | map hp hb hk' hd hn hf =>
    exact .map ((hφ _).trans hp) ((hk _ _ _ hp).trans hb) hk' hd hn (fun ks c hc => let ⟨v, h1, h2, h3⟩ := hf ks c hc; ⟨v, h1, h2, h3.keep h⟩)
  | loop hp hb h1 h2 h3 h4 h5 h6 h7 => exact .loop ((hφ _).trans hp) ((hk _ _ _ hp).trans hb) h1 h2 h3 h4 h5 (h6.keep h) h7
theorem BOK.ext (h : Ext R σ φ w R' σ' φ' w') {id : Nat} {ab : AB} (hb : BOK φ R w id ab)
    (hφ : ∀ n, φ' id n = φ id n) (hk : ∀ n b c, φ id n = some (b, c) → w'.heap[b]? = w.heap[b]?) : BOK φ' R' w' id ab := hb.keep h.toKeep hφ hk
end ext

/-- Names are dropped. -/
theorem Ext.drop {R : Nat → Prop} {σ τ : AH} {φ : Pl} {w : World} (h : σ.le τ) : Ext R τ φ w R σ φ w where
  ph := fun _ _ _ h => h
  sz := Nat.le_refl _
  keep := fun _ _ _ => rfl
  own := fun b _ ⟨id, n, c, h1, h2⟩ => ⟨id, n, c, fun h3 => by rcases h id with h4 | h4; exact h1 h4; exact h1 (h4.trans h3), h2⟩
  new := fun id h1 h2 => by rcases h id with h4 | h4; exact absurd h4 h1; exact absurd (h4.trans h2) h1
  dead := fun _ _ _ _ => rfl
  ro := fun _ h => h
  rok := fun _ _ _ => rfl
  rn := fun _ _ h => .inl h
  os := rfl
  tape := rfl
  output := rfl
theorem Cfg.drop {B : Nat} {R : Nat → Prop} {σ τ : AH} {φ : Pl} {w : World} (hc : Cfg B R τ φ w) (h : σ.le τ) : Cfg B R σ φ w := by
  have hs : ∀ id, σ id ≠ none → τ id = σ id := fun id h1 => by
    rcases h id with h4 | h4
    · exact absurd h4 h1
    · exact h4.symm
  refine ⟨fun id ab hi => ?_, fun id id' n n' b c c' h1 h2 => hc.sep id id' n n' b c c' (by rw [hs id h1]; exact h1) (by rw [hs id' h2]; exact h2),
    fun id n b c h1 => hc.low id n b c (by rw [hs id h1]; exact h1), hc.lt, ?_, hc.bs, fun b hb ⟨id, n, c, h1, h2⟩ => hc.dj b hb ⟨id, n, c, by rw [hs id h1]; exact h1, h2⟩, hc.rlt⟩
  · have h1 : σ id ≠ none := by rw [hi]; simp
    exact hc.ok id ab ((hs id h1).trans hi)
  · obtain ⟨N, hN⟩ := hc.fin
    refine ⟨N, fun id hid => ⟨?_, (hN id hid).2⟩⟩
    rcases h id with h4 | h4
    · exact h4
    · rw [h4]; exact (hN id hid).1

end Go.Proofs.Ytdimikmgkdcglaa
