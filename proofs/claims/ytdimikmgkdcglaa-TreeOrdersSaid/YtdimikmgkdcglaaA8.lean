/- The triple of code over the abstract heap, the contract of a call, and what each operation asks. No conditions. -/
import Derived.Test.YtdimikmgkdcglaaA7
set_option linter.unusedVariables false
set_option linter.unusedSimpArgs false
namespace Go.Proofs.Ytdimikmgkdcglaa
open Go.RowKit

/-! ### Frames -/
def rdOf (φ : Pl) (rd : Option Nat) : Option Nat := rd.bind fun id => (φ id 0).map (·.1)
def fenR : Option Nat → Fence
  | none => Fence.wide
  | some l => Fence.wide.inRound l
theorem fenR_fn (r : Option Nat) (f : FuncId) : (fenR r).fn f := by cases r <;> trivial
theorem fenR_depth (r : Option Nat) : (fenR r).depth = none := by cases r <;> rfl
theorem fenR_round (r : Option Nat) : (fenR r).round = r := by cases r <;> rfl

/-- A frame: its temporaries, the marks that it will leave with, the round that it is. -/
structure ActAt (lo : Nat) (rd : Option Nat) (nt : Nat) (R : Nat → Prop) (σ : AH) (φ : Pl) (w : World) (α : Tm) (a : Act) : Prop where
  tm : TmAt φ R w α a.tmps
  sz : a.tmps.size = nt
  df : ∀ d ∈ a.defers, ∃ D, d = { target := .collected D, args := #[] } ∧ lo ≤ D ∧ w.heap[D]? = some (.deferred (some [])) ∧ ¬ owned σ φ D ∧ ¬ R D
  nd : a.defers.Nodup
  rd : ∀ id, rd = some id → ∃ p, φ id 0 = some p

theorem ActAt.ext {lo : Nat} {rd : Option Nat} {nt : Nat} {R R' : Nat → Prop} {σ : AH} {φ : Pl} {w : World} {σ' : AH} {φ' : Pl} {w' : World} {α : Tm} {a : Act} (hE : Ext R σ φ w R' σ' φ' w') (h : ActAt lo rd nt R σ φ w α a) : ActAt lo rd nt R' σ' φ' w' α a where
  tm := h.tm.ext hE
  sz := h.sz
  df := fun d hd => by
    obtain ⟨D, h1, h2, h3, h4, h5⟩ := h.df d hd
    have hlt : D < w.heap.size := (Array.getElem?_eq_some_iff.1 h3).1
    exact ⟨D, h1, h2, (hE.keep D hlt h4).trans h3, fun ho => h4 (hE.own D hlt ho), fun hR => by rcases hE.rn D hlt hR with h6 | h6; exact h5 h6; exact h4 h6⟩
  nd := h.nd
  rd := fun id hid => let ⟨p, hp⟩ := h.rd id hid; ⟨p, hE.ph _ _ _ hp⟩

theorem rdOf_ext {lo : Nat} {rd : Option Nat} {nt : Nat} {R R' : Nat → Prop} {σ : AH} {φ : Pl} {w : World} {σ' : AH} {φ' : Pl} {w' : World} {α : Tm} {a : Act} (hE : Ext R σ φ w R' σ' φ' w') (h : ActAt lo rd nt R σ φ w α a) : rdOf φ' rd = rdOf φ rd := by
  cases rd with
  | none => rfl
  | some id =>
    obtain ⟨p, hp⟩ := h.rd id rfl
    simp [rdOf, hp, hE.ph _ _ _ hp]

def vput (dst : Option Tmp) (v : AV) (α : Tm) : Tm := match dst with
  | some d => (d, v) :: α
  | none => α

theorem ActAt.put {lo : Nat} {rd : Option Nat} {nt : Nat} {R : Nat → Prop} {σ : AH} {φ : Pl} {w : World} {α : Tm} {a : Act} (h : ActAt lo rd nt R σ φ w α a) {d : Tmp} (hd : d < nt) {v : AV} {u : Value} (hv : RV φ R w v u) :
    ActAt lo rd nt R σ φ w ((d, v) :: α) (a.put (some d) u) where
  tm := fun t => by
    simp only [gt, Act.put]
    by_cases ht : d = t
    · subst ht
      rw [if_pos rfl]
      have : d < a.tmps.size := by rw [h.sz]; exact hd
      simpa [Array.getD_eq_getD_getElem?, this] using hv
    · rw [if_neg ht]
      have := h.tm t
      simpa [Array.getD_eq_getD_getElem?, Array.getElem?_setIfInBounds, ht] using this
  sz := by simp [Act.put, h.sz]
  df := h.df
  nd := h.nd
  rd := h.rd

/-- What an operand is. -/
def constAV : Value → AV
  | .agg cs => if cs.toList.all (·.oneCell') then .ag (cs.toList.map .sc) else .un
  | .tuple _ => .un
  | v => .sc v
def ev (α : Tm) : Operand → AV
  | .tmp t => gt α t
  | .const v => constAV v
  | .global _ => .un
  | .func f => .fn f []

theorem constAV_ok (φ : Pl) (R : Nat → Prop) (w : World) (v : Value) : RV φ R w (constAV v) v := by
  unfold constAV
  split
  · rename_i cs
    split
    · rename_i hall
      refine .ag (by simp) (fun c hc => ?_) (fun i c u hc hu => ?_)
      · obtain ⟨v, _, rfl⟩ := List.mem_map.1 hc
        rfl
      · rw [List.getElem?_map] at hc
        have hu' : cs.toList[i]? = some u := by simpa using hu
        rw [hu'] at hc
        injection hc with hc
        subst hc
        exact .sc ((List.all_eq_true.1 hall) u (List.mem_of_getElem? hu'))
    · exact .un
  · exact .un
  · rename_i hne1 hne2
    refine .sc ?_
    cases v <;> first | rfl | (exfalso; first | exact hne1 _ rfl | exact hne2 _ rfl)

theorem ActAt.ev {lo : Nat} {rd : Option Nat} {nt : Nat} {R : Nat → Prop} {σ : AH} {φ : Pl} {w : World} {α : Tm} {a : Act} (h : ActAt lo rd nt R σ φ w α a) (x : Operand) : RV φ R w (ev α x) (a.eval x) := by
  cases x with
  | tmp t => exact h.tm t
  | const v => exact constAV_ok _ _ _ _
  | global g => exact .un
  | func f => exact .fn rfl (fun i c u h _ => by simp at h)

/-! ### Contracts -/
/-- A function that is entered when it is called. -/
def Enters (P : Program) (f : FuncId) : Prop := ∃ fn, P.funcs[f]? = some fn ∧ (fn.name == "runtime.NumGoroutine") = false ∧ fn.body.isNone = false
theorem Enters.run {P : Program} {f : FuncId} (h : Enters P f) (args : Array Value) (w : World) : (callFunc f args).run P w = .ok (.enter f args) w := by
  obtain ⟨fn, h1, h2, h3⟩ := h
  unfold callFunc
  simp only [Sem.run_bind, run_program, Result.andThen_ok, h1, h2, h3, Bool.false_eq_true, if_false, Sem.run_pure]

def RVs (φ : Pl) (R : Nat → Prop) (w : World) (vs : List AV) (us : Array Value) : Prop := us.size = vs.length ∧ ∀ (i : Nat) v u, vs[i]? = some v → us[i]? = some u → RV φ R w v u

/-- The call of function f: whatever the placement, it returns a value of which K holds. -/
def AC (P : Program) (f : FuncId) (args : List AV) (σ : AH) (K : AV → AH → Prop) : Prop :=
  Enters P f ∧ ∀ (B : Nat) (R : Nat → Prop) (φ : Pl) (w : World) (us : Array Value), Cfg B R σ φ w → RVs φ R w args us →
    Calls P f us w fun e w' => ∃ u r R' σ' φ', e = .returned u ∧ Cfg B R' σ' φ' w' ∧ Ext R σ φ w R' σ' φ' w' ∧ RV φ' R' w' r u ∧ K r σ'

/-- The call of a loop's yield. -/
def YC (P : Program) (id : Nat) (args : List AV) (σ : AH) (K : AV → AH → Prop) : Prop :=
  ∀ (B : Nat) (R : Nat → Prop) (φ : Pl) (w : World) (us : Array Value) (l c : Nat), Cfg B R σ φ w → RVs φ R w args us → φ id 0 = some (l, c) →
    ∃ f tmps assign body, (Instr.yield l us).run P w = .ok (.round l f tmps assign body) w ∧
      RoundIn Fence.wide 0 P l f tmps assign body w fun e w' => ∃ u r R' σ' φ', e = .returned u ∧ Cfg B R' σ' φ' w' ∧ Ext R σ φ w R' σ' φ' w' ∧ RV φ' R' w' r u ∧ K r σ'

theorem AC.mono {P : Program} {f : FuncId} {args : List AV} {σ : AH} {K K' : AV → AH → Prop} (h : AC P f args σ K) (hk : ∀ r σ', K r σ' → K' r σ') : AC P f args σ K' :=
  ⟨h.1, fun B R φ w us hc hr => (h.2 B R φ w us hc hr).mono fun e w' ⟨u, r, R', σ', φ', h1, h2, h3, h4, h5⟩ => ⟨u, r, R', σ', φ', h1, h2, h3, h4, hk r σ' h5⟩⟩

/-! ### What an operation asks -/
def nilS : AV := .sc (.slice none 0 0)
def tint (P : Program) (t : TypeId) : Option IntKind := (P.underlying t).bind fun | .int k => some k | _ => none
def hasU (P : Program) (t : TypeId) : Bool := (P.underlying t).isSome

/-- A value without memory, as the machine has it. -/
def conc1 : AV → Option Value
  | .sc v => some v
  | _ => none
def conc : AV → Option Value
  | .sc v => some v
  | .ag cs => (cs.mapM conc1).map fun l => .agg l.toArray
  | _ => none
def BinR (P : Program) (op : BinOp) (t : TypeId) (xo yo : Operand) (x y v : Value) : Prop := ∀ w, (do eqGuard op t xo yo x y; binOp op t x y : Sem Value).run P w = .ok v w

def vint (op : BinOp) (k k' : IntKind) (a b : Int) (K : AV → Prop) : Prop :=
  match op with
  | .add => k = k' ∧ K (.sc (.int k (k.wrap (a + b))))
  | .sub => k = k' ∧ K (.sc (.int k (k.wrap (a - b))))
  | .mul => k = k' ∧ K (.sc (.int k (k.wrap (a * b))))
  | .quo => k = k' ∧ b ≠ 0 ∧ K (.sc (.int k (k.wrap (a.tdiv b))))
  | .rem => k = k' ∧ b ≠ 0 ∧ K (.sc (.int k (a.tmod b)))
  | .and => k = k' ∧ K (.sc (.int k (k.wrap ((BitVec.ofInt k.bits a &&& BitVec.ofInt k.bits b).toNat : Int))))
  | .shr => 0 ≤ b ∧ K (.sc (.int k (a.fdiv (2 ^ min b.toNat k.bits))))
  | .eql => k = k' ∧ K (.sc (.bool (a == b)))
  | .neq => k = k' ∧ K (.sc (.bool (a != b)))
  | .lss => k = k' ∧ K (.sc (.bool (decide (a < b))))
  | .leq => k = k' ∧ K (.sc (.bool (decide (a ≤ b))))
  | .gtr => k = k' ∧ K (.sc (.bool (decide (a > b))))
  | .geq => k = k' ∧ K (.sc (.bool (decide (a ≥ b))))
  | _ => False

def vbin (P : Program) (op : BinOp) (t : TypeId) (xo yo : Operand) (x y : AV) (K : AV → Prop) : Prop :=
  match x, y with
  | .sc (.int k a), .sc (.int k' b) => vint op k k' a b K
  | .sc (.bool a), .sc (.bool b) => P.underlying t = some .bool ∧ (match op with
    | .eql => K (.sc (.bool (a == b)))
    | .neq => K (.sc (.bool (!(a == b))))
    | _ => False)
  | .sc (.slice none 0 0), .sc (.slice none 0 0) => (tslice P t).isSome = true ∧ (match op with
    | .eql => K (.sc (.bool true))
    | .neq => K (.sc (.bool false))
    | _ => False)
  | .ro _, .sc (.slice none 0 0) => (tslice P t).isSome = true ∧ (match op with
    | .eql => K (.sc (.bool false))
    | .neq => K (.sc (.bool true))
    | _ => False)
  | .sl _ _, .sc (.slice none 0 0) => (tslice P t).isSome = true ∧ (match op with
    | .eql => K (.sc (.bool false))
    | .neq => K (.sc (.bool true))
    | _ => False)
  | .ag xs, .ag ys => ∃ a b v, conc (.ag xs) = some a ∧ conc (.ag ys) = some b ∧ BinR P op t xo yo a b v ∧ v.oneCell' = true ∧ K (.sc v)
  | _, _ => False

def vun (op : UnOp) (x : AV) (K : AV → Prop) : Prop :=
  match op, x with
  | .not, .sc (.bool b) => K (.sc (.bool !b))
  | .neg, .sc (.int k n) => K (.sc (.int k (k.wrap (0 - n))))
  | _, _ => False

def tkl (P : Program) (t : TypeId) : Option Nat := (tmap P t).bind fun p => (P.underlying p.1).bind fun
  | .int .i64 => some 1
  | .array n _ => some (n + 2)
  | _ => none

def ofInt? : AV → Option (IntKind × Int)
  | .sc (.int k n) => some (k, n)
  | _ => none

/-- The most, the least, of whole numbers of one kind. -/
def vstep (ge : Bool) (acc : Option AV) (y : AV) : Option AV := acc.bind fun a => match a, y with
  | .sc (.int k a), .sc (.int _ b) => some (.sc (.int k (if (if ge then b > a else b < a) then b else a)))
  | _, _ => none
def vmax (ge : Bool) : List AV → Option AV
  | [] => none
  | x :: rest => match ofInt? x with
    | some _ => rest.foldl (vstep ge) (some x)
    | none => none

def vcall (P : Program) (c : Call) (ty : TypeId) (α : Tm) (σ : AH) (K : AV → AH → Prop) : Prop :=
  match c.callee with
  | .builtin .len => match c.args.toList, c.argTypes.toList with
    | [x], [t] => (tslice P t).isSome = true ∧ ∃ n, slen (ev α x) = some n ∧ K (.sc (.int .i64 n)) σ
    | _, _ => False
  | .builtin .max => ∃ v, vmax true (c.args.toList.map (ev α)) = some v ∧ K v σ
  | .builtin .min => ∃ v, vmax false (c.args.toList.map (ev α)) = some v ∧ K v σ
  | .builtin .append => match c.args.toList, c.argTypes.toList with
    | [s, x], [t, t'] => t' = t ∧ ∃ el sz by_ z src, tslice P t = some el ∧ tsz P el = some sz ∧ tbytes P el = some by_ ∧ tzero P el = some z ∧ z.cells.size = sz ∧ rdS σ (ev α x) = some src ∧ (∀ e ∈ src, e.length = sz) ∧
        (match ev α s with
        | .sc (.slice none 0 0) => if src = [] then K nilS σ else src.length * by_ ≤ 140737488355328 ∧ src.length ≤ 140737488355328 ∧ ∀ id, σ id = none → K (.sl id src.length) (σ.set id (.row src sz el 0))
        | .sl id n => ∃ es sz' el' st, σ id = some (.row es sz' el' st) ∧ sz' = sz ∧ el' = el ∧ n = es.length ∧ (n + src.length) * by_ ≤ 140737488355328 ∧ n + src.length ≤ 140737488355328 ∧ K (.sl id (n + src.length)) (σ.set id (.row (es ++ src) sz el st))
        | _ => False)
    | _, _ => False
  | .value f => match ev α f with
    | .fn g caps => AC P g (c.args.toList.map (ev α) ++ caps) σ K
    | .yl id => YC P id (c.args.toList.map (ev α)) σ K
    | _ => False
  | _ => False

def vidx (P : Program) (t : TypeId) (x : AV) (i : Int) (K : AV → Prop) : Prop :=
  match x with
  | .ro es => ∃ e el, es[i.toNat]? = some e ∧ tslice P t = some el ∧ tsz P el = some e.length ∧ K (.pr e 0)
  | .sl id n => ∃ el sz, tslice P t = some el ∧ tsz P el = some sz ∧ i < n ∧ K (.pe id n sz i.toNat 0)
  | p => p.isPtr = true ∧ ∃ len el sz, tarray P t = some (len, el) ∧ tsz P el = some sz ∧ i < len ∧ K (p.plus (i.toNat * sz))

def vslice (P : Program) (t : TypeId) (x : AV) (lo hi mx : Option AV) (K : AV → Prop) : Prop :=
  match x with
  | .ro es => ∃ el sz L H M, tslice P t = some el ∧ tsz P el = some sz ∧ (∀ e ∈ es, e.length = sz) ∧ bound 0 lo = some L ∧ bound es.length hi = some H ∧ bound es.length mx = some M ∧
      (mx.isSome = true → hi.isSome = true) ∧ L ≤ H ∧ H ≤ M ∧ M ≤ es.length ∧ K (.ro ((es.take H).drop L))
  | .pr cs off => ∃ len el, tarray P t = some (len, el) ∧ tsz P el = some 1 ∧ lo = none ∧ hi = none ∧ mx = none ∧ 0 < len ∧ off + len ≤ cs.length ∧ K (.ro (((cs.drop off).take len).map fun c => [c]))
  | .sc (.slice none 0 0) => ∃ el sz, tslice P t = some el ∧ tsz P el = some sz ∧ mx = none ∧ bound 0 lo = some 0 ∧ bound 0 hi = some 0 ∧ K nilS
  | _ => False

/-- A part of a struct: its place, and whether it is of several cells. -/
def tfld (P : Program) (s f : Nat) : Option (Nat × Bool) := (P.underlying s).bind fun
  | .struct fs => (fs[f]?).bind fun fl => (tagg P fl.type).map fun g => (fl.offset, g)
  | _ => none
def vop (P : Program) (owns : List Tmp) (o : Oper) (α : Tm) (σ : AH) (K : AV → AH → Prop) : Prop :=
  match o.op with
  | .move x | .assign x => K (ev α x) σ
  | .pick c a b => ∃ t, ev α c = .sc (.bool t) ∧ K (if t then ev α a else ev α b) σ
  | .alloc t => ∃ cs, zcells P t = some cs ∧ ∀ id, σ id = none → K (.pt id 0) (σ.set id (.box cs t))
  | .box t x => AV.allOne (ev α x).cells = true ∧ (if o.dst.any owns.contains then ∀ id, σ id = none → K (.pt id 0) (σ.set id (.box (ev α x).cells t)) else K (.pr (ev α x).cells 0) σ)
  | .build t parts => ∃ place zs cs, tplaces P t = some place ∧ zcells P t = some zs ∧ afill place zs (parts.toList.map fun p => (p.1, ev α p.2)) = some cs ∧ K (.ag cs) σ
  | .buildSlice t len parts => ∃ el zs es, tslice P t = some el ∧ zcells P el = some zs ∧ tsz P el = some zs.length ∧ len * zs.length ≤ 16777216 ∧ len ≤ 16777216 ∧
      asfill zs.length (List.replicate len zs) (parts.toList.map fun p => (p.1, ev α p.2)) = some es ∧
      (if o.dst.any owns.contains then ∀ id, σ id = none → K (.sl id len) (σ.set id (.row es zs.length el 0)) else K (.ro es) σ)
  | .load t x => ∃ v, aload P σ t (ev α x) = some v ∧ K v σ
  | .store t x v => ∃ σ', astore P σ t (ev α x) (ev α v) = some σ' ∧ K .un σ'
  | .nilCheck x => (ev α x).isPtr = true ∧ K (ev α x) σ
  | .binOp op t x y _ => vbin P op t x y (ev α x) (ev α y) fun v => K v σ
  | .unOp op _ x => vun op (ev α x) fun v => K v σ
  | .convert src dst x => hasU P src = true ∧ ∃ k k' n, tint P dst = some k ∧ ev α x = .sc (.int k' n) ∧ K (.sc (.int k (k.wrap n))) σ
  | .makeFunc (.func f) first caps => first.toList = [] ∧ K (.fn f (caps.toList.map (ev α))) σ
  | .makeMap t none => ∃ kl, tkl P t = some kl ∧ ∀ id, σ id = none → K (.mp id) (σ.set id (.map (fun _ => none) kl))
  | .makeSlice t l c => ∃ el zs by_ kl kc l' c', tslice P t = some el ∧ zcells P el = some zs ∧ tsz P el = some zs.length ∧ tbytes P el = some by_ ∧ ev α l = .sc (.int kl l') ∧ ev α c = .sc (.int kc c') ∧
      0 ≤ l' ∧ l' ≤ c' ∧ (by_ : Int) * c' ≤ 281474976710656 ∧ c' ≤ 281474976710656 ∧ ∀ id, σ id = none → K (.sl id l'.toNat) (σ.set id (.row (List.replicate l'.toNat zs) zs.length el 0))
  | .slice t x lo hi mx => vslice P t (ev α x) (lo.map (ev α)) (hi.map (ev α)) (mx.map (ev α)) fun v => K v σ
  | .fieldAddr s x f => (ev α x).isPtr = true ∧ ∃ off, tfield P s f = some off ∧ K ((ev α x).plus off) σ
  | .indexAddr t x i => ∃ k i', ev α i = .sc (.int k i') ∧ 0 ≤ i' ∧ vidx P t (ev α x) i' fun v => K v σ
  | .index t x i => ∃ k i' cs len el c, ev α i = .sc (.int k i') ∧ 0 ≤ i' ∧ ev α x = .ag cs ∧ tarray P t = some (len, el) ∧ i' < len ∧ tsz P el = some 1 ∧ tagg P el = some false ∧ cs[i'.toNat]? = some c ∧ K c σ
  | .field t x f => ∃ cs off c, ev α x = .ag cs ∧ tfld P t f = some (off, false) ∧ cs[off]? = some c ∧ K c σ
  | .lookup t m k ok => ∃ id f kl ks kt e z, ev α m = .mp id ∧ σ id = some (.map f kl) ∧ akey (ev α k) = some ks ∧ ks.length = kl ∧ tmap P t = some (kt, e) ∧ KeyOps P kt kl ∧ azero P e = some z ∧ K (if ok = true then .tu [(f ks).getD z, .sc (.bool (f ks).isSome)] else (f ks).getD z) σ
  | .mapUpdate t m k x | .insert t m k x => ∃ id f kl ks kt e, ev α m = .mp id ∧ σ id = some (.map f kl) ∧ akey (ev α k) = some ks ∧ ks.length = kl ∧ tmap P t = some (kt, e) ∧ KeyOps P kt kl ∧ K .un (σ.set id (.map (mupd f ks (ev α x)) kl))
  | .extract x i => ∃ vs v, ev α x = .tu vs ∧ vs[i]? = some v ∧ K v σ
  | .call c => vcall P c o.type α σ K
  | _ => False

end Go.Proofs.Ytdimikmgkdcglaa
