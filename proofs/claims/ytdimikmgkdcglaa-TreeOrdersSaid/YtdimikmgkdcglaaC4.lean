/- Sizes, lines, styles, nodes: how they lie in cells. No conditions. -/
import Derived.Test.YtdimikmgkdcglaaC3
set_option linter.unusedVariables false
set_option linter.unusedSimpArgs false
namespace Go.Proofs.Ytdimikmgkdcglaa
open Go.RowKit

def eU (n : Int) : AV := .sc (.int .u32 n)

structure Sz where
  kind : Int
  n : Int
  deriving DecidableEq
def Sz.cells (s : Sz) : List AV := [eI s.kind, eI s.n]

structure Ln where
  st : Int
  w : Int
  c : Int
  deriving DecidableEq
def Ln.cells (l : Ln) : List AV := [eI l.st, eI l.w, eU l.c]

structure Sty where
  width : Sz
  height : Sz
  pad : List Int
  border : List Ln
  colSpan : Int
  rowSpan : Int
  align : Int
  fix : Bool
  collapse : Bool
  sp0 : Int
  sp1 : Int
  hide : Bool
  below : Bool
  pad4 : pad.length = 4
  border4 : border.length = 4
  deriving DecidableEq

def Sty.p (s : Sty) (i : Nat) : Int := s.pad.getD i 0
def Sty.b (s : Sty) (i : Nat) : Ln := s.border.getD i ⟨0, 0, 0⟩
def Sty.cells (s : Sty) : List AV :=
  [eI s.width.kind, eI s.width.n, eI s.height.kind, eI s.height.n, eI (s.p 0), eI (s.p 1), eI (s.p 2), eI (s.p 3),
   eI (s.b 0).st, eI (s.b 0).w, eU (s.b 0).c, eI (s.b 1).st, eI (s.b 1).w, eU (s.b 1).c, eI (s.b 2).st, eI (s.b 2).w, eU (s.b 2).c, eI (s.b 3).st, eI (s.b 3).w, eU (s.b 3).c,
   eI s.colSpan, eI s.rowSpan, eI s.align, eB s.fix, eB s.collapse, eI s.sp0, eI s.sp1, eB s.hide, eB s.below]

@[simp] theorem Sty.cells_len (s : Sty) : s.cells.length = 29 := rfl
@[simp] theorem Sty.cells_one (s : Sty) : AV.allOne s.cells = true := rfl
@[simp] theorem Sty.take_width (s : Sty) : s.cells.take 2 = s.width.cells := rfl
@[simp] theorem Sty.take_height (s : Sty) : (s.cells.drop 2).take 2 = s.height.cells := rfl
def Sty.pads (s : Sty) : List AV := [eI (s.p 0), eI (s.p 1), eI (s.p 2), eI (s.p 3)]
@[simp] theorem Sty.take_pad (s : Sty) : (s.cells.drop 4).take 4 = s.pads := rfl
@[simp] theorem Sty.take_sp (s : Sty) : (s.cells.drop 25).take 2 = [eI s.sp0, eI s.sp1] := rfl
@[simp] theorem Sty.take_all (s : Sty) : s.cells.take 29 = s.cells := rfl
@[simp] theorem Sty.at20 (s : Sty) : s.cells[20]? = some (eI s.colSpan) := rfl
@[simp] theorem Sty.get20 (s : Sty) {h : 20 < s.cells.length} : s.cells[20] = eI s.colSpan := rfl
@[simp] theorem Sty.at21 (s : Sty) : s.cells[21]? = some (eI s.rowSpan) := rfl
@[simp] theorem Sty.get21 (s : Sty) {h : 21 < s.cells.length} : s.cells[21] = eI s.rowSpan := rfl
@[simp] theorem Sty.at22 (s : Sty) : s.cells[22]? = some (eI s.align) := rfl
@[simp] theorem Sty.get22 (s : Sty) {h : 22 < s.cells.length} : s.cells[22] = eI s.align := rfl
@[simp] theorem Sty.at23 (s : Sty) : s.cells[23]? = some (eB s.fix) := rfl
@[simp] theorem Sty.get23 (s : Sty) {h : 23 < s.cells.length} : s.cells[23] = eB s.fix := rfl
@[simp] theorem Sty.at24 (s : Sty) : s.cells[24]? = some (eB s.collapse) := rfl
@[simp] theorem Sty.get24 (s : Sty) {h : 24 < s.cells.length} : s.cells[24] = eB s.collapse := rfl
@[simp] theorem Sty.at25 (s : Sty) : s.cells[25]? = some (eI s.sp0) := rfl
@[simp] theorem Sty.get25 (s : Sty) {h : 25 < s.cells.length} : s.cells[25] = eI s.sp0 := rfl
@[simp] theorem Sty.at26 (s : Sty) : s.cells[26]? = some (eI s.sp1) := rfl
@[simp] theorem Sty.get26 (s : Sty) {h : 26 < s.cells.length} : s.cells[26] = eI s.sp1 := rfl
@[simp] theorem Sty.at27 (s : Sty) : s.cells[27]? = some (eB s.hide) := rfl
@[simp] theorem Sty.get27 (s : Sty) {h : 27 < s.cells.length} : s.cells[27] = eB s.hide := rfl
@[simp] theorem Sty.at28 (s : Sty) : s.cells[28]? = some (eB s.below) := rfl
@[simp] theorem Sty.get28 (s : Sty) {h : 28 < s.cells.length} : s.cells[28] = eB s.below := rfl
theorem Sty.take_b (s : Sty) {i : Nat} (h : i < 4) : (s.cells.drop (8 + i * 3)).take 3 = (s.b i).cells := by
  match i, h with
  | 0, _ => rfl
  | 1, _ => rfl
  | 2, _ => rfl
  | 3, _ => rfl
theorem Sty.at_p (s : Sty) {i : Nat} (h : i < 4) : s.pads[i]? = some (.sc (.int .i64 (s.p i))) := by
  match i, h with
  | 0, _ => rfl
  | 1, _ => rfl
  | 2, _ => rfl
  | 3, _ => rfl
@[simp] theorem Sz.cells_len (s : Sz) : s.cells.length = 2 := rfl
@[simp] theorem Sz.cells_one (s : Sz) : AV.allOne s.cells = true := rfl
@[simp] theorem Sz.at0 (s : Sz) : s.cells[0]? = some (eI s.kind) := rfl
@[simp] theorem Sz.get0 (s : Sz) {h : 0 < s.cells.length} : s.cells[0] = eI s.kind := rfl
@[simp] theorem Sz.at1 (s : Sz) : s.cells[1]? = some (eI s.n) := rfl
@[simp] theorem Sz.get1 (s : Sz) {h : 1 < s.cells.length} : s.cells[1] = eI s.n := rfl
@[simp] theorem Sz.take_all (s : Sz) : s.cells.take 2 = s.cells := rfl
@[simp] theorem Ln.cells_len (s : Ln) : s.cells.length = 3 := rfl
@[simp] theorem Ln.cells_one (s : Ln) : AV.allOne s.cells = true := rfl
@[simp] theorem Ln.at0 (s : Ln) : s.cells[0]? = some (eI s.st) := rfl
@[simp] theorem Ln.get0 (s : Ln) {h : 0 < s.cells.length} : s.cells[0] = eI s.st := rfl
@[simp] theorem Ln.at1 (s : Ln) : s.cells[1]? = some (eI s.w) := rfl
@[simp] theorem Ln.get1 (s : Ln) {h : 1 < s.cells.length} : s.cells[1] = eI s.w := rfl
@[simp] theorem Ln.at2 (s : Ln) : s.cells[2]? = some (eU s.c) := rfl
@[simp] theorem Ln.get2 (s : Ln) {h : 2 < s.cells.length} : s.cells[2] = eU s.c := rfl
@[simp] theorem Ln.take_all (s : Ln) : s.cells.take 3 = s.cells := rfl

/-- Numbers in a slice, or nil. -/
abbrev Sl := Option (List Int)
def Sl.l (s : Sl) : List Int := Option.getD s []
def Sl.av : Sl → AV
  | none => nilS
  | some l => .ro (eIs l)
theorem Sl.isS (s : Sl) : IsS s.av (eIs s.l) := by
  cases s with
  | none => exact IsS.mk_nil
  | some l => exact IsS.mk_ro _
@[simp] theorem Sl.slen (s : Sl) : slen s.av = some s.l.length := by rw [s.isS.len, eIs_len]
@[simp] theorem Sl.one (s : Sl) : s.av.one = true := by cases s <;> rfl
@[simp] theorem Sl.cells1 (s : Sl) : s.av.cells = [s.av] := by cases s <;> rfl

structure Nd where
  kind : Int
  kids : Sl
  sty : Sty
  words : Sl
  blank : Int
  high : Int
def Nd.cells (n : Nd) : List AV := eI n.kind :: n.kids.av :: (n.sty.cells ++ [n.words.av, eI n.blank, eI n.high])
@[simp] theorem Nd.cells_len (n : Nd) : n.cells.length = 34 := rfl
@[simp] theorem Nd.cells_one (n : Nd) : AV.allOne n.cells = true := by
  simp only [Nd.cells, AV.allOne, List.all_cons, List.all_append, Sl.one, List.all_nil, Bool.and_true, Bool.true_and]
  rfl
@[simp] theorem Nd.at0 (n : Nd) : n.cells[0]? = some (eI n.kind) := rfl
@[simp] theorem Nd.get0 (n : Nd) {h : 0 < n.cells.length} : n.cells[0] = eI n.kind := rfl
@[simp] theorem Nd.at1 (n : Nd) : n.cells[1]? = some n.kids.av := rfl
@[simp] theorem Nd.get1 (n : Nd) {h : 1 < n.cells.length} : n.cells[1] = n.kids.av := rfl
@[simp] theorem Nd.take_sty (n : Nd) : (n.cells.drop 2).take 29 = n.sty.cells := rfl
@[simp] theorem Nd.at31 (n : Nd) : n.cells[31]? = some n.words.av := rfl
@[simp] theorem Nd.get31 (n : Nd) {h : 31 < n.cells.length} : n.cells[31] = n.words.av := rfl
@[simp] theorem Nd.at32 (n : Nd) : n.cells[32]? = some (eI n.blank) := rfl
@[simp] theorem Nd.get32 (n : Nd) {h : 32 < n.cells.length} : n.cells[32] = eI n.blank := rfl
@[simp] theorem Nd.at33 (n : Nd) : n.cells[33]? = some (eI n.high) := rfl
@[simp] theorem Nd.get33 (n : Nd) {h : 33 < n.cells.length} : n.cells[33] = eI n.high := rfl
@[simp] theorem Nd.take_all (n : Nd) : n.cells.take 34 = n.cells := rfl

/-- A page. -/
def eN (l : List Nd) : List (List AV) := l.map Nd.cells
theorem eN_len (l : List Nd) : (eN l).length = l.length := by simp [eN]
theorem eN_get {l : List Nd} {i : Nat} {n : Nd} (h : l[i]? = some n) : (eN l)[i]? = some n.cells := by simp [eN, h]

end Go.Proofs.Ytdimikmgkdcglaa
