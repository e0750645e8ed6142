/- Structs and arrays compared. No conditions. -/
import Derived.Test.YtdimikmgkdcglaaC6
import Derived.ChangeKeysEq
set_option linter.unusedVariables false
set_option linter.unusedSimpArgs false
namespace Go.Proofs.Ytdimikmgkdcglaa
open Go.RowKit

def eqF (d : Nat) (xs ys : Array Value) : List (Bool × Nat × Nat) → Sem Bool
  | [] => pure true
  | (b, t, o) :: r =>
    if b = true then do
      let a ← part t xs o
      let a' ← part t ys o
      let q ← Op.equalIn d t a a'
      if (!q) = true then pure false else eqF d xs ys r
    else eqF d xs ys r
theorem eqFields_map (d : Nat) (xs ys : Array Value) : ∀ fs : List Field, Op.eqFields d xs ys fs = eqF d xs ys (fs.map fun f => (f.name != "_", f.type, f.offset))
  | [] => rfl
  | f :: fs => by
    simp only [Op.eqFields, List.map_cons, eqF, eqFields_map d xs ys fs, bne_iff_ne, ne_eq]
theorem eqStruct {w : World} {t : TypeId} {d : Nat} {xs ys : Array Value} {L : List (Bool × Nat × Nat)} (ht : Try.prog.underlying t = some (.struct (Try.prog.fieldsOf t))) (hp : Try.prog.stoodInHeld t = false)
    (hL : ((Try.prog.fieldsOf t).toList.map fun f => (f.name != "_", f.type, f.offset)) = L) : (Op.equalIn (d + 1) t (.agg xs) (.agg ys)).run Try.prog w = (eqF d xs ys L).run Try.prog w := by
  rw [run_equalIn_struct w d t xs ys ht hp, eqFields_map, hL]
section
variable {w : World} {d : Nat}
theorem eq3 (a b : Int) : (Op.equalIn (d + 1) 3 (.int .i64 a) (.int .i64 b)).run Try.prog w = .ok (decide (a = b)) w := run_equalIn_int w d 3 .i64 .i64 a b (by kernel_rfl)
theorem eq2 (a b : Int) : (Op.equalIn (d + 1) 2 (.int .i64 a) (.int .i64 b)).run Try.prog w = .ok (decide (a = b)) w := run_equalIn_int w d 2 .i64 .i64 a b (by kernel_rfl)
theorem eq28 (a b : Int) : (Op.equalIn (d + 1) 28 (.int .u32 a) (.int .u32 b)).run Try.prog w = .ok (decide (a = b)) w := run_equalIn_int w d 28 .u32 .u32 a b (by kernel_rfl)
theorem eq4 (a b : Bool) : (Op.equalIn (d + 1) 4 (.bool a) (.bool b)).run Try.prog w = .ok (decide (a = b)) w := by
  rw [run_equalIn_bool w d 4 a b (by kernel_rfl)]; cases a <;> cases b <;> rfl
theorem prt (t : TypeId) {g : Bool} {k : Nat} (xs : Array Value) (off : Nat) (hg : tagg Try.prog t = some g) (hk : tsz Try.prog t = some k) :
    (part t xs off).run Try.prog w = if g = true then .ok (.agg (xs.extract off (off + k))) w else match xs[off]? with | some v => .ok v w | none => (stuck "part: no such cell" : Sem Value).run Try.prog w := by
  unfold part
  rw [Sem.run_bind, run_isAgg hg]
  simp only [Result.andThen_ok]
  cases g
  · simp only [Bool.false_eq_true, if_false]
    generalize xs[off]? = q
    cases q <;> simp only [Sem.run_pure]
  · simp only [if_true, Sem.run_bind, run_sizeOf' hk, Result.andThen_ok, Sem.run_pure]
theorem cellsOf_tsz {t k : Nat} (hk : tsz Try.prog t = some k) : Try.prog.cellsOf t = k := by
  generalize Try.prog = P at hk ⊢
  unfold tsz at hk
  unfold Program.cellsOf
  rw [hk]; rfl
theorem eqArr {t e n k : Nat} (xs ys : Array Value) (hu : Try.prog.underlying t = some (.array n e)) (hk : tsz Try.prog e = some k) :
    (Op.equalIn (d + 1) t (.agg xs) (.agg ys)).run Try.prog w = (Op.eqItems d e k xs ys (List.range n)).run Try.prog w := by
  obtain ⟨i, hi⟩ : ∃ i, Try.prog.info? e = some i := by
    generalize Try.prog = P at hk ⊢
    unfold tsz at hk
    cases hi : P.info? e with
    | none => rw [hi] at hk; cases hk
    | some i => exact ⟨i, rfl⟩
  rw [run_equalIn_array w d xs ys hu hi, cellsOf_tsz hk]

def Sz.vals (s : Sz) : List Value := [.int .i64 s.kind, .int .i64 s.n]
def Ln.vals (s : Ln) : List Value := [.int .i64 s.st, .int .i64 s.w, .int .u32 s.c]
def Sty.vals (s : Sty) : List Value :=
  [.int .i64 s.width.kind, .int .i64 s.width.n, .int .i64 s.height.kind, .int .i64 s.height.n, .int .i64 (s.p 0), .int .i64 (s.p 1), .int .i64 (s.p 2), .int .i64 (s.p 3),
   .int .i64 (s.b 0).st, .int .i64 (s.b 0).w, .int .u32 (s.b 0).c, .int .i64 (s.b 1).st, .int .i64 (s.b 1).w, .int .u32 (s.b 1).c, .int .i64 (s.b 2).st, .int .i64 (s.b 2).w, .int .u32 (s.b 2).c, .int .i64 (s.b 3).st, .int .i64 (s.b 3).w, .int .u32 (s.b 3).c,
   .int .i64 s.colSpan, .int .i64 s.rowSpan, .int .i64 s.align, .bool s.fix, .bool s.collapse, .int .i64 s.sp0, .int .i64 s.sp1, .bool s.hide, .bool s.below]
theorem eq26 (s t : Sz) : (Op.equalIn (d + 1 + 1) 26 (.agg s.vals.toArray) (.agg t.vals.toArray)).run Try.prog w = .ok (decide (s = t)) w := by
  rw [eqStruct (L := [(true, 3, 0), (true, 2, 1)]) (by kernel_rfl) (by kernel_rfl) (by kernel_rfl)]
  obtain ⟨a, b⟩ := s
  obtain ⟨a', b'⟩ := t
  by_cases h : a = a' <;> by_cases h2 : b = b' <;> simp [eqF, Sem.run_bind, prt 3 _ _ tagg_3 tsz_3, prt 2 _ _ tagg_2 tsz_2, Sz.vals, eq3, eq2, h, h2]
theorem eq30 (s t : Ln) : (Op.equalIn (d + 1 + 1) 30 (.agg s.vals.toArray) (.agg t.vals.toArray)).run Try.prog w = .ok (decide (s = t)) w := by
  rw [eqStruct (L := [(true, 3, 0), (true, 2, 1), (true, 28, 2)]) (by kernel_rfl) (by kernel_rfl) (by kernel_rfl)]
  obtain ⟨a, b, c⟩ := s
  obtain ⟨a', b', c'⟩ := t
  by_cases h : a = a' <;> by_cases h2 : b = b' <;> by_cases h3 : c = c' <;> simp [eqF, Sem.run_bind, prt 3 _ _ tagg_3 tsz_3, prt 2 _ _ tagg_2 tsz_2, prt 28 _ _ tagg_28 tsz_28, Ln.vals, eq3, eq2, eq28, h, h2, h3]
end

end Go.Proofs.Ytdimikmgkdcglaa
