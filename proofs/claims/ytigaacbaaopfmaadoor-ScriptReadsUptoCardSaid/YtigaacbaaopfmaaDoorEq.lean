/- Are two answers alike: as one Bool. -/
import Derived.Test.YtigaacbaaopfmaaDoorTd
import Derived.Laws.StructEq
namespace Go.Proofs.YtigaacbaaopfmaaDoor.sh
open Go.RowKit
set_option linter.unusedVariables false
def beqA (a b : Ans) : Bool := a.op == b.op && (a.err == b.err && (a.n == b.n && (a.off == b.off && (a.yes == b.yes && (a.key == b.key && (a.elem == b.elem && true))))))
theorem eqi {d t : Nat} {k : IntKind} (x y : Int) (W : World) (ht : Tryd.prog.underlying t = some (.int k)) : (Op.equalIn (d + 1) t (.int k x) (.int k y)).run Tryd.prog W = .ok (x == y) W := by
  simp [Op.equalIn, run_underlying ht]
theorem eqb {d t : Nat} (x y : Bool) (W : World) (ht : Tryd.prog.underlying t = some .bool) : (Op.equalIn (d + 1) t (.bool x) (.bool y)).run Tryd.prog W = .ok (x == y) W := by
  simp [Op.equalIn, run_underlying ht]
theorem eqs {d t : Nat} (x y : ByteArray) (W : World) (ht : Tryd.prog.underlying t = some .string) : (Op.equalIn (d + 1) t (.string x) (.string y)).run Tryd.prog W = .ok (x == y) W := by
  simp [Op.equalIn, run_underlying ht]
theorem eqf1 {d : Nat} {xs ys : Array Value} {f : Field} {fs : List Field} {a b : Value} {r s : Bool} {w : World} (hn : f.name ≠ "_") (ha : (part f.type xs f.offset).run Tryd.prog w = .ok a w) (hb : (part f.type ys f.offset).run Tryd.prog w = .ok b w) (he : (Op.equalIn d f.type a b).run Tryd.prog w = .ok r w) (hr : (Op.eqFields d xs ys fs).run Tryd.prog w = .ok s w) :
    (Op.eqFields d xs ys (f :: fs)).run Tryd.prog w = .ok (r && s) w := by
  rw [Op.eqFields]
  simp only [if_pos hn, Sem.run_bind, ha, hb, he, Result.andThen_ok]
  cases r
  · simp
  · simpa using hr
theorem eqf0 {d : Nat} {xs ys : Array Value} {w : World} : (Op.eqFields d xs ys []).run Tryd.prog w = .ok true w := by simp [Op.eqFields]
theorem fields24 : Tryd.prog.underlying 24 = some (.struct (Tryd.prog.fieldsOf 24)) := by kernel_rfl
theorem held24 : Tryd.prog.stoodInHeld 24 = false := by kernel_rfl
theorem eqIn24 (a b : Ans) (d : Nat) (W : World) : (Op.equalIn (d + 2) 24 a.v b.v).run Tryd.prog W = .ok (beqA a b) W := by
  rw [Ans.v, Ans.v, run_equalIn_struct W (d + 1) 24 _ _ fields24 held24]
  simp only [Program.fieldsOf, Tryd.underlying24]
  refine eqf1 (by decide) ?_ ?_ (eqi (k := .i64) a.op b.op W Tryd.underlying3) (eqf1 (by decide) ?_ ?_ (eqi (k := .i64) a.err b.err W Tryd.underlying22) (eqf1 (by decide) ?_ ?_ (eqi (k := .i64) a.n b.n W Tryd.underlying3)
    (eqf1 (by decide) ?_ ?_ (eqi (k := .i64) a.off b.off W Tryd.underlying3) (eqf1 (by decide) ?_ ?_ (eqb a.yes b.yes W Tryd.underlying4) (eqf1 (by decide) ?_ ?_ (eqs a.key b.key W Tryd.underlying9) (eqf1 (by decide) ?_ ?_ (eqs a.elem b.elem W Tryd.underlying9) eqf0))))))
  all_goals simp [part, go_sem]
theorem eq24 (a b : Ans) (W : World) : (binOp .eql 24 a.v b.v).run Tryd.prog W = .ok (.bool (beqA a b)) W := by
  simp only [binOp]
  simp [Op.equal, Op.maxDepth, eqIn24 a b 9998 W]
theorem neq24 (a b : Ans) (W : World) : (binOp .neq 24 a.v b.v).run Tryd.prog W = .ok (.bool (!beqA a b)) W := by
  simp only [binOp]
  simp [Op.equal, Op.maxDepth, eqIn24 a b 9998 W]
theorem bytes_beq (x y : ByteArray) : (x == y) = true ↔ x = y := by
  rw [beq_toListBytes, beq_iff_eq, ByteArray.toList_eq, ByteArray.toList_eq]
  constructor
  · intro h
    exact ByteArray.ext (Array.toList_inj.1 h)
  · intro h; rw [h]
theorem beqA_iff (a b : Ans) : beqA a b = true ↔ a = b := by
  obtain ⟨a0, a1, a2, a3, a4, a5, a6⟩ := a
  obtain ⟨b0, b1, b2, b3, b4, b5, b6⟩ := b
  simp [beqA, bytes_beq]
end Go.Proofs.YtigaacbaaopfmaaDoor.sh
