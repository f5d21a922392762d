/- Parts of the proof of CurveChecks: contracts of the functions that it reaches, and the plain laws under them (Pb). Conditions: those that each theorem names. -/
import Derived.Test.YtefaedjjecfabaaGreatProg
import Derived.WalkKit
import Derived.WalkSpells
import Derived.WalkLawsBesides
import Derived.Laws.Externs
import Derived.Laws.FloatArith
import Derived.Test.YtefaedjjecfabaaGreatWIh
namespace Go.Proofs.YtefaedjjecfabaaGreat.Ten
open Go Go.RowKit

/-! ### floats in a walk -/
section
variable {P : Program}

def fop : BinOp → Nat → Nat → Nat
  | .add, a, b => fadd a b
  | .sub, a, b => fsub a b
  | .mul, a, b => fmul a b
  | _, a, b => fdiv a b
/-- the bits that the tape gives a NaN. -/
def vop (op : BinOp) (w : World) (a b : Nat) : Nat := (floatBits op .f64 a b).getD ((Question.nanBits .f64 a b).cut (w.tape w.drawn (.nanBits .f64 a b)))
def nop (op : BinOp) (a b : Nat) : Nat := if (floatBits op .f64 a b).isSome then 0 else 1

theorem run_vop (op : BinOp) (hop : op = .add ∨ op = .sub ∨ op = .mul ∨ op = .quo) (t : TypeId) (a b : Nat) (w : World) :
    (binOp op t (.float .f64 a) (.float .f64 b)).run P w = .ok (.float .f64 (vop op w a b)) (w.drewN (nop op a b)) := by
  cases h : floatBits op .f64 a b with
  | some r =>
    rw [run_float_arith w op t .f64 a b r h]
    simp [vop, nop, h, World.drewN]
  | none =>
    have hn : nop op a b = 1 := by simp [nop, h]
    have hv : vop op w a b = (Question.nanBits .f64 a b).cut (w.tape w.drawn (.nanBits .f64 a b)) := by simp [vop, h]
    rw [hn, hv]
    rcases hop with rfl | rfl | rfl | rfl <;> simp only [floatBits] at h <;> simp [binOp, Op.floatArith, h, choose, Sem.run, Question.forced, World.drewN]
theorem run_fadd (t : TypeId) (a b : Nat) (w : World) : (binOp .add t (.float .f64 a) (.float .f64 b)).run P w = .ok (.float .f64 (vop .add w a b)) (w.drewN (nop .add a b)) := run_vop _ (by simp) t a b w
theorem run_fsub (t : TypeId) (a b : Nat) (w : World) : (binOp .sub t (.float .f64 a) (.float .f64 b)).run P w = .ok (.float .f64 (vop .sub w a b)) (w.drewN (nop .sub a b)) := run_vop _ (by simp) t a b w
theorem run_fmul (t : TypeId) (a b : Nat) (w : World) : (binOp .mul t (.float .f64 a) (.float .f64 b)).run P w = .ok (.float .f64 (vop .mul w a b)) (w.drewN (nop .mul a b)) := run_vop _ (by simp) t a b w
theorem run_fquo (t : TypeId) (a b : Nat) (w : World) : (binOp .quo t (.float .f64 a) (.float .f64 b)).run P w = .ok (.float .f64 (vop .quo w a b)) (w.drewN (nop .quo a b)) := run_vop _ (by simp) t a b w
end
end Go.Proofs.YtefaedjjecfabaaGreat.Ten
