/- Parts of the proof of CurveChecks: contracts of the functions that it reaches, and the plain laws under them (Fg). Conditions: those that each theorem names. -/
import Derived.Test.YtefaedjjecfabaaGreatRows
import Derived.WalkKit
import Derived.ProofKit
import Derived.ChangeOld
namespace Go.Proofs.YtefaedjjecfabaaGreat.facts
open Go Go.Proofs
open Go.ChangeShapes Go.WideShapes Go.ChangeAt Go.RowKit
set_option maxRecDepth 100000 in
set_option maxHeartbeats 4000000 in
theorem ords : ∃ l : List Char, Tryz.prog.initOrder = String.ofList l ∧ ((behindMainWord (wordsSigns l)).head? == some "cut".toList) = true := ⟨_, rfl, by kernel_rfl⟩
theorem words : ∃ rest, behindMainWord (wordsSigns Tryz.prog.initOrder.toList) = "cut".toList :: rest := by
  obtain ⟨l, h1, h2⟩ := ords
  rw [h1, String.toList_ofList]
  cases h : behindMainWord (wordsSigns l) with
  | nil => rw [h] at h2; cases h2
  | cons c r =>
    rw [h] at h2
    have h3 := beq_iff_eq.1 h2
    exact ⟨r, by rw [Option.some.inj h3]⟩
theorem strip (rest : List (List Char)) : stripLifts liftWords ("cut".toList :: rest) = ([], "cut".toList :: rest) := by kernel_rfl
theorem later : Tryz.prog.laysLater = false := by kernel_rfl
theorem reflect : Tryz.prog.bearsReflect = false := by kernel_rfl
theorem door : Tryz.prog.doorFits [] = true := by kernel_rfl
theorem make_of (P : Program) (r : List (List Char)) (h : behindMainWord (wordsSigns P.initOrder.toList) = "cut".toList :: r) : P.make = some .cut := by
  unfold Program.make
  rw [h]
  kernel_rfl
theorem lifted_of (P : Program) (r : List (List Char)) (h : behindMainWord (wordsSigns P.initOrder.toList) = "cut".toList :: r) : P.liftsFinal = false := by
  unfold Program.liftsFinal Program.headLifts
  rw [h, strip]
  kernel_rfl
theorem may_of (P : Program) (r : List (List Char)) (h : behindMainWord (wordsSigns P.initOrder.toList) = "cut".toList :: r) (h1 : P.laysLater = false) (h2 : P.bearsReflect = false) (h3 : P.doorFits [] = true) : P.mayEnter = true := by
  unfold Program.mayEnter
  rw [h]
  simp only [strip, h1, h2, h3]
  kernel_rfl
theorem make_ok : Tryz.prog.make = some .cut := by
  obtain ⟨r, h⟩ := words
  exact make_of _ r h
theorem lifted_ok : Tryz.prog.liftsFinal = false := by
  obtain ⟨r, h⟩ := words
  exact lifted_of _ r h
theorem may_ok : Tryz.prog.mayEnter = true := by
  obtain ⟨r, h⟩ := words
  exact may_of _ r h later reflect door
theorem laid_ok : laidOutB Tryz.prog = true := by kernel_rfl
theorem rowed_ok : mapsRowed Tryz.prog = true := by kernel_rfl
theorem heard_ok : Tryz.prog.stopsHeard = true := by kernel_rfl
theorem plain_ok : Tryz.prog.plainKeys = false := by kernel_rfl
end Go.Proofs.YtefaedjjecfabaaGreat.facts
