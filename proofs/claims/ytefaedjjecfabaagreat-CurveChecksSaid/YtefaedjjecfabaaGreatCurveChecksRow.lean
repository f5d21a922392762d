/- For every curve and every day, the law CurveChecks returns true and its arguments read behind the call as they read before. Conditions: none beyond the given row. -/
import Derived.Test.YtefaedjjecfabaaGreatRows
import Derived.WalkKit
import Derived.ProofKit
import Derived.OpenShut
import Derived.ShutString
import Derived.ChangeOld
import Derived.Below
import Derived.SizedLaws
import Derived.Test.YtefaedjjecfabaaGreatWAm
import Derived.Test.YtefaedjjecfabaaGreatWDj
import Derived.Test.YtefaedjjecfabaaGreatWFg
namespace Go.Proofs.YtefaedjjecfabaaGreat.curveChecks
open Go Go.Proofs Go.Proofs.YtefaedjjecfabaaGreat.Ten
open Go.ChangeShapes Go.WideShapes Go.ChangeAt Go.RowKit
open Go.ChangeMaps (open_string shut_string)
set_option linter.unusedVariables false
theorem own : ownKnob Tryz.prog.godebug = none := by kernel_rfl
theorem laidOut : laidOutB Tryz.prog = true := by kernel_rfl
set_option maxRecDepth 100000 in
theorem lifted (os : Os) (started : os.Started) (H : Type) (enc : TypeId × Value → H) :
    ReturnsInHanded {} Tryz.checked os 7 .any (Rows.curveChecksSpec.pre6 enc Tryz.prog Tryz.f7 Rows.curveChecksRow.domain false) (Rows.curveChecksSpec.post enc Tryz.prog Tryz.f7 false true false false) := by
  refine returnsInHanded_of_change_sized (C := Tryz.checked) own started (by kernel_rfl) Tryz.func7
    (ChangeSpec.witness6 (enc := enc) (C := Tryz.checked) false ⟨#[], #[.agg #[.int .i64 0, .int .i64 0, .slice none 0 0, .slice none 0 0], .int .i64 0], []⟩ 8 (by kernel_rfl) (by kernel_rfl) (by kernel_rfl) (by kernel_rfl)) ?_
  intro W base args ds gs before hval0 hW hcnd hsz0 _
  have hsz : (DataW.weightsEach Tryz.prog (Tryz.f7.params.toList ++ Rows.curveChecksSpec.plain.varTypes Tryz.prog) (ds ++ gs)).all (· ≤ reachBytes) = true := hsz0
  have hval : ∀ (j : Nat) t v, Tryz.f7.params[j]? = some t → args[j]? = some v → Value.okWide Tryz.prog W .any base t v := hval0
  have hW' := hW
  obtain ⟨p, q, hA0, hV, rfl, hfz, hnd⟩ := hW
  have hA : DataW.TrodAll enc Tryz.prog W 0 (fun _ => true) true Tryz.f7.params.toList args.toList ds p := hA0
  rw [Tryz.params7] at hA hval hsz
  obtain ⟨v0, vs0, d0, ds0, p0, q0, hargs, rfl, rfl, h0, r0⟩ := trodAll_cons hA
  obtain ⟨v1, vs1, d1, ds1, p1, q1, rfl, rfl, rfl, h1, r1⟩ := trodAll_cons r0
  obtain ⟨rfl, rfl, rfl⟩ := trodAll_nil r1
  obtain rfl : args = #[v0, v1] := by cases args; simp_all
  obtain ⟨rfl, rfl⟩ := trodVars_none hV
  have k0 := h0
  have lt0 : ∀ x ∈ p0, x.block < W.heap.size := by obtain ⟨m, hm⟩ := k0; exact DataW.trod_lt m _ _ _ hm
  obtain ⟨b0, kd0, A0, n0, c0, F0, m0, e0, l0, fl0, rfl, nc0, cm0, mc0, em0, I0⟩ := crv_open (hval 0 25 v0 rfl rfl) h0
  obtain ⟨a1, rfl, rfl, rfl, w1⟩ := open_int Tryz.underlying3 (hval 1 3 v1 rfl rfl) h1
  have x1 := wf_i64 w1
  clear hA0 hval0 hsz0
  refine (curvechecks_any c0 e0 a1 W I0).mono fun e W' ⟨he, bel⟩ => ?_
  subst he
  exact ⟨_, rfl, _, _, _, [], _, [], hW', trodAll_mk1 (shut_bool Tryz.underlying4 _), (trodAll_cons_mk (Below.trod laidOut (by kernel_rfl) (of_decide_eq_true (by kernel_rfl)) k0 bel lt0) (trodAll_cons_mk (shut_int Tryz.underlying3 w1) trodAll_mk0)), rfl, bel.frame _, fun h => by cases h⟩
set_option maxHeartbeats 4000000 in
set_option maxRecDepth 100000 in
theorem closed : joinedFacts Tryz.prog 7 Tryz.f7 Rows.curveChecksSpec Rows.curveChecksRow = true := by
  unfold joinedFacts
  rw [facts.laid_ok, facts.rowed_ok, facts.heard_ok, facts.may_ok, facts.lifted_ok, facts.make_ok, facts.plain_ok]
  simp only [Bool.and_eq_true]
  repeat' (with_reducible apply And.intro)
  all_goals first | exact True.intro | (as_aux_lemma => kernel_rfl)
theorem named : Tryz.prog.funcNamed Rows.curveChecksRow.func = some 7 := by kernel_rfl
theorem inst : Tryz.f7.isInstance Tryz.prog Rows.curveChecksRow.origin Rows.curveChecksRow.targs := of_decide_eq_true (by kernel_rfl)
theorem wrap : Tryz.f7.isWrapper Tryz.prog Rows.curveChecksRow.wrapper Rows.curveChecksRow.mainSum := by
  unfold Func.isWrapper
  first | (rw [if_pos (by decide +kernel)]; kernel_rfl) | (rw [if_neg (by decide +kernel)]; exact ⟨rfl, rfl⟩)
theorem over : Rows.curveChecksRow.holds Tryz.pinned (OpenSpec.ofChange Rows.curveChecksSpec) :=
  OpenClaim.holds_of_wide 7 Tryz.f7 rfl rfl rfl rfl rfl rfl rfl ⟨rfl, rfl, rfl, rfl, rfl⟩ rfl rfl rfl rfl rfl named Tryz.func7 closed inst wrap
    (fun os started H enc _ => lifted os started H enc)
theorem proved : Rows.CurveChecksSaid := over
end Go.Proofs.YtefaedjjecfabaaGreat.curveChecks
namespace Go.Proofs.YtefaedjjecfabaaGreat
/-- The row, under a short name, for the claim. -/
theorem curveChecks_holds : Rows.CurveChecksSaid := curveChecks.proved
end Go.Proofs.YtefaedjjecfabaaGreat
