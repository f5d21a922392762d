/- Parts of the proof of CurveChecks: contracts of the functions that it reaches, and the plain laws under them (Pi Pj Pl Fo). Conditions: those that each theorem names. -/
import Derived.Outline
import Derived.Deep.QuietTactic
import Derived.BigQuiet
import Derived.KernelRfl
import Derived.Laws.Bits64
import Derived.Laws.BitsAllLaws
import Derived.Laws.BitsLemmas
import Derived.Test.YtefaedjjecfabaaGreatWPb
namespace Go.Proofs.YtefaedjjecfabaaGreat.Ten
open Go Go.RowKit

theorem ext113 (b : Nat) (w : World) : (callFunc 113 #[.float .f64 b]).run Tryz.prog w = .ok (.value (.int .u64 b)) w := by kernel_rfl
theorem ext252 (n : Int) (w : World) : (callFunc 252 #[.int .u64 n]).run Tryz.prog w = .ok (.value (.float .f64 n.toNat)) w := by kernel_rfl
attribute [local go_sem] ext113 ext252

theorem andNot_top (b : Nat) (h : b < 18446744073709551616) : bits .andNot .u64 (b : Int) 9223372036854775808 = (rung b : Int) := by
  show IntKind.u64.wrap ((BitVec.ofInt 64 (b : Int) &&& ~~~ BitVec.ofInt 64 9223372036854775808).toNat : Int) = _
  have e1 : (BitVec.ofInt 64 (b : Int) &&& ~~~ BitVec.ofInt 64 9223372036854775808) = BitVec.ofNat 64 b &&& 0x7fffffffffffffff#64 := by
    rw [BitVec.ofInt_natCast]; rfl
  rw [e1]
  have e2 : (BitVec.ofNat 64 b &&& 0x7fffffffffffffff#64).toNat = b % 9223372036854775808 := by
    rw [BitVec.toNat_and, BitVec.toNat_ofNat, Nat.mod_eq_of_lt (by omega)]
    exact Nat.and_two_pow_sub_one_eq_mod b 63
  rw [e2, IntKind.wrap_u64]
  unfold rung
  omega

theorem int_eq {k : IntKind} {a b : Int} (h : a = b) : Ending.returned (.int k a) = .returned (.int k b) := by rw [h]

set_option maxRecDepth 100000 in
set_option maxHeartbeats 400000 in
theorem size_any (b : Nat) (w : World) (h : b < 18446744073709551616) : Calls Tryz.prog 206 #[.float .f64 b] w fun e w' => e = .returned (.int .u64 (rung b)) ∧ w = w' := by
  go_enter Tryz.func206, Tryz.ntmps206
  go_wp2
  go_ret
  exact ⟨int_eq (andNot_top b h), rfl⟩


@[irreducible] def rungI (b : Nat) : Int := rung b
theorem rungI_eq (b : Nat) : rungI b = rung b := by unfold rungI; rfl
theorem sizeI (b : Nat) (w : World) (h : b < 18446744073709551616) : Calls Tryz.prog 206 #[.float .f64 b] w fun e w' => e = .returned (.int .u64 (rungI b)) ∧ w = w' := by
  rw [rungI_eq]; exact size_any b w h

/-- ieee.Class. -/
@[irreducible] def cls (b : Nat) : Int := if rungI b = 0 then 1 else if rungI b < 4503599627370496 then 2 else if rungI b < 9218868437227405312 then 3 else if rungI b = 9218868437227405312 then 4 else 5

set_option maxRecDepth 100000 in
set_option maxHeartbeats 400000 in
theorem class_any (b : Nat) (w : World) (h : b < 18446744073709551616) : Calls Tryz.prog 107 #[.float .f64 b] w fun e w' => e = .returned (.int .i64 (cls b)) ∧ w = w' := by
  have h0 : 0 ≤ rungI b := by rw [rungI_eq]; omega
  go_enter Tryz.func107, Tryz.ntmps107
  go_wp2_with (go_at_call 206; refine (sizeI b _ h).mono ?_; rintro e w' ⟨rfl, rfl⟩)
  all_goals go_ret
  all_goals refine ⟨int_eq ?_, rfl⟩
  all_goals unfold cls
  all_goals simp only [beq_iff_eq, beq_eq_false_iff_ne] at *
  all_goals simp [*] <;> omega
end Go.Proofs.YtefaedjjecfabaaGreat.Ten

namespace Go.Proofs.YtefaedjjecfabaaGreat.Ten
open Go Go.RowKit
attribute [local go_sem] ext113 ext252

theorem cls_cases (b : Nat) : (rungI b = 0 ∧ cls b = 1) ∨ (0 < rungI b ∧ rungI b < 4503599627370496 ∧ cls b = 2) ∨ (4503599627370496 ≤ rungI b ∧ rungI b < 9218868437227405312 ∧ cls b = 3) ∨ (rungI b = 9218868437227405312 ∧ cls b = 4) ∨ (9218868437227405312 < rungI b ∧ cls b = 5) := by
  have h0 : 0 ≤ rungI b := by rw [rungI_eq]; omega
  unfold cls
  split
  · omega
  · split
    · omega
    · split
      · omega
      · split <;> omega
theorem cls_range (b : Nat) : 1 ≤ cls b ∧ cls b ≤ 5 := by rcases cls_cases b with h | h | h | h | h <;> omega
theorem cls_nan (b : Nat) : cls b = 5 ↔ isN b = true := by
  unfold isN; rw [decide_eq_true_iff]
  rcases cls_cases b with h | h | h | h | h <;> rw [rungI_eq] at h <;> omega
theorem cls_fin (b : Nat) : cls b < 4 ↔ fin b = true := by
  unfold fin; rw [decide_eq_true_iff]
  rcases cls_cases b with h | h | h | h | h <;> rw [rungI_eq] at h <;> omega

set_option maxRecDepth 100000 in
set_option maxHeartbeats 400000 in
theorem bits_any (b : Nat) (w : World) : Calls Tryz.prog 35 #[.float .f64 b] w fun e w' => e = .returned (.int .u64 b) ∧ w = w' := by
  go_enter Tryz.func35, Tryz.ntmps35
  go_wp2
  go_ret
  exact ⟨rfl, rfl⟩

set_option maxRecDepth 100000 in
set_option maxHeartbeats 400000 in
theorem float_any (n : Int) (w : World) : Calls Tryz.prog 351 #[.int .u64 n] w fun e w' => e = .returned (.float .f64 n.toNat) ∧ w = w' := by
  go_enter Tryz.func351, Tryz.ntmps351
  go_wp2
  go_ret
  exact ⟨rfl, rfl⟩

theorem bool_eq {a b : Bool} (h : a = b) : Ending.returned (.bool a) = .returned (.bool b) := by rw [h]
theorem float_eq {a b : Nat} {k : FloatKind} (h : a = b) : Ending.returned (.float k a) = .returned (.float k b) := by rw [h]
theorem ib_eq {k : IntKind} {a b : Int} {c d : Bool} (h : a = b) (h2 : c = d) : Ending.returned (.tuple #[.int k a, .bool c]) = .returned (.tuple #[.int k b, .bool d]) := by rw [h, h2]
theorem ii_eq {k l : IntKind} {a b : Int} {c d : Int} (h : a = b) (h2 : c = d) : Ending.returned (.tuple #[.int k a, .int l c]) = .returned (.tuple #[.int k b, .int l d]) := by rw [h, h2]
theorem fb_eq {k : FloatKind} {a b : Nat} {c d : Bool} (h : a = b) (h2 : c = d) : Ending.returned (.tuple #[.float k a, .bool c]) = .returned (.tuple #[.float k b, .bool d]) := by rw [h, h2]
theorem fi_eq {k : FloatKind} {l : IntKind} {a b : Nat} {c d : Int} (h : a = b) (h2 : c = d) : Ending.returned (.tuple #[.float k a, .int l c]) = .returned (.tuple #[.float k b, .int l d]) := by rw [h, h2]
theorem iib_eq {k l : IntKind} {a b x y : Int} {c d : Bool} (h : a = b) (h1 : x = y) (h2 : c = d) : Ending.returned (.tuple #[.int k a, .int l x, .bool c]) = .returned (.tuple #[.int k b, .int l y, .bool d]) := by rw [h, h1, h2]

@[irreducible] def negv (b : Nat) : Bool := !isN b && sgn b
theorem sgn_div (b : Nat) (h : b < 18446744073709551616) : ((b : Int) / 9223372036854775808 == 1) = sgn b := by
  unfold sgn
  rw [Bool.eq_iff_iff, beq_iff_eq, beq_iff_eq]; omega

set_option maxRecDepth 100000 in
set_option maxHeartbeats 400000 in
theorem neg_any (b : Nat) (w : World) (h : b < 18446744073709551616) : Calls Tryz.prog 323 #[.float .f64 b] w fun e w' => e = .returned (.bool (negv b)) ∧ w = w' := by
  go_enter Tryz.func323, Tryz.ntmps323
  go_wp2_with (first | (go_at_call 107; refine (class_any b _ h).mono ?_; rintro e w' ⟨rfl, rfl⟩) | (go_at_call 35; refine (bits_any b _).mono ?_; rintro e w' ⟨rfl, rfl⟩))
  all_goals go_ret
  · have hc : cls b = 5 := by assumption
    refine ⟨bool_eq ?_, rfl⟩
    have := (cls_nan b).1 hc
    unfold negv; rw [this]; rfl
  · have hc : ¬ cls b = 5 := by assumption
    refine ⟨bool_eq (?_ : (cls b != 5 && (b : Int) / 9223372036854775808 == 1) = _), rfl⟩
    have h2 : isN b = false := by
      have := cls_nan b
      cases h3 : isN b
      · rfl
      · exact absurd (this.2 h3) hc
    unfold negv; rw [h2, sgn_div b h]
    simp [hc]

@[irreducible] def rkv (b : Nat) : Int := if isN b then 0 else rk b
@[irreducible] def nnan (b : Nat) : Bool := !isN b


theorem nnan_t (b : Nat) (h : (cls b == 5) = true) : isN b = true := (cls_nan b).1 (beq_iff_eq.1 h)
theorem nnan_f (b : Nat) (h : (cls b == 5) = false) : isN b = false := by
  cases h3 : isN b
  · rfl
  · exact absurd ((cls_nan b).2 h3) (beq_eq_false_iff_ne.1 h)

set_option maxRecDepth 100000 in
set_option maxHeartbeats 400000 in
theorem rank_any (b : Nat) (w : World) (h : b < 18446744073709551616) : Calls Tryz.prog 251 #[.float .f64 b] w fun e w' => e = .returned (.tuple #[.int .i64 (rkv b), .bool (nnan b)]) ∧ w = w' := by
  have h0 : 0 ≤ rungI b ∧ rungI b < 9223372036854775808 := by rw [rungI_eq]; unfold rung; omega
  obtain ⟨h1, h2⟩ := h0
  go_enter Tryz.func251, Tryz.ntmps251
  go_wp2_with (first | (go_at_call 107; refine (class_any b _ h).mono ?_; rintro e w' ⟨rfl, rfl⟩) | (go_at_call 323; refine (neg_any b _ h).mono ?_; rintro e w' ⟨rfl, rfl⟩) | (go_at_call 206; refine (sizeI b _ h).mono ?_; rintro e w' ⟨rfl, rfl⟩))
  all_goals go_ret2
  · have hc := nnan_t b (by assumption)
    exact ⟨ib_eq (by unfold rkv; rw [hc]; rfl) (by unfold nnan; rw [hc]; rfl), rfl⟩
  · have hc := nnan_f b (by assumption)
    have hn : negv b = true := by assumption
    refine ⟨ib_eq (?_ : -rungI b = _) (by unfold nnan; rw [hc]; rfl), rfl⟩
    unfold negv at hn
    rw [hc] at hn
    have hs : sgn b = true := by simpa using hn
    unfold rkv rk; rw [hc, hs, rungI_eq]; rfl
  · have hc := nnan_f b (by assumption)
    have hn : negv b = false := by assumption
    refine ⟨ib_eq (?_ : rungI b = _) (by unfold nnan; rw [hc]; rfl), rfl⟩
    unfold negv at hn
    rw [hc] at hn
    have hs : sgn b = false := by simpa using hn
    unfold rkv rk; rw [hc, hs, rungI_eq]; rfl

@[irreducible] def atok (n : Int) : Bool := decide (-9218868437227405312 ≤ n ∧ n ≤ 9218868437227405312)
@[irreducible] def atv (n : Int) : Nat := if -9218868437227405312 ≤ n ∧ n ≤ 9218868437227405312 then wd (decide (n < 0)) n.natAbs else 0

theorem or_top (n : Nat) (h : n < 9223372036854775808) : bits .or .u64 (n : Int) 9223372036854775808 = ((9223372036854775808 + n : Nat) : Int) := by
  have := u64_or (n : Int) 9223372036854775808 (by omega) (by omega) (by omega) (by omega)
  rw [this]
  congr 1
  show n ||| 2 ^ 63 = _
  rw [Nat.or_comm]
  have := Nat.two_pow_add_eq_or_of_lt (i := 63) (b := n) (by simpa using h) 1
  rw [Nat.mul_one] at this
  rw [← this]


theorem atok_no (n : Int) (h : n < -9218868437227405312 ∨ 9218868437227405312 < n) : atok n = false ∧ atv n = 0 := by
  unfold atok atv
  rw [if_neg (by omega)]; exact ⟨decide_eq_false (by omega), rfl⟩
theorem atok_yes (n : Int) (h : -9218868437227405312 ≤ n ∧ n ≤ 9218868437227405312) : atok n = true ∧ atv n = wd (decide (n < 0)) n.natAbs := by
  unfold atok atv
  rw [if_pos h]; exact ⟨decide_eq_true h, rfl⟩

set_option maxRecDepth 100000 in
set_option maxHeartbeats 400000 in
theorem at_any (n : Int) (w : World) (h1 : -9223372036854775807 ≤ n) (h2 : n ≤ 9223372036854775807) : Calls Tryz.prog 267 #[.int .i64 n] w fun e w' => e = .returned (.tuple #[.float .f64 (atv n), .bool (atok n)]) ∧ w = w' := by
  go_enter Tryz.func267, Tryz.ntmps267
  go_wp2_with (first | (go_at_call 351; refine (float_any _ _).mono ?_; rintro e w' ⟨rfl, rfl⟩))
  all_goals go_ret2
  · have hc : n < -9218868437227405312 ∨ 9218868437227405312 < n := by assumption
    exact ⟨fb_eq (atok_no n hc).2.symm (atok_no n hc).1.symm, rfl⟩
  · have hc : -9218868437227405312 ≤ n ∧ n ≤ 9218868437227405312 := by assumption
    have hn : n < 0 := by assumption
    refine ⟨fb_eq (?_ : (bits BinOp.or IntKind.u64 (-n) 9223372036854775808).toNat = _) (atok_yes n hc).1.symm, rfl⟩
    obtain ⟨m, rfl⟩ : ∃ m : Nat, n = -(m : Int) := ⟨n.natAbs, by omega⟩
    rw [Int.neg_neg, or_top m (by omega), (atok_yes _ hc).2, decide_eq_true hn]
    unfold wd; rw [if_pos rfl]; omega
  · have hc : -9218868437227405312 ≤ n ∧ n ≤ 9218868437227405312 := by assumption
    have hn : 0 ≤ n := by assumption
    refine ⟨fb_eq (?_ : n.toNat = _) (atok_yes n hc).1.symm, rfl⟩
    rw [(atok_yes _ hc).2, decide_eq_false (by omega)]
    unfold wd; simp; omega
  · have hc : n < -9218868437227405312 := by assumption
    exact ⟨fb_eq (atok_no n (.inl hc)).2.symm (atok_no n (.inl hc)).1.symm, rfl⟩

theorem rkv_bd (b : Nat) : -9223372036854775807 ≤ rkv b ∧ rkv b ≤ 9223372036854775807 := by
  unfold rkv rk rung
  split
  · omega
  · split <;> omega
theorem rkv_fin (b : Nat) : -9218868437227405312 ≤ rkv b ∧ rkv b ≤ 9218868437227405312 := by
  unfold rkv
  by_cases h : isN b = true
  · rw [if_pos h]; omega
  · rw [if_neg h]
    have : isN b = false := by simpa using h
    unfold isN at this
    have := of_decide_eq_false this
    unfold rk; split <;> omega

/-- ieee.step. -/
@[irreducible] def stepv (b : Nat) (by_ : Int) : Nat := if isN b then b else if atok (rkv b + by_) then atv (rkv b + by_) else b


theorem nnan_iff (b : Nat) : nnan b = !isN b := by unfold nnan; rfl

set_option maxRecDepth 100000 in
set_option maxHeartbeats 400000 in
theorem step_any (b : Nat) (d : Int) (w : World) (h : b < 18446744073709551616) (h1 : -1 ≤ d) (h2 : d ≤ 1) : Calls Tryz.prog 168 #[.float .f64 b, .int .i64 d] w fun e w' => e = .returned (.float .f64 (stepv b d)) ∧ w = w' := by
  obtain ⟨hb1, hb2⟩ := rkv_fin b
  go_enter Tryz.func168, Tryz.ntmps168
  go_wp2_with (first | (go_at_call 251; refine (rank_any b _ h).mono ?_; rintro e w' ⟨rfl, rfl⟩) | (go_at_call 267; refine (at_any _ _ (by omega) (by omega)).mono ?_; rintro e w' ⟨rfl, rfl⟩))
  all_goals go_ret
  · have hc : (!nnan b) = true := by assumption
    rw [nnan_iff, Bool.not_not] at hc
    exact ⟨float_eq (by unfold stepv; rw [hc]; rfl), rfl⟩
  · have hc : (!nnan b) = false := by assumption
    have ho : (!atok (rkv b + d)) = true := by assumption
    rw [nnan_iff, Bool.not_not] at hc
    have ho : atok (rkv b + d) = false := by simpa using ho
    exact ⟨float_eq (by unfold stepv; rw [hc, ho]; rfl), rfl⟩
  · have hc : (!nnan b) = false := by assumption
    have ho : (!atok (rkv b + d)) = false := by assumption
    rw [nnan_iff, Bool.not_not] at hc
    have ho : atok (rkv b + d) = true := by simpa using ho
    exact ⟨float_eq (by unfold stepv; rw [hc, ho]; rfl), rfl⟩

set_option maxRecDepth 100000 in
set_option maxHeartbeats 400000 in
theorem up_any (b : Nat) (w : World) (h : b < 18446744073709551616) : Calls Tryz.prog 71 #[.float .f64 b] w fun e w' => e = .returned (.float .f64 (stepv b 1)) ∧ w = w' := by
  go_enter Tryz.func71, Tryz.ntmps71
  go_wp2_with (first | (go_at_call 168; refine (step_any b 1 _ h (by omega) (by omega)).mono ?_; rintro e w' ⟨rfl, rfl⟩))
  go_ret
  exact ⟨rfl, rfl⟩

set_option maxRecDepth 100000 in
set_option maxHeartbeats 400000 in
theorem ranks_any (a b : Nat) (w : World) (ha : a < 18446744073709551616) (h : b < 18446744073709551616) : Calls Tryz.prog 336 #[.float .f64 a, .float .f64 b] w fun e w' => e = .returned (.tuple #[.int .i64 (rkv a), .int .i64 (rkv b), .bool (nnan a && nnan b)]) ∧ w = w' := by
  go_enter Tryz.func336, Tryz.ntmps336
  go_wp2_with fail
  refine (rank_any a _ ha).mono ?_; rintro e w' ⟨rfl, rfl⟩
  go_wp2_with fail
  refine (rank_any b _ h).mono ?_; rintro e w' ⟨rfl, rfl⟩
  go_wp2_with fail
  all_goals go_ret3
  · have hc : nnan a = true := by assumption
    exact ⟨by rw [hc]; rfl, rfl⟩
  · have hc : ¬ nnan a = true := by assumption
    have hc : nnan a = false := by simpa using hc
    exact ⟨by rw [hc]; rfl, rfl⟩

theorem xor_and_nat : ∀ (k a b : Nat), a < 2 ^ k → a + b = (a ^^^ b) + 2 * (a &&& b) := by
  intro k
  induction k with
  | zero => intro a b h; have : a = 0 := by omega
            subst this; simp
  | succ k ih =>
    intro a b h
    have h1 := ih (a / 2) (b / 2) (by rw [Nat.pow_succ] at h; omega)
    have e1 : (a ^^^ b) / 2 = a / 2 ^^^ b / 2 := Nat.xor_div_two
    have e2 : (a &&& b) / 2 = a / 2 &&& b / 2 := Nat.and_div_two
    have e3 : (a ^^^ b) % 2 = (a % 2 + b % 2) % 2 := by
      have := Nat.xor_mod_two_pow (a := a) (b := b) (n := 1)
      rw [Nat.pow_one] at this
      rw [this]
      rcases Nat.mod_two_eq_zero_or_one a with h | h <;> rcases Nat.mod_two_eq_zero_or_one b with h2 | h2 <;> rw [h, h2] <;> rfl
    have e4 : (a &&& b) % 2 = (a % 2) * (b % 2) := by
      have := Nat.and_mod_two_pow (a := a) (b := b) (n := 1)
      rw [Nat.pow_one] at this
      rw [this]
      rcases Nat.mod_two_eq_zero_or_one a with h | h <;> rcases Nat.mod_two_eq_zero_or_one b with h2 | h2 <;> rw [h, h2] <;> rfl
    rw [← e1, ← e2] at h1
    generalize a ^^^ b = x at *
    generalize a &&& b = y at *
    rcases Nat.mod_two_eq_zero_or_one a with h5 | h5 <;> rcases Nat.mod_two_eq_zero_or_one b with h6 | h6 <;> rw [h5, h6] at e3 e4 <;> omega

theorem top_bit (x : Nat) (h : x < 2 ^ 64) : x.testBit 63 = decide (9223372036854775808 ≤ x) := by
  rw [Nat.testBit_eq_decide_div_mod_eq]
  apply decide_eq_decide.2
  omega

/-- a & b + (a ^ b) >> 1 is the middle. -/
theorem mid_bits (a b : Int) (ha : -9223372036854775808 ≤ a) (ha' : a ≤ 9223372036854775807) (hb : -9223372036854775808 ≤ b) (hb' : b ≤ 9223372036854775807) :
    bits .and .i64 a b + bits .xor .i64 a b / 2 = (a + b) / 2 := by
  obtain ⟨A, hA, hA2⟩ : ∃ A : Nat, BitVec.ofInt 64 a = BitVec.ofNat 64 A ∧ A < 2 ^ 64 ∧ (a = A ∧ A < 9223372036854775808 ∨ a = A - 18446744073709551616 ∧ 9223372036854775808 ≤ A) := by
    refine ⟨(a % 18446744073709551616).toNat, ?_, by omega, by omega⟩
    apply BitVec.eq_of_toNat_eq
    rw [BitVec.toNat_ofInt, BitVec.toNat_ofNat, Nat.mod_eq_of_lt (by omega)]
    rfl
  obtain ⟨B, hB, hB2⟩ : ∃ B : Nat, BitVec.ofInt 64 b = BitVec.ofNat 64 B ∧ B < 2 ^ 64 ∧ (b = B ∧ B < 9223372036854775808 ∨ b = B - 18446744073709551616 ∧ 9223372036854775808 ≤ B) := by
    refine ⟨(b % 18446744073709551616).toNat, ?_, by omega, by omega⟩
    apply BitVec.eq_of_toNat_eq
    rw [BitVec.toNat_ofInt, BitVec.toNat_ofNat, Nat.mod_eq_of_lt (by omega)]
    rfl
  have e1 : bits .and .i64 a b = IntKind.i64.wrap ((BitVec.ofInt 64 a &&& BitVec.ofInt 64 b).toNat : Int) := rfl
  have e2 : bits .xor .i64 a b = IntKind.i64.wrap ((BitVec.ofInt 64 a ^^^ BitVec.ofInt 64 b).toNat : Int) := rfl
  rw [e1, e2, hA, hB, BitVec.toNat_and, BitVec.toNat_xor, BitVec.toNat_ofNat, BitVec.toNat_ofNat, Nat.mod_eq_of_lt hA2.1, Nat.mod_eq_of_lt hB2.1]
  have hx : A ^^^ B < 2 ^ 64 := Nat.xor_lt_two_pow hA2.1 hB2.1
  have hy : A &&& B < 2 ^ 64 := Nat.and_lt_two_pow _ hB2.1
  have hs := xor_and_nat 64 A B hA2.1
  have t1 := top_bit (A ^^^ B) hx
  have t2 := top_bit (A &&& B) hy
  rw [Nat.testBit_xor, top_bit A hA2.1, top_bit B hB2.1] at t1
  rw [Nat.testBit_and, top_bit A hA2.1, top_bit B hB2.1] at t2
  rw [IntKind.wrap_i64, IntKind.wrap_i64]
  generalize A ^^^ B = X at *
  generalize A &&& B = Y at *
  clear e1 e2 hA hB
  obtain ⟨hA1, hA2⟩ := hA2
  obtain ⟨hB1, hB2⟩ := hB2
  rcases hA2 with ⟨rfl, hA2⟩ | ⟨rfl, hA2⟩ <;> rcases hB2 with ⟨rfl, hB2⟩ | ⟨rfl, hB2⟩ <;> simp [hA2, hB2, Nat.not_le.2] at t1 t2 <;> omega

/-- ieee.Mid. -/
@[irreducible] def midI (a b : Nat) : Int := (rkv a + rkv b) / 2
@[irreducible] def midok (a b : Nat) : Bool := nnan a && nnan b && atok (midI a b)
@[irreducible] def midv (a b : Nat) : Nat := if nnan a && nnan b then atv (midI a b) else 0

theorem midI_bd (a b : Nat) : -9218868437227405312 ≤ midI a b ∧ midI a b ≤ 9218868437227405312 := by
  have := rkv_fin a
  have := rkv_fin b
  unfold midI; omega
theorem mid_bits' (a b : Nat) : bits .and .i64 (rkv a) (rkv b) + bits .xor .i64 (rkv a) (rkv b) / 2 = midI a b := by
  have h1 := rkv_bd a
  have h2 := rkv_bd b
  rw [mid_bits _ _ (by omega) (by omega) (by omega) (by omega)]; unfold midI; rfl

set_option maxRecDepth 100000 in
set_option maxHeartbeats 400000 in
theorem mid_any (a b : Nat) (w : World) (ha : a < 18446744073709551616) (h : b < 18446744073709551616) : Calls Tryz.prog 250 #[.float .f64 a, .float .f64 b] w fun e w' => e = .returned (.tuple #[.float .f64 (midv a b), .bool (midok a b)]) ∧ w = w' := by
  have hm := mid_bits' a b
  obtain ⟨hm1, hm2⟩ := midI_bd a b
  go_enter Tryz.func250, Tryz.ntmps250
  go_wp2_with (first | (go_at_call 336; refine (ranks_any a b _ ha h).mono ?_; rintro e w' ⟨rfl, rfl⟩) | (go_at_call 267; refine (at_any _ _ (by omega) (by omega)).mono ?_; rintro e w' ⟨rfl, rfl⟩))
  all_goals go_ret2
  · have hc : (!nnan a) = true ∨ (!nnan b) = true := by assumption
    have hc : (nnan a && nnan b) = false := by
      cases h1 : nnan a <;> cases h2 : nnan b <;> simp_all
    exact ⟨fb_eq (by unfold midv; rw [hc]; rfl) (by unfold midok; rw [hc]; rfl), rfl⟩
  · have hc : (!nnan a) = false ∧ (!nnan b) = false := by assumption
    have hc : (nnan a && nnan b) = true := by
      cases h1 : nnan a <;> cases h2 : nnan b <;> simp_all
    exact ⟨fb_eq (by unfold midv; rw [hc]; rfl) (by unfold midok; rw [hc]; rfl), rfl⟩

/-- ieee.Split. -/
@[irreducible] def manI (b : Nat) : Int := rungI b % 4503599627370496 + 4503599627370496
theorem manI_bd (b : Nat) : 4503599627370496 ≤ manI b ∧ manI b ≤ 9007199254740991 := by unfold manI; omega
theorem man_bits (b : Nat) : bits .or .u64 (bits .and .u64 (rungI b) 4503599627370495) 4503599627370496 = manI b := by
  have h0 : 0 ≤ rungI b ∧ rungI b < 9223372036854775808 := by rw [rungI_eq]; unfold rung; omega
  rw [u64_and _ _ h0.1 (by omega) (by omega) (by omega)]
  have e : (rungI b).toNat &&& (4503599627370495 : Int).toNat = (rungI b).toNat % 4503599627370496 := Nat.and_two_pow_sub_one_eq_mod _ 52
  rw [e, u64_or _ _ (by omega) (by omega) (by omega) (by omega)]
  have e2 : (((rungI b).toNat % 4503599627370496 : Nat) : Int).toNat ||| (4503599627370496 : Int).toNat = 4503599627370496 + (rungI b).toNat % 4503599627370496 := by
    rw [Int.toNat_natCast, Nat.or_comm]
    have := Nat.two_pow_add_eq_or_of_lt (i := 52) (b := (rungI b).toNat % 4503599627370496) (by omega) 1
    rw [Nat.mul_one] at this
    exact this.symm
  rw [e2]; unfold manI; omega

@[irreducible] def spm (b : Nat) : Int := if rungI b < 4503599627370496 then (if sgn b then -rungI b else rungI b) else if rungI b < 9218868437227405312 then (if sgn b then -manI b else manI b) else 0
@[irreducible] def spe (b : Nat) : Int := if rungI b = 0 then 0 else if rungI b < 4503599627370496 then -1074 else if rungI b < 9218868437227405312 then rungI b / 4503599627370496 - 1075 else 0
@[irreducible] def finb (b : Nat) : Bool := fin b
theorem finb_eq (b : Nat) : finb b = fin b := by unfold finb; rfl

theorem negv_num (b : Nat) (h : rungI b ≤ 9218868437227405312) : negv b = sgn b := by
  unfold negv isN
  rw [rungI_eq] at h
  rw [decide_eq_false (by omega)]; rfl
theorem fin_rungI (b : Nat) : fin b = decide (rungI b < 9218868437227405312) := by
  unfold fin; rw [rungI_eq]; apply decide_eq_decide.2; omega


theorem spl1 (b : Nat) (hc : (cls b == 1) = true) : spm b = 0 ∧ spe b = 0 ∧ finb b = true := by
  have hcc := cls_cases b
  rw [beq_iff_eq] at hc
  refine ⟨?_, ?_, ?_⟩
  · unfold spm; rw [if_pos (by omega)]; split <;> omega
  · unfold spe; rw [if_pos (by omega)]
  · rw [finb_eq, fin_rungI, decide_eq_true (by omega)]
theorem spl2 (b : Nat) (hc : (cls b == 2) = true) : spm b = (if negv b then -rungI b else rungI b) ∧ spe b = -1074 ∧ finb b = true := by
  have hcc := cls_cases b
  rw [beq_iff_eq] at hc
  rw [negv_num b (by omega)]
  refine ⟨?_, ?_, ?_⟩
  · unfold spm; rw [if_pos (by omega)]
  · unfold spe; rw [if_neg (by omega), if_pos (by omega)]
  · rw [finb_eq, fin_rungI, decide_eq_true (by omega)]
theorem spl3 (b : Nat) (hc : (cls b == 3) = true) : spm b = (if negv b then -manI b else manI b) ∧ spe b = rungI b / 4503599627370496 - 1075 ∧ finb b = true := by
  have hcc := cls_cases b
  rw [beq_iff_eq] at hc
  rw [negv_num b (by omega)]
  refine ⟨?_, ?_, ?_⟩
  · unfold spm; rw [if_neg (by omega), if_pos (by omega)]
  · unfold spe; rw [if_neg (by omega), if_neg (by omega), if_pos (by omega)]
  · rw [finb_eq, fin_rungI, decide_eq_true (by omega)]
theorem spl4 (b : Nat) (hc1 : (cls b == 1) = false) (hc2 : (cls b == 2) = false) (hc3 : (cls b == 3) = false) : spm b = 0 ∧ spe b = 0 ∧ finb b = false := by
  have hcc := cls_cases b
  rw [beq_eq_false_iff_ne] at hc1 hc2 hc3
  refine ⟨?_, ?_, ?_⟩
  · unfold spm; rw [if_neg (by omega), if_neg (by omega)]
  · unfold spe; rw [if_neg (by omega), if_neg (by omega), if_neg (by omega)]
  · rw [finb_eq, fin_rungI, decide_eq_false (by omega)]
theorem spl2t (b : Nat) (hc : (cls b == 2) = true) (hn : negv b = true) : spm b = -rungI b := by rw [(spl2 b hc).1, hn, if_pos rfl]
theorem spl2f (b : Nat) (hc : (cls b == 2) = true) (hn : negv b = false) : spm b = rungI b := by rw [(spl2 b hc).1, hn, if_neg (by simp)]
theorem spl3t (b : Nat) (hc : (cls b == 3) = true) (hn : negv b = true) : spm b = -manI b := by rw [(spl3 b hc).1, hn, if_pos rfl]
theorem spl3f (b : Nat) (hc : (cls b == 3) = true) (hn : negv b = false) : spm b = manI b := by rw [(spl3 b hc).1, hn, if_neg (by simp)]

set_option maxRecDepth 100000 in
set_option maxHeartbeats 400000 in
theorem split_any (b : Nat) (w : World) (h : b < 18446744073709551616) : Calls Tryz.prog 241 #[.float .f64 b] w fun e w' => e = .returned (.tuple #[.int .i64 (spm b), .int .i64 (spe b), .bool (finb b)]) ∧ w = w' := by
  have h0 : 0 ≤ rungI b ∧ rungI b < 9223372036854775808 := by rw [rungI_eq]; unfold rung; omega
  obtain ⟨h1, h2⟩ := h0
  obtain ⟨hm1, hm2⟩ := manI_bd b
  have hm := man_bits b
  go_enter Tryz.func241, Tryz.ntmps241
  go_wp2_with (first | (go_at_call 107; refine (class_any b _ h).mono ?_; rintro e w' ⟨rfl, rfl⟩) | (go_at_call 323; refine (neg_any b _ h).mono ?_; rintro e w' ⟨rfl, rfl⟩) | (go_at_call 206; refine (sizeI b _ h).mono ?_; rintro e w' ⟨rfl, rfl⟩))
  all_goals go_ret3
  · have g := spl1 b (by assumption)
    exact ⟨iib_eq g.1.symm g.2.1.symm g.2.2.symm, rfl⟩
  · have hc : (cls b == 2) = true := by assumption
    exact ⟨iib_eq (spl2t b hc (by assumption)).symm (spl2 b hc).2.1.symm (spl2 b hc).2.2.symm, rfl⟩
  · have hc : (cls b == 2) = true := by assumption
    exact ⟨iib_eq (spl2f b hc (by assumption)).symm (spl2 b hc).2.1.symm (spl2 b hc).2.2.symm, rfl⟩
  · have hc : (cls b == 3) = true := by assumption
    exact ⟨iib_eq (spl3t b hc (by assumption)).symm (spl3 b hc).2.1.symm (spl3 b hc).2.2.symm, rfl⟩
  · have hc : (cls b == 3) = true := by assumption
    exact ⟨iib_eq (spl3f b hc (by assumption)).symm (spl3 b hc).2.1.symm (spl3 b hc).2.2.symm, rfl⟩
  · have g := spl4 b (by assumption) (by assumption) (by assumption)
    exact ⟨iib_eq g.1.symm g.2.1.symm g.2.2.symm, rfl⟩
end Go.Proofs.YtefaedjjecfabaaGreat.Ten

namespace Go.Proofs.YtefaedjjecfabaaGreat.Ten
open Go Go.RowKit
attribute [local go_sem] ext113 ext252 run_fadd run_fsub run_fmul run_fquo

theorem ord_lt (x y : Nat) : (FloatKind.f64.format.order x y == some .lt) = flt x y := order_lt x y
theorem ord_gt (x y : Nat) : (FloatKind.f64.format.order x y == some .gt) = flt y x := order_gt x y
theorem ord_eq (x y : Nat) : (FloatKind.f64.format.order x y == some .eq) = feq x y := order_eq x y
theorem ord_ne (x y : Nat) : (FloatKind.f64.format.order x y != some .eq) = !feq x y := order_ne x y
theorem ord_le (x y : Nat) : (FloatKind.f64.format.order x y == some .lt || FloatKind.f64.format.order x y == some .eq) = fle x y := order_le x y
theorem ord_ge (x y : Nat) : (FloatKind.f64.format.order x y == some .gt || FloatKind.f64.format.order x y == some .eq) = fle y x := order_ge x y
theorem ltoreq (x y : Nat) : (flt x y || feq x y) = fle x y := fle_of x y
theorem gtoreq (x y : Nat) : (flt y x || feq x y) = fle y x := by rw [← ord_gt, ← ord_eq]; exact order_ge x y
attribute [local go_sem] ord_lt ord_gt ord_eq ord_ne ltoreq gtoreq

set_option maxRecDepth 100000 in
set_option maxHeartbeats 400000 in
theorem isnan_any (b : Nat) (w : World) : Calls Tryz.prog 430 #[.float .f64 b] w fun e w' => e = .returned (.bool (!feq b b)) ∧ w = w' := by
  go_enter Tryz.func430, Tryz.ntmps430
  go_wp2
  go_ret
  exact ⟨rfl, rfl⟩

set_option maxRecDepth 100000 in
set_option maxHeartbeats 400000 in
theorem abs_any (b : Nat) (w : World) (h : b < 18446744073709551616) : Calls Tryz.prog 405 #[.float .f64 b] w fun e w' => e = .returned (.float .f64 (rung b)) ∧ w = w' := by
  have hb := andNot_top b h
  go_enter Tryz.func405, Tryz.ntmps405
  go_wp2
  go_ret
  exact ⟨rfl, rfl⟩

set_option maxRecDepth 100000 in
set_option maxHeartbeats 400000 in
theorem inf_any (s : Int) (w : World) : Calls Tryz.prog 319 #[.int .i64 s] w fun e w' => e = .returned (.float .f64 (if 0 ≤ s then 9218868437227405312 else 18442240474082181120)) ∧ w = w' := by
  go_enter Tryz.func319, Tryz.ntmps319
  go_wp2
  all_goals (go_ret; exact ⟨rfl, rfl⟩)

set_option maxRecDepth 100000 in
set_option maxHeartbeats 400000 in
theorem isinf_zero (b : Nat) (w : World) (h : b < 18446744073709551616) : Calls Tryz.prog 362 #[.float .f64 b, .int .i64 0] w fun e w' => e = .returned (.bool (flt 9218868437227405311 (rung b))) ∧ w = w' := by
  go_enter Tryz.func362, Tryz.ntmps362
  go_wp2_with (first | (go_at_call 405; refine (abs_any b _ h).mono ?_; rintro e w' ⟨rfl, rfl⟩))
  go_ret
  exact ⟨rfl, rfl⟩

set_option maxRecDepth 100000 in
set_option maxHeartbeats 400000 in
theorem normalize_any (b : Nat) (w : World) (h : b < 18446744073709551616) (hb : flt (rung b) 4503599627370496 = false) : Calls Tryz.prog 435 #[.float .f64 b] w fun e w' => e = .returned (.tuple #[.float .f64 b, .int .i64 0]) ∧ w = w' := by
  go_enter Tryz.func435, Tryz.ntmps435
  go_wp2_with (first | (go_at_call 405; refine (abs_any b _ h).mono ?_; rintro e w' ⟨rfl, rfl⟩))
  go_ret2
  exact ⟨rfl, rfl⟩

/-- A whole number's float, by its parts. -/
@[irreducible] def nrm (L f : Int) : Nat := ((1023 + L) * 4503599627370496 + f).toNat


theorem vop_mul_fin (w : World) (a b : Nat) (ha : fin a = true) (hb : fin b = true) : vop .mul w a b = rw' (sgn a ^^ sgn b) (uu a * uu b) (2 ^ 1074) ∧ nop .mul a b = 0 := by
  have h : floatBits .mul .f64 a b = some (rw' (sgn a ^^ sgn b) (uu a * uu b) (2 ^ 1074)) := fmul_fin a b ha hb
  unfold vop nop; rw [h]; exact ⟨rfl, rfl⟩
theorem drewN_zero (w : World) : w.drewN 0 = w := rfl

/-- What ldexp comes to at 2^L + .., k on. -/
@[irreducible] def ldx (L f k : Int) : Nat := if 1023 < k + L then 9218868437227405312 else if k + L < -1022 then fmul 4368491638549381120 (nrm (k + L + 53) f) else nrm (k + L) f
theorem ldx_hi (L f k : Int) (h : 1023 < k + L) : ldx L f k = 9218868437227405312 := by unfold ldx; rw [if_pos h]
theorem ldx_lo (L f k : Int) (h : k + L < -1022) : ldx L f k = fmul 4368491638549381120 (nrm (k + L + 53) f) := by unfold ldx; rw [if_neg (by omega), if_pos h]
theorem ldx_mid (L f k : Int) (h : -1022 ≤ k + L) (h2 : k + L ≤ 1023) : ldx L f k = nrm (k + L) f := by unfold ldx; rw [if_neg (by omega), if_neg (by omega)]


theorem or_field (e f : Int) (he0 : 0 ≤ e) (he : e < 2048) (hf0 : 0 ≤ f) (hf : f < 4503599627370496) : (bits BinOp.or IntKind.u64 f (e * 4503599627370496)).toNat = nrm (e - 1023) f := by
  rw [u64_or _ _ hf0 (by omega) (by omega) (by omega)]
  obtain ⟨E, rfl⟩ := Int.eq_ofNat_of_zero_le he0
  obtain ⟨F, rfl⟩ := Int.eq_ofNat_of_zero_le hf0
  have e1 : ((E : Int) * 4503599627370496).toNat = 2 ^ 52 * E := by omega
  rw [e1, Int.toNat_natCast, Int.toNat_natCast, Nat.or_comm, ← Nat.two_pow_add_eq_or_of_lt (i := 52) (b := F) (by omega) E]
  unfold nrm; omega

set_option exponentiation.threshold 5000
theorem nrm_facts (e f : Int) (he0 : -1022 ≤ e) (he : e ≤ 1023) (hf0 : 0 ≤ f) (hf : f < 4503599627370496) :
    nrm e f < 9218868437227405312 ∧ fin (nrm e f) = true ∧ sgn (nrm e f) = false ∧ uu (nrm e f) = (4503599627370496 + f.toNat) * 2 ^ (e + 1022).toNat := by
  have hlt : nrm e f < 9218868437227405312 := by unfold nrm; omega
  have hr : rung (nrm e f) = nrm e f := by unfold rung; exact Nat.mod_eq_of_lt (by omega)
  refine ⟨hlt, ?_, ?_, ?_⟩
  · unfold fin; rw [hr]; exact decide_eq_true hlt
  · unfold sgn; rw [Nat.div_eq_of_lt (by omega)]; rfl
  · unfold uu uv
    rw [hr]
    have h1 : ¬ nrm e f < 2 ^ 52 := by unfold nrm; omega
    rw [if_neg h1]
    have h2 : nrm e f % 2 ^ 52 = f.toNat := by unfold nrm; omega
    have h3 : nrm e f / 2 ^ 52 - 1 = (e + 1022).toNat := by unfold nrm; omega
    rw [h2, h3]

theorem one_facts : fin 4607182418800017408 = true ∧ sgn 4607182418800017408 = false ∧ uu 4607182418800017408 = 2 ^ 1074 := by
  refine ⟨by decide, by decide, ?_⟩
  have := (nrm_facts 0 0 (by omega) (by omega) (by omega) (by omega)).2.2.2
  have e : nrm 0 0 = 4607182418800017408 := by unfold nrm; rfl
  rw [e] at this
  rw [this]; decide
theorem m53_facts : fin 4368491638549381120 = true ∧ sgn 4368491638549381120 = false ∧ uu 4368491638549381120 = 2 ^ 1021 := by
  refine ⟨by decide, by decide, ?_⟩
  have := (nrm_facts (-53) 0 (by omega) (by omega) (by omega) (by omega)).2.2.2
  have e : nrm (-53) 0 = 4368491638549381120 := by unfold nrm; rfl
  rw [e] at this
  rw [this]; decide

theorem fmul_one_left (y : Nat) (hy : y < 18446744073709551616) (hf : fin y = true) : fmul 4607182418800017408 y = y := by
  unfold fmul
  rw [fmul_fin _ _ one_facts.1 hf, one_facts.2.1, one_facts.2.2]
  show rw' (false ^^ sgn y) (2 ^ 1074 * uu y) (2 ^ 1074) = y
  rw [Bool.false_xor, Nat.mul_comm, rw_back y hy hf _ (Nat.two_pow_pos _)]

theorem rz_pos (M s : Nat) (h1 : M < 2 ^ (52 + 1)) (h2 : 2 ^ 52 ≤ M) : rz 52 M (s : Int) = s * 4503599627370496 + M := by
  rw [rz_of 52 _ (s : Int) s 0 (by omega), Nat.pow_zero]
  have := rq_exact 52 M s 1 (by omega) h1 (.inr h2)
  rw [Nat.mul_one] at this
  exact this
theorem rz_lo (M a b : Nat) (t : Int) (h : t = (a : Int) + b - 1074) : rq 52 (2 ^ a * (M * 2 ^ b)) (2 ^ 1074) = rz 52 M t := by
  rw [rz_of 52 _ t (a + b) 1074 (by omega), Nat.pow_add]
  generalize 2 ^ a = P
  generalize 2 ^ b = Q
  generalize 2 ^ 1074 = R
  have e2 : P * (M * Q) = M * (P * Q) := by grind
  rw [e2]
theorem wd_f (r : Nat) : wd false r = r := by unfold wd; rw [if_neg Bool.false_ne_true]
theorem ldx_rz_hi (L f k : Int) (hf0 : 0 ≤ f) (hf : f < 4503599627370496) (h : 1023 < k + L) : ldx L f k = min (rz 52 (4503599627370496 + f.toNat) (k + L + 1022)) 9218868437227405312 := by
  obtain ⟨s, hs⟩ : ∃ s : Nat, k + L + 1022 = s := ⟨(k + L + 1022).toNat, by omega⟩
  rw [hs, rz_pos _ _ (by omega) (by omega), Nat.min_eq_right (by omega), ldx_hi L f k h]
theorem ldx_rz_mid (L f k : Int) (hf0 : 0 ≤ f) (hf : f < 4503599627370496) (h : -1022 ≤ k + L) (h2 : k + L ≤ 1023) : ldx L f k = min (rz 52 (4503599627370496 + f.toNat) (k + L + 1022)) 9218868437227405312 := by
  obtain ⟨s, hs⟩ : ∃ s : Nat, k + L + 1022 = s := ⟨(k + L + 1022).toNat, by omega⟩
  rw [hs, rz_pos _ _ (by omega) (by omega), Nat.min_eq_left (by omega), ldx_mid L f k h h2]
  unfold nrm
  omega
theorem ldx_rz_lo (L f k : Int) (hk0 : -1075 ≤ k + L) (hf0 : 0 ≤ f) (hf : f < 4503599627370496) (h : k + L < -1022) : ldx L f k = min (rz 52 (4503599627370496 + f.toNat) (k + L + 1022)) 9218868437227405312 := by
  obtain ⟨h1, h2, h3, h4⟩ := nrm_facts (k + L + 53) f (by omega) (by omega) hf0 hf
  rw [ldx_lo L f k h]
  unfold fmul
  rw [fmul_fin _ _ m53_facts.1 h2, m53_facts.2.1, m53_facts.2.2, h3, h4, Option.getD_some, Bool.xor_self]
  unfold rw'
  rw [wd_f, rz_lo _ 1021 (k + L + 53 + 1022).toNat (k + L + 1022) (by omega)]
theorem ldx_rz (L f k : Int) (hk0 : -1075 ≤ k + L) (hf0 : 0 ≤ f) (hf : f < 4503599627370496) : ldx L f k = min (rz 52 (4503599627370496 + f.toNat) (k + L + 1022)) 9218868437227405312 := by
  rcases Int.lt_or_le 1023 (k + L) with h | h
  · exact ldx_rz_hi L f k hf0 hf h
  · rcases Int.lt_or_le (k + L) (-1022) with h2 | h2
    · exact ldx_rz_lo L f k hk0 hf0 hf h2
    · exact ldx_rz_mid L f k hf0 hf h2 h

theorem ldx_vmid (w : World) (L f e : Int) (k : Int) (hk : e = k + L + 1023) (h1 : -1022 ≤ k + L) (h2 : k + L ≤ 1023) (hf0 : 0 ≤ f) (hf : f < 4503599627370496) :
    vop BinOp.mul w 4607182418800017408 (bits BinOp.or IntKind.u64 f (e * 4503599627370496)).toNat = ldx L f k ∧
      w = w.drewN (nop BinOp.mul 4607182418800017408 (bits BinOp.or IntKind.u64 f (e * 4503599627370496)).toNat) := by
  rw [or_field e f (by omega) (by omega) hf0 hf, show e - 1023 = k + L by omega]
  obtain ⟨g1, g2, g3, g4⟩ := nrm_facts (k + L) f h1 h2 hf0 hf
  have hv := vop_mul_fin w _ _ one_facts.1 g2
  rw [hv.2, hv.1, ldx_mid L f k h1 h2]
  refine ⟨?_, rfl⟩
  have := fmul_one_left (nrm (k + L) f) (by omega) g2
  unfold fmul at this
  rw [fmul_fin _ _ one_facts.1 g2] at this
  exact this
theorem ldx_vlo (w : World) (L f e : Int) (k : Int) (hk : e = k + L + 53 + 1023) (h1 : -1075 ≤ k + L) (h2 : k + L < -1022) (hf0 : 0 ≤ f) (hf : f < 4503599627370496) :
    vop BinOp.mul w 4368491638549381120 (bits BinOp.or IntKind.u64 f (e * 4503599627370496)).toNat = ldx L f k ∧
      w = w.drewN (nop BinOp.mul 4368491638549381120 (bits BinOp.or IntKind.u64 f (e * 4503599627370496)).toNat) := by
  rw [or_field e f (by omega) (by omega) hf0 hf, show e - 1023 = k + L + 53 by omega]
  obtain ⟨g1, g2, g3, g4⟩ := nrm_facts (k + L + 53) f (by omega) (by omega) hf0 hf
  have hv := vop_mul_fin w _ _ m53_facts.1 g2
  rw [hv.2, hv.1, ldx_lo L f k h2]
  refine ⟨?_, rfl⟩
  unfold fmul
  rw [fmul_fin _ _ m53_facts.1 g2]; rfl

set_option maxRecDepth 100000 in
set_option maxHeartbeats 400000 in
theorem ldexp_any (X : Nat) (L f k : Int) (w : World) (hX : X < 18446744073709551616) (hL0 : 0 ≤ L) (hL : L ≤ 53) (hf0 : 0 ≤ f) (hf : f < 4503599627370496) (hk0 : -1075 ≤ k + L) (hk : k ≤ 10000)
    (h0 : feq X 0 = false) (h1 : flt 9218868437227405311 (rung X) = false) (h2 : feq X X = true) (h3 : flt (rung X) 4503599627370496 = false) (h6 : flt X 0 = false)
    (h4 : bits .and .i64 ((X : Int) / 4503599627370496) 2047 = 1023 + L) (h5 : bits .andNot .u64 (X : Int) 9218868437227405312 = f) :
    Calls Tryz.prog 420 #[.float .f64 X, .int .i64 k] w fun e w' => e = .returned (.float .f64 (ldx L f k)) ∧ w = w' := by
  go_enter Tryz.func420, Tryz.ntmps420
  go_wp2_with (first | (go_at_call 405; refine (abs_any X _ hX).mono ?_; rintro e w' ⟨rfl, rfl⟩) | (go_at_call 362; refine (isinf_zero X _ hX).mono ?_; rintro e w' ⟨rfl, rfl⟩) | (go_at_call 430; refine (isnan_any X _).mono ?_; rintro e w' ⟨rfl, rfl⟩) | (go_at_call 435; refine (normalize_any X _ hX h3).mono ?_; rintro e w' ⟨rfl, rfl⟩) | (go_at_call 319; refine (inf_any _ _).mono ?_; rintro e w' ⟨rfl, rfl⟩))
  all_goals go_ret
  · exact ⟨float_eq (ldx_hi L f k (by omega)).symm, rfl⟩
  · have g := ldx_vlo w L f (k + (1023 + L - 1023) + 53 + 1023) k (by omega) (by omega) (by omega) hf0 hf
    exact ⟨float_eq g.1, g.2⟩
  · have g := ldx_vmid w L f (k + (1023 + L - 1023) + 1023) k (by omega) (by omega) (by omega) hf0 hf
    exact ⟨float_eq g.1, g.2⟩
end Go.Proofs.YtefaedjjecfabaaGreat.Ten

namespace Go.Proofs.YtefaedjjecfabaaGreat.Ten
open Go Go.RowKit Ieee
theorem write_not_nan (d : Datum) (h : ∀ s t, d ≠ .nan s t) : isN (D.write d) = false ∧ D.write d < 18446744073709551616 := by
  cases d with
  | nan s t => exact absurd rfl (h s t)
  | infinity s =>
    have e : D.write (.infinity s) = wd s 9218868437227405312 := by cases s <;> decide
    rw [e]
    cases s <;> decide
  | number s m p =>
    have e : D.write (.number s m p) = D.nearest s m p := rfl
    rw [e, nearest_D s m p (p + 1074).toNat (-(p + 1074)).toNat (by omega)]
    exact ⟨rw_not_nan _ _ _, rw_lt _ _ _⟩
theorem sum_not_nan (x y d : Datum) (h : x.sum y = some d) (s : Bool) (t : Nat) : d ≠ .nan s t := by
  rintro rfl
  cases x <;> cases y <;> simp [Datum.sum] at h
theorem product_not_nan (x y d : Datum) (h : x.product y = some d) (s : Bool) (t : Nat) : d ≠ .nan s t := by
  rintro rfl
  cases x <;> cases y <;> simp [Datum.product] at h
theorem quotient_not_nan (k : Nat) (x y d : Datum) (h : x.quotient k y = some d) (s : Bool) (t : Nat) : d ≠ .nan s t := by
  rintro rfl
  cases x <;> cases y <;> simp [Datum.quotient] at h
  split at h
  · split at h <;> simp at h
  · simp at h
theorem add_some (x y r : Nat) (h : D.add x y = some r) : isN r = false ∧ r < 18446744073709551616 := by
  obtain ⟨d, h1, rfl⟩ := Option.map_eq_some_iff.1 h
  exact write_not_nan d (sum_not_nan _ _ d h1)
theorem sub_some (x y r : Nat) (h : D.sub x y = some r) : isN r = false ∧ r < 18446744073709551616 := by
  obtain ⟨d, h1, rfl⟩ := Option.map_eq_some_iff.1 h
  exact write_not_nan d (sum_not_nan _ _ d h1)
theorem mul_some (x y r : Nat) (h : D.mul x y = some r) : isN r = false ∧ r < 18446744073709551616 := by
  obtain ⟨d, h1, rfl⟩ := Option.map_eq_some_iff.1 h
  exact write_not_nan d (product_not_nan _ _ d h1)
theorem div_some (x y r : Nat) (h : D.div x y = some r) : isN r = false ∧ r < 18446744073709551616 := by
  obtain ⟨d, h1, rfl⟩ := Option.map_eq_some_iff.1 h
  exact write_not_nan d (quotient_not_nan _ _ _ d h1)
/-- One of the four. -/
def four (op : BinOp) : Prop := op = .add ∨ op = .sub ∨ op = .mul ∨ op = .quo
theorem bits_some (op : BinOp) (hop : four op) (x y r : Nat) (h : floatBits op .f64 x y = some r) : isN r = false ∧ r < 18446744073709551616 := by
  rcases hop with rfl | rfl | rfl | rfl
  · exact add_some x y r h
  · exact sub_some x y r h
  · exact mul_some x y r h
  · exact div_some x y r h
theorem fop_eq (op : BinOp) (hop : four op) (x y : Nat) : fop op x y = (floatBits op .f64 x y).getD NaNc := by
  rcases hop with rfl | rfl | rfl | rfl <;> rfl
theorem cut_nan (x y t : Nat) : isN ((Question.nanBits .f64 x y).cut t) = true ∧ (Question.nanBits .f64 x y).cut t < 18446744073709551616 := by
  have e : (Question.nanBits .f64 x y).cut t = (t % 2) * 2 ^ 63 + 0x7ff0000000000000 + 1 + (t / 2) % (2 ^ 52 - 1) := rfl
  rw [e]
  unfold isN rung
  have h1 : t / 2 % (2 ^ 52 - 1) < 4503599627370495 := Nat.mod_lt _ (by decide)
  generalize t / 2 % (2 ^ 52 - 1) = u at *
  have h2 : t % 2 < 2 := Nat.mod_lt _ (by decide)
  generalize t % 2 = v at *
  refine ⟨decide_eq_true ?_, ?_⟩
  · have : v = 0 ∨ v = 1 := by omega
    rcases this with rfl | rfl <;> simp <;> omega
  · have : v = 0 ∨ v = 1 := by omega
    rcases this with rfl | rfl <;> simp <;> omega
/-- What the walk has of an operation on floats: NaN or not, its canonical bits are the operation's. -/
theorem vop_cn (op : BinOp) (hop : four op) (w : World) (x y : Nat) : cn (vop op w x y) = fop op x y ∧ vop op w x y < 18446744073709551616 := by
  rw [fop_eq op hop]
  unfold vop
  cases h : floatBits op .f64 x y with
  | some r =>
    obtain ⟨h1, h2⟩ := bits_some op hop x y r h
    exact ⟨cn_of r h1, h2⟩
  | none =>
    obtain ⟨h1, h2⟩ := cut_nan x y (w.tape w.drawn (.nanBits .f64 x y))
    exact ⟨cn_nan _ h1, h2⟩
theorem vop_of (op : BinOp) (hop : four op) (w : World) (x y : Nat) (h : isN (fop op x y) = false) : vop op w x y = fop op x y ∧ nop op x y = 0 := by
  rw [fop_eq op hop] at h ⊢
  unfold vop nop
  cases hh : floatBits op .f64 x y with
  | some r => exact ⟨rfl, rfl⟩
  | none =>
    rw [hh] at h
    exact absurd h (by decide)
theorem fop_lt (op : BinOp) (hop : four op) (x y : Nat) : fop op x y < 18446744073709551616 := by
  rw [fop_eq op hop]
  cases h : floatBits op .f64 x y with
  | some r => exact (bits_some op hop x y r h).2
  | none => decide
theorem cn_fop (op : BinOp) (hop : four op) (x y : Nat) : cn (fop op x y) = fop op x y := by
  rw [fop_eq op hop]
  cases h : floatBits op .f64 x y with
  | some r => exact cn_of r (bits_some op hop x y r h).1
  | none => decide
theorem bits_nan (op : BinOp) (hop : four op) (x y : Nat) (h : isN x = true ∨ isN y = true) : floatBits op .f64 x y = none := by
  have opp : ∀ s t, (Datum.nan s t).opposite = .nan (!s) t := fun _ _ => rfl
  have e : ∀ d : Datum, ∀ s t, d.sum (.nan s t) = none := by intro d s t; cases d <;> rfl
  have e2 : ∀ d : Datum, ∀ s t, d.product (.nan s t) = none := by intro d s t; cases d <;> rfl
  have e3 : ∀ d : Datum, ∀ s t k, d.quotient k (.nan s t) = none := by intro d s t k; cases d <;> rfl
  have fa : FloatKind.f64.format = D := f64_format
  rcases h with h | h
  · obtain ⟨s, t, hr⟩ := read_nan x h
    rcases hop with rfl | rfl | rfl | rfl
    · show D.add x y = none; unfold Format.add; rw [hr]; rfl
    · show D.sub x y = none; unfold Format.sub; rw [hr]; rfl
    · show D.mul x y = none; unfold Format.mul; rw [hr]; rfl
    · show D.div x y = none; unfold Format.div; rw [hr]; rfl
  · obtain ⟨s, t, hr⟩ := read_nan y h
    rcases hop with rfl | rfl | rfl | rfl
    · show D.add x y = none; unfold Format.add; rw [hr, e]; rfl
    · show D.sub x y = none; unfold Format.sub; rw [hr, opp, e]; rfl
    · show D.mul x y = none; unfold Format.mul; rw [hr, e2]; rfl
    · show D.div x y = none; unfold Format.div; rw [hr, e3]; rfl
theorem fop_nan (op : BinOp) (hop : four op) (x y : Nat) (h : isN x = true ∨ isN y = true) : fop op x y = NaNc := by
  rw [fop_eq op hop, bits_nan op hop x y h]; rfl
theorem fop_cn (op : BinOp) (hop : four op) (x y : Nat) : fop op (cn x) (cn y) = fop op x y := by
  by_cases hx : isN x = true
  · rw [fop_nan op hop x y (.inl hx), fop_nan op hop _ _ (.inl (by rw [isN_cn]; exact hx))]
  · by_cases hy : isN y = true
    · rw [fop_nan op hop x y (.inr hy), fop_nan op hop _ _ (.inr (by rw [isN_cn]; exact hy))]
    · rw [cn_of x (by simpa using hx), cn_of y (by simpa using hy)]
theorem fop_congr (op : BinOp) (hop : four op) {x y x' y' : Nat} (hx : cn x = cn x') (hy : cn y = cn y') : fop op x y = fop op x' y' := by
  rw [← fop_cn op hop x y, hx, hy, fop_cn op hop]
theorem flt_cn (x y : Nat) : flt (cn x) (cn y) = flt x y := by
  unfold flt
  rw [isN_cn, isN_cn]
  by_cases hx : isN x = true
  · rw [hx]; rfl
  · by_cases hy : isN y = true
    · rw [hy]; simp
    · rw [cn_of x (by simpa using hx), cn_of y (by simpa using hy)]
theorem fle_cn (x y : Nat) : fle (cn x) (cn y) = fle x y := by
  unfold fle
  rw [isN_cn, isN_cn]
  by_cases hx : isN x = true
  · rw [hx]; rfl
  · by_cases hy : isN y = true
    · rw [hy]; simp
    · rw [cn_of x (by simpa using hx), cn_of y (by simpa using hy)]
theorem feq_cn (x y : Nat) : feq (cn x) (cn y) = feq x y := by
  unfold feq
  rw [isN_cn, isN_cn]
  by_cases hx : isN x = true
  · rw [hx]; rfl
  · by_cases hy : isN y = true
    · rw [hy]; simp
    · rw [cn_of x (by simpa using hx), cn_of y (by simpa using hy)]
theorem fin_nan (x : Nat) (h : fin x = true) : isN x = false := (fin_not x h).2
theorem cn_fin (x : Nat) (h : fin x = true) : cn x = x := cn_of x (fin_nan x h)
theorem fin_cn (x : Nat) : fin (cn x) = fin x := by
  by_cases hx : isN x = true
  · rw [cn_nan x hx, (nan_not x hx).1]; decide
  · rw [cn_of x (by simpa using hx)]
end Go.Proofs.YtefaedjjecfabaaGreat.Ten
