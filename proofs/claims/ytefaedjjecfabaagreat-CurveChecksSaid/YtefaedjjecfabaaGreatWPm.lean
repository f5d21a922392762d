/- Parts of the proof of CurveChecks: contracts of the functions that it reaches, and the plain laws under them (Pm). Conditions: those that each theorem names. -/
import Derived.Lib.Hide
import Derived.Test.YtefaedjjecfabaaGreatWPi
namespace Go.Proofs.YtefaedjjecfabaaGreat.Ten
open Go Go.RowKit
attribute [local go_sem] ext113 ext252 run_fadd run_fsub run_fmul run_fquo
set_option exponentiation.threshold 5000

theorem fofi_pos (m : Nat) : fofi (m : Int) = min (rz 52 m 1074) 9218868437227405312 := by
  unfold fofi rw'
  rw [decide_eq_false (by omega), wd_f, Int.natAbs_natCast, rz_of 52 m 1074 1074 0 (by omega), Nat.pow_zero]

theorem rz_shift (m : Nat) (t : Int) (c : Nat) : rz 52 (m * 2 ^ c) t = rz 52 m (t + c) := by
  rw [rz_of 52 _ t t.toNat (-t).toNat (by omega), rz_of 52 m (t + c) (c + t.toNat) (-t).toNat (by omega), Nat.pow_add]
  congr 1
  rw [Nat.mul_assoc]

theorem nrm_nat (L f : Nat) : nrm L f = (1022 + L) * 4503599627370496 + (4503599627370496 + f) := by unfold nrm; omega
/-- A whole number up to 2^53 as a float: its parts. -/
theorem fofi_parts (m : Nat) (h1 : 1 ≤ m) (h2 : m ≤ 2 ^ 53) : ∃ L f : Nat, L ≤ 53 ∧ f < 4503599627370496 ∧ (4503599627370496 + f) * 2 ^ L = m * 4503599627370496 ∧ fofi (m : Int) = nrm L f := by
  have hm : m ≠ 0 := by omega
  have l1 := Nat.log2_self_le hm
  have l2 : m < 2 ^ (m.log2 + 1) := Nat.lt_log2_self
  have hL : m.log2 ≤ 53 := by
    rcases Nat.lt_or_ge 53 m.log2 with h | h
    · have : 2 ^ 54 ≤ 2 ^ m.log2 := Nat.pow_le_pow_right (by omega) h
      omega
    · exact h
  have key : ∃ f : Nat, f < 4503599627370496 ∧ (4503599627370496 + f) * 2 ^ m.log2 = m * 4503599627370496 := by
    rcases Nat.lt_or_ge 52 m.log2 with h | h
    · have e : m.log2 = 53 := by omega
      rw [e] at l1 ⊢
      refine ⟨0, by omega, by omega⟩
    · obtain ⟨d, hd⟩ : ∃ d, 52 = m.log2 + d := ⟨52 - m.log2, by omega⟩
      have e52 : 4503599627370496 = 2 ^ m.log2 * 2 ^ d := by rw [← Nat.pow_add, ← hd]
      have g1 : 4503599627370496 ≤ m * 2 ^ d := by rw [e52]; exact Nat.mul_le_mul_right _ l1
      have g2 : m * 2 ^ d < 2 * 4503599627370496 := by
        have : m * 2 ^ d < 2 ^ (m.log2 + 1) * 2 ^ d := Nat.mul_lt_mul_of_pos_right l2 (Nat.two_pow_pos d)
        have e : 2 ^ (m.log2 + 1) * 2 ^ d = 2 * (2 ^ m.log2 * 2 ^ d) := by rw [Nat.pow_succ]; generalize 2 ^ m.log2 = P; generalize 2 ^ d = Q; grind
        omega
      refine ⟨m * 2 ^ d - 4503599627370496, by omega, ?_⟩
      rw [Nat.add_sub_cancel' g1]
      generalize 2 ^ m.log2 = P at *
      generalize 2 ^ d = Q at *
      rw [e52]; grind
  obtain ⟨f, hf, he⟩ := key
  refine ⟨m.log2, f, hL, hf, he, ?_⟩
  rw [fofi_pos]
  have e1 : rz 52 m 1074 = rz 52 (m * 2 ^ 52) 1022 := by rw [rz_shift]; rfl
  have e2 : m * 2 ^ 52 = (4503599627370496 + f) * 2 ^ m.log2 := he.symm
  rw [e1, e2, rz_shift]
  have hs : (1022 : Int) + (m.log2 : Int) = ((1022 + m.log2 : Nat) : Int) := by omega
  rw [hs, nrm_nat]
  clear e1 e2 he l1 l2 hm hs
  rw [rz_pos _ _ (by omega) (by omega), Nat.min_eq_left (by omega)]

theorem nrm_tests (X L f : Nat) (hX : X = (1023 + L) * 4503599627370496 + f) (hL : L ≤ 53) (hf : f < 4503599627370496) :
    X < 18446744073709551616 ∧ feq X 0 = false ∧ flt 9218868437227405311 (rung X) = false ∧ feq X X = true ∧ flt (rung X) 4503599627370496 = false ∧ flt X 0 = false ∧
    bits .and .i64 ((X : Int) / 4503599627370496) 2047 = 1023 + (L : Int) ∧ bits .andNot .u64 (X : Int) 9218868437227405312 = (f : Int) := by
  have hX0 : 4607182418800017408 ≤ X := by omega
  have hX1 : X < 4850376798678024192 := by omega
  have hr : rung X = X := by unfold rung; omega
  have hs : sgn X = false := by unfold sgn; rw [Nat.div_eq_of_lt (by omega)]; rfl
  have hk : rk X = X := by unfold rk; rw [hs, hr]; rfl
  have hn : isN X = false := by unfold isN; rw [hr]; exact decide_eq_false (by omega)
  have z1 : rk 0 = 0 := by decide
  have z2 : isN 0 = false := by decide
  have z3 : rk 9218868437227405311 = 9218868437227405311 := by decide
  have z4 : isN 9218868437227405311 = false := by decide
  have z5 : rk 4503599627370496 = 4503599627370496 := by decide
  have z6 : isN 4503599627370496 = false := by decide
  refine ⟨by omega, ?_, ?_, ?_, ?_, ?_, ?_, ?_⟩
  · unfold feq; rw [hn, z2, hk, z1, decide_eq_false (by omega)]; rfl
  · unfold flt; rw [hr, hn, z4, hk, z3, decide_eq_false (by omega)]; rfl
  · unfold feq; rw [hn, decide_eq_true rfl]; rfl
  · unfold flt; rw [hr, hn, z6, hk, z5, decide_eq_false (by omega)]; rfl
  · unfold flt; rw [hn, z2, hk, z1, decide_eq_false (by omega)]; rfl
  · have e : (X : Int) / 4503599627370496 = ((1023 + L : Nat) : Int) := by omega
    rw [e]
    have e1 : bits .and .i64 ((1023 + L : Nat) : Int) 2047 = IntKind.i64.wrap ((BitVec.ofInt 64 ((1023 + L : Nat) : Int) &&& BitVec.ofInt 64 ((2047 : Nat) : Int)).toNat : Int) := rfl
    rw [e1, BitVec.ofInt_natCast, BitVec.ofInt_natCast, BitVec.toNat_and, BitVec.toNat_ofNat, BitVec.toNat_ofNat, Nat.mod_eq_of_lt (by omega), Nat.mod_eq_of_lt (by omega)]
    have e2 : (1023 + L) &&& 2047 = (1023 + L) % 2048 := Nat.and_two_pow_sub_one_eq_mod _ 11
    rw [e2, IntKind.wrap_i64]
    omega
  · have e1 : bits .andNot .u64 (X : Int) 9218868437227405312 = IntKind.u64.wrap ((BitVec.ofInt 64 (X : Int) &&& ~~~ BitVec.ofInt 64 ((9218868437227405312 : Nat) : Int)).toNat : Int) := rfl
    rw [e1, BitVec.ofInt_natCast, BitVec.ofInt_natCast, BitVec.toNat_and, BitVec.toNat_ofNat, Nat.mod_eq_of_lt (by omega)]
    have e2 : (~~~ BitVec.ofNat 64 9218868437227405312).toNat = 2 ^ 63 + (2 ^ 52 - 1) := by decide
    rw [e2]
    have e3 : X &&& (2 ^ 63 + (2 ^ 52 - 1)) = X % 2 ^ 52 := by
      have e4 : (2 ^ 63 + (2 ^ 52 - 1) : Nat) = 2 ^ 63 ||| (2 ^ 52 - 1) := by decide
      rw [e4, Nat.and_or_distrib_left, Nat.and_two_pow_sub_one_eq_mod]
      have e5 : X &&& 2 ^ 63 = 0 := by
        apply Nat.eq_of_testBit_eq
        intro i
        rw [Nat.testBit_and, Nat.testBit_two_pow, Nat.zero_testBit]
        by_cases hi : 63 = i
        · subst hi; rw [Nat.testBit_lt_two_pow (by omega)]; rfl
        · rw [decide_eq_false hi, Bool.and_false]
      rw [e5, Nat.zero_or]
    rw [e3, IntKind.wrap_u64]
    omega

/-- math.Ldexp of a whole number. -/
@[irreducible] def ldm (m : Nat) (k : Int) : Nat := min (rz 52 m (k + 1074)) 9218868437227405312

theorem ldx_ldm (m L f : Nat) (k : Int) (hk : -1075 ≤ k + L) (hf : f < 4503599627370496) (he : (4503599627370496 + f) * 2 ^ L = m * 4503599627370496) : ldx L f k = ldm m k := by
  rw [ldx_rz L f k hk (by omega) (by omega)]
  unfold ldm
  have e1 : rz 52 m (k + 1074) = rz 52 (m * 2 ^ 52) (k + 1022) := by rw [rz_shift]; congr 1; omega
  have e2 : m * 2 ^ 52 = (4503599627370496 + f) * 2 ^ L := he.symm
  rw [e1, e2, rz_shift, Int.toNat_natCast]
  have e3 : k + 1022 + (L : Int) = k + L + 1022 := by omega
  rw [e3]

set_option maxRecDepth 100000 in
set_option maxHeartbeats 400000 in
theorem ldexp_num (m : Nat) (k : Int) (w : World) (h1 : 1 ≤ m) (h2 : m ≤ 9007199254740992) (hk0 : -1074 ≤ k) (hk : k ≤ 10000) :
    Calls Tryz.prog 383 #[.float .f64 (fofi m), .int .i64 k] w fun e w' => e = .returned (.float .f64 (ldm m k)) ∧ w = w' := by
  obtain ⟨L, f, hL, hf, he, hX⟩ := fofi_parts m h1 h2
  obtain ⟨g1, g2, g3, g4, g5, g6, g7, g8⟩ := nrm_tests (nrm L f) L f (by unfold nrm; omega) hL hf
  rw [hX, ← ldx_ldm m L f k (by omega) hf he]
  have c := fun w => ldexp_any (nrm L f) L f k w g1 (by omega) (by omega) (by omega) (by omega) (by omega) hk g2 g3 g4 g5 g6 g7 g8
  clear g1 g2 g3 g4 g5 g6 g7 g8 hX he
  have C := Lib.hid c
  clear c
  generalize nrm L f = X at *
  go_enter Tryz.func383, Tryz.ntmps383
  go_wp2_with (first | (go_at_call 420; refine (C.out _).mono ?_; rintro e w' ⟨rfl, rfl⟩))
  go_ret
  exact ⟨rfl, rfl⟩
end Go.Proofs.YtefaedjjecfabaaGreat.Ten
