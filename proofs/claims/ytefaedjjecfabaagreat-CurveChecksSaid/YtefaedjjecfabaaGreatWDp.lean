/- Parts of the proof of CurveChecks: contracts of the functions that it reaches, and the plain laws under them (Dp). Conditions: those that each theorem names. -/
import Derived.Lib.BitFns
import Derived.Laws.BitsAllLaws
import Derived.Laws.BitsLemmas
import Derived.WalkKit
import Derived.Test.YtefaedjjecfabaaGreatWIh
import Derived.Test.YtefaedjjecfabaaGreatWPx
namespace Go.Proofs.YtefaedjjecfabaaGreat.Ten
open Go Go.RowKit

theorem bitLen_blen (x : Nat) (h : x < 2 ^ 64) : Lib.bitLen x = blen x := by
  unfold blen
  split
  · subst_vars; decide
  · rename_i h0
    have h1 := Nat.log2_self_le h0
    have h2 : x < 2 ^ (x.log2 + 1) := Nat.lt_log2_self
    rw [Lib.bitLen_shift x.log2 x h1 h]
    have e : x / 2 ^ x.log2 = 1 := by
      rw [Nat.div_eq_iff (Nat.two_pow_pos _)]
      rw [Nat.pow_succ] at h2
      omega
    rw [e]
    have : Lib.bitLen 1 = 1 := by decide
    omega

/-- The shift that makes y's first bit 1, and what it makes of the numbers. -/
theorem div_prep (hi lo y : Int) (h0 : 0 ≤ hi) (h1 : 0 ≤ lo) (h2 : lo < 18446744073709551616) (h3 : hi < y) (h4 : y < 18446744073709551616) :
    ∃ (s : Int) (yy u32 u10 : Int), (64 - (Lib.bitLen y.toNat : Int)) = s ∧ 0 ≤ s ∧ s ≤ 63 ∧ IntKind.u64.wrap (y * 2 ^ s.toNat) = yy ∧ yy = y * 2 ^ s.toNat ∧ 9223372036854775808 ≤ yy ∧ yy < 18446744073709551616 ∧
      bits .or .u64 (IntKind.u64.wrap (hi * 2 ^ s.toNat)) (lo / 2 ^ (64 - s).toNat) = u32 ∧ IntKind.u64.wrap (lo * 2 ^ s.toNat) = u10 ∧ 0 ≤ u32 ∧ u32 < yy ∧ 0 ≤ u10 ∧ u10 < 18446744073709551616 ∧
      u32 * 18446744073709551616 + u10 = (hi * 18446744073709551616 + lo) * 2 ^ s.toNat := by
  obtain ⟨Y, rfl⟩ := Int.eq_ofNat_of_zero_le (show 0 ≤ y by omega)
  have hY0 : Y ≠ 0 := by omega
  have hY : Y < 2 ^ 64 := by omega
  rw [Int.toNat_natCast, bitLen_blen Y hY]
  have b1 := blen_lt Y
  have b2 := le_blen Y hY0
  have b3 : blen Y ≤ 64 := by
    unfold blen; rw [if_neg hY0]
    have := (Nat.log2_lt hY0).2 hY
    omega
  have b4 : 1 ≤ blen Y := by unfold blen; rw [if_neg hY0]; omega
  obtain ⟨r, hr⟩ : ∃ r : Nat, r + blen Y = 64 := ⟨64 - blen Y, by omega⟩
  have hs : (64 - (blen Y : Int)) = r := by omega
  rw [hs]
  have t1 : ((r : Int)).toNat = r := Int.toNat_natCast r
  have t2 : (64 - (r : Int)).toNat = 64 - r := by omega
  have e64 : 2 ^ blen Y * 2 ^ r = 18446744073709551616 := by rw [← Nat.pow_add, show blen Y + r = 64 by omega]
  have e63 : 2 ^ (blen Y - 1) * 2 ^ r = 9223372036854775808 := by rw [← Nat.pow_add, show blen Y - 1 + r = 63 by omega]
  have y1 : Y * 2 ^ r < 18446744073709551616 := by rw [← e64]; exact Nat.mul_lt_mul_of_pos_right b1 (Nat.two_pow_pos r)
  have y2 : 9223372036854775808 ≤ Y * 2 ^ r := by rw [← e63]; exact Nat.mul_le_mul_right _ b2
  have hP : (2 : Int) ^ r = ((2 ^ r : Nat) : Int) := by simp
  obtain ⟨x0, x1, x2, x3⟩ := put_x hi lo r h0 (by omega) h1 h2 (by omega)
  have z : hi / 2 ^ (64 - r) = 0 := by
    refine Int.ediv_eq_zero_of_lt h0 ?_
    have e5 : (2 : Int) ^ (64 - r) = ((2 ^ blen Y : Nat) : Int) := by
      have : 64 - r = blen Y := by omega
      rw [this]; simp
    rw [e5]; omega
  rw [z, Int.zero_mul, Int.add_zero] at x3
  refine ⟨r, (Y : Int) * 2 ^ r, _, _, rfl, by omega, by omega, ?_, by rw [t1], ?_, ?_, rfl, rfl, ?_⟩
  · rw [t1, hP, ← Int.natCast_mul, IntKind.wrap_u64]; omega
  · rw [hP, ← Int.natCast_mul]; omega
  · rw [hP, ← Int.natCast_mul]; omega
  · rw [t1, t2]
    refine ⟨x1.1, ?_, x0.1, x0.2, by omega⟩
    -- below the divisor
    have x00 := x0.1
    have hlo : (hi * 18446744073709551616 + lo) * 2 ^ r < (Y : Int) * 2 ^ r * 18446744073709551616 := by
      have : (hi * 18446744073709551616 + lo) < Y * 18446744073709551616 := by omega
      have p : (0 : Int) < 2 ^ r := Int.pow_pos (by omega)
      have := Int.mul_lt_mul_of_pos_right this p
      have e6 : (Y : Int) * 18446744073709551616 * 2 ^ r = (Y : Int) * 2 ^ r * 18446744073709551616 := by grind
      omega
    omega

/-- One digit's loop: what holds at its head. -/
def DigRel (un u1 yn1 yn0 q r : Int) : Prop := q * yn1 + r = un ∧ (un * 4294967296 + u1) / (yn1 * 4294967296 + yn0) ≤ q ∧ 0 ≤ q ∧ q ≤ 4294967297 ∧ 0 ≤ r ∧ r < 4294967296

theorem dig_start (un u1 yn1 yn0 : Int) (h1 : 2147483648 ≤ yn1) (h2 : yn1 < 4294967296) (h3 : 0 ≤ yn0) (h4 : yn0 < 4294967296) (hu : 0 ≤ un) (hu2 : un < yn1 * 4294967296 + yn0) (h5 : 0 ≤ u1) (h6 : u1 < 4294967296) :
    DigRel un u1 yn1 yn0 (un / yn1) (un - un / yn1 * yn1) := by
  have hd := Int.mul_ediv_add_emod un yn1
  have hr0 := Int.emod_nonneg un (show yn1 ≠ 0 by omega)
  have hr1 := Int.emod_lt_of_pos un (show 0 < yn1 by omega)
  have hq0 : 0 ≤ un / yn1 := Int.ediv_nonneg hu (by omega)
  generalize un / yn1 = q at *
  generalize un % yn1 = r at *
  have e : q * yn1 = yn1 * q := Int.mul_comm _ _
  refine ⟨by omega, ?_, hq0, ?_, by omega, by omega⟩
  · -- the true digit is at most the guess
    have hy : 0 < yn1 * 4294967296 + yn0 := by omega
    apply Int.le_of_lt_add_one
    rw [Int.ediv_lt_iff_lt_mul hy]
    have e1 : (q + 1) * (yn1 * 4294967296 + yn0) = (yn1 * q) * 4294967296 + q * yn0 + yn1 * 4294967296 + yn0 := by grind
    have e2 : 0 ≤ q * yn0 := Int.mul_nonneg hq0 h3
    omega
  · -- at most 2^32 + 1
    apply Int.le_of_lt_add_one
    have : yn1 * q < yn1 * (4294967297 + 1) := by omega
    exact Int.lt_of_mul_lt_mul_left this (by omega)

/-- goes on: one less. -/
theorem dig_step {un u1 yn1 yn0 q r : Int} (h1 : 2147483648 ≤ yn1) (_h2 : yn1 < 4294967296) (_h3 : 0 ≤ yn0) (_h4 : yn0 < 4294967296) (hu : 0 ≤ un) (hu2 : un < yn1 * 4294967296 + yn0) (h5 : 0 ≤ u1) (h6 : u1 < 4294967296)
    (h : DigRel un u1 yn1 yn0 q r) (hc : 4294967296 ≤ q ∨ 4294967296 * r + u1 < q * yn0) :
    (q - 1) * yn1 + (r + yn1) = un ∧ (un * 4294967296 + u1) / (yn1 * 4294967296 + yn0) ≤ q - 1 ∧ 0 ≤ q - 1 ∧ q - 1 ≤ 4294967296 ∧ 0 ≤ r + yn1 := by
  obtain ⟨g1, g2, g3, g4, g5, g6⟩ := h
  have hy : 0 < yn1 * 4294967296 + yn0 := by omega
  have e0 : (q - 1) * yn1 = q * yn1 - yn1 := by grind
  have hlt : (un * 4294967296 + u1) / (yn1 * 4294967296 + yn0) < q := by
    rw [Int.ediv_lt_iff_lt_mul hy]
    have e1 : q * (yn1 * 4294967296 + yn0) = (q * yn1) * 4294967296 + q * yn0 := by grind
    rcases hc with hc | hc
    · have e2 : 4294967296 * (yn1 * 4294967296 + yn0) ≤ q * (yn1 * 4294967296 + yn0) := Int.mul_le_mul_of_nonneg_right hc (by omega)
      omega
    · omega
  have h0 : 0 ≤ (un * 4294967296 + u1) / (yn1 * 4294967296 + yn0) := Int.ediv_nonneg (by omega) (by omega)
  exact ⟨by omega, by omega, by omega, by omega, by omega⟩

/-- stops: just the digit. -/
theorem dig_stop {un u1 yn1 yn0 q r : Int} (h1 : 2147483648 ≤ yn1) (h3 : 0 ≤ yn0) (_hu : 0 ≤ un) (_h5 : 0 ≤ u1)
    (g1 : q * yn1 + r = un) (g2 : (un * 4294967296 + u1) / (yn1 * 4294967296 + yn0) ≤ q) (hc : q * yn0 ≤ 4294967296 * r + u1) :
    q = (un * 4294967296 + u1) / (yn1 * 4294967296 + yn0) := by
  have hy : 0 < yn1 * 4294967296 + yn0 := by omega
  have : q ≤ (un * 4294967296 + u1) / (yn1 * 4294967296 + yn0) := by
    rw [Int.le_ediv_iff_mul_le hy]
    have e1 : q * (yn1 * 4294967296 + yn0) = (q * yn1) * 4294967296 + q * yn0 := by grind
    omega
  omega
theorem dig_far {un u1 yn1 yn0 q r : Int} (h1 : 2147483648 ≤ yn1) (h3 : 0 ≤ yn0) (h4 : yn0 < 4294967296) (hu : 0 ≤ un) (h5 : 0 ≤ u1)
    (g1 : q * yn1 + r = un) (g2 : (un * 4294967296 + u1) / (yn1 * 4294967296 + yn0) ≤ q) (_gq0 : 0 ≤ q) (gq : q ≤ 4294967296) (hr : 4294967296 ≤ r) :
    q = (un * 4294967296 + u1) / (yn1 * 4294967296 + yn0) := by
  refine dig_stop h1 h3 hu h5 g1 g2 ?_
  have e1 : q * yn0 ≤ 4294967296 * yn0 := Int.mul_le_mul_of_nonneg_right gq h3
  omega

/-- Two digits make the quotient. -/
theorem div_join (u32 u10 yy : Int) (hy : 9223372036854775808 ≤ yy) (hu : 0 ≤ u32) (hu2 : u32 < yy) (h1 : 0 ≤ u10) (h2 : u10 < 18446744073709551616) :
    ∃ q1 u21 q0 : Int, q1 = (u32 * 4294967296 + u10 / 4294967296) / yy ∧ u21 = u32 * 4294967296 + u10 / 4294967296 - q1 * yy ∧ 0 ≤ u21 ∧ u21 < yy ∧ q0 = (u21 * 4294967296 + u10 % 4294967296) / yy ∧
      0 ≤ q1 ∧ q1 < 4294967296 ∧ 0 ≤ q0 ∧ q0 < 4294967296 ∧ q1 * 4294967296 + q0 = (u32 * 18446744073709551616 + u10) / yy ∧
      u21 * 4294967296 + u10 % 4294967296 - q0 * yy = (u32 * 18446744073709551616 + u10) % yy := by
  refine ⟨(u32 * 4294967296 + u10 / 4294967296) / yy, u32 * 4294967296 + u10 / 4294967296 - (u32 * 4294967296 + u10 / 4294967296) / yy * yy,
    ((u32 * 4294967296 + u10 / 4294967296 - (u32 * 4294967296 + u10 / 4294967296) / yy * yy) * 4294967296 + u10 % 4294967296) / yy, rfl, rfl, ?_⟩
  have hp : 0 < yy := by omega
  have a1 := Int.mul_ediv_add_emod (u32 * 4294967296 + u10 / 4294967296) yy
  have a2 := Int.emod_nonneg (u32 * 4294967296 + u10 / 4294967296) (show yy ≠ 0 by omega)
  have a3 := Int.emod_lt_of_pos (u32 * 4294967296 + u10 / 4294967296) hp
  have a4 : 0 ≤ (u32 * 4294967296 + u10 / 4294967296) / yy := Int.ediv_nonneg (by omega) (by omega)
  have a5 : (u32 * 4294967296 + u10 / 4294967296) / yy < 4294967296 := by
    rw [Int.ediv_lt_iff_lt_mul hp]; omega
  generalize (u32 * 4294967296 + u10 / 4294967296) / yy = q1 at *
  generalize (u32 * 4294967296 + u10 / 4294967296) % yy = r1 at *
  have e1 : u32 * 4294967296 + u10 / 4294967296 - q1 * yy = r1 := by
    have : q1 * yy = yy * q1 := Int.mul_comm _ _
    omega
  rw [e1]
  clear e1
  have b1 := Int.mul_ediv_add_emod (r1 * 4294967296 + u10 % 4294967296) yy
  have b2 := Int.emod_nonneg (r1 * 4294967296 + u10 % 4294967296) (show yy ≠ 0 by omega)
  have b3 := Int.emod_lt_of_pos (r1 * 4294967296 + u10 % 4294967296) hp
  have b4 : 0 ≤ (r1 * 4294967296 + u10 % 4294967296) / yy := Int.ediv_nonneg (by omega) (by omega)
  have b5 : (r1 * 4294967296 + u10 % 4294967296) / yy < 4294967296 := by
    rw [Int.ediv_lt_iff_lt_mul hp]; omega
  refine ⟨a2, a3, rfl, a4, a5, b4, b5, ?_, ?_⟩
  · generalize (r1 * 4294967296 + u10 % 4294967296) / yy = q0 at *
    generalize (r1 * 4294967296 + u10 % 4294967296) % yy = r0 at *
    have e : u32 * 18446744073709551616 + u10 = r0 + yy * (q1 * 4294967296 + q0) := by
      have : yy * (q1 * 4294967296 + q0) = yy * q1 * 4294967296 + yy * q0 := by grind
      omega
    rw [e, Int.add_mul_ediv_left _ _ (by omega), Int.ediv_eq_zero_of_lt b2 b3]; omega
  · generalize (r1 * 4294967296 + u10 % 4294967296) / yy = q0 at *
    generalize (r1 * 4294967296 + u10 % 4294967296) % yy = r0 at *
    have e : u32 * 18446744073709551616 + u10 = r0 + yy * (q1 * 4294967296 + q0) := by
      have : yy * (q1 * 4294967296 + q0) = yy * q1 * 4294967296 + yy * q0 := by grind
      omega
    rw [e, Int.add_mul_emod_self_left, Int.emod_eq_of_lt b2 b3]
    have : q0 * yy = yy * q0 := Int.mul_comm _ _
    omega
end Go.Proofs.YtefaedjjecfabaaGreat.Ten
