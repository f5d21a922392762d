/- Parts of the proof of CurveChecks: contracts of the functions that it reaches, and the plain laws under them (Px). Conditions: those that each theorem names. -/
import Derived.WalkKit
import Derived.Laws.Bits64
import Derived.Laws.BitsAllLaws
import Derived.Laws.BitsLemmas
import Derived.Test.YtefaedjjecfabaaGreatWIh
namespace Go.Proofs.YtefaedjjecfabaaGreat.Ten
open Go Go.RowKit

/-- What put adds. -/
theorem put_x (hi lo : Int) (r : Nat) (h1 : 0 ≤ hi) (h2 : hi < 18446744073709551616) (h3 : 0 ≤ lo) (h4 : lo < 18446744073709551616) (hr : r ≤ 63) :
    okw (IntKind.u64.wrap (lo * 2 ^ r)) ∧ okw (bits BinOp.or IntKind.u64 (IntKind.u64.wrap (hi * 2 ^ r)) (lo / 2 ^ (64 - r))) ∧ okw (hi / 2 ^ (64 - r)) ∧
    IntKind.u64.wrap (lo * 2 ^ r) + bits BinOp.or IntKind.u64 (IntKind.u64.wrap (hi * 2 ^ r)) (lo / 2 ^ (64 - r)) * 18446744073709551616 + hi / 2 ^ (64 - r) * 340282366920938463463374607431768211456 = (hi * 18446744073709551616 + lo) * 2 ^ r := by
  obtain ⟨H, rfl⟩ := Int.eq_ofNat_of_zero_le h1
  obtain ⟨L, rfl⟩ := Int.eq_ofNat_of_zero_le h3
  have hP : (2 : Int) ^ r = ((2 ^ r : Nat) : Int) := by simp
  have hQ : (2 : Int) ^ (64 - r) = ((2 ^ (64 - r) : Nat) : Int) := by simp
  have hPQ : 2 ^ r * 2 ^ (64 - r) = 18446744073709551616 := by rw [← Nat.pow_add, show r + (64 - r) = 64 by omega]
  have p1 := Nat.two_pow_pos r
  have p2 := Nat.two_pow_pos (64 - r)
  rw [hP, hQ, IntKind.wrap_u64, IntKind.wrap_u64]
  have eL : ((L : Int) * ((2 ^ r : Nat) : Int)) % 18446744073709551616 = ((L % 2 ^ (64 - r) * 2 ^ r : Nat) : Int) := by
    rw [← Int.natCast_mul]
    have : L * 2 ^ r % 18446744073709551616 = L % 2 ^ (64 - r) * 2 ^ r := by
      rw [← hPQ, Nat.mul_comm (2 ^ r) (2 ^ (64 - r)), Nat.mul_mod_mul_right]
    omega
  have eH : ((H : Int) * ((2 ^ r : Nat) : Int)) % 18446744073709551616 = ((H % 2 ^ (64 - r) * 2 ^ r : Nat) : Int) := by
    rw [← Int.natCast_mul]
    have : H * 2 ^ r % 18446744073709551616 = H % 2 ^ (64 - r) * 2 ^ r := by
      rw [← hPQ, Nat.mul_comm (2 ^ r) (2 ^ (64 - r)), Nat.mul_mod_mul_right]
    omega
  rw [eL, eH]
  have dL : (L : Int) / ((2 ^ (64 - r) : Nat) : Int) = ((L / 2 ^ (64 - r) : Nat) : Int) := by simp
  have dH : (H : Int) / ((2 ^ (64 - r) : Nat) : Int) = ((H / 2 ^ (64 - r) : Nat) : Int) := by simp
  rw [dL, dH]
  have q1 : L / 2 ^ (64 - r) < 2 ^ r := by rw [Nat.div_lt_iff_lt_mul p2]; omega
  have q2 : H / 2 ^ (64 - r) < 2 ^ r := by rw [Nat.div_lt_iff_lt_mul p2]; omega
  have q3 : H % 2 ^ (64 - r) < 2 ^ (64 - r) := Nat.mod_lt _ p2
  have q4 : L % 2 ^ (64 - r) < 2 ^ (64 - r) := Nat.mod_lt _ p2
  have b1 : H % 2 ^ (64 - r) * 2 ^ r + 2 ^ r ≤ 18446744073709551616 := by
    have : (H % 2 ^ (64 - r) + 1) * 2 ^ r ≤ 2 ^ (64 - r) * 2 ^ r := Nat.mul_le_mul_right _ q3
    have e : (H % 2 ^ (64 - r) + 1) * 2 ^ r = H % 2 ^ (64 - r) * 2 ^ r + 2 ^ r := by rw [Nat.add_mul, Nat.one_mul]
    have e2 : 2 ^ (64 - r) * 2 ^ r = 18446744073709551616 := by rw [Nat.mul_comm]; exact hPQ
    omega
  have b2 : L % 2 ^ (64 - r) * 2 ^ r + 2 ^ r ≤ 18446744073709551616 := by
    have : (L % 2 ^ (64 - r) + 1) * 2 ^ r ≤ 2 ^ (64 - r) * 2 ^ r := Nat.mul_le_mul_right _ q4
    have e : (L % 2 ^ (64 - r) + 1) * 2 ^ r = L % 2 ^ (64 - r) * 2 ^ r + 2 ^ r := by rw [Nat.add_mul, Nat.one_mul]
    have e2 : 2 ^ (64 - r) * 2 ^ r = 18446744073709551616 := by rw [Nat.mul_comm]; exact hPQ
    omega
  have eor : bits BinOp.or IntKind.u64 ((H % 2 ^ (64 - r) * 2 ^ r : Nat) : Int) ((L / 2 ^ (64 - r) : Nat) : Int) = ((H % 2 ^ (64 - r) * 2 ^ r + L / 2 ^ (64 - r) : Nat) : Int) := by
    rw [u64_or _ _ (Int.natCast_nonneg _) (Int.ofNat_lt.2 (show _ < 18446744073709551616 by omega)) (Int.natCast_nonneg _) (Int.ofNat_lt.2 (show _ < 18446744073709551616 by omega)), Int.toNat_natCast, Int.toNat_natCast]
    congr 1
    rw [Nat.mul_comm (H % 2 ^ (64 - r))]
    exact (Nat.two_pow_add_eq_or_of_lt (i := r) (b := L / 2 ^ (64 - r)) q1 (H % 2 ^ (64 - r))).symm
  rw [eor]
  have hH := Nat.div_add_mod H (2 ^ (64 - r))
  have hL := Nat.div_add_mod L (2 ^ (64 - r))
  have z1 : (0 : Int) ≤ ((H / 2 ^ (64 - r) : Nat) : Int) := Int.natCast_nonneg _
  have z2 : H / 2 ^ (64 - r) ≤ H := Nat.div_le_self _ _
  have z3 : L / 2 ^ (64 - r) ≤ L := Nat.div_le_self _ _
  generalize H / 2 ^ (64 - r) = a at *
  generalize H % 2 ^ (64 - r) = b at *
  generalize L / 2 ^ (64 - r) = c at *
  generalize L % 2 ^ (64 - r) = e at *
  refine ⟨⟨by omega, by omega⟩, ⟨by omega, by omega⟩, ⟨by omega, by omega⟩, ?_⟩
  have fin_ : e * 2 ^ r + (b * 2 ^ r + c) * 18446744073709551616 + a * 340282366920938463463374607431768211456 = (H * 18446744073709551616 + L) * 2 ^ r := by
    have e3 : 340282366920938463463374607431768211456 = 18446744073709551616 * (2 ^ r * 2 ^ (64 - r)) := by rw [hPQ]
    have e4 : c * 18446744073709551616 = c * (2 ^ r * 2 ^ (64 - r)) := by rw [hPQ]
    rw [e3, Nat.add_mul, e4, ← hH, ← hL]
    generalize 2 ^ r = P
    generalize 2 ^ (64 - r) = Q
    grind
  have := congrArg (fun n : Nat => (n : Int)) fin_
  simpa using this

end Go.Proofs.YtefaedjjecfabaaGreat.Ten
