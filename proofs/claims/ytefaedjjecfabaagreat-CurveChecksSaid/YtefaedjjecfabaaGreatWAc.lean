/- Parts of the proof of CurveChecks: contracts of the functions that it reaches, and the plain laws under them (Ac Ad). Conditions: those that each theorem names. -/
import Derived.Shelf.Bits.Mul64
import Derived.Test.YtefaedjjecfabaaGreatWPa
import Derived.Test.YtefaedjjecfabaaGreatWDv
namespace Go.Proofs.YtefaedjjecfabaaGreat.Ten
open Go Go.RowKit
set_option exponentiation.threshold 5000

set_option maxRecDepth 100000 in
set_option maxHeartbeats 1000000 in
theorem mul64_any (x y : Nat) (hx : x < 18446744073709551616) (hy : y < 18446744073709551616) (w : World) :
    Calls Tryz.prog 264 #[.int .u64 x, .int .u64 y] w fun e w' => e = .returned (.tuple #[.int .u64 ((x * y / 18446744073709551616 : Nat) : Int), .int .u64 ((x * y % 18446744073709551616 : Nat) : Int)]) ∧ w = w' := by
  obtain ⟨bd, bt, bw, hhi⟩ := Lib.mul64_hi x y hx hy
  have ba := Lib.half_mul_le (a := x / 4294967296) (b := y / 4294967296) (by omega) (by omega)
  have bb := Lib.half_mul_le (a := x / 4294967296) (b := y % 4294967296) (by omega) (by omega)
  have bc := Lib.half_mul_le (a := x % 4294967296) (b := y / 4294967296) (by omega) (by omega)
  have ba' : x / 4294967296 * (y / 4294967296) < 18446744073709551616 := by omega
  have bb' : x / 4294967296 * (y % 4294967296) < 18446744073709551616 := by omega
  have bc' : x % 4294967296 * (y / 4294967296) < 18446744073709551616 := by omega
  have bh1 : x / 4294967296 * (y / 4294967296) + (x / 4294967296 * (y % 4294967296) + x % 4294967296 * (y % 4294967296) / 4294967296) / 4294967296 < 18446744073709551616 := by omega
  have bh : x / 4294967296 * (y / 4294967296) + (x / 4294967296 * (y % 4294967296) + x % 4294967296 * (y % 4294967296) / 4294967296) / 4294967296 + ((x / 4294967296 * (y % 4294967296) + x % 4294967296 * (y % 4294967296) / 4294967296) % 4294967296 + x % 4294967296 * (y / 4294967296)) / 4294967296 < 18446744073709551616 := by omega
  go_enter Tryz.func264, Tryz.ntmps264
  go_wp2
  simp only [Mul64.maskN x hx, Mul64.maskN y hy, Mul64.divN, Mul64.mulN, Mul64.addN, Mul64.wrapN _ bd, Mul64.wrapN _ bb', Mul64.wrapN _ bt, Mul64.maskN _ bt, Mul64.wrapN _ bc', Mul64.wrapN _ bw, Mul64.wrapN _ ba', Mul64.wrapN _ bh1, Mul64.wrapN _ bh, Mul64.wrapM (x * y)]
  rw [hhi]
  go_ret2
  exact ⟨rfl, rfl⟩

set_option maxRecDepth 100000 in
set_option maxHeartbeats 400000 in
theorem abs64_any (m : Int) (w : World) (h1 : -9223372036854775808 < m) (h2 : m ≤ 9223372036854775807) :
    Calls Tryz.prog 244 #[.int .i64 m] w fun e w' => e = .returned (.int .u64 (m.natAbs : Int)) ∧ w = w' := by
  by_cases hm : m < 0
  · have e : (m.natAbs : Int) = -m := by omega
    rw [e]
    go_enter Tryz.func244, Tryz.ntmps244
    go_wp2
    go_ret
    exact ⟨rfl, rfl⟩
  · have e : (m.natAbs : Int) = m := by omega
    rw [e]
    go_enter Tryz.func244, Tryz.ntmps244
    go_wp2
    go_ret
    exact ⟨rfl, rfl⟩

theorem spl_val (b : Nat) (hf : fin b = true) : (spm b).natAbs < 9007199254740992 ∧ -1074 ≤ spe b ∧ spe b ≤ 971 ∧ iv b = spm b * 2 ^ (spe b + 1074).toNat := by
  have hr : rungI b < 9218868437227405312 := by rw [fin_rungI] at hf; exact of_decide_eq_true hf
  have h0 : 0 ≤ rungI b := by rw [rungI_eq]; omega
  have hm := manI_bd b
  have hru : uu b = uv 52 (rung b) := rfl
  have hri : (rung b : Int) = rungI b := (rungI_eq b).symm
  by_cases h1 : rungI b < 4503599627370496
  · have e1 : uu b = rung b := by rw [hru]; unfold uv; rw [if_pos (by omega)]
    have hs : spm b = if sgn b then -rungI b else rungI b := by unfold spm; rw [if_pos h1]
    have hiv : iv b = spm b := by
      unfold iv; rw [e1, hs, hri]
    by_cases h2 : rungI b = 0
    · have he : spe b = 0 := by unfold spe; rw [if_pos h2]
      have hs0 : spm b = 0 := by rw [hs, h2]; split <;> rfl
      refine ⟨by rw [hs0]; decide, by omega, by omega, ?_⟩
      rw [hiv, hs0, Int.zero_mul]
    · have he : spe b = -1074 := by unfold spe; rw [if_neg h2, if_pos h1]
      refine ⟨by rw [hs]; split <;> omega, by omega, by omega, ?_⟩
      have e0 : (spe b + 1074).toNat = 0 := by omega
      rw [hiv, e0, Int.pow_zero, Int.mul_one]
  · have hs : spm b = if sgn b then -manI b else manI b := by unfold spm; rw [if_neg h1, if_pos hr]
    have he : spe b = rungI b / 4503599627370496 - 1075 := by unfold spe; rw [if_neg (by omega), if_neg h1, if_pos hr]
    have hbd : (spm b).natAbs < 9007199254740992 := by rw [hs]; split <;> omega
    have hbe : -1074 ≤ spe b ∧ spe b ≤ 971 := by omega
    have e2 : (spe b + 1074).toNat = rung b / 2 ^ 52 - 1 := by rw [he]; omega
    have e3 : (uu b : Int) = manI b * 2 ^ (spe b + 1074).toNat := by
      rw [hru, e2]
      unfold uv
      rw [if_neg (by omega), Int.natCast_mul, Int.natCast_pow]
      have : ((2 ^ 52 + rung b % 2 ^ 52 : Nat) : Int) = manI b := by unfold manI; omega
      rw [this, show ((2 : Nat) : Int) = 2 from rfl]
    refine ⟨hbd, hbe.1, hbe.2, ?_⟩
    unfold iv
    rw [hs, e3]
    cases sgn b
    · rw [if_neg Bool.false_ne_true, if_neg Bool.false_ne_true]
    · rw [if_pos rfl, if_pos rfl, Int.neg_mul]

theorem add_amt (T : Int) (b : Nat) (hf : fin b = true) : T + (if spm b < 0 then (-1) else 1) * ((0 * 18446744073709551616 + ((spm b).natAbs : Int)) * 2 ^ (spe b + 2148).toNat) = T + iv b * 2 ^ 1074 := by
  obtain ⟨h1, h2, h3, h4⟩ := spl_val b hf
  have e : (spe b + 2148).toNat = (spe b + 1074).toNat + 1074 := by omega
  rw [h4, e, Int.pow_add, Int.zero_mul, Int.zero_add]
  generalize (2 : Int) ^ (spe b + 1074).toNat = P
  generalize (2 : Int) ^ 1074 = Q
  split
  · have : ((spm b).natAbs : Int) = -spm b := by omega
    rw [this]; grind
  · have : ((spm b).natAbs : Int) = spm b := by omega
    rw [this]; grind

set_option maxRecDepth 100000 in
set_option maxHeartbeats 400000 in
theorem acc_add_any (g x : Nat) (T : Int) (u d : Bool) (w : World) (hx : x < 18446744073709551616) (hf : fin x = true) (hS : AccS w g T u d) :
    Calls Tryz.prog 132 #[.pointer (some ⟨g, 0, none⟩), .float .f64 x] w fun e w' => e = .returned (.tuple #[]) ∧ AccS w' g (T + iv x * 2 ^ 1074) u d ∧ w.grownBy w' (some g) := by
  have HA := Lib.hid (add_amt T x hf)
  obtain ⟨h1, h2, h3, h4⟩ := spl_val x hf
  have hb : finb x = true := by rw [finb_eq]; exact hf
  by_cases h0 : spm x = 0
  · have hz : iv x = 0 := by rw [h4, h0, Int.zero_mul]
    have HZ := Lib.hid hz
    clear hz h4
    have h0' : (spm x != 0) = false := by simp [h0]
    clear h0
    go_enter Tryz.func132, Tryz.ntmps132
    go_wp2_with (go_at_call 241; refine (split_any x _ hx).mono ?_; rintro e w' ⟨rfl, rfl⟩)
    go_end0
    refine ⟨rfl, ?_, World.grownBy.refl _ _⟩
    rw [HZ.out, Int.zero_mul, Int.add_zero]
    exact hS
  · have h0' : (spm x != 0) = true := by simp [h0]
    clear h4
    by_cases hn : spm x < 0
    · have hn' : decide (spm x < 0) = true := decide_eq_true hn
      have C := fun w hS => put_sub_any g 0 ((spm x).natAbs : Int) (spe x + 2148) T u d w (by omega) (by omega) (by omega) (by omega) (by omega) (by omega) hS
      have CC := Lib.hid C
      clear C
      go_enter Tryz.func132, Tryz.ntmps132
      go_wp2_with (first | (go_at_call 241; refine (split_any x _ hx).mono ?_; rintro e w' ⟨rfl, rfl⟩) | (go_at_call 244; refine (abs64_any (spm x) _ (by omega) (by omega)).mono ?_; rintro e w' ⟨rfl, rfl⟩))
      refine (CC.out _ hS).mono ?_
      rintro e w' ⟨rfl, h⟩
      go_wp2
      go_end0
      refine ⟨rfl, ?_⟩
      rw [← HA.out, if_pos hn]
      exact h
    · have hn' : decide (spm x < 0) = false := decide_eq_false hn
      have C := fun w hS => put_add_any g 0 ((spm x).natAbs : Int) (spe x + 2148) T u d w (by omega) (by omega) (by omega) (by omega) (by omega) (by omega) hS
      have CC := Lib.hid C
      clear C
      go_enter Tryz.func132, Tryz.ntmps132
      go_wp2_with (first | (go_at_call 241; refine (split_any x _ hx).mono ?_; rintro e w' ⟨rfl, rfl⟩) | (go_at_call 244; refine (abs64_any (spm x) _ (by omega) (by omega)).mono ?_; rintro e w' ⟨rfl, rfl⟩))
      refine (CC.out _ hS).mono ?_
      rintro e w' ⟨rfl, h⟩
      go_wp2
      go_end0
      refine ⟨rfl, ?_⟩
      rw [← HA.out, if_neg (Int.not_lt.2 hn)]
      exact h
end Go.Proofs.YtefaedjjecfabaaGreat.Ten

namespace Go.Proofs.YtefaedjjecfabaaGreat.Ten
open Go Go.RowKit
set_option exponentiation.threshold 5000

@[irreducible] def sg (b : Bool) : Int := if b then -1 else 1
theorem put_any (g : Nat) (hi lo n : Int) (T : Int) (u d neg : Bool) (w : World) (h1 : 0 ≤ hi) (h2 : hi < 18446744073709551616) (h3 : 0 ≤ lo) (h4 : lo < 18446744073709551616) (h5 : 0 ≤ n) (h6 : n ≤ 4160)
    (hS : AccS w g T u d) :
    Calls Tryz.prog 243 #[.pointer (some ⟨g, 0, none⟩), .int .u64 hi, .int .u64 lo, .int .i64 n, .bool neg] w fun e w' => e = .returned (.tuple #[]) ∧ AccS w' g (T + sg neg * ((hi * 18446744073709551616 + lo) * 2 ^ n.toNat)) u d ∧ w.grownBy w' (some g) := by
  unfold sg
  cases neg
  · rw [if_neg Bool.false_ne_true]; exact put_add_any g hi lo n T u d w h1 h2 h3 h4 h5 h6 hS
  · rw [if_pos rfl]; exact put_sub_any g hi lo n T u d w h1 h2 h3 h4 h5 h6 hS

theorem natAbs_if (m : Int) : (m.natAbs : Int) = if m < 0 then -m else m := by split <;> omega
theorem prod_amt (T : Int) (x y : Nat) (hx : fin x = true) (hy : fin y = true) :
    T + sg (decide (spm x < 0) != decide (spm y < 0)) * (((((spm x).natAbs * (spm y).natAbs / 18446744073709551616 : Nat) : Int) * 18446744073709551616 + (((spm x).natAbs * (spm y).natAbs % 18446744073709551616 : Nat) : Int)) * 2 ^ (spe x + spe y + 2148).toNat) = T + iv x * iv y := by
  obtain ⟨a1, a2, a3, a4⟩ := spl_val x hx
  obtain ⟨b1, b2, b3, b4⟩ := spl_val y hy
  have e : (spe x + spe y + 2148).toNat = (spe x + 1074).toNat + (spe y + 1074).toNat := by omega
  have e2 : (((spm x).natAbs * (spm y).natAbs / 18446744073709551616 : Nat) : Int) * 18446744073709551616 + (((spm x).natAbs * (spm y).natAbs % 18446744073709551616 : Nat) : Int) = ((spm x).natAbs : Int) * ((spm y).natAbs : Int) := by
    rw [← Int.natCast_mul]
    generalize (spm x).natAbs * (spm y).natAbs = p
    omega
  rw [e2, a4, b4, e, Int.pow_add]
  rw [natAbs_if, natAbs_if]
  clear e e2 a1 a2 a3 a4 b1 b2 b3 b4
  generalize (2 : Int) ^ (spe x + 1074).toNat = P
  generalize (2 : Int) ^ (spe y + 1074).toNat = Q
  generalize spm x = m
  generalize spm y = n
  unfold sg
  by_cases hm : m < 0 <;> by_cases hn : n < 0 <;> simp [hm, hn] <;> grind

set_option maxRecDepth 100000 in
set_option maxHeartbeats 1000000 in
theorem acc_prod_any (g x y : Nat) (T : Int) (u d : Bool) (w : World) (hx : x < 18446744073709551616) (hy : y < 18446744073709551616) (hf : fin x = true) (hfy : fin y = true) (hS : AccS w g T u d) :
    Calls Tryz.prog 162 #[.pointer (some ⟨g, 0, none⟩), .float .f64 x, .float .f64 y] w fun e w' => e = .returned (.tuple #[]) ∧ AccS w' g (T + iv x * iv y) u d ∧ w.grownBy w' (some g) := by
  have HA := Lib.hid (prod_amt T x y hf hfy)
  obtain ⟨a1, a2, a3, a4⟩ := spl_val x hf
  obtain ⟨b1, b2, b3, b4⟩ := spl_val y hfy
  have hbx : finb x = true := by rw [finb_eq]; exact hf
  have hby : finb y = true := by rw [finb_eq]; exact hfy
  have z0 : Hid (spm x = 0 ∨ spm y = 0 → iv x * iv y = 0) := by
    intro h
    rcases h with h | h
    · rw [a4, h, Int.zero_mul, Int.zero_mul]
    · rw [b4, h, Int.zero_mul, Int.mul_zero]
  clear a4 b4
  have CS := Lib.hid (fun w => split_any x w hx)
  have CT := Lib.hid (fun w => split_any y w hy)
  by_cases h0 : spm x = 0 ∨ spm y = 0
  · have hz := z0.out h0
    have HZ := Lib.hid hz
    clear hz z0
    have h0' : (spm x != 0 && spm y != 0) = false := by
      rcases h0 with h | h <;> simp [h]
    by_cases hx0 : spm x = 0
    · have hx0' : (spm x != 0) = false := by simp [hx0]
      clear h0 h0' hx0
      go_enter Tryz.func162, Tryz.ntmps162
      go_wp2_with fail
      refine (CS.out _).mono ?_; rintro e w' ⟨rfl, rfl⟩
      go_wp2_with fail
      refine (CT.out _).mono ?_; rintro e w' ⟨rfl, rfl⟩
      go_wp2_with fail
      go_end0
      refine ⟨rfl, ?_, World.grownBy.refl _ _⟩
      rw [HZ.out, Int.add_zero]
      exact hS
    · have hx0' : (spm x != 0) = true := by simp [hx0]
      have hy0 : spm y = 0 := by
        rcases h0 with h | h
        · exact absurd h hx0
        · exact h
      have hy0' : (spm y != 0) = false := by simp [hy0]
      clear h0 h0' hx0 hy0
      go_enter Tryz.func162, Tryz.ntmps162
      go_wp2_with fail
      refine (CS.out _).mono ?_; rintro e w' ⟨rfl, rfl⟩
      go_wp2_with fail
      refine (CT.out _).mono ?_; rintro e w' ⟨rfl, rfl⟩
      go_wp2_with fail
      go_end0
      refine ⟨rfl, ?_, World.grownBy.refl _ _⟩
      rw [HZ.out, Int.add_zero]
      exact hS
  · have hx0' : (spm x != 0) = true := by
      simp only [bne_iff_ne]; exact fun h => h0 (.inl h)
    have hy0' : (spm y != 0) = true := by
      simp only [bne_iff_ne]; exact fun h => h0 (.inr h)
    clear h0 z0
    have CX := Lib.hid (fun w => abs64_any (spm x) w (by omega) (by omega))
    have CY := Lib.hid (fun w => abs64_any (spm y) w (by omega) (by omega))
    have CM := Lib.hid (fun w => mul64_any (spm x).natAbs (spm y).natAbs (by omega) (by omega) w)
    have hpq : (spm x).natAbs * (spm y).natAbs < 18446744073709551616 * 18446744073709551616 := by
      have := Nat.mul_lt_mul'' a1 b1
      omega
    have hp0 : 0 ≤ (((spm x).natAbs * (spm y).natAbs / 18446744073709551616 : Nat) : Int) ∧ (((spm x).natAbs * (spm y).natAbs / 18446744073709551616 : Nat) : Int) < 18446744073709551616 := by
      generalize (spm x).natAbs * (spm y).natAbs = p at *
      omega
    have hp1 : 0 ≤ (((spm x).natAbs * (spm y).natAbs % 18446744073709551616 : Nat) : Int) ∧ (((spm x).natAbs * (spm y).natAbs % 18446744073709551616 : Nat) : Int) < 18446744073709551616 := by
      generalize (spm x).natAbs * (spm y).natAbs = p at *
      omega
    have CP := Lib.hid (fun (w : World) (hS : AccS w g T u d) => put_any g _ _ (spe x + spe y + 2148) T u d (decide (spm x < 0) != decide (spm y < 0)) w hp0.1 hp0.2 hp1.1 hp1.2 (by omega) (by omega) hS)
    clear hpq
    generalize hA : (((spm x).natAbs * (spm y).natAbs / 18446744073709551616 : Nat) : Int) = A at *
    generalize hB : (((spm x).natAbs * (spm y).natAbs % 18446744073709551616 : Nat) : Int) = B at *
    clear hA hB hp0 hp1 a1 b1
    go_enter Tryz.func162, Tryz.ntmps162
    go_wp2_with fail
    refine (CS.out _).mono ?_; rintro e w' ⟨rfl, rfl⟩
    go_wp2_with fail
    refine (CT.out _).mono ?_; rintro e w' ⟨rfl, rfl⟩
    go_wp2_with fail
    refine (CX.out _).mono ?_; rintro e w' ⟨rfl, rfl⟩
    go_wp2_with fail
    refine (CY.out _).mono ?_; rintro e w' ⟨rfl, rfl⟩
    go_wp2_with fail
    refine (CM.out _).mono ?_; rintro e w' ⟨rfl, rfl⟩
    go_wp2_with fail
    refine (CP.out _ hS).mono ?_; rintro e w' ⟨rfl, h⟩
    go_wp2_with fail
    go_end0
    refine ⟨rfl, ?_⟩
    rw [← HA.out]
    exact h
end Go.Proofs.YtefaedjjecfabaaGreat.Ten
