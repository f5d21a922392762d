/- Parts of the proof of CurveChecks: contracts of the functions that it reaches, and the plain laws under them (Dv). Conditions: those that each theorem names. -/
import Derived.RegionTactic
import Derived.BigRegion
import Derived.ChangeAlike
import Derived.LoopTactic
import Derived.BigQuiet
import Derived.Deep.QuietTactic
import Derived.Lib.Hide
import Derived.Test.YtefaedjjecfabaaGreatWPm
import Derived.Test.YtefaedjjecfabaaGreatWSh
import Derived.Test.YtefaedjjecfabaaGreatWDp
namespace Go.Proofs.YtefaedjjecfabaaGreat.Ten
open Go Go.RowKit

set_option maxRecDepth 100000 in
set_option maxHeartbeats 400000 in
theorem div64_small (lo y : Int) (w : World) (h1 : 0 ≤ lo) (h2 : lo < 18446744073709551616) (h3 : 1 ≤ y) (h4 : y < 18446744073709551616) :
    Calls Tryz.prog 321 #[.int .u64 0, .int .u64 lo, .int .u64 y] w fun e w' => e = .returned (.tuple #[.int .u64 (lo / y), .int .u64 (lo % y)]) ∧ w.drewN 1 = w' := by
  have h5 : (y == 0) = false := by rw [beq_eq_false_iff_ne]; omega
  go_enter Tryz.func321, Tryz.ntmps321
  go_wp2
  go_region
  go_wp2
  go_ret2
  exact ⟨rfl, rfl⟩

theorem dig_rng {un u1 yn1 yn0 q r : Int} (h3 : 0 ≤ yn0) (h4 : yn0 < 4294967296) (h : DigRel un u1 yn1 yn0 q r) :
    0 ≤ q ∧ q ≤ 4294967297 ∧ 0 ≤ r ∧ r < 4294967296 ∧ 0 ≤ q * yn0 ∧ q * yn0 ≤ 18446744073709551615 := by
  obtain ⟨g1, g2, g3, g4, g5, g6⟩ := h
  refine ⟨g3, g4, g5, g6, Int.mul_nonneg g3 h3, ?_⟩
  have e1 : q * yn0 ≤ 4294967297 * yn0 := Int.mul_le_mul_of_nonneg_right g4 h3
  omega
theorem dig_init {u32 yn1 : Int} (h0 : 0 ≤ u32) (h2 : u32 < 18446744073709551616) (h1 : 0 < yn1) : IntKind.u64.wrap (u32 - IntKind.u64.wrap (u32 / yn1 * yn1)) = u32 - u32 / yn1 * yn1 := by
  have hd := Int.mul_ediv_add_emod u32 yn1
  have hr0 := Int.emod_nonneg u32 (show yn1 ≠ 0 by omega)
  have hr1 := Int.emod_lt_of_pos u32 h1
  have e : u32 / yn1 * yn1 = yn1 * (u32 / yn1) := Int.mul_comm _ _
  have hq := Int.mul_nonneg (Int.le_of_lt h1) (Int.ediv_nonneg h0 (Int.le_of_lt h1))
  rw [e]
  generalize yn1 * (u32 / yn1) = p at *
  rw [IntKind.wrap_u64, IntKind.wrap_u64]; omega


theorem div_u21 {u32 un1 d1 yy u21 : Int} (h : u21 = u32 * 4294967296 + un1 - d1 * yy) (h0 : 0 ≤ u21) (h1 : u21 < 18446744073709551616) :
    IntKind.u64.wrap (IntKind.u64.wrap (IntKind.u64.wrap (u32 * 4294967296) + un1) - IntKind.u64.wrap (d1 * yy)) = u21 := by
  rw [IntKind.wrap_u64, IntKind.wrap_u64, IntKind.wrap_u64, IntKind.wrap_u64]
  generalize d1 * yy = p at *
  omega
theorem div_fin {a b c d : Int} {n : Nat} (h : a = b) (h3 : b / 2 ^ n = c % d) : a / 2 ^ n = c % d := by rw [h]; exact h3
theorem div_last {hi lo y yy : Int} (n : Nat) (hyy : yy = y * 2 ^ n) (u32 u10 : Int) (hu : u32 * 18446744073709551616 + u10 = (hi * 18446744073709551616 + lo) * 2 ^ n) :
    (u32 * 18446744073709551616 + u10) / yy = (hi * 18446744073709551616 + lo) / y ∧ (u32 * 18446744073709551616 + u10) % yy / 2 ^ n = (hi * 18446744073709551616 + lo) % y := by
  have hp : (0 : Int) < 2 ^ n := Int.pow_pos (by omega)
  rw [hu, hyy]
  refine ⟨Int.mul_ediv_mul_of_pos_left _ _ hp, ?_⟩
  rw [Int.mul_comm _ (2 ^ n), Int.mul_comm y, Int.mul_emod_mul_of_pos _ _ hp, Int.mul_ediv_cancel_left _ (by omega)]

set_option maxRecDepth 100000 in
set_option maxHeartbeats 2000000 in
theorem div64_big (hi lo y : Int) (w : World) (h0 : 0 < hi) (h1 : 0 ≤ lo) (h2 : lo < 18446744073709551616) (h3 : hi < y) (h4 : y < 18446744073709551616) :
    Calls Tryz.prog 321 #[.int .u64 hi, .int .u64 lo, .int .u64 y] w fun e w' => e = .returned (.tuple #[.int .u64 ((hi * 18446744073709551616 + lo) / y), .int .u64 ((hi * 18446744073709551616 + lo) % y)]) ∧ ∃ n, w' = w.drewN n := by
  obtain ⟨s, yy, u32, u10, hs, hs0, hs63, hyy, hyy2, hyy3, hyy4, hu32, hu10, p1, p2, p3, p4, p5⟩ := div_prep hi lo y (by omega) h1 h2 h3 h4
  obtain ⟨d1, u21, d0, j1, j2, j3, j4, j5, j6, j7, j8, j9, j10, j11⟩ := div_join u32 u10 yy hyy3 p1 p2 p3 p4
  have hl := div_last s.toNat hyy2 u32 u10 p5
  rw [← j10, ← j11] at hl
  have HLAST := Lib.hid hl
  clear hl
  have C := fun w => Tryz.bits_LeadingZeros64 y w (by omega) (by omega)
  rw [hs] at C
  have CC := Lib.hid C
  clear C hs
  have HY2 := Lib.hid hyy2; clear hyy2
  have HP5 := Lib.hid p5; clear p5
  have hy0 : (y == 0) = false := by rw [beq_eq_false_iff_ne]; omega
  have hi0 : (hi == 0) = false := by rw [beq_eq_false_iff_ne]; omega
  have hyn : ∃ yn1 yn0 : Int, yy / 4294967296 = yn1 ∧ bits .and .u64 yy 4294967295 = yn0 ∧ 2147483648 ≤ yn1 ∧ yn1 < 4294967296 ∧ 0 ≤ yn0 ∧ yn0 < 4294967296 ∧ yy = yn1 * 4294967296 + yn0 := by
    refine ⟨_, yy % 4294967296, rfl, ?_, by omega, by omega, by omega, by omega, by omega⟩
    rw [u64_and _ _ (by omega) (by omega) (by omega) (by omega)]
    have e : yy.toNat &&& (4294967295 : Int).toNat = yy.toNat % 4294967296 := Nat.and_two_pow_sub_one_eq_mod _ 32
    rw [e]; omega
  obtain ⟨yn1, yn0, hyn1, hyn0, n1, n2, n3, n4, n5⟩ := hyn
  have hun : ∃ un1 un0 : Int, u10 / 4294967296 = un1 ∧ bits .and .u64 u10 4294967295 = un0 ∧ 0 ≤ un1 ∧ un1 < 4294967296 ∧ 0 ≤ un0 ∧ un0 < 4294967296 ∧ un0 = u10 % 4294967296 := by
    refine ⟨_, u10 % 4294967296, rfl, ?_, by omega, by omega, by omega, by omega, rfl⟩
    rw [u64_and _ _ (by omega) (by omega) (by omega) (by omega)]
    have e : u10.toNat &&& (4294967295 : Int).toNat = u10.toNat % 4294967296 := Nat.and_two_pow_sub_one_eq_mod _ 32
    rw [e]; omega
  obtain ⟨un1, un0, hun1, hun0, m1, m2, m3, m4, m5⟩ := hun
  rw [hun1, n5] at j1
  rw [hun1] at j2
  rw [← m5, n5] at j5
  rw [← m5] at HLAST j11
  have hu21 := div_u21 j2 j3 (by omega)
  have hrm0 := Int.emod_nonneg (u32 * 18446744073709551616 + u10) (show yy ≠ 0 by omega)
  have hrm1 := Int.emod_lt_of_pos (u32 * 18446744073709551616 + u10) (show 0 < yy by omega)
  rw [← j11] at hrm0 hrm1
  have H0 := Lib.hid (div_u21 (u32 := u21) (un1 := un0) (d1 := d0) (yy := yy) rfl hrm0 (by omega))
  clear hrm0 hrm1 j10 j11
  have JR : Hid (d0 = (u21 * 4294967296 + un0) / (yn1 * 4294967296 + yn0)) := j5
  have JQ : Hid (d1 = (u32 * 4294967296 + un1) / (yn1 * 4294967296 + yn0)) := j1
  have HN5 := Lib.hid n5; clear n5 m5 j1 j2 j5
  have hyn1z : (yn1 == 0) = false := by rw [beq_eq_false_iff_ne]; omega
  have q0 : 0 ≤ u32 / yn1 := Int.ediv_nonneg p1 (by omega)
  have q1 : 0 ≤ u21 / yn1 := Int.ediv_nonneg j3 (by omega)
  go_enter Tryz.func321, Tryz.ntmps321
  go_wp2_with (go_at_call 382; refine (CC.out _).mono ?_; rintro e w' ⟨rfl, rfl⟩)
  have HD := Lib.hid (dig_start u32 un1 yn1 yn0 n1 n2 n3 n4 p1 (by rw [← HN5.out]; exact p2) m1 m2)
  have HD2 := Lib.hid (dig_start u21 un0 yn1 yn0 n1 n2 n3 n4 j3 (by rw [← HN5.out]; exact j4) m3 m4)
  rw [dig_init p1 (by omega) (by omega)]
  go_loop [15, 16] (fun q r => ∃ qi ri : Int, q = .int .u64 qi ∧ r = .int .u64 ri ∧ DigRel u32 un1 yn1 yn0 qi ri) (fun q _ => (intOf q).toNat)
  case atStart => exact ⟨_, _, rfl, rfl, HD.out⟩
  case round =>
    obtain ⟨q, r, rfl, rfl, hD⟩ := hrel
    obtain ⟨g1, g2, g3, g4, g5, g6⟩ := dig_rng n3 n4 hD
    by_cases hcq : 4294967296 ≤ q
    · obtain ⟨k1, k2, k3, k4, k5⟩ := dig_step n1 n2 n3 n4 p1 (by rw [← HN5.out]; exact p2) m1 m2 hD (.inl hcq)
      by_cases hfar : 4294967296 ≤ r + yn1
      · have hq := dig_far n1 n3 n4 p1 m1 k1 k2 k3 k4 hfar
        rw [← JQ.out] at hq
        obtain rfl : q = d1 + 1 := by omega
        clear k1 k2 hq hD HD
        go_wp2
        rw [dig_init j3 (by omega) (by omega)]
        go_loop [16, 18] (fun r q => ∃ qi ri : Int, q = .int .u64 qi ∧ r = .int .u64 ri ∧ DigRel u21 un0 yn1 yn0 qi ri) (fun _ q => (intOf q).toNat)
        case atStart => exact ⟨_, _, rfl, rfl, HD2.out⟩
        case round =>
          obtain ⟨q, r, rfl, rfl, hD⟩ := hrel
          obtain ⟨g1, g2, g3, g4, g5, g6⟩ := dig_rng n3 n4 hD
          by_cases hcq : 4294967296 ≤ q
          · obtain ⟨k1, k2, k3, k4, k5⟩ := dig_step n1 n2 n3 n4 j3 (by rw [← HN5.out]; exact j4) m3 m4 hD (.inl hcq)
            by_cases hfar : 4294967296 ≤ r + yn1
            · have hq := dig_far n1 n3 n4 j3 m3 k1 k2 k3 k4 hfar
              rw [← JR.out] at hq
              obtain rfl : q = d0 + 1 := by omega
              clear k1 k2 hq hD HD2
              go_wp2
              go_ret2
              exact ⟨ii_eq HLAST.out.1 (div_fin H0.out HLAST.out.2), 0, rfl⟩
            · have HDN := Lib.hid (show DigRel u21 un0 yn1 yn0 (q - 1) (r + yn1) from ⟨k1, k2, k3, by omega, k5, by omega⟩)
              clear k1 k2 hD HD2
              go_wp2
              go_round
              case rel => exact ⟨_, _, rfl, rfl, HDN.out⟩
              case measure => simp [intOf]; omega
          · by_cases hc : 4294967296 * r + un0 < q * yn0
            · obtain ⟨k1, k2, k3, k4, k5⟩ := dig_step n1 n2 n3 n4 j3 (by rw [← HN5.out]; exact j4) m3 m4 hD (.inr hc)
              by_cases hfar : 4294967296 ≤ r + yn1
              · have hq := dig_far n1 n3 n4 j3 m3 k1 k2 k3 k4 hfar
                rw [← JR.out] at hq
                obtain rfl : q = d0 + 1 := by omega
                clear k1 k2 hq hD HD2
                go_wp2
                go_ret2
                exact ⟨ii_eq HLAST.out.1 (div_fin H0.out HLAST.out.2), 0, rfl⟩
              · have HDN := Lib.hid (show DigRel u21 un0 yn1 yn0 (q - 1) (r + yn1) from ⟨k1, k2, k3, by omega, k5, by omega⟩)
                clear k1 k2 hD HD2
                go_wp2
                go_round
                case rel => exact ⟨_, _, rfl, rfl, HDN.out⟩
                case measure => simp [intOf]; omega
            · have hq := dig_stop n1 n3 j3 m3 hD.1 hD.2.1 (by omega)
              rw [← JR.out] at hq
              obtain rfl := hq
              clear hD HD2
              go_wp2
              go_ret2
              exact ⟨ii_eq HLAST.out.1 (div_fin H0.out HLAST.out.2), 0, rfl⟩
      · have HDN := Lib.hid (show DigRel u32 un1 yn1 yn0 (q - 1) (r + yn1) from ⟨k1, k2, k3, by omega, k5, by omega⟩)
        clear k1 k2 hD HD
        go_wp2
        go_round
        case rel => exact ⟨_, _, rfl, rfl, HDN.out⟩
        case measure => simp [intOf]; omega
    · by_cases hc : 4294967296 * r + un1 < q * yn0
      · obtain ⟨k1, k2, k3, k4, k5⟩ := dig_step n1 n2 n3 n4 p1 (by rw [← HN5.out]; exact p2) m1 m2 hD (.inr hc)
        by_cases hfar : 4294967296 ≤ r + yn1
        · have hq := dig_far n1 n3 n4 p1 m1 k1 k2 k3 k4 hfar
          rw [← JQ.out] at hq
          obtain rfl : q = d1 + 1 := by omega
          clear k1 k2 hq hD HD
          go_wp2
          rw [dig_init j3 (by omega) (by omega)]
          go_loop [16, 18] (fun r q => ∃ qi ri : Int, q = .int .u64 qi ∧ r = .int .u64 ri ∧ DigRel u21 un0 yn1 yn0 qi ri) (fun _ q => (intOf q).toNat)
          case atStart => exact ⟨_, _, rfl, rfl, HD2.out⟩
          case round =>
            obtain ⟨q, r, rfl, rfl, hD⟩ := hrel
            obtain ⟨g1, g2, g3, g4, g5, g6⟩ := dig_rng n3 n4 hD
            by_cases hcq : 4294967296 ≤ q
            · obtain ⟨k1, k2, k3, k4, k5⟩ := dig_step n1 n2 n3 n4 j3 (by rw [← HN5.out]; exact j4) m3 m4 hD (.inl hcq)
              by_cases hfar : 4294967296 ≤ r + yn1
              · have hq := dig_far n1 n3 n4 j3 m3 k1 k2 k3 k4 hfar
                rw [← JR.out] at hq
                obtain rfl : q = d0 + 1 := by omega
                clear k1 k2 hq hD HD2
                go_wp2
                go_ret2
                exact ⟨ii_eq HLAST.out.1 (div_fin H0.out HLAST.out.2), 0, rfl⟩
              · have HDN := Lib.hid (show DigRel u21 un0 yn1 yn0 (q - 1) (r + yn1) from ⟨k1, k2, k3, by omega, k5, by omega⟩)
                clear k1 k2 hD HD2
                go_wp2
                go_round
                case rel => exact ⟨_, _, rfl, rfl, HDN.out⟩
                case measure => simp [intOf]; omega
            · by_cases hc : 4294967296 * r + un0 < q * yn0
              · obtain ⟨k1, k2, k3, k4, k5⟩ := dig_step n1 n2 n3 n4 j3 (by rw [← HN5.out]; exact j4) m3 m4 hD (.inr hc)
                by_cases hfar : 4294967296 ≤ r + yn1
                · have hq := dig_far n1 n3 n4 j3 m3 k1 k2 k3 k4 hfar
                  rw [← JR.out] at hq
                  obtain rfl : q = d0 + 1 := by omega
                  clear k1 k2 hq hD HD2
                  go_wp2
                  go_ret2
                  exact ⟨ii_eq HLAST.out.1 (div_fin H0.out HLAST.out.2), 0, rfl⟩
                · have HDN := Lib.hid (show DigRel u21 un0 yn1 yn0 (q - 1) (r + yn1) from ⟨k1, k2, k3, by omega, k5, by omega⟩)
                  clear k1 k2 hD HD2
                  go_wp2
                  go_round
                  case rel => exact ⟨_, _, rfl, rfl, HDN.out⟩
                  case measure => simp [intOf]; omega
              · have hq := dig_stop n1 n3 j3 m3 hD.1 hD.2.1 (by omega)
                rw [← JR.out] at hq
                obtain rfl := hq
                clear hD HD2
                go_wp2
                go_ret2
                exact ⟨ii_eq HLAST.out.1 (div_fin H0.out HLAST.out.2), 0, rfl⟩
        · have HDN := Lib.hid (show DigRel u32 un1 yn1 yn0 (q - 1) (r + yn1) from ⟨k1, k2, k3, by omega, k5, by omega⟩)
          clear k1 k2 hD HD
          go_wp2
          go_round
          case rel => exact ⟨_, _, rfl, rfl, HDN.out⟩
          case measure => simp [intOf]; omega
      · have hq := dig_stop n1 n3 p1 m1 hD.1 hD.2.1 (by omega)
        rw [← JQ.out] at hq
        obtain rfl := hq
        clear hD HD
        go_wp2
        rw [dig_init j3 (by omega) (by omega)]
        go_loop [16, 18] (fun r q => ∃ qi ri : Int, q = .int .u64 qi ∧ r = .int .u64 ri ∧ DigRel u21 un0 yn1 yn0 qi ri) (fun _ q => (intOf q).toNat)
        case atStart => exact ⟨_, _, rfl, rfl, HD2.out⟩
        case round =>
          obtain ⟨q, r, rfl, rfl, hD⟩ := hrel
          obtain ⟨g1, g2, g3, g4, g5, g6⟩ := dig_rng n3 n4 hD
          by_cases hcq : 4294967296 ≤ q
          · obtain ⟨k1, k2, k3, k4, k5⟩ := dig_step n1 n2 n3 n4 j3 (by rw [← HN5.out]; exact j4) m3 m4 hD (.inl hcq)
            by_cases hfar : 4294967296 ≤ r + yn1
            · have hq := dig_far n1 n3 n4 j3 m3 k1 k2 k3 k4 hfar
              rw [← JR.out] at hq
              obtain rfl : q = d0 + 1 := by omega
              clear k1 k2 hq hD HD2
              go_wp2
              go_ret2
              exact ⟨ii_eq HLAST.out.1 (div_fin H0.out HLAST.out.2), 0, rfl⟩
            · have HDN := Lib.hid (show DigRel u21 un0 yn1 yn0 (q - 1) (r + yn1) from ⟨k1, k2, k3, by omega, k5, by omega⟩)
              clear k1 k2 hD HD2
              go_wp2
              go_round
              case rel => exact ⟨_, _, rfl, rfl, HDN.out⟩
              case measure => simp [intOf]; omega
          · by_cases hc : 4294967296 * r + un0 < q * yn0
            · obtain ⟨k1, k2, k3, k4, k5⟩ := dig_step n1 n2 n3 n4 j3 (by rw [← HN5.out]; exact j4) m3 m4 hD (.inr hc)
              by_cases hfar : 4294967296 ≤ r + yn1
              · have hq := dig_far n1 n3 n4 j3 m3 k1 k2 k3 k4 hfar
                rw [← JR.out] at hq
                obtain rfl : q = d0 + 1 := by omega
                clear k1 k2 hq hD HD2
                go_wp2
                go_ret2
                exact ⟨ii_eq HLAST.out.1 (div_fin H0.out HLAST.out.2), 0, rfl⟩
              · have HDN := Lib.hid (show DigRel u21 un0 yn1 yn0 (q - 1) (r + yn1) from ⟨k1, k2, k3, by omega, k5, by omega⟩)
                clear k1 k2 hD HD2
                go_wp2
                go_round
                case rel => exact ⟨_, _, rfl, rfl, HDN.out⟩
                case measure => simp [intOf]; omega
            · have hq := dig_stop n1 n3 j3 m3 hD.1 hD.2.1 (by omega)
              rw [← JR.out] at hq
              obtain rfl := hq
              clear hD HD2
              go_wp2
              go_ret2
              exact ⟨ii_eq HLAST.out.1 (div_fin H0.out HLAST.out.2), 0, rfl⟩
end Go.Proofs.YtefaedjjecfabaaGreat.Ten
