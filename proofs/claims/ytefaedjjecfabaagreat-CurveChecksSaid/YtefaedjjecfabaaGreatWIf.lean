/- Parts of the proof of CurveChecks: contracts of the functions that it reaches, and the plain laws under them (If Ig). Conditions: those that each theorem names. -/
import Ieee.Arith
import Derived.Test.YtefaedjjecfabaaGreatWIe
namespace Go.Proofs.YtefaedjjecfabaaGreat.Ten
open Ieee

/-- A rung's value, in units. -/
def uv (p r : Nat) : Nat := if r < 2 ^ p then r else (2 ^ p + r % 2 ^ p) * 2 ^ (r / 2 ^ p - 1)

abbrev D : Format := Ieee.double
def SW : Nat := 9223372036854775808
def INF : Nat := 9218868437227405312
def NaNc : Nat := 9221120237041090561
def sgn (b : Nat) : Bool := b / 9223372036854775808 % 2 == 1
def rung (b : Nat) : Nat := b % 9223372036854775808
def isN (b : Nat) : Bool := decide (9218868437227405312 < rung b)
def isI (b : Nat) : Bool := decide (rung b = 9218868437227405312)
def fin (b : Nat) : Bool := decide (rung b < 9218868437227405312)
/-- All NaNs are one. -/
def cn (b : Nat) : Nat := if isN b then NaNc else b
def wd (neg : Bool) (r : Nat) : Nat := if neg then 9223372036854775808 + r else r
/-- a / b units, rounded, with a sign. -/
def rw' (neg : Bool) (a b : Nat) : Nat := wd neg (min (rq 52 a b) 9218868437227405312)
/-- The value in units of 2^-1074, without a sign; with one. -/
def uu (b : Nat) : Nat := uv 52 (rung b)
def iv (b : Nat) : Int := if sgn b then -(uu b : Int) else uu b

theorem D_sw : D.signWeight = 9223372036854775808 := by decide
theorem D_bin : D.binade = 2 ^ 52 := by decide
theorem D_inf : D.infRung = 9218868437227405312 := by decide
theorem D_least : D.leastPlace = -1074 := by decide
theorem D_fb : D.fractionBits = 52 := rfl
theorem D_word (neg : Bool) (r : Nat) : D.word neg r = wd neg r := by
  unfold Format.word wd; rw [D_sw]

theorem read_fin (b : Nat) (h : fin b = true) : ∃ m k : Nat, D.read b = .number (sgn b) m (-1074 + (k : Int)) ∧ m * 2 ^ k = uu b ∧ (m = 0 ↔ rung b = 0) := by
  have hf : rung b < 9218868437227405312 := of_decide_eq_true h
  unfold Format.read
  rw [D_sw, D_bin, D_inf, D_least]
  show ∃ m k : Nat, (if rung b < 2 ^ 52 then _ else _) = _ ∧ _
  by_cases h1 : rung b < 2 ^ 52
  · rw [if_pos h1]
    refine ⟨rung b, 0, by simp; exact ⟨rfl, rfl⟩, ?_, Iff.rfl⟩
    unfold uu uv; rw [if_pos h1]; simp
  · rw [if_neg h1]
    refine ⟨2 ^ 52 + rung b % 2 ^ 52, rung b / 2 ^ 52 - 1, ?_, ?_, ?_⟩
    · show (if rung b < 9218868437227405312 then _ else _) = _
      rw [if_pos hf]; rfl
    · unfold uu uv; rw [if_neg h1]
    · have := Nat.two_pow_pos 52; omega

theorem read_inf (b : Nat) (h : isI b = true) : D.read b = .infinity (sgn b) := by
  have hf : rung b = 9218868437227405312 := of_decide_eq_true h
  unfold Format.read
  rw [D_sw, D_bin, D_inf]
  show (if rung b < 2 ^ 52 then _ else if rung b < 9218868437227405312 then _ else if rung b = 9218868437227405312 then _ else _) = _
  rw [if_neg (by omega), if_neg (by omega), if_pos hf]; rfl

theorem read_nan (b : Nat) (h : isN b = true) : ∃ s t, D.read b = .nan s t := by
  have hf : 9218868437227405312 < rung b := of_decide_eq_true h
  unfold Format.read
  rw [D_sw, D_bin, D_inf]
  refine ⟨sgn b, rung b - 9218868437227405312, ?_⟩
  show (if rung b < 2 ^ 52 then _ else if rung b < 9218868437227405312 then _ else if rung b = 9218868437227405312 then _ else _) = _
  rw [if_neg (by omega), if_neg (by omega), if_neg (by omega)]; rfl

theorem three (b : Nat) : fin b = true ∨ isI b = true ∨ isN b = true := by
  unfold fin isI isN; simp only [decide_eq_true_eq]; omega

theorem fin_not (b : Nat) (h : fin b = true) : isI b = false ∧ isN b = false := by
  unfold fin at h; unfold isI isN; simp only [decide_eq_true_eq, decide_eq_false_iff_not] at *; omega
theorem inf_not (b : Nat) (h : isI b = true) : fin b = false ∧ isN b = false := by
  unfold isI at h; unfold fin isN; simp only [decide_eq_true_eq, decide_eq_false_iff_not] at *; omega
theorem nan_not (b : Nat) (h : isN b = true) : fin b = false ∧ isI b = false := by
  unfold isN at h; unfold fin isI; simp only [decide_eq_true_eq, decide_eq_false_iff_not] at *; omega

theorem nearest_D (neg : Bool) (m : Nat) (place : Int) (a b : Nat) (h : place + 1074 = (a : Int) - b) : D.nearest neg m place = rw' neg (m * 2 ^ a) (2 ^ b) := by
  rw [nearest_rz, D_word, D_inf, D_least, D_fb, rz_of 52 m (place - -1074) a b (by omega)]
  rfl

/-! ### the four operations, on finite numbers -/

theorem signed_iv (neg : Bool) (m : Nat) (k : Nat) : signed neg m k = if neg then -((m * 2 ^ k : Nat) : Int) else ((m * 2 ^ k : Nat) : Int) := by
  unfold signed; rw [Nat.shiftLeft_eq]

def fadd (x y : Nat) : Nat := (D.add x y).getD NaNc
def fsub (x y : Nat) : Nat := (D.sub x y).getD NaNc
def fmul (x y : Nat) : Nat := (D.mul x y).getD NaNc
def fdiv (x y : Nat) : Nat := (D.div x y).getD NaNc
def fneg (x : Nat) : Nat := x ^^^ 9223372036854775808

/-- An exact sum T of units: the float. -/
def rsum (both : Bool) (T : Int) : Nat := if T = 0 then wd both 0 else rw' (decide (T < 0)) T.natAbs 1

theorem sum_fin (s t : Bool) (m n i j : Nat) :
    (Datum.sum (.number s m (-1074 + (i : Int))) (.number t n (-1074 + (j : Int)))).map D.write =
      some (rsum (s && t) ((if s then -((m * 2 ^ i : Nat) : Int) else ((m * 2 ^ i : Nat) : Int)) + (if t then -((n * 2 ^ j : Nat) : Int) else ((n * 2 ^ j : Nat) : Int)))) := by
  have key : ∀ (b : Nat), b ≤ i → b ≤ j → (Datum.sum (.number s m (-1074 + (i : Int))) (.number t n (-1074 + (j : Int)))) =
      (let base := min (-1074 + (i : Int)) (-1074 + (j : Int))
       let total := signed s m (-1074 + (i : Int) - base).toNat + signed t n (-1074 + (j : Int) - base).toNat
       some (.number (if total = 0 then s && t else total < 0) total.natAbs base)) := fun _ _ _ => rfl
  rw [key 0 (by omega) (by omega)]
  clear key
  dsimp only
  generalize hb : min i j = b
  have e0 : min (-1074 + (i : Int)) (-1074 + (j : Int)) = -1074 + (b : Int) := by omega
  rw [e0]
  have e1 : (-1074 + (i : Int) - (-1074 + (b : Int))).toNat = i - b := by omega
  have e2 : (-1074 + (j : Int) - (-1074 + (b : Int))).toNat = j - b := by omega
  rw [e1, e2, signed_iv, signed_iv]
  have hi : m * 2 ^ i = m * 2 ^ (i - b) * 2 ^ b := by rw [Nat.mul_assoc, ← Nat.pow_add]; congr 2; omega
  have hj : n * 2 ^ j = n * 2 ^ (j - b) * 2 ^ b := by rw [Nat.mul_assoc, ← Nat.pow_add]; congr 2; omega
  rw [hi, hj]
  generalize m * 2 ^ (i - b) = M
  generalize n * 2 ^ (j - b) = N
  have hT : (if s = true then -((M * 2 ^ b : Nat) : Int) else ((M * 2 ^ b : Nat) : Int)) + (if t = true then -((N * 2 ^ b : Nat) : Int) else ((N * 2 ^ b : Nat) : Int)) =
      ((if s = true then -((M : Nat) : Int) else (M : Int)) + (if t = true then -((N : Nat) : Int) else (N : Int))) * ((2 ^ b : Nat) : Int) := by
    rw [Int.natCast_mul, Int.natCast_mul]
    generalize ((2 ^ b : Nat) : Int) = P
    cases s <;> cases t <;> simp <;> grind
  rw [hT]
  generalize hU : (if s = true then -((M : Nat) : Int) else (M : Int)) + (if t = true then -((N : Nat) : Int) else (N : Int)) = U
  have hp := Nat.two_pow_pos b
  unfold rsum
  show some (D.nearest _ _ _) = _
  congr 1
  rw [nearest_D _ _ _ b 0 (by omega), Nat.pow_zero]
  by_cases hz : U = 0
  · subst hz
    rw [if_pos rfl, if_pos (by simp)]
    simp [rw', rq_zero]
  · have hz' : ¬ U * ((2 ^ b : Nat) : Int) = 0 := by
      rw [Int.mul_eq_zero]; omega
    rw [if_neg hz, if_neg hz']
    have e3 : (U * ((2 ^ b : Nat) : Int)).natAbs = U.natAbs * 2 ^ b := by rw [Int.natAbs_mul, Int.natAbs_natCast]
    rw [e3]
    have e4 : decide (U * ((2 ^ b : Nat) : Int) < 0) = decide (U < 0) := by
      apply decide_eq_decide.2
      constructor
      · intro h
        rcases Int.lt_or_le U 0 with h1 | h1
        · exact h1
        · have := Int.mul_nonneg h1 (show (0 : Int) ≤ ((2 ^ b : Nat) : Int) by omega)
          omega
      · intro h
        exact Int.mul_neg_of_neg_of_pos h (by omega)
    rw [e4]

theorem fadd_fin (x y : Nat) (hx : fin x = true) (hy : fin y = true) : D.add x y = some (rsum (sgn x && sgn y) (iv x + iv y)) := by
  obtain ⟨m, i, h1, h2, _⟩ := read_fin x hx
  obtain ⟨n, j, h3, h4, _⟩ := read_fin y hy
  unfold Format.add
  rw [h1, h3, sum_fin, h2, h4]
  rfl

theorem fsub_fin (x y : Nat) (hx : fin x = true) (hy : fin y = true) : D.sub x y = some (rsum (sgn x && !sgn y) (iv x - iv y)) := by
  obtain ⟨m, i, h1, h2, _⟩ := read_fin x hx
  obtain ⟨n, j, h3, h4, _⟩ := read_fin y hy
  unfold Format.sub
  rw [h1, h3]
  show (Datum.sum (.number (sgn x) m (-1074 + (i : Int))) (.number (!sgn y) n (-1074 + (j : Int)))).map D.write = _
  rw [sum_fin, h2, h4]
  unfold iv
  cases sgn y <;> simp [Int.sub_eq_add_neg]

set_option exponentiation.threshold 5000 in
theorem fmul_fin (x y : Nat) (hx : fin x = true) (hy : fin y = true) : D.mul x y = some (rw' (sgn x ^^ sgn y) (uu x * uu y) (2 ^ 1074)) := by
  obtain ⟨m, i, h1, h2, _⟩ := read_fin x hx
  obtain ⟨n, j, h3, h4, _⟩ := read_fin y hy
  unfold Format.mul
  rw [h1, h3, ← h2, ← h4]
  show some (D.nearest _ _ _) = _
  congr 1
  rw [nearest_D _ _ _ (i + j) 1074 (by omega)]
  congr 1
  rw [Nat.pow_add]; grind

theorem log2_lt_two_pow_succ (n : Nat) : n < 2 ^ (n.log2 + 1) := Nat.lt_log2_self

set_option exponentiation.threshold 5000 in
theorem fdiv_fin (x y : Nat) (hx : fin x = true) (hy : fin y = true) (h0 : rung y ≠ 0) : D.div x y = some (rw' (sgn x ^^ sgn y) (uu x * 2 ^ 1074) (uu y)) := by
  obtain ⟨m, i, h1, h2, hm⟩ := read_fin x hx
  obtain ⟨n, j, h3, h4, hn⟩ := read_fin y hy
  have hn0 : n ≠ 0 := fun h => h0 (hn.1 h)
  unfold Format.div
  rw [h1, h3, ← h2, ← h4]
  have hq : Datum.quotient (D.fractionBits + 2) (.number (sgn x) m (-1074 + (i : Int))) (.number (sgn y) n (-1074 + (j : Int))) =
      some (.number (sgn x ^^ sgn y) (2 * ((m <<< (54 + n.log2 - m.log2)) / n) + ((m <<< (54 + n.log2 - m.log2)) % n != 0).toNat) (-1074 + (i : Int) - (-1074 + (j : Int)) - ((54 + n.log2 - m.log2 : Nat) : Int) - 1)) := by
    show (if n = 0 then _ else _) = _
    rw [if_neg hn0]; rfl
  rw [hq]
  clear hq
  show some (D.nearest _ _ _) = _
  congr 1
  generalize hk : 54 + n.log2 - m.log2 = k
  rw [Nat.shiftLeft_eq]
  have hnp : 0 < n := by omega
  have hst : ((m * 2 ^ k % n != 0).toNat) = (if m * 2 ^ k % n = 0 then 0 else 1) := by
    by_cases h : m * 2 ^ k % n = 0 <;> simp [h]
  rw [hst]
  by_cases hm0 : m = 0
  · subst hm0
    rw [Nat.zero_mul, Nat.zero_div, Nat.zero_mod, if_pos rfl, Nat.zero_mul]
    rw [nearest_rz, D_word, D_inf]
    simp [rz, rq_zero, rw']
  · have hQ : 2 ^ (52 + 1) ≤ m * 2 ^ k / n := by
      rw [Nat.le_div_iff_mul_le hnp]
      have h5 := Nat.log2_self_le hm0
      have h6 := log2_lt_two_pow_succ n
      have h7 : 2 ^ (52 + 1) * 2 ^ (n.log2 + 1) ≤ 2 ^ m.log2 * 2 ^ k := by
        rw [← Nat.pow_add, ← Nat.pow_add]; exact Nat.pow_le_pow_right (by omega) (by omega)
      have h8 : 2 ^ m.log2 * 2 ^ k ≤ m * 2 ^ k := Nat.mul_le_mul_right _ h5
      have h9 : 2 ^ (52 + 1) * n ≤ 2 ^ (52 + 1) * 2 ^ (n.log2 + 1) := Nat.mul_le_mul_left _ (Nat.le_of_lt h6)
      omega
    generalize hu : (i : Int) - j - k + 1074 = u
    rw [nearest_D _ _ _ u.toNat ((-u).toNat + 1) (by omega)]
    unfold rw'
    rw [rq_sticky 52 (m * 2 ^ k) n u.toNat (-u).toNat hnp (by omega) hQ]
    -- both are the same quotient
    have hcross : ∀ a b a' b' : Nat, 0 < b → 0 < b' → a * b' = a' * b → rq 52 a b = rq 52 a' b' := by
      intro a b a' b' hb hb' h
      have e1 : rq 52 (a * b') (b * b') = rq 52 a b := rq_scale 52 a b b' hb'
      have e2 : rq 52 (a' * b) (b' * b) = rq 52 a' b' := rq_scale 52 a' b' b hb
      rw [← e1, ← e2, h, Nat.mul_comm b b']
    rw [hcross _ _ (m * 2 ^ i * 2 ^ 1074) (n * 2 ^ j) (Nat.mul_pos hnp (Nat.two_pow_pos _)) (Nat.mul_pos hnp (Nat.two_pow_pos _))]
    have hexp : k + u.toNat + j = i + 1074 + (-u).toNat := by omega
    have e3 : m * 2 ^ k * 2 ^ u.toNat * (n * 2 ^ j) = m * n * 2 ^ (k + u.toNat + j) := by rw [Nat.pow_add, Nat.pow_add]; grind
    have e4 : m * 2 ^ i * 2 ^ 1074 * (n * 2 ^ (-u).toNat) = m * n * 2 ^ (i + 1074 + (-u).toNat) := by
      rw [Nat.pow_add, Nat.pow_add]
      generalize 2 ^ 1074 = P
      grind
    rw [e3, e4, hexp]

end Go.Proofs.YtefaedjjecfabaaGreat.Ten

namespace Go.Proofs.YtefaedjjecfabaaGreat.Ten
open Ieee

theorem uv_split (p r : Nat) : ∃ m s : Nat, uv p r = m * 2 ^ s ∧ r = s * 2 ^ p + m ∧ m < 2 ^ (p + 1) ∧ (s = 0 ∨ 2 ^ p ≤ m) := by
  have h2 : 2 ^ (p + 1) = 2 * 2 ^ p := by rw [Nat.pow_succ]; omega
  have hp := Nat.two_pow_pos p
  unfold uv
  split
  · rename_i h
    exact ⟨r, 0, by simp, by omega, by omega, .inl rfl⟩
  · rename_i h
    have hd := Nat.div_add_mod r (2 ^ p)
    have hm := Nat.mod_lt r hp
    have hge : 1 ≤ r / 2 ^ p := (Nat.le_div_iff_mul_le hp).2 (by omega)
    refine ⟨2 ^ p + r % 2 ^ p, r / 2 ^ p - 1, rfl, ?_, by omega, .inr (by omega)⟩
    obtain ⟨j, hj⟩ : ∃ j, r / 2 ^ p = j + 1 := ⟨r / 2 ^ p - 1, by omega⟩
    rw [hj] at hd ⊢
    have e : 2 ^ p * (j + 1) = j * 2 ^ p + 2 ^ p := by grind
    rw [Nat.add_sub_cancel]
    omega

theorem rq_uv (p r : Nat) : rq p (uv p r) 1 = r := by
  obtain ⟨m, s, h1, h2, h3, h4⟩ := uv_split p r
  have := rq_exact p m s 1 (by omega) h3 h4
  rw [Nat.mul_one, ← h1] at this
  rw [this, ← h2]

theorem rq_uv_mul (p r b : Nat) (hb : 0 < b) : rq p (uv p r * b) b = r := by
  have := rq_scale p (uv p r) 1 b hb
  rw [Nat.one_mul] at this
  rw [this, rq_uv]

theorem uv_lt (p : Nat) {a b : Nat} (h : a < b) : uv p a < uv p b := by
  rcases Nat.lt_or_ge (uv p a) (uv p b) with h1 | h1
  · exact h1
  · have := rq_mono p (a := uv p b) (b := 1) (a' := uv p a) (b' := 1) (by omega) (by omega) (by omega)
    rw [rq_uv, rq_uv] at this
    omega

theorem uv_le (p : Nat) {a b : Nat} (h : a ≤ b) : uv p a ≤ uv p b := by
  rcases Nat.lt_or_eq_of_le h with h1 | h1
  · exact Nat.le_of_lt (uv_lt p h1)
  · rw [h1]; exact Nat.le_refl _

theorem uv_zero (p : Nat) : uv p 0 = 0 := by
  unfold uv; rw [if_pos (Nat.two_pow_pos p)]

theorem sgn_rung (b : Nat) (h : b < 18446744073709551616) : b = wd (sgn b) (rung b) := by
  unfold wd sgn rung
  by_cases h1 : b / 9223372036854775808 % 2 = 1
  · rw [h1]; simp; omega
  · have : (b / 9223372036854775808 % 2 == 1) = false := by simp [h1]
    rw [this]; simp; omega

theorem sgn_wd (s : Bool) (r : Nat) (h : r < 9223372036854775808) : sgn (wd s r) = s := by
  unfold sgn wd
  cases s
  · rw [if_neg (by simp), Nat.div_eq_of_lt h]; rfl
  · rw [if_pos rfl]
    have : (9223372036854775808 + r) / 9223372036854775808 = 1 := by omega
    rw [this]; rfl
theorem rung_wd (s : Bool) (r : Nat) (h : r < 9223372036854775808) : rung (wd s r) = r := by
  unfold rung wd; split <;> omega
theorem wd_lt (s : Bool) (r : Nat) (h : r < 9223372036854775808) : wd s r < 18446744073709551616 := by
  unfold wd; split <;> omega

theorem rw_lt (s : Bool) (a b : Nat) : rw' s a b < 18446744073709551616 := wd_lt _ _ (by omega)
theorem rung_rw (s : Bool) (a b : Nat) : rung (rw' s a b) = min (rq 52 a b) 9218868437227405312 := rung_wd _ _ (by omega)
theorem sgn_rw (s : Bool) (a b : Nat) : sgn (rw' s a b) = s := sgn_wd _ _ (by omega)
theorem rw_not_nan (s : Bool) (a b : Nat) : isN (rw' s a b) = false := by
  unfold isN; rw [rung_rw]; simp; omega

/-- A finite float is what its value rounds to. -/
theorem rw_back (b : Nat) (hb : b < 18446744073709551616) (hf : fin b = true) (c : Nat) (hc : 0 < c) : rw' (sgn b) (uu b * c) c = b := by
  have h1 : rung b < 9218868437227405312 := of_decide_eq_true hf
  unfold rw' uu
  rw [rq_uv_mul _ _ _ hc, Nat.min_eq_left (by omega)]
  exact (sgn_rung b hb).symm

/-! ### order -/
theorem compare_lt_iff_lt {a b : Int} : compare a b = .lt ↔ a < b := by
  show compareOfLessAndEq a b = .lt ↔ _
  unfold compareOfLessAndEq
  split
  · simp [*]
  · split <;> simp [*]
theorem compare_eq_iff_eq {a b : Int} : compare a b = .eq ↔ a = b := by
  show compareOfLessAndEq a b = .eq ↔ _
  unfold compareOfLessAndEq
  split
  · simp; omega
  · split <;> simp [*]
theorem compare_gt_iff_gt {a b : Int} : compare a b = .gt ↔ b < a := by
  show compareOfLessAndEq a b = .gt ↔ _
  unfold compareOfLessAndEq
  split
  · simp; omega
  · split
    · simp; omega
    · simp; omega


def rk (b : Nat) : Int := if sgn b then -(rung b : Int) else rung b

theorem order_rk (x y : Nat) (hx : isN x = false) (hy : isN y = false) : D.order x y = some (compare (rk x) (rk y)) := by
  unfold Format.order
  rcases three x with fx | ix | nx
  · obtain ⟨m, i, h1, h2, _⟩ := read_fin x fx
    have lx : rung x < 9218868437227405312 := of_decide_eq_true fx
    rcases three y with fy | iy | ny
    · obtain ⟨n, j, h3, h4, _⟩ := read_fin y fy
      have ly : rung y < 9218868437227405312 := of_decide_eq_true fy
      rw [h1, h3]
      show some (compare (signed (sgn x) m (-1074 + (i : Int) - min (-1074 + (i : Int)) (-1074 + (j : Int))).toNat) (signed (sgn y) n (-1074 + (j : Int) - min (-1074 + (i : Int)) (-1074 + (j : Int))).toNat)) = _
      congr 1
      generalize hb : min i j = b
      have e0 : min (-1074 + (i : Int)) (-1074 + (j : Int)) = -1074 + (b : Int) := by omega
      rw [e0]
      have e1 : (-1074 + (i : Int) - (-1074 + (b : Int))).toNat = i - b := by omega
      have e2 : (-1074 + (j : Int) - (-1074 + (b : Int))).toNat = j - b := by omega
      rw [e1, e2, signed_iv, signed_iv]
      have hi : m * 2 ^ i = m * 2 ^ (i - b) * 2 ^ b := by rw [Nat.mul_assoc, ← Nat.pow_add]; congr 2; omega
      have hj : n * 2 ^ j = n * 2 ^ (j - b) * 2 ^ b := by rw [Nat.mul_assoc, ← Nat.pow_add]; congr 2; omega
      rw [hi] at h2
      rw [hj] at h4
      generalize m * 2 ^ (i - b) = M at *
      generalize n * 2 ^ (j - b) = N at *
      have hp := Nat.two_pow_pos b
      generalize 2 ^ b = P at *
      -- M * P = uv (rung x), N * P = uv (rung y)
      have lt1 : M < N ↔ rung x < rung y := by
        constructor
        · intro h
          rcases Nat.lt_or_ge (rung x) (rung y) with h5 | h5
          · exact h5
          · have := uv_le 52 h5
            have h6 : M * P < N * P := Nat.mul_lt_mul_of_pos_right h hp
            unfold uu at h2 h4; omega
        · intro h
          have := uv_lt 52 h
          unfold uu at h2 h4
          rw [← h2, ← h4] at this
          exact Nat.lt_of_mul_lt_mul_right this
      have lt2 : N < M ↔ rung y < rung x := by
        constructor
        · intro h
          rcases Nat.lt_or_ge (rung y) (rung x) with h5 | h5
          · exact h5
          · have := uv_le 52 h5
            have h6 : N * P < M * P := Nat.mul_lt_mul_of_pos_right h hp
            unfold uu at h2 h4; omega
        · intro h
          have := uv_lt 52 h
          unfold uu at h2 h4
          rw [← h2, ← h4] at this
          exact Nat.lt_of_mul_lt_mul_right this
      have z1 : M = 0 ↔ rung x = 0 := by
        constructor
        · intro h
          rcases Nat.eq_zero_or_pos (rung x) with h5 | h5
          · exact h5
          · have := uv_lt 52 h5
            rw [uv_zero] at this; unfold uu at h2; rw [← h2, h, Nat.zero_mul] at this; omega
        · intro h
          unfold uu at h2; rw [h, uv_zero] at h2
          rcases Nat.mul_eq_zero.1 h2 with h5 | h5 <;> omega
      have z2 : N = 0 ↔ rung y = 0 := by
        constructor
        · intro h
          rcases Nat.eq_zero_or_pos (rung y) with h5 | h5
          · exact h5
          · have := uv_lt 52 h5
            rw [uv_zero] at this; unfold uu at h4; rw [← h4, h, Nat.zero_mul] at this; omega
        · intro h
          unfold uu at h4; rw [h, uv_zero] at h4
          rcases Nat.mul_eq_zero.1 h4 with h5 | h5 <;> omega
      unfold rk
      generalize rung x = a at *
      generalize rung y = c at *
      have cmp : ∀ p q r s : Int, (p < q ↔ r < s) → (q < p ↔ s < r) → compare p q = compare r s := by
        intro p q r s h5 h6
        rcases Int.lt_trichotomy p q with h | h | h
        · rw [compare_lt_iff_lt.2 h, compare_lt_iff_lt.2 (h5.1 h)]
        · have : r = s := by omega
          rw [compare_eq_iff_eq.2 h, compare_eq_iff_eq.2 this]
        · rw [compare_gt_iff_gt.2 h, compare_gt_iff_gt.2 (h6.1 h)]
      apply cmp <;> cases sgn x <;> cases sgn y <;> simp <;> omega
    · rw [h1, read_inf y iy]
      have ly : rung y = 9218868437227405312 := of_decide_eq_true iy
      show some (if sgn y then Ordering.gt else Ordering.lt) = _
      congr 1
      unfold rk; rw [ly]
      cases sgn y
      · rw [if_neg (by simp)]; symm; rw [compare_lt_iff_lt]; simp; split <;> omega
      · rw [if_pos rfl]; symm; rw [compare_gt_iff_gt]; simp; split <;> omega
    · rw [hy] at ny; cases ny
  · have lx : rung x = 9218868437227405312 := of_decide_eq_true ix
    rw [read_inf x ix]
    rcases three y with fy | iy | ny
    · obtain ⟨n, j, h3, _, _⟩ := read_fin y fy
      have ly : rung y < 9218868437227405312 := of_decide_eq_true fy
      rw [h3]
      show some (if sgn x then Ordering.lt else Ordering.gt) = _
      congr 1
      unfold rk; rw [lx]
      cases sgn x
      · rw [if_neg (by simp)]; symm; rw [compare_gt_iff_gt]; simp; split <;> omega
      · rw [if_pos rfl]; symm; rw [compare_lt_iff_lt]; simp; split <;> omega
    · have ly : rung y = 9218868437227405312 := of_decide_eq_true iy
      rw [read_inf y iy]
      show some (compare (sgn y).toNat (sgn x).toNat) = _
      congr 1
      unfold rk; rw [lx, ly]
      cases sgn x <;> cases sgn y <;> decide
    · rw [hy] at ny; cases ny
  · rw [hx] at nx; cases nx

theorem order_nan (x y : Nat) (h : isN x = true ∨ isN y = true) : D.order x y = none := by
  unfold Format.order
  rcases h with h | h
  · obtain ⟨s, t, e⟩ := read_nan x h
    rw [e]; cases D.read y <;> rfl
  · obtain ⟨s, t, e⟩ := read_nan y h
    rw [e]; cases D.read x <;> rfl

def flt (x y : Nat) : Bool := !isN x && !isN y && decide (rk x < rk y)
def fle (x y : Nat) : Bool := !isN x && !isN y && decide (rk x ≤ rk y)
def feq (x y : Nat) : Bool := !isN x && !isN y && decide (rk x = rk y)

theorem order_lt (x y : Nat) : (D.order x y == some .lt) = flt x y := by
  unfold flt
  by_cases h : isN x = true ∨ isN y = true
  · rw [order_nan x y h]
    rcases h with h | h <;> simp [h]
  · have hx : isN x = false := by simpa using fun e => h (.inl e)
    have hy : isN y = false := by simpa using fun e => h (.inr e)
    rw [order_rk x y hx hy, hx, hy]
    rw [Bool.eq_iff_iff]
    simp [compare_lt_iff_lt]
theorem order_gt (x y : Nat) : (D.order x y == some .gt) = flt y x := by
  unfold flt
  by_cases h : isN x = true ∨ isN y = true
  · rw [order_nan x y h]
    rcases h with h | h <;> simp [h]
  · have hx : isN x = false := by simpa using fun e => h (.inl e)
    have hy : isN y = false := by simpa using fun e => h (.inr e)
    rw [order_rk x y hx hy, hx, hy]
    rw [Bool.eq_iff_iff]
    simp [compare_gt_iff_gt]
theorem order_eq (x y : Nat) : (D.order x y == some .eq) = feq x y := by
  unfold feq
  by_cases h : isN x = true ∨ isN y = true
  · rw [order_nan x y h]
    rcases h with h | h <;> simp [h]
  · have hx : isN x = false := by simpa using fun e => h (.inl e)
    have hy : isN y = false := by simpa using fun e => h (.inr e)
    rw [order_rk x y hx hy, hx, hy]
    rw [Bool.eq_iff_iff]
    simp
theorem fle_of (x y : Nat) : (flt x y || feq x y) = fle x y := by
  unfold flt feq fle
  cases isN x <;> cases isN y <;> simp
  rw [Bool.eq_iff_iff]; simp; omega
theorem order_ne (x y : Nat) : (D.order x y != some .eq) = !feq x y := by
  rw [← order_eq]; rfl
theorem order_le (x y : Nat) : (D.order x y == some .lt || D.order x y == some .eq) = fle x y := by
  rw [order_lt, order_eq, fle_of]
theorem order_ge (x y : Nat) : (D.order x y == some .gt || D.order x y == some .eq) = fle y x := by
  rw [order_gt, order_eq]
  have : feq x y = feq y x := by
    unfold feq
    cases isN x <;> cases isN y <;> simp
    omega
  rw [this, fle_of]

/-! ### canonical NaN -/
theorem isN_cn (b : Nat) : isN (cn b) = isN b := by
  unfold cn
  by_cases h : isN b = true
  · rw [if_pos h, h]; decide
  · rw [if_neg h]
theorem cn_of (b : Nat) (h : isN b = false) : cn b = b := by unfold cn; rw [h]; rfl
theorem cn_nan (b : Nat) (h : isN b = true) : cn b = NaNc := by unfold cn; rw [if_pos h]
theorem cn_cn (b : Nat) : cn (cn b) = cn b := by
  by_cases h : isN b = true
  · rw [cn_nan b h]; rfl
  · have h' : isN b = false := by simpa using h
    rw [cn_of b h', cn_of b h']
end Go.Proofs.YtefaedjjecfabaaGreat.Ten
