/- Parts of the proof of CurveChecks: contracts of the functions that it reaches, and the plain laws under them (Ih Vw Nr). Conditions: those that each theorem names. -/
import GoSem.Core.Float
import Derived.Test.YtefaedjjecfabaaGreatWIf
namespace Go.Proofs.YtefaedjjecfabaaGreat.Ten
open Ieee
set_option exponentiation.threshold 5000

theorem f64_format : FloatKind.f64.format = D := rfl

/-- float64(n). -/
def fofi (n : Int) : Nat := rw' (decide (n < 0)) (n.natAbs * 2 ^ 1074) 1

theorem nearest_int (n : Int) : FloatKind.f64.nearest n = fofi n := by
  show D.nearest (decide (n < 0)) n.natAbs 0 = _
  rw [nearest_D _ _ _ 1074 0 (by omega)]; rfl

theorem cut_down (way : Toward) (neg : Bool) (n drop : Nat) (hw : way = .zero ∨ way = .down) :
    way.cut neg n drop = n / 2 ^ drop + (if way = .down ∧ neg = true ∧ n % 2 ^ drop ≠ 0 then 1 else 0) := by
  unfold Toward.cut
  dsimp only
  have hg : (1 : Nat) <<< min drop (n.log2 + 2) = 2 ^ min drop (n.log2 + 2) := by rw [Nat.shiftLeft_eq, Nat.one_mul]
  rw [hg]
  have hdm : n / 2 ^ min drop (n.log2 + 2) = n / 2 ^ drop ∧ (n % 2 ^ min drop (n.log2 + 2) ≠ 0 ↔ n % 2 ^ drop ≠ 0) := by
    rcases Nat.le_total drop (n.log2 + 2) with h | h
    · rw [Nat.min_eq_left h]; exact ⟨rfl, Iff.rfl⟩
    · rw [Nat.min_eq_right h]
      have hn : n < 2 ^ (n.log2 + 1) := Nat.lt_log2_self
      have h2 : 2 ^ (n.log2 + 2) = 2 * 2 ^ (n.log2 + 1) := by rw [Nat.pow_succ 2 (n.log2 + 1)]; omega
      have h3 : 2 ^ (n.log2 + 2) ≤ 2 ^ drop := Nat.pow_le_pow_right (by omega) h
      rw [Nat.div_eq_of_lt (by omega), Nat.mod_eq_of_lt (by omega), Nat.div_eq_of_lt (show n < 2 ^ drop by omega), Nat.mod_eq_of_lt (show n < 2 ^ drop by omega)]
      exact ⟨rfl, Iff.rfl⟩
  rw [hdm.1]
  congr 1
  rcases hw with rfl | rfl
  · simp
  · by_cases h : n % 2 ^ drop = 0
    · have h' : n % 2 ^ min drop (n.log2 + 2) = 0 := by
        rcases Nat.eq_zero_or_pos (n % 2 ^ min drop (n.log2 + 2)) with h1 | h1
        · exact h1
        · exact absurd h (hdm.2.1 (by omega))
      simp [h, h']
    · have h' := hdm.2.2 h
      cases neg <;> simp [h, h']

theorem place_div (m k : Nat) : (m <<< (-1074 + (k : Int)).toNat) / 2 ^ (-(-1074 + (k : Int))).toNat = m * 2 ^ k / 2 ^ 1074 ∧
    ((m <<< (-1074 + (k : Int)).toNat) % 2 ^ (-(-1074 + (k : Int))).toNat ≠ 0 ↔ m * 2 ^ k % 2 ^ 1074 ≠ 0) := by
  rw [Nat.shiftLeft_eq]
  rcases Nat.le_total k 1074 with h | h
  · obtain ⟨d, hd⟩ : ∃ d, 1074 = k + d := ⟨1074 - k, by omega⟩
    have e1 : (-1074 + (k : Int)).toNat = 0 := by omega
    have e2 : (-(-1074 + (k : Int))).toNat = d := by omega
    rw [e1, e2, hd, Nat.pow_zero, Nat.mul_one, Nat.pow_add, Nat.mul_comm (2 ^ k) (2 ^ d), Nat.mul_div_mul_right _ _ (Nat.two_pow_pos k), Nat.mul_mod_mul_right]
    refine ⟨rfl, ?_⟩
    have := Nat.two_pow_pos k
    constructor
    · intro h1 h2; rcases Nat.mul_eq_zero.1 h2 with h3 | h3 <;> omega
    · intro h1 h2; exact h1 (by rw [h2, Nat.zero_mul])
  · obtain ⟨d, rfl⟩ : ∃ d, k = 1074 + d := ⟨k - 1074, by omega⟩
    have e1 : (-1074 + ((1074 + d : Nat) : Int)).toNat = d := by omega
    have e2 : (-(-1074 + ((1074 + d : Nat) : Int))).toNat = 0 := by omega
    rw [e1, e2, Nat.pow_zero, Nat.div_one, Nat.mod_one]
    have e3 : m * 2 ^ (1074 + d) = (m * 2 ^ d) * 2 ^ 1074 := by rw [Nat.pow_add]; generalize 2 ^ 1074 = P; grind
    rw [e3, Nat.mul_div_cancel _ (Nat.two_pow_pos 1074), Nat.mul_mod_left]
    exact ⟨rfl, Iff.rfl⟩

/-- int64(x), cut towards 0. -/
def ftrunc (b : Nat) : Int := if sgn b then -((uu b / 2 ^ 1074 : Nat) : Int) else ((uu b / 2 ^ 1074 : Nat) : Int)

theorem toInt_zero (b : Nat) (h : fin b = true) : (FloatKind.f64.decode b).toInt .zero = some (ftrunc b) := by
  obtain ⟨m, k, h1, h2, _⟩ := read_fin b h
  show (D.read b).toInt .zero = _
  rw [h1]
  show some (signed (sgn b) (Toward.zero.cut (sgn b) (m <<< (-1074 + (k : Int)).toNat) (-(-1074 + (k : Int))).toNat) 0) = _
  rw [cut_down _ _ _ _ (.inl rfl), signed_iv, (place_div m k).1, h2]
  simp [ftrunc]

/-- The greatest whole number not above, as a whole number. -/
def fflr (b : Nat) : Int := if sgn b then -(((uu b + (2 ^ 1074 - 1)) / 2 ^ 1074 : Nat) : Int) else ((uu b / 2 ^ 1074 : Nat) : Int)

/-- math.Floor of a finite float. -/
def ffloor (b : Nat) : Nat := rw' (sgn b) ((fflr b).natAbs * 2 ^ 1074) 1

theorem ceil_div (a c : Nat) (hc : 0 < c) : a / c + (if a % c ≠ 0 then 1 else 0) = (a + (c - 1)) / c := by
  have h := Nat.div_add_mod a c
  have hm := Nat.mod_lt a hc
  generalize a / c = q at *
  generalize a % c = r at *
  subst h
  have e0 : c * q + r + (c - 1) = (r + (c - 1)) + c * q := by omega
  rw [e0, Nat.add_mul_div_left _ _ hc]
  by_cases h0 : r = 0
  · subst h0
    rw [if_neg (by simp), Nat.div_eq_of_lt (show 0 + (c - 1) < c by omega)]; omega
  · rw [if_pos h0]
    have : (r + (c - 1)) / c = 1 := by
      have e1 : r + (c - 1) = (r - 1) + c := by omega
      rw [e1, Nat.add_div_right _ hc, Nat.div_eq_of_lt (show r - 1 < c by omega)]
    omega

theorem floor_down (b : Nat) (h : fin b = true) : FloatKind.f64.encode ((FloatKind.f64.decode b).integral .down) = ffloor b := by
  obtain ⟨m, k, h1, h2, _⟩ := read_fin b h
  show D.write ((D.read b).integral .down) = _
  rw [h1]
  show D.nearest (sgn b) (Toward.down.cut (sgn b) (m <<< (-1074 + (k : Int)).toNat) (-(-1074 + (k : Int))).toNat) 0 = _
  rw [nearest_D _ _ _ 1074 0 (by omega), cut_down _ _ _ _ (.inr rfl), (place_div m k).1, h2]
  unfold ffloor fflr
  have hp : 0 < 2 ^ 1074 := Nat.two_pow_pos _
  have e := ceil_div (uu b) (2 ^ 1074) hp
  have hiff := (place_div m k).2
  rw [h2] at hiff
  generalize 2 ^ 1074 = P at *
  cases sgn b
  · simp only [Bool.false_eq_true, false_and, and_false, if_false, Nat.add_zero, Int.natAbs_natCast]
  · rw [← e]
    simp only [if_pos, true_and, Int.natAbs_neg, Int.natAbs_natCast, hiff]

end Go.Proofs.YtefaedjjecfabaaGreat.Ten

namespace Go.Proofs.YtefaedjjecfabaaGreat.Ten

/-- Words, the lowest first, as one number. -/
def V : List Int → Int
  | [] => 0
  | x :: l => x + 18446744073709551616 * V l

def M64 : Int := 18446744073709551616
def okw (x : Int) : Prop := 0 ≤ x ∧ x < 18446744073709551616
def okws (l : List Int) : Prop := ∀ x ∈ l, okw x

theorem V_set (l : List Int) (i : Nat) (x : Int) (h : i < l.length) : V (l.set i x) = V l + (x - l[i]) * (18446744073709551616 : Int) ^ i := by
  induction l generalizing i with
  | nil => simp at h
  | cons a l ih =>
    cases i with
    | zero => simp [V]; omega
    | succ i =>
      simp only [List.set_cons_succ, V, List.getElem_cons_succ]
      rw [ih i (by simpa using h), Int.pow_succ]
      generalize l[i]'(by simpa using h) = y
      generalize (18446744073709551616 : Int) ^ i = P
      grind

theorem V_nonneg (l : List Int) (h : okws l) : 0 ≤ V l := by
  induction l with
  | nil => simp [V]
  | cons a l ih =>
    have h1 := h a (by simp)
    have h2 := ih (fun x hx => h x (by simp [hx]))
    unfold okw at h1
    simp only [V]; omega

theorem V_lt (l : List Int) (h : okws l) : V l < (18446744073709551616 : Int) ^ l.length := by
  induction l with
  | nil => simp [V]
  | cons a l ih =>
    have h1 := h a (by simp)
    have h2 := ih (fun x hx => h x (by simp [hx]))
    unfold okw at h1
    simp only [V, List.length_cons, Int.pow_succ]
    generalize (18446744073709551616 : Int) ^ l.length = P at *
    omega

theorem okws_set (l : List Int) (i : Nat) (x : Int) (h : okws l) (hx : okw x) : okws (l.set i x) := by
  intro y hy
  rcases List.mem_or_eq_of_mem_set hy with h1 | h1
  · exact h y h1
  · rw [h1]; exact hx

/-- the first j of three words. -/
def xp (x0 x1 x2 : Int) (j : Nat) : Int := if j = 0 then 0 else if j = 1 then x0 else if j = 2 then x0 + x1 * 18446744073709551616 else x0 + x1 * 18446744073709551616 + x2 * 340282366920938463463374607431768211456
def xw (x0 x1 x2 : Int) (j : Nat) : Int := if j = 0 then x0 else if j = 1 then x1 else if j = 2 then x2 else 0

theorem xp_succ (x0 x1 x2 : Int) (j : Nat) : xp x0 x1 x2 (j + 1) = xp x0 x1 x2 j + xw x0 x1 x2 j * (18446744073709551616 : Int) ^ j := by
  unfold xp xw
  rcases j with _ | _ | _ | j
  · simp
  · simp
  · simp
  · rw [if_neg (by omega), if_neg (by omega), if_neg (by omega), if_neg (by omega), if_neg (by omega), if_neg (by omega), if_neg (by omega), if_neg (by omega), if_neg (by omega)]
    omega

/-- One word added: what holds ahead of it holds behind it. -/
theorem add_step (ws0 ws : List Int) (k j : Nat) (x0 x1 x2 c : Int) (hl : k + j < ws.length)
    (h : V ws + c * (18446744073709551616 : Int) ^ (k + j) = V ws0 + xp x0 x1 x2 j * (18446744073709551616 : Int) ^ k) :
    V (ws.set (k + j) ((ws[k + j] + xw x0 x1 x2 j + c) % 18446744073709551616)) + ((ws[k + j] + xw x0 x1 x2 j + c) / 18446744073709551616) * (18446744073709551616 : Int) ^ (k + j + 1) =
      V ws0 + xp x0 x1 x2 (j + 1) * (18446744073709551616 : Int) ^ k := by
  rw [V_set _ _ _ hl, xp_succ, Int.pow_succ]
  generalize ws[k + j] = a
  generalize xw x0 x1 x2 j = x
  rw [Int.pow_add] at *
  have hd := Int.mul_ediv_add_emod (a + x + c) 18446744073709551616
  generalize (a + x + c) % 18446744073709551616 = r at *
  generalize (a + x + c) / 18446744073709551616 = q at *
  generalize (18446744073709551616 : Int) ^ k = P at *
  generalize (18446744073709551616 : Int) ^ j = Q at *
  generalize xp x0 x1 x2 j = y at *
  have : r = a + x + c - 18446744073709551616 * q := by omega
  subst this
  grind

theorem sub_step (ws0 ws : List Int) (k j : Nat) (x0 x1 x2 c : Int) (hl : k + j < ws.length)
    (h : V ws - c * (18446744073709551616 : Int) ^ (k + j) = V ws0 - xp x0 x1 x2 j * (18446744073709551616 : Int) ^ k) (b r : Int)
    (hb : r - 18446744073709551616 * b = ws[k + j] - xw x0 x1 x2 j - c) :
    V (ws.set (k + j) r) - b * (18446744073709551616 : Int) ^ (k + j + 1) =
      V ws0 - xp x0 x1 x2 (j + 1) * (18446744073709551616 : Int) ^ k := by
  rw [V_set _ _ _ hl, xp_succ, Int.pow_succ]
  generalize ws[k + j] = a at *
  generalize xw x0 x1 x2 j = x at *
  rw [Int.pow_add] at *
  generalize (18446744073709551616 : Int) ^ k = P at *
  generalize (18446744073709551616 : Int) ^ j = Q at *
  generalize xp x0 x1 x2 j = y at *
  have : r = a - x - c + 18446744073709551616 * b := by omega
  subst this
  grind
end Go.Proofs.YtefaedjjecfabaaGreat.Ten

namespace Go.Proofs.YtefaedjjecfabaaGreat.Ten
set_option exponentiation.threshold 5000

theorem rq_carry (p m s b : Nat) (hb : 0 < b) (hm : m ≤ 2 ^ (p + 1)) (hs : s = 0 ∨ 2 ^ p ≤ m) : rq p (m * 2 ^ s * b) b = s * 2 ^ p + m := by
  rcases Nat.lt_or_eq_of_le hm with h | h
  · exact rq_exact p m s b hb h hs
  · subst h
    have e : 2 ^ (p + 1) * 2 ^ s = 2 ^ p * 2 ^ (s + 1) := by rw [Nat.pow_succ, Nat.pow_succ]; grind
    rw [e, rq_exact p (2 ^ p) (s + 1) b hb (Nat.pow_lt_pow_right (by omega) (by omega)) (.inr (Nat.le_refl _)), Nat.pow_succ]
    grind

/-- How many bits. -/
def blen (n : Nat) : Nat := if n = 0 then 0 else n.log2 + 1

theorem blen_lt (n : Nat) : n < 2 ^ blen n := by
  unfold blen; split
  · subst_vars; simp
  · exact Nat.lt_log2_self
theorem le_blen (n : Nat) (h : n ≠ 0) : 2 ^ (blen n - 1) ≤ n := by
  unfold blen; rw [if_neg h]; simpa using Nat.log2_self_le h

theorem near_s (Q k : Nat) (hk : k = max (blen Q - 53) 1074) : (Q / 2 ^ 1074).log2 - 52 = k - 1074 := by
  rw [log2_div_pow]
  unfold blen at hk
  split at hk
  · subst_vars; simp [Nat.log2_zero]
  · omega

/-- The number that near rounds to, in bits dropped and kept. -/
def nearm (T n Q j : Nat) : Nat := Q / 2 ^ (j + 1) + (if Q / 2 ^ j % 2 = 1 ∧ (Q % 2 ^ j ≠ 0 ∨ T % n ≠ 0 ∨ Q / 2 ^ (j + 1) % 2 = 1) then 1 else 0)

theorem nearm_rhe (T n j : Nat) (hn : 0 < n) : nearm T n (T / n) j = rhe T (n * 2 ^ (j + 1)) := (rhe_bits T n j hn).symm

theorem near_rq (T n j : Nat) (hn : 0 < n) (hk : j + 1 = max (blen (T / n) - 53) 1074) :
    rq 52 T (n * 2 ^ 1074) = (j + 1 - 1074) * 2 ^ 52 + nearm T n (T / n) j := by
  rw [nearm_rhe T n j hn]
  unfold rq
  have e1 : T / (n * 2 ^ 1074) = T / n / 2 ^ 1074 := (Nat.div_div_eq_div_mul T n _).symm
  rw [e1, near_s _ _ hk]
  have e2 : n * 2 ^ 1074 * 2 ^ (j + 1 - 1074) = n * 2 ^ (j + 1) := by
    rw [Nat.mul_assoc, ← Nat.pow_add, show 1074 + (j + 1 - 1074) = j + 1 by omega]
  rw [e2]

theorem nearm_bd (T n j : Nat) (hn : 0 < n) (hk : j + 1 = max (blen (T / n) - 53) 1074) :
    nearm T n (T / n) j ≤ 2 ^ 53 ∧ (j + 1 = 1074 ∨ 2 ^ 52 ≤ nearm T n (T / n) j) := by
  rw [nearm_rhe T n j hn]
  have hp := Nat.mul_pos hn (Nat.two_pow_pos (j + 1))
  have hq := blen_lt (T / n)
  refine ⟨rhe_le_of_lt hp ?_, ?_⟩
  · have h1 : T < 2 ^ blen (T / n) * n := (Nat.div_lt_iff_lt_mul hn).1 hq
    have h2 : 2 ^ blen (T / n) ≤ 2 ^ 53 * 2 ^ (j + 1) := by rw [← Nat.pow_add]; exact Nat.pow_le_pow_right (by omega) (by omega)
    calc T < 2 ^ blen (T / n) * n := h1
      _ ≤ 2 ^ 53 * 2 ^ (j + 1) * n := Nat.mul_le_mul_right _ h2
      _ = 2 ^ 53 * (n * 2 ^ (j + 1)) := by generalize 2 ^ (j + 1) = P; generalize 2 ^ 53 = R; grind
  · rcases Nat.lt_or_ge (blen (T / n) - 53) 1075 with h | h
    · left; omega
    · right
      refine le_rhe_of_le hp ?_
      have hne : T / n ≠ 0 := by intro e; rw [e] at h; simp [blen] at h
      have h1 := le_blen (T / n) hne
      have h2 : 2 ^ (blen (T / n) - 1) * n ≤ T := (Nat.le_div_iff_mul_le hn).1 h1
      have h3 : 2 ^ 52 * 2 ^ (j + 1) = 2 ^ (blen (T / n) - 1) := by rw [← Nat.pow_add]; congr 1; omega
      calc 2 ^ 52 * (n * 2 ^ (j + 1)) = 2 ^ 52 * 2 ^ (j + 1) * n := by generalize 2 ^ (j + 1) = P; generalize 2 ^ 52 = R; grind
        _ = 2 ^ (blen (T / n) - 1) * n := by rw [h3]
        _ ≤ T := h2

/-- What near tells is the sum over n, rounded. -/
theorem near_eq (T n j : Nat) (hn : 0 < n) (hk : j + 1 = max (blen (T / n) - 53) 1074) :
    rz 52 (nearm T n (T / n) j) ((j + 1 : Nat) - 2148 + 1074 : Int) = rq 52 T (n * 2 ^ 1074) := by
  obtain ⟨h1, h2⟩ := nearm_bd T n j hn hk
  rw [near_rq T n j hn hk]
  generalize nearm T n (T / n) j = m at *
  obtain ⟨s, hs⟩ : ∃ s : Nat, j + 1 = 1074 + s := ⟨j + 1 - 1074, by omega⟩
  rw [hs, rz_of 52 m _ s 0 (by omega), Nat.pow_zero]
  have := rq_carry 52 m s 1 (by omega) h1 (by omega)
  rw [Nat.mul_one] at this
  rw [this]
  have : 1074 + s - 1074 = s := by omega
  rw [this]

/-! ### words and bits -/
def VN : List Nat → Nat
  | [] => 0
  | x :: l => x + 18446744073709551616 * VN l
def okn (l : List Nat) : Prop := ∀ x ∈ l, x < 18446744073709551616

theorem VN_lt (l : List Nat) (h : okn l) : VN l < 2 ^ (64 * l.length) := by
  induction l with
  | nil => simp [VN]
  | cons a l ih =>
    have h1 := h a (by simp)
    have h2 := ih (fun x hx => h x (by simp [hx]))
    have e : 2 ^ (64 * (a :: l).length) = 18446744073709551616 * 2 ^ (64 * l.length) := by
      rw [List.length_cons, Nat.mul_add, Nat.pow_add, Nat.mul_comm]
    simp only [VN]
    rw [e]
    generalize 2 ^ (64 * l.length) = P at *
    omega

theorem VN_split (l : List Nat) (i : Nat) (h : i ≤ l.length) : VN l = VN (l.take i) + 2 ^ (64 * i) * VN (l.drop i) := by
  induction l generalizing i with
  | nil => have : i = 0 := by simpa using h
           subst this; simp [VN]
  | cons a l ih =>
    cases i with
    | zero => simp [VN]
    | succ i =>
      simp only [List.take_succ_cons, List.drop_succ_cons, VN]
      rw [ih i (by simpa using h), Nat.mul_add 64 i 1, Nat.pow_add]
      generalize VN (l.take i) = A
      generalize VN (l.drop i) = B
      generalize 2 ^ (64 * i) = P
      grind

theorem VN_div (l : List Nat) (i : Nat) (h : i ≤ l.length) (hk : okn l) : VN l / 2 ^ (64 * i) = VN (l.drop i) ∧ VN l % 2 ^ (64 * i) = VN (l.take i) := by
  have h1 := VN_split l i h
  have h2 : VN (l.take i) < 2 ^ (64 * i) := by
    have := VN_lt (l.take i) (fun x hx => hk x (List.mem_of_mem_take hx))
    rw [List.length_take, Nat.min_eq_left h] at this
    exact this
  rw [h1]
  constructor
  · rw [Nat.add_mul_div_left _ _ (Nat.two_pow_pos _), Nat.div_eq_of_lt h2, Nat.zero_add]
  · rw [Nat.add_mul_mod_self_left, Nat.mod_eq_of_lt h2]

theorem VN_zero (l : List Nat) : VN l = 0 ↔ ∀ x ∈ l, x = 0 := by
  induction l with
  | nil => simp [VN]
  | cons a l ih =>
    simp only [VN, List.mem_cons, forall_eq_or_imp]
    rw [← ih]
    omega

theorem VN_drop (l : List Nat) (i : Nat) (h : i < l.length) : VN (l.drop i) = l[i] + 18446744073709551616 * VN (l.drop (i + 1)) := by
  rw [List.drop_eq_getElem_cons h]; rfl

/-- The kept bits, out of two words. -/
theorem near_word (l : List Nat) (i r : Nat) (hi : i < l.length) (hr : r ≤ 63) (hk : okn l) (hQ : VN l / 2 ^ (64 * i + r) < 2 ^ 53) :
    (l[i] / 2 ^ r) ||| (if h : i + 1 < l.length then l[i + 1] * 2 ^ (64 - r) % 18446744073709551616 else 0) = VN l / 2 ^ (64 * i + r) := by
  have h1 := (VN_div l i (by omega) hk).1
  have h2 : VN l / 2 ^ (64 * i + r) = VN (l.drop i) / 2 ^ r := by rw [Nat.pow_add, ← Nat.div_div_eq_div_mul, h1]
  have h3 := VN_drop l i hi
  have hPQ : 18446744073709551616 = 2 ^ r * 2 ^ (64 - r) := by rw [← Nat.pow_add, show r + (64 - r) = 64 by omega]
  have hp := Nat.two_pow_pos r
  have hp2 := Nat.two_pow_pos (64 - r)
  have e : VN l / 2 ^ (64 * i + r) = l[i] / 2 ^ r + 2 ^ (64 - r) * VN (l.drop (i + 1)) := by
    rw [h2, h3, hPQ, Nat.mul_assoc, Nat.add_mul_div_left _ _ hp]
  rw [e] at hQ ⊢
  clear h1 h2 h3 e
  have hw : l[i] / 2 ^ r < 2 ^ (64 - r) := by
    rw [Nat.div_lt_iff_lt_mul hp]
    have := hk l[i] (List.getElem_mem hi)
    rw [Nat.mul_comm]; omega
  have hor : ∀ x : Nat, 2 ^ (64 - r) * x < 2 ^ 53 → (l[i] / 2 ^ r) ||| (x * 2 ^ (64 - r) % 18446744073709551616) = l[i] / 2 ^ r + 2 ^ (64 - r) * x := by
    intro x hx
    have e3 : x * 2 ^ (64 - r) = 2 ^ (64 - r) * x := Nat.mul_comm _ _
    rw [e3, Nat.mod_eq_of_lt (by omega), Nat.or_comm, ← Nat.two_pow_add_eq_or_of_lt hw x]
    omega
  by_cases h3 : i + 1 < l.length
  · rw [dif_pos h3]
    have h4 : VN (l.drop (i + 1)) = l[i + 1]'h3 + 18446744073709551616 * VN (l.drop (i + 1 + 1)) := VN_drop l (i + 1) h3
    generalize l[i + 1]'h3 = y at *
    generalize VN (l.drop (i + 1 + 1)) = z at *
    generalize VN (l.drop (i + 1)) = x at *
    have h7 : 1 * x ≤ 2 ^ (64 - r) * x := Nat.mul_le_mul_right _ hp2
    have hx : 2 ^ (64 - r) * x < 2 ^ 53 := by
      generalize 2 ^ (64 - r) * x = q at *
      have h0 : 0 ≤ l[i] / 2 ^ r := Nat.zero_le _
      generalize l[i] / 2 ^ r = p at *
      omega
    have hyx : y = x := by omega
    rw [hyx]
    exact hor x hx
  · rw [dif_neg h3]
    have : VN (l.drop (i + 1)) = 0 := by rw [List.drop_eq_nil_of_le (by omega)]; rfl
    rw [this]; simp

theorem near_half (l : List Nat) (j : Nat) (h : j / 64 < l.length) (hk : okn l) : VN l / 2 ^ j % 2 = l[j / 64] / 2 ^ (j % 64) % 2 := by
  have h1 := (VN_div l (j / 64) (by omega) hk).1
  have e0 : j = 64 * (j / 64) + j % 64 := by omega
  have h2 : VN l / 2 ^ j = VN (l.drop (j / 64)) / 2 ^ (j % 64) := by
    rw [← h1, Nat.div_div_eq_div_mul, ← Nat.pow_add, ← e0]
  rw [h2, VN_drop l _ h]
  have hr : j % 64 < 64 := Nat.mod_lt _ (by omega)
  generalize j % 64 = r at *
  have hPQ : 18446744073709551616 = 2 ^ r * (2 * 2 ^ (63 - r)) := by
    rw [Nat.mul_comm 2, ← Nat.pow_succ, ← Nat.pow_add, show r + (63 - r + 1) = 64 by omega]
  rw [hPQ, Nat.mul_assoc, Nat.add_mul_div_left _ _ (Nat.two_pow_pos r), Nat.mul_assoc, Nat.add_mul_mod_self_left]

theorem near_rest (l : List Nat) (j : Nat) (h : j / 64 < l.length) (hk : okn l) : VN l % 2 ^ j = 0 ↔ (l[j / 64] % 2 ^ (j % 64) = 0 ∧ ∀ x ∈ l.take (j / 64), x = 0) := by
  have h1 := VN_split l (j / 64) (by omega)
  have h2 : VN (l.take (j / 64)) < 2 ^ (64 * (j / 64)) := by
    have := VN_lt (l.take (j / 64)) (fun x hx => hk x (List.mem_of_mem_take hx))
    rw [List.length_take, Nat.min_eq_left (by omega)] at this
    exact this
  have e0 : 2 ^ j = 2 ^ (64 * (j / 64)) * 2 ^ (j % 64) := by rw [← Nat.pow_add]; congr 1; omega
  rw [← VN_zero, h1, VN_drop l _ h, e0]
  have hr : j % 64 < 64 := Nat.mod_lt _ (by omega)
  generalize j % 64 = r at *
  have hPQ : 18446744073709551616 = 2 ^ r * 2 ^ (64 - r) := by rw [← Nat.pow_add, show r + (64 - r) = 64 by omega]
  have hp := Nat.two_pow_pos (64 * (j / 64))
  generalize VN (l.take (j / 64)) = A at *
  generalize 2 ^ (64 * (j / 64)) = P at *
  generalize VN (l.drop (j / 64 + 1)) = B at *
  generalize l[j / 64] = x at *
  have hm : (A + P * (x + 18446744073709551616 * B)) % (P * 2 ^ r) = A + P * (x % 2 ^ r) := by
    have hx := Nat.div_add_mod x (2 ^ r)
    have hxm := Nat.mod_lt x (Nat.two_pow_pos r)
    have : A + P * (x + 18446744073709551616 * B) = (A + P * (x % 2 ^ r)) + P * 2 ^ r * (x / 2 ^ r + 2 ^ (64 - r) * B) := by
      rw [hPQ]
      generalize 2 ^ r = R at *
      generalize 2 ^ (64 - r) = S at *
      generalize x / R = y at *
      generalize x % R = z at *
      rw [← hx]
      grind
    rw [this, Nat.add_mul_mod_self_left, Nat.mod_eq_of_lt]
    have : P * (x % 2 ^ r + 1) ≤ P * 2 ^ r := Nat.mul_le_mul_left _ hxm
    rw [Nat.mul_add] at this
    omega
  rw [hm]
  constructor
  · intro h3
    have h4 : P * (x % 2 ^ r) = 0 := by omega
    rcases Nat.mul_eq_zero.1 h4 with h5 | h5
    · omega
    · exact ⟨h5, by omega⟩
  · rintro ⟨h3, h4⟩
    rw [h3, h4]; rfl

theorem blen_words (l : List Nat) (t : Nat) (h : t < l.length) (hk : okn l) (hz : ∀ x ∈ l.drop (t + 1), x = 0) (ht : t = 0 ∨ l[t] ≠ 0) : blen (VN l) = 64 * t + blen l[t] := by
  have h1 := VN_split l t (by omega)
  have h2 : VN (l.take t) < 2 ^ (64 * t) := by
    have := VN_lt (l.take t) (fun x hx => hk x (List.mem_of_mem_take hx))
    rw [List.length_take, Nat.min_eq_left (by omega)] at this
    exact this
  rw [VN_drop l t h, (VN_zero _).2 hz, Nat.mul_zero, Nat.add_zero] at h1
  by_cases h0 : l[t] = 0
  · have : t = 0 := by
      rcases ht with h3 | h3
      · exact h3
      · exact absurd h0 h3
    subst this
    rw [h0] at h1 ⊢
    simp [VN] at h1
    rw [h1]; simp [blen]
  · have hp := Nat.two_pow_pos (64 * t)
    have hb1 := blen_lt l[t]
    have hb2 := le_blen l[t] h0
    have hne : VN l ≠ 0 := by
      intro e
      rw [h1] at e
      have : 2 ^ (64 * t) * l[t] = 0 := by omega
      rcases Nat.mul_eq_zero.1 this with h3 | h3
      · omega
      · exact h0 h3
    have hl : (VN l).log2 = 64 * t + (blen l[t] - 1) := by
      rw [Nat.log2_eq_iff hne, h1]
      constructor
      · rw [Nat.pow_add]
        have := Nat.mul_le_mul_left (2 ^ (64 * t)) hb2
        omega
      · have e : 64 * t + (blen l[t] - 1) + 1 = 64 * t + blen l[t] := by
          unfold blen; rw [if_neg h0]; omega
        rw [e, Nat.pow_add]
        have : 2 ^ (64 * t) * (l[t] + 1) ≤ 2 ^ (64 * t) * 2 ^ blen l[t] := Nat.mul_le_mul_left _ hb1
        rw [Nat.mul_add] at this
        omega
    unfold blen at *
    rw [if_neg hne, hl, if_neg h0]
    omega
end Go.Proofs.YtefaedjjecfabaaGreat.Ten
