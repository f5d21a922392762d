/- Parts of the proof of CurveChecks: contracts of the functions that it reaches, and the plain laws under them (Ie). Conditions: those that each theorem names. -/
import Derived.Laws.FloatBits
namespace Go.Proofs.YtefaedjjecfabaaGreat.Ten
open Ieee

/-- a / b to the nearest whole number, ties to even. -/
def rhe (a b : Nat) : Nat := a / b + (if b < 2 * (a % b) ∨ (2 * (a % b) = b ∧ a / b % 2 = 1) then 1 else 0)

theorem rhe_ge (a b k : Nat) (hb : 0 < b) : k ≤ rhe a b ↔ k = 0 ∨ (2 * k - 1) * b < 2 * a ∨ ((2 * k - 1) * b = 2 * a ∧ k % 2 = 0) := by
  unfold rhe
  have hd := Nat.div_add_mod a b
  have hr := Nat.mod_lt a hb
  generalize hq : a / b = q at *
  generalize hrr : a % b = r at *
  subst hd
  rcases Nat.lt_or_ge q k with h | h
  · obtain ⟨j, rfl⟩ : ∃ j, k = q + 1 + j := ⟨k - (q + 1), by omega⟩
    have e : (2 * (q + 1 + j) - 1) * b = 2 * (b * q) + b + 2 * (b * j) := by
      have : 2 * (q + 1 + j) - 1 = 2 * q + 1 + 2 * j := by omega
      rw [this]; grind
    rw [e]
    rcases Nat.eq_zero_or_pos j with rfl | hj
    · simp only [Nat.mul_zero, Nat.add_zero]
      split <;> omega
    · have : b ≤ b * j := Nat.le_mul_of_pos_right b hj
      split <;> omega
  · constructor
    · intro _
      rcases Nat.eq_zero_or_pos k with h0 | h0
      · exact .inl h0
      · right; left
        obtain ⟨j, rfl⟩ : ∃ j, q = k + j := ⟨q - k, by omega⟩
        have e : (2 * k - 1) * b + b = 2 * (b * k) := by
          obtain ⟨m, rfl⟩ : ∃ m, k = m + 1 := ⟨k - 1, by omega⟩
          have : 2 * (m + 1) - 1 = 2 * m + 1 := by omega
          rw [this]; grind
        have e2 : b * (k + j) = b * k + b * j := by grind
        rw [e2]; omega
    · intro _; omega

theorem rhe_mono {a b a' b' : Nat} (hb : 0 < b) (hb' : 0 < b') (h : a * b' ≤ a' * b) : rhe a b ≤ rhe a' b' := by
  have h0 := (rhe_ge a b (rhe a b) hb).1 (Nat.le_refl _)
  rw [rhe_ge a' b' _ hb']
  generalize rhe a b = k at *
  rcases h0 with h0 | h0 | ⟨h0, h1⟩
  · exact .inl h0
  · right; left
    generalize 2 * k - 1 = m at *
    have h2 : m * b * b' < 2 * a * b' := Nat.mul_lt_mul_of_pos_right h0 hb'
    have h3 : m * b' * b < 2 * a' * b := by
      have e : m * b' * b = m * b * b' := by grind
      have e2 : 2 * a * b' = 2 * (a * b') := by grind
      have e3 : 2 * a' * b = 2 * (a' * b) := by grind
      omega
    exact Nat.lt_of_mul_lt_mul_right h3
  · right
    generalize 2 * k - 1 = m at *
    have h3 : m * b' * b ≤ 2 * a' * b := by
      have e : m * b' * b = m * b * b' := by grind
      have e2 : 2 * a * b' = 2 * (a * b') := by grind
      have e3 : 2 * a' * b = 2 * (a' * b) := by grind
      rw [e, h0]; omega
    have h4 := Nat.le_of_mul_le_mul_right h3 hb
    rcases Nat.lt_or_eq_of_le h4 with h5 | h5
    · exact .inl h5
    · exact .inr ⟨h5, h1⟩

theorem rhe_scale (a b c : Nat) (hc : 0 < c) : rhe (a * c) (b * c) = rhe a b := by
  unfold rhe
  rw [Nat.mul_div_mul_right a b hc, Nat.mul_mod_mul_right c a b]
  congr 1
  have e : 2 * (a % b * c) = (2 * (a % b)) * c := by grind
  rw [e]
  simp only [Nat.mul_lt_mul_right hc, Nat.mul_right_cancel_iff hc]

theorem rhe_exact (q b : Nat) (hb : 0 < b) : rhe (q * b) b = q := by
  unfold rhe
  rw [Nat.mul_div_cancel q hb, Nat.mul_mod_left]
  simp; omega

theorem rhe_le_of_lt {a b k : Nat} (hb : 0 < b) (h : a < k * b) : rhe a b ≤ k := by
  have := rhe_mono hb hb (a := a) (a' := k * b) (Nat.mul_le_mul_right b (Nat.le_of_lt h))
  rwa [rhe_exact k b hb] at this

theorem le_rhe_of_le {a b k : Nat} (hb : 0 < b) (h : k * b ≤ a) : k ≤ rhe a b := by
  have := rhe_mono hb hb (a := k * b) (a' := a) (Nat.mul_le_mul_right b h)
  rwa [rhe_exact k b hb] at this

/-- The rung (p fraction bits) nearest to a / b units. -/
def rq (p a b : Nat) : Nat := ((a / b).log2 - p) * 2 ^ p + rhe a (b * 2 ^ ((a / b).log2 - p))

theorem rq_scale (p a b c : Nat) (hc : 0 < c) : rq p (a * c) (b * c) = rq p a b := by
  unfold rq
  rw [Nat.mul_div_mul_right a b hc]
  generalize (a / b).log2 - p = s
  have e : b * c * 2 ^ s = b * 2 ^ s * c := by grind
  rw [e, rhe_scale _ _ _ hc]

theorem rq_zero (p b : Nat) : rq p 0 b = 0 := by
  unfold rq rhe
  simp

theorem log2_mono {a b : Nat} (h : a ≤ b) : a.log2 ≤ b.log2 := by
  rcases Nat.eq_zero_or_pos a with rfl | ha
  · simp [Nat.log2_zero]
  · have h1 := Nat.log2_self_le (n := a) (by omega)
    rcases Nat.lt_or_ge b.log2 a.log2 with h2 | h2
    · have h3 := (Nat.log2_lt (n := b) (k := a.log2) (by omega)).1 h2
      omega
    · exact h2

theorem rq_mono (p : Nat) {a b a' b' : Nat} (hb : 0 < b) (hb' : 0 < b') (h : a * b' ≤ a' * b) : rq p a b ≤ rq p a' b' := by
  have hq : a / b ≤ a' / b' := by
    rw [Nat.le_div_iff_mul_le hb']
    have h1 : a / b * b ≤ a := Nat.div_mul_le_self a b
    have h2 : a / b * b * b' ≤ a * b' := Nat.mul_le_mul_right b' h1
    have h3 : (a / b * b') * b ≤ a' * b := by
      have e : a / b * b' * b = a / b * b * b' := by grind
      omega
    exact Nat.le_of_mul_le_mul_right h3 hb
  unfold rq
  have hs := log2_mono hq
  have hsm : (a / b).log2 - p ≤ (a' / b').log2 - p := by omega
  rcases Nat.lt_or_eq_of_le hsm with hlt | heq
  · -- another binade
    have hpos := Nat.two_pow_pos ((a / b).log2 - p)
    have hpos' := Nat.two_pow_pos ((a' / b').log2 - p)
    have up : rhe a (b * 2 ^ ((a / b).log2 - p)) ≤ 2 ^ (p + 1) := by
      refine rhe_le_of_lt (Nat.mul_pos hb hpos) ?_
      have h1 : a / b < 2 ^ ((a / b).log2 + 1) := Nat.lt_log2_self
      have h2 : a < 2 ^ ((a / b).log2 + 1) * b := (Nat.div_lt_iff_lt_mul hb).1 h1
      have h3 : 2 ^ ((a / b).log2 + 1) ≤ 2 ^ (p + 1) * 2 ^ ((a / b).log2 - p) := by
        rw [← Nat.pow_add]
        exact Nat.pow_le_pow_right (by omega) (by omega)
      calc a < 2 ^ ((a / b).log2 + 1) * b := h2
        _ ≤ (2 ^ (p + 1) * 2 ^ ((a / b).log2 - p)) * b := Nat.mul_le_mul_right b h3
        _ = 2 ^ (p + 1) * (b * 2 ^ ((a / b).log2 - p)) := by grind
    have lo : 2 ^ p ≤ rhe a' (b' * 2 ^ ((a' / b').log2 - p)) := by
      refine le_rhe_of_le (Nat.mul_pos hb' hpos') ?_
      have hne : a' / b' ≠ 0 := by
        intro e; rw [e] at hlt; simp [Nat.log2_zero] at hlt
      have h1 := Nat.log2_self_le hne
      have h2 : 2 ^ (a' / b').log2 * b' ≤ a' := (Nat.le_div_iff_mul_le hb').1 h1
      have h3 : 2 ^ p * 2 ^ ((a' / b').log2 - p) = 2 ^ (a' / b').log2 := by
        rw [← Nat.pow_add]; congr 1; omega
      calc 2 ^ p * (b' * 2 ^ ((a' / b').log2 - p)) = (2 ^ p * 2 ^ ((a' / b').log2 - p)) * b' := by grind
        _ = 2 ^ (a' / b').log2 * b' := by rw [h3]
        _ ≤ a' := h2
    generalize (a / b).log2 - p = s at *
    generalize (a' / b').log2 - p = s' at *
    have h5 : s * 2 ^ p + 2 ^ p ≤ s' * 2 ^ p := by
      have : (s + 1) * 2 ^ p ≤ s' * 2 ^ p := Nat.mul_le_mul_right _ (by omega)
      have e : (s + 1) * 2 ^ p = s * 2 ^ p + 2 ^ p := by grind
      omega
    have h6 : 2 ^ (p + 1) = 2 * 2 ^ p := by rw [Nat.pow_succ]; omega
    omega
  · rw [heq]
    refine Nat.add_le_add_left (rhe_mono (Nat.mul_pos hb (Nat.two_pow_pos _)) (Nat.mul_pos hb' (Nat.two_pow_pos _)) ?_) _
    generalize 2 ^ ((a' / b').log2 - p) = t
    calc a * (b' * t) = (a * b') * t := by grind
      _ ≤ (a' * b) * t := Nat.mul_le_mul_right t h
      _ = a' * (b * t) := by grind

/-- Mantissa m (below 2^(p+1), from 2^p on where s is not 0), s places up: just that rung. -/
theorem rq_exact (p m s b : Nat) (hb : 0 < b) (hm : m < 2 ^ (p + 1)) (hs : s = 0 ∨ 2 ^ p ≤ m) : rq p (m * 2 ^ s * b) b = s * 2 ^ p + m := by
  unfold rq
  rw [Nat.mul_div_cancel _ hb]
  have hl : (m * 2 ^ s).log2 - p = s := by
    rcases Nat.lt_or_ge m (2 ^ p) with hlt | hge
    · have h0 : s = 0 := by omega
      subst h0
      rw [Nat.pow_zero, Nat.mul_one]
      rcases Nat.eq_zero_or_pos m with rfl | hm0
      · simp [Nat.log2_zero]
      · have := (Nat.log2_lt (n := m) (k := p) (by omega)).2 hlt
        omega
    · have h2 := Nat.two_pow_pos p
      have : (m * 2 ^ s).log2 = p + s := by
        rw [Nat.log2_eq_iff (by have := Nat.mul_pos (show 0 < m by omega) (Nat.two_pow_pos s); omega)]
        constructor
        · rw [Nat.pow_add]; exact Nat.mul_le_mul_right _ hge
        · have : p + s + 1 = (p + 1) + s := by omega
          rw [this, Nat.pow_add]; exact Nat.mul_lt_mul_of_pos_right hm (Nat.two_pow_pos s)
      omega
  rw [hl]
  have e : m * 2 ^ s * b = m * (b * 2 ^ s) := by grind
  rw [e, rhe_exact _ _ (Nat.mul_pos hb (Nat.two_pow_pos s))]

theorem cut_even (neg : Bool) (n drop : Nat) : Toward.even.cut neg n drop = rhe n (2 ^ drop) := by
  unfold Toward.cut
  dsimp only
  have hg : (1 : Nat) <<< min drop (n.log2 + 2) = 2 ^ min drop (n.log2 + 2) := by rw [Nat.shiftLeft_eq, Nat.one_mul]
  rw [hg]
  rcases Nat.le_total drop (n.log2 + 2) with h | h
  · rw [Nat.min_eq_left h]
    unfold rhe
    congr 1
    generalize 2 ^ drop = g
    by_cases h1 : g < 2 * (n % g)
    · simp [h1]
    · by_cases h2 : 2 * (n % g) = g ∧ n / g % 2 = 1
      · simp [h2]
      · have : (g == 2 * (n % g) && n / g % 2 == 1) = false := by
          simp only [Bool.and_eq_false_iff, beq_eq_false_iff_ne]; omega
        simp [h1, h2, this]
  · rw [Nat.min_eq_right h]
    have hn : n < 2 ^ (n.log2 + 1) := Nat.lt_log2_self
    have h2 : 2 ^ (n.log2 + 2) = 2 * 2 ^ (n.log2 + 1) := by rw [Nat.pow_succ 2 (n.log2 + 1)]; omega
    have h3 : 2 ^ (n.log2 + 2) ≤ 2 ^ drop := Nat.pow_le_pow_right (by omega) h
    unfold rhe
    rw [Nat.div_eq_of_lt (by omega), Nat.mod_eq_of_lt (by omega), Nat.div_eq_of_lt (show n < 2 ^ drop by omega), Nat.mod_eq_of_lt (show n < 2 ^ drop by omega)]
    have e1 : decide (2 ^ (n.log2 + 2) < 2 * n) = false := by simp; omega
    have e2 : (2 ^ (n.log2 + 2) == 2 * n) = false := by rw [beq_eq_false_iff_ne]; omega
    rw [e1, e2, if_neg (by omega)]
    rfl

theorem log2_mul_pow (m t : Nat) (hm : m ≠ 0) : (m * 2 ^ t).log2 = m.log2 + t := by
  rw [Nat.log2_eq_iff (by have := Nat.mul_pos (show 0 < m by omega) (Nat.two_pow_pos t); omega)]
  have h1 := Nat.log2_self_le hm
  have h2 : m < 2 ^ (m.log2 + 1) := Nat.lt_log2_self
  constructor
  · rw [Nat.pow_add]; exact Nat.mul_le_mul_right _ h1
  · have : m.log2 + t + 1 = (m.log2 + 1) + t := by omega
    rw [this, Nat.pow_add]; exact Nat.mul_lt_mul_of_pos_right h2 (Nat.two_pow_pos t)

theorem log2_div_pow (m t : Nat) : (m / 2 ^ t).log2 = m.log2 - t := by
  rcases Nat.eq_zero_or_pos (m / 2 ^ t) with h | h
  · rw [h]
    have hlt : m < 2 ^ t := by
      rcases Nat.div_eq_zero_iff.1 h with h1 | h1
      · have := Nat.two_pow_pos t; omega
      · exact h1
    rcases Nat.eq_zero_or_pos m with rfl | h0
    · simp [Nat.log2_zero]
    · have := (Nat.log2_lt (n := m) (k := t) (by omega)).2 hlt
      simp [Nat.log2_zero]; omega
  · rw [Nat.log2_eq_iff (by omega)]
    have hp := Nat.two_pow_pos t
    have hm : m ≠ 0 := by rintro rfl; simp at h
    have h1 := Nat.log2_self_le hm
    have h2 : m < 2 ^ (m.log2 + 1) := Nat.lt_log2_self
    have h3 : t ≤ m.log2 := by
      rcases Nat.lt_or_ge m.log2 t with h4 | h4
      · have h5 := (Nat.log2_lt hm).1 h4
        rw [Nat.div_eq_of_lt h5] at h; omega
      · exact h4
    constructor
    · rw [Nat.le_div_iff_mul_le hp, ← Nat.pow_add]
      rwa [Nat.sub_add_cancel h3]
    · rw [Nat.div_lt_iff_lt_mul hp, ← Nat.pow_add]
      have : m.log2 - t + 1 + t = m.log2 + 1 := by omega
      rw [this]; exact h2

/-- The rung nearest to mag * 2^t units. -/
def rz (p mag : Nat) (t : Int) : Nat := rq p (mag * 2 ^ t.toNat) (2 ^ (-t).toNat)

theorem nearest_rz (f : Format) (neg : Bool) (mag : Nat) (place : Int) :
    f.nearest neg mag place = f.word neg (min (rz f.fractionBits mag (place - f.leastPlace)) f.infRung) := by
  unfold Format.nearest
  by_cases hm : mag = 0
  · subst hm
    simp [rz, rq_zero]
  rw [if_neg hm]
  dsimp only
  congr 2
  unfold rz
  generalize hp : f.fractionBits = p
  have hbin : f.binade = 2 ^ p := by rw [← hp]; rfl
  rw [hbin]
  generalize hL : f.leastPlace = L
  rw [cut_even, Nat.shiftLeft_eq]
  unfold rq
  rcases Int.le_total L place with h | h
  · obtain ⟨t, ht⟩ : ∃ t : Nat, place = L + t := ⟨(place - L).toNat, by omega⟩
    subst ht
    have e1 : (L + (t : Int) - L).toNat = t := by omega
    have e2 : (-(L + (t : Int) - L)).toNat = 0 := by omega
    rw [e1, e2, Nat.pow_zero, Nat.div_one, log2_mul_pow _ _ hm, Nat.one_mul]
    generalize hs : mag.log2 + t - p = s
    have e3 : (max (L + (t : Int) + (mag.log2 : Int) - (p : Int)) L - L).toNat = s := by omega
    rw [e3]
    congr 1
    rcases Nat.le_total s t with hst | hst
    · have e4 : (L + (t : Int) - max (L + (t : Int) + (mag.log2 : Int) - (p : Int)) L).toNat = t - s := by omega
      have e5 : (max (L + (t : Int) + (mag.log2 : Int) - (p : Int)) L - (L + (t : Int))).toNat = 0 := by omega
      rw [e4, e5, Nat.pow_zero]
      have e6 : mag * 2 ^ t = (mag * 2 ^ (t - s)) * 2 ^ s := by
        rw [Nat.mul_assoc, ← Nat.pow_add]; congr 2; omega
      rw [e6, rhe_exact _ _ (Nat.two_pow_pos s)]
      have := rhe_exact (mag * 2 ^ (t - s)) 1 (by omega)
      rwa [Nat.mul_one] at this
    · have e4 : (L + (t : Int) - max (L + (t : Int) + (mag.log2 : Int) - (p : Int)) L).toNat = 0 := by omega
      have e5 : (max (L + (t : Int) + (mag.log2 : Int) - (p : Int)) L - (L + (t : Int))).toNat = s - t := by omega
      rw [e4, e5, Nat.pow_zero, Nat.mul_one]
      have e6 : 2 ^ s = 2 ^ (s - t) * 2 ^ t := by rw [← Nat.pow_add]; congr 1; omega
      rw [e6, rhe_scale _ _ _ (Nat.two_pow_pos t)]
  · obtain ⟨t, ht⟩ : ∃ t : Nat, L = place + t := ⟨(L - place).toNat, by omega⟩
    subst ht
    have e1 : (place - (place + (t : Int))).toNat = 0 := by omega
    have e2 : (-(place - (place + (t : Int)))).toNat = t := by omega
    rw [e1, e2, Nat.pow_zero, Nat.mul_one, log2_div_pow]
    generalize hs : mag.log2 - t - p = s
    have e3 : (max (place + (mag.log2 : Int) - (p : Int)) (place + (t : Int)) - (place + (t : Int))).toNat = s := by omega
    rw [e3]
    congr 1
    have e4 : (place - max (place + (mag.log2 : Int) - (p : Int)) (place + (t : Int))).toNat = 0 := by omega
    have e5 : (max (place + (mag.log2 : Int) - (p : Int)) (place + (t : Int)) - place).toNat = t + s := by omega
    rw [e4, e5, Nat.pow_zero, Nat.mul_one, Nat.pow_add]


theorem rhe_bits (A B k : Nat) (hB : 0 < B) : rhe A (B * 2 ^ (k + 1)) = A / B / 2 ^ (k + 1) +
    (if A / B / 2 ^ k % 2 = 1 ∧ (A / B % 2 ^ k ≠ 0 ∨ A % B ≠ 0 ∨ A / B / 2 ^ (k + 1) % 2 = 1) then 1 else 0) := by
  have hA := Nat.div_add_mod A B
  have hr := Nat.mod_lt A hB
  have hH := Nat.two_pow_pos k
  have e2 : 2 ^ (k + 1) = 2 * 2 ^ k := by rw [Nat.pow_succ]; omega
  have d1 : A / (B * 2 ^ (k + 1)) = A / B / 2 ^ (k + 1) := (Nat.div_div_eq_div_mul A B _).symm
  have hm := Nat.div_add_mod A (B * 2 ^ (k + 1))
  rw [d1] at hm
  unfold rhe
  rw [d1]
  congr 1
  rw [e2] at hm ⊢
  generalize A / B = Q at *
  generalize A % B = r at *
  generalize 2 ^ k = H at *
  have hQ := Nat.div_add_mod Q (2 * H)
  have hl := Nat.mod_lt Q (show 0 < 2 * H by omega)
  have hQ2 := Nat.div_add_mod Q H
  have hg := Nat.mod_lt Q hH
  have hdd : Q / H / 2 = Q / (2 * H) := by rw [Nat.div_div_eq_div_mul, Nat.mul_comm]
  have hd2 := Nat.div_add_mod (Q / H) 2
  rw [hdd] at hd2
  generalize Q / (2 * H) = h at *
  generalize Q % (2 * H) = l at *
  generalize Q / H = x at *
  generalize Q % H = g at *
  have he : x % 2 = 0 ∨ x % 2 = 1 := by omega
  have hx : x = 2 * h + x % 2 := by omega
  generalize x % 2 = e at *
  subst hx
  -- A % (B * (2 * H)) = B * (H * e + g) + r
  have hmod : A % (B * (2 * H)) = B * (H * e + g) + r := by
    have : A = B * (2 * H) * h + (B * (H * e + g) + r) := by
      rw [← hA, ← hQ2]; grind
    omega
  rw [hmod]
  have e5 : B * (2 * H) = 2 * (B * H) := by grind
  rw [e5]
  rcases he with rfl | rfl
  · have h1 : B * (H * 0 + g) + r < B * H := by
      have : B * (g + 1) ≤ B * H := Nat.mul_le_mul_left B (by omega)
      have e6 : B * (H * 0 + g) = B * g := by rw [Nat.mul_zero, Nat.zero_add]
      have e7 : B * (g + 1) = B * g + B := by grind
      omega
    rw [if_neg (by omega), if_neg (by omega)]
  · have e6 : B * (H * 1 + g) = B * H + B * g := by grind
    rw [e6]
    have hz : B * g = 0 ↔ g = 0 := by
      constructor
      · intro h0; rcases Nat.mul_eq_zero.1 h0 with h1 | h1 <;> omega
      · rintro rfl; simp
    by_cases c : g = 0 ∧ r = 0
    · obtain ⟨rfl, rfl⟩ := c
      simp
    · rw [if_pos (by omega), if_pos (by omega)]

theorem rhe_sticky (A B k : Nat) (hB : 0 < B) : rhe (2 * (A / B) + (if A % B = 0 then 0 else 1)) (2 * 2 ^ (k + 1)) = rhe A (B * 2 ^ (k + 1)) := by
  rw [rhe_bits A B k hB, rhe_bits _ 2 k (by omega)]
  have e1 : (2 * (A / B) + (if A % B = 0 then 0 else 1)) / 2 = A / B := by split <;> omega
  have e2 : (2 * (A / B) + (if A % B = 0 then 0 else 1)) % 2 = (if A % B = 0 then 0 else 1) := by split <;> omega
  rw [e1, e2]
  by_cases h : A % B = 0 <;> simp [h]

theorem rz_of (p mag : Nat) (t : Int) (a b : Nat) (h : t = (a : Int) - b) : rz p mag t = rq p (mag * 2 ^ a) (2 ^ b) := by
  unfold rz
  rcases Nat.le_total a b with hab | hab
  · obtain ⟨d, rfl⟩ : ∃ d, b = a + d := ⟨b - a, by omega⟩
    have e1 : t.toNat = 0 := by omega
    have e2 : (-t).toNat = d := by omega
    rw [e1, e2, Nat.pow_zero, Nat.mul_one, Nat.pow_add, Nat.mul_comm (2 ^ a) (2 ^ d), rq_scale _ _ _ _ (Nat.two_pow_pos a)]
  · obtain ⟨d, rfl⟩ : ∃ d, a = b + d := ⟨a - b, by omega⟩
    have e1 : t.toNat = d := by omega
    have e2 : (-t).toNat = 0 := by omega
    have e3 : mag * 2 ^ (b + d) = (mag * 2 ^ d) * 2 ^ b := by rw [Nat.pow_add]; grind
    rw [e1, e2, Nat.pow_zero, e3]
    have := rq_scale p (mag * 2 ^ d) 1 (2 ^ b) (Nat.two_pow_pos b)
    rw [Nat.one_mul] at this
    exact this.symm

/-- The quotient with one sticky bit, c places up or d down. -/
theorem rq_sticky (p A B c d : Nat) (hB : 0 < B) (hcd : c = 0 ∨ d = 0) (hq : 2 ^ (p + 1) ≤ A / B) :
    rq p ((2 * (A / B) + (if A % B = 0 then 0 else 1)) * 2 ^ c) (2 ^ (d + 1)) = rq p (A * 2 ^ c) (B * 2 ^ d) := by
  have hQ0 : A / B ≠ 0 := by have := Nat.two_pow_pos (p + 1); omega
  have hl : p + 1 ≤ (A / B).log2 := by
    rcases Nat.lt_or_ge (A / B).log2 (p + 1) with h | h
    · have := (Nat.log2_lt hQ0).1 h; omega
    · exact h
  rcases hcd with rfl | rfl
  · rw [Nat.pow_zero, Nat.mul_one, Nat.mul_one]
    unfold rq
    have e1 : (2 * (A / B) + (if A % B = 0 then 0 else 1)) / 2 ^ (d + 1) = A / B / 2 ^ d := by
      have e0 : 2 ^ (d + 1) = 2 * 2 ^ d := by rw [Nat.pow_succ]; omega
      rw [e0, ← Nat.div_div_eq_div_mul]
      congr 1; split <;> omega
    have e2 : A / (B * 2 ^ d) = A / B / 2 ^ d := (Nat.div_div_eq_div_mul A B _).symm
    rw [e1, e2]
    generalize hs : (A / B / 2 ^ d).log2 - p = s
    congr 1
    rw [log2_div_pow] at hs
    obtain ⟨k, hk⟩ : ∃ k, d + s = k + 1 := ⟨d + s - 1, by omega⟩
    have e3 : 2 ^ (d + 1) * 2 ^ s = 2 * 2 ^ (k + 1) := by rw [← hk, Nat.pow_succ, Nat.pow_add]; grind
    have e4 : B * 2 ^ d * 2 ^ s = B * 2 ^ (k + 1) := by rw [← hk, Nat.pow_add]; grind
    rw [e3, e4, rhe_sticky _ _ _ hB]
  · rw [Nat.pow_zero, Nat.mul_one]
    unfold rq
    have lg : ∀ X : Nat, A / B * 2 ^ c ≤ X → X < (A / B + 1) * 2 ^ c → X.log2 = (A / B).log2 + c := by
      intro X h1 h2
      have h0 := Nat.mul_pos (Nat.pos_of_ne_zero hQ0) (Nat.two_pow_pos c)
      rw [Nat.log2_eq_iff (Nat.pos_iff_ne_zero.1 (Nat.lt_of_lt_of_le h0 h1))]
      have h3 := Nat.log2_self_le hQ0
      have h4 : A / B < 2 ^ ((A / B).log2 + 1) := Nat.lt_log2_self
      constructor
      · rw [Nat.pow_add]; exact Nat.le_trans (Nat.mul_le_mul_right _ h3) h1
      · have : (A / B).log2 + c + 1 = (A / B).log2 + 1 + c := by omega
        rw [this, Nat.pow_add]
        exact Nat.lt_of_lt_of_le h2 (Nat.mul_le_mul_right _ (by omega))
    have hA := Nat.div_add_mod A B
    have hr := Nat.mod_lt A hB
    have l1 : ((2 * (A / B) + (if A % B = 0 then 0 else 1)) * 2 ^ c / 2 ^ (0 + 1)).log2 = (A / B).log2 + c := by
      refine lg _ ?_ ?_
      · rw [Nat.le_div_iff_mul_le (by omega)]
        have : A / B * 2 ^ c * 2 ^ (0 + 1) = 2 * (A / B) * 2 ^ c := by grind
        rw [this]; exact Nat.mul_le_mul_right _ (by omega)
      · rw [Nat.div_lt_iff_lt_mul (by omega)]
        have : (A / B + 1) * 2 ^ c * 2 ^ (0 + 1) = (2 * (A / B) + 2) * 2 ^ c := by grind
        rw [this]; exact Nat.mul_lt_mul_of_pos_right (by split <;> omega) (Nat.two_pow_pos c)
    have l2 : (A * 2 ^ c / B).log2 = (A / B).log2 + c := by
      refine lg _ ?_ ?_
      · rw [Nat.le_div_iff_mul_le hB]
        have : A / B * 2 ^ c * B = A / B * B * 2 ^ c := by grind
        rw [this]; exact Nat.mul_le_mul_right _ (Nat.div_mul_le_self A B)
      · rw [Nat.div_lt_iff_lt_mul hB]
        have : (A / B + 1) * 2 ^ c * B = ((A / B + 1) * B) * 2 ^ c := by grind
        rw [this]
        have h5 : A < (A / B + 1) * B := by
          have : (A / B + 1) * B = B * (A / B) + B := by grind
          omega
        exact Nat.mul_lt_mul_of_pos_right h5 (Nat.two_pow_pos c)
    rw [l1, l2]
    congr 1
    obtain ⟨k, hk⟩ : ∃ k, (A / B).log2 + c - p = (k + 1) + c := ⟨(A / B).log2 - p - 1, by omega⟩
    rw [hk]
    have e3 : 2 ^ (0 + 1) * 2 ^ (k + 1 + c) = 2 * 2 ^ (k + 1) * 2 ^ c := by rw [Nat.pow_add 2 (k + 1) c]; grind
    have e4 : B * 2 ^ (k + 1 + c) = B * 2 ^ (k + 1) * 2 ^ c := by rw [Nat.pow_add 2 (k + 1) c]; grind
    rw [e3, e4, rhe_scale _ _ _ (Nat.two_pow_pos c), rhe_scale _ _ _ (Nat.two_pow_pos c), rhe_sticky _ _ _ hB]

end Go.Proofs.YtefaedjjecfabaaGreat.Ten
