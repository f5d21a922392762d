/- Parts of the proof of CurveChecks: contracts of the functions that it reaches, and the plain laws under them (Pa). Conditions: those that each theorem names. -/
import Derived.RegionTactic
import Derived.BigRegion
import Derived.ChangeAlike
import Derived.LoopTactic
import Derived.Test.YtefaedjjecfabaaGreatWPm
import Derived.Test.YtefaedjjecfabaaGreatWWd
import Derived.Test.YtefaedjjecfabaaGreatWIh
import Derived.Test.YtefaedjjecfabaaGreatWPx
namespace Go.Proofs.YtefaedjjecfabaaGreat.Ten
open Go Go.RowKit

theorem ext325 (x y c : Int) (hx : 0 ≤ x) (hy : 0 ≤ y) (hc0 : 0 ≤ c) (hc : c ≤ 1) (w : World) : (callFunc 325 #[.int .u64 x, .int .u64 y, .int .u64 c]).run Tryz.prog w =
    .ok (.value (.tuple #[.int .u64 ((x + y + c) % 18446744073709551616), .int .u64 ((x + y + c) / 18446744073709551616)])) w := by
  have h1 := run_callFunc_extern (P := Tryz.prog) Tryz.func325 (by kernel_rfl) (by kernel_rfl) (by kernel_rfl) (e := add64Entry) (by kernel_rfl) #[.int .u64 x, .int .u64 y, .int .u64 c] w
  rw [h1, run_add64 x y c hx hy hc0 hc w]; rfl

def sub64Entry : Array Value → Sem Value := fun args => do
  let (x, y, b) ← Extern.MathBitsCarry.three "Sub64" args
  pure (Extern.MathBitsCarry.pair ((x + Extern.MathBitsCarry.m64 - y - b) % Extern.MathBitsCarry.m64) (if x < y + b then 1 else 0))
theorem run_sub64e {P : Program} (x y c : Int) (hx : 0 ≤ x) (hy : 0 ≤ y) (hy2 : y < 18446744073709551616) (hc0 : 0 ≤ c) (hc : c ≤ 1) (w : World) :
    (sub64Entry #[.int .u64 x, .int .u64 y, .int .u64 c]).run P w =
      .ok (.tuple #[.int .u64 ((x - y - c) % 18446744073709551616), .int .u64 (if x < y + c then 1 else 0)]) w := by
  have key : ∀ k : Nat, k ≤ 1 → (sub64Entry #[.int .u64 x, .int .u64 y, .int .u64 (k : Int)]).run P w =
      .ok (Extern.MathBitsCarry.pair ((x.toNat + Extern.MathBitsCarry.m64 - y.toNat - k) % Extern.MathBitsCarry.m64) (if x.toNat < y.toNat + k then 1 else 0)) w := by
    intro k hk
    have : k = 0 ∨ k = 1 := by omega
    rcases this with rfl | rfl <;> rfl
  obtain ⟨k, rfl⟩ := Int.eq_ofNat_of_zero_le hc0
  rw [key k (by omega)]
  obtain ⟨X, rfl⟩ := Int.eq_ofNat_of_zero_le hx
  obtain ⟨Y, rfl⟩ := Int.eq_ofNat_of_zero_le hy
  simp only [Extern.MathBitsCarry.pair, Extern.MathBitsCarry.m64, Int.toNat_natCast]
  have e1 : Int.ofNat ((X + 2 ^ 64 - Y - k) % 2 ^ 64) = ((X : Int) - Y - k) % 18446744073709551616 := by simp; omega
  have e2 : Int.ofNat (if X < Y + k then 1 else 0) = (if (X : Int) < Y + k then 1 else 0) := by
    by_cases h : X < Y + k
    · rw [if_pos h, if_pos (by omega)]; rfl
    · rw [if_neg h, if_neg (by omega)]; rfl
  rw [e1, e2]
@[irreducible] def brw (x y c : Int) : Int := if x < y + c then 1 else 0
theorem brw_bd (x y c : Int) : 0 ≤ brw x y c ∧ brw x y c ≤ 1 := by unfold brw; split <;> omega
theorem ext324 (x y c : Int) (hx : 0 ≤ x) (hy : 0 ≤ y) (hy2 : y < 18446744073709551616) (hc0 : 0 ≤ c) (hc : c ≤ 1) (w : World) : (callFunc 324 #[.int .u64 x, .int .u64 y, .int .u64 c]).run Tryz.prog w =
    .ok (.value (.tuple #[.int .u64 ((x - y - c) % 18446744073709551616), .int .u64 (brw x y c)])) w := by
  have h1 := run_callFunc_extern (P := Tryz.prog) Tryz.func324 (by kernel_rfl) (by kernel_rfl) (by kernel_rfl) (e := sub64Entry) (by kernel_rfl) #[.int .u64 x, .int .u64 y, .int .u64 c] w
  rw [h1, run_sub64e x y c hx hy hy2 hc0 hc w]; unfold brw; rfl

/-- An Acc's cells. -/
def accC (ws : List Int) (u d : Bool) : Array Value := (ws.map (Value.int .u64) ++ [Value.bool u, Value.bool d]).toArray
theorem accC_get (ws : List Int) (u d : Bool) (i : Nat) (h : i < ws.length) : (accC ws u d)[i]? = some (.int .u64 ws[i]) := by
  unfold accC
  rw [List.getElem?_toArray, List.getElem?_append_left (by simpa using h)]
  simp [h]
theorem accC_set (ws : List Int) (u d : Bool) (i : Nat) (x : Int) (h : i < ws.length) : (accC ws u d).setIfInBounds i (.int .u64 x) = accC (ws.set i x) u d := by
  unfold accC
  rw [List.setIfInBounds_toArray, List.set_append_left _ _ (by simpa using h), List.map_set]

def PutRel (w : World) (g k0 : Nat) (ws0 : List Int) (x0 x1 x2 s : Int) (u d : Bool) (c iv : Value) (wr : World) : Prop :=
  ∃ (i : Nat) (ws : List Int) (cv : Int), iv = .int .i64 (i : Int) ∧ c = .int .u64 cv ∧ k0 ≤ i ∧ i ≤ 68 ∧ 0 ≤ cv ∧ cv ≤ 1 ∧ ws.length = 68 ∧ okws ws ∧
    Blk wr g 285 (accC ws u d) ∧ Blk wr w.heap.size 351 #[.int .u64 x0, .int .u64 x1, .int .u64 x2] ∧ w.grownBy wr (some g) ∧
    V ws + s * (cv * (18446744073709551616 : Int) ^ i) = V ws0 + s * (xp x0 x1 x2 (i - k0) * (18446744073709551616 : Int) ^ k0)

def PutAt (w : World) (g k0 : Nat) (ws0 : List Int) (x0 x1 x2 s : Int) (u d : Bool) (i : Nat) (cv a y : Int) (wr : World) : Prop :=
  ∃ (ws : List Int), k0 ≤ i ∧ i ≤ 68 ∧ 0 ≤ cv ∧ cv ≤ 1 ∧ ws.length = 68 ∧ okws ws ∧ ws[i]? = some a ∧ y = xw x0 x1 x2 (i - k0) ∧
    Blk wr g 285 (accC ws u d) ∧ Blk wr w.heap.size 351 #[.int .u64 x0, .int .u64 x1, .int .u64 x2] ∧ w.grownBy wr (some g) ∧
    V ws + s * (cv * (18446744073709551616 : Int) ^ i) = V ws0 + s * (xp x0 x1 x2 (i - k0) * (18446744073709551616 : Int) ^ k0)

theorem put_open {w : World} {g k0 : Nat} {ws0 : List Int} {x0 x1 x2 s : Int} {u d : Bool} {c iv : Value} {wr : World} (X0 : okw x0) (X1 : okw x1) (X2 : okw x2) (h : PutRel w g k0 ws0 x0 x1 x2 s u d c iv wr) :
    ∃ (i : Nat) (cv : Int), iv = .int .i64 (i : Int) ∧ c = .int .u64 cv ∧ k0 ≤ i ∧ i ≤ 68 ∧ 0 ≤ cv ∧ cv ≤ 1 ∧
      (i < 68 → ∃ a y : Int, wr.cell? ⟨g, i, none⟩ = some (.int .u64 a) ∧ wr.frozen? ⟨g, i, none⟩ = false ∧ 0 ≤ a ∧ a < 18446744073709551616 ∧ 0 ≤ y ∧ y < 18446744073709551616 ∧
        (i < k0 + 3 → wr.cell? ⟨w.heap.size, i - k0, none⟩ = some (.int .u64 y)) ∧ (¬ i < k0 + 3 → y = 0) ∧ PutAt w g k0 ws0 x0 x1 x2 s u d i cv a y wr) := by
  obtain ⟨i, ws, cv, rfl, rfl, h1, h2, h3, h4, h5, h6, h7, h8, h9, h10⟩ := h
  refine ⟨i, cv, rfl, rfl, h1, h2, h3, h4, fun hlt => ?_⟩
  have hil : i < ws.length := by omega
  have ho := h6 _ (List.getElem_mem hil)
  have hy : okw (xw x0 x1 x2 (i - k0)) := by
    unfold xw
    split
    · exact X0
    · split
      · exact X1
      · split
        · exact X2
        · exact ⟨by omega, by omega⟩
  refine ⟨ws[i], xw x0 x1 x2 (i - k0), by rw [h7.cell, accC_get _ _ _ _ hil], h7.frozen i, ho.1, ho.2, hy.1, hy.2, fun h3' => ?_, fun h3' => ?_, ws, h1, h2, h3, h4, h5, h6, List.getElem?_eq_getElem hil, rfl, h7, h8, h9, h10⟩
  · rw [h8.cell]
    have : i - k0 = 0 ∨ i - k0 = 1 ∨ i - k0 = 2 := by omega
    rcases this with e | e | e <;> rw [e] <;> rfl
  · unfold xw; rw [if_neg (by omega), if_neg (by omega), if_neg (by omega)]

theorem div_bd (a y cv : Int) (ha0 : 0 ≤ a) (ha1 : a < 18446744073709551616) (hy0 : 0 ≤ y) (hy1 : y < 18446744073709551616) (h0 : 0 ≤ cv) (h1 : cv ≤ 1) : 0 ≤ (a + y + cv) / 18446744073709551616 ∧ (a + y + cv) / 18446744073709551616 ≤ 1 := by omega

theorem put_add {w : World} {g k0 : Nat} {ws0 : List Int} {x0 x1 x2 : Int} {u d : Bool} {i : Nat} {cv a y : Int} {wr : World} (h : PutAt w g k0 ws0 x0 x1 x2 1 u d i cv a y wr) (hgl : g < w.heap.size) (hlt : i < 68)
    (ha0 : 0 ≤ a) (ha1 : a < 18446744073709551616) (hy0 : 0 ≤ y) (hy1 : y < 18446744073709551616) :
    PutRel w g k0 ws0 x0 x1 x2 1 u d (.int .u64 ((a + y + cv) / 18446744073709551616)) (.int .i64 ((i : Int) + 1)) (wr.setCell ⟨g, i, none⟩ (.int .u64 ((a + y + cv) % 18446744073709551616))).drew := by
  obtain ⟨ws, h1, h2, h3, h4, h5, h6, ha, hyx, h7, h8, h9, h10⟩ := h
  have hil : i < ws.length := by omega
  rw [List.getElem?_eq_getElem hil] at ha
  injection ha with ha
  have hy : k0 + (i - k0) = i := by omega
  have hbd := div_bd a y cv ha0 ha1 hy0 hy1 h3 h4
  refine ⟨i + 1, ws.set i ((a + y + cv) % 18446744073709551616), _, by simp, rfl, by omega, by omega, hbd.1, hbd.2, by simpa using h5, okws_set _ _ _ h6 ⟨by omega, by omega⟩, ?_, ?_, ?_, ?_⟩
  · rw [← accC_set _ _ _ _ _ hil]
    exact (h7.set_ i _).drew
  · exact (h8.far (by simp; omega) _).drew
  · exact only_drew (only_setCell h9 (.inl rfl) _)
  · have hs := add_step ws0 ws k0 (i - k0) x0 x1 x2 cv (by omega) (by rw [hy]; simpa using h10)
    have e1 : i + 1 - k0 = i - k0 + 1 := by omega
    rw [e1, hyx]
    simp only [hy] at hs
    rw [ha] at hs
    simpa using hs

theorem put_sub {w : World} {g k0 : Nat} {ws0 : List Int} {x0 x1 x2 : Int} {u d : Bool} {i : Nat} {cv a y : Int} {wr : World} (h : PutAt w g k0 ws0 x0 x1 x2 (-1) u d i cv a y wr) (hgl : g < w.heap.size) (hlt : i < 68)
    (ha0 : 0 ≤ a) (ha1 : a < 18446744073709551616) (hy0 : 0 ≤ y) (hy1 : y < 18446744073709551616) :
    PutRel w g k0 ws0 x0 x1 x2 (-1) u d (.int .u64 (brw a y cv)) (.int .i64 ((i : Int) + 1)) (wr.setCell ⟨g, i, none⟩ (.int .u64 ((a - y - cv) % 18446744073709551616))).drew := by
  obtain ⟨ws, h1, h2, h3, h4, h5, h6, ha, hyx, h7, h8, h9, h10⟩ := h
  have hil : i < ws.length := by omega
  rw [List.getElem?_eq_getElem hil] at ha
  injection ha with ha
  have hy : k0 + (i - k0) = i := by omega
  have hbd := brw_bd a y cv
  refine ⟨i + 1, ws.set i ((a - y - cv) % 18446744073709551616), _, by simp, rfl, by omega, by omega, hbd.1, hbd.2, by simpa using h5, okws_set _ _ _ h6 ⟨by omega, by omega⟩, ?_, ?_, ?_, ?_⟩
  · rw [← accC_set _ _ _ _ _ hil]
    exact (h7.set_ i _).drew
  · exact (h8.far (by simp; omega) _).drew
  · exact only_drew (only_setCell h9 (.inl rfl) _)
  · have hb : (a - y - cv) % 18446744073709551616 - 18446744073709551616 * brw a y cv = a - y - cv := by
      unfold brw; split <;> omega
    have hs := sub_step ws0 ws k0 (i - k0) x0 x1 x2 cv (by omega) (by rw [hy]; omega) (brw a y cv) ((a - y - cv) % 18446744073709551616) (by simp only [hy]; rw [ha, ← hyx]; exact hb)
    have e1 : i + 1 - k0 = i - k0 + 1 := by omega
    rw [e1]
    simp only [hy] at hs
    omega

theorem put_add0 {w : World} {g k0 : Nat} {ws0 : List Int} {x0 x1 x2 : Int} {u d : Bool} {i : Nat} {cv a : Int} {wr : World} (h : PutAt w g k0 ws0 x0 x1 x2 1 u d i cv a 0 wr) (hgl : g < w.heap.size) (hlt : i < 68)
    (ha0 : 0 ≤ a) (ha1 : a < 18446744073709551616) :
    PutRel w g k0 ws0 x0 x1 x2 1 u d (.int .u64 ((a + cv) / 18446744073709551616)) (.int .i64 ((i : Int) + 1)) (wr.setCell ⟨g, i, none⟩ (.int .u64 ((a + cv) % 18446744073709551616))).drew := by
  have := put_add h hgl hlt ha0 ha1 (by omega) (by omega)
  rw [Int.add_zero] at this
  exact this
theorem put_sub0 {w : World} {g k0 : Nat} {ws0 : List Int} {x0 x1 x2 : Int} {u d : Bool} {i : Nat} {cv a : Int} {wr : World} (h : PutAt w g k0 ws0 x0 x1 x2 (-1) u d i cv a 0 wr) (hgl : g < w.heap.size) (hlt : i < 68)
    (ha0 : 0 ≤ a) (ha1 : a < 18446744073709551616) :
    PutRel w g k0 ws0 x0 x1 x2 (-1) u d (.int .u64 (brw a 0 cv)) (.int .i64 ((i : Int) + 1)) (wr.setCell ⟨g, i, none⟩ (.int .u64 ((a - cv) % 18446744073709551616))).drew := by
  have := put_sub h hgl hlt ha0 ha1 (by omega) (by omega)
  rw [Int.sub_zero] at this
  exact this

/-- An Acc in memory: its sum is T (as two's complement), and which infinities came. -/
def AccS (w : World) (g : Nat) (T : Int) (u d : Bool) : Prop := ∃ ws : List Int, ws.length = 68 ∧ okws ws ∧ Blk w g 285 (accC ws u d) ∧ V ws = T % (18446744073709551616 : Int) ^ 68

theorem put_end {w : World} {g k0 : Nat} {ws0 : List Int} {x0 x1 x2 s : Int} {u d : Bool} {c iv : Value} {wr : World} (T Y : Int) (hk : k0 ≤ 65) (hi : iv = .int .i64 68) (h : PutRel w g k0 ws0 x0 x1 x2 s u d c iv wr)
    (hT : V ws0 = T % (18446744073709551616 : Int) ^ 68) (hY : (x0 + x1 * 18446744073709551616 + x2 * 340282366920938463463374607431768211456) * (18446744073709551616 : Int) ^ k0 = Y) : AccS wr g (T + s * Y) u d ∧ w.grownBy wr (some g) := by
  obtain ⟨i, ws, cv, rfl, _, h1, h2, h3, h4, h5, h6, h7, h8, h9, h10⟩ := h
  have : i = 68 := by
    injection hi with _ hi; omega
  subst this
  have e : xp x0 x1 x2 (68 - k0) = x0 + x1 * 18446744073709551616 + x2 * 340282366920938463463374607431768211456 := by
    unfold xp; rw [if_neg (by omega), if_neg (by omega), if_neg (by omega)]
  rw [e, hY] at h10
  refine ⟨⟨ws, h5, h6, h7, ?_⟩, h9⟩
  have p1 := V_nonneg ws h6
  have p2 := V_lt ws h6
  rw [h5] at p2
  generalize (18446744073709551616 : Int) ^ 68 = P at *
  have e2 : V ws = T % P + s * Y - (s * cv) * P := by grind
  have e3 : (T + s * Y) % P = (V ws) % P := by
    rw [e2, Int.sub_mul_emod_self_right, Int.emod_add_emod]
  rw [e3, Int.emod_eq_of_lt p1 p2]


set_option maxRecDepth 100000 in
set_option maxHeartbeats 400000 in
theorem put_add_any (g : Nat) (hi lo n : Int) (T : Int) (u d : Bool) (w : World) (h1 : 0 ≤ hi) (h2 : hi < 18446744073709551616) (h3 : 0 ≤ lo) (h4 : lo < 18446744073709551616) (h5 : 0 ≤ n) (h6 : n ≤ 4160)
    (hS : AccS w g T u d) :
    Calls Tryz.prog 243 #[.pointer (some ⟨g, 0, none⟩), .int .u64 hi, .int .u64 lo, .int .i64 n, .bool false] w fun e w' => e = .returned (.tuple #[]) ∧ AccS w' g (T + 1 * ((hi * 18446744073709551616 + lo) * 2 ^ n.toNat)) u d ∧ w.grownBy w' (some g) := by
  obtain ⟨ws0, hlen, hok, hb, hV⟩ := hS
  have HVV := Lib.hid hV
  clear hV
  have hgl := hb.lt
  go_enter Tryz.func243, Tryz.ntmps243
  go_wp2
  go_region
  go_wp2
  have hxx := put_x hi lo (n % 64).toNat h1 h2 h3 h4 (by omega)
  have e64 : 64 - (n % 64).toNat = (64 - n % 64).toNat := by omega
  rw [e64] at hxx
  generalize hx0 : IntKind.u64.wrap (lo * 2 ^ (n % 64).toNat) = x0 at *
  generalize hx1 : bits BinOp.or IntKind.u64 (IntKind.u64.wrap (hi * 2 ^ (n % 64).toNat)) (lo / 2 ^ (64 - n % 64).toNat) = x1 at *
  generalize hx2 : hi / 2 ^ (64 - n % 64).toNat = x2 at *
  have hk : ∃ k0 : Nat, n / 64 = k0 ∧ k0 ≤ 65 := ⟨(n / 64).toNat, by omega, by omega⟩
  obtain ⟨k0, hk0, hk65⟩ := hk
  obtain ⟨X0, X1, X2, HXX⟩ := hxx
  have HFIN : Hid ((x0 + x1 * 18446744073709551616 + x2 * 340282366920938463463374607431768211456) * (18446744073709551616 : Int) ^ k0 = (hi * 18446744073709551616 + lo) * 2 ^ n.toNat) := by
    have e2 : n.toNat = (n % 64).toNat + 64 * k0 := by omega
    rw [HXX, e2, Int.pow_add, Int.pow_mul]
    exact Int.mul_assoc _ _ _
  rw [hk0]
  clear hx0 hx1 hx2 hk0 HXX e64
  have HB := Lib.hid hb
  clear hb
  have HO := Lib.hid hok
  clear hok
  have HL := Lib.hid hlen
  clear hlen
  go_loopw [13, 14] (fun c i wr => PutRel w g k0 ws0 x0 x1 x2 1 u d c i wr) (fun _ i _ => 68 - (intOf i).toNat)
  case atStart =>
    refine ⟨k0, ws0, 0, rfl, rfl, Nat.le_refl _, by omega, by omega, by omega, HL.out, HO.out, ?_, ?_, ?_, ?_⟩
    · exact (HB.out.alloc _).drew
    · exact (Blk.new w _ _).drew
    · exact only_drew (only_alloc (World.grownBy.refl w _) _)
    · simp [xp]
  case round =>
    obtain ⟨i, cv, rfl, rfl, hi1, hi2, hc0, hc1, hat⟩ := put_open X0 X1 X2 hrel
    have HREL := Lib.hid hrel; clear hrel
    by_cases hlt : i < 68
    · obtain ⟨a, y, hcell, hfz, ha0, ha1, hy0, hy1, hxc, hy3, hA⟩ := hat hlt
      clear hat HREL
      have HA := Lib.hid hA; clear hA
      by_cases hk3 : i < k0 + 3
      · have hxc := hxc hk3
        clear hy3
        have hadd := fun W => ext325 a y cv ha0 hy0 hc0 hc1 W
        go_wp2
        go_region
        all_goals go_wp2
        go_roundw
        case rel => exact put_add HA.out hgl hlt ha0 ha1 hy0 hy1
        case measure => simp [intOf]; omega
      · clear hxc
        obtain rfl : y = 0 := hy3 hk3
        have hadd := fun W => ext325 a 0 cv ha0 hy0 hc0 hc1 W
        go_wp2
        go_region
        all_goals go_wp2
        go_roundw
        case rel => exact put_add0 HA.out hgl hlt ha0 ha1
        case measure => simp [intOf]; omega
    · clear hat
      obtain rfl : i = 68 := by omega
      go_wp2
      go_end0
      exact ⟨rfl, put_end T _ hk65 rfl HREL.out HVV.out HFIN.out⟩
set_option maxRecDepth 100000 in
set_option maxHeartbeats 400000 in
theorem put_sub_any (g : Nat) (hi lo n : Int) (T : Int) (u d : Bool) (w : World) (h1 : 0 ≤ hi) (h2 : hi < 18446744073709551616) (h3 : 0 ≤ lo) (h4 : lo < 18446744073709551616) (h5 : 0 ≤ n) (h6 : n ≤ 4160)
    (hS : AccS w g T u d) :
    Calls Tryz.prog 243 #[.pointer (some ⟨g, 0, none⟩), .int .u64 hi, .int .u64 lo, .int .i64 n, .bool true] w fun e w' => e = .returned (.tuple #[]) ∧ AccS w' g (T + (-1) * ((hi * 18446744073709551616 + lo) * 2 ^ n.toNat)) u d ∧ w.grownBy w' (some g) := by
  obtain ⟨ws0, hlen, hok, hb, hV⟩ := hS
  have HVV := Lib.hid hV
  clear hV
  have hgl := hb.lt
  go_enter Tryz.func243, Tryz.ntmps243
  go_wp2
  go_region
  go_wp2
  have hxx := put_x hi lo (n % 64).toNat h1 h2 h3 h4 (by omega)
  have e64 : 64 - (n % 64).toNat = (64 - n % 64).toNat := by omega
  rw [e64] at hxx
  generalize hx0 : IntKind.u64.wrap (lo * 2 ^ (n % 64).toNat) = x0 at *
  generalize hx1 : bits BinOp.or IntKind.u64 (IntKind.u64.wrap (hi * 2 ^ (n % 64).toNat)) (lo / 2 ^ (64 - n % 64).toNat) = x1 at *
  generalize hx2 : hi / 2 ^ (64 - n % 64).toNat = x2 at *
  have hk : ∃ k0 : Nat, n / 64 = k0 ∧ k0 ≤ 65 := ⟨(n / 64).toNat, by omega, by omega⟩
  obtain ⟨k0, hk0, hk65⟩ := hk
  obtain ⟨X0, X1, X2, HXX⟩ := hxx
  have HFIN : Hid ((x0 + x1 * 18446744073709551616 + x2 * 340282366920938463463374607431768211456) * (18446744073709551616 : Int) ^ k0 = (hi * 18446744073709551616 + lo) * 2 ^ n.toNat) := by
    have e2 : n.toNat = (n % 64).toNat + 64 * k0 := by omega
    rw [HXX, e2, Int.pow_add, Int.pow_mul]
    exact Int.mul_assoc _ _ _
  rw [hk0]
  clear hx0 hx1 hx2 hk0 HXX e64
  have HB := Lib.hid hb
  clear hb
  have HO := Lib.hid hok
  clear hok
  have HL := Lib.hid hlen
  clear hlen
  go_loopw [13, 14] (fun c i wr => PutRel w g k0 ws0 x0 x1 x2 (-1) u d c i wr) (fun _ i _ => 68 - (intOf i).toNat)
  case atStart =>
    refine ⟨k0, ws0, 0, rfl, rfl, Nat.le_refl _, by omega, by omega, by omega, HL.out, HO.out, ?_, ?_, ?_, ?_⟩
    · exact (HB.out.alloc _).drew
    · exact (Blk.new w _ _).drew
    · exact only_drew (only_alloc (World.grownBy.refl w _) _)
    · simp [xp]
  case round =>
    obtain ⟨i, cv, rfl, rfl, hi1, hi2, hc0, hc1, hat⟩ := put_open X0 X1 X2 hrel
    have HREL := Lib.hid hrel; clear hrel
    by_cases hlt : i < 68
    · obtain ⟨a, y, hcell, hfz, ha0, ha1, hy0, hy1, hxc, hy3, hA⟩ := hat hlt
      clear hat HREL
      have HA := Lib.hid hA; clear hA
      by_cases hk3 : i < k0 + 3
      · have hxc := hxc hk3
        clear hy3
        obtain ⟨hq0, hq1⟩ := brw_bd a y cv
        have hadd := fun W => ext324 a y cv ha0 hy0 hy1 hc0 hc1 W
        go_wp2
        go_region
        all_goals go_wp2
        go_roundw
        case rel => exact put_sub HA.out hgl hlt ha0 ha1 hy0 hy1
        case measure => simp [intOf]; omega
      · clear hxc
        obtain rfl : y = 0 := hy3 hk3
        obtain ⟨hq0, hq1⟩ := brw_bd a 0 cv
        have hadd := fun W => ext324 a 0 cv ha0 hy0 hy1 hc0 hc1 W
        go_wp2
        go_region
        all_goals go_wp2
        go_roundw
        case rel => exact put_sub0 HA.out hgl hlt ha0 ha1
        case measure => simp [intOf]; omega
    · clear hat
      obtain rfl : i = 68 := by omega
      go_wp2
      go_end0
      exact ⟨rfl, put_end T _ hk65 rfl HREL.out HVV.out HFIN.out⟩
end Go.Proofs.YtefaedjjecfabaaGreat.Ten
