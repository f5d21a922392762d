/- Parts of the proof of CurveChecks: contracts of the functions that it reaches, and the plain laws under them (Ax Ne Nf Ov On Cu). Conditions: those that each theorem names. -/
import Derived.Deep.MidRow
import Derived.Laws.Tables
import Derived.Laws.CopyOwn
import Derived.Laws.ResultCell
import Derived.Test.YtefaedjjecfabaaGreatWAc
import Derived.Test.YtefaedjjecfabaaGreatWIh
import Derived.Test.YtefaedjjecfabaaGreatWPi
namespace Go.Proofs.YtefaedjjecfabaaGreat.Ten
open Go Go.RowKit

def arrC (ws : List Int) : Array Value := (ws.map (Value.int .u64)).toArray
theorem arrC_size (ws : List Int) : (arrC ws).size = ws.length := by simp [arrC]
theorem arrC_get (ws : List Int) (i : Nat) (h : i < ws.length) : (arrC ws)[i]? = some (.int .u64 ws[i]) := by
  unfold arrC
  rw [List.getElem?_toArray]
  simp [h]
theorem arrC_set (ws : List Int) (i : Nat) (x : Int) : (arrC ws).setIfInBounds i (.int .u64 x) = arrC (ws.set i x) := by
  unfold arrC
  rw [List.setIfInBounds_toArray, List.map_set]

theorem run_index_arr (ws : List Int) (hl : ws.length = 68) (i : Nat) (h : i < ws.length) (w : World) : (Instr.index 283 (.agg (arrC ws)) (.int .i64 (i : Int))).run Tryz.prog w = .ok (.int .u64 ws[i]) w := by
  have hs : (Tryz.prog.info? 43).map (·.size) = some 1 := by kernel_rfl
  cases hq : Tryz.prog.info? 43 with
  | none => simp [hq] at hs
  | some i0 =>
    have hs1 : i0.size = 1 := by simpa [hq] using hs
    simp [Instr.index, run_underlying Tryz.underlying283, sizeOf, typeInfo, hq, hs1, asIntOf]
    rw [if_pos (by omega)]
    simp [part, isAgg, run_underlying Tryz.underlying43, arrC_get ws i h]

theorem size283 : (Tryz.prog.info? 283).map (·.size) = some 68 := by kernel_rfl
theorem V_take_succ (l : List Int) (i : Nat) (h : i < l.length) : V (l.take (i + 1)) = V (l.take i) + l[i] * (18446744073709551616 : Int) ^ i := by
  induction l generalizing i with
  | nil => simp at h
  | cons a l ih =>
    cases i with
    | zero => simp [V]
    | succ i =>
      simp only [List.take_succ_cons, V, List.getElem_cons_succ]
      rw [ih i (by simpa using h), Int.pow_succ]
      generalize l[i]'(by simpa using h) = y
      generalize (18446744073709551616 : Int) ^ i = P
      grind



theorem wpList_store_row {P : Program} {ops : Array Oper} {rest : List Oper} {o : Oper} {a : Act} {w : World} {Q : Exit → Act → World → Prop} (hgd : o.guard = none) (ty : TypeId) (x y : Operand) (ho : o.op = .store ty x y)
    (g : Nat) (c' : Array Value) (hx : a.eval x = .pointer (some ⟨g, 0, none⟩)) (hy : a.eval y = .agg c') (t : TypeId) (cs : Array Value) (hg : Blk w g t cs)
    (hi : (P.info? ty).map (·.size) = some c'.size) (hs : cs.size = c'.size) (h1 : c'.all (·.oneCell') = true)
    (h : wpList P ops Q rest (a.put o.dst undef) (w.setRow g c')) : wpList P ops Q (o :: rest) a w :=
  wpList_plain hgd fun _ hK => by
    unfold Oper.wp execOp
    simp only [ho, hx, hy, Instr.storeAt, Instr.sureAddr, Sem.run_bind, Sem.run_pure, Result.andThen_ok, run_storeVar_row w g t ty cs c' hg hi hs h1]
    exact hK _ _ h
theorem Blk.setRow {w : World} {g : Nat} {t : TypeId} {cs : Array Value} (h : Blk w g t cs) (c' : Array Value) : Blk (w.setRow g c') g t c' := by
  unfold Blk at h ⊢
  simp [World.setRow, Array.getElem?_modify, h]
theorem Blk.setRow_far {w : World} {g g' : Nat} {t : TypeId} {cs : Array Value} (h : Blk w g t cs) (hne : g' ≠ g) (c' : Array Value) : Blk (w.setRow g' c') g t cs := by
  unfold Blk at h ⊢
  simp [World.setRow, Array.getElem?_modify, h, hne]
theorem arrC_one (ws : List Int) : (arrC ws).all (·.oneCell') = true := by
  unfold arrC
  apply all_oneCell_toArray
  intro v hv
  rw [List.mem_map] at hv
  obtain ⟨x, _, rfl⟩ := hv
  rfl

def TurnAt (w : World) (ws0 : List Int) (i : Nat) (cv a : Int) (wr : World) : Prop :=
  ∃ cur : List Int, i ≤ 68 ∧ 0 ≤ cv ∧ cv ≤ 1 ∧ cur.length = 68 ∧ okws cur ∧ (∀ j, i ≤ j → cur[j]? = ws0[j]?) ∧ (i < 68 → cur[i]? = some a) ∧
    Blk wr w.heap.size 283 (arrC cur) ∧ Blk wr (w.heap.size + 1) 283 Tryz.zeroCells283 ∧ Below w.heap.size w wr ∧ w.heap.size + 1 < wr.heap.size ∧
    V cur - cv * (18446744073709551616 : Int) ^ i = V ws0 - 2 * V (ws0.take i)
def TurnRel (w : World) (ws0 : List Int) (c iv : Value) (wr : World) : Prop := ∃ (i : Nat) (cv a : Int), iv = .int .i64 (i : Int) ∧ c = .int .u64 cv ∧ TurnAt w ws0 i cv a wr

theorem turn_open {w : World} {ws0 : List Int} {c iv : Value} {wr : World} (h : TurnRel w ws0 c iv wr) : ∃ (i : Nat) (cv a : Int), iv = .int .i64 (i : Int) ∧ c = .int .u64 cv ∧ i ≤ 68 ∧ 0 ≤ cv ∧ cv ≤ 1 ∧ TurnAt w ws0 i cv a wr ∧
    (i < 68 → ws0[i]? = some a ∧ wr.cell? ⟨w.heap.size, i, none⟩ = some (.int .u64 a) ∧ wr.frozen? ⟨w.heap.size, i, none⟩ = false ∧ 0 ≤ a ∧ a < 18446744073709551616) := by
  obtain ⟨i, cv, a, rfl, rfl, h⟩ := h
  have h' := h
  obtain ⟨cur, h1, h2, h3, h4, h5, h6, h7, h8, h9, h10, h11, h12⟩ := h'
  refine ⟨i, cv, a, rfl, rfl, h1, h2, h3, h, fun hlt => ?_⟩
  have ha := h7 hlt
  have hil : i < cur.length := by omega
  rw [List.getElem?_eq_getElem hil] at ha
  injection ha with ha
  have ho := h5 _ (List.getElem_mem hil)
  refine ⟨by rw [← h6 i (Nat.le_refl _), h7 hlt], by rw [h8.cell, arrC_get _ _ hil, ha], h8.frozen i, ?_, ?_⟩
  · rw [← ha]; exact ho.1
  · rw [← ha]; exact ho.2

theorem turn_step {w : World} {ws0 : List Int} {i : Nat} {cv a : Int} {wr : World} (hl : ws0.length = 68) (h : TurnAt w ws0 i cv a wr) (hlt : i < 68) (ha0 : 0 ≤ a) (ha1 : a < 18446744073709551616) (r : Int) (hr : r = (-a - cv) % 18446744073709551616) :
    TurnRel w ws0 (.int .u64 (brw 0 a cv)) (.int .i64 ((i : Int) + 1)) (wr.setCell ⟨w.heap.size, i, none⟩ (.int .u64 r)) := by
  obtain ⟨cur, h1, h2, h3, h4, h5, h6, h7, h8, h9, h10, h11, h12⟩ := h
  have ha := h7 hlt
  have hil : i < cur.length := by omega
  rw [List.getElem?_eq_getElem hil] at ha
  injection ha with ha
  have hbd := brw_bd 0 a cv
  have hb : r - 18446744073709551616 * brw 0 a cv = 0 - a - cv := by
    subst hr
    unfold brw; split <;> omega
  have hro : okw r := by subst hr; exact ⟨by omega, by omega⟩
  clear hr
  refine ⟨i + 1, brw 0 a cv, (ws0[i + 1]?).getD 0, by simp, rfl, cur.set i r, by omega, hbd.1, hbd.2, by simpa using h4, okws_set _ _ _ h5 hro, ?_, ?_, ?_, ?_, ?_, ?_, ?_⟩
  · intro j hj
    rw [List.getElem?_set_ne (by omega)]
    exact h6 j (by omega)
  · intro h'
    rw [List.getElem?_set_ne (by omega), h6 (i + 1) (by omega), List.getElem?_eq_getElem (by omega)]; rfl
  · rw [← arrC_set]; exact h8.set_ i _
  · exact h9.far (by simp) _
  · exact h10.setCell (by simp) _
  · simpa [World.setCell] using h11
  · have hw : ws0[i] = a := by
      have := h6 i (Nat.le_refl _)
      rw [List.getElem?_eq_getElem hil, List.getElem?_eq_getElem (show i < ws0.length by omega)] at this
      injection this with this
      rw [← this, ha]
    rw [V_set _ _ _ hil, V_take_succ _ _ (by omega), hw, ha, Int.pow_succ]
    generalize (18446744073709551616 : Int) ^ i = P at *
    generalize V ws0 = A at *
    generalize V (ws0.take i) = B at *
    generalize V cur = C at *
    generalize brw 0 a cv = b at *
    have : r = 0 - a - cv + 18446744073709551616 * b := by omega
    subst this
    grind

theorem turn_end {w : World} {ws0 : List Int} {i : Nat} {cv a : Int} {wr : World} (hl : ws0.length = 68) (hi : ¬ i < 68) (h : TurnAt w ws0 i cv a wr) :
    ∃ cur : List Int, cur.length = 68 ∧ okws cur ∧ V cur = (-V ws0) % (18446744073709551616 : Int) ^ 68 ∧ Blk wr w.heap.size 283 (arrC cur) ∧ Blk wr (w.heap.size + 1) 283 Tryz.zeroCells283 ∧ Below w.heap.size w wr := by
  obtain ⟨cur, h1, h2, h3, h4, h5, h6, h7, h8, h9, h10, h11, h12⟩ := h
  obtain rfl : i = 68 := by omega
  refine ⟨cur, h4, h5, ?_, h8, h9, h10⟩
  rw [List.take_of_length_le (by omega)] at h12
  have p1 := V_nonneg cur h5
  have p2 := V_lt cur h5
  rw [h4] at p2
  generalize (18446744073709551616 : Int) ^ 68 = P at *
  have e : -V ws0 = V cur + (-cv) * P := by grind
  rw [e, Int.add_mul_emod_self_right, Int.emod_eq_of_lt p1 p2]

set_option maxRecDepth 100000 in
set_option maxHeartbeats 1000000 in
theorem turned_any (ws : List Int) (w : World) (hl : ws.length = 68) (hok : okws ws) : Calls Tryz.prog 320 #[.agg (arrC ws)] w fun e w' => ∃ cur : List Int, e = .returned (.agg (arrC cur)) ∧ cur.length = 68 ∧ okws cur ∧ V cur = (-V ws) % (18446744073709551616 : Int) ^ 68 ∧ Below w.heap.size w w' := by
  go_enter Tryz.func320, Tryz.ntmps320
  go_wp2_with (refine wpList_load_row rfl 283 _ rfl w.heap.size rfl 283 (arrC ws) (0, 0) _ (heap_alloc2_old w _ _) Tryz.underlying283 rfl (by rw [size283, arrC_size, hl]) ?_)
  have HIX := Lib.hid (fun (i : Nat) (h : i < ws.length) (W : World) => run_index_arr ws hl i h W)
  have HL := Lib.hid hl; clear hl
  have HOK := Lib.hid hok; clear hok
  go_loopw [3, 7] (fun c i wr => TurnRel w ws c i wr) (fun _ i _ => 68 - (intOf i).toNat)
  case atStart =>
    refine ⟨0, 0, (ws[0]?).getD 0, rfl, rfl, ws, by omega, by omega, by omega, HL.out, HOK.out, fun _ _ => rfl, fun _ => ?_, ?_, ?_, ?_, ?_, by simp [V]⟩
    · have := HL.out
      rw [List.getElem?_eq_getElem (by omega)]; rfl
    · exact (Blk.new w _ _).alloc _
    · exact heap_alloc2_new w _ _
    · exact ((Below.refl _ _).alloc (Nat.le_refl _) _).alloc (by simp) _
    · simp
  case round =>
    obtain ⟨i, cv, a, rfl, rfl, hi, hc0, hc1, hA, hat⟩ := turn_open hrel
    have HA := Lib.hid hA; clear hA hrel
    by_cases hlt : i < 68
    · obtain ⟨hw, hcell, hfz, ha0, ha1⟩ := hat hlt
      have hix := fun W => HIX.out i (by rw [HL.out]; exact hlt) W
      have hwa : ws[i]'(by rw [HL.out]; exact hlt) = a := by
        rw [List.getElem?_eq_getElem (by rw [HL.out]; exact hlt)] at hw
        injection hw
      rw [hwa] at hix
      clear hw hat hwa
      have hsub := fun W => ext324 0 a cv (by omega) ha0 ha1 hc0 hc1 W
      obtain ⟨hq0, hq1⟩ := brw_bd 0 a cv
      go_wp2
      go_roundw
      case rel => exact turn_step HL.out HA.out hlt ha0 ha1 _ rfl
      case measure => simp [intOf]; omega
    · clear hat
      obtain ⟨cur, t1, t2, t3, t4, t5, t6⟩ := turn_end HL.out hlt HA.out
      have hz : Tryz.zeroCells283.size = (arrC cur).size := by rw [arrC_size, t1]; kernel_rfl
      have hci : (Tryz.prog.info? 283).map (·.size) = some (arrC cur).size := by rw [size283, arrC_size, t1]
      go_wp2_with (first | (refine wpList_load_row rfl 283 _ rfl w.heap.size rfl 283 (arrC cur) (0, 0) _ t4 Tryz.underlying283 rfl hci ?_) | (refine wpList_store_row rfl 283 _ _ rfl (w.heap.size + 1) (arrC cur) rfl rfl 283 _ t5 hci hz (arrC_one cur) ?_))
      have hr := t5.setRow (arrC cur)
      refine bodyPost_ret (results_cell_row rfl _ _ (w.heap.size + 1) 283 (arrC cur) (0, 0) _ rfl hr Tryz.underlying283 rfl hci) rfl ?_
      exact ⟨cur, rfl, t1, t2, t3, below_setRow t6 (by omega) _⟩
end Go.Proofs.YtefaedjjecfabaaGreat.Ten

namespace Go.Proofs.YtefaedjjecfabaaGreat.Ten
open Go Go.RowKit

set_option maxRecDepth 100000 in
set_option maxHeartbeats 400000 in
theorem ldexp_zero (k : Int) (w : World) :
    Calls Tryz.prog 383 #[.float .f64 0, .int .i64 k] w fun e w' => e = .returned (.float .f64 0) ∧ w = w' := by
  have h0 : feq 0 0 = true := by decide
  go_enter Tryz.func383, Tryz.ntmps383
  go_wp2
  go_ret
  exact ⟨rfl, rfl⟩


theorem run_slice283 (g h : Nat) (hh : h ≤ 68) (W : World) : (Instr.sliceAt 283 (.pointer (some ⟨g, 0, none⟩)) none (some (.int .i64 (h : Int))) none).run Tryz.prog W = .ok (.slice (some ⟨g, 0, none⟩) h 68) W := by
  have e1 : Tryz.prog.arrayLen 283 = 68 := by kernel_rfl
  have e2 : Tryz.prog.elem 283 = 43 := by kernel_rfl
  have e3 : (sizeOf 43).run Tryz.prog W = .ok 1 W := by kernel_rfl
  have := run_sliceAt_array_h (P := Tryz.prog) W 283 ⟨g, 0, none⟩ (by rw [e1, e2]; exact Tryz.underlying283) .i64 (h : Int) (by omega) (by rw [e1]; omega)
  rw [this, e1, e2, e3]
  simp [slicedAt, Addr.add]


/-- What near tells of Q units, and a little more. -/
def nearM (Q : Nat) (more : Bool) (j : Nat) : Nat := Q / 2 ^ (j + 1) + (if Q / 2 ^ j % 2 = 1 ∧ (Q % 2 ^ j ≠ 0 ∨ more = true ∨ Q / 2 ^ (j + 1) % 2 = 1) then 1 else 0)
@[irreducible] def nearV (Q : Nat) (more : Bool) : Nat := ldm (nearM Q more (max (blen Q - 53) 1074 - 1)) ((max (blen Q - 53) 1074 : Nat) - 2148 : Int)

def ins (ns : List Nat) : List Int := ns.map (fun n : Nat => (n : Int))
theorem ins_get (ns : List Nat) (i : Nat) (h : i < ns.length) : (arrC (ins ns))[i]? = some (.int .u64 ((ns[i] : Nat) : Int)) := by
  rw [arrC_get _ _ (by simpa [ins] using h)]
  simp [ins]

theorem half_bit (z jr : Nat) (hz : z < 18446744073709551616) : (bits .and .u64 ((z : Int) / 2 ^ jr) 1 == 1) = decide (z / 2 ^ jr % 2 = 1) := by
  have e : (z : Int) / 2 ^ jr = ((z / 2 ^ jr : Nat) : Int) := by simp
  have hlt : z / 2 ^ jr ≤ z := Nat.div_le_self _ _
  rw [e, u64_and _ _ (Int.natCast_nonneg _) (Int.ofNat_lt.2 (show _ < 18446744073709551616 by omega)) (by omega) (by omega)]
  have e2 : ((z / 2 ^ jr : Nat) : Int).toNat &&& (1 : Int).toNat = z / 2 ^ jr % 2 := by
    rw [Int.toNat_natCast]; exact Nat.and_two_pow_sub_one_eq_mod _ 1
  rw [e2]
  generalize z / 2 ^ jr % 2 = b
  rw [Bool.eq_iff_iff, beq_iff_eq, decide_eq_true_iff]; omega
theorem rest_bits (z jr : Nat) (hz : z < 18446744073709551616) (hj : jr < 64) : (bits .and .u64 (z : Int) (IntKind.u64.wrap (IntKind.u64.wrap (2 ^ jr) - 1)) != 0) = decide (z % 2 ^ jr ≠ 0) := by
  have hp := Nat.two_pow_pos jr
  have hlt : 2 ^ jr ≤ 2 ^ 63 := Nat.pow_le_pow_right (by omega) (by omega)
  have e : IntKind.u64.wrap (IntKind.u64.wrap (2 ^ jr) - 1) = ((2 ^ jr - 1 : Nat) : Int) := by
    have e1 : (2 : Int) ^ jr = ((2 ^ jr : Nat) : Int) := by simp
    rw [e1, IntKind.wrap_u64, IntKind.wrap_u64]
    generalize 2 ^ jr = P at *
    omega
  rw [e, u64_and _ _ (by omega) (by omega) (Int.natCast_nonneg _) (Int.ofNat_lt.2 (show _ < 18446744073709551616 by omega)), Int.toNat_natCast, Int.toNat_natCast, Nat.and_two_pow_sub_one_eq_mod]
  generalize z % 2 ^ jr = b
  rw [Bool.eq_iff_iff, bne_iff_ne, decide_eq_true_iff]; omega
theorem word_or (x y r : Nat) (hx : x < 18446744073709551616) (mq : Nat) (h : (x / 2 ^ r) ||| (y * 2 ^ (64 - r) % 18446744073709551616) = mq) :
    bits .or .u64 ((x : Int) / 2 ^ r) (IntKind.u64.wrap ((y : Int) * 2 ^ (64 - r))) = (mq : Int) := by
  have e : (x : Int) / 2 ^ r = ((x / 2 ^ r : Nat) : Int) := by simp
  have hlt : x / 2 ^ r ≤ x := Nat.div_le_self _ _
  have e2 : IntKind.u64.wrap ((y : Int) * 2 ^ (64 - r)) = ((y * 2 ^ (64 - r) % 18446744073709551616 : Nat) : Int) := by
    have e1 : (2 : Int) ^ (64 - r) = ((2 ^ (64 - r) : Nat) : Int) := by simp
    rw [e1, ← Int.natCast_mul, IntKind.wrap_u64]; omega
  have hm : y * 2 ^ (64 - r) % 18446744073709551616 < 18446744073709551616 := Nat.mod_lt _ (by omega)
  rw [e, e2, u64_or _ _ (Int.natCast_nonneg _) (Int.ofNat_lt.2 (show _ < 18446744073709551616 by omega)) (Int.natCast_nonneg _) (Int.ofNat_lt.2 (show _ < 18446744073709551616 by omega)), Int.toNat_natCast, Int.toNat_natCast, h]

def RestRel (ns : List Nat) (ji : Nat) (R0 : Bool) (rest iv : Value) : Prop := ∃ (t : Nat) (b : Bool), iv = .int .i64 (t : Int) ∧ rest = .bool b ∧ t ≤ ji ∧ (b = true ↔ R0 = true ∨ ∃ s, s < t ∧ ∃ x, ns[s]? = some x ∧ x ≠ 0)

/-- All that the walk behind the first loop wants to know of the words. -/
structure NearAt (ns : List Nat) (more : Bool) (i bl : Nat) (k j ki r ji jr x y z mq : Nat) (half rz0 : Bool) : Prop where
  hk : max (64 * (i : Int) + (bl : Int) - 53) 1074 = (k : Int)
  hkj : (k : Int) - 1 = (j : Int)
  hk64 : (k : Int) / 64 = (ki : Int)
  hkr : (k : Int) % 64 = (r : Int)
  hj64 : (j : Int) / 64 = (ji : Int)
  hjr : (j : Int) % 64 = (jr : Int)
  hr : r < 64
  hjr64 : jr < 64
  hki : ki < 67
  hji : ji < 68
  hx : x < 18446744073709551616
  hy : y < 18446744073709551616
  hz : z < 18446744073709551616
  gx : ns[ki]? = some x
  gy : ns[ki + 1]? = some y
  gz : ns[ji]? = some z
  hm : bits .or .u64 ((x : Int) / 2 ^ r) (IntKind.u64.wrap ((y : Int) * 2 ^ (64 - r))) = (mq : Int)
  hh : (bits .and .u64 ((z : Int) / 2 ^ jr) 1 == 1) = half
  hrest : (bits .and .u64 (z : Int) (IntKind.u64.wrap (IntKind.u64.wrap (2 ^ jr) - 1)) != 0) = rz0
  hmq : mq < 9007199254740992
  k0 : 1074 ≤ k
  k1 : k ≤ 4300
  fin0 : ∀ b : Bool, (b = true ↔ (more || rz0) = true ∨ ∃ s, s < ji ∧ ∃ x, ns[s]? = some x ∧ x ≠ 0) → ¬ (half = true ∧ (b = true ∨ mq % 2 = 1)) → nearV (VN ns) more = ldm mq ((k : Int) - 2148)
  fin1 : ∀ b : Bool, (b = true ↔ (more || rz0) = true ∨ ∃ s, s < ji ∧ ∃ x, ns[s]? = some x ∧ x ≠ 0) → (half = true ∧ (b = true ∨ mq % 2 = 1)) → nearV (VN ns) more = ldm (mq + 1) ((k : Int) - 2148)

theorem near_facts (ns : List Nat) (more : Bool) (i a : Nat) (hl : ns.length = 68) (hok : okn ns) (hQ : VN ns < 2 ^ 4300) (hi : i < 68) (ha : ns[i]? = some a) (hz : ∀ j, i < j → ∀ x, ns[j]? = some x → x = 0) (hex : i = 0 ∨ a ≠ 0) :
    ∃ k j ki r ji jr x y z mq : Nat, ∃ half rz0 : Bool, NearAt ns more i (Lib.bitLen a) k j ki r ji jr x y z mq half rz0 := by
  have hil : i < ns.length := by omega
  have hai : ns[i] = a := by
    rw [List.getElem?_eq_getElem hil] at ha
    injection ha
  have halt : a < 18446744073709551616 := by rw [← hai]; exact hok _ (List.getElem_mem hil)
  have hb : blen (VN ns) = 64 * i + blen a := by
    rw [← hai]
    refine blen_words ns i hil hok ?_ ?_
    · intro x hx
      rw [List.mem_iff_getElem?] at hx
      obtain ⟨m, hm⟩ := hx
      rw [List.getElem?_drop] at hm
      exact hz _ (by omega) x hm
    · rw [hai]; exact hex
  have hbl : Lib.bitLen a = blen a := bitLen_blen a (by omega)
  have hbq : blen (VN ns) ≤ 4300 := by
    unfold blen
    split
    · omega
    · rename_i h0
      have := (Nat.log2_lt h0).2 hQ
      omega
  obtain ⟨k, hk⟩ : ∃ k, k = max (blen (VN ns) - 53) 1074 := ⟨_, rfl⟩
  have hk1 : 1074 ≤ k := by omega
  have hk2 : k ≤ 4247 := by omega
  have hkl : k / 64 + 1 < ns.length := by omega
  have hjl : (k - 1) / 64 < ns.length := by omega
  have hmq : VN ns / 2 ^ k < 2 ^ 53 := by
    rw [Nat.div_lt_iff_lt_mul (Nat.two_pow_pos k), ← Nat.pow_add]
    exact Nat.lt_of_lt_of_le (blen_lt _) (Nat.pow_le_pow_right (by omega) (by omega))
  have hkk : k = 64 * (k / 64) + k % 64 := by omega
  have hw := near_word ns (k / 64) (k % 64) (by omega) (by omega) hok (by rw [← hkk]; exact hmq)
  rw [← hkk, dif_pos hkl] at hw
  have hxlt := hok _ (List.getElem_mem (show k / 64 < ns.length by omega))
  have hylt := hok _ (List.getElem_mem hkl)
  have hzlt := hok _ (List.getElem_mem hjl)
  have hjr : (k - 1) % 64 < 64 := Nat.mod_lt _ (by omega)
  have hhalf := near_half ns (k - 1) hjl hok
  have hrest := near_rest ns (k - 1) hjl hok
  have hjk : k - 1 + 1 = k := by omega
  have hcond : ∀ b : Bool, (b = true ↔ (more || decide (ns[(k - 1) / 64] % 2 ^ ((k - 1) % 64) ≠ 0)) = true ∨ ∃ s, s < (k - 1) / 64 ∧ ∃ x, ns[s]? = some x ∧ x ≠ 0) →
      ((VN ns / 2 ^ (k - 1) % 2 = 1 ∧ (VN ns % 2 ^ (k - 1) ≠ 0 ∨ more = true ∨ VN ns / 2 ^ (k - 1 + 1) % 2 = 1)) ↔ (decide (ns[(k - 1) / 64] / 2 ^ ((k - 1) % 64) % 2 = 1) = true ∧ (b = true ∨ VN ns / 2 ^ k % 2 = 1))) := by
    intro b hb'
    rw [hjk, hhalf, decide_eq_true_iff, hb']
    have hne : VN ns % 2 ^ (k - 1) ≠ 0 ↔ (ns[(k - 1) / 64] % 2 ^ ((k - 1) % 64) ≠ 0 ∨ ∃ s, s < (k - 1) / 64 ∧ ∃ x, ns[s]? = some x ∧ x ≠ 0) := by
      rw [Ne, hrest]
      constructor
      · intro h
        by_cases h1 : ns[(k - 1) / 64] % 2 ^ ((k - 1) % 64) = 0
        · right
          by_cases h2 : ∃ s, s < (k - 1) / 64 ∧ ∃ x, ns[s]? = some x ∧ x ≠ 0
          · exact h2
          · exfalso
            apply h
            refine ⟨h1, fun x hx => ?_⟩
            rw [List.mem_iff_getElem?] at hx
            obtain ⟨m, hm⟩ := hx
            rw [List.getElem?_take] at hm
            split at hm
            · rename_i h3
              by_cases hx0 : x = 0
              · exact hx0
              · exact absurd ⟨m, h3, x, hm, hx0⟩ h2
            · cases hm
        · exact .inl h1
      · rintro (h | ⟨s, h1, x, h2, h3⟩) ⟨h4, h5⟩
        · exact h h4
        · apply h3
          apply h5
          rw [List.mem_iff_getElem?]
          exact ⟨s, by rw [List.getElem?_take, if_pos h1, h2]⟩
    rw [hne, Bool.or_eq_true, decide_eq_true_iff]
    constructor
    · rintro ⟨h1, h2⟩
      refine ⟨h1, ?_⟩
      rcases h2 with (h2 | h2) | h2 | h2
      · exact .inl (.inl (.inr h2))
      · exact .inl (.inr h2)
      · exact .inl (.inl (.inl h2))
      · exact .inr h2
    · rintro ⟨h1, h2⟩
      refine ⟨h1, ?_⟩
      rcases h2 with ((h2 | h2) | h2) | h2
      · exact .inr (.inl h2)
      · exact .inl (.inl h2)
      · exact .inl (.inr h2)
      · exact .inr (.inr h2)
  have hnv : nearV (VN ns) more = ldm (nearM (VN ns) more (k - 1)) ((k : Int) - 2148) := by
    unfold nearV; rw [← hk]
  clear hw hhalf hrest
  have hw := near_word ns (k / 64) (k % 64) (by omega) (by omega) hok (by rw [← hkk]; exact hmq)
  rw [← hkk, dif_pos hkl] at hw
  refine ⟨k, k - 1, k / 64, k % 64, (k - 1) / 64, (k - 1) % 64, ns[k / 64], ns[k / 64 + 1], ns[(k - 1) / 64], VN ns / 2 ^ k, decide (ns[(k - 1) / 64] / 2 ^ ((k - 1) % 64) % 2 = 1), decide (ns[(k - 1) / 64] % 2 ^ ((k - 1) % 64) ≠ 0), ?_⟩
  constructor
  · rw [hbl, hk, hb]; omega
  · omega
  · omega
  · omega
  · omega
  · omega
  · omega
  · omega
  · omega
  · omega
  · exact hxlt
  · exact hylt
  · exact hzlt
  · exact List.getElem?_eq_getElem _
  · exact List.getElem?_eq_getElem _
  · exact List.getElem?_eq_getElem _
  · exact word_or _ _ _ hxlt _ hw
  · exact half_bit _ _ hzlt
  · exact rest_bits _ _ hzlt hjr
  · exact hmq
  · exact hk1
  · omega
  · intro b hb' h
    rw [hnv]
    unfold nearM
    rw [if_neg (fun h' => h ((hcond b hb').1 h')), hjk, Nat.add_zero]
  · intro b hb' h
    rw [hnv]
    unfold nearM
    rw [if_pos ((hcond b hb').2 h), hjk]
end Go.Proofs.YtefaedjjecfabaaGreat.Ten

namespace Go.Proofs.YtefaedjjecfabaaGreat.Ten
open Go Go.RowKit

theorem odd_bit (mq : Nat) (h : mq < 18446744073709551616) : (bits .and .u64 (mq : Int) 1 == 1) = decide (mq % 2 = 1) := by
  have := half_bit mq 0 h
  simpa using this

theorem rest_start (ns : List Nat) (R0 : Bool) : R0 = true ↔ R0 = true ∨ ∃ s, s < 0 ∧ ∃ x, ns[s]? = some x ∧ x ≠ 0 := by
  constructor
  · exact .inl
  · rintro (h | ⟨s, h, _⟩)
    · exact h
    · omega
theorem rest_step {ns : List Nat} {R0 b : Bool} {t v : Nat} (hv : ns[t]? = some v) (hb : b = true ↔ R0 = true ∨ ∃ s, s < t ∧ ∃ x, ns[s]? = some x ∧ x ≠ 0) :
    (b || decide (v ≠ 0)) = true ↔ R0 = true ∨ ∃ s, s < t + 1 ∧ ∃ x, ns[s]? = some x ∧ x ≠ 0 := by
  rw [Bool.or_eq_true, hb, decide_eq_true_iff]
  constructor
  · rintro ((h | ⟨s, h1, h2⟩) | h)
    · exact .inl h
    · exact .inr ⟨s, by omega, h2⟩
    · exact .inr ⟨t, by omega, v, hv, h⟩
  · rintro (h | ⟨s, h1, x, h2, h3⟩)
    · exact .inl (.inl h)
    · by_cases hs : s = t
      · subst hs
        rw [hv] at h2
        injection h2 with h2
        subst h2
        exact .inr h3
      · exact .inl (.inr ⟨s, by omega, x, h2, h3⟩)

theorem ldexp_nat (m : Nat) (k : Int) (w : World) (h2 : m ≤ 9007199254740992) (hk0 : -1074 ≤ k) (hk : k ≤ 10000) :
    Calls Tryz.prog 383 #[.float .f64 (floatOfInt .f64 (m : Int)), .int .i64 k] w fun e w' => e = .returned (.float .f64 (ldm m k)) ∧ w = w' := by
  have e : floatOfInt .f64 (m : Int) = fofi m := nearest_int _
  rw [e]
  by_cases h : m = 0
  · subst h
    have e0 : fofi ((0 : Nat) : Int) = 0 := by
      rw [fofi_pos]; unfold rz; rw [Nat.zero_mul, rq_zero]; exact Nat.zero_min _
    have e1 : ldm 0 k = 0 := by
      unfold ldm rz; rw [Nat.zero_mul, rq_zero]; exact Nat.zero_min _
    rw [e0, e1]
    exact ldexp_zero k w
  · exact ldexp_num m k w (by omega) h2 hk0 hk
theorem ldexp_succ (m : Nat) (k : Int) (w : World) (h2 : m < 9007199254740992) (hk0 : -1074 ≤ k) (hk : k ≤ 10000) :
    Calls Tryz.prog 383 #[.float .f64 (floatOfInt .f64 ((m : Int) + 1)), .int .i64 k] w fun e w' => e = .returned (.float .f64 (ldm (m + 1) k)) ∧ w = w' := by
  have := ldexp_nat (m + 1) k w h2 hk0 hk
  simpa using this

/-- The first loop's state: words above slot i are 0. -/
def TopRel (ns : List Nat) (iv : Value) : Prop := ∃ i : Nat, iv = .int .i64 (i : Int) ∧ i < 68 ∧ ∀ j, i < j → ∀ x, ns[j]? = some x → x = 0

theorem top_cell {ns : List Nat} {i a : Nat} {W : World} {g : Nat} (h : ns[i]? = some a) (hB : Blk W g 283 (arrC (ins ns))) : W.cell? ⟨g, i, none⟩ = some (.int .u64 (a : Int)) := by
  have hl : i < ns.length := by
    apply Classical.byContradiction
    intro hn
    rw [List.getElem?_eq_none (by omega)] at h
    cases h
  rw [hB.cell, ins_get _ _ hl]
  rw [List.getElem?_eq_getElem hl] at h
  injection h with h
  rw [h]


set_option maxRecDepth 100000 in
set_option maxHeartbeats 4000000 in
theorem near_any (ns : List Nat) (more : Bool) (w : World) (hl : ns.length = 68) (hok : okn ns) (hQ : VN ns < 2 ^ 4300) :
    Calls Tryz.prog 322 #[.agg (arrC (ins ns)), .bool more] w fun e w' => e = .returned (.float .f64 (nearV (VN ns) more)) ∧ Below w.heap.size w w' := by
  have HL := Lib.hid hl
  have HOK := Lib.hid hok
  have HQ := Lib.hid hQ
  clear hl hok hQ
  have hB : Blk (w.alloc (.cells (arrC (ins ns)) 283)) w.heap.size 283 (arrC (ins ns)) := Blk.new w _ _
  go_enter Tryz.func322, Tryz.ntmps322
  go_wp2
  go_loop [5] (fun i => TopRel ns i) (fun i => (intOf i).toNat)
  case atStart =>
    refine ⟨67, rfl, by omega, fun j hj x hx => ?_⟩
    have hn : ns[j]? = none := List.getElem?_eq_none (by have := HL.out; omega)
    rw [hn] at hx
    cases hx
  case round =>
    obtain ⟨i, rfl, hi, hz⟩ := hrel
    obtain ⟨a, ha⟩ : ∃ a, ns[i]? = some a := by
      have := HL.out
      exact ⟨_, List.getElem?_eq_getElem (by omega)⟩
    have HBL := Lib.hid ((Below.refl w.heap.size w).alloc (Nat.le_refl _) (.cells (arrC (ins ns)) 283))
    have hc := top_cell ha hB
    have ha1 : a < 18446744073709551616 := HOK.out a (List.mem_of_getElem? ha)
    have HZ := Lib.hid hz
    have HA := Lib.hid ha
    have HB := Lib.hid hB
    clear hz ha hB
    generalize w.alloc (.cells (arrC (ins ns)) 283) = W at *
    by_cases hgo : 0 < i ∧ a = 0
    · obtain ⟨hi0, rfl⟩ := hgo
      clear ha1
      rw [Int.natCast_zero] at hc
      have hi1 : ((i : Int) > 0) := by omega
      have hi3 : decide ((i : Int) > 0) = true := by simpa using hi0
      go_wp2_with fail
      go_round
      case rel =>
        refine ⟨i - 1, by congr 1; omega, by omega, fun j hj x hx => ?_⟩
        by_cases hji : j = i
        · subst hji
          rw [HA.out] at hx
          injection hx with hx
          exact hx.symm
        · exact HZ.out j (by omega) x hx
      case measure => simp [intOf]; omega
    · have hex : i = 0 ∨ a ≠ 0 := by
        by_cases h0 : i = 0
        · exact .inl h0
        · exact .inr (fun h => hgo ⟨by omega, h⟩)
      have HN := near_facts ns more i a HL.out HOK.out HQ.out hi HA.out HZ.out hex
      obtain ⟨k, j, ki, r, ji, jr, x, y, z, mq, half, rz0, N⟩ := HN
      have h1 := N.hk
      have h2 := N.hkj
      have h3 := N.hk64
      have h4 := N.hkr
      have h5 := N.hj64
      have h6 := N.hjr
      have h7 := N.hr
      have h8 := N.hjr64
      have h9 := N.hki
      have h10 := N.hji
      have h11 := N.hm
      have h12 := N.hh
      have h13 := N.hrest
      have h14 := N.hmq
      have g1 := top_cell N.gx HB.out
      have g2 := top_cell N.gy HB.out
      have g3 := top_cell N.gz HB.out
      have CL := Lib.hid (fun w => Tryz.bits_Len64 (a : Int) w (by omega) (by omega))
      rw [Int.toNat_natCast] at CL
      have hsl := fun W => run_slice283 w.heap.size ji (by omega) W
      have hmo : (bits .and .u64 (mq : Int) 1 == 1) = decide (mq % 2 = 1) := odd_bit mq (by omega)
      have N0 := N.k0
      have N1 := N.k1
      have F0 := Lib.hid N.fin0
      have F1 := Lib.hid N.fin1
      have CN := Lib.hid (fun w => ldexp_nat mq ((k : Int) - 2148) w (by omega) (by omega) (by omega))
      have CS := Lib.hid (fun w => ldexp_succ mq ((k : Int) - 2148) w h14 (by omega) (by omega))
      clear N ha1
      rcases hex with h0 | h0
      · subst h0
        rw [Int.natCast_zero, show (64 : Int) * 0 = 0 from rfl, Int.zero_add] at h1
        go_wp2_with fail
        refine (CL.out _).mono ?_
        rintro e w' ⟨rfl, rfl⟩
        go_wp2
        have HGET : Hid (∀ t, t < 68 → ∃ v, ns[t]? = some v) := fun t ht => ⟨_, List.getElem?_eq_getElem (by rw [HL.out]; exact ht)⟩
        cases more
        · go_quiet (fail)
          go_wp2
          go_loop [11, 85] (fun r t => RestRel ns ji rz0 r t) (fun _ t => ji - (intOf t).toNat)
          case atStart => exact ⟨0, _, rfl, rfl, Nat.zero_le _, rest_start _ _⟩
          case round =>
            obtain ⟨t, b, rfl, rfl, ht, hb⟩ := hrel
            clear h1 h2 h3 h4 h6 h7 h8 h9 h11 h12 h13 g1 g2 hc
            by_cases hlt : t < ji
            · obtain ⟨v, hv⟩ := HGET.out t (by omega)
              have gv := top_cell hv (HB.out.drewN nq)
              have HBB := Lib.hid (rest_step hv hb)
              clear hb h5 g3 hmo
              cases b
              · by_cases hv0 : v = 0
                · subst hv0
                  rw [Int.natCast_zero] at gv
                  go_wp2
                  go_round
                  case rel => exact ⟨t + 1, _, by simp, rfl, hlt, by first | (simp; done) | simpa using HBB.out⟩
                  case measure => simp [intOf]; omega
                · have hv1 : ((v : Int) != 0) = true := by simpa using hv0
                  go_wp2
                  go_round
                  case rel => exact ⟨t + 1, _, by simp, rfl, hlt, by first | (simp; done) | simpa [hv0] using HBB.out⟩
                  case measure => simp [intOf]; omega
              · go_wp2
                go_round
                case rel => exact ⟨t + 1, _, by simp, rfl, hlt, by first | (simp; done) | simpa using HBB.out⟩
                case measure => simp [intOf]; omega
            · obtain rfl : t = ji := by omega
              have F0b := Lib.hid (F0.out b hb)
              have F1b := Lib.hid (F1.out b hb)
              clear hb F0 F1 h5 g3
              have HE := Lib.hid (below_drewN HBL.out nq)
              cases half
              · go_wp2_with fail
                refine (CN.out _).mono ?_
                rintro e w' ⟨rfl, rfl⟩
                go_wp2
                go_ret
                exact ⟨by rw [F0b.out (by simp)]; rfl, HE.out⟩
              · cases b
                · by_cases ho : mq % 2 = 1
                  · rw [decide_eq_true ho] at hmo
                    go_wp2_with fail
                    refine (CS.out _).mono ?_
                    rintro e w' ⟨rfl, rfl⟩
                    go_wp2
                    go_ret
                    exact ⟨by rw [F1b.out (by simp [ho])]; rfl, HE.out⟩
                  · rw [decide_eq_false ho] at hmo
                    go_wp2_with fail
                    refine (CN.out _).mono ?_
                    rintro e w' ⟨rfl, rfl⟩
                    go_wp2
                    go_ret
                    exact ⟨by rw [F0b.out (by simp [ho])]; rfl, HE.out⟩
                · go_wp2_with fail
                  refine (CS.out _).mono ?_
                  rintro e w' ⟨rfl, rfl⟩
                  go_wp2
                  go_ret
                  exact ⟨by rw [F1b.out (by simp)]; rfl, HE.out⟩
        · go_quiet (fail)
          go_wp2
          go_loop [11, 85] (fun r t => RestRel ns ji true r t) (fun _ t => ji - (intOf t).toNat)
          case atStart => exact ⟨0, _, rfl, rfl, Nat.zero_le _, rest_start _ _⟩
          case round =>
            obtain ⟨t, b, rfl, rfl, ht, hb⟩ := hrel
            clear h1 h2 h3 h4 h6 h7 h8 h9 h11 h12 h13 g1 g2 hc
            by_cases hlt : t < ji
            · obtain ⟨v, hv⟩ := HGET.out t (by omega)
              have gv := top_cell hv (HB.out.drewN nq)
              have HBB := Lib.hid (rest_step hv hb)
              clear hb h5 g3 hmo
              cases b
              · by_cases hv0 : v = 0
                · subst hv0
                  rw [Int.natCast_zero] at gv
                  go_wp2
                  go_round
                  case rel => exact ⟨t + 1, _, by simp, rfl, hlt, by first | (simp; done) | simpa using HBB.out⟩
                  case measure => simp [intOf]; omega
                · have hv1 : ((v : Int) != 0) = true := by simpa using hv0
                  go_wp2
                  go_round
                  case rel => exact ⟨t + 1, _, by simp, rfl, hlt, by first | (simp; done) | simpa [hv0] using HBB.out⟩
                  case measure => simp [intOf]; omega
              · go_wp2
                go_round
                case rel => exact ⟨t + 1, _, by simp, rfl, hlt, by first | (simp; done) | simpa using HBB.out⟩
                case measure => simp [intOf]; omega
            · obtain rfl : t = ji := by omega
              have F0b := Lib.hid (F0.out b hb)
              have F1b := Lib.hid (F1.out b hb)
              clear hb F0 F1 h5 g3
              have HE := Lib.hid (below_drewN HBL.out nq)
              cases half
              · go_wp2_with fail
                refine (CN.out _).mono ?_
                rintro e w' ⟨rfl, rfl⟩
                go_wp2
                go_ret
                exact ⟨by rw [F0b.out (by simp)]; rfl, HE.out⟩
              · cases b
                · by_cases ho : mq % 2 = 1
                  · rw [decide_eq_true ho] at hmo
                    go_wp2_with fail
                    refine (CS.out _).mono ?_
                    rintro e w' ⟨rfl, rfl⟩
                    go_wp2
                    go_ret
                    exact ⟨by rw [F1b.out (by simp [ho])]; rfl, HE.out⟩
                  · rw [decide_eq_false ho] at hmo
                    go_wp2_with fail
                    refine (CN.out _).mono ?_
                    rintro e w' ⟨rfl, rfl⟩
                    go_wp2
                    go_ret
                    exact ⟨by rw [F0b.out (by simp [ho])]; rfl, HE.out⟩
                · go_wp2_with fail
                  refine (CS.out _).mono ?_
                  rintro e w' ⟨rfl, rfl⟩
                  go_wp2
                  go_ret
                  exact ⟨by rw [F1b.out (by simp)]; rfl, HE.out⟩
      · have c0 : ((a : Int) == 0) = false := by simpa using h0
        by_cases hi0 : 0 < i
        · have hi3 : decide ((i : Int) > 0) = true := by simpa using hi0
          go_wp2_with fail
          refine (CL.out _).mono ?_
          rintro e w' ⟨rfl, rfl⟩
          go_wp2
          have HGET : Hid (∀ t, t < 68 → ∃ v, ns[t]? = some v) := fun t ht => ⟨_, List.getElem?_eq_getElem (by rw [HL.out]; exact ht)⟩
          cases more
          · go_quiet (fail)
            go_wp2
            go_loop [11, 85] (fun r t => RestRel ns ji rz0 r t) (fun _ t => ji - (intOf t).toNat)
            case atStart => exact ⟨0, _, rfl, rfl, Nat.zero_le _, rest_start _ _⟩
            case round =>
              obtain ⟨t, b, rfl, rfl, ht, hb⟩ := hrel
              clear h1 h2 h3 h4 h6 h7 h8 h9 h11 h12 h13 g1 g2 hc
              by_cases hlt : t < ji
              · obtain ⟨v, hv⟩ := HGET.out t (by omega)
                have gv := top_cell hv (HB.out.drewN nq)
                have HBB := Lib.hid (rest_step hv hb)
                clear hb h5 g3 hmo
                cases b
                · by_cases hv0 : v = 0
                  · subst hv0
                    rw [Int.natCast_zero] at gv
                    go_wp2
                    go_round
                    case rel => exact ⟨t + 1, _, by simp, rfl, hlt, by first | (simp; done) | simpa using HBB.out⟩
                    case measure => simp [intOf]; omega
                  · have hv1 : ((v : Int) != 0) = true := by simpa using hv0
                    go_wp2
                    go_round
                    case rel => exact ⟨t + 1, _, by simp, rfl, hlt, by first | (simp; done) | simpa [hv0] using HBB.out⟩
                    case measure => simp [intOf]; omega
                · go_wp2
                  go_round
                  case rel => exact ⟨t + 1, _, by simp, rfl, hlt, by first | (simp; done) | simpa using HBB.out⟩
                  case measure => simp [intOf]; omega
              · obtain rfl : t = ji := by omega
                have F0b := Lib.hid (F0.out b hb)
                have F1b := Lib.hid (F1.out b hb)
                clear hb F0 F1 h5 g3
                have HE := Lib.hid (below_drewN HBL.out nq)
                cases half
                · go_wp2_with fail
                  refine (CN.out _).mono ?_
                  rintro e w' ⟨rfl, rfl⟩
                  go_wp2
                  go_ret
                  exact ⟨by rw [F0b.out (by simp)]; rfl, HE.out⟩
                · cases b
                  · by_cases ho : mq % 2 = 1
                    · rw [decide_eq_true ho] at hmo
                      go_wp2_with fail
                      refine (CS.out _).mono ?_
                      rintro e w' ⟨rfl, rfl⟩
                      go_wp2
                      go_ret
                      exact ⟨by rw [F1b.out (by simp [ho])]; rfl, HE.out⟩
                    · rw [decide_eq_false ho] at hmo
                      go_wp2_with fail
                      refine (CN.out _).mono ?_
                      rintro e w' ⟨rfl, rfl⟩
                      go_wp2
                      go_ret
                      exact ⟨by rw [F0b.out (by simp [ho])]; rfl, HE.out⟩
                  · go_wp2_with fail
                    refine (CS.out _).mono ?_
                    rintro e w' ⟨rfl, rfl⟩
                    go_wp2
                    go_ret
                    exact ⟨by rw [F1b.out (by simp)]; rfl, HE.out⟩
          · go_quiet (fail)
            go_wp2
            go_loop [11, 85] (fun r t => RestRel ns ji true r t) (fun _ t => ji - (intOf t).toNat)
            case atStart => exact ⟨0, _, rfl, rfl, Nat.zero_le _, rest_start _ _⟩
            case round =>
              obtain ⟨t, b, rfl, rfl, ht, hb⟩ := hrel
              clear h1 h2 h3 h4 h6 h7 h8 h9 h11 h12 h13 g1 g2 hc
              by_cases hlt : t < ji
              · obtain ⟨v, hv⟩ := HGET.out t (by omega)
                have gv := top_cell hv (HB.out.drewN nq)
                have HBB := Lib.hid (rest_step hv hb)
                clear hb h5 g3 hmo
                cases b
                · by_cases hv0 : v = 0
                  · subst hv0
                    rw [Int.natCast_zero] at gv
                    go_wp2
                    go_round
                    case rel => exact ⟨t + 1, _, by simp, rfl, hlt, by first | (simp; done) | simpa using HBB.out⟩
                    case measure => simp [intOf]; omega
                  · have hv1 : ((v : Int) != 0) = true := by simpa using hv0
                    go_wp2
                    go_round
                    case rel => exact ⟨t + 1, _, by simp, rfl, hlt, by first | (simp; done) | simpa [hv0] using HBB.out⟩
                    case measure => simp [intOf]; omega
                · go_wp2
                  go_round
                  case rel => exact ⟨t + 1, _, by simp, rfl, hlt, by first | (simp; done) | simpa using HBB.out⟩
                  case measure => simp [intOf]; omega
              · obtain rfl : t = ji := by omega
                have F0b := Lib.hid (F0.out b hb)
                have F1b := Lib.hid (F1.out b hb)
                clear hb F0 F1 h5 g3
                have HE := Lib.hid (below_drewN HBL.out nq)
                cases half
                · go_wp2_with fail
                  refine (CN.out _).mono ?_
                  rintro e w' ⟨rfl, rfl⟩
                  go_wp2
                  go_ret
                  exact ⟨by rw [F0b.out (by simp)]; rfl, HE.out⟩
                · cases b
                  · by_cases ho : mq % 2 = 1
                    · rw [decide_eq_true ho] at hmo
                      go_wp2_with fail
                      refine (CS.out _).mono ?_
                      rintro e w' ⟨rfl, rfl⟩
                      go_wp2
                      go_ret
                      exact ⟨by rw [F1b.out (by simp [ho])]; rfl, HE.out⟩
                    · rw [decide_eq_false ho] at hmo
                      go_wp2_with fail
                      refine (CN.out _).mono ?_
                      rintro e w' ⟨rfl, rfl⟩
                      go_wp2
                      go_ret
                      exact ⟨by rw [F0b.out (by simp [ho])]; rfl, HE.out⟩
                  · go_wp2_with fail
                    refine (CS.out _).mono ?_
                    rintro e w' ⟨rfl, rfl⟩
                    go_wp2
                    go_ret
                    exact ⟨by rw [F1b.out (by simp)]; rfl, HE.out⟩
        · obtain rfl : i = 0 := by omega
          rw [Int.natCast_zero, show (64 : Int) * 0 = 0 from rfl, Int.zero_add] at h1
          go_wp2_with fail
          refine (CL.out _).mono ?_
          rintro e w' ⟨rfl, rfl⟩
          go_wp2
          have HGET : Hid (∀ t, t < 68 → ∃ v, ns[t]? = some v) := fun t ht => ⟨_, List.getElem?_eq_getElem (by rw [HL.out]; exact ht)⟩
          cases more
          · go_quiet (fail)
            go_wp2
            go_loop [11, 85] (fun r t => RestRel ns ji rz0 r t) (fun _ t => ji - (intOf t).toNat)
            case atStart => exact ⟨0, _, rfl, rfl, Nat.zero_le _, rest_start _ _⟩
            case round =>
              obtain ⟨t, b, rfl, rfl, ht, hb⟩ := hrel
              clear h1 h2 h3 h4 h6 h7 h8 h9 h11 h12 h13 g1 g2 hc
              by_cases hlt : t < ji
              · obtain ⟨v, hv⟩ := HGET.out t (by omega)
                have gv := top_cell hv (HB.out.drewN nq)
                have HBB := Lib.hid (rest_step hv hb)
                clear hb h5 g3 hmo
                cases b
                · by_cases hv0 : v = 0
                  · subst hv0
                    rw [Int.natCast_zero] at gv
                    go_wp2
                    go_round
                    case rel => exact ⟨t + 1, _, by simp, rfl, hlt, by first | (simp; done) | simpa using HBB.out⟩
                    case measure => simp [intOf]; omega
                  · have hv1 : ((v : Int) != 0) = true := by simpa using hv0
                    go_wp2
                    go_round
                    case rel => exact ⟨t + 1, _, by simp, rfl, hlt, by first | (simp; done) | simpa [hv0] using HBB.out⟩
                    case measure => simp [intOf]; omega
                · go_wp2
                  go_round
                  case rel => exact ⟨t + 1, _, by simp, rfl, hlt, by first | (simp; done) | simpa using HBB.out⟩
                  case measure => simp [intOf]; omega
              · obtain rfl : t = ji := by omega
                have F0b := Lib.hid (F0.out b hb)
                have F1b := Lib.hid (F1.out b hb)
                clear hb F0 F1 h5 g3
                have HE := Lib.hid (below_drewN HBL.out nq)
                cases half
                · go_wp2_with fail
                  refine (CN.out _).mono ?_
                  rintro e w' ⟨rfl, rfl⟩
                  go_wp2
                  go_ret
                  exact ⟨by rw [F0b.out (by simp)]; rfl, HE.out⟩
                · cases b
                  · by_cases ho : mq % 2 = 1
                    · rw [decide_eq_true ho] at hmo
                      go_wp2_with fail
                      refine (CS.out _).mono ?_
                      rintro e w' ⟨rfl, rfl⟩
                      go_wp2
                      go_ret
                      exact ⟨by rw [F1b.out (by simp [ho])]; rfl, HE.out⟩
                    · rw [decide_eq_false ho] at hmo
                      go_wp2_with fail
                      refine (CN.out _).mono ?_
                      rintro e w' ⟨rfl, rfl⟩
                      go_wp2
                      go_ret
                      exact ⟨by rw [F0b.out (by simp [ho])]; rfl, HE.out⟩
                  · go_wp2_with fail
                    refine (CS.out _).mono ?_
                    rintro e w' ⟨rfl, rfl⟩
                    go_wp2
                    go_ret
                    exact ⟨by rw [F1b.out (by simp)]; rfl, HE.out⟩
          · go_quiet (fail)
            go_wp2
            go_loop [11, 85] (fun r t => RestRel ns ji true r t) (fun _ t => ji - (intOf t).toNat)
            case atStart => exact ⟨0, _, rfl, rfl, Nat.zero_le _, rest_start _ _⟩
            case round =>
              obtain ⟨t, b, rfl, rfl, ht, hb⟩ := hrel
              clear h1 h2 h3 h4 h6 h7 h8 h9 h11 h12 h13 g1 g2 hc
              by_cases hlt : t < ji
              · obtain ⟨v, hv⟩ := HGET.out t (by omega)
                have gv := top_cell hv (HB.out.drewN nq)
                have HBB := Lib.hid (rest_step hv hb)
                clear hb h5 g3 hmo
                cases b
                · by_cases hv0 : v = 0
                  · subst hv0
                    rw [Int.natCast_zero] at gv
                    go_wp2
                    go_round
                    case rel => exact ⟨t + 1, _, by simp, rfl, hlt, by first | (simp; done) | simpa using HBB.out⟩
                    case measure => simp [intOf]; omega
                  · have hv1 : ((v : Int) != 0) = true := by simpa using hv0
                    go_wp2
                    go_round
                    case rel => exact ⟨t + 1, _, by simp, rfl, hlt, by first | (simp; done) | simpa [hv0] using HBB.out⟩
                    case measure => simp [intOf]; omega
                · go_wp2
                  go_round
                  case rel => exact ⟨t + 1, _, by simp, rfl, hlt, by first | (simp; done) | simpa using HBB.out⟩
                  case measure => simp [intOf]; omega
              · obtain rfl : t = ji := by omega
                have F0b := Lib.hid (F0.out b hb)
                have F1b := Lib.hid (F1.out b hb)
                clear hb F0 F1 h5 g3
                have HE := Lib.hid (below_drewN HBL.out nq)
                cases half
                · go_wp2_with fail
                  refine (CN.out _).mono ?_
                  rintro e w' ⟨rfl, rfl⟩
                  go_wp2
                  go_ret
                  exact ⟨by rw [F0b.out (by simp)]; rfl, HE.out⟩
                · cases b
                  · by_cases ho : mq % 2 = 1
                    · rw [decide_eq_true ho] at hmo
                      go_wp2_with fail
                      refine (CS.out _).mono ?_
                      rintro e w' ⟨rfl, rfl⟩
                      go_wp2
                      go_ret
                      exact ⟨by rw [F1b.out (by simp [ho])]; rfl, HE.out⟩
                    · rw [decide_eq_false ho] at hmo
                      go_wp2_with fail
                      refine (CN.out _).mono ?_
                      rintro e w' ⟨rfl, rfl⟩
                      go_wp2
                      go_ret
                      exact ⟨by rw [F0b.out (by simp [ho])]; rfl, HE.out⟩
                  · go_wp2_with fail
                    refine (CS.out _).mono ?_
                    rintro e w' ⟨rfl, rfl⟩
                    go_wp2
                    go_ret
                    exact ⟨by rw [F1b.out (by simp)]; rfl, HE.out⟩
end Go.Proofs.YtefaedjjecfabaaGreat.Ten

namespace Go.Proofs.YtefaedjjecfabaaGreat.Ten
open Go Go.RowKit
theorem run_fneg {P : Program} (b : Nat) (w : World) : (Op.unary .neg (.float .f64 b)).run P w = .ok (.float .f64 (fneg b)) w := Eq.trans (Eq.refl _) (Eq.refl _)
attribute [local go_sem] run_fneg
theorem zeroAcc : Tryz.zeroCells285 = accC (List.replicate 68 0) false false := by kernel_rfl
set_option maxRecDepth 100000 in
set_option maxHeartbeats 400000 in
theorem accnew_any (w : World) : Calls Tryz.prog 131 #[] w fun e w' => e = .returned (.pointer (some ⟨w.heap.size, 0, none⟩)) ∧ w.alloc (.cells (accC (List.replicate 68 0) false false) 285) = w' := by
  go_enter Tryz.func131, Tryz.ntmps131
  go_wp2
  go_ret
  exact ⟨rfl, by rw [zeroAcc]⟩
set_option maxRecDepth 100000 in
set_option maxHeartbeats 400000 in
theorem below_any (g : Nat) (w : World) (x : Int) (hx : w.cell? ⟨g, 67, none⟩ = some (.int .u64 x)) (h0 : 0 ≤ x) (hlt : x < 18446744073709551616) : Calls Tryz.prog 239 #[.pointer (some ⟨g, 0, none⟩)] w fun e w' => e = .returned (.bool (decide (9223372036854775808 ≤ x))) ∧ w = w' := by
  have he : (x / 9223372036854775808 == 1) = decide (9223372036854775808 ≤ x) := by
    rw [Bool.eq_iff_iff, beq_iff_eq, decide_eq_true_iff]; omega
  generalize hb : decide (9223372036854775808 ≤ x) = b at *
  go_enter Tryz.func239, Tryz.ntmps239
  go_wp2
  go_ret
  exact ⟨rfl, rfl⟩
theorem div64_any (hi lo n : Nat) (w : World) (h1 : lo < 18446744073709551616) (h3 : hi < n) (h4 : n < 18446744073709551616) :
    Calls Tryz.prog 321 #[.int .u64 (hi : Int), .int .u64 (lo : Int), .int .u64 (n : Int)] w fun e w' => e = .returned (.tuple #[.int .u64 (((hi * 18446744073709551616 + lo) / n : Nat) : Int), .int .u64 (((hi * 18446744073709551616 + lo) % n : Nat) : Int)]) ∧ ∃ k, w' = w.drewN k := by
  by_cases h : hi = 0
  · subst h
    refine (div64_small (lo : Int) (n : Int) w (by omega) (by omega) (by omega) (by omega)).mono ?_
    rintro e w' ⟨rfl, rfl⟩
    exact ⟨by simp, 1, rfl⟩
  · refine (div64_big (hi : Int) (lo : Int) (n : Int) w (by omega) (by omega) (by omega) (by omega) (by omega)).mono ?_
    rintro e w' ⟨rfl, h⟩
    exact ⟨by simp, h⟩

def DivAt (w : World) (B : Nat) (q0 : List Nat) (n : Nat) (m rv a : Nat) (wr : World) : Prop :=
  ∃ cur : List Nat, m ≤ 68 ∧ rv < n ∧ cur.length = 68 ∧ okn cur ∧ (∀ j, j < m → cur[j]? = q0[j]?) ∧ (0 < m → cur[m - 1]? = some a) ∧
    VN (cur.drop m) * n + rv = VN (q0.drop m) ∧ Blk wr B 283 (arrC (ins cur)) ∧ Below w.heap.size w wr
def DivRel (w : World) (B : Nat) (q0 : List Nat) (n : Nat) (r iv : Value) (wr : World) : Prop := ∃ m rv a : Nat, r = .int .u64 (rv : Int) ∧ iv = .int .i64 ((m : Int) - 1) ∧ DivAt w B q0 n m rv a wr

theorem div_open {w : World} {B : Nat} {q0 : List Nat} {n : Nat} {r iv : Value} {wr : World} (h : DivRel w B q0 n r iv wr) : ∃ m rv a : Nat, r = .int .u64 (rv : Int) ∧ iv = .int .i64 ((m : Int) - 1) ∧ m ≤ 68 ∧ rv < n ∧ DivAt w B q0 n m rv a wr ∧
    (0 < m → wr.cell? ⟨B, m - 1, none⟩ = some (.int .u64 (a : Int)) ∧ wr.frozen? ⟨B, m - 1, none⟩ = false ∧ a < 18446744073709551616) := by
  obtain ⟨m, rv, a, rfl, rfl, h⟩ := h
  have h' := h
  obtain ⟨cur, h1, h2, h3, h4, h5, h6, h7, h8, h9⟩ := h'
  refine ⟨m, rv, a, rfl, rfl, h1, h2, h, fun hm => ?_⟩
  exact ⟨top_cell (h6 hm) h8, h8.frozen _, h4 _ (List.mem_of_getElem? (h6 hm))⟩

theorem ins_set (l : List Nat) (i x : Nat) : (ins l).set i (x : Int) = ins (l.set i x) := by
  unfold ins; rw [List.map_set]
theorem VN_drop' (l : List Nat) (i a : Nat) (h : l[i]? = some a) : VN (l.drop i) = a + 18446744073709551616 * VN (l.drop (i + 1)) := by
  have hi : i < l.length := by
    rcases Nat.lt_or_ge i l.length with hh | hh
    · exact hh
    · rw [List.getElem?_eq_none hh] at h; cases h
  rw [List.drop_eq_getElem_cons hi, VN]
  rw [List.getElem?_eq_getElem hi] at h
  injection h with h
  rw [h]
theorem div_step {w : World} {B : Nat} {q0 : List Nat} {n m rv a : Nat} {wr : World} (hB : w.heap.size ≤ B) (h : DivAt w B q0 n m rv a wr) (hm : 0 < m) (hn : n < 18446744073709551616) (k : Nat) :
    DivRel w B q0 n (.int .u64 (((rv * 18446744073709551616 + a) % n : Nat) : Int)) (.int .i64 ((m : Int) - 1 - 1)) ((wr.drewN k).setCell ⟨B, m - 1, none⟩ (.int .u64 (((rv * 18446744073709551616 + a) / n : Nat) : Int))) := by
  obtain ⟨cur, h1, h2, h3, h4, h5, h6, h7, h8, h9⟩ := h
  have ha := h6 hm
  have hal := h4 _ (List.mem_of_getElem? ha)
  have hd : (rv * 18446744073709551616 + a) / n < 18446744073709551616 := by
    rw [Nat.div_lt_iff_lt_mul (by omega)]
    have : (rv + 1) * 18446744073709551616 ≤ n * 18446744073709551616 := Nat.mul_le_mul_right _ h2
    omega
  have hq := h5 (m - 1) (by omega)
  rw [ha] at hq
  refine ⟨m - 1, (rv * 18446744073709551616 + a) % n, (q0[m - 1 - 1]?).getD 0, rfl, by congr 1; omega, cur.set (m - 1) ((rv * 18446744073709551616 + a) / n), by omega, Nat.mod_lt _ (by omega), by simpa using h3, ?_, ?_, ?_, ?_, ?_, ?_⟩
  · intro x hx
    rcases List.mem_or_eq_of_mem_set hx with hx | hx
    · exact h4 x hx
    · rw [hx]; exact hd
  · intro j hj
    rw [List.getElem?_set_ne (by omega)]
    exact h5 j (by omega)
  · intro hm2
    rw [List.getElem?_set_ne (by omega), ← h5 (m - 1 - 1) (by omega), List.getElem?_eq_getElem (by omega)]
    rfl
  · have e1 : m - 1 + 1 = m := by omega
    rw [VN_drop' _ (m - 1) ((rv * 18446744073709551616 + a) / n) (by rw [List.getElem?_set_self (by omega)]), VN_drop' q0 (m - 1) a hq.symm, e1, List.drop_set_of_lt (by omega), ← h7]
    have := Nat.div_add_mod (rv * 18446744073709551616 + a) n
    generalize (rv * 18446744073709551616 + a) / n = d at *
    generalize (rv * 18446744073709551616 + a) % n = r at *
    generalize VN (cur.drop m) = v
    have e2 : (d + 18446744073709551616 * v) * n + r = (n * d + r) + 18446744073709551616 * (v * n) := by grind
    rw [e2, this]; omega
  · rw [← ins_set, ← arrC_set]
    exact (h8.drewN k).set_ (m - 1) _
  · exact (below_drewN h9 k).setCell hB _
theorem div_end {w : World} {B : Nat} {q0 : List Nat} {n rv a : Nat} {wr : World} (h : DivAt w B q0 n 0 rv a wr) :
    ∃ cur : List Nat, cur.length = 68 ∧ okn cur ∧ VN cur = VN q0 / n ∧ rv = VN q0 % n ∧ Blk wr B 283 (arrC (ins cur)) ∧ Below w.heap.size w wr := by
  obtain ⟨cur, h1, h2, h3, h4, h5, h6, h7, h8, h9⟩ := h
  rw [List.drop_zero, List.drop_zero] at h7
  refine ⟨cur, h3, h4, ?_, ?_, h8, h9⟩
  · rw [← h7, Nat.mul_comm, Nat.mul_add_div (by omega), Nat.div_eq_of_lt h2, Nat.add_zero]
  · rw [← h7, Nat.mul_comm, Nat.mul_add_mod, Nat.mod_eq_of_lt h2]

theorem arr_map (ws : List Int) : (ws.map (Value.int .u64)).toArray = arrC ws := rfl

theorem ins_of (cur : List Int) (hl : cur.length = 68) (hok : okws cur) : ∃ qs : List Nat, cur = ins qs ∧ okn qs ∧ qs.length = 68 ∧ (VN qs : Int) = V cur := by
  refine ⟨cur.map Int.toNat, ?_, ?_, by simpa using hl, ?_⟩
  · unfold ins
    rw [List.map_map]
    have h := List.map_congr_left (f := ((fun n : Nat => (n : Int)) ∘ Int.toNat)) (g := id) (l := cur) (fun x hx => by
      have := (hok x hx).1
      simp only [id, Function.comp]
      omega)
    rw [h, List.map_id]
  · intro x hx
    rw [List.mem_map] at hx
    obtain ⟨y, hy, rfl⟩ := hx
    have := hok y hy
    unfold okw at this
    omega
  · clear hl
    induction cur with
    | nil => rfl
    | cons x l ih =>
      have hx := (hok x (by simp)).1
      have := ih (fun y hy => hok y (by simp [hy]))
      simp only [List.map_cons, VN, V]
      rw [← this, Int.natCast_add, Int.natCast_mul, Int.toNat_of_nonneg hx]
      rfl
theorem div_init (w : World) (B n : Nat) (qs : List Nat) (hl : qs.length = 68) (hok : okn qs) (hn : 1 ≤ n) {wr : World} (hB : Blk wr B 283 (arrC (ins qs))) (hBe : Below w.heap.size w wr) :
    DivRel w B qs n (.int .u64 0) (.int .i64 67) wr := by
  refine ⟨68, 0, (qs[67]?).getD 0, rfl, rfl, qs, by omega, by omega, hl, hok, fun _ _ => rfl, fun _ => ?_, ?_, hB, hBe⟩
  · rw [List.getElem?_eq_getElem (by omega)]; rfl
  · rw [List.drop_eq_nil_of_le (by omega)]; simp [VN]
set_option maxRecDepth 100000 in
set_option maxHeartbeats 1000000 in
theorem over_pos (g : Nat) (n : Nat) (qs : List Nat) (hok1 : okn qs) (hl1 : qs.length = 68) (hn1 : 1 ≤ n) (hn2 : n < 9223372036854775808) (w : World) (hB : Blk w g 285 (accC (ins qs) false false))
   (x : Int) (hx : (ins qs)[67]? = some x) (hx0 : 0 ≤ x) (hx1 : x < 9223372036854775808) (hQ : VN qs < 2 ^ 4300) :
   Calls Tryz.prog 238 #[.pointer (some ⟨g, 0, none⟩), .int .i64 (n : Int)] w fun e w' => e = .returned (.tuple #[.float .f64 (nearV (VN qs / n) (decide (VN qs % n ≠ 0))), .bool true]) ∧ Below w.heap.size w w' := by
  have hl : (ins qs).length = 68 := by unfold ins; rw [List.length_map]; exact hl1
  have hg : g < w.heap.size := hB.lt
  have c68 : w.cell? ⟨g, 68, none⟩ = some (.bool false) := by
    rw [hB.cell]; unfold accC; rw [List.getElem?_toArray, List.getElem?_append_right (by simp; omega)]; simp [hl]
  have c69 : w.cell? ⟨g, 69, none⟩ = some (.bool false) := by
    rw [hB.cell]; unfold accC; rw [List.getElem?_toArray, List.getElem?_append_right (by simp; omega)]; simp [hl]
  have hra : w.rangeAt g 0 ((ins qs).map (Value.int .u64)) := by
    intro j v hv
    rw [Nat.zero_add, hB.cell]
    unfold accC
    rw [List.getElem?_toArray, List.getElem?_append_left]
    · exact hv
    · rcases Nat.lt_or_ge j ((ins qs).map (Value.int .u64)).length with h | h
      · exact h
      · rw [List.getElem?_eq_none h] at hv; cases hv
  have hrs : (Tryz.prog.info? 283).map (·.size) = some ((ins qs).map (Value.int .u64)).length := by rw [size283, List.length_map, hl]
  have hci : (Tryz.prog.info? 283).map (·.size) = some (arrC (ins qs)).size := by rw [size283, arrC_size, hl]
  have hz : Tryz.zeroCells283.size = (arrC (ins qs)).size := by rw [arrC_size, hl]; kernel_rfl
  have t5 := Blk.new w 283 Tryz.zeroCells283
  have hBq := t5.setRow (arrC (ins qs))
  have hBe : Below w.heap.size w ((w.alloc (.cells Tryz.zeroCells283 283)).setRow w.heap.size (arrC (ins qs))) := below_setRow ((Below.refl _ _).alloc (Nat.le_refl _) _) (Nat.le_refl _) _
  have CB : Hid (∀ W, Blk W g 285 (accC (ins qs) false false) → Calls Tryz.prog 239 #[.pointer (some ⟨g, 0, none⟩)] W fun e w' => e = .returned (.bool (decide (9223372036854775808 ≤ x))) ∧ W = w') := by
    intro W hW
    refine below_any g W x ?_ hx0 (by omega)
    rw [hW.cell]
    unfold accC
    rw [List.getElem?_toArray, List.getElem?_append_left (by simp; omega), List.getElem?_map, hx]; rfl
  have CB2 := Lib.hid (CB.out _ (((hB.alloc (.cells Tryz.zeroCells283 283)).setRow_far (g' := w.heap.size) (by omega) (arrC (ins qs)))))
  have hd : decide (9223372036854775808 ≤ x) = false := decide_eq_false (by omega)
  rw [hd] at CB CB2
  clear hx hx0 hx1 hd
  have HQ := Lib.hid hQ
  clear hQ
  have HB := Lib.hid hB
  clear hB
  go_enter Tryz.func238, Tryz.ntmps238
  go_wp2_with (first | (refine wpList_load_mid rfl 283 _ rfl g 0 rfl ((ins qs).map (Value.int .u64)) _ hra Tryz.underlying283 rfl hrs ?_) | (refine wpList_store_row rfl 283 _ _ rfl w.heap.size (arrC (ins qs)) rfl rfl 283 _ t5 hci hz (arrC_one (ins qs)) ?_))
  refine (CB2.out).mono ?_
  rintro e w' ⟨rfl, rfl⟩
  go_wp2
  clear hra hrs hci hz t5 c68 c69 CB2 hl
  have HLN := Lib.hid hl1
  have HOKN := Lib.hid hok1
  have HST := Lib.hid (div_init w (w.heap.size) n qs hl1 hok1 hn1 hBq hBe)
  clear hl1 hok1 hBq hBe
  go_loopw [7, 8] (fun r i wr => DivRel w w.heap.size qs n r i wr) (fun _ i _ => (intOf i + 1).toNat)
  case atStart => exact HST.out
  case round =>
    clear HST
    obtain ⟨m, rv, a, rfl, rfl, hm1, hrv, hA, hat⟩ := div_open hrel
    have HA := Lib.hid hA
    clear hA hrel
    by_cases hm : 0 < m
    · obtain ⟨hc, hfz, hlt⟩ := hat hm
      have CD := Lib.hid (fun w => div64_any rv a n w hlt hrv (by omega))
      have HSTEP := Lib.hid (fun k => div_step (Nat.le_refl _) HA.out hm (by omega) k)
      have e0 : ((m : Int) - 1).toNat = m - 1 := by omega
      have e1 : decide ((m : Int) - 1 ≥ 0) = true := decide_eq_true (by omega)
      have e2 : 0 ≤ (m : Int) - 1 := by omega
      have e3 : (m : Int) - 1 < 68 := by omega
      clear hat
      go_wp2_with fail
      refine (CD.out _).mono ?_
      rintro e w' ⟨rfl, kk, rfl⟩
      have hfz2 : (wr.drewN kk).frozen? ⟨w.heap.size, m - 1, none⟩ = false := hfz
      have hc2 : (wr.drewN kk).cell? ⟨w.heap.size, m - 1, none⟩ = some (.int .u64 (a : Int)) := hc
      generalize hdd : ((rv * 18446744073709551616 + a) / n) = dd at *
      generalize hdm : ((rv * 18446744073709551616 + a) % n) = dm at *
      clear hdd hdm hrv hn1 hlt
      go_wp2
      go_roundw
      case rel => exact HSTEP.out kk
      case measure => simp [intOf]; omega
    · obtain rfl : m = 0 := by omega
      obtain ⟨cur, t1, t2, t3, t4, t5, t6⟩ := div_end HA.out
      have hci : (Tryz.prog.info? 283).map (·.size) = some (arrC (ins cur)).size := by rw [size283, arrC_size]; unfold ins; rw [List.length_map, t1]
      have hQ2 : VN cur < 2 ^ 4300 := by
        rw [t3]; exact Nat.lt_of_le_of_lt (Nat.div_le_self _ _) HQ.out
      obtain ⟨mo, hmo⟩ : ∃ mo, ((rv : Int) != 0) = mo := ⟨_, rfl⟩
      have CN := Lib.hid (near_any cur mo wr t1 t2 hQ2)
      have HE : Hid (nearV (VN cur) mo = nearV (VN qs / n) (decide (VN qs % n ≠ 0))) := by
        show _ = _
        rw [t3, ← hmo, t4]
        congr 1
        rw [Bool.eq_iff_iff, bne_iff_ne, decide_eq_true_iff]
        omega
      have T6 := Lib.hid t6
      clear hat hQ2 t1 t2 t3 t4 t6
      generalize nearV (VN cur) mo = nv at *
      go_wp2_with (refine wpList_load_row rfl 283 _ rfl w.heap.size rfl 283 (arrC (ins cur)) (0, 0) _ t5 Tryz.underlying283 rfl hci ?_)
      refine (CN.out).mono ?_
      rintro e w' ⟨rfl, hb⟩
      have hBE := Lib.hid (T6.out.trans (hb.mono T6.out.size))
      have CB3 := Lib.hid (CB.out w' (HB.out.below hBE.out hg))
      clear hb
      go_wp2_with fail
      refine (CB3.out).mono ?_
      rintro e w' ⟨rfl, rfl⟩
      go_wp2
      go_ret2
      exact ⟨by rw [← HE.out]; rfl, hBE.out⟩
end Go.Proofs.YtefaedjjecfabaaGreat.Ten

namespace Go.Proofs.YtefaedjjecfabaaGreat.Ten
open Go Go.RowKit
attribute [local go_sem] run_fneg
set_option maxRecDepth 100000 in
set_option maxHeartbeats 1000000 in
theorem over_neg (g : Nat) (n : Nat) (ws : List Int) (hok0 : okws ws) (hl : ws.length = 68) (hn1 : 1 ≤ n) (hn2 : n < 9223372036854775808) (w : World) (hB : Blk w g 285 (accC ws false false))
   (x : Int) (hx : ws[67]? = some x) (hx0 : 0 ≤ x) (hx1 : 9223372036854775808 ≤ x) (hx2 : x < 18446744073709551616) (N : Nat) (hN : ((N : Int)) = (-V ws) % (18446744073709551616 : Int) ^ 68) (hQ : N < 2 ^ 4300) :
   Calls Tryz.prog 238 #[.pointer (some ⟨g, 0, none⟩), .int .i64 (n : Int)] w fun e w' => e = .returned (.tuple #[.float .f64 (fneg (nearV (N / n) (decide (N % n ≠ 0)))), .bool true]) ∧ Below w.heap.size w w' := by
  have HN := Lib.hid hN
  clear hN
  have hg : g < w.heap.size := hB.lt
  have c68 : w.cell? ⟨g, 68, none⟩ = some (.bool false) := by
    rw [hB.cell]; unfold accC; rw [List.getElem?_toArray, List.getElem?_append_right (by simp; omega)]; simp [hl]
  have c69 : w.cell? ⟨g, 69, none⟩ = some (.bool false) := by
    rw [hB.cell]; unfold accC; rw [List.getElem?_toArray, List.getElem?_append_right (by simp; omega)]; simp [hl]
  have hra : w.rangeAt g 0 (ws.map (Value.int .u64)) := by
    intro j v hv
    rw [Nat.zero_add, hB.cell]
    unfold accC
    rw [List.getElem?_toArray, List.getElem?_append_left]
    · exact hv
    · rcases Nat.lt_or_ge j (ws.map (Value.int .u64)).length with h | h
      · exact h
      · rw [List.getElem?_eq_none h] at hv; cases hv
  have hrs : (Tryz.prog.info? 283).map (·.size) = some (ws.map (Value.int .u64)).length := by rw [size283, List.length_map, hl]
  have hci : (Tryz.prog.info? 283).map (·.size) = some (arrC ws).size := by rw [size283, arrC_size, hl]
  have hz : Tryz.zeroCells283.size = (arrC ws).size := by rw [arrC_size, hl]; kernel_rfl
  have t5 := Blk.new w 283 Tryz.zeroCells283
  have hBq := t5.setRow (arrC ws)
  have hBe : Below w.heap.size w ((w.alloc (.cells Tryz.zeroCells283 283)).setRow w.heap.size (arrC ws)) := below_setRow ((Below.refl _ _).alloc (Nat.le_refl _) _) (Nat.le_refl _) _
  have CB : Hid (∀ W, Blk W g 285 (accC ws false false) → Calls Tryz.prog 239 #[.pointer (some ⟨g, 0, none⟩)] W fun e w' => e = .returned (.bool (decide (9223372036854775808 ≤ x))) ∧ W = w') := by
    intro W hW
    refine below_any g W x ?_ hx0 (by omega)
    rw [hW.cell]
    unfold accC
    rw [List.getElem?_toArray, List.getElem?_append_left (by simp; omega), List.getElem?_map, hx]; rfl
  have CB2 := Lib.hid (CB.out _ (((hB.alloc (.cells Tryz.zeroCells283 283)).setRow_far (g' := w.heap.size) (by omega) (arrC ws))))
  have hd : decide (9223372036854775808 ≤ x) = true := decide_eq_true (by omega)
  rw [hd] at CB CB2
  clear hx hx0 hx1 hd
  have HQ := Lib.hid hQ
  clear hQ
  have HB := Lib.hid hB
  clear hB
  go_enter Tryz.func238, Tryz.ntmps238
  go_wp2_with (first | (refine wpList_load_mid rfl 283 _ rfl g 0 rfl (ws.map (Value.int .u64)) _ hra Tryz.underlying283 rfl hrs ?_) | (refine wpList_store_row rfl 283 _ _ rfl w.heap.size (arrC ws) rfl rfl 283 _ t5 hci hz (arrC_one ws) ?_))
  refine (CB2.out).mono ?_
  rintro e w' ⟨rfl, rfl⟩
  have hBq0 := hBq
  go_wp2_with (first | (refine wpList_load_row rfl 283 _ rfl w.heap.size rfl 283 (arrC ws) (0, 0) _ hBq0 Tryz.underlying283 rfl hci ?_))
  refine (turned_any ws _ hl hok0).mono ?_
  rintro e w' ⟨cur, rfl, k1, k2, k3, hb⟩
  obtain ⟨qs, rfl, hok1, hl1, hv⟩ := ins_of cur k1 k2
  have hNV : N = VN qs := (Int.ofNat.inj (show (VN qs : Int) = (N : Int) by rw [hv, k3, HN.out])).symm
  clear hv k3 HN
  subst hNV
  have hWs : w.heap.size < ((w.alloc (.cells Tryz.zeroCells283 283)).setRow w.heap.size (arrC ws)).heap.size := hBq.lt
  have hBq2 : Blk w' w.heap.size 283 (arrC ws) := hBq.below hb hWs
  have hBe2 : Below w.heap.size w w' := hBe.trans (hb.mono (by omega))
  have hBq := hBq2.setRow (arrC (ins qs))
  have hBe : Below w.heap.size w (w'.setRow w.heap.size (arrC (ins qs))) := below_setRow hBe2 (Nat.le_refl _) _
  have hz2 : (arrC ws).size = (arrC (ins qs)).size := by rw [arrC_size, arrC_size, hl, k1]
  have hci2 : (Tryz.prog.info? 283).map (·.size) = some (arrC (ins qs)).size := by rw [← hz2]; exact hci
  clear hb k2 hWs
  go_wp2_with (first | (refine wpList_store_row rfl 283 _ _ rfl w.heap.size (arrC (ins qs)) rfl rfl 283 _ hBq2 hci2 hz2 (arrC_one (ins qs)) ?_))
  clear hra hrs hci hz t5 c68 c69 CB2 hl hBq0 hBq2 hBe2 hci2 hz2 hok0
  have HLN := Lib.hid hl1
  have HOKN := Lib.hid hok1
  have HST := Lib.hid (div_init w (w.heap.size) n qs hl1 hok1 hn1 hBq hBe)
  clear hl1 hok1 hBq hBe
  go_loopw [7, 8] (fun r i wr => DivRel w w.heap.size qs n r i wr) (fun _ i _ => (intOf i + 1).toNat)
  case atStart => exact HST.out
  case round =>
    clear HST
    obtain ⟨m, rv, a, rfl, rfl, hm1, hrv, hA, hat⟩ := div_open hrel
    have HA := Lib.hid hA
    clear hA hrel
    by_cases hm : 0 < m
    · obtain ⟨hc, hfz, hlt⟩ := hat hm
      have CD := Lib.hid (fun w => div64_any rv a n w hlt hrv (by omega))
      have HSTEP := Lib.hid (fun k => div_step (Nat.le_refl _) HA.out hm (by omega) k)
      have e0 : ((m : Int) - 1).toNat = m - 1 := by omega
      have e1 : decide ((m : Int) - 1 ≥ 0) = true := decide_eq_true (by omega)
      have e2 : 0 ≤ (m : Int) - 1 := by omega
      have e3 : (m : Int) - 1 < 68 := by omega
      clear hat
      go_wp2_with fail
      refine (CD.out _).mono ?_
      rintro e w' ⟨rfl, kk, rfl⟩
      have hfz2 : (wr.drewN kk).frozen? ⟨w.heap.size, m - 1, none⟩ = false := hfz
      have hc2 : (wr.drewN kk).cell? ⟨w.heap.size, m - 1, none⟩ = some (.int .u64 (a : Int)) := hc
      generalize hdd : ((rv * 18446744073709551616 + a) / n) = dd at *
      generalize hdm : ((rv * 18446744073709551616 + a) % n) = dm at *
      clear hdd hdm hrv hn1 hlt
      go_wp2
      go_roundw
      case rel => exact HSTEP.out kk
      case measure => simp [intOf]; omega
    · obtain rfl : m = 0 := by omega
      obtain ⟨cur, t1, t2, t3, t4, t5, t6⟩ := div_end HA.out
      have hci : (Tryz.prog.info? 283).map (·.size) = some (arrC (ins cur)).size := by rw [size283, arrC_size]; unfold ins; rw [List.length_map, t1]
      have hQ2 : VN cur < 2 ^ 4300 := by
        rw [t3]; exact Nat.lt_of_le_of_lt (Nat.div_le_self _ _) HQ.out
      obtain ⟨mo, hmo⟩ : ∃ mo, ((rv : Int) != 0) = mo := ⟨_, rfl⟩
      have CN := Lib.hid (near_any cur mo wr t1 t2 hQ2)
      have HE : Hid (nearV (VN cur) mo = nearV (VN qs / n) (decide (VN qs % n ≠ 0))) := by
        show _ = _
        rw [t3, ← hmo, t4]
        congr 1
        rw [Bool.eq_iff_iff, bne_iff_ne, decide_eq_true_iff]
        omega
      have T6 := Lib.hid t6
      clear hat hQ2 t1 t2 t3 t4 t6
      generalize nearV (VN cur) mo = nv at *
      go_wp2_with (refine wpList_load_row rfl 283 _ rfl w.heap.size rfl 283 (arrC (ins cur)) (0, 0) _ t5 Tryz.underlying283 rfl hci ?_)
      refine (CN.out).mono ?_
      rintro e w' ⟨rfl, hb⟩
      have hBE := Lib.hid (T6.out.trans (hb.mono T6.out.size))
      have CB3 := Lib.hid (CB.out w' (HB.out.below hBE.out hg))
      clear hb
      go_wp2_with fail
      refine (CB3.out).mono ?_
      rintro e w' ⟨rfl, rfl⟩
      go_wp2
      go_ret2
      exact ⟨by rw [← HE.out]; rfl, hBE.out⟩

theorem V_top (ws : List Int) (hl : ws.length = 68) (hok : okws ws) (x : Int) (hx : ws[67]? = some x) : ∃ lo : Int, V ws = lo + x * (18446744073709551616 : Int) ^ 67 ∧ 0 ≤ lo ∧ lo < (18446744073709551616 : Int) ^ 67 := by
  have h67 : 67 < ws.length := by omega
  have h := V_take_succ ws 67 h67
  rw [List.take_of_length_le (by omega)] at h
  rw [List.getElem?_eq_getElem h67] at hx
  injection hx with hx
  rw [hx] at h
  have ho : okws (ws.take 67) := fun y hy => hok y (List.mem_of_mem_take hy)
  refine ⟨V (ws.take 67), h, V_nonneg _ ho, ?_⟩
  have := V_lt _ ho
  rw [List.length_take, Nat.min_eq_left (by omega)] at this
  exact this
@[irreducible] def ovV (T : Int) (n : Nat) : Nat := if T < 0 then fneg (nearV (T.natAbs / n) (decide (T.natAbs % n ≠ 0))) else nearV (T.natAbs / n) (decide (T.natAbs % n ≠ 0))

theorem over_top (T x lo P : Int) (N : Nat) (hP : (N : Int) = 4096 * P) (hT : T.natAbs < N) (h : lo + x * P = T % (P * 18446744073709551616)) (h0 : 0 ≤ lo) (h1 : lo < P) :
    (T < 0 → 9223372036854775808 ≤ x ∧ (-(lo + x * P)) % (P * 18446744073709551616) = (T.natAbs : Int)) ∧ (0 ≤ T → x < 9223372036854775808 ∧ lo + x * P = (T.natAbs : Int)) := by
  have hPp : 0 < P := by omega
  constructor
  · intro ht
    have e : T % (P * 18446744073709551616) = T + P * 18446744073709551616 := by
      rw [← Int.add_mul_emod_self_left T (P * 18446744073709551616) 1, Int.mul_one]
      exact Int.emod_eq_of_lt (by omega) (by omega)
    rw [e] at h
    constructor
    · apply Classical.byContradiction
      intro hn
      have : x * P ≤ 9223372036854775807 * P := Int.mul_le_mul_of_nonneg_right (by omega) (by omega)
      omega
    · rw [h]
      have e2 : -(T + P * 18446744073709551616) = -T + P * 18446744073709551616 * (-1) := by omega
      rw [e2, Int.add_mul_emod_self_left]
      rw [Int.emod_eq_of_lt (by omega) (by omega)]
      omega
  · intro ht
    have e : T % (P * 18446744073709551616) = T := Int.emod_eq_of_lt (by omega) (by omega)
    rw [e] at h
    constructor
    · apply Classical.byContradiction
      intro hn
      have : 9223372036854775808 * P ≤ x * P := Int.mul_le_mul_of_nonneg_right (by omega) (by omega)
      omega
    · omega

theorem pow_lem (a b c : Nat) (h : c = a + b) : 2 ^ c = 2 ^ a * 2 ^ b := by rw [h, Nat.pow_add]
theorem pow_mlem (a b c : Nat) (h : c = a * b) : 2 ^ c = (2 ^ a) ^ b := by rw [h, Nat.pow_mul]
theorem pow_glue (a b c d e : Nat) (h1 : a = b * c) (h2 : c = d ^ e) : a = b * d ^ e := by rw [h1, h2]
theorem pow_4300 : 2 ^ 4300 = 4096 * 18446744073709551616 ^ 67 := pow_glue (2 ^ 4300) (2 ^ 12) (2 ^ 4288) (2 ^ 64) 67 (pow_lem 12 4288 4300 rfl) (pow_mlem 64 67 4288 rfl)
theorem over_acc (g : Nat) (T : Int) (n : Nat) (hn1 : 1 ≤ n) (hn2 : n < 9223372036854775808) (hT : T.natAbs < 2 ^ 4300) (w : World) (hS : AccS w g T false false) :
    Calls Tryz.prog 238 #[.pointer (some ⟨g, 0, none⟩), .int .i64 (n : Int)] w fun e w' => e = .returned (.tuple #[.float .f64 (ovV T n), .bool true]) ∧ Below w.heap.size w w' := by
  obtain ⟨ws, hl, hok, hB, hV⟩ := hS
  obtain ⟨x, hx⟩ : ∃ x, ws[67]? = some x := ⟨_, List.getElem?_eq_getElem (by omega)⟩
  have hxo := hok x (List.mem_of_getElem? hx)
  obtain ⟨hx0, hx1⟩ : 0 ≤ x ∧ x < 18446744073709551616 := hxo
  obtain ⟨lo, e1, e2, e3⟩ := V_top ws hl hok x hx
  have hV' := hV
  rw [e1, Int.pow_succ] at hV'
  have hP : ((2 ^ 4300 : Nat) : Int) = 4096 * (18446744073709551616 : Int) ^ 67 := by rw [pow_4300, Int.natCast_mul, Int.natCast_pow]; rfl
  have key := over_top T x lo _ (2 ^ 4300) hP hT hV' e2 e3
  by_cases ht : T < 0
  · obtain ⟨k1, k2⟩ := key.1 ht
    rw [← e1] at k2
    unfold ovV
    rw [if_pos ht]
    rw [← Int.pow_succ] at k2
    clear hV hV' hP key e1 e2 e3
    exact over_neg g n ws hok hl hn1 hn2 w hB x hx hx0 k1 hx1 T.natAbs k2.symm hT
  · obtain ⟨k1, k2⟩ := key.2 (by omega)
    rw [← e1] at k2
    unfold ovV
    rw [if_neg ht]
    clear hV hV' hP key e1 e2 e3
    obtain ⟨qs, rfl, o1, o2, o3⟩ := ins_of ws hl hok
    have o4 : VN qs = T.natAbs := Int.ofNat.inj (show (VN qs : Int) = (T.natAbs : Int) by rw [o3, k2])
    clear o3 k2
    rw [← o4]
    exact over_pos g n qs o1 o2 hn1 hn2 w hB x hx hx0 k1 (by rw [o4]; exact hT)
end Go.Proofs.YtefaedjjecfabaaGreat.Ten

namespace Go.Proofs.YtefaedjjecfabaaGreat.Ten
open Go Go.RowKit
attribute [local go_sem] run_fneg ord_lt ord_gt ord_eq ord_ne ltoreq gtoreq
attribute [local irreducible] flt fle feq

def vI (l : List Int) : List Value := l.map (Value.int .i64)
def vF (l : List Nat) : List Value := l.map (Value.float .f64)

def okNode (last d : Int) (f : Nat) : Bool := decide (last < d) && decide (d ≤ 109572) && decide (cls f < 4) && flt 0 f
def nodesOk : Int → List Int → List Nat → Bool
  | last, d :: l, f :: fl => okNode last d f && nodesOk d l fl
  | _, _, _ => true
def crvChk (base kind : Int) (l : List Int) (fl : List Nat) : Int :=
  if base < 0 ∨ 109572 < base then 51 else if kind < 1 ∨ 4 < kind then 90 else if l.length < 1 ∨ 255 < l.length ∨ l.length ≠ fl.length then 100 else if nodesOk base l fl then 0 else 100
def crvV (base kind : Int) (A : Option Addr) (n c : Nat) (A' : Option Addr) (m c' : Nat) : Value := .agg #[.int .i64 base, .int .i64 kind, .slice A n c, .slice A' m c']


theorem rI_at {w : World} {B n : Nat} {A : Option Addr} {l : List Int} {ad : Addr} (hR : Reads w B 1 A n (vI l)) (hA : A = some ad) {i : Nat} {d : Int} (hd : l[i]? = some d) : w.cell? (ad.add i) = some (.int .i64 d) := by
  have hl : i < l.length := by
    rcases Nat.lt_or_ge i l.length with h | h
    · exact h
    · rw [List.getElem?_eq_none h] at hd; cases hd
  have hn := hR.1
  unfold vI at hn
  rw [List.length_map, Nat.mul_one] at hn
  obtain ⟨ad', e, _, hc⟩ := hR.2 (by omega)
  rw [hA] at e
  injection e with e
  subst e
  exact hc i _ (by unfold vI; rw [List.getElem?_map, hd]; rfl)
theorem rF_at {w : World} {B n : Nat} {A : Option Addr} {l : List Nat} {ad : Addr} (hR : Reads w B 1 A n (vF l)) (hA : A = some ad) {i : Nat} {d : Nat} (hd : l[i]? = some d) : w.cell? (ad.add i) = some (.float .f64 d) := by
  have hl : i < l.length := by
    rcases Nat.lt_or_ge i l.length with h | h
    · exact h
    · rw [List.getElem?_eq_none h] at hd; cases hd
  have hn := hR.1
  unfold vF at hn
  rw [List.length_map, Nat.mul_one] at hn
  obtain ⟨ad', e, _, hc⟩ := hR.2 (by omega)
  rw [hA] at e
  injection e with e
  subst e
  exact hc i _ (by unfold vF; rw [List.getElem?_map, hd]; rfl)

set_option maxRecDepth 100000 in
set_option maxHeartbeats 1000000 in
theorem crvcheck_bad (base kind : Int) (A A' : Option Addr) (n c m c' : Nat) (l : List Int) (fl : List Nat) (w : World) (hb : -9223372036854775808 ≤ base ∧ base < 9223372036854775808) (hk : -9223372036854775808 ≤ kind ∧ kind < 9223372036854775808)
    (hl : l.length = n) (hf : fl.length = m) (hn : n < 9223372036854775808) (_hm : m < 9223372036854775808)
    (hbad : (base < 0 ∨ 109572 < base) ∨ (kind < 1 ∨ 4 < kind) ∨ (n < 1 ∨ 255 < n ∨ n ≠ m)) :
    Calls Tryz.prog 44 #[crvV base kind A n c A' m c'] w fun e w' => e = .returned (.int .i64 (crvChk base kind l fl)) ∧ Below w.heap.size w w' := by
  have hBel := Lib.hid (fun o => (Below.refl w.heap.size w).alloc (Nat.le_refl _) o)
  by_cases h1 : base < 0 ∨ 109572 < base
  · have e : crvChk base kind l fl = 51 := by unfold crvChk; rw [if_pos h1]
    rw [e]
    clear hbad hl hf e
    unfold crvV
    go_enter Tryz.func44, Tryz.ntmps44
    go_wp2
    all_goals go_ret
    all_goals exact ⟨rfl, hBel.out _⟩
  · by_cases h2 : kind < 1 ∨ 4 < kind
    · have e : crvChk base kind l fl = 90 := by unfold crvChk; rw [if_neg h1, if_pos h2]
      rw [e]
      clear hbad hl hf e
      unfold crvV
      go_enter Tryz.func44, Tryz.ntmps44
      go_wp2
      all_goals go_ret
      all_goals exact ⟨rfl, hBel.out _⟩
    · have h3 : n < 1 ∨ 255 < n ∨ n ≠ m := by
        rcases hbad with h | h | h
        · exact absurd h h1
        · exact absurd h h2
        · exact h
      have e : crvChk base kind l fl = 100 := by unfold crvChk; rw [if_neg h1, if_neg h2, if_pos (by omega)]
      rw [e]
      clear hbad hl hf e
      unfold crvV
      by_cases h4 : n < 1
      · go_enter Tryz.func44, Tryz.ntmps44
        go_wp2
        all_goals go_ret
        all_goals exact ⟨rfl, hBel.out _⟩
      · by_cases h5 : 255 < n
        · go_enter Tryz.func44, Tryz.ntmps44
          go_wp2
          all_goals go_ret
          all_goals exact ⟨rfl, hBel.out _⟩
        · have h6 : ((n : Int) != (m : Int)) = true := by rw [bne_iff_ne]; omega
          clear h3
          go_enter Tryz.func44, Tryz.ntmps44
          go_wp2
          all_goals go_ret
          all_goals exact ⟨rfl, hBel.out _⟩

theorem nodes_step {l : List Int} {fl : List Nat} {i f : Nat} {d : Int} (hd : l[i]? = some d) (hf : fl[i]? = some f) (z : Int) : nodesOk z (l.drop i) (fl.drop i) = (okNode z d f && nodesOk d (l.drop (i + 1)) (fl.drop (i + 1))) := by
  have h1 : i < l.length := by
    rcases Nat.lt_or_ge i l.length with h | h
    · exact h
    · rw [List.getElem?_eq_none h] at hd; cases hd
  have h2 : i < fl.length := by
    rcases Nat.lt_or_ge i fl.length with h | h
    · exact h
    · rw [List.getElem?_eq_none h] at hf; cases hf
  rw [List.drop_eq_getElem_cons h1, List.drop_eq_getElem_cons h2, nodesOk]
  rw [List.getElem?_eq_getElem h1] at hd
  rw [List.getElem?_eq_getElem h2] at hf
  injection hd with hd
  injection hf with hf
  rw [hd, hf]
def CrvRel (base : Int) (l : List Int) (fl : List Nat) (last iv : Value) : Prop := ∃ (i : Nat) (z : Int), last = .int .i64 z ∧ iv = .int .i64 (i : Int) ∧ i ≤ l.length ∧ -9223372036854775808 ≤ z ∧ z < 9223372036854775808 ∧ nodesOk base l fl = nodesOk z (l.drop i) (fl.drop i)
set_option maxRecDepth 100000 in
set_option maxHeartbeats 1000000 in
theorem crvcheck_ok (base kind : Int) (A A' : Option Addr) (n c c' : Nat) (l : List Int) (fl : List Nat) (B : Nat) (w : World) 
    (hl : l.length = n) (hf : fl.length = n) (hn0 : 1 ≤ n) (hn : n ≤ 255) (hb0 : 0 ≤ base) (hb1 : base ≤ 109572) (hk0 : 1 ≤ kind) (hk1 : kind ≤ 4)
    (hd : ∀ d ∈ l, -9223372036854775808 ≤ d ∧ d < 9223372036854775808) (hfl : ∀ f ∈ fl, f < 18446744073709551616) (hR : Reads w B 1 A n (vI l)) (hS : Reads w B 1 A' n (vF fl)) (hB : B ≤ w.heap.size) :
    Calls Tryz.prog 44 #[crvV base kind A n c A' n c'] w fun e w' => e = .returned (.int .i64 (if nodesOk base l fl then 0 else 100)) ∧ Below w.heap.size w w' := by
  obtain ⟨ad, hA, hab, _⟩ := hR.2 (by omega)
  obtain ⟨ad', hA', hab', _⟩ := hS.2 (by omega)
  unfold crvV
  have HR := Lib.hid (fun o => hR.alloc hB o)
  have HS := Lib.hid (fun o => hS.alloc hB o)
  have HBL := Lib.hid (fun o => (Below.refl w.heap.size w).alloc (Nat.le_refl _) o)
  clear hR hS
  have HD := Lib.hid hd
  have HF := Lib.hid hfl
  clear hd hfl
  subst hA hA'
  obtain ⟨r, hr⟩ : ∃ r, (if nodesOk base l fl then (0:Int) else 100) = r := ⟨_, rfl⟩
  rw [hr]
  have HRR := Lib.hid hr
  clear hr
  have HL := Lib.hid hl
  have HFL := Lib.hid hf
  clear hl hf
  go_enter Tryz.func44, Tryz.ntmps44
  go_wp2
  have HR1 := Lib.hid (HR.out (Obj.cells #[Value.int IntKind.i64 base, Value.int IntKind.i64 kind, Value.slice (some ad) n c, Value.slice (some ad') n c'] 25))
  have HS1 := Lib.hid (HS.out (Obj.cells #[Value.int IntKind.i64 base, Value.int IntKind.i64 kind, Value.slice (some ad) n c, Value.slice (some ad') n c'] 25))
  have HB1 := Lib.hid (HBL.out (Obj.cells #[Value.int IntKind.i64 base, Value.int IntKind.i64 kind, Value.slice (some ad) n c, Value.slice (some ad') n c'] 25))
  have cW := Blk.cell (Blk.new w 25 #[Value.int IntKind.i64 base, Value.int IntKind.i64 kind, Value.slice (some ad) n c, Value.slice (some ad') n c']) 3
  have cW : (w.alloc (Obj.cells #[Value.int IntKind.i64 base, Value.int IntKind.i64 kind, Value.slice (some ad) n c, Value.slice (some ad') n c'] 25)).cell? ⟨w.heap.size, 3, none⟩ = some (Value.slice (some ad') n c') := cW
  clear HR HS HBL
  generalize w.alloc (Obj.cells #[Value.int IntKind.i64 base, Value.int IntKind.i64 kind, Value.slice (some ad) n c, Value.slice (some ad') n c'] 25) = W at *
  go_loop [3, 47] (fun z i => CrvRel base l fl z i) (fun _ i => n - (intOf i).toNat)
  case atStart => exact ⟨0, base, rfl, rfl, by omega, by omega, by omega, rfl⟩
  case round =>
    obtain ⟨i, z, rfl, rfl, hi, hz0, hz1, hrel⟩ := hrel
    rw [HL.out] at hi
    by_cases hlt : i < n
    · obtain ⟨d, hd⟩ : ∃ d, l[i]? = some d := ⟨_, List.getElem?_eq_getElem (by rw [HL.out]; exact hlt)⟩
      obtain ⟨f, hf⟩ : ∃ f, fl[i]? = some f := ⟨_, List.getElem?_eq_getElem (by rw [HFL.out]; exact hlt)⟩
      have c1 := rI_at HR1.out rfl hd
      have c2 := rF_at HS1.out rfl hf
      obtain ⟨hd0, hd1⟩ := HD.out d (List.mem_of_getElem? hd)
      have CC := Lib.hid (fun W => class_any f W (HF.out f (List.mem_of_getElem? hf)))
      have hstep := Lib.hid (nodes_step hd hf z)
      have HREL := Lib.hid hrel
      clear hrel hd hf
      by_cases hok : okNode z d f = true
      · rw [hok, Bool.true_and] at hstep
        have hok' := hok
        unfold okNode at hok'
        simp only [Bool.and_eq_true, decide_eq_true_eq] at hok'
        obtain ⟨⟨⟨k1, k2⟩, k3⟩, k4⟩ := hok'
        clear hok
        go_wp2_with ((go_at_call 107; refine (CC.out _).mono ?_; rintro e w' ⟨rfl, rfl⟩))
        go_round
        case rel => exact ⟨i + 1, d, rfl, by simp, by rw [HL.out]; omega, hd0, hd1, by rw [HREL.out, hstep.out]⟩
        case measure => simp [intOf]; omega
      · have hbad : ¬ (z < d ∧ d ≤ 109572 ∧ cls f < 4 ∧ flt 0 f = true) := by
          rintro ⟨k1, k2, k3, k4⟩
          apply hok
          unfold okNode
          simp [k1, k2, k3, k4]
        have hbad := Lib.hid hbad
        have hres : Hid (r = 100) := by
          show _ = _
          rw [← HRR.out, HREL.out, hstep.out, Bool.eq_false_iff.2 hok]
          simp
        clear hok hstep HREL
        go_wp2_with ((go_at_call 107; refine (CC.out _).mono ?_; rintro e w' ⟨rfl, rfl⟩))
        all_goals first | (go_ret; exact ⟨by rw [hres.out]; rfl, HB1.out⟩) | (exfalso; apply hbad.out; refine ⟨?_, ?_, ?_, ?_⟩ <;> first | assumption | omega | simp_all)
    · obtain rfl : i = n := by omega
      have hres : Hid (r = 0) := by
        show _ = _
        rw [← HRR.out, hrel, List.drop_eq_nil_of_le (by rw [HL.out]; omega)]
        simp [nodesOk]
      clear hrel
      go_wp2
      go_ret
      exact ⟨by rw [hres.out]; rfl, HB1.out⟩

/-- A curve as the walk has it: what lies where, and its cells. -/
structure CrvIn (w : World) (base kind : Int) (A : Option Addr) (n : Nat) (A' : Option Addr) (m : Nat) (l : List Int) (fl : List Nat) (B : Nat) : Prop where
  hb : -9223372036854775808 ≤ base ∧ base < 9223372036854775808
  hk : -9223372036854775808 ≤ kind ∧ kind < 9223372036854775808
  hl : l.length = n
  hf : fl.length = m
  hn : n < 9223372036854775808
  hm : m < 9223372036854775808
  hd : ∀ d ∈ l, -9223372036854775808 ≤ d ∧ d < 9223372036854775808
  hfl : ∀ f ∈ fl, f < 18446744073709551616
  hR : Reads w B 1 A n (vI l)
  hS : Reads w B 1 A' m (vF fl)
  hB : B ≤ w.heap.size
theorem CrvIn.below {w w' : World} {base kind : Int} {A : Option Addr} {n : Nat} {A' : Option Addr} {m : Nat} {l : List Int} {fl : List Nat} {B : Nat} (h : CrvIn w base kind A n A' m l fl B) (hb : Below w.heap.size w w') : CrvIn w' base kind A n A' m l fl B :=
  ⟨h.hb, h.hk, h.hl, h.hf, h.hn, h.hm, h.hd, h.hfl, h.hR.below (hb.mono h.hB), h.hS.below (hb.mono h.hB), Nat.le_trans h.hB hb.size⟩
theorem crvcheck_any {base kind : Int} {A A' : Option Addr} {n m : Nat} (c c' : Nat) {l : List Int} {fl : List Nat} {B : Nat} (w : World) (h : CrvIn w base kind A n A' m l fl B) :
    Calls Tryz.prog 44 #[crvV base kind A n c A' m c'] w fun e w' => e = .returned (.int .i64 (crvChk base kind l fl)) ∧ Below w.heap.size w w' := by
  by_cases hbad : (base < 0 ∨ 109572 < base) ∨ (kind < 1 ∨ 4 < kind) ∨ (n < 1 ∨ 255 < n ∨ n ≠ m)
  · exact crvcheck_bad base kind A A' n c m c' l fl w h.hb h.hk h.hl h.hf h.hn h.hm hbad
  · have e : crvChk base kind l fl = if nodesOk base l fl then 0 else 100 := by
      unfold crvChk
      have := h.hl
      have := h.hf
      rw [if_neg (by omega), if_neg (by omega), if_neg (by omega)]
    rw [e]
    obtain rfl : n = m := by omega
    exact crvcheck_ok base kind A A' n c c' l fl B w h.hl h.hf (by omega) (by omega) (by omega) (by omega) (by omega) (by omega) h.hd h.hfl h.hR h.hS h.hB
end Go.Proofs.YtefaedjjecfabaaGreat.Ten
