/- Parts of the proof of CurveChecks: contracts of the functions that it reaches, and the plain laws under them (Se Fi Om Ta Up At Li). Conditions: those that each theorem names. -/
import Derived.Shelf.SlSorted.Search
import Derived.Shelf.SlGeneric
import Derived.BigQuiet
import Derived.Deep.QuietTactic
import Derived.Test.YtefaedjjecfabaaGreatWCv
namespace Go.Proofs
open Go.Shelf Go.RowKit Go.Lib Go.Sort
def Tryz.searchInts_ren : Go.Shelf.Ren := ⟨fun | 14 => 360 | 22 => 403 | 16 => 402 | n => n, fun | 28 => 22 | 3 => 3 | 0 => 0 | 35 => 218 | 4 => 4 | 38 => 251 | n => n, fun | n => n⟩
theorem Tryz.searchInts : Go.Proofs.SlLaysO.n14 Tryz.prog Tryz.searchInts_ren := {
  mixed := by kernel_rfl
  f14 := Tryz.func360.trans (congrArg some (by kernel_rfl))
  f16 := Tryz.func402.trans (congrArg some (by kernel_rfl))
  f22 := Tryz.func403.trans (congrArg some (by kernel_rfl))
  t0 := Tryz.underlying0
  a0 := Tryz.isAgg0
  z0 := Tryz.sizeOf0
  v0 := Tryz.zeroValue0
  t3 := Tryz.underlying3
  a3 := Tryz.isAgg3
  z3 := Tryz.sizeOf3
  v3 := Tryz.zeroValue3
  t4 := Tryz.underlying4
  a4 := Tryz.isAgg4
  z4 := Tryz.sizeOf4
  v4 := Tryz.zeroValue4
  t28 := Tryz.underlying22
  a28 := Tryz.isAgg22
  z28 := Tryz.sizeOf22
  v28 := Tryz.zeroValue22
  t35 := Tryz.underlying218
  a35 := Tryz.isAgg218
  z35 := Tryz.sizeOf218
  v35 := Tryz.zeroValue218
  t38 := Tryz.underlying251
  a38 := Tryz.isAgg251
  z38 := Tryz.sizeOf251
  v38 := Tryz.zeroValue251 }
theorem Tryz.sort_SearchInts (g n cap : Nat) (l : List Int) (x : Int) (w : World) (hc : ∀ (i : Nat) (d : Int), l[i]? = some d → w.cell? ⟨g, i, none⟩ = some (.int .i64 d)) (hg : g < w.heap.size) (hn : l.length = n) (hn2 : n < 4611686018427387904)
    (hs : ∀ (a b : Nat) (u v : Int), a ≤ b → l[a]? = some u → l[b]? = some v → u ≤ v) :
    Calls Tryz.prog 360 #[.slice (some ⟨g, 0, none⟩) n cap, .int .i64 x] w fun e w' => e = .returned (.int .i64 (l.countP (fun y => !decide (x ≤ y)) : Nat)) ∧ Below w.heap.size w w' := by
  subst hn
  have hget : ∀ i (h : i < l.toArray.size), l[i]? = some l.toArray[i]! := by
    intro i h
    have h' : i < l.length := by simpa using h
    rw [getElem!_pos l.toArray i h]; simp [h']
  have h := Any.sort_SearchInts Tryz.searchInts g 0 cap l.toArray x w (fun i hi => by rw [Nat.zero_add]; exact hc i _ (hget i hi)) hg (by simpa using hn2)
    (fun a b hab hb ha => by
      have h1 := hs a b _ _ hab (hget a (by omega)) (hget b hb)
      have h2 := of_decide_eq_true ha
      exact decide_eq_true (by omega))
  change Calls Tryz.prog 360 _ _ _ at h
  simpa using h
end Go.Proofs

namespace Go.Proofs.YtefaedjjecfabaaGreat.Ten
open Go Go.RowKit
attribute [local go_sem] ext113 ext252 run_fneg ord_lt ord_gt ord_eq ord_ne ltoreq gtoreq
attribute [local irreducible] flt fle feq

/-- Where x lies among sorted nodes: how many are not above it. -/
@[irreducible] def upTo (l : List Int) (x : Int) : Nat := l.countP (fun y => !decide (x + 1 ≤ y))
theorem hb2b (w : World) (o : Obj) : Below w.heap.size w (w.alloc o) := (Below.refl _ w).alloc (Nat.le_refl _) _
set_option maxRecDepth 100000 in
set_option maxHeartbeats 1000000 in
theorem find_in (kind : Int) (g n c : Nat) (A' : Option Addr) (m c' : Nat) (l : List Int) (x a b : Int) (w : World) (hl : l.length = n) (hn : 1 ≤ n) (hn2 : n ≤ 256) (hc : ∀ (i : Nat) (d : Int), l[i]? = some d → w.cell? ⟨g, i, none⟩ = some (.int .i64 d)) (hg : g < w.heap.size)
    (hs : ∀ (a b : Nat) (u v : Int), a ≤ b → l[a]? = some u → l[b]? = some v → u ≤ v) (ha : l[0]? = some a) (hb : l[n - 1]? = some b) (hx0 : a ≤ x) (hx1 : x ≤ b) (hbd : b ≤ 109572) (had : -1 ≤ a) :
    Calls Tryz.prog 297 #[tabV kind (some ⟨g, 0, none⟩) n c A' m c', .int .i64 x] w fun e w' => e = .returned (.tuple #[.int .i64 ((upTo l x : Int) - 1), .int .i64 0]) ∧ Below w.heap.size w w' := by
  have ca := hc 0 a ha
  have cb := hc (n - 1) b hb
  have e0 : ((n : Int) - 1).toNat = n - 1 := by omega
  have hle : upTo l x ≤ 256 := by
    have : upTo l x ≤ l.length := by unfold upTo; exact List.countP_le_length
    omega
  have CS := Lib.hid (fun W (hW : Below w.heap.size w W) => (show Calls Tryz.prog 360 #[.slice (some ⟨g, 0, none⟩) n c, .int .i64 (x + 1)] W (fun e w' => e = .returned (.int .i64 (upTo l x : Int)) ∧ Below W.heap.size W w') by
    unfold upTo
    exact Tryz.sort_SearchInts g n c l (x + 1) W (fun i d h => by rw [hW.cell (show g < w.heap.size from hg)]; exact hc i d h) (Nat.lt_of_lt_of_le hg hW.size) hl (by omega) hs))
  have HC := Lib.hid hc
  clear hc hs ha hb
  unfold tabV
  go_enter Tryz.func297, Tryz.ntmps297
  go_wp2_with fail
  refine (CS.out _ (hb2b w _)).mono ?_
  rintro e w' ⟨rfl, hbe⟩
  have HB := Lib.hid (below_box hbe)
  clear hbe CS
  go_wp2
  go_ret2
  exact ⟨rfl, HB.out⟩
end Go.Proofs.YtefaedjjecfabaaGreat.Ten

namespace Go.Proofs.YtefaedjjecfabaaGreat.Ten
open Go Go.RowKit
attribute [local go_sem] ext113 ext252 run_fneg ord_lt ord_gt ord_eq ord_ne ltoreq gtoreq
attribute [local irreducible] flt fle feq
def dotI : List Int → List Nat → Int
  | x :: xs, y :: ys => iv (fofi x) * iv y + dotI xs ys
  | _, _ => 0
theorem V_zeros (n : Nat) : V (List.replicate n 0) = 0 := by
  induction n with
  | zero => rfl
  | succ n ih => rw [List.replicate_succ, V, ih]; rfl
theorem accS_new (w : World) : AccS (w.alloc (.cells (accC (List.replicate 68 0) false false) 285)) w.heap.size 0 false false := by
  refine ⟨List.replicate 68 0, by simp, ?_, Blk.new w 285 _, by rw [V_zeros, Int.zero_emod]⟩
  intro x hx
  rw [List.mem_replicate] at hx
  rw [hx.2]
  exact ⟨by omega, by omega⟩
def SumRel (w : World) (xs : List Int) (ys : List Nat) (i : Nat) (wr : World) : Prop :=
  ∃ T : Int, i ≤ xs.length ∧ AccS wr w.heap.size T false false ∧ T + dotI (xs.drop i) (ys.drop i) = dotI xs ys ∧ Below w.heap.size w wr ∧ w.heap.size < wr.heap.size
theorem mono1 (a b K : Nat) (h : a ≤ b) : a * K * 1 ≤ b * K * 1 := by
  rw [Nat.mul_one, Nat.mul_one]
  exact Nat.mul_le_mul_right K h
theorem fofi_fin (x : Int) (h : -9223372036854775808 ≤ x ∧ x < 9223372036854775808) : fofi x < 18446744073709551616 ∧ fin (fofi x) = true := by
  have h1 : rq 52 (x.natAbs * 2 ^ 1074) 1 ≤ rq 52 (9223372036854775808 * 2 ^ 1074) 1 := rq_mono 52 (by omega) (by omega) (by
    have hm := mono1 x.natAbs 9223372036854775808 (2 ^ 1074) (by omega)
    exact hm)
  have h2 : rq 52 (9223372036854775808 * 2 ^ 1074) 1 < 9218868437227405312 := by decide +kernel
  have h3 : fofi x = wd (decide (x < 0)) (min (rq 52 (x.natAbs * 2 ^ 1074) 1) 9218868437227405312) := rfl
  have h4 : rq 52 (x.natAbs * 2 ^ 1074) 1 < 9218868437227405312 := Nat.lt_of_le_of_lt h1 h2
  rw [h3]
  clear h1 h2 h3
  generalize rq 52 (x.natAbs * 2 ^ 1074) 1 = r at *
  rw [Nat.min_eq_left (by omega)]
  unfold fin rung wd
  cases decide (x < 0)
  · refine ⟨?_, decide_eq_true ?_⟩ <;> simp <;> omega
  · refine ⟨?_, decide_eq_true ?_⟩ <;> simp <;> omega
theorem accS_drew {w : World} {g : Nat} {T : Int} {u d : Bool} (h : AccS w g T u d) : AccS w.drew g T u d := h
theorem dotI_drop {xs : List Int} {ys : List Nat} {i : Nat} {x : Int} {y : Nat} (hx : xs[i]? = some x) (hy : ys[i]? = some y) : dotI (xs.drop i) (ys.drop i) = iv (fofi x) * iv y + dotI (xs.drop (i + 1)) (ys.drop (i + 1)) := by
  obtain ⟨h1, e1⟩ := List.getElem?_eq_some_iff.1 hx
  obtain ⟨h2, e2⟩ := List.getElem?_eq_some_iff.1 hy
  rw [List.drop_eq_getElem_cons h1, List.drop_eq_getElem_cons h2, dotI, e1, e2]
theorem sum_step {w wr w' : World} {xs : List Int} {ys : List Nat} {i : Nat} {x T : Int} {y : Nat} (hx : xs[i]? = some x) (hy : ys[i]? = some y) (hA : AccS w' w.heap.size (T + iv (fofi x) * iv y) false false)
    (hT : T + dotI (xs.drop i) (ys.drop i) = dotI xs ys) (hBe : Below w.heap.size w wr) (hsz : w.heap.size < wr.heap.size) (hg : wr.drew.grownBy w' (some w.heap.size)) : SumRel w xs ys (i + 1) w' := by
  obtain ⟨h1, e1⟩ := List.getElem?_eq_some_iff.1 hx
  refine ⟨_, h1, hA, ?_, hBe.drew.grown hg (Nat.le_of_lt hsz) (fun k hk => by injection hk with hk; omega), Nat.lt_of_lt_of_le hsz hg.size⟩
  rw [dotI_drop hx hy] at hT
  omega
set_option maxRecDepth 100000 in
set_option maxHeartbeats 1000000 in
theorem overf_any (k : Nat) (A A' : Option Addr) (n c c' : Nat) (xs : List Int) (ys : List Nat) (B : Nat) (w : World) (hk1 : 1 ≤ k) (hk2 : k < 9223372036854775808) (hn : n ≤ 1000) (hl : xs.length = n) (hy : ys.length = n)
    (hx : ∀ x ∈ xs, -9223372036854775808 ≤ x ∧ x < 9223372036854775808) (hys : ∀ y ∈ ys, y < 18446744073709551616 ∧ fin y = true) (hR : Reads w B 1 A n (vI xs)) (hS : Reads w B 1 A' n (vF ys)) (hB : B ≤ w.heap.size)
    (hT : (dotI xs ys).natAbs < 2 ^ 4300) :
    Calls Tryz.prog 298 #[.int .i64 (k : Int), .slice A n c, .slice A' n c'] w fun e w' => e = .returned (.float .f64 (ovV (dotI xs ys) k)) ∧ Below w.heap.size w w' := by
  have HT := Lib.hid hT
  clear hT
  have CA := Lib.hid (accnew_any w)
  go_enter Tryz.func298, Tryz.ntmps298
  go_wp2_with fail
  refine CA.out.mono ?_
  rintro e w' ⟨rfl, hw⟩
  have HX := Lib.hid hx
  have HY := Lib.hid hys
  have HR := Lib.hid hR
  have HS := Lib.hid hS
  have HL := Lib.hid hl
  have HLY := Lib.hid hy
  have H0 : Hid (SumRel w xs ys 0 w') := by
    rw [← hw]
    exact ⟨0, Nat.zero_le _, accS_new w, by simp, (Below.refl _ w).alloc (Nat.le_refl _) _, by simp⟩
  clear hx hys hR hS hl hy hw CA
  go_wp2
  go_loopw [14] (fun i wr => ∃ j : Nat, i = .int .i64 (j : Int) ∧ SumRel w xs ys j wr) (fun i _ => n - (intOf i).toNat)
  case atStart => exact ⟨0, rfl, H0.out⟩
  case round =>
    clear H0
    obtain ⟨i, rfl, T, hi, hA, hTT, hBe, hsz⟩ := hrel
    rw [HL.out] at hi
    by_cases hlt : i < n
    · obtain ⟨x, hxi⟩ : ∃ x, xs[i]? = some x := ⟨_, List.getElem?_eq_getElem (by rw [HL.out]; exact hlt)⟩
      obtain ⟨y, hyi⟩ : ∃ y, ys[i]? = some y := ⟨_, List.getElem?_eq_getElem (by rw [HLY.out]; exact hlt)⟩
      obtain ⟨ad, hAd, _⟩ := HR.out.2 (by omega)
      obtain ⟨ad', hAd', _⟩ := HS.out.2 (by omega)
      have c1 := rI_at (HR.out.below (hBe.mono hB)) hAd hxi
      have c2 := rF_at (HS.out.below (hBe.mono hB)) hAd' hyi
      obtain ⟨hy1, hy2⟩ := HY.out y (List.mem_of_getElem? hyi)
      obtain ⟨f1, f2⟩ := fofi_fin x (HX.out x (List.mem_of_getElem? hxi))
      have CP := Lib.hid (fun W (hW : AccS W w.heap.size T false false) => acc_prod_any w.heap.size (fofi x) y T false false W f1 hy1 f2 hy2 hW)
      subst hAd hAd'
      have e0 : (i : Int).toNat = i := Int.toNat_natCast i
      have ef : floatOfInt .f64 x = fofi x := nearest_int x
      go_wp2_with fail
      go_region_law (refine step_go Tryz.func162 rfl (by kernel_rfl) (by rfl) (by rfl) #[.pointer (some ⟨w.heap.size, 0, none⟩), .float .f64 (fofi x), .float .f64 y] (by first | (simp only [List.map_toArray, List.map_cons, List.map_nil]; rfl) | (simp only [List.map_toArray, List.map_cons, List.map_nil, ← ef]; rfl) | (simp [Act.eval, Act.put, ef]; done)) ((CP.out _ (accS_drew hA)).mono ?_); rintro e w' ⟨rfl, hA2, hg2⟩; refine ⟨_, rfl, ?_⟩)
      all_goals go_wp2
      all_goals go_roundw
      all_goals first | exact ⟨i + 1, rfl, sum_step hxi hyi hA2 hTT hBe hsz hg2⟩ | (simp [intOf]; omega)
    · obtain rfl : i = n := by omega
      have hT2 : T = dotI xs ys := by
        rw [List.drop_eq_nil_of_le (by rw [HL.out]; omega)] at hTT
        simpa [dotI] using hTT
      subst hT2
      have CO := Lib.hid (over_acc w.heap.size (dotI xs ys) k hk1 hk2 HT.out wr hA)
      have HBE := Lib.hid hBe
      clear hA hTT hBe
      go_wp2_with fail
      refine CO.out.mono ?_
      rintro e w' ⟨rfl, hb⟩
      have HB2 := Lib.hid (HBE.out.trans (hb.mono HBE.out.size))
      clear hb
      go_wp2
      go_ret
      exact ⟨rfl, HB2.out⟩
end Go.Proofs.YtefaedjjecfabaaGreat.Ten

namespace Go.Proofs.YtefaedjjecfabaaGreat.Ten
open Go Go.RowKit
attribute [local go_sem] ext113 ext252 run_fneg ord_lt ord_gt ord_eq ord_ne ltoreq gtoreq
attribute [local irreducible] flt fle feq
attribute [local go_sem ↓] Go.wp_at_zero Go.wp_at_succ
theorem info3 : (Tryz.prog.info? 3).map (fun i => (i.zero, i.size, i.bytes)) = some (some (.int .i64 0), 1, 8) := by kernel_rfl
theorem info42 : (Tryz.prog.info? 42).map (fun i => (i.zero, i.size, i.bytes)) = some (some (.float .f64 0), 1, 8) := by kernel_rfl
theorem own_lit {base : Nat} {e : TypeId} (w : World) (cs : Array Value) (n g : Nat) (hg : w.heap.size = g) (hb : base ≤ g) (hm : n ≤ 1000) (hs : cs.size = n) :
    (w.alloc (Obj.cells cs e)).ownsRow base e 1 (.slice (some ⟨g, 0, none⟩) n n) n cs.toList := by
  subst hg
  exact World.ownsRow_lit w cs n hb (by simp only [maxLen]; omega) (by omega)
theorem news_of_reads {w W : World} {B n : Nat} {ad : Addr} {xs : List Value} (h : Reads w B 1 (some ad) n xs) (hB : B ≤ w.heap.size) (hb : Below w.heap.size w W) (hn : 0 < n) : ∀ j u, xs[j]? = some u → W.cell? (ad.add j) = some u := by
  obtain ⟨ad', e, _, hc⟩ := (h.below (hb.mono hB)).2 (by omega)
  injection e with e
  subst e
  exact hc
theorem one_vI (l : List Int) : ∀ u ∈ vI l, u.oneCell' = true := by
  intro u hu
  obtain ⟨x, _, rfl⟩ := List.mem_map.1 hu
  rfl
theorem one_vF (l : List Nat) : ∀ u ∈ vF l, u.oneCell' = true := by
  intro u hu
  obtain ⟨x, _, rfl⟩ := List.mem_map.1 hu
  rfl
theorem own_cap {w : World} {b e : Nat} {s g n cap : Nat} {xs : List Value} (h : w.ownsRow b e s (.slice (some ⟨g, 0, none⟩) n cap) n xs) : n ≤ cap ∧ cap ≤ maxLen := by
  rcases h.2 with ⟨h1, _⟩ | ⟨g', cap', cur, h1, _, _, h2, h3, _⟩
  · cases h1
  · injection h1 with _ _ h1
    subst h1
    exact ⟨h2, h3⟩
theorem step_store_row {P : Program} {ops : Array Oper} {o : Oper} {a : Act} {w : World} {K : Act → World → Prop} {Q : Exit → Act → World → Prop} {E : Prop} (hgd : o.guard = none) (ty : TypeId) (x y : Operand) (ho : o.op = .store ty x y)
    (g : Nat) (cells : Array Value) (hx : a.eval x = .pointer (some ⟨g, 0, none⟩)) (hy : a.eval y = .agg cells) (t : TypeId) (old : Array Value) (hg : w.heap[g]? = some (.cells old t (0, 0))) (hi : (P.info? ty).map (·.size) = some cells.size)
    (hold : old.size = cells.size) (h1 : cells.all (·.oneCell') = true) (h : K (a.put o.dst undef) (w.setRow g cells)) : if Region.wanted o (yielded ops a.tmps) = true then Oper.wp P o a w K Q else E := by
  have hw : Region.wanted o (yielded ops a.tmps) = true := by simp [Region.wanted, hgd]
  rw [if_pos hw]
  exact wp_store_row ty x y ho g cells hx hy t old hg hi hold h1 h
theorem size157 : (Tryz.prog.info? 157).map (·.size) = some 3 := by kernel_rfl
theorem table_end (y0 : Nat) {w w2 : World} {gx gy cx cy n : Nat} {base : Int} {l : List Int} {fl : List Nat} (hb : Below w.heap.size w w2)
    (hx : w2.ownsRow (w.heap.size + 2) 3 1 (.slice (some ⟨gx, 0, none⟩) (1 + n) cx) (1 + n) ([.int .i64 base] ++ vI l)) (hy : w2.ownsRow (w.heap.size + 2) 42 1 (.slice (some ⟨gy, 0, none⟩) (1 + n) cy) (1 + n) ([.float .f64 y0] ++ vF fl))
    (hT : Blk w2 (w.heap.size + 1) 157 #[Value.int IntKind.i64 0, Value.slice none 0 0, Value.slice none 0 0]) (a b c : Value) :
    Blk (((w2.setCell ⟨w.heap.size + 1, 0, none⟩ a).setCell ⟨w.heap.size + 1, 1, none⟩ b).setCell ⟨w.heap.size + 1, 2, none⟩ c) (w.heap.size + 1) 157 #[a, b, c] ∧
    Reads (((w2.setCell ⟨w.heap.size + 1, 0, none⟩ a).setCell ⟨w.heap.size + 1, 1, none⟩ b).setCell ⟨w.heap.size + 1, 2, none⟩ c) (((w2.setCell ⟨w.heap.size + 1, 0, none⟩ a).setCell ⟨w.heap.size + 1, 1, none⟩ b).setCell ⟨w.heap.size + 1, 2, none⟩ c).heap.size 1 (some ⟨gx, 0, none⟩) (n + 1) (vI (base :: l)) ∧
    Reads (((w2.setCell ⟨w.heap.size + 1, 0, none⟩ a).setCell ⟨w.heap.size + 1, 1, none⟩ b).setCell ⟨w.heap.size + 1, 2, none⟩ c) (((w2.setCell ⟨w.heap.size + 1, 0, none⟩ a).setCell ⟨w.heap.size + 1, 1, none⟩ b).setCell ⟨w.heap.size + 1, 2, none⟩ c).heap.size 1 (some ⟨gy, 0, none⟩) (n + 1) (vF (y0 :: fl)) ∧
    Below w.heap.size w (((w2.setCell ⟨w.heap.size + 1, 0, none⟩ a).setCell ⟨w.heap.size + 1, 1, none⟩ b).setCell ⟨w.heap.size + 1, 2, none⟩ c) := by
  have hg : w2.grownBy (((w2.setCell ⟨w.heap.size + 1, 0, none⟩ a).setCell ⟨w.heap.size + 1, 1, none⟩ b).setCell ⟨w.heap.size + 1, 2, none⟩ c) (some (w.heap.size + 1)) := only_setCell (p := ⟨w.heap.size + 1, 2, none⟩) (only_setCell (p := ⟨w.heap.size + 1, 1, none⟩) (only_setCell (p := ⟨w.heap.size + 1, 0, none⟩) (World.grownBy.refl w2 _) (Or.inl (Eq.refl (w.heap.size + 1))) a) (Or.inl (Eq.refl (w.heap.size + 1))) b) (Or.inl (Eq.refl (w.heap.size + 1))) c
  have hx0 := (hx.lt gx rfl).1
  have hy0 := (hy.lt gy rfl).1
  have rx := Reads.of_own (hx.kept hg (.inr (by simp [Value.ownBlock]; omega)))
  have ry := Reads.of_own (hy.kept hg (.inr (by simp [Value.ownBlock]; omega)))
  rw [Nat.add_comm 1 n] at rx ry
  refine ⟨?_, rx, ry, ?_⟩
  · exact ((hT.set_ 0 a).set_ 1 b).set_ 2 c
  · exact ((hb.setCell (by simp) _).setCell (by simp) _).setCell (by simp) _
set_option maxRecDepth 100000 in
set_option maxHeartbeats 4000000 in
theorem table_any {base kind : Int} {A A' : Option Addr} {n : Nat} (c c' : Nat) {l : List Int} {fl : List Nat} {B : Nat} (w : World) (h : CrvIn w base kind A n A' n l fl B) (hn1 : 1 ≤ n) (hn : n ≤ 255) :
    Calls Tryz.prog 115 #[crvV base kind A n c A' n c'] w fun e w' => ∃ gx cx gy cy, e = .returned (tabV kind (some ⟨gx,0,none⟩) (n+1) cx (some ⟨gy,0,none⟩) (n+1) cy) ∧ Reads w' w'.heap.size 1 (some ⟨gx,0,none⟩) (n+1) (vI (base :: l)) ∧ Reads w' w'.heap.size 1 (some ⟨gy,0,none⟩) (n+1) (vF (4607182418800017408 :: fl)) ∧ n + 1 ≤ cy ∧ cy ≤ maxLen ∧ Below w.heap.size w w' := by
  obtain ⟨i0, hi0, hz0, hz1, hz2⟩ := info_parts info3
  obtain ⟨j0, hj0, hy0, hy1, hy2⟩ := info_parts info42
  obtain ⟨ad, hA, hab, _⟩ := h.hR.2 (by have := h.hl; omega)
  obtain ⟨ad', hA', hab', _⟩ := h.hS.2 (by have := h.hf; omega)
  subst hA hA'
  have H := Lib.hid h
  have HBB := h.hB
  have HX := Lib.hid (fun W (hb : Below w.heap.size w W) => news_of_reads h.hR h.hB hb hn1)
  have HY := Lib.hid (fun W (hb : Below w.heap.size w W) => news_of_reads h.hS h.hB hb hn1)
  have HLX : Hid ((vI l).length = n) := by show _ = _; unfold vI; rw [List.length_map, h.hl]
  have HLY : Hid ((vF fl).length = n) := by show _ = _; unfold vF; rw [List.length_map, h.hf]
  have hc2 : ((w.alloc (Obj.cells #[Value.int IntKind.i64 base, Value.int IntKind.i64 kind, Value.slice (some ad) n c, Value.slice (some ad') n c'] 25)).alloc (Obj.cells #[Value.int IntKind.i64 0, Value.slice none 0 0, Value.slice none 0 0] 157)).heap.size = w.heap.size + 2 := by simp
  have hb0 := Lib.hid (hb2 w (Obj.cells #[Value.int IntKind.i64 base, Value.int IntKind.i64 kind, Value.slice (some ad) n c, Value.slice (some ad') n c'] 25) (Obj.cells #[Value.int IntKind.i64 0, Value.slice none 0 0, Value.slice none 0 0] 157))
  have q0 : ((w.alloc (Obj.cells #[Value.int IntKind.i64 base, Value.int IntKind.i64 kind, Value.slice (some ad) n c, Value.slice (some ad') n c'] 25)).alloc (Obj.cells #[Value.int IntKind.i64 0, Value.slice none 0 0, Value.slice none 0 0] 157)).cell? ⟨w.heap.size, 0, none⟩ = some (.int .i64 base) := ((Blk.new w _ _).alloc _).cell 0
  have q1 : ((w.alloc (Obj.cells #[Value.int IntKind.i64 base, Value.int IntKind.i64 kind, Value.slice (some ad) n c, Value.slice (some ad') n c'] 25)).alloc (Obj.cells #[Value.int IntKind.i64 0, Value.slice none 0 0, Value.slice none 0 0] 157)).cell? ⟨w.heap.size, 1, none⟩ = some (.int .i64 kind) := ((Blk.new w _ _).alloc _).cell 1
  have q2 : ((w.alloc (Obj.cells #[Value.int IntKind.i64 base, Value.int IntKind.i64 kind, Value.slice (some ad) n c, Value.slice (some ad') n c'] 25)).alloc (Obj.cells #[Value.int IntKind.i64 0, Value.slice none 0 0, Value.slice none 0 0] 157)).cell? ⟨w.heap.size, 2, none⟩ = some (.slice (some ad) n c) := ((Blk.new w _ _).alloc _).cell 2
  have q3 : ((w.alloc (Obj.cells #[Value.int IntKind.i64 base, Value.int IntKind.i64 kind, Value.slice (some ad) n c, Value.slice (some ad') n c'] 25)).alloc (Obj.cells #[Value.int IntKind.i64 0, Value.slice none 0 0, Value.slice none 0 0] 157)).cell? ⟨w.heap.size, 3, none⟩ = some (.slice (some ad') n c') := ((Blk.new w _ _).alloc _).cell 3
  have hT : Blk ((w.alloc (Obj.cells #[Value.int IntKind.i64 base, Value.int IntKind.i64 kind, Value.slice (some ad) n c, Value.slice (some ad') n c'] 25)).alloc (Obj.cells #[Value.int IntKind.i64 0, Value.slice none 0 0, Value.slice none 0 0] 157)) (w.heap.size + 1) 157 #[Value.int IntKind.i64 0, Value.slice none 0 0, Value.slice none 0 0] := by
    have h := (Blk.new (w.alloc (Obj.cells #[Value.int IntKind.i64 base, Value.int IntKind.i64 kind, Value.slice (some ad) n c, Value.slice (some ad') n c'] 25)) 157 #[Value.int IntKind.i64 0, Value.slice none 0 0, Value.slice none 0 0])
    rw [show (w.alloc (Obj.cells #[Value.int IntKind.i64 base, Value.int IntKind.i64 kind, Value.slice (some ad) n c, Value.slice (some ad') n c'] 25)).heap.size = w.heap.size + 1 by simp] at h
    exact h
  have HT := Lib.hid hT
  clear hT
  have q4 : ((w.alloc (Obj.cells #[Value.int IntKind.i64 base, Value.int IntKind.i64 kind, Value.slice (some ad) n c, Value.slice (some ad') n c'] 25)).alloc (Obj.cells #[Value.int IntKind.i64 0, Value.slice none 0 0, Value.slice none 0 0] 157)).frozen? ⟨w.heap.size + 1, 0, none⟩ = false := by
    have h := (Blk.new (w.alloc (Obj.cells #[Value.int IntKind.i64 base, Value.int IntKind.i64 kind, Value.slice (some ad) n c, Value.slice (some ad') n c'] 25)) 157 #[Value.int IntKind.i64 0, Value.slice none 0 0, Value.slice none 0 0]).frozen 0
    rw [show (w.alloc (Obj.cells #[Value.int IntKind.i64 base, Value.int IntKind.i64 kind, Value.slice (some ad) n c, Value.slice (some ad') n c'] 25)).heap.size = w.heap.size + 1 by simp] at h
    exact h
  have HH := hc2
  clear h HH
  unfold crvV at *
  go_enter Tryz.func115, Tryz.ntmps115
  go_wp2_with fail
  generalize (w.alloc (Obj.cells #[Value.int IntKind.i64 base, Value.int IntKind.i64 kind, Value.slice (some ad) n c, Value.slice (some ad') n c'] 25)).alloc (Obj.cells #[Value.int IntKind.i64 0, Value.slice none 0 0, Value.slice none 0 0] 157) = W at *
  have HC2 := Lib.hid hc2
  go_region_held3 (fun w' => w'.cell? ⟨w.heap.size, 0, none⟩ = some (.int .i64 base) ∧ w'.cell? ⟨w.heap.size, 1, none⟩ = some (.int .i64 kind) ∧ w'.cell? ⟨w.heap.size, 2, none⟩ = some (.slice (some ad) n c) ∧ w'.cell? ⟨w.heap.size, 3, none⟩ = some (.slice (some ad') n c'))
    (first | (go_keep; done) | (go_split_ands; refine ⟨?_, ?_, ?_, ?_⟩ <;> (refine (hgx.cell_far _ ?_ ?_).trans ?_ <;> first | assumption | (simp; done) | (simp <;> (have := HC2.out; omega)) | (simp [Value.ownBlock]; done))) | (go_split_ands; refine ⟨?_, ?_, ?_, ?_⟩ <;> (refine (hgy.cell_far _ ?_ ?_).trans ?_ <;> first | assumption | (simp; done) | (simp [Value.ownBlock]; done) | (simp [Value.ownBlock] <;> (have := HC2.out; omega)))))
    (first
      | (refine step_append_lies _ (by rfl) _ _ 22 (by rfl) (w.heap.size + 2) 3 i0 _ 1 8 Tryz.underlying22 hi0 hz0 hz1 hz2 rfl (by omega) (.slice (some ⟨w.heap.size + 2, 0, none⟩) 1 1) 1 [.int .i64 base] (by rfl) (by exact World.ownsRow.drew (own_lit W _ 1 _ HC2.out (by omega) (by omega) rfl)) ad n c (vI l) (by rfl) (by rw [HLX.out]; omega) (HX.out _ (by exact (hb0.out.alloc hb0.out.size _).drew)) (one_vI l) (by omega) (by simp only [maxLen]; omega) (by omega) (by first | (have := HC2.out; omega) | (simp; done) | (simp <;> (have := HC2.out; omega))) _ rfl ?_; intro gx cx w1 hownx hgx hatx hltx; have hw1 : W.heap.size + 1 ≤ w1.heap.size := (by have := hgx.size; simp at this; omega); have hbw1 : Hid (Below w.heap.size w w1) := ((hb0.out.alloc hb0.out.size _).drew).grown hgx (by first | (have := HC2.out; omega) | (simp; done) | (simp <;> (have := HC2.out; omega))) (fun k hk => by simp [Value.ownBlock] at hk; omega); have HT1 : Hid (Blk w1 (w.heap.size + 1) 157 #[Value.int IntKind.i64 0, Value.slice none 0 0, Value.slice none 0 0]) := Blk.grown ((HT.out.alloc _).drew) hgx (by simp [Value.ownBlock]))
      | (refine step_append_lies _ (by rfl) _ _ 22 (by rfl) (w.heap.size + 2) 3 i0 _ 1 8 Tryz.underlying22 hi0 hz0 hz1 hz2 rfl (by omega) (.slice (some ⟨w.heap.size + 2, 0, none⟩) 1 1) 1 [.int .i64 base] (by rfl) (by exact World.ownsRow.drew ((own_lit W _ 1 _ HC2.out (by omega) (by omega) rfl).alloc _)) ad n c (vI l) (by rfl) (by rw [HLX.out]; omega) (HX.out _ (by exact ((hb0.out.alloc hb0.out.size _).alloc (by first | (have := HC2.out; omega) | (simp; done) | (simp <;> (have := HC2.out; omega))) _).drew)) (one_vI l) (by omega) (by simp only [maxLen]; omega) (by omega) (by first | (have := HC2.out; omega) | (simp; done) | (simp <;> (have := HC2.out; omega))) _ rfl ?_; intro gx cx w1 hownx hgx hatx hltx; have hw1 : W.heap.size + 1 ≤ w1.heap.size := (by have := hgx.size; simp at this; omega); have hbw1 : Hid (Below w.heap.size w w1) := (((hb0.out.alloc hb0.out.size _).alloc (by first | (have := HC2.out; omega) | (simp; done) | (simp <;> (have := HC2.out; omega))) _).drew).grown hgx (by first | (have := HC2.out; omega) | (simp; done) | (simp <;> (have := HC2.out; omega))) (fun k hk => by simp [Value.ownBlock] at hk; omega); have HT1 : Hid (Blk w1 (w.heap.size + 1) 157 #[Value.int IntKind.i64 0, Value.slice none 0 0, Value.slice none 0 0]) := Blk.grown (((HT.out.alloc _).alloc _).drew) hgx (by simp [Value.ownBlock]); have own2 : Hid (w1.ownsRow (w.heap.size + 2) 42 1 (.slice (some ⟨w.heap.size + 3, 0, none⟩) 1 1) 1 [.float .f64 4607182418800017408]) := (World.ownsRow.drew (own_lit (W.alloc (Obj.cells #[Value.int IntKind.i64 base] 3)) #[Value.float FloatKind.f64 4607182418800017408] 1 (w.heap.size + 3) (by simp; exact HC2.out) (by omega) (by omega) rfl)).kept hgx (.inr (by simp [Value.ownBlock])); have hdis : Hid (gx ≠ w.heap.size + 3) := (by show _ ≠ _; rcases hatx with h | h <;> simp [Value.ownBlock] at h <;> (have := HC2.out; omega)))
      | (refine step_append_lies _ (by rfl) _ _ 22 (by rfl) (w.heap.size + 2) 3 i0 _ 1 8 Tryz.underlying22 hi0 hz0 hz1 hz2 rfl (by omega) (.slice (some ⟨w.heap.size + 3, 0, none⟩) 1 1) 1 [.int .i64 base] (by rfl) (by exact World.ownsRow.drew (own_lit (W.alloc _) _ 1 _ (by simp; exact HC2.out) (by omega) (by omega) rfl)) ad n c (vI l) (by rfl) (by rw [HLX.out]; omega) (HX.out _ (by exact ((hb0.out.alloc hb0.out.size _).alloc (by first | (have := HC2.out; omega) | (simp; done) | (simp <;> (have := HC2.out; omega))) _).drew)) (one_vI l) (by omega) (by simp only [maxLen]; omega) (by omega) (by first | (have := HC2.out; omega) | (simp; done) | (simp <;> (have := HC2.out; omega))) _ rfl ?_; intro gx cx w1 hownx hgx hatx hltx; have hw1 : W.heap.size + 1 ≤ w1.heap.size := (by have := hgx.size; simp at this; omega); have hbw1 : Hid (Below w.heap.size w w1) := (((hb0.out.alloc hb0.out.size _).alloc (by first | (have := HC2.out; omega) | (simp; done) | (simp <;> (have := HC2.out; omega))) _).drew).grown hgx (by first | (have := HC2.out; omega) | (simp; done) | (simp <;> (have := HC2.out; omega))) (fun k hk => by simp [Value.ownBlock] at hk; omega); have HT1 : Hid (Blk w1 (w.heap.size + 1) 157 #[Value.int IntKind.i64 0, Value.slice none 0 0, Value.slice none 0 0]) := Blk.grown (((HT.out.alloc _).alloc _).drew) hgx (by simp [Value.ownBlock]); have own2 : Hid (w1.ownsRow (w.heap.size + 2) 42 1 (.slice (some ⟨w.heap.size + 2, 0, none⟩) 1 1) 1 [.float .f64 4607182418800017408]) := (World.ownsRow.drew ((own_lit W #[Value.float FloatKind.f64 4607182418800017408] 1 (w.heap.size + 2) HC2.out (by omega) (by omega) rfl).alloc (Obj.cells #[Value.int IntKind.i64 base] 3))).kept hgx (.inr (by simp [Value.ownBlock])); have hdis : Hid (gx ≠ w.heap.size + 2) := (by show _ ≠ _; rcases hatx with h | h <;> simp [Value.ownBlock] at h <;> (have := HC2.out; omega)))
      | (refine step_append_lies _ (by rfl) _ _ 23 (by rfl) (w.heap.size + 2) 42 j0 _ 1 8 Tryz.underlying23 hj0 hy0 hy1 hy2 rfl (by omega) (.slice (some ⟨w1.heap.size, 0, none⟩) 1 1) 1 [.float .f64 4607182418800017408] (by rfl) (by exact own_lit w1 _ 1 _ rfl (by have := HC2.out; omega) (by omega) rfl) ad' n c' (vF fl) (by rfl) (by rw [HLY.out]; omega) (HY.out _ (by exact hbw1.out.alloc (by have := HC2.out; omega) _)) (one_vF fl) (by omega) (by simp only [maxLen]; omega) (by omega) (by first | (have := HC2.out; omega) | (simp; done) | (simp <;> (have := HC2.out; omega))) _ rfl ?_; intro gy cy w2 howny hgy haty hlty; have HT2 := Blk.grown (HT1.out.alloc _) hgy (by simp [Value.ownBlock]; have := HC2.out; omega); have hbw2 : Hid (Below w.heap.size w w2) := (hbw1.out.alloc (by have := HC2.out; omega) _).grown hgy (by first | (have := HC2.out; omega) | (simp; done) | (simp <;> (have := HC2.out; omega))) (fun k hk => by simp [Value.ownBlock] at hk; have := HC2.out; omega); have hownx2 : Hid (w2.ownsRow (w.heap.size + 2) 3 1 (.slice (some ⟨gx, 0, none⟩) (1 + n) cx) (1 + n) ([.int .i64 base] ++ vI l)) := (hownx.alloc _).kept hgy (.inr (by simp [Value.ownBlock]; omega)); have t0 : w2.cell? ⟨w.heap.size + 1, 0, none⟩ = some (.int .i64 0) := HT2.cell 0; have t1 : w2.cell? ⟨w.heap.size + 1, 1, none⟩ = some (.slice none 0 0) := HT2.cell 1; have t2 : w2.cell? ⟨w.heap.size + 1, 2, none⟩ = some (.slice none 0 0) := HT2.cell 2; have f0 := HT2.frozen 0; have f1 := HT2.frozen 1; have f2 := HT2.frozen 2; have HT2 := Lib.hid HT2)
      | (refine step_append_lies _ (by rfl) _ _ 23 (by rfl) (w.heap.size + 2) 42 j0 _ 1 8 Tryz.underlying23 hj0 hy0 hy1 hy2 rfl (by omega) (.slice (some ⟨w.heap.size + 3, 0, none⟩) 1 1) 1 [.float .f64 4607182418800017408] (by rfl) (by exact own2.out) ad' n c' (vF fl) (by rfl) (by rw [HLY.out]; omega) (HY.out _ (by exact hbw1.out)) (one_vF fl) (by omega) (by simp only [maxLen]; omega) (by omega) (by first | (have := HC2.out; omega) | (simp; done) | (simp <;> (have := HC2.out; omega))) _ rfl ?_; intro gy cy w2 howny hgy haty hlty; have HT2 := Blk.grown (HT1.out) hgy (by simp [Value.ownBlock]); have hbw2 : Hid (Below w.heap.size w w2) := (hbw1.out).grown hgy (by have := HC2.out; omega) (fun k hk => by simp [Value.ownBlock] at hk; have := HC2.out; omega); have hownx2 : Hid (w2.ownsRow (w.heap.size + 2) 3 1 (.slice (some ⟨gx, 0, none⟩) (1 + n) cx) (1 + n) ([.int .i64 base] ++ vI l)) := (hownx).kept hgy (.inr (by simp [Value.ownBlock]; exact hdis.out)); have t0 : w2.cell? ⟨w.heap.size + 1, 0, none⟩ = some (.int .i64 0) := HT2.cell 0; have t1 : w2.cell? ⟨w.heap.size + 1, 1, none⟩ = some (.slice none 0 0) := HT2.cell 1; have t2 : w2.cell? ⟨w.heap.size + 1, 2, none⟩ = some (.slice none 0 0) := HT2.cell 2; have f0 := HT2.frozen 0; have f1 := HT2.frozen 1; have f2 := HT2.frozen 2; have HT2 := Lib.hid HT2)
      | (refine step_append_lies _ (by rfl) _ _ 23 (by rfl) (w.heap.size + 2) 42 j0 _ 1 8 Tryz.underlying23 hj0 hy0 hy1 hy2 rfl (by omega) (.slice (some ⟨w.heap.size + 2, 0, none⟩) 1 1) 1 [.float .f64 4607182418800017408] (by rfl) (by exact own2.out) ad' n c' (vF fl) (by rfl) (by rw [HLY.out]; omega) (HY.out _ (by exact hbw1.out)) (one_vF fl) (by omega) (by simp only [maxLen]; omega) (by omega) (by first | (have := HC2.out; omega) | (simp; done) | (simp <;> (have := HC2.out; omega))) _ rfl ?_; intro gy cy w2 howny hgy haty hlty; have HT2 := Blk.grown (HT1.out) hgy (by simp [Value.ownBlock]); have hbw2 : Hid (Below w.heap.size w w2) := (hbw1.out).grown hgy (by have := HC2.out; omega) (fun k hk => by simp [Value.ownBlock] at hk; have := HC2.out; omega); have hownx2 : Hid (w2.ownsRow (w.heap.size + 2) 3 1 (.slice (some ⟨gx, 0, none⟩) (1 + n) cx) (1 + n) ([.int .i64 base] ++ vI l)) := (hownx).kept hgy (.inr (by simp [Value.ownBlock]; exact hdis.out)); have t0 : w2.cell? ⟨w.heap.size + 1, 0, none⟩ = some (.int .i64 0) := HT2.cell 0; have t1 : w2.cell? ⟨w.heap.size + 1, 1, none⟩ = some (.slice none 0 0) := HT2.cell 1; have t2 : w2.cell? ⟨w.heap.size + 1, 2, none⟩ = some (.slice none 0 0) := HT2.cell 2; have f0 := HT2.frozen 0; have f1 := HT2.frozen 1; have f2 := HT2.frozen 2; have HT2 := Lib.hid HT2)
    )
  all_goals go_wp2
  all_goals (have hE := table_end 4607182418800017408 hbw2.out hownx2.out howny HT2.out (.int .i64 kind) (.slice (some ⟨gx, 0, none⟩) (1 + n) cx) (.slice (some ⟨gy, 0, none⟩) (1 + n) cy))
  all_goals (refine bodyPost_ret (results_cell_row rfl _ _ (w.heap.size + 1) 157 #[.int .i64 kind, .slice (some ⟨gx, 0, none⟩) (1 + n) cx, .slice (some ⟨gy, 0, none⟩) (1 + n) cy] (0, 0) _ rfl hE.1 Tryz.underlying157 rfl size157) rfl ?_)
  all_goals exact ⟨gx, cx, gy, cy, by rw [Nat.add_comm n 1]; rfl, hE.2.1, hE.2.2.1, by have := (own_cap howny).1; omega, (own_cap howny).2, hE.2.2.2⟩
end Go.Proofs.YtefaedjjecfabaaGreat.Ten

namespace Go.Proofs.YtefaedjjecfabaaGreat.Ten
open Go Go.RowKit
attribute [local irreducible] flt fle feq
/-- What a good table's nodes are like. -/
theorem tab_facts (kind : Int) : ∀ (z : Int) (X : List Int) (Y : List Nat), X.length = Y.length → tabOk kind z X Y = true →
    (∀ (i : Nat) (d : Int), X[i]? = some d → z < d ∧ d ≤ 109572) ∧ (∀ (i j : Nat) (u v : Int), i < j → X[i]? = some u → X[j]? = some v → u < v) ∧ (∀ f ∈ Y, fin f = true) ∧ (kind = 4 → ∀ f ∈ Y, flt 0 f = true)
  | z, [], [], _, _ => by simp
  | z, [], f :: Y, h, _ => by simp at h
  | z, d :: X, [], h, _ => by simp at h
  | z, d :: X, f :: Y, h, hok => by
    rw [tabOk, Bool.and_eq_true] at hok
    obtain ⟨h1, h2⟩ := hok
    obtain ⟨i1, i2, i3, i4⟩ := tab_facts kind d X Y (by simpa using h) h2
    unfold tabNode at h1
    simp only [Bool.and_eq_true, decide_eq_true_eq, Bool.not_eq_true'] at h1
    obtain ⟨⟨⟨a1, a2⟩, a3⟩, a4⟩ := h1
    refine ⟨?_, ?_, ?_, ?_⟩
    · intro i e he
      cases i with
      | zero => simp at he; omega
      | succ i => simp at he; have := i1 i e he; omega
    · intro i j u v hij hu hv
      cases j with
      | zero => omega
      | succ j =>
        simp at hv
        cases i with
        | zero => simp at hu; have := i1 j v hv; omega
        | succ i => simp at hu; exact i2 i j u v (by omega) hu hv
    · intro g hg
      rcases List.mem_cons.1 hg with rfl | hg
      · exact (cls_fin g).1 a3
      · exact i3 g hg
    · intro hk g hg
      rcases List.mem_cons.1 hg with rfl | hg
      · subst hk
        simpa using a4
      · exact i4 hk g hg
theorem upTo_cons (d : Int) (X : List Int) (x : Int) : upTo (d :: X) x = upTo X x + if d ≤ x then 1 else 0 := by
  unfold upTo
  rw [List.countP_cons]
  by_cases h : d ≤ x
  · rw [if_pos h, if_pos]; simp; omega
  · rw [if_neg h, if_neg]; simp; omega
theorem upTo_le (X : List Int) (x : Int) : upTo X x ≤ X.length := by unfold upTo; exact List.countP_le_length
/-- Among strictly rising nodes the first upTo are those that are not above x. -/
theorem upTo_iff : ∀ (X : List Int) (x : Int), (∀ (i j : Nat) (u v : Int), i < j → X[i]? = some u → X[j]? = some v → u < v) → ∀ (i : Nat) (v : Int), X[i]? = some v → (i < upTo X x ↔ v ≤ x)
  | [], x, _, i, v, h => by simp at h
  | d :: X, x, hs, i, v, h => by
    have hs' : ∀ (i j : Nat) (u v : Int), i < j → X[i]? = some u → X[j]? = some v → u < v := fun i j u v hij hu hv => hs (i + 1) (j + 1) u v (by omega) (by simpa using hu) (by simpa using hv)
    have ih := upTo_iff X x hs'
    rw [upTo_cons]
    cases i with
    | zero =>
      simp at h
      subst h
      by_cases h : d ≤ x
      · rw [if_pos h]; simp [h]
      · rw [if_neg h]
        have : upTo X x = 0 := by
          cases X with
          | nil => unfold upTo; rfl
          | cons e X =>
            have h0 := ih 0 e rfl
            have h1 := hs 0 1 d e (by omega) rfl rfl
            have : ¬ 0 < upTo (e :: X) x := fun hh => by have := h0.1 hh; omega
            omega
        rw [this]
        constructor
        · intro hh; omega
        · intro hh; exact absurd hh h
    | succ i =>
      simp at h
      have h0 := ih i v h
      have h1 := hs 0 (i + 1) d v (by omega) rfl (by simpa using h)
      by_cases hd : d ≤ x
      · rw [if_pos hd]
        constructor
        · intro hh; exact h0.1 (by omega)
        · intro hh; have := h0.2 hh; omega
      · rw [if_neg hd]
        constructor
        · intro hh; exact h0.1 (by omega)
        · intro hh; omega
/-- The node at x or ahead of it, as a number; the node behind. -/
theorem upTo_at (X : List Int) (x a b : Int) (n : Nat) (hl : X.length = n) (_hn : 1 ≤ n) (hs : ∀ (i j : Nat) (u v : Int), i < j → X[i]? = some u → X[j]? = some v → u < v) (ha : X[0]? = some a) (hb : X[n - 1]? = some b) (h0 : a ≤ x) (h1 : x ≤ b) :
    1 ≤ upTo X x ∧ upTo X x ≤ n ∧ ∃ d, X[upTo X x - 1]? = some d ∧ d ≤ x ∧ (d ≠ x → upTo X x < n ∧ ∃ e, X[upTo X x]? = some e ∧ x < e) := by
  have i0 := upTo_iff X x hs 0 a ha
  have hp : 0 < upTo X x := i0.2 h0
  have hle := upTo_le X x
  obtain ⟨d, hd⟩ : ∃ d, X[upTo X x - 1]? = some d := ⟨_, List.getElem?_eq_getElem (by omega)⟩
  refine ⟨hp, by omega, d, hd, (upTo_iff X x hs _ _ hd).1 (by omega), fun hne => ?_⟩
  have hlt : upTo X x < n := by
    rcases Nat.lt_or_ge (upTo X x) n with h | h
    · exact h
    · exfalso
      have e : upTo X x = n := by omega
      rw [e] at hd
      rw [hb] at hd
      have hb2 := Option.some.inj hd
      have := (upTo_iff X x hs _ _ hb).1 (by omega)
      omega
  obtain ⟨e, he⟩ : ∃ e, X[upTo X x]? = some e := ⟨_, List.getElem?_eq_getElem (by omega)⟩
  refine ⟨hlt, e, he, ?_⟩
  have := (upTo_iff X x hs _ _ he)
  have h2 : ¬ upTo X x < upTo X x := by omega
  have h3 : ¬ e ≤ x := fun hh => h2 (this.2 hh)
  omega
end Go.Proofs.YtefaedjjecfabaaGreat.Ten

namespace Go.Proofs.YtefaedjjecfabaaGreat.Ten
open Go Go.RowKit
attribute [local go_sem] ext113 ext252 run_fneg ord_lt ord_gt ord_eq ord_ne ltoreq gtoreq
attribute [local irreducible] flt fle feq
/-- A good table as the walk has it. -/
structure TabIn (w : World) (kind : Int) (gx gy n : Nat) (X : List Int) (Y : List Nat) : Prop where
  hk : 1 ≤ kind ∧ kind ≤ 4
  hl : X.length = n
  hf : Y.length = n
  hn : 1 ≤ n ∧ n ≤ 256
  hok : tabOk kind (-1) X Y = true
  hfl : ∀ f ∈ Y, f < 18446744073709551616
  hR : Reads w w.heap.size 1 (some ⟨gx, 0, none⟩) n (vI X)
  hS : Reads w w.heap.size 1 (some ⟨gy, 0, none⟩) n (vF Y)
theorem TabIn.below {w W : World} {kind : Int} {gx gy n : Nat} {X : List Int} {Y : List Nat} (h : TabIn w kind gx gy n X Y) (hb : Below w.heap.size w W) : TabIn W kind gx gy n X Y :=
  ⟨h.hk, h.hl, h.hf, h.hn, h.hok, h.hfl, (h.hR.below hb).more hb.size, (h.hS.below hb).more hb.size⟩
theorem TabIn.cx {w : World} {kind : Int} {gx gy n : Nat} {X : List Int} {Y : List Nat} (h : TabIn w kind gx gy n X Y) (i : Nat) (d : Int) (hd : X[i]? = some d) : w.cell? ⟨gx, i, none⟩ = some (.int .i64 d) := by
  have := rI_at h.hR rfl hd
  have e : (⟨gx, 0, none⟩ : Addr).add i = ⟨gx, i, none⟩ := by unfold Addr.add; split <;> simp_all
  rwa [e] at this
theorem TabIn.cy {w : World} {kind : Int} {gx gy n : Nat} {X : List Int} {Y : List Nat} (h : TabIn w kind gx gy n X Y) (i : Nat) (f : Nat) (hd : Y[i]? = some f) : w.cell? ⟨gy, i, none⟩ = some (.float .f64 f) := by
  have := rF_at h.hS rfl hd
  have e : (⟨gy, 0, none⟩ : Addr).add i = ⟨gy, i, none⟩ := by unfold Addr.add; split <;> simp_all
  rwa [e] at this
theorem TabIn.gx_lt {w : World} {kind : Int} {gx gy n : Nat} {X : List Int} {Y : List Nat} (h : TabIn w kind gx gy n X Y) : gx < w.heap.size := by
  obtain ⟨ad, e, hb, _⟩ := h.hR.2 (by have := h.hn; have := h.hl; omega)
  injection e with e
  subst e
  exact hb
theorem TabIn.gy_lt {w : World} {kind : Int} {gx gy n : Nat} {X : List Int} {Y : List Nat} (h : TabIn w kind gx gy n X Y) : gy < w.heap.size := by
  obtain ⟨ad, e, hb, _⟩ := h.hS.2 (by have := h.hn; have := h.hf; omega)
  injection e with e
  subst e
  exact hb
set_option maxRecDepth 100000 in
set_option maxHeartbeats 1000000 in
theorem find_out {kind : Int} {gx gy n : Nat} (c c' : Nat) {X : List Int} {Y : List Nat} (x a b : Int) (w : World) (h : TabIn w kind gx gy n X Y) (ha : X[0]? = some a) (hb : X[n - 1]? = some b) (hx : x < a ∨ b < x) :
    Calls Tryz.prog 297 #[tabV kind (some ⟨gx, 0, none⟩) n c (some ⟨gy, 0, none⟩) n c', .int .i64 x] w fun e w' => e = .returned (.tuple #[.int .i64 0, .int .i64 51]) ∧ Below w.heap.size w w' := by
  have ca := h.cx 0 a ha
  have cb := h.cx (n - 1) b hb
  have hg := h.gx_lt
  obtain ⟨hn1, hn2⟩ := h.hn
  have e0 : ((n : Int) - 1).toNat = n - 1 := by omega
  clear h ha hb
  unfold tabV
  by_cases h1 : x < a
  · clear hx
    go_enter Tryz.func297, Tryz.ntmps297
    go_wp2
    go_ret2
    exact ⟨rfl, hb2b w _⟩
  · have h2 : b < x := by omega
    clear hx
    go_enter Tryz.func297, Tryz.ntmps297
    go_wp2
    go_ret2
    exact ⟨rfl, hb2b w _⟩
/-- Where Find looks: out of the nodes, or the last node at x or ahead of it. -/
def outT (X : List Int) (x : Int) : Prop := (∃ a, X[0]? = some a ∧ x < a) ∨ (∃ b, X[X.length - 1]? = some b ∧ b < x)
theorem find_any {kind : Int} {gx gy n : Nat} (c c' : Nat) {X : List Int} {Y : List Nat} (x : Int) (w : World) (h : TabIn w kind gx gy n X Y) :
    Calls Tryz.prog 297 #[tabV kind (some ⟨gx, 0, none⟩) n c (some ⟨gy, 0, none⟩) n c', .int .i64 x] w fun e w' => (outT X x → e = .returned (.tuple #[.int .i64 0, .int .i64 51])) ∧ (¬ outT X x → e = .returned (.tuple #[.int .i64 ((upTo X x : Int) - 1), .int .i64 0])) ∧ Below w.heap.size w w' := by
  obtain ⟨hn1, hn2⟩ := h.hn
  obtain ⟨a, ha⟩ : ∃ a, X[0]? = some a := ⟨_, List.getElem?_eq_getElem (by have := h.hl; omega)⟩
  obtain ⟨b, hb⟩ : ∃ b, X[n-1]? = some b := ⟨_, List.getElem?_eq_getElem (by have := h.hl; omega)⟩
  obtain ⟨f1, f2, f3, f4⟩ := tab_facts kind (-1) X Y (by rw [h.hl, h.hf]) h.hok
  by_cases hx : x < a ∨ b < x
  · have ho : outT X x := by
      rcases hx with hx | hx
      · exact .inl ⟨a, ha, hx⟩
      · exact .inr ⟨b, by rw [h.hl]; exact hb, hx⟩
    refine (find_out c c' x a b w h ha hb hx).mono ?_
    rintro e w' ⟨he, hw⟩
    exact ⟨fun _ => he, fun hh => absurd ho hh, hw⟩
  · have ho : ¬ outT X x := by
      rintro (⟨a', h1, h2⟩ | ⟨b', h1, h2⟩)
      · rw [ha] at h1; have := Option.some.inj h1; omega
      · rw [h.hl, hb] at h1; have := Option.some.inj h1; omega
    refine (find_in kind gx n c (some ⟨gy, 0, none⟩) n c' X x a b w h.hl hn1 hn2 h.cx h.gx_lt ?_ ha hb (by omega) (by omega) (f1 _ b hb).2 (by have := (f1 _ a ha).1; omega)).mono ?_
    · intro i j u v hij hu hv
      rcases Nat.lt_or_ge i j with hh | hh
      · exact Int.le_of_lt (f2 i j u v hh hu hv)
      · obtain rfl : i = j := by omega
        rw [hu] at hv
        have := Option.some.inj hv; omega
    · rintro e w' ⟨he, hw⟩
      exact ⟨fun hh => absurd hh ho, fun _ => he, hw⟩
theorem below_boxed {w w1 w2 : World} {o : Obj} (h1 : Below (w.alloc o).heap.size (w.alloc o) w1) (h2 : Below w1.heap.size w1 w2) : Below w.heap.size w w2 := (below_box h1).trans (h2.mono (below_box h1).size)
theorem size157' : (Tryz.prog.info? 157).map (·.size) = some 3 := size157
set_option maxRecDepth 100000 in
set_option maxHeartbeats 1000000 in
theorem Find_any {kind : Int} {gx gy n : Nat} (c c' : Nat) {X : List Int} {Y : List Nat} (x : Int) (w : World) (h : TabIn w kind gx gy n X Y) :
    Calls Tryz.prog 212 #[tabV kind (some ⟨gx, 0, none⟩) n c (some ⟨gy, 0, none⟩) n c', .int .i64 x] w fun e w' => (outT X x → e = .returned (.tuple #[.int .i64 0, .int .i64 51])) ∧ (¬ outT X x → e = .returned (.tuple #[.int .i64 ((upTo X x : Int) - 1), .int .i64 0])) ∧ Below w.heap.size w w' := by
  have H := Lib.hid h
  have C1 := Lib.hid (fun o => (tabcheck_ok kind (some ⟨gx, 0, none⟩) (some ⟨gy, 0, none⟩) n c c' X Y w.heap.size (w.alloc o) h.hl h.hf h.hn.1 h.hn.2 h.hk.1 h.hk.2 (fun d hd => by
    obtain ⟨i, hi⟩ := List.getElem?_of_mem hd
    have := (tab_facts kind (-1) X Y (by rw [h.hl, h.hf]) h.hok).1 i d hi
    omega) h.hfl (h.hR.alloc (Nat.le_refl _) o) (h.hS.alloc (Nat.le_refl _) o) (by simp)))
  have HOK := Lib.hid h.hok
  clear h
  have C2 := Lib.hid (fun W (hW : Below w.heap.size w W) => find_any c c' x W (H.out.below hW))
  unfold tabV at *
  go_enter Tryz.func212, Tryz.ntmps212
  go_wp2_with fail
  refine (C1.out _).mono ?_
  rintro e w' ⟨rfl, hbe⟩
  rw [HOK.out]
  have hB := (Blk.new w 157 #[.int .i64 kind, .slice (some ⟨gx, 0, none⟩) n c, .slice (some ⟨gy, 0, none⟩) n c']).below hbe (by simp)
  have b0 := hB.cell 0
  have b1 := hB.cell 1
  have b2 := hB.cell 2
  have b0 : w'.cell? ⟨w.heap.size, 0, none⟩ = some (.int .i64 kind) := b0
  have b1 : w'.cell? ⟨w.heap.size, 1, none⟩ = some (.slice (some ⟨gx, 0, none⟩) n c) := b1
  have b2 : w'.cell? ⟨w.heap.size, 2, none⟩ = some (.slice (some ⟨gy, 0, none⟩) n c') := b2
  have HB := Lib.hid (below_box hbe)
  have HBE := Lib.hid hbe
  clear hbe hB C1
  go_wp2_with fail
  refine (C2.out _ HB.out).mono ?_
  rintro e w2 ⟨h1, h2, hb2⟩
  by_cases ho : outT X x
  · obtain rfl := h1 ho
    have HB2 := Lib.hid (below_boxed HBE.out hb2)
    clear h1 h2 hb2
    go_wp2
    go_ret2
    exact ⟨fun _ => rfl, fun hh => absurd ho hh, HB2.out⟩
  · obtain rfl := h2 ho
    have HB2 := Lib.hid (below_boxed HBE.out hb2)
    clear h1 h2 hb2
    go_wp2
    go_ret2
    exact ⟨fun hh => absurd hh ho, fun _ => rfl, HB2.out⟩
end Go.Proofs.YtefaedjjecfabaaGreat.Ten

namespace Go.Proofs.YtefaedjjecfabaaGreat.Ten
open Go Go.RowKit
attribute [local go_sem] ext113 ext252 run_fneg ord_lt ord_gt ord_eq ord_ne ltoreq gtoreq
attribute [local irreducible] flt fle feq
theorem uv_inf : uv 52 9218868437227405312 = 2 ^ 2098 := by decide +kernel
theorem iv_lt (b : Nat) (h : fin b = true) : (iv b).natAbs < 2 ^ 2098 := by
  unfold fin at h
  have h1 := uv_lt 52 (of_decide_eq_true h)
  rw [uv_inf] at h1
  have h2 : (iv b).natAbs = uv 52 (rung b) := by
    unfold iv uu
    cases sgn b <;> simp
  rw [h2]
  exact h1
theorem le_glue (n P R S : Nat) (h : n ≤ P) (e : R = P) (h2 : R < S) : n < S := by
  rw [← e] at h
  exact Nat.lt_of_le_of_lt h h2
theorem dotI_le : ∀ (xs : List Int) (ys : List Nat), (∀ x ∈ xs, fin (fofi x) = true) → (∀ y ∈ ys, fin y = true) → (dotI xs ys).natAbs ≤ xs.length * 2 ^ 4196
  | [], _, _, _ => Nat.zero_le _
  | x :: xs, [], _, _ => Nat.zero_le _
  | x :: xs, y :: ys, hx, hy => by
    have ih := dotI_le xs ys (fun x h => hx x (List.mem_cons_of_mem _ h)) (fun y h => hy y (List.mem_cons_of_mem _ h))
    have h1 := iv_lt _ (hx x (List.mem_cons_self ..))
    have h2 := iv_lt _ (hy y (List.mem_cons_self ..))
    have h3 : (iv (fofi x) * iv y).natAbs ≤ 2 ^ 4196 := by
      exact Nat.le_trans (Nat.le_of_eq (Int.natAbs_mul _ _)) (Nat.le_trans (Nat.mul_le_mul (Nat.le_of_lt h1) (Nat.le_of_lt h2)) (Nat.le_of_eq (pow_lem 2098 2098 4196 rfl).symm))
    rw [dotI, List.length_cons, Nat.succ_mul]
    generalize dotI xs ys = a at *
    generalize iv (fofi x) * iv y = b at *
    generalize (2 : Nat) ^ 4196 = P at *
    generalize xs.length * P = Q at *
    omega
theorem dotI_lt (xs : List Int) (ys : List Nat) (n : Nat) (hn : n ≤ 1000) (hl : xs.length = n) (hx : ∀ x ∈ xs, -9223372036854775808 ≤ x ∧ x < 9223372036854775808) (hy : ∀ y ∈ ys, fin y = true) : (dotI xs ys).natAbs < 2 ^ 4300 := by
  have h := dotI_le xs ys (fun x h => (fofi_fin x (hx x h)).2) hy
  have h0 : ∀ K : Nat, xs.length * K ≤ 2 ^ 10 * K := fun K => Nat.mul_le_mul_right K (by have : (2 : Nat) ^ 10 = 1024 := rfl; omega)
  have h4 := Nat.pow_lt_pow_right (a := 2) (m := 4206) (n := 4300) (by omega) (by omega)
  have a1 := h0 (2 ^ 4196)
  have a2 := pow_lem 10 4196 4206 rfl
  have a3 := le_glue _ _ _ _ a1 a2 h4
  exact Nat.lt_of_le_of_lt h a3
theorem Reads.sub {w : World} {B n : Nat} {g off : Nat} {xs : List Value} (h : Reads w B 1 (some ⟨g, off, none⟩) n xs) (i m : Nat) (hm : i + m ≤ n) (h0 : 0 < n) : Reads w B 1 (some ⟨g, off + i, none⟩) m ((xs.drop i).take m) := by
  refine ⟨?_, fun hx => ?_⟩
  · have := h.1
    rw [List.length_take, List.length_drop]; omega
  · obtain ⟨ad, e, hb, hc⟩ := h.2 (by have := h.1; omega)
    injection e with e
    subst e
    refine ⟨⟨g, off + i, none⟩, rfl, hb, fun j u hu => ?_⟩
    have hj : j < m := by
      rcases Nat.lt_or_ge j m with hh | hh
      · exact hh
      · rw [List.getElem?_eq_none (by rw [List.length_take]; omega)] at hu; cases hu
    rw [List.getElem?_take_of_lt hj, List.getElem?_drop] at hu
    have := hc (i + j) u hu
    have e1 : (⟨g, off, none⟩ : Addr).add (i + j) = (⟨g, off + i, none⟩ : Addr).add j := by
      by_cases h1 : i = 0 <;> by_cases h2 : j = 0 <;> simp [Addr.add, h1, h2, Nat.add_assoc]
    rwa [e1] at this
set_option maxRecDepth 100000 in
set_option maxHeartbeats 1000000 in
theorem flat_any {kind : Int} {gx gy n : Nat} (c c' : Nat) {X : List Int} {Y : List Nat} (k : Nat) (i m : Int) (f : Nat) (w : World) (h : TabIn w kind gx gy n X Y) (hk : k < n) (hf : Y[k]? = some f) :
    Calls Tryz.prog 213 #[tabV kind (some ⟨gx, 0, none⟩) n c (some ⟨gy, 0, none⟩) n c', .int .i64 (k : Int), .int .i64 i, .int .i64 m] w fun e w' => e = .returned (.float .f64 f) ∧ Below w.heap.size w w' := by
  have cy := h.cy k f hf
  have hg := h.gy_lt
  have e0 : (k : Int).toNat = k := Int.toNat_natCast k
  clear h hf
  unfold tabV
  go_enter Tryz.func213, Tryz.ntmps213
  go_wp2
  go_ret
  exact ⟨rfl, hb2b w _⟩
set_option maxRecDepth 100000 in
set_option maxHeartbeats 1000000 in
theorem linear_any {kind : Int} {gx gy n : Nat} (c c' : Nat) {X : List Int} {Y : List Nat} (k : Nat) (i m : Int) (f f' : Nat) (w : World) (h : TabIn w kind gx gy n X Y) (hk : k + 1 < n) (hc : n ≤ c') (hc2 : c' < 9223372036854775808) (hf : Y[k]? = some f) (hf' : Y[k+1]? = some f') (hi : 0 ≤ i) (him : i ≤ m) (hm1 : 1 ≤ m) (hm : m ≤ 1000000) :
    Calls Tryz.prog 214 #[tabV kind (some ⟨gx, 0, none⟩) n c (some ⟨gy, 0, none⟩) n c', .int .i64 (k : Int), .int .i64 i, .int .i64 m] w fun e w' => e = .returned (.float .f64 (ovV (dotI [m - i, i] [f, f']) m.toNat)) ∧ Below w.heap.size w w' := by
  have hg := h.gy_lt
  obtain ⟨hn1, hn2⟩ := h.hn
  have hS := h.hS.sub k 2 (by omega) (by omega)
  have hfin := (tab_facts kind (-1) X Y (by rw [h.hl, h.hf]) h.hok).2.2.1
  have e1 : (((vF Y).drop k).take 2) = vF [f, f'] := by
    obtain ⟨a1, b1⟩ := List.getElem?_eq_some_iff.1 hf
    obtain ⟨a2, b2⟩ := List.getElem?_eq_some_iff.1 hf'
    unfold vF
    rw [← List.map_drop, ← List.map_take, List.drop_eq_getElem_cons a1, List.drop_eq_getElem_cons a2, b1, b2]
    rfl
  rw [e1, Nat.zero_add] at hS
  have hy : ∀ y ∈ [f, f'], y < 18446744073709551616 ∧ fin y = true := by
    intro y hy
    have : y ∈ Y := by
      rcases List.mem_cons.1 hy with rfl | hy
      · exact List.mem_of_getElem? hf
      · rcases List.mem_cons.1 hy with rfl | hy
        · exact List.mem_of_getElem? hf'
        · cases hy
    exact ⟨h.hfl y this, hfin y this⟩
  have hx : ∀ x ∈ [m - i, i], -9223372036854775808 ≤ x ∧ x < 9223372036854775808 := by
    intro x hx
    rcases List.mem_cons.1 hx with rfl | hx
    · omega
    · rcases List.mem_cons.1 hx with rfl | hx
      · omega
      · cases hx
  obtain ⟨M, rfl⟩ := Int.eq_ofNat_of_zero_le (show 0 ≤ m by omega)
  rw [Int.toNat_natCast]
  have CO := Lib.hid (fun (W : World) (g : Nat) (hb : Below w.heap.size w W) (hR : Reads W W.heap.size 1 (some ⟨g, 0, none⟩) 2 (vI [(M : Int) - i, i])) => overf_any M (some ⟨g, 0, none⟩) (some ⟨gy, k, none⟩) 2 2 (c' - k) [(M : Int) - i, i] [f, f'] W.heap.size W (by omega) (by omega) (by omega) rfl rfl hx hy hR ((hS.below hb).more hb.size) (Nat.le_refl _) (dotI_lt _ _ 2 (by omega) rfl hx (fun y h => (hy y h).2)))
  clear hS hy hx hfin e1 hf hf' h
  obtain ⟨r, hr⟩ : ∃ r, ovV (dotI [(M : Int) - i, i] [f, f']) M = r := ⟨_, rfl⟩
  rw [hr] at CO ⊢
  clear hr
  have e0 : (k : Int).toNat = k := Int.toNat_natCast k
  have e2 : ((k : Int) + 2).toNat = k + 2 := by omega
  unfold tabV
  go_enter Tryz.func214, Tryz.ntmps214
  go_wp2_with fail
  have hb0 := hb2 w (Obj.cells #[Value.int IntKind.i64 kind, Value.slice (some ⟨gx, 0, none⟩) n c, Value.slice (some ⟨gy, 0, none⟩) n c'] 157) (Obj.cells #[Value.int IntKind.i64 ((M : Int) - i), Value.int IntKind.i64 i] 3)
  have hown := own_lit (base := 0) (e := 3) (w.alloc (Obj.cells #[Value.int IntKind.i64 kind, Value.slice (some ⟨gx, 0, none⟩) n c, Value.slice (some ⟨gy, 0, none⟩) n c'] 157)) #[Value.int IntKind.i64 ((M : Int) - i), Value.int IntKind.i64 i] 2 (w.heap.size + 1) (by simp) (by omega) (by omega) rfl
  refine (CO.out _ (w.heap.size + 1) hb0 (Reads.of_own hown)).mono ?_
  rintro e w' ⟨rfl, hbe⟩
  have HB := Lib.hid (hb0.trans (hbe.mono hb0.size))
  clear hbe hown CO hb0
  go_wp2
  go_ret
  exact ⟨rfl, HB.out⟩
end Go.Proofs.YtefaedjjecfabaaGreat.Ten
