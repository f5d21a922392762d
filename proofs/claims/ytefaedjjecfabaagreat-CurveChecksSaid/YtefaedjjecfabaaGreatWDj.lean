/- Parts of the proof of CurveChecks: contracts of the functions that it reaches, and the plain laws under them (Dj). Conditions: those that each theorem names. -/
import Derived.Lib.SmallJoins
import Derived.Deep.Slices
import Derived.OpenShut
import Derived.ChangeOld
import Derived.ProofKit
import Derived.Test.YtefaedjjecfabaaGreatWAx
namespace Go.Proofs.YtefaedjjecfabaaGreat.Ten
open Go Go.RowKit
open Go.ChangeShapes Go.WideShapes Go.ChangeAt
section
variable {H : Type} {enc : TypeId × Value → H} {P : Program} {w : World} {base : Nat} {spare : Nat → Bool} {held : Bool}
theorem wf_i64 {d : Int} (h : (Lit.int .i64 d).wf = true) : -9223372036854775808 ≤ d ∧ d < 9223372036854775808 := by
  have e : IntKind.i64.min = -9223372036854775808 := rfl
  simp [Lit.wf] at h
  omega
theorem maxLen_lt : maxLen < 9223372036854775808 := by decide
theorem trod_float {t : TypeId} {fuel : Nat} {cs : List Value} {x : DataW H × List MemPlace} {k : FloatKind} (ht : P.underlying t = some (.float k)) (h : DataW.trod enc P w base spare held fuel t cs = some x) : ∃ b, cs = [.float k b] ∧ x = (.lit (.float k b), []) ∧ (Lit.float k b).wf = true := by
  cases fuel with
  | zero => simp [DataW.trod] at h
  | succ n =>
    unfold DataW.trod at h
    rw [ht] at h
    split at h <;> simp_all
/-- A slice as it came in, its cells by a function. -/
theorem open_cells {t e : TypeId} {fuel : Nat} {v : Value} {x : DataW H × List MemPlace} (ht : P.underlying t = some (.slice e)) (hc : P.cellsOf e = 1) (h : DataW.trod enc P w base spare held fuel t [v] = some x) :
    ∃ (A : Option Addr) (n c : Nat) (V : Nat → Value) (k : Nat), v = .slice A n c ∧ n ≤ c ∧ c ≤ maxLen ∧ (0 < n → ∃ ad, A = some ad ∧ ad.block < w.heap.size ∧ ∀ i, i < n → w.cell? (ad.add i) = some (V i)) ∧
      ∀ i, i < n → ∃ y, DataW.trod enc P w base spare held k e [V i] = some y := by
  rcases Go.Deep.open_slice1 ht hc h with ⟨hcs, _⟩ | ⟨a, len, cap, m, n, V, D, Pl, hcs, hb, hl, hm, hmm, _, hx⟩
  · refine ⟨none, 0, 0, fun _ => undef, 0, by simpa using hcs, by omega, by decide, fun hh => by omega, fun i hi => by omega⟩
  · have hle : len ≤ m := by rw [hmm]; split <;> omega
    refine ⟨some a, len, cap, V, n, by simpa using hcs, hl, hm, fun hh => ⟨a, rfl, ?_, fun i hi => (hx i (by omega)).1⟩, fun i hi => ⟨_, (hx i (by omega)).2⟩⟩
    have := World.block_lt_of_cell? w (a.add 0) (hx 0 (by omega)).1
    rwa [block_of_add] at this
theorem open_vI {t e : TypeId} {fuel : Nat} {v : Value} {x : DataW H × List MemPlace} (ht : P.underlying t = some (.slice e)) (he : P.underlying e = some (.int .i64)) (hc : P.cellsOf e = 1) (h : DataW.trod enc P w base spare held fuel t [v] = some x) :
    ∃ (A : Option Addr) (n c : Nat) (l : List Int), v = .slice A n c ∧ n ≤ c ∧ c ≤ maxLen ∧ l.length = n ∧ Reads w w.heap.size 1 A n (vI l) ∧ ∀ d ∈ l, -9223372036854775808 ≤ d ∧ d < 9223372036854775808 := by
  obtain ⟨A, n, c, V, k, rfl, h1, h2, h3, h4⟩ := open_cells ht hc h
  have hV : ∀ i, i < n → ∃ d : Int, V i = .int .i64 d ∧ (Lit.int .i64 d).wf = true := fun i hi => by
    obtain ⟨y, hy⟩ := h4 i hi
    obtain ⟨d, e1, _, e3⟩ := DataW.trod_int he hy
    exact ⟨d, by simpa using e1, e3⟩
  refine ⟨A, n, c, (List.range n).map fun i => (match V i with | .int _ d => d | _ => 0), rfl, h1, h2, by simp, ⟨by simp [vI], fun hh => ?_⟩, ?_⟩
  · obtain ⟨ad, e1, e2, e3⟩ := h3 (by simpa [vI] using hh)
    refine ⟨ad, e1, e2, fun j u hu => ?_⟩
    have hj : j < n := by
      rcases Nat.lt_or_ge j n with hj | hj
      · exact hj
      · rw [List.getElem?_eq_none (by simpa [vI] using hj)] at hu; cases hu
    obtain ⟨d, hd, _⟩ := hV j hj
    rw [e3 j hj, hd]
    unfold vI at hu
    simp [hj, hd] at hu
    rw [hu]
  · intro d hd
    simp only [List.mem_map, List.mem_range] at hd
    obtain ⟨i, hi, rfl⟩ := hd
    obtain ⟨d, hd, hw⟩ := hV i hi
    rw [hd]
    have hw := wf_i64 hw
    simp
    exact hw
theorem open_vF {t e : TypeId} {fuel : Nat} {v : Value} {x : DataW H × List MemPlace} (ht : P.underlying t = some (.slice e)) (he : P.underlying e = some (.float .f64)) (hc : P.cellsOf e = 1) (h : DataW.trod enc P w base spare held fuel t [v] = some x) :
    ∃ (A : Option Addr) (n c : Nat) (l : List Nat), v = .slice A n c ∧ n ≤ c ∧ c ≤ maxLen ∧ l.length = n ∧ Reads w w.heap.size 1 A n (vF l) ∧ ∀ d ∈ l, d < 18446744073709551616 := by
  obtain ⟨A, n, c, V, k, rfl, h1, h2, h3, h4⟩ := open_cells ht hc h
  have hV : ∀ i, i < n → ∃ d : Nat, V i = .float .f64 d ∧ (Lit.float .f64 d).wf = true := fun i hi => by
    obtain ⟨y, hy⟩ := h4 i hi
    obtain ⟨d, e1, _, e3⟩ := trod_float he hy
    exact ⟨d, by simpa using e1, e3⟩
  refine ⟨A, n, c, (List.range n).map fun i => (match V i with | .float _ d => d | _ => 0), rfl, h1, h2, by simp, ⟨by simp [vF], fun hh => ?_⟩, ?_⟩
  · obtain ⟨ad, e1, e2, e3⟩ := h3 (by simpa [vF] using hh)
    refine ⟨ad, e1, e2, fun j u hu => ?_⟩
    have hj : j < n := by
      rcases Nat.lt_or_ge j n with hj | hj
      · exact hj
      · rw [List.getElem?_eq_none (by simpa [vF] using hj)] at hu; cases hu
    obtain ⟨d, hd, _⟩ := hV j hj
    rw [e3 j hj, hd]
    unfold vF at hu
    simp [hj, hd] at hu
    rw [hu]
  · intro d hd
    simp only [List.mem_map, List.mem_range] at hd
    obtain ⟨i, hi, rfl⟩ := hd
    obtain ⟨d, hd, hw⟩ := hV i hi
    rw [hd]
    simp [Lit.wf] at hw
    simp
    exact hw
end
theorem cells25 : Tryz.prog.cellsOf 25 = 4 := by kernel_rfl
theorem cells3 : Tryz.prog.cellsOf 3 = 1 := by kernel_rfl
theorem cells42 : Tryz.prog.cellsOf 42 = 1 := by kernel_rfl
set_option maxRecDepth 100000 in
theorem crv_open {H : Type} {enc : TypeId × Value → H} {W : World} {base b0 : Nat} {spare : Nat → Bool} {held : Bool} {r : Reach} {v : Value} {d : DataW H} {p : List MemPlace} (hv : Value.okWide Tryz.prog W r b0 25 v) (h : DataW.Trod enc Tryz.prog W base spare held 25 v d p) :
    ∃ (b kind : Int) (A : Option Addr) (n c : Nat) (A' : Option Addr) (m c' : Nat) (l : List Int) (fl : List Nat), v = crvV b kind A n c A' m c' ∧ n ≤ c ∧ c ≤ maxLen ∧ m ≤ c' ∧ c' ≤ maxLen ∧ CrvIn W b kind A n A' m l fl W.heap.size := by
  obtain ⟨v0, v1, v2, v3, y0, y1, y2, y3, n, rfl, _, _, h0, h1, h2, h3⟩ := Joins.open_agg4 Tryz.underlying25 (by kernel_rfl) cells25 hv h
  obtain ⟨b, e0, _, w0⟩ := DataW.trod_int Tryz.underlying3 h0
  obtain ⟨k, e1, _, w1⟩ := DataW.trod_int Tryz.underlying3 h1
  obtain ⟨A, n1, c, l, rfl, a1, a2, a3, a4, a5⟩ := open_vI Tryz.underlying22 Tryz.underlying3 cells3 h2
  obtain ⟨A', n2, c', fl, rfl, b1, b2, b3, b4, b5⟩ := open_vF Tryz.underlying23 Tryz.underlying42 cells42 h3
  simp at e0 e1
  subst e0 e1
  have hm := maxLen_lt
  exact ⟨b, k, A, n1, c, A', n2, c', l, fl, rfl, a1, a2, b1, b2, ⟨wf_i64 w0, wf_i64 w1, a3, b3, Nat.lt_of_le_of_lt (Nat.le_trans a1 a2) hm, Nat.lt_of_le_of_lt (Nat.le_trans b1 b2) hm, a5, b5, a4, b4, Nat.le_refl _⟩⟩
end Go.Proofs.YtefaedjjecfabaaGreat.Ten
