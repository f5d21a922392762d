/- Parts of the proof of CurveChecks: contracts of the functions that it reaches, and the plain laws under them (Am Fa Rt Yr Fl Fw Aw Lc). Conditions: those that each theorem names. -/
import Derived.Deep.RegionHeld3
import Derived.IntWalk
import Derived.Test.YtefaedjjecfabaaGreatWSe
import Derived.Test.YtefaedjjecfabaaGreatWPi
namespace Go.Proofs.YtefaedjjecfabaaGreat.Ten
open Go Go.RowKit
attribute [local go_sem] ext113 ext252 run_fneg ord_lt ord_gt ord_eq ord_ne ltoreq gtoreq
attribute [local irreducible] flt fle feq
attribute [local go_sem ↓] Go.wp_at_zero Go.wp_at_succ
def wayF (kind : Int) : Nat := if kind = 1 then 213 else if kind = 2 then 214 else if kind = 3 then 215 else 216
def WayOk (w : World) (kind : Int) (gx gy n c c' : Nat) (X : List Int) (x : Int) (P : Nat → Nat → Prop) : Prop :=
  ∀ W, Below w.heap.size w W → ∀ (k : Nat) (u v : Int), X[k]? = some u → X[k+1]? = some v → u < x → x < v → Calls Tryz.prog (wayF kind) #[tabV kind (some ⟨gx, 0, none⟩) n c (some ⟨gy, 0, none⟩) n c', .int .i64 (k : Int), .int .i64 (x - u), .int .i64 (v - u)] W fun e w' => (∃ r, e = .returned (.float .f64 r) ∧ P k r) ∧ Below W.heap.size W w'
def AtPost (w : World) (X : List Int) (Y : List Nat) (x : Int) (P : Nat → Nat → Prop) (e : Ending) (w' : World) : Prop :=
  (outT X x → e = .returned (.tuple #[.float .f64 0, .int .i64 51])) ∧
  (¬ outT X x → ∃ r, e = .returned (.tuple #[.float .f64 r, .int .i64 0]) ∧ (X[upTo X x - 1]? = some x → Y[upTo X x - 1]? = some r) ∧ (X[upTo X x - 1]? ≠ some x → P (upTo X x - 1) r)) ∧ Below w.heap.size w w'
theorem AtPost.out {w w' : World} {X : List Int} {Y : List Nat} {x : Int} {P : Nat → Nat → Prop} (ho : outT X x) (hb : Below w.heap.size w w') : AtPost w X Y x P (.returned (.tuple #[.float .f64 0, .int .i64 51])) w' := ⟨fun _ => rfl, fun h => absurd ho h, hb⟩
theorem AtPost.in_ {w w' : World} {X : List Int} {Y : List Nat} {x : Int} {P : Nat → Nat → Prop} {r : Nat} (ho : ¬ outT X x) (h1 : X[upTo X x - 1]? = some x → Y[upTo X x - 1]? = some r) (h2 : X[upTo X x - 1]? ≠ some x → P (upTo X x - 1) r) (hb : Below w.heap.size w w') : AtPost w X Y x P (.returned (.tuple #[.float .f64 r, .int .i64 0])) w' := ⟨fun h => absurd h ho, fun _ => ⟨r, rfl, h1, h2⟩, hb⟩
set_option maxRecDepth 100000 in
set_option maxHeartbeats 4000000 in
theorem iat_any {kind : Int} {gx gy n : Nat} (c c' : Nat) {X : List Int} {Y : List Nat} (x : Int) (P : Nat → Nat → Prop) (w : World) (hx0 : -9223372036854775808 ≤ x) (hx1 : x < 9223372036854775807) (h : TabIn w kind gx gy n X Y) (hw : WayOk w kind gx gy n c c' X x P) :
    Calls Tryz.prog 114 #[tabV kind (some ⟨gx, 0, none⟩) n c (some ⟨gy, 0, none⟩) n c', .int .i64 x] w (AtPost w X Y x P) := by
  have H := Lib.hid h
  have HW := Lib.hid hw
  have CF := Lib.hid (fun W (hW : Below w.heap.size w W) => Find_any c c' x W (H.out.below hW))
  clear h hw
  unfold tabV at *
  go_enter Tryz.func114, Tryz.ntmps114
  go_wp2_with fail
  refine (CF.out _ (hb2b w _)).mono ?_
  rintro e w' ⟨h1, h2, hbe⟩
  have hB := (Blk.new w 157 #[.int .i64 kind, .slice (some ⟨gx, 0, none⟩) n c, .slice (some ⟨gy, 0, none⟩) n c']).below hbe (by simp)
  have b0 : w'.cell? ⟨w.heap.size, 0, none⟩ = some (.int .i64 kind) := hB.cell 0
  have b1 : w'.cell? ⟨w.heap.size, 1, none⟩ = some (.slice (some ⟨gx, 0, none⟩) n c) := hB.cell 1
  have b2 : w'.cell? ⟨w.heap.size, 2, none⟩ = some (.slice (some ⟨gy, 0, none⟩) n c') := hB.cell 2
  have HB := Lib.hid (below_box hbe)
  clear hbe hB CF
  by_cases ho : outT X x
  · obtain rfl := h1 ho
    clear h1 h2
    go_wp2
    go_ret2
    exact .out ho HB.out
  · obtain rfl := h2 ho
    clear h1 h2
    have H1 := H.out.below HB.out
    obtain ⟨f1, f2, f3, f4⟩ := tab_facts kind (-1) X Y (by rw [H1.hl, H1.hf]) H1.hok
    obtain ⟨hn1, hn2⟩ := H1.hn
    obtain ⟨a, ha⟩ : ∃ a, X[0]? = some a := ⟨_, List.getElem?_eq_getElem (by have := H1.hl; omega)⟩
    obtain ⟨b, hb⟩ : ∃ b, X[n-1]? = some b := ⟨_, List.getElem?_eq_getElem (by have := H1.hl; omega)⟩
    have hxa : a ≤ x := by
      rcases Int.lt_or_le x a with hh | hh
      · exact absurd (.inl ⟨a, ha, hh⟩) ho
      · exact hh
    have hxb : x ≤ b := by
      rcases Int.lt_or_le b x with hh | hh
      · exact absurd (.inr ⟨b, by rw [H1.hl]; exact hb, hh⟩) ho
      · exact hh
    obtain ⟨u1, u2, d, hd, hdx, hne⟩ := upTo_at X x a b n H1.hl hn1 f2 ha hb hxa hxb
    obtain ⟨fd, hfd⟩ : ∃ f, Y[upTo X x - 1]? = some f := ⟨_, List.getElem?_eq_getElem (by have := H1.hf; omega)⟩
    have cx := H1.cx _ d hd
    have cy := H1.cy _ fd hfd
    have hd1 := (f1 _ d hd)
    have lx := H1.gx_lt
    have HF1 := Lib.hid f1
    have ek : ((upTo X x : Int) - 1) = ((upTo X x - 1 : Nat) : Int) := by omega
    rw [ek]
    have HD := Lib.hid hd
    have HFD := Lib.hid hfd
    have HNE := Lib.hid hne
    have hklt : upTo X x - 1 < n := by omega
    clear f1 f2 f3 f4 ha hb hxa hxb hd hfd hne ek H1
    generalize hk : upTo X x - 1 = k at *
    have HK := Lib.hid hk
    have hu : upTo X x = k + 1 := by omega
    have HU := Lib.hid hu
    clear hu hk u1 u2
    have e0 : (k : Int).toNat = k := Int.toNat_natCast k
    by_cases hdxe : d = x
    · subst hdxe
      go_wp2
      go_ret2
      refine .in_ ho (fun _ => ?_) (fun hh => ?_) HB.out
      · rw [HK.out]; exact HFD.out
      · rw [HK.out] at hh; exact absurd HD.out hh
    · obtain ⟨hlt, v, hv, hxv⟩ := HNE.out hdxe
      rw [HU.out] at hlt hv
      have cv := (H.out.below HB.out).cx _ v hv
      have hv1 := HF1.out _ v hv
      have hde : (d == x) = false := by rw [beq_eq_false_iff_ne]; exact hdxe
      have hdlt : d < x := by omega
      have e1 : ((k : Int) + 1).toNat = k + 1 := by omega
      have HWK := Lib.hid (fun W (hW : Below w.heap.size w W) => HW.out W hW k d v HD.out hv hdlt hxv)
      obtain ⟨hk1, hk2⟩ := H.out.hk
      have hnd : X[upTo X x - 1]? ≠ some x := by rw [HK.out, HD.out]; intro hh; exact hdxe (Option.some.inj hh)
      have HND := Lib.hid hnd
      clear hnd HNE HF1 HW hv
      have hcase : kind = 1 ∨ kind = 2 ∨ kind = 3 ∨ kind = 4 := by omega
      clear hk1 hk2
      have ki0 : (0 : Int) ≤ (k : Int) := by omega
      have ki1 : (k : Int) < (n : Int) := by omega
      have ki2 : (0 : Int) ≤ (k : Int) + 1 := by omega
      have ki3 : (k : Int) + 1 < (n : Int) := by omega
      have ki4 : IntKind.i64.wrap ((k : Int) + 1) = (k : Int) + 1 := IntWalk.i64_in _ (by omega)
      have ki5 : IntKind.i64.wrap (x - d) = x - d := IntWalk.i64_in _ (by omega)
      have ki6 : IntKind.i64.wrap (v - d) = v - d := IntWalk.i64_in _ (by omega)
      have hl0 : w.heap.size < w'.heap.size := World.block_lt_of_cell? w' ⟨w.heap.size, 0, none⟩ b0
      have HBW : Hid (∀ (W W2 : World), Below W.heap.size W W2 → w'.heap.size ≤ W.heap.size → (∀ a : Addr, a.block < W.heap.size → W2.cell? a = W.cell? a)) := fun W W2 h _ a ha => h.cell ha
      rcases hcase with rfl | rfl | rfl | rfl
      · have ew : wayF 1 = 213 := rfl
        simp only [ew] at HWK
        go_wp2
        go_region_held3 (fun W => w'.heap.size ≤ W.heap.size ∧ W.cell? ⟨w.heap.size, 0, none⟩ = some (.int .i64 1) ∧ W.cell? ⟨w.heap.size, 1, none⟩ = some (.slice (some ⟨gx, 0, none⟩) n c) ∧ W.cell? ⟨w.heap.size, 2, none⟩ = some (.slice (some ⟨gy, 0, none⟩) n c') ∧ W.cell? ⟨gx, k, none⟩ = some (.int .i64 d) ∧ W.cell? ⟨gx, k + 1, none⟩ = some (.int .i64 v))
          (first | (go_keep; done) | (go_split_ands; refine ⟨?_, ?_, ?_, ?_, ?_, ?_⟩ <;> first | omega | ((refine (hbe2.cell ?_).trans ?_ <;> first | assumption | (simp; omega)))))
          (first | (go_at_call 213; refine (HWK.out _ ?_).mono ?_; first | exact HB.out | exact HB.out.drew; rintro e w2 ⟨⟨r, rfl, hr⟩, hbe2⟩; have hsz2 := hbe2.size))
        all_goals go_wp2
        all_goals go_ret2
        all_goals exact .in_ ho (fun hh => absurd hh HND.out) (fun _ => by rw [HK.out]; exact hr) (by first | exact HB.out.trans (hbe2.mono HB.out.size) | exact HB.out.drew.trans (hbe2.mono HB.out.size))
      · have ew : wayF 2 = 214 := rfl
        simp only [ew] at HWK
        go_wp2
        go_region_held3 (fun W => w'.heap.size ≤ W.heap.size ∧ W.cell? ⟨w.heap.size, 0, none⟩ = some (.int .i64 2) ∧ W.cell? ⟨w.heap.size, 1, none⟩ = some (.slice (some ⟨gx, 0, none⟩) n c) ∧ W.cell? ⟨w.heap.size, 2, none⟩ = some (.slice (some ⟨gy, 0, none⟩) n c') ∧ W.cell? ⟨gx, k, none⟩ = some (.int .i64 d) ∧ W.cell? ⟨gx, k + 1, none⟩ = some (.int .i64 v))
          (first | (go_keep; done) | (go_split_ands; refine ⟨?_, ?_, ?_, ?_, ?_, ?_⟩ <;> first | omega | ((refine (hbe2.cell ?_).trans ?_ <;> first | assumption | (simp; omega)))))
          (first | (go_at_call 214; refine (HWK.out _ ?_).mono ?_; first | exact HB.out | exact HB.out.drew; rintro e w2 ⟨⟨r, rfl, hr⟩, hbe2⟩; have hsz2 := hbe2.size))
        all_goals go_wp2
        all_goals go_ret2
        all_goals exact .in_ ho (fun hh => absurd hh HND.out) (fun _ => by rw [HK.out]; exact hr) (by first | exact HB.out.trans (hbe2.mono HB.out.size) | exact HB.out.drew.trans (hbe2.mono HB.out.size))
      · have ew : wayF 3 = 215 := rfl
        simp only [ew] at HWK
        go_wp2
        go_region_held3 (fun W => w'.heap.size ≤ W.heap.size ∧ W.cell? ⟨w.heap.size, 0, none⟩ = some (.int .i64 3) ∧ W.cell? ⟨w.heap.size, 1, none⟩ = some (.slice (some ⟨gx, 0, none⟩) n c) ∧ W.cell? ⟨w.heap.size, 2, none⟩ = some (.slice (some ⟨gy, 0, none⟩) n c') ∧ W.cell? ⟨gx, k, none⟩ = some (.int .i64 d) ∧ W.cell? ⟨gx, k + 1, none⟩ = some (.int .i64 v))
          (first | (go_keep; done) | (go_split_ands; refine ⟨?_, ?_, ?_, ?_, ?_, ?_⟩ <;> first | omega | ((refine (hbe2.cell ?_).trans ?_ <;> first | assumption | (simp; omega)))))
          (first | (go_at_call 215; refine (HWK.out _ ?_).mono ?_; first | exact HB.out | exact HB.out.drew; rintro e w2 ⟨⟨r, rfl, hr⟩, hbe2⟩; have hsz2 := hbe2.size))
        all_goals go_wp2
        all_goals go_ret2
        all_goals exact .in_ ho (fun hh => absurd hh HND.out) (fun _ => by rw [HK.out]; exact hr) (by first | exact HB.out.trans (hbe2.mono HB.out.size) | exact HB.out.drew.trans (hbe2.mono HB.out.size))
      · have ew : wayF 4 = 216 := rfl
        simp only [ew] at HWK
        go_wp2
        go_region_held3 (fun W => w'.heap.size ≤ W.heap.size ∧ W.cell? ⟨w.heap.size, 0, none⟩ = some (.int .i64 4) ∧ W.cell? ⟨w.heap.size, 1, none⟩ = some (.slice (some ⟨gx, 0, none⟩) n c) ∧ W.cell? ⟨w.heap.size, 2, none⟩ = some (.slice (some ⟨gy, 0, none⟩) n c') ∧ W.cell? ⟨gx, k, none⟩ = some (.int .i64 d) ∧ W.cell? ⟨gx, k + 1, none⟩ = some (.int .i64 v))
          (first | (go_keep; done) | (go_split_ands; refine ⟨?_, ?_, ?_, ?_, ?_, ?_⟩ <;> first | omega | ((refine (hbe2.cell ?_).trans ?_ <;> first | assumption | (simp; omega)))))
          (first | (go_at_call 216; refine (HWK.out _ ?_).mono ?_; first | exact HB.out | exact HB.out.drew; rintro e w2 ⟨⟨r, rfl, hr⟩, hbe2⟩; have hsz2 := hbe2.size))
        all_goals go_wp2
        all_goals go_ret2
        all_goals exact .in_ ho (fun hh => absurd hh HND.out) (fun _ => by rw [HK.out]; exact hr) (by first | exact HB.out.trans (hbe2.mono HB.out.size) | exact HB.out.drew.trans (hbe2.mono HB.out.size))
end Go.Proofs.YtefaedjjecfabaaGreat.Ten

namespace Go.Proofs.YtefaedjjecfabaaGreat.Ten
open Go Go.RowKit
attribute [local go_sem] ext113 ext252 run_fneg ord_lt ord_gt ord_eq ord_ne ltoreq gtoreq
attribute [local irreducible] flt fle feq
theorem nodes_tab (kind : Int) (hk : kind = 4 → True) : ∀ (z : Int) (l : List Int) (fl : List Nat), nodesOk z l fl = true → tabOk kind z l fl = true
  | _, [], _, _ => by unfold tabOk; rfl
  | _, _ :: _, [], _ => by unfold tabOk; rfl
  | z, d :: l, f :: fl, h => by
    rw [nodesOk, Bool.and_eq_true] at h
    rw [tabOk, Bool.and_eq_true]
    refine ⟨?_, nodes_tab kind hk d l fl h.2⟩
    have h1 := h.1
    unfold okNode at h1
    simp only [Bool.and_eq_true] at h1
    unfold tabNode
    rw [h1.1.1.1, h1.1.1.2, h1.1.2, h1.2]
    simp
theorem cls_one : cls 4607182418800017408 < 4 := (cls_fin _).2 (by decide)
theorem flt_one : flt 0 4607182418800017408 = true := by unfold flt; decide
theorem crv_tab {base kind : Int} {l : List Int} {fl : List Nat} (h : crvChk base kind l fl = 0) : 0 ≤ base ∧ base ≤ 109572 ∧ 1 ≤ kind ∧ kind ≤ 4 ∧ 1 ≤ l.length ∧ l.length ≤ 255 ∧ l.length = fl.length ∧ nodesOk base l fl = true ∧ tabOk kind (-1) (base :: l) (4607182418800017408 :: fl) = true := by
  unfold crvChk at h
  split at h
  · cases h
  · split at h
    · cases h
    · split at h
      · cases h
      · split at h
        · rename_i h1 h2 h3 h4
          refine ⟨by omega, by omega, by omega, by omega, by omega, by omega, by omega, h4, ?_⟩
          rw [tabOk, Bool.and_eq_true]
          refine ⟨?_, nodes_tab kind (fun _ => trivial) base l fl h4⟩
          unfold tabNode
          rw [flt_one, decide_eq_true cls_one, decide_eq_true (show (-1 : Int) < base by omega), decide_eq_true (show base ≤ 109572 by omega)]
          simp
        · cases h
theorem one_lt64 : (4607182418800017408 : Nat) < 18446744073709551616 := by decide
/-- The way of a kind at any table with the curve's nodes. -/
def WaysOk (w : World) (base kind : Int) (n : Nat) (l : List Int) (fl : List Nat) (x : Int) (P : Nat → Nat → Prop) : Prop :=
  ∀ W, Below w.heap.size w W → ∀ gx gy cx cy, TabIn W kind gx gy (n + 1) (base :: l) (4607182418800017408 :: fl) → n + 1 ≤ cy → cy ≤ maxLen → WayOk W kind gx gy (n + 1) cx cy (base :: l) x P
set_option maxRecDepth 100000 in
set_option maxHeartbeats 1000000 in
theorem factor_any {base kind : Int} {A A' : Option Addr} {n : Nat} (c c' : Nat) {l : List Int} {fl : List Nat} {B : Nat} (x : Int) (P : Nat → Nat → Prop) (w : World) (h : CrvIn w base kind A n A' n l fl B) (he : crvChk base kind l fl = 0) (hx0 : -9223372036854775808 ≤ x) (hx1 : x < 9223372036854775807)
    (hw : WaysOk w base kind n l fl x P) :
    Calls Tryz.prog 37 #[crvV base kind A n c A' n c', .int .i64 x] w (AtPost w (base :: l) (4607182418800017408 :: fl) x P) := by
  obtain ⟨k1, k2, k3, k4, k5, k6, k7, k8, k9⟩ := crv_tab he
  have hln := h.hl
  have CC := Lib.hid (fun o => crvcheck_any c c' (w.alloc o) (h.below (hb2b w o)))
  rw [he] at CC
  have CT := Lib.hid (fun W (hW : Below w.heap.size w W) => table_any c c' W (h.below hW) (by omega) (by omega))
  have CA := Lib.hid (fun (W : World) (hW : Below w.heap.size w W) gx gy cx cy (hT : TabIn W kind gx gy (n + 1) (base :: l) (4607182418800017408 :: fl)) (h1 : n + 1 ≤ cy) (h2 : cy ≤ maxLen) => iat_any cx cy x P W hx0 hx1 hT (hw W hW gx gy cx cy hT h1 h2))
  have HT := Lib.hid (fun (W : World) gx gy (h1 : Reads W W.heap.size 1 (some ⟨gx, 0, none⟩) (n + 1) (vI (base :: l))) (h2 : Reads W W.heap.size 1 (some ⟨gy, 0, none⟩) (n + 1) (vF (4607182418800017408 :: fl))) => (⟨⟨k3, k4⟩, by simp [h.hl], by simp [h.hf], by omega, k9, fun f hf => by
    rcases List.mem_cons.1 hf with rfl | hf
    · exact one_lt64
    · exact h.hfl f hf, h1, h2⟩ : TabIn W kind gx gy (n + 1) (base :: l) (4607182418800017408 :: fl)))
  clear hw h he k1 k2 k3 k4 k5 k6 k7 k8 k9 hln
  unfold crvV at *
  go_enter Tryz.func37, Tryz.ntmps37
  go_wp2_with fail
  refine (CC.out _).mono ?_
  rintro e w' ⟨rfl, hbe⟩
  have hB := (Blk.new w 25 #[.int .i64 base, .int .i64 kind, .slice A n c, .slice A' n c']).below hbe (by simp)
  have b0 : w'.cell? ⟨w.heap.size, 0, none⟩ = some (.int .i64 base) := hB.cell 0
  have b1 : w'.cell? ⟨w.heap.size, 1, none⟩ = some (.int .i64 kind) := hB.cell 1
  have b2 : w'.cell? ⟨w.heap.size, 2, none⟩ = some (.slice A n c) := hB.cell 2
  have b3 : w'.cell? ⟨w.heap.size, 3, none⟩ = some (.slice A' n c') := hB.cell 3
  have HB := Lib.hid (below_box hbe)
  clear hbe hB CC
  go_wp2_with fail
  refine (CT.out _ HB.out).mono ?_
  rintro e w2 ⟨gx, cx, gy, cy, rfl, r1, r2, r3, r4, hbe⟩
  have HB2 := Lib.hid (HB.out.trans (hbe.mono HB.out.size))
  have CA2 := Lib.hid (CA.out w2 HB2.out gx gy cx cy (HT.out w2 gx gy r1 r2) r3 r4)
  clear CA CT HT hbe r1 r2 r3 r4 b0 b1 b2 b3
  unfold tabV at *
  go_wp2_with fail
  refine CA2.out.mono ?_
  rintro e w3 ⟨h1, h2, hbe⟩
  have HB3 := Lib.hid (HB2.out.trans (hbe.mono HB2.out.size))
  clear hbe CA2
  by_cases ho : outT (base :: l) x
  · obtain rfl := h1 ho
    clear h1 h2
    go_wp2
    go_ret2
    exact .out ho HB3.out
  · obtain ⟨r, rfl, h3, h4⟩ := h2 ho
    have H3 := Lib.hid h3
    have H4 := Lib.hid h4
    clear h1 h2 h3 h4
    go_wp2
    go_ret2
    exact .in_ ho H3.out H4.out HB3.out
/-- What lies between two nodes, under the first two kinds. -/
def wayV (kind : Int) (X : List Int) (Y : List Nat) (x : Int) (k r : Nat) : Prop :=
  ∃ u v f f', X[k]? = some u ∧ X[k+1]? = some v ∧ Y[k]? = some f ∧ Y[k+1]? = some f' ∧ u < x ∧ x < v ∧ (kind = 1 → r = f) ∧ (kind = 2 → r = ovV (dotI [v - x, x - u] [f, f']) (v - u).toNat)
theorem ways_ok {base kind : Int} {A A' : Option Addr} {n : Nat} {l : List Int} {fl : List Nat} {B : Nat} (x : Int) (w : World) (h : CrvIn w base kind A n A' n l fl B) (hk : kind = 1 ∨ kind = 2) : WaysOk w base kind n l fl x (wayV kind (base :: l) (4607182418800017408 :: fl) x) := by
  intro W hW gx gy cx cy hT hc1 hc2 W2 hW2 k u v hu hv hux hxv
  have hT2 := hT.below hW2
  obtain ⟨a1, b1⟩ := List.getElem?_eq_some_iff.1 hv
  have hlen := hT.hl
  have hlen2 := hT.hf
  have hk1 : k + 1 < n + 1 := by omega
  obtain ⟨f, hf⟩ : ∃ f, (4607182418800017408 :: fl)[k]? = some f := ⟨_, List.getElem?_eq_getElem (by omega)⟩
  obtain ⟨f', hf'⟩ : ∃ f, (4607182418800017408 :: fl)[k+1]? = some f := ⟨_, List.getElem?_eq_getElem (by omega)⟩
  obtain ⟨g1, g2, g3, g4⟩ := tab_facts kind (-1) _ _ (by rw [hlen, hlen2]) hT.hok
  have q1 := g1 _ u hu
  have q2 := g1 _ v hv
  rcases hk with rfl | rfl
  · refine (flat_any cx cy k (x - u) (v - u) f W2 hT2 (by omega) hf).mono ?_
    rintro e w' ⟨rfl, hb⟩
    exact ⟨⟨f, rfl, u, v, f, f', hu, hv, hf, hf', hux, hxv, fun _ => rfl, fun hh => by omega⟩, hb⟩
  · refine (linear_any cx cy k (x - u) (v - u) f f' W2 hT2 hk1 hc1 (by unfold maxLen at hc2; omega) hf hf' (by omega) (by omega) (by omega) (by omega)).mono ?_
    rintro e w' ⟨rfl, hb⟩
    refine ⟨⟨_, rfl, u, v, f, f', hu, hv, hf, hf', hux, hxv, fun hh => by omega, fun _ => ?_⟩, hb⟩
    rw [show v - u - (x - u) = v - x by omega]
end Go.Proofs.YtefaedjjecfabaaGreat.Ten

namespace Go.Proofs.YtefaedjjecfabaaGreat.Ten
open Go Go.RowKit
attribute [local go_sem] ext113 ext252 run_fneg ord_lt ord_gt ord_eq ord_ne ltoreq gtoreq run_fadd run_fsub run_fmul run_fquo
attribute [local irreducible] flt fle feq vop nop
@[irreducible] def abv (b : Nat) : Bool := fin b && flt 0 b
set_option maxRecDepth 100000 in
set_option maxHeartbeats 400000 in
theorem rnumber_any (b : Nat) (w : World) (h : b < 18446744073709551616) : Calls Tryz.prog 225 #[.float .f64 b] w fun e w' => e = .returned (.bool (fin b)) ∧ w = w' := by
  have e : decide (cls b < 4) = fin b := by
    by_cases h : fin b = true
    · rw [h, decide_eq_true ((cls_fin b).2 h)]
    · rw [decide_eq_false (fun hh => h ((cls_fin b).1 hh))]
      simpa using h
  have E := Lib.hid e
  clear e
  go_enter Tryz.func225, Tryz.ntmps225
  go_wp2_with ((go_at_call 107; refine (class_any b _ h).mono ?_; rintro e w' ⟨rfl, rfl⟩))
  go_ret
  exact ⟨by rw [E.out]; rfl, rfl⟩
set_option maxRecDepth 100000 in
set_option maxHeartbeats 400000 in
theorem rabove_any (b : Nat) (w : World) (h : b < 18446744073709551616) : Calls Tryz.prog 224 #[.float .f64 b] w fun e w' => e = .returned (.bool (abv b)) ∧ w = w' := by
  have e : abv b = (fin b && flt 0 b) := by unfold abv; rfl
  have E := Lib.hid e
  clear e
  by_cases hf : fin b = true
  · have C := Lib.hid (fun W => hf ▸ rnumber_any b W h)
    go_enter Tryz.func224, Tryz.ntmps224
    go_wp2_with ((go_at_call 225; refine (C.out _).mono ?_; rintro e w' ⟨rfl, rfl⟩))
    go_ret
    exact ⟨by rw [E.out, hf]; simp, rfl⟩
  · have hf : fin b = false := by simpa using hf
    have C := Lib.hid (fun W => hf ▸ rnumber_any b W h)
    go_enter Tryz.func224, Tryz.ntmps224
    go_wp2_with ((go_at_call 225; refine (C.out _).mono ?_; rintro e w' ⟨rfl, rfl⟩))
    go_ret
    exact ⟨by rw [E.out, hf]; simp, rfl⟩
@[irreducible] def fwdR (x y t : Nat) : Nat := fdiv (fsub (fdiv x y) 4607182418800017408) t
/-- The rate between two factors, and what is wrong. -/
@[irreducible] def fwdV (x y t : Nat) : Nat × Int := if abv x = true ∧ abv y = true ∧ abv t = true ∧ fin (fwdR x y t) = true then (fwdR x y t, 0) else (0, 91)
theorem drew_below {w : World} (n : Nat) : Below w.heap.size w (w.drewN n) := below_drewN (Below.refl _ w) n
theorem fwd_cn (w w1 w2 : World) (x y t : Nat) : cn (vop .quo w2 (vop .sub w1 (vop .quo w x y) 4607182418800017408) t) = fwdR x y t := by
  rw [(vop_cn .quo (.inr (.inr (.inr rfl))) _ _ _).1]
  unfold fwdR
  show _ = fop .quo (fop .sub (fop .quo x y) _) t
  refine fop_congr .quo (.inr (.inr (.inr rfl))) ?_ rfl
  rw [(vop_cn .sub (.inr (.inl rfl)) _ _ _).1, cn_fop .sub (.inr (.inl rfl))]
  refine fop_congr .sub (.inr (.inl rfl)) ?_ rfl
  rw [(vop_cn .quo (.inr (.inr (.inr rfl))) _ _ _).1, cn_fop .quo (.inr (.inr (.inr rfl)))]
theorem fwd_fin (w w1 w2 : World) (x y t : Nat) (h : fin (fwdR x y t) = true) : vop .quo w2 (vop .sub w1 (vop .quo w x y) 4607182418800017408) t = fwdR x y t := by
  have e := fwd_cn w w1 w2 x y t
  rw [← e, fin_cn] at h
  rw [← e, cn_fin _ h]
set_option maxRecDepth 100000 in
set_option maxHeartbeats 1000000 in
theorem rforward_any (x y t : Nat) (w : World) (hx : x < 18446744073709551616) (hy : y < 18446744073709551616) (ht : t < 18446744073709551616) :
    Calls Tryz.prog 120 #[.float .f64 x, .float .f64 y, .float .f64 t] w fun e w' => e = .returned (.tuple #[.float .f64 (fwdV x y t).1, .int .i64 (fwdV x y t).2]) ∧ Below w.heap.size w w' := by
  have CX := Lib.hid (fun W => rabove_any x W hx)
  have CY := Lib.hid (fun W => rabove_any y W hy)
  have CT := Lib.hid (fun W => rabove_any t W ht)
  have CN := Lib.hid (fun w w1 w2 W => rnumber_any (vop .quo w2 (vop .sub w1 (vop .quo w x y) 4607182418800017408) t) W (vop_cn .quo (.inr (.inr (.inr rfl))) _ _ _).2)
  have CE := Lib.hid (fun w w1 w2 => (show fin (vop .quo w2 (vop .sub w1 (vop .quo w x y) 4607182418800017408) t) = fin (fwdR x y t) by rw [← fin_cn, fwd_cn]))
  have HW := Lib.hid (fun n => drew_below (w := w) n)
  have CNE : Hid (∀ (w w1 w2 W : World), Calls Tryz.prog 225 #[.float .f64 (vop .quo w2 (vop .sub w1 (vop .quo w x y) 4607182418800017408) t)] W fun e w' => e = .returned (.bool (fin (fwdR x y t))) ∧ W = w') := fun w w1 w2 W => (CE.out w w1 w2) ▸ CN.out w w1 w2 W
  clear CN CE hx hy ht
  by_cases hall : abv x = true ∧ abv y = true ∧ abv t = true ∧ fin (fwdR x y t) = true
  · have hres : fwdV x y t = (fwdR x y t, 0) := by unfold fwdV; rw [if_pos hall]
    rw [hres]
    obtain ⟨h1, h2, h3, h4⟩ := hall
    rw [h1] at CX
    rw [h2] at CY
    rw [h3] at CT
    rw [h4] at CNE
    have HF := Lib.hid (fun w w1 w2 => fwd_fin w w1 w2 x y t h4)
    clear h1 h2 h3 h4 hres
    go_enter Tryz.func120, Tryz.ntmps120
    go_wp2_with (first | (go_at_call_of 224 (Value.float FloatKind.f64 x); refine (CX.out _).mono ?_; rintro e w' ⟨rfl, rfl⟩) | (go_at_call_of 224 (Value.float FloatKind.f64 y); refine (CY.out _).mono ?_; rintro e w' ⟨rfl, rfl⟩) | (go_at_call_of 224 (Value.float FloatKind.f64 t); refine (CT.out _).mono ?_; rintro e w' ⟨rfl, rfl⟩) | (go_at_call 225; refine (CNE.out _ _ _ _).mono ?_; rintro e w' ⟨rfl, rfl⟩))
    go_ret2
    exact ⟨by rw [HF.out]; rfl, HW.out _⟩
  · have hres : fwdV x y t = (0, 91) := by unfold fwdV; rw [if_neg hall]
    rw [hres]
    have hall := Lib.hid hall
    clear hres
    go_enter Tryz.func120, Tryz.ntmps120
    generalize h1 : abv x = b1 at *
    generalize h2 : abv y = b2 at *
    generalize h3 : abv t = b3 at *
    generalize h4 : fin (fwdR x y t) = b4 at *
    clear h1 h2 h3 h4
    have hall2 : ¬ (b1 = true ∧ b2 = true ∧ b3 = true ∧ b4 = true) := hall.out
    have hall2 := Lib.hid hall2
    cases b1
    · go_wp2_with (first | (go_at_call_of 224 (Value.float FloatKind.f64 x); refine (CX.out _).mono ?_; rintro e w' ⟨rfl, rfl⟩))
      go_ret2
      exact ⟨rfl, HW.out 0⟩
    · cases b2
      · go_wp2_with (first | (go_at_call_of 224 (Value.float FloatKind.f64 x); refine (CX.out _).mono ?_; rintro e w' ⟨rfl, rfl⟩) | (go_at_call_of 224 (Value.float FloatKind.f64 y); refine (CY.out _).mono ?_; rintro e w' ⟨rfl, rfl⟩))
        go_ret2
        exact ⟨rfl, HW.out 0⟩
      · cases b3
        · go_wp2_with (first | (go_at_call_of 224 (Value.float FloatKind.f64 x); refine (CX.out _).mono ?_; rintro e w' ⟨rfl, rfl⟩) | (go_at_call_of 224 (Value.float FloatKind.f64 y); refine (CY.out _).mono ?_; rintro e w' ⟨rfl, rfl⟩) | (go_at_call_of 224 (Value.float FloatKind.f64 t); refine (CT.out _).mono ?_; rintro e w' ⟨rfl, rfl⟩))
          go_ret2
          exact ⟨rfl, HW.out 0⟩
        · cases b4
          · go_wp2_with (first | (go_at_call_of 224 (Value.float FloatKind.f64 x); refine (CX.out _).mono ?_; rintro e w' ⟨rfl, rfl⟩) | (go_at_call_of 224 (Value.float FloatKind.f64 y); refine (CY.out _).mono ?_; rintro e w' ⟨rfl, rfl⟩) | (go_at_call_of 224 (Value.float FloatKind.f64 t); refine (CT.out _).mono ?_; rintro e w' ⟨rfl, rfl⟩) | (go_at_call 225; refine (CNE.out _ _ _ _).mono ?_; rintro e w' ⟨rfl, rfl⟩))
            go_ret2
            exact ⟨rfl, HW.out _⟩
          · exact absurd ⟨rfl, rfl, rfl, rfl⟩ hall2.out
end Go.Proofs.YtefaedjjecfabaaGreat.Ten

namespace Go.Proofs.YtefaedjjecfabaaGreat.Ten
open Go Go.RowKit
attribute [local go_sem] ext113 ext252 run_fneg ord_lt ord_gt ord_eq ord_ne ltoreq gtoreq run_fadd run_fsub run_fmul run_fquo
attribute [local irreducible] flt fle feq vop nop
theorem ofi (x : Int) : floatOfInt .f64 x = fofi x := nearest_int x
set_option maxRecDepth 100000 in
set_option maxHeartbeats 400000 in
theorem cis_in (n : Int) (w : World) (h0 : 0 ≤ n) (h1 : n ≤ 109572) : Calls Tryz.prog 308 #[.int .i64 n] w fun e w' => e = .returned (.bool true) ∧ w = w' := by
  go_enter Tryz.func308, Tryz.ntmps308
  go_wp2
  go_ret
  exact ⟨rfl, rfl⟩
set_option maxRecDepth 100000 in
set_option maxHeartbeats 400000 in
theorem cis_out (n : Int) (w : World) (h0 : n < 0 ∨ 109572 < n) : Calls Tryz.prog 308 #[.int .i64 n] w fun e w' => e = .returned (.bool false) ∧ w = w' := by
  rcases h0 with h0 | h0
  · go_enter Tryz.func308, Tryz.ntmps308
    go_wp2
    go_ret
    exact ⟨rfl, rfl⟩
  · have h1 : 0 ≤ n := by omega
    have h2 : decide (n ≤ 109572) = false := by simp; omega
    go_enter Tryz.func308, Tryz.ntmps308
    go_wp2
    go_ret
    exact ⟨rfl, rfl⟩
set_option maxRecDepth 100000 in
set_option maxHeartbeats 1000000 in
theorem fraction_act (k : Int) (wk : Int) (R : Option Addr) (rn rc : Nat) (a b : Int) (w : World) (hk : k = 1 ∨ k = 2) (ha : 0 ≤ a) (hab : a ≤ b) (hb : b ≤ 109572) :
    Calls Tryz.prog 223 #[.int .i64 k, .agg #[.int .i64 wk, .slice R rn rc], .int .i64 a, .int .i64 b] w fun e w' => e = .returned (.tuple #[.int .i64 (b - a), .int .i64 (if k = 1 then 360 else 365), .int .i64 0]) ∧ Below w.heap.size w w' := by
  have C1 := Lib.hid (fun W => cis_in a W ha (by omega))
  have C2 := Lib.hid (fun W => cis_in b W (by omega) hb)
  rcases hk with rfl | rfl
  · go_enter Tryz.func223, Tryz.ntmps223
    go_wp2_with (first | (go_at_call_of 308 (Value.int IntKind.i64 a); refine (C1.out _).mono ?_; rintro e w' ⟨rfl, rfl⟩) | (go_at_call_of 308 (Value.int IntKind.i64 b); refine (C2.out _).mono ?_; rintro e w' ⟨rfl, rfl⟩))
    go_ret3
    exact ⟨rfl, hb2b w _⟩
  · go_enter Tryz.func223, Tryz.ntmps223
    go_wp2_with (first | (go_at_call_of 308 (Value.int IntKind.i64 a); refine (C1.out _).mono ?_; rintro e w' ⟨rfl, rfl⟩) | (go_at_call_of 308 (Value.int IntKind.i64 b); refine (C2.out _).mono ?_; rintro e w' ⟨rfl, rfl⟩))
    go_ret3
    exact ⟨rfl, hb2b w _⟩
theorem fdiv_rw (x y : Nat) (hx : fin x = true) (hy : fin y = true) (h0 : rung y ≠ 0) : fdiv x y = rw' (sgn x ^^ sgn y) (uu x * 2 ^ 1074) (uu y) := by
  unfold fdiv
  rw [fdiv_fin x y hx hy h0]; rfl
theorem vop_div_fin (w : World) (x y : Nat) (hx : fin x = true) (hy : fin y = true) (h0 : rung y ≠ 0) : vop .quo w x y = fdiv x y ∧ nop .quo x y = 0 :=
  vop_of .quo (.inr (.inr (.inr rfl))) w x y (by show isN (fdiv x y) = false; rw [fdiv_rw x y hx hy h0]; exact rw_not_nan _ _ _)
theorem fofi360 : fofi 360 = 4645040803167600640 := by decide +kernel
theorem fofi365 : fofi 365 = 4645128764097822720 := by decide +kernel
/-- A year by a fixed number of days. -/
@[irreducible] def yearV (k : Int) (d : Int) : Nat := fdiv (fofi d) (if k = 1 then 4645040803167600640 else 4645128764097822720)
theorem yearV_lt (k d : Int) : yearV k d < 18446744073709551616 := by unfold yearV; exact fop_lt .quo (.inr (.inr (.inr rfl))) _ _
set_option maxRecDepth 100000 in
set_option maxHeartbeats 1000000 in
theorem year_act (k : Int) (wk : Int) (R : Option Addr) (rn rc : Nat) (a b : Int) (w : World) (hk : k = 1 ∨ k = 2) (ha : 0 ≤ a) (hab : a ≤ b) (hb : b ≤ 109572) :
    Calls Tryz.prog 119 #[.int .i64 k, .agg #[.int .i64 wk, .slice R rn rc], .int .i64 a, .int .i64 b] w fun e w' => e = .returned (.tuple #[.float .f64 (yearV k (b - a)), .int .i64 0]) ∧ Below w.heap.size w w' := by
  have CF := Lib.hid (fun W => fraction_act k wk R rn rc a b W hk ha hab hb)
  have hd := fofi_fin (b - a) (by omega)
  have h1 := Lib.hid (fun W => (vop_div_fin W (fofi (b - a)) 4645040803167600640 hd.2 (by decide) (by decide)))
  have h2 := Lib.hid (fun W => (vop_div_fin W (fofi (b - a)) 4645128764097822720 hd.2 (by decide) (by decide)))
  have e1 := ofi 360
  have e2 := ofi 365
  rw [fofi360] at e1
  rw [fofi365] at e2
  have e3 := ofi (b - a)
  clear hd
  rcases hk with rfl | rfl
  · have hy : Hid (yearV 1 (b - a) = fdiv (fofi (b - a)) 4645040803167600640) := by unfold yearV; rfl
    generalize yearV 1 (b - a) = Y at *
    go_enter Tryz.func119, Tryz.ntmps119
    go_wp2_with fail
    refine (CF.out _).mono ?_
    rintro e w' ⟨rfl, hbe⟩
    have HB := Lib.hid (below_box hbe)
    clear hbe
    go_wp2
    go_ret2
    refine ⟨?_, ?_⟩
    · rw [hy.out, ← (h1.out _).1]; rfl
    · exact below_drewN HB.out _
  · have hy : Hid (yearV 2 (b - a) = fdiv (fofi (b - a)) 4645128764097822720) := by unfold yearV; rfl
    generalize yearV 2 (b - a) = Y at *
    go_enter Tryz.func119, Tryz.ntmps119
    go_wp2_with fail
    refine (CF.out _).mono ?_
    rintro e w' ⟨rfl, hbe⟩
    have HB := Lib.hid (below_box hbe)
    clear hbe
    go_wp2
    go_ret2
    refine ⟨?_, ?_⟩
    · rw [hy.out, ← (h2.out _).1]; rfl
    · exact below_drewN HB.out _
end Go.Proofs.YtefaedjjecfabaaGreat.Ten

namespace Go.Proofs.YtefaedjjecfabaaGreat.Ten
open Go Go.RowKit
attribute [local go_sem] ext113 ext252 run_fneg ord_lt ord_gt ord_eq ord_ne ltoreq gtoreq
attribute [local irreducible] flt fle feq
/-- Does no factor rise? -/
def fallsB : Nat → List Nat → Bool
  | last, f :: fl => !flt last f && fallsB f fl
  | _, [] => true
def FallsRel (fl : List Nat) (last iv : Value) : Prop := ∃ (i : Nat) (z : Nat), last = .float .f64 z ∧ iv = .int .i64 (i : Int) ∧ i ≤ fl.length ∧ fallsB 4607182418800017408 fl = fallsB z (fl.drop i)
theorem falls_step {fl : List Nat} {i f : Nat} (hf : fl[i]? = some f) (z : Nat) : fallsB z (fl.drop i) = (!flt z f && fallsB f (fl.drop (i + 1))) := by
  obtain ⟨h2, e⟩ := List.getElem?_eq_some_iff.1 hf
  rw [List.drop_eq_getElem_cons h2, fallsB, e]
set_option maxRecDepth 100000 in
set_option maxHeartbeats 1000000 in
theorem falls_ok {base kind : Int} {A A' : Option Addr} {n : Nat} (c c' : Nat) {l : List Int} {fl : List Nat} {B : Nat} (w : World) (h : CrvIn w base kind A n A' n l fl B) (he : crvChk base kind l fl = 0) :
    Calls Tryz.prog 30 #[crvV base kind A n c A' n c'] w fun e w' => e = .returned (.tuple #[.bool (fallsB 4607182418800017408 fl), .int .i64 0]) ∧ Below w.heap.size w w' := by
  obtain ⟨k1, k2, k3, k4, k5, k6, k7, k8, k9⟩ := crv_tab he
  have hln := h.hl
  have hfn := h.hf
  obtain ⟨ad', hA', hab', _⟩ := h.hS.2 (by omega)
  subst hA'
  have CC := Lib.hid (fun o => crvcheck_any c c' (w.alloc o) (h.below (hb2b w o)))
  rw [he] at CC
  have HS := Lib.hid (fun W (hW : Below w.heap.size w W) => (h.below hW).hS)
  have HFL : Hid (fl.length = n) := hfn
  have hn255 : n ≤ 255 := by omega
  obtain ⟨r, hr⟩ : ∃ r, fallsB 4607182418800017408 fl = r := ⟨_, rfl⟩
  rw [hr]
  have HRR := Lib.hid hr
  clear h he k1 k2 k3 k4 k5 k6 k7 k8 k9 hln hfn hr
  unfold crvV at *
  go_enter Tryz.func30, Tryz.ntmps30
  go_wp2_with fail
  refine (CC.out _).mono ?_
  rintro e w' ⟨rfl, hbe⟩
  have hB := (Blk.new w 25 #[.int .i64 base, .int .i64 kind, .slice A n c, .slice (some ad') n c']).below hbe (by simp)
  have b3 : w'.cell? ⟨w.heap.size, 3, none⟩ = some (.slice (some ad') n c') := hB.cell 3
  have HB := Lib.hid (below_box hbe)
  have HS1 := Lib.hid (HS.out w' HB.out)
  clear hbe hB CC HS
  go_wp2
  go_loop [5, 16] (fun z i => FallsRel fl z i) (fun _ i => n - (intOf i).toNat)
  case atStart => exact ⟨0, _, rfl, rfl, Nat.zero_le _, rfl⟩
  case round =>
    obtain ⟨i, z, rfl, rfl, hi, hrel⟩ := hrel
    rw [HFL.out] at hi
    by_cases hlt : i < n
    · obtain ⟨f, hf⟩ : ∃ f, fl[i]? = some f := ⟨_, List.getElem?_eq_getElem (by rw [HFL.out]; exact hlt)⟩
      have c2 := rF_at HS1.out rfl hf
      have hstep := Lib.hid (falls_step hf z)
      have HREL := Lib.hid hrel
      clear hrel hf
      obtain ⟨b, hb⟩ : ∃ b, flt z f = b := ⟨_, rfl⟩
      have HBB := Lib.hid hb
      cases b
      · go_wp2
        go_round
        case rel => exact ⟨i + 1, f, rfl, by simp, by rw [HFL.out]; omega, by rw [HREL.out, hstep.out, HBB.out]; rfl⟩
        case measure => simp [intOf]; omega
      · have hres : Hid (r = false) := by
          show _ = _
          rw [← HRR.out, HREL.out, hstep.out, HBB.out]; rfl
        go_wp2
        go_ret2
        exact ⟨by rw [hres.out]; rfl, HB.out⟩
    · obtain rfl : i = n := by omega
      have hres : Hid (r = true) := by
        show _ = _
        rw [← HRR.out, hrel, List.drop_eq_nil_of_le (by rw [HFL.out]; omega)]
        simp [fallsB]
      clear hrel
      go_wp2
      go_ret2
      exact ⟨by rw [hres.out]; rfl, HB.out⟩
end Go.Proofs.YtefaedjjecfabaaGreat.Ten

namespace Go.Proofs.YtefaedjjecfabaaGreat.Ten
open Go Go.RowKit
attribute [local go_sem] ext113 ext252 run_fneg ord_lt ord_gt ord_eq ord_ne ltoreq gtoreq
attribute [local irreducible] flt fle feq vop nop
set_option maxRecDepth 100000 in
set_option maxHeartbeats 1000000 in
theorem forward_act {base kind : Int} {A A' : Option Addr} {n : Nat} (c c' : Nat) {l : List Int} {fl : List Nat} {B : Nat} (k : Int) (wk : Int) (R : Option Addr) (rn rc : Nat) (a b : Int) (f g : Nat) (w : World) (_h : CrvIn w base kind A n A' n l fl B)
    (hf : f < 18446744073709551616) (hg : g < 18446744073709551616)
    (hk : k = 1 ∨ k = 2) (ha : 0 ≤ a) (hab : a ≤ b) (hb : b ≤ 109572)
    (CA : ∀ W, Below w.heap.size w W → Calls Tryz.prog 37 #[crvV base kind A n c A' n c', .int .i64 a] W fun e w' => e = .returned (.tuple #[.float .f64 f, .int .i64 0]) ∧ Below W.heap.size W w')
    (CB : ∀ W, Below w.heap.size w W → Calls Tryz.prog 37 #[crvV base kind A n c A' n c', .int .i64 b] W fun e w' => e = .returned (.tuple #[.float .f64 g, .int .i64 0]) ∧ Below W.heap.size W w') :
    Calls Tryz.prog 40 #[crvV base kind A n c A' n c', .int .i64 k, .agg #[.int .i64 wk, .slice R rn rc], .int .i64 a, .int .i64 b] w fun e w' => e = .returned (.tuple #[.float .f64 (fwdV f g (yearV k (b - a))).1, .int .i64 (fwdV f g (yearV k (b - a))).2]) ∧ Below w.heap.size w w' := by
  have CA := Lib.hid CA
  have CB := Lib.hid CB
  have CY := Lib.hid (fun W => year_act k wk R rn rc a b W hk ha hab hb)
  have CR := Lib.hid (fun W => rforward_any f g (yearV k (b - a)) W hf hg (yearV_lt _ _))
  generalize fwdV f g (yearV k (b - a)) = R at *
  generalize yearV k (b - a) = Y at *
  obtain ⟨R1, R2⟩ := R
  clear hf hg hk ha hab hb _h
  unfold crvV at *
  go_enter Tryz.func40, Tryz.ntmps40
  go_wp2_with fail
  have hb0 := hb2 w (Obj.cells #[Value.int IntKind.i64 base, Value.int IntKind.i64 kind, Value.slice A n c, Value.slice A' n c'] 25) (Obj.cells #[Value.int IntKind.i64 wk, Value.slice R rn rc] 54)
  have bC := (Blk.new w 25 #[Value.int IntKind.i64 base, Value.int IntKind.i64 kind, Value.slice A n c, Value.slice A' n c']).alloc (Obj.cells #[Value.int IntKind.i64 wk, Value.slice R rn rc] 54)
  have bK := Blk.new (w.alloc (Obj.cells #[Value.int IntKind.i64 base, Value.int IntKind.i64 kind, Value.slice A n c, Value.slice A' n c'] 25)) 54 #[Value.int IntKind.i64 wk, Value.slice R rn rc]
  rw [show (w.alloc (Obj.cells #[Value.int IntKind.i64 base, Value.int IntKind.i64 kind, Value.slice A n c, Value.slice A' n c'] 25)).heap.size = w.heap.size + 1 by simp] at bK
  refine (CA.out _ hb0).mono ?_
  rintro e w1 ⟨rfl, hbe⟩
  have bC1 := Lib.hid (bC.below hbe bC.lt)
  have bK1 := Lib.hid (bK.below hbe bK.lt)
  have hb1 := Lib.hid (hb0.trans (hbe.mono hb0.size))
  clear hbe bC bK hb0
  have u0 : w1.cell? ⟨w.heap.size, 0, none⟩ = some (.int .i64 base) := bC1.out.cell 0
  have u1 : w1.cell? ⟨w.heap.size, 1, none⟩ = some (.int .i64 kind) := bC1.out.cell 1
  have u2 : w1.cell? ⟨w.heap.size, 2, none⟩ = some (.slice A n c) := bC1.out.cell 2
  have u3 : w1.cell? ⟨w.heap.size, 3, none⟩ = some (.slice A' n c') := bC1.out.cell 3
  go_wp2_with fail
  refine (CB.out _ hb1.out).mono ?_
  rintro e w2 ⟨rfl, hbe⟩
  have bK2 := Lib.hid (bK1.out.below hbe bK1.out.lt)
  have hb2 := Lib.hid (hb1.out.trans (hbe.mono hb1.out.size))
  clear hbe u0 u1 u2 u3 bC1 bK1 hb1
  have u0 : w2.cell? ⟨w.heap.size + 1, 0, none⟩ = some (.int .i64 wk) := bK2.out.cell 0
  have u1 : w2.cell? ⟨w.heap.size + 1, 1, none⟩ = some (.slice R rn rc) := bK2.out.cell 1
  go_wp2_with fail
  refine (CY.out _).mono ?_
  rintro e w3 ⟨rfl, hbe⟩
  have hb3 := Lib.hid (hb2.out.trans (hbe.mono hb2.out.size))
  clear hbe u0 u1
  go_wp2_with fail
  refine (CR.out _).mono ?_
  rintro e w4 ⟨rfl, hbe⟩
  have hb4 := Lib.hid (hb3.out.trans (hbe.mono hb3.out.size))
  clear hbe
  go_wp2
  go_ret2
  exact ⟨rfl, hb4.out⟩
end Go.Proofs.YtefaedjjecfabaaGreat.Ten

namespace Go.Proofs.YtefaedjjecfabaaGreat.Ten
open Go Go.RowKit
attribute [local go_sem] ext113 ext252 run_fneg ord_lt ord_gt ord_eq ord_ne ltoreq gtoreq
attribute [local irreducible] flt fle feq
def awX : List Int := [0, 100, 200]
def awY : List Nat := [4607182418800017408, 4602678819172646912, 4598175219545276416]
theorem aw_chk : crvChk 0 2 [100, 200] [4602678819172646912, 4598175219545276416] = 0 := by decide +kernel
theorem aw_falls : fallsB 4607182418800017408 [4602678819172646912, 4598175219545276416] = true := by decide +kernel
theorem aw_out (x : Int) (h0 : 0 ≤ x) (h1 : x ≤ 200) : ¬ outT [0, 100, 200] x := by
  rintro (⟨a, h, h2⟩ | ⟨b, h, h2⟩)
  · simp at h; omega
  · simp at h; omega
theorem aw_up0 : upTo [0, 100, 200] 0 = 1 := by unfold upTo; decide
theorem aw_up50 : upTo [0, 100, 200] 50 = 1 := by unfold upTo; decide
theorem aw_up100 : upTo [0, 100, 200] 100 = 2 := by unfold upTo; decide
theorem aw_ov : ovV (dotI [50, 50] [4607182418800017408, 4602678819172646912]) 100 = 4604930618986332160 := by decide +kernel
theorem aw_fwd : (fwdV 4607182418800017408 4602678819172646912 (yearV 1 100)).2 = 0 ∧ flt 4615266380131147448 (fwdV 4607182418800017408 4602678819172646912 (yearV 1 100)).1 = true ∧ flt (fwdV 4607182418800017408 4602678819172646912 (yearV 1 100)).1 4615311416127421153 = true := by decide +kernel
theorem aw_feq : feq 4604930618986332160 4604930618986332160 = true := by decide +kernel
/-- Factor on awake's curve. -/
theorem aw_factor {A A' : Option Addr} (c c' : Nat) {B : Nat} (x : Int) (r : Nat) (w : World) (h : CrvIn w 0 2 A 2 A' 2 [100, 200] [4602678819172646912, 4598175219545276416] B)
    (hx : x = 0 ∧ r = 4607182418800017408 ∨ x = 50 ∧ r = 4604930618986332160 ∨ x = 100 ∧ r = 4602678819172646912) :
    Calls Tryz.prog 37 #[crvV 0 2 A 2 c A' 2 c', .int .i64 x] w fun e w' => e = .returned (.tuple #[.float .f64 r, .int .i64 0]) ∧ Below w.heap.size w w' := by
  have hx' : 0 ≤ x ∧ x ≤ 200 := by omega
  refine (factor_any c c' x _ w h aw_chk (by omega) (by omega) (ways_ok x w h (.inr rfl))).mono ?_
  rintro e w' ⟨_, h2, hb⟩
  obtain ⟨r', rfl, h3, h4⟩ := h2 (aw_out x hx'.1 hx'.2)
  refine ⟨?_, hb⟩
  have : r' = r := by
    rcases hx with ⟨rfl, rfl⟩ | ⟨rfl, rfl⟩ | ⟨rfl, rfl⟩
    · rw [aw_up0] at h3
      exact (Option.some.inj (h3 rfl)).symm
    · rw [aw_up50] at h4
      obtain ⟨u, v, f, f', e1, e2, e3, e4, _, _, _, e5⟩ := h4 (by decide)
      rw [e5 rfl]
      have e1 := Option.some.inj e1
      have e2 := Option.some.inj e2
      have e3 := Option.some.inj e3
      have e4 := Option.some.inj e4
      subst e1 e2 e3 e4
      exact aw_ov
    · rw [aw_up100] at h3
      exact (Option.some.inj (h3 rfl)).symm
  rw [this]
def awL1 : Obj := .cells #[.int .i64 100, .int .i64 200] 3
def awL2 : Obj := .cells #[.float .f64 4602678819172646912, .float .f64 4598175219545276416] 42
def awV (s : Nat) : Array Value := #[.int .i64 0, .int .i64 2, .slice (some ⟨s, 0, none⟩) 2 2, .slice (some ⟨s + 1, 0, none⟩) 2 2]
theorem aw_in (w : World) : CrvIn (((w.alloc awL1).alloc awL2).alloc (.cells (awV w.heap.size) 25)) 0 2 (some ⟨w.heap.size, 0, none⟩) 2 (some ⟨w.heap.size + 1, 0, none⟩) 2 [100, 200] [4602678819172646912, 4598175219545276416] (w.heap.size + 3) ∧
    Below w.heap.size w (((w.alloc awL1).alloc awL2).alloc (.cells (awV w.heap.size) 25)) ∧ Blk (((w.alloc awL1).alloc awL2).alloc (.cells (awV w.heap.size) 25)) (w.heap.size + 2) 25 (awV w.heap.size) := by
  have s1 : (w.alloc awL1).heap.size = w.heap.size + 1 := by simp
  have s2 : ((w.alloc awL1).alloc awL2).heap.size = w.heap.size + 2 := by simp
  have s3 : (((w.alloc awL1).alloc awL2).alloc (.cells (awV w.heap.size) 25)).heap.size = w.heap.size + 3 := by simp
  refine ⟨⟨by omega, by omega, rfl, rfl, by omega, by omega, by simp, by simp, ?_, ?_, by omega⟩, ?_, ?_⟩
  · have h := (((own_lit (base := 0) (e := 3) w #[.int .i64 100, .int .i64 200] 2 w.heap.size rfl (by omega) (by omega) rfl).alloc awL2).alloc (.cells (awV w.heap.size) 25))
    have h := Reads.of_own h
    have e : ((w.alloc (Obj.cells #[Value.int IntKind.i64 100, Value.int IntKind.i64 200] 3)).alloc awL2).alloc (.cells (awV w.heap.size) 25) = (((w.alloc awL1).alloc awL2).alloc (.cells (awV w.heap.size) 25)) := rfl
    rw [e, s3] at h
    exact h
  · have h := ((own_lit (base := 0) (e := 42) (w.alloc awL1) #[.float .f64 4602678819172646912, .float .f64 4598175219545276416] 2 (w.heap.size + 1) s1 (by omega) (by omega) rfl).alloc (.cells (awV w.heap.size) 25))
    have h := Reads.of_own h
    have e : ((w.alloc awL1).alloc (Obj.cells #[.float .f64 4602678819172646912, .float .f64 4598175219545276416] 42)).alloc (.cells (awV w.heap.size) 25) = (((w.alloc awL1).alloc awL2).alloc (.cells (awV w.heap.size) 25)) := rfl
    rw [e, s3] at h
    exact h
  · exact (((Below.refl _ w).alloc (Nat.le_refl _) _).alloc (by omega) _).alloc (by omega) _
  · have h := Blk.new ((w.alloc awL1).alloc awL2) 25 (awV w.heap.size)
    rw [s2] at h
    exact h
set_option maxRecDepth 100000 in
set_option maxHeartbeats 4000000 in
theorem awake_any (w : World) : Calls Tryz.prog 28 #[] w fun e w' => e = .returned (.bool true) ∧ Below w.heap.size w w' := by
  obtain ⟨h1, h2, h3⟩ := aw_in w
  unfold awL1 awL2 awV at *
  have HI := Lib.hid h1
  have HB := Lib.hid h2
  have HK := Lib.hid h3
  have C37 := Lib.hid (fun W (hW : Below (((w.alloc awL1).alloc awL2).alloc (.cells (awV w.heap.size) 25)).heap.size (((w.alloc awL1).alloc awL2).alloc (.cells (awV w.heap.size) 25)) W) x r hx => aw_factor 2 2 x r W (h1.below hW) hx)
  have C30 := Lib.hid (fun W (hW : Below (((w.alloc awL1).alloc awL2).alloc (.cells (awV w.heap.size) 25)).heap.size (((w.alloc awL1).alloc awL2).alloc (.cells (awV w.heap.size) 25)) W) => falls_ok 2 2 W (h1.below hW) aw_chk)
  have C46 := Lib.hid (fun W (hW : Below (((w.alloc awL1).alloc awL2).alloc (.cells (awV w.heap.size) 25)).heap.size (((w.alloc awL1).alloc awL2).alloc (.cells (awV w.heap.size) 25)) W) => crvlast_any 2 2 W (h1.below hW))
  have C40 := Lib.hid (fun W (hW : Below (((w.alloc awL1).alloc awL2).alloc (.cells (awV w.heap.size) 25)).heap.size (((w.alloc awL1).alloc awL2).alloc (.cells (awV w.heap.size) 25)) W) => forward_act (f := 4607182418800017408) (g := 4602678819172646912) 2 2 1 0 none 0 0 0 100 W (h1.below hW) (by decide) (by decide) (.inl rfl) (by omega) (by omega) (by omega) (fun W2 hW2 => aw_factor 2 2 0 _ W2 ((h1.below hW).below hW2) (.inl ⟨rfl, rfl⟩)) (fun W2 hW2 => aw_factor 2 2 100 _ W2 ((h1.below hW).below hW2) (.inr (.inr ⟨rfl, rfl⟩))))
  rw [aw_falls] at C30
  simp only [aw_chk] at C46
  unfold awL1 awL2 awV at *
  clear h1 h2 h3
  unfold crvV at *
  go_enter Tryz.func28, Tryz.ntmps28
  go_wp2_with fail
  generalize (((w.alloc (Obj.cells #[Value.int IntKind.i64 100, Value.int IntKind.i64 200] 3)).alloc (Obj.cells #[Value.float FloatKind.f64 4602678819172646912, Value.float FloatKind.f64 4598175219545276416] 42)).alloc (Obj.cells #[Value.int IntKind.i64 0, Value.int IntKind.i64 2, Value.slice (some ⟨w.heap.size, 0, none⟩) 2 2, Value.slice (some ⟨w.heap.size + 1, 0, none⟩) 2 2] 25)) = W at *
  refine (C37.out W (Below.refl _ W) 50 4604930618986332160 (.inr (.inl ⟨rfl, rfl⟩))).mono ?_
  rintro e w1 ⟨rfl, hbe⟩
  have b1 := Lib.hid hbe
  have k1 := Lib.hid (HK.out.below hbe HK.out.lt)
  clear hbe
  have u0 : w1.cell? ⟨w.heap.size + 2, 0, none⟩ = some (.int .i64 0) := k1.out.cell 0
  have u1 : w1.cell? ⟨w.heap.size + 2, 1, none⟩ = some (.int .i64 2) := k1.out.cell 1
  have u2 : w1.cell? ⟨w.heap.size + 2, 2, none⟩ = some (.slice (some ⟨w.heap.size, 0, none⟩) 2 2) := k1.out.cell 2
  have u3 : w1.cell? ⟨w.heap.size + 2, 3, none⟩ = some (.slice (some ⟨w.heap.size + 1, 0, none⟩) 2 2) := k1.out.cell 3
  go_wp2_with fail
  refine (C30.out w1 b1.out).mono ?_
  rintro e w2 ⟨rfl, hbe⟩
  have b2 := Lib.hid (b1.out.trans (hbe.mono b1.out.size))
  have k2 := Lib.hid (k1.out.below hbe k1.out.lt)
  clear hbe u0 u1 u2 u3
  have u0 : w2.cell? ⟨w.heap.size + 2, 0, none⟩ = some (.int .i64 0) := k2.out.cell 0
  have u1 : w2.cell? ⟨w.heap.size + 2, 1, none⟩ = some (.int .i64 2) := k2.out.cell 1
  have u2 : w2.cell? ⟨w.heap.size + 2, 2, none⟩ = some (.slice (some ⟨w.heap.size, 0, none⟩) 2 2) := k2.out.cell 2
  have u3 : w2.cell? ⟨w.heap.size + 2, 3, none⟩ = some (.slice (some ⟨w.heap.size + 1, 0, none⟩) 2 2) := k2.out.cell 3
  go_wp2_with fail
  refine (C46.out w2 b2.out).mono ?_
  rintro e w3 ⟨hq, hbe⟩
  rw [if_neg (by decide)] at hq
  obtain ⟨d, hd, rfl⟩ := hq
  obtain rfl : 200 = d := Option.some.inj hd
  have b3 := Lib.hid (b2.out.trans (hbe.mono b2.out.size))
  have k3 := Lib.hid (k2.out.below hbe k2.out.lt)
  clear hbe u0 u1 u2 u3 hd
  have u0 : w3.cell? ⟨w.heap.size + 2, 0, none⟩ = some (.int .i64 0) := k3.out.cell 0
  have u1 : w3.cell? ⟨w.heap.size + 2, 1, none⟩ = some (.int .i64 2) := k3.out.cell 1
  have u2 : w3.cell? ⟨w.heap.size + 2, 2, none⟩ = some (.slice (some ⟨w.heap.size, 0, none⟩) 2 2) := k3.out.cell 2
  have u3 : w3.cell? ⟨w.heap.size + 2, 3, none⟩ = some (.slice (some ⟨w.heap.size + 1, 0, none⟩) 2 2) := k3.out.cell 3
  go_wp2_with fail
  refine (C40.out w3 b3.out).mono ?_
  obtain ⟨f1, f2, f3⟩ := aw_fwd
  rw [show (100 : Int) - 0 = 100 from rfl, f1]
  generalize (fwdV 4607182418800017408 4602678819172646912 (yearV 1 100)).1 = R at *
  rintro e w4 ⟨rfl, hbe⟩
  have b4 := Lib.hid (b3.out.trans (hbe.mono b3.out.size))
  clear hbe u0 u1 u2 u3 f1
  have f4 := aw_feq
  go_wp2
  go_ret
  exact ⟨rfl, HB.out.trans (b4.out.mono HB.out.size)⟩
end Go.Proofs.YtefaedjjecfabaaGreat.Ten

namespace Go.Proofs.YtefaedjjecfabaaGreat.Ten
open Go Go.RowKit
attribute [local go_sem] ext113 ext252 run_fneg ord_lt ord_gt ord_eq ord_ne ltoreq gtoreq
attribute [local irreducible] flt fle feq
theorem is00 (w : World) : Calls Tryz.prog 39 #[.float .f64 0, .int .u64 0] w fun e w' => e = .returned (.bool true) ∧ w = w' := by
  have h := is_any 0 0 w (by decide) (by decide)
  have e : samev 0 0 = true := by decide +kernel
  rw [e] at h
  exact h
set_option maxRecDepth 100000 in
set_option maxHeartbeats 4000000 in
theorem curvechecks_any {base kind : Int} {A A' : Option Addr} {n m : Nat} (c c' : Nat) {l : List Int} {fl : List Nat} {B : Nat} (x : Int) (w : World) (h : CrvIn w base kind A n A' m l fl B) :
    Calls Tryz.prog 7 #[crvV base kind A n c A' m c', .int .i64 x] w fun e w' => e = .returned (.bool true) ∧ Below w.heap.size w w' := by
  have HI := Lib.hid h
  have hn0 := h.hn
  have hm0 := h.hm
  by_cases hbig : 300 < n ∨ 300 < m
  · clear h
    unfold crvV
    by_cases hb1 : 300 < n
    · clear hbig
      go_enter Tryz.func7, Tryz.ntmps7
      go_wp2_with fail
      refine (awake_any _).mono ?_
      rintro e w' ⟨rfl, hbe⟩
      have HB := Lib.hid (below_box hbe)
      clear hbe
      go_wp2
      go_ret
      exact ⟨rfl, HB.out⟩
    · have hb2 : 300 < m := by omega
      clear hbig
      go_enter Tryz.func7, Tryz.ntmps7
      go_wp2_with fail
      refine (awake_any _).mono ?_
      rintro e w' ⟨rfl, hbe⟩
      have HB := Lib.hid (below_box hbe)
      clear hbe
      go_wp2
      go_ret
      exact ⟨rfl, HB.out⟩
  · have hn3 : ¬ 300 < n := by omega
    have hm3 : ¬ 300 < m := by omega
    clear hbig
    have C44 := Lib.hid (fun W (hW : Below w.heap.size w W) => crvcheck_any c c' W (h.below hW))
    have C29 := Lib.hid (fun W (hW : Below w.heap.size w W) => of_any c c' W (h.below hW) (by omega))
    have C45 := Lib.hid (fun W (hW : Below w.heap.size w W) (F : Option Addr) (cf : Nat) (W2 : World) (hW2 : Below W.heap.size W W2) (hF : Reads W2 W2.heap.size 1 F m (vU fl)) => rcheck_any c cf W2 (refin_of (h.below hW) hW2 hF))
    have C47 := Lib.hid (fun W (hW : Below w.heap.size w W) (F : Option Addr) (cf : Nat) (W2 : World) (hW2 : Below W.heap.size W W2) (hF : Reads W2 W2.heap.size 1 F m (vU fl)) => rlast_any c cf W2 (refin_of (h.below hW) hW2 hF))
    have C46 := Lib.hid (fun W (hW : Below w.heap.size w W) => crvlast_any c c' W (h.below hW))
    have CE : Hid (crvChk base kind l fl ≠ 0 → (∀ W, Below w.heap.size w W → (Calls Tryz.prog 37 #[crvV base kind A n c A' m c', .int .i64 x] W fun e w' => e = .returned (.tuple #[.float .f64 0, .int .i64 (crvChk base kind l fl)]) ∧ Below W.heap.size W w') ∧
      (Calls Tryz.prog 40 #[crvV base kind A n c A' m c', .int .i64 1, .agg #[.int .i64 0, .slice none 0 0], .int .i64 x, .int .i64 x] W fun e w' => e = .returned (.tuple #[.float .f64 0, .int .i64 (crvChk base kind l fl)]) ∧ Below W.heap.size W w') ∧
      (Calls Tryz.prog 42 #[crvV base kind A n c A' m c', .int .i64 1, .int .i64 1, .agg #[.int .i64 0, .slice none 0 0], .int .i64 x] W fun e w' => e = .returned (.tuple #[.float .f64 0, .int .i64 (crvChk base kind l fl)]) ∧ Below W.heap.size W w') ∧
      (Calls Tryz.prog 30 #[crvV base kind A n c A' m c'] W fun e w' => e = .returned (.tuple #[.bool false, .int .i64 (crvChk base kind l fl)]) ∧ Below W.heap.size W w') ∧
      (Calls Tryz.prog 32 #[crvV base kind A n c A' m c'] W fun e w' => e = .returned (.tuple #[zCrv, .int .i64 (crvChk base kind l fl)]) ∧ Below W.heap.size W w'))) := fun he W hW =>
      ⟨factor_err c c' W (h.below hW) he x, forward_err c c' W (h.below hW) he 1 _ x x, zero_err c c' W (h.below hW) he 1 1 _ x, falls_err c c' W (h.below hW) he, single_err c c' W (h.below hW) he⟩
    generalize crvChk base kind l fl = ch at *
    have HK := Lib.hid (Blk.new w 25 #[Value.int .i64 base, .int .i64 kind, .slice A n c, .slice A' m c'])
    have HB := Lib.hid (hb2b w (.cells #[Value.int .i64 base, .int .i64 kind, .slice A n c, .slice A' m c'] 25))
    clear h
    unfold crvV at *
    go_enter Tryz.func7, Tryz.ntmps7
    go_wp2_with fail
    refine (C44.out _ HB.out).mono ?_
    rintro e w' ⟨rfl, hbe⟩
    have HK := Lib.hid (HK.out.below hbe HK.out.lt)
    have HB := Lib.hid (HB.out.trans (hbe.mono HB.out.size))
    clear hbe
    have u0 : w'.cell? ⟨w.heap.size, 0, none⟩ = some (.int .i64 base) := HK.out.cell 0
    have u1 : w'.cell? ⟨w.heap.size, 1, none⟩ = some (.int .i64 kind) := HK.out.cell 1
    have u2 : w'.cell? ⟨w.heap.size, 2, none⟩ = some (.slice A n c) := HK.out.cell 2
    have u3 : w'.cell? ⟨w.heap.size, 3, none⟩ = some (.slice A' m c') := HK.out.cell 3
    go_wp2_with fail
    refine (C29.out _ HB.out).mono ?_
    rintro e w2 ⟨F, cf, rfl, hF, hbe⟩
    go_wp2_with fail
    refine (C45.out _ HB.out F cf _ hbe hF).mono ?_
    rintro e w3 ⟨rfl, hbe3⟩
    have hbe := hbe.trans (hbe3.mono hbe.size)
    clear hbe3 hF u0 u1 u2 u3
    generalize w3 = w' at *
    have HK := Lib.hid (HK.out.below hbe HK.out.lt)
    have HB := Lib.hid (HB.out.trans (hbe.mono HB.out.size))
    clear hbe
    have u0 : w'.cell? ⟨w.heap.size, 0, none⟩ = some (.int .i64 base) := HK.out.cell 0
    have u1 : w'.cell? ⟨w.heap.size, 1, none⟩ = some (.int .i64 kind) := HK.out.cell 1
    have u2 : w'.cell? ⟨w.heap.size, 2, none⟩ = some (.slice A n c) := HK.out.cell 2
    have u3 : w'.cell? ⟨w.heap.size, 3, none⟩ = some (.slice A' m c') := HK.out.cell 3
    go_wp2_with fail
    refine (C46.out _ HB.out).mono ?_
    by_cases hc : ch = 0
    · subst hc
      rintro e w' ⟨hq, hbe⟩
      rw [if_neg (by simp)] at hq
      obtain ⟨d, hd, rfl⟩ := hq
      have HD := Lib.hid hd
      clear hd u0 u1 u2 u3
      have HK := Lib.hid (HK.out.below hbe HK.out.lt)
      have HB := Lib.hid (HB.out.trans (hbe.mono HB.out.size))
      clear hbe
      have u0 : w'.cell? ⟨w.heap.size, 0, none⟩ = some (.int .i64 base) := HK.out.cell 0
      have u1 : w'.cell? ⟨w.heap.size, 1, none⟩ = some (.int .i64 kind) := HK.out.cell 1
      have u2 : w'.cell? ⟨w.heap.size, 2, none⟩ = some (.slice A n c) := HK.out.cell 2
      have u3 : w'.cell? ⟨w.heap.size, 3, none⟩ = some (.slice A' m c') := HK.out.cell 3
      go_wp2_with fail
      refine (C29.out _ HB.out).mono ?_
      rintro e w2 ⟨F, cf, rfl, hF, hbe⟩
      go_wp2_with fail
      refine (C47.out _ HB.out F cf _ hbe hF).mono ?_
      rintro e w3 ⟨hq, hbe3⟩
      rw [if_neg (by simp)] at hq
      obtain ⟨d', hd', rfl⟩ := hq
      obtain rfl : d = d' := by
        have := HD.out
        rw [this] at hd'
        exact Option.some.inj hd'
      have hbe := hbe.trans (hbe3.mono hbe.size)
      clear hbe3 hF u0 u1 u2 u3 hd'
      generalize w3 = w' at *
      have HK := Lib.hid (HK.out.below hbe HK.out.lt)
      have HB := Lib.hid (HB.out.trans (hbe.mono HB.out.size))
      clear hbe
      go_wp2_with fail
      refine (awake_any _).mono ?_
      rintro e w' ⟨rfl, hbe⟩
      have HK := Lib.hid (HK.out.below hbe HK.out.lt)
      have HB := Lib.hid (HB.out.trans (hbe.mono HB.out.size))
      clear hbe
      go_wp2
      go_ret
      exact ⟨rfl, HB.out⟩
    · have hcb : (ch == 0) = false := by rw [beq_eq_false_iff_ne]; exact hc
      have hcc : Hid (ch ≠ 0) := hc
      rintro e w' ⟨hq, hbe⟩
      rw [if_pos hc] at hq
      subst hq
      clear u0 u1 u2 u3
      have HK := Lib.hid (HK.out.below hbe HK.out.lt)
      have HB := Lib.hid (HB.out.trans (hbe.mono HB.out.size))
      clear hbe
      have u0 : w'.cell? ⟨w.heap.size, 0, none⟩ = some (.int .i64 base) := HK.out.cell 0
      have u1 : w'.cell? ⟨w.heap.size, 1, none⟩ = some (.int .i64 kind) := HK.out.cell 1
      have u2 : w'.cell? ⟨w.heap.size, 2, none⟩ = some (.slice A n c) := HK.out.cell 2
      have u3 : w'.cell? ⟨w.heap.size, 3, none⟩ = some (.slice A' m c') := HK.out.cell 3
      go_wp2_with fail
      refine (C29.out _ HB.out).mono ?_
      rintro e w2 ⟨F, cf, rfl, hF, hbe⟩
      go_wp2_with fail
      refine (C47.out _ HB.out F cf _ hbe hF).mono ?_
      rintro e w3 ⟨hq, hbe3⟩
      rw [if_pos hc] at hq
      subst hq
      have hbe := hbe.trans (hbe3.mono hbe.size)
      clear hbe3 hF u0 u1 u2 u3 hc
      generalize w3 = w' at *
      have HK := Lib.hid (HK.out.below hbe HK.out.lt)
      have HB := Lib.hid (HB.out.trans (hbe.mono HB.out.size))
      clear hbe
      have u0 : w'.cell? ⟨w.heap.size, 0, none⟩ = some (.int .i64 base) := HK.out.cell 0
      have u1 : w'.cell? ⟨w.heap.size, 1, none⟩ = some (.int .i64 kind) := HK.out.cell 1
      have u2 : w'.cell? ⟨w.heap.size, 2, none⟩ = some (.slice A n c) := HK.out.cell 2
      have u3 : w'.cell? ⟨w.heap.size, 3, none⟩ = some (.slice A' m c') := HK.out.cell 3
      go_wp2_with fail
      refine ((CE.out hcc.out _ HB.out).1).mono ?_
      rintro e w' ⟨rfl, hbe⟩
      clear u0 u1 u2 u3
      have HK := Lib.hid (HK.out.below hbe HK.out.lt)
      have HB := Lib.hid (HB.out.trans (hbe.mono HB.out.size))
      clear hbe
      have u0 : w'.cell? ⟨w.heap.size, 0, none⟩ = some (.int .i64 base) := HK.out.cell 0
      have u1 : w'.cell? ⟨w.heap.size, 1, none⟩ = some (.int .i64 kind) := HK.out.cell 1
      have u2 : w'.cell? ⟨w.heap.size, 2, none⟩ = some (.slice A n c) := HK.out.cell 2
      have u3 : w'.cell? ⟨w.heap.size, 3, none⟩ = some (.slice A' m c') := HK.out.cell 3
      go_wp2_with fail
      refine ((CE.out hcc.out _ HB.out).2.1).mono ?_
      rintro e w' ⟨rfl, hbe⟩
      clear u0 u1 u2 u3
      have HK := Lib.hid (HK.out.below hbe HK.out.lt)
      have HB := Lib.hid (HB.out.trans (hbe.mono HB.out.size))
      clear hbe
      have u0 : w'.cell? ⟨w.heap.size, 0, none⟩ = some (.int .i64 base) := HK.out.cell 0
      have u1 : w'.cell? ⟨w.heap.size, 1, none⟩ = some (.int .i64 kind) := HK.out.cell 1
      have u2 : w'.cell? ⟨w.heap.size, 2, none⟩ = some (.slice A n c) := HK.out.cell 2
      have u3 : w'.cell? ⟨w.heap.size, 3, none⟩ = some (.slice A' m c') := HK.out.cell 3
      go_wp2_with fail
      refine ((CE.out hcc.out _ HB.out).2.2.1).mono ?_
      rintro e w' ⟨rfl, hbe⟩
      clear u0 u1 u2 u3
      have HK := Lib.hid (HK.out.below hbe HK.out.lt)
      have HB := Lib.hid (HB.out.trans (hbe.mono HB.out.size))
      clear hbe
      have u0 : w'.cell? ⟨w.heap.size, 0, none⟩ = some (.int .i64 base) := HK.out.cell 0
      have u1 : w'.cell? ⟨w.heap.size, 1, none⟩ = some (.int .i64 kind) := HK.out.cell 1
      have u2 : w'.cell? ⟨w.heap.size, 2, none⟩ = some (.slice A n c) := HK.out.cell 2
      have u3 : w'.cell? ⟨w.heap.size, 3, none⟩ = some (.slice A' m c') := HK.out.cell 3
      go_wp2_with fail
      refine ((CE.out hcc.out _ HB.out).2.2.2.1).mono ?_
      rintro e w' ⟨rfl, hbe⟩
      clear u0 u1 u2 u3
      have HK := Lib.hid (HK.out.below hbe HK.out.lt)
      have HB := Lib.hid (HB.out.trans (hbe.mono HB.out.size))
      clear hbe
      have u0 : w'.cell? ⟨w.heap.size, 0, none⟩ = some (.int .i64 base) := HK.out.cell 0
      have u1 : w'.cell? ⟨w.heap.size, 1, none⟩ = some (.int .i64 kind) := HK.out.cell 1
      have u2 : w'.cell? ⟨w.heap.size, 2, none⟩ = some (.slice A n c) := HK.out.cell 2
      have u3 : w'.cell? ⟨w.heap.size, 3, none⟩ = some (.slice A' m c') := HK.out.cell 3
      go_wp2_with fail
      refine ((CE.out hcc.out _ HB.out).2.2.2.2).mono ?_
      rintro e w' ⟨rfl, hbe⟩
      clear u0 u1 u2 u3
      have HK := Lib.hid (HK.out.below hbe HK.out.lt)
      have HB := Lib.hid (HB.out.trans (hbe.mono HB.out.size))
      clear hbe
      have CS := Lib.hid same0_any
      unfold zCrv at *
      go_wp2_with ((go_at_call 39; refine (is00 _).mono ?_; rintro e w3 ⟨rfl, rfl⟩))
      have HB := Lib.hid (HB.out.alloc HB.out.size (Obj.cells #[Value.int IntKind.i64 0, Value.int IntKind.i64 0, Value.slice none 0 0, Value.slice none 0 0] 25))
      refine (CS.out _).mono ?_
      rintro e w4 ⟨rfl, hbe⟩
      have HB := Lib.hid (HB.out.trans (hbe.mono HB.out.size))
      clear hbe
      go_wp2_with fail
      refine (awake_any _).mono ?_
      rintro e w5 ⟨rfl, hbe⟩
      have HB := Lib.hid (HB.out.trans (hbe.mono HB.out.size))
      clear hbe
      go_wp2
      go_ret
      exact ⟨rfl, HB.out⟩
end Go.Proofs.YtefaedjjecfabaaGreat.Ten
