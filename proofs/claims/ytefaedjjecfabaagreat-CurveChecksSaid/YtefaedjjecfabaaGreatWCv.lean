/- Parts of the proof of CurveChecks: contracts of the functions that it reaches, and the plain laws under them (Cv Ra Rb Rc Er Et Tb). Conditions: those that each theorem names. -/
import Derived.Deep.RegionHeld3
import Derived.Deep.DrawnRows
import Derived.Test.YtefaedjjecfabaaGreatWAx
namespace Go.Proofs.YtefaedjjecfabaaGreat.Ten
open Go Go.RowKit
attribute [local go_sem] ext113 ext252 run_fneg ord_lt ord_gt ord_eq ord_ne ltoreq gtoreq
attribute [local irreducible] flt fle feq
attribute [local go_sem ↓] Go.wp_at_zero Go.wp_at_succ

set_option maxRecDepth 100000 in
set_option maxHeartbeats 1000000 in
theorem crvlast_any {base kind : Int} {A A' : Option Addr} {n m : Nat} (c c' : Nat) {l : List Int} {fl : List Nat} {B : Nat} (w : World) (h : CrvIn w base kind A n A' m l fl B) :
    Calls Tryz.prog 46 #[crvV base kind A n c A' m c'] w fun e w' => (if crvChk base kind l fl ≠ 0 then e = .returned (.tuple #[.int .i64 0, .int .i64 (crvChk base kind l fl)]) else ∃ d, l[n-1]? = some d ∧ e = .returned (.tuple #[.int .i64 d, .int .i64 0])) ∧ Below w.heap.size w w' := by
  have CC := Lib.hid (fun o => crvcheck_any c c' (w.alloc o) (h.below ((Below.refl _ w).alloc (Nat.le_refl _) o)))
  have hp : Hid (crvChk base kind l fl = 0 → ∃ ad d, A = some ad ∧ 1 ≤ n ∧ n ≤ 255 ∧ l[n-1]? = some d ∧ ad.block < B ∧ w.cell? (ad.add (n-1)) = some (.int .i64 d)) := by
    intro h0
    have hn : 1 ≤ n ∧ n ≤ 255 := by
      have := h.hl
      unfold crvChk at h0
      split at h0
      · cases h0
      · split at h0
        · cases h0
        · split at h0
          · cases h0
          · omega
    obtain ⟨ad, hA, hab, _⟩ := h.hR.2 (by omega)
    have hd : l[n-1]? = some (l[n-1]'(by have := h.hl; omega)) := List.getElem?_eq_getElem _
    exact ⟨ad, _, hA, hn.1, hn.2, hd, hab, rI_at h.hR hA hd⟩
  generalize hch : crvChk base kind l fl = ch at *
  have HB := h.hB
  clear hch h
  unfold crvV at *
  go_enter Tryz.func46, Tryz.ntmps46
  go_wp2_with fail
  refine (CC.out _).mono ?_
  rintro e w' ⟨rfl, hbe⟩
  have hbw : Below w.heap.size w w' := ((Below.refl _ w).alloc (Nat.le_refl _) _).trans (hbe.mono (by simp))
  by_cases h0 : ch = 0
  · subst h0
    obtain ⟨ad, d, rfl, hn1, hn2, hd, hab, hc⟩ := hp.out rfl
    have hc2 : w'.cell? (ad.add (n-1)) = some (.int .i64 d) := by rw [hbw.cell (by rw [block_of_add]; omega)]; exact hc
    have hb3 : w'.cell? ⟨w.heap.size, 2, none⟩ = some (.slice (some ad) n c) := by
      have := (Blk.new w 25 #[Value.int IntKind.i64 base, Value.int IntKind.i64 kind, Value.slice (some ad) n c, Value.slice A' m c']).below hbe (by simp)
      exact this.cell 2
    have e0 : ((n : Int) - 1).toNat = n - 1 := by omega
    have hbw' := Lib.hid hbw
    clear hc hp hbe hbw
    go_wp2
    all_goals first | (exfalso; omega) | skip
    go_ret2
    exact ⟨rfl, hbw'.out⟩
  · have hbw' := Lib.hid hbw
    clear hp hbe hbw
    go_wp2
    all_goals first | (exfalso; omega) | skip
    go_ret2
    exact ⟨rfl, hbw'.out⟩

theorem step_go {P : Program} {ops : Array Oper} {oi : Oper} {a : Act} {w : World} {K : Act → World → Prop} {Q : Exit → Act → World → Prop} {E : Prop} {f : FuncId} {fn : Func} {xas : Array Operand} {ts : Array TypeId}
    (hf : P.funcs[f]? = some fn) (hname : (fn.name == "runtime.NumGoroutine") = false) (hb : fn.body.isSome = true) (hgd : oi.guard = none)
    (hop : oi.op = .call { callee := .value (.func f), args := xas, argTypes := ts }) (args : Array Value) (hargs : xas.map a.eval = args)
    (h : Calls P f args w fun e w' => ∃ v, e = .returned v ∧ K (a.put oi.dst v) w') : if Region.wanted oi (yielded ops a.tmps) = true then Oper.wp P oi a w K Q else E := by
  have hw : Region.wanted oi (yielded ops a.tmps) = true := by simp [Region.wanted, hgd]
  rw [if_pos hw]
  have h1 : fn.name ≠ "runtime.NumGoroutine" := by simpa using hname
  obtain ⟨c, hc⟩ := Option.isSome_iff_exists.1 hb
  have hrun : (execOp a.eval oi).run P w = .ok (.enter f args) w := by
    have he : (callFunc f args).run P w = .ok (.enter f args) w := by simp [callFunc, hf, h1, hc]
    unfold execOp
    simp [hop, resolve, Deferred.ofValue, invoke, Act.eval, hargs, he]
  unfold Oper.wp
  rw [hrun, Oper.upon_enter]
  refine h.mono fun e w'' hh => ?_
  obtain ⟨v, rfl, hk⟩ := hh
  exact hk
def vU (l : List Nat) : List Value := l.map (fun b : Nat => Value.int .u64 (b : Int))
theorem info43 : (Tryz.prog.info? 43).map (fun i => (i.zero, i.size, i.bytes)) = some (some (.int .u64 0), 1, 8) := by kernel_rfl

theorem fz_alloc_drew (W : World) (c : Array Value) (t : TypeId) (a : Addr) : ((W.alloc (.cells c t)).drew).frozen? a = W.frozen? a := (show ((W.alloc (.cells c t)).drew).frozen? a = (W.alloc (.cells c t)).frozen? a from rfl).trans (frozen?_alloc_cells W c t a)
theorem hgrow_cell {w w' : World} {row : Option Nat} (hg : w.grownBy w' row) {a : Addr} (hlt : a.block < w.heap.size) (hne : some a.block ≠ row) : w'.cell? a = w.cell? a := World.cell?_of_block (hg.block a.block hlt hne)
theorem hgrow_frozen {w w' : World} {row : Option Nat} (hg : w.grownBy w' row) {a : Addr} (hlt : a.block < w.heap.size) (hne : some a.block ≠ row) : w'.frozen? a = w.frozen? a := World.frozen?_of_block (hg.block a.block hlt hne)
theorem only_setRow (w : World) (g : Nat) (c : Array Value) : w.grownBy (w.setRow g c) (some g) :=
  ⟨rfl, rfl, rfl, by simp [World.setRow], fun k _ hne => by
    have : g ≠ k := fun h => hne (by rw [h])
    simp [World.setRow, Array.getElem?_modify, this]⟩
theorem size29 : (Tryz.prog.info? 29).map (·.size) = some 4 := by kernel_rfl
def OfRel (w : World) (base kind : Int) (A : Option Addr) (n c : Nat) (A' : Option Addr) (m c' : Nat) (fl : List Nat) (i : Nat) (v : Value) (wr : World) : Prop :=
  i ≤ m ∧ wr.ownsRow (w.heap.size + 3) 43 1 v i (vU (fl.take i)) ∧ Blk wr (w.heap.size + 2) 29 #[.int .i64 base, .int .i64 kind, .slice A n c, v] ∧
  Blk wr w.heap.size 25 #[.int .i64 base, .int .i64 kind, .slice A n c, .slice A' m c'] ∧ Blk wr (w.heap.size + 1) 29 #[.int .i64 0, .int .i64 0, .slice none 0 0, .slice none 0 0] ∧ Below w.heap.size w wr ∧ w.heap.size + 3 ≤ wr.heap.size
theorem of_step {w : World} {base kind : Int} {A : Option Addr} {n c : Nat} {A' : Option Addr} {m c' : Nat} {fl : List Nat} {i : Nat} {v : Value} {wr w1 : World} {f gg cap : Nat} (hi : i < m) (hf : fl[i]? = some f)
    (h : OfRel w base kind A n c A' m c' fl i v wr) (hown1 : w1.ownsRow (w.heap.size + 3) 43 1 (.slice (some ⟨gg, 0, none⟩) (i + 1) cap) (i + 1) (vU (fl.take i) ++ [.int .u64 (f : Int)]))
    (hgrow : (wr.alloc (.cells #[.int .u64 (f : Int)] 43)).drew.grownBy w1 v.ownBlock) (hlt : gg < w1.heap.size) :
    OfRel w base kind A n c A' m c' fl (i + 1) (.slice (some ⟨gg, 0, none⟩) (i + 1) cap) (w1.setCell ⟨w.heap.size + 1 + 1, 3, none⟩ (.slice (some ⟨gg, 0, none⟩) (i + 1) cap)) := by
  obtain ⟨r1, r2, r3, r4, r5, r6, r7⟩ := h
  have hv : ∀ k, k < w.heap.size + 3 → some k ≠ v.ownBlock := fun k hk he => by
    have := (r2.lt _ he.symm).1
    omega
  have hgg : w.heap.size + 3 ≤ gg := (hown1.lt gg rfl).1
  have hsz : (wr.alloc (.cells #[.int .u64 (f : Int)] 43)).drew.heap.size = wr.heap.size + 1 := by simp [World.drew]
  have hb3 : Blk w1 (w.heap.size + 2) 29 _ := ((r3.alloc _).drew).grown hgrow (hv _ (by omega))
  have hb4 : Blk w1 w.heap.size 25 _ := ((r4.alloc _).drew).grown hgrow (hv _ (by omega))
  have hb5 : Blk w1 (w.heap.size + 1) 29 _ := ((r5.alloc _).drew).grown hgrow (hv _ (by omega))
  have hbel : Below w.heap.size w (wr.alloc (.cells #[.int .u64 (f : Int)] 43)).drew := (r6.alloc (by omega) _).drew
  have hbel1 : Below w.heap.size w w1 := hbel.grown hgrow (by omega) (fun k hk => by have := (r2.lt _ hk).1; omega)
  refine ⟨by omega, ?_, ?_, ?_, ?_, ?_, ?_⟩
  · have e : vU (fl.take (i + 1)) = vU (fl.take i) ++ [.int .u64 (f : Int)] := by
      unfold vU
      rw [List.take_add_one, hf]
      simp
    rw [e]
    refine hown1.kept (row := some (w.heap.size + 1 + 1)) (only_setCell (World.grownBy.refl w1 _) (.inl rfl) _) (.inr ?_)
    simp [Value.ownBlock]; omega
  · exact hb3.set_ 3 _
  · exact hb4.far (by simp; omega) _
  · exact hb5.far (by simp) _
  · exact hbel1.setCell (by simp; omega) _
  · have := hgrow.size
    rw [hsz] at this
    simp [World.setCell]; omega
set_option maxRecDepth 100000 in
set_option maxHeartbeats 4000000 in
theorem of_any {base kind : Int} {A A' : Option Addr} {n m : Nat} (c c' : Nat) {l : List Int} {fl : List Nat} {B : Nat} (w : World) (h : CrvIn w base kind A n A' m l fl B) (hm : m ≤ 1000) :
    Calls Tryz.prog 29 #[crvV base kind A n c A' m c'] w fun e w' => ∃ (F : Option Addr) (cf : Nat), e = .returned (.agg #[.int .i64 base, .int .i64 kind, .slice A n c, .slice F m cf]) ∧ Reads w' w'.heap.size 1 F m (vU fl) ∧ Below w.heap.size w w' := by
  obtain ⟨i0, hi0, hz0, hz1, hz2⟩ := info_parts info43
  have H := Lib.hid h
  clear h
  unfold crvV at *
  go_enter Tryz.func29, Tryz.ntmps29
  go_wp2
  go_loopw [4] (fun i wr => ∃ (k : Nat) (v : Value), i = .int .i64 (k : Int) ∧ OfRel w base kind A n c A' m c' fl k v wr) (fun i _ => m - (intOf i).toNat)
  case atStart =>
    refine ⟨0, .slice none 0 0, rfl, Nat.zero_le _, ?_, ?_, ?_, ?_, ?_, ?_⟩
    · exact World.ownsRow_nil _ _ _ _
    · have h := Blk.new ((w.alloc (.cells #[.int .i64 base, .int .i64 kind, .slice A n c, .slice A' m c'] 25)).alloc (.cells #[.int .i64 0, .int .i64 0, .slice none 0 0, .slice none 0 0] 29)) 29 #[.int .i64 base, .int .i64 kind, .slice A n c, .slice none 0 0]
      have e : ((w.alloc (.cells #[.int .i64 base, .int .i64 kind, .slice A n c, .slice A' m c'] 25)).alloc (.cells #[.int .i64 0, .int .i64 0, .slice none 0 0, .slice none 0 0] 29)).heap.size = w.heap.size + 2 := by simp
      rw [e] at h
      exact h
    · exact ((Blk.new w _ _).alloc _).alloc _
    · have h := (Blk.new (w.alloc (.cells #[.int .i64 base, .int .i64 kind, .slice A n c, .slice A' m c'] 25)) 29 #[.int .i64 0, .int .i64 0, .slice none 0 0, .slice none 0 0]).alloc (.cells #[.int .i64 base, .int .i64 kind, .slice A n c, .slice none 0 0] 29)
      have e : (w.alloc (.cells #[.int .i64 base, .int .i64 kind, .slice A n c, .slice A' m c'] 25)).heap.size = w.heap.size + 1 := by simp
      rw [e] at h
      exact h
    · exact (((Below.refl _ w).alloc (Nat.le_refl _) _).alloc (by simp) _).alloc (by simp; omega) _
    · simp
  case round =>
    obtain ⟨i, v, rfl, r1, r2, r3, r4, r5, r6, r7⟩ := hrel
    have h1 := r4.cell 3
    have h1 : wr.cell? ⟨w.heap.size, 3, none⟩ = some (.slice A' m c') := h1
    have h2 := r3.cell 3
    have h2 : wr.cell? ⟨w.heap.size + 2, 3, none⟩ = some v := h2
    by_cases hlt' : i < m
    · obtain ⟨ad, hA, hab, _⟩ := H.out.hS.2 (by omega)
      obtain ⟨f, hf⟩ : ∃ f, fl[i]? = some f := ⟨_, List.getElem?_eq_getElem (by have := H.out.hf; omega)⟩
      have h3 := rF_at (H.out.hS.below (r6.mono H.out.hB)) hA hf
      subst hA
      have hfz := r3.frozen 3
      have hflt := H.out.hfl f (List.mem_of_getElem? hf)
      have CB := Lib.hid (fun W => bits_any f W)
      have hnone : v.ownBlock ≠ some (w.heap.size + 2) := fun he => by have := (r2.lt _ he).1; omega
      have hnone0 : v.ownBlock ≠ some w.heap.size := fun he => by have := (r2.lt _ he).1; omega
      have hnad : v.ownBlock ≠ some (ad.add i).block := fun he => by
        rw [block_of_add] at he
        have := (r2.lt _ he).1; have := H.out.hB; omega
      have e0 : (i : Int).toNat = i := Int.toNat_natCast i
      have HK : Hid (∀ W1 : World, ((wr.drew.alloc (.cells #[.int .u64 (f : Int)] 43))).grownBy W1 v.ownBlock → (W1.cell? ⟨w.heap.size + 2, 3, none⟩ = some v ∧ W1.frozen? ⟨w.heap.size + 2, 3, none⟩ = false ∧ W1.cell? ⟨w.heap.size, 3, none⟩ = some (.slice (some ad) m c') ∧ W1.cell? (ad.add i) = some (.float .f64 f))) := by
        intro W1 hg
        have hsz : ((wr.drew.alloc (.cells #[.int .u64 (f : Int)] 43))).heap.size = wr.heap.size + 1 := by simp
        have hal : ∀ p : Addr, p.block < wr.heap.size → ((wr.drew.alloc (.cells #[.int .u64 (f : Int)] 43))).cell? p = wr.cell? p := fun p hp => World.cell?_alloc_lt wr.drew _ p hp
        refine ⟨?_, ?_, ?_, ?_⟩
        · rw [hgrow_cell hg (by rw [hsz]; simp; omega) hnone.symm, hal _ (by simp; omega)]; exact h2
        · rw [hgrow_frozen hg (by rw [hsz]; simp; omega) hnone.symm, frozen?_alloc_cells]; exact hfz
        · rw [hgrow_cell hg (by rw [hsz]; simp; omega) hnone0.symm, hal _ (by simp; omega)]; exact h1
        · rw [hgrow_cell hg (by rw [hsz, block_of_add]; have := H.out.hB; omega) hnad.symm, hal _ (by rw [block_of_add]; have := H.out.hB; omega)]; exact h3
      have hq1 : (wr.alloc (.cells #[.int .u64 (f : Int)] 43)).cell? ⟨w.heap.size + 2, 3, none⟩ = some v := by rw [World.cell?_alloc_lt wr _ _ (by simp; omega)]; exact h2
      have hq2 : (wr.alloc (.cells #[.int .u64 (f : Int)] 43)).cell? ⟨w.heap.size + 1 + 1, 3, none⟩ = some v := hq1
      have hlt2 : w.heap.size + 1 + 1 < wr.heap.size := by omega
      go_wp2_with fail
      go_region_law (first | (refine step_go Tryz.func35 rfl (by kernel_rfl) (by rfl) (by rfl) #[.float .f64 f] (by simp [Act.eval]) ((CB.out _).mono ?_); rintro e w' ⟨rfl, rfl⟩; refine ⟨_, rfl, ?_⟩) | (refine step_append_lies _ (by rfl) _ _ _ (by rfl) (w.heap.size + 3) 43 i0 _ 1 8 Tryz.underlying27 hi0 hz0 hz1 hz2 rfl (by omega) v i (vU (fl.take i)) (by rfl) ((r2.drew).alloc _) ⟨wr.heap.size, 0, none⟩ 1 1 [.int .u64 (f : Int)] (by rfl) (by rfl) (World.news_of_block (cs := #[.int .u64 (f : Int)]) (t := 43) (fr := (0, 0)) (heap_alloc_new wr.drew _)) (by simp [Value.oneCell']) (by omega) (by simp only [maxLen]; omega) (by omega) (by simp; omega) (wr.heap.size + 1) (by simp) ?_; intro gg cap w1 hown1 hgrow hat hlt; obtain ⟨q1, q2, q3, q4⟩ := HK.out _ hgrow))
      all_goals go_wp2
      all_goals go_roundw
      all_goals first | exact ⟨i + 1, _, rfl, of_step hlt' hf ⟨r1, r2, r3, r4, r5, r6, r7⟩ hown1 hgrow hlt⟩ | (simp [intOf]; omega)
    · obtain rfl : i = m := by omega
      have e29 : (Tryz.prog.info? 29).map (·.size) = some (#[Value.int .i64 base, .int .i64 kind, .slice A n c, v] : Array Value).size := size29
      have z29 : (#[Value.int .i64 0, .int .i64 0, .slice none 0 0, .slice none 0 0] : Array Value).size = (#[Value.int .i64 base, .int .i64 kind, .slice A n c, v] : Array Value).size := rfl
      obtain ⟨F, cf, hv⟩ : ∃ F cf, v = .slice F i cf := by
        rcases r2.2 with ⟨hv, hi⟩ | ⟨g, cap, _, hv, _⟩
        · exact ⟨none, 0, by rw [hv, hi]⟩
        · exact ⟨_, _, hv⟩
      subst hv
      have h1v : (#[Value.int .i64 base, .int .i64 kind, .slice A n c, .slice F i cf] : Array Value).all (·.oneCell') = true := by simp [Value.oneCell']
      have hfl : fl.take i = fl := List.take_of_length_le (by have := H.out.hf; omega)
      have r2' := r2.kept (row := some (w.heap.size + 1)) (only_setRow wr (w.heap.size + 1) #[.int .i64 base, .int .i64 kind, .slice A n c, .slice F i cf]) (.inr fun he => by have := (r2.lt _ he).1; omega)
      have hR := Reads.of_own r2'
      rw [hfl] at hR
      have hRow := r5.setRow #[.int .i64 base, .int .i64 kind, .slice A n c, .slice F i cf]
      go_wp2_with (first | (refine wpList_load_row rfl 29 _ rfl (w.heap.size + 1 + 1) rfl 29 #[.int .i64 base, .int .i64 kind, .slice A n c, .slice F i cf] (0, 0) _ r3 Tryz.underlying29 rfl e29 ?_) | (refine wpList_store_row rfl 29 _ _ rfl (w.heap.size + 1) #[.int .i64 base, .int .i64 kind, .slice A n c, .slice F i cf] rfl rfl 29 _ r5 e29 z29 h1v ?_))
      refine bodyPost_ret (results_cell_row rfl _ _ (w.heap.size + 1) 29 #[.int .i64 base, .int .i64 kind, .slice A n c, .slice F i cf] (0, 0) _ rfl hRow Tryz.underlying29 rfl e29) rfl ?_
      exact ⟨F, cf, rfl, hR, below_setRow r6 (by omega) _⟩
end Go.Proofs.YtefaedjjecfabaaGreat.Ten

namespace Go.Proofs.YtefaedjjecfabaaGreat.Ten
open Go Go.RowKit
attribute [local go_sem] ext113 ext252 run_fneg ord_lt ord_gt ord_eq ord_ne ltoreq gtoreq
attribute [local irreducible] flt fle feq

@[irreducible] def isNb (b : Nat) : Bool := isN b
set_option maxRecDepth 100000 in
set_option maxHeartbeats 400000 in
theorem rnan_any (b : Nat) (w : World) (h : b < 18446744073709551616) : Calls Tryz.prog 195 #[.int .u64 (b : Int)] w fun e w' => e = .returned (.bool (isNb b)) ∧ w = w' := by
  have h1 := andNot_top b h
  have h2 : (decide ((9218868437227405312 : Int) < (rung b : Int))) = isNb b := by unfold isNb isN; exact decide_eq_decide.2 (by omega)
  generalize (rung b : Int) = r at *
  generalize isNb b = x at *
  go_enter Tryz.func195, Tryz.ntmps195
  go_wp2
  go_ret
  exact ⟨rfl, rfl⟩
@[irreducible] def finN (b : Nat) : Bool := fin b
set_option maxRecDepth 100000 in
set_option maxHeartbeats 400000 in
theorem rnum_any (b : Nat) (w : World) (h : b < 18446744073709551616) : Calls Tryz.prog 111 #[.int .u64 (b : Int)] w fun e w' => e = .returned (.bool (finN b)) ∧ w = w' := by
  have h1 := andNot_top b h
  have h2 : (decide ((rung b : Int) < 9218868437227405312)) = finN b := by unfold finN fin; exact decide_eq_decide.2 (by omega)
  generalize (rung b : Int) = r at *
  generalize finN b = x at *
  go_enter Tryz.func111, Tryz.ntmps111
  go_wp2
  go_ret
  exact ⟨rfl, rfl⟩
set_option maxRecDepth 100000 in
set_option maxHeartbeats 400000 in
theorem rsize_any (b : Nat) (w : World) (h : b < 18446744073709551616) : Calls Tryz.prog 112 #[.int .u64 (b : Int)] w fun e w' => e = .returned (.int .u64 (rungI b)) ∧ w = w' := by
  have h1 := andNot_top b h
  rw [← rungI_eq] at h1
  go_enter Tryz.func112, Tryz.ntmps112
  go_wp2
  go_ret
  exact ⟨rfl, rfl⟩
@[irreducible] def samev (u v : Nat) : Bool := decide (u = v) || isN u && isN v
set_option maxRecDepth 100000 in
set_option maxHeartbeats 400000 in
theorem rsame_any (u v : Nat) (w : World) (hu : u < 18446744073709551616) (hv : v < 18446744073709551616) : Calls Tryz.prog 118 #[.int .u64 (u : Int), .int .u64 (v : Int)] w fun e w' => e = .returned (.bool (samev u v)) ∧ w = w' := by
  have CU := Lib.hid (fun w => rnan_any u w hu)
  have CV := Lib.hid (fun w => rnan_any v w hv)
  have hs : Hid (samev u v = (((u : Int) == (v : Int)) || isNb u && isNb v)) := by
    show _ = _
    unfold samev isNb
    congr 1
    rw [Bool.eq_iff_iff, beq_iff_eq, decide_eq_true_iff]; omega
  by_cases h : u = v
  · have h' : ((u : Int) == (v : Int)) = true := by simp [h]
    have hs2 : Hid (samev u v = true) := by show _ = _; rw [hs.out, h']; rfl
    clear h
    go_enter Tryz.func118, Tryz.ntmps118
    go_wp2
    go_ret
    exact ⟨by rw [hs2.out]; rfl, rfl⟩
  · have h' : ((u : Int) == (v : Int)) = false := by simp only [beq_eq_false_iff_ne]; omega
    have hs2 : Hid (samev u v = (isNb u && isNb v)) := by show _ = _; rw [hs.out, h']; rfl
    clear h
    cases hu : isNb u
    · rw [hu] at CU hs2
      go_enter Tryz.func118, Tryz.ntmps118
      go_wp2_with fail
      refine (CU.out _).mono ?_; rintro e w' ⟨rfl, rfl⟩
      go_wp2
      go_ret
      exact ⟨by rw [hs2.out]; rfl, rfl⟩
    · rw [hu] at CU hs2
      rw [Bool.true_and] at hs2
      generalize isNb v = x at *
      go_enter Tryz.func118, Tryz.ntmps118
      go_wp2_with fail
      refine (CU.out _).mono ?_; rintro e w' ⟨rfl, rfl⟩
      go_wp2_with fail
      refine (CV.out _).mono ?_; rintro e w' ⟨rfl, rfl⟩
      go_wp2
      go_ret
      exact ⟨by rw [hs2.out]; rfl, rfl⟩
set_option maxRecDepth 100000 in
set_option maxHeartbeats 400000 in
theorem is_any (x u : Nat) (w : World) (hx : x < 18446744073709551616) (hu : u < 18446744073709551616) : Calls Tryz.prog 39 #[.float .f64 x, .int .u64 (u : Int)] w fun e w' => e = .returned (.bool (samev x u)) ∧ w = w' := by
  have CB := Lib.hid (fun w => bits_any x w)
  have CS := Lib.hid (fun w => rsame_any x u w hx hu)
  go_enter Tryz.func39, Tryz.ntmps39
  go_wp2_with fail
  refine (CB.out _).mono ?_; rintro e w' ⟨rfl, rfl⟩
  go_wp2_with fail
  refine (CS.out _).mono ?_; rintro e w' ⟨rfl, rfl⟩
  go_wp2
  go_ret
  exact ⟨rfl, rfl⟩
theorem rrank_f (b : Nat) : rkv b = if isNb b then 0 else rk b := by unfold rkv isNb; rfl
set_option maxRecDepth 100000 in
set_option maxHeartbeats 400000 in
theorem rrank_any (b : Nat) (w : World) (h : b < 18446744073709551616) : Calls Tryz.prog 205 #[.int .u64 (b : Int)] w fun e w' => e = .returned (.tuple #[.int .i64 (rkv b), .bool (nnan b)]) ∧ w = w' := by
  have CN := Lib.hid (fun w => rnan_any b w h)
  have e2 : nnan b = !isNb b := by unfold nnan isNb; rfl
  cases hn : isNb b
  · have e1 : rkv b = rk b := by rw [rrank_f, hn]; rfl
    rw [hn] at e2 CN
    rw [e1, e2]
    by_cases hs : 9223372036854775808 ≤ b
    · have e3 : rk b = -((b : Int) - 9223372036854775808) := by
        unfold rk
        have : sgn b = true := by unfold sgn; simp; omega
        rw [this, if_pos rfl]; unfold rung; omega
      rw [e3]
      have g0 : 0 ≤ (b : Int) := by omega
      have g1 : (b : Int) < 18446744073709551616 := by omega
      have g2 : (9223372036854775808 : Int) ≤ (b : Int) := by omega
      clear e1 e2 e3 hn hs h
      generalize (b : Int) = z at *
      go_enter Tryz.func205, Tryz.ntmps205
      go_wp2_with fail
      refine (CN.out _).mono ?_; rintro e w' ⟨rfl, rfl⟩
      go_wp2
      go_ret2
      exact ⟨rfl, rfl⟩
    · have e3 : rk b = (b : Int) := by
        unfold rk
        have : sgn b = false := by unfold sgn; simp; omega
        rw [this, if_neg (by simp)]; unfold rung; omega
      rw [e3]
      have g0 : 0 ≤ (b : Int) := by omega
      have g1 : (b : Int) < 18446744073709551616 := by omega
      have g2 : (b : Int) < 9223372036854775808 := by omega
      clear e1 e2 e3 hn hs h
      generalize (b : Int) = z at *
      go_enter Tryz.func205, Tryz.ntmps205
      go_wp2_with fail
      refine (CN.out _).mono ?_; rintro e w' ⟨rfl, rfl⟩
      go_wp2
      go_ret2
      exact ⟨rfl, rfl⟩
  · have e1 : rkv b = 0 := by rw [rrank_f, hn]; rfl
    rw [hn] at e2 CN
    rw [e1, e2]
    clear e1 e2 hn
    go_enter Tryz.func205, Tryz.ntmps205
    go_wp2_with fail
    refine (CN.out _).mono ?_; rintro e w' ⟨rfl, rfl⟩
    go_wp2
    go_ret2
    exact ⟨rfl, rfl⟩
theorem flt_rkv (u v : Nat) : flt u v = (nnan u && nnan v && decide (rkv u < rkv v)) := by
  unfold flt nnan
  cases hu : isN u
  · cases hv : isN v
    · have e1 : rkv u = rk u := by rw [rrank_f]; unfold isNb; rw [hu]; rfl
      have e2 : rkv v = rk v := by rw [rrank_f]; unfold isNb; rw [hv]; rfl
      rw [e1, e2]
    · simp
  · simp
set_option maxRecDepth 100000 in
set_option maxHeartbeats 400000 in
theorem rlt_any (u v : Nat) (w : World) (hu : u < 18446744073709551616) (hv : v < 18446744073709551616) : Calls Tryz.prog 103 #[.int .u64 (u : Int), .int .u64 (v : Int)] w fun e w' => e = .returned (.bool (flt u v)) ∧ w = w' := by
  have CU := Lib.hid (fun w => rrank_any u w hu)
  have CV := Lib.hid (fun w => rrank_any v w hv)
  rw [flt_rkv]
  generalize rkv u = a at *
  generalize rkv v = b at *
  cases hx : nnan u <;> cases hy : nnan v <;> rw [hx] at CU <;> rw [hy] at CV
  all_goals
    go_enter Tryz.func103, Tryz.ntmps103
    go_wp2_with fail
    refine (CU.out _).mono ?_; rintro e w' ⟨rfl, rfl⟩
    go_wp2_with fail
    refine (CV.out _).mono ?_; rintro e w' ⟨rfl, rfl⟩
    go_wp2
    go_ret
    exact ⟨rfl, rfl⟩
end Go.Proofs.YtefaedjjecfabaaGreat.Ten

namespace Go.Proofs.YtefaedjjecfabaaGreat.Ten
open Go Go.RowKit
attribute [local go_sem] ext113 ext252 run_fneg ord_lt ord_gt ord_eq ord_ne ltoreq gtoreq
attribute [local irreducible] flt fle feq

theorem rU_at {w : World} {B n : Nat} {A : Option Addr} {l : List Nat} {ad : Addr} (hR : Reads w B 1 A n (vU l)) (hA : A = some ad) {i : Nat} {d : Nat} (hd : l[i]? = some d) : w.cell? (ad.add i) = some (.int .u64 (d : Int)) := by
  have hl : i < l.length := by
    rcases Nat.lt_or_ge i l.length with h | h
    · exact h
    · rw [List.getElem?_eq_none h] at hd; cases hd
  have hn := hR.1
  unfold vU at hn
  rw [List.length_map, Nat.mul_one] at hn
  obtain ⟨ad', e, _, hc⟩ := hR.2 (by omega)
  rw [hA] at e
  injection e with e
  subst e
  exact hc i _ (by unfold vU; rw [List.getElem?_map, hd]; rfl)
theorem finN_cls (b : Nat) : finN b = decide (cls b < 4) := by
  unfold finN fin cls
  have := rungI_eq b
  rw [this]
  apply decide_eq_decide.2
  split
  · omega
  · split
    · omega
    · split
      · omega
      · split <;> omega
set_option maxRecDepth 100000 in
set_option maxHeartbeats 1000000 in
theorem rcheck_bad (base kind : Int) (A A' : Option Addr) (n c m c' : Nat) (l : List Int) (fl : List Nat) (w : World) (hb : -9223372036854775808 ≤ base ∧ base < 9223372036854775808) (hk : -9223372036854775808 ≤ kind ∧ kind < 9223372036854775808)
    (hl : l.length = n) (hf : fl.length = m) (hn : n < 9223372036854775808) (_hm : m < 9223372036854775808)
    (hbad : (base < 0 ∨ 109572 < base) ∨ (kind < 1 ∨ 4 < kind) ∨ (n < 1 ∨ 255 < n ∨ n ≠ m)) :
    Calls Tryz.prog 45 #[crvV base kind A n c A' m c'] w fun e w' => e = .returned (.int .i64 (crvChk base kind l fl)) ∧ Below w.heap.size w w' := by
  have hBel := Lib.hid (fun o => (Below.refl w.heap.size w).alloc (Nat.le_refl _) o)
  by_cases h1 : base < 0 ∨ 109572 < base
  · have e : crvChk base kind l fl = 51 := by unfold crvChk; rw [if_pos h1]
    rw [e]
    clear hbad hl hf e
    unfold crvV
    go_enter Tryz.func45, Tryz.ntmps45
    go_wp2
    all_goals go_ret
    all_goals exact ⟨rfl, hBel.out _⟩
  · by_cases h2 : kind < 1 ∨ 4 < kind
    · have e : crvChk base kind l fl = 90 := by unfold crvChk; rw [if_neg h1, if_pos h2]
      rw [e]
      clear hbad hl hf e
      unfold crvV
      go_enter Tryz.func45, Tryz.ntmps45
      go_wp2
      all_goals go_ret
      all_goals exact ⟨rfl, hBel.out _⟩
    · have h3 : n < 1 ∨ 255 < n ∨ n ≠ m := by
        rcases hbad with h | h | h
        · exact absurd h h1
        · exact absurd h h2
        · exact h
      have e : crvChk base kind l fl = 100 := by unfold crvChk; rw [if_neg h1, if_neg h2, if_pos (by omega)]
      rw [e]
      clear hbad hl hf e
      unfold crvV
      by_cases h4 : n < 1
      · go_enter Tryz.func45, Tryz.ntmps45
        go_wp2
        all_goals go_ret
        all_goals exact ⟨rfl, hBel.out _⟩
      · by_cases h5 : 255 < n
        · go_enter Tryz.func45, Tryz.ntmps45
          go_wp2
          all_goals go_ret
          all_goals exact ⟨rfl, hBel.out _⟩
        · have h6 : ((n : Int) != (m : Int)) = true := by rw [bne_iff_ne]; omega
          clear h3
          go_enter Tryz.func45, Tryz.ntmps45
          go_wp2
          all_goals go_ret
          all_goals exact ⟨rfl, hBel.out _⟩

set_option maxRecDepth 100000 in
set_option maxHeartbeats 1000000 in
theorem rcheck_ok (base kind : Int) (A A' : Option Addr) (n c c' : Nat) (l : List Int) (fl : List Nat) (B : Nat) (w : World) 
    (hl : l.length = n) (hf : fl.length = n) (hn0 : 1 ≤ n) (hn : n ≤ 255) (hb0 : 0 ≤ base) (hb1 : base ≤ 109572) (hk0 : 1 ≤ kind) (hk1 : kind ≤ 4)
    (hd : ∀ d ∈ l, -9223372036854775808 ≤ d ∧ d < 9223372036854775808) (hfl : ∀ f ∈ fl, f < 18446744073709551616) (hR : Reads w B 1 A n (vI l)) (hS : Reads w B 1 A' n (vU fl)) (hB : B ≤ w.heap.size) :
    Calls Tryz.prog 45 #[crvV base kind A n c A' n c'] w fun e w' => e = .returned (.int .i64 (if nodesOk base l fl then 0 else 100)) ∧ Below w.heap.size w w' := by
  obtain ⟨ad, hA, hab, _⟩ := hR.2 (by omega)
  obtain ⟨ad', hA', hab', _⟩ := hS.2 (by omega)
  unfold crvV
  have HR := Lib.hid (fun o => hR.alloc hB o)
  have HS := Lib.hid (fun o => hS.alloc hB o)
  have HBL := Lib.hid (fun o => (Below.refl w.heap.size w).alloc (Nat.le_refl _) o)
  clear hR hS
  have HD := Lib.hid hd
  have HF := Lib.hid hfl
  clear hd hfl
  subst hA hA'
  obtain ⟨r, hr⟩ : ∃ r, (if nodesOk base l fl then (0:Int) else 100) = r := ⟨_, rfl⟩
  rw [hr]
  have HRR := Lib.hid hr
  clear hr
  have HL := Lib.hid hl
  have HFL := Lib.hid hf
  clear hl hf
  go_enter Tryz.func45, Tryz.ntmps45
  go_wp2
  have HR1 := Lib.hid (HR.out (Obj.cells #[Value.int IntKind.i64 base, Value.int IntKind.i64 kind, Value.slice (some ad) n c, Value.slice (some ad') n c']  29))
  have HS1 := Lib.hid (HS.out (Obj.cells #[Value.int IntKind.i64 base, Value.int IntKind.i64 kind, Value.slice (some ad) n c, Value.slice (some ad') n c']  29))
  have HB1 := Lib.hid (HBL.out (Obj.cells #[Value.int IntKind.i64 base, Value.int IntKind.i64 kind, Value.slice (some ad) n c, Value.slice (some ad') n c']  29))
  have cW := Blk.cell (Blk.new w  29 #[Value.int IntKind.i64 base, Value.int IntKind.i64 kind, Value.slice (some ad) n c, Value.slice (some ad') n c']) 3
  have cW : (w.alloc (Obj.cells #[Value.int IntKind.i64 base, Value.int IntKind.i64 kind, Value.slice (some ad) n c, Value.slice (some ad') n c']  29)).cell? ⟨w.heap.size, 3, none⟩ = some (Value.slice (some ad') n c') := cW
  have cW2 : (w.alloc (Obj.cells #[Value.int IntKind.i64 base, Value.int IntKind.i64 kind, Value.slice (some ad) n c, Value.slice (some ad') n c']  29)).cell? ⟨w.heap.size, 2, none⟩ = some (Value.slice (some ad) n c) := Blk.cell (Blk.new w  29 #[Value.int IntKind.i64 base, Value.int IntKind.i64 kind, Value.slice (some ad) n c, Value.slice (some ad') n c']) 2
  clear HR HS HBL
  generalize w.alloc (Obj.cells #[Value.int IntKind.i64 base, Value.int IntKind.i64 kind, Value.slice (some ad) n c, Value.slice (some ad') n c']  29) = W at *
  go_loop [3, 4] (fun z i => CrvRel base l fl z i) (fun _ i => n - (intOf i).toNat)
  case atStart => exact ⟨0, base, rfl, rfl, by omega, by omega, by omega, rfl⟩
  case round =>
    obtain ⟨i, z, rfl, rfl, hi, hz0, hz1, hrel⟩ := hrel
    rw [HL.out] at hi
    by_cases hlt : i < n
    · obtain ⟨d, hd⟩ : ∃ d, l[i]? = some d := ⟨_, List.getElem?_eq_getElem (by rw [HL.out]; exact hlt)⟩
      obtain ⟨f, hf⟩ : ∃ f, fl[i]? = some f := ⟨_, List.getElem?_eq_getElem (by rw [HFL.out]; exact hlt)⟩
      have c1 := rI_at HR1.out rfl hd
      have c2 := rU_at HS1.out rfl hf
      obtain ⟨hd0, hd1⟩ := HD.out d (List.mem_of_getElem? hd)
      have CC := Lib.hid (fun W => rnum_any f W (HF.out f (List.mem_of_getElem? hf)))
      have CL := Lib.hid (fun W => rlt_any 0 f W (by omega) (HF.out f (List.mem_of_getElem? hf)))
      have hfc := Lib.hid (finN_cls f)
      rw [Int.natCast_zero] at CL
      have hstep := Lib.hid (nodes_step hd hf z)
      have HREL := Lib.hid hrel
      clear hrel hd hf
      by_cases hok : okNode z d f = true
      · rw [hok, Bool.true_and] at hstep
        have hok' := hok
        unfold okNode at hok'
        simp only [Bool.and_eq_true, decide_eq_true_eq] at hok'
        obtain ⟨⟨⟨k1, k2⟩, k3⟩, k4⟩ := hok'
        have k3 : finN f = true := by rw [hfc.out]; exact decide_eq_true k3
        clear hok
        go_wp2_with (first | (go_at_call 111; refine (CC.out _).mono ?_; rintro e w' ⟨rfl, rfl⟩) | (go_at_call 103; refine (CL.out _).mono ?_; rintro e w' ⟨rfl, rfl⟩))
        go_round
        case rel => exact ⟨i + 1, d, rfl, by simp, by rw [HL.out]; omega, hd0, hd1, by rw [HREL.out, hstep.out]⟩
        case measure => simp [intOf]; omega
      · have hbad : ¬ (z < d ∧ d ≤ 109572 ∧ finN f = true ∧ flt 0 f = true) := by
          rintro ⟨k1, k2, k3, k4⟩
          apply hok
          rw [hfc.out, decide_eq_true_iff] at k3
          unfold okNode
          simp [k1, k2, k3, k4]
        have hbad := Lib.hid hbad
        have hres : Hid (r = 100) := by
          show _ = _
          rw [← HRR.out, HREL.out, hstep.out, Bool.eq_false_iff.2 hok]
          simp
        clear hok hstep HREL
        go_wp2_with (first | (go_at_call 111; refine (CC.out _).mono ?_; rintro e w' ⟨rfl, rfl⟩) | (go_at_call 103; refine (CL.out _).mono ?_; rintro e w' ⟨rfl, rfl⟩))
        all_goals first | (go_ret; exact ⟨by rw [hres.out]; rfl, HB1.out⟩) | (exfalso; apply hbad.out; refine ⟨?_, ?_, ?_, ?_⟩ <;> first | assumption | omega | simp_all)
    · obtain rfl : i = n := by omega
      have hres : Hid (r = 0) := by
        show _ = _
        rw [← HRR.out, hrel, List.drop_eq_nil_of_le (by rw [HL.out]; omega)]
        simp [nodesOk]
      clear hrel
      go_wp2
      go_ret
      exact ⟨by rw [hres.out]; rfl, HB1.out⟩

end Go.Proofs.YtefaedjjecfabaaGreat.Ten

namespace Go.Proofs.YtefaedjjecfabaaGreat.Ten
open Go Go.RowKit
attribute [local go_sem] ext113 ext252 run_fneg ord_lt ord_gt ord_eq ord_ne ltoreq gtoreq
attribute [local irreducible] flt fle feq
/-- A curve of the reference's: what lies where, and its cells. -/
structure RefIn (w : World) (base kind : Int) (A : Option Addr) (n : Nat) (A' : Option Addr) (m : Nat) (l : List Int) (fl : List Nat) (B : Nat) : Prop where
  hb : -9223372036854775808 ≤ base ∧ base < 9223372036854775808
  hk : -9223372036854775808 ≤ kind ∧ kind < 9223372036854775808
  hl : l.length = n
  hf : fl.length = m
  hn : n < 9223372036854775808
  hm : m < 9223372036854775808
  hd : ∀ d ∈ l, -9223372036854775808 ≤ d ∧ d < 9223372036854775808
  hfl : ∀ f ∈ fl, f < 18446744073709551616
  hR : Reads w B 1 A n (vI l)
  hS : Reads w B 1 A' m (vU fl)
  hB : B ≤ w.heap.size
theorem RefIn.below {w w' : World} {base kind : Int} {A : Option Addr} {n : Nat} {A' : Option Addr} {m : Nat} {l : List Int} {fl : List Nat} {B : Nat} (h : RefIn w base kind A n A' m l fl B) (hb : Below w.heap.size w w') : RefIn w' base kind A n A' m l fl B :=
  ⟨h.hb, h.hk, h.hl, h.hf, h.hn, h.hm, h.hd, h.hfl, h.hR.below (hb.mono h.hB), h.hS.below (hb.mono h.hB), Nat.le_trans h.hB hb.size⟩
theorem rcheck_any {base kind : Int} {A A' : Option Addr} {n m : Nat} (c c' : Nat) {l : List Int} {fl : List Nat} {B : Nat} (w : World) (h : RefIn w base kind A n A' m l fl B) :
    Calls Tryz.prog 45 #[crvV base kind A n c A' m c'] w fun e w' => e = .returned (.int .i64 (crvChk base kind l fl)) ∧ Below w.heap.size w w' := by
  by_cases hbad : (base < 0 ∨ 109572 < base) ∨ (kind < 1 ∨ 4 < kind) ∨ (n < 1 ∨ 255 < n ∨ n ≠ m)
  · exact rcheck_bad base kind A A' n c m c' l fl w h.hb h.hk h.hl h.hf h.hn h.hm hbad
  · have e : crvChk base kind l fl = if nodesOk base l fl then 0 else 100 := by
      unfold crvChk
      have := h.hl
      have := h.hf
      rw [if_neg (by omega), if_neg (by omega), if_neg (by omega)]
    rw [e]
    obtain rfl : n = m := by omega
    exact rcheck_ok base kind A A' n c c' l fl B w h.hl h.hf (by omega) (by omega) (by omega) (by omega) (by omega) (by omega) h.hd h.hfl h.hR h.hS h.hB
set_option maxRecDepth 100000 in
set_option maxHeartbeats 1000000 in
theorem rlast_any {base kind : Int} {A A' : Option Addr} {n m : Nat} (c c' : Nat) {l : List Int} {fl : List Nat} {B : Nat} (w : World) (h : RefIn w base kind A n A' m l fl B) :
    Calls Tryz.prog 47 #[crvV base kind A n c A' m c'] w fun e w' => (if crvChk base kind l fl ≠ 0 then e = .returned (.tuple #[.int .i64 0, .int .i64 (crvChk base kind l fl)]) else ∃ d, l[n-1]? = some d ∧ e = .returned (.tuple #[.int .i64 d, .int .i64 0])) ∧ Below w.heap.size w w' := by
  have CC := Lib.hid (fun o => rcheck_any c c' (w.alloc o) (h.below ((Below.refl _ w).alloc (Nat.le_refl _) o)))
  have hp : Hid (crvChk base kind l fl = 0 → ∃ ad d, A = some ad ∧ 1 ≤ n ∧ n ≤ 255 ∧ l[n-1]? = some d ∧ ad.block < B ∧ w.cell? (ad.add (n-1)) = some (.int .i64 d)) := by
    intro h0
    have hn : 1 ≤ n ∧ n ≤ 255 := by
      have := h.hl
      unfold crvChk at h0
      split at h0
      · cases h0
      · split at h0
        · cases h0
        · split at h0
          · cases h0
          · omega
    obtain ⟨ad, hA, hab, _⟩ := h.hR.2 (by omega)
    have hd : l[n-1]? = some (l[n-1]'(by have := h.hl; omega)) := List.getElem?_eq_getElem _
    exact ⟨ad, _, hA, hn.1, hn.2, hd, hab, rI_at h.hR hA hd⟩
  generalize hch : crvChk base kind l fl = ch at *
  have HB := h.hB
  clear hch h
  unfold crvV at *
  go_enter Tryz.func47, Tryz.ntmps47
  go_wp2_with fail
  refine (CC.out _).mono ?_
  rintro e w' ⟨rfl, hbe⟩
  have hbw : Below w.heap.size w w' := ((Below.refl _ w).alloc (Nat.le_refl _) _).trans (hbe.mono (by simp))
  by_cases h0 : ch = 0
  · subst h0
    obtain ⟨ad, d, rfl, hn1, hn2, hd, hab, hc⟩ := hp.out rfl
    have hc2 : w'.cell? (ad.add (n-1)) = some (.int .i64 d) := by rw [hbw.cell (by rw [block_of_add]; omega)]; exact hc
    have hb3 : w'.cell? ⟨w.heap.size, 2, none⟩ = some (.slice (some ad) n c) := by
      have := (Blk.new w 29 #[Value.int IntKind.i64 base, Value.int IntKind.i64 kind, Value.slice (some ad) n c, Value.slice A' m c']).below hbe (by simp)
      exact this.cell 2
    have e0 : ((n : Int) - 1).toNat = n - 1 := by omega
    have hbw' := Lib.hid hbw
    clear hc hp hbe hbw
    go_wp2
    all_goals first | (exfalso; omega) | skip
    go_ret2
    exact ⟨rfl, hbw'.out⟩
  · have hbw' := Lib.hid hbw
    clear hp hbe hbw
    go_wp2
    all_goals first | (exfalso; omega) | skip
    go_ret2
    exact ⟨rfl, hbw'.out⟩


/-- What of told is one for check and last. -/
theorem refin_of {w w' : World} {base kind : Int} {A A' F : Option Addr} {n m : Nat} {l : List Int} {fl : List Nat} {B : Nat} (h : CrvIn w base kind A n A' m l fl B) (hb : Below w.heap.size w w') (hF : Reads w' w'.heap.size 1 F m (vU fl)) :
    RefIn w' base kind A n F m l fl w'.heap.size :=
  ⟨h.hb, h.hk, h.hl, h.hf, h.hn, h.hm, h.hd, h.hfl, (h.hR.below (hb.mono h.hB)).more (Nat.le_trans h.hB hb.size), hF, Nat.le_refl _⟩

def zCrv : Value := .agg #[.int .i64 0, .int .i64 0, .slice none 0 0, .slice none 0 0]
set_option maxRecDepth 100000 in
set_option maxHeartbeats 400000 in
theorem same0_any (w : World) : Calls Tryz.prog 34 #[zCrv, zCrv] w fun e w' => e = .returned (.bool true) ∧ Below w.heap.size w w' := by
  unfold zCrv
  go_enter Tryz.func34, Tryz.ntmps34
  go_wp2
  have hb : Below w.heap.size w ((w.alloc (Obj.cells #[Value.int IntKind.i64 0, Value.int IntKind.i64 0, Value.slice none 0 0, Value.slice none 0 0] 25)).alloc (Obj.cells #[Value.int IntKind.i64 0, Value.int IntKind.i64 0, Value.slice none 0 0, Value.slice none 0 0] 29)) := ((Below.refl _ w).alloc (Nat.le_refl _) _).alloc (by simp) _
  have hB := Blk.new (w.alloc (Obj.cells #[Value.int IntKind.i64 0, Value.int IntKind.i64 0, Value.slice none 0 0, Value.slice none 0 0] 25)) 29 #[Value.int IntKind.i64 0, Value.int IntKind.i64 0, Value.slice none 0 0, Value.slice none 0 0]
  have hs : (w.alloc (Obj.cells #[Value.int IntKind.i64 0, Value.int IntKind.i64 0, Value.slice none 0 0, Value.slice none 0 0] 25)).heap.size = w.heap.size + 1 := by simp
  rw [hs] at hB
  have hc2 := hB.cell 2
  have hc3 := hB.cell 3
  have HBL := Lib.hid hb
  clear hs hB hb
  generalize ((w.alloc (Obj.cells #[Value.int IntKind.i64 0, Value.int IntKind.i64 0, Value.slice none 0 0, Value.slice none 0 0] 25)).alloc (Obj.cells #[Value.int IntKind.i64 0, Value.int IntKind.i64 0, Value.slice none 0 0, Value.slice none 0 0] 29)) = W at *
  have hc2 : W.cell? ⟨w.heap.size + 1, 2, none⟩ = some (.slice none 0 0) := hc2
  have hc3 : W.cell? ⟨w.heap.size + 1, 3, none⟩ = some (.slice none 0 0) := hc3
  go_loop [5] (fun i => i = .int .i64 0) (fun _ => 0)
  case atStart => rfl
  case round =>
    subst hrel
    go_wp2
    go_loop [6] (fun i => i = .int .i64 0) (fun _ => 0)
    case atStart => rfl
    case round =>
      subst hrel
      go_wp2
      go_ret
      exact ⟨rfl, HBL.out⟩
end Go.Proofs.YtefaedjjecfabaaGreat.Ten

namespace Go.Proofs.YtefaedjjecfabaaGreat.Ten
open Go Go.RowKit
attribute [local go_sem] ext113 ext252 run_fneg ord_lt ord_gt ord_eq ord_ne ltoreq gtoreq
attribute [local irreducible] flt fle feq

theorem below_box {w w' : World} {o : Obj} (hbe : Below (w.alloc o).heap.size (w.alloc o) w') : Below w.heap.size w w' := ((Below.refl _ w).alloc (Nat.le_refl _) _).trans (hbe.mono (by simp))

theorem results_cell_tmp {P : Program} {fn : Func} {p q : Tmp} {ty : TypeId} (h : fn.results = #[.cell p ty, .tmp q]) (tmps : Array Value) (w : World) (g : Nat) (t : TypeId) (cs : Array Value) (fr : Nat × Nat) (d : TypeDesc)
    (hp : tmps.getD p undef = .pointer (some ⟨g, 0, none⟩)) (hg : w.heap[g]? = some (.cells cs t fr))
    (hu : P.underlying ty = some d) (hd : (match d with | .struct _ | .array _ _ => true | _ => false) = true) (hi : (P.info? ty).map (·.size) = some cs.size) :
    (results fn tmps).run P w = .ok (.tuple #[.agg cs, tmps.getD q undef]) w := by
  have hp' : tmps[p]?.getD undef = .pointer (some ⟨g, 0, none⟩) := by simpa using hp
  simp [results, h, hp', asAddr, run_loadVar_row w g t ty cs fr d hg hu hd hi]
theorem size25 : (Tryz.prog.info? 25).map (·.size) = some 4 := by kernel_rfl
set_option maxRecDepth 100000 in
set_option maxHeartbeats 1000000 in
theorem factor_err {base kind : Int} {A A' : Option Addr} {n m : Nat} (c c' : Nat) {l : List Int} {fl : List Nat} {B : Nat} (w : World) (h : CrvIn w base kind A n A' m l fl B) (he : crvChk base kind l fl ≠ 0) (x : Int) :
    Calls Tryz.prog 37 #[crvV base kind A n c A' m c', .int .i64 x] w fun e w' => e = .returned (.tuple #[.float .f64 0, .int .i64 (crvChk base kind l fl)]) ∧ Below w.heap.size w w' := by
  have H := Lib.hid h
  have CC := Lib.hid (fun o => crvcheck_any c c' (w.alloc o) (h.below ((Below.refl _ w).alloc (Nat.le_refl _) o)))
  have CC0 := Lib.hid (crvcheck_any c c' w h)
  generalize hch : crvChk base kind l fl = ch at *
  have hne : (ch != 0) = true := by rw [bne_iff_ne]; exact he
  clear h he
  unfold crvV at *
  go_enter Tryz.func37, Tryz.ntmps37
  go_wp2_with fail
  first | refine (CC.out _).mono ?_ | refine (CC0.out).mono ?_
  rintro e w' ⟨rfl, hbe⟩
  have hbw' : Hid (Below w.heap.size w w') := by first | exact below_box hbe | exact hbe
  clear hbe
  go_wp2
  go_ret2
  exact ⟨rfl, hbw'.out⟩
set_option maxRecDepth 100000 in
set_option maxHeartbeats 1000000 in
theorem falls_err {base kind : Int} {A A' : Option Addr} {n m : Nat} (c c' : Nat) {l : List Int} {fl : List Nat} {B : Nat} (w : World) (h : CrvIn w base kind A n A' m l fl B) (he : crvChk base kind l fl ≠ 0) :
    Calls Tryz.prog 30 #[crvV base kind A n c A' m c'] w fun e w' => e = .returned (.tuple #[.bool false, .int .i64 (crvChk base kind l fl)]) ∧ Below w.heap.size w w' := by
  have H := Lib.hid h
  have CC := Lib.hid (fun o => crvcheck_any c c' (w.alloc o) (h.below ((Below.refl _ w).alloc (Nat.le_refl _) o)))
  have CC0 := Lib.hid (crvcheck_any c c' w h)
  generalize hch : crvChk base kind l fl = ch at *
  have hne : (ch != 0) = true := by rw [bne_iff_ne]; exact he
  clear h he
  unfold crvV at *
  go_enter Tryz.func30, Tryz.ntmps30
  go_wp2_with fail
  first | refine (CC.out _).mono ?_ | refine (CC0.out).mono ?_
  rintro e w' ⟨rfl, hbe⟩
  have hbw' : Hid (Below w.heap.size w w') := by first | exact below_box hbe | exact hbe
  clear hbe
  go_wp2
  go_ret2
  exact ⟨rfl, hbw'.out⟩
set_option maxRecDepth 100000 in
set_option maxHeartbeats 1000000 in
theorem single_err {base kind : Int} {A A' : Option Addr} {n m : Nat} (c c' : Nat) {l : List Int} {fl : List Nat} {B : Nat} (w : World) (h : CrvIn w base kind A n A' m l fl B) (he : crvChk base kind l fl ≠ 0) :
    Calls Tryz.prog 32 #[crvV base kind A n c A' m c'] w fun e w' => e = .returned (.tuple #[zCrv, .int .i64 (crvChk base kind l fl)]) ∧ Below w.heap.size w w' := by
  have H := Lib.hid h
  have CC := Lib.hid (fun o => crvcheck_any c c' (w.alloc o) (h.below ((Below.refl _ w).alloc (Nat.le_refl _) o)))
  have CC0 := Lib.hid (crvcheck_any c c' w h)
  generalize hch : crvChk base kind l fl = ch at *
  have hne : (ch != 0) = true := by rw [bne_iff_ne]; exact he
  clear h he
  unfold crvV at *
  have CCW := Lib.hid (fun W (hW : Below w.heap.size w W) => (show Calls Tryz.prog 44 #[Value.agg #[Value.int IntKind.i64 base, Value.int IntKind.i64 kind, Value.slice A n c, Value.slice A' m c']] W (fun e w' => e = Ending.returned (Value.int IntKind.i64 ch) ∧ Below W.heap.size W w') from hch ▸ crvcheck_any c c' W (H.out.below hW)))
  clear CC CC0 hch
  go_enter Tryz.func32, Tryz.ntmps32
  go_wp2_with fail
  have hb0 : Below w.heap.size w ((w.alloc (Obj.cells #[Value.int IntKind.i64 base, Value.int IntKind.i64 kind, Value.slice A n c, Value.slice A' m c'] 25)).alloc (Obj.cells #[Value.int IntKind.i64 0, Value.int IntKind.i64 0, Value.slice none 0 0, Value.slice none 0 0] 25)) := ((Below.refl _ w).alloc (Nat.le_refl _) _).alloc (by simp) _
  have hB := Blk.new (w.alloc (Obj.cells #[Value.int IntKind.i64 base, Value.int IntKind.i64 kind, Value.slice A n c, Value.slice A' m c'] 25)) 25 #[Value.int IntKind.i64 0, Value.int IntKind.i64 0, Value.slice none 0 0, Value.slice none 0 0]
  have hs : (w.alloc (Obj.cells #[Value.int IntKind.i64 base, Value.int IntKind.i64 kind, Value.slice A n c, Value.slice A' m c'] 25)).heap.size = w.heap.size + 1 := by simp
  rw [hs] at hB
  refine (CCW.out _ hb0).mono ?_
  rintro e w' ⟨rfl, hbe⟩
  have hB' := hB.below hbe hB.lt
  have hbw' := hb0.trans (hbe.mono hb0.size)
  have e25 : (Tryz.prog.info? 25).map (·.size) = some (#[Value.int IntKind.i64 0, Value.int IntKind.i64 0, Value.slice none 0 0, Value.slice none 0 0] : Array Value).size := size25
  have h1v : (#[Value.int IntKind.i64 0, Value.int IntKind.i64 0, Value.slice none 0 0, Value.slice none 0 0] : Array Value).all (·.oneCell') = true := by simp [Value.oneCell']
  have hRow := hB'.setRow #[Value.int IntKind.i64 0, Value.int IntKind.i64 0, Value.slice none 0 0, Value.slice none 0 0]
  have hbw2 := Lib.hid (below_setRow hbw' (show w.heap.size ≤ w.heap.size + 1 by omega) #[Value.int IntKind.i64 0, Value.int IntKind.i64 0, Value.slice none 0 0, Value.slice none 0 0])
  clear hbe hb0 hB hs hbw'
  go_wp2_with (first | (refine wpList_store_row rfl 25 _ _ rfl (w.heap.size + 1) #[Value.int IntKind.i64 0, Value.int IntKind.i64 0, Value.slice none 0 0, Value.slice none 0 0] rfl rfl 25 _ hB' e25 rfl h1v ?_))
  refine bodyPost_ret (results_cell_tmp rfl _ _ (w.heap.size + 1) 25 #[Value.int IntKind.i64 0, Value.int IntKind.i64 0, Value.slice none 0 0, Value.slice none 0 0] (0, 0) _ rfl hRow Tryz.underlying25 rfl e25) rfl ?_
  exact ⟨rfl, hbw2.out⟩
end Go.Proofs.YtefaedjjecfabaaGreat.Ten

namespace Go.Proofs.YtefaedjjecfabaaGreat.Ten
open Go Go.RowKit
attribute [local go_sem] ext113 ext252 run_fneg ord_lt ord_gt ord_eq ord_ne ltoreq gtoreq
attribute [local irreducible] flt fle feq
theorem hb2 (w : World) (o o' : Obj) : Below w.heap.size w ((w.alloc o).alloc o') := ((Below.refl _ w).alloc (Nat.le_refl _) _).alloc (by simp) _
set_option maxRecDepth 100000 in
set_option maxHeartbeats 1000000 in
theorem forward_err {base kind : Int} {A A' : Option Addr} {n m : Nat} (c c' : Nat) {l : List Int} {fl : List Nat} {B : Nat} (w : World) (h : CrvIn w base kind A n A' m l fl B) (he : crvChk base kind l fl ≠ 0) (k : Int) (cs : Array Value) (x y : Int) :
    Calls Tryz.prog 40 #[crvV base kind A n c A' m c', .int .i64 k, .agg cs, .int .i64 x, .int .i64 y] w fun e w' => e = .returned (.tuple #[.float .f64 0, .int .i64 (crvChk base kind l fl)]) ∧ Below w.heap.size w w' := by
  have CF := Lib.hid (fun W (hW : Below w.heap.size w W) => factor_err c c' W (h.below hW) he x)
  generalize hch : crvChk base kind l fl = ch at *
  have hne : (ch != 0) = true := by rw [bne_iff_ne]; exact he
  clear h he
  unfold crvV at *
  go_enter Tryz.func40, Tryz.ntmps40
  go_wp2_with fail
  refine (CF.out _ (hb2 w _ _)).mono ?_
  rintro e w' ⟨rfl, hbe⟩
  have HB := Lib.hid ((hb2 w _ _).trans (hbe.mono (hb2 w _ _).size))
  clear hbe CF
  go_wp2
  go_ret2
  exact ⟨rfl, HB.out⟩
set_option maxRecDepth 100000 in
set_option maxHeartbeats 1000000 in
theorem zero_err {base kind : Int} {A A' : Option Addr} {n m : Nat} (c c' : Nat) {l : List Int} {fl : List Nat} {B : Nat} (w : World) (h : CrvIn w base kind A n A' m l fl B) (he : crvChk base kind l fl ≠ 0) (r k : Int) (cs : Array Value) (x : Int) :
    Calls Tryz.prog 42 #[crvV base kind A n c A' m c', .int .i64 r, .int .i64 k, .agg cs, .int .i64 x] w fun e w' => e = .returned (.tuple #[.float .f64 0, .int .i64 (crvChk base kind l fl)]) ∧ Below w.heap.size w w' := by
  have CF := Lib.hid (fun W (hW : Below w.heap.size w W) => factor_err c c' W (h.below hW) he x)
  generalize hch : crvChk base kind l fl = ch at *
  have hne : (ch != 0) = true := by rw [bne_iff_ne]; exact he
  clear h he
  unfold crvV at *
  go_enter Tryz.func42, Tryz.ntmps42
  go_wp2_with fail
  refine (CF.out _ (hb2 w _ _)).mono ?_
  rintro e w' ⟨rfl, hbe⟩
  have HB := Lib.hid ((hb2 w _ _).trans (hbe.mono (hb2 w _ _).size))
  clear hbe CF
  go_wp2
  go_ret2
  exact ⟨rfl, HB.out⟩
end Go.Proofs.YtefaedjjecfabaaGreat.Ten

namespace Go.Proofs.YtefaedjjecfabaaGreat.Ten
open Go Go.RowKit
attribute [local go_sem] ext113 ext252 run_fneg ord_lt ord_gt ord_eq ord_ne ltoreq gtoreq
attribute [local irreducible] flt fle feq
def tabNode (kind last d : Int) (f : Nat) : Bool := decide (last < d) && decide (d ≤ 109572) && decide (cls f < 4) && !(kind == 4 && !flt 0 f)
def tabOk (kind : Int) : Int → List Int → List Nat → Bool
  | last, d :: l, f :: fl => tabNode kind last d f && tabOk kind d l fl
  | _, _, _ => true
def tabV (kind : Int) (A : Option Addr) (n c : Nat) (A' : Option Addr) (m c' : Nat) : Value := .agg #[.int .i64 kind, .slice A n c, .slice A' m c']
theorem tab_step {kind : Int} {l : List Int} {fl : List Nat} {i f : Nat} {d : Int} (hd : l[i]? = some d) (hf : fl[i]? = some f) (z : Int) : tabOk kind z (l.drop i) (fl.drop i) = (tabNode kind z d f && tabOk kind d (l.drop (i + 1)) (fl.drop (i + 1))) := by
  have h1 : i < l.length := by
    rcases Nat.lt_or_ge i l.length with h | h
    · exact h
    · rw [List.getElem?_eq_none h] at hd; cases hd
  have h2 : i < fl.length := by
    rcases Nat.lt_or_ge i fl.length with h | h
    · exact h
    · rw [List.getElem?_eq_none h] at hf; cases hf
  rw [List.drop_eq_getElem_cons h1, List.drop_eq_getElem_cons h2, tabOk]
  rw [List.getElem?_eq_getElem h1] at hd
  rw [List.getElem?_eq_getElem h2] at hf
  injection hd with hd
  injection hf with hf
  rw [hd, hf]
def TabRel (kind base : Int) (l : List Int) (fl : List Nat) (last iv : Value) : Prop := ∃ (i : Nat) (z : Int), last = .int .i64 z ∧ iv = .int .i64 (i : Int) ∧ i ≤ l.length ∧ -9223372036854775808 ≤ z ∧ z < 9223372036854775808 ∧ tabOk kind base l fl = tabOk kind z (l.drop i) (fl.drop i)
set_option maxRecDepth 100000 in
set_option maxHeartbeats 1000000 in
theorem tabcheck_ok (kind : Int) (A A' : Option Addr) (n c c' : Nat) (l : List Int) (fl : List Nat) (B : Nat) (w : World) 
    (hl : l.length = n) (hf : fl.length = n) (hn0 : 1 ≤ n) (hn : n ≤ 256) (hk0 : 1 ≤ kind) (hk1 : kind ≤ 4)
    (hd : ∀ d ∈ l, -9223372036854775808 ≤ d ∧ d < 9223372036854775808) (hfl : ∀ f ∈ fl, f < 18446744073709551616) (hR : Reads w B 1 A n (vI l)) (hS : Reads w B 1 A' n (vF fl)) (hB : B ≤ w.heap.size) :
    Calls Tryz.prog 296 #[tabV kind A n c A' n c'] w fun e w' => e = .returned (.int .i64 (if tabOk kind (-1) l fl then 0 else 100)) ∧ Below w.heap.size w w' := by
  obtain ⟨ad, hA, hab, _⟩ := hR.2 (by omega)
  obtain ⟨ad', hA', hab', _⟩ := hS.2 (by omega)
  unfold tabV
  have HR := Lib.hid (fun o => hR.alloc hB o)
  have HS := Lib.hid (fun o => hS.alloc hB o)
  have HBL := Lib.hid (fun o => (Below.refl w.heap.size w).alloc (Nat.le_refl _) o)
  clear hR hS
  have HD := Lib.hid hd
  have HF := Lib.hid hfl
  clear hd hfl
  subst hA hA'
  obtain ⟨r, hr⟩ : ∃ r, (if tabOk kind (-1) l fl then (0:Int) else 100) = r := ⟨_, rfl⟩
  rw [hr]
  have HRR := Lib.hid hr
  clear hr
  have HL := Lib.hid hl
  have HFL := Lib.hid hf
  clear hl hf
  go_enter Tryz.func296, Tryz.ntmps296
  go_wp2
  have HR1 := Lib.hid (HR.out (Obj.cells #[Value.int IntKind.i64 kind, Value.slice (some ad) n c, Value.slice (some ad') n c'] 157))
  have HS1 := Lib.hid (HS.out (Obj.cells #[Value.int IntKind.i64 kind, Value.slice (some ad) n c, Value.slice (some ad') n c'] 157))
  have HB1 := Lib.hid (HBL.out (Obj.cells #[Value.int IntKind.i64 kind, Value.slice (some ad) n c, Value.slice (some ad') n c'] 157))
  have cW := Blk.cell (Blk.new w 157 #[Value.int IntKind.i64 kind, Value.slice (some ad) n c, Value.slice (some ad') n c']) 2
  have cW : (w.alloc (Obj.cells #[Value.int IntKind.i64 kind, Value.slice (some ad) n c, Value.slice (some ad') n c'] 157)).cell? ⟨w.heap.size, 2, none⟩ = some (Value.slice (some ad') n c') := cW
  clear HR HS HBL
  have cW0 : (w.alloc (Obj.cells #[Value.int IntKind.i64 kind, Value.slice (some ad) n c, Value.slice (some ad') n c'] 157)).cell? ⟨w.heap.size, 0, none⟩ = some (Value.int .i64 kind) := Blk.cell (Blk.new w 157 #[Value.int IntKind.i64 kind, Value.slice (some ad) n c, Value.slice (some ad') n c']) 0
  generalize w.alloc (Obj.cells #[Value.int IntKind.i64 kind, Value.slice (some ad) n c, Value.slice (some ad') n c'] 157) = W at *
  go_loop [3, 37] (fun z i => TabRel kind (-1) l fl z i) (fun _ i => n - (intOf i).toNat)
  case atStart => exact ⟨0, -1, rfl, rfl, by omega, by omega, by omega, rfl⟩
  case round =>
    obtain ⟨i, z, rfl, rfl, hi, hz0, hz1, hrel⟩ := hrel
    rw [HL.out] at hi
    by_cases hlt : i < n
    · obtain ⟨d, hd⟩ : ∃ d, l[i]? = some d := ⟨_, List.getElem?_eq_getElem (by rw [HL.out]; exact hlt)⟩
      obtain ⟨f, hf⟩ : ∃ f, fl[i]? = some f := ⟨_, List.getElem?_eq_getElem (by rw [HFL.out]; exact hlt)⟩
      have c1 := rI_at HR1.out rfl hd
      have c2 := rF_at HS1.out rfl hf
      obtain ⟨hd0, hd1⟩ := HD.out d (List.mem_of_getElem? hd)
      have CC := Lib.hid (fun W => class_any f W (HF.out f (List.mem_of_getElem? hf)))
      have hstep := Lib.hid (tab_step (kind := kind) hd hf z)
      have HREL := Lib.hid hrel
      clear hrel hd hf
      obtain ⟨b4, hb4⟩ : ∃ b4, (kind == 4) = b4 := ⟨_, rfl⟩
      have htn : Hid (tabNode kind z d f = (decide (z < d) && decide (d ≤ 109572) && decide (cls f < 4) && !(b4 && !flt 0 f))) := by show _ = _; unfold tabNode; rw [hb4]
      by_cases hok : z < d ∧ d ≤ 109572 ∧ cls f < 4 ∧ (b4 = true → flt 0 f = true)
      · obtain ⟨k1, k2, k3, k4⟩ := hok
        have hstep2 : Hid (tabOk kind z (l.drop i) (fl.drop i) = tabOk kind d (l.drop (i + 1)) (fl.drop (i + 1))) := by
          show _ = _
          rw [hstep.out, htn.out, decide_eq_true k1, decide_eq_true k2, decide_eq_true k3]
          cases b4
          · rfl
          · rw [k4 rfl]; rfl
        cases b4
        · clear k4
          go_wp2_with ((go_at_call 107; refine (CC.out _).mono ?_; rintro e w' ⟨rfl, rfl⟩))
          go_round
          case rel => exact ⟨i + 1, d, rfl, by simp, by rw [HL.out]; omega, hd0, hd1, by rw [HREL.out, hstep2.out]⟩
          case measure => simp [intOf]; omega
        · have k4 := k4 rfl
          go_wp2_with ((go_at_call 107; refine (CC.out _).mono ?_; rintro e w' ⟨rfl, rfl⟩))
          go_round
          case rel => exact ⟨i + 1, d, rfl, by simp, by rw [HL.out]; omega, hd0, hd1, by rw [HREL.out, hstep2.out]⟩
          case measure => simp [intOf]; omega
      · have hbad := Lib.hid hok
        have hres : Hid (r = 100) := by
          show _ = _
          have : tabNode kind z d f = false := by
            rw [htn.out, Bool.eq_false_iff]
            intro hx
            simp only [Bool.and_eq_true, decide_eq_true_eq] at hx
            obtain ⟨⟨⟨k1, k2⟩, k3⟩, k4⟩ := hx
            refine hok ⟨k1, k2, k3, fun h4 => ?_⟩
            rw [h4] at k4
            cases hf : flt 0 f
            · rw [hf] at k4; cases k4
            · rfl
          rw [← HRR.out, HREL.out, hstep.out, this]
          simp
        clear hok hstep HREL htn
        cases b4
        · go_wp2_with ((go_at_call 107; refine (CC.out _).mono ?_; rintro e w' ⟨rfl, rfl⟩))
          all_goals first | (go_ret; exact ⟨by rw [hres.out]; rfl, HB1.out⟩) | (exfalso; apply hbad.out; refine ⟨?_, ?_, ?_, ?_⟩ <;> first | assumption | omega | simp_all)
        · go_wp2_with ((go_at_call 107; refine (CC.out _).mono ?_; rintro e w' ⟨rfl, rfl⟩))
          all_goals first | (go_ret; exact ⟨by rw [hres.out]; rfl, HB1.out⟩) | (exfalso; apply hbad.out; refine ⟨?_, ?_, ?_, ?_⟩ <;> first | assumption | omega | simp_all)
    · obtain rfl : i = n := by omega
      have hres : Hid (r = 0) := by
        show _ = _
        rw [← HRR.out, hrel, List.drop_eq_nil_of_le (by rw [HL.out]; omega)]
        simp [tabOk]
      clear hrel
      go_wp2
      go_ret
      exact ⟨by rw [hres.out]; rfl, HB1.out⟩

end Go.Proofs.YtefaedjjecfabaaGreat.Ten
