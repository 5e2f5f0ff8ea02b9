/- The walk through a chunk's columns: an iterator of two variables. -/
import Derived.RangeFuncBox
import Derived.RangeFuncLeaves
import Derived.RangeFuncCalls
import Derived.Shelf.Abstract
import Derived.OwnWalkIn
import Derived.TacticsInMore
import Derived.LoopNIn
import Derived.LoopIn
import Derived.Maps.AppendAt
import Derived.Shelf.RegionOpen
import Derived.RangeFuncNested
import Derived.Test.YtacdjinfalohnaaHeightWalks
import Derived.Test.YtacdjinfalohnaaHeld
namespace Go.Proofs.Ytacdjinfalohnaa
set_option linter.unusedVariables false
set_option linter.unusedSimpArgs false
open Go.RowKit
attribute [local go_sem] Oper.semAt_some
set_option maxHeartbeats 1000000
theorem columns_any (cx cz : Int) (w : World) :
    Calls Try.prog 17 #[.agg #[.int .i64 cx, .int .i64 cz]] w fun e w' => e = .returned (.func (.func 20) #[] #[.pointer (some ⟨w.heap.size, 0, none⟩)]) ∧ w' = w.alloc (.cells #[.int .i64 cx, .int .i64 cz] 27) := by
  go_enter Try.func17, Try.ntmps17
  go_wp2
  go_ret
  exact ⟨rfl, rfl⟩
/-- What a round that goes on keeps: what lay below n₀, and the block with the chunk. -/
def KpC (n₀ Bc : Nat) (A B : World) : Prop := Below n₀ A B ∧ B.heap[Bc]? = A.heap[Bc]?
abbrev encC (p : Oc.Col) : Array Value := #[.int .i64 p.1.1, .int .i64 p.1.2]
theorem cols_stops (F : Fence) (n : Nat) (hF : F.fn 20) (hro : F.round = none) (hn : 1 ≤ n) (n₀ Bc : Nat) (cx cz : Int) (hs : Oc.Small cx cz) (w : World) (hBc : Bc < w.heap.size)
    (hc : w.heap[Bc]? = some (.cells #[.int .i64 cx, .int .i64 cz] 27 (0, 0))) :
    SeqStopsK F n Try.prog 20 #[.pointer (some ⟨Bc, 0, none⟩)] encC (KpC n₀ Bc) (fun ys => ys = Oc.cols hs 256) (fun pre => pre <+: Oc.cols hs 256) 256 w := fun l J Jx W hW _ _ hY h0 => by
  have hcW : W.heap[Bc]? = some (.cells #[.int .i64 cx, .int .i64 cz] 27 (0, 0)) := (hW.block Bc hBc).trans hc
  clear hc hW hBc
  obtain ⟨hx0, hx1, hz0, hz1⟩ := id hs
  refine callsIn_of_wp Try.func20 rfl hF ?_ hro
  simp only [Try.ntmps20, List.size_toArray, List.length_cons, List.length_nil, Nat.reduceAdd, Nat.reduceSub, Array.replicate_succ, Array.replicate_zero, List.push_toArray, List.append_toArray, List.nil_append, List.cons_append]
  gi_wp2
  gi_loopw [5] (fun i wr => ∃ k : Nat, k ≤ 16 ∧ i = .int .i64 k ∧ J (Oc.cols hs (16 * k)) wr ∧ wr.heap[Bc]? = some (.cells #[.int .i64 cx, .int .i64 cz] 27 (0, 0))) (fun i _ => 16 - (intOf i).toNat)
  case atStart => exact ⟨0, by omega, rfl, h0, hcW⟩
  case round =>
    clear h0 hcW
    obtain ⟨k, hk, rfl, hJ, hc⟩ := hrel
    by_cases hk16 : k < 16
    · have dk : decide ((k : Int) < 16) = true := by simp; omega
      gi_wp2
      obtain ⟨wo, rfl⟩ : ∃ wo : World, wo = wr := ⟨_, rfl⟩
      gi_loopw [8] (fun i wr => ∃ j : Nat, j ≤ 16 ∧ i = .int .i64 j ∧ J (Oc.cols hs (16 * k + j)) wr ∧ wr.heap[Bc]? = some (.cells #[.int .i64 cx, .int .i64 cz] 27 (0, 0))) (fun i _ => 16 - (intOf i).toNat)
      case atStart => exact ⟨0, by omega, rfl, hJ, hc⟩
      case round =>
        clear hJ hc
        obtain ⟨j, hj, rfl, hJ, hc⟩ := hrel
        have c0 := cell_of_row wr Bc 0 _ _ _ hc
        have c1 := cell_of_row wr Bc 1 _ _ _ hc
        by_cases hj16 : j < 16
        · obtain ⟨fn, tmps, assign, body, hy, hR⟩ := hY _ (Oc.colAt hs (16 * k + j)) wr hJ (by rw [Oc.cols_length]; omega)
          have ea : encC (Oc.colAt hs (16 * k + j)) = #[.int .i64 (cx * 16 + j), .int .i64 (cz * 16 + k)] := by
            show #[Value.int .i64 (cx * 16 + (((16 * k + j) % 16 : Nat) : Int)), Value.int .i64 (cz * 16 + (((16 * k + j) / 16 % 16 : Nat) : Int))] = _
            rw [show (16 * k + j) % 16 = j by omega, show (16 * k + j) / 16 % 16 = k by omega]
          rw [ea] at hy
          clear ea
          gi_wp2
          refine hR.mono ?_
          rintro e W3 (⟨rfl, hJ3, hb3, hc3⟩ | ⟨rfl, hJx3⟩)
          · rw [Oc.cols_succ] at hJ3
            gi_wp2
            go_roundw
            case rel => exact ⟨j + 1, by omega, by go_num, hJ3, hc3.trans hc⟩
            case measure => simp [intOf]; omega
          · rw [Oc.cols_succ] at hJx3
            gi_wp2
            refine bodyPost_ret (results_none rfl _ _ _) rfl ?_
            exact ⟨⟨_, rfl⟩, .inr ⟨_, Oc.cols_prefix _ _ _ (by omega), hJx3⟩⟩
        · obtain rfl : j = 16 := by omega
          rw [show 16 * k + 16 = 16 * (k + 1) by omega] at hJ
          gi_wp2
          go_roundw
          case rel => exact ⟨k + 1, by omega, by go_num, hJ, hc⟩
          case measure => simp [intOf]; omega
    · obtain rfl : k = 16 := by omega
      gi_wp2
      go_end0
      exact ⟨⟨_, rfl⟩, .inl ⟨_, rfl, hJ⟩⟩

/-! ### A chunk's map: what one function says of each column -/
theorem cells_own {β : Type} (k : Nat) (cs : Array Value) (ty : TypeId) (fr : Nat × Nat) : Own (fun (_ : β) W => W.heap[k]? = some (.cells cs ty fr)) := fun s X Y row hs hg hrow => by
  refine (hg.block k (Array.getElem?_eq_some_iff.1 hs).1 (fun e => ?_)).trans hs
  obtain ⟨o, ho, hc⟩ := hrow k e.symm
  rw [hs] at ho; cases ho; cases hc
theorem row_other {W : World} {k : Nat} {cs : Array Value} {ty : TypeId} {fr : Nat × Nat} (h : W.heap[k]? = some (.cells cs ty fr)) {base : Nat} {e : TypeId} {size : Nat} {v : Value} {m : Nat} {xs : List Value} (hr : W.ownsRow base e size v m xs) (hte : ty ≠ e) : some k ≠ v.ownBlock := by
  rcases hr.2 with ⟨rfl, _⟩ | ⟨g, cap, cur, rfl, _, hgb, _⟩
  · simp [Value.ownBlock]
  · intro e'
    obtain rfl : k = g := by simpa [Value.ownBlock] using e'
    have := h.symm.trans hgb
    simp at this
    exact hte this.2.1
theorem row_kept {w w' : World} {base : Nat} {e : TypeId} {size : Nat} {v : Value} {m : Nat} {xs : List Value} (h : w.ownsRow base e size v m xs) (hg : w.grownBy w' none) : w'.ownsRow base e size v m xs := by
  refine h.kept hg ?_
  rcases h.2 with ⟨rfl, _⟩ | ⟨g, cap, cur, rfl, _⟩
  · exact .inl rfl
  · exact .inr (by simp [Value.ownBlock])
theorem below_own {n₀ : Nat} {w W W1 : World} {e : TypeId} {size : Nat} {v : Value} {k : Nat} {xs : List Value} (hB : Below n₀ w W) (hn : n₀ ≤ W.heap.size) (hrow : W.ownsRow n₀ e size v k xs) (hg : W.grownBy W1 v.ownBlock) : Below n₀ w W1 :=
  hB.grown hg hn (fun j ej => by
    rcases hrow.2 with ⟨rfl, _⟩ | ⟨g, cap, cur, rfl, hb, _, _⟩
    · simp [Value.ownBlock] at ej
    · obtain rfl : g = j := by simpa [Value.ownBlock] using ej
      exact hb)
theorem infoInt : (Try.prog.info? 3).map (fun i => (i.zero, i.size, i.bytes)) = some (some (.int .i64 0), 1, 8) := by kernel_rfl
theorem allOf_any (seed cx cz : Int) (h : Oc.U seed) (hs : Oc.Small cx cz) (Bc Bs : Nat) (w : World)
    (hBc : w.heap[Bc]? = some (.cells #[.int .i64 cx, .int .i64 cz] 27 (0, 0))) (hBs : w.cell? ⟨Bs, 0, none⟩ = some (.int .u64 seed)) :
    Calls Try.prog 16 #[.func (.func 8) #[] #[], .pointer (some ⟨Bc, 0, none⟩), .pointer (some ⟨Bs, 0, none⟩)] w fun e w' =>
      ∃ v, e = .returned v ∧ w'.ownsRow w.heap.size 3 1 v 256 (Oc.vals (Oc.hgt seed) (Oc.cols hs 256)) ∧ Below w.heap.size w w' := by
  refine (callsIn_wide (n := 10)).1 ?_
  refine callsIn_of_wp_marks Try.func16 rfl trivial ?_ rfl
  simp only [Try.ntmps16, List.size_toArray, List.length_cons, List.length_nil, Nat.reduceAdd, Nat.reduceSub, Array.replicate_succ, Array.replicate_zero, List.push_toArray, List.append_toArray, List.nil_append, List.cons_append]
  obtain ⟨i0, hi, hz0, hz1, hz2⟩ := info_parts infoInt
  have hBcl : Bc < w.heap.size := (Array.getElem?_eq_some_iff.1 hBc).1
  have hBsl : Bs < w.heap.size := block_lt_of_cell hBs
  gi_wp2_with (first
    | (gi_at_make; refine wpListIn_make_own _ rfl _ _ 28 rfl w.heap.size 3 i0 (.int .i64 0) 1 Try.underlying28 hi hz0 hz1 .i64 .i64 256 256 rfl rfl rfl (by rw [hz2]; decide) (by unfold maxLen; omega) (by simp) ?_; intro w1 hown hgrow1; have hB1 := ((Below.refl w.heap.size w).alloc (Nat.le_refl _) (.cells #[.func (.func 8) #[] #[]] 24)).grown hgrow1 (by simp) (fun k e => by cases e); have c0 : w1.cell? ⟨Bc, 0, none⟩ = some (.int .i64 cx) := (hB1.cell (p := ⟨Bc, 0, none⟩) hBcl).trans (cell_of_row w Bc 0 _ _ _ hBc); have c1 : w1.cell? ⟨Bc, 1, none⟩ = some (.int .i64 cz) := (hB1.cell (p := ⟨Bc, 1, none⟩) hBcl).trans (cell_of_row w Bc 1 _ _ _ hBc); have hz3 := hB1.size; have hBc1 : Bc < w1.heap.size := by omega)
    | (refine ⟨trivial, ?_⟩; gi_at_call 17; refine (callsIn_wide.2 (columns_any _ _ _)).mono ?_; rintro e w' ⟨rfl, rfl⟩))
  have hB0 : Below w.heap.size w ((w1.alloc (.cells #[.slice (some ⟨w.heap.size + 1, 0, none⟩) 0 256] 28)).alloc (.cells #[.int .i64 cx, .int .i64 cz] 27)) := (hB1.alloc hz3 _).alloc (by simp; omega) _
  have bof : Boxed w1 w.heap.size 24 (.func (.func 8) #[] #[]) := (Boxed.new w _ _).kept hgrow1 (by simp)
  have bl := Boxed.new w1 28 (.slice (some ⟨w.heap.size + 1, 0, none⟩) 0 256)
  rw [show (w.alloc (.cells #[.func (.func 8) #[] #[]] 24)).heap.size = w.heap.size + 1 by simp] at hown
  refine wpIn_rangeFunc_ownG rfl (by omega) (gf := 20) (lb := #[.pointer (some ⟨w1.heap.size + 1, 0, none⟩)]) rfl trivial (enters_of Try.func20 (by kernel_rfl) rfl)
    (cols_stops Fence.wide 9 trivial rfl (by omega) w.heap.size (w1.heap.size + 1) cx cz hs _ (by simp) (by have := heap_alloc_new (w1.alloc (.cells #[.slice (some ⟨w.heap.size + 1, 0, none⟩) 0 256] 28)) (.cells #[.int .i64 cx, .int .i64 cz] 27); rwa [World.size_alloc] at this))
    (fun h k => ⟨h.1.trans k.1, k.2.trans h.2⟩)
    (fun W l o o' hl hw h1 h2 => ⟨belowK_b (w := w) (Nat.le_refl _) W l o o' (by simp at hl; omega) hw h1 h2, (grownBy_putObj' W l o').block (w1.heap.size + 1) (by have := (Array.getElem?_eq_some_iff.1 hw).1; simp at hl; omega) (by intro e; injection e with e; simp at hl; omega)⟩)
    (Below.refl _ _) (fun _ => rfl)
    (fun pre W => (∃ v, Boxed W w1.heap.size 28 v ∧ W.ownsRow w.heap.size 3 1 v pre.length (Oc.vals (Oc.hgt seed) pre) ∧ True) ∧ (W.heap[w1.heap.size + 1]? = some (.cells #[.int .i64 cx, .int .i64 cz] 27 (0, 0)) ∧ Boxed W w.heap.size 24 (.func (.func 8) #[] #[])) ∧ Below w.heap.size w W)
    (fun _ _ _ => False)
    (OwnFrom.and (Own.from (holdsRow_own w.heap.size w1.heap.size 28 3 1 (fun pre => pre.length) (fun pre => Oc.vals (Oc.hgt seed) pre) (fun _ _ => True)) _) (OwnFrom.and (OwnFrom.and (Own.from (cells_own _ _ _ _) _) (Own.from (boxed_own _ _ _) _)) (ownFrom_below (Nat.le_refl _) (by simp; omega))))
    (fun _ _ _ _ _ hs _ _ => hs)
    ⟨⟨_, bl.alloc _, (hown.alloc _).alloc _, trivial⟩, ⟨by have := heap_alloc_new (w1.alloc (.cells #[.slice (some ⟨w.heap.size + 1, 0, none⟩) 0 256] 28)) (.cells #[.int .i64 cx, .int .i64 cz] 27); rwa [World.size_alloc] at this, (bof.alloc _).alloc _⟩, hB0⟩
    (fun x => { tmps := #[.func (.func 8) #[] #[], .pointer (some ⟨Bc, 0, none⟩), .pointer (some ⟨Bs, 0, none⟩), .pointer (some ⟨w.heap.size, 0, none⟩), .slice none 0 0, .pointer (some ⟨w1.heap.size, 0, none⟩), .int .i64 x.1.1, .int .i64 x.1.2, .slice (some ⟨w.heap.size + 1, 0, none⟩) 0 256, .agg #[.int .i64 cx, .int .i64 cz], .func (.func 20) #[] #[.pointer (some ⟨w1.heap.size + 1, 0, none⟩)], .int .i64 x.1.1, .int .i64 x.1.2, undef, undef, undef, undef, undef, undef, undef, undef, undef], defers := [] }) ?assign ?body ?done ?stop
  case assign =>
    intro l x W K hK
    simp only [encC]
    gi_wp2
    exact hK
  case body =>
    rintro l pre x W ⟨⟨v, hv, hrow, _⟩, ⟨hcc, hof⟩, hB⟩ hlt
    have hc := hv.cell
    have hofc := hof.cell
    have hsd : W.cell? ⟨Bs, 0, none⟩ = some (.int .u64 seed) := (hB.cell (p := ⟨Bs, 0, none⟩) hBsl).trans hBs
    have hBz := hB.size
    have hfo : Try.prog.follows .mixedOrders = true := by kernel_rfl
    have hlen : pre.length < 256 := hlt
    let hS : World → Prop := fun W' : World => W'.cell? ⟨w1.heap.size, 0, none⟩ = some v ∧ W'.cell? ⟨w.heap.size, 0, none⟩ = some (.func (.func 8) #[] #[]) ∧ W'.cell? ⟨Bs, 0, none⟩ = some (.int .u64 seed)
    have hvd : Boxed W.drew w1.heap.size 28 v := hv
    have hrowd := hrow.drew
    gi_wp2
    have hS0 : hS W.drew := ⟨hc, hofc, hsd⟩
    refine Oc.wpIn_region_T hS [8] hfo (by kernel_rfl) (by rintro ⟨_, _, h⟩; exact h) ?_
    refine Oc.anyT_take (i := 0) (v := v) rfl (by kernel_rfl) (fun _ _ _ h => h) hS0 rfl (by rintro w' ⟨h1, h2, h3⟩; go_simp) ?_
    try simp only [Act.put, List.setIfInBounds_toArray, List.set_cons_zero, List.set_cons_succ]
    refine Oc.anyT_take (i := 1) (v := .func (.func 8) #[] #[]) rfl (by kernel_rfl) (fun _ _ _ h => h) hS0 rfl (by rintro w' ⟨h1, h2, h3⟩; go_simp) ?_
    try simp only [Act.put, List.setIfInBounds_toArray, List.set_cons_zero, List.set_cons_succ]
    refine Oc.anyT_take (i := 2) (v := .int .u64 seed) rfl (by kernel_rfl) (fun _ _ _ h => h) hS0 rfl (by rintro w' ⟨h1, h2, h3⟩; go_simp) ?_
    try simp only [Act.put, List.setIfInBounds_toArray, List.set_cons_zero, List.set_cons_succ]
    refine Oc.anyT_take (i := 3) (v := .int .i64 x.1.1) rfl (by kernel_rfl) (fun _ _ _ h => h) hS0 rfl (by rintro w' ⟨h1, h2, h3⟩; go_simp) ?_
    try simp only [Act.put, List.setIfInBounds_toArray, List.set_cons_zero, List.set_cons_succ]
    refine Oc.anyT_take (i := 4) (v := .int .i64 x.1.2) rfl (by kernel_rfl) (fun _ _ _ h => h) hS0 rfl (by rintro w' ⟨h1, h2, h3⟩; go_simp) ?_
    try simp only [Act.put, List.setIfInBounds_toArray, List.set_cons_zero, List.set_cons_succ]
    refine Oc.anyT_next (i := 5) rfl (by kernel_rfl) (fun K hK => ?_)
    go_simp
    refine (of_any seed x.1.1 x.1.2 h x.2.1 x.2.2 _).mono ?_
    rintro e W3 ⟨rfl, hb3⟩
    have hg3 := Oc.only_of_below hb3 none
    have hv3 : Boxed W3 _ _ _ := Boxed.kept hvd hg3 (by simp)
    have hrow3 := row_kept hrowd hg3
    have hc3 := hv3.cell
    have hof3 : Boxed W3 _ _ _ := Boxed.kept (W := W.drew) hof hg3 (by simp)
    have hcc3 : W3.heap[w1.heap.size + 1]? = _ := (hg3.block _ (Array.getElem?_eq_some_iff.1 hcc).1 (by simp)).trans hcc
    have hB3 : Below w.heap.size w W3 := hB.drew.trans (hb3.mono hBz)
    have hsd3 : W3.cell? ⟨Bs, 0, none⟩ = some (.int .u64 seed) := (hB3.cell (p := ⟨Bs, 0, none⟩) hBsl).trans hBs
    have hBz3 := hB3.size
    refine hK _ _ (fun _ => ⟨hc3, hof3.cell, hsd3⟩) ?_
    clear hK K
    try simp only [Act.put, List.setIfInBounds_toArray, List.set_cons_zero, List.set_cons_succ]
    refine Oc.anyT_next (i := 6) rfl (by kernel_rfl) (fun K hK => ?_)
    go_simp
    refine hK _ _ (fun _ => ⟨(hv3.alloc _).cell, (hof3.alloc _).cell, ((hB3.alloc hBz3 _).cell (p := ⟨Bs, 0, none⟩) hBsl).trans hBs⟩) ?_
    clear hK K
    try simp only [Act.put, List.setIfInBounds_toArray, List.set_cons_zero, List.set_cons_succ]
    refine Oc.anyT_next (i := 7) rfl (by kernel_rfl) (fun K hK => ?_)
    refine Oc.step_append_own rfl _ _ 28 rfl w.heap.size 3 i0 (.int .i64 0) 1 8 Try.underlying28 hi hz0 hz1 hz2 rfl (by decide) _ _ _ rfl (hrow3.alloc _) ⟨W3.heap.size, 0, none⟩ 1 1 [.int .i64 (Oc.hgt seed x.1.1 x.1.2)] rfl rfl (cell_one_new _ _ _) (by simp [Value.oneCell']) (by unfold maxLen; omega) (by omega) (by simp; omega) ?_
    intro v' W4 hown' hgrow _
    obtain ⟨g', cap', rfl⟩ := ownsRow_succ hown'
    obtain ⟨hv1, hv2, hr2, hk2, hb2⟩ := hv3.appended (by decide) hrow3 hBz3 hz3 hown' hgrow
    have hc1 := hv1.cell
    have hf1 := hv1.frozen
    have hB4 : Below w.heap.size w W4 := below_own (hB3.alloc hBz3 _) (by simp; omega) (hrow3.alloc _) hgrow
    have hof4 : Boxed W4 _ _ _ := (hof3.alloc _).kept hgrow (hof3.not_row (by decide) hrow3)
    refine hK _ _ (fun _ => ⟨hc1, hof4.cell, (hB4.cell (p := ⟨Bs, 0, none⟩) hBsl).trans hBs⟩) ?_
    clear hK K
    try simp only [Act.put, List.setIfInBounds_toArray, List.set_cons_zero, List.set_cons_succ]
    refine Oc.anyT_next (i := 8) rfl (by kernel_rfl) (fun K hK => ?_)
    go_simp
    refine hK _ _ (fun h => absurd h (by decide)) ?_
    clear hK K
    refine Oc.anyT_done (by kernel_rfl) ?_ _
    have hcc4 : W4.heap[w1.heap.size + 1]? = _ := (hgrow.block _ (by have := (Array.getElem?_eq_some_iff.1 hcc3).1; simp; omega) (row_other hcc3 hrow3 (by decide))).trans ((Below.heap_alloc W3 _ _ (Array.getElem?_eq_some_iff.1 hcc3).1).trans hcc3)
    have hcc5 : (W4.setCell ⟨w1.heap.size, 0, none⟩ (.slice (some ⟨g', 0, none⟩) (pre.length + 1) cap')).heap[w1.heap.size + 1]? = _ := (Below.heap_setCell _ _ _ _ (by simp)).trans hcc4
    have hof5 : Boxed (W4.setCell ⟨w1.heap.size, 0, none⟩ (.slice (some ⟨g', 0, none⟩) (pre.length + 1) cap')) _ _ _ := (Below.heap_setCell _ _ _ _ (by have := hB1.size; have := hof.lt; have := hgrow1.size; simp at this ⊢; omega)).trans hof4
    refine ⟨?_, ⟨?_, hcc5.trans hcc.symm⟩, ⟨_, hv2, ?_, trivial⟩, ⟨hcc5, hof5⟩, ?_⟩
    · exact (((KeepsOthers.drew W).from _).trans (KeepsFrom.of_grownBy hg3 (by simp))).trans (hk2.from _)
    · exact ((Below.refl _ W).drew.trans (hb3.mono hBz)).trans hb2
    · rw [Oc.vals_snoc]
      simpa using hr2
    · exact hB3.trans hb2
  case done =>
    rintro D ys W hD rfl ⟨⟨v, hv, hrow, _⟩, _, hB⟩ hK
    have hc := hv.cell
    gi_wp2
    refine ⟨by simp, .inl ⟨_, _, rfl, run_takeDeferred hK, ?_⟩⟩
    rw [Oc.cols_length] at hrow
    exact ⟨_, results_tmp rfl _ _ _, v, rfl, ownsRow_putObj hrow _ hK rfl, hB.trans (belowK_b (w := w) (Nat.le_refl _) W D _ _ (by simp at hD; omega) hK rfl rfl)⟩
  case stop =>
    rintro D c pre W _ _ h _
    exact h.elim
theorem allBand_any (seed cx cz : Int) (h : Oc.U seed) (hs : Oc.Small cx cz) (Bc Bs : Nat) (w : World)
    (hBc : w.heap[Bc]? = some (.cells #[.int .i64 cx, .int .i64 cz] 27 (0, 0))) (hBs : w.cell? ⟨Bs, 0, none⟩ = some (.int .u64 seed)) :
    Calls Try.prog 16 #[.func (.func 9) #[] #[], .pointer (some ⟨Bc, 0, none⟩), .pointer (some ⟨Bs, 0, none⟩)] w fun e w' =>
      ∃ v, e = .returned v ∧ w'.ownsRow w.heap.size 3 1 v 256 (Oc.vals (Oc.band seed) (Oc.cols hs 256)) ∧ Below w.heap.size w w' := by
  refine (callsIn_wide (n := 10)).1 ?_
  refine callsIn_of_wp_marks Try.func16 rfl trivial ?_ rfl
  simp only [Try.ntmps16, List.size_toArray, List.length_cons, List.length_nil, Nat.reduceAdd, Nat.reduceSub, Array.replicate_succ, Array.replicate_zero, List.push_toArray, List.append_toArray, List.nil_append, List.cons_append]
  obtain ⟨i0, hi, hz0, hz1, hz2⟩ := info_parts infoInt
  have hBcl : Bc < w.heap.size := (Array.getElem?_eq_some_iff.1 hBc).1
  have hBsl : Bs < w.heap.size := block_lt_of_cell hBs
  gi_wp2_with (first
    | (gi_at_make; refine wpListIn_make_own _ rfl _ _ 28 rfl w.heap.size 3 i0 (.int .i64 0) 1 Try.underlying28 hi hz0 hz1 .i64 .i64 256 256 rfl rfl rfl (by rw [hz2]; decide) (by unfold maxLen; omega) (by simp) ?_; intro w1 hown hgrow1; have hB1 := ((Below.refl w.heap.size w).alloc (Nat.le_refl _) (.cells #[.func (.func 9) #[] #[]] 24)).grown hgrow1 (by simp) (fun k e => by cases e); have c0 : w1.cell? ⟨Bc, 0, none⟩ = some (.int .i64 cx) := (hB1.cell (p := ⟨Bc, 0, none⟩) hBcl).trans (cell_of_row w Bc 0 _ _ _ hBc); have c1 : w1.cell? ⟨Bc, 1, none⟩ = some (.int .i64 cz) := (hB1.cell (p := ⟨Bc, 1, none⟩) hBcl).trans (cell_of_row w Bc 1 _ _ _ hBc); have hz3 := hB1.size; have hBc1 : Bc < w1.heap.size := by omega)
    | (refine ⟨trivial, ?_⟩; gi_at_call 17; refine (callsIn_wide.2 (columns_any _ _ _)).mono ?_; rintro e w' ⟨rfl, rfl⟩))
  have hB0 : Below w.heap.size w ((w1.alloc (.cells #[.slice (some ⟨w.heap.size + 1, 0, none⟩) 0 256] 28)).alloc (.cells #[.int .i64 cx, .int .i64 cz] 27)) := (hB1.alloc hz3 _).alloc (by simp; omega) _
  have bof : Boxed w1 w.heap.size 24 (.func (.func 9) #[] #[]) := (Boxed.new w _ _).kept hgrow1 (by simp)
  have bl := Boxed.new w1 28 (.slice (some ⟨w.heap.size + 1, 0, none⟩) 0 256)
  rw [show (w.alloc (.cells #[.func (.func 9) #[] #[]] 24)).heap.size = w.heap.size + 1 by simp] at hown
  refine wpIn_rangeFunc_ownG rfl (by omega) (gf := 20) (lb := #[.pointer (some ⟨w1.heap.size + 1, 0, none⟩)]) rfl trivial (enters_of Try.func20 (by kernel_rfl) rfl)
    (cols_stops Fence.wide 9 trivial rfl (by omega) w.heap.size (w1.heap.size + 1) cx cz hs _ (by simp) (by have := heap_alloc_new (w1.alloc (.cells #[.slice (some ⟨w.heap.size + 1, 0, none⟩) 0 256] 28)) (.cells #[.int .i64 cx, .int .i64 cz] 27); rwa [World.size_alloc] at this))
    (fun h k => ⟨h.1.trans k.1, k.2.trans h.2⟩)
    (fun W l o o' hl hw h1 h2 => ⟨belowK_b (w := w) (Nat.le_refl _) W l o o' (by simp at hl; omega) hw h1 h2, (grownBy_putObj' W l o').block (w1.heap.size + 1) (by have := (Array.getElem?_eq_some_iff.1 hw).1; simp at hl; omega) (by intro e; injection e with e; simp at hl; omega)⟩)
    (Below.refl _ _) (fun _ => rfl)
    (fun pre W => (∃ v, Boxed W w1.heap.size 28 v ∧ W.ownsRow w.heap.size 3 1 v pre.length (Oc.vals (Oc.band seed) pre) ∧ True) ∧ (W.heap[w1.heap.size + 1]? = some (.cells #[.int .i64 cx, .int .i64 cz] 27 (0, 0)) ∧ Boxed W w.heap.size 24 (.func (.func 9) #[] #[])) ∧ Below w.heap.size w W)
    (fun _ _ _ => False)
    (OwnFrom.and (Own.from (holdsRow_own w.heap.size w1.heap.size 28 3 1 (fun pre => pre.length) (fun pre => Oc.vals (Oc.band seed) pre) (fun _ _ => True)) _) (OwnFrom.and (OwnFrom.and (Own.from (cells_own _ _ _ _) _) (Own.from (boxed_own _ _ _) _)) (ownFrom_below (Nat.le_refl _) (by simp; omega))))
    (fun _ _ _ _ _ hs _ _ => hs)
    ⟨⟨_, bl.alloc _, (hown.alloc _).alloc _, trivial⟩, ⟨by have := heap_alloc_new (w1.alloc (.cells #[.slice (some ⟨w.heap.size + 1, 0, none⟩) 0 256] 28)) (.cells #[.int .i64 cx, .int .i64 cz] 27); rwa [World.size_alloc] at this, (bof.alloc _).alloc _⟩, hB0⟩
    (fun x => { tmps := #[.func (.func 9) #[] #[], .pointer (some ⟨Bc, 0, none⟩), .pointer (some ⟨Bs, 0, none⟩), .pointer (some ⟨w.heap.size, 0, none⟩), .slice none 0 0, .pointer (some ⟨w1.heap.size, 0, none⟩), .int .i64 x.1.1, .int .i64 x.1.2, .slice (some ⟨w.heap.size + 1, 0, none⟩) 0 256, .agg #[.int .i64 cx, .int .i64 cz], .func (.func 20) #[] #[.pointer (some ⟨w1.heap.size + 1, 0, none⟩)], .int .i64 x.1.1, .int .i64 x.1.2, undef, undef, undef, undef, undef, undef, undef, undef, undef], defers := [] }) ?assign ?body ?done ?stop
  case assign =>
    intro l x W K hK
    simp only [encC]
    gi_wp2
    exact hK
  case body =>
    rintro l pre x W ⟨⟨v, hv, hrow, _⟩, ⟨hcc, hof⟩, hB⟩ hlt
    have hc := hv.cell
    have hofc := hof.cell
    have hsd : W.cell? ⟨Bs, 0, none⟩ = some (.int .u64 seed) := (hB.cell (p := ⟨Bs, 0, none⟩) hBsl).trans hBs
    have hBz := hB.size
    have hfo : Try.prog.follows .mixedOrders = true := by kernel_rfl
    have hlen : pre.length < 256 := hlt
    let hS : World → Prop := fun W' : World => W'.cell? ⟨w1.heap.size, 0, none⟩ = some v ∧ W'.cell? ⟨w.heap.size, 0, none⟩ = some (.func (.func 9) #[] #[]) ∧ W'.cell? ⟨Bs, 0, none⟩ = some (.int .u64 seed)
    have hvd : Boxed W.drew w1.heap.size 28 v := hv
    have hrowd := hrow.drew
    gi_wp2
    have hS0 : hS W.drew := ⟨hc, hofc, hsd⟩
    refine Oc.wpIn_region_T hS [8] hfo (by kernel_rfl) (by rintro ⟨_, _, h⟩; exact h) ?_
    refine Oc.anyT_take (i := 0) (v := v) rfl (by kernel_rfl) (fun _ _ _ h => h) hS0 rfl (by rintro w' ⟨h1, h2, h3⟩; go_simp) ?_
    try simp only [Act.put, List.setIfInBounds_toArray, List.set_cons_zero, List.set_cons_succ]
    refine Oc.anyT_take (i := 1) (v := .func (.func 9) #[] #[]) rfl (by kernel_rfl) (fun _ _ _ h => h) hS0 rfl (by rintro w' ⟨h1, h2, h3⟩; go_simp) ?_
    try simp only [Act.put, List.setIfInBounds_toArray, List.set_cons_zero, List.set_cons_succ]
    refine Oc.anyT_take (i := 2) (v := .int .u64 seed) rfl (by kernel_rfl) (fun _ _ _ h => h) hS0 rfl (by rintro w' ⟨h1, h2, h3⟩; go_simp) ?_
    try simp only [Act.put, List.setIfInBounds_toArray, List.set_cons_zero, List.set_cons_succ]
    refine Oc.anyT_take (i := 3) (v := .int .i64 x.1.1) rfl (by kernel_rfl) (fun _ _ _ h => h) hS0 rfl (by rintro w' ⟨h1, h2, h3⟩; go_simp) ?_
    try simp only [Act.put, List.setIfInBounds_toArray, List.set_cons_zero, List.set_cons_succ]
    refine Oc.anyT_take (i := 4) (v := .int .i64 x.1.2) rfl (by kernel_rfl) (fun _ _ _ h => h) hS0 rfl (by rintro w' ⟨h1, h2, h3⟩; go_simp) ?_
    try simp only [Act.put, List.setIfInBounds_toArray, List.set_cons_zero, List.set_cons_succ]
    refine Oc.anyT_next (i := 5) rfl (by kernel_rfl) (fun K hK => ?_)
    go_simp
    refine (band_any seed x.1.1 x.1.2 h x.2.1 x.2.2 _).mono ?_
    rintro e W3 ⟨rfl, hb3⟩
    have hg3 := Oc.only_of_below hb3 none
    have hv3 : Boxed W3 _ _ _ := Boxed.kept hvd hg3 (by simp)
    have hrow3 := row_kept hrowd hg3
    have hc3 := hv3.cell
    have hof3 : Boxed W3 _ _ _ := Boxed.kept (W := W.drew) hof hg3 (by simp)
    have hcc3 : W3.heap[w1.heap.size + 1]? = _ := (hg3.block _ (Array.getElem?_eq_some_iff.1 hcc).1 (by simp)).trans hcc
    have hB3 : Below w.heap.size w W3 := hB.drew.trans (hb3.mono hBz)
    have hsd3 : W3.cell? ⟨Bs, 0, none⟩ = some (.int .u64 seed) := (hB3.cell (p := ⟨Bs, 0, none⟩) hBsl).trans hBs
    have hBz3 := hB3.size
    refine hK _ _ (fun _ => ⟨hc3, hof3.cell, hsd3⟩) ?_
    clear hK K
    try simp only [Act.put, List.setIfInBounds_toArray, List.set_cons_zero, List.set_cons_succ]
    refine Oc.anyT_next (i := 6) rfl (by kernel_rfl) (fun K hK => ?_)
    go_simp
    refine hK _ _ (fun _ => ⟨(hv3.alloc _).cell, (hof3.alloc _).cell, ((hB3.alloc hBz3 _).cell (p := ⟨Bs, 0, none⟩) hBsl).trans hBs⟩) ?_
    clear hK K
    try simp only [Act.put, List.setIfInBounds_toArray, List.set_cons_zero, List.set_cons_succ]
    refine Oc.anyT_next (i := 7) rfl (by kernel_rfl) (fun K hK => ?_)
    refine Oc.step_append_own rfl _ _ 28 rfl w.heap.size 3 i0 (.int .i64 0) 1 8 Try.underlying28 hi hz0 hz1 hz2 rfl (by decide) _ _ _ rfl (hrow3.alloc _) ⟨W3.heap.size, 0, none⟩ 1 1 [.int .i64 (Oc.band seed x.1.1 x.1.2)] rfl rfl (cell_one_new _ _ _) (by simp [Value.oneCell']) (by unfold maxLen; omega) (by omega) (by simp; omega) ?_
    intro v' W4 hown' hgrow _
    obtain ⟨g', cap', rfl⟩ := ownsRow_succ hown'
    obtain ⟨hv1, hv2, hr2, hk2, hb2⟩ := hv3.appended (by decide) hrow3 hBz3 hz3 hown' hgrow
    have hc1 := hv1.cell
    have hf1 := hv1.frozen
    have hB4 : Below w.heap.size w W4 := below_own (hB3.alloc hBz3 _) (by simp; omega) (hrow3.alloc _) hgrow
    have hof4 : Boxed W4 _ _ _ := (hof3.alloc _).kept hgrow (hof3.not_row (by decide) hrow3)
    refine hK _ _ (fun _ => ⟨hc1, hof4.cell, (hB4.cell (p := ⟨Bs, 0, none⟩) hBsl).trans hBs⟩) ?_
    clear hK K
    try simp only [Act.put, List.setIfInBounds_toArray, List.set_cons_zero, List.set_cons_succ]
    refine Oc.anyT_next (i := 8) rfl (by kernel_rfl) (fun K hK => ?_)
    go_simp
    refine hK _ _ (fun h => absurd h (by decide)) ?_
    clear hK K
    refine Oc.anyT_done (by kernel_rfl) ?_ _
    have hcc4 : W4.heap[w1.heap.size + 1]? = _ := (hgrow.block _ (by have := (Array.getElem?_eq_some_iff.1 hcc3).1; simp; omega) (row_other hcc3 hrow3 (by decide))).trans ((Below.heap_alloc W3 _ _ (Array.getElem?_eq_some_iff.1 hcc3).1).trans hcc3)
    have hcc5 : (W4.setCell ⟨w1.heap.size, 0, none⟩ (.slice (some ⟨g', 0, none⟩) (pre.length + 1) cap')).heap[w1.heap.size + 1]? = _ := (Below.heap_setCell _ _ _ _ (by simp)).trans hcc4
    have hof5 : Boxed (W4.setCell ⟨w1.heap.size, 0, none⟩ (.slice (some ⟨g', 0, none⟩) (pre.length + 1) cap')) _ _ _ := (Below.heap_setCell _ _ _ _ (by have := hB1.size; have := hof.lt; have := hgrow1.size; simp at this ⊢; omega)).trans hof4
    refine ⟨?_, ⟨?_, hcc5.trans hcc.symm⟩, ⟨_, hv2, ?_, trivial⟩, ⟨hcc5, hof5⟩, ?_⟩
    · exact (((KeepsOthers.drew W).from _).trans (KeepsFrom.of_grownBy hg3 (by simp))).trans (hk2.from _)
    · exact ((Below.refl _ W).drew.trans (hb3.mono hBz)).trans hb2
    · rw [Oc.vals_snoc]
      simpa using hr2
    · exact hB3.trans hb2
  case done =>
    rintro D ys W hD rfl ⟨⟨v, hv, hrow, _⟩, _, hB⟩ hK
    have hc := hv.cell
    gi_wp2
    refine ⟨by simp, .inl ⟨_, _, rfl, run_takeDeferred hK, ?_⟩⟩
    rw [Oc.cols_length] at hrow
    exact ⟨_, results_tmp rfl _ _ _, v, rfl, ownsRow_putObj hrow _ hK rfl, hB.trans (belowK_b (w := w) (Nat.le_refl _) W D _ _ (by simp at hD; omega) hK rfl rfl)⟩
  case stop =>
    rintro D c pre W _ _ h _
    exact h.elim
end Go.Proofs.Ytacdjinfalohnaa
