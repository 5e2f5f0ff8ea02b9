/- The disk's sort of its files. -/
import Derived.Test.YtnlbdmciaodohaaDiskCmp
import Derived.Shelf.SlSortCmp.WholeK
import Derived.Shelf.Lay
import Derived.Ground.SlsfProg
namespace Oc
open Go Go.RowKit Go.Sort
open Go.Proofs (sortWorldK)
set_option linter.unusedVariables false
/-- A row of files lies in these cells. -/
def RowC (C : Array Value) (L : List Fl) : Prop := ∀ i x, L[i]? = some x → C[i * 3]? = some (.int .i64 x.1) ∧ C[i * 3 + 1]? = some (.int .i64 x.2.1) ∧ C[i * 3 + 2]? = some (.int .i64 x.2.2)
theorem RowC.holds {w : World} {g T : Nat} {C : Array Value} {L : List Fl} (h : RowC C L) (hw : w.heap[g]? = some (.cells C T (0, 0))) : HoldsK encF 3 w g 0 L.toArray := by
  intro j hj
  have hj' : j < L.length * 3 := by simpa using hj
  obtain ⟨x, hx⟩ : ∃ x, L[j / 3]? = some x := ⟨_, List.getElem?_eq_getElem (by omega)⟩
  obtain ⟨h0, h1, h2⟩ := h _ x hx
  refine ⟨?_, frozen_of_row w g _ _ _ hw⟩
  rw [Nat.zero_add, cell_of_row w g j _ _ _ hw, get_flatK _ _ _ _ (by simpa using hj')]
  have hd : L.toArray[j / 3]! = x := by simp [hx]
  rw [hd]
  have hm : j % 3 = 0 ∨ j % 3 = 1 ∨ j % 3 = 2 := by omega
  rcases hm with hm | hm | hm
  · rw [hm, show j = j / 3 * 3 by omega, h0]; rfl
  · rw [hm, show j = j / 3 * 3 + 1 by omega, h1]; rfl
  · rw [hm, show j = j / 3 * 3 + 2 by omega, h2]; rfl
theorem put_row {w : World} {g T : Nat} {C : Array Value} {L : List Fl} (h : RowC C L) (hw : w.heap[g]? = some (.cells C T (0, 0))) (L' : List Fl) (hl : L'.length = L.length) (n : Nat) (os : Array Obj) :
    ∃ C', (sortWorldK encF 3 w g 0 n L'.toArray os).heap[g]? = some (.cells C' T (0, 0)) ∧ C'.size = C.size ∧ RowC C' L' ∧ Turns [g] w (sortWorldK encF 3 w g 0 n L'.toArray os) := by
  have hg : g < w.heap.size := (Array.getElem?_eq_some_iff.1 hw).1
  have hgr : ∀ k, k < w.heap.size → (sortWorldK encF 3 w g 0 n L'.toArray os).heap[k]? = (w.heap.modify g (onCells (putCells id 0 (flatK encF 3 L'.toArray))))[k]? := fun k hk => by
    show ((w.heap.modify g _) ++ os)[k]? = _
    rw [Array.getElem?_append_left (by simpa using hk)]
  refine ⟨putCells id 0 (flatK encF 3 L'.toArray) C, ?_, by simp [putCells], ?_, rfl, rfl, rfl, ?_, ?_⟩
  · rw [hgr g hg, Array.getElem?_modify, if_pos rfl, hw]; rfl
  · intro i x hx
    have hi : i < L'.length := (List.getElem?_eq_some_iff.1 hx).1
    obtain ⟨y, hy⟩ : ∃ y, L[i]? = some y := ⟨_, List.getElem?_eq_getElem (by omega)⟩
    obtain ⟨h0, h1, h2⟩ := h _ y hy
    have hget : ∀ (c : Nat) (v : Value), c < 3 → C[i * 3 + c]? = some v → (putCells id 0 (flatK encF 3 L'.toArray) C)[i * 3 + c]? = some (encF x)[c]! := fun c v hc hv => by
      unfold putCells
      rw [Array.getElem?_mapIdx, hv, Option.map_some, if_pos (by simp; omega), Nat.sub_zero, get_flatK _ _ _ _ (by simp; omega), show (i * 3 + c) / 3 = i by omega, show (i * 3 + c) % 3 = c by omega]
      have hd : L'.toArray[i]! = x := by simp [hx]
      rw [hd]; rfl
    exact ⟨hget 0 _ (by omega) h0, hget 1 _ (by omega) h1, hget 2 _ (by omega) h2⟩
  · show w.heap.size ≤ ((w.heap.modify g _) ++ os).size
    simp
  · intro k hk hn
    rw [hgr k hk, Array.getElem?_modify, if_neg (by simpa using fun e => hn (by simp [e]))]
theorem swoF : SWO (Go.Proofs.ltOf cfF) where
  irrefl x := by unfold Go.Proofs.ltOf; rw [decide_eq_false_iff_not, cfF_lt]; unfold ltF; omega
  trans x y z h1 h2 := by
    unfold Go.Proofs.ltOf at *
    rw [decide_eq_true_iff, cfF_lt] at *
    unfold ltF at *; omega
  ntrans x y z h1 h2 := by
    unfold Go.Proofs.ltOf at *
    rw [decide_eq_false_iff_not, cfF_lt] at *
    unfold ltF at *; omega
/-- What the sort leaves. -/
def Risen (L : List Fl) : Prop := List.Pairwise (fun a b => ¬ ltF b a) L
end Oc
namespace Go.Proofs.Ytnlbdmciaodohaa
set_option linter.unusedVariables false
set_option linter.unusedSimpArgs false
open Go.RowKit Go.Shelf Go.Lib Go.Sort
set_option maxHeartbeats 4000000
def sortF_ren : Go.Shelf.Ren := ⟨fun | 6 => 27 | 15 => 35 | 14 => 34 | 28 => 45 | 29 => 46 | 20 => 37 | 21 => 38 | 22 => 39 | 23 => 40 | 24 => 41 | 25 => 42 | 26 => 43 | 27 => 44 | 46 => 47 | 47 => 48 | 48 => 49 | 49 => 50 | 50 => 51 | 57 => 52 | n => n,
  fun | 22 => 42 | 24 => 30 | 25 => 61 | 3 => 3 | 39 => 69 | 0 => 0 | 53 => 81 | 55 => 83 | 4 => 4 | 46 => 74 | 45 => 73 | 50 => 78 | 5 => 5 | 9 => 9 | 66 => 84 | 70 => 88 | 76 => 90 | 77 => 91 | n => n,
  fun | n => n⟩
theorem sortF : Go.Proofs.SlLaysF0.n6 Try.prog sortF_ren where
  mixed := by kernel_rfl
  f6 := ⟨ "slices.SortFunc[[]outcrop/api.File,outcrop/api.File]", by decide, Try.func27.trans (congrArg some (by kernel_rfl))⟩
  f14 := ⟨ "slices.pdqsortCmpFunc[outcrop/api.File]", by decide, Try.func34.trans (congrArg some (by kernel_rfl))⟩
  f15 := Try.func35.trans (congrArg some (by kernel_rfl))
  f20 := ⟨ "slices.insertionSortCmpFunc[outcrop/api.File]", by decide, Try.func37.trans (congrArg some (by kernel_rfl))⟩
  f21 := ⟨ "slices.heapSortCmpFunc[outcrop/api.File]", by decide, Try.func38.trans (congrArg some (by kernel_rfl))⟩
  f22 := ⟨ "slices.breakPatternsCmpFunc[outcrop/api.File]", by decide, Try.func39.trans (congrArg some (by kernel_rfl))⟩
  f23 := ⟨ "slices.choosePivotCmpFunc[outcrop/api.File]", by decide, Try.func40.trans (congrArg some (by kernel_rfl))⟩
  f24 := ⟨ "slices.reverseRangeCmpFunc[outcrop/api.File]", by decide, Try.func41.trans (congrArg some (by kernel_rfl))⟩
  f25 := ⟨ "slices.partialInsertionSortCmpFunc[outcrop/api.File]", by decide, Try.func42.trans (congrArg some (by kernel_rfl))⟩
  f26 := ⟨ "slices.partitionEqualCmpFunc[outcrop/api.File]", by decide, Try.func43.trans (congrArg some (by kernel_rfl))⟩
  f27 := ⟨ "slices.partitionCmpFunc[outcrop/api.File]", by decide, Try.func44.trans (congrArg some (by kernel_rfl))⟩
  f28 := Try.func45.trans (congrArg some (by kernel_rfl))
  f29 := Try.func46.trans (congrArg some (by kernel_rfl))
  f46 := ⟨ "slices.siftDownCmpFunc[outcrop/api.File]", by decide, Try.func47.trans (congrArg some (by kernel_rfl))⟩
  f47 := Try.func48.trans (congrArg some (by kernel_rfl))
  f48 := Try.func49.trans (congrArg some (by kernel_rfl))
  f49 := ⟨ "slices.medianAdjacentCmpFunc[outcrop/api.File]", by decide, Try.func50.trans (congrArg some (by kernel_rfl))⟩
  f50 := ⟨ "slices.medianCmpFunc[outcrop/api.File]", by decide, Try.func51.trans (congrArg some (by kernel_rfl))⟩
  f57 := ⟨ "slices.order2CmpFunc[outcrop/api.File]", by decide, Try.func52.trans (congrArg some (by kernel_rfl))⟩
  t0 := Try.underlying0
  a0 := Try.isAgg0
  z0 := Try.sizeOf0
  v0 := Try.zeroValue0
  t3 := Try.underlying3
  a3 := Try.isAgg3
  z3 := Try.sizeOf3
  v3 := Try.zeroValue3
  t4 := Try.underlying4
  a4 := Try.isAgg4
  z4 := Try.sizeOf4
  v4 := Try.zeroValue4
  t5 := Try.underlying5
  a5 := Try.isAgg5
  z5 := Try.sizeOf5
  v5 := Try.zeroValue5
  t9 := Try.underlying9
  a9 := Try.isAgg9
  z9 := Try.sizeOf9
  v9 := Try.zeroValue9
  t22 := Try.underlying42
  a22 := Try.isAgg42
  z22 := Try.sizeOf42
  v22 := Try.zeroValue42
  t25 := Try.underlying61
  a25 := Try.isAgg61
  z25 := Try.sizeOf61
  v25 := Try.zeroValue61
  t39 := Try.underlying69
  a39 := Try.isAgg69
  z39 := Try.sizeOf69
  v39 := Try.zeroValue69
  t45 := Try.underlying73
  a45 := Try.isAgg73
  z45 := Try.sizeOf73
  v45 := Try.zeroValue73
  t46 := Try.underlying74
  a46 := Try.isAgg74
  z46 := Try.sizeOf74
  v46 := Try.zeroValue74
  t50 := Try.underlying78
  a50 := Try.isAgg78
  z50 := Try.sizeOf78
  v50 := Try.zeroValue78
  t53 := Try.underlying81
  a53 := Try.isAgg81
  z53 := Try.sizeOf81
  v53 := Try.zeroValue81
  t55 := Try.underlying83
  a55 := Try.isAgg83
  z55 := Try.sizeOf83
  v55 := Try.zeroValue83
  t66 := Try.underlying84
  a66 := Try.isAgg84
  z66 := Try.sizeOf84
  v66 := Try.zeroValue84
  t70 := Try.underlying88
  a70 := Try.isAgg88
  z70 := Try.sizeOf88
  v70 := Try.zeroValue88
  t76 := Try.underlying90
  a76 := Try.isAgg90
  z76 := Try.sizeOf90
  v76 := Try.zeroValue90
  t77 := Try.underlying91
  a77 := Try.isAgg91
  z77 := Try.sizeOf91
  v77 := Try.zeroValue91
theorem closure_any (x y : Oc.Fl) (W : World) : Calls Try.prog 28 #[.agg #[.int .i64 x.1, .int .i64 x.2.1, .int .i64 x.2.2], .agg #[.int .i64 y.1, .int .i64 y.2.1, .int .i64 y.2.2]] W fun e w' => e = .returned (.int .i64 (Oc.cfF x y)) ∧ ∃ q os', w' = grow (W.drewN q) os' := by
  have hfo : Try.prog.follows .mixedOrders = true := by kernel_rfl
  obtain ⟨W2, hW2⟩ : ∃ W2, W2 = (W.alloc (.cells #[.int .i64 x.1, .int .i64 x.2.1, .int .i64 x.2.2] 30)).alloc (.cells #[.int .i64 y.1, .int .i64 y.2.1, .int .i64 y.2.2] 30) := ⟨_, rfl⟩
  let hSS : World → Prop := fun W' => W'.cell? ⟨W.heap.size, 0, none⟩ = some (.int .i64 x.1) ∧ W'.cell? ⟨W.heap.size, 1, none⟩ = some (.int .i64 x.2.1) ∧ W'.cell? ⟨W.heap.size, 2, none⟩ = some (.int .i64 x.2.2) ∧ W'.cell? ⟨W.heap.size + 1, 0, none⟩ = some (.int .i64 y.1) ∧ W'.cell? ⟨W.heap.size + 1, 1, none⟩ = some (.int .i64 y.2.1) ∧ W'.cell? ⟨W.heap.size + 1, 2, none⟩ = some (.int .i64 y.2.2)
  have hall : ∀ W' : World, W'.heap[W.heap.size]? = some (.cells #[.int .i64 x.1, .int .i64 x.2.1, .int .i64 x.2.2] 30 (0, 0)) → W'.heap[W.heap.size + 1]? = some (.cells #[.int .i64 y.1, .int .i64 y.2.1, .int .i64 y.2.2] 30 (0, 0)) → hSS W' := fun W' h1 h2 => by
    have a0 := cell_of_row W' W.heap.size 0 _ _ _ h1
    have a1 := cell_of_row W' W.heap.size 1 _ _ _ h1
    have a2 := cell_of_row W' W.heap.size 2 _ _ _ h1
    have b0 := cell_of_row W' (W.heap.size + 1) 0 _ _ _ h2
    have b1 := cell_of_row W' (W.heap.size + 1) 1 _ _ _ h2
    have b2 := cell_of_row W' (W.heap.size + 1) 2 _ _ _ h2
    simp at a0 a1 a2 b0 b1 b2
    exact ⟨a0, a1, a2, b0, b1, b2⟩
  have r1 : W2.heap[W.heap.size]? = some (.cells #[.int .i64 x.1, .int .i64 x.2.1, .int .i64 x.2.2] 30 (0, 0)) := by rw [hW2]; exact (Below.heap_alloc _ _ _ (by simp)).trans (heap_alloc_new W _)
  have r2 : W2.heap[W.heap.size + 1]? = some (.cells #[.int .i64 y.1, .int .i64 y.2.1, .int .i64 y.2.2] 30 (0, 0)) := by
    rw [hW2]
    have := heap_alloc_new (W.alloc (.cells #[.int .i64 x.1, .int .i64 x.2.1, .int .i64 x.2.2] 30)) (.cells #[.int .i64 y.1, .int .i64 y.2.1, .int .i64 y.2.2] 30)
    rwa [World.size_alloc] at this
  have Hall := @Oc.hide _ hall
  have R := Oc.hide (And.intro r1 r2)
  clear hall r1 r2
  have hS0 : hSS W2.drew := Oc.unhide Hall W2.drew (Oc.unhide R).1 (Oc.unhide R).2
  have HW2 := Oc.hide hW2
  go_enter Try.func28, Try.ntmps28
  go_wp2_with fail
  try rw [← hW2]
  clear hW2
  refine Oc.wp_region_T hSS [] hfo ?_
  refine Oc.anyT_take (i := 0) (v := .pointer (some ⟨W.heap.size, 0, none⟩)) rfl (by kernel_rfl) (fun _ _ _ h => h) hS0 rfl (by rintro w' ⟨q0, q1, q2, q3, q4, q5⟩; go_simp) ?_
  try simp only [Act.put, List.getElem_toArray, List.getElem_cons_zero, List.getElem_cons_succ, List.setIfInBounds_toArray, List.set_cons_zero, List.set_cons_succ]
  refine Oc.anyT_take (i := 1) (v := .int .i64 x.1) rfl (by kernel_rfl) (fun _ _ _ h => h) hS0 rfl (by rintro w' ⟨q0, q1, q2, q3, q4, q5⟩; go_simp) ?_
  try simp only [Act.put, List.getElem_toArray, List.getElem_cons_zero, List.getElem_cons_succ, List.setIfInBounds_toArray, List.set_cons_zero, List.set_cons_succ]
  refine Oc.anyT_take (i := 2) (v := .pointer (some ⟨W.heap.size + 1, 0, none⟩)) rfl (by kernel_rfl) (fun _ _ _ h => h) hS0 rfl (by rintro w' ⟨q0, q1, q2, q3, q4, q5⟩; go_simp) ?_
  try simp only [Act.put, List.getElem_toArray, List.getElem_cons_zero, List.getElem_cons_succ, List.setIfInBounds_toArray, List.set_cons_zero, List.set_cons_succ]
  refine Oc.anyT_take (i := 3) (v := .int .i64 y.1) rfl (by kernel_rfl) (fun _ _ _ h => h) hS0 rfl (by rintro w' ⟨q0, q1, q2, q3, q4, q5⟩; go_simp) ?_
  try simp only [Act.put, List.getElem_toArray, List.getElem_cons_zero, List.getElem_cons_succ, List.setIfInBounds_toArray, List.set_cons_zero, List.set_cons_succ]
  refine Oc.anyT_take (i := 5) (v := .pointer (some ⟨W.heap.size, 1, none⟩)) rfl (by kernel_rfl) (fun _ _ _ h => h) hS0 rfl (by rintro w' ⟨q0, q1, q2, q3, q4, q5⟩; go_simp) ?_
  try simp only [Act.put, List.getElem_toArray, List.getElem_cons_zero, List.getElem_cons_succ, List.setIfInBounds_toArray, List.set_cons_zero, List.set_cons_succ]
  refine Oc.anyT_take (i := 6) (v := .int .i64 x.2.1) rfl (by kernel_rfl) (fun _ _ _ h => h) hS0 rfl (by rintro w' ⟨q0, q1, q2, q3, q4, q5⟩; go_simp) ?_
  try simp only [Act.put, List.getElem_toArray, List.getElem_cons_zero, List.getElem_cons_succ, List.setIfInBounds_toArray, List.set_cons_zero, List.set_cons_succ]
  refine Oc.anyT_take (i := 7) (v := .pointer (some ⟨W.heap.size + 1, 1, none⟩)) rfl (by kernel_rfl) (fun _ _ _ h => h) hS0 rfl (by rintro w' ⟨q0, q1, q2, q3, q4, q5⟩; go_simp) ?_
  try simp only [Act.put, List.getElem_toArray, List.getElem_cons_zero, List.getElem_cons_succ, List.setIfInBounds_toArray, List.set_cons_zero, List.set_cons_succ]
  refine Oc.anyT_take (i := 8) (v := .int .i64 y.2.1) rfl (by kernel_rfl) (fun _ _ _ h => h) hS0 rfl (by rintro w' ⟨q0, q1, q2, q3, q4, q5⟩; go_simp) ?_
  try simp only [Act.put, List.getElem_toArray, List.getElem_cons_zero, List.getElem_cons_succ, List.setIfInBounds_toArray, List.set_cons_zero, List.set_cons_succ]
  refine Oc.anyT_take (i := 10) (v := .pointer (some ⟨W.heap.size, 2, none⟩)) rfl (by kernel_rfl) (fun _ _ _ h => h) hS0 rfl (by rintro w' ⟨q0, q1, q2, q3, q4, q5⟩; go_simp) ?_
  try simp only [Act.put, List.getElem_toArray, List.getElem_cons_zero, List.getElem_cons_succ, List.setIfInBounds_toArray, List.set_cons_zero, List.set_cons_succ]
  refine Oc.anyT_take (i := 11) (v := .int .i64 x.2.2) rfl (by kernel_rfl) (fun _ _ _ h => h) hS0 rfl (by rintro w' ⟨q0, q1, q2, q3, q4, q5⟩; go_simp) ?_
  try simp only [Act.put, List.getElem_toArray, List.getElem_cons_zero, List.getElem_cons_succ, List.setIfInBounds_toArray, List.set_cons_zero, List.set_cons_succ]
  refine Oc.anyT_take (i := 12) (v := .pointer (some ⟨W.heap.size + 1, 2, none⟩)) rfl (by kernel_rfl) (fun _ _ _ h => h) hS0 rfl (by rintro w' ⟨q0, q1, q2, q3, q4, q5⟩; go_simp) ?_
  try simp only [Act.put, List.getElem_toArray, List.getElem_cons_zero, List.getElem_cons_succ, List.setIfInBounds_toArray, List.set_cons_zero, List.set_cons_succ]
  refine Oc.anyT_take (i := 13) (v := .int .i64 y.2.2) rfl (by kernel_rfl) (fun _ _ _ h => h) hS0 rfl (by rintro w' ⟨q0, q1, q2, q3, q4, q5⟩; go_simp) ?_
  try simp only [Act.put, List.getElem_toArray, List.getElem_cons_zero, List.getElem_cons_succ, List.setIfInBounds_toArray, List.set_cons_zero, List.set_cons_succ]
  refine Oc.anyT_next (i := 4) rfl (by kernel_rfl) (fun K hK => ?_)
  go_simp
  refine (compare_any x.1 y.1 _).mono ?_
  rintro e w' ⟨rfl, rfl⟩
  refine hK _ _ (fun _ => hS0) ?_
  clear hK K
  try simp only [Act.put, List.getElem_toArray, List.getElem_cons_zero, List.getElem_cons_succ, List.setIfInBounds_toArray, List.set_cons_zero, List.set_cons_succ]
  refine Oc.anyT_next (i := 9) rfl (by kernel_rfl) (fun K hK => ?_)
  go_simp
  refine (compare_any x.2.1 y.2.1 _).mono ?_
  rintro e w' ⟨rfl, rfl⟩
  refine hK _ _ (fun _ => hS0) ?_
  clear hK K
  try simp only [Act.put, List.getElem_toArray, List.getElem_cons_zero, List.getElem_cons_succ, List.setIfInBounds_toArray, List.set_cons_zero, List.set_cons_succ]
  refine Oc.anyT_next (i := 14) rfl (by kernel_rfl) (fun K hK => ?_)
  go_simp
  refine (compare_any x.2.2 y.2.2 _).mono ?_
  rintro e w' ⟨rfl, rfl⟩
  refine hK _ _ (fun _ => hS0) ?_
  clear hK K
  try simp only [Act.put, List.getElem_toArray, List.getElem_cons_zero, List.getElem_cons_succ, List.setIfInBounds_toArray, List.set_cons_zero, List.set_cons_succ]
  refine Oc.anyT_next (i := 15) rfl (by kernel_rfl) (fun K hK => ?_)
  go_simp
  generalize hc0 : Oc.cmpI x.1 y.1 = c0
  generalize hc1 : Oc.cmpI x.2.1 y.2.1 = c1
  generalize hc2 : Oc.cmpI x.2.2 y.2.2 = c2
  have hz2 : W2.heap.size = W.heap.size + 2 := by rw [Oc.unhide HW2]; simp
  obtain ⟨V, hV⟩ : ∃ V, V = (W2.alloc (.cells #[.int .i64 c0, .int .i64 c1, .int .i64 c2] 3)).drew := ⟨_, rfl⟩
  have h3 : V.heap[W2.heap.size]? = some (.cells #[.int .i64 c0, .int .i64 c1, .int .i64 c2] 3 (0, 0)) := by rw [hV]; exact heap_alloc_new W2 _
  have hS1 : hSS V := Oc.unhide Hall _ (by rw [hV]; exact (Below.heap_alloc W2 _ _ (by omega)).trans (Oc.unhide R).1) (by rw [hV]; exact (Below.heap_alloc W2 _ _ (by omega)).trans (Oc.unhide R).2)
  rw [← hV]
  have HV := Oc.hide hV
  clear hV hz2
  refine hK _ _ (fun _ => hS1) ?_
  clear hK K
  try simp only [Act.put, List.getElem_toArray, List.getElem_cons_zero, List.getElem_cons_succ, List.setIfInBounds_toArray, List.set_cons_zero, List.set_cons_succ]
  refine Oc.anyT_next (i := 16) rfl (by kernel_rfl) (fun K hK => ?_)
  go_simp
  refine (or_any _ _ _ _ _ _ h3).mono ?_
  rintro e w' ⟨rfl, rfl⟩
  refine hK _ _ (fun _ => hS1) ?_
  clear hK K
  try simp only [Act.put, List.getElem_toArray, List.getElem_cons_zero, List.getElem_cons_succ, List.setIfInBounds_toArray, List.set_cons_zero, List.set_cons_succ]
  refine Oc.anyT_take (i := 17) (v := .int .i64 (Oc.orI c0 c1 c2)) rfl (by kernel_rfl) (fun _ _ _ h => h) hS1 rfl (by rintro w' ⟨q0, q1, q2, q3, q4, q5⟩; go_simp) ?_
  try simp only [Act.put, List.getElem_toArray, List.getElem_cons_zero, List.getElem_cons_succ, List.setIfInBounds_toArray, List.set_cons_zero, List.set_cons_succ]
  refine Oc.anyT_done (by kernel_rfl) ?_ _
  clear hS1 hS0
  go_wp2
  go_ret
  refine ⟨by unfold Oc.cfF; rw [hc0, hc1, hc2]; rfl, 1, #[.cells #[.int .i64 x.1, .int .i64 x.2.1, .int .i64 x.2.2] 30 (0, 0)] ++ (#[.cells #[.int .i64 y.1, .int .i64 y.2.1, .int .i64 y.2.2] 30 (0, 0)] ++ #[.cells #[.int .i64 c0, .int .i64 c1, .int .i64 c2] 3 (0, 0)]), ?_⟩
  rw [Oc.unhide HV, Oc.unhide HW2, alloc_eq_grow, alloc_eq_grow, alloc_eq_grow, grow_grow, grow_grow]
  rfl
theorem sort_any (g T cap : Nat) (C : Array Value) (L : List Oc.Fl) (w : World) (hC : Oc.RowC C L) (hw : w.heap[g]? = some (.cells C T (0, 0))) (hn : L.length < 4611686018427387904) :
    Calls Try.prog 27 #[.slice (some ⟨g, 0, none⟩) L.length cap, .func (.func 28) #[] #[]] w fun e w' =>
      e = .returned (.tuple #[]) ∧ ∃ L' C', L'.Perm L ∧ Oc.Risen L' ∧ w'.heap[g]? = some (.cells C' T (0, 0)) ∧ C'.size = C.size ∧ Oc.RowC C' L' ∧ Oc.Turns [g] w w' := by
  have eg : ∀ args w, (callFunc 28 args).run Try.prog w = .ok (.enter 28 args) w := enters_of Try.func28 (by kernel_rfl) rfl
  have hcon := AnyQ.slices_SortFunc sortF 3 Try.isAgg30 Try.sizeOf30 Oc.encF (fun _ => rfl) (fun x v hv => by simp [Oc.encF] at hv; rcases hv with rfl | rfl | rfl <;> rfl) Oc.cfF Oc.swoF 28 #[] g 0 cap L.toArray w eg (fun _ _ _ _ x y => closure_any x y _) (hC.holds hw) (Array.getElem?_eq_some_iff.1 hw).1 (by simpa using hn)
  refine hcon.mono ?_
  rintro e w' ⟨rfl, d', n, os, ⟨hp1, _, hp3⟩, hs, rfl⟩
  obtain ⟨L', rfl⟩ : ∃ L' : List Oc.Fl, d' = L'.toArray := ⟨d'.toList, by simp⟩
  have hl : L'.length = L.length := by simpa using hp1
  have hperm : L'.Perm L := by
    have h1 : (L'.toArray.extract 0 L.toArray.size).toList = L' := by simp [← hl]
    have h2 : (L.toArray.extract 0 L.toArray.size).toList = L := by simp
    rw [h1, h2] at hp3
    exact hp3
  obtain ⟨C', q1, q2, q3, q4⟩ := Oc.put_row hC hw L' hl n os
  refine ⟨rfl, L', C', hperm, ?_, q1, q2, q3, q4⟩
  refine List.pairwise_iff_getElem.2 fun i j hi hj hij => ?_
  have h := hs i j (Nat.zero_le _) hij (by simp; omega)
  unfold ltOf at h
  rw [decide_eq_false_iff_not, Oc.cfF_lt] at h
  simpa [hi, hj] using h
end Go.Proofs.Ytnlbdmciaodohaa
