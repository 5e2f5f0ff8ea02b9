/- The walks through both builds' maps of a chunk. -/
import Derived.Test.YtacdjinfalohnaaHeightCols
namespace Go.Proofs.Ytacdjinfalohnaa
set_option linter.unusedVariables false
set_option linter.unusedSimpArgs false
open Go.RowKit
set_option maxHeartbeats 1000000
theorem row_base {w : World} {b b' : Nat} {e : TypeId} {size : Nat} {v : Value} {n : Nat} {xs : List Value} (h : w.ownsRow b e size v n xs) (hb : b' ≤ b) : w.ownsRow b' e size v n xs := by
  rcases h with ⟨h1, h2 | ⟨g, cap, cur, h2, h3, h4⟩⟩
  · exact ⟨h1, .inl h2⟩
  · exact ⟨h1, .inr ⟨g, cap, cur, h2, by omega, h4⟩⟩
theorem map_any (seed cx cz : Int) (h : Oc.U seed) (hs : Oc.Small cx cz) (w : World) :
    Calls Try.prog 12 #[.int .u64 seed, .agg #[.int .i64 cx, .int .i64 cz]] w fun e w' =>
      ∃ v1 v2, e = .returned (.tuple #[v1, v2]) ∧ w'.ownsRow w.heap.size 3 1 v1 256 (Oc.vals (Oc.hgt seed) (Oc.cols hs 256)) ∧ w'.ownsRow w.heap.size 3 1 v2 256 (Oc.vals (Oc.band seed) (Oc.cols hs 256)) ∧ Below w.heap.size w w' := by
  go_enter Try.func12, Try.ntmps12
  obtain ⟨W0, eW0⟩ : ∃ W0, W0 = (w.alloc (.cells #[.int .u64 seed] 22)).alloc (.cells #[.int .i64 cx, .int .i64 cz] 27) := ⟨_, rfl⟩
  have hBc : W0.heap[w.heap.size + 1]? = some (.cells #[.int .i64 cx, .int .i64 cz] 27 (0, 0)) := by
    have := heap_alloc_new (w.alloc (.cells #[.int .u64 seed] 22)) (.cells #[.int .i64 cx, .int .i64 cz] 27)
    rwa [World.size_alloc, ← eW0] at this
  have hBs : Boxed W0 w.heap.size 22 (.int .u64 seed) := by rw [eW0]; exact (Boxed.new w _ _).alloc _
  have hB0 : Below w.heap.size w W0 := by rw [eW0]; exact ((Below.refl _ w).alloc (Nat.le_refl _) _).alloc (by simp) _
  have hz0 := hB0.size
  go_wp2_with (first
    | (go_at_call 16; rw [← eW0]; refine (allOf_any seed cx cz h hs _ _ _ hBc hBs.cell).mono ?_; rintro e W2 ⟨v1, rfl, hr1, hb1⟩; have hg1 := Oc.only_of_below hb1 none; have hBc2 := (hb1.block _ (Array.getElem?_eq_some_iff.1 hBc).1).trans hBc; have hBs2 := hBs.kept hg1 (by simp))
    | (go_at_call 16; refine (allBand_any seed cx cz h hs _ _ _ hBc2 hBs2.cell).mono ?_; rintro e W3 ⟨v2, rfl, hr2, hb2⟩; have hg2 := Oc.only_of_below hb2 none; have hr1' := row_kept hr1 hg2))
  go_ret2
  exact ⟨v1, v2, rfl, row_base hr1' hz0, row_base hr2 (Nat.le_trans hz0 hb1.size), (hB0.trans (hb1.mono hz0)).trans (hb2.mono (Nat.le_trans hz0 hb1.size))⟩

/-! ### The second build's -/
def Apart (v1 v2 : Value) : Prop := v1.ownBlock = none ∨ v1.ownBlock ≠ v2.ownBlock
theorem Apart.symm {v1 v2 : Value} (h : Apart v1 v2) : Apart v2 v1 := by
  rcases h with h | h
  · cases h2 : v2.ownBlock with
    | none => exact .inl h2
    | some b => exact .inr (by rw [h, h2]; simp)
  · exact .inr fun e => h e.symm
theorem Apart.grown {v1 v2 v1' : Value} {W : World} (h : Apart v1 v2) (h' : v1'.ownBlock = v1.ownBlock ∨ v1'.ownBlock = some W.heap.size) (h2 : ∀ k, v2.ownBlock = some k → k < W.heap.size) : Apart v1' v2 := by
  rcases h' with h' | h'
  · unfold Apart at *; rw [h']; exact h
  · refine .inr fun e => ?_
    have := h2 _ (e.symm.trans h')
    omega
theorem rmap_any (seed cx cz : Int) (h : Oc.U seed) (hs : Oc.Small cx cz) (w : World) :
    Calls Try.prog 13 #[.int .u64 seed, .agg #[.int .i64 cx, .int .i64 cz]] w fun e w' =>
      ∃ v1 v2, e = .returned (.tuple #[v1, v2]) ∧ w'.ownsRow w.heap.size 3 1 v1 256 (Oc.vals (Oc.hgt seed) (Oc.cols hs 256)) ∧ w'.ownsRow w.heap.size 3 1 v2 256 (Oc.vals (Oc.band seed) (Oc.cols hs 256)) ∧ Below w.heap.size w w' := by
  obtain ⟨i0, hi, hz0, hz1, hz2⟩ := info_parts infoInt
  obtain ⟨hx0, hx1, hy0, hy1⟩ := id hs
  go_enter Try.func13, Try.ntmps13
  go_wp2
  go_loopw [6, 7, 8, 9, 10] (fun v1 v2 i _ _ wr => ∃ k : Nat, k ≤ 256 ∧ i = .int .i64 k ∧ wr.ownsRow w.heap.size 3 1 v1 k (Oc.vals (Oc.hgt seed) (Oc.cols hs k)) ∧ wr.ownsRow w.heap.size 3 1 v2 k (Oc.vals (Oc.band seed) (Oc.cols hs k)) ∧ Apart v1 v2 ∧ Below w.heap.size w wr ∧ wr.heap[w.heap.size]? = some (.cells #[.int .i64 cx, .int .i64 cz] 27 (0, 0))) (fun _ _ i _ _ _ => 256 - (intOf i).toNat)
  case atStart =>
    exact ⟨0, by omega, rfl, World.ownsRow_nil _ _ _ _, World.ownsRow_nil _ _ _ _, .inl rfl, (Below.refl _ w).alloc (Nat.le_refl _) _, heap_alloc_new _ _⟩
  case round =>
    obtain ⟨k, hk, rfl, hr1, hr2, hap, hB, hcc⟩ := hrel
    have hBz := hB.size
    by_cases hlt : k < 256
    · have d0 : decide ((k : Int) < 256) = true := by simp; omega
      have c0 := cell_of_row _ _ 0 _ _ _ hcc
      have c1 := cell_of_row _ _ 1 _ _ _ hcc
      obtain ⟨x, ex⟩ : ∃ x : Int, x = cx * 16 + ((k % 16 : Nat) : Int) := ⟨_, rfl⟩
      obtain ⟨z, ez⟩ : ∃ z : Int, z = cz * 16 + ((k / 16 % 16 : Nat) : Int) := ⟨_, rfl⟩
      have ex' : cx * 16 + (k : Int) % 16 = x := by omega
      have ez' : cz * 16 + (k : Int) / 16 = z := by omega
      have hix : Oc.I x := by unfold Oc.I; omega
      have hiz : Oc.I z := by unfold Oc.I; omega
      have hsn : ∀ g : Int → Int → Int, Oc.vals g (Oc.cols hs k) ++ [.int .i64 (g x z)] = Oc.vals g (Oc.cols hs (k + 1)) := fun g => by
        rw [← Oc.cols_succ, Oc.vals_snoc, ex, ez]; rfl
      clear ex ez
      go_wp2_with (first
        | (at_builtin; refine wpList_append_own_at _ rfl _ _ 28 rfl w.heap.size 3 i0 (.int .i64 0) 1 8 Try.underlying28 hi hz0 hz1 hz2 rfl (by decide) _ _ _ rfl (hr2c.alloc _) ⟨W3.heap.size, 0, none⟩ 1 1 [.int .i64 (Oc.band seed x z)] rfl rfl (cell_one_new _ _ _) (by simp [Value.oneCell']) (by unfold maxLen; omega) (by omega) (by simp; omega) ?_; intro v2' W4 hown2 hgrow2 _ hblk2; have hro2 := (hr1c.alloc _).kept hgrow2 hap1.symm.symm; have hap2 := hap1.symm.grown hblk2 (fun k e => ((hr1c.alloc _).lt k e).2); have hBd : Below w.heap.size w W4 := below_own (hBc.alloc hzc' _) (by simp; omega) (hr2c.alloc _) hgrow2; have hzd' := hBd.size; have hccd : W4.heap[w.heap.size]? = _ := (hgrow2.block _ (by have := (Array.getElem?_eq_some_iff.1 hccc).1; simp; omega) (row_other hccc hr2c (by decide))).trans ((Below.heap_alloc W3 _ _ (Array.getElem?_eq_some_iff.1 hccc).1).trans hccc))
        | (go_at_call 11; refine (rband_any seed _ _ h hix hiz _).mono ?_; rintro e W3 ⟨rfl, hbc⟩; have hgc := Oc.only_of_below hbc none; have hr1c := row_kept hown1 hgc; have hr2c := row_kept hro1 hgc; have hBc := hBb.trans (hbc.mono hzb'); have hzc' := hBc.size; have hccc := (hbc.block _ (Array.getElem?_eq_some_iff.1 hccb).1).trans hccb)
        | (at_builtin; refine wpList_append_own_at _ rfl _ _ 28 rfl w.heap.size 3 i0 (.int .i64 0) 1 8 Try.underlying28 hi hz0 hz1 hz2 rfl (by decide) _ _ _ rfl (hr1a.alloc _) ⟨W1.heap.size, 0, none⟩ 1 1 [.int .i64 (Oc.hgt seed x z)] rfl rfl (cell_one_new _ _ _) (by simp [Value.oneCell']) (by unfold maxLen; omega) (by omega) (by simp; omega) ?_; intro v1' W2 hown1 hgrow1 _ hblk1; have hro1 := (hr2a.alloc _).kept hgrow1 hap.symm; have hap1 := hap.grown hblk1 (fun k e => ((hr2a.alloc _).lt k e).2); have hBb : Below w.heap.size w W2 := below_own (hBa.alloc hza' _) (by simp; omega) (hr1a.alloc _) hgrow1; have hzb' := hBb.size; have hccb : W2.heap[w.heap.size]? = _ := (hgrow1.block _ (by have := (Array.getElem?_eq_some_iff.1 hcca).1; simp; omega) (row_other hcca hr1a (by decide))).trans ((Below.heap_alloc W1 _ _ (Array.getElem?_eq_some_iff.1 hcca).1).trans hcca))
        | (go_at_call 10;  refine (rhof_any seed _ _ h hix hiz _).mono ?_; rintro e W1 ⟨rfl, hba⟩; have hga := Oc.only_of_below hba none; have hr1a := row_kept hr1 hga; have hr2a := row_kept hr2 hga; have hBa := hB.trans (hba.mono hBz); have hza' := hBa.size; have hcca := (hba.block _ (Array.getElem?_eq_some_iff.1 hcc).1).trans hcc))
      go_roundw
      case rel => exact ⟨k + 1, by omega, by go_num, by rw [← hsn]; exact hro2, by rw [← hsn]; exact hown2, hap2.symm, hBd, hccd⟩
      case measure => simp [intOf]; omega
    · obtain rfl : k = 256 := by omega
      go_wp2
      go_ret2
      exact ⟨_, _, rfl, hr1, hr2, hB⟩
end Go.Proofs.Ytacdjinfalohnaa
