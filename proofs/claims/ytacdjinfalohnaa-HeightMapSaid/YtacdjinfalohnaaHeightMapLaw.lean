/- The law of a chunk's map. -/
import Derived.Deep.RegionHeld3
import Derived.Test.YtacdjinfalohnaaHeightLaw
namespace Go.Proofs.Ytacdjinfalohnaa
set_option linter.unusedVariables false
set_option linter.unusedSimpArgs false
open Go.RowKit
set_option maxHeartbeats 8000000
theorem wrapx (cx x : Int) (k : Nat) (x0 : -1073741824 ≤ cx) (x1 : cx ≤ 1073741824) (hlt : k < 256) (ex' : cx * 16 + (k : Int) % 16 = x) : IntKind.i64.wrap (IntKind.i64.wrap (cx * 16) + (k : Int).tmod 16) = x := by
  have e : (k : Int).tmod 16 = (k : Int) % 16 := Int.tmod_eq_emod_of_nonneg (by omega)
  rw [e]
  have w1 : IntKind.i64.wrap (cx * 16) = cx * 16 := by simp [IntKind.wrap, IntKind.bits, IntKind.signed]; omega
  rw [w1]
  have w2 : IntKind.i64.wrap (cx * 16 + (k : Int) % 16) = cx * 16 + (k : Int) % 16 := by simp [IntKind.wrap, IntKind.bits, IntKind.signed]; omega
  rw [w2, ex']
theorem wrapz (cz z : Int) (k : Nat) (x0 : -1073741824 ≤ cz) (x1 : cz ≤ 1073741824) (hlt : k < 256) (ez' : cz * 16 + (k : Int) / 16 = z) : IntKind.i64.wrap (IntKind.i64.wrap (cz * 16) + IntKind.i64.wrap ((k : Int) / 16)) = z := by
  have w1 : IntKind.i64.wrap (cz * 16) = cz * 16 := by simp [IntKind.wrap, IntKind.bits, IntKind.signed]; omega
  have w3 : IntKind.i64.wrap ((k : Int) / 16) = (k : Int) / 16 := by simp [IntKind.wrap, IntKind.bits, IntKind.signed]; omega
  rw [w1, w3]
  have w2 : IntKind.i64.wrap (cz * 16 + (k : Int) / 16) = cz * 16 + (k : Int) / 16 := by simp [IntKind.wrap, IntKind.bits, IntKind.signed]; omega
  rw [w2, ez']
set_option maxRecDepth 20000 in
theorem HeightMap_walk (seed cx cz : Int) (w : World) (h : Oc.U seed) (hx : Oc.I cx) (hz : Oc.I cz) :
    Calls Try.prog 4 #[.int .u64 seed, .agg #[.int .i64 cx, .int .i64 cz]] w fun e w' => e = .returned (.bool true) ∧ Below w.heap.size w w' := by
  have hB0 : Below w.heap.size w (w.alloc (.cells #[.int .i64 cx, .int .i64 cz] 27)) := (Below.refl _ w).alloc (Nat.le_refl _) _
  have hcc0 := heap_alloc_new w (.cells #[.int .i64 cx, .int .i64 cz] 27)
  by_cases g : -1073741824 ≤ cx ∧ cx ≤ 1073741824 ∧ -1073741824 ≤ cz ∧ cz ≤ 1073741824
  · obtain ⟨x0, x1, z0, z1⟩ := g
    have hs : Oc.Small cx cz := ⟨by omega, by omega, by omega, by omega⟩
    have HM := Lib.hid (map_any seed cx cz h hs)
    have HR := Lib.hid (rmap_any seed cx cz h hs)
    have d1 : decide (cx < -1073741824) = false := by simp; omega
    have d2 : decide (1073741824 < cx) = false := by simp; omega
    have d3 : decide (cz < -1073741824) = false := by simp; omega
    have d4 : decide (1073741824 < cz) = false := by simp; omega
    go_enter Try.func4, Try.ntmps4
    go_wp2_with (first
      | (go_at_call 7; refine (awake_any _).mono ?_; rintro e w1 ⟨rfl, hb1⟩; have hB1 := hB0.trans (hb1.mono (by simp)); have hz1 := hB1.size; have hcc1 := (hb1.block w.heap.size (by simp)).trans hcc0; have c0 := cell_of_row _ _ 0 _ _ _ hcc1; have c1 := cell_of_row _ _ 1 _ _ _ hcc1)
      | (go_at_call 12; refine (HM.out _).mono ?_; rintro e w2 ⟨v1, v2, rfl, hr1, hr2, hb2⟩; obtain ⟨g1, cap1, rfl⟩ := ownsRow_succ (k := 255) hr1; obtain ⟨g2, cap2, rfl⟩ := ownsRow_succ (k := 255) hr2; have hB2 := hB1.trans (hb2.mono hz1); have hz2 := hB2.size; have hcc2 := (hb2.block w.heap.size (Array.getElem?_eq_some_iff.1 hcc1).1).trans hcc1; have c0 := cell_of_row _ _ 0 _ _ _ hcc2; have c1 := cell_of_row _ _ 1 _ _ _ hcc2)
      | (go_at_call 13; refine (HR.out _).mono ?_; rintro e w3 ⟨v3, v4, rfl, hr3, hr4, hb3⟩; obtain ⟨g3, cap3, rfl⟩ := ownsRow_succ (k := 255) hr3; obtain ⟨g4, cap4, rfl⟩ := ownsRow_succ (k := 255) hr4; have hB3 := hB2.trans (hb3.mono hz2); have hz3 := hB3.size; have hcc3 := (hb3.block w.heap.size (Array.getElem?_eq_some_iff.1 hcc2).1).trans hcc2; have hg3 := Oc.only_of_below hb3 none; have hr1 := row_kept hr1 hg3; have hr2 := row_kept hr2 hg3))
    go_loopw [10] (fun i wr => ∃ k : Nat, k ≤ 256 ∧ i = .int .i64 k ∧ Below w.heap.size w wr ∧ Below w3.heap.size w3 wr) (fun i _ => 256 - (intOf i).toNat)
    case atStart => exact ⟨0, by omega, rfl, hB3, Below.refl _ _⟩
    case round =>
      obtain ⟨k, hk, rfl, hB, hb⟩ := hrel
      have hg := Oc.only_of_below hb none
      by_cases hlt : k < 256
      · have d0 : decide ((k : Int) < 256) = true := by simp; omega
        have k1 := ((row_kept hr1 hg).cellAt k (by omega)).trans (Oc.vals_at _ hs 256 k hlt)
        have k2 := ((row_kept hr2 hg).cellAt k (by omega)).trans (Oc.vals_at _ hs 256 k hlt)
        have k3 := ((row_kept hr3 hg).cellAt k (by omega)).trans (Oc.vals_at _ hs 256 k hlt)
        have k4 := ((row_kept hr4 hg).cellAt k (by omega)).trans (Oc.vals_at _ hs 256 k hlt)
        have i0 : (0 : Int) ≤ (k : Int) := by omega
        have i1 : (k : Int) < 256 := by omega
        have i2 : ¬ ((k : Int) < 0) := by omega
        have i3 : ¬ ((256 : Int) ≤ (k : Int)) := by omega
        have hcc := (hb.block w.heap.size (Array.getElem?_eq_some_iff.1 hcc3).1).trans hcc3
        have c0 := cell_of_row _ _ 0 _ _ _ hcc
        have c1 := cell_of_row _ _ 1 _ _ _ hcc
        obtain ⟨x, ex⟩ : ∃ x : Int, cx * 16 + ((k % 16 : Nat) : Int) = x := ⟨_, rfl⟩
        obtain ⟨z, ez⟩ : ∃ z : Int, cz * 16 + ((k / 16 % 16 : Nat) : Int) = z := ⟨_, rfl⟩
        rw [ex, ez] at k1 k2 k3 k4
        have ex' : cx * 16 + (k : Int) % 16 = x := by omega
        have ez' : cz * 16 + (k : Int) / 16 = z := by omega
        have ho := of_any seed x z h (by unfold Oc.I; omega) (by unfold Oc.I; omega)
        generalize Oc.hgt seed x z = n at *
        generalize Oc.band seed x z = m at *
        have HO := Lib.hid ho
        have wx := wrapx cx x k x0 x1 hlt ex'
        have wz := wrapz cz z k z0 z1 hlt ez'
        clear ho ex ez hcc hr1 hr2 hr3 hr4
        go_wp2_with fail
        go_region_held3 (fun w' => w'.cell? ⟨g1, k, none⟩ = some (.int .i64 n) ∧ w'.cell? ⟨g2, k, none⟩ = some (.int .i64 m) ∧ w'.cell? ⟨g3, k, none⟩ = some (.int .i64 n) ∧ w'.cell? ⟨g4, k, none⟩ = some (.int .i64 m) ∧ w'.cell? ⟨w.heap.size, 0, none⟩ = some (.int .i64 cx) ∧ w'.cell? ⟨w.heap.size, 1, none⟩ = some (.int .i64 cz))
          (first | exact ⟨k1, k2, k3, k4, c0, c1⟩ | exact ⟨l1, l2, l3, l4, b0, b1⟩)
          (first | (go_at_call 8; refine (HO.out _).mono ?_; rintro e W1 ⟨rfl, hb4⟩; have hb4 : Below wr.heap.size wr W1 := (Below.refl _ wr).drew.trans hb4; have l1 := (hb4.cell (p := ⟨g1, k, none⟩) (block_lt_of_cell k1)).trans k1; have l2 := (hb4.cell (p := ⟨g2, k, none⟩) (block_lt_of_cell k2)).trans k2; have l3 := (hb4.cell (p := ⟨g3, k, none⟩) (block_lt_of_cell k3)).trans k3; have l4 := (hb4.cell (p := ⟨g4, k, none⟩) (block_lt_of_cell k4)).trans k4; have b0 := (hb4.cell (p := ⟨w.heap.size, 0, none⟩) (block_lt_of_cell c0)).trans c0; have b1 := (hb4.cell (p := ⟨w.heap.size, 1, none⟩) (block_lt_of_cell c1)).trans c1))
        go_wp2
        go_roundw
        case rel => exact ⟨k + 1, by omega, by go_num, hB.trans (hb4.mono hB.size), hb.trans (hb4.mono hb.size)⟩
        case measure => simp [intOf]; omega
      · obtain rfl : k = 256 := by omega
        go_wp2
        go_ret
        exact ⟨rfl, hB⟩
  · by_cases g1 : cx < -1073741824
    · have d1 : decide (cx < -1073741824) = true := by simp; omega
      go_enter Try.func4, Try.ntmps4
      go_wp2_with (go_at_call 7; refine (awake_any _).mono ?_; rintro e w1 ⟨rfl, hb1⟩; have hB1 := hB0.trans (hb1.mono (by simp)); have hz1 := hB1.size; have hcc1 := (hb1.block w.heap.size (by simp)).trans hcc0; have c0 := cell_of_row _ _ 0 _ _ _ hcc1; have c1 := cell_of_row _ _ 1 _ _ _ hcc1)
      go_ret
      exact ⟨rfl, hB1⟩
    · have d1 : decide (cx < -1073741824) = false := by simp; omega
      by_cases g2 : 1073741824 < cx
      · have d2 : decide (1073741824 < cx) = true := by simp; omega
        go_enter Try.func4, Try.ntmps4
        go_wp2_with (go_at_call 7; refine (awake_any _).mono ?_; rintro e w1 ⟨rfl, hb1⟩; have hB1 := hB0.trans (hb1.mono (by simp)); have hz1 := hB1.size; have hcc1 := (hb1.block w.heap.size (by simp)).trans hcc0; have c0 := cell_of_row _ _ 0 _ _ _ hcc1; have c1 := cell_of_row _ _ 1 _ _ _ hcc1)
        go_ret
        exact ⟨rfl, hB1⟩
      · have d2 : decide (1073741824 < cx) = false := by simp; omega
        by_cases g3 : cz < -1073741824
        · have d3 : decide (cz < -1073741824) = true := by simp; omega
          go_enter Try.func4, Try.ntmps4
          go_wp2_with (go_at_call 7; refine (awake_any _).mono ?_; rintro e w1 ⟨rfl, hb1⟩; have hB1 := hB0.trans (hb1.mono (by simp)); have hz1 := hB1.size; have hcc1 := (hb1.block w.heap.size (by simp)).trans hcc0; have c0 := cell_of_row _ _ 0 _ _ _ hcc1; have c1 := cell_of_row _ _ 1 _ _ _ hcc1)
          go_ret
          exact ⟨rfl, hB1⟩
        · have d3 : decide (cz < -1073741824) = false := by simp; omega
          have g4 : 1073741824 < cz := by omega
          have d4 : decide (1073741824 < cz) = true := by simp; omega
          go_enter Try.func4, Try.ntmps4
          go_wp2_with (go_at_call 7; refine (awake_any _).mono ?_; rintro e w1 ⟨rfl, hb1⟩; have hB1 := hB0.trans (hb1.mono (by simp)); have hz1 := hB1.size; have hcc1 := (hb1.block w.heap.size (by simp)).trans hcc0; have c0 := cell_of_row _ _ 0 _ _ _ hcc1; have c1 := cell_of_row _ _ 1 _ _ _ hcc1)
          go_ret
          exact ⟨rfl, hB1⟩
end Go.Proofs.Ytacdjinfalohnaa
