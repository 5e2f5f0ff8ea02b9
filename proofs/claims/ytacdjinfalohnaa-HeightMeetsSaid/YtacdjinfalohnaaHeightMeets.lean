/- Two chunks side by side. -/
import Derived.BigQuiet
import Derived.Test.YtacdjinfalohnaaHeightLaw
namespace Go.Proofs.Ytacdjinfalohnaa
set_option linter.unusedVariables false
set_option linter.unusedSimpArgs false
open Go.RowKit
set_option maxHeartbeats 1000000
set_option maxRecDepth 20000 in
theorem HeightMeets_walk (seed cx cz : Int) (w : World) (h : Oc.U seed) (hx : Oc.I cx) (hz : Oc.I cz) :
    Calls Try.prog 6 #[.int .u64 seed, .agg #[.int .i64 cx, .int .i64 cz]] w fun e w' => e = .returned (.bool true) ∧ Below w.heap.size w w' := by
  have hB0 : Below w.heap.size w (w.alloc (.cells #[.int .i64 cx, .int .i64 cz] 27)) := (Below.refl _ w).alloc (Nat.le_refl _) _
  have hcc0 := heap_alloc_new w (.cells #[.int .i64 cx, .int .i64 cz] 27)
  by_cases g : -1073741824 ≤ cx ∧ cx ≤ 1073741824 ∧ -1073741824 ≤ cz ∧ cz ≤ 1073741824
  · obtain ⟨x0, x1, z0, z1⟩ := g
    have hs : Oc.Small cx cz := ⟨by omega, by omega, by omega, by omega⟩
    have hsx : Oc.Small (cx + 1) cz := ⟨by omega, by omega, by omega, by omega⟩
    have hsz : Oc.Small cx (cz + 1) := ⟨by omega, by omega, by omega, by omega⟩
    have HM := Lib.hid (map_any seed cx cz h hs)
    have HX := Lib.hid (map_any seed (cx + 1) cz h hsx)
    have HZ := Lib.hid (map_any seed cx (cz + 1) h hsz)
    have d1 : decide (cx < -1073741824) = false := by simp; omega
    have d2 : decide (1073741824 < cx) = false := by simp; omega
    have d3 : decide (cz < -1073741824) = false := by simp; omega
    have d4 : decide (1073741824 < cz) = false := by simp; omega
    go_enter Try.func6, Try.ntmps6
    go_wp2_with (go_at_call 7; refine (awake_any _).mono ?_; rintro e w1 ⟨rfl, hb1⟩; have hB1 := hB0.trans (hb1.mono (by simp)); have hz1 := hB1.size; have hcc1 := (hb1.block w.heap.size (by simp)).trans hcc0; have c0 := cell_of_row _ _ 0 _ _ _ hcc1; have c1 := cell_of_row _ _ 1 _ _ _ hcc1)
    refine (HM.out _).mono ?_
    rintro e w2 ⟨v1, v1', rfl, hr1, _, hb2⟩
    obtain ⟨g1, cap1, rfl⟩ := ownsRow_succ (k := 255) hr1
    have hB2 := hB1.trans (hb2.mono hz1)
    have hz2 := hB2.size
    have hcc2 := (hb2.block w.heap.size (Array.getElem?_eq_some_iff.1 hcc1).1).trans hcc1
    have c0 := cell_of_row _ _ 0 _ _ _ hcc2
    have c1 := cell_of_row _ _ 1 _ _ _ hcc2
    go_wp2_with fail
    refine (HX.out _).mono ?_
    rintro e w3 ⟨v2, v2', rfl, hr2, _, hb3⟩
    obtain ⟨g2, cap2, rfl⟩ := ownsRow_succ (k := 255) hr2
    have hB3 := hB2.trans (hb3.mono hz2)
    have hz3 := hB3.size
    have hcc3 := (hb3.block w.heap.size (Array.getElem?_eq_some_iff.1 hcc2).1).trans hcc2
    have c0 := cell_of_row _ _ 0 _ _ _ hcc3
    have c1 := cell_of_row _ _ 1 _ _ _ hcc3
    have hr1 := row_kept hr1 (Oc.only_of_below hb3 none)
    go_wp2_with fail
    refine (HZ.out _).mono ?_
    rintro e w4 ⟨v3, v3', rfl, hr3, _, hb4⟩
    obtain ⟨g3, cap3, rfl⟩ := ownsRow_succ (k := 255) hr3
    have hB4 := hB3.trans (hb4.mono hz3)
    have hr1 := row_kept hr1 (Oc.only_of_below hb4 none)
    have hr2 := row_kept hr2 (Oc.only_of_below hb4 none)
    clear hb1 hb2 hb3 hb4 hB1 hB2 hB3 hcc0 hcc1 hcc2 hcc3 c0 c1 HM HX HZ d1 d2 d3 d4 hB0
    go_wp2
    go_loopw [12, 13, 14] (fun i _ _ wr => ∃ k : Nat, k ≤ 16 ∧ i = .int .i64 k ∧ Below w.heap.size w wr ∧ Below w4.heap.size w4 wr) (fun i _ _ _ => 16 - (intOf i).toNat)
    case atStart => exact ⟨0, by omega, rfl, hB4, Below.refl _ _⟩
    case round =>
      obtain ⟨k, hk, rfl, hB, hb⟩ := hrel
      have hg := Oc.only_of_below hb none
      by_cases hlt : k < 16
      · have d0 : decide ((k : Int) < 16) = true := by simp; omega
        have k1 := ((row_kept hr1 hg).cellAt (k * 16 + 15) (by omega)).trans (Oc.vals_at _ hs 256 (k * 16 + 15) (by omega))
        have k2 := ((row_kept hr2 hg).cellAt (k * 16) (by omega)).trans (Oc.vals_at _ hsx 256 (k * 16) (by omega))
        have k3 := ((row_kept hr1 hg).cellAt (240 + k) (by omega)).trans (Oc.vals_at _ hs 256 (240 + k) (by omega))
        have k4 := ((row_kept hr3 hg).cellAt k (by omega)).trans (Oc.vals_at _ hsz 256 k (by omega))
        rw [show cx * 16 + (((k * 16 + 15) % 16 : Nat) : Int) = cx * 16 + 15 by omega, show cz * 16 + (((k * 16 + 15) / 16 % 16 : Nat) : Int) = cz * 16 + (k : Int) by omega] at k1
        rw [show (cx + 1) * 16 + (((k * 16) % 16 : Nat) : Int) = cx * 16 + 15 + 1 by omega, show cz * 16 + (((k * 16) / 16 % 16 : Nat) : Int) = cz * 16 + (k : Int) by omega] at k2
        rw [show cx * 16 + (((240 + k) % 16 : Nat) : Int) = cx * 16 + (k : Int) by omega, show cz * 16 + (((240 + k) / 16 % 16 : Nat) : Int) = cz * 16 + 15 by omega] at k3
        rw [show cx * 16 + ((k % 16 : Nat) : Int) = cx * 16 + (k : Int) by omega, show (cz + 1) * 16 + ((k / 16 % 16 : Nat) : Int) = cz * 16 + 15 + 1 by omega] at k4
        obtain ⟨s1, s2⟩ := Oc.hgt_step_x seed (cx * 16 + 15) (cz * 16 + (k : Int)) ⟨by omega, by omega⟩
        obtain ⟨s3, s4⟩ := Oc.hgt_step_z seed (cx * 16 + (k : Int)) (cz * 16 + 15) ⟨by omega, by omega⟩
        generalize Oc.hgt seed (cx * 16 + 15) (cz * 16 + (k : Int)) = a at *
        generalize Oc.hgt seed (cx * 16 + 15 + 1) (cz * 16 + (k : Int)) = b at *
        generalize Oc.hgt seed (cx * 16 + (k : Int)) (cz * 16 + 15) = c at *
        generalize Oc.hgt seed (cx * 16 + (k : Int)) (cz * 16 + 15 + 1) = d at *
        have t1 : ((k : Int) * 16 + 15).toNat = k * 16 + 15 := by omega
        have t2 : ((k : Int) * 16).toNat = k * 16 := by omega
        have t3 : (240 + (k : Int)).toNat = 240 + k := by omega
        have e1 : decide (5 < a - b) = false := by simp; omega
        have e2 : decide (a - b < -5) = false := by simp; omega
        have e3 : decide (5 < c - d) = false := by simp; omega
        have e4 : decide (c - d < -5) = false := by simp; omega
        clear hr1 hr2 hr3
        go_wp2_with fail
        go_quiet (fail)
        go_wp2_with fail
        go_quiet (fail)
        go_wp2_with fail
        go_roundw
        case rel => exact ⟨k + 1, by omega, by go_num, Oc.below_drewN hB _, Oc.below_drewN hb _⟩
        case measure => simp [intOf]; omega
      · obtain rfl : k = 16 := by omega
        go_wp2
        go_ret
        exact ⟨rfl, hB⟩
  · by_cases g1 : cx < -1073741824
    · have d1 : decide (cx < -1073741824) = true := by simp; omega
      go_enter Try.func6, Try.ntmps6
      go_wp2_with (go_at_call 7; refine (awake_any _).mono ?_; rintro e w1 ⟨rfl, hb1⟩; have hB1 := hB0.trans (hb1.mono (by simp)); have hz1 := hB1.size; have hcc1 := (hb1.block w.heap.size (by simp)).trans hcc0; have c0 := cell_of_row _ _ 0 _ _ _ hcc1; have c1 := cell_of_row _ _ 1 _ _ _ hcc1)
      go_ret
      exact ⟨rfl, hB1⟩
    · have d1 : decide (cx < -1073741824) = false := by simp; omega
      by_cases g2 : 1073741824 < cx
      · have d2 : decide (1073741824 < cx) = true := by simp; omega
        go_enter Try.func6, Try.ntmps6
        go_wp2_with (go_at_call 7; refine (awake_any _).mono ?_; rintro e w1 ⟨rfl, hb1⟩; have hB1 := hB0.trans (hb1.mono (by simp)); have hz1 := hB1.size; have hcc1 := (hb1.block w.heap.size (by simp)).trans hcc0; have c0 := cell_of_row _ _ 0 _ _ _ hcc1; have c1 := cell_of_row _ _ 1 _ _ _ hcc1)
        go_ret
        exact ⟨rfl, hB1⟩
      · have d2 : decide (1073741824 < cx) = false := by simp; omega
        by_cases g3 : cz < -1073741824
        · have d3 : decide (cz < -1073741824) = true := by simp; omega
          go_enter Try.func6, Try.ntmps6
          go_wp2_with (go_at_call 7; refine (awake_any _).mono ?_; rintro e w1 ⟨rfl, hb1⟩; have hB1 := hB0.trans (hb1.mono (by simp)); have hz1 := hB1.size; have hcc1 := (hb1.block w.heap.size (by simp)).trans hcc0; have c0 := cell_of_row _ _ 0 _ _ _ hcc1; have c1 := cell_of_row _ _ 1 _ _ _ hcc1)
          go_ret
          exact ⟨rfl, hB1⟩
        · have d3 : decide (cz < -1073741824) = false := by simp; omega
          have g4 : 1073741824 < cz := by omega
          have d4 : decide (1073741824 < cz) = true := by simp; omega
          go_enter Try.func6, Try.ntmps6
          go_wp2_with (go_at_call 7; refine (awake_any _).mono ?_; rintro e w1 ⟨rfl, hb1⟩; have hB1 := hB0.trans (hb1.mono (by simp)); have hz1 := hB1.size; have hcc1 := (hb1.block w.heap.size (by simp)).trans hcc0; have c0 := cell_of_row _ _ 0 _ _ _ hcc1; have c1 := cell_of_row _ _ 1 _ _ _ hcc1)
          go_ret
          exact ⟨rfl, hB1⟩
end Go.Proofs.Ytacdjinfalohnaa
