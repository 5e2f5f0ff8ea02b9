/- The law's functions of numbers alone. -/
import Derived.Test.YtacdjinfalohnaaHeightLaw
namespace Go.Proofs.Ytacdjinfalohnaa
set_option linter.unusedVariables false
set_option linter.unusedSimpArgs false
open Go.RowKit
set_option maxHeartbeats 1000000
theorem HeightOf_walk (seed x z : Int) (w : World) (h : Oc.U seed) (hx : Oc.I x) (hz : Oc.I z) :
    Calls Try.prog 3 #[.int .u64 seed, .int .i64 x, .int .i64 z] w fun e w' => e = .returned (.bool true) ∧ Below w.heap.size w w' := by
  have o1 := of_any seed x z h hx hz
  have o2 := band_any seed x z h hx hz
  have o3 := rhof_any seed x z h hx hz
  have o4 := rband_any seed x z h hx hz
  obtain ⟨r0, r1⟩ := Oc.hgt_range seed x z
  obtain ⟨r2, r3⟩ := Oc.band_range seed x z
  generalize Oc.hgt seed x z = n at *
  generalize Oc.band seed x z = m at *
  have O1 := Lib.hid o1; have O2 := Lib.hid o2; have O3 := Lib.hid o3; have O4 := Lib.hid o4
  clear o1 o2 o3 o4
  have d1 : decide (n < 20) = false := by simp; omega
  have d2 : decide (91 < n) = false := by simp; omega
  have d3 : decide (20 ≤ n) = true := by simp; omega
  have d4 : decide (n ≤ 91) = true := by simp; omega
  have d5 : decide (0 ≤ m) = true := by simp; omega
  have d6 : decide (m < 4) = true := by simp; omega
  go_enter Try.func3, Try.ntmps3
  go_wp2_with (first
    | (go_at_call 7; refine (awake_any _).mono ?_; rintro e w1 ⟨rfl, hb⟩)
    | (go_at_call 8; refine (O1.out _).mono ?_; rintro e w2 ⟨rfl, hb'⟩; have hb := hb.trans (hb'.mono hb.size); clear hb')
    | (go_at_call 9; refine (O2.out _).mono ?_; rintro e w2 ⟨rfl, hb'⟩; have hb := hb.trans (hb'.mono hb.size); clear hb')
    | (go_at_call 10; refine (O3.out _).mono ?_; rintro e w2 ⟨rfl, hb'⟩; have hb := hb.trans (hb'.mono hb.size); clear hb')
    | (go_at_call 11; refine (O4.out _).mono ?_; rintro e w2 ⟨rfl, hb'⟩; have hb := hb.trans (hb'.mono hb.size); clear hb'))
  go_ret
  exact ⟨Oc.ret_bool (by first | rfl | (simp; done) | (simp; omega)), hb⟩
theorem HeightSteps_walk (seed x z : Int) (w : World) (h : Oc.U seed) (hx : Oc.I x) (hz : Oc.I z) :
    Calls Try.prog 5 #[.int .u64 seed, .int .i64 x, .int .i64 z] w fun e w' => e = .returned (.bool true) ∧ Below w.heap.size w w' := by
  by_cases g : -1099511627776 ≤ x ∧ x ≤ 1099511627776 ∧ -1099511627776 ≤ z ∧ z ≤ 1099511627776
  · obtain ⟨x0, x1, z0, z1⟩ := g
    have o1 := of_any seed x z h hx hz
    have o2 := of_any seed (x + 1) z h (by unfold Oc.I at *; omega) hz
    have o3 := of_any seed x (z + 1) h hx (by unfold Oc.I at *; omega)
    obtain ⟨s1, s2⟩ := Oc.hgt_step_x seed x z ⟨by omega, by omega⟩
    obtain ⟨s3, s4⟩ := Oc.hgt_step_z seed x z ⟨by omega, by omega⟩
    obtain ⟨r0, r1⟩ := Oc.hgt_range seed x z
    obtain ⟨r2, r3⟩ := Oc.hgt_range seed (x + 1) z
    obtain ⟨r4, r5⟩ := Oc.hgt_range seed x (z + 1)
    generalize Oc.hgt seed x z = a at *
    generalize Oc.hgt seed (x + 1) z = b at *
    generalize Oc.hgt seed x (z + 1) = c at *
    have O1 := Lib.hid o1; have O2 := Lib.hid o2; have O3 := Lib.hid o3
    clear o1 o2 o3
    have d1 : decide (x < -1099511627776) = false := by simp; omega
    have d2 : decide (1099511627776 < x) = false := by simp; omega
    have d3 : decide (z < -1099511627776) = false := by simp; omega
    have d4 : decide (1099511627776 < z) = false := by simp; omega
    have e1 : decide (a - b ≤ 5) = true := by simp; omega
    have e2 : decide (b - a ≤ 5) = true := by simp; omega
    have e3 : decide (a - c ≤ 5) = true := by simp; omega
    have e4 : decide (c - a ≤ 5) = true := by simp; omega
    go_enter Try.func5, Try.ntmps5
    go_wp2_with (go_at_call 7; refine (awake_any _).mono ?_; rintro e w1 ⟨rfl, hb⟩)
    refine (O1.out _).mono ?_
    rintro e w2 ⟨rfl, hb'⟩
    have hb := hb.trans (hb'.mono hb.size)
    clear hb'
    go_wp2_with fail
    refine (O2.out _).mono ?_
    rintro e w2 ⟨rfl, hb'⟩
    have hb := hb.trans (hb'.mono hb.size)
    clear hb'
    go_wp2_with fail
    refine (O3.out _).mono ?_
    rintro e w2 ⟨rfl, hb'⟩
    have hb := hb.trans (hb'.mono hb.size)
    clear hb'
    go_wp2
    go_ret
    exact ⟨Oc.ret_bool (by first | rfl | (simp; done) | (simp; omega)), hb⟩
  · by_cases g1 : x < -1099511627776
    · have d1 : decide (x < -1099511627776) = true := by simp; omega
      go_enter Try.func5, Try.ntmps5
      go_wp2_with (go_at_call 7; refine (awake_any _).mono ?_; rintro e w1 ⟨rfl, hb⟩)
      go_ret
      exact ⟨rfl, hb⟩
    · have d1 : decide (x < -1099511627776) = false := by simp; omega
      by_cases g2 : 1099511627776 < x
      · have d2 : decide (1099511627776 < x) = true := by simp; omega
        go_enter Try.func5, Try.ntmps5
        go_wp2_with (go_at_call 7; refine (awake_any _).mono ?_; rintro e w1 ⟨rfl, hb⟩)
        go_ret
        exact ⟨rfl, hb⟩
      · have d2 : decide (1099511627776 < x) = false := by simp; omega
        by_cases g3 : z < -1099511627776
        · have d3 : decide (z < -1099511627776) = true := by simp; omega
          go_enter Try.func5, Try.ntmps5
          go_wp2_with (go_at_call 7; refine (awake_any _).mono ?_; rintro e w1 ⟨rfl, hb⟩)
          go_ret
          exact ⟨rfl, hb⟩
        · have d3 : decide (z < -1099511627776) = false := by simp; omega
          have g4 : 1099511627776 < z := by omega
          have d4 : decide (1099511627776 < z) = true := by simp; omega
          go_enter Try.func5, Try.ntmps5
          go_wp2_with (go_at_call 7; refine (awake_any _).mono ?_; rintro e w1 ⟨rfl, hb⟩)
          go_ret
          exact ⟨rfl, hb⟩
end Go.Proofs.Ytacdjinfalohnaa
