/- The walks through the ground's height. -/
import Derived.Test.YtacdjinfalohnaaNoiseOct
import Derived.Test.YtacdjinfalohnaaNoiseRef
import Derived.Test.YtacdjinfalohnaaHeightPlain
namespace Go.Proofs.Ytacdjinfalohnaa
set_option linter.unusedVariables false
open Go.RowKit
set_option maxHeartbeats 400000
theorem of_any (seed x z : Int) (h : Oc.U seed) (hx : Oc.I x) (hz : Oc.I z) (w : World) :
    Calls Try.prog 8 #[.int .u64 seed, .int .i64 x, .int .i64 z] w fun e w' => e = .returned (.int .i64 (Oc.hgt seed x z)) ∧ Below w.heap.size w w' := by
  obtain ⟨r0, r1⟩ := Oc.oct_range seed 10 x z 6 4 (by decide)
  unfold Oc.hgt
  have hc := oct_any seed 10 x z 6 4 h hx hz ⟨by decide, by decide⟩ ⟨by decide, by decide⟩
  have e4 : (4 : Int).toNat = 4 := rfl
  rw [e4] at hc
  generalize Oc.oct seed 10 x z 6 4 = o at *
  have HC := Lib.hid hc; clear hc
  go_enter Try.func8, Try.ntmps8
  go_wp2_with (go_at_call 14; refine (HC.out _).mono ?_; rintro e w' ⟨rfl, hb⟩)
  go_ret
  exact ⟨rfl, hb⟩
theorem band_any (seed x z : Int) (h : Oc.U seed) (hx : Oc.I x) (hz : Oc.I z) (w : World) :
    Calls Try.prog 9 #[.int .u64 seed, .int .i64 x, .int .i64 z] w fun e w' => e = .returned (.int .i64 (Oc.band seed x z)) ∧ Below w.heap.size w w' := by
  unfold Oc.band
  have hc := oct_any seed 11 x z 7 2 h hx hz ⟨by decide, by decide⟩ ⟨by decide, by decide⟩
  have e4 : (2 : Int).toNat = 2 := rfl
  rw [e4] at hc
  generalize Oc.oct seed 11 x z 7 2 = o at *
  have HC := Lib.hid hc; clear hc
  unfold Oc.bandOf
  by_cases g1 : o < 16000
  · rw [if_pos g1]
    go_enter Try.func9, Try.ntmps9
    go_wp2_with (go_at_call 14; refine (HC.out _).mono ?_; rintro e w' ⟨rfl, hb⟩)
    go_ret
    exact ⟨rfl, hb⟩
  · rw [if_neg g1]
    by_cases g2 : o < 25000
    · rw [if_pos g2]
      go_enter Try.func9, Try.ntmps9
      go_wp2_with (go_at_call 14; refine (HC.out _).mono ?_; rintro e w' ⟨rfl, hb⟩)
      go_ret
      exact ⟨rfl, hb⟩
    · rw [if_neg g2]
      by_cases g3 : o < 36000
      · rw [if_pos g3]
        go_enter Try.func9, Try.ntmps9
        go_wp2_with (go_at_call 14; refine (HC.out _).mono ?_; rintro e w' ⟨rfl, hb⟩)
        go_ret
        exact ⟨rfl, hb⟩
      · rw [if_neg g3]
        go_enter Try.func9, Try.ntmps9
        go_wp2_with (go_at_call 14; refine (HC.out _).mono ?_; rintro e w' ⟨rfl, hb⟩)
        go_ret
        exact ⟨rfl, hb⟩
theorem rhof_any (seed x z : Int) (h : Oc.U seed) (hx : Oc.I x) (hz : Oc.I z) (w : World) :
    Calls Try.prog 10 #[.int .u64 seed, .int .i64 x, .int .i64 z] w fun e w' => e = .returned (.int .i64 (Oc.hgt seed x z)) ∧ Below w.heap.size w w' := by
  obtain ⟨r0, r1⟩ := Oc.oct_range seed 10 x z 6 4 (by decide)
  unfold Oc.hgt
  have hc := roct_any seed 10 x z 6 4 h hx hz ⟨by decide, by decide⟩ ⟨by decide, by decide⟩
  have e4 : (4 : Int).toNat = 4 := rfl
  rw [e4] at hc
  generalize Oc.oct seed 10 x z 6 4 = o at *
  have HC := Lib.hid hc; clear hc
  go_enter Try.func10, Try.ntmps10
  go_wp2_with (go_at_call 15; refine (HC.out _).mono ?_; rintro e w' ⟨rfl, hb⟩)
  go_ret
  exact ⟨rfl, hb⟩
theorem rband_any (seed x z : Int) (h : Oc.U seed) (hx : Oc.I x) (hz : Oc.I z) (w : World) :
    Calls Try.prog 11 #[.int .u64 seed, .int .i64 x, .int .i64 z] w fun e w' => e = .returned (.int .i64 (Oc.band seed x z)) ∧ Below w.heap.size w w' := by
  unfold Oc.band
  have hc := roct_any seed 11 x z 7 2 h hx hz ⟨by decide, by decide⟩ ⟨by decide, by decide⟩
  have e4 : (2 : Int).toNat = 2 := rfl
  rw [e4] at hc
  generalize Oc.oct seed 11 x z 7 2 = o at *
  have HC := Lib.hid hc; clear hc
  unfold Oc.bandOf
  by_cases g1 : o < 16000
  · rw [if_pos g1]
    go_enter Try.func11, Try.ntmps11
    go_wp2_with (go_at_call 15; refine (HC.out _).mono ?_; rintro e w' ⟨rfl, hb⟩)
    go_ret
    exact ⟨rfl, hb⟩
  · rw [if_neg g1]
    by_cases g2 : o < 25000
    · rw [if_pos g2]
      go_enter Try.func11, Try.ntmps11
      go_wp2_with (go_at_call 15; refine (HC.out _).mono ?_; rintro e w' ⟨rfl, hb⟩)
      go_ret
      exact ⟨rfl, hb⟩
    · rw [if_neg g2]
      by_cases g3 : o < 36000
      · rw [if_pos g3]
        go_enter Try.func11, Try.ntmps11
        go_wp2_with (go_at_call 15; refine (HC.out _).mono ?_; rintro e w' ⟨rfl, hb⟩)
        go_ret
        exact ⟨rfl, hb⟩
      · rw [if_neg g3]
        go_enter Try.func11, Try.ntmps11
        go_wp2_with (go_at_call 15; refine (HC.out _).mono ?_; rintro e w' ⟨rfl, hb⟩)
        go_ret
        exact ⟨rfl, hb⟩
end Go.Proofs.Ytacdjinfalohnaa
