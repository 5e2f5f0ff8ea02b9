/- The walks through the laws of the smooth heights. -/
import Derived.Test.YthlhcpdkimcjhabNoiseLaw
import Derived.Test.YthlhcpdkimcjhabNoiseMore
namespace Go.Proofs.Ythlhcpdkimcjhab
set_option linter.unusedVariables false
open Go.RowKit
set_option maxHeartbeats 400000

theorem slopes_early (seed stage x z s : Int) (w : World) (g : s < 0 ∨ 20 < s ∨ x < -1099511627776 ∨ 1099511627776 < x ∨ z < -1099511627776 ∨ 1099511627776 < z) :
    Calls Try.prog 3 #[.int .u64 seed, .int .i64 stage, .int .i64 x, .int .i64 z, .int .i64 s] w fun e w' => e = .returned (.bool true) ∧ Below w.heap.size w w' := by
  have hb := Below.refl w.heap.size w
  rcases g with g | g | g | g | g | g
  all_goals
    go_enter Try.func3, Try.ntmps3
    go_wp2_with (first | (go_at_call 4; refine (awake_any _).mono ?_; rintro e w' ⟨rfl, hb'⟩; have hb := hb.trans (hb'.mono hb.size); clear hb'))
    all_goals go_ret
    all_goals exact ⟨rfl, hb⟩
theorem slopes_walk (seed stage x z s : Int) (w : World) (h : Oc.U seed) (_ : Oc.I stage) (hx : Oc.I x) (hz : Oc.I z) (_ : Oc.I s) :
    Calls Try.prog 3 #[.int .u64 seed, .int .i64 stage, .int .i64 x, .int .i64 z, .int .i64 s] w fun e w' => e = .returned (.bool true) ∧ Below w.heap.size w w' := by
  by_cases g : s < 0 ∨ 20 < s ∨ x < -1099511627776 ∨ 1099511627776 < x ∨ z < -1099511627776 ∨ 1099511627776 < z
  · exact slopes_early seed stage x z s w g
  · obtain ⟨n, rfl⟩ := Int.eq_ofNat_of_zero_le (show 0 ≤ s by omega)
    have hn : n ≤ 20 := by omega
    have x0 : -1099511627776 ≤ x := by omega
    have x1 : x ≤ 1099511627776 := by omega
    have z0 : -1099511627776 ≤ z := by omega
    have z1 : z ≤ 1099511627776 := by omega
    have ix : Oc.I (x + 1) := ⟨by omega, by omega⟩
    have iz : Oc.I (z + 1) := ⟨by omega, by omega⟩
    have kx := Oc.slope_x seed stage x z n hn ⟨by omega, by omega⟩
    have kz := Oc.slope_z seed stage x z n hn ⟨by omega, by omega⟩
    obtain ⟨m0, m1⟩ := Oc.most_range n
    unfold Oc.most at kx kz
    obtain ⟨fa, fb⟩ := Oc.flat_range seed stage x z n
    obtain ⟨fc, fd⟩ := Oc.flat_range seed stage (x + 1) z n
    obtain ⟨fe, ff⟩ := Oc.flat_range seed stage x (z + 1) n
    have hb := Below.refl w.heap.size w
    have k1 : Oc.flat seed stage x z n - Oc.flat seed stage (x + 1) z n ≤ 98304 / 2 ^ n + 6 := by omega
    have k2 : Oc.flat seed stage (x + 1) z n - Oc.flat seed stage x z n ≤ 98304 / 2 ^ n + 6 := by omega
    have k3 : Oc.flat seed stage x z n - Oc.flat seed stage x (z + 1) n ≤ 98304 / 2 ^ n + 6 := by omega
    have k4 : Oc.flat seed stage x (z + 1) n - Oc.flat seed stage x z n ≤ 98304 / 2 ^ n + 6 := by omega
    clear g kx kz
    go_enter Try.func3, Try.ntmps3
    go_wp2_with (first | (go_at_call 4; refine (awake_any _).mono ?_; rintro e w' ⟨rfl, hb'⟩; have hb := hb.trans (hb'.mono hb.size); clear hb') | (go_at_call 5; refine (flat_any _ _ _ _ _ h (by assumption) (by assumption) ⟨by omega, by omega⟩ _).mono ?_; rintro e w' ⟨rfl, hb'⟩; have hb := hb.trans (hb'.mono hb.size); clear hb'))
    go_ret
    exact ⟨rfl, hb⟩
end Go.Proofs.Ythlhcpdkimcjhab
