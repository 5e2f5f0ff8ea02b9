/- The walks through the laws of the smooth heights. -/
import Derived.Test.YthlhcpdkimcjhaaNoiseLaw
import Derived.Test.YthlhcpdkimcjhaaNoiseMore
namespace Go.Proofs.Ythlhcpdkimcjhaa
set_option linter.unusedVariables false
open Go.RowKit
set_option maxHeartbeats 400000

theorem fades_walk (t u : Int) (w : World) (_ : Oc.I t) (_ : Oc.I u) :
    Calls Try.prog 4 #[.int .i64 t, .int .i64 u] w fun e w' => e = .returned (.bool true) ∧ Below w.heap.size w w' := by
  obtain ⟨a0, a1⟩ := Oc.fade_range t
  have hb := Below.refl w.heap.size w
  rcases Int.lt_trichotomy t u with g | g | g
  · have m := Oc.fade_mono t u (by omega)
    have g' : ¬ u < t := by omega
    go_enter Try.func4, Try.ntmps4
    go_wp2_with (first | (go_at_call 9; refine (awake_any _).mono ?_; rintro e w' ⟨rfl, hb'⟩; have hb := hb.trans (hb'.mono hb.size); clear hb') | (go_at_call 12; refine (fade_any _ _).mono ?_; rintro e w' ⟨rfl, rfl⟩) | (go_at_call 13; refine (rfade_any _ _).mono ?_; rintro e w' ⟨rfl, rfl⟩))
    go_ret
    exact ⟨rfl, hb⟩
  · subst g
    go_enter Try.func4, Try.ntmps4
    go_wp2_with (first | (go_at_call 9; refine (awake_any _).mono ?_; rintro e w' ⟨rfl, hb'⟩; have hb := hb.trans (hb'.mono hb.size); clear hb') | (go_at_call 12; refine (fade_any _ _).mono ?_; rintro e w' ⟨rfl, rfl⟩) | (go_at_call 13; refine (rfade_any _ _).mono ?_; rintro e w' ⟨rfl, rfl⟩))
    go_ret
    exact ⟨rfl, hb⟩
  · have m := Oc.fade_mono u t (by omega)
    have g' : ¬ t < u := by omega
    go_enter Try.func4, Try.ntmps4
    go_wp2_with (first | (go_at_call 9; refine (awake_any _).mono ?_; rintro e w' ⟨rfl, hb'⟩; have hb := hb.trans (hb'.mono hb.size); clear hb') | (go_at_call 12; refine (fade_any _ _).mono ?_; rintro e w' ⟨rfl, rfl⟩) | (go_at_call 13; refine (rfade_any _ _).mono ?_; rintro e w' ⟨rfl, rfl⟩))
    go_ret
    exact ⟨rfl, hb⟩
theorem meets_early (seed stage x z s : Int) (w : World) (g : s < 0 ∨ 20 < s ∨ x < -1099511627776 ∨ 1099511627776 < x ∨ z < -1099511627776 ∨ 1099511627776 < z) :
    Calls Try.prog 6 #[.int .u64 seed, .int .i64 stage, .int .i64 x, .int .i64 z, .int .i64 s] w fun e w' => e = .returned (.bool true) ∧ Below w.heap.size w w' := by
  have hb := Below.refl w.heap.size w
  rcases g with g | g | g | g | g | g
  all_goals
    go_enter Try.func6, Try.ntmps6
    go_wp2_with (first | (go_at_call 9; refine (awake_any _).mono ?_; rintro e w' ⟨rfl, hb'⟩; have hb := hb.trans (hb'.mono hb.size); clear hb'))
    all_goals go_ret
    all_goals exact ⟨rfl, hb⟩
theorem meets_walk (seed stage x z s : Int) (w : World) (h : Oc.U seed) (_ : Oc.I stage) (hx : Oc.I x) (hz : Oc.I z) (_ : Oc.I s) :
    Calls Try.prog 6 #[.int .u64 seed, .int .i64 stage, .int .i64 x, .int .i64 z, .int .i64 s] w fun e w' => e = .returned (.bool true) ∧ Below w.heap.size w w' := by
  by_cases g : s < 0 ∨ 20 < s ∨ x < -1099511627776 ∨ 1099511627776 < x ∨ z < -1099511627776 ∨ 1099511627776 < z
  · exact meets_early seed stage x z s w g
  · obtain ⟨n, rfl⟩ := Int.eq_ofNat_of_zero_le (show 0 ≤ s by omega)
    have hn : n ≤ 20 := by omega
    have x0 : -1099511627776 ≤ x := by omega
    have x1 : x ≤ 1099511627776 := by omega
    have z0 : -1099511627776 ≤ z := by omega
    have z1 : z ≤ 1099511627776 := by omega
    obtain ⟨p0, p1⟩ := Oc.pow_range n hn
    have sx := Oc.times_range x n hn ⟨x0, x1⟩
    have sz := Oc.times_range z n hn ⟨z0, z1⟩
    have ix : Oc.I (x * 2 ^ n) := ⟨by omega, by omega⟩
    have iz : Oc.I (z * 2 ^ n) := ⟨by omega, by omega⟩
    have e1 := Oc.flat_meets seed stage x z n
    have e2 := Oc.flat_narrow seed stage x z
    have hb := Below.refl w.heap.size w
    clear g
    go_enter Try.func6, Try.ntmps6
    go_wp2_with (first | (go_at_call 9; refine (awake_any _).mono ?_; rintro e w' ⟨rfl, hb'⟩; have hb := hb.trans (hb'.mono hb.size); clear hb') | (go_at_call 14; refine (flat_any _ _ _ _ _ h (by assumption) (by assumption) ⟨by omega, by omega⟩ _).mono ?_; rintro e w' ⟨rfl, hb'⟩; have hb := hb.trans (hb'.mono hb.size); clear hb') | (go_at_call 10; refine (lat_any _ _ _ _ h _).mono ?_; rintro e w' ⟨rfl, rfl⟩))
    go_ret
    exact ⟨rfl, hb⟩
theorem sums_walk (seed stage x z s many : Int) (w : World) (h : Oc.U seed) (_ : Oc.I stage) (hx : Oc.I x) (hz : Oc.I z) (_ : Oc.I s) (_ : Oc.I many) :
    Calls Try.prog 7 #[.int .u64 seed, .int .i64 stage, .int .i64 x, .int .i64 z, .int .i64 s, .int .i64 many] w fun e w' => e = .returned (.bool true) ∧ Below w.heap.size w w' := by
  obtain ⟨r0, r1⟩ := Oc.octG_range seed stage x z s many
  have hb := Below.refl w.heap.size w
  go_enter Try.func7, Try.ntmps7
  go_wp2_with (first | (go_at_call 9; refine (awake_any _).mono ?_; rintro e w' ⟨rfl, hb'⟩; have hb := hb.trans (hb'.mono hb.size); clear hb') | (go_at_call 16; refine (octG_any _ _ _ _ _ _ h hx hz _).mono ?_; rintro e w' ⟨rfl, hb'⟩; have hb := hb.trans (hb'.mono hb.size); clear hb') | (go_at_call 17; refine (roctG_any _ _ _ _ _ _ h hx hz _).mono ?_; rintro e w' ⟨rfl, hb'⟩; have hb := hb.trans (hb'.mono hb.size); clear hb'))
  all_goals go_ret
  all_goals exact ⟨rfl, hb⟩
theorem ones_early (seed stage x z s many : Int) (w : World) (g : stage < -1099511627776 ∨ 1099511627776 < stage ∨ many < 1 ∨ 7 < many ∨ s < many ∨ 20 < s) :
    Calls Try.prog 8 #[.int .u64 seed, .int .i64 stage, .int .i64 x, .int .i64 z, .int .i64 s, .int .i64 many] w fun e w' => e = .returned (.bool true) ∧ Below w.heap.size w w' := by
  have hb := Below.refl w.heap.size w
  rcases g with g | g | g | g | g | g
  all_goals
    go_enter Try.func8, Try.ntmps8
    go_wp2_with (first | (go_at_call 9; refine (awake_any _).mono ?_; rintro e w' ⟨rfl, hb'⟩; have hb := hb.trans (hb'.mono hb.size); clear hb'))
    all_goals go_ret
    all_goals exact ⟨rfl, hb⟩
theorem ones_walk (seed stage x z s many : Int) (w : World) (h : Oc.U seed) (_ : Oc.I stage) (hx : Oc.I x) (hz : Oc.I z) (_ : Oc.I s) (_ : Oc.I many) :
    Calls Try.prog 8 #[.int .u64 seed, .int .i64 stage, .int .i64 x, .int .i64 z, .int .i64 s, .int .i64 many] w fun e w' => e = .returned (.bool true) ∧ Below w.heap.size w w' := by
  by_cases g : stage < -1099511627776 ∨ 1099511627776 < stage ∨ many < 1 ∨ 7 < many ∨ s < many ∨ 20 < s
  · exact ones_early seed stage x z s many w g
  · obtain ⟨m, rfl⟩ := Int.eq_ofNat_of_zero_le (show 0 ≤ many by omega)
    have m1 : 1 ≤ m := by omega
    have m7 : m ≤ 7 := by omega
    have s0 : (m : Int) ≤ s := by omega
    have s1 : s ≤ 20 := by omega
    have t0 : -1099511627776 ≤ stage := by omega
    have t1 : stage ≤ 1099511627776 := by omega
    clear g
    have hs := Oc.oct_succ seed stage x z s m (by omega)
    obtain ⟨a0, a1⟩ := Oc.oct_range seed stage x z s m (by omega)
    obtain ⟨b0, b1⟩ := Oc.oct_range seed stage x z s (m + 1) (by omega)
    have f1 := Oc.oct_one seed stage x z s ⟨by omega, by omega⟩
    obtain ⟨f2, f3⟩ := Oc.flat_range seed stage x z s
    have q0 : Oc.oct seed stage x z s m ≤ Oc.oct seed stage x z s (m + 1) := by omega
    have q1 : Oc.oct seed stage x z s (m + 1) - Oc.oct seed stage x z s m ≤ 65536 / 2 ^ (m + 1) := by omega
    have hb := Below.refl w.heap.size w
    have e0 : ((m : Int) + 1).toNat = m + 1 := by omega
    clear hs
    go_enter Try.func8, Try.ntmps8
    go_wp2_with (first | (go_at_call 9; refine (awake_any _).mono ?_; rintro e w' ⟨rfl, hb'⟩; have hb := hb.trans (hb'.mono hb.size); clear hb') | (go_at_call 16; refine (oct_any _ _ _ _ _ _ h hx hz ⟨by omega, by omega⟩ ⟨by omega, by omega⟩ _).mono ?_; rintro e w' ⟨rfl, hb'⟩; have hb := hb.trans (hb'.mono hb.size); clear hb') | (go_at_call 14; refine (flat_any _ _ _ _ _ h (by assumption) (by assumption) ⟨by omega, by omega⟩ _).mono ?_; rintro e w' ⟨rfl, hb'⟩; have hb := hb.trans (hb'.mono hb.size); clear hb'))
    go_ret
    exact ⟨rfl, hb⟩
end Go.Proofs.Ythlhcpdkimcjhaa
