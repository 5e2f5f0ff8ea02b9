/- The walks through the laws of the mixing. -/
import Derived.Test.YtjcbkchhafkffaaRngLaw
namespace Go.Proofs.Ytjcbkchhafkffaa
set_option linter.unusedVariables false
open Go.RowKit
set_option maxHeartbeats 400000
theorem mixes_walk (x : Int) (w : World) (h : Oc.U x) :
    Calls Try.prog 3 #[.int .u64 x] w fun e w' => e = .returned (.bool true) ∧ Below w.heap.size w w' := by
  have hb := Below.refl w.heap.size w
  go_enter Try.func3, Try.ntmps3
  go_wp2_with (first | (go_at_call 9; refine (awake_any _).mono ?_; rintro e w' ⟨rfl, hb'⟩; have hb := hb.trans (hb'.mono hb.size); clear hb') | (go_at_call 10; refine (mix_any _ (by first | assumption | exact Oc.unmix_U _) _).mono ?_; rintro e w' ⟨rfl, rfl⟩) | (go_at_call 11; refine (rmix_any _ (by assumption) _).mono ?_; rintro e w' ⟨rfl, rfl⟩))
  go_ret
  exact ⟨rfl, hb⟩
theorem back_walk (x : Int) (w : World) (h : Oc.U x) :
    Calls Try.prog 4 #[.int .u64 x] w fun e w' => e = .returned (.bool true) ∧ Below w.heap.size w w' := by
  have hb := Below.refl w.heap.size w
  have e1 := Oc.unmix_mix x h
  have e2 := Oc.mix_unmix x h
  go_enter Try.func4, Try.ntmps4
  go_wp2_with (first | (go_at_call 9; refine (awake_any _).mono ?_; rintro e w' ⟨rfl, hb'⟩; have hb := hb.trans (hb'.mono hb.size); clear hb') | (go_at_call 10; refine (mix_any _ (by first | assumption | exact Oc.unmix_U _) _).mono ?_; rintro e w' ⟨rfl, rfl⟩) | (go_at_call 12; refine (unmix_any _ (by first | assumption | exact Oc.mix_U _) _).mono ?_; rintro e w' ⟨rfl, rfl⟩))
  go_ret
  exact ⟨rfl, hb⟩
theorem hashes_walk (seed stage x y z : Int) (w : World) (h : Oc.U seed) (_ : Oc.I stage) (_ : Oc.I x) (_ : Oc.I y) (_ : Oc.I z) :
    Calls Try.prog 5 #[.int .u64 seed, .int .i64 stage, .int .i64 x, .int .i64 y, .int .i64 z] w fun e w' => e = .returned (.bool true) ∧ Below w.heap.size w w' := by
  have hb := Below.refl w.heap.size w
  go_enter Try.func5, Try.ntmps5
  go_wp2_with (first | (go_at_call 9; refine (awake_any _).mono ?_; rintro e w' ⟨rfl, hb'⟩; have hb := hb.trans (hb'.mono hb.size); clear hb') | (go_at_call 13; refine (hash_any _ _ _ _ _ (by first | assumption | exact Oc.wrap_U _) _).mono ?_; rintro e w' ⟨rfl, rfl⟩) | (go_at_call 14; refine (rhash_any _ _ _ _ _ (by assumption) _).mono ?_; rintro e w' ⟨rfl, hb'⟩; have hb := hb.trans (hb'.mono hb.size); clear hb'))
  go_ret
  exact ⟨rfl, hb⟩
theorem belows_walk (h n : Int) (w : World) (hh : Oc.U h) (_ : Oc.I n) :
    Calls Try.prog 6 #[.int .u64 h, .int .i64 n] w fun e w' => e = .returned (.bool true) ∧ Below w.heap.size w w' := by
  have hb := Below.refl w.heap.size w
  obtain ⟨r0, r1⟩ := Oc.belowG_range h n hh
  by_cases g : Oc.belowG h n < n
  · clear r1
    go_enter Try.func6, Try.ntmps6
    go_wp2_with (first | (go_at_call 9; refine (awake_any _).mono ?_; rintro e w' ⟨rfl, hb'⟩; have hb := hb.trans (hb'.mono hb.size); clear hb') | (go_at_call 15; refine (below_any _ _ (by assumption) _).mono ?_; rintro e w' ⟨rfl, rfl⟩) | (go_at_call 16; refine (rbelow_any _ _ (by assumption) _).mono ?_; rintro e w' ⟨rfl, rfl⟩))
    go_ret
    exact ⟨rfl, hb⟩
  · have r2 : Oc.belowG h n = 0 := by omega
    clear r1
    go_enter Try.func6, Try.ntmps6
    go_wp2_with (first | (go_at_call 9; refine (awake_any _).mono ?_; rintro e w' ⟨rfl, hb'⟩; have hb := hb.trans (hb'.mono hb.size); clear hb') | (go_at_call 15; refine (below_any _ _ (by assumption) _).mono ?_; rintro e w' ⟨rfl, rfl⟩) | (go_at_call 16; refine (rbelow_any _ _ (by assumption) _).mono ?_; rintro e w' ⟨rfl, rfl⟩))
    all_goals go_ret
    all_goals exact ⟨rfl, hb⟩
theorem rises_lt_early (a b n k : Int) (w : World) (ha : Oc.U a) (hbU : Oc.U b) (o : a < b) (g : n < 1 ∨ 1048576 < n ∨ k < 0 ∨ n ≤ k) :
    Calls Try.prog 8 #[.int .u64 a, .int .u64 b, .int .i64 n, .int .i64 k] w fun e w' => e = .returned (.bool true) ∧ Below w.heap.size w w' := by
  have hb := Below.refl w.heap.size w
  have m := Oc.belowG_mono a b n ha (by omega)
  have o2 : ¬ b ≤ a := by omega
  rcases g with g | g | g | g
  all_goals
    go_enter Try.func8, Try.ntmps8
    go_wp2_with (first | (go_at_call 9; refine (awake_any _).mono ?_; rintro e w' ⟨rfl, hb'⟩; have hb := hb.trans (hb'.mono hb.size); clear hb') | (go_at_call 15; refine (below_any _ _ (by assumption) _).mono ?_; rintro e w' ⟨rfl, rfl⟩))
    all_goals go_ret
    all_goals exact ⟨rfl, hb⟩
theorem rises_lt_late (a b n k : Int) (w : World) (ha : Oc.U a) (hbU : Oc.U b) (o : a < b) (n0 : 1 ≤ n) (n1 : n ≤ 1048576) (k0 : 0 ≤ k) (k1 : k < n) :
    Calls Try.prog 8 #[.int .u64 a, .int .u64 b, .int .i64 n, .int .i64 k] w fun e w' => e = .returned (.bool true) ∧ Below w.heap.size w w' := by
  have hb := Below.refl w.heap.size w
  have m := Oc.belowG_mono a b n ha (by omega)
  have o2 : ¬ b ≤ a := by omega
  have e := Oc.below_reach k n k0 k1 n1
  obtain ⟨r0, r1⟩ := Oc.reach_range k n k0 k1 n1
  unfold Oc.reach at *
  have hu : Oc.U ((k * 4294967296 + n - 1) / n * 4294967296) := ⟨by omega, by omega⟩
  go_enter Try.func8, Try.ntmps8
  go_wp2_with (first | (go_at_call 9; refine (awake_any _).mono ?_; rintro e w' ⟨rfl, hb'⟩; have hb := hb.trans (hb'.mono hb.size); clear hb') | (go_at_call 15; refine (below_any _ _ (by assumption) _).mono ?_; rintro e w' ⟨rfl, rfl⟩))
  go_ret
  exact ⟨rfl, hb⟩
theorem rises_eq_early (a b n k : Int) (w : World) (ha : Oc.U a) (hbU : Oc.U b) (o : a = b) (g : n < 1 ∨ 1048576 < n ∨ k < 0 ∨ n ≤ k) :
    Calls Try.prog 8 #[.int .u64 a, .int .u64 b, .int .i64 n, .int .i64 k] w fun e w' => e = .returned (.bool true) ∧ Below w.heap.size w w' := by
  have hb := Below.refl w.heap.size w
  subst o
  rcases g with g | g | g | g
  all_goals
    go_enter Try.func8, Try.ntmps8
    go_wp2_with (first | (go_at_call 9; refine (awake_any _).mono ?_; rintro e w' ⟨rfl, hb'⟩; have hb := hb.trans (hb'.mono hb.size); clear hb') | (go_at_call 15; refine (below_any _ _ (by assumption) _).mono ?_; rintro e w' ⟨rfl, rfl⟩))
    all_goals go_ret
    all_goals exact ⟨rfl, hb⟩
theorem rises_eq_late (a b n k : Int) (w : World) (ha : Oc.U a) (hbU : Oc.U b) (o : a = b) (n0 : 1 ≤ n) (n1 : n ≤ 1048576) (k0 : 0 ≤ k) (k1 : k < n) :
    Calls Try.prog 8 #[.int .u64 a, .int .u64 b, .int .i64 n, .int .i64 k] w fun e w' => e = .returned (.bool true) ∧ Below w.heap.size w w' := by
  have hb := Below.refl w.heap.size w
  subst o
  have e := Oc.below_reach k n k0 k1 n1
  obtain ⟨r0, r1⟩ := Oc.reach_range k n k0 k1 n1
  unfold Oc.reach at *
  have hu : Oc.U ((k * 4294967296 + n - 1) / n * 4294967296) := ⟨by omega, by omega⟩
  go_enter Try.func8, Try.ntmps8
  go_wp2_with (first | (go_at_call 9; refine (awake_any _).mono ?_; rintro e w' ⟨rfl, hb'⟩; have hb := hb.trans (hb'.mono hb.size); clear hb') | (go_at_call 15; refine (below_any _ _ (by assumption) _).mono ?_; rintro e w' ⟨rfl, rfl⟩))
  go_ret
  exact ⟨rfl, hb⟩
theorem rises_gt_early (a b n k : Int) (w : World) (ha : Oc.U a) (hbU : Oc.U b) (o : b < a) (g : n < 1 ∨ 1048576 < n ∨ k < 0 ∨ n ≤ k) :
    Calls Try.prog 8 #[.int .u64 a, .int .u64 b, .int .i64 n, .int .i64 k] w fun e w' => e = .returned (.bool true) ∧ Below w.heap.size w w' := by
  have hb := Below.refl w.heap.size w
  have m := Oc.belowG_mono b a n hbU (by omega)
  have o2 : ¬ a ≤ b := by omega
  rcases g with g | g | g | g
  all_goals
    go_enter Try.func8, Try.ntmps8
    go_wp2_with (first | (go_at_call 9; refine (awake_any _).mono ?_; rintro e w' ⟨rfl, hb'⟩; have hb := hb.trans (hb'.mono hb.size); clear hb') | (go_at_call 15; refine (below_any _ _ (by assumption) _).mono ?_; rintro e w' ⟨rfl, rfl⟩))
    all_goals go_ret
    all_goals exact ⟨rfl, hb⟩
theorem rises_gt_late (a b n k : Int) (w : World) (ha : Oc.U a) (hbU : Oc.U b) (o : b < a) (n0 : 1 ≤ n) (n1 : n ≤ 1048576) (k0 : 0 ≤ k) (k1 : k < n) :
    Calls Try.prog 8 #[.int .u64 a, .int .u64 b, .int .i64 n, .int .i64 k] w fun e w' => e = .returned (.bool true) ∧ Below w.heap.size w w' := by
  have hb := Below.refl w.heap.size w
  have m := Oc.belowG_mono b a n hbU (by omega)
  have o2 : ¬ a ≤ b := by omega
  have e := Oc.below_reach k n k0 k1 n1
  obtain ⟨r0, r1⟩ := Oc.reach_range k n k0 k1 n1
  unfold Oc.reach at *
  have hu : Oc.U ((k * 4294967296 + n - 1) / n * 4294967296) := ⟨by omega, by omega⟩
  go_enter Try.func8, Try.ntmps8
  go_wp2_with (first | (go_at_call 9; refine (awake_any _).mono ?_; rintro e w' ⟨rfl, hb'⟩; have hb := hb.trans (hb'.mono hb.size); clear hb') | (go_at_call 15; refine (below_any _ _ (by assumption) _).mono ?_; rintro e w' ⟨rfl, rfl⟩))
  go_ret
  exact ⟨rfl, hb⟩
theorem rises_walk (a b n k : Int) (w : World) (ha : Oc.U a) (hbU : Oc.U b) (_ : Oc.I n) (_ : Oc.I k) :
    Calls Try.prog 8 #[.int .u64 a, .int .u64 b, .int .i64 n, .int .i64 k] w fun e w' => e = .returned (.bool true) ∧ Below w.heap.size w w' := by
  by_cases g : n < 1 ∨ 1048576 < n ∨ k < 0 ∨ n ≤ k
  · rcases Int.lt_trichotomy a b with o | o | o
    · exact rises_lt_early a b n k w ha hbU o g
    · exact rises_eq_early a b n k w ha hbU o g
    · exact rises_gt_early a b n k w ha hbU o g
  · rcases Int.lt_trichotomy a b with o | o | o
    · exact rises_lt_late a b n k w ha hbU o (by omega) (by omega) (by omega) (by omega)
    · exact rises_eq_late a b n k w ha hbU o (by omega) (by omega) (by omega) (by omega)
    · exact rises_gt_late a b n k w ha hbU o (by omega) (by omega) (by omega) (by omega)
end Go.Proofs.Ytjcbkchhafkffaa
