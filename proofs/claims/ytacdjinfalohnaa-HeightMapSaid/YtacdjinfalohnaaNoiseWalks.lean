/- The walks through the smooth heights: each function is what the plain text says. -/
import Derived.Test.YtacdjinfalohnaaRngWalks
import Derived.Test.YtacdjinfalohnaaNoisePlain
namespace Go.Proofs.Ytacdjinfalohnaa
set_option linter.unusedVariables false
open Go.RowKit
set_option maxHeartbeats 400000

theorem clamp_any (v low high : Int) (w : World) :
    Calls Try.prog 33 #[.int .i64 v, .int .i64 low, .int .i64 high] w fun e w' => e = .returned (.int .i64 (Oc.clamp v low high)) ∧ w = w' := by
  by_cases h : v < low
  · go_enter Try.func33, Try.ntmps33
    go_wp2
    go_ret
    exact ⟨Oc.ret_int (by unfold Oc.clamp; omega), rfl⟩
  · by_cases h2 : high < v
    · go_enter Try.func33, Try.ntmps33
      go_wp2
      go_ret
      exact ⟨Oc.ret_int (by unfold Oc.clamp; omega), rfl⟩
    · go_enter Try.func33, Try.ntmps33
      go_wp2
      go_ret
      exact ⟨Oc.ret_int (by unfold Oc.clamp; omega), rfl⟩
theorem rclamp_any (v low high : Int) (w : World) :
    Calls Try.prog 31 #[.int .i64 v, .int .i64 low, .int .i64 high] w fun e w' => e = .returned (.int .i64 (Oc.clamp v low high)) ∧ w = w' := by
  by_cases h : v < low
  · go_enter Try.func31, Try.ntmps31
    go_wp2
    go_ret
    exact ⟨Oc.ret_int (by unfold Oc.clamp; omega), rfl⟩
  · by_cases h2 : high < v
    · go_enter Try.func31, Try.ntmps31
      go_wp2
      go_ret
      exact ⟨Oc.ret_int (by unfold Oc.clamp; omega), rfl⟩
    · go_enter Try.func31, Try.ntmps31
      go_wp2
      go_ret
      exact ⟨Oc.ret_int (by unfold Oc.clamp; omega), rfl⟩
theorem fade_any (t : Int) (w : World) :
    Calls Try.prog 29 #[.int .i64 t] w fun e w' => e = .returned (.int .i64 (Oc.fade t)) ∧ w = w' := by
  obtain ⟨c0, c1⟩ := Oc.clamp_range t
  have s := Oc.sq_range _ c0 c1
  have q := Oc.cube_range _ c0 c1
  show Calls _ _ _ _ fun e w' => e = .returned (.int .i64 (Oc.fadeC (Oc.clamp t 0 65536))) ∧ w = w'
  have hc := clamp_any t 0 65536
  revert c0 c1 s q hc
  generalize Oc.clamp t 0 65536 = c
  intro c0 c1 s q hc
  have HC := Lib.hid hc; clear hc
  go_enter Try.func29, Try.ntmps29
  go_wp2_with (go_at_call 33; refine (HC.out _).mono ?_; rintro e w' ⟨rfl, rfl⟩)
  go_ret
  exact ⟨rfl, rfl⟩
theorem rfade_any (t : Int) (w : World) :
    Calls Try.prog 25 #[.int .i64 t] w fun e w' => e = .returned (.int .i64 (Oc.fade t)) ∧ w = w' := by
  obtain ⟨c0, c1⟩ := Oc.clamp_range t
  have s := Oc.sq_range _ c0 c1
  have q := Oc.cube_range _ c0 c1
  show Calls _ _ _ _ fun e w' => e = .returned (.int .i64 (Oc.fadeC (Oc.clamp t 0 65536))) ∧ w = w'
  have hc := rclamp_any t 0 65536
  revert c0 c1 s q hc
  generalize Oc.clamp t 0 65536 = c
  intro c0 c1 s q hc
  have HC := Lib.hid hc; clear hc
  go_enter Try.func25, Try.ntmps25
  go_wp2_with (go_at_call 31; refine (HC.out _).mono ?_; rintro e w' ⟨rfl, rfl⟩)
  go_ret
  exact ⟨rfl, rfl⟩
theorem lat_any (seed stage x z : Int) (h : Oc.U seed) (w : World) :
    Calls Try.prog 23 #[.int .u64 seed, .int .i64 stage, .int .i64 x, .int .i64 z] w fun e w' => e = .returned (.int .i64 (Oc.lat seed stage x z)) ∧ w = w' := by
  show Calls _ _ _ _ fun e w' => e = .returned (.int .i64 (Oc.hash seed stage x 0 z / 281474976710656)) ∧ w = w'
  have hu := Oc.hash_U seed stage x 0 z
  have hc := hash_any seed stage x 0 z h
  revert hu hc
  generalize Oc.hash seed stage x 0 z = c
  intro hu hc
  have HC := Lib.hid hc; clear hc
  obtain ⟨u0, u1⟩ := hu
  go_enter Try.func23, Try.ntmps23
  go_wp2_with (go_at_call 30; refine (HC.out _).mono ?_; rintro e w' ⟨rfl, rfl⟩)
  go_ret
  exact ⟨rfl, rfl⟩
theorem between_any (a b t : Int) (ha : 0 ≤ a ∧ a ≤ 65535) (hb : 0 ≤ b ∧ b ≤ 65535) (ht : 0 ≤ t ∧ t ≤ 65536) (w : World) :
    Calls Try.prog 22 #[.int .i64 a, .int .i64 b, .int .i64 t] w fun e w' => e = .returned (.int .i64 (Oc.between a b t)) ∧ w = w' := by
  have s := Oc.scale_range (b - a) t ht.1 ht.2
  have s1 : -4294967296 ≤ (b - a) * t ∧ (b - a) * t ≤ 4294967296 := by
    rcases Int.le_total 0 (b - a) with h | h
    · have := s.1 h; omega
    · have := s.2 h; omega
  clear s
  go_enter Try.func22, Try.ntmps22
  go_wp2
  go_ret
  exact ⟨rfl, rfl⟩
theorem split_any (v s : Int) (hs : 0 ≤ s ∧ s ≤ 20) (w : World) :
    Calls Try.prog 21 #[.int .i64 v, .int .i64 s] w fun e w' => e = .returned (.tuple #[.int .i64 (Oc.cell v s), .int .i64 (Oc.tval v s)]) ∧ Below w.heap.size w w' := by
  obtain ⟨n, rfl⟩ := Int.eq_ofNat_of_zero_le hs.1
  have hn : n ≤ 20 := by omega
  clear hs
  go_enter Try.func21, Try.ntmps21
  go_wp2
  go_quiet ((go_at_call 29; exact Oc.quiet_left (fade_any _ _)))
  go_wp2
  go_ret2
  refine ⟨?_, Oc.below_drewN (Below.refl _ _) _⟩
  show Ending.returned (.tuple #[.int .i64 (v / 2 ^ n), .int .i64 (Oc.fade (wrap64 (bits .and .i64 v (wrap64 (wrap64 (2 ^ n) - 1)) * 65536) / 2 ^ n))]) = _
  rw [Oc.frac_walk v n hn]
  unfold Oc.cell
  rw [Oc.side_nat]; rfl
theorem rdiv_any (a b : Int) (hb : 1 ≤ b ∧ b ≤ 1048576) (ha : Oc.I a) (w : World) :
    Calls Try.prog 24 #[.int .i64 a, .int .i64 b] w fun e w' => e = .returned (.int .i64 (a / b)) ∧ w = w' := by
  obtain ⟨b0, b1⟩ := hb
  have hd := Oc.div_parts a b b0
  have hq := Oc.quot_range a b b0 ha
  obtain ⟨a0, a1⟩ := ha
  by_cases h : a.tmod b < 0
  · go_enter Try.func24, Try.ntmps24
    go_wp2
    go_ret
    exact ⟨Oc.ret_int (by first | rfl | (have := hd.2 h; omega)), rfl⟩
  · go_enter Try.func24, Try.ntmps24
    go_wp2
    go_ret
    exact ⟨Oc.ret_int (by first | rfl | (have := hd.1 h; omega) | (have := hd.1 (by omega); omega)), rfl⟩
theorem flat_any (seed stage x z s : Int) (h : Oc.U seed) (hx : Oc.I x) (hz : Oc.I z) (hs : 0 ≤ s ∧ s ≤ 20) (w : World) :
    Calls Try.prog 18 #[.int .u64 seed, .int .i64 stage, .int .i64 x, .int .i64 z, .int .i64 s] w fun e w' => e = .returned (.int .i64 (Oc.flat seed stage x z s)) ∧ Below w.heap.size w w' := by
  obtain ⟨s0, s1⟩ := hs
  obtain ⟨z0, z1⟩ := Oc.cell_range z s hz
  obtain ⟨x0, x1⟩ := Oc.cell_range x s hx
  go_enter Try.func18, Try.ntmps18
  have hb := Below.refl w.heap.size w
  go_wp2_with (go_at_call 21; refine (split_any _ _ ⟨s0, s1⟩ _).mono ?_; rintro e w' ⟨rfl, hb'⟩; have hb := hb.trans (hb'.mono hb.size); clear hb')
  refine wp_loop_rounds 3 ?_
  repeat (rw [rounds_succ]; go_wp2_with (first | (go_at_call 23; refine (lat_any _ _ _ _ h _).mono ?_; rintro e w' ⟨rfl, rfl⟩) | (go_at_call 22; refine (between_any _ _ _ (by first | exact Oc.lat_range _ _ _ _ | exact Oc.row_range _ _ _ _ _ _ _ _) (by first | exact Oc.lat_range _ _ _ _ | exact Oc.row_range _ _ _ _ _ _ _ _) (Oc.tval_range _ _) _).mono ?_; rintro e w' ⟨rfl, rfl⟩)))
  go_ret
  refine ⟨rfl, ?_⟩
  have hz := hb.size
  go_grown
theorem flatG_any (seed stage x z s : Int) (h : Oc.U seed) (hx : Oc.I x) (hz : Oc.I z) (w : World) :
    Calls Try.prog 18 #[.int .u64 seed, .int .i64 stage, .int .i64 x, .int .i64 z, .int .i64 s] w fun e w' => e = .returned (.int .i64 (Oc.flatG seed stage x z s)) ∧ Below w.heap.size w w' := by
  unfold Oc.flatG
  by_cases g : s < 0 ∨ 20 < s
  · rw [if_pos g]
    by_cases g0 : s < 0
    · go_enter Try.func18, Try.ntmps18
      go_wp2_with fail
      go_ret
      exact ⟨rfl, Below.refl _ _⟩
    · have g1 : 20 < s := by omega
      clear g
      go_enter Try.func18, Try.ntmps18
      go_wp2_with fail
      go_ret
      exact ⟨rfl, Below.refl _ _⟩
  · rw [if_neg g]
    exact flat_any seed stage x z s h hx hz (by omega) w
end Go.Proofs.Ytacdjinfalohnaa
