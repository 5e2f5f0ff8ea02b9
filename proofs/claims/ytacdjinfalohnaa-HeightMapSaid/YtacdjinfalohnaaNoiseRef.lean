/- The walks through the sums of heights, and through the document's own text. -/
import Derived.Test.YtacdjinfalohnaaNoiseWalks
namespace Go.Proofs.Ytacdjinfalohnaa
set_option linter.unusedVariables false
open Go.RowKit
set_option maxHeartbeats 400000

theorem rlat_any (seed stage x z : Int) (h : Oc.U seed) (w : World) :
    Calls Try.prog 28 #[.int .u64 seed, .int .i64 stage, .int .i64 x, .int .i64 z] w fun e w' => e = .returned (.int .i64 (Oc.lat seed stage x z)) ∧ Below w.heap.size w w' := by
  show Calls _ _ _ _ fun e w' => e = .returned (.int .i64 (Oc.hash seed stage x 0 z / 281474976710656)) ∧ Below w.heap.size w w'
  have hu := Oc.hash_U seed stage x 0 z
  have hc := rhash_any seed stage x 0 z h
  revert hu hc
  generalize Oc.hash seed stage x 0 z = c
  intro hu hc
  have HC := Lib.hid hc; clear hc
  obtain ⟨u0, u1⟩ := hu
  go_enter Try.func28, Try.ntmps28
  go_wp2_with (go_at_call 32; refine (HC.out _).mono ?_; rintro e w' ⟨rfl, hb⟩)
  go_ret
  exact ⟨rfl, hb⟩
theorem rmod_any (a b : Int) (hb : 1 ≤ b ∧ b ≤ 1048576) (ha : Oc.I a) (w : World) :
    Calls Try.prog 26 #[.int .i64 a, .int .i64 b] w fun e w' => e = .returned (.int .i64 (a % b)) ∧ w = w' := by
  obtain ⟨b0, b1⟩ := hb
  have hd := Oc.div_parts a b b0
  have m0 := Int.emod_nonneg a (show b ≠ 0 by omega)
  have m1 := Int.emod_lt_of_pos a (show 0 < b by omega)
  obtain ⟨a0, a1⟩ := ha
  by_cases h : a.tmod b < 0
  · go_enter Try.func26, Try.ntmps26
    go_wp2
    go_ret
    exact ⟨Oc.ret_int (by first | rfl | (have := hd.2 h; omega)), rfl⟩
  · go_enter Try.func26, Try.ntmps26
    go_wp2
    go_ret
    exact ⟨Oc.ret_int (by first | rfl | (have := hd.1 h; omega) | (have := hd.1 (by omega); omega)), rfl⟩
theorem rbetween_any (a b t : Int) (ha : 0 ≤ a ∧ a ≤ 65535) (hb : 0 ≤ b ∧ b ≤ 65535) (ht : 0 ≤ t ∧ t ≤ 65536) (w : World) :
    Calls Try.prog 27 #[.int .i64 a, .int .i64 b, .int .i64 t] w fun e w' => e = .returned (.int .i64 (Oc.between a b t)) ∧ w = w' := by
  have s := Oc.scale_range (b - a) t ht.1 ht.2
  have s1 : -4294967296 ≤ (b - a) * t ∧ (b - a) * t ≤ 4294967296 := by
    rcases Int.le_total 0 (b - a) with h | h
    · have := s.1 h; omega
    · have := s.2 h; omega
  clear s
  have s2 : -65536 ≤ (b - a) * t / 65536 ∧ (b - a) * t / 65536 ≤ 65536 := by omega
  go_enter Try.func27, Try.ntmps27
  go_wp2_with (go_at_call 24; refine (rdiv_any _ _ ⟨by decide, by decide⟩ ⟨by omega, by omega⟩ _).mono ?_; rintro e w' ⟨rfl, rfl⟩)
  go_ret
  exact ⟨rfl, rfl⟩
theorem rflat_any (seed stage x z s : Int) (h : Oc.U seed) (hx : Oc.I x) (hz : Oc.I z) (hs : 0 ≤ s ∧ s ≤ 20) (w : World) :
    Calls Try.prog 19 #[.int .u64 seed, .int .i64 stage, .int .i64 x, .int .i64 z, .int .i64 s] w fun e w' => e = .returned (.int .i64 (Oc.flat seed stage x z s)) ∧ Below w.heap.size w w' := by
  obtain ⟨n, rfl⟩ := Int.eq_ofNat_of_zero_le hs.1
  have hn : n ≤ 20 := by omega
  clear hs
  obtain ⟨z0, z1⟩ := Oc.cell_range z n hz
  obtain ⟨x0, x1⟩ := Oc.cell_range x n hx
  go_enter Try.func19, Try.ntmps19
  go_wp2_with fail
  go_loop [11, 12] (fun v i => ∃ k : Nat, k ≤ n ∧ i = .int .i64 k ∧ v = .int .i64 (Oc.side (k : Int))) (fun _ i => n - (intOf i).toNat)
  case atStart => exact ⟨0, by omega, rfl, by rw [Oc.side_zero]⟩
  case round =>
    obtain ⟨k, hk, rfl, rfl⟩ := hrel
    have q0 := Oc.side_pos k
    have q1 := Oc.side_le k (by omega)
    by_cases hlt : k < n
    · go_wp2
      go_round
      case rel => exact ⟨k + 1, by omega, by go_num, by rw [Oc.side_succ]⟩
      case measure => simp [intOf]; omega
    · obtain rfl : k = n := by omega
      obtain ⟨m0, m1⟩ := Oc.mod_range x k
      obtain ⟨m2, m3⟩ := Oc.mod_range z k
      have hb := Below.refl w.heap.size w
      clear hlt
      go_wp2_with (first
        | (go_at_call 24; refine (rdiv_any _ _ ⟨q0, q1⟩ (by assumption) _).mono ?_; rintro e w' ⟨rfl, rfl⟩)
        | (go_at_call 26; refine (rmod_any _ _ ⟨q0, q1⟩ (by assumption) _).mono ?_; rintro e w' ⟨rfl, rfl⟩)
        | (go_at_call 25; refine (rfade_any _ _).mono ?_; rintro e w' ⟨rfl, rfl⟩)
        | (go_at_call 28; refine (rlat_any _ _ _ _ h _).mono ?_; rintro e w' ⟨rfl, hb'⟩; have hb := hb.trans (hb'.mono hb.size); clear hb')
        | (go_at_call 27; refine (rbetween_any _ _ _ (by first | exact Oc.lat_range _ _ _ _ | exact Oc.row_range _ _ _ _ _ _ _ _) (by first | exact Oc.lat_range _ _ _ _ | exact Oc.row_range _ _ _ _ _ _ _ _) (Oc.tval_range _ _) _).mono ?_; rintro e w' ⟨rfl, rfl⟩))
      go_ret
      exact ⟨rfl, hb⟩
theorem roct_any (seed stage x z s many : Int) (h : Oc.U seed) (hx : Oc.I x) (hz : Oc.I z) (hm : 1 ≤ many ∧ many ≤ 8) (hs : many - 1 ≤ s ∧ s ≤ 20) (w : World) :
    Calls Try.prog 15 #[.int .u64 seed, .int .i64 stage, .int .i64 x, .int .i64 z, .int .i64 s, .int .i64 many] w fun e w' => e = .returned (.int .i64 (Oc.oct seed stage x z s many.toNat)) ∧ Below w.heap.size w w' := by
  obtain ⟨m, rfl⟩ := Int.eq_ofNat_of_zero_le (show 0 ≤ many by omega)
  have m1 : 1 ≤ m := by omega
  have m8 : m ≤ 8 := by omega
  obtain ⟨s0, s1⟩ := hs
  clear hm
  go_enter Try.func15, Try.ntmps15
  go_wp2_with fail
  go_loopw [13, 14, 15] (fun v hf i wr => ∃ k : Nat, k ≤ m ∧ i = .int .i64 k ∧ hf = .int .i64 (Oc.half k) ∧ v = .int .i64 (Oc.oct seed stage x z s k) ∧ Below w.heap.size w wr) (fun _ _ i _ => m - (intOf i).toNat)
  case atStart => exact ⟨0, by omega, rfl, rfl, rfl, Below.refl _ _⟩
  case round =>
    obtain ⟨k, hk, rfl, rfl, rfl, hb⟩ := hrel
    obtain ⟨r0, r1⟩ := Oc.oct_range seed stage x z s k (by omega)
    obtain ⟨p0, p1⟩ := Oc.part_range seed (wrap64 (stage + 100 * k)) x z (s - k) k
    have p2 := Oc.share_le k
    have p3 : Oc.flat seed (wrap64 (stage + 100 * k)) x z (s - k) / Oc.half k ≤ 65535 := by unfold Oc.half; omega
    have p4 : 0 ≤ Oc.flat seed (wrap64 (stage + 100 * k)) x z (s - k) / Oc.half k := p0
    obtain ⟨f0, f1⟩ := Oc.flat_range seed (wrap64 (stage + 100 * k)) x z (s - k)
    obtain ⟨g0, g1⟩ := Oc.half_range k (by omega)
    clear p0 p1 p2
    by_cases hlt : k < m
    · go_wp2_with (go_at_call 19; refine (rflat_any _ _ _ _ _ h hx hz ⟨by omega, by omega⟩ _).mono ?_; rintro e w' ⟨rfl, hb'⟩; have hb := hb.trans (hb'.mono hb.size); clear hb')
      go_roundw
      case rel => exact ⟨k + 1, by omega, by go_num, by rw [Oc.half_succ], rfl, hb⟩
      case measure => simp [intOf]; omega
    · go_wp2
      go_ret
      have : k = m := by omega
      subst this
      exact ⟨rfl, hb⟩
theorem rflatG_any (seed stage x z s : Int) (h : Oc.U seed) (hx : Oc.I x) (hz : Oc.I z) (w : World) :
    Calls Try.prog 19 #[.int .u64 seed, .int .i64 stage, .int .i64 x, .int .i64 z, .int .i64 s] w fun e w' => e = .returned (.int .i64 (Oc.flatG seed stage x z s)) ∧ Below w.heap.size w w' := by
  unfold Oc.flatG
  by_cases g : s < 0 ∨ 20 < s
  · rw [if_pos g]
    by_cases g0 : s < 0
    · go_enter Try.func19, Try.ntmps19
      go_wp2_with fail
      go_ret
      exact ⟨rfl, Below.refl _ _⟩
    · have g1 : 20 < s := by omega
      clear g
      go_enter Try.func19, Try.ntmps19
      go_wp2_with fail
      go_ret
      exact ⟨rfl, Below.refl _ _⟩
  · rw [if_neg g]
    exact rflat_any seed stage x z s h hx hz (by omega) w
theorem roctG_any (seed stage x z s many : Int) (h : Oc.U seed) (hx : Oc.I x) (hz : Oc.I z) (w : World) :
    Calls Try.prog 15 #[.int .u64 seed, .int .i64 stage, .int .i64 x, .int .i64 z, .int .i64 s, .int .i64 many] w fun e w' => e = .returned (.int .i64 (Oc.octG seed stage x z s many)) ∧ Below w.heap.size w w' := by
  unfold Oc.octG
  by_cases g : many < 1 ∨ 8 < many ∨ s < many - 1 ∨ 20 < s
  · rw [if_pos g]
    by_cases g1 : many < 1
    · go_enter Try.func15, Try.ntmps15
      go_wp2_with fail
      go_ret
      exact ⟨rfl, Below.refl _ _⟩
    · by_cases g2 : 8 < many
      · go_enter Try.func15, Try.ntmps15
        go_wp2_with fail
        go_ret
        exact ⟨rfl, Below.refl _ _⟩
      · by_cases g3 : s < many - 1
        · clear g
          go_enter Try.func15, Try.ntmps15
          go_wp2_with fail
          go_ret
          exact ⟨rfl, Below.refl _ _⟩
        · have g4 : 20 < s := by omega
          clear g
          go_enter Try.func15, Try.ntmps15
          go_wp2_with fail
          go_ret
          exact ⟨rfl, Below.refl _ _⟩
  · rw [if_neg g]
    exact roct_any seed stage x z s many h hx hz (by omega) (by omega) w
end Go.Proofs.Ytacdjinfalohnaa
