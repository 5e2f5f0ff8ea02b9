/- The walks through the sums of heights, and through the document's own text. -/
import Derived.Test.YtacdjinfalohnaaNoiseWalks
namespace Go.Proofs.Ytacdjinfalohnaa
set_option linter.unusedVariables false
open Go.RowKit
set_option maxHeartbeats 400000

theorem oct_any (seed stage x z s many : Int) (h : Oc.U seed) (hx : Oc.I x) (hz : Oc.I z) (hm : 1 ≤ many ∧ many ≤ 8) (hs : many - 1 ≤ s ∧ s ≤ 20) (w : World) :
    Calls Try.prog 14 #[.int .u64 seed, .int .i64 stage, .int .i64 x, .int .i64 z, .int .i64 s, .int .i64 many] w fun e w' => e = .returned (.int .i64 (Oc.oct seed stage x z s many.toNat)) ∧ Below w.heap.size w w' := by
  obtain ⟨m, rfl⟩ := Int.eq_ofNat_of_zero_le (show 0 ≤ many by omega)
  have m1 : 1 ≤ m := by omega
  have m8 : m ≤ 8 := by omega
  obtain ⟨s0, s1⟩ := hs
  clear hm
  go_enter Try.func14, Try.ntmps14
  go_wp2_with fail
  go_loopw [13, 32] (fun v i wr => ∃ k : Nat, k ≤ m ∧ i = .int .i64 k ∧ v = .int .i64 (Oc.oct seed stage x z s k) ∧ Below w.heap.size w wr) (fun _ i _ => m - (intOf i).toNat)
  case atStart => exact ⟨0, by omega, rfl, rfl, Below.refl _ _⟩
  case round =>
    obtain ⟨k, hk, rfl, rfl, hb⟩ := hrel
    obtain ⟨r0, r1⟩ := Oc.oct_range seed stage x z s k (by omega)
    obtain ⟨p0, p1⟩ := Oc.part_range seed (wrap64 (stage + 100 * k)) x z (s - k) k
    have p2 := Oc.share_le k
    by_cases hlt : k < m
    · go_wp2_with (go_at_call 18; refine (flat_any _ _ _ _ _ h hx hz ⟨by omega, by omega⟩ _).mono ?_; rintro e w' ⟨rfl, hb'⟩; have hb := hb.trans (hb'.mono hb.size); clear hb')
      go_roundw
      case rel => exact ⟨k + 1, by omega, by go_num, rfl, hb⟩
      case measure => simp [intOf]; omega
    · go_wp2
      go_ret
      have : k = m := by omega
      subst this
      exact ⟨rfl, hb⟩
theorem octG_any (seed stage x z s many : Int) (h : Oc.U seed) (hx : Oc.I x) (hz : Oc.I z) (w : World) :
    Calls Try.prog 14 #[.int .u64 seed, .int .i64 stage, .int .i64 x, .int .i64 z, .int .i64 s, .int .i64 many] w fun e w' => e = .returned (.int .i64 (Oc.octG seed stage x z s many)) ∧ Below w.heap.size w w' := by
  unfold Oc.octG
  by_cases g : many < 1 ∨ 8 < many ∨ s < many - 1 ∨ 20 < s
  · rw [if_pos g]
    by_cases g1 : many < 1
    · go_enter Try.func14, Try.ntmps14
      go_wp2_with fail
      go_ret
      exact ⟨rfl, Below.refl _ _⟩
    · by_cases g2 : 8 < many
      · go_enter Try.func14, Try.ntmps14
        go_wp2_with fail
        go_ret
        exact ⟨rfl, Below.refl _ _⟩
      · by_cases g3 : s < many - 1
        · clear g
          go_enter Try.func14, Try.ntmps14
          go_wp2_with fail
          go_ret
          exact ⟨rfl, Below.refl _ _⟩
        · have g4 : 20 < s := by omega
          clear g
          go_enter Try.func14, Try.ntmps14
          go_wp2_with fail
          go_ret
          exact ⟨rfl, Below.refl _ _⟩
  · rw [if_neg g]
    exact oct_any seed stage x z s many h hx hz (by omega) (by omega) w
end Go.Proofs.Ytacdjinfalohnaa
