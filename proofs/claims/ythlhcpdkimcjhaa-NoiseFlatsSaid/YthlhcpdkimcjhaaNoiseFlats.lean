/- The walk through the law of the heights between corners. -/
import Derived.Test.YthlhcpdkimcjhaaNoiseLaw
import Derived.Test.YthlhcpdkimcjhaaNoiseMore
namespace Go.Proofs.Ythlhcpdkimcjhaa
set_option linter.unusedVariables false
open Go.RowKit
set_option maxHeartbeats 400000
/-- The corners seen so far lie between low and high. -/
def Seen (a b c d : Int) (k : Nat) (lo hi : Int) : Prop :=
  (0 < k → lo ≤ a ∧ a ≤ hi) ∧ (1 < k → lo ≤ b ∧ b ≤ hi) ∧ (2 < k → lo ≤ c ∧ c ≤ hi) ∧ (3 < k → lo ≤ d ∧ d ≤ hi)
theorem flats_early (seed stage x z s : Int) (w : World) (h : Oc.U seed) (hx : Oc.I x) (hz : Oc.I z) (g : s < 0 ∨ 20 < s) :
    Calls Try.prog 5 #[.int .u64 seed, .int .i64 stage, .int .i64 x, .int .i64 z, .int .i64 s] w fun e w' => e = .returned (.bool true) ∧ Below w.heap.size w w' := by
  have hb := Below.refl w.heap.size w
  have e : Oc.flatG seed stage x z s = 0 := by unfold Oc.flatG; rw [if_pos g]
  rcases g with g | g
  all_goals
    go_enter Try.func5, Try.ntmps5
    go_wp2_with (first | (go_at_call 9; refine (awake_any _).mono ?_; rintro e w' ⟨rfl, hb'⟩; have hb := hb.trans (hb'.mono hb.size); clear hb') | (go_at_call 14; refine (flatG_any _ _ _ _ _ h hx hz _).mono ?_; rintro e w' ⟨rfl, hb'⟩; have hb := hb.trans (hb'.mono hb.size); clear hb') | (go_at_call 15; refine (rflatG_any _ _ _ _ _ h hx hz _).mono ?_; rintro e w' ⟨rfl, hb'⟩; have hb := hb.trans (hb'.mono hb.size); clear hb'))
    all_goals go_ret
    all_goals exact ⟨rfl, hb⟩
theorem flats_far (seed stage x z s : Int) (w : World) (h : Oc.U seed) (hx : Oc.I x) (hz : Oc.I z) (s0 : 0 ≤ s) (s1 : s ≤ 20) (g : x < -1099511627776 ∨ 1099511627776 < x ∨ z < -1099511627776 ∨ 1099511627776 < z) :
    Calls Try.prog 5 #[.int .u64 seed, .int .i64 stage, .int .i64 x, .int .i64 z, .int .i64 s] w fun e w' => e = .returned (.bool true) ∧ Below w.heap.size w w' := by
  have hb := Below.refl w.heap.size w
  obtain ⟨f0, f1⟩ := Oc.flat_range seed stage x z s
  rcases g with g | g | g | g
  all_goals
    go_enter Try.func5, Try.ntmps5
    go_wp2_with (first | (go_at_call 9; refine (awake_any _).mono ?_; rintro e w' ⟨rfl, hb'⟩; have hb := hb.trans (hb'.mono hb.size); clear hb') | (go_at_call 14; refine (flat_any _ _ _ _ _ h hx hz ⟨by omega, by omega⟩ _).mono ?_; rintro e w' ⟨rfl, hb'⟩; have hb := hb.trans (hb'.mono hb.size); clear hb') | (go_at_call 15; refine (rflat_any _ _ _ _ _ h hx hz ⟨by omega, by omega⟩ _).mono ?_; rintro e w' ⟨rfl, hb'⟩; have hb := hb.trans (hb'.mono hb.size); clear hb'))
    all_goals go_ret
    all_goals exact ⟨rfl, hb⟩
theorem flats_near (seed stage x z s : Int) (w : World) (h : Oc.U seed) (hx : Oc.I x) (hz : Oc.I z) (s0 : 0 ≤ s) (s1 : s ≤ 20) (x0 : -1099511627776 ≤ x) (x1 : x ≤ 1099511627776) (z0 : -1099511627776 ≤ z) (z1 : z ≤ 1099511627776) :
    Calls Try.prog 5 #[.int .u64 seed, .int .i64 stage, .int .i64 x, .int .i64 z, .int .i64 s] w fun e w' => e = .returned (.bool true) ∧ Below w.heap.size w w' := by
  obtain ⟨n, rfl⟩ := Int.eq_ofNat_of_zero_le s0
  have hn : n ≤ 20 := by omega
  obtain ⟨c0, c1⟩ := Oc.quot_near x n ⟨x0, x1⟩
  obtain ⟨d0, d1⟩ := Oc.quot_near z n ⟨z0, z1⟩
  have hb := Below.refl w.heap.size w
  go_enter Try.func5, Try.ntmps5
  go_wp2_with (first | (go_at_call 9; refine (awake_any _).mono ?_; rintro e w' ⟨rfl, hb'⟩; have hb := hb.trans (hb'.mono hb.size); clear hb') | (go_at_call 14; refine (flat_any _ _ _ _ _ h hx hz ⟨by omega, by omega⟩ _).mono ?_; rintro e w' ⟨rfl, hb'⟩; have hb := hb.trans (hb'.mono hb.size); clear hb') | (go_at_call 15; refine (rflat_any _ _ _ _ _ h hx hz ⟨by omega, by omega⟩ _).mono ?_; rintro e w' ⟨rfl, hb'⟩; have hb := hb.trans (hb'.mono hb.size); clear hb'))
  go_loop [15, 16, 17] (fun l u i => ∃ (k : Nat) (lo hi : Int), k ≤ 4 ∧ i = .int .i64 k ∧ l = .int .i64 lo ∧ u = .int .i64 hi ∧ Seen (Oc.lat seed stage (x / 2 ^ n) (z / 2 ^ n)) (Oc.lat seed stage (x / 2 ^ n + 1) (z / 2 ^ n)) (Oc.lat seed stage (x / 2 ^ n) (z / 2 ^ n + 1)) (Oc.lat seed stage (x / 2 ^ n + 1) (z / 2 ^ n + 1)) k lo hi) (fun _ _ i => 4 - (intOf i).toNat)
  case atStart => exact ⟨0, 65535, 0, by omega, rfl, rfl, rfl, by unfold Seen; omega⟩
  case round =>
    obtain ⟨k, lo, hi, hk, rfl, rfl, rfl, hs⟩ := hrel
    by_cases hlt : k < 4
    · have H := Lib.hid hs
      clear hs hk
      obtain rfl | rfl | rfl | rfl : k = 0 ∨ k = 1 ∨ k = 2 ∨ k = 3 := by omega
      all_goals
        go_wp2_with (first | (go_at_call 10; refine (lat_any _ _ _ _ h _).mono ?_; rintro e w' ⟨rfl, rfl⟩))
        all_goals
          have hs := H.out
          go_round
          case rel => first
            | exact ⟨1, _, _, by omega, rfl, rfl, rfl, by unfold Seen at *; omega⟩
            | exact ⟨2, _, _, by omega, rfl, rfl, rfl, by unfold Seen at *; omega⟩
            | exact ⟨3, _, _, by omega, rfl, rfl, rfl, by unfold Seen at *; omega⟩
            | exact ⟨4, _, _, by omega, rfl, rfl, rfl, by unfold Seen at *; omega⟩
          case measure => simp [intOf]
    · obtain rfl : k = 4 := by omega
      obtain ⟨f0, f1⟩ := Oc.flat_seen seed stage x z n lo hi ⟨by omega, by omega⟩ ⟨by omega, by omega⟩ (hs.1 (by omega)) (hs.2.1 (by omega)) (hs.2.2.1 (by omega)) (hs.2.2.2 (by omega))
      clear hs hlt
      go_wp2
      go_ret
      exact ⟨rfl, hb⟩
theorem flats_walk (seed stage x z s : Int) (w : World) (h : Oc.U seed) (_ : Oc.I stage) (hx : Oc.I x) (hz : Oc.I z) (_ : Oc.I s) :
    Calls Try.prog 5 #[.int .u64 seed, .int .i64 stage, .int .i64 x, .int .i64 z, .int .i64 s] w fun e w' => e = .returned (.bool true) ∧ Below w.heap.size w w' := by
  by_cases g : s < 0 ∨ 20 < s
  · exact flats_early seed stage x z s w h hx hz g
  · by_cases g2 : x < -1099511627776 ∨ 1099511627776 < x ∨ z < -1099511627776 ∨ 1099511627776 < z
    · exact flats_far seed stage x z s w h hx hz (by omega) (by omega) g2
    · exact flats_near seed stage x z s w h hx hz (by omega) (by omega) (by omega) (by omega) (by omega) (by omega)
end Go.Proofs.Ythlhcpdkimcjhaa
