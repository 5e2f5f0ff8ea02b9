/- The walk through the law's 'awake'. -/
import Derived.Test.YtacdjinfalohnaaHeightMaps
namespace Go.Proofs.Ytacdjinfalohnaa
set_option linter.unusedVariables false
set_option linter.unusedSimpArgs false
open Go.RowKit
set_option maxHeartbeats 1000000
set_option maxRecDepth 100000 in
theorem differs : Oc.hgt 1 0 0 ≠ Oc.hgt 1 (50 * ((10 : Nat) : Int)) 0 := by decide +kernel
theorem small0 : Oc.Small 0 0 := ⟨by decide, by decide, by decide, by decide⟩
theorem vals0 (g : Int → Int → Int) : (Oc.vals g (Oc.cols small0 256))[0]? = some (.int .i64 (g 0 0)) := by
  rw [Oc.vals_at g small0 256 0 (by omega)]; rfl
theorem awake_any (w : World) : Calls Try.prog 7 #[] w fun e w' => e = .returned (.bool true) ∧ Below w.heap.size w w' := by
  have hm := map_any 1 0 0 ⟨by decide, by decide⟩ small0
  have HM := Lib.hid hm; clear hm
  obtain ⟨H, hH⟩ : ∃ H : Int → Int, ∀ x, Oc.hgt 1 x 0 = H x := ⟨fun x => Oc.hgt 1 x 0, fun _ => rfl⟩
  have hd : H 0 ≠ H (50 * ((10 : Nat) : Int)) := by rw [← hH, ← hH]; exact differs
  have HD := Lib.hid hd
  have HE := Lib.hid hH
  clear hd hH
  go_enter Try.func7, Try.ntmps7
  go_wp2_with (go_at_call 12; refine (HM.out _).mono ?_; rintro e w1 ⟨v1, v2, rfl, hr1, hr2, hb⟩; obtain ⟨g1, cap1, rfl⟩ := ownsRow_succ (k := 255) hr1; obtain ⟨g2, cap2, rfl⟩ := ownsRow_succ (k := 255) hr2; have c0 : w1.cell? ⟨g1, 0, none⟩ = some (.int .i64 (H 0)) := by rw [← HE.out]; exact (hr1.cellAt 0 (by omega)).trans (vals0 _))
  go_loopw [3, 4, 5, 6] (fun lo hi i _ wr => ∃ (a b : Int) (k : Nat), k ≤ 40 ∧ i = .int .i64 k ∧ lo = .int .i64 a ∧ hi = .int .i64 b ∧ a ≤ H 0 ∧ H 0 ≤ b ∧ (∀ j : Nat, j < k → a ≤ H (50 * (j : Int)) ∧ H (50 * (j : Int)) ≤ b) ∧ Below w.heap.size w wr) (fun _ _ i _ _ => 40 - (intOf i).toNat)
  case atStart =>
    exact ⟨_, _, 0, by omega, rfl, rfl, rfl, by omega, by omega, fun j hj => absurd hj (by omega), hb⟩
  case round =>
    clear hb hr1 hr2 c0
    obtain ⟨a, b, k, hk, rfl, rfl, rfl, ha, hb', hall, hB⟩ := hrel
    have hBz := hB.size
    by_cases hlt : k < 40
    · have d0 : decide ((k : Int) < 40) = true := by simp; omega
      have ho := of_any 1 (50 * (k : Int)) 0 ⟨by decide, by decide⟩ (by unfold Oc.I; omega) (by unfold Oc.I; omega)
      rw [HE.out] at ho
      obtain ⟨n, hn⟩ : ∃ n, n = H (50 * (k : Int)) := ⟨_, rfl⟩
      rw [← hn] at ho
      have hall' : ∀ a' b', a' ≤ a → b ≤ b' → a' ≤ n → n ≤ b' → ∀ j : Nat, j < k + 1 → a' ≤ H (50 * (j : Int)) ∧ H (50 * (j : Int)) ≤ b' := fun a' b' h1 h2 h3 h4 j hj => by
        by_cases e : j < k
        · have := hall j e; omega
        · obtain rfl : j = k := by omega
          rw [← hn]; exact ⟨h3, h4⟩
      have HO := Lib.hid ho; have HH := Lib.hid hall'
      clear ho hall hall' hn
      by_cases g1 : n < a
      · have g2 : ¬ b < n := by omega
        have d1 : decide (n < a) = true := by simp; omega
        have d2 : decide (b < n) = false := by simp; omega
        go_wp2_with (go_at_call 8; refine (HO.out _).mono ?_; rintro e W1 ⟨rfl, hb1⟩; have hB1 := hB.trans (hb1.mono hBz))
        go_roundw
        case rel => exact ⟨n, b, k + 1, by omega, by go_num, rfl, rfl, by omega, by omega, HH.out n b (by omega) (by omega) (by omega) (by omega), hB1⟩
        case measure => simp [intOf]; omega
      · by_cases g2 : b < n
        · have d1 : decide (n < a) = false := by simp; omega
          have d2 : decide (b < n) = true := by simp; omega
          go_wp2_with (go_at_call 8; refine (HO.out _).mono ?_; rintro e W1 ⟨rfl, hb1⟩; have hB1 := hB.trans (hb1.mono hBz))
          go_roundw
          case rel => exact ⟨a, n, k + 1, by omega, by go_num, rfl, rfl, by omega, by omega, HH.out a n (by omega) (by omega) (by omega) (by omega), hB1⟩
          case measure => simp [intOf]; omega
        · have d1 : decide (n < a) = false := by simp; omega
          have d2 : decide (b < n) = false := by simp; omega
          go_wp2_with (go_at_call 8; refine (HO.out _).mono ?_; rintro e W1 ⟨rfl, hb1⟩; have hB1 := hB.trans (hb1.mono hBz))
          go_roundw
          case rel => exact ⟨a, b, k + 1, by omega, by go_num, rfl, rfl, by omega, by omega, HH.out a b (by omega) (by omega) (by omega) (by omega), hB1⟩
          case measure => simp [intOf]; omega
    · obtain rfl : k = 40 := by omega
      have h10 := hall 10 (by omega)
      have hd := HD.out
      have hab : a < b := by omega
      have d1 : decide (a < b) = true := by simp; omega
      clear h10 hd hall
      go_wp2
      go_ret
      exact ⟨rfl, hB⟩
end Go.Proofs.Ytacdjinfalohnaa
