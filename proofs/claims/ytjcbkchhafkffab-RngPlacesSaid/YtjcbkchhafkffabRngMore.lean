/- The walks through the turning back, the numbers below, and a new stream. -/
import Derived.Test.YtjcbkchhafkffabRngWalks
import Derived.Test.YtjcbkchhafkffabRngBack
namespace Go.Proofs.Ytjcbkchhafkffab
set_option linter.unusedVariables false
open Go.RowKit
set_option maxHeartbeats 400000
theorem undone31_any (x : Int) (h : Oc.U x) (w : World) :
    Calls Try.prog 21 #[.int .u64 x, .int .i64 31] w fun e w' => e = .returned (.int .u64 (Oc.und 2147483648 x)) ∧ w = w' := by
  have h0 := h.1
  have h1 := h.2
  clear h
  go_enter Try.func21, Try.ntmps21
  go_wp2_with fail
  refine wp_loop_rounds 4 ?_
  repeat (rw [rounds_succ]; go_wp2_with fail)
  go_ret
  exact ⟨rfl, rfl⟩
theorem undone27_any (x : Int) (h : Oc.U x) (w : World) :
    Calls Try.prog 21 #[.int .u64 x, .int .i64 27] w fun e w' => e = .returned (.int .u64 (Oc.und 134217728 x)) ∧ w = w' := by
  have h0 := h.1
  have h1 := h.2
  clear h
  go_enter Try.func21, Try.ntmps21
  go_wp2_with fail
  refine wp_loop_rounds 4 ?_
  repeat (rw [rounds_succ]; go_wp2_with fail)
  go_ret
  exact ⟨rfl, rfl⟩
theorem undone30_any (x : Int) (h : Oc.U x) (w : World) :
    Calls Try.prog 21 #[.int .u64 x, .int .i64 30] w fun e w' => e = .returned (.int .u64 (Oc.und 1073741824 x)) ∧ w = w' := by
  have h0 := h.1
  have h1 := h.2
  clear h
  go_enter Try.func21, Try.ntmps21
  go_wp2_with fail
  refine wp_loop_rounds 4 ?_
  repeat (rw [rounds_succ]; go_wp2_with fail)
  go_ret
  exact ⟨rfl, rfl⟩
theorem inverse_any (a : Int) (w : World) :
    Calls Try.prog 22 #[.int .u64 a] w fun e w' => e = .returned (.int .u64 (Oc.invIt a 6)) ∧ w = w' := by
  go_enter Try.func22, Try.ntmps22
  go_wp2_with fail
  go_loop [3, 5] (fun v i => ∃ k : Nat, k ≤ 6 ∧ i = .int .i64 k ∧ v = .int .u64 (Oc.invIt a k)) (fun _ i => 6 - (intOf i).toNat)
  case atStart => exact ⟨0, by omega, rfl, rfl⟩
  case round =>
    obtain ⟨k, hk, rfl, rfl⟩ := hrel
    by_cases hlt : k < 6
    · go_wp2
      go_round
      case rel => exact ⟨k + 1, by omega, by go_num, rfl⟩
      case measure => simp [intOf]; omega
    · obtain rfl : k = 6 := by omega
      go_wp2
      go_ret
      exact ⟨rfl, rfl⟩
theorem unmix_any (x : Int) (h : Oc.U x) (w : World) :
    Calls Try.prog 14 #[.int .u64 x] w fun e w' => e = .returned (.int .u64 (Oc.unmix x)) ∧ w = w' := by
  have inv1 : ∀ w, Calls Try.prog 22 #[.int .u64 13787848793156543929] w fun e w' => e = .returned (.int .u64 Oc.inv1) ∧ w = w' := fun w => by
    have h := inverse_any 13787848793156543929 w
    rw [Oc.inv1_is] at h; exact h
  have inv2 : ∀ w, Calls Try.prog 22 #[.int .u64 10723151780598845931] w fun e w' => e = .returned (.int .u64 Oc.inv2) ∧ w = w' := fun w => by
    have h := inverse_any 10723151780598845931 w
    rw [Oc.inv2_is] at h; exact h
  have I1 := Lib.hid inv1
  have I2 := Lib.hid inv2
  clear inv1 inv2
  go_enter Try.func14, Try.ntmps14
  go_wp2_with fail
  refine (undone31_any _ h _).mono ?_; rintro e w' ⟨rfl, rfl⟩
  go_wp2_with fail
  refine (I2.out _).mono ?_; rintro e w' ⟨rfl, rfl⟩
  go_wp2_with fail
  refine (undone27_any _ (Oc.wrap_U _) _).mono ?_; rintro e w' ⟨rfl, rfl⟩
  go_wp2_with fail
  refine (I1.out _).mono ?_; rintro e w' ⟨rfl, rfl⟩
  go_wp2_with fail
  refine (undone30_any _ (Oc.wrap_U _) _).mono ?_; rintro e w' ⟨rfl, rfl⟩
  go_wp2_with fail
  go_ret
  exact ⟨rfl, rfl⟩
theorem new_any (seed stage x y z : Int) (h : Oc.U seed) (w : World) :
    Calls Try.prog 6 #[.int .u64 seed, .int .i64 stage, .int .i64 x, .int .i64 y, .int .i64 z] w fun e w' => e = .returned (.pointer (some ⟨w.heap.size, 0, none⟩)) ∧ w' = w.alloc (.cells #[.int .u64 (Oc.hash seed stage x y z), .int .u64 0] 37) := by
  go_enter Try.func6, Try.ntmps6
  go_wp2_with (go_at_call 15; refine (hash_any _ _ _ _ _ h _).mono ?_; rintro e w' ⟨rfl, rfl⟩)
  go_ret
  exact ⟨rfl, rfl⟩
/-- A stream's two cells. -/
def Str (w : World) (b : Nat) (key c : Int) : Prop := w.cell? ⟨b, 0, none⟩ = some (.int .u64 key) ∧ w.cell? ⟨b, 1, none⟩ = some (.int .u64 c) ∧ w.frozen? ⟨b, 1, none⟩ = false
theorem Str.keep {w w' : World} {b d : Nat} {key c : Int} (h : Str w b key c) (hg : w.grownBy w' (some d)) (hne : b ≠ d) (hb : b < w.heap.size) : Str w' b key c := by
  have k := hg.block b hb (fun e => hne (by injection e))
  exact ⟨(World.cell?_of_block (w := w) k).trans h.1, (World.cell?_of_block (w := w) k).trans h.2.1, (World.frozen?_of_block (w := w) k).trans h.2.2⟩
theorem next_any (b : Nat) (key c : Int) (w : World) (hs : Str w b key c) :
    Calls Try.prog 8 #[.pointer (some ⟨b, 0, none⟩)] w fun e w' => e = .returned (.int .u64 (Oc.drawn key (IntKind.u64.wrap (c + 1)))) ∧ Str w' b key (IntKind.u64.wrap (c + 1)) ∧ w.grownBy w' (some b) := by
  obtain ⟨h0, h1, hf⟩ := hs
  go_enter Try.func8, Try.ntmps8
  go_wp2_with fail
  go_quiet ((go_at_call 12; exact Oc.quiet_left (mix_any _ (Oc.wrap_U _) _)))
  go_wp2
  go_ret
  refine ⟨rfl, ⟨?_, ?_, ?_⟩, Oc.only_drewN (Oc.only_setCell (Oc.only_refl _ _) (.inl rfl) _) _⟩
  · go_simp
  · go_simp
  · go_simp
theorem mul64_any (c n : Int) (c0 : 0 ≤ c) (c1 : c ≤ 4294967295) (n0 : 1 ≤ n) (n1 : n ≤ 2147483647) (w : World) :
    Calls Try.prog 20 #[.int .u64 (c * 4294967296), .int .u64 n] w fun e w' => e = .returned (.tuple #[.int .u64 (c * n / 4294967296), .int .u64 (IntKind.u64.wrap (c * 4294967296 * n))]) ∧ w = w' := by
  have r0 := Int.mul_nonneg c0 (show 0 ≤ n by omega)
  have r1 : c * n ≤ 4294967295 * n := Int.mul_le_mul_of_nonneg_right c1 (by omega)
  have m1 : bits .and .u64 (c * 4294967296) 4294967295 = 0 := (Oc.mask32 (c * 4294967296) ⟨by omega, by omega⟩).trans (by omega)
  have m2 : bits .and .u64 n 4294967295 = n := (Oc.mask32 n ⟨by omega, by omega⟩).trans (by omega)
  have m3 := Oc.mask32 (c * n) ⟨by omega, by omega⟩
  have m4 : n / 4294967296 = 0 := by omega
  go_enter Try.func20, Try.ntmps20
  go_wp2
  go_ret2
  refine ⟨?_, rfl⟩
  show Ending.returned (.tuple #[.int .u64 (c * n / 4294967296 + c * n % 4294967296 / 4294967296), .int .u64 (IntKind.u64.wrap (c * 4294967296 * n))]) = _
  rw [show c * n / 4294967296 + c * n % 4294967296 / 4294967296 = c * n / 4294967296 by omega]
theorem below_any (h n : Int) (hh : Oc.U h) (w : World) :
    Calls Try.prog 13 #[.int .u64 h, .int .i64 n] w fun e w' => e = .returned (.int .i64 (Oc.belowG h n)) ∧ w = w' := by
  unfold Oc.belowG
  by_cases g : n < 1 ∨ 2147483647 < n
  · rw [if_pos g]
    by_cases g1 : n < 1
    · go_enter Try.func13, Try.ntmps13
      go_wp2_with fail
      go_ret
      exact ⟨rfl, rfl⟩
    · have g2 : 2147483647 < n := by omega
      clear g
      go_enter Try.func13, Try.ntmps13
      go_wp2_with fail
      go_ret
      exact ⟨rfl, rfl⟩
  · rw [if_neg g]
    have n0 : 1 ≤ n := by omega
    have n1 : n ≤ 2147483647 := by omega
    obtain ⟨c0, c1⟩ := Oc.high_range h hh
    obtain ⟨b0, b1⟩ := Oc.below_range h n hh ⟨n0, n1⟩
    unfold Oc.below at *
    clear g
    obtain ⟨h0, h1⟩ := hh
    go_enter Try.func13, Try.ntmps13
    go_wp2_with (go_at_call 20; refine (mul64_any _ _ c0 c1 n0 n1 _).mono ?_; rintro e w' ⟨rfl, rfl⟩)
    go_ret
    exact ⟨rfl, rfl⟩
theorem rbelow_any (h n : Int) (hh : Oc.U h) (w : World) :
    Calls Try.prog 19 #[.int .u64 h, .int .i64 n] w fun e w' => e = .returned (.int .i64 (Oc.belowG h n)) ∧ w = w' := by
  unfold Oc.belowG
  by_cases g : n < 1 ∨ 2147483647 < n
  · rw [if_pos g]
    by_cases g1 : n < 1
    · go_enter Try.func19, Try.ntmps19
      go_wp2_with fail
      go_ret
      exact ⟨rfl, rfl⟩
    · have g2 : 2147483647 < n := by omega
      clear g
      go_enter Try.func19, Try.ntmps19
      go_wp2_with fail
      go_ret
      exact ⟨rfl, rfl⟩
  · rw [if_neg g]
    have n0 : 1 ≤ n := by omega
    have n1 : n ≤ 2147483647 := by omega
    obtain ⟨c0, c1⟩ := Oc.high_range h hh
    obtain ⟨b0, b1⟩ := Oc.below_range h n hh ⟨n0, n1⟩
    have r0 := Int.mul_nonneg c0 (show 0 ≤ n by omega)
    have r1 : h / 4294967296 * n ≤ 4294967295 * n := Int.mul_le_mul_of_nonneg_right c1 (by omega)
    unfold Oc.below at *
    clear g
    obtain ⟨h0, h1⟩ := hh
    go_enter Try.func19, Try.ntmps19
    go_wp2
    go_ret
    exact ⟨rfl, rfl⟩
end Go.Proofs.Ytjcbkchhafkffab
