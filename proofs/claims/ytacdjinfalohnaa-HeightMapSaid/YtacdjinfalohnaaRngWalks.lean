/- The walks through the mixing and the hash: each is what the plain text says; the world stays. -/
import Derived.Test.YtacdjinfalohnaaProg
import Derived.Test.YtacdjinfalohnaaRngPlain
import Derived.Test.YtacdjinfalohnaaWords
namespace Go.Proofs.Ytacdjinfalohnaa
set_option linter.unusedVariables false
open Go.RowKit
set_option maxHeartbeats 400000

theorem mix_any (x : Int) (h : Oc.U x) (w : World) :
    Calls Try.prog 34 #[.int .u64 x] w fun e w' => e = .returned (.int .u64 (Oc.mix x)) ∧ w = w' := by
  have h0 := h.1
  have h1 := h.2
  clear h
  go_enter Try.func34, Try.ntmps34
  go_wp2
  go_ret
  exact ⟨rfl, rfl⟩
theorem rmix_any (x : Int) (h : Oc.U x) (w : World) :
    Calls Try.prog 35 #[.int .u64 x] w fun e w' => e = .returned (.int .u64 (Oc.mix x)) ∧ w = w' := by
  have h0 := h.1
  have h1 := h.2
  clear h
  go_enter Try.func35, Try.ntmps35
  go_wp2
  go_ret
  exact ⟨rfl, rfl⟩
theorem idx0 (a b c d : Int) : ∀ w, (Instr.index 49 (.agg #[.int .i64 a, .int .i64 b, .int .i64 c, .int .i64 d]) (.int .i64 0)).run Try.prog w = .ok (.int .i64 a) w := fun _ => by kernel_rfl
theorem idx1 (a b c d : Int) : ∀ w, (Instr.index 49 (.agg #[.int .i64 a, .int .i64 b, .int .i64 c, .int .i64 d]) (.int .i64 1)).run Try.prog w = .ok (.int .i64 b) w := fun _ => by kernel_rfl
theorem idx2 (a b c d : Int) : ∀ w, (Instr.index 49 (.agg #[.int .i64 a, .int .i64 b, .int .i64 c, .int .i64 d]) (.int .i64 2)).run Try.prog w = .ok (.int .i64 c) w := fun _ => by kernel_rfl
theorem idx3 (a b c d : Int) : ∀ w, (Instr.index 49 (.agg #[.int .i64 a, .int .i64 b, .int .i64 c, .int .i64 d]) (.int .i64 3)).run Try.prog w = .ok (.int .i64 d) w := fun _ => by kernel_rfl
theorem hash_any (seed stage x y z : Int) (h : Oc.U seed) (w : World) :
    Calls Try.prog 30 #[.int .u64 seed, .int .i64 stage, .int .i64 x, .int .i64 y, .int .i64 z] w fun e w' => e = .returned (.int .u64 (Oc.hash seed stage x y z)) ∧ w = w' := by
  have i0 := idx0 stage x y z
  have i1 := idx1 stage x y z
  have i2 := idx2 stage x y z
  have i3 := idx3 stage x y z
  go_enter Try.func30, Try.ntmps30
  go_wp2_with (go_at_call 34; refine (mix_any _ h _).mono ?_; rintro e w' ⟨rfl, rfl⟩)
  refine wp_loop_rounds 5 ?_
  repeat (rw [rounds_succ]; go_wp2_with (go_at_call 34; refine (mix_any _ (Oc.wrap_U _) _).mono ?_; rintro e w' ⟨rfl, rfl⟩))
  go_ret
  exact ⟨rfl, rfl⟩
theorem rhash_any (seed stage x y z : Int) (h : Oc.U seed) (w : World) :
    Calls Try.prog 32 #[.int .u64 seed, .int .i64 stage, .int .i64 x, .int .i64 y, .int .i64 z] w fun e w' => e = .returned (.int .u64 (Oc.hash seed stage x y z)) ∧ Below w.heap.size w w' := by
  go_enter Try.func32, Try.ntmps32
  go_wp2_with (go_at_call 35; refine (rmix_any _ h _).mono ?_; rintro e w' ⟨rfl, rfl⟩)
  refine wp_loop_rounds 5 ?_
  rw [rounds_succ]; go_wp2_with fail; refine (rmix_any _ (Oc.wrap_U _) _).mono ?_; rintro e w' ⟨rfl, rfl⟩; go_wp2_with fail
  rw [rounds_succ]; go_wp2_with fail; refine (rmix_any _ (Oc.wrap_U _) _).mono ?_; rintro e w' ⟨rfl, rfl⟩; go_wp2_with fail
  rw [rounds_succ]; go_wp2_with fail; refine (rmix_any _ (Oc.wrap_U _) _).mono ?_; rintro e w' ⟨rfl, rfl⟩; go_wp2_with fail
  rw [rounds_succ]; go_wp2_with fail; refine (rmix_any _ (Oc.wrap_U _) _).mono ?_; rintro e w' ⟨rfl, rfl⟩; go_wp2_with fail
  rw [rounds_succ]; go_wp2_with fail
  go_ret
  refine ⟨rfl, ?_⟩
  go_grown
end Go.Proofs.Ytacdjinfalohnaa
