/- The walks through the laws of the mixing. -/
import Derived.Test.YtjcbkchhafkffaaRngLaw
namespace Go.Proofs.Ytjcbkchhafkffaa
set_option linter.unusedVariables false
open Go.RowKit
set_option maxHeartbeats 400000
theorem apart0 (seed stage x y z other : Int) (w : World) (h : Oc.U seed) (hstage : Oc.I stage) (hx : Oc.I x) (hy : Oc.I y) (hz : Oc.I z) (ho : Oc.I other) :
    Calls Try.prog 7 #[.int .u64 seed, .int .i64 stage, .int .i64 x, .int .i64 y, .int .i64 z, .int .i64 0, .int .i64 other] w fun e w' => e = .returned (.bool true) ∧ Below w.heap.size w w' := by
  have hb := Below.refl w.heap.size w
  by_cases g : IntKind.u64.wrap other = seed
  · 
    have g' : (IntKind.u64.wrap other == seed) = true := by rw [beq_iff_eq]; exact g
    have q : (Oc.hash seed stage x y z == Oc.hash (IntKind.u64.wrap other) stage x y z) = true := by rw [beq_iff_eq, g]
    clear g
    go_enter Try.func7, Try.ntmps7
    go_wp2_with (first | (go_at_call 9; refine (awake_any _).mono ?_; rintro e w' ⟨rfl, hb'⟩; have hb := hb.trans (hb'.mono hb.size); clear hb') | (go_at_call 13; refine (hash_any _ _ _ _ _ (by first | assumption | exact Oc.wrap_U _) _).mono ?_; rintro e w' ⟨rfl, rfl⟩))
    go_ret
    exact ⟨rfl, hb⟩
  · have g' : (IntKind.u64.wrap other == seed) = false := by rw [beq_eq_false_iff_ne]; exact g
    have q' : (Oc.hash seed stage x y z == Oc.hash (IntKind.u64.wrap other) stage x y z) = false := by
      rw [beq_eq_false_iff_ne]; intro q
      exact g (Oc.mix_inj _ _ h (Oc.wrap_U _) (Oc.mstep_inj_h _ _ _ (Oc.mix_U _) (Oc.mix_U _) (Oc.mstep_inj_h _ _ _ (Oc.mstep_U _ _) (Oc.mstep_U _ _) (Oc.mstep_inj_h _ _ _ (Oc.mstep_U _ _) (Oc.mstep_U _ _) (Oc.mstep_inj_h _ _ _ (Oc.mstep_U _ _) (Oc.mstep_U _ _) q))))).symm
    clear g
    go_enter Try.func7, Try.ntmps7
    go_wp2_with (first | (go_at_call 9; refine (awake_any _).mono ?_; rintro e w' ⟨rfl, hb'⟩; have hb := hb.trans (hb'.mono hb.size); clear hb') | (go_at_call 13; refine (hash_any _ _ _ _ _ (by first | assumption | exact Oc.wrap_U _) _).mono ?_; rintro e w' ⟨rfl, rfl⟩))
    go_ret
    exact ⟨rfl, hb⟩
theorem apart1 (seed stage x y z other : Int) (w : World) (h : Oc.U seed) (hstage : Oc.I stage) (hx : Oc.I x) (hy : Oc.I y) (hz : Oc.I z) (ho : Oc.I other) :
    Calls Try.prog 7 #[.int .u64 seed, .int .i64 stage, .int .i64 x, .int .i64 y, .int .i64 z, .int .i64 1, .int .i64 other] w fun e w' => e = .returned (.bool true) ∧ Below w.heap.size w w' := by
  have hb := Below.refl w.heap.size w
  by_cases g : other = stage
  · 
    subst g
    go_enter Try.func7, Try.ntmps7
    go_wp2_with (first | (go_at_call 9; refine (awake_any _).mono ?_; rintro e w' ⟨rfl, hb'⟩; have hb := hb.trans (hb'.mono hb.size); clear hb') | (go_at_call 13; refine (hash_any _ _ _ _ _ (by first | assumption | exact Oc.wrap_U _) _).mono ?_; rintro e w' ⟨rfl, rfl⟩))
    go_ret
    exact ⟨rfl, hb⟩
  · have g' : (other == stage) = false := by rw [beq_eq_false_iff_ne]; exact g
    have q' : (Oc.hash seed stage x y z == Oc.hash seed other x y z) = false := by
      rw [beq_eq_false_iff_ne]; intro q
      exact g (Oc.mstep_inj_n _ _ _ (Oc.mix_U _) hstage ho (Oc.mstep_inj_h _ _ _ (Oc.mstep_U _ _) (Oc.mstep_U _ _) (Oc.mstep_inj_h _ _ _ (Oc.mstep_U _ _) (Oc.mstep_U _ _) (Oc.mstep_inj_h _ _ _ (Oc.mstep_U _ _) (Oc.mstep_U _ _) q)))).symm
    clear g
    go_enter Try.func7, Try.ntmps7
    go_wp2_with (first | (go_at_call 9; refine (awake_any _).mono ?_; rintro e w' ⟨rfl, hb'⟩; have hb := hb.trans (hb'.mono hb.size); clear hb') | (go_at_call 13; refine (hash_any _ _ _ _ _ (by first | assumption | exact Oc.wrap_U _) _).mono ?_; rintro e w' ⟨rfl, rfl⟩))
    go_ret
    exact ⟨rfl, hb⟩
theorem apart2 (seed stage x y z other : Int) (w : World) (h : Oc.U seed) (hstage : Oc.I stage) (hx : Oc.I x) (hy : Oc.I y) (hz : Oc.I z) (ho : Oc.I other) :
    Calls Try.prog 7 #[.int .u64 seed, .int .i64 stage, .int .i64 x, .int .i64 y, .int .i64 z, .int .i64 2, .int .i64 other] w fun e w' => e = .returned (.bool true) ∧ Below w.heap.size w w' := by
  have hb := Below.refl w.heap.size w
  by_cases g : other = x
  · 
    subst g
    go_enter Try.func7, Try.ntmps7
    go_wp2_with (first | (go_at_call 9; refine (awake_any _).mono ?_; rintro e w' ⟨rfl, hb'⟩; have hb := hb.trans (hb'.mono hb.size); clear hb') | (go_at_call 13; refine (hash_any _ _ _ _ _ (by first | assumption | exact Oc.wrap_U _) _).mono ?_; rintro e w' ⟨rfl, rfl⟩))
    go_ret
    exact ⟨rfl, hb⟩
  · have g' : (other == x) = false := by rw [beq_eq_false_iff_ne]; exact g
    have q' : (Oc.hash seed stage x y z == Oc.hash seed stage other y z) = false := by
      rw [beq_eq_false_iff_ne]; intro q
      exact g (Oc.mstep_inj_n _ _ _ (Oc.mstep_U _ _) hx ho (Oc.mstep_inj_h _ _ _ (Oc.mstep_U _ _) (Oc.mstep_U _ _) (Oc.mstep_inj_h _ _ _ (Oc.mstep_U _ _) (Oc.mstep_U _ _) q))).symm
    clear g
    go_enter Try.func7, Try.ntmps7
    go_wp2_with (first | (go_at_call 9; refine (awake_any _).mono ?_; rintro e w' ⟨rfl, hb'⟩; have hb := hb.trans (hb'.mono hb.size); clear hb') | (go_at_call 13; refine (hash_any _ _ _ _ _ (by first | assumption | exact Oc.wrap_U _) _).mono ?_; rintro e w' ⟨rfl, rfl⟩))
    go_ret
    exact ⟨rfl, hb⟩
theorem apart3 (seed stage x y z other : Int) (w : World) (h : Oc.U seed) (hstage : Oc.I stage) (hx : Oc.I x) (hy : Oc.I y) (hz : Oc.I z) (ho : Oc.I other) :
    Calls Try.prog 7 #[.int .u64 seed, .int .i64 stage, .int .i64 x, .int .i64 y, .int .i64 z, .int .i64 3, .int .i64 other] w fun e w' => e = .returned (.bool true) ∧ Below w.heap.size w w' := by
  have hb := Below.refl w.heap.size w
  by_cases g : other = y
  · 
    subst g
    go_enter Try.func7, Try.ntmps7
    go_wp2_with (first | (go_at_call 9; refine (awake_any _).mono ?_; rintro e w' ⟨rfl, hb'⟩; have hb := hb.trans (hb'.mono hb.size); clear hb') | (go_at_call 13; refine (hash_any _ _ _ _ _ (by first | assumption | exact Oc.wrap_U _) _).mono ?_; rintro e w' ⟨rfl, rfl⟩))
    go_ret
    exact ⟨rfl, hb⟩
  · have g' : (other == y) = false := by rw [beq_eq_false_iff_ne]; exact g
    have q' : (Oc.hash seed stage x y z == Oc.hash seed stage x other z) = false := by
      rw [beq_eq_false_iff_ne]; intro q
      exact g (Oc.mstep_inj_n _ _ _ (Oc.mstep_U _ _) hy ho (Oc.mstep_inj_h _ _ _ (Oc.mstep_U _ _) (Oc.mstep_U _ _) q)).symm
    clear g
    go_enter Try.func7, Try.ntmps7
    go_wp2_with (first | (go_at_call 9; refine (awake_any _).mono ?_; rintro e w' ⟨rfl, hb'⟩; have hb := hb.trans (hb'.mono hb.size); clear hb') | (go_at_call 13; refine (hash_any _ _ _ _ _ (by first | assumption | exact Oc.wrap_U _) _).mono ?_; rintro e w' ⟨rfl, rfl⟩))
    go_ret
    exact ⟨rfl, hb⟩
theorem apart4 (seed stage x y z other : Int) (w : World) (h : Oc.U seed) (hstage : Oc.I stage) (hx : Oc.I x) (hy : Oc.I y) (hz : Oc.I z) (ho : Oc.I other) :
    Calls Try.prog 7 #[.int .u64 seed, .int .i64 stage, .int .i64 x, .int .i64 y, .int .i64 z, .int .i64 4, .int .i64 other] w fun e w' => e = .returned (.bool true) ∧ Below w.heap.size w w' := by
  have hb := Below.refl w.heap.size w
  by_cases g : other = z
  · 
    subst g
    go_enter Try.func7, Try.ntmps7
    go_wp2_with (first | (go_at_call 9; refine (awake_any _).mono ?_; rintro e w' ⟨rfl, hb'⟩; have hb := hb.trans (hb'.mono hb.size); clear hb') | (go_at_call 13; refine (hash_any _ _ _ _ _ (by first | assumption | exact Oc.wrap_U _) _).mono ?_; rintro e w' ⟨rfl, rfl⟩))
    go_ret
    exact ⟨rfl, hb⟩
  · have g' : (other == z) = false := by rw [beq_eq_false_iff_ne]; exact g
    have q' : (Oc.hash seed stage x y z == Oc.hash seed stage x y other) = false := by
      rw [beq_eq_false_iff_ne]; intro q
      exact g (Oc.mstep_inj_n _ _ _ (Oc.mstep_U _ _) hz ho q).symm
    clear g
    go_enter Try.func7, Try.ntmps7
    go_wp2_with (first | (go_at_call 9; refine (awake_any _).mono ?_; rintro e w' ⟨rfl, hb'⟩; have hb := hb.trans (hb'.mono hb.size); clear hb') | (go_at_call 13; refine (hash_any _ _ _ _ _ (by first | assumption | exact Oc.wrap_U _) _).mono ?_; rintro e w' ⟨rfl, rfl⟩))
    go_ret
    exact ⟨rfl, hb⟩
theorem apart_else (seed stage x y z which other : Int) (w : World) (h : Oc.U seed) (g : which < 0 ∨ 4 < which) : Calls Try.prog 7 #[.int .u64 seed, .int .i64 stage, .int .i64 x, .int .i64 y, .int .i64 z, .int .i64 which, .int .i64 other] w fun e w' => e = .returned (.bool true) ∧ Below w.heap.size w w' := by
  have hb := Below.refl w.heap.size w
  rcases g with g | g
  all_goals
    go_enter Try.func7, Try.ntmps7
    go_wp2_with (first | (go_at_call 9; refine (awake_any _).mono ?_; rintro e w' ⟨rfl, hb'⟩; have hb := hb.trans (hb'.mono hb.size); clear hb') | (go_at_call 13; refine (hash_any _ _ _ _ _ (by first | assumption | exact Oc.wrap_U _) _).mono ?_; rintro e w' ⟨rfl, rfl⟩))
    go_ret
    exact ⟨rfl, hb⟩
theorem apart_walk (seed stage x y z which other : Int) (w : World) (h : Oc.U seed) (hs : Oc.I stage) (hx : Oc.I x) (hy : Oc.I y) (hz : Oc.I z) (_ : Oc.I which) (ho : Oc.I other) : Calls Try.prog 7 #[.int .u64 seed, .int .i64 stage, .int .i64 x, .int .i64 y, .int .i64 z, .int .i64 which, .int .i64 other] w fun e w' => e = .returned (.bool true) ∧ Below w.heap.size w w' := by
  by_cases g : which < 0 ∨ 4 < which
  · exact apart_else seed stage x y z which other w h g
  · obtain rfl | rfl | rfl | rfl | rfl : which = 0 ∨ which = 1 ∨ which = 2 ∨ which = 3 ∨ which = 4 := by omega
    · exact apart0 seed stage x y z other w h hs hx hy hz ho
    · exact apart1 seed stage x y z other w h hs hx hy hz ho
    · exact apart2 seed stage x y z other w h hs hx hy hz ho
    · exact apart3 seed stage x y z other w h hs hx hy hz ho
    · exact apart4 seed stage x y z other w h hs hx hy hz ho
end Go.Proofs.Ytjcbkchhafkffaa
