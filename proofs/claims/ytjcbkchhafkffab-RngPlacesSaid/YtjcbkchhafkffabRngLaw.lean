/- The chapter's examples of the mixing: 'awake'. -/
import Derived.Test.YtjcbkchhafkffabRngMore
namespace Go.Proofs.Ytjcbkchhafkffab
set_option linter.unusedVariables false
open Go.RowKit
set_option maxHeartbeats 400000
theorem awake_any (w : World) :
    Calls Try.prog 5 #[] w fun e w' => e = .returned (.bool true) ∧ Below w.heap.size w w' := by
  have e1 : Oc.mix 0 = 0 := by decide +kernel
  have e2 : Oc.mix 1 = 6238072747940578789 := by decide +kernel
  have e3 : Oc.belowG 9223372036854775808 10 = 5 := by decide +kernel
  have e4 : (Oc.drawn (Oc.hash 1 2 3 4 5) 1 == 0) = false := by decide +kernel
  have e5 : (Oc.drawn (Oc.hash 1 2 3 4 5) 1 != 0) = true := by rw [bne, e4]; rfl
  have e6 : Oc.unmix 6238072747940578789 = 1 := by decide +kernel
  have u0 : Oc.U 0 := ⟨by decide, by decide⟩
  have u1 : Oc.U 1 := ⟨by decide, by decide⟩
  have u2 : Oc.U 9223372036854775808 := ⟨by decide, by decide⟩
  have u3 : Oc.U 6238072747940578789 := ⟨by decide, by decide⟩
  go_enter Try.func5, Try.ntmps5
  go_wp2_with (go_at_call 6; refine (new_any _ _ _ _ _ u1 _).mono ?_; rintro e w' ⟨rfl, rfl⟩)
  have st : Str (w.alloc (.cells #[.int .u64 (Oc.hash 1 2 3 4 5), .int .u64 0] 37)) w.heap.size (Oc.hash 1 2 3 4 5) 0 := ⟨by go_simp, by go_simp, by go_simp⟩
  refine (next_any _ _ _ _ st).mono ?_
  rintro e w1 ⟨rfl, -, hg⟩
  have hb : Below w.heap.size w w1 := Oc.below_only ((Below.refl _ _).alloc (Nat.le_refl _) _) hg (by simp) (Nat.le_refl _)
  clear st hg
  rw [show IntKind.u64.wrap (0 + 1) = 1 from rfl]
  go_wp2_with (first
    | (go_at_call 12; refine (mix_any _ (by assumption) _).mono ?_; rintro e w' ⟨rfl, rfl⟩)
    | (go_at_call 13; refine (below_any _ _ u2 _).mono ?_; rintro e w' ⟨rfl, rfl⟩)
    | (go_at_call 14; refine (unmix_any _ u3 _).mono ?_; rintro e w' ⟨rfl, rfl⟩))
  go_ret
  exact ⟨rfl, hb⟩
end Go.Proofs.Ytjcbkchhafkffab
