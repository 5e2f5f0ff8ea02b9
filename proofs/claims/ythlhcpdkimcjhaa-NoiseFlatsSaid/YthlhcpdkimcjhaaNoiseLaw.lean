/- The walks through the laws of the smooth heights. -/
import Derived.Test.YthlhcpdkimcjhaaNoiseOct
import Derived.Test.YthlhcpdkimcjhaaNoiseRef
namespace Go.Proofs.Ythlhcpdkimcjhaa
set_option linter.unusedVariables false
open Go.RowKit
set_option maxHeartbeats 400000

theorem awake_any (w : World) :
    Calls Try.prog 9 #[] w fun e w' => e = .returned (.bool true) ∧ Below w.heap.size w w' := by
  have e1 : Oc.fade (-5) = 0 := by decide
  have e2 : Oc.fade 0 = 0 := by decide
  have e3 : Oc.fade 32768 = 32768 := by decide
  have e4 : Oc.fade 65536 = 65536 := by decide
  have e5 : Oc.flatG 1 2 3 4 21 = 0 := rfl
  have e6 : Oc.octG 1 2 3 4 5 0 = 0 := rfl
  have e7 : (Oc.lat 1 2 3 4 == Oc.lat 1 2 3 5) = false := by decide +kernel
  have e8 : (Oc.lat 1 2 3 4 != Oc.lat 1 2 3 5) = true := by rw [bne, e7]; rfl
  have u1 : Oc.U 1 := ⟨by decide, by decide⟩
  have hb := Below.refl w.heap.size w
  go_enter Try.func9, Try.ntmps9
  go_wp2_with (first
    | (go_at_call 12; refine (fade_any _ _).mono ?_; rintro e w' ⟨rfl, rfl⟩)
    | (go_at_call 10; refine (lat_any _ _ _ _ u1 _).mono ?_; rintro e w' ⟨rfl, rfl⟩)
    | (go_at_call 14; refine (flatG_any _ _ _ _ _ u1 ⟨by decide, by decide⟩ ⟨by decide, by decide⟩ _).mono ?_; rintro e w' ⟨rfl, hb'⟩; have hb := hb.trans (hb'.mono hb.size); clear hb')
    | (go_at_call 16; refine (octG_any _ _ _ _ _ _ u1 ⟨by decide, by decide⟩ ⟨by decide, by decide⟩ _).mono ?_; rintro e w' ⟨rfl, hb'⟩; have hb := hb.trans (hb'.mono hb.size); clear hb'))
  go_ret
  exact ⟨rfl, hb⟩
theorem corners_walk (seed stage x z : Int) (w : World) (h : Oc.U seed) (_ : Oc.I stage) (_ : Oc.I x) (_ : Oc.I z) :
    Calls Try.prog 3 #[.int .u64 seed, .int .i64 stage, .int .i64 x, .int .i64 z] w fun e w' => e = .returned (.bool true) ∧ Below w.heap.size w w' := by
  obtain ⟨l0, l1⟩ := Oc.lat_range seed stage x z
  have hb := Below.refl w.heap.size w
  go_enter Try.func3, Try.ntmps3
  go_wp2_with (first
    | (go_at_call 9; refine (awake_any _).mono ?_; rintro e w' ⟨rfl, hb'⟩; have hb := hb.trans (hb'.mono hb.size); clear hb')
    | (go_at_call 10; refine (lat_any _ _ _ _ h _).mono ?_; rintro e w' ⟨rfl, rfl⟩)
    | (go_at_call 11; refine (rlat_any _ _ _ _ h _).mono ?_; rintro e w' ⟨rfl, hb'⟩; have hb := hb.trans (hb'.mono hb.size); clear hb'))
  go_ret
  exact ⟨rfl, hb⟩
end Go.Proofs.Ythlhcpdkimcjhaa
