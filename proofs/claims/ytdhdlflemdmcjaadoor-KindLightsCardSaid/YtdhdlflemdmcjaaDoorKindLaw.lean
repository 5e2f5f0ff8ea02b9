/- The chapter's examples of the kinds: 'awake'. -/
import Derived.Test.YtdhdlflemdmcjaaDoorKindOf
namespace Go.Proofs.YtdhdlflemdmcjaaDoor
set_option linter.unusedVariables false
open Go.RowKit Go.Maps
set_option maxHeartbeats 1000000
theorem leaves_is {i : Int} {b : Bool} (h : Oc.IsOf ⟨#[108, 101, 97, 118, 101, 115]⟩ i b) : i = 11 ∧ b = true := h.unique (Oc.IsOf.of_name 11 (by decide))
theorem lava_is {i : Int} {b : Bool} (h : Oc.IsOf ⟨#[108, 97, 118, 97]⟩ i b) : i = 0 ∧ b = false := h.unique (.inr ⟨rfl, rfl, by decide⟩)
theorem awake_any (w : World) (h : Oc.KTab w 0) :
    Calls Tryd.prog 7 #[] w fun e w' => e = .returned (.bool true) ∧ Below w.heap.size w w' := by
  go_enter Tryd.func7, Tryd.ntmps7
  go_wp2_with fail
  refine (of_any _ _ h (by unfold maxLen; decide)).mono ?_
  rintro e w1 ⟨i, b, rfl, hi, hb⟩
  obtain ⟨rfl, rfl⟩ := leaves_is hi
  have h := h.later hb
  go_wp2_with fail
  refine (of_any _ _ h (by unfold maxLen; decide)).mono ?_
  rintro e w2 ⟨i, b, rfl, hi2, hb'⟩
  obtain ⟨rfl, rfl⟩ := lava_is hi2
  have h := h.later hb'
  have hb := hb.trans (hb'.mono hb.size)
  clear hb' hi hi2
  have e1 : Oc.knameG 13 = ⟨#[108, 97, 109, 112]⟩ := rfl
  have e2 : Oc.kemitsG 13 = 14 := rfl
  have e3 : Oc.klossG 5 = 3 := rfl
  have e4 : Oc.kopaqueG 16 = false := rfl
  have e5 : Oc.kclearG 0 = true := rfl
  go_wp2_with (first
    | (go_at_call 8; refine (name_any _ _ h).mono ?_; rintro e w' ⟨rfl, hb'⟩; have h := h.later hb'; have hb := hb.trans (hb'.mono hb.size); clear hb')
    | (go_at_call 18; refine (emits_any _ _ h).mono ?_; rintro e w' ⟨rfl, hb'⟩; have h := h.later hb'; have hb := hb.trans (hb'.mono hb.size); clear hb')
    | (go_at_call 14; refine (loss_any _ _ h).mono ?_; rintro e w' ⟨rfl, hb'⟩; have h := h.later hb'; have hb := hb.trans (hb'.mono hb.size); clear hb')
    | (go_at_call 12; refine (opaque_any _ _ h).mono ?_; rintro e w' ⟨rfl, hb'⟩; have h := h.later hb'; have hb := hb.trans (hb'.mono hb.size); clear hb')
    | (go_at_call 13; refine (clear_any _ _ h).mono ?_; rintro e w' ⟨rfl, hb'⟩; have h := h.later hb'; have hb := hb.trans (hb'.mono hb.size); clear hb'))
  go_ret
  exact ⟨rfl, hb⟩
end Go.Proofs.YtdhdlflemdmcjaaDoor
