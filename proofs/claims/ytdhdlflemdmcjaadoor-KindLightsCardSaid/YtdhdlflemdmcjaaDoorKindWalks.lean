/- The walks through the kinds. -/
import Derived.Test.YtdhdlflemdmcjaaDoorProg
import Derived.Test.YtdhdlflemdmcjaaDoorKindPlain
import Derived.Maps.OwnOps
import Derived.Maps.OwnSet
namespace Go.Proofs.YtdhdlflemdmcjaaDoor
set_option linter.unusedVariables false
open Go.RowKit Go.Maps
set_option maxHeartbeats 400000
theorem name_any (k : Int) (w : World) (h : Oc.KTab w 0) :
    Calls Tryd.prog 8 #[.int .i64 k] w fun e w' => e = .returned (.string (Oc.knameG k)) ∧ Below w.heap.size w w' := by
  by_cases g : 0 ≤ k ∧ k < 16
  · obtain ⟨n, rfl⟩ := Int.eq_ofNat_of_zero_le g.1
    have hn : n < 16 := by omega
    obtain ⟨h0, h1, h2, h3⟩ := h.cells n hn
    have e : Oc.knameG (n : Int) = Oc.kname n := by first | (unfold Oc.knameG; rw [if_pos g]; rfl) | (unfold Oc.knameG Oc.klossG; rw [if_pos g]; rfl)
    rw [e]
    clear g e
    go_enter Tryd.func8, Tryd.ntmps8
    go_wp2
    go_ret
    exact ⟨rfl, by go_grown⟩
  · have e : Oc.knameG k = ⟨#[]⟩ := by first | (unfold Oc.knameG; rw [if_neg g]) | (unfold Oc.knameG Oc.klossG; rw [if_neg g]; rfl)
    rw [e]
    by_cases g1 : k < 0
    · clear g
      go_enter Tryd.func8, Tryd.ntmps8
      go_wp2
      go_ret
      exact ⟨rfl, by go_grown⟩
    · have g2 : 16 ≤ k := by omega
      clear g
      go_enter Tryd.func8, Tryd.ntmps8
      go_wp2
      go_ret
      exact ⟨rfl, by go_grown⟩
theorem loss_any (k : Int) (w : World) (h : Oc.KTab w 0) :
    Calls Tryd.prog 14 #[.int .i64 k] w fun e w' => e = .returned (.int .i64 (Oc.klossG k)) ∧ Below w.heap.size w w' := by
  by_cases g : 0 ≤ k ∧ k < 16
  · obtain ⟨n, rfl⟩ := Int.eq_ofNat_of_zero_le g.1
    have hn : n < 16 := by omega
    obtain ⟨h0, h1, h2, h3⟩ := h.cells n hn
    have e : Oc.klossG (n : Int) = Oc.kloss n := by first | (unfold Oc.klossG; rw [if_pos g]; rfl) | (unfold Oc.klossG Oc.klossG; rw [if_pos g]; rfl)
    rw [e]
    clear g e
    go_enter Tryd.func14, Tryd.ntmps14
    go_wp2
    go_ret
    exact ⟨rfl, by go_grown⟩
  · have e : Oc.klossG k = 0 := by first | (unfold Oc.klossG; rw [if_neg g]) | (unfold Oc.klossG Oc.klossG; rw [if_neg g]; rfl)
    rw [e]
    by_cases g1 : k < 0
    · clear g
      go_enter Tryd.func14, Tryd.ntmps14
      go_wp2
      go_ret
      exact ⟨rfl, by go_grown⟩
    · have g2 : 16 ≤ k := by omega
      clear g
      go_enter Tryd.func14, Tryd.ntmps14
      go_wp2
      go_ret
      exact ⟨rfl, by go_grown⟩
theorem emits_any (k : Int) (w : World) (h : Oc.KTab w 0) :
    Calls Tryd.prog 18 #[.int .i64 k] w fun e w' => e = .returned (.int .i64 (Oc.kemitsG k)) ∧ Below w.heap.size w w' := by
  by_cases g : 0 ≤ k ∧ k < 16
  · obtain ⟨n, rfl⟩ := Int.eq_ofNat_of_zero_le g.1
    have hn : n < 16 := by omega
    obtain ⟨h0, h1, h2, h3⟩ := h.cells n hn
    have e : Oc.kemitsG (n : Int) = Oc.kemits n := by first | (unfold Oc.kemitsG; rw [if_pos g]; rfl) | (unfold Oc.kemitsG Oc.klossG; rw [if_pos g]; rfl)
    rw [e]
    clear g e
    go_enter Tryd.func18, Tryd.ntmps18
    go_wp2
    go_ret
    exact ⟨rfl, by go_grown⟩
  · have e : Oc.kemitsG k = 0 := by first | (unfold Oc.kemitsG; rw [if_neg g]) | (unfold Oc.kemitsG Oc.klossG; rw [if_neg g]; rfl)
    rw [e]
    by_cases g1 : k < 0
    · clear g
      go_enter Tryd.func18, Tryd.ntmps18
      go_wp2
      go_ret
      exact ⟨rfl, by go_grown⟩
    · have g2 : 16 ≤ k := by omega
      clear g
      go_enter Tryd.func18, Tryd.ntmps18
      go_wp2
      go_ret
      exact ⟨rfl, by go_grown⟩
theorem clear_any (k : Int) (w : World) (h : Oc.KTab w 0) :
    Calls Tryd.prog 13 #[.int .i64 k] w fun e w' => e = .returned (.bool (Oc.kclearG k)) ∧ Below w.heap.size w w' := by
  by_cases g : 0 ≤ k ∧ k < 16
  · obtain ⟨n, rfl⟩ := Int.eq_ofNat_of_zero_le g.1
    have hn : n < 16 := by omega
    obtain ⟨h0, h1, h2, h3⟩ := h.cells n hn
    have e : Oc.kclearG (n : Int) = Oc.kclear n := by first | (unfold Oc.kclearG; rw [if_pos g]; rfl) | (unfold Oc.kclearG Oc.klossG; rw [if_pos g]; rfl)
    rw [e]
    clear g e
    go_enter Tryd.func13, Tryd.ntmps13
    go_wp2
    go_ret
    exact ⟨rfl, by go_grown⟩
  · have e : Oc.kclearG k = false := by first | (unfold Oc.kclearG; rw [if_neg g]) | (unfold Oc.kclearG Oc.klossG; rw [if_neg g]; rfl)
    rw [e]
    by_cases g1 : k < 0
    · clear g
      go_enter Tryd.func13, Tryd.ntmps13
      go_wp2
      go_ret
      exact ⟨rfl, by go_grown⟩
    · have g2 : 16 ≤ k := by omega
      clear g
      go_enter Tryd.func13, Tryd.ntmps13
      go_wp2
      go_ret
      exact ⟨rfl, by go_grown⟩
theorem opaque_any (k : Int) (w : World) (h : Oc.KTab w 0) :
    Calls Tryd.prog 12 #[.int .i64 k] w fun e w' => e = .returned (.bool (Oc.kopaqueG k)) ∧ Below w.heap.size w w' := by
  by_cases g : 0 ≤ k ∧ k < 16
  · obtain ⟨n, rfl⟩ := Int.eq_ofNat_of_zero_le g.1
    have hn : n < 16 := by omega
    obtain ⟨h0, h1, h2, h3⟩ := h.cells n hn
    have e : Oc.kopaqueG (n : Int) = (Oc.kloss n == 16) := by first | (unfold Oc.kopaqueG; rw [if_pos g]; rfl) | (unfold Oc.kopaqueG Oc.klossG; rw [if_pos g]; rfl)
    rw [e]
    clear g e
    go_enter Tryd.func12, Tryd.ntmps12
    go_wp2
    go_ret
    exact ⟨rfl, by go_grown⟩
  · have e : Oc.kopaqueG k = false := by first | (unfold Oc.kopaqueG; rw [if_neg g]) | (unfold Oc.kopaqueG Oc.klossG; rw [if_neg g]; rfl)
    rw [e]
    by_cases g1 : k < 0
    · clear g
      go_enter Tryd.func12, Tryd.ntmps12
      go_wp2
      go_ret
      exact ⟨rfl, by go_grown⟩
    · have g2 : 16 ≤ k := by omega
      clear g
      go_enter Tryd.func12, Tryd.ntmps12
      go_wp2
      go_ret
      exact ⟨rfl, by go_grown⟩
end Go.Proofs.YtdhdlflemdmcjaaDoor
