/- The walks through what the disk's sort asks: cmp.Compare, cmp.Or, the closure. -/
import Derived.Test.YtnlbdmciaodohaaDiskLen
namespace Oc
open Go Go.RowKit
set_option linter.unusedVariables false
def cmpI (a b : Int) : Int := if a < b then -1 else if b < a then 1 else 0
def orI (a b c : Int) : Int := if a = 0 then (if b = 0 then c else b) else a
/-- A file's three numbers. -/
abbrev Fl := Int × Int × Int
def encF (f : Fl) : List Value := [.int .i64 f.1, .int .i64 f.2.1, .int .i64 f.2.2]
def cfF (x y : Fl) : Int := orI (cmpI x.1 y.1) (cmpI x.2.1 y.2.1) (cmpI x.2.2 y.2.2)
def ltF (x y : Fl) : Prop := x.1 < y.1 ∨ x.1 = y.1 ∧ (x.2.1 < y.2.1 ∨ x.2.1 = y.2.1 ∧ x.2.2 < y.2.2)
theorem cfF_lt (x y : Fl) : cfF x y < 0 ↔ ltF x y := by
  unfold cfF orI cmpI ltF
  by_cases a1 : x.1 < y.1 <;> by_cases a2 : y.1 < x.1 <;> by_cases b1 : x.2.1 < y.2.1 <;> by_cases b2 : y.2.1 < x.2.1 <;> by_cases c1 : x.2.2 < y.2.2 <;> by_cases c2 : y.2.2 < x.2.2 <;> simp [a1, a2, b1, b2, c1, c2] <;> omega
end Oc
namespace Go.Proofs.Ytnlbdmciaodohaa
set_option linter.unusedVariables false
set_option linter.unusedSimpArgs false
open Go.RowKit
set_option maxHeartbeats 2000000
theorem isnan_any (x : Int) (w : World) : Calls Try.prog 36 #[.int .i64 x] w fun e w' => e = .returned (.bool false) ∧ w = w' := by
  go_enter Try.func36, Try.ntmps36
  go_wp2
  go_ret
  exact ⟨by simp, rfl⟩
theorem compare_any (a b : Int) (w : World) : Calls Try.prog 30 #[.int .i64 a, .int .i64 b] w fun e w' => e = .returned (.int .i64 (Oc.cmpI a b)) ∧ w = w' := by
  by_cases h1 : a < b
  · have d1 : decide (a < b) = true := by simpa using h1
    have hr : Oc.cmpI a b = -1 := by unfold Oc.cmpI; rw [if_pos h1]
    rw [hr]
    clear hr
    go_enter Try.func30, Try.ntmps30
    go_wp2_with fail
    refine (isnan_any _ _).mono ?_
    rintro e w1 ⟨rfl, rfl⟩
    go_wp2_with fail
    refine (isnan_any _ _).mono ?_
    rintro e w1 ⟨rfl, rfl⟩
    go_wp2_with fail
    go_ret
    exact ⟨rfl, rfl⟩
  · have d1 : decide (a < b) = false := by simpa using h1
    by_cases h2 : b < a
    · have d2 : decide (b < a) = true := by simpa using h2
      have hr : Oc.cmpI a b = 1 := by unfold Oc.cmpI; rw [if_neg h1, if_pos h2]
      rw [hr]
      clear hr
      go_enter Try.func30, Try.ntmps30
      go_wp2_with fail
      refine (isnan_any _ _).mono ?_
      rintro e w1 ⟨rfl, rfl⟩
      go_wp2_with fail
      refine (isnan_any _ _).mono ?_
      rintro e w1 ⟨rfl, rfl⟩
      go_wp2_with fail
      go_ret
      exact ⟨rfl, rfl⟩
    · have d2 : decide (b < a) = false := by simpa using h2
      have hr : Oc.cmpI a b = 0 := by unfold Oc.cmpI; rw [if_neg h1, if_neg h2]
      rw [hr]
      clear hr
      go_enter Try.func30, Try.ntmps30
      go_wp2_with fail
      refine (isnan_any _ _).mono ?_
      rintro e w1 ⟨rfl, rfl⟩
      go_wp2_with fail
      refine (isnan_any _ _).mono ?_
      rintro e w1 ⟨rfl, rfl⟩
      go_wp2_with fail
      go_ret
      exact ⟨rfl, rfl⟩
theorem or_any (nb : Nat) (a b c : Int) (T : Nat) (w : World) (h : w.heap[nb]? = some (.cells #[.int .i64 a, .int .i64 b, .int .i64 c] T (0, 0))) :
    Calls Try.prog 29 #[.slice (some ⟨nb, 0, none⟩) 3 3] w fun e w' => e = .returned (.int .i64 (Oc.orI a b c)) ∧ w = w' := by
  have c0 := cell_of_row w nb 0 _ _ _ h
  have c1 := cell_of_row w nb 1 _ _ _ h
  have c2 := cell_of_row w nb 2 _ _ _ h
  simp at c0 c1 c2
  clear h
  go_enter Try.func29, Try.ntmps29
  go_wp2_with fail
  go_loop [8] (fun i => (i = .int .i64 0) ∨ (i = .int .i64 1 ∧ a = 0) ∨ (i = .int .i64 2 ∧ a = 0 ∧ b = 0) ∨ (i = .int .i64 3 ∧ a = 0 ∧ b = 0 ∧ c = 0)) (fun i => 3 - (intOf i).toNat)
  case atStart => exact .inl rfl
  case round =>
    rcases hrel with rfl | ⟨rfl, rfl⟩ | ⟨rfl, rfl, rfl⟩ | ⟨rfl, rfl, rfl, rfl⟩
    · by_cases ha : a = 0
      · have da : (a != 0) = false := by simpa using ha
        go_wp2_with fail
        go_round
        case rel => exact .inr (.inl ⟨by go_num, ha⟩)
        case measure => simp [intOf]
      · have da : (a != 0) = true := by simpa using ha
        go_wp2_with fail
        go_ret
        exact ⟨by unfold Oc.orI; rw [if_neg ha]; rfl, rfl⟩
    · by_cases hb : b = 0
      · have da : (b != 0) = false := by simpa using hb
        go_wp2_with fail
        go_round
        case rel => exact .inr (.inr (.inl ⟨by go_num, by trivial, hb⟩))
        case measure => simp [intOf]
      · have da : (b != 0) = true := by simpa using hb
        go_wp2_with fail
        go_ret
        exact ⟨by unfold Oc.orI; rw [if_pos rfl, if_neg hb]; rfl, rfl⟩
    · by_cases hc : c = 0
      · have da : (c != 0) = false := by simpa using hc
        go_wp2_with fail
        go_round
        case rel => exact .inr (.inr (.inr ⟨by go_num, by trivial, by trivial, hc⟩))
        case measure => simp [intOf]
      · have da : (c != 0) = true := by simpa using hc
        go_wp2_with fail
        go_ret
        exact ⟨by simp [Oc.orI], rfl⟩
    · go_wp2_with fail
      go_ret
      exact ⟨by simp [Oc.orI], rfl⟩
end Go.Proofs.Ytnlbdmciaodohaa
