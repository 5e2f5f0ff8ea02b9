/- The chapter's example. -/
import Derived.Test.YtbkemnfhmaekbaaSpaceTake
import Derived.Test.YtbkemnfhmaekbaaSpaceRefSpans
namespace Go.Proofs.Ytbkemnfhmaekbaa
set_option linter.unusedVariables false
open Go.RowKit
set_option maxHeartbeats 2000000
theorem new_cast {b g : Nat} {w : World} {ty tb : Nat} {h : Int} {n : Int} {h' : Nat} {T : List Bool} (hS : Oc.Sp ty tb w b g h.toNat (List.replicate n.toNat false)) (e1 : h.toNat = h') (e2 : List.replicate n.toNat false = T) : Oc.Sp ty tb w b g h' T := by
  subst e1 e2; exact hS
set_option maxRecDepth 100000 in
theorem awake_any (w : World) : Calls Try.prog 8 #[] w fun e w' => e = .returned (.bool true) ∧ Below w.heap.size w w' := by
  go_enter Try.func8, Try.ntmps8
  go_wp2_with fail
  refine (new_yes 10 2 (by omega) (by omega) (by omega) _).mono ?_
  rintro e w1 ⟨b, g, rfl, hS, hb, hg, hg1⟩
  replace hS := new_cast (T := [false, false, false, false, false, false, false, false, false, false]) hS rfl rfl
  have hB1 : Below w.heap.size w w1 := (Below.refl _ w).grown hg1 (Nat.le_refl _) fun r e => nomatch e
  go_wp2_with fail
  refine (take_any b g 2 _ 3 (by unfold Oc.I; omega) _ hS).mono ?_
  rintro e w2 ⟨rfl, hS2, hg2⟩
  have e2 : Oc.takeN 2 [false, false, false, false, false, false, false, false, false, false] 3 = (2, 0, [false, false, true, true, true, false, false, false, false, false]) := by decide
  rw [e2] at hS2 ⊢
  have hB2 := Oc.below_only hB1 hg2 hB1.size hg
  clear e2 hS hg1 hg2
  go_wp2_with fail
  refine (take_any b g 2 _ 4 (by unfold Oc.I; omega) _ hS2).mono ?_
  rintro e w3 ⟨rfl, hS3, hg3⟩
  have e3 : Oc.takeN 2 [false, false, true, true, true, false, false, false, false, false] 4 = (5, 0, [false, false, true, true, true, true, true, true, true, false]) := by decide
  simp only [] at hS3 ⊢
  rw [e3] at hS3 ⊢
  have hB3 := Oc.below_only hB2 hg3 hB2.size hg
  clear e3 hS2 hg3
  go_wp2_with fail
  refine (Free_any b g 2 _ 2 3 (by unfold Oc.I; omega) (by unfold Oc.I; omega) _ hS3).mono ?_
  rintro e w4 ⟨rfl, hS4, hg4⟩
  have e4 : Oc.setE 2 [false, false, true, true, true, true, true, true, true, false] false 2 3 = 0 := by decide
  have e4' : Oc.setT 2 [false, false, true, true, true, true, true, true, true, false] false 2 3 = [false, false, false, false, false, true, true, true, true, false] := by decide
  rw [e4]
  rw [e4'] at hS4
  have hB4 := Oc.below_only hB3 hg4 hB3.size hg
  clear e4 e4' hS3 hg4
  go_wp2_with fail
  refine (take_any b g 2 _ 2 (by unfold Oc.I; omega) _ hS4).mono ?_
  rintro e w5 ⟨rfl, hS5, hg5⟩
  have e5 : Oc.takeN 2 [false, false, false, false, false, true, true, true, true, false] 2 = (2, 0, [false, false, true, true, false, true, true, true, true, false]) := by decide
  rw [e5] at hS5 ⊢
  have hB5 := Oc.below_only hB4 hg5 hB4.size hg
  clear e5 hS4 hg5
  go_wp2_with fail
  refine (spans_any b g 2 _ _ hS5).mono ?_
  rintro e w6 ⟨v, rfl, hrow, hB6⟩
  have e6 : Oc.spans 2 [false, false, true, true, false, true, true, true, true, false] = [(4, 1), (9, 1)] := by decide
  rw [e6] at hrow
  have hg6 : w5.grownBy w6 none := Oc.only_of_below hB6 none
  have hS6 := hS5.kept hg6 (by simp) (by simp)
  have hB6' : Below w.heap.size w w6 := hB5.trans (hB6.mono hB5.size)
  have hgl := hS5.cells.2.2.2
  obtain ⟨v0, hv0⟩ : ∃ v0, v0 = v := ⟨_, rfl⟩
  rcases hrow.2 with ⟨rfl, h0⟩ | ⟨g', cap', cur, rfl, hg', _⟩
  · simp at h0
  have hfar : some g' ≠ some g := by simp; omega
  clear e6 hS5 hg6 hB6 hv0
  go_wp2_with fail
  refine (take_any b g 2 _ 2 (by unfold Oc.I; omega) _ hS6).mono ?_
  rintro e w7 ⟨rfl, hS7, hg7⟩
  have e7 : Oc.takeN 2 [false, false, true, true, false, true, true, true, true, false] 2 = (0, 7, [false, false, true, true, false, true, true, true, true, false]) := by decide
  rw [e7] at hS7 ⊢
  have hB7 := Oc.below_only hB6' hg7 hB6'.size hg
  have hrow7 := Oc.owns_kept hrow hg7 fun r e => by cases e; exact hfar
  clear e7 hS6 hg7
  go_wp2_with fail
  refine (Mark_any b g 2 _ 9 1 (by unfold Oc.I; omega) (by unfold Oc.I; omega) _ hS7).mono ?_
  rintro e w8 ⟨rfl, hS8, hg8⟩
  have e8 : Oc.setE 2 [false, false, true, true, false, true, true, true, true, false] true 9 1 = 0 := by decide
  have e8' : Oc.setT 2 [false, false, true, true, false, true, true, true, true, false] true 9 1 = [false, false, true, true, false, true, true, true, true, true] := by decide
  rw [e8]
  rw [e8'] at hS8
  have hB8 := Oc.below_only hB7 hg8 hB7.size hg
  have hrow8 := Oc.owns_kept hrow7 hg8 fun r e => by cases e; exact hfar
  clear e8 e8' hS7 hg8 hrow7
  go_wp2_with fail
  refine (Mark_any b g 2 _ 9 1 (by unfold Oc.I; omega) (by unfold Oc.I; omega) _ hS8).mono ?_
  rintro e w9 ⟨rfl, hS9, hg9⟩
  have e9 : Oc.setE 2 [false, false, true, true, false, true, true, true, true, true] true 9 1 = 1 := by decide
  have e9' : Oc.setT 2 [false, false, true, true, false, true, true, true, true, true] true 9 1 = [false, false, true, true, false, true, true, true, true, true] := by decide
  rw [e9]
  rw [e9'] at hS9
  have hB9 := Oc.below_only hB8 hg9 hB8.size hg
  have hrow9 := Oc.owns_kept hrow8 hg9 fun r e => by cases e; exact hfar
  clear e9 e9' hS8 hg9 hrow8
  have r0 := (owns_cell hrow9 (k := 0) (u := .int .i64 4) rfl).1
  have r1 := (owns_cell hrow9 (k := 1) (u := .int .i64 1) rfl).1
  have r2 := (owns_cell hrow9 (k := 2) (u := .int .i64 9) rfl).1
  have r3 := (owns_cell hrow9 (k := 3) (u := .int .i64 1) rfl).1
  have er : ((Oc.sumS (Oc.spans 2 [false, false, true, true, false, true, true, true, true, true]) : Nat) : Int) = 1 := by decide
  have el : ((Oc.maxS (Oc.spans 2 [false, false, true, true, false, true, true, true, true, true]) : Nat) : Int) = 1 := by decide
  have hr := room_any b g 2 _ w9 hS9
  rw [er] at hr
  have Hr := Oc.hide hr
  have hl := fun W (hW : w9.grownBy W none) => largest_any b g 2 _ W (hS9.kept hW (by simp) (by simp))
  rw [el] at hl
  have Hl := Oc.hide hl
  clear er el hr hl
  go_wp2_with fail
  refine (Oc.unhide Hr).mono ?_
  rintro e w10 ⟨rfl, hB10⟩
  go_wp2_with fail
  refine (Oc.unhide Hl _ (Oc.only_of_below hB10 none)).mono ?_
  rintro e w11 ⟨rfl, hB11⟩
  go_wp2_with fail
  go_ret
  exact ⟨rfl, (hB9.trans (hB10.mono hB9.size)).trans (hB11.mono (Nat.le_trans hB9.size hB10.size))⟩
end Go.Proofs.Ytbkemnfhmaekbaa
