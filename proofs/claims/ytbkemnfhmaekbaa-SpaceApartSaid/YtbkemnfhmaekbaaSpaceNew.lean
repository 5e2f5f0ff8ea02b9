/- The law SpaceNew. -/
import Derived.Test.YtbkemnfhmaekbaaSpaceAwake
namespace Oc
theorem scan_free_all : ∀ (k f m : Nat), scan f m (List.replicate k false) = if 0 < m + k then [(f, m + k)] else []
  | 0, f, m => by simp [scan]
  | k + 1, f, m => by
    rw [List.replicate_succ]
    simp only [scan, Bool.false_eq_true, if_false]
    rw [scan_free_all k f (m + 1), show m + 1 + k = m + (k + 1) by omega]
theorem spans_new (h n : Nat) : sumS (spans h (List.replicate n false)) = n - h ∧ maxS (spans h (List.replicate n false)) = n - h := by
  unfold spans
  rw [List.drop_replicate, scan_free_all]
  split
  · simp [sumS, maxS]
  · simp [sumS, maxS]; omega
end Oc
namespace Go.Proofs.Ytbkemnfhmaekbaa
set_option linter.unusedVariables false
open Go.RowKit
set_option maxHeartbeats 2000000
theorem spaceNew_true (size head : Int) (w : World) (hs : Oc.I size) (hh : Oc.I head) : Calls Try.prog 3 #[.int .i64 size, .int .i64 head] w fun e w' => e = .returned (.bool true) ∧ Below w.heap.size w w' := by
  by_cases h : head < 0 ∨ size < head ∨ 4096 < size
  · have hno := fun W => new_no size head hs hh h W
    have hrno := fun W => rnew_no size head hs hh h W
    go_enter Try.func3, Try.ntmps3
    go_wp2_with fail
    refine (awake_any _).mono ?_
    rintro e w1 ⟨rfl, hB1⟩
    go_wp2_with fail
    refine (hno _).mono ?_
    rintro e w2 ⟨rfl, rfl⟩
    go_wp2_with fail
    refine (hrno _).mono ?_
    rintro e w3 ⟨rfl, rfl⟩
    go_wp2_with fail
    go_ret
    exact ⟨rfl, hB1⟩
  · have hno := fun W => new_yes size head (by omega) (by omega) (by omega) W
    have hrno := fun W => rnew_yes size head (by omega) (by omega) (by omega) W
    go_enter Try.func3, Try.ntmps3
    go_wp2_with fail
    refine (awake_any _).mono ?_
    rintro e w1 ⟨rfl, hB1⟩
    go_wp2_with fail
    refine (hno _).mono ?_
    rintro e w2 ⟨b, g, rfl, hS, hb, hg, hg2⟩
    have hB2 : Below w.heap.size w w2 := hB1.grown hg2 hB1.size fun r e => nomatch e
    go_wp2_with fail
    refine (hrno _).mono ?_
    rintro e w3 ⟨b', g', rfl, hS', hb', hg', hg3⟩
    have hB3 : Below w.heap.size w w3 := hB2.grown hg3 hB2.size fun r e => nomatch e
    have hS3 := hS.kept hg3 (by simp) (by simp)
    have hn := Oc.spans_new head.toNat size.toNat
    have hr := fun W (hW : w3.grownBy W none) => room_any b g _ _ W (hS3.kept hW (by simp) (by simp))
    have hl := fun W (hW : w3.grownBy W none) => largest_any b g _ _ W (hS3.kept hW (by simp) (by simp))
    have hr' := fun W (hW : w3.grownBy W none) => rroom_any b' g' _ _ W (hS'.kept hW (by simp) (by simp))
    simp only [hn.1, hn.2] at hr hl hr'
    have Hr := Oc.hide hr
    have Hl := Oc.hide hl
    have Hr' := Oc.hide hr'
    have e1 : ((size.toNat - head.toNat : Nat) : Int) = size - head := by omega
    have E1 := Lib.hid e1
    clear hr hl hr' hn hno hrno e1
    obtain ⟨hs0, hs1⟩ := hs
    obtain ⟨hh0, hh1⟩ := hh
    have k1 : 0 ≤ size - head := by omega
    have k2 : size - head ≤ 4096 := by omega
    go_wp2_with fail
    refine (Oc.unhide Hr _ (Oc.only_refl _ _)).mono ?_
    rintro e w4 ⟨rfl, hB4⟩
    have hg4 := Oc.only_of_below hB4 none
    rw [E1.out]
    go_wp2_with fail
    refine (Oc.unhide Hr' _ hg4).mono ?_
    rintro e w5 ⟨rfl, hB5⟩
    have hg5 := Oc.only_trans hg4 (Oc.only_of_below hB5 none)
    rw [E1.out]
    go_wp2_with fail
    refine (Oc.unhide Hl _ hg5).mono ?_
    rintro e w6 ⟨rfl, hB6⟩
    rw [E1.out]
    go_wp2_with fail
    go_ret
    exact ⟨rfl, ((hB3.trans (hB4.mono hB3.size)).trans (hB5.mono (Nat.le_trans hB3.size hB4.size))).trans (hB6.mono (Nat.le_trans hB3.size (Nat.le_trans hB4.size hB5.size)))⟩
end Go.Proofs.Ytbkemnfhmaekbaa
