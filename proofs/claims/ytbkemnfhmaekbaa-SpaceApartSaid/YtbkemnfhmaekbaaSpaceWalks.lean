/- The walks through Mark, Free, New and their references. -/
import Derived.Test.YtbkemnfhmaekbaaSpaceSet
import Derived.Laws.MakeOwn
import Derived.Maps.AppendAt
namespace Oc
open Go Go.RowKit
set_option linter.unusedVariables false
theorem madeCells_bools (n : Nat) : madeCells (Value.bool false).cells (n * 1) = bools (List.replicate n false) := by
  unfold madeCells bools
  apply Array.ext'
  apply List.ext_getElem?
  intro i
  simp [Value.cells]
  by_cases h : i < n
  · simp [h]
    rw [Nat.mod_one]; rfl
  · simp [h]
theorem Sp.cells {ty tb : Nat} {w : World} {b g h : Nat} {T : List Bool} (hS : Sp ty tb w b g h T) : w.cell? ⟨b, 0, none⟩ = some (.int .i64 h) ∧ w.cell? ⟨b, 1, none⟩ = some (.slice (some ⟨g, 0, none⟩) T.length T.length) ∧ b < w.heap.size ∧ g < w.heap.size := by
  have c0 := cell_of_row w b 0 _ _ _ hS.str
  have c1 := cell_of_row w b 1 _ _ _ hS.str
  simp at c0 c1
  exact ⟨c0, c1, (Array.getElem?_eq_some_iff.1 hS.str).1, (Array.getElem?_eq_some_iff.1 hS.row).1⟩
end Oc
namespace Go.Proofs.Ytbkemnfhmaekbaa
set_option linter.unusedVariables false
open Go.RowKit
set_option maxHeartbeats 1000000
theorem infoBool : (Try.prog.info? 4).map (fun i => (i.zero, i.size, i.bytes)) = some (some (.bool false), 1, 1) := by kernel_rfl
theorem run_bools (n : Int) (h0 : 0 ≤ n) (h1 : n ≤ 4096) (w : World) : (Instr.makeSlice 46 (.int .i64 n) (.int .i64 n)).run Try.prog w = .ok (.slice (some ⟨w.heap.size, 0, none⟩) n.toNat n.toNat) (w.alloc (.cells (Oc.bools (List.replicate n.toNat false)) 4)) := by
  obtain ⟨i0, hi, hz0, hz1, hz2⟩ := info_parts infoBool
  rw [run_make w 46 4 i0 (.bool false) Try.underlying46 hi hz0 .i64 .i64 n n h0 (by omega) (by rw [hz2]; omega) (by omega), hz1, Oc.madeCells_bools]
theorem Mark_any (b g h : Nat) (T : List Bool) (f m : Int) (hf : Oc.I f) (hm : Oc.I m) (w : World) (hS : Oc.Sp 48 4 w b g h T) :
    Calls Try.prog 16 #[.pointer (some ⟨b, 0, none⟩), .agg #[.int .i64 f, .int .i64 m]] w fun e w' =>
      e = .returned (.int .i64 (Oc.setE h T true f m)) ∧ Oc.Sp 48 4 w' b g h (Oc.setT h T true f m) ∧ w.grownBy w' (some g) := by
  have hg := World.grownBy_alloc w (.cells #[.int .i64 f, .int .i64 m] 34) none
  have hS1 := hS.kept hg (by simp) (by simp)
  go_enter Try.func16, Try.ntmps16
  go_wp2_with fail
  refine (set_any b g h T f m true hf hm _ hS1).mono ?_
  rintro e w' ⟨rfl, hS2, hg2⟩
  go_wp2
  go_ret
  exact ⟨rfl, hS2, Oc.only_trans (hg.but _) hg2⟩
theorem Free_any (b g h : Nat) (T : List Bool) (f m : Int) (hf : Oc.I f) (hm : Oc.I m) (w : World) (hS : Oc.Sp 48 4 w b g h T) :
    Calls Try.prog 18 #[.pointer (some ⟨b, 0, none⟩), .agg #[.int .i64 f, .int .i64 m]] w fun e w' =>
      e = .returned (.int .i64 (Oc.setE h T false f m)) ∧ Oc.Sp 48 4 w' b g h (Oc.setT h T false f m) ∧ w.grownBy w' (some g) := by
  have hg := World.grownBy_alloc w (.cells #[.int .i64 f, .int .i64 m] 34) none
  have hS1 := hS.kept hg (by simp) (by simp)
  go_enter Try.func18, Try.ntmps18
  go_wp2_with fail
  refine (set_any b g h T f m false hf hm _ hS1).mono ?_
  rintro e w' ⟨rfl, hS2, hg2⟩
  go_wp2
  go_ret
  exact ⟨rfl, hS2, Oc.only_trans (hg.but _) hg2⟩
theorem new_no (size head : Int) (hs : Oc.I size) (hh : Oc.I head) (h : head < 0 ∨ size < head ∨ 4096 < size) (w : World) :
    Calls Try.prog 9 #[.int .i64 size, .int .i64 head] w fun e w' => e = .returned (.tuple #[.pointer none, .int .i64 1]) ∧ w = w' := by
  by_cases h1 : head < 0
  · have d1 : decide (head < 0) = true := by simpa using h1
    go_enter Try.func9, Try.ntmps9
    go_wp2
    go_ret2
    exact ⟨rfl, rfl⟩
  · have d1 : decide (head < 0) = false := by simpa using h1
    by_cases h2 : size < head
    · have d2 : decide (size < head) = true := by simpa using h2
      go_enter Try.func9, Try.ntmps9
      go_wp2
      go_ret2
      exact ⟨rfl, rfl⟩
    · have d2 : decide (size < head) = false := by simpa using h2
      have h3 : 4096 < size := by omega
      have d3 : decide (4096 < size) = true := by simpa using h3
      go_enter Try.func9, Try.ntmps9
      go_wp2
      go_ret2
      exact ⟨rfl, rfl⟩
theorem new_yes (size head : Int) (h0 : 0 ≤ head) (h1 : head ≤ size) (h2 : size ≤ 4096) (w : World) :
    Calls Try.prog 9 #[.int .i64 size, .int .i64 head] w fun e w' => ∃ b g, e = .returned (.tuple #[.pointer (some ⟨b, 0, none⟩), .int .i64 0]) ∧ Oc.Sp 48 4 w' b g head.toNat (List.replicate size.toNat false) ∧ w.heap.size ≤ b ∧ w.heap.size ≤ g ∧ w.grownBy w' none := by
  have d1 : decide (head < 0) = false := by simp; omega
  have d2 : decide (size < head) = false := by simp; omega
  have d3 : decide (4096 < size) = false := by simp; omega
  have hmk := run_bools size (by omega) h2
  have e0 := Lib.hid (show ((head.toNat : Nat) : Int) = head by omega)
  go_enter Try.func9, Try.ntmps9
  go_wp2
  go_ret2
  refine ⟨w.heap.size + 1, w.heap.size, rfl, ⟨?_, ?_, by simp; omega, by simp; omega, by omega⟩, by omega, by omega, Oc.only_alloc (Oc.only_alloc (Oc.only_refl _ _) _) _⟩
  · rw [e0.out, List.length_replicate]
    have := heap_alloc_new (w.alloc (.cells (Oc.bools (List.replicate size.toNat false)) 4)) (.cells #[.int .i64 head, .slice (some ⟨w.heap.size, 0, none⟩) size.toNat size.toNat] 48)
    rwa [World.size_alloc] at this
  · exact (Below.heap_alloc _ _ _ (by simp)).trans (heap_alloc_new w _)
theorem rnew_no (size head : Int) (hs : Oc.I size) (hh : Oc.I head) (h : head < 0 ∨ size < head ∨ 4096 < size) (w : World) :
    Calls Try.prog 10 #[.int .i64 size, .int .i64 head] w fun e w' => e = .returned (.tuple #[.pointer none, .int .i64 1]) ∧ w = w' := by
  by_cases h1 : head < 0
  · have d1 : decide (head < 0) = true := by simpa using h1
    go_enter Try.func10, Try.ntmps10
    go_wp2
    go_ret2
    exact ⟨rfl, rfl⟩
  · have d1 : decide (head < 0) = false := by simpa using h1
    by_cases h2 : size < head
    · have d2 : decide (size < head) = true := by simpa using h2
      go_enter Try.func10, Try.ntmps10
      go_wp2
      go_ret2
      exact ⟨rfl, rfl⟩
    · have d2 : decide (size < head) = false := by simpa using h2
      have h3 : 4096 < size := by omega
      have d3 : decide (4096 < size) = true := by simpa using h3
      go_enter Try.func10, Try.ntmps10
      go_wp2
      go_ret2
      exact ⟨rfl, rfl⟩
theorem rnew_yes (size head : Int) (h0 : 0 ≤ head) (h1 : head ≤ size) (h2 : size ≤ 4096) (w : World) :
    Calls Try.prog 10 #[.int .i64 size, .int .i64 head] w fun e w' => ∃ b g, e = .returned (.tuple #[.pointer (some ⟨b, 0, none⟩), .int .i64 0]) ∧ Oc.Sp 50 4 w' b g head.toNat (List.replicate size.toNat false) ∧ w.heap.size ≤ b ∧ w.heap.size ≤ g ∧ w.grownBy w' none := by
  have d1 : decide (head < 0) = false := by simp; omega
  have d2 : decide (size < head) = false := by simp; omega
  have d3 : decide (4096 < size) = false := by simp; omega
  have hmk := run_bools size (by omega) h2
  have e0 := Lib.hid (show ((head.toNat : Nat) : Int) = head by omega)
  go_enter Try.func10, Try.ntmps10
  go_wp2
  go_ret2
  refine ⟨w.heap.size + 1, w.heap.size, rfl, ⟨?_, ?_, by simp; omega, by simp; omega, by omega⟩, by omega, by omega, Oc.only_alloc (Oc.only_alloc (Oc.only_refl _ _) _) _⟩
  · rw [e0.out, List.length_replicate]
    have := heap_alloc_new (w.alloc (.cells (Oc.bools (List.replicate size.toNat false)) 4)) (.cells #[.int .i64 head, .slice (some ⟨w.heap.size, 0, none⟩) size.toNat size.toNat] 50)
    rwa [World.size_alloc] at this
  · exact (Below.heap_alloc _ _ _ (by simp)).trans (heap_alloc_new w _)
end Go.Proofs.Ytbkemnfhmaekbaa
