/- Who has taken which numbers. -/
import Derived.Test.YtbkemnfhmaekbaaSpaceMore
namespace Oc
set_option linter.unusedVariables false
open Go
def ints (O : List Int) : Array Value := (O.map (Value.int .i64)).toArray
theorem ints_size (O : List Int) : (ints O).size = O.length := by simp [ints]
theorem ints_get {O : List Int} {k : Nat} {v : Int} (h : O[k]? = some v) : (ints O)[k]? = some (.int .i64 v) := by simp [ints, h]
theorem ints_set (O : List Int) (k : Nat) (v : Int) : (ints O).setIfInBounds k (.int .i64 v) = ints (O.set k v) := by
  apply Array.ext'
  simp [ints, List.map_set]
/-- The numbers from f on, m of them, become v. -/
def updI (O : List Int) (v : Int) (f m : Nat) : List Int := O.take f ++ List.replicate m v ++ O.drop (f + m)
theorem updI_length {O : List Int} {v : Int} {f m : Nat} (h : f + m ≤ O.length) : (updI O v f m).length = O.length := by
  unfold updI; simp; omega
theorem updI_get {O : List Int} {v : Int} {f m : Nat} (h : f + m ≤ O.length) (k : Nat) : (updI O v f m)[k]? = if f ≤ k ∧ k < f + m then some v else O[k]? := by
  unfold updI
  by_cases h1 : k < f
  · rw [if_neg (by omega), List.append_assoc, List.getElem?_append_left (by simp; omega), List.getElem?_take_of_lt h1]
  · by_cases h2 : k < f + m
    · rw [if_pos (by omega), List.getElem?_append_left (by simp; omega), List.getElem?_append_right (by simp; omega), List.getElem?_replicate, if_pos (by simp; omega)]
    · rw [if_neg (by omega), List.getElem?_append_right (by simp; omega), List.getElem?_drop]
      congr 1; simp; omega
theorem updI_zero (O : List Int) (v : Int) (f : Nat) : updI O v f 0 = O := by simp [updI]
theorem updI_succ {O : List Int} {v : Int} {f k : Nat} (h : f + k < O.length) : (updI O v f k).set (f + k) v = updI O v f (k + 1) := by
  apply List.ext_getElem?
  intro i
  rw [List.getElem?_set, updI_get (by omega), updI_get (by omega)]
  by_cases e : f + k = i
  · subst e
    rw [if_pos rfl, if_pos (by rw [updI_length (by omega)]; exact h), if_pos (by omega)]
  · rw [if_neg e]
    by_cases h2 : f ≤ i ∧ i < f + k
    · rw [if_pos h2, if_pos (by omega)]
    · rw [if_neg h2, if_neg (by omega)]
/-- A number has an owner just if it is taken; none below the head is. -/
def Inv (h : Nat) (T : List Bool) (O : List Int) : Prop := O.length = T.length ∧ ∀ k t o, T[k]? = some t → O[k]? = some o → ((o ≠ 0 ↔ t = true) ∧ (t = true → h ≤ k))
theorem Inv.start (h n : Nat) : Inv h (List.replicate n false) (List.replicate n 0) := ⟨by simp, fun k t o h1 h2 => by
  simp [List.getElem?_replicate] at h1 h2
  obtain ⟨_, rfl⟩ := h1
  obtain ⟨_, rfl⟩ := h2
  simp⟩
theorem Inv.free {h : Nat} {T : List Bool} {O : List Int} (H : Inv h T O) {k : Nat} (hk : k < T.length) : Inv h (upd T false k 1) (O.set k 0) := by
  refine ⟨by rw [List.length_set, H.1, upd_length (by omega)], fun j t o h1 h2 => ?_⟩
  rw [upd_get (by omega)] at h1
  rw [List.getElem?_set] at h2
  by_cases e : k = j
  · subst e
    rw [if_pos (by omega)] at h1
    rw [if_pos rfl, if_pos (by rw [H.1]; exact hk)] at h2
    cases h1; cases h2; simp
  · rw [if_neg (by omega)] at h1
    rw [if_neg e] at h2
    exact H.2 j t o h1 h2
theorem Inv.take {h : Nat} {T : List Bool} {O : List Int} (H : Inv h T O) {f n : Nat} {v : Int} (hv : v ≠ 0) (hf : h ≤ f) (hl : f + n ≤ T.length) : Inv h (upd T true f n) (updI O v f n) := by
  have hl' : f + n ≤ O.length := by rw [H.1]; exact hl
  refine ⟨by rw [updI_length hl', H.1, upd_length hl], fun j t o h1 h2 => ?_⟩
  rw [upd_get hl] at h1
  rw [updI_get hl'] at h2
  split at h1
  · next hj =>
    rw [if_pos hj] at h2
    cases h1; cases h2
    exact ⟨by simp [hv], fun _ => by omega⟩
  · next hj =>
    rw [if_neg hj] at h2
    exact H.2 j t o h1 h2
theorem Inv.free_zero {h : Nat} {T : List Bool} {O : List Int} (H : Inv h T O) {k : Nat} (hk : T[k]? = some false) : O[k]? = some 0 := by
  have hl := (List.getElem?_eq_some_iff.1 hk).1
  have ho : O[k]? = some (O[k]'(by rw [H.1]; exact hl)) := List.getElem?_eq_getElem _
  have := (H.2 k false _ hk ho).1
  rw [ho]
  simp at this
  rw [this]
/-- The taken ones among the first k behind the head. -/
def taken (h : Nat) (T : List Bool) (k : Nat) : Nat := ((T.drop h).take k).count true
theorem taken_succ {h : Nat} {T : List Bool} {k : Nat} {t : Bool} (ht : T[h + k]? = some t) : taken h T (k + 1) = taken h T k + (if t then 1 else 0) := by
  unfold taken
  rw [List.take_add_one, List.getElem?_drop, ht, Option.toList_some, List.count_append]
  cases t <;> simp
theorem taken_all {h : Nat} {T : List Bool} (hh : h ≤ T.length) : sumS (spans h T) + taken h T (T.length - h) = T.length - h := by
  rw [sumS_room]
  unfold taken
  rw [List.take_of_length_le (by simp)]
  have h1 := List.length_eq_countP_add_countP (p := (· == true)) (l := T.drop h)
  have h2 : (T.drop h).countP (fun x => decide (¬ (x == true) = true)) = (T.drop h).count false := by
    unfold List.count
    congr 1
    funext x
    cases x <;> rfl
  rw [h2] at h1
  have h3 : (T.drop h).countP (· == true) = (T.drop h).count true := rfl
  rw [h3, List.length_drop] at h1
  omega
end Oc
