/- What a taking does to the room; a letting go behind it. -/
import Derived.Test.YtbkemnfhmaekbaaSpaceNew
namespace Oc
set_option linter.unusedVariables false
theorem upd_same {T : List Bool} {v : Bool} {f m : Nat} (h : f + m ≤ T.length) (hF : ∀ k, f ≤ k → k < f + m → T[k]? = some v) : upd T v f m = T := by
  apply List.ext_getElem?
  intro i
  rw [upd_get h]
  split
  · next hi => rw [hF i hi.1 hi.2]
  · rfl
theorem upd_upd {T : List Bool} {u v : Bool} {f m : Nat} (h : f + m ≤ T.length) : upd (upd T u f m) v f m = upd T v f m := by
  apply List.ext_getElem?
  intro i
  rw [upd_get (by rw [upd_length h]; exact h), upd_get h, upd_get h]
  split <;> rfl
theorem count_upd {h : Nat} {T : List Bool} {f n : Nat} (hh : h ≤ f) (hl : f + n ≤ T.length) (hF : Fit T f n) : ((upd T true f n).drop h).count false + n = (T.drop h).count false := by
  have key : ∀ v, (upd T v f n).drop h = (T.take f).drop h ++ (List.replicate n v ++ T.drop (f + n)) := fun v => by
    unfold upd
    rw [List.append_assoc, List.drop_append_of_le_length (by simp; omega)]
  have e : T.drop h = (upd T false f n).drop h := by rw [upd_same hl hF]
  rw [e, key, key]
  simp only [List.count_append, List.count_replicate]
  simp; omega
theorem sumS_room (h : Nat) (T : List Bool) : sumS (spans h T) = (T.drop h).count false := room_count h T
theorem sumS_upd {h : Nat} {T : List Bool} {f n : Nat} (hh : h ≤ f) (hl : f + n ≤ T.length) (hF : Fit T f n) : sumS (spans h (upd T true f n)) + n = sumS (spans h T) := by
  rw [sumS_room, sumS_room]; exact count_upd hh hl hF
/-- What Take answers. -/
theorem takeN_cases (h : Nat) (T : List Bool) (n : Int) (hn : 1 ≤ n) :
    (takeN h T n = (0, 7, T) ∧ (maxS (spans h T) : Int) < n) ∨
    ∃ x ∈ spans h T, (spans h T).find? (fun x => decide (n ≤ x.2)) = some x ∧ takeN h T n = ((x.1 : Int), 0, upd T true x.1 n.toNat) ∧ n ≤ maxS (spans h T) ∧ n ≤ x.2 ∧ h ≤ x.1 ∧ x.1 + n.toNat ≤ T.length ∧ Fit T x.1 n.toNat := by
  have hl := largest_find h T n
  cases hx : (spans h T).find? (fun x => decide (n ≤ x.2)) with
  | none =>
    left
    rw [hx] at hl
    simp at hl
    refine ⟨by unfold takeN; rw [if_neg (by omega), hx], ?_⟩
    have : ¬ n ≤ (maxS (spans h T) : Int) := fun hc => by have := hl hc; omega
    omega
  | some x =>
    right
    rw [hx] at hl
    have hm := List.mem_of_find?_eq_some hx
    have hp : n ≤ (x.2 : Int) := by simpa using List.find?_some hx
    obtain ⟨a1, a2, a3⟩ := spans_free hm
    have a4 := spans_in hm
    refine ⟨x, hm, rfl, by unfold takeN; rw [if_neg (by omega), hx], (hl.1 rfl).1, hp, a1, by omega, fun k h1 h2 => a3 k h1 (by omega)⟩
theorem find_at {l : List (Nat × Nat)} {p : Nat × Nat → Bool} {k : Nat} {x y : Nat × Nat} (hf : l.find? p = some y) (hk : l[k]? = some x) (hp : p x = true) (hno : ∀ j z, j < k → l[j]? = some z → p z = false) : y = x := by
  induction l generalizing k with
  | nil => simp at hk
  | cons a l ih =>
    cases k with
    | zero =>
      simp at hk; subst hk
      rw [List.find?_cons, hp] at hf
      simpa using hf.symm
    | succ k =>
      have h0 := hno 0 a (by omega) rfl
      rw [List.find?_cons, h0] at hf
      exact ih hf (by simpa using hk) fun j z hj hz => hno (j + 1) z (by omega) (by simpa using hz)
end Oc
