/- A risen row, each once. -/
import Derived.Test.YtnlbdmciaodohaaDiskCmp
namespace Oc
set_option linter.unusedVariables false
def dedAdd (D : List Fl) (x : Fl) : List Fl := if D.getLast? = some x then D else D ++ [x]
def ded (L : List Fl) : List Fl := L.foldl dedAdd []
theorem ded_succ {L : List Fl} {j : Nat} {x : Fl} (h : L[j]? = some x) : ded (L.take (j + 1)) = dedAdd (ded (L.take j)) x := by
  unfold ded
  rw [List.take_add_one, h, List.foldl_append]; rfl
theorem ded_last {L : List Fl} : ∀ j x, L[j]? = some x → (ded (L.take (j + 1))).getLast? = some x := fun j x h => by
  rw [ded_succ h]
  unfold dedAdd
  split
  · assumption
  · simp
theorem take_last {L : List Fl} {j : Nat} {x : Fl} (h : L[j]? = some x) : (L.take (j + 1)).getLast? = some x := by rw [List.take_add_one, h]; simp
theorem ded_len {L : List Fl} : ∀ j, j ≤ L.length → (ded (L.take j)).length ≤ j
  | 0, _ => by simp [ded]
  | j + 1, h => by
    obtain ⟨x, hx⟩ : ∃ x, L[j]? = some x := ⟨_, List.getElem?_eq_getElem (by omega)⟩
    rw [ded_succ hx]
    have := ded_len (L := L) j (by omega)
    unfold dedAdd
    split <;> (try simp) <;> omega
theorem ded_mem {L : List Fl} : ∀ j, j ≤ L.length → ∀ y, y ∈ ded (L.take j) ↔ y ∈ L.take j
  | 0, _ => by simp [ded]
  | j + 1, h => by
    intro y
    obtain ⟨x, hx⟩ : ∃ x, L[j]? = some x := ⟨_, List.getElem?_eq_getElem (by omega)⟩
    rw [ded_succ hx, List.take_add_one, hx]
    have := ded_mem (L := L) j (by omega) y
    unfold dedAdd
    split
    · next hl =>
      have hm : x ∈ ded (L.take j) := List.mem_of_getLast? hl
      rw [this, List.mem_append]
      refine ⟨.inl, fun h => h.elim id fun h => ?_⟩
      have : y = x := by simpa using h
      subst this
      exact (ded_mem j (by omega) y).1 hm
    · rw [List.mem_append, List.mem_append, this]; simp
theorem ltF_trans {x y z : Fl} (h : ltF x y) (k : ltF y z) : ltF x z := by unfold ltF at *; omega
theorem ltF_irrefl (x : Fl) : ¬ ltF x x := by unfold ltF; omega
theorem ltF_tri {x y : Fl} (h : ¬ ltF y x) : x = y ∨ ltF x y := by
  obtain ⟨a, b, c⟩ := x
  obtain ⟨d, e, f⟩ := y
  unfold ltF at *
  simp only [Prod.mk.injEq] at *
  omega
def Risn (L : List Fl) : Prop := List.Pairwise (fun a b => ¬ ltF b a) L
/-- Rising, each once. -/
def Rising (L : List Fl) : Prop := List.Pairwise ltF L
theorem ded_rising {L : List Fl} (h : Risn L) : ∀ j, j ≤ L.length → Rising (ded (L.take j)) ∧ ∀ y ∈ ded (L.take j), ∀ z, (ded (L.take j)).getLast? = some z → y = z ∨ ltF y z
  | 0, _ => by simp [ded, Rising]
  | j + 1, hj => by
    obtain ⟨x, hx⟩ : ∃ x, L[j]? = some x := ⟨_, List.getElem?_eq_getElem (by omega)⟩
    obtain ⟨h1, h2⟩ := ded_rising h j (by omega)
    have hlast := ded_last j x hx
    rw [ded_succ hx] at hlast ⊢
    unfold dedAdd at *
    split at hlast
    · next hl =>
      rw [if_pos hl]; exact ⟨h1, h2⟩
    · next hl =>
      rw [if_neg hl]
      have hlt : ∀ y ∈ ded (L.take j), ltF y x := by
        intro y hy
        cases j with
        | zero => simp [ded] at hy
        | succ i =>
          obtain ⟨u, hu⟩ : ∃ u, L[i]? = some u := ⟨_, List.getElem?_eq_getElem (by omega)⟩
          have hul := ded_last i u hu
          have hux : ¬ ltF x u := by
            have h' := (List.pairwise_iff_getElem.1 h) i (i + 1) (by omega) (by omega) (by omega)
            rw [(List.getElem?_eq_some_iff.1 hx).2, (List.getElem?_eq_some_iff.1 hu).2] at h'
            exact h'
          have hne : u ≠ x := fun e => hl (by rw [← e]; exact hul)
          have hux' : ltF u x := (ltF_tri hux).resolve_left hne
          rcases h2 y hy u hul with rfl | h3
          · exact hux'
          · exact ltF_trans h3 hux'
      refine ⟨List.pairwise_append.2 ⟨h1, by simp, fun a ha b hb => by rw [List.mem_singleton.1 hb]; exact hlt a ha⟩, fun y hy z hz => ?_⟩
      have : z = x := by simpa using hz.symm
      subst this
      rcases List.mem_append.1 hy with hy | hy
      · exact .inr (hlt y hy)
      · exact .inl (by simpa using hy)
/-- Two rising lists of the same files are one. -/
theorem rising_one : ∀ {A B : List Fl}, Rising A → Rising B → (∀ y, y ∈ A ↔ y ∈ B) → A = B
  | [], B, _, _, h => by
    cases B with
    | nil => rfl
    | cons b B => exact absurd ((h b).2 (by simp)) (by simp)
  | a :: A, [], _, _, h => absurd ((h a).1 (by simp)) (by simp)
  | a :: A, b :: B, hA, hB, h => by
    obtain ⟨a1, a2⟩ := List.pairwise_cons.1 hA
    obtain ⟨b1, b2⟩ := List.pairwise_cons.1 hB
    have hab : a = b := by
      rcases List.mem_cons.1 ((h a).1 (by simp)) with e | e
      · exact e
      · rcases List.mem_cons.1 ((h b).2 (by simp)) with e' | e'
        · exact e'.symm
        · exact absurd (ltF_trans (a1 b e') (b1 a e)) (ltF_irrefl a)
    subst hab
    congr 1
    refine rising_one a2 b2 fun y => ⟨fun hy => ?_, fun hy => ?_⟩
    · rcases List.mem_cons.1 ((h y).1 (by simp [hy])) with e | e
      · subst e; exact absurd (a1 y hy) (ltF_irrefl y)
      · exact e
    · rcases List.mem_cons.1 ((h y).2 (by simp [hy])) with e | e
      · subst e; exact absurd (b1 y hy) (ltF_irrefl y)
      · exact e
end Oc
