/- Numbers that are free or taken, in plain Lean: the spans of the free ones, what fits, what is taken. -/
import Derived.Test.YtbkemnfhmaekbaaWords
namespace Oc
set_option linter.unusedVariables false
/-- The spans of free cells from a span (f, m) on that ends where the list begins. -/
def scan (f m : Nat) : List Bool → List (Nat × Nat)
  | [] => if 0 < m then [(f, m)] else []
  | b :: l => if b then (if 0 < m then [(f, m)] else []) ++ scan (f + m + 1) 0 l else scan f (m + 1) l
def spans (h : Nat) (T : List Bool) : List (Nat × Nat) := scan h 0 (T.drop h)
def allIs (T : List Bool) (v : Bool) (f m : Nat) : Bool := ((T.drop f).take m).all (· == v)
/-- May a span be, and are its cells all v? -/
def fits (h : Nat) (T : List Bool) (v : Bool) (f m : Int) : Bool := decide (1 ≤ m ∧ (h : Int) ≤ f ∧ f < T.length ∧ m ≤ T.length - f) && allIs T v f.toNat m.toNat
def upd (T : List Bool) (v : Bool) (f m : Nat) : List Bool := T.take f ++ List.replicate m v ++ T.drop (f + m)
/-- A span becomes v: an error's number; the cells. -/
def setE (h : Nat) (T : List Bool) (v : Bool) (f m : Int) : Int := if fits h T (!v) f m then 0 else 1
def setT (h : Nat) (T : List Bool) (v : Bool) (f m : Int) : List Bool := if fits h T (!v) f m then upd T v f.toNat m.toNat else T
def takeN (h : Nat) (T : List Bool) (n : Int) : Int × Int × List Bool :=
  if n < 1 then (0, 1, T) else match (spans h T).find? (fun x => decide (n ≤ x.2)) with
    | some x => (x.1, 0, upd T true x.1 n.toNat)
    | none => (0, 7, T)
def room (h : Nat) (T : List Bool) : Nat := ((spans h T).map (·.2)).sum
def largest (h : Nat) (T : List Bool) : Nat := (spans h T).foldl (fun a x => max a x.2) 0
/-! ### Cells -/
theorem upd_length {T : List Bool} {v : Bool} {f m : Nat} (h : f + m ≤ T.length) : (upd T v f m).length = T.length := by
  unfold upd; simp; omega
theorem upd_get {T : List Bool} {v : Bool} {f m : Nat} (h : f + m ≤ T.length) (k : Nat) : (upd T v f m)[k]? = if f ≤ k ∧ k < f + m then some v else T[k]? := by
  unfold upd
  by_cases h1 : k < f
  · rw [if_neg (by omega), List.append_assoc, List.getElem?_append_left (by simp; omega), List.getElem?_take_of_lt h1]
  · by_cases h2 : k < f + m
    · rw [if_pos (by omega), List.getElem?_append_left (by simp; omega), List.getElem?_append_right (by simp; omega), List.getElem?_replicate, if_pos (by simp; omega)]
    · rw [if_neg (by omega), List.getElem?_append_right (by simp; omega), List.getElem?_drop]
      congr 1; simp; omega
theorem allIs_iff {T : List Bool} {v : Bool} {f m : Nat} (h : f + m ≤ T.length) : allIs T v f m = true ↔ ∀ k, f ≤ k → k < f + m → T[k]? = some v := by
  unfold allIs
  rw [List.all_eq_true]
  constructor
  · intro H k h1 h2
    have hk : k < T.length := by omega
    have hm : T[k] ∈ (T.drop f).take m := by
      rw [List.mem_iff_getElem?]
      refine ⟨k - f, ?_⟩
      rw [List.getElem?_take_of_lt (by omega), List.getElem?_drop, show f + (k - f) = k by omega, List.getElem?_eq_getElem hk]
    have := H _ hm
    rw [List.getElem?_eq_getElem hk]
    simpa using this
  · intro H x hx
    obtain ⟨j, hj⟩ := List.mem_iff_getElem?.1 hx
    have hjm : j < m := by
      rcases Nat.lt_or_ge j m with h' | h'
      · exact h'
      · rw [List.getElem?_eq_none (by simp; omega)] at hj; cases hj
    rw [List.getElem?_take_of_lt hjm, List.getElem?_drop] at hj
    have := H (f + j) (by omega) (by omega)
    rw [hj] at this
    simpa using this
theorem fits_iff {h : Nat} {T : List Bool} {v : Bool} {f m : Int} : fits h T v f m = true ↔ 1 ≤ m ∧ (h : Int) ≤ f ∧ f < T.length ∧ m ≤ T.length - f ∧ ∀ k : Nat, f ≤ k → (k : Int) < f + m → T[k]? = some v := by
  unfold fits
  rw [Bool.and_eq_true, decide_eq_true_eq]
  constructor
  · rintro ⟨⟨h1, h2, h3, h4⟩, h5⟩
    refine ⟨h1, h2, h3, h4, fun k hk1 hk2 => ?_⟩
    exact (allIs_iff (by omega)).1 h5 k (by omega) (by omega)
  · rintro ⟨h1, h2, h3, h4, h5⟩
    exact ⟨⟨h1, h2, h3, h4⟩, (allIs_iff (by omega)).2 fun k hk1 hk2 => h5 k (by omega) (by omega)⟩
theorem setT_length {h : Nat} {T : List Bool} {v : Bool} {f m : Int} : (setT h T v f m).length = T.length := by
  unfold setT
  split
  · next hf =>
    obtain ⟨h1, h2, h3, h4, _⟩ := fits_iff.1 hf
    exact upd_length (by omega)
  · rfl
/-! ### Spans -/
/-- All n cells from i on are free. -/
def Fit (T : List Bool) (i n : Nat) : Prop := ∀ k, i ≤ k → k < i + n → T[k]? = some false
theorem fits_free {h : Nat} {T : List Bool} {i n : Nat} (hn : 1 ≤ n) (hi : h ≤ i) (hF : Fit T i n) : fits h T false i n = true := by
  have h1 := hF (i + n - 1) (by omega) (by omega)
  have h2 := (List.getElem?_eq_some_iff.1 h1).1
  exact fits_iff.2 ⟨by omega, by omega, by omega, by omega, fun k hk1 hk2 => hF k (by omega) (by omega)⟩
theorem free_fits {h : Nat} {T : List Bool} {i n : Nat} (hF : fits h T false i n = true) : 1 ≤ n ∧ h ≤ i ∧ i + n ≤ T.length ∧ Fit T i n := by
  obtain ⟨h1, h2, h3, h4, h5⟩ := fits_iff.1 hF
  exact ⟨by omega, by omega, by omega, fun k hk1 hk2 => h5 k (by omega) (by omega)⟩
theorem drop_cons {T l : List Bool} {b : Bool} {p : Nat} (h : T.drop p = b :: l) : p < T.length ∧ T[p]? = some b ∧ T.drop (p + 1) = l := by
  have hp : p < T.length := by
    rcases Nat.lt_or_ge p T.length with h' | h'
    · exact h'
    · rw [List.drop_eq_nil_of_le h'] at h; cases h
  rw [List.drop_eq_getElem_cons hp] at h
  simp only [List.cons.injEq] at h
  exact ⟨hp, by rw [List.getElem?_eq_getElem hp, h.1], h.2⟩
theorem drop_nil {T : List Bool} {p : Nat} (h : T.drop p = []) : T.length ≤ p := by simpa using h
/-- Every span is free, where it may be. -/
theorem scan_free (T : List Bool) : ∀ (l : List Bool) (f m : Nat), T.drop (f + m) = l → Fit T f m → ∀ x ∈ scan f m l, f ≤ x.1 ∧ 1 ≤ x.2 ∧ Fit T x.1 x.2 := by
  intro l
  induction l with
  | nil =>
    intro f m hl hF x hx
    unfold scan at hx
    split at hx
    · simp at hx; subst hx; exact ⟨Nat.le_refl _, by assumption, hF⟩
    · cases hx
  | cons b l ih =>
    intro f m hl hF x hx
    obtain ⟨hp, hb, hl'⟩ := drop_cons hl
    cases b with
    | false =>
      simp only [scan, Bool.false_eq_true, if_false] at hx
      refine ih f (m + 1) (by rw [← hl']; rfl) (fun k h1 h2 => ?_) x hx
      by_cases e : k = f + m
      · rw [e]; exact hb
      · exact hF k h1 (by omega)
    | true =>
      simp only [scan, if_true, List.mem_append] at hx
      rcases hx with hx | hx
      · split at hx
        · simp at hx; subst hx; exact ⟨Nat.le_refl _, by assumption, hF⟩
        · cases hx
      · obtain ⟨h1, h2⟩ := ih (f + m + 1) 0 (by simpa using hl') (fun k h1 h2 => by omega) x hx
        exact ⟨by omega, h2⟩
/-- The first span that is long enough is where the first fit is. -/
theorem scan_find (T : List Bool) (n : Nat) (hn : 1 ≤ n) : ∀ (l : List Bool) (f m : Nat), T.drop (f + m) = l → Fit T f m →
    match (scan f m l).find? (fun x => decide (n ≤ x.2)) with
    | some x => f ≤ x.1 ∧ n ≤ x.2 ∧ Fit T x.1 n ∧ ∀ i, f ≤ i → i < x.1 → ¬ Fit T i n
    | none => ∀ i, f ≤ i → ¬ Fit T i n := by
  intro l
  induction l with
  | nil =>
    intro f m hl hF
    have hlen := drop_nil hl
    have hno : m < n → ∀ i, f ≤ i → ¬ Fit T i n := fun hm i hi hx => by
      have := (List.getElem?_eq_some_iff.1 (hx (i + n - 1) (by omega) (by omega))).1
      omega
    unfold scan
    by_cases h0 : 0 < m
    · rw [if_pos h0]
      by_cases h1 : n ≤ m
      · simp only [List.find?_cons, h1, decide_true]
        exact ⟨Nat.le_refl _, trivial, fun k hk1 hk2 => hF k hk1 (by omega), fun i h1 h2 => by omega⟩
      · simp only [List.find?_cons, h1, decide_false, List.find?_nil]
        exact hno (by omega)
    · rw [if_neg h0]
      simp only [List.find?_nil]
      exact hno (by omega)
  | cons b l ih =>
    intro f m hl hF
    obtain ⟨hp, hb, hl'⟩ := drop_cons hl
    cases b with
    | false =>
      have := ih f (m + 1) (by rw [← hl']; rfl) (fun k h1 h2 => by
        by_cases e : k = f + m
        · rw [e]; exact hb
        · exact hF k h1 (by omega))
      simpa only [scan, Bool.false_eq_true, if_false] using this
    | true =>
      have hno : m < n → ∀ i, f ≤ i → i ≤ f + m → ¬ Fit T i n := fun hm i hi hi2 hx => by
        have := hx (f + m) (by omega) (by omega)
        rw [hb] at this
        cases this
      have hI := ih (f + m + 1) 0 (by simpa using hl') (fun k h1 h2 => by omega)
      simp only [scan, if_true]
      by_cases h1 : 0 < m ∧ n ≤ m
      · rw [if_pos h1.1]
        simp only [List.cons_append, List.nil_append, List.find?_cons, h1.2, decide_true]
        exact ⟨Nat.le_refl _, trivial, fun k hk1 hk2 => hF k hk1 (by omega), fun i h1 h2 => by omega⟩
      · have hm : m < n := by omega
        have e : ((if 0 < m then [(f, m)] else []) ++ scan (f + m + 1) 0 l).find? (fun x => decide (n ≤ x.2)) = (scan (f + m + 1) 0 l).find? (fun x => decide (n ≤ x.2)) := by
          by_cases h0 : 0 < m
          · rw [if_pos h0]
            have : ¬ n ≤ m := by omega
            simp [this]
          · rw [if_neg h0]; rfl
        rw [e]
        cases hx : (scan (f + m + 1) 0 l).find? (fun x => decide (n ≤ x.2)) with
        | none =>
          rw [hx] at hI
          intro i hi
          by_cases h2 : i ≤ f + m
          · exact hno hm i hi h2
          · exact hI i (by omega)
        | some x =>
          rw [hx] at hI
          obtain ⟨a1, a2, a3, a4⟩ := hI
          refine ⟨by omega, a2, a3, fun i hi1 hi2 => ?_⟩
          by_cases h2 : i ≤ f + m
          · exact hno hm i hi1 h2
          · exact a4 i (by omega) hi2
theorem spans_free {h : Nat} {T : List Bool} {x : Nat × Nat} (hx : x ∈ spans h T) : h ≤ x.1 ∧ 1 ≤ x.2 ∧ Fit T x.1 x.2 := scan_free T _ h 0 rfl (fun k h1 h2 => by omega) x hx
theorem spans_in {h : Nat} {T : List Bool} {x : Nat × Nat} (hx : x ∈ spans h T) : x.1 + x.2 ≤ T.length := by
  obtain ⟨h1, h2, h3⟩ := spans_free hx
  have := (List.getElem?_eq_some_iff.1 (h3 (x.1 + x.2 - 1) (by omega) (by omega))).1
  omega
theorem spans_find (h : Nat) (T : List Bool) (n : Nat) (hn : 1 ≤ n) :
    match (spans h T).find? (fun x => decide (n ≤ x.2)) with
    | some x => h ≤ x.1 ∧ n ≤ x.2 ∧ Fit T x.1 n ∧ ∀ i, h ≤ i → i < x.1 → ¬ Fit T i n
    | none => ∀ i, h ≤ i → ¬ Fit T i n := scan_find T n hn _ h 0 rfl (fun k h1 h2 => by omega)
/-- The room is how many are free. -/
theorem scan_sum : ∀ (l : List Bool) (f m : Nat), ((scan f m l).map (·.2)).sum = m + l.count false
  | [], f, m => by
    unfold scan
    split
    · simp
    · simp; omega
  | b :: l, f, m => by
    cases b with
    | false =>
      simp only [scan, Bool.false_eq_true, if_false]
      rw [scan_sum l f (m + 1)]
      simp; omega
    | true =>
      simp only [scan, if_true]
      rw [List.map_append, List.sum_append, scan_sum l (f + m + 1) 0]
      split
      · simp
      · simp; omega
theorem room_count (h : Nat) (T : List Bool) : room h T = (T.drop h).count false := by
  unfold room spans; rw [scan_sum]; omega
theorem foldl_max {α : Type} (p : α → Nat) : ∀ (l : List α) (a : Nat), l.foldl (fun a x => max a (p x)) a = max a (l.foldl (fun a x => max a (p x)) 0)
  | [], a => by simp
  | x :: l, a => by
    simp only [List.foldl_cons]
    rw [foldl_max p l (max a (p x)), foldl_max p l (max 0 (p x))]
    omega
/-- Something fits just if it is no longer than the longest. -/
theorem largest_find (h : Nat) (T : List Bool) (n : Int) : ((spans h T).find? (fun x => decide (n ≤ x.2))).isSome = true ↔ (n ≤ largest h T ∧ (1 ≤ n ∨ spans h T ≠ [])) := by
  unfold largest
  generalize spans h T = l
  induction l with
  | nil => simp; omega
  | cons x l ih =>
    simp only [List.foldl_cons, List.find?_cons]
    rw [foldl_max (fun x : Nat × Nat => x.2)]
    by_cases hx : n ≤ x.2
    · simp only [hx, decide_true, Option.isSome_some, true_iff]
      exact ⟨by omega, .inr (by simp)⟩
    · simp only [hx, decide_false]
      rw [ih]
      constructor
      · rintro ⟨h1, h2⟩; exact ⟨by omega, .inr (by simp)⟩
      · rintro ⟨h1, h2⟩; exact ⟨by omega, .inl (by omega)⟩
/-! ### The reference's spans -/
def rstep (L : List (Nat × Nat)) (i : Nat) : List (Nat × Nat) :=
  match L.getLast? with
  | some x => if x.1 + x.2 = i then L.dropLast ++ [(x.1, x.2 + 1)] else L ++ [(i, 1)]
  | none => L ++ [(i, 1)]
def rspans (L : List (Nat × Nat)) (i : Nat) : List Bool → List (Nat × Nat)
  | [] => L
  | b :: l => rspans (if b then L else rstep L i) (i + 1) l
theorem rspans_scan : ∀ (l : List Bool) (D : List (Nat × Nat)) (f m : Nat), (∀ x, D.getLast? = some x → x.1 + x.2 < f) →
    rspans (D ++ (if 0 < m then [(f, m)] else [])) (f + m) l = D ++ scan f m l
  | [], D, f, m, hD => by simp [rspans, scan]
  | b :: l, D, f, m, hD => by
    cases b with
    | true =>
      simp only [rspans, if_true, scan]
      have := rspans_scan l (D ++ (if 0 < m then [(f, m)] else [])) (f + m + 1) 0 (fun x hx => by
        by_cases h0 : 0 < m
        · rw [if_pos h0] at hx; simp at hx; subst hx; simp
        · rw [if_neg h0, List.append_nil] at hx; have := hD x hx; omega)
      simp only [Nat.lt_irrefl, if_false, List.append_nil, Nat.add_zero] at this
      rw [this, List.append_assoc]
    | false =>
      simp only [rspans, Bool.false_eq_true, if_false, scan]
      have := rspans_scan l D f (m + 1) hD
      rw [if_pos (by omega), show f + (m + 1) = f + m + 1 by omega] at this
      rw [← this]
      congr 1
      by_cases h0 : 0 < m
      · rw [if_pos h0]
        simp [rstep]
      · rw [if_neg h0, List.append_nil]
        obtain rfl : m = 0 := by omega
        unfold rstep
        cases hx : D.getLast? with
        | none => simp
        | some x =>
          have := hD x hx
          simp only [Nat.add_zero, Nat.zero_add]
          rw [if_neg (by omega)]
theorem rspans_eq (h : Nat) (T : List Bool) : rspans [] h (T.drop h) = spans h T := by
  have := rspans_scan (T.drop h) [] h 0 (fun x hx => by cases hx)
  unfold spans
  simpa using this
end Oc
