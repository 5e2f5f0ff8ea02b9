/- The loops over the free spans: Spans, Take. -/
import Derived.Test.YtbkemnfhmaekbaaSpaceFold
import Derived.Test.YtbkemnfhmaekbaaHeld
import Derived.Deep.AppendLies
namespace Oc
open Go
def cellsS (l : List (Nat × Nat)) : List Value := l.flatMap fun x => [.int .i64 x.1, .int .i64 x.2]
theorem cellsS_snoc (l : List (Nat × Nat)) (x : Nat × Nat) : cellsS (l ++ [x]) = cellsS l ++ [.int .i64 x.1, .int .i64 x.2] := by simp [cellsS]
end Oc
namespace Go.Proofs.Ytbkemnfhmaekbaa
set_option linter.unusedVariables false
set_option linter.unusedSimpArgs false
open Go.RowKit
attribute [local go_sem] Oper.semAt_some
set_option maxHeartbeats 1000000
theorem len_sum : ∀ (l : List (Nat × Nat)), (∀ x ∈ l, 1 ≤ x.2) → l.length ≤ (l.map (·.2)).sum
  | [], _ => by simp
  | x :: l, h => by
    have h1 := len_sum l fun y hy => h y (List.mem_cons_of_mem _ hy)
    have h2 := h x (List.mem_cons_self ..)
    simp only [List.length_cons, List.map_cons, List.sum_cons]; omega
theorem len_spans (h : Nat) (T : List Bool) : (Oc.spans h T).length ≤ T.length := by
  have h1 := len_sum (Oc.spans h T) fun x hx => (Oc.spans_free hx).2.1
  have h2 := Oc.room_count h T
  unfold Oc.room at h2
  have h3 := List.count_le_length (a := false) (l := T.drop h)
  simp at h3
  omega
theorem KpS.trans' {n₀ Bc : Nat} {A B C : World} (h : KpS n₀ Bc A B) (k : KpS n₀ Bc B C) : KpS n₀ Bc A C := kps_trans h k
theorem infoSpan : (Try.prog.info? 34).map (fun i => (i.zero, i.size, i.bytes)) = some (some (.agg #[.int .i64 0, .int .i64 0]), 2, 16) := by kernel_rfl
theorem spans_any (b g h : Nat) (T : List Bool) (w : World) (hS : Oc.Sp 48 4 w b g h T) :
    Calls Try.prog 20 #[.pointer (some ⟨b, 0, none⟩)] w fun e w' => ∃ v, e = .returned v ∧ w'.ownsRow w.heap.size 34 2 v (Oc.spans h T).length (Oc.cellsS (Oc.spans h T)) ∧ Below w.heap.size w w' := by
  refine (callsIn_wide (n := 10)).1 ?_
  refine callsIn_of_wp_marks Try.func20 rfl trivial ?_ rfl
  simp only [Try.ntmps20, List.size_toArray, List.length_cons, List.length_nil, Nat.reduceAdd, Nat.reduceSub, Array.replicate_succ, Array.replicate_zero, List.push_toArray, List.append_toArray, List.nil_append, List.cons_append]
  obtain ⟨_, _, hbl, hgl⟩ := hS.cells
  have hsz := hS.sz
  obtain ⟨i0, hi, y0, y1, y2⟩ := info_parts infoSpan
  gi_wp2_with (refine ⟨trivial, ?_⟩; gi_at_call 26; refine (callsIn_wide.2 (free_any _ _)).mono ?_; rintro e w' ⟨rfl, rfl⟩)
  obtain ⟨W0, hW0⟩ : ∃ W0, W0 = (w.alloc (.cells #[.slice none 0 0] 40)).alloc (.cells #[.pointer (some ⟨b, 0, none⟩)] 23) := ⟨_, rfl⟩
  have hg0 : w.grownBy W0 none := by rw [hW0]; exact Oc.only_alloc (Oc.only_alloc (Oc.only_refl _ _) _) _
  have hz0 : W0.heap.size = w.heap.size + 2 := by rw [hW0]; simp
  have b0 : Boxed W0 w.heap.size 40 (.slice none 0 0) := by rw [hW0]; exact (Boxed.new w _ _).alloc _
  have b2 : Boxed W0 (w.heap.size + 1) 23 (.pointer (some ⟨b, 0, none⟩)) := by rw [hW0]; have := Boxed.new (w.alloc (.cells #[.slice none 0 0] 40)) 23 (.pointer (some ⟨b, 0, none⟩)); simpa using this
  rw [← hW0]
  clear hW0
  have hz0' := Nat.le_of_eq hz0
  have Hz0 := Lib.hid hz0
  refine Oc.wpIn_seqBox rfl (by omega) (gf := 29) (lb := #[.pointer (some ⟨w.heap.size + 1, 0, none⟩)]) rfl trivial (enters_of Try.func29 (by kernel_rfl) rfl)
    (free_stops Fence.wide 9 trivial rfl (by omega) w.heap.size (w.heap.size + 1) b g h T W0 b2 (hS.kept hg0 (by simp) (by simp)) hbl hgl (by omega))
    (fun h k => kps_trans h k) (fun W l o hl hw => kps_put (B := W0.heap.size) (by omega) (by omega) W l o hl hw) (Below.refl _ _) (fun _ => rfl)
    (fun pre W => (∃ v, Boxed W w.heap.size 40 v ∧ W.ownsRow (W0.heap.size + 3) 34 2 v pre.length (Oc.cellsS pre) ∧ True) ∧ (Below w.heap.size w W ∧ w.heap.size ≤ W.heap.size))
    (fun _ _ _ => False)
    (Oc.Minds.and (Oc.Minds.row (.inl (by omega)) (by omega) _ _ _) (Oc.Minds.of_below (by omega)))
    (fun _ => Oc.Minds.none)
    ⟨⟨_, b0, World.ownsRow_nil _ _ _ _, trivial⟩, (Below.refl _ w).grown hg0 (Nat.le_refl _) (fun k e => nomatch e), hg0.size⟩
    (fun x a' W => ∃ bx, W0.heap.size + 2 < bx ∧ W.heap[bx]? = some (.cells #[.int .i64 x.1, .int .i64 x.2] 34 (0, 0)) ∧ a' = { tmps := #[.pointer (some ⟨b, 0, none⟩), undef, .slice none 0 0, .pointer (some ⟨w.heap.size, 0, none⟩), .pointer (some ⟨bx, 0, none⟩), .pointer (some ⟨b, 0, none⟩), .func (.func 29) #[] #[.pointer (some ⟨w.heap.size + 1, 0, none⟩)], .agg #[.int .i64 x.1, .int .i64 x.2], undef, undef, undef, undef, undef], defers := [] })
    (fun x a' s W W' row hs hg hr => by obtain ⟨bx, h1, h2, h3⟩ := hs; exact ⟨bx, h1, (hg.block bx (Array.getElem?_eq_some_iff.1 h2).1 (fun e => by have := hr bx e.symm; omega)).trans h2, h3⟩)
    ?assign ?body ?done ?stop
  case assign =>
    intro l pre x W K hI hz hK
    simp only [encS]
    gi_wp2
    have hg := World.grownBy_alloc W (.cells #[.int .i64 x.1, .int .i64 x.2] 34) none
    obtain ⟨⟨v, h1, h2, _⟩, h3, h4⟩ := hI
    exact hK _ _ (Oc.Lie.grown hg (fun r e => nomatch e)) (kps_grown hg h4 (by omega) (fun r e => nomatch e)) ⟨⟨v, h1.alloc _, h2.alloc _, trivial⟩, h3.grown hg h4 (fun k e => nomatch e), by simp; omega⟩ ⟨W.heap.size, hz, heap_alloc_new W _, rfl⟩
  case body =>
    rintro l pre x a' W ⟨⟨v, h1, h2, _⟩, h3, h4⟩ ⟨bx, hbx, hx, rfl⟩ hz hsp
    have hsum := sums_le hsp
    have c1 := h1.cell
    have f1 := h1.frozen
    have x0 := cell_of_row W bx 0 _ _ _ hx
    have x1 := cell_of_row W bx 1 _ _ _ hx
    simp at x0 x1
    have hlen : pre.length + 1 ≤ T.length := by
      have h5 := hsp.length_le
      have h6 := len_spans h T
      simp at h5; omega
    gi_wp2_with (gi_at_builtin; refine wpListIn_append_own _ rfl _ _ 40 rfl (W0.heap.size + 3) 34 i0 (.agg #[.int .i64 0, .int .i64 0]) 2 16 Try.underlying40 hi y0 y1 y2 rfl (by decide) _ _ _ rfl (h2.alloc _) ⟨W.heap.size, 0, none⟩ 1 1 [.int .i64 x.1, .int .i64 x.2] rfl rfl (World.news_of_block (heap_alloc_new W _)) (by simp [Value.oneCell']) (by unfold maxLen; omega) (by omega) (by simp; omega) ?_; intro v' w1 hown' hgrow _; obtain ⟨g', cap', rfl⟩ := ownsRow_succ hown'; have hv1 := (h1.alloc (.cells #[.int .i64 x.1, .int .i64 x.2] 34)).kept hgrow (fun e => by have := (Oc.owns_far h2 _ e.symm).1; omega); have hc1 := hv1.cell; have hf1 := hv1.frozen)
    have hgrow' : (W.alloc (.cells #[.int .i64 x.1, .int .i64 x.2] 34)).grownBy w1 v.ownBlock := hgrow
    clear hgrow
    have hfar := Oc.owns_far h2
    have hw1 : W.grownBy w1 v.ownBlock := Oc.only_trans (World.grownBy_alloc W _ _) hgrow'
    obtain ⟨w2, hw2⟩ : ∃ w2, w2 = w1.setCell ⟨w.heap.size, 0, none⟩ (.slice (some ⟨g', 0, none⟩) (pre.length + 1) cap') := ⟨_, rfl⟩
    have hs2 : w1.grownBy w2 (some w.heap.size) := by rw [hw2]; exact Oc.only_setCell (Oc.only_refl _ _) (.inl rfl) _
    have hb2 : Boxed w2 w.heap.size 40 (.slice (some ⟨g', 0, none⟩) (pre.length + 1) cap') := by rw [hw2]; exact hv1.set _
    rw [← hw2]
    have hl1 := hw1.size
    refine ⟨(Oc.Lie.grown hw1 fun r e => .inr (by have := (hfar r e).1; omega)).trans (Oc.Lie.grown hs2 fun r e => by cases e; omega), (kps_grown hw1 h4 (by omega) fun r e => by have := (hfar r e).1; omega).trans' (kps_grown hs2 (by omega) (by omega) fun r e => by cases e; omega), ⟨⟨_, hb2, ?_, trivial⟩, ?_, ?_⟩⟩
    · rw [Oc.cellsS_snoc, List.length_append]
      exact Oc.owns_kept hown' hs2 fun r e e2 => by cases e; have := (Oc.owns_far hown' _ e2).1; omega
    · exact (h3.grown hw1 h4 fun r e => by have := (hfar r e).1; omega).grown hs2 (by omega) fun r e => by cases e; omega
    · have := hs2.size; omega
  case done =>
    rintro xs W rfl ⟨⟨v, h1, h2, _⟩, h3, h4⟩ hD
    have c1 := h1.cell
    gi_wp2
    refine ⟨by simp, .inl ⟨_, _, rfl, run_takeDeferred hD, ?_⟩⟩
    have hDl := (Array.getElem?_eq_some_iff.1 hD).1
    exact ⟨_, results_tmp rfl _ _ _, v, rfl, Oc.owns_base (ownsRow_putObj h2 _ hD rfl) (by omega), h3.grown (grownBy_putObj' W _ _) h4 (fun k e => by cases e; omega)⟩
  case stop =>
    rintro c pre W _ h _
    exact h.elim
end Go.Proofs.Ytbkemnfhmaekbaa
