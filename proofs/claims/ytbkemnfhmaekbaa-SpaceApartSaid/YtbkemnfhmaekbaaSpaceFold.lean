/- The loops over the free spans: Room, Largest. -/
import Derived.Test.YtbkemnfhmaekbaaSpaceFree
namespace Oc
def sumS (l : List (Nat × Nat)) : Nat := (l.map (·.2)).sum
def maxS (l : List (Nat × Nat)) : Nat := l.foldl (fun a x => max a x.2) 0
end Oc
namespace Go.Proofs.Ytbkemnfhmaekbaa
set_option linter.unusedVariables false
set_option linter.unusedSimpArgs false
open Go.RowKit
attribute [local go_sem] Oper.semAt_some
set_option maxHeartbeats 1000000
theorem fun_room (a b : Int) (h0 : 0 ≤ a) (h1 : a ≤ 100000000) (h2 : 0 ≤ b) (h3 : b ≤ 100000000) (w : World) :
    Calls Try.prog 24 #[.int .i64 a, .int .i64 b] w fun e w' => e = .returned (.int .i64 (a + b)) ∧ w = w' := by
  go_enter Try.func24, Try.ntmps24
  go_wp2
  go_ret
  exact ⟨rfl, rfl⟩
theorem fun_largest (a b : Int) (h0 : 0 ≤ a) (h1 : a ≤ 100000000) (h2 : 0 ≤ b) (h3 : b ≤ 100000000) (w : World) :
    Calls Try.prog 25 #[.int .i64 a, .int .i64 b] w fun e w' => e = .returned (.int .i64 (max a b)) ∧ w = w' := by
  go_enter Try.func25, Try.ntmps25
  go_wp2
  all_goals
    go_ret
    refine ⟨Oc.ret_int ?_, rfl⟩
    omega
theorem sums_le {h : Nat} {T : List Bool} {pre : List (Nat × Nat)} {x : Nat × Nat} (hp : pre ++ [x] <+: Oc.spans h T) : Oc.sumS pre + x.2 ≤ T.length := by
  obtain ⟨r, hr⟩ := hp
  have h1 := Oc.room_count h T
  unfold Oc.room at h1
  rw [← hr] at h1
  simp at h1
  have h2 := List.count_le_length (a := false) (l := T.drop h)
  simp at h2
  unfold Oc.sumS
  omega
theorem max_sum : ∀ l, Oc.maxS l ≤ Oc.sumS l := by
  intro l
  unfold Oc.maxS Oc.sumS
  induction l with
  | nil => simp
  | cons x l ih =>
    simp only [List.foldl_cons, List.map_cons, List.sum_cons]
    rw [Oc.foldl_max (fun x : Nat × Nat => x.2)]
    omega
theorem sum_snoc (l : List (Nat × Nat)) (x : Nat × Nat) : ((Oc.sumS (l ++ [x]) : Nat) : Int) = (Oc.sumS l : Nat) + (x.2 : Nat) := by simp [Oc.sumS]
theorem max_snoc (l : List (Nat × Nat)) (x : Nat × Nat) : ((Oc.maxS (l ++ [x]) : Nat) : Int) = max ((Oc.maxS l : Nat) : Int) (x.2 : Nat) := by simp [Oc.maxS]; omega
theorem kps_put {n₀ Bc B : Nat} (h1 : n₀ ≤ B) (h2 : Bc < B) (W : World) (l : Nat) (o : Obj) (hl : B ≤ l) (hw : l < W.heap.size) : KpS n₀ Bc W (W.putObj l o) :=
  ⟨(Below.refl n₀ W).grown (grownBy_putObj' W l o) (by omega) (fun k e => by cases e; omega), (grownBy_putObj' W l o).block Bc (by omega) (by simp; omega), by simp⟩
theorem kps_trans {n₀ Bc : Nat} {A B C : World} (h : KpS n₀ Bc A B) (k : KpS n₀ Bc B C) : KpS n₀ Bc A C := ⟨h.1.trans k.1, k.2.1.trans h.2.1, Nat.le_trans h.2.2 k.2.2⟩
theorem kps_grown {n₀ Bc : Nat} {A B : World} {row : Option Nat} (h : A.grownBy B row) (h1 : n₀ ≤ A.heap.size) (h2 : Bc < A.heap.size) (hr : ∀ r, row = some r → n₀ ≤ r ∧ r ≠ Bc) : KpS n₀ Bc A B :=
  ⟨(Below.refl n₀ A).grown h h1 (fun k e => (hr k e).1), h.block Bc h2 (fun e => (hr Bc e.symm).2 rfl), h.size⟩
theorem fold_room (b g h : Nat) (T : List Bool) (w : World) (hS : Oc.Sp 48 4 w b g h T) :
    Calls Try.prog 23 #[.pointer (some ⟨b, 0, none⟩), .func (.func 24) #[] #[]] w fun e w' => e = .returned (.int .i64 (Oc.sumS (Oc.spans h T))) ∧ Below w.heap.size w w' := by
  refine (callsIn_wide (n := 10)).1 ?_
  refine callsIn_of_wp_marks Try.func23 rfl trivial ?_ rfl
  simp only [Try.ntmps23, List.size_toArray, List.length_cons, List.length_nil, Nat.reduceAdd, Nat.reduceSub, Array.replicate_succ, Array.replicate_zero, List.push_toArray, List.append_toArray, List.nil_append, List.cons_append]
  obtain ⟨_, _, hbl, hgl⟩ := hS.cells
  have hsz := hS.sz
  gi_wp2_with (refine ⟨trivial, ?_⟩; gi_at_call 26; refine (callsIn_wide.2 (free_any _ _)).mono ?_; rintro e w' ⟨rfl, rfl⟩)
  obtain ⟨W0, hW0⟩ : ∃ W0, W0 = ((w.alloc (.cells #[.func (.func 24) #[] #[]] 52)).alloc (.cells #[.int .i64 0] 3)).alloc (.cells #[.pointer (some ⟨b, 0, none⟩)] 23) := ⟨_, rfl⟩
  have hg0 : w.grownBy W0 none := by rw [hW0]; exact Oc.only_alloc (Oc.only_alloc (Oc.only_alloc (Oc.only_refl _ _) _) _) _
  have hz0 : W0.heap.size = w.heap.size + 3 := by rw [hW0]; simp
  have b0 : Boxed W0 w.heap.size 52 (.func (.func 24) #[] #[]) := by rw [hW0]; exact ((Boxed.new w _ _).alloc _).alloc _
  have b1 : Boxed W0 (w.heap.size + 1) 3 (.int .i64 0) := by rw [hW0]; have := (Boxed.new (w.alloc (.cells #[.func (.func 24) #[] #[]] 52)) 3 (.int .i64 0)).alloc (.cells #[.pointer (some ⟨b, 0, none⟩)] 23); simpa using this
  have b2 : Boxed W0 (w.heap.size + 2) 23 (.pointer (some ⟨b, 0, none⟩)) := by rw [hW0]; have := Boxed.new ((w.alloc (.cells #[.func (.func 24) #[] #[]] 52)).alloc (.cells #[.int .i64 0] 3)) 23 (.pointer (some ⟨b, 0, none⟩)); simpa using this
  rw [← hW0]
  clear hW0
  have hz0' := Nat.le_of_eq hz0
  have Hz0 := Lib.hid hz0
  refine Oc.wpIn_seqBox rfl (by omega) (gf := 29) (lb := #[.pointer (some ⟨w.heap.size + 2, 0, none⟩)]) rfl trivial (enters_of Try.func29 (by kernel_rfl) rfl)
    (free_stops Fence.wide 9 trivial rfl (by omega) w.heap.size (w.heap.size + 2) b g h T W0 b2 (hS.kept hg0 (by simp) (by simp)) hbl hgl (by omega))
    (fun h k => kps_trans h k) (fun W l o hl hw => kps_put (B := W0.heap.size) (by omega) (by omega) W l o hl hw) (Below.refl _ _) (fun _ => rfl)
    (fun pre W => (Boxed W (w.heap.size + 1) 3 (.int .i64 (Oc.sumS pre)) ∧ Boxed W w.heap.size 52 (.func (.func 24) #[] #[])) ∧ (Below w.heap.size w W ∧ w.heap.size ≤ W.heap.size))
    (fun _ _ _ => False)
    (Oc.Minds.and (Oc.Minds.and (Oc.Minds.boxed (.inl (by omega)) _) (Oc.Minds.boxed (.inl (by omega)) _)) (Oc.Minds.of_below (by omega)))
    (fun _ => Oc.Minds.none)
    ⟨⟨b1, b0⟩, (Below.refl _ w).grown hg0 (Nat.le_refl _) (fun k e => nomatch e), hg0.size⟩
    (fun x a' W => ∃ bx, W0.heap.size + 2 < bx ∧ W.heap[bx]? = some (.cells #[.int .i64 x.1, .int .i64 x.2] 34 (0, 0)) ∧ a' = { tmps := #[.pointer (some ⟨b, 0, none⟩), .func (.func 24) #[] #[], undef, .pointer (some ⟨w.heap.size, 0, none⟩), .int .i64 0, .pointer (some ⟨w.heap.size + 1, 0, none⟩), .pointer (some ⟨bx, 0, none⟩), .pointer (some ⟨b, 0, none⟩), .func (.func 29) #[] #[.pointer (some ⟨w.heap.size + 1 + 1, 0, none⟩)], .agg #[.int .i64 x.1, .int .i64 x.2], undef, undef, undef, undef, undef, undef], defers := [] })
    (fun x a' s W W' row hs hg hr => by obtain ⟨bx, h1, h2, h3⟩ := hs; exact ⟨bx, h1, (hg.block bx (Array.getElem?_eq_some_iff.1 h2).1 (fun e => by have := hr bx e.symm; omega)).trans h2, h3⟩)
    ?assign ?body ?done ?stop
  case assign =>
    intro l pre x W K hI hz hK
    simp only [encS]
    gi_wp2
    have hg := World.grownBy_alloc W (.cells #[.int .i64 x.1, .int .i64 x.2] 34) none
    obtain ⟨⟨h1, h2⟩, h3, h4⟩ := hI
    exact hK _ _ (Oc.Lie.grown hg (fun r e => nomatch e)) (kps_grown hg h4 (by omega) (fun r e => nomatch e)) ⟨⟨h1.alloc _, h2.alloc _⟩, h3.grown hg h4 (fun k e => nomatch e), by simp; omega⟩ ⟨W.heap.size, hz, heap_alloc_new W _, rfl⟩
  case body =>
    rintro l pre x a' W ⟨⟨h1, h2⟩, h3, h4⟩ ⟨bx, hbx, hx, rfl⟩ hz hsp
    have hsum := sums_le hsp
    have hmax := max_sum pre
    have c1 := h1.cell
    have f1 := h1.frozen
    have c2 := h2.cell
    have x1 := cell_of_row W bx 1 _ _ _ hx
    simp at x1
    gi_wp2_with (refine ⟨trivial, ?_⟩; gi_at_call 24; refine (CallsIn.inRound l (callsIn_wide.2 (fun_room _ _ (by omega) (by omega) (by omega) (by omega) _))).mono ?_; rintro e w' ⟨rfl, rfl⟩)
    have hset := h1.set (.int .i64 (Oc.sumS (pre ++ [x])))
    rw [sum_snoc] at hset
    have hg := Oc.only_setCell (Oc.only_refl W (some (w.heap.size + 1))) (p := ⟨w.heap.size + 1, 0, none⟩) (.inl rfl) (.int .i64 (Oc.sumS (pre ++ [x])))
    rw [sum_snoc] at hg
    refine ⟨Oc.Lie.grown hg (fun r e => by cases e; omega), kps_grown hg h4 (by omega) (fun r e => by cases e; omega), ⟨?_, h2.kept hg (by simp)⟩, h3.grown hg h4 (fun k e => by cases e; omega), Nat.le_trans h4 hg.size⟩
    rw [sum_snoc]
    exact hset
  case done =>
    rintro xs W rfl ⟨⟨h1, h2⟩, h3, h4⟩ hD
    have c1 := h1.cell
    gi_wp2
    refine ⟨by simp, .inl ⟨_, _, rfl, run_takeDeferred hD, ?_⟩⟩
    have hDl := (Array.getElem?_eq_some_iff.1 hD).1
    exact ⟨_, results_tmp rfl _ _ _, rfl, h3.grown (grownBy_putObj' W _ _) h4 (fun k e => by cases e; omega)⟩
  case stop =>
    rintro c pre W _ h _
    exact h.elim
theorem fold_largest (b g h : Nat) (T : List Bool) (w : World) (hS : Oc.Sp 48 4 w b g h T) :
    Calls Try.prog 23 #[.pointer (some ⟨b, 0, none⟩), .func (.func 25) #[] #[]] w fun e w' => e = .returned (.int .i64 (Oc.maxS (Oc.spans h T))) ∧ Below w.heap.size w w' := by
  refine (callsIn_wide (n := 10)).1 ?_
  refine callsIn_of_wp_marks Try.func23 rfl trivial ?_ rfl
  simp only [Try.ntmps23, List.size_toArray, List.length_cons, List.length_nil, Nat.reduceAdd, Nat.reduceSub, Array.replicate_succ, Array.replicate_zero, List.push_toArray, List.append_toArray, List.nil_append, List.cons_append]
  obtain ⟨_, _, hbl, hgl⟩ := hS.cells
  have hsz := hS.sz
  gi_wp2_with (refine ⟨trivial, ?_⟩; gi_at_call 26; refine (callsIn_wide.2 (free_any _ _)).mono ?_; rintro e w' ⟨rfl, rfl⟩)
  obtain ⟨W0, hW0⟩ : ∃ W0, W0 = ((w.alloc (.cells #[.func (.func 25) #[] #[]] 52)).alloc (.cells #[.int .i64 0] 3)).alloc (.cells #[.pointer (some ⟨b, 0, none⟩)] 23) := ⟨_, rfl⟩
  have hg0 : w.grownBy W0 none := by rw [hW0]; exact Oc.only_alloc (Oc.only_alloc (Oc.only_alloc (Oc.only_refl _ _) _) _) _
  have hz0 : W0.heap.size = w.heap.size + 3 := by rw [hW0]; simp
  have b0 : Boxed W0 w.heap.size 52 (.func (.func 25) #[] #[]) := by rw [hW0]; exact ((Boxed.new w _ _).alloc _).alloc _
  have b1 : Boxed W0 (w.heap.size + 1) 3 (.int .i64 0) := by rw [hW0]; have := (Boxed.new (w.alloc (.cells #[.func (.func 25) #[] #[]] 52)) 3 (.int .i64 0)).alloc (.cells #[.pointer (some ⟨b, 0, none⟩)] 23); simpa using this
  have b2 : Boxed W0 (w.heap.size + 2) 23 (.pointer (some ⟨b, 0, none⟩)) := by rw [hW0]; have := Boxed.new ((w.alloc (.cells #[.func (.func 25) #[] #[]] 52)).alloc (.cells #[.int .i64 0] 3)) 23 (.pointer (some ⟨b, 0, none⟩)); simpa using this
  rw [← hW0]
  clear hW0
  have hz0' := Nat.le_of_eq hz0
  have Hz0 := Lib.hid hz0
  refine Oc.wpIn_seqBox rfl (by omega) (gf := 29) (lb := #[.pointer (some ⟨w.heap.size + 2, 0, none⟩)]) rfl trivial (enters_of Try.func29 (by kernel_rfl) rfl)
    (free_stops Fence.wide 9 trivial rfl (by omega) w.heap.size (w.heap.size + 2) b g h T W0 b2 (hS.kept hg0 (by simp) (by simp)) hbl hgl (by omega))
    (fun h k => kps_trans h k) (fun W l o hl hw => kps_put (B := W0.heap.size) (by omega) (by omega) W l o hl hw) (Below.refl _ _) (fun _ => rfl)
    (fun pre W => (Boxed W (w.heap.size + 1) 3 (.int .i64 (Oc.maxS pre)) ∧ Boxed W w.heap.size 52 (.func (.func 25) #[] #[])) ∧ (Below w.heap.size w W ∧ w.heap.size ≤ W.heap.size))
    (fun _ _ _ => False)
    (Oc.Minds.and (Oc.Minds.and (Oc.Minds.boxed (.inl (by omega)) _) (Oc.Minds.boxed (.inl (by omega)) _)) (Oc.Minds.of_below (by omega)))
    (fun _ => Oc.Minds.none)
    ⟨⟨b1, b0⟩, (Below.refl _ w).grown hg0 (Nat.le_refl _) (fun k e => nomatch e), hg0.size⟩
    (fun x a' W => ∃ bx, W0.heap.size + 2 < bx ∧ W.heap[bx]? = some (.cells #[.int .i64 x.1, .int .i64 x.2] 34 (0, 0)) ∧ a' = { tmps := #[.pointer (some ⟨b, 0, none⟩), .func (.func 25) #[] #[], undef, .pointer (some ⟨w.heap.size, 0, none⟩), .int .i64 0, .pointer (some ⟨w.heap.size + 1, 0, none⟩), .pointer (some ⟨bx, 0, none⟩), .pointer (some ⟨b, 0, none⟩), .func (.func 29) #[] #[.pointer (some ⟨w.heap.size + 1 + 1, 0, none⟩)], .agg #[.int .i64 x.1, .int .i64 x.2], undef, undef, undef, undef, undef, undef], defers := [] })
    (fun x a' s W W' row hs hg hr => by obtain ⟨bx, h1, h2, h3⟩ := hs; exact ⟨bx, h1, (hg.block bx (Array.getElem?_eq_some_iff.1 h2).1 (fun e => by have := hr bx e.symm; omega)).trans h2, h3⟩)
    ?assign ?body ?done ?stop
  case assign =>
    intro l pre x W K hI hz hK
    simp only [encS]
    gi_wp2
    have hg := World.grownBy_alloc W (.cells #[.int .i64 x.1, .int .i64 x.2] 34) none
    obtain ⟨⟨h1, h2⟩, h3, h4⟩ := hI
    exact hK _ _ (Oc.Lie.grown hg (fun r e => nomatch e)) (kps_grown hg h4 (by omega) (fun r e => nomatch e)) ⟨⟨h1.alloc _, h2.alloc _⟩, h3.grown hg h4 (fun k e => nomatch e), by simp; omega⟩ ⟨W.heap.size, hz, heap_alloc_new W _, rfl⟩
  case body =>
    rintro l pre x a' W ⟨⟨h1, h2⟩, h3, h4⟩ ⟨bx, hbx, hx, rfl⟩ hz hsp
    have hsum := sums_le hsp
    have hmax := max_sum pre
    have c1 := h1.cell
    have f1 := h1.frozen
    have c2 := h2.cell
    have x1 := cell_of_row W bx 1 _ _ _ hx
    simp at x1
    gi_wp2_with (refine ⟨trivial, ?_⟩; gi_at_call 25; refine (CallsIn.inRound l (callsIn_wide.2 (fun_largest _ _ (by omega) (by omega) (by omega) (by omega) _))).mono ?_; rintro e w' ⟨rfl, rfl⟩)
    have hset := h1.set (.int .i64 (Oc.maxS (pre ++ [x])))
    rw [max_snoc] at hset
    have hg := Oc.only_setCell (Oc.only_refl W (some (w.heap.size + 1))) (p := ⟨w.heap.size + 1, 0, none⟩) (.inl rfl) (.int .i64 (Oc.maxS (pre ++ [x])))
    rw [max_snoc] at hg
    refine ⟨Oc.Lie.grown hg (fun r e => by cases e; omega), kps_grown hg h4 (by omega) (fun r e => by cases e; omega), ⟨?_, h2.kept hg (by simp)⟩, h3.grown hg h4 (fun k e => by cases e; omega), Nat.le_trans h4 hg.size⟩
    rw [max_snoc]
    exact hset
  case done =>
    rintro xs W rfl ⟨⟨h1, h2⟩, h3, h4⟩ hD
    have c1 := h1.cell
    gi_wp2
    refine ⟨by simp, .inl ⟨_, _, rfl, run_takeDeferred hD, ?_⟩⟩
    have hDl := (Array.getElem?_eq_some_iff.1 hD).1
    exact ⟨_, results_tmp rfl _ _ _, rfl, h3.grown (grownBy_putObj' W _ _) h4 (fun k e => by cases e; omega)⟩
  case stop =>
    rintro c pre W _ h _
    exact h.elim
theorem room_any (b g h : Nat) (T : List Bool) (w : World) (hS : Oc.Sp 48 4 w b g h T) :
    Calls Try.prog 11 #[.pointer (some ⟨b, 0, none⟩)] w fun e w' => e = .returned (.int .i64 (Oc.sumS (Oc.spans h T))) ∧ Below w.heap.size w w' := by
  go_enter Try.func11, Try.ntmps11
  go_wp2_with (go_at_call 23; refine (fold_room _ _ _ _ _ hS).mono ?_; rintro e w' ⟨rfl, hb⟩)
  go_ret
  exact ⟨rfl, hb⟩
theorem largest_any (b g h : Nat) (T : List Bool) (w : World) (hS : Oc.Sp 48 4 w b g h T) :
    Calls Try.prog 13 #[.pointer (some ⟨b, 0, none⟩)] w fun e w' => e = .returned (.int .i64 (Oc.maxS (Oc.spans h T))) ∧ Below w.heap.size w w' := by
  go_enter Try.func13, Try.ntmps13
  go_wp2_with (go_at_call 23; refine (fold_largest _ _ _ _ _ hS).mono ?_; rintro e w' ⟨rfl, hb⟩)
  go_ret
  exact ⟨rfl, hb⟩
end Go.Proofs.Ytbkemnfhmaekbaa
