/- Take: the first span that is long enough. -/
import Derived.Test.YtbkemnfhmaekbaaSpaceSpans
namespace Go.Proofs.Ytbkemnfhmaekbaa
set_option linter.unusedVariables false
set_option linter.unusedSimpArgs false
open Go.RowKit
attribute [local go_sem] Oper.semAt_some
set_option maxHeartbeats 1000000
def TakePost (b g h : Nat) (T : List Bool) (n : Int) (w : World) (e : Ending) (w' : World) : Prop :=
  e = .returned (.tuple #[.int .i64 (Oc.takeN h T n).1, .int .i64 (Oc.takeN h T n).2.1]) ∧ Oc.Sp 48 4 w' b g h (Oc.takeN h T n).2.2 ∧ w.grownBy w' (some g)
theorem take_low (b g h : Nat) (T : List Bool) (n : Int) (hn : n < 1) (w : World) (hS : Oc.Sp 48 4 w b g h T) :
    Calls Try.prog 14 #[.pointer (some ⟨b, 0, none⟩), .int .i64 n] w (TakePost b g h T n w) := by
  have dn : decide (n < 1) = true := by simpa using hn
  go_enter Try.func14, Try.ntmps14
  go_wp2
  have hg : w.grownBy ((((w.alloc (.cells #[.pointer (some ⟨b, 0, none⟩)] 23)).alloc (.cells #[.int .i64 n] 3)).alloc (.cells #[.int .i64 0] 3)).alloc (.cells #[.int .i64 1] 24)) none := Oc.only_alloc (Oc.only_alloc (Oc.only_alloc (Oc.only_alloc (Oc.only_refl _ _) _) _) _) _
  refine bodyPost_ret (v := .tuple #[.int .i64 0, .int .i64 1]) (by simp [results, Try.results14, go_sem]) rfl ?_
  have ht : Oc.takeN h T n = (0, 1, T) := by unfold Oc.takeN; rw [if_pos hn]
  refine ⟨by rw [ht], ?_, hg.but _⟩
  rw [ht]
  exact hS.kept hg (by simp) (by simp)
theorem sp_minds {β : Type} {ty tb b' c' b g h : Nat} {T : List Bool} (h1 : b < b') (h2 : g < b') : Oc.Minds b' c' (fun (_ : β) W => Oc.Sp ty tb W b g h T) := fun s W W' row hs hg hr =>
  hs.kept hg (fun e => by have := hr b e; omega) (fun e => by have := hr g e; omega)
theorem find_pre {l pre : List (Nat × Nat)} {x : Nat × Nat} {p : Nat × Nat → Bool} (hp : pre ++ [x] <+: l) (h1 : ∀ y ∈ pre, p y = false) (h2 : p x = true) : l.find? p = some x := by
  obtain ⟨r, rfl⟩ := hp
  rw [List.append_assoc, List.find?_append]
  have : pre.find? p = none := by
    rw [List.find?_eq_none]
    intro y hy
    rw [h1 y hy]
    simp
  rw [this]
  simp [h2]
theorem spans_ends {h : Nat} {T : List Bool} {x : Nat × Nat} (hx : x ∈ Oc.spans h T) : x.1 + x.2 ≤ T.length := Oc.spans_in hx
def PreLess (n : Int) (pre : List (Nat × Nat)) : Prop := ∀ y ∈ pre, decide (n ≤ (y.2 : Nat)) = false
theorem preLess_snoc {n : Int} {pre : List (Nat × Nat)} {x : Nat × Nat} (h : PreLess n pre) (hx : decide (n ≤ ((x.2 : Nat) : Int)) = false) : PreLess n (pre ++ [x]) := fun y hy => by
  rcases List.mem_append.1 hy with hy | hy
  · exact h y hy
  · obtain rfl := List.mem_singleton.1 hy; exact hx
theorem take_high (b g h : Nat) (T : List Bool) (n : Int) (hn : 1 ≤ n) (hn2 : Oc.I n) (w : World) (hS : Oc.Sp 48 4 w b g h T) :
    Calls Try.prog 14 #[.pointer (some ⟨b, 0, none⟩), .int .i64 n] w (TakePost b g h T n w) := by
  have dn : decide (n < 1) = false := by simp; omega
  refine (callsIn_wide (n := 10)).1 ?_
  refine callsIn_of_wp_marks Try.func14 rfl trivial ?_ rfl
  simp only [Try.ntmps14, List.size_toArray, List.length_cons, List.length_nil, Nat.reduceAdd, Nat.reduceSub, Array.replicate_succ, Array.replicate_zero, List.push_toArray, List.append_toArray, List.nil_append, List.cons_append]
  obtain ⟨_, _, hbl, hgl⟩ := hS.cells
  have hsz := hS.sz
  gi_wp2_with (refine ⟨trivial, ?_⟩; gi_at_call 26; refine (callsIn_wide.2 (free_any _ _)).mono ?_; rintro e w' ⟨rfl, rfl⟩)
  obtain ⟨W0, hW0⟩ : ∃ W0, W0 = ((((w.alloc (.cells #[.pointer (some ⟨b, 0, none⟩)] 23)).alloc (.cells #[.int .i64 n] 3)).alloc (.cells #[.int .i64 0] 3)).alloc (.cells #[.int .i64 0] 24)).alloc (.cells #[.pointer (some ⟨b, 0, none⟩)] 23) := ⟨_, rfl⟩
  have hg0 : w.grownBy W0 none := by rw [hW0]; exact Oc.only_alloc (Oc.only_alloc (Oc.only_alloc (Oc.only_alloc (Oc.only_alloc (Oc.only_refl _ _) _) _) _) _) _
  have hz0 : W0.heap.size = w.heap.size + 5 := by rw [hW0]; simp
  have bx0 : Boxed W0 w.heap.size 23 (.pointer (some ⟨b, 0, none⟩)) := by rw [hW0]; exact ((((Boxed.new w _ _).alloc _).alloc _).alloc _).alloc _
  have bx1 : Boxed W0 (w.heap.size + 1) 3 (.int .i64 n) := by
    rw [hW0]
    have := ((((Boxed.new (w.alloc (.cells #[.pointer (some ⟨b, 0, none⟩)] 23)) 3 (.int .i64 n)).alloc (.cells #[.int .i64 0] 3)).alloc (.cells #[.int .i64 0] 24)).alloc (.cells #[.pointer (some ⟨b, 0, none⟩)] 23))
    simpa using this
  have bx2 : Boxed W0 (w.heap.size + 2) 3 (.int .i64 0) := by
    rw [hW0]
    have := (((Boxed.new ((w.alloc (.cells #[.pointer (some ⟨b, 0, none⟩)] 23)).alloc (.cells #[.int .i64 n] 3)) 3 (.int .i64 0)).alloc (.cells #[.int .i64 0] 24)).alloc (.cells #[.pointer (some ⟨b, 0, none⟩)] 23))
    simpa using this
  have bx3 : Boxed W0 (w.heap.size + 3) 24 (.int .i64 0) := by
    rw [hW0]
    have := ((Boxed.new (((w.alloc (.cells #[.pointer (some ⟨b, 0, none⟩)] 23)).alloc (.cells #[.int .i64 n] 3)).alloc (.cells #[.int .i64 0] 3)) 24 (.int .i64 0)).alloc (.cells #[.pointer (some ⟨b, 0, none⟩)] 23))
    simpa using this
  have bx4 : Boxed W0 (w.heap.size + 4) 23 (.pointer (some ⟨b, 0, none⟩)) := by
    rw [hW0]
    have := Boxed.new ((((w.alloc (.cells #[.pointer (some ⟨b, 0, none⟩)] 23)).alloc (.cells #[.int .i64 n] 3)).alloc (.cells #[.int .i64 0] 3)).alloc (.cells #[.int .i64 0] 24)) 23 (.pointer (some ⟨b, 0, none⟩))
    simpa using this
  rw [← hW0]
  clear hW0
  have hz0' := Nat.le_of_eq hz0
  have Hz0 := Lib.hid hz0
  refine Oc.wpIn_seqBox rfl (by omega) (gf := 29) (lb := #[.pointer (some ⟨w.heap.size + 4, 0, none⟩)]) rfl trivial (enters_of Try.func29 (by kernel_rfl) rfl)
    (free_stops Fence.wide 9 trivial rfl (by omega) w.heap.size (w.heap.size + 4) b g h T W0 bx4 (hS.kept hg0 (by simp) (by simp)) hbl hgl (by omega))
    (fun h k => kps_trans h k) (fun W l o hl hw => kps_put (B := W0.heap.size) (by omega) (by omega) W l o hl hw) (Below.refl _ _) (fun _ => rfl)
    (fun pre W => (((Boxed W w.heap.size 23 (.pointer (some ⟨b, 0, none⟩)) ∧ Boxed W (w.heap.size + 1) 3 (.int .i64 n)) ∧ (Boxed W (w.heap.size + 2) 3 (.int .i64 0) ∧ Boxed W (w.heap.size + 3) 24 (.int .i64 0))) ∧ (Oc.Sp 48 4 W b g h T ∧ w.grownBy W none)) ∧ PreLess n pre)
    (fun c pre W => (c = .ret ∧ ∃ x, (Oc.spans h T).find? (fun x => decide (n ≤ x.2)) = some x ∧ Boxed W (w.heap.size + 2) 3 (.int .i64 x.1) ∧ Boxed W (w.heap.size + 3) 24 (.int .i64 0) ∧ Oc.Sp 48 4 W b g h (Oc.upd T true x.1 n.toNat) ∧ w.grownBy W (some g)))
    (Oc.Minds.and (Oc.Minds.and (Oc.Minds.and (Oc.Minds.and (Oc.Minds.boxed (.inl (by omega)) _) (Oc.Minds.boxed (.inl (by omega)) _)) (Oc.Minds.and (Oc.Minds.boxed (.inl (by omega)) _) (Oc.Minds.boxed (.inl (by omega)) _))) (Oc.Minds.and (sp_minds (by omega) (by omega)) (Oc.Minds.only (by omega)))) (Oc.Minds.pure _))
    (fun c s W W' row hs hg hr => by
      obtain ⟨h1, x, h2, h3, h4, h5, h6⟩ := hs
      refine ⟨h1, x, h2, h3.kept hg (fun e => by have := hr _ e.symm; omega), h4.kept hg (fun e => by have := hr _ e.symm; omega), h5.kept hg (fun e => by have := hr _ e; omega) (fun e => by have := hr _ e; omega), ?_⟩
      exact Oc.Minds.only (β := Unit) (b := W0.heap.size) (c := W0.heap.size + 2) (by omega) () W W' row h6 hg hr)
    ⟨⟨⟨⟨bx0, bx1⟩, bx2, bx3⟩, hS.kept hg0 (by simp) (by simp), hg0⟩, fun y hy => nomatch hy⟩
    (fun x a' W => ∃ bx, W0.heap.size + 2 < bx ∧ W.heap[bx]? = some (.cells #[.int .i64 x.1, .int .i64 x.2] 34 (0, 0)) ∧ a' = { tmps := #[.pointer (some ⟨b, 0, none⟩), .int .i64 n, .pointer (some ⟨w.heap.size, 0, none⟩), .pointer (some ⟨w.heap.size + 1, 0, none⟩), .pointer (some ⟨w.heap.size + 1 + 1, 0, none⟩), .pointer (some ⟨w.heap.size + 1 + 1 + 1, 0, none⟩), .pointer (some ⟨bx, 0, none⟩), .int .i64 n, .bool false, .pointer (some ⟨b, 0, none⟩), .func (.func 29) #[] #[.pointer (some ⟨w.heap.size + 1 + 1 + 1 + 1, 0, none⟩)], .agg #[.int .i64 x.1, .int .i64 x.2], undef, undef, undef, undef, undef, undef, undef, undef, undef, undef, undef, undef], defers := [] })
    (fun x a' s W W' row hs hg hr => by obtain ⟨bx, h1, h2, h3⟩ := hs; exact ⟨bx, h1, (hg.block bx (Array.getElem?_eq_some_iff.1 h2).1 (fun e => by have := hr bx e.symm; omega)).trans h2, h3⟩)
    ?assign ?body ?done ?stop
  case assign =>
    intro l pre x W K hI hz hK
    simp only [encS]
    gi_wp2
    have hg := World.grownBy_alloc W (.cells #[.int .i64 x.1, .int .i64 x.2] 34) none
    obtain ⟨⟨⟨⟨h1, h2⟩, h3, h4⟩, h5, h6⟩, h7⟩ := hI
    exact hK _ _ (Oc.Lie.grown hg (fun r e => nomatch e)) (kps_grown hg (by omega) (by omega) (fun r e => nomatch e)) ⟨⟨⟨⟨h1.alloc _, h2.alloc _⟩, h3.alloc _, h4.alloc _⟩, h5.kept hg (by simp) (by simp), Oc.only_trans h6 hg⟩, h7⟩ ⟨W.heap.size, hz, heap_alloc_new W _, rfl⟩
  case body =>
    rintro l pre x a' W ⟨⟨⟨⟨h1, h2⟩, h3, h4⟩, h5, h6⟩, h7⟩ ⟨bx, hbx, hx, rfl⟩ hz hsp
    have hsum := sums_le hsp
    have hxs : x ∈ Oc.spans h T := hsp.subset (by simp)
    have c1 := h1.cell
    have c2 := h2.cell
    have x0 := cell_of_row W bx 0 _ _ _ hx
    have x1 := cell_of_row W bx 1 _ _ _ hx
    simp at x0 x1
    by_cases hnx : n ≤ (x.2 : Nat)
    · have dnx : decide (n ≤ ((x.2 : Nat) : Int)) = true := by simpa using hnx
      gi_wp2
      have hfo : Try.prog.follows .mixedOrders = true := by kernel_rfl
      let hSS : World → Prop := fun W' : World => W'.cell? ⟨bx, 0, none⟩ = some (.int .i64 x.1) ∧ W'.cell? ⟨w.heap.size, 0, none⟩ = some (.pointer (some ⟨b, 0, none⟩)) ∧ W'.cell? ⟨w.heap.size + 1, 0, none⟩ = some (.int .i64 n)
      have hS0 : hSS W.drew := ⟨x0, c1, c2⟩
      refine Oc.wpIn_region_T hSS [] hfo (by kernel_rfl) (by rintro ⟨_, _, h⟩; exact h) ?_
      refine Oc.anyT_take (i := 0) (v := .pointer (some ⟨bx, 0, none⟩)) rfl (by kernel_rfl) (fun _ _ _ h => h) hS0 rfl (by rintro w' ⟨q1, q2, q3⟩; go_simp) ?_
      try simp only [Act.put, List.setIfInBounds_toArray, List.set_cons_zero, List.set_cons_succ]
      refine Oc.anyT_take (i := 1) (v := .int .i64 x.1) rfl (by kernel_rfl) (fun _ _ _ h => h) hS0 rfl (by rintro w' ⟨q1, q2, q3⟩; go_simp) ?_
      try simp only [Act.put, List.setIfInBounds_toArray, List.set_cons_zero, List.set_cons_succ]
      refine Oc.anyT_take (i := 2) (v := .pointer (some ⟨b, 0, none⟩)) rfl (by kernel_rfl) (fun _ _ _ h => h) hS0 rfl (by rintro w' ⟨q1, q2, q3⟩; go_simp) ?_
      try simp only [Act.put, List.setIfInBounds_toArray, List.set_cons_zero, List.set_cons_succ]
      refine Oc.anyT_take (i := 3) (v := .pointer (some ⟨bx, 0, none⟩)) rfl (by kernel_rfl) (fun _ _ _ h => h) hS0 rfl (by rintro w' ⟨q1, q2, q3⟩; go_simp) ?_
      try simp only [Act.put, List.setIfInBounds_toArray, List.set_cons_zero, List.set_cons_succ]
      refine Oc.anyT_take (i := 4) (v := .int .i64 x.1) rfl (by kernel_rfl) (fun _ _ _ h => h) hS0 rfl (by rintro w' ⟨q1, q2, q3⟩; go_simp) ?_
      try simp only [Act.put, List.setIfInBounds_toArray, List.set_cons_zero, List.set_cons_succ]
      refine Oc.anyT_take (i := 5) (v := .int .i64 n) rfl (by kernel_rfl) (fun _ _ _ h => h) hS0 rfl (by rintro w' ⟨q1, q2, q3⟩; go_simp) ?_
      try simp only [Act.put, List.setIfInBounds_toArray, List.set_cons_zero, List.set_cons_succ]
      refine Oc.anyT_take (i := 6) (v := .agg #[.int .i64 x.1, .int .i64 n]) rfl (by kernel_rfl) (fun _ _ _ h => h) hS0 rfl (by rintro w' ⟨q1, q2, q3⟩; go_simp) ?_
      try simp only [Act.put, List.setIfInBounds_toArray, List.set_cons_zero, List.set_cons_succ]
      refine Oc.anyT_next (i := 7) rfl (by kernel_rfl) (fun K hK => ?_)
      go_simp
      have hgd : W.grownBy W.drew none := Oc.only_drew (Oc.only_refl W none)
      refine (Mark_any b g h T x.1 n (by unfold Oc.I; have := (spans_ends hxs); omega) hn2 _ (h5.kept hgd (by simp) (by simp))).mono ?_
      rintro e W3 ⟨rfl, hS3, hg3⟩
      have hg3' : W.grownBy W3 (some g) := Oc.only_trans (hgd.but _) hg3
      have hfit : Oc.fits h T false x.1 n = true := by
        obtain ⟨q1, q2, q3⟩ := Oc.spans_free hxs
        have q4 := Oc.spans_in hxs
        obtain ⟨n', rfl⟩ := Int.eq_ofNat_of_zero_le (show 0 ≤ n by omega)
        exact Oc.fits_free (by omega) q1 (fun k k1 k2 => q3 k k1 (by omega))
      have hE : Oc.setE h T true x.1 n = 0 := by unfold Oc.setE; rw [show (!true) = false from rfl, if_pos hfit]
      have hT : Oc.setT h T true x.1 n = Oc.upd T true x.1 n.toNat := by unfold Oc.setT; rw [show (!true) = false from rfl, if_pos hfit]; rfl
      rw [hT] at hS3
      rw [hE]
      have y1 : Boxed W3 _ _ _ := h1.kept hg3' (by simp; omega)
      have y2 : Boxed W3 _ _ _ := h2.kept hg3' (by simp; omega)
      have y3 : Boxed W3 _ _ _ := h3.kept hg3' (by simp; omega)
      have y4 : Boxed W3 _ _ _ := h4.kept hg3' (by simp; omega)
      have yx : W3.heap[bx]? = some _ := (hg3'.block bx (Array.getElem?_eq_some_iff.1 hx).1 (by simp; omega)).trans hx
      have yx0 := cell_of_row W3 bx 0 _ _ _ yx
      simp at yx0
      refine hK _ _ (fun _ => ⟨yx0, y1.cell, y2.cell⟩) ?_
      clear hK K
      try simp only [Act.put, List.setIfInBounds_toArray, List.set_cons_zero, List.set_cons_succ]
      have z3 := y3.cell
      have z3f := y3.frozen
      have z4 := y4.cell
      have z4f := y4.frozen
      refine Oc.anyT_next (i := 8) rfl (by kernel_rfl) (fun K hK => ?_)
      go_simp
      have hg4 : W3.grownBy (W3.setCell ⟨w.heap.size + 1 + 1, 0, none⟩ (.int .i64 x.1)) (some (w.heap.size + 2)) := Oc.only_setCell (Oc.only_refl _ _) (.inl rfl) _
      refine hK _ _ (fun _ => ⟨?_, (Boxed.kept y1 hg4 (by simp)).cell, (Boxed.kept y2 hg4 (by simp)).cell⟩) ?_
      · have := cell_of_row (W3.setCell ⟨w.heap.size + 1 + 1, 0, none⟩ (.int .i64 x.1)) bx 0 _ _ _ ((hg4.block bx (Array.getElem?_eq_some_iff.1 yx).1 (by simp; omega)).trans yx)
        simpa using this
      clear hK K
      refine Oc.anyT_next (i := 9) rfl (by kernel_rfl) (fun K hK => ?_)
      go_simp
      have hg5 : (W3.setCell ⟨w.heap.size + 1 + 1, 0, none⟩ (.int .i64 x.1)).grownBy ((W3.setCell ⟨w.heap.size + 1 + 1, 0, none⟩ (.int .i64 x.1)).setCell ⟨w.heap.size + 1 + 1 + 1, 0, none⟩ (.int .i64 0)) (some (w.heap.size + 3)) := Oc.only_setCell (Oc.only_refl _ _) (.inl rfl) _
      have yx4 := (hg4.block bx (Array.getElem?_eq_some_iff.1 yx).1 (by simp; omega)).trans yx
      refine hK _ _ (fun _ => ⟨?_, (Boxed.kept (Boxed.kept y1 hg4 (by simp)) hg5 (by simp)).cell, (Boxed.kept (Boxed.kept y2 hg4 (by simp)) hg5 (by simp)).cell⟩) ?_
      · have := cell_of_row ((W3.setCell ⟨w.heap.size + 1 + 1, 0, none⟩ (.int .i64 x.1)).setCell ⟨w.heap.size + 1 + 1 + 1, 0, none⟩ (.int .i64 0)) bx 0 _ _ _ ((hg5.block bx (Array.getElem?_eq_some_iff.1 yx4).1 (by simp; omega)).trans yx4)
        simpa using this
      clear hK K
      refine Oc.anyT_done (by kernel_rfl) ?_ _
      gi_wp2
      have k3 : Boxed (W3.setCell ⟨w.heap.size + 1 + 1, 0, none⟩ (.int .i64 x.1)) (w.heap.size + 2) 3 (.int .i64 x.1) := Boxed.set _ y3
      have k4 : Boxed ((W3.setCell ⟨w.heap.size + 1 + 1, 0, none⟩ (.int .i64 x.1)).setCell ⟨w.heap.size + 1 + 1 + 1, 0, none⟩ (.int .i64 0)) (w.heap.size + 3) 24 (.int .i64 0) := Boxed.set _ (Boxed.kept y4 hg4 (by simp))
      refine ⟨((Oc.Lie.grown hg3' fun r e => by cases e; omega).trans (Oc.Lie.grown hg4 fun r e => by cases e; omega)).trans (Oc.Lie.grown hg5 fun r e => by cases e; omega), rfl, x, find_pre hsp h7 dnx, k3.kept hg5 (by simp), k4, ?_, ?_⟩
      · exact (hS3.kept hg4 (by simp; omega) (by simp; omega)).kept hg5 (by simp; omega) (by simp; omega)
      · have q1 : w.grownBy W3 (some g) := Oc.only_trans (h6.but _) hg3'
        exact Oc.only_setCell (Oc.only_setCell q1 (.inr (by simp; omega)) _) (.inr (by simp; omega)) _
    · have dnx : decide (n ≤ ((x.2 : Nat) : Int)) = false := by simpa using hnx
      have h7' := preLess_snoc h7 dnx
      gi_wp2
      exact ⟨Oc.Lie.refl _ _ _, ⟨Below.refl _ _, rfl, Nat.le_refl _⟩, ⟨⟨⟨h1, h2⟩, h3, h4⟩, h5, h6⟩, h7'⟩
  case done =>
    rintro xs W rfl ⟨⟨⟨⟨h1, h2⟩, h3, h4⟩, h5, h6⟩, h7⟩ hD
    have c3 := h3.cell
    have c3f := h3.frozen
    have c4 := h4.cell
    have c4f := h4.frozen
    gi_wp2
    have hs1 : W.grownBy (W.setCell ⟨w.heap.size + 1 + 1, 0, none⟩ (.int .i64 0)) (some (w.heap.size + 2)) := Oc.only_setCell (Oc.only_refl _ _) (.inl rfl) _
    have hs2 : (W.setCell ⟨w.heap.size + 1 + 1, 0, none⟩ (.int .i64 0)).grownBy ((W.setCell ⟨w.heap.size + 1 + 1, 0, none⟩ (.int .i64 0)).setCell ⟨w.heap.size + 1 + 1 + 1, 0, none⟩ (.int .i64 7)) (some (w.heap.size + 3)) := Oc.only_setCell (Oc.only_refl _ _) (.inl rfl) _
    have k3 : Boxed (W.setCell ⟨w.heap.size + 1 + 1, 0, none⟩ (.int .i64 0)) (w.heap.size + 2) 3 (.int .i64 0) := Boxed.set _ h3
    have k4 : Boxed ((W.setCell ⟨w.heap.size + 1 + 1, 0, none⟩ (.int .i64 0)).setCell ⟨w.heap.size + 1 + 1 + 1, 0, none⟩ (.int .i64 7)) (w.heap.size + 3) 24 (.int .i64 7) := Boxed.set _ (Boxed.kept h4 hs1 (by simp))
    replace k3 := k3.kept hs2 (by simp)
    have hSp := (h5.kept hs1 (by simp; omega) (by simp; omega)).kept hs2 (by simp; omega) (by simp; omega)
    have hgw : w.grownBy _ (some g) := Oc.only_setCell (Oc.only_setCell (h6.but (some g)) (p := ⟨w.heap.size + 1 + 1, 0, none⟩) (.inr (by simp; omega)) (.int .i64 0)) (p := ⟨w.heap.size + 1 + 1 + 1, 0, none⟩) (.inr (by simp; omega)) (.int .i64 7)
    have hD2 := (hs2.block _ (by have := (Array.getElem?_eq_some_iff.1 hD).1; simp; omega) (by simp; omega)).trans ((hs1.block _ (Array.getElem?_eq_some_iff.1 hD).1 (by simp; omega)).trans hD)
    generalize ((W.setCell ⟨w.heap.size + 1 + 1, 0, none⟩ (.int .i64 0)).setCell ⟨w.heap.size + 1 + 1 + 1, 0, none⟩ (.int .i64 7)) = W2 at k3 k4 hSp hgw hD2 ⊢
    have ht : Oc.takeN h T n = (0, 7, T) := by
      unfold Oc.takeN
      rw [if_neg (by omega)]
      have : (Oc.spans h T).find? (fun x => decide (n ≤ (x.2 : Int))) = none := by
        rw [List.find?_eq_none]
        intro y hy
        have := h7 y hy
        rw [this]; simp
      rw [this]
    refine ⟨by simp, .inl ⟨_, _, rfl, run_takeDeferred hD2, ?_⟩⟩
    have hp := grownBy_putObj' W2 W0.heap.size (.deferred none)
    have e3 := (k3.kept hp (by simp; omega)).cell
    have e4 := (k4.kept hp (by simp; omega)).cell
    refine ⟨.tuple #[.int .i64 0, .int .i64 7], by simp [results, Try.results14, go_sem, e3, e4], by rw [ht], ?_, ?_⟩
    · rw [ht]; exact hSp.kept hp (by simp; omega) (by simp; omega)
    · exact Oc.Minds.only (β := Unit) (b := W0.heap.size) (c := W0.heap.size) (by omega) () _ _ _ hgw hp (fun r e => by cases e; exact ⟨Nat.le_refl _, Nat.le_refl _⟩)
  case stop =>
    rintro c pre W _ ⟨rfl, x, h2, h3, h4, h5, h6⟩ hD
    gi_wp2
    have ht : Oc.takeN h T n = ((x.1 : Int), 0, Oc.upd T true x.1 n.toNat) := by
      unfold Oc.takeN
      rw [if_neg (by omega), h2]
    refine ⟨by simp, .inl ⟨_, _, rfl, run_takeDeferred hD, ?_⟩⟩
    have hp := grownBy_putObj' W W0.heap.size (.deferred none)
    have e3 := (h3.kept hp (by simp; omega)).cell
    have e4 := (h4.kept hp (by simp; omega)).cell
    refine ⟨.tuple #[.int .i64 x.1, .int .i64 0], by simp [results, Try.results14, go_sem, e3, e4], by rw [ht], ?_, ?_⟩
    · rw [ht]; exact h5.kept hp (by simp; omega) (by simp; omega)
    · exact Oc.Minds.only (β := Unit) (b := W0.heap.size) (c := W0.heap.size) (by omega) () _ _ _ h6 hp (fun r e => by cases e; exact ⟨Nat.le_refl _, Nat.le_refl _⟩)
theorem take_any (b g h : Nat) (T : List Bool) (n : Int) (hn2 : Oc.I n) (w : World) (hS : Oc.Sp 48 4 w b g h T) :
    Calls Try.prog 14 #[.pointer (some ⟨b, 0, none⟩), .int .i64 n] w (TakePost b g h T n w) := by
  by_cases hn : n < 1
  · exact take_low b g h T n hn w hS
  · exact take_high b g h T n (by omega) hn2 w hS
end Go.Proofs.Ytbkemnfhmaekbaa
