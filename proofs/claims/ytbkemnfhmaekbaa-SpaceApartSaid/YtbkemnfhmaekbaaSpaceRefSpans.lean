/- The walk through the reference's Spans, Room, Largest. -/
import Derived.Test.YtbkemnfhmaekbaaSpaceRef
import Derived.Test.YtbkemnfhmaekbaaSpaceSpans
namespace Go.Proofs.Ytbkemnfhmaekbaa
set_option linter.unusedVariables false
open Go.RowKit
set_option maxHeartbeats 1000000
/-- What lies in a row of spans, cell by cell. -/
theorem cellsS_get : ∀ (l : List (Nat × Nat)) (k : Nat) (x : Nat × Nat), l[k]? = some x → (Oc.cellsS l)[2 * k]? = some (.int .i64 x.1) ∧ (Oc.cellsS l)[2 * k + 1]? = some (.int .i64 x.2)
  | [], k, x, h => by simp at h
  | y :: l, 0, x, h => by simp at h; subst h; simp [Oc.cellsS]
  | y :: l, k + 1, x, h => by
    have := cellsS_get l k x (by simpa using h)
    unfold Oc.cellsS at this ⊢
    rw [show 2 * (k + 1) = 2 * k + 1 + 1 by omega, show 2 * k + 1 + 1 + 1 = (2 * k + 1) + 1 + 1 by omega]
    simpa using this
theorem cellsS_length (l : List (Nat × Nat)) : (Oc.cellsS l).length = 2 * l.length := by
  induction l with
  | nil => rfl
  | cons x l ih =>
    unfold Oc.cellsS at ih ⊢
    rw [List.flatMap_cons, List.length_append, ih]; simp; omega
def SpansIn (T : List Bool) (L : List (Nat × Nat)) : Prop := ∀ x ∈ L, x.1 + x.2 ≤ T.length
theorem owns_store {W : World} {base : Nat} {e : TypeId} {size : Nat} {g n cap : Nat} {xs : List Value} (h : W.ownsRow base e size (.slice (some ⟨g, 0, none⟩) n cap) n xs) (k : Nat) (u : Value) :
    (W.setCell ⟨g, k, none⟩ u).ownsRow base e size (.slice (some ⟨g, 0, none⟩) n cap) n (xs.set k u) := by
  refine ⟨by simpa using h.1, ?_⟩
  rcases h.2 with ⟨h', _⟩ | ⟨g', cap', cur, h1, h2, h3, h4, h5, h6, h7⟩
  · cases h'
  · cases h1
    refine .inr ⟨g, cap, cur.setIfInBounds k u, rfl, h2, heap_setCell_same W g k _ _ u h3, h4, h5, by simpa using h6, ?_⟩
    rw [← h7]
    simp [List.take_set]
theorem owns_cell {W : World} {base : Nat} {e : TypeId} {size : Nat} {g n cap : Nat} {xs : List Value} (h : W.ownsRow base e size (.slice (some ⟨g, 0, none⟩) n cap) n xs) {k : Nat} {u : Value} (hk : xs[k]? = some u) : W.cell? ⟨g, k, none⟩ = some u ∧ W.frozen? ⟨g, k, none⟩ = false := by
  rcases h.2 with ⟨h', _⟩ | ⟨g', cap', cur, h1, h2, h3, h4, h5, h6, h7⟩
  · cases h'
  · cases h1
    refine ⟨?_, frozen_of_row W g k _ _ h3⟩
    rw [cell_of_row W g k _ _ _ h3]
    rw [← h7, List.getElem?_take] at hk
    split at hk
    · simpa using hk
    · cases hk
theorem rspans_any (b g h : Nat) (T : List Bool) (w : World) (hS : Oc.Sp 50 4 w b g h T) :
    Calls Try.prog 21 #[.pointer (some ⟨b, 0, none⟩)] w fun e w' => ∃ v, e = .returned v ∧ w'.ownsRow w.heap.size 34 2 v (Oc.spans h T).length (Oc.cellsS (Oc.spans h T)) ∧ Below w.heap.size w w' := by
  have hsz := hS.sz
  have hhd := hS.hd
  obtain ⟨i0, hi, y0, y1, y2⟩ := info_parts infoSpan
  obtain ⟨c0, c1, nb, ng⟩ := hS.cells
  go_enter Try.func21, Try.ntmps21
  go_wp2
  clear c0 c1
  go_loopw [3, 4] (fun v i wr => ∃ (k : Nat) (L : List (Nat × Nat)), h ≤ k ∧ k ≤ T.length ∧ i = .int .i64 k ∧ wr.ownsRow w.heap.size 34 2 v L.length (Oc.cellsS L) ∧ Oc.rspans L k (T.drop k) = Oc.spans h T ∧ L.length ≤ k ∧ SpansIn T L ∧ Below w.heap.size w wr) (fun _ i _ => T.length - (intOf i).toNat)
  case atStart => exact ⟨h, [], by omega, by omega, rfl, World.ownsRow_nil _ _ _ _, Oc.rspans_eq h T, by simp, (fun x hx => nomatch hx), Below.refl _ _⟩
  case round =>
    obtain ⟨k, L, hk1, hk2, rfl, hrow, hres, hLk, hLT, hB⟩ := hrel
    have Hres := Lib.hid hres
    clear hres
    have hBz := hB.size
    have hSr : Oc.Sp 50 4 wr b g h T := ⟨(hB.block _ nb).trans hS.str, (hB.block _ ng).trans hS.row, hS.hd, hS.sz, hS.ne⟩
    obtain ⟨c0, c1, nb', ng'⟩ := hSr.cells
    by_cases hlt : k < T.length
    · have dk : decide (k < T.length) = true := by simpa using hlt
      obtain ⟨t, ht⟩ : ∃ t, T[k]? = some t := ⟨_, List.getElem?_eq_getElem hlt⟩
      have cg : wr.cell? ⟨g, k, none⟩ = some (.bool t) := by rw [cell_of_row wr g k _ _ _ hSr.row]; exact Oc.bools_get ht
      have hdr : T.drop k = t :: T.drop (k + 1) := by
        obtain ⟨h1, h2⟩ := List.getElem?_eq_some_iff.1 ht
        rw [List.drop_eq_getElem_cons h1, h2]
      have Hdr := Lib.hid hdr
      clear hdr ht
      cases t with
      | true =>
        go_wp2
        go_roundw
        case rel => exact ⟨k + 1, L, by omega, by omega, by go_num, hrow, by have := Hres.out; rw [Hdr.out] at this; simpa [Oc.rspans] using this, by omega, hLT, hB⟩
        case measure => simp [intOf]; omega
      | false =>
        have hres' : Oc.rspans (Oc.rstep L k) (k + 1) (T.drop (k + 1)) = Oc.spans h T := by have := Hres.out; rw [Hdr.out] at this; simpa [Oc.rspans] using this
        have Hres' := Lib.hid hres'
        clear hres'
        have app : ∀ wq v' w1, wr.grownBy wq none → w1.ownsRow w.heap.size 34 2 v' (L.length + 1) (Oc.cellsS L ++ [.int .i64 k, .int .i64 1]) → (wq.alloc (.cells #[.int .i64 k, .int .i64 1] 34)).grownBy w1 u3.ownBlock → Oc.rstep L k = L ++ [(k, 1)] →
            w1.ownsRow w.heap.size 34 2 v' (Oc.rstep L k).length (Oc.cellsS (Oc.rstep L k)) ∧ (Oc.rstep L k).length ≤ k + 1 ∧ SpansIn T (Oc.rstep L k) ∧ Below w.heap.size w w1 := fun wq v' w1 q0 q1 q2 q3 => by
          rw [q3, Oc.cellsS_snoc, List.length_append]
          refine ⟨q1, by simp; omega, fun y hy => ?_, (hB.grown (Oc.only_alloc q0 _) hBz (fun r e => nomatch e)).grown q2 (by have := q0.size; simp; omega) fun r e => (Oc.owns_far hrow r e.symm.symm).1⟩
          rcases List.mem_append.1 hy with hy | hy
          · exact hLT y hy
          · obtain rfl := List.mem_singleton.1 hy; simp; omega
        have App := Oc.hide app
        clear app
        by_cases hL : L = []
        · subst hL
          rcases hrow.2 with ⟨rfl, _⟩ | ⟨g', cap', cur, rfl, h1, h2, h3, h4, h5, h6⟩
          all_goals
            go_wp2
            go_quiet (fail)
            generalize hwq : wr.drewN _ = wq
            have hgq : wr.grownBy wq none := by rw [← hwq]; exact Oc.only_drewN (Oc.only_refl _ _) _
            have hrq := Oc.owns_kept hrow hgq fun r e => nomatch e
            have hzq := hgq.size
            clear hwq
            go_wp2_with (at_builtin; refine wpList_append_own _ rfl _ _ 40 rfl w.heap.size 34 i0 (.agg #[.int .i64 0, .int .i64 0]) 2 16 Try.underlying40 hi y0 y1 y2 rfl (by decide) _ _ _ rfl (hrq.alloc _) ⟨wq.heap.size, 0, none⟩ 1 1 [.int .i64 k, .int .i64 1] rfl rfl (World.news_of_block (heap_alloc_new wq _)) (by simp [Value.oneCell']) (by unfold maxLen; simp) (by simp) (by simp; omega) ?_; intro v' w1 hown' hgrow _)
            obtain ⟨a1, a2, a3, a4⟩ := Oc.unhide App wq v' w1 hgq hown' hgrow rfl
            go_roundw
            case rel => exact ⟨k + 1, _, by omega, by omega, by go_num, a1, Hres'.out, a2, a3, a4⟩
            case measure => simp [intOf]; omega
        · obtain ⟨D, x, hLx⟩ := List.eq_nil_or_concat L |>.resolve_left hL
          rw [List.concat_eq_append] at hLx
          subst hLx
          rcases hrow.2 with ⟨rfl, h0⟩ | ⟨g', cap', cur, rfl, _⟩
          · simp at h0
          have hxT := hLT x (by simp)
          have hget := cellsS_get (D ++ [x]) D.length x (by simp)
          obtain ⟨r0, rf0⟩ := owns_cell hrow hget.1
          obtain ⟨r1, rf1⟩ := owns_cell hrow hget.2
          have hlast : (D ++ [x]).getLast? = some x := by simp
          have hE : x.1 + x.2 = k ∧ Oc.rstep (D ++ [x]) k = D ++ [(x.1, x.2 + 1)] ∨ x.1 + x.2 ≠ k ∧ Oc.rstep (D ++ [x]) k = D ++ [x] ++ [(k, 1)] := by
            by_cases hm : x.1 + x.2 = k
            · left; refine ⟨hm, ?_⟩; unfold Oc.rstep; rw [hlast]; simp [hm]
            · right; refine ⟨hm, ?_⟩; unfold Oc.rstep; rw [hlast]; simp [hm]
          rw [Nat.mul_comm] at r0 r1 rf0 rf1
          have p0 : decide (0 < (D.length : Int) + 1) = true := by simp
          have p1 : D.length ≤ 4096 := by simp at hLk; omega
          have p2 : 0 ≤ (D.length : Int) := by omega
          have p3 : (D.length : Int) < (D.length : Int) + 1 := by omega
          have p4 : (x.1 : Int) ≤ 4096 := by omega
          have p5 : (x.2 : Int) ≤ 4096 := by omega
          have hLk' : D.length + 1 ≤ k := by simpa using hLk
          clear hlast hget
          rcases hE with ⟨hm, hst⟩ | ⟨hm, hst⟩
          · have dm : (((x.1 : Nat) : Int) + ((x.2 : Nat) : Int) == (k : Int)) = true := by rw [beq_iff_eq]; omega
            have Hst := Lib.hid hst
            have Hm := Lib.hid hm
            clear hst hm
            simp only [List.length_append, List.length_cons, List.length_nil, Nat.zero_add] at hrow Hst ⊢
            go_wp2
            go_quiet (fail)
            generalize hwq : wr.drewN _ = wq
            have hgq : wr.grownBy wq none := by rw [← hwq]; exact Oc.only_drewN (Oc.only_refl _ _) _
            have hrq := Oc.owns_kept hrow hgq fun r e => nomatch e
            have hzq := hgq.size
            have hget := cellsS_get (D ++ [x]) D.length x (by simp)
            rw [Nat.mul_comm] at hget
            obtain ⟨s0, sf0⟩ := owns_cell hrq hget.1
            obtain ⟨s1, sf1⟩ := owns_cell hrq hget.2
            clear hwq hget
            go_wp2
            have hst1 := owns_store hrq (D.length * 2 + 1) (.int .i64 ((x.2 : Int) + 1))
            have hset : (Oc.cellsS (D ++ [x])).set (D.length * 2 + 1) (.int .i64 ((x.2 : Int) + 1)) = Oc.cellsS (D ++ [(x.1, x.2 + 1)]) := by
              rw [Oc.cellsS_snoc, Oc.cellsS_snoc, List.set_append_right _ _ (by rw [cellsS_length]; omega), cellsS_length, show D.length * 2 + 1 - 2 * D.length = 1 by omega]
              rfl
            rw [hset] at hst1
            have hgs := Oc.only_setCell (Oc.only_refl wq (some g')) (p := ⟨g', D.length * 2 + 1, none⟩) (.inl rfl) (.int .i64 ((x.2 : Int) + 1))
            go_roundw
            case rel =>
              refine ⟨k + 1, D ++ [(x.1, x.2 + 1)], by omega, by omega, by go_num, by simpa using hst1, by rw [← Hst.out]; exact Hres'.out, by simp; omega, fun y hy => ?_, (hB.grown hgq hBz fun r e => nomatch e).grown hgs (by omega) fun r e => ?_⟩
              · rcases List.mem_append.1 hy with hy | hy
                · exact hLT y (List.mem_append_left _ hy)
                · obtain rfl := List.mem_singleton.1 hy
                  have := Hm.out
                  simp; omega
              · cases e; exact (Oc.owns_far hrow _ rfl).1
            case measure => simp [intOf]; omega
          · have dm : (((x.1 : Nat) : Int) + ((x.2 : Nat) : Int) == (k : Int)) = false := by rw [beq_eq_false_iff_ne]; omega
            have Hst := Lib.hid hst
            clear hst hm
            go_wp2
            go_quiet (fail)
            generalize hwq : wr.drewN _ = wq
            have hgq : wr.grownBy wq none := by rw [← hwq]; exact Oc.only_drewN (Oc.only_refl _ _) _
            have hrq := Oc.owns_kept hrow hgq fun r e => nomatch e
            have hzq := hgq.size
            clear hwq
            go_wp2_with (at_builtin; refine wpList_append_own _ rfl _ _ 40 rfl w.heap.size 34 i0 (.agg #[.int .i64 0, .int .i64 0]) 2 16 Try.underlying40 hi y0 y1 y2 rfl (by decide) _ _ _ rfl (hrq.alloc _) ⟨wq.heap.size, 0, none⟩ 1 1 [.int .i64 k, .int .i64 1] rfl rfl (World.news_of_block (heap_alloc_new wq _)) (by simp [Value.oneCell']) (by unfold maxLen; simp; omega) (by simp; omega) (by simp; omega) ?_; intro v' w1 hown' hgrow _)
            obtain ⟨a1, a2, a3, a4⟩ := Oc.unhide App wq v' w1 hgq hown' hgrow Hst.out
            go_roundw
            case rel => exact ⟨k + 1, _, by omega, by omega, by go_num, a1, Hres'.out, a2, a3, a4⟩
            case measure => simp [intOf]; omega
    · have dk : decide (k < T.length) = false := by simpa using hlt
      have hfin : L = Oc.spans h T := by
        have := Hres.out
        rw [List.drop_eq_nil_of_le (by omega)] at this
        exact this
      have Hfin := Lib.hid hfin
      clear hfin
      go_wp2
      go_ret
      rw [← Hfin.out]
      exact ⟨_, rfl, hrow, hB⟩
theorem take_snocS (l : List (Nat × Nat)) (k : Nat) (x : Nat × Nat) (h : l[k]? = some x) : l.take (k + 1) = l.take k ++ [x] := by
  rw [List.take_add_one, h]; rfl
theorem sums_take {h : Nat} {T : List Bool} {k : Nat} {x : Nat × Nat} (hx : (Oc.spans h T)[k]? = some x) : Oc.sumS ((Oc.spans h T).take k) + x.2 ≤ T.length :=
  sums_le (h := h) (by rw [← take_snocS _ _ _ hx]; exact List.take_prefix _ _)
theorem rroom_any (b g h : Nat) (T : List Bool) (w : World) (hS : Oc.Sp 50 4 w b g h T) :
    Calls Try.prog 12 #[.pointer (some ⟨b, 0, none⟩)] w fun e w' => e = .returned (.int .i64 (Oc.sumS (Oc.spans h T))) ∧ Below w.heap.size w w' := by
  have hsz := hS.sz
  have hls := len_spans h T
  go_enter Try.func12, Try.ntmps12
  go_wp2_with fail
  refine (rspans_any b g h T _ hS).mono ?_
  rintro e w1 ⟨v, rfl, hrow, hB⟩
  obtain ⟨v', hv'⟩ : ∃ v', v' = v := ⟨_, rfl⟩
  rcases hrow.2 with ⟨rfl, h0⟩ | ⟨g', cap', cur, rfl, _⟩
  · have hnil : Oc.spans h T = [] := List.length_eq_zero_iff.1 h0
    have Hn := Lib.hid hnil
    clear hnil h0 hls hv'
    go_wp2
    refine wp_loop_rounds 1 ?_
    rw [rounds_succ]
    go_wp2
    go_ret
    rw [Hn.out]
    exact ⟨rfl, hB⟩
  · clear hv'
    go_wp2
    go_loop [4, 5] (fun n i => ∃ k : Nat, k ≤ (Oc.spans h T).length ∧ i = .int .i64 k ∧ n = .int .i64 (Oc.sumS ((Oc.spans h T).take k))) (fun _ i => (Oc.spans h T).length - (intOf i).toNat)
    case atStart => exact ⟨0, by omega, rfl, rfl⟩
    case round =>
      obtain ⟨k, hk, rfl, rfl⟩ := hrel
      by_cases hlt : k < (Oc.spans h T).length
      · have dk : decide (k < (Oc.spans h T).length) = true := by simpa using hlt
        obtain ⟨x, hx⟩ : ∃ x, (Oc.spans h T)[k]? = some x := ⟨_, List.getElem?_eq_getElem hlt⟩
        have hsum := sums_take hx
        have hsn : ((Oc.sumS ((Oc.spans h T).take (k + 1)) : Nat) : Int) = (Oc.sumS ((Oc.spans h T).take k) : Nat) + (x.2 : Nat) := by rw [take_snocS _ _ _ hx]; exact sum_snoc _ _
        have Hsn := Lib.hid hsn
        have hget := (cellsS_get _ _ _ hx).2
        rw [Nat.mul_comm] at hget
        obtain ⟨r1, _⟩ := owns_cell hrow hget
        clear hx hsn hget
        go_wp2
        go_round
        case rel => exact ⟨k + 1, by omega, by go_num, by rw [Hsn.out]⟩
        case measure => simp [intOf]; omega
      · have dk : decide (k < (Oc.spans h T).length) = false := by simpa using hlt
        have htk : (Oc.spans h T).take k = Oc.spans h T := List.take_of_length_le (by omega)
        have Ht := Lib.hid htk
        clear htk
        go_wp2
        go_ret
        rw [Ht.out]
        exact ⟨rfl, hB⟩
theorem rlargest_any (b g h : Nat) (T : List Bool) (w : World) (hS : Oc.Sp 50 4 w b g h T) :
    Calls Try.prog 22 #[.pointer (some ⟨b, 0, none⟩)] w fun e w' => e = .returned (.int .i64 (Oc.maxS (Oc.spans h T))) ∧ Below w.heap.size w w' := by
  have hsz := hS.sz
  have hls := len_spans h T
  go_enter Try.func22, Try.ntmps22
  go_wp2_with fail
  refine (rspans_any b g h T _ hS).mono ?_
  rintro e w1 ⟨v, rfl, hrow, hB⟩
  rcases hrow.2 with ⟨rfl, h0⟩ | ⟨g', cap', cur, rfl, _⟩
  · have hnil : Oc.spans h T = [] := List.length_eq_zero_iff.1 h0
    have Hn := Lib.hid hnil
    clear hnil h0 hls
    go_wp2
    refine wp_loop_rounds 1 ?_
    rw [rounds_succ]
    go_wp2
    go_ret
    rw [Hn.out]
    exact ⟨rfl, hB⟩
  · go_wp2
    go_loop [4, 5] (fun n i => ∃ k : Nat, k ≤ (Oc.spans h T).length ∧ i = .int .i64 k ∧ n = .int .i64 (Oc.maxS ((Oc.spans h T).take k))) (fun _ i => (Oc.spans h T).length - (intOf i).toNat)
    case atStart => exact ⟨0, by omega, rfl, rfl⟩
    case round =>
      obtain ⟨k, hk, rfl, rfl⟩ := hrel
      by_cases hlt : k < (Oc.spans h T).length
      · have dk : decide (k < (Oc.spans h T).length) = true := by simpa using hlt
        obtain ⟨x, hx⟩ : ∃ x, (Oc.spans h T)[k]? = some x := ⟨_, List.getElem?_eq_getElem hlt⟩
        have hsum := sums_take hx
        have hmx := max_sum ((Oc.spans h T).take k)
        have hsn : ((Oc.maxS ((Oc.spans h T).take (k + 1)) : Nat) : Int) = max ((Oc.maxS ((Oc.spans h T).take k) : Nat) : Int) (x.2 : Nat) := by rw [take_snocS _ _ _ hx]; exact max_snoc _ _
        have Hsn := Lib.hid hsn
        have hget := (cellsS_get _ _ _ hx).2
        rw [Nat.mul_comm] at hget
        obtain ⟨r1, _⟩ := owns_cell hrow hget
        clear hx hsn hget
        by_cases hm : Oc.maxS ((Oc.spans h T).take k) < x.2
        · have dm : decide (Oc.maxS ((Oc.spans h T).take k) < x.2) = true := by simpa using hm
          go_wp2
          go_round
          case rel => exact ⟨k + 1, by omega, by go_num, by rw [Hsn.out]; congr 1; omega⟩
          case measure => simp [intOf]; omega
        · have dm : decide (Oc.maxS ((Oc.spans h T).take k) < x.2) = false := by simpa using hm
          go_wp2
          go_round
          case rel => exact ⟨k + 1, by omega, by go_num, by rw [Hsn.out]; congr 1; omega⟩
          case measure => simp [intOf]; omega
      · have dk : decide (k < (Oc.spans h T).length) = false := by simpa using hlt
        have htk : (Oc.spans h T).take k = Oc.spans h T := List.take_of_length_le (by omega)
        have Ht := Lib.hid htk
        clear htk
        go_wp2
        go_ret
        rw [Ht.out]
        exact ⟨rfl, hB⟩
end Go.Proofs.Ytbkemnfhmaekbaa
