/- The iterator over the free spans: its contract. -/
import Derived.Test.YtbkemnfhmaekbaaSpaceWalks
import Derived.Test.YtbkemnfhmaekbaaSeqOwn
import Derived.Shelf.Abstract
import Derived.OwnWalkIn
import Derived.TacticsInMore
import Derived.LoopNIn
import Derived.LoopIn
import Derived.Shelf.RegionOpen
namespace Go.Proofs.Ytbkemnfhmaekbaa
set_option linter.unusedVariables false
set_option linter.unusedSimpArgs false
open Go.RowKit
attribute [local go_sem] Oper.semAt_some
set_option maxHeartbeats 1000000
theorem free_any (b : Nat) (w : World) :
    Calls Try.prog 26 #[.pointer (some ⟨b, 0, none⟩)] w fun e w' => e = .returned (.func (.func 29) #[] #[.pointer (some ⟨w.heap.size, 0, none⟩)]) ∧ w' = w.alloc (.cells #[.pointer (some ⟨b, 0, none⟩)] 23) := by
  go_enter Try.func26, Try.ntmps26
  go_wp2
  go_ret
  exact ⟨rfl, rfl⟩
abbrev encS (x : Nat × Nat) : Array Value := #[.agg #[.int .i64 x.1, .int .i64 x.2]]
/-- What a round that goes on keeps: what lay below n₀, and the box of the receiver. -/
def KpS (n₀ Bc : Nat) (A B : World) : Prop := Below n₀ A B ∧ B.heap[Bc]? = A.heap[Bc]? ∧ A.heap.size ≤ B.heap.size
theorem spans_step {h : Nat} {T : List Bool} {f m : Nat} {dn : List (Nat × Nat)} (hs : Oc.spans h T = dn ++ Oc.scan f m (T.drop (f + m))) (ht : T[f + m]? = some false) : Oc.spans h T = dn ++ Oc.scan f (m + 1) (T.drop (f + (m + 1))) := by
  obtain ⟨hlt, he⟩ := List.getElem?_eq_some_iff.1 ht
  rw [hs, List.drop_eq_getElem_cons hlt, he]
  simp [Oc.scan, Nat.add_assoc]
theorem spans_cut {h : Nat} {T : List Bool} {f m : Nat} {dn : List (Nat × Nat)} (hs : Oc.spans h T = dn ++ Oc.scan f m (T.drop (f + m))) (ht : T[f + m]? ≠ some false) : Oc.spans h T = (dn ++ if 0 < m then [(f, m)] else []) ++ Oc.scan (f + m + 1) 0 (T.drop (f + m + 1 + 0)) := by
  rcases Nat.lt_or_ge (f + m) T.length with hlt | hge
  · rw [hs, List.drop_eq_getElem_cons hlt]
    have he : T[f + m] = true := by
      rw [List.getElem?_eq_getElem hlt] at ht
      simpa using ht
    rw [he]
    simp [Oc.scan]
  · rw [hs, List.drop_eq_nil_of_le hge, List.drop_eq_nil_of_le (by omega)]
    simp [Oc.scan]
theorem free_stops (F : Fence) (n : Nat) (hF : F.fn 29) (hro : F.round = none) (hn : 1 ≤ n) (n₀ Bc b g h : Nat) (T : List Bool) (w : World) (hBc : Boxed w Bc 23 (.pointer (some ⟨b, 0, none⟩)))
    (hS : Oc.Sp 48 4 w b g h T) (hb : b < n₀) (hg : g < n₀) (hn₀ : n₀ ≤ w.heap.size) :
    Oc.SeqBox F n Try.prog 29 #[.pointer (some ⟨Bc, 0, none⟩)] encS (KpS n₀ Bc) (fun ys => ys = Oc.spans h T) (fun pre => pre <+: Oc.spans h T) w := fun l J Jx W hW hJ hJx hY h0 => by
  have hBW : Boxed W Bc 23 (.pointer (some ⟨b, 0, none⟩)) := (hW.block Bc hBc.lt).trans hBc
  have hSW : Oc.Sp 48 4 W b g h T := ⟨(hW.block _ hS.cells.2.2.1).trans hS.str, (hW.block _ hS.cells.2.2.2).trans hS.row, hS.hd, hS.sz, hS.ne⟩
  have hWz : n₀ ≤ W.heap.size := Nat.le_trans hn₀ hW.size
  have hBz : Bc < W.heap.size := hBW.lt
  have hsz := hS.sz
  have hhd := hS.hd
  clear hBc hS hW
  refine callsIn_of_wp Try.func29 rfl hF ?_ hro
  simp only [Try.ntmps29, List.size_toArray, List.length_cons, List.length_nil, Nat.reduceAdd, Nat.reduceSub, Array.replicate_succ, Array.replicate_zero, List.push_toArray, List.append_toArray, List.nil_append, List.cons_append]
  obtain ⟨c0, c1, hbl, hgl⟩ := hSW.cells
  have cb := hBW.cell
  gi_wp2
  gi_loopw [4] (fun i wr => ∃ (f m : Nat) (dn : List (Nat × Nat)), i = .int .i64 ((f + m : Nat) : Int) ∧ f + m ≤ T.length + 1 ∧ (f + m ≤ T.length ∨ m = 0) ∧ Oc.spans h T = dn ++ Oc.scan f m (T.drop (f + m)) ∧ J dn wr ∧
      wr.heap[W.heap.size]? = some (.cells #[.int .i64 f, .int .i64 m] 34 (0, 0)) ∧ Boxed wr Bc 23 (.pointer (some ⟨b, 0, none⟩)) ∧ Oc.Sp 48 4 wr b g h T) (fun i _ => T.length + 1 - (intOf i).toNat)
  case atStart =>
    have hg1 := World.grownBy_alloc W (.cells #[.int .i64 h, .int .i64 0] 34) none
    exact ⟨h, 0, [], rfl, by omega, .inr rfl, rfl, hJ.grown h0 hg1, heap_alloc_new W _, hBW.alloc _, hSW.kept hg1 (by simp) (by simp)⟩
  case round =>
    clear h0 hBW hSW c0 c1 cb
    obtain ⟨f, m, dn, rfl, hfm, hm9, hsp, hJd, hx, hBr, hSr⟩ := hrel
    have hxr : W.heap.size < wr.heap.size := (Array.getElem?_eq_some_iff.1 hx).1
    have keep : ∀ {dn' : List (Nat × Nat)} {X Y : World}, J dn' X → X.grownBy Y (some W.heap.size) → Boxed X Bc 23 (.pointer (some ⟨b, 0, none⟩)) → Oc.Sp 48 4 X b g h T →
        J dn' Y ∧ Boxed Y Bc 23 (.pointer (some ⟨b, 0, none⟩)) ∧ Oc.Sp 48 4 Y b g h T := fun h1 h2 h3 h4 =>
      ⟨hJ _ _ _ _ h1 h2 (fun r e => by cases e; exact ⟨Nat.le_refl _, Nat.le_refl _⟩), h3.kept h2 (by simp; omega), h4.kept h2 (by simp; omega) (by simp; omega)⟩
    have Keep := @Oc.hide _ @keep
    clear keep
    obtain ⟨c0, c1, hbr, hgr⟩ := hSr.cells
    have cb := hBr.cell
    have x0 := cell_of_row wr W.heap.size 0 _ _ _ hx
    have x1 := cell_of_row wr W.heap.size 1 _ _ _ hx
    have xf0 := frozen_of_row wr W.heap.size 0 _ _ hx
    have xf1 := frozen_of_row wr W.heap.size 1 _ _ hx
    simp at x0 x1
    by_cases hend : f + m ≤ T.length
    · have dle : decide (f + m ≤ T.length) = true := by simpa using hend
      by_cases hfree : T[f + m]? = some false
      · have hlt : f + m < T.length := (List.getElem?_eq_some_iff.1 hfree).1
        have dlt : decide (f + m < T.length) = true := by simpa using hlt
        have cg : wr.cell? ⟨g, f + m, none⟩ = some (.bool false) := by rw [cell_of_row wr g (f + m) _ _ _ hSr.row]; exact Oc.bools_get hfree
        have hsp' := spans_step hsp hfree
        have Hs := Oc.hide hsp'
        clear hsp hsp' hfree
        gi_wp2
        have hg1 := Oc.only_setCell (Oc.only_refl wr (some W.heap.size)) (p := ⟨W.heap.size, 1, none⟩) (.inl rfl) (.int .i64 ((m : Int) + 1))
        obtain ⟨k1, k2, k3⟩ := Oc.unhide Keep hJd hg1 hBr hSr
        have hx' := heap_setCell_same wr W.heap.size 1 _ _ (.int .i64 ((m : Int) + 1)) hx
        go_roundw
        case rel => exact ⟨f, m + 1, dn, by go_num, by omega, by omega, Oc.unhide Hs, k1, by simpa using hx', k2, k3⟩
        case measure => simp [intOf]; omega
      · have hsp' := spans_cut hsp hfree
        have Hs := Oc.hide hsp'
        clear hsp hsp'
        have hend2 : ∀ (dn' : List (Nat × Nat)) (X : World), J dn' X → X.heap[W.heap.size]? = some (.cells #[.int .i64 f, .int .i64 m] 34 (0, 0)) → Boxed X Bc 23 (.pointer (some ⟨b, 0, none⟩)) → Oc.Sp 48 4 X b g h T →
            J dn' ((X.setCell ⟨W.heap.size, 0, none⟩ (.int .i64 ((f : Int) + m + 1))).setCell ⟨W.heap.size, 1, none⟩ (.int .i64 0)) ∧
            ((X.setCell ⟨W.heap.size, 0, none⟩ (.int .i64 ((f : Int) + m + 1))).setCell ⟨W.heap.size, 1, none⟩ (.int .i64 0)).heap[W.heap.size]? = some (.cells #[.int .i64 ((f + m + 1 : Nat) : Int), .int .i64 ((0 : Nat) : Int)] 34 (0, 0)) ∧
            Boxed ((X.setCell ⟨W.heap.size, 0, none⟩ (.int .i64 ((f : Int) + m + 1))).setCell ⟨W.heap.size, 1, none⟩ (.int .i64 0)) Bc 23 (.pointer (some ⟨b, 0, none⟩)) ∧
            Oc.Sp 48 4 ((X.setCell ⟨W.heap.size, 0, none⟩ (.int .i64 ((f : Int) + m + 1))).setCell ⟨W.heap.size, 1, none⟩ (.int .i64 0)) b g h T := fun dn' X j1 j2 j3 j4 => by
          have hg1 := Oc.only_setCell (Oc.only_setCell (Oc.only_refl X (some W.heap.size)) (p := ⟨W.heap.size, 0, none⟩) (.inl rfl) (.int .i64 ((f : Int) + m + 1))) (p := ⟨W.heap.size, 1, none⟩) (.inl rfl) (.int .i64 0)
          obtain ⟨k1, k2, k3⟩ := Oc.unhide Keep j1 hg1 j3 j4
          have hx1 := heap_setCell_same X W.heap.size 0 _ _ (.int .i64 ((f : Int) + m + 1)) j2
          have hx2 := heap_setCell_same _ W.heap.size 1 _ _ (.int .i64 0) hx1
          exact ⟨k1, by simpa using hx2, k2, k3⟩
        have Hend := @Oc.hide _ @hend2
        clear hend2
        have hm0 : m ≤ 4097 := by omega
        have hcells : (∃ hlt : f + m < T.length, wr.cell? ⟨g, f + m, none⟩ = some (.bool true) ∧ decide (f + m < T.length) = true) ∨ (decide (f + m < T.length) = false ∧ T.length ≤ f + m) := by
          rcases Nat.lt_or_ge (f + m) T.length with hlt | hge
          · refine .inl ⟨hlt, ?_, by simpa using hlt⟩
            rw [cell_of_row wr g (f + m) _ _ _ hSr.row]
            refine Oc.bools_get ?_
            rw [List.getElem?_eq_getElem hlt] at hfree ⊢
            simpa using hfree
          · exact .inr ⟨by simpa using hge, hge⟩
        clear hfree
        by_cases hmp : 0 < m
        · have dm : decide (0 < m) = true := by simpa using hmp
          have hpre : dn ++ [(f, m)] <+: Oc.spans h T := by
            rw [Hs.out, if_pos hmp]
            exact List.prefix_append _ _
          have Hpre := Oc.hide hpre
          obtain ⟨fn, tmps, assign, body, hy, hR⟩ := hY dn (f, m) wr hJd hxr hpre
          clear hpre
          have hy' : (Instr.yield l #[.agg #[.int .i64 (f : Int), .int .i64 (m : Int)]]).run Try.prog wr = _ := hy
          clear hy
          rcases hcells with ⟨hlt, cg, dlt⟩ | ⟨dlt, hge⟩
          all_goals
            gi_wp2
            refine hR.mono ?_
            rintro e W3 (⟨rfl, hJ3, hx3, hz3, hb3, hc3, _⟩ | ⟨rfl, hJx3⟩)
            · have hx3' := hx3.trans hx
              have xg0 := frozen_of_row W3 W.heap.size 0 _ _ hx3'
              have xg1 := frozen_of_row W3 W.heap.size 1 _ _ hx3'
              have y0 := cell_of_row W3 W.heap.size 0 _ _ _ hx3'
              have y1 := cell_of_row W3 W.heap.size 1 _ _ _ hx3'
              simp at y0 y1
              obtain ⟨k1, k2, k3, k4⟩ := Oc.unhide Hend _ W3 hJ3 hx3' (hc3.trans hBr) ⟨(hb3.block _ hb).trans hSr.str, (hb3.block _ hg).trans hSr.row, hSr.hd, hSr.sz, hSr.ne⟩
              gi_wp2
              go_roundw
              case rel => exact ⟨f + m + 1, 0, dn ++ [(f, m)], by go_num, by omega, .inr rfl, by rw [Hs.out, if_pos hmp], k1, k2, k3, k4⟩
              case measure => simp [intOf]; omega
            · gi_wp2
              refine bodyPost_ret (results_none rfl _ _ _) rfl ?_
              exact ⟨⟨_, rfl⟩, .inr ⟨_, Oc.unhide Hpre, hJx3⟩⟩
        · obtain rfl : m = 0 := by omega
          rcases hcells with ⟨hlt, cg, dlt⟩ | ⟨dlt, hge⟩
          all_goals
            obtain ⟨k1, k2, k3, k4⟩ := Oc.unhide Hend _ wr hJd hx hBr hSr
            (try simp only [Nat.add_zero] at cg)
            simp only [Nat.add_zero] at dlt dle
            gi_wp2
            refine ⟨(fun _ h => nomatch h), ?_⟩
            gi_wp2
            go_roundw
            case rel => exact ⟨f + 0 + 1, 0, dn, by go_num, by omega, .inr rfl, by rw [Hs.out]; simp, by simpa using k1, by simpa using k2, by simpa using k3, by simpa using k4⟩
            case measure => simp [intOf]; omega
    · have dle : decide (f + m ≤ T.length) = false := by simpa using hend
      have hs2 : Oc.spans h T = dn := by
        rw [hsp, List.drop_eq_nil_of_le (by omega)]
        have : m = 0 := by omega
        simp [Oc.scan, this]
      have Hs := Oc.hide hs2
      clear hsp hs2
      gi_wp2
      go_end0
      exact ⟨⟨_, rfl⟩, .inl ⟨_, (Oc.unhide Hs).symm, hJd⟩⟩
end Go.Proofs.Ytbkemnfhmaekbaa
