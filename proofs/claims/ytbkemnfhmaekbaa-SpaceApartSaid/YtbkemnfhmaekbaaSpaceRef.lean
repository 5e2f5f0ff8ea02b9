/- The walks through the reference: may, Mark, Free, Take. -/
import Derived.Test.YtbkemnfhmaekbaaSpaceWalks
namespace Oc
theorem allIs_false_iff {T : List Bool} {v : Bool} {f m : Nat} {h : Nat} (k : Nat) (hk : k < m) (hkT : T[f + k]? = some (!v)) : fits h T v f m = false := by
  rw [Bool.eq_false_iff]; intro hx
  have := (fits_iff.1 hx).2.2.2.2 (f + k) (by omega) (by omega)
  rw [hkT] at this
  cases v <;> simp at this
theorem takeN_at {h : Nat} {T : List Bool} {n : Int} (hn : 1 ≤ n) {i : Nat} (hi : h ≤ i) (hfit : fits h T false i n = true) (hno : ∀ j : Nat, h ≤ j → j < i → fits h T false j n = false) :
    takeN h T n = ((i : Int), 0, upd T true i n.toNat) := by
  obtain ⟨n', rfl⟩ := Int.eq_ofNat_of_zero_le (show 0 ≤ n by omega)
  have hn' : 1 ≤ n' := by omega
  obtain ⟨_, _, _, hF⟩ := free_fits hfit
  have hs := spans_find h T n' hn'
  unfold takeN
  rw [if_neg (by omega)]
  have e : (spans h T).find? (fun x => decide (((n' : Nat) : Int) ≤ (x.2 : Nat))) = (spans h T).find? (fun x => decide (n' ≤ x.2)) := by
    congr 1; funext x; simp
  rw [e]
  cases hx : (spans h T).find? (fun x => decide (n' ≤ x.2)) with
  | none => rw [hx] at hs; exact absurd hF (hs i hi)
  | some x =>
    rw [hx] at hs
    obtain ⟨a1, a2, a3, a4⟩ := hs
    have hxi : x.1 = i := by
      rcases Nat.lt_trichotomy x.1 i with hlt | he | hgt
      · have := hno x.1 a1 hlt
        rw [fits_free hn' a1 a3] at this; cases this
      · exact he
      · exact absurd hF (a4 i hi hgt)
    show (((x.1 : Nat) : Int), (0 : Int), upd T true x.1 _) = _
    rw [hxi]
theorem takeN_full {h : Nat} {T : List Bool} {n : Int} (hn : 1 ≤ n) (hno : ∀ j : Nat, h ≤ j → j < T.length → fits h T false j n = false) : takeN h T n = (0, 7, T) := by
  obtain ⟨n', rfl⟩ := Int.eq_ofNat_of_zero_le (show 0 ≤ n by omega)
  have hn' : 1 ≤ n' := by omega
  have hs := spans_find h T n' hn'
  unfold takeN
  rw [if_neg (by omega)]
  have e : (spans h T).find? (fun x => decide (((n' : Nat) : Int) ≤ (x.2 : Nat))) = (spans h T).find? (fun x => decide (n' ≤ x.2)) := by
    congr 1; funext x; simp
  rw [e]
  cases hx : (spans h T).find? (fun x => decide (n' ≤ x.2)) with
  | none => rfl
  | some x =>
    rw [hx] at hs
    obtain ⟨a1, a2, a3, a4⟩ := hs
    have h1 := fits_free hn' a1 a3
    have h2 := (free_fits h1).2.2.1
    rw [hno x.1 a1 (by omega)] at h1; cases h1
end Oc
namespace Go.Proofs.Ytbkemnfhmaekbaa
set_option linter.unusedVariables false
open Go.RowKit
set_option maxHeartbeats 1000000
theorem may_any (b g h : Nat) (T : List Bool) (f m : Int) (v : Bool) (hf : Oc.I f) (hm : Oc.I m) (w : World) (hS : Oc.Sp 50 4 w b g h T) :
    Calls Try.prog 28 #[.pointer (some ⟨b, 0, none⟩), .agg #[.int .i64 f, .int .i64 m], .bool v] w fun e w' =>
      e = .returned (.bool (Oc.fits h T v f m)) ∧ w.grownBy w' none := by
  obtain ⟨hf0, hf1⟩ := hf
  obtain ⟨hm0, hm1⟩ := hm
  obtain ⟨c0, c1, nb, _⟩ := hS.cells
  have hsz := hS.sz
  have hhd := hS.hd
  have hends : ∀ w' : World, (∃ n, w' = (w.alloc (.cells #[.int .i64 f, .int .i64 m] 34)).drewN n) → w.grownBy w' none := by
    rintro w' ⟨n, rfl⟩
    exact Oc.only_drewN (Oc.only_alloc (Oc.only_refl _ _) _) _
  by_cases h1 : m < 1
  · have hE : Oc.fits h T v f m = false := by rw [Bool.eq_false_iff]; intro hx; have := (Oc.fits_iff.1 hx).1; omega
    rw [hE]
    have d1 : decide (m < 1) = true := by simpa using h1
    clear hE
    go_enter Try.func28, Try.ntmps28
    go_wp2
    go_quiet (fail)
    go_wp2
    go_ret
    exact ⟨rfl, hends _ ⟨_, rfl⟩⟩
  · have d1 : decide (m < 1) = false := by simpa using h1
    by_cases h2 : f < h
    · have hE : Oc.fits h T v f m = false := by rw [Bool.eq_false_iff]; intro hx; have := (Oc.fits_iff.1 hx).2.1; omega
      rw [hE]
      have d2 : decide (f < (h : Int)) = true := by simpa using h2
      clear hE
      go_enter Try.func28, Try.ntmps28
      go_wp2
      go_quiet (fail)
      go_wp2
      go_ret
      exact ⟨rfl, hends _ ⟨_, rfl⟩⟩
    · have d2 : decide (f < (h : Int)) = false := by simpa using h2
      by_cases h3 : (T.length : Int) ≤ f
      · have hE : Oc.fits h T v f m = false := by rw [Bool.eq_false_iff]; intro hx; have := (Oc.fits_iff.1 hx).2.2.1; omega
        rw [hE]
        have d3 : decide ((T.length : Int) ≤ f) = true := by simpa using h3
        clear hE
        go_enter Try.func28, Try.ntmps28
        go_wp2
        go_quiet (fail)
        go_wp2
        go_ret
        exact ⟨rfl, hends _ ⟨_, rfl⟩⟩
      · have d3 : decide ((T.length : Int) ≤ f) = false := by simpa using h3
        by_cases h4 : (T.length : Int) - f < m
        · have hE : Oc.fits h T v f m = false := by rw [Bool.eq_false_iff]; intro hx; have := (Oc.fits_iff.1 hx).2.2.2.1; omega
          rw [hE]
          have d4 : decide ((T.length : Int) - f < m) = true := by simpa using h4
          clear hE
          go_enter Try.func28, Try.ntmps28
          go_wp2
          go_quiet (fail)
          go_wp2
          go_ret
          exact ⟨rfl, hends _ ⟨_, rfl⟩⟩
        · have d4 : decide ((T.length : Int) - f < m) = false := by simpa using h4
          have k1 : 0 ≤ f := by omega
          have k2 : 0 ≤ m := by omega
          have k3 : f + m ≤ T.length := by omega
          go_enter Try.func28, Try.ntmps28
          go_wp2
          go_quiet (fail)
          go_wp2
          generalize hwq : ((w.alloc (.cells #[.int .i64 f, .int .i64 m] 34)).drewN _) = wq
          have hgq := hends wq ⟨_, hwq.symm⟩
          have hx : wq.heap[w.heap.size]? = some (.cells #[.int .i64 f, .int .i64 m] 34 (0, 0)) := by rw [← hwq]; exact heap_alloc_new w _
          have hSq := hS.kept hgq (by simp) (by simp)
          clear hwq hends c0 c1 nb
          obtain ⟨c0, c1, nb, _⟩ := hSq.cells
          have x0 := cell_of_row wq w.heap.size 0 _ _ _ hx
          have x1 := cell_of_row wq w.heap.size 1 _ _ _ hx
          simp at x0 x1
          go_loop [7] (fun i => ∃ k : Nat, (k : Int) ≤ m ∧ i = .int .i64 (f + k) ∧ ∀ j : Nat, f ≤ j → (j : Int) < f + k → T[j]? = some v) (fun i => (f + m - intOf i).toNat)
          case atStart => exact ⟨0, by omega, by simp, fun j h1 h2 => by omega⟩
          case round =>
            obtain ⟨k, hk, rfl, hall⟩ := hrel
            have Hall := Oc.hide hall
            clear hall
            by_cases hkm : (k : Int) < m
            · have dk : decide (f + (k : Int) < f + m) = true := by simpa using hkm
              obtain ⟨t, ht⟩ : ∃ t, T[(f + (k : Int)).toNat]? = some t := ⟨_, List.getElem?_eq_getElem (by omega)⟩
              have rk : wq.cell? ⟨g, (f + (k : Int)).toNat, none⟩ = some (.bool t) := by rw [cell_of_row wq g _ _ _ _ hSq.row]; exact Oc.bools_get ht
              have Ht := Lib.hid ht
              clear ht
              have k4 : 0 ≤ f + (k : Int) := by omega
              have k5 : f + (k : Int) < T.length := by omega
              have k6 : f + (k : Int) ≤ 4096 := by omega
              by_cases htv : t = v
              · have dtv : (t == v) = true := by simpa using htv
                have dtv' : (t != v) = false := by simpa using htv
                go_wp2
                go_round
                case rel =>
                  refine ⟨k + 1, by omega, by go_num, fun j h1 h2 => ?_⟩
                  by_cases e : (j : Int) = f + k
                  · rw [show j = (f + (k : Int)).toNat by omega, Ht.out, htv]
                  · exact Oc.unhide Hall j h1 (by omega)
                case measure => simp [intOf]; omega
              · have dtv : (t == v) = false := by simpa using htv
                have dtv' : (t != v) = true := by simpa using htv
                go_wp2
                go_ret
                refine ⟨Oc.ret_bool ?_, hgq⟩
                symm
                rw [Bool.eq_false_iff]; intro hx
                have := (Oc.fits_iff.1 hx).2.2.2.2 (f + (k : Int)).toNat (by omega) (by omega)
                rw [Ht.out] at this
                exact htv (by simpa using this)
            · have dk : decide (f + (k : Int) < f + m) = false := by simpa using hkm
              go_wp2
              go_ret
              refine ⟨Oc.ret_bool ?_, hgq⟩
              symm
              exact Oc.fits_iff.2 ⟨by omega, by omega, by omega, by omega, fun j h1 h2 => Oc.unhide Hall j h1 (by omega)⟩
theorem rMark_any (b g h : Nat) (T : List Bool) (f m : Int) (hf : Oc.I f) (hm : Oc.I m) (w : World) (hS : Oc.Sp 50 4 w b g h T) :
    Calls Try.prog 17 #[.pointer (some ⟨b, 0, none⟩), .agg #[.int .i64 f, .int .i64 m]] w fun e w' =>
      e = .returned (.int .i64 (Oc.setE h T true f m)) ∧ Oc.Sp 50 4 w' b g h (Oc.setT h T true f m) ∧ w.grownBy w' (some g) := by
  have hg := World.grownBy_alloc w (.cells #[.int .i64 f, .int .i64 m] 34) none
  have hS1 := hS.kept hg (by simp) (by simp)
  have hsz := hS.sz
  have hgl := hS.cells.2.2.2
  have hnb := hS.cells.2.2.1
  by_cases hfit : Oc.fits h T false f m = true
  · have hE : Oc.setE h T true f m = 0 ∧ Oc.setT h T true f m = Oc.upd T true f.toNat m.toNat := by
      unfold Oc.setE Oc.setT
      rw [show (!true) = false from rfl, if_pos hfit, if_pos hfit]; exact ⟨rfl, rfl⟩
    obtain ⟨q1, q2, q3, q4, _⟩ := Oc.fits_iff.1 hfit
    have HE := Oc.hide hE
    have Hfit := Lib.hid hfit
    clear hE hfit
    go_enter Try.func17, Try.ntmps17
    go_wp2_with fail
    refine (may_any b g h T f m false hf hm _ hS1).mono ?_
    rintro e w1 ⟨rfl, hg1⟩
    rw [Hfit.out]
    have hSq := hS1.kept hg1 (by simp) (by simp)
    have hx : w1.heap[w.heap.size]? = some (.cells #[.int .i64 f, .int .i64 m] 34 (0, 0)) := (hg1.block _ (by simp) (by simp)).trans (heap_alloc_new w _)
    have x0 := cell_of_row w1 w.heap.size 0 _ _ _ hx
    simp at x0
    go_wp2_with fail
    have hR0 : w1.heap[g]? = some (.cells (Oc.bools (Oc.upd T true f.toNat 0)) 4 (0, 0)) := by rw [Oc.upd_zero]; exact hSq.row
    have hgw : w.grownBy w1 (some g) := (Oc.only_trans hg hg1).but _
    have HR0 := Oc.hide hR0
    have hstr := hSq.str
    clear hR0 hS1 hSq x0
    go_loopw [6] (fun i wr => ∃ j : Nat, (j : Int) ≤ m ∧ i = .int .i64 (f + j) ∧ wr.heap[g]? = some (.cells (Oc.bools (Oc.upd T true f.toNat j)) 4 (0, 0)) ∧ w1.grownBy wr (some g)) (fun i _ => (f + m - intOf i).toNat)
    case atStart => exact ⟨0, by omega, by simp, Oc.unhide HR0, Oc.only_refl _ _⟩
    case round =>
      obtain ⟨j, hj, rfl, hrow, hgr⟩ := hrel
      have hxr : wr.heap[w.heap.size]? = some _ := (hgr.block _ (Array.getElem?_eq_some_iff.1 hx).1 (by simp; omega)).trans hx
      have x0 := cell_of_row wr w.heap.size 0 _ _ _ hxr
      have x1 := cell_of_row wr w.heap.size 1 _ _ _ hxr
      have hstr' : wr.heap[b]? = some _ := (hgr.block _ (Array.getElem?_eq_some_iff.1 hstr).1 (by simp; exact hS.ne)).trans hstr
      have c1 := cell_of_row wr b 1 _ _ _ hstr'
      simp at x0 x1 c1
      by_cases hjk : (j : Int) < m
      · have dk : decide (f + (j : Int) < f + m) = true := by simpa using hjk
        have k4 : 0 ≤ f + (j : Int) := by omega
        have k5 : f + (j : Int) < T.length := by omega
        have k6 : (f + (j : Int)).toNat = f.toNat + j := by omega
        have rc : wr.cell? ⟨g, (f + (j : Int)).toNat, none⟩ = some (.bool ((Oc.upd T true f.toNat j)[f.toNat + j]'(by rw [Oc.upd_length (by omega)]; omega))) := by
          rw [k6, cell_of_row wr g (f.toNat + j) _ _ _ hrow]
          exact Oc.bools_get (List.getElem?_eq_getElem _)
        have rf : wr.frozen? ⟨g, (f + (j : Int)).toNat, none⟩ = false := frozen_of_row wr g _ _ _ hrow
        have hset := heap_setCell_same wr g (f + (j : Int)).toNat _ _ (.bool true) hrow
        rw [show (Oc.bools (Oc.upd T true f.toNat j)).setIfInBounds (f + (j : Int)).toNat (.bool true) = Oc.bools (Oc.upd T true f.toNat (j + 1)) by rw [k6]; exact Oc.bools_set T true f.toNat j (by omega)] at hset
        have Hset := Oc.hide hset
        have hgr' := Oc.only_setCell hgr (p := ⟨g, (f + (j : Int)).toNat, none⟩) (.inl rfl) (.bool true)
        generalize ((Oc.upd T true f.toNat j)[f.toNat + j]'_) = old at rc
        clear hset hrow k6
        go_wp2
        go_roundw
        case rel => exact ⟨j + 1, by omega, by go_num, Oc.unhide Hset, hgr'⟩
        case measure => simp [intOf]; omega
      · have dk : decide (f + (j : Int) < f + m) = false := by simpa using hjk
        obtain rfl : m = (j : Int) := by omega
        go_wp2
        go_ret
        rw [(Oc.unhide HE).1, (Oc.unhide HE).2]
        rw [Int.toNat_natCast]
        refine ⟨rfl, ⟨?_, hrow, ?_, ?_, hS.ne⟩, Oc.only_trans hgw hgr⟩
        · rw [Oc.upd_length (by omega)]
          exact hstr'
        · rw [Oc.upd_length (by omega)]; exact hS.hd
        · rw [Oc.upd_length (by omega)]; exact hsz
  · have hfit' : Oc.fits h T false f m = false := by simpa using hfit
    have hE : Oc.setE h T true f m = 1 ∧ Oc.setT h T true f m = T := by
      unfold Oc.setE Oc.setT
      rw [show (!true) = false from rfl, if_neg hfit, if_neg hfit]; exact ⟨rfl, rfl⟩
    rw [hE.1, hE.2]
    have Hfit := Lib.hid hfit'
    clear hE hfit hfit'
    go_enter Try.func17, Try.ntmps17
    go_wp2_with fail
    refine (may_any b g h T f m false hf hm _ hS1).mono ?_
    rintro e w1 ⟨rfl, hg1⟩
    rw [Hfit.out]
    go_wp2_with fail
    go_ret
    exact ⟨rfl, hS1.kept hg1 (by simp) (by simp), (Oc.only_trans hg hg1).but _⟩
theorem rFree_any (b g h : Nat) (T : List Bool) (f m : Int) (hf : Oc.I f) (hm : Oc.I m) (w : World) (hS : Oc.Sp 50 4 w b g h T) :
    Calls Try.prog 19 #[.pointer (some ⟨b, 0, none⟩), .agg #[.int .i64 f, .int .i64 m]] w fun e w' =>
      e = .returned (.int .i64 (Oc.setE h T false f m)) ∧ Oc.Sp 50 4 w' b g h (Oc.setT h T false f m) ∧ w.grownBy w' (some g) := by
  have hg := World.grownBy_alloc w (.cells #[.int .i64 f, .int .i64 m] 34) none
  have hS1 := hS.kept hg (by simp) (by simp)
  have hsz := hS.sz
  have hgl := hS.cells.2.2.2
  have hnb := hS.cells.2.2.1
  by_cases hfit : Oc.fits h T true f m = true
  · have hE : Oc.setE h T false f m = 0 ∧ Oc.setT h T false f m = Oc.upd T false f.toNat m.toNat := by
      unfold Oc.setE Oc.setT
      rw [show (!false) = true from rfl, if_pos hfit, if_pos hfit]; exact ⟨rfl, rfl⟩
    obtain ⟨q1, q2, q3, q4, _⟩ := Oc.fits_iff.1 hfit
    have HE := Oc.hide hE
    have Hfit := Lib.hid hfit
    clear hE hfit
    go_enter Try.func19, Try.ntmps19
    go_wp2_with fail
    refine (may_any b g h T f m true hf hm _ hS1).mono ?_
    rintro e w1 ⟨rfl, hg1⟩
    rw [Hfit.out]
    have hSq := hS1.kept hg1 (by simp) (by simp)
    have hx : w1.heap[w.heap.size]? = some (.cells #[.int .i64 f, .int .i64 m] 34 (0, 0)) := (hg1.block _ (by simp) (by simp)).trans (heap_alloc_new w _)
    have x0 := cell_of_row w1 w.heap.size 0 _ _ _ hx
    simp at x0
    go_wp2_with fail
    have hR0 : w1.heap[g]? = some (.cells (Oc.bools (Oc.upd T false f.toNat 0)) 4 (0, 0)) := by rw [Oc.upd_zero]; exact hSq.row
    have hgw : w.grownBy w1 (some g) := (Oc.only_trans hg hg1).but _
    have HR0 := Oc.hide hR0
    have hstr := hSq.str
    clear hR0 hS1 hSq x0
    go_loopw [6] (fun i wr => ∃ j : Nat, (j : Int) ≤ m ∧ i = .int .i64 (f + j) ∧ wr.heap[g]? = some (.cells (Oc.bools (Oc.upd T false f.toNat j)) 4 (0, 0)) ∧ w1.grownBy wr (some g)) (fun i _ => (f + m - intOf i).toNat)
    case atStart => exact ⟨0, by omega, by simp, Oc.unhide HR0, Oc.only_refl _ _⟩
    case round =>
      obtain ⟨j, hj, rfl, hrow, hgr⟩ := hrel
      have hxr : wr.heap[w.heap.size]? = some _ := (hgr.block _ (Array.getElem?_eq_some_iff.1 hx).1 (by simp; omega)).trans hx
      have x0 := cell_of_row wr w.heap.size 0 _ _ _ hxr
      have x1 := cell_of_row wr w.heap.size 1 _ _ _ hxr
      have hstr' : wr.heap[b]? = some _ := (hgr.block _ (Array.getElem?_eq_some_iff.1 hstr).1 (by simp; exact hS.ne)).trans hstr
      have c1 := cell_of_row wr b 1 _ _ _ hstr'
      simp at x0 x1 c1
      by_cases hjk : (j : Int) < m
      · have dk : decide (f + (j : Int) < f + m) = true := by simpa using hjk
        have k4 : 0 ≤ f + (j : Int) := by omega
        have k5 : f + (j : Int) < T.length := by omega
        have k6 : (f + (j : Int)).toNat = f.toNat + j := by omega
        have rc : wr.cell? ⟨g, (f + (j : Int)).toNat, none⟩ = some (.bool ((Oc.upd T false f.toNat j)[f.toNat + j]'(by rw [Oc.upd_length (by omega)]; omega))) := by
          rw [k6, cell_of_row wr g (f.toNat + j) _ _ _ hrow]
          exact Oc.bools_get (List.getElem?_eq_getElem _)
        have rf : wr.frozen? ⟨g, (f + (j : Int)).toNat, none⟩ = false := frozen_of_row wr g _ _ _ hrow
        have hset := heap_setCell_same wr g (f + (j : Int)).toNat _ _ (.bool false) hrow
        rw [show (Oc.bools (Oc.upd T false f.toNat j)).setIfInBounds (f + (j : Int)).toNat (.bool false) = Oc.bools (Oc.upd T false f.toNat (j + 1)) by rw [k6]; exact Oc.bools_set T false f.toNat j (by omega)] at hset
        have Hset := Oc.hide hset
        have hgr' := Oc.only_setCell hgr (p := ⟨g, (f + (j : Int)).toNat, none⟩) (.inl rfl) (.bool false)
        generalize ((Oc.upd T false f.toNat j)[f.toNat + j]'_) = old at rc
        clear hset hrow k6
        go_wp2
        go_roundw
        case rel => exact ⟨j + 1, by omega, by go_num, Oc.unhide Hset, hgr'⟩
        case measure => simp [intOf]; omega
      · have dk : decide (f + (j : Int) < f + m) = false := by simpa using hjk
        obtain rfl : m = (j : Int) := by omega
        go_wp2
        go_ret
        rw [(Oc.unhide HE).1, (Oc.unhide HE).2]
        rw [Int.toNat_natCast]
        refine ⟨rfl, ⟨?_, hrow, ?_, ?_, hS.ne⟩, Oc.only_trans hgw hgr⟩
        · rw [Oc.upd_length (by omega)]
          exact hstr'
        · rw [Oc.upd_length (by omega)]; exact hS.hd
        · rw [Oc.upd_length (by omega)]; exact hsz
  · have hfit' : Oc.fits h T true f m = false := by simpa using hfit
    have hE : Oc.setE h T false f m = 1 ∧ Oc.setT h T false f m = T := by
      unfold Oc.setE Oc.setT
      rw [show (!false) = true from rfl, if_neg hfit, if_neg hfit]; exact ⟨rfl, rfl⟩
    rw [hE.1, hE.2]
    have Hfit := Lib.hid hfit'
    clear hE hfit hfit'
    go_enter Try.func19, Try.ntmps19
    go_wp2_with fail
    refine (may_any b g h T f m true hf hm _ hS1).mono ?_
    rintro e w1 ⟨rfl, hg1⟩
    rw [Hfit.out]
    go_wp2_with fail
    go_ret
    exact ⟨rfl, hS1.kept hg1 (by simp) (by simp), (Oc.only_trans hg hg1).but _⟩
def RTakePost (b g h : Nat) (T : List Bool) (n : Int) (w : World) (e : Ending) (w' : World) : Prop :=
  e = .returned (.tuple #[.int .i64 (Oc.takeN h T n).1, .int .i64 (Oc.takeN h T n).2.1]) ∧ Oc.Sp 50 4 w' b g h (Oc.takeN h T n).2.2 ∧ w.grownBy w' (some g)
theorem rtake_any (b g h : Nat) (T : List Bool) (n : Int) (hn2 : Oc.I n) (w : World) (hS : Oc.Sp 50 4 w b g h T) :
    Calls Try.prog 15 #[.pointer (some ⟨b, 0, none⟩), .int .i64 n] w (RTakePost b g h T n w) := by
  have hsz := hS.sz
  have hhd := hS.hd
  by_cases hn : n < 1
  · have dn : decide (n < 1) = true := by simpa using hn
    have ht : Oc.takeN h T n = (0, 1, T) := by unfold Oc.takeN; rw [if_pos hn]
    unfold RTakePost
    rw [ht]
    clear ht
    go_enter Try.func15, Try.ntmps15
    go_wp2
    go_ret2
    exact ⟨rfl, hS, Oc.only_refl _ _⟩
  · have dn : decide (n < 1) = false := by simpa using hn
    obtain ⟨c0, c1, nb, _⟩ := hS.cells
    go_enter Try.func15, Try.ntmps15
    go_wp2
    clear c0 c1 nb
    go_loopw [6] (fun i wr => ∃ k : Nat, h ≤ k ∧ k ≤ T.length ∧ i = .int .i64 k ∧ (∀ j : Nat, h ≤ j → j < k → Oc.fits h T false j n = false) ∧ Oc.Sp 50 4 wr b g h T ∧ w.grownBy wr (some g)) (fun i _ => T.length - (intOf i).toNat)
    case atStart => exact ⟨h, by omega, by omega, rfl, fun j h1 h2 => by omega, hS, Oc.only_refl _ _⟩
    case round =>
      obtain ⟨k, hk1, hk2, rfl, hno, hSr, hgr⟩ := hrel
      have Hno := Oc.hide hno
      clear hno
      obtain ⟨c0, c1, nb, _⟩ := hSr.cells
      by_cases hlt : k < T.length
      · have dk : decide (k < T.length) = true := by simpa using hlt
        go_wp2_with fail
        refine (rMark_any b g h T k n (by unfold Oc.I; omega) hn2 _ hSr).mono ?_
        rintro e w1 ⟨rfl, hS1, hg1⟩
        by_cases hfit : Oc.fits h T false k n = true
        · have hE : Oc.setE h T true k n = 0 ∧ Oc.setT h T true k n = Oc.upd T true k n.toNat := by
            unfold Oc.setE Oc.setT
            rw [show (!true) = false from rfl, if_pos hfit, if_pos hfit]; exact ⟨rfl, rfl⟩
          rw [hE.1]
          rw [hE.2] at hS1
          have Ht := Lib.hid (Oc.takeN_at (by omega) hk1 hfit (Oc.unhide Hno))
          clear hE hfit
          go_wp2
          go_ret2
          unfold RTakePost
          rw [Ht.out]
          exact ⟨rfl, hS1, Oc.only_trans hgr hg1⟩
        · have hE : Oc.setE h T true k n = 1 ∧ Oc.setT h T true k n = T := by
            unfold Oc.setE Oc.setT
            rw [show (!true) = false from rfl, if_neg hfit, if_neg hfit]; exact ⟨rfl, rfl⟩
          rw [hE.1]
          rw [hE.2] at hS1
          have Hf := Lib.hid (show Oc.fits h T false k n = false by simpa using hfit)
          clear hE hfit c0 c1 nb
          go_wp2
          go_roundw
          case rel =>
            refine ⟨k + 1, by omega, by omega, by go_num, fun j h1 h2 => ?_, hS1, Oc.only_trans hgr hg1⟩
            by_cases e : j = k
            · rw [e]; exact Hf.out
            · exact Oc.unhide Hno j h1 (by omega)
          case measure => simp [intOf]; omega
      · have dk : decide (k < T.length) = false := by simpa using hlt
        have Ht := Lib.hid (Oc.takeN_full (n := n) (by omega) fun j h1 h2 => Oc.unhide Hno j h1 (by omega))
        go_wp2
        go_ret2
        unfold RTakePost
        rw [Ht.out]
        exact ⟨rfl, hSr, hgr⟩
end Go.Proofs.Ytbkemnfhmaekbaa
