/- The walk through 'set': a span becomes taken, or free. -/
import Derived.Test.YtbkemnfhmaekbaaSpacePlain
import Derived.Test.YtbkemnfhmaekbaaChecked
namespace Oc
open Go Go.RowKit
set_option linter.unusedVariables false
/-- A row of bools that fills a block. -/
def bools (T : List Bool) : Array Value := (T.map Value.bool).toArray
theorem bools_size (T : List Bool) : (bools T).size = T.length := by simp [bools]
theorem bools_get {T : List Bool} {k : Nat} {v : Bool} (h : T[k]? = some v) : (bools T)[k]? = some (.bool v) := by simp [bools, h]
theorem bools_set (T : List Bool) (v : Bool) (f k : Nat) (h : f + k < T.length) : (bools (upd T v f k)).setIfInBounds (f + k) (.bool v) = bools (upd T v f (k + 1)) := by
  apply Array.ext'
  simp only [bools, List.setIfInBounds_toArray]
  apply List.ext_getElem?
  intro i
  rw [List.getElem?_set, List.getElem?_map, List.getElem?_map, upd_get (by omega), upd_get (by omega)]
  by_cases e : f + k = i
  · subst e
    rw [if_pos rfl, if_pos (by rw [List.length_map, upd_length (by omega)]; exact h), if_pos (by omega)]
    rfl
  · rw [if_neg e]
    by_cases h2 : f ≤ i ∧ i < f + k
    · rw [if_pos h2, if_pos (by omega)]
    · rw [if_neg h2, if_neg (by omega)]
theorem upd_zero (T : List Bool) (v : Bool) (f : Nat) : upd T v f 0 = T := by simp [upd]
theorem size_toArray_map {α : Type} (f : α → Value) (l : List α) : (l.map f).toArray.size = l.length := by simp
/-- A space in memory: the struct's block b, its cells' block g. -/
structure Sp (ty tb : Nat) (w : World) (b g h : Nat) (T : List Bool) : Prop where
  str : w.heap[b]? = some (.cells #[.int .i64 (h : Int), .slice (some ⟨g, 0, none⟩) T.length T.length] ty (0, 0))
  row : w.heap[g]? = some (.cells (bools T) tb (0, 0))
  hd : h ≤ T.length
  sz : T.length ≤ 4096
  ne : b ≠ g
theorem Sp.kept {ty tb : Nat} {w w' : World} {b g h : Nat} {T : List Bool} {row : Option Nat} (H : Sp ty tb w b g h T) (hg : w.grownBy w' row) (h1 : row ≠ some b) (h2 : row ≠ some g) : Sp ty tb w' b g h T :=
  ⟨(hg.block _ (Array.getElem?_eq_some_iff.1 H.str).1 (Ne.symm h1)).trans H.str, (hg.block _ (Array.getElem?_eq_some_iff.1 H.row).1 (Ne.symm h2)).trans H.row, H.hd, H.sz, H.ne⟩
end Oc
namespace Go.Proofs.Ytbkemnfhmaekbaa
set_option linter.unusedVariables false
open Go.RowKit
set_option maxHeartbeats 1000000
theorem set_any (b g h : Nat) (T : List Bool) (f m : Int) (v : Bool) (hf : Oc.I f) (hm : Oc.I m) (w : World) (hS : Oc.Sp 48 4 w b g h T) :
    Calls Try.prog 27 #[.pointer (some ⟨b, 0, none⟩), .agg #[.int .i64 f, .int .i64 m], .bool v] w fun e w' =>
      e = .returned (.int .i64 (Oc.setE h T v f m)) ∧ Oc.Sp 48 4 w' b g h (Oc.setT h T v f m) ∧ w.grownBy w' (some g) := by
  obtain ⟨hf0, hf1⟩ := hf
  obtain ⟨hm0, hm1⟩ := hm
  have c0 := cell_of_row w b 0 _ _ _ hS.str
  have c1 := cell_of_row w b 1 _ _ _ hS.str
  have hsz := hS.sz
  have hhd := hS.hd
  simp at c0 c1
  have nb : b < w.heap.size := block_lt_of_cell c0
  have hno : Oc.fits h T (!v) f m = false → Oc.setE h T v f m = 1 ∧ Oc.setT h T v f m = T := fun hx => by unfold Oc.setE Oc.setT; rw [hx]; exact ⟨rfl, rfl⟩
  have hends : ∀ w' : World, (∃ n, w' = (w.alloc (.cells #[.int .i64 f, .int .i64 m] 34)).drewN n) → Oc.Sp 48 4 w' b g h T ∧ w.grownBy w' (some g) := by
    rintro w' ⟨n, rfl⟩
    have hg : w.grownBy ((w.alloc (.cells #[.int .i64 f, .int .i64 m] 34)).drewN n) none := Oc.only_drewN (Oc.only_alloc (Oc.only_refl _ _) _) _
    exact ⟨hS.kept hg (by simp) (by simp), hg.but _⟩
  by_cases h1 : m < 1
  · obtain ⟨hE, hT⟩ := hno (by rw [Bool.eq_false_iff]; intro hx; have := (Oc.fits_iff.1 hx).1; omega)
    rw [hE, hT]
    have d1 : decide (m < 1) = true := by simpa using h1
    clear hno hE hT
    go_enter Try.func27, Try.ntmps27
    go_wp2
    go_quiet (fail)
    go_wp2
    go_ret
    exact ⟨rfl, hends _ ⟨_, rfl⟩⟩
  · have d1 : decide (m < 1) = false := by simpa using h1
    by_cases h2 : f < h
    · obtain ⟨hE, hT⟩ := hno (by rw [Bool.eq_false_iff]; intro hx; have := (Oc.fits_iff.1 hx).2.1; omega)
      rw [hE, hT]
      have d2 : decide (f < (h : Int)) = true := by simpa using h2
      clear hno hE hT
      go_enter Try.func27, Try.ntmps27
      go_wp2
      go_quiet (fail)
      go_wp2
      go_ret
      exact ⟨rfl, hends _ ⟨_, rfl⟩⟩
    · have d2 : decide (f < (h : Int)) = false := by simpa using h2
      by_cases h3 : (T.length : Int) ≤ f
      · obtain ⟨hE, hT⟩ := hno (by rw [Bool.eq_false_iff]; intro hx; have := (Oc.fits_iff.1 hx).2.2.1; omega)
        rw [hE, hT]
        have d3 : decide ((T.length : Int) ≤ f) = true := by simpa using h3
        clear hno hE hT
        go_enter Try.func27, Try.ntmps27
        go_wp2
        go_quiet (fail)
        go_wp2
        go_ret
        exact ⟨rfl, hends _ ⟨_, rfl⟩⟩
      · have d3 : decide ((T.length : Int) ≤ f) = false := by simpa using h3
        by_cases h4 : (T.length : Int) - f < m
        · obtain ⟨hE, hT⟩ := hno (by rw [Bool.eq_false_iff]; intro hx; have := (Oc.fits_iff.1 hx).2.2.2.1; omega)
          rw [hE, hT]
          have d4 : decide ((T.length : Int) - f < m) = true := by simpa using h4
          clear hno hE hT
          go_enter Try.func27, Try.ntmps27
          go_wp2
          go_quiet (fail)
          go_wp2
          go_ret
          exact ⟨rfl, hends _ ⟨_, rfl⟩⟩
        · have d4 : decide ((T.length : Int) - f < m) = false := by simpa using h4
          have k1 : 0 ≤ f := by omega
          have k2 : 0 ≤ m := by omega
          have k3 : f + m ≤ T.length := by omega
          go_enter Try.func27, Try.ntmps27
          go_wp2
          go_quiet (fail)
          go_wp2
          go_quiet (fail)
          go_wp2
          generalize hwq : ((w.alloc (.cells #[.int .i64 f, .int .i64 m] 34)).drewN _) = wq
          obtain ⟨hSq, hgq⟩ := hends wq ⟨_, hwq.symm⟩
          clear hwq hends
          have e1 : (f.toNat : Int) = f := by omega
          have e2 : (((f + m).toNat - f.toNat : Nat) : Int) = m := by omega
          have H1 := Lib.hid e1
          have H2 := Lib.hid e2
          have k4 : f.toNat + ((f + m).toNat - f.toNat) ≤ T.length := by omega
          have k5 : 0 < (f + m).toNat - f.toNat := by omega
          clear e1 e2
          generalize (f + m).toNat - f.toNat = mn at *
          generalize f.toNat = fn at *
          go_loop [60] (fun i => ∃ k : Nat, k ≤ mn ∧ i = .int .i64 k ∧ ∀ j, fn ≤ j → j < fn + k → T[j]? = some (!v)) (fun i => mn - (intOf i).toNat)
          case atStart => exact ⟨0, by omega, rfl, fun j h1 h2 => by omega⟩
          case round =>
            obtain ⟨k, hk, rfl, hall⟩ := hrel
            have Hall := Oc.hide hall
            clear hall
            by_cases hkm : k < mn
            · have dk : decide (k < mn) = true := by simpa using hkm
              obtain ⟨t, ht⟩ : ∃ t, T[fn + k]? = some t := ⟨_, List.getElem?_eq_getElem (by omega)⟩
              have rk : wq.cell? ⟨g, fn + k, none⟩ = some (.bool t) := by rw [cell_of_row wq g (fn + k) _ _ _ hSq.row]; exact Oc.bools_get ht
              have Ht := Lib.hid ht
              clear ht
              by_cases htv : t = v
              · subst htv
                have hfin := hno (by
                  rw [Bool.eq_false_iff]; intro hx
                  have := (Oc.fits_iff.1 hx).2.2.2.2 (fn + k) (by have := H1.out; omega) (by have := H1.out; have := H2.out; omega)
                  rw [Ht.out] at this
                  cases t <;> simp at this)
                have Hf := Oc.hide hfin
                clear hfin hno
                go_wp2
                go_ret
                rw [(Oc.unhide Hf).1, (Oc.unhide Hf).2]
                exact ⟨rfl, hSq, hgq⟩
              · have dtv : (t == v) = false := by simpa using htv
                go_wp2
                go_round
                case rel =>
                  refine ⟨k + 1, by omega, by go_num, fun j h1 h2 => ?_⟩
                  by_cases e : j = fn + k
                  · rw [e, Ht.out]; cases t <;> cases v <;> simp_all
                  · exact Oc.unhide Hall j h1 (by omega)
                case measure => simp [intOf]; omega
            · obtain rfl : k = mn := by omega
              have hfit : Oc.fits h T (!v) f m = true := Oc.fits_iff.2 ⟨by omega, by omega, by omega, by omega, fun j h1 h2 => Oc.unhide Hall j (by have := H1.out; omega) (by have := H1.out; have := H2.out; omega)⟩
              have hfin : Oc.setE h T v f m = 0 ∧ Oc.setT h T v f m = Oc.upd T v fn k := by
                unfold Oc.setE Oc.setT
                rw [hfit, show f.toNat = fn by have := H1.out; omega, show m.toNat = k by have := H2.out; omega]
                exact ⟨rfl, rfl⟩
              have Hf := Oc.hide hfin
              clear hfin hfit hno Hall
              have hR0 : wq.heap[g]? = some (.cells (Oc.bools (Oc.upd T v fn 0)) 4 (0, 0)) := by rw [Oc.upd_zero]; exact hSq.row
              have HR0 := Oc.hide hR0
              clear hR0
              go_wp2
              go_loopw [70] (fun i wr => ∃ j : Nat, j ≤ k ∧ i = .int .i64 j ∧ wr.heap[g]? = some (.cells (Oc.bools (Oc.upd T v fn j)) 4 (0, 0)) ∧ w.grownBy wr (some g)) (fun i _ => k - (intOf i).toNat)
              case atStart => exact ⟨0, by omega, rfl, Oc.unhide HR0, hgq⟩
              case round =>
                obtain ⟨j, hj, rfl, hrow, hgr⟩ := hrel
                by_cases hjk : j < k
                · have dk : decide (j < k) = true := by simpa using hjk
                  have rc : wr.cell? ⟨g, fn + j, none⟩ = some (.bool ((Oc.upd T v fn j)[fn + j]'(by rw [Oc.upd_length (by omega)]; omega))) := by
                    rw [cell_of_row wr g (fn + j) _ _ _ hrow]
                    exact Oc.bools_get (List.getElem?_eq_getElem _)
                  have rf := frozen_of_row wr g (fn + j) _ _ hrow
                  have hset := heap_setCell_same wr g (fn + j) _ _ (.bool v) hrow
                  rw [Oc.bools_set T v fn j (by omega)] at hset
                  have Hset := Oc.hide hset
                  have hgr' := Oc.only_setCell hgr (p := ⟨g, fn + j, none⟩) (.inl rfl) (.bool v)
                  clear hset hrow
                  generalize ((Oc.upd T v fn j)[fn + j]'_) = old at rc
                  go_wp2
                  go_roundw
                  case rel => exact ⟨j + 1, by omega, by go_num, Oc.unhide Hset, hgr'⟩
                  case measure => simp [intOf]; omega
                · obtain rfl : j = k := by omega
                  go_wp2
                  go_ret
                  rw [(Oc.unhide Hf).1, (Oc.unhide Hf).2]
                  refine ⟨rfl, ⟨?_, hrow, ?_, ?_, hS.ne⟩, hgr⟩
                  · rw [Oc.upd_length (by omega)]
                    exact (hgr.block b nb (by simpa using hS.ne)).trans hS.str
                  · rw [Oc.upd_length (by omega)]; exact hhd
                  · rw [Oc.upd_length (by omega)]; exact hsz
end Go.Proofs.Ytbkemnfhmaekbaa
