/- The walk through slices.Compact at files. -/
import Derived.Test.YtnlbdmciaodohaaDiskDed
import Derived.Test.YtnlbdmciaodohaaDiskSort
import Derived.Test.YtnlbdmciaodohaaDiskAwake
import Derived.Lib.SliceRun
import Derived.Deep.LoopGhost
namespace Oc
open Go Go.RowKit
theorem RowC.take {C : Array Value} {L : List Fl} (h : RowC C L) (k : Nat) : RowC C (L.take k) := fun i x hx => by
  refine h i x ?_
  rw [List.getElem?_take] at hx
  split at hx
  · exact hx
  · cases hx
/-- .. from some place on. -/
def RowR (C : Array Value) (L : List Fl) (o : Nat) : Prop := ∀ i x, o ≤ i → L[i]? = some x → C[i * 3]? = some (.int .i64 x.1) ∧ C[i * 3 + 1]? = some (.int .i64 x.2.1) ∧ C[i * 3 + 2]? = some (.int .i64 x.2.2)
theorem set3_get (C : Array Value) (o : Nat) (a b c : Value) (k : Nat) (h : o + 2 < C.size) :
    (((C.setIfInBounds o a).setIfInBounds (o + 1) b).setIfInBounds (o + 2) c)[k]? = if k = o then some a else if k = o + 1 then some b else if k = o + 2 then some c else C[k]? := by
  rw [Array.getElem?_setIfInBounds, Array.getElem?_setIfInBounds, Array.getElem?_setIfInBounds]
  by_cases h1 : k = o
  · subst h1; simp; omega
  · by_cases h2 : k = o + 1
    · subst h2; simp; omega
    · by_cases h3 : k = o + 2
      · subst h3; simp; omega
      · rw [if_neg (by omega), if_neg (by omega), if_neg (by omega), if_neg h1, if_neg h2, if_neg h3]
theorem set3_row {C : Array Value} {D : List Fl} {kk : Nat} {q : Fl} (h : RowC C D) (hk : D.length = kk) (hs : kk * 3 + 2 < C.size) :
    RowC (((C.setIfInBounds (kk * 3) (.int .i64 q.1)).setIfInBounds (kk * 3 + 1) (.int .i64 q.2.1)).setIfInBounds (kk * 3 + 2) (.int .i64 q.2.2)) (D ++ [q]) := by
  intro i x hx
  rw [set3_get _ _ _ _ _ _ hs, set3_get _ _ _ _ _ _ hs, set3_get _ _ _ _ _ _ hs]
  rw [List.getElem?_append] at hx
  split at hx
  · next hi =>
    obtain ⟨h0, h1, h2⟩ := h i x hx
    refine ⟨?_, ?_, ?_⟩
    · rw [if_neg (by omega), if_neg (by omega), if_neg (by omega), h0]
    · rw [if_neg (by omega), if_neg (by omega), if_neg (by omega), h1]
    · rw [if_neg (by omega), if_neg (by omega), if_neg (by omega), h2]
  · next hi =>
    have hi0 : i = kk := by
      rcases Nat.eq_or_lt_of_le (show D.length ≤ i by omega) with e | e
      · omega
      · rw [List.getElem?_eq_none (by simp; omega)] at hx; cases hx
    subst hi0
    rw [hk, Nat.sub_self] at hx
    obtain rfl : q = x := by simpa using hx
    exact ⟨by rw [if_pos rfl], by rw [if_neg (by omega), if_pos rfl], by rw [if_neg (by omega), if_neg (by omega), if_pos rfl]⟩
theorem set3_rest {C : Array Value} {L : List Fl} {o o' kk : Nat} {a b c : Value} (h : RowR C L o) (hk : kk < o') (ho : o ≤ o') (hs : kk * 3 + 2 < C.size) :
    RowR (((C.setIfInBounds (kk * 3) a).setIfInBounds (kk * 3 + 1) b).setIfInBounds (kk * 3 + 2) c) L o' := by
  intro i x hi hx
  rw [set3_get _ _ _ _ _ _ hs, set3_get _ _ _ _ _ _ hs, set3_get _ _ _ _ _ _ hs]
  obtain ⟨h0, h1, h2⟩ := h i x (by omega) hx
  refine ⟨?_, ?_, ?_⟩
  · rw [if_neg (by omega), if_neg (by omega), if_neg (by omega), h0]
  · rw [if_neg (by omega), if_neg (by omega), if_neg (by omega), h1]
  · rw [if_neg (by omega), if_neg (by omega), if_neg (by omega), h2]
end Oc
namespace Go.Proofs.Ytnlbdmciaodohaa
set_option linter.unusedVariables false
set_option linter.unusedSimpArgs false
open Go.RowKit
set_option maxHeartbeats 4000000
theorem run_eqF (x y : Oc.Fl) (w : World) : (Op.equal 30 (.agg #[.int .i64 x.1, .int .i64 x.2.1, .int .i64 x.2.2]) (.agg #[.int .i64 y.1, .int .i64 y.2.1, .int .i64 y.2.2])).run Try.prog w = .ok (decide (x = y)) w := by
  show (Op.equalIn 10000 30 (.agg #[.int .i64 x.1, .int .i64 x.2.1, .int .i64 x.2.2]) (.agg #[.int .i64 y.1, .int .i64 y.2.1, .int .i64 y.2.2])).run Try.prog w = _
  obtain ⟨a, b, c⟩ := x
  obtain ⟨d, e, f⟩ := y
  simp [go_sem]
  by_cases h1 : a = d <;> by_cases h2 : b = e <;> by_cases h3 : c = f <;> simp [h1, h2, h3]
theorem run_eqlF (x y : Oc.Fl) (w : World) : (binOp .eql 30 (.agg #[.int .i64 x.1, .int .i64 x.2.1, .int .i64 x.2.2]) (.agg #[.int .i64 y.1, .int .i64 y.2.1, .int .i64 y.2.2])).run Try.prog w = .ok (.bool (decide (x = y))) w := by
  have h := run_eqF x y w
  simp [binOp, go_sem, h]
theorem run_neqF (x y : Oc.Fl) (w : World) : (binOp .neq 30 (.agg #[.int .i64 x.1, .int .i64 x.2.1, .int .i64 x.2.2]) (.agg #[.int .i64 y.1, .int .i64 y.2.1, .int .i64 y.2.2])).run Try.prog w = .ok (.bool (!decide (x = y))) w := by
  have h := run_eqF x y w
  simp [binOp, go_sem, h]
theorem run_zeroF (w : World) : (zeroValue 30).run Try.prog w = .ok (.agg #[.int .i64 0, .int .i64 0, .int .i64 0]) w := by
  kernel_rfl
theorem run_clearF (w : World) (ty : TypeId) (b o n c T : Nat) (C : Array Value) (hn : 0 < n) (h : w.heap[b]? = some (.cells C T (0, 0))) (hC : o + n * 3 ≤ C.size) :
    (Builtin.clear_ #[42] ty #[.slice (some ⟨b, o, none⟩) n c]).run Try.prog w = .ok (.tuple #[]) (w.setCells b o (List.replicate (n * 3) (.int .i64 0))) := by
  have hzc : (Builtin.zeroCells (Value.agg #[.int .i64 0, .int .i64 0, .int .i64 0]).cells n).toList = List.replicate (n * 3) (.int .i64 0) := by
    simp [Builtin.zeroCells]
    apply List.ext_getElem
    · simp; rfl
    · intro i h1 h2
      have hm : i % 3 = 0 ∨ i % 3 = 1 ∨ i % 3 = 2 := by omega
      rcases hm with hm | hm | hm <;> simp [hm, Value.cells]
  have hst := run_storeCells_cells (P := Try.prog) b o (List.replicate (n * 3) (.int .i64 0)) 0 w (fun j hj => by
    have hj' : j < n * 3 := by simpa using hj
    rw [Nat.add_zero, cell_of_row w b _ _ _ _ h, Array.getElem?_eq_getElem (by omega)]; rfl) (fun j hj => frozen_of_row w b _ _ _ h) (by intro v hv'; rw [List.eq_of_mem_replicate hv']; rfl)
  simp only [Nat.add_zero] at hst
  obtain ⟨m, rfl⟩ : ∃ m, n = m + 1 := ⟨n - 1, by omega⟩
  have ht := Try.underlying42
  have hv := run_zeroF
  simp [Builtin.clear_, run_underlying ht, hv, hzc, hst]
theorem row_cells {C : Array Value} {L : List Oc.Fl} {g T : Nat} {w : World} (hC : Oc.RowC C L) (hw : w.heap[g]? = some (.cells C T (0, 0))) {i : Nat} {x : Oc.Fl} (hx : L[i]? = some x) :
    w.cell? ⟨g, i * 3, none⟩ = some (.int .i64 x.1) ∧ w.cell? ⟨g, i * 3 + 1, none⟩ = some (.int .i64 x.2.1) ∧ w.cell? ⟨g, i * 3 + 2, none⟩ = some (.int .i64 x.2.2) := by
  obtain ⟨h0, h1, h2⟩ := hC i x hx
  exact ⟨by rw [cell_of_row w g _ _ _ _ hw, h0], by rw [cell_of_row w g _ _ _ _ hw, h1], by rw [cell_of_row w g _ _ _ _ hw, h2]⟩
set_option maxRecDepth 100000 in
theorem compact_any (g T cap : Nat) (C : Array Value) (L : List Oc.Fl) (w : World) (hC : Oc.RowC C L) (hw : w.heap[g]? = some (.cells C T (0, 0))) (hn : L.length ≤ cap) (hm : cap ≤ maxLen) (hsz : L.length * 3 ≤ C.size) (hb : L.length ≤ 1000000) :
    Calls Try.prog 31 #[.slice (some ⟨g, 0, none⟩) L.length cap] w fun e w' =>
      e = .returned (.slice (some ⟨g, 0, none⟩) (Oc.ded L).length cap) ∧ ∃ C', w'.heap[g]? = some (.cells C' T (0, 0)) ∧ Oc.RowC C' (Oc.ded L) ∧ Oc.Turns [g] w w' := by
  obtain ⟨n, hln⟩ : ∃ n, n = L.length := ⟨_, rfl⟩
  have hn' : n ≤ cap := by omega
  rw [show Oc.ded L = Oc.ded (L.take n) by rw [hln, List.take_length], ← hln]
  have hget : ∀ i, i < n → ∃ x, L[i]? = some x := fun i hi => ⟨_, List.getElem?_eq_getElem (by omega)⟩
  have hsz' : n * 3 ≤ C.size := by omega
  have hb' : n ≤ 1000000 := by omega
  by_cases h2 : n < 2
  · have d1 : decide ((n : Int) < 2) = true := by simp; omega
    have d1' : decide (n < 2) = true := by simpa using h2
    have hd : Oc.ded (L.take n) = L := by
      rw [hln, List.take_length]
      match L, hln with
      | [], _ => rfl
      | [x], _ => rfl
      | x :: y :: r, h => simp at h; omega
    rw [hd, ← hln]
    clear hd
    go_enter Try.func31, Try.ntmps31
    go_wp2_with fail
    go_ret
    exact ⟨rfl, C, hw, hC, Oc.Turns.refl _ _⟩
  · have d1 : decide ((n : Int) < 2) = false := by simp; omega
    have d1' : decide (n < 2) = false := by simpa using h2
    have HD0 := Oc.hide hw
    have HG := Oc.hide hget
    have HLn := Oc.hide (show n ≤ L.length by omega)
    clear hw hln hget hn hsz hb
    go_enter Try.func31, Try.ntmps31
    go_wp2_with fail
    go_loopg [3] n (fun gk i wr => ∃ m : Nat, m + gk = n ∧ m + 1 ≤ n ∧ i = .int .i64 ((m : Int) + 1) ∧ Oc.ded (L.take (m + 1)) = L.take (m + 1) ∧ Oc.Turns [] w wr)
    case atStart =>
      obtain ⟨x, hx⟩ : ∃ x, L[0]? = some x := Oc.unhide HG 0 (by omega)
      exact ⟨0, by omega, by omega, rfl, by rw [Oc.ded_succ hx, List.take_add_one, hx]; rfl, Oc.Turns.refl _ _⟩
    case round =>
      obtain ⟨m, hmk, hmn, rfl, hded, htr⟩ := hrel
      have hwr := htr.kept (Oc.unhide HD0) (by simp)
      by_cases hlt : m + 1 < n
      · have dk : decide ((m : Int) + 1 < (n : Int)) = true := by simp; omega
        have dk' : decide (m + 1 < n) = true := by simpa using hlt
        obtain ⟨x, hx⟩ : ∃ x, L[m]? = some x := Oc.unhide HG _ (by omega)
        obtain ⟨y, hy⟩ : ∃ y, L[m + 1]? = some y := Oc.unhide HG _ (by omega)
        obtain ⟨x0, x1, x2⟩ := row_cells hC hwr hx
        obtain ⟨y0, y1, y2⟩ := row_cells hC hwr hy
        have heq := run_eqlF y x
        have m0 : 0 ≤ (m : Int) := by omega
        have m1 : (m : Int) < (n : Int) := by omega
        have m2 : (m : Int) + 1 < (n : Int) := by omega
        have HX := Oc.hide (And.intro hx hy)
        have HD := Oc.hide hded
        have HW := Oc.hide hwr
        clear hx hy hded hwr
        go_wp2_with fail
        go_quiet (fail)
        generalize hwq : wr.drewN _ = wq
        have hwqh : wq.heap = wr.heap := by rw [← hwq]; rfl
        have htq : Oc.Turns [] w wq := by rw [← hwq]; exact htr.drewN _
        clear hwq htr
        by_cases hyx : y = x
        · have dyx : decide (y = x) = true := by simpa using hyx
          have hlast : Oc.ded (L.take (m + 2)) = L.take (m + 1) := by
            obtain ⟨hx, hy⟩ := Oc.unhide HX
            rw [Oc.ded_succ hy, Oc.unhide HD]
            unfold Oc.dedAdd
            rw [if_pos (by rw [Oc.take_last hx, hyx])]
          have Hlast := Oc.hide hlast
          clear hlast
          have hwq2 : wq.heap[g]? = some (.cells C T (0, 0)) := by rw [hwqh]; exact Oc.unhide HW
          have HWq := Oc.hide hwq2
          clear hwqh hwq2 x0 x1 x2 y0 y1 y2 heq
          go_wp2_with fail
          obtain ⟨wo, rfl⟩ : ∃ wo : World, wo = wr := ⟨_, rfl⟩
          obtain ⟨ko, rfl⟩ : ∃ ko : Nat, ko = gk := ⟨_, rfl⟩
          go_loopg [3, 5] n (fun gk kv jv wr => ∃ (j kk : Nat) (C' : Array Value), j + gk = n ∧ m + 2 + j ≤ n ∧ kv = .int .i64 kk ∧ jv = .int .i64 ((j : Int) + 1) ∧ wr.heap[g]? = some (.cells C' T (0, 0)) ∧ C'.size = C.size ∧ kk = (Oc.ded (L.take (m + 2 + j))).length ∧ Oc.RowC C' (Oc.ded (L.take (m + 2 + j))) ∧ Oc.RowR C' L (m + 1 + j) ∧ kk ≤ m + 1 + j ∧ 1 ≤ kk ∧ Oc.Turns [g] w wr)
          case atStart =>
            have hl := Oc.unhide Hlast
            have hln := Oc.unhide HLn
            exact ⟨0, m + 1, C, by omega, by omega, by go_num, by go_num, Oc.unhide HWq, rfl, by rw [Nat.add_zero, hl, List.length_take]; omega, by rw [Nat.add_zero, hl]; exact hC.take _, fun i x _ h => hC i x h, by omega, by omega, htq.mono (by simp)⟩
          case round =>
            obtain ⟨j, kk, C', hjk, hjn, rfl, rfl, hwr, hcz, hkk, hrow, hrest, hkm, hk1, htr⟩ := hrel
            by_cases hlt2 : m + 2 + j < n
            · have dk2 : decide ((j : Int) + 1 < ((n - (m + 1) : Nat) : Int)) = true := by simp; omega
              have dk3 : decide (j + 1 < n - (m + 1)) = true := by simp; omega
              obtain ⟨p, hp⟩ : ∃ p, L[m + 1 + j]? = some p := Oc.unhide HG _ (by omega)
              obtain ⟨q, hq⟩ : ∃ q, L[m + 2 + j]? = some q := Oc.unhide HG _ (by omega)
              obtain ⟨p0, p1, p2⟩ := hrest _ p (Nat.le_refl _) hp
              obtain ⟨q0, q1, q2⟩ := hrest _ q (by omega) hq
              have hfacts : ∀ W : World, W.heap[g]? = some (.cells C' T (0, 0)) → W.cell? ⟨g, (m + 1) * 3 + j * 3, none⟩ = some (.int .i64 p.1) ∧ W.cell? ⟨g, (m + 1) * 3 + j * 3 + 1, none⟩ = some (.int .i64 p.2.1) ∧ W.cell? ⟨g, (m + 1) * 3 + j * 3 + 2, none⟩ = some (.int .i64 p.2.2) ∧ W.cell? ⟨g, (m + 1) * 3 + (j + 1) * 3, none⟩ = some (.int .i64 q.1) ∧ W.cell? ⟨g, (m + 1) * 3 + (j + 1) * 3 + 1, none⟩ = some (.int .i64 q.2.1) ∧ W.cell? ⟨g, (m + 1) * 3 + (j + 1) * 3 + 2, none⟩ = some (.int .i64 q.2.2) := fun W hW => by
                have ep : (m + 1) * 3 + j * 3 = (m + 1 + j) * 3 := by omega
                have eq : (m + 1) * 3 + (j + 1) * 3 = (m + 2 + j) * 3 := by omega
                rw [ep, eq]
                exact ⟨by rw [cell_of_row W g _ _ _ _ hW, p0], by rw [cell_of_row W g _ _ _ _ hW, p1], by rw [cell_of_row W g _ _ _ _ hW, p2], by rw [cell_of_row W g _ _ _ _ hW, q0], by rw [cell_of_row W g _ _ _ _ hW, q1], by rw [cell_of_row W g _ _ _ _ hW, q2]⟩
              have HF := @Oc.hide _ hfacts
              obtain ⟨x0, x1, x2, y0, y1, y2⟩ := hfacts wr hwr
              have heq := run_neqF q p
              have j0 : 0 ≤ (j : Int) := by omega
              have j1 : (j : Int) < ((n - (m + 1) : Nat) : Int) := by omega
              have j2 : (j : Int) + 1 < ((n - (m + 1) : Nat) : Int) := by omega
              have HPQ := Oc.hide (And.intro hp hq)
              have HW2 := Oc.hide hwr
              have HR2 := Oc.hide (And.intro hrow hrest)
              have HKK := Oc.hide hkk
              have HCZ := Oc.hide hcz
              clear hp hq hwr hfacts p0 p1 p2 q0 q1 q2 hrow hrest hkk hcz
              go_wp2_with fail
              go_quiet (fail)
              generalize hwv : wr.drewN _ = wv
              have hwv2 : wv.heap[g]? = some (.cells C' T (0, 0)) := by rw [← hwv]; exact Oc.unhide HW2
              have htv : Oc.Turns [g] w wv := by rw [← hwv]; exact htr.drewN _
              clear hwv htr x0 x1 x2 y0 y1 y2 heq
              by_cases hqp : q = p
              · have dqp : decide (q = p) = true := by simpa using hqp
                have HV := Oc.hide hwv2
                clear hwv2
                rw [dqp]
                simp only [Bool.not_true]
                go_wp2_with fail
                go_roundg (gk - 1)
                case measure => omega
                case rel =>
                  obtain ⟨hp, hq⟩ := Oc.unhide HPQ
                  obtain ⟨hrow, hrest⟩ := Oc.unhide HR2
                  have hlast := Oc.ded_last (m + 1 + j) p hp
                  have hsame : Oc.ded (L.take (m + 2 + (j + 1))) = Oc.ded (L.take (m + 2 + j)) := by
                    rw [show m + 2 + (j + 1) = m + 2 + j + 1 by omega, Oc.ded_succ hq]
                    unfold Oc.dedAdd
                    rw [if_pos (by rw [show m + 2 + j = m + 1 + j + 1 by omega, hlast, hqp])]
                  exact ⟨j + 1, kk, C', by omega, by omega, by go_num, by go_num, Oc.unhide HV, Oc.unhide HCZ, by rw [hsame]; exact Oc.unhide HKK, by rw [hsame]; exact hrow, fun i z hi hz => hrest i z (by omega) hz, by omega, hk1, htv⟩
              · have dqp : decide (q = p) = false := by simpa using hqp
                obtain ⟨x0, x1, x2, y0, y1, y2⟩ := Oc.unhide HF wv hwv2
                have hcz := Oc.unhide HCZ
                obtain ⟨o0, z0⟩ : ∃ o, wv.cell? ⟨g, kk * 3, none⟩ = some o := ⟨_, by rw [cell_of_row wv g _ _ _ _ hwv2, Array.getElem?_eq_getElem (by omega)]⟩
                obtain ⟨o1, z1⟩ : ∃ o, wv.cell? ⟨g, kk * 3 + 1, none⟩ = some o := ⟨_, by rw [cell_of_row wv g _ _ _ _ hwv2, Array.getElem?_eq_getElem (by omega)]⟩
                obtain ⟨o2, z2⟩ : ∃ o, wv.cell? ⟨g, kk * 3 + 2, none⟩ = some o := ⟨_, by rw [cell_of_row wv g _ _ _ _ hwv2, Array.getElem?_eq_getElem (by omega)]⟩
                have f0 := frozen_of_row wv g (kk * 3) _ _ hwv2
                have f1 := frozen_of_row wv g (kk * 3 + 1) _ _ hwv2
                have f2 := frozen_of_row wv g (kk * 3 + 2) _ _ hwv2
                have k0 : 0 ≤ (kk : Int) := by omega
                have k1 : (kk : Int) < (n : Int) := by omega
                have HV := Oc.hide hwv2
                clear hwv2 hcz
                rw [dqp]
                simp only [Bool.not_false]
                go_wp2_with fail
                go_roundg (gk - 1)
                case measure => omega
                case rel =>
                  obtain ⟨hp, hq⟩ := Oc.unhide HPQ
                  obtain ⟨hrow, hrest⟩ := Oc.unhide HR2
                  have hkk := Oc.unhide HKK
                  have hlast := Oc.ded_last (m + 1 + j) p hp
                  have hnew : Oc.ded (L.take (m + 2 + (j + 1))) = Oc.ded (L.take (m + 2 + j)) ++ [q] := by
                    rw [show m + 2 + (j + 1) = m + 2 + j + 1 by omega, Oc.ded_succ hq]
                    unfold Oc.dedAdd
                    rw [if_neg (by rw [show m + 2 + j = m + 1 + j + 1 by omega, hlast]; simp; exact fun e => hqp e.symm)]
                  have hV := Oc.unhide HV
                  have s1 := heap_setCell_same _ g (kk * 3) _ _ (.int .i64 q.1) hV
                  have s2 := heap_setCell_same _ g (kk * 3 + 1) _ _ (.int .i64 q.2.1) s1
                  have s3 := heap_setCell_same _ g (kk * 3 + 2) _ _ (.int .i64 q.2.2) s2
                  have hcz := Oc.unhide HCZ
                  have t3 := ((htv.setCell (p := ⟨g, kk * 3, none⟩) (.inl (by simp)) (.int .i64 q.1)).setCell (p := ⟨g, kk * 3 + 1, none⟩) (.inl (by simp)) (.int .i64 q.2.1)).setCell (p := ⟨g, kk * 3 + 2, none⟩) (.inl (by simp)) (.int .i64 q.2.2)
                  refine ⟨j + 1, kk + 1, _, by omega, by omega, by go_num, by go_num, s3, by simpa using hcz, by rw [hnew]; simp [hkk], ?_, ?_, by omega, by omega, t3⟩
                  · rw [hnew]; exact Oc.set3_row hrow hkk.symm (by omega)
                  · exact Oc.set3_rest hrest (by omega) (by omega) (by omega)
            · have dk2 : decide ((j : Int) + 1 < ((n - (m + 1) : Nat) : Int)) = false := by simp; omega
              have dk3 : decide (j + 1 < n - (m + 1)) = false := by simp; omega
              have hn2 : m + 2 + j = n := by omega
              have hcl := fun ty => run_clearF wr ty g (kk * 3) (n - kk) (cap - kk) T C' (by omega) hwr (by omega)
              have HRow := Oc.hide hrow
              have HW2 := Oc.hide hwr
              have HKK := Oc.hide hkk
              have hcz2 : (n - kk) * 3 + kk * 3 ≤ C'.size := by omega
              have kn : kk ≤ n := by omega
              have kn2 : kk ≤ cap := by omega
              have k0 : 0 ≤ (kk : Int) := by omega
              have k1 : (kk : Int) ≤ (n : Int) := by omega
              have k2 : (kk : Int) ≤ (cap : Int) := by omega
              clear hrow hrest hwr hkk
              go_wp2_with fail
              go_ret
              have hkk := Oc.unhide HKK
              have hrow := Oc.unhide HRow
              rw [hn2] at hkk hrow
              have hblk := Oc.setCells_block (List.replicate ((n - kk) * 3) (.int .i64 0)) wr g (kk * 3) C' T (Oc.unhide HW2)
              refine ⟨by rw [← hkk]; rfl, _, hblk, fun i x hx => ?_, Oc.Turns.setCells (.inl (by simp)) _ _ _ htr⟩
              have hi : i < kk := by rw [hkk]; exact (List.getElem?_eq_some_iff.1 hx).1
              obtain ⟨h0, h1, h2⟩ := hrow i x hx
              have hov : ∀ k, k < kk * 3 → (Oc.over C' (kk * 3) (List.replicate ((n - kk) * 3) (.int .i64 0)))[k]? = C'[k]? := fun k hk => by
                rw [Oc.over_get _ _ _ _ (by simp; omega), if_neg (by omega)]
              exact ⟨by rw [hov _ (by omega), h0], by rw [hov _ (by omega), h1], by rw [hov _ (by omega), h2]⟩
        · have dyx : decide (y = x) = false := by simpa using hyx
          go_wp2_with fail
          go_roundg (gk - 1)
          case measure => omega
          case rel =>
            obtain ⟨hx, hy⟩ := Oc.unhide HX
            refine ⟨m + 1, by omega, by omega, by go_num, ?_, htq⟩
            rw [Oc.ded_succ hy, Oc.unhide HD]
            unfold Oc.dedAdd
            rw [if_neg (by rw [Oc.take_last hx]; simp; exact fun e => hyx e.symm), List.take_add_one (i := m + 1), hy]; rfl
      · have dk : decide ((m : Int) + 1 < (n : Int)) = false := by simp; omega
        have dk' : decide (m + 1 < n) = false := by simpa using hlt
        obtain rfl : n = m + 1 := by omega
        go_wp2_with fail
        go_ret
        rw [hded]
        refine ⟨?_, C, hwr, hC.take _, htr.mono (by simp)⟩
        rw [List.length_take, Nat.min_eq_left (Oc.unhide HLn)]; rfl
end Go.Proofs.Ytnlbdmciaodohaa
