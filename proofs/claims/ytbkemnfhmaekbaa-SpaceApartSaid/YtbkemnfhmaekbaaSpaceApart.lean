/- The law SpaceApart. -/
import Derived.Test.YtbkemnfhmaekbaaSpaceOwner
import Derived.Deep.DeepCutAuto
import Derived.Deep.LoopGhost
namespace Go.Proofs.Ytbkemnfhmaekbaa
set_option linter.unusedVariables false
set_option linter.unusedSimpArgs false
open Go.RowKit
set_option maxHeartbeats 8000000
theorem run_intsN (n : Int) (h0 : 0 ≤ n) (h1 : n ≤ 4096) (w : World) : (Instr.makeSlice 43 (.int .i64 n) (.int .i64 n)).run Try.prog w = .ok (.slice (some ⟨w.heap.size, 0, none⟩) n.toNat n.toNat) (w.alloc (.cells (Oc.ints (List.replicate n.toNat 0)) 3)) := by
  have infoI : (Try.prog.info? 3).map (fun i => (i.zero, i.size, i.bytes)) = some (some (.int .i64 0), 1, 8) := by kernel_rfl
  obtain ⟨i0, hi, hz0, hz1, hz2⟩ := info_parts infoI
  rw [run_make w 43 3 i0 (.int .i64 0) Try.underlying43 hi hz0 .i64 .i64 n n h0 (by omega) (by rw [hz2]; omega) (by omega), hz1]
  have : madeCells (Value.int .i64 0).cells (n.toNat * 1) = Oc.ints (List.replicate n.toNat 0) := by
    unfold madeCells Oc.ints
    apply Array.ext'
    apply List.ext_getElem?
    intro i
    simp [Value.cells]
    by_cases h : i < n.toNat
    · simp [h]
      rw [Nat.mod_one]; rfl
    · simp [h]
  rw [this]
/-- The space, the owners' row, and what they tell. -/
structure Held (n₀ : Nat) (w wr : World) (b g q h : Nat) (T : List Bool) (O : List Int) : Prop where
  s : Oc.Sp 48 4 wr b g h T
  row : wr.heap[q]? = some (.cells (Oc.ints O) 3 (0, 0))
  ne : b ≠ q ∧ g ≠ q
  lo : n₀ ≤ g ∧ n₀ ≤ q
  bel : Below n₀ w wr
  len : O.length = T.length
theorem Held.kept {n₀ : Nat} {w wr W : World} {b g q h : Nat} {T : List Bool} {O : List Int} (H : Held n₀ w wr b g q h T O) (hg : wr.grownBy W none) (hn : n₀ ≤ w.heap.size) : Held n₀ w W b g q h T O :=
  ⟨H.s.kept hg (by simp) (by simp), (hg.block q (Array.getElem?_eq_some_iff.1 H.row).1 (by simp)).trans H.row, H.ne, H.lo, H.bel.grown hg (Nat.le_trans hn H.bel.size) (fun r e => nomatch e), H.len⟩
theorem Held.turn {n₀ : Nat} {w wr W : World} {b g q h : Nat} {T T' : List Bool} {O : List Int} (H : Held n₀ w wr b g q h T O) (hs : Oc.Sp 48 4 W b g h T') (hg : wr.grownBy W (some g)) (hn : n₀ ≤ w.heap.size) (hl : T'.length = T.length) : Held n₀ w W b g q h T' O :=
  ⟨hs, (hg.block q (Array.getElem?_eq_some_iff.1 H.row).1 (by simp; exact fun e => H.ne.2 e.symm)).trans H.row, H.ne, H.lo, H.bel.grown hg (Nat.le_trans hn H.bel.size) (fun r e => by cases e; exact H.lo.1), by rw [H.len, hl]⟩
theorem Held.store {n₀ : Nat} {w wr : World} {b g q h : Nat} {T : List Bool} {O : List Int} (H : Held n₀ w wr b g q h T O) (hn : n₀ ≤ w.heap.size) (k : Nat) (v : Int) : Held n₀ w (wr.setCell ⟨q, k, none⟩ (.int .i64 v)) b g q h T (O.set k v) := by
  have hg : wr.grownBy (wr.setCell ⟨q, k, none⟩ (.int .i64 v)) (some q) := Oc.only_setCell (Oc.only_refl _ _) (.inl rfl) _
  refine ⟨H.s.kept hg (by simp; exact fun e => H.ne.1 e.symm) (by simp; exact fun e => H.ne.2 e.symm), ?_, H.ne, H.lo, H.bel.grown hg (Nat.le_trans hn H.bel.size) (fun r e => by cases e; exact H.lo.2), by simpa using H.len⟩
  rw [← Oc.ints_set]
  exact heap_setCell_same wr q k _ _ _ H.row
theorem Held.cell {n₀ : Nat} {w wr : World} {b g q h : Nat} {T : List Bool} {O : List Int} (H : Held n₀ w wr b g q h T O) {k : Nat} {o : Int} (ho : O[k]? = some o) : wr.cell? ⟨q, k, none⟩ = some (.int .i64 o) ∧ wr.frozen? ⟨q, k, none⟩ = false :=
  ⟨by rw [cell_of_row wr q k _ _ _ H.row]; exact Oc.ints_get ho, frozen_of_row wr q k _ _ H.row⟩
theorem takeN_len {h : Nat} {T : List Bool} {n : Int} : (Oc.takeN h T n).2.2.length = T.length := by
  by_cases hn : n < 1
  · unfold Oc.takeN; rw [if_pos hn]
  · rcases Oc.takeN_cases h T n (by omega) with ⟨ht, _⟩ | ⟨x0, _, _, ht, _, _, _, hxl, _⟩
    · rw [ht]
    · rw [ht]; exact Oc.upd_length hxl
set_option maxRecDepth 100000 in
theorem spaceApart_low (size head : Int) (a : Option Addr) (len cap : Nat) (zs : List Int) (w : World) (hs : Oc.I size) (hh : Oc.I head) (hl : Oc.IsRow .i64 w a len cap zs)
    (hlow : 300 < size ∨ 300 < len ∨ head < 0 ∨ size < head ∨ 4096 < size) :
    Calls Try.prog 5 #[.int .i64 size, .int .i64 head, .slice a len cap] w fun e w' => e = .returned (.bool true) ∧ Below w.heap.size w w' := by
  by_cases h1 : 300 < size
  · have d1 : decide (300 < size) = true := by simpa using h1
    go_enter Try.func5, Try.ntmps5
    go_wp2_with fail
    refine (awake_any _).mono ?_
    rintro e w1 ⟨rfl, hB1⟩
    go_wp2_with fail
    go_ret
    exact ⟨rfl, hB1⟩
  · have d1 : decide (300 < size) = false := by simpa using h1
    by_cases h2 : 300 < len
    · have d2 : decide (300 < (len : Int)) = true := by simp; omega
      have d3 : decide (300 < len) = true := by simp; omega
      go_enter Try.func5, Try.ntmps5
      go_wp2_with fail
      refine (awake_any _).mono ?_
      rintro e w1 ⟨rfl, hB1⟩
      go_wp2_with fail
      go_ret
      exact ⟨rfl, hB1⟩
    · have d2 : decide (300 < (len : Int)) = false := by simp; omega
      have d3 : decide (300 < len) = false := by simp; omega
      have hno := fun W => new_no size head hs hh (by omega) W
      go_enter Try.func5, Try.ntmps5
      go_wp2_with fail
      refine (awake_any _).mono ?_
      rintro e w1 ⟨rfl, hB1⟩
      go_wp2_with fail
      refine (hno _).mono ?_
      rintro e w2 ⟨rfl, rfl⟩
      go_wp2_with fail
      go_ret
      exact ⟨rfl, hB1⟩
set_option maxRecDepth 100000 in
theorem spaceApart_high (size head : Int) (a : Option Addr) (len cap : Nat) (zs : List Int) (w : World) (hs : Oc.I size) (hh : Oc.I head) (hl : Oc.IsRow .i64 w a len cap zs)
    (hsz : size ≤ 300) (hlen : len ≤ 300) (h0 : 0 ≤ head) (h1 : head ≤ size) :
    Calls Try.prog 5 #[.int .i64 size, .int .i64 head, .slice a len cap] w fun e w' => e = .returned (.bool true) ∧ Below w.heap.size w w' := by
  obtain ⟨N, rfl⟩ := Int.eq_ofNat_of_zero_le (show 0 ≤ size by omega)
  obtain ⟨hd, rfl⟩ := Int.eq_ofNat_of_zero_le h0
  have d1 : decide (300 < (N : Int)) = false := by simpa using hsz
  have d2 : decide (300 < (len : Int)) = false := by simp; omega
  have d3 : decide (300 < len) = false := by simp; omega
  have d4 : decide (300 < N) = false := by simp; omega
  have hno := fun W => new_yes (N : Int) (hd : Int) h0 h1 (by omega) W
  simp only [Int.toNat_natCast] at hno
  have hmk := run_intsN (N : Int) (by omega) (by omega)
  simp only [Int.toNat_natCast] at hmk
  go_enter Try.func5, Try.ntmps5
  go_wp2_with fail
  refine (awake_any _).mono ?_
  rintro e w1 ⟨rfl, hB1⟩
  go_wp2_with fail
  refine (hno _).mono ?_
  rintro e w2 ⟨b, g, rfl, hS, hb, hg, hg2⟩
  have hB2 : Below w.heap.size w w2 := hB1.grown hg2 hB1.size fun r e => nomatch e
  have hbw : w.heap.size ≤ g := Nat.le_trans hB1.size hg
  have hga := World.grownBy_alloc w2 (.cells (Oc.ints (List.replicate N 0)) 3) none
  have hH : Held w.heap.size w (w2.alloc (.cells (Oc.ints (List.replicate N 0)) 3)) b g w2.heap.size hd (List.replicate N false) (List.replicate N 0) :=
    ⟨hS.kept hga (by simp) (by simp), heap_alloc_new w2 _, by have := hS.cells; omega, ⟨hbw, hB2.size⟩, hB2.alloc hB2.size _, by simp⟩
  have hI := Oc.Inv.start hd N
  go_wp2_with fail
  obtain ⟨q, hq⟩ : ∃ q, q = w2.heap.size := ⟨_, rfl⟩
  rw [← hq] at hH ⊢
  clear hno hmk hg2 hg hb hB1 hB2 hga hq hS hbw
  go_loopg [11] len (fun gk i wr => ∃ (k : Nat) (T : List Bool) (O : List Int), k + gk = len ∧ i = .int .i64 k ∧ Held w.heap.size w wr b g q hd T O ∧ Oc.Inv hd T O ∧ T.length = N)
  case atStart => exact ⟨0, _, _, by omega, rfl, hH, hI, by simp⟩
  case round =>
    obtain ⟨k, T, O, hk, rfl, hH', hI', hTN⟩ := hrel
    have HI := Oc.hide hI'
    clear hH hI hI'
    by_cases hkl : k < len
    · have dk : decide ((k : Int) < (len : Int)) = true := by simpa using hkl
      have dk2 : decide (k < len) = true := by simpa using hkl
      obtain ⟨lb, off, rfl, hlb, hlc, hcm, _, hcell, hwf⟩ := hl.spot (by omega)
      have hc := hcell k hkl
      have hz := Oc.I_of (hwf k hkl)
      generalize zs.getD k 0 = z at hc hz
      clear hcell hwf
      have k0 : 0 ≤ (k : Int) := by omega
      have k1 : (k : Int) < (len : Int) := by omega
      have hcw : ∀ W, Below w.heap.size w W → W.cell? ⟨lb, off + k, none⟩ = some (.int .i64 z) := fun W hW => (hW.cell (p := ⟨lb, _, none⟩) hlb).trans hc
      have Hcw := Oc.hide hcw
      clear hcw
      have hc1 := Oc.unhide Hcw wr hH'.bel
      by_cases hz1 : z < -300
      · have dz : decide (z < -300) = true := by simpa using hz1
        go_wp2_with fail
        go_roundg (gk - 1)
        case measure => omega
        case rel => exact ⟨k + 1, T, O, by omega, by go_num, hH', Oc.unhide HI, hTN⟩
      · have dz : decide (z < -300) = false := by simpa using hz1
        by_cases hz2 : z < 0
        · have dz2 : decide (z < 0) = true := by simpa using hz2
          have hz3 : -300 ≤ z := by omega
          go_wp2_with fail
          obtain ⟨wo, rfl⟩ : ∃ wo : World, wo = wr := ⟨_, rfl⟩
          obtain ⟨ko, rfl⟩ : ∃ ko : Nat, ko = gk := ⟨_, rfl⟩
          go_loopg [12] N (fun gk i wr => ∃ (j : Nat) (T : List Bool) (O : List Int), j + gk = N ∧ i = .int .i64 j ∧ Held w.heap.size w wr b g q hd T O ∧ Oc.Inv hd T O ∧ T.length = N)
          case atStart => exact ⟨0, T, O, by omega, rfl, hH', Oc.unhide HI, hTN⟩
          case round =>
            clear hc1 hH' HI hTN
            obtain ⟨j, T1, O1, hj, rfl, hH1, hI1, hT1⟩ := hrel
            have hc1 := Oc.unhide Hcw wr hH1.bel
            by_cases hjN : j < N
            · have dj : decide ((j : Int) < (N : Int)) = true := by simpa using hjN
              have dj2 : decide (j < N) = true := by simpa using hjN
              have j0 : 0 ≤ (j : Int) := by omega
              have j1 : (j : Int) < (N : Int) := by omega
              obtain ⟨o, ho⟩ : ∃ o, O1[j]? = some o := ⟨_, List.getElem?_eq_getElem (by rw [hH1.len]; omega)⟩
              obtain ⟨t, ht⟩ : ∃ t, T1[j]? = some t := ⟨_, List.getElem?_eq_getElem (by omega)⟩
              have hoc := (hH1.cell ho).1
              have hij := hI1.2 j t o ht ho
              have HI1 := Oc.hide hI1
              clear hI1
              by_cases hoz : o = -z
              · have do1 : (o == -z) = true := by simpa using hoz
                have ht' : t = true := hij.1.1 (by omega)
                have hhj : hd ≤ j := hij.2 ht'
                subst ht'
                have hfit : Oc.fits hd T1 true j 1 = true := Oc.fits_iff.2 ⟨by omega, by omega, by omega, by omega, fun m h1 h2 => by rw [show m = j by omega]; exact ht⟩
                have hE := Lib.hid (show Oc.setE hd T1 false j 1 = 0 by unfold Oc.setE; rw [show (!false) = true from rfl, if_pos hfit])
                have hE2 := Lib.hid (show Oc.setT hd T1 false j 1 = Oc.upd T1 false j 1 by unfold Oc.setT; rw [show (!false) = true from rfl, if_pos hfit]; rfl)
                clear hij hfit ht ho hoz
                go_wp2_with fail
                go_quiet (fail)
                generalize hwq : World.drewN _ _ = wq
                have hgq : wr.grownBy wq none := by rw [← hwq]; exact Oc.only_drewN (Oc.only_refl _ _) _
                have hHq := hH1.kept hgq (Nat.le_refl _)
                clear hwq
                go_wp2_with fail
                refine (Free_any b g hd T1 j 1 (by unfold Oc.I; omega) (by unfold Oc.I; omega) _ hHq.s).mono ?_
                rintro e W2 ⟨rfl, hs2, hg2⟩
                rw [hE.out]
                rw [hE2.out] at hs2
                have hH2 := hHq.turn hs2 hg2 (Nat.le_refl _) (Oc.upd_length (by omega))
                obtain ⟨o2, ho2⟩ : ∃ o, O1[j]? = some o := ⟨_, List.getElem?_eq_getElem (by rw [hH1.len]; omega)⟩
                obtain ⟨q1, q2⟩ := hH2.cell ho2
                clear ho2
                go_wp2_with fail
                have hH3 := hH2.store (Nat.le_refl _) j 0
                go_roundg (gk - 1)
                case measure => omega
                case rel => exact ⟨j + 1, _, _, by omega, by go_num, hH3, (Oc.unhide HI1).free (by omega), by rw [Oc.upd_length (by omega)]; exact hT1⟩
              · have do1 : (o == -z) = false := by simpa using hoz
                clear hij ht ho
                go_wp2_with fail
                go_quiet (fail)
                generalize hwq : World.drewN _ _ = wq
                have hgq : wr.grownBy wq none := by rw [← hwq]; exact Oc.only_drewN (Oc.only_refl _ _) _
                have hHq := hH1.kept hgq (Nat.le_refl _)
                clear hwq
                go_wp2_with fail
                go_roundg (gk - 1)
                case measure => omega
                case rel => exact ⟨j + 1, T1, O1, by omega, by go_num, hHq, Oc.unhide HI1, hT1⟩
            · have dj : decide ((j : Int) < (N : Int)) = false := by simpa using hjN
              have dj2 : decide (j < N) = false := by simpa using hjN
              have HI1 := Oc.hide hI1
              clear hI1
              go_wp2_with fail
              go_roundg (ko - 1)
              case measure => omega
              case rel => exact ⟨k + 1, T1, O1, by omega, by go_num, hH1, Oc.unhide HI1, hT1⟩
        · have dz2 : decide (z < 0) = false := by simpa using hz2
          by_cases hfail : (Oc.takeN hd T z).2.1 = 0
          · have hn1 : 1 ≤ z := by
              rcases Int.lt_or_le z 1 with h' | h'
              · unfold Oc.takeN at hfail; rw [if_pos h'] at hfail; cases hfail
              · exact h'
            rcases Oc.takeN_cases hd T z hn1 with ⟨ht, hmx⟩ | ⟨x0, hx0, hfind, ht, hmx, hnx, hhx, hxl, hF⟩
            · rw [ht] at hfail; cases hfail
            · obtain ⟨n', rfl⟩ := Int.eq_ofNat_of_zero_le (show 0 ≤ z by omega)
              rw [Int.toNat_natCast] at ht hxl hF
              have hxb : x0.1 ≤ 4096 ∧ x0.2 ≤ 4096 := by have := Oc.spans_in hx0; have := hH'.s.sz; omega
              have Ht := Lib.hid ht
              have e1 : decide (x0.1 < hd) = false := by simp; omega
              have e1' : decide ((x0.1 : Int) < (hd : Int)) = false := by simp; omega
              have e2 : decide (n' < 1) = false := by simp; omega
              have e2' : decide ((n' : Int) < 1) = false := by simp; omega
              have e3 : decide ((N : Int) - (n' : Int) < (x0.1 : Int)) = false := by simp; omega
              have k5 : (n' : Int) ≤ 4096 := by omega
              have k6 : (x0.1 : Int) ≤ 4096 := by omega
              clear ht hfail hfind hmx
              go_wp2_with fail
              refine (take_any b g hd T n' hz _ hH'.s).mono ?_
              rintro e W4 ⟨rfl, hs4, hg4⟩
              rw [Ht.out] at hs4 ⊢
              have hH4 := hH'.turn hs4 hg4 (Nat.le_refl _) (Oc.upd_length hxl)
              have hc4 := Oc.unhide Hcw W4 hH4.bel
              clear hs4 hg4 hc1
              go_wp2_with fail
              obtain ⟨wo, rfl⟩ : ∃ wo : World, wo = wr := ⟨_, rfl⟩
              obtain ⟨ko, rfl⟩ : ∃ ko : Nat, ko = gk := ⟨_, rfl⟩
              have hOl : x0.1 + n' ≤ O.length := by rw [hH'.len]; exact hxl
              have hOz : ∀ j, j < n' → O[x0.1 + j]? = some 0 := fun j hj => (Oc.unhide HI).free_zero (hF _ (by omega) (by omega))
              have HOz := Oc.hide hOz
              have hIn := (Oc.unhide HI).take (v := (k : Int) + 1) (by omega) hhx hxl
              have HIn := Oc.hide hIn
              clear hOz hIn
              go_loopg [16] n' (fun gk i wr => ∃ (j : Nat), j + gk = n' ∧ i = .int .i64 ((x0.1 : Int) + j) ∧ Held w.heap.size w wr b g q hd (Oc.upd T true x0.1 n') (Oc.updI O ((k : Int) + 1) x0.1 j))
              case atStart => exact ⟨0, by omega, by simp, by rw [Oc.updI_zero]; exact hH4⟩
              case round =>
                clear hc4 hH4 hH'
                obtain ⟨j, hj, rfl, hH1⟩ := hrel
                have hc1 := Oc.unhide Hcw wr hH1.bel
                by_cases hjn : j < n'
                · have dj : decide ((x0.1 : Int) + (j : Int) < (x0.1 : Int) + (n' : Int)) = true := by simp; omega
                  have j0 : 0 ≤ (x0.1 : Int) + (j : Int) := by omega
                  have j1 : (x0.1 : Int) + (j : Int) < (N : Int) := by omega
                  have hov : (Oc.updI O ((k : Int) + 1) x0.1 j)[x0.1 + j]? = some 0 := by
                    rw [Oc.updI_get (by omega), if_neg (by omega)]
                    exact Oc.unhide HOz j hjn
                  obtain ⟨q1, q2⟩ := hH1.cell hov
                  have hH3 := hH1.store (Nat.le_refl _) (x0.1 + j) ((k : Int) + 1)
                  rw [Oc.updI_succ (by omega)] at hH3
                  have HH3 := Oc.hide hH3
                  clear hov hH3
                  go_wp2_with fail
                  go_roundg (gk - 1)
                  case measure => omega
                  case rel => exact ⟨j + 1, by omega, by go_num, Oc.unhide HH3⟩
                · have dj : decide ((x0.1 : Int) + (j : Int) < (x0.1 : Int) + (n' : Int)) = false := by simp; omega
                  obtain rfl : j = n' := by omega
                  go_wp2_with fail
                  go_roundg (ko - 1)
                  case measure => omega
                  case rel => exact ⟨k + 1, _, _, by omega, by go_num, hH1, Oc.unhide HIn, by rw [Oc.upd_length hxl]; exact hTN⟩
          · have de : ((Oc.takeN hd T z).2.1 == 0) = false := by simpa using hfail
            have hT' : (Oc.takeN hd T z).2.2 = T := by
              by_cases hn : z < 1
              · unfold Oc.takeN; rw [if_pos hn]
              · rcases Oc.takeN_cases hd T z (by omega) with ⟨ht, _⟩ | ⟨x0, _, _, ht, _⟩
                · rw [ht]
                · rw [ht] at hfail; exact absurd rfl hfail
            have HT' := Lib.hid hT'
            clear hT' hfail
            go_wp2_with fail
            refine (take_any b g hd T z hz _ hH'.s).mono ?_
            rintro e W4 ⟨rfl, hs4, hg4⟩
            rw [HT'.out] at hs4
            have hH4 := hH'.turn hs4 hg4 (Nat.le_refl _) rfl
            go_wp2_with fail
            go_roundg (gk - 1)
            case measure => omega
            case rel => exact ⟨k + 1, T, O, by omega, by go_num, hH4, Oc.unhide HI, hTN⟩
    · have dk : decide ((k : Int) < (len : Int)) = false := by simpa using hkl
      have dk2 : decide (k < len) = false := by simpa using hkl
      have hTz := hH'.s.sz
      have hls := len_spans hd T
      go_wp2_with fail
      refine (spans_any b g hd T _ hH'.s).mono ?_
      rintro e W1 ⟨v, rfl, hx, hX⟩
      have hH1 := hH'.kept (Oc.only_of_below hX none) (Nat.le_refl _)
      have hshape : ∃ ax cx, v = .slice ax (Oc.spans hd T).length cx := by
        rcases hx.2 with ⟨rfl, h0⟩ | ⟨gx, cx, cur, rfl, _⟩
        · exact ⟨none, 0, by rw [h0]⟩
        · exact ⟨_, _, rfl⟩
      obtain ⟨ax, cx, rfl⟩ := hshape
      have hsum : ∀ j x, (Oc.spans hd T)[j]? = some x → Oc.sumS ((Oc.spans hd T).take j) + x.2 ≤ T.length := fun j x hx => sums_take hx
      have hall : Oc.sumS (Oc.spans hd T) + Oc.taken hd T (N - hd) = N - hd := by rw [← hTN]; exact Oc.taken_all (by omega)
      have hsle : Oc.sumS (Oc.spans hd T) ≤ 4096 := by omega
      have hfree : ∀ x ∈ Oc.spans hd T, hd ≤ x.1 ∧ x.1 + x.2 ≤ N ∧ ∀ m, m < x.2 → O[x.1 + m]? = some 0 := fun x hx => by
        obtain ⟨a1, a2, a3⟩ := Oc.spans_free hx
        have a4 := Oc.spans_in hx
        exact ⟨a1, by omega, fun m hm => (Oc.unhide HI).free_zero (a3 _ (by omega) (by omega))⟩
      have Hsum := Oc.hide hsum
      have Hall := Oc.hide hall
      have Hfree := Oc.hide hfree
      clear hsum hall hfree hH' hX
      go_wp2_with fail
      obtain ⟨wo, rfl⟩ : ∃ wo : World, wo = wr := ⟨_, rfl⟩
      obtain ⟨ko, rfl⟩ : ∃ ko : Nat, ko = gk := ⟨_, rfl⟩
      generalize hL : Oc.spans hd T = L at *
      -- the free ones
      go_loopg [18, 19] L.length (fun gk n i wr => ∃ (j : Nat), j + gk = L.length ∧ i = .int .i64 j ∧ n = .int .i64 (Oc.sumS (L.take j)) ∧ W1 = wr)
      case atStart => exact ⟨0, by omega, rfl, rfl, rfl⟩
      case round =>
        obtain ⟨j, hj, rfl, rfl, rfl⟩ := hrel
        by_cases hjl : j < L.length
        · have dj : decide ((j : Int) < (L.length : Int)) = true := by simpa using hjl
          have dj2 : decide (j < L.length) = true := by simpa using hjl
          obtain ⟨x, hxj⟩ : ∃ x, L[j]? = some x := ⟨_, List.getElem?_eq_getElem hjl⟩
          have hget := cellsS_get _ _ _ hxj
          rw [Nat.mul_comm] at hget
          obtain ⟨gx, rfl⟩ : ∃ gx, ax = some ⟨gx, 0, none⟩ := by
            rcases hx.2 with ⟨h', h0⟩ | ⟨gx, cx', cur, h', _⟩
            · omega
            · cases h'; exact ⟨_, rfl⟩
          obtain ⟨x1, _⟩ := owns_cell hx hget.1
          obtain ⟨x2, _⟩ := owns_cell hx hget.2
          have hsj := Oc.unhide Hsum j x hxj
          obtain ⟨a1, a2, a3⟩ := Oc.unhide Hfree x (List.mem_of_getElem? hxj)
          have ha3 := Oc.hide a3
          have hsn : Oc.sumS (L.take (j + 1)) = Oc.sumS (L.take j) + x.2 := by rw [take_snocS _ _ _ hxj]; simp [Oc.sumS]
          have Hsn := Lib.hid hsn
          clear hget hxj a3 hsn
          go_wp2_with fail
          obtain ⟨kp, rfl⟩ : ∃ kp : Nat, kp = gk := ⟨_, rfl⟩
          go_loopg [18, 20] x.2 (fun gk n i wr => ∃ (m : Nat), m + gk = x.2 ∧ i = .int .i64 m ∧ n = .int .i64 ((Oc.sumS (L.take j) : Nat) + (m : Nat)) ∧ W1 = wr)
          case atStart => exact ⟨0, by omega, rfl, by simp, rfl⟩
          case round =>
            obtain ⟨m, hm, rfl, rfl, rfl⟩ := hrel
            by_cases hmx : m < x.2
            · have dm : decide ((m : Int) < ((x.2 : Nat) : Int)) = true := by simpa using hmx
              have dm2 : decide (m < x.2) = true := by simpa using hmx
              have e1 : decide ((x.1 : Int) + (m : Int) < (hd : Int)) = false := by simp; omega
              have e2 : decide ((N : Int) ≤ (x.1 : Int) + (m : Int)) = false := by simp; omega
              have j0 : 0 ≤ (x.1 : Int) + (m : Int) := by omega
              have j1 : (x.1 : Int) + (m : Int) < (N : Int) := by omega
              have q1 : W1.cell? ⟨q, x.1 + m, none⟩ = some (.int .i64 0) := (hH1.cell (Oc.unhide ha3 m hmx)).1
              go_wp2_with fail
              go_roundg (gk - 1)
              case measure => omega
              case rel => exact ⟨m + 1, by omega, by go_num, by go_num, rfl⟩
            · have dm : decide ((m : Int) < ((x.2 : Nat) : Int)) = false := by simpa using hmx
              have dm2 : decide (m < x.2) = false := by simpa using hmx
              have hmx2 := Lib.hid (show m = x.2 by omega)
              go_wp2_with fail
              go_roundg (kp - 1)
              case measure => omega
              case rel => exact ⟨j + 1, by omega, by go_num, by rw [Hsn.out, hmx2.out]; go_num, rfl⟩
        · have dj : decide ((j : Int) < (L.length : Int)) = false := by simpa using hjl
          have dj2 : decide (j < L.length) = false := by simpa using hjl
          have htk := Lib.hid (show L.take j = L from List.take_of_length_le (by omega))
          rw [htk.out]
          go_wp2_with fail
          -- the taken ones
          go_loopg [18, 22] (N - hd) (fun gk n i wr => ∃ (m : Nat), m + gk = N - hd ∧ i = .int .i64 ((hd : Nat) + (m : Nat)) ∧ n = .int .i64 ((Oc.sumS L : Nat) + (Oc.taken hd T m : Nat)) ∧ W1 = wr)
          case atStart => exact ⟨0, by omega, by simp, by simp [Oc.taken], rfl⟩
          case round =>
            obtain ⟨m, hm, rfl, rfl, rfl⟩ := hrel
            have htm : Oc.taken hd T m ≤ 4096 := by
              unfold Oc.taken
              have := List.count_le_length (a := true) (l := (T.drop hd).take m)
              simp at this; omega
            by_cases hmx : m < N - hd
            · have dm : decide ((hd : Int) + (m : Int) < (N : Int)) = true := by simp; omega
              have j0 : 0 ≤ (hd : Int) + (m : Int) := by omega
              have j1 : (hd : Int) + (m : Int) < (N : Int) := by omega
              obtain ⟨t, ht⟩ : ∃ t, T[hd + m]? = some t := ⟨_, List.getElem?_eq_getElem (by omega)⟩
              obtain ⟨o, ho⟩ : ∃ o, O[hd + m]? = some o := ⟨_, List.getElem?_eq_getElem (by rw [hH1.len]; omega)⟩
              have hio := ((Oc.unhide HI).2 _ t o ht ho).1
              have hts := Lib.hid (Oc.taken_succ ht)
              have q1 : W1.cell? ⟨q, hd + m, none⟩ = some (.int .i64 o) := (hH1.cell ho).1
              clear ht ho
              cases t with
              | true =>
                have do1 : (o == 0) = false := by simpa using hio
                have do2 : (o != 0) = true := by simpa using hio
                clear hio
                go_wp2_with fail
                go_roundg (gk - 1)
                case measure => omega
                case rel => exact ⟨m + 1, by omega, by go_num, by rw [hts.out]; simp; go_num, rfl⟩
              | false =>
                have do1 : (o == 0) = true := by simpa using hio
                have do2 : (o != 0) = false := by simpa using hio
                clear hio
                go_wp2_with fail
                go_roundg (gk - 1)
                case measure => omega
                case rel => exact ⟨m + 1, by omega, by go_num, by rw [hts.out]; simp, rfl⟩
            · have dm : decide ((hd : Int) + (m : Int) < (N : Int)) = false := by simp; omega
              have hmx2 := Lib.hid (show m = N - hd by omega)
              have hfin := Lib.hid (show ((Oc.sumS L : Nat) : Int) + (Oc.taken hd T m : Nat) = (N : Int) - (hd : Int) by have := Oc.unhide Hall; rw [hmx2.out]; omega)
              rw [hfin.out]
              go_wp2_with fail
              go_ret
              exact ⟨by simp, hH1.bel⟩
theorem spaceApart_true (size head : Int) (a : Option Addr) (len cap : Nat) (zs : List Int) (w : World) (hs : Oc.I size) (hh : Oc.I head) (hl : Oc.IsRow .i64 w a len cap zs) :
    Calls Try.prog 5 #[.int .i64 size, .int .i64 head, .slice a len cap] w fun e w' => e = .returned (.bool true) ∧ Below w.heap.size w w' := by
  by_cases h : 300 < size ∨ 300 < len ∨ head < 0 ∨ size < head ∨ 4096 < size
  · exact spaceApart_low size head a len cap zs w hs hh hl h
  · exact spaceApart_high size head a len cap zs w hs hh hl (by omega) (by omega) (by omega) (by omega)
end Go.Proofs.Ytbkemnfhmaekbaa
