/- The laws SpaceFits and SpaceBack. -/
import Derived.Test.YtbkemnfhmaekbaaSpaceMore
import Derived.Deep.DeepCutAuto
import Derived.Deep.LoopGhost
namespace Go.Proofs.Ytbkemnfhmaekbaa
set_option linter.unusedVariables false
set_option linter.unusedSimpArgs false
open Go.RowKit
set_option maxHeartbeats 4000000
def NoneLong (n : Int) (L : List (Nat × Nat)) (k : Nat) : Prop := ∀ j z, j < k → L[j]? = some z → decide (n ≤ (z.2 : Int)) = false
set_option maxRecDepth 100000 in
theorem spaceFits_low (size head n : Int) (a : Option Addr) (len cap : Nat) (zs : List Int) (w : World) (hs : Oc.I size) (hh : Oc.I head) (hl : Oc.IsRow .i64 w a len cap zs) (hn : Oc.I n)
    (hlow : 300 < size ∨ 300 < len ∨ head < 0 ∨ size < head ∨ 4096 < size) :
    Calls Try.prog 6 #[.int .i64 size, .int .i64 head, .slice a len cap, .int .i64 n] w fun e w' => e = .returned (.bool true) ∧ Below w.heap.size w w' := by
  by_cases h1 : 300 < size
  · have d1 : decide (300 < size) = true := by simpa using h1
    go_enter Try.func6, Try.ntmps6
    go_wp2_with fail
    refine (awake_any _).mono ?_
    rintro e w1 ⟨rfl, hB1⟩
    go_wp2_with fail
    go_ret
    exact ⟨rfl, hB1⟩
  · have d1 : decide (300 < size) = false := by simpa using h1
    by_cases h2 : 300 < len
    · have d2 : decide (300 < (len : Int)) = true := by simp; omega
      have d3 : decide (300 < len) = true := by simp; omega
      go_enter Try.func6, Try.ntmps6
      go_wp2_with fail
      refine (awake_any _).mono ?_
      rintro e w1 ⟨rfl, hB1⟩
      go_wp2_with fail
      go_ret
      exact ⟨rfl, hB1⟩
    · have d2 : decide (300 < (len : Int)) = false := by simp; omega
      have d3 : decide (300 < len) = false := by simp; omega
      have hno := fun W => new_no size head hs hh (by omega) W
      go_enter Try.func6, Try.ntmps6
      go_wp2_with fail
      refine (awake_any _).mono ?_
      rintro e w1 ⟨rfl, hB1⟩
      go_wp2_with fail
      refine (hno _).mono ?_
      rintro e w2 ⟨rfl, rfl⟩
      go_wp2_with fail
      go_ret
      exact ⟨rfl, hB1⟩
set_option maxRecDepth 100000 in
theorem spaceBack_low (size head n : Int) (a : Option Addr) (len cap : Nat) (zs : List Int) (w : World) (hs : Oc.I size) (hh : Oc.I head) (hl : Oc.IsRow .i64 w a len cap zs) (hn : Oc.I n)
    (hlow : 300 < size ∨ 300 < len ∨ head < 0 ∨ size < head ∨ 4096 < size) :
    Calls Try.prog 7 #[.int .i64 size, .int .i64 head, .slice a len cap, .int .i64 n] w fun e w' => e = .returned (.bool true) ∧ Below w.heap.size w w' := by
  by_cases h1 : 300 < size
  · have d1 : decide (300 < size) = true := by simpa using h1
    go_enter Try.func7, Try.ntmps7
    go_wp2_with fail
    refine (awake_any _).mono ?_
    rintro e w1 ⟨rfl, hB1⟩
    go_wp2_with fail
    go_ret
    exact ⟨rfl, hB1⟩
  · have d1 : decide (300 < size) = false := by simpa using h1
    by_cases h2 : 300 < len
    · have d2 : decide (300 < (len : Int)) = true := by simp; omega
      have d3 : decide (300 < len) = true := by simp; omega
      go_enter Try.func7, Try.ntmps7
      go_wp2_with fail
      refine (awake_any _).mono ?_
      rintro e w1 ⟨rfl, hB1⟩
      go_wp2_with fail
      go_ret
      exact ⟨rfl, hB1⟩
    · have d2 : decide (300 < (len : Int)) = false := by simp; omega
      have d3 : decide (300 < len) = false := by simp; omega
      have hno := fun W => new_no size head hs hh (by omega) W
      go_enter Try.func7, Try.ntmps7
      go_wp2_with fail
      refine (awake_any _).mono ?_
      rintro e w1 ⟨rfl, hB1⟩
      go_wp2_with fail
      refine (hno _).mono ?_
      rintro e w2 ⟨rfl, rfl⟩
      go_wp2_with fail
      go_ret
      exact ⟨rfl, hB1⟩
--HIGH BEGINS
set_option maxRecDepth 100000 in
theorem spaceFits_high (size head n : Int) (a : Option Addr) (len cap : Nat) (zs : List Int) (w : World) (hs : Oc.I size) (hh : Oc.I head) (hl : Oc.IsRow .i64 w a len cap zs) (hn : Oc.I n)
    (hsz : size ≤ 300) (hlen : len ≤ 300) (h0 : 0 ≤ head) (h1 : head ≤ size) :
    Calls Try.prog 6 #[.int .i64 size, .int .i64 head, .slice a len cap, .int .i64 n] w fun e w' => e = .returned (.bool true) ∧ Below w.heap.size w w' := by
  have d1 : decide (300 < size) = false := by simpa using hsz
  have d2 : decide (300 < (len : Int)) = false := by simp; omega
  have d3 : decide (300 < len) = false := by simp; omega
  have hno := fun W => new_yes size head h0 h1 (by omega) W
  go_enter Try.func6, Try.ntmps6
  go_wp2_with fail
  refine (awake_any _).mono ?_
  rintro e w1 ⟨rfl, hB1⟩
  go_wp2_with fail
  refine (hno _).mono ?_
  rintro e w2 ⟨b, g, rfl, hS, hb, hg, hg2⟩
  have hB2 : Below w.heap.size w w2 := hB1.grown hg2 hB1.size fun r e => nomatch e
  have hbw : w.heap.size ≤ g := Nat.le_trans hB1.size hg
  clear hno hg2 hg hb hB1
  go_wp2_with fail
  go_loopg [12] len (fun gk i wr => ∃ (k : Nat) (T : List Bool), k + gk = len ∧ i = .int .i64 k ∧ Oc.Sp 48 4 wr b g head.toNat T ∧ Below w.heap.size w wr)
  case atStart => exact ⟨0, _, by omega, rfl, hS, hB2⟩
  case round =>
    obtain ⟨k, T, hk, rfl, hT, hB⟩ := hrel
    clear hS hB2
    by_cases hkl : k < len
    · have dk : decide ((k : Int) < (len : Int)) = true := by simpa using hkl
      have dk2 : decide (k < len) = true := by simpa using hkl
      obtain ⟨lb, off, rfl, hlb, hlc, hcm, _, hcell, hwf⟩ := hl.spot (by omega)
      have hc := hcell k hkl
      have hz := Oc.I_of (hwf k hkl)
      generalize zs.getD k 0 = z at hc hz
      clear hcell hwf
      have k0 : 0 ≤ (k : Int) := by omega
      have k1 : (k : Int) < (len : Int) := by omega
      have hc1 : wr.cell? ⟨lb, off + k, none⟩ = some (.int .i64 z) := (hB.cell (p := ⟨lb, _, none⟩) hlb).trans hc
      go_wp2_with fail
      refine (take_any b g head.toNat T z hz _ hT).mono ?_
      rintro e W1 ⟨rfl, hT1, hg1⟩
      have hB1 := Oc.below_only hB hg1 hB.size hbw
      have hc2 : W1.cell? ⟨lb, off + k, none⟩ = some (.int .i64 z) := (hB1.cell (p := ⟨lb, _, none⟩) hlb).trans hc
      go_wp2_with fail
      refine (Free_any b g head.toNat _ z 1 hz (by unfold Oc.I; omega) _ hT1).mono ?_
      rintro e W2 ⟨rfl, hT2, hg2⟩
      have hB2 := Oc.below_only hB1 hg2 hB1.size hbw
      go_wp2_with fail
      go_roundg (gk - 1)
      case measure => omega
      case rel => exact ⟨k + 1, _, by omega, by go_num, hT2, hB2⟩
    · have dk : decide ((k : Int) < (len : Int)) = false := by simpa using hkl
      have dk2 : decide (k < len) = false := by simpa using hkl
      have hTz := hT.sz
      have hls := len_spans head.toNat T
      go_wp2_with fail
      refine (largest_any b g head.toNat T _ hT).mono ?_
      rintro e W1 ⟨rfl, hX1⟩
      have hT1 := hT.kept (Oc.only_of_below hX1 none) (by simp) (by simp)
      have hB1 := hB.trans (hX1.mono hB.size)
      go_wp2_with fail
      refine (room_any b g head.toNat T _ hT1).mono ?_
      rintro e W2 ⟨rfl, hX2⟩
      have hT2 := hT1.kept (Oc.only_of_below hX2 none) (by simp) (by simp)
      have hB2 := hB1.trans (hX2.mono hB1.size)
      go_wp2_with fail
      refine (spans_any b g head.toNat T _ hT2).mono ?_
      rintro e W3 ⟨v, rfl, hx, hX3⟩
      have hgl2 := hT2.cells.2.2.2
      have hT3 := hT2.kept (Oc.only_of_below hX3 none) (by simp) (by simp)
      have hB3 := hB2.trans (hX3.mono hB2.size)
      have hshape : ∃ ax cx, v = .slice ax (Oc.spans head.toNat T).length cx := by
        rcases hx.2 with ⟨rfl, h0⟩ | ⟨gx, cx, cur, rfl, _⟩
        · exact ⟨none, 0, by rw [h0]⟩
        · exact ⟨_, _, rfl⟩
      obtain ⟨ax, cx, rfl⟩ := hshape
      have hxf := Oc.owns_far hx
      clear hT hT1 hT2 hB hB1 hB2 hX1 hX2 hX3
      by_cases hn1 : n < 1
      · have dn : decide (n < 1) = true := by simpa using hn1
        have ht : Oc.takeN head.toNat T n = (0, 1, T) := by unfold Oc.takeN; rw [if_pos hn1]
        go_wp2_with fail
        refine (take_any b g head.toNat T n hn _ hT3).mono ?_
        rintro e W4 ⟨rfl, hT4, hg4⟩
        rw [ht] at hT4 ⊢
        have hB4 := Oc.below_only hB3 hg4 hB3.size hbw
        clear ht
        go_wp2_with fail
        refine (room_any b g head.toNat T _ hT4).mono ?_
        rintro e W5 ⟨rfl, hX5⟩
        go_wp2_with fail
        go_ret
        exact ⟨by simp, hB4.trans (hX5.mono hB4.size)⟩
      · have dn : decide (n < 1) = false := by simpa using hn1
        rcases Oc.takeN_cases head.toNat T n (by omega) with ⟨ht, hmx⟩ | ⟨x0, hx0, hfind, ht, hmx, hnx, hhx, hxl, hF⟩
        · have dm : decide (n ≤ ((Oc.maxS (Oc.spans head.toNat T) : Nat) : Int)) = false := by simp; omega
          go_wp2_with fail
          refine (take_any b g head.toNat T n hn _ hT3).mono ?_
          rintro e W4 ⟨rfl, hT4, hg4⟩
          rw [ht] at hT4 ⊢
          have hB4 := Oc.below_only hB3 hg4 hB3.size hbw
          clear ht
          go_wp2_with fail
          refine (room_any b g head.toNat T _ hT4).mono ?_
          rintro e W5 ⟨rfl, hX5⟩
          go_wp2_with fail
          go_ret
          exact ⟨by simp, hB4.trans (hX5.mono hB4.size)⟩
        · have dm : decide (n ≤ ((Oc.maxS (Oc.spans head.toNat T) : Nat) : Int)) = true := by simpa using hmx
          have hsum := Oc.sumS_upd hhx hxl hF
          have hsle : Oc.sumS (Oc.spans head.toNat T) ≤ 4096 := by
            rw [Oc.sumS_room]
            have := List.count_le_length (a := false) (l := T.drop head.toNat)
            simp at this
            omega
          have Hfind := Oc.hide hfind
          have hxb : x0.1 ≤ 4096 ∧ x0.2 ≤ 4096 := by have := Oc.spans_in hx0; omega
          go_wp2_with fail
          refine (take_any b g head.toNat T n hn _ hT3).mono ?_
          rintro e W4 ⟨rfl, hT4, hg4⟩
          rw [ht] at hT4 ⊢
          have hB4 := Oc.below_only hB3 hg4 hB3.size hbw
          have hx4 := Oc.owns_kept hx hg4 fun r e e2 => by cases e; have := (hxf _ e2).1; omega
          have hr := fun W (hW : W4.grownBy W none) => room_any b g head.toNat _ W (hT4.kept hW (by simp) (by simp))
          have e1 : ((Oc.sumS (Oc.spans head.toNat (Oc.upd T true x0.1 n.toNat)) : Nat) : Int) = (Oc.sumS (Oc.spans head.toNat T) : Nat) - n := by omega
          simp only [e1] at hr
          have Hr := Oc.hide hr
          have k5 : n ≤ (Oc.sumS (Oc.spans head.toNat T) : Nat) := by omega
          clear ht hr e1 hsum hT4 hT3 hfind
          have hne : Oc.spans head.toNat T ≠ [] := List.ne_nil_of_mem hx0
          have hl0 : 0 < (Oc.spans head.toNat T).length := List.length_pos_iff.2 hne
          obtain ⟨gx, rfl⟩ : ∃ gx, ax = some ⟨gx, 0, none⟩ := by
            rcases hx.2 with ⟨h', h0⟩ | ⟨gx, cx', cur, h', _⟩
            · omega
            · cases h'; exact ⟨_, rfl⟩
          clear hne
          go_wp2_with fail
          obtain ⟨wo, rfl⟩ : ∃ wo : World, wo = wr := ⟨_, rfl⟩
          obtain ⟨ko, rfl⟩ : ∃ ko : Nat, ko = gk := ⟨_, rfl⟩
          generalize hL : Oc.spans head.toNat T = L at *
          go_loop [18] (fun i => ∃ j : Nat, j ≤ L.length ∧ i = .int .i64 j ∧ NoneLong n L j) (fun i => L.length - (intOf i).toNat)
          case atStart => exact ⟨0, by omega, rfl, fun j z hj _ => by omega⟩
          case round =>
            obtain ⟨j, hj, rfl, hnl⟩ := hrel
            have Hnl := Oc.hide hnl
            clear hnl
            by_cases hjl : j < L.length
            · have dj : decide ((j : Int) < (L.length : Int)) = true := by simpa using hjl
              have dj2 : decide (j < L.length) = true := by simpa using hjl
              obtain ⟨z, hz⟩ : ∃ z, L[j]? = some z := ⟨_, List.getElem?_eq_getElem hjl⟩
              have hget := cellsS_get _ _ _ hz
              rw [Nat.mul_comm] at hget
              obtain ⟨x1, _⟩ := owns_cell hx4 hget.1
              obtain ⟨x2, _⟩ := owns_cell hx4 hget.2
              have Hz := Oc.hide hz
              clear hz hget
              by_cases hzn : n ≤ (z.2 : Int)
              · have dz : decide (n ≤ ((z.2 : Nat) : Int)) = true := by simpa using hzn
                have hxz : x0 = z := Oc.find_at (Oc.unhide Hfind) (Oc.unhide Hz) dz (fun j' z' h1 h2 => Oc.unhide Hnl j' z' h1 h2)
                subst hxz
                have de : (((x0.1 : Nat) : Int) == ((x0.1 : Nat) : Int)) = true := by simp
                go_wp2_with fail
                refine (Oc.unhide Hr _ (Oc.only_refl _ _)).mono ?_
                rintro e W5 ⟨rfl, hX5⟩
                go_wp2_with fail
                go_ret
                exact ⟨by simp, hB4.trans (hX5.mono hB4.size)⟩
              · have dz : decide (n ≤ ((z.2 : Nat) : Int)) = false := by simpa using hzn
                go_wp2_with fail
                go_round
                case rel =>
                  refine ⟨j + 1, by omega, by go_num, fun j' z' h1 h2 => ?_⟩
                  by_cases e : j' = j
                  · subst e; rw [Oc.unhide Hz] at h2; cases h2; exact dz
                  · exact Oc.unhide Hnl j' z' (by omega) h2
                case measure => simp [intOf]; omega
            · exfalso
              obtain ⟨q, hq⟩ := List.mem_iff_getElem?.1 hx0
              have hql := (List.getElem?_eq_some_iff.1 hq).1
              have := Oc.unhide Hnl q x0 (by omega) hq
              simp at this
              omega
set_option maxRecDepth 100000 in
theorem spaceBack_high (size head n : Int) (a : Option Addr) (len cap : Nat) (zs : List Int) (w : World) (hs : Oc.I size) (hh : Oc.I head) (hl : Oc.IsRow .i64 w a len cap zs) (hn : Oc.I n)
    (hsz : size ≤ 300) (hlen : len ≤ 300) (h0 : 0 ≤ head) (h1 : head ≤ size) :
    Calls Try.prog 7 #[.int .i64 size, .int .i64 head, .slice a len cap, .int .i64 n] w fun e w' => e = .returned (.bool true) ∧ Below w.heap.size w w' := by
  have d1 : decide (300 < size) = false := by simpa using hsz
  have d2 : decide (300 < (len : Int)) = false := by simp; omega
  have d3 : decide (300 < len) = false := by simp; omega
  have hno := fun W => new_yes size head h0 h1 (by omega) W
  go_enter Try.func7, Try.ntmps7
  go_wp2_with fail
  refine (awake_any _).mono ?_
  rintro e w1 ⟨rfl, hB1⟩
  go_wp2_with fail
  refine (hno _).mono ?_
  rintro e w2 ⟨b, g, rfl, hS, hb, hg, hg2⟩
  have hB2 : Below w.heap.size w w2 := hB1.grown hg2 hB1.size fun r e => nomatch e
  have hbw : w.heap.size ≤ g := Nat.le_trans hB1.size hg
  clear hno hg2 hg hb hB1
  go_wp2_with fail
  go_loopg [12] len (fun gk i wr => ∃ (k : Nat) (T : List Bool), k + gk = len ∧ i = .int .i64 k ∧ Oc.Sp 48 4 wr b g head.toNat T ∧ Below w.heap.size w wr)
  case atStart => exact ⟨0, _, by omega, rfl, hS, hB2⟩
  case round =>
    obtain ⟨k, T, hk, rfl, hT, hB⟩ := hrel
    clear hS hB2
    by_cases hkl : k < len
    · have dk : decide ((k : Int) < (len : Int)) = true := by simpa using hkl
      have dk2 : decide (k < len) = true := by simpa using hkl
      obtain ⟨lb, off, rfl, hlb, hlc, hcm, _, hcell, hwf⟩ := hl.spot (by omega)
      have hc := hcell k hkl
      have hz := Oc.I_of (hwf k hkl)
      generalize zs.getD k 0 = z at hc hz
      clear hcell hwf
      have k0 : 0 ≤ (k : Int) := by omega
      have k1 : (k : Int) < (len : Int) := by omega
      have hc1 : wr.cell? ⟨lb, off + k, none⟩ = some (.int .i64 z) := (hB.cell (p := ⟨lb, _, none⟩) hlb).trans hc
      go_wp2_with fail
      refine (take_any b g head.toNat T z hz _ hT).mono ?_
      rintro e W1 ⟨rfl, hT1, hg1⟩
      have hB1 := Oc.below_only hB hg1 hB.size hbw
      have hc2 : W1.cell? ⟨lb, off + k, none⟩ = some (.int .i64 z) := (hB1.cell (p := ⟨lb, _, none⟩) hlb).trans hc
      go_wp2_with fail
      refine (Free_any b g head.toNat _ z 1 hz (by unfold Oc.I; omega) _ hT1).mono ?_
      rintro e W2 ⟨rfl, hT2, hg2⟩
      have hB2 := Oc.below_only hB1 hg2 hB1.size hbw
      go_wp2_with fail
      go_roundg (gk - 1)
      case measure => omega
      case rel => exact ⟨k + 1, _, by omega, by go_num, hT2, hB2⟩
    · have dk : decide ((k : Int) < (len : Int)) = false := by simpa using hkl
      have dk2 : decide (k < len) = false := by simpa using hkl
      have hTz := hT.sz
      have hls := len_spans head.toNat T
      go_wp2_with fail
      refine (spans_any b g head.toNat T _ hT).mono ?_
      rintro e W3 ⟨v, rfl, hx, hX3⟩
      have hgl2 := hT.cells.2.2.2
      have hT3 := hT.kept (Oc.only_of_below hX3 none) (by simp) (by simp)
      have hB3 := hB.trans (hX3.mono hB.size)
      have hshape : ∃ ax cx, v = .slice ax (Oc.spans head.toNat T).length cx := by
        rcases hx.2 with ⟨rfl, h0⟩ | ⟨gx, cx, cur, rfl, _⟩
        · exact ⟨none, 0, by rw [h0]⟩
        · exact ⟨_, _, rfl⟩
      obtain ⟨ax, cx, rfl⟩ := hshape
      have hxf := Oc.owns_far hx
      clear hT hB hX3
      by_cases hfail : (Oc.takeN head.toNat T n).2.1 = 0
      · have hn1 : 1 ≤ n := by
          rcases Int.lt_or_le n 1 with h' | h'
          · unfold Oc.takeN at hfail; rw [if_pos h'] at hfail; cases hfail
          · exact h'
        rcases Oc.takeN_cases head.toNat T n hn1 with ⟨ht, hmx⟩ | ⟨x0, hx0, hfind, ht, hmx, hnx, hhx, hxl, hF⟩
        · rw [ht] at hfail; cases hfail
        · obtain ⟨n', rfl⟩ := Int.eq_ofNat_of_zero_le (show 0 ≤ n by omega)
          rw [Int.toNat_natCast] at ht hxl hF
          have hup : Oc.upd (Oc.upd T true x0.1 n') false x0.1 n' = T := by rw [Oc.upd_upd hxl, Oc.upd_same hxl hF]
          have hfit : Oc.fits head.toNat (Oc.upd T true x0.1 n') true x0.1 n' = true := Oc.fits_iff.2 ⟨hn1, by omega, by rw [Oc.upd_length hxl]; omega, by rw [Oc.upd_length hxl]; omega, fun k h1 h2 => by rw [Oc.upd_get hxl, if_pos (by omega)]⟩
          have hE1 : Oc.setE head.toNat (Oc.upd T true x0.1 n') false x0.1 n' = 0 := by unfold Oc.setE; rw [show (!false) = true from rfl, if_pos hfit]
          have hE2 : Oc.setT head.toNat (Oc.upd T true x0.1 n') false x0.1 n' = T := by unfold Oc.setT; rw [show (!false) = true from rfl, if_pos hfit]; exact hup
          have hnf : Oc.fits head.toNat T true x0.1 1 = false := by
            rw [Bool.eq_false_iff]; intro hc
            have := (Oc.fits_iff.1 hc).2.2.2.2 x0.1 (by omega) (by omega)
            rw [hF x0.1 (by omega) (by omega)] at this
            cases this
          have hE3 : Oc.setE head.toNat T false x0.1 1 = 1 := by unfold Oc.setE; rw [show (!false) = true from rfl, hnf]; rfl
          have hE4 : Oc.setT head.toNat T false x0.1 1 = T := by unfold Oc.setT; rw [show (!false) = true from rfl, hnf]; rfl
          have hxb : x0.1 ≤ 4096 ∧ x0.2 ≤ 4096 := by have := Oc.spans_in hx0; omega
          have hxi : Oc.I ((x0.1 : Nat) : Int) := by unfold Oc.I; omega
          go_wp2_with fail
          refine (take_any b g head.toNat T n' hn _ hT3).mono ?_
          rintro e W4 ⟨rfl, hT4, hg4⟩
          rw [ht] at hT4 ⊢
          have hB4 := Oc.below_only hB3 hg4 hB3.size hbw
          have hx4 := Oc.owns_kept hx hg4 fun r e e2 => by cases e; have := (hxf _ e2).1; omega
          clear ht hfail hup hfit
          go_wp2_with fail
          refine (Free_any b g head.toNat _ _ _ hxi hn _ hT4).mono ?_
          rintro e W5 ⟨rfl, hT5, hg5⟩
          rw [hE1]
          rw [hE2] at hT5
          have hB5 := Oc.below_only hB4 hg5 hB4.size hbw
          have hx5 := Oc.owns_kept hx4 hg5 fun r e e2 => by cases e; have := (hxf _ e2).1; omega
          clear hE1 hE2 hnf
          go_wp2_with fail
          refine (Free_any b g head.toNat _ _ 1 hxi (by unfold Oc.I; omega) _ hT5).mono ?_
          rintro e W6 ⟨rfl, hT6, hg6⟩
          rw [hE3]
          rw [hE4] at hT6
          have hB6 := Oc.below_only hB5 hg6 hB5.size hbw
          have hx6 := Oc.owns_kept hx5 hg6 fun r e e2 => by cases e; have := (hxf _ e2).1; omega
          clear hE3 hE4
          go_wp2_with fail
          refine (spans_any b g head.toNat T _ hT6).mono ?_
          rintro e W7 ⟨v2, rfl, hy, hX7⟩
          have hB7 := hB6.trans (hX7.mono hB6.size)
          have hx7 := Oc.owns_kept hx6 (Oc.only_of_below hX7 none) fun r e => nomatch e
          have hshape2 : ∃ ay cy, v2 = .slice ay (Oc.spans head.toNat T).length cy := by
            rcases hy.2 with ⟨rfl, h0⟩ | ⟨gx, cx, cur, rfl, _⟩
            · exact ⟨none, 0, by rw [h0]⟩
            · exact ⟨_, _, rfl⟩
          obtain ⟨ay, cy, rfl⟩ := hshape2
          have hne : Oc.spans head.toNat T ≠ [] := List.ne_nil_of_mem hx0
          have hl0 : 0 < (Oc.spans head.toNat T).length := List.length_pos_iff.2 hne
          obtain ⟨gx, rfl⟩ : ∃ gx, ax = some ⟨gx, 0, none⟩ := by
            rcases hx.2 with ⟨h', h0⟩ | ⟨gx, cx', cur, h', _⟩
            · omega
            · cases h'; exact ⟨_, rfl⟩
          obtain ⟨gy, rfl⟩ : ∃ gy, ay = some ⟨gy, 0, none⟩ := by
            rcases hy.2 with ⟨h', h0⟩ | ⟨gx, cx', cur, h', _⟩
            · omega
            · cases h'; exact ⟨_, rfl⟩
          clear hne hx4 hx5 hx6 hT3 hT4 hT5 hT6 hX7
          go_wp2_with fail
          obtain ⟨wo, rfl⟩ : ∃ wo : World, wo = wr := ⟨_, rfl⟩
          obtain ⟨ko, rfl⟩ : ∃ ko : Nat, ko = gk := ⟨_, rfl⟩
          generalize hL : Oc.spans head.toNat T = L at *
          go_loopw [19] (fun i wr => ∃ j : Nat, j ≤ L.length ∧ i = .int .i64 j ∧ W7.grownBy wr none) (fun i _ => L.length - (intOf i).toNat)
          case atStart => exact ⟨0, by omega, rfl, Oc.only_refl _ _⟩
          case round =>
            obtain ⟨j, hj, rfl, hgr⟩ := hrel
            by_cases hjl : j < L.length
            · have dj : decide ((j : Int) < (L.length : Int)) = true := by simpa using hjl
              have dj2 : decide (j < L.length) = true := by simpa using hjl
              obtain ⟨z, hz⟩ : ∃ z, L[j]? = some z := ⟨_, List.getElem?_eq_getElem hjl⟩
              have hget := cellsS_get _ _ _ hz
              rw [Nat.mul_comm] at hget
              have hxr := Oc.owns_kept hx7 hgr fun r e => nomatch e
              have hyr := Oc.owns_kept hy hgr fun r e => nomatch e
              obtain ⟨x1, _⟩ := owns_cell hxr hget.1
              obtain ⟨x2, _⟩ := owns_cell hxr hget.2
              obtain ⟨y1, _⟩ := owns_cell hyr hget.1
              obtain ⟨y2, _⟩ := owns_cell hyr hget.2
              have k0 : 0 ≤ (j : Int) := by omega
              have k1 : (j : Int) < (L.length : Int) := by omega
              clear hz hget
              go_wp2_with fail
              go_quiet (fail)
              go_wp2_with fail
              go_roundw
              case rel => exact ⟨j + 1, by omega, by go_num, Oc.only_drewN hgr _⟩
              case measure => simp [intOf]; omega
            · have dj : decide ((j : Int) < (L.length : Int)) = false := by simpa using hjl
              have dj2 : decide (j < L.length) = false := by simpa using hjl
              go_wp2_with fail
              go_ret
              exact ⟨rfl, hB7.grown hgr hB7.size fun r e => nomatch e⟩
      · have de : ((Oc.takeN head.toNat T n).2.1 == 0) = false := by simpa using hfail
        go_wp2_with fail
        refine (take_any b g head.toNat T n hn _ hT3).mono ?_
        rintro e W4 ⟨rfl, hT4, hg4⟩
        have hB4 := Oc.below_only hB3 hg4 hB3.size hbw
        go_wp2_with fail
        go_ret
        exact ⟨rfl, hB4⟩
theorem spaceFits_true (size head : Int) (a : Option Addr) (len cap : Nat) (zs : List Int) (n : Int) (w : World) (hs : Oc.I size) (hh : Oc.I head) (hl : Oc.IsRow .i64 w a len cap zs) (hn : Oc.I n) :
    Calls Try.prog 6 #[.int .i64 size, .int .i64 head, .slice a len cap, .int .i64 n] w fun e w' => e = .returned (.bool true) ∧ Below w.heap.size w w' := by
  by_cases h : 300 < size ∨ 300 < len ∨ head < 0 ∨ size < head ∨ 4096 < size
  · exact spaceFits_low size head n a len cap zs w hs hh hl hn h
  · exact spaceFits_high size head n a len cap zs w hs hh hl hn (by omega) (by omega) (by omega) (by omega)
theorem spaceBack_true (size head : Int) (a : Option Addr) (len cap : Nat) (zs : List Int) (n : Int) (w : World) (hs : Oc.I size) (hh : Oc.I head) (hl : Oc.IsRow .i64 w a len cap zs) (hn : Oc.I n) :
    Calls Try.prog 7 #[.int .i64 size, .int .i64 head, .slice a len cap, .int .i64 n] w fun e w' => e = .returned (.bool true) ∧ Below w.heap.size w w' := by
  by_cases h : 300 < size ∨ 300 < len ∨ head < 0 ∨ size < head ∨ 4096 < size
  · exact spaceBack_low size head n a len cap zs w hs hh hl hn h
  · exact spaceBack_high size head n a len cap zs w hs hh hl hn (by omega) (by omega) (by omega) (by omega)
end Go.Proofs.Ytbkemnfhmaekbaa
