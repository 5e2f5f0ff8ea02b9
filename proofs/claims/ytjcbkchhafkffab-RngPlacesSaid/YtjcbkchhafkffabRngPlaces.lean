/- The walk through the law of a stream's places. -/
import Derived.Test.YtjcbkchhafkffabRngStreams
namespace Go.Proofs.Ytjcbkchhafkffab
set_option linter.unusedVariables false
open Go.RowKit
set_option maxHeartbeats 1000000
theorem places_early (seed stage : Int) (a a2 : Option Addr) (len cap len2 cap2 : Nat) (w : World) (h : Oc.U seed) (g : 200 < len ∨ len2 < len) : Calls Try.prog 4 #[.int .u64 seed, .int .i64 stage, .slice a len cap, .slice a2 len2 cap2] w fun e w' => e = .returned (.bool true) ∧ Below w.heap.size w w' := by
  have hb := Below.refl w.heap.size w
  rcases g with g | g
  all_goals
    go_enter Try.func4, Try.ntmps4
    go_wp2_with (first | (go_at_call 5; refine (awake_any _).mono ?_; rintro e w' ⟨rfl, hb'⟩; have hb := hb.trans (hb'.mono hb.size); clear hb'))
    refine (new_at _ _ _ _ _ h _).mono ?_
    rintro e w1 ⟨bs, rfl, hs1, hs2, hs3, hb1⟩
    have hb := hb.trans (hb1.mono hb.size)
    go_wp2_with fail
    refine (new_at _ _ _ _ _ h _).mono ?_
    rintro e w2 ⟨bt, rfl, ht1, ht2, ht3, hb2⟩
    have hb := hb.trans (hb2.mono hb.size)
    go_wp2_with fail
    all_goals go_ret
    all_goals exact ⟨rfl, hb⟩
theorem places_late (seed stage : Int) (a a2 : Option Addr) (len cap len2 cap2 : Nat) (zs zs2 : List Int) (w : World) (h : Oc.U seed) (g : len ≤ 200) (g2 : len ≤ len2) (hr : Oc.IsRow .i64 w a len cap zs) (hr2 : Oc.IsRow .i64 w a2 len2 cap2 zs2) : Calls Try.prog 4 #[.int .u64 seed, .int .i64 stage, .slice a len cap, .slice a2 len2 cap2] w fun e w' => e = .returned (.bool true) ∧ Below w.heap.size w w' := by
  have hb := Below.refl w.heap.size w
  have d1 : decide ((200 : Int) < (len : Int)) = false := by simp; omega
  have d2 : decide (len2 < len) = false := by simp; omega
  go_enter Try.func4, Try.ntmps4
  go_wp2_with (first | (go_at_call 5; refine (awake_any _).mono ?_; rintro e w' ⟨rfl, hb'⟩; have hb := hb.trans (hb'.mono hb.size); clear hb'))
  have hz0 := hb.size
  refine (new_at _ _ _ _ _ h _).mono ?_
  rintro e w1 ⟨bs, rfl, hs1, hs2, hs3, hb1⟩
  have hb := hb.trans (hb1.mono hb.size)
  have hz1 := hb.size
  go_wp2_with fail
  refine (new_at _ _ _ _ _ h _).mono ?_
  rintro e w2 ⟨bt, rfl, ht1, ht2, ht3, hb2⟩
  have hs3 := hs3.later hb2 hs2
  have hb := hb.trans (hb2.mono hb.size)
  have hz2 := hb2.size
  go_wp2_with fail
  clear hb1 hb2
  have htr : bt < w2.heap.size := ht2
  clear ht2
  go_loopw [12] (fun i wr => ∃ (k : Nat) (c : Int), k ≤ len ∧ i = .int .i64 k ∧ Str wr bs (Oc.hash seed stage 1 2 3) c ∧ Str wr bt (Oc.hash seed stage 1 2 3) c ∧ Below w.heap.size w wr ∧ bt < wr.heap.size) (fun i _ => len - (intOf i).toNat)
  case atStart => exact ⟨0, 0, by omega, rfl, hs3, ht3, hb, htr⟩
  case round =>
    clear hs3 ht3 hb htr
    obtain ⟨k, c, hk, rfl, hs, ht, hb, htr⟩ := hrel
    have hbz := hb.size
    by_cases hlt : k < len
    · obtain ⟨b, off, rfl, hbl, hl, hm, hz, hc, hw⟩ := hr.spot (by omega)
      obtain ⟨b2, off2, rfl, hbl2, hl2, hm2, hzz2, hc2, hw2⟩ := hr2.spot (by omega)
      have cell : wr.cell? ⟨b, off + k, none⟩ = some (.int .i64 (zs.getD k 0)) := (hb.cell (p := ⟨b, off + k, none⟩) hbl).trans (hc k hlt)
      have cell2 : wr.cell? ⟨b2, off2 + k, none⟩ = some (.int .i64 (zs2.getD k 0)) := (hb.cell (p := ⟨b2, off2 + k, none⟩) hbl2).trans (hc2 k (by omega))
      clear hc hw hc2 hw2
      generalize zs.getD k 0 = q at cell
      generalize zs2.getD k 0 = q2 at cell2
      have hlt2 : k < len2 := by omega
      go_wp2_with fail
      refine (sbelow_any _ _ _ _ _ hs).mono ?_
      rintro e w4 ⟨rfl, hs, g1⟩
      have ht := ht.keep g1 (by omega) (by omega)
      have hb := Oc.below_only hb g1 hbz (by omega)
      have y1 := g1.size
      have cell2 := (World.cell?_of_block (w := wr) (g1.block b2 (by omega) (fun e => by injection e; omega))).trans cell2
      by_cases z0 : q2 = 0
      · subst z0
        go_wp2_with fail
        refine (next_any _ _ _ _ ht).mono ?_
        rintro e w5 ⟨rfl, ht, g2⟩
        have hs := hs.keep g2 (by omega) (by omega)
        have hb := Oc.below_only hb g2 (by omega) (by omega)
        have y2 := g2.size
        go_wp2_with fail
        go_roundw
        case rel => exact ⟨k + 1, _, by omega, by go_num, hs, ht, hb, by omega⟩
        case measure => simp [intOf]; omega
      · have z1 : (q2 == 0) = false := by rw [beq_eq_false_iff_ne]; exact z0
        clear z0
        go_wp2_with fail
        refine (sbelow_any _ _ _ _ _ ht).mono ?_
        rintro e w5 ⟨rfl, ht, g2⟩
        have hs := hs.keep g2 (by omega) (by omega)
        have hb := Oc.below_only hb g2 (by omega) (by omega)
        have y2 := g2.size
        go_wp2_with fail
        go_roundw
        case rel => exact ⟨k + 1, _, by omega, by go_num, hs, ht, hb, by omega⟩
        case measure => simp [intOf]; omega
    · obtain rfl : k = len := by omega
      go_wp2_with fail
      refine (next_any _ _ _ _ hs).mono ?_
      rintro e w4 ⟨rfl, hs, g1⟩
      have ht := ht.keep g1 (by omega) (by omega)
      have hb := Oc.below_only hb g1 hbz (by omega)
      have y1 := g1.size
      go_wp2_with fail
      refine (next_any _ _ _ _ ht).mono ?_
      rintro e w5 ⟨rfl, ht, g2⟩
      have hb := Oc.below_only hb g2 (by omega) (by omega)
      go_wp2_with fail
      go_ret
      exact ⟨rfl, hb⟩
theorem places_walk (seed stage : Int) (a : Option Addr) (len cap : Nat) (zs : List Int) (a2 : Option Addr) (len2 cap2 : Nat) (zs2 : List Int) (w : World) (h : Oc.U seed) (_ : Oc.I stage) (hr : Oc.IsRow .i64 w a len cap zs) (hr2 : Oc.IsRow .i64 w a2 len2 cap2 zs2) : Calls Try.prog 4 #[.int .u64 seed, .int .i64 stage, .slice a len cap, .slice a2 len2 cap2] w fun e w' => e = .returned (.bool true) ∧ Below w.heap.size w w' := by
  by_cases g : 200 < len ∨ len2 < len
  · exact places_early seed stage a a2 len cap len2 cap2 w h g
  · exact places_late seed stage a a2 len cap len2 cap2 zs zs2 w h (by omega) (by omega) hr hr2
end Go.Proofs.Ytjcbkchhafkffab
