/- The walk through the law of streams. -/
import Derived.Test.YtjcbkchhafkffabRngStream
namespace Go.Proofs.Ytjcbkchhafkffab
set_option linter.unusedVariables false
open Go.RowKit
set_option maxHeartbeats 1000000
theorem new_at (seed stage x y z : Int) (h : Oc.U seed) (w : World) :
    Calls Try.prog 6 #[.int .u64 seed, .int .i64 stage, .int .i64 x, .int .i64 y, .int .i64 z] w fun e w' => ∃ b, e = .returned (.pointer (some ⟨b, 0, none⟩)) ∧ w.heap.size ≤ b ∧ b < w'.heap.size ∧ Str w' b (Oc.hash seed stage x y z) 0 ∧ Below w.heap.size w w' :=
  (new_any seed stage x y z h w).mono fun e w' ⟨he, hw⟩ => by
    subst hw
    exact ⟨w.heap.size, he, Nat.le_refl _, by simp, ⟨by go_simp, by go_simp, by go_simp⟩, (Below.refl _ _).alloc (Nat.le_refl _) _⟩
theorem Str.later {w w' : World} {b : Nat} {key c : Int} (h : Str w b key c) (hb : Below w.heap.size w w') (hs : b < w.heap.size) : Str w' b key c :=
  ⟨(hb.cell (p := ⟨b, 0, none⟩) hs).trans h.1, (hb.cell (p := ⟨b, 1, none⟩) hs).trans h.2.1, (hb.frozen (p := ⟨b, 1, none⟩) hs).trans h.2.2⟩
theorem streams_long (seed stage x z : Int) (a : Option Addr) (len cap : Nat) (w : World) (g : 1000 < len) : Calls Try.prog 3 #[.int .u64 seed, .int .i64 stage, .int .i64 x, .int .i64 z, .slice a len cap] w fun e w' => e = .returned (.bool true) ∧ Below w.heap.size w w' := by
  have hb := Below.refl w.heap.size w
  go_enter Try.func3, Try.ntmps3
  go_wp2_with (first | (go_at_call 5; refine (awake_any _).mono ?_; rintro e w' ⟨rfl, hb'⟩; have hb := hb.trans (hb'.mono hb.size); clear hb'))
  go_ret
  exact ⟨rfl, hb⟩
theorem streams_short (seed stage x z : Int) (a : Option Addr) (len cap : Nat) (zs : List Int) (w : World) (h : Oc.U seed) (g : len ≤ 1000) (hr : Oc.IsRow .i64 w a len cap zs) : Calls Try.prog 3 #[.int .u64 seed, .int .i64 stage, .int .i64 x, .int .i64 z, .slice a len cap] w fun e w' => e = .returned (.bool true) ∧ Below w.heap.size w w' := by
  have hb := Below.refl w.heap.size w
  go_enter Try.func3, Try.ntmps3
  go_wp2_with (first | (go_at_call 5; refine (awake_any _).mono ?_; rintro e w' ⟨rfl, hb'⟩; have hb := hb.trans (hb'.mono hb.size); clear hb'))
  have hz0 := hb.size
  refine (new_at _ _ _ _ _ h _).mono ?_
  rintro e w1 ⟨bs, rfl, hs1, hs2, hs3, hb1⟩
  have hb := hb.trans (hb1.mono hb.size)
  have hz1 := hb.size
  go_wp2_with fail
  refine (new_at _ _ _ _ _ h _).mono ?_
  rintro e w2 ⟨bt, rfl, ht1, ht2, ht3, hb2⟩
  have hs3 := hs3.later hb2 hs2
  have hb := hb.trans (hb2.mono hb.size)
  have hz2 := hb2.size
  go_wp2_with fail
  refine (rnew_any _ _ _ _ _ h _).mono ?_
  rintro e w3 ⟨br, rfl, hr1, hr2, hr3, hb3⟩
  have hs3 := hs3.later hb3 (by omega)
  have ht3 := ht3.later hb3 ht2
  have hb := hb.trans (hb3.mono hb.size)
  have hz3 := hb3.size
  go_wp2_with fail
  have hbr : br < w3.heap.size := hr2
  have htr : bt < w2.heap.size := ht2
  have hsr : bs < w1.heap.size := hs2
  clear hb1 hb2 hb3 hs2 ht2 hr2
  go_loopw [15] (fun i wr => ∃ (k : Nat) (c : Int), k ≤ len ∧ i = .int .i64 k ∧ Str wr bs (Oc.hash seed stage x 0 z) c ∧ Str wr bt (Oc.hash seed stage x 0 z) c ∧ Str wr br (Oc.hash seed stage x 0 z) c ∧ Below w.heap.size w wr ∧ br < wr.heap.size) (fun i _ => len - (intOf i).toNat)
  case atStart => exact ⟨0, 0, by omega, rfl, hs3, ht3, hr3, hb, hbr⟩
  case round =>
    clear hs3 ht3 hr3 hb hbr
    obtain ⟨k, c, hk, rfl, hs, ht, hr', hb, hbr⟩ := hrel
    have hbz := hb.size
    by_cases hlt : k < len
    · obtain ⟨b, off, rfl, hbl, hl, hm, hz, hc, hw⟩ := hr.spot (by omega)
      have cell : wr.cell? ⟨b, off + k, none⟩ = some (.int .i64 (zs.getD k 0)) := (hb.cell (p := ⟨b, off + k, none⟩) hbl).trans (hc k hlt)
      clear hc hw
      generalize zs.getD k 0 = q at cell
      by_cases z0 : q = 0
      · subst z0
        go_wp2_with fail
        refine (next_any _ _ _ _ hs).mono ?_
        rintro e w4 ⟨rfl, hs, g1⟩
        have ht := ht.keep g1 (by omega) (by omega)
        have hr' := hr'.keep g1 (by omega) (by omega)
        have hb := Oc.below_only hb g1 hbz (by omega)
        have y1 := g1.size
        go_wp2_with fail
        refine (next_any _ _ _ _ ht).mono ?_
        rintro e w5 ⟨rfl, ht, g2⟩
        have hs := hs.keep g2 (by omega) (by omega)
        have hr' := hr'.keep g2 (by omega) (by omega)
        have hb := Oc.below_only hb g2 (by omega) (by omega)
        have y2 := g2.size
        go_wp2_with fail
        refine (rnext_any _ _ _ _ hr').mono ?_
        rintro e w6 ⟨rfl, hr', g3⟩
        have hs := hs.keep g3 (by omega) (by omega)
        have ht := ht.keep g3 (by omega) (by omega)
        have hb := Oc.below_only hb g3 (by omega) (by omega)
        have y3 := g3.size
        go_wp2_with fail
        go_roundw
        case rel => exact ⟨k + 1, _, by omega, by go_num, hs, ht, hr', hb, by omega⟩
        case measure => simp [intOf]; omega
      · have z1 : (q == 0) = false := by rw [beq_eq_false_iff_ne]; exact z0
        clear z0
        go_wp2_with fail
        refine (sbelow_any _ _ _ _ _ hs).mono ?_
        rintro e w4 ⟨rfl, hs, g1⟩
        have ht := ht.keep g1 (by omega) (by omega)
        have hr' := hr'.keep g1 (by omega) (by omega)
        have hb := Oc.below_only hb g1 hbz (by omega)
        have y1 := g1.size
        have cell := (World.cell?_of_block (w := wr) (g1.block b (by omega) (fun e => by injection e; omega))).trans cell
        go_wp2_with fail
        refine (sbelow_any _ _ _ _ _ ht).mono ?_
        rintro e w5 ⟨rfl, ht, g2⟩
        have hs := hs.keep g2 (by omega) (by omega)
        have hr' := hr'.keep g2 (by omega) (by omega)
        have hb := Oc.below_only hb g2 (by omega) (by omega)
        have y2 := g2.size
        have cell := (World.cell?_of_block (w := w4) (g2.block b (by omega) (fun e => by injection e; omega))).trans cell
        go_wp2_with fail
        refine (rsbelow_any _ _ _ _ _ hr').mono ?_
        rintro e w6 ⟨rfl, hr', g3⟩
        have hs := hs.keep g3 (by omega) (by omega)
        have ht := ht.keep g3 (by omega) (by omega)
        have hb := Oc.below_only hb g3 (by omega) (by omega)
        have y3 := g3.size
        have cell := (World.cell?_of_block (w := w5) (g3.block b (by omega) (fun e => by injection e; omega))).trans cell
        go_wp2_with fail
        go_roundw
        case rel => exact ⟨k + 1, _, by omega, by go_num, hs, ht, hr', hb, by omega⟩
        case measure => simp [intOf]; omega
    · obtain rfl : k = len := by omega
      go_wp2_with fail
      go_ret
      exact ⟨rfl, hb⟩
theorem streams_walk (seed stage x z : Int) (a : Option Addr) (len cap : Nat) (zs : List Int) (w : World) (h : Oc.U seed) (_ : Oc.I stage) (_ : Oc.I x) (_ : Oc.I z) (hr : Oc.IsRow .i64 w a len cap zs) : Calls Try.prog 3 #[.int .u64 seed, .int .i64 stage, .int .i64 x, .int .i64 z, .slice a len cap] w fun e w' => e = .returned (.bool true) ∧ Below w.heap.size w w' := by
  by_cases g : 1000 < len
  · exact streams_long seed stage x z a len cap w g
  · exact streams_short seed stage x z a len cap zs w h (by omega) hr
end Go.Proofs.Ytjcbkchhafkffab
