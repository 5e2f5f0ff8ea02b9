/- The law SpaceDoes. -/
import Derived.Test.YtbkemnfhmaekbaaSpaceNew
import Derived.Test.YtbkemnfhmaekbaaLeaves
import Derived.Deep.DeepCutAuto
import Derived.Deep.LoopGhost
import Derived.Deep.CutBlock
import Derived.Deep.RegionHeld3
namespace Oc
open Go Go.RowKit
/-- The two spaces lie apart, in blocks from n₀ on; they hold the same. -/
structure Two (ty tr tb n₀ : Nat) (w : World) (b g b' g' h : Nat) (T : List Bool) : Prop where
  s : Sp ty tb w b g h T
  r : Sp tr tb w b' g' h T
  lo : n₀ ≤ b ∧ n₀ ≤ g ∧ n₀ ≤ b' ∧ n₀ ≤ g'
  ne : b ≠ g' ∧ b' ≠ g ∧ g ≠ g'
end Oc
namespace Go.Proofs.Ytbkemnfhmaekbaa
set_option linter.unusedVariables false
set_option linter.unusedSimpArgs false
open Go.RowKit
set_option maxHeartbeats 4000000
set_option maxRecDepth 100000 in
theorem spaceDoes_true (size head : Int) (a : Option Addr) (len cap : Nat) (w : World) (hs : Oc.I size) (hh : Oc.I head) (hl : Oc.IsStructs [.int .i64, .int .i64, .int .i64, .int .i64] w a len cap) :
    Calls Try.prog 4 #[.int .i64 size, .int .i64 head, .slice a len cap] w fun e w' => e = .returned (.bool true) ∧ Below w.heap.size w w' := by
  have hlow : ∀ (X : Bool), decide (300 < size) = X → (X = true ∨ 300 < len) → Calls Try.prog 4 #[.int .i64 size, .int .i64 head, .slice a len cap] w fun e w' => e = .returned (.bool true) ∧ Below w.heap.size w w' := by
    intro X hX hor
    cases X with
    | true =>
      go_enter Try.func4, Try.ntmps4
      go_wp2_with fail
      refine (awake_any _).mono ?_
      rintro e w1 ⟨rfl, hB1⟩
      go_wp2_with fail
      go_ret
      exact ⟨rfl, hB1⟩
    | false =>
      have h3 : 300 < len := by simpa using hor
      have d3 : decide (300 < len) = true := by simpa using h3
      have d3' : decide (300 < (len : Int)) = true := by simp; omega
      go_enter Try.func4, Try.ntmps4
      go_wp2_with fail
      refine (awake_any _).mono ?_
      rintro e w1 ⟨rfl, hB1⟩
      go_wp2_with fail
      go_ret
      exact ⟨rfl, hB1⟩
  by_cases hsz : 300 < size
  · exact hlow true (by simpa using hsz) (.inl rfl)
  by_cases hlen : 300 < len
  · exact hlow false (by simpa using hsz) (.inr hlen)
  clear hlow
  have d1 : decide (300 < size) = false := by simpa using hsz
  have d2 : decide (300 < (len : Int)) = false := by simp; omega
  by_cases h : head < 0 ∨ size < head ∨ 4096 < size
  · have hno := fun W => new_no size head hs hh h W
    have hrno := fun W => rnew_no size head hs hh h W
    by_cases hl0 : len = 0
    · have d3 : decide (0 < len) = false := by simp; omega
      have d3' : decide (0 < (len : Int)) = false := by simp; omega
      subst hl0
      go_enter Try.func4, Try.ntmps4
      go_wp2_with fail
      refine (awake_any _).mono ?_
      rintro e w1 ⟨rfl, hB1⟩
      go_wp2_with fail
      refine (hno _).mono ?_
      rintro e w2 ⟨rfl, rfl⟩
      go_wp2_with fail
      refine (hrno _).mono ?_
      rintro e w3 ⟨rfl, rfl⟩
      go_wp2_with fail
      refine wp_loop_rounds 1 ?_
      rw [rounds_succ]
      go_wp2_with fail
      go_ret
      exact ⟨rfl, hB1⟩
    · have d3 : decide (0 < len) = true := by simp; omega
      have d3' : decide (0 < (len : Int)) = true := by simp; omega
      go_enter Try.func4, Try.ntmps4
      go_wp2_with fail
      refine (awake_any _).mono ?_
      rintro e w1 ⟨rfl, hB1⟩
      go_wp2_with fail
      refine (hno _).mono ?_
      rintro e w2 ⟨rfl, rfl⟩
      go_wp2_with fail
      refine (hrno _).mono ?_
      rintro e w3 ⟨rfl, rfl⟩
      go_wp2_with fail
      refine wp_loop_rounds 1 ?_
      rw [rounds_succ]
      go_wp2_with fail
      go_ret
      exact ⟨rfl, hB1⟩
  · have hno := fun W => new_yes size head (by omega) (by omega) (by omega) W
    have hrno := fun W => rnew_yes size head (by omega) (by omega) (by omega) W
    go_enter Try.func4, Try.ntmps4
    go_wp2_with fail
    refine (awake_any _).mono ?_
    rintro e w1 ⟨rfl, hB1⟩
    go_wp2_with fail
    refine (hno _).mono ?_
    rintro e w2 ⟨b, g, rfl, hS, hb, hg, hg2⟩
    have hB2 : Below w.heap.size w w2 := hB1.grown hg2 hB1.size fun r e => nomatch e
    go_wp2_with fail
    refine (hrno _).mono ?_
    rintro e w3 ⟨b', g', rfl, hS', hb', hg', hg3⟩
    have hB3 : Below w.heap.size w w3 := hB2.grown hg3 hB2.size fun r e => nomatch e
    have hS3 := hS.kept hg3 (by simp) (by simp)
    have hz2 := hS.cells
    have hTw : Oc.Two 48 50 4 w.heap.size w3 b g b' g' head.toNat (List.replicate size.toNat false) :=
      ⟨hS3, hS', by have := hB1.size; have := hB2.size; omega, by omega⟩
    have hb3 := hB1.size
    clear hS hS' hS3 hg2 hg3 hno hrno hB1 hB2 hz2 hb hg hb' hg'
    go_wp2_with fail
    go_loopg [12] len (fun gk i wr => ∃ (j : Nat) (T : List Bool), j + gk = len ∧ i = .int .i64 j ∧ Oc.Two 48 50 4 w.heap.size wr b g b' g' head.toNat T ∧ Below w.heap.size w wr)
    case atStart => exact ⟨0, _, by omega, rfl, hTw, hB3⟩
    case round =>
      obtain ⟨j, T, hj, rfl, hT, hB⟩ := hrel
      clear hTw
      by_cases hjl : j < len
      · have dj : decide ((j : Int) < (len : Int)) = true := by simpa using hjl
        have dj2 : decide (j < len) = true := by simpa using hjl
        rcases hl with hl | ⟨lb, off, rfl, hlb, hlc, hcm, hcells⟩
        · omega
        obtain ⟨v0, c0, n0, rfl, i0⟩ := hcells j hjl 0 _ rfl
        obtain ⟨v1, c1, n1, rfl, i1⟩ := hcells j hjl 1 _ rfl
        obtain ⟨v2, c2, n2, rfl, i2⟩ := hcells j hjl 2 _ rfl
        obtain ⟨v3, c3, n3, rfl, i3⟩ := hcells j hjl 3 _ rfl
        replace i1 := Oc.I_of i1
        replace i2 := Oc.I_of i2
        replace i3 := Oc.I_of i3
        clear i0 hcells
        simp only [List.length_cons, List.length_nil, Nat.zero_add, Nat.reduceAdd, Nat.add_zero] at c0 c1 c2 c3
        have hkeep : ∀ W, Below w.heap.size w W → W.cell? ⟨lb, off + j * 4, none⟩ = some (.int .i64 n0) ∧ W.cell? ⟨lb, off + j * 4 + 1, none⟩ = some (.int .i64 n1) ∧ W.cell? ⟨lb, off + j * 4 + 2, none⟩ = some (.int .i64 n2) ∧ W.cell? ⟨lb, off + j * 4 + 3, none⟩ = some (.int .i64 n3) := fun W hW =>
          ⟨(hW.cell (p := ⟨lb, _, none⟩) hlb).trans c0, (hW.cell (p := ⟨lb, _, none⟩) hlb).trans (by rw [Nat.add_assoc]; exact c1), (hW.cell (p := ⟨lb, _, none⟩) hlb).trans (by rw [Nat.add_assoc]; exact c2), (hW.cell (p := ⟨lb, _, none⟩) hlb).trans (by rw [Nat.add_assoc]; exact c3)⟩
        have Hkeep := Oc.hide hkeep
        clear c0 c1 c2 c3 hkeep
        obtain ⟨c0, c1, c2, c3⟩ := Oc.unhide Hkeep wr hB
        go_upto_block 2 with fail
        go_cut [13] (fun v wx => v = .bool true ∧ ∃ T', Oc.Two 48 50 4 w.heap.size wx b g b' g' head.toNat T' ∧ Below w.heap.size w wx)
        case first =>
          by_cases h0 : n0 = 0
          · subst h0
            go_wp2_with fail
            refine (take_any b g head.toNat T n1 i1 _ hT.s).mono ?_
            rintro e W1 ⟨rfl, hs1, hg1⟩
            have hB1 := Oc.below_only hB hg1 hB.size hT.lo.2.1
            obtain ⟨c0', c1', _, _⟩ := Oc.unhide Hkeep W1 hB1
            go_wp2_with fail
            refine (rtake_any b' g' head.toNat T n1 i1 _ (hT.r.kept hg1 (by simp; exact fun e => hT.ne.2.1 e.symm) (by simp; exact hT.ne.2.2))).mono ?_
            rintro e W2 ⟨rfl, hr2, hg2⟩
            have hB2 := Oc.below_only hB1 hg2 hB1.size hT.lo.2.2.2
            have hTw : Oc.Two 48 50 4 w.heap.size W2 b g b' g' head.toNat (Oc.takeN head.toNat T n1).2.2 := ⟨hs1.kept hg2 (by simp; exact fun e => hT.ne.1 e.symm) (by simp; exact fun e => hT.ne.2.2 e.symm), hr2, hT.lo, hT.ne⟩
            go_wp2_with fail
            go_meet
            case rel => exact ⟨by simp, _, hTw, hB2⟩
          · have e0 : (n0 == 0) = false := by simpa using h0
            by_cases h1 : n0 = 1
            · subst h1
              go_wp2_with fail
              have hfo : Try.prog.follows .mixedOrders = true := by kernel_rfl
              let hSS : World → Prop := fun W' : World => W'.cell? ⟨lb, off + j * 4 + 2, none⟩ = some (.int .i64 n2) ∧ W'.cell? ⟨lb, off + j * 4 + 2 + 1, none⟩ = some (.int .i64 n3)
              have hS0 : hSS wr.drew := ⟨c2, c3⟩
              have hgd : wr.grownBy wr.drew none := Oc.only_drew (Oc.only_refl _ _)
              have hTd : Oc.Two 48 50 4 w.heap.size wr.drew b g b' g' head.toNat T := ⟨hT.s.kept hgd (by simp) (by simp), hT.r.kept hgd (by simp) (by simp), hT.lo, hT.ne⟩
              have hBd : Below w.heap.size w wr.drew := hB.drew
              have k0 : 0 ≤ (j : Int) := by omega
              have k1 : (j : Int) < (len : Int) := by omega
              have k2 : ¬ (j : Int) < 0 := by omega
              have k3 : ¬ (len : Int) ≤ (j : Int) := by omega
              refine Oc.wp_region_T hSS [] hfo ?_
              refine Oc.anyT_take (i := 0) (v := .pointer (some ⟨b, 0, none⟩)) rfl (by kernel_rfl) (fun _ _ _ h => h) hS0 rfl (by rintro w' ⟨q1, q2⟩; go_simp) ?_
              try simp only [Act.put, List.setIfInBounds_toArray, List.set_cons_zero, List.set_cons_succ]
              refine Oc.anyT_take (i := 1) (v := .slice (some ⟨lb, off, none⟩) len cap) rfl (by kernel_rfl) (fun _ _ _ h => h) hS0 rfl (by rintro w' ⟨q1, q2⟩; go_simp) ?_
              try simp only [Act.put, List.setIfInBounds_toArray, List.set_cons_zero, List.set_cons_succ]
              refine Oc.anyT_take (i := 2) (v := .int .i64 j) rfl (by kernel_rfl) (fun _ _ _ h => h) hS0 rfl (by rintro w' ⟨q1, q2⟩; go_simp) ?_
              try simp only [Act.put, List.setIfInBounds_toArray, List.set_cons_zero, List.set_cons_succ]
              refine Oc.anyT_take (i := 3) (v := .pointer (some ⟨lb, off + j * 4, none⟩)) rfl (by kernel_rfl) (fun _ _ _ h => h) hS0 rfl (by rintro w' ⟨q1, q2⟩; go_simp) ?_
              try simp only [Act.put, List.setIfInBounds_toArray, List.set_cons_zero, List.set_cons_succ]
              refine Oc.anyT_take (i := 4) (v := .pointer (some ⟨lb, off + j * 4 + 2, none⟩)) rfl (by kernel_rfl) (fun _ _ _ h => h) hS0 rfl (by rintro w' ⟨q1, q2⟩; go_simp) ?_
              try simp only [Act.put, List.setIfInBounds_toArray, List.set_cons_zero, List.set_cons_succ]
              refine Oc.anyT_take (i := 5) (v := .agg #[.int .i64 n2, .int .i64 n3]) rfl (by kernel_rfl) (fun _ _ _ h => h) hS0 rfl (by rintro w' ⟨q1, q2⟩; go_simp) ?_
              try simp only [Act.put, List.setIfInBounds_toArray, List.set_cons_zero, List.set_cons_succ]
              refine Oc.anyT_take (i := 7) (v := .pointer (some ⟨b', 0, none⟩)) rfl (by kernel_rfl) (fun _ _ _ h => h) hS0 rfl (by rintro w' ⟨q1, q2⟩; go_simp) ?_
              try simp only [Act.put, List.setIfInBounds_toArray, List.set_cons_zero, List.set_cons_succ]
              refine Oc.anyT_take (i := 8) (v := .slice (some ⟨lb, off, none⟩) len cap) rfl (by kernel_rfl) (fun _ _ _ h => h) hS0 rfl (by rintro w' ⟨q1, q2⟩; go_simp) ?_
              try simp only [Act.put, List.setIfInBounds_toArray, List.set_cons_zero, List.set_cons_succ]
              refine Oc.anyT_take (i := 9) (v := .int .i64 j) rfl (by kernel_rfl) (fun _ _ _ h => h) hS0 rfl (by rintro w' ⟨q1, q2⟩; go_simp) ?_
              try simp only [Act.put, List.setIfInBounds_toArray, List.set_cons_zero, List.set_cons_succ]
              refine Oc.anyT_take (i := 10) (v := .pointer (some ⟨lb, off + j * 4, none⟩)) rfl (by kernel_rfl) (fun _ _ _ h => h) hS0 rfl (by rintro w' ⟨q1, q2⟩; go_simp) ?_
              try simp only [Act.put, List.setIfInBounds_toArray, List.set_cons_zero, List.set_cons_succ]
              refine Oc.anyT_take (i := 11) (v := .pointer (some ⟨lb, off + j * 4 + 2, none⟩)) rfl (by kernel_rfl) (fun _ _ _ h => h) hS0 rfl (by rintro w' ⟨q1, q2⟩; go_simp) ?_
              try simp only [Act.put, List.setIfInBounds_toArray, List.set_cons_zero, List.set_cons_succ]
              refine Oc.anyT_take (i := 12) (v := .agg #[.int .i64 n2, .int .i64 n3]) rfl (by kernel_rfl) (fun _ _ _ h => h) hS0 rfl (by rintro w' ⟨q1, q2⟩; go_simp) ?_
              try simp only [Act.put, List.setIfInBounds_toArray, List.set_cons_zero, List.set_cons_succ]
              refine Oc.anyT_next (i := 6) rfl (by kernel_rfl) (fun K hK => ?_)
              · go_simp
                refine (Mark_any b g head.toNat T n2 n3 i2 i3 _ hTd.s).mono ?_
                rintro e W1 ⟨rfl, hs1, hg1⟩
                have hB1 := Oc.below_only hBd hg1 hBd.size hT.lo.2.1
                refine hK _ _ (fun _ => ⟨(Oc.unhide Hkeep W1 hB1).2.2.1, (Oc.unhide Hkeep W1 hB1).2.2.2⟩) ?_
                clear hK K
                try simp only [Act.put, List.setIfInBounds_toArray, List.set_cons_zero, List.set_cons_succ]
                refine Oc.anyT_next (i := 13) rfl (by kernel_rfl) (fun K hK => ?_)
                go_simp
                refine (rMark_any b' g' head.toNat T n2 n3 i2 i3 _ (hTd.r.kept hg1 (by simp; exact fun e => hT.ne.2.1 e.symm) (by simp; exact hT.ne.2.2))).mono ?_
                rintro e W2 ⟨rfl, hr2, hg2⟩
                have hB2 := Oc.below_only hB1 hg2 hB1.size hT.lo.2.2.2
                refine hK _ _ (fun _ => ⟨(Oc.unhide Hkeep W2 hB2).2.2.1, (Oc.unhide Hkeep W2 hB2).2.2.2⟩) ?_
                clear hK K
                try simp only [Act.put, List.setIfInBounds_toArray, List.set_cons_zero, List.set_cons_succ]
                have hTw : Oc.Two 48 50 4 w.heap.size W2 b g b' g' head.toNat (Oc.setT head.toNat T true n2 n3) := ⟨hs1.kept hg2 (by simp; exact fun e => hT.ne.1 e.symm) (by simp; exact fun e => hT.ne.2.2 e.symm), hr2, hT.lo, hT.ne⟩
                refine Oc.anyT_next (i := 14) rfl (by kernel_rfl) (fun K hK => ?_)
                go_simp
                refine hK _ _ (fun _ => ⟨(Oc.unhide Hkeep W2 hB2).2.2.1, (Oc.unhide Hkeep W2 hB2).2.2.2⟩) ?_
                clear hK K
                try simp only [Act.put, List.setIfInBounds_toArray, List.set_cons_zero, List.set_cons_succ]
                refine Oc.anyT_next (i := 15) rfl (by kernel_rfl) (fun K hK => ?_)
                go_simp
                refine hK _ _ (fun _ => ⟨(Oc.unhide Hkeep W2 hB2).2.2.1, (Oc.unhide Hkeep W2 hB2).2.2.2⟩) ?_
                clear hK K
                try simp only [Act.put, List.setIfInBounds_toArray, List.set_cons_zero, List.set_cons_succ]
                refine Oc.anyT_done (by kernel_rfl) ?_ _
                go_wp2_with fail
                go_meet
                case rel => exact ⟨by simp, _, hTw, hB2⟩
            · have e1 : (n0 == 1) = false := by simpa using h1
              by_cases h2 : n0 = 2
              · subst h2
                go_wp2_with fail
                have hfo : Try.prog.follows .mixedOrders = true := by kernel_rfl
                let hSS : World → Prop := fun W' : World => W'.cell? ⟨lb, off + j * 4 + 2, none⟩ = some (.int .i64 n2) ∧ W'.cell? ⟨lb, off + j * 4 + 2 + 1, none⟩ = some (.int .i64 n3)
                have hS0 : hSS wr.drew := ⟨c2, c3⟩
                have hgd : wr.grownBy wr.drew none := Oc.only_drew (Oc.only_refl _ _)
                have hTd : Oc.Two 48 50 4 w.heap.size wr.drew b g b' g' head.toNat T := ⟨hT.s.kept hgd (by simp) (by simp), hT.r.kept hgd (by simp) (by simp), hT.lo, hT.ne⟩
                have hBd : Below w.heap.size w wr.drew := hB.drew
                have k0 : 0 ≤ (j : Int) := by omega
                have k1 : (j : Int) < (len : Int) := by omega
                have k2 : ¬ (j : Int) < 0 := by omega
                have k3 : ¬ (len : Int) ≤ (j : Int) := by omega
                refine Oc.wp_region_T hSS [] hfo ?_
                refine Oc.anyT_take (i := 0) (v := .pointer (some ⟨b, 0, none⟩)) rfl (by kernel_rfl) (fun _ _ _ h => h) hS0 rfl (by rintro w' ⟨q1, q2⟩; go_simp) ?_
                try simp only [Act.put, List.setIfInBounds_toArray, List.set_cons_zero, List.set_cons_succ]
                refine Oc.anyT_take (i := 1) (v := .slice (some ⟨lb, off, none⟩) len cap) rfl (by kernel_rfl) (fun _ _ _ h => h) hS0 rfl (by rintro w' ⟨q1, q2⟩; go_simp) ?_
                try simp only [Act.put, List.setIfInBounds_toArray, List.set_cons_zero, List.set_cons_succ]
                refine Oc.anyT_take (i := 2) (v := .int .i64 j) rfl (by kernel_rfl) (fun _ _ _ h => h) hS0 rfl (by rintro w' ⟨q1, q2⟩; go_simp) ?_
                try simp only [Act.put, List.setIfInBounds_toArray, List.set_cons_zero, List.set_cons_succ]
                refine Oc.anyT_take (i := 3) (v := .pointer (some ⟨lb, off + j * 4, none⟩)) rfl (by kernel_rfl) (fun _ _ _ h => h) hS0 rfl (by rintro w' ⟨q1, q2⟩; go_simp) ?_
                try simp only [Act.put, List.setIfInBounds_toArray, List.set_cons_zero, List.set_cons_succ]
                refine Oc.anyT_take (i := 4) (v := .pointer (some ⟨lb, off + j * 4 + 2, none⟩)) rfl (by kernel_rfl) (fun _ _ _ h => h) hS0 rfl (by rintro w' ⟨q1, q2⟩; go_simp) ?_
                try simp only [Act.put, List.setIfInBounds_toArray, List.set_cons_zero, List.set_cons_succ]
                refine Oc.anyT_take (i := 5) (v := .agg #[.int .i64 n2, .int .i64 n3]) rfl (by kernel_rfl) (fun _ _ _ h => h) hS0 rfl (by rintro w' ⟨q1, q2⟩; go_simp) ?_
                try simp only [Act.put, List.setIfInBounds_toArray, List.set_cons_zero, List.set_cons_succ]
                refine Oc.anyT_take (i := 7) (v := .pointer (some ⟨b', 0, none⟩)) rfl (by kernel_rfl) (fun _ _ _ h => h) hS0 rfl (by rintro w' ⟨q1, q2⟩; go_simp) ?_
                try simp only [Act.put, List.setIfInBounds_toArray, List.set_cons_zero, List.set_cons_succ]
                refine Oc.anyT_take (i := 8) (v := .slice (some ⟨lb, off, none⟩) len cap) rfl (by kernel_rfl) (fun _ _ _ h => h) hS0 rfl (by rintro w' ⟨q1, q2⟩; go_simp) ?_
                try simp only [Act.put, List.setIfInBounds_toArray, List.set_cons_zero, List.set_cons_succ]
                refine Oc.anyT_take (i := 9) (v := .int .i64 j) rfl (by kernel_rfl) (fun _ _ _ h => h) hS0 rfl (by rintro w' ⟨q1, q2⟩; go_simp) ?_
                try simp only [Act.put, List.setIfInBounds_toArray, List.set_cons_zero, List.set_cons_succ]
                refine Oc.anyT_take (i := 10) (v := .pointer (some ⟨lb, off + j * 4, none⟩)) rfl (by kernel_rfl) (fun _ _ _ h => h) hS0 rfl (by rintro w' ⟨q1, q2⟩; go_simp) ?_
                try simp only [Act.put, List.setIfInBounds_toArray, List.set_cons_zero, List.set_cons_succ]
                refine Oc.anyT_take (i := 11) (v := .pointer (some ⟨lb, off + j * 4 + 2, none⟩)) rfl (by kernel_rfl) (fun _ _ _ h => h) hS0 rfl (by rintro w' ⟨q1, q2⟩; go_simp) ?_
                try simp only [Act.put, List.setIfInBounds_toArray, List.set_cons_zero, List.set_cons_succ]
                refine Oc.anyT_take (i := 12) (v := .agg #[.int .i64 n2, .int .i64 n3]) rfl (by kernel_rfl) (fun _ _ _ h => h) hS0 rfl (by rintro w' ⟨q1, q2⟩; go_simp) ?_
                try simp only [Act.put, List.setIfInBounds_toArray, List.set_cons_zero, List.set_cons_succ]
                refine Oc.anyT_next (i := 6) rfl (by kernel_rfl) (fun K hK => ?_)
                · go_simp
                  refine (Free_any b g head.toNat T n2 n3 i2 i3 _ hTd.s).mono ?_
                  rintro e W1 ⟨rfl, hs1, hg1⟩
                  have hB1 := Oc.below_only hBd hg1 hBd.size hT.lo.2.1
                  refine hK _ _ (fun _ => ⟨(Oc.unhide Hkeep W1 hB1).2.2.1, (Oc.unhide Hkeep W1 hB1).2.2.2⟩) ?_
                  clear hK K
                  try simp only [Act.put, List.setIfInBounds_toArray, List.set_cons_zero, List.set_cons_succ]
                  refine Oc.anyT_next (i := 13) rfl (by kernel_rfl) (fun K hK => ?_)
                  go_simp
                  refine (rFree_any b' g' head.toNat T n2 n3 i2 i3 _ (hTd.r.kept hg1 (by simp; exact fun e => hT.ne.2.1 e.symm) (by simp; exact hT.ne.2.2))).mono ?_
                  rintro e W2 ⟨rfl, hr2, hg2⟩
                  have hB2 := Oc.below_only hB1 hg2 hB1.size hT.lo.2.2.2
                  refine hK _ _ (fun _ => ⟨(Oc.unhide Hkeep W2 hB2).2.2.1, (Oc.unhide Hkeep W2 hB2).2.2.2⟩) ?_
                  clear hK K
                  try simp only [Act.put, List.setIfInBounds_toArray, List.set_cons_zero, List.set_cons_succ]
                  have hTw : Oc.Two 48 50 4 w.heap.size W2 b g b' g' head.toNat (Oc.setT head.toNat T false n2 n3) := ⟨hs1.kept hg2 (by simp; exact fun e => hT.ne.1 e.symm) (by simp; exact fun e => hT.ne.2.2 e.symm), hr2, hT.lo, hT.ne⟩
                  refine Oc.anyT_next (i := 14) rfl (by kernel_rfl) (fun K hK => ?_)
                  go_simp
                  refine hK _ _ (fun _ => ⟨(Oc.unhide Hkeep W2 hB2).2.2.1, (Oc.unhide Hkeep W2 hB2).2.2.2⟩) ?_
                  clear hK K
                  try simp only [Act.put, List.setIfInBounds_toArray, List.set_cons_zero, List.set_cons_succ]
                  refine Oc.anyT_next (i := 15) rfl (by kernel_rfl) (fun K hK => ?_)
                  go_simp
                  refine hK _ _ (fun _ => ⟨(Oc.unhide Hkeep W2 hB2).2.2.1, (Oc.unhide Hkeep W2 hB2).2.2.2⟩) ?_
                  clear hK K
                  try simp only [Act.put, List.setIfInBounds_toArray, List.set_cons_zero, List.set_cons_succ]
                  refine Oc.anyT_done (by kernel_rfl) ?_ _
                  go_wp2_with fail
                  go_meet
                  case rel => exact ⟨by simp, _, hTw, hB2⟩
              · have e2 : (n0 == 2) = false := by simpa using h2
                go_wp2_with fail
                go_meet
                case rel => exact ⟨rfl, T, hT, hB⟩
        case rest =>
          obtain ⟨rfl, T', hT', hB'⟩ := hcut
          clear c0 c1 c2 c3 hT hB i1 i2 i3 Hkeep
          go_wp2_with fail
          refine (spans_any b g head.toNat T' _ hT'.s).mono ?_
          rintro e W1 ⟨x, rfl, hx, hX⟩
          have hg1 := Oc.only_of_below hX none
          have hB1 : Below w.heap.size w W1 := hB'.trans (hX.mono hB'.size)
          have hs1 := hT'.s.kept hg1 (by simp) (by simp)
          have hr1 := hT'.r.kept hg1 (by simp) (by simp)
          have hzb := hT'.s.cells.2.2
          have hzb' := hT'.r.cells.2.2
          have hxz := hX.size
          go_wp2_with fail
          refine (rspans_any b' g' head.toNat T' _ hr1).mono ?_
          rintro e W2 ⟨y, rfl, hy, hY⟩
          have hg2 := Oc.only_of_below hY none
          have hB2 : Below w.heap.size w W2 := hB1.trans (hY.mono hB1.size)
          have hT2 : Oc.Two 48 50 4 w.heap.size W2 b g b' g' head.toNat T' := ⟨hs1.kept hg2 (by simp) (by simp), hr1.kept hg2 (by simp) (by simp), hT'.lo, hT'.ne⟩
          have hx2 := Oc.owns_kept hx hg2 fun r e => nomatch e
          have hxf := Oc.owns_far hx
          have hyf := Oc.owns_far hy
          have hr := fun W (hW : W2.grownBy W none) => room_any b g _ _ W (hT2.s.kept hW (by simp) (by simp))
          have hl := fun W (hW : W2.grownBy W none) => largest_any b g _ _ W (hT2.s.kept hW (by simp) (by simp))
          have hr' := fun W (hW : W2.grownBy W none) => rroom_any b' g' _ _ W (hT2.r.kept hW (by simp) (by simp))
          have hl' := fun W (hW : W2.grownBy W none) => rlargest_any b' g' _ _ W (hT2.r.kept hW (by simp) (by simp))
          have Hr := Oc.hide hr
          have Hl := Oc.hide hl
          have Hr' := Oc.hide hr'
          have Hl' := Oc.hide hl'
          have hshape : (∃ ax cx, x = .slice ax (Oc.spans head.toNat T').length cx) ∧ (∃ ay cy, y = .slice ay (Oc.spans head.toNat T').length cy) := by
            refine ⟨?_, ?_⟩
            · rcases hx.2 with ⟨rfl, h0⟩ | ⟨gx, cx, cur, rfl, _⟩
              · exact ⟨none, 0, by rw [h0]⟩
              · exact ⟨_, _, rfl⟩
            · rcases hy.2 with ⟨rfl, h0⟩ | ⟨gx, cx, cur, rfl, _⟩
              · exact ⟨none, 0, by rw [h0]⟩
              · exact ⟨_, _, rfl⟩
          obtain ⟨⟨ax, cx, rfl⟩, ay, cy, rfl⟩ := hshape
          clear hr hl hr' hl' hT' hB' hX hY hg1 hs1 hr1 hB1
          go_wp2_with fail
          refine (Oc.unhide Hr _ (Oc.only_refl _ _)).mono ?_
          rintro e W3 ⟨rfl, hB3⟩
          have hg3 := Oc.only_of_below hB3 none
          go_wp2_with fail
          refine (Oc.unhide Hr' _ hg3).mono ?_
          rintro e W4 ⟨rfl, hB4⟩
          have hg4 := Oc.only_trans hg3 (Oc.only_of_below hB4 none)
          go_wp2_with fail
          refine (Oc.unhide Hl _ hg4).mono ?_
          rintro e W5 ⟨rfl, hB5⟩
          have hg5 := Oc.only_trans hg4 (Oc.only_of_below hB5 none)
          go_wp2_with fail
          refine (Oc.unhide Hl' _ hg5).mono ?_
          rintro e W6 ⟨rfl, hB6⟩
          have hg6 := Oc.only_trans hg5 (Oc.only_of_below hB6 none)
          have hT6 : Oc.Two 48 50 4 w.heap.size W6 b g b' g' head.toNat T' := ⟨hT2.s.kept hg6 (by simp) (by simp), hT2.r.kept hg6 (by simp) (by simp), hT2.lo, hT2.ne⟩
          have hx6 := Oc.owns_kept hx2 hg6 fun r e => nomatch e
          have hy6 := Oc.owns_kept hy hg6 fun r e => nomatch e
          have hB6' : Below w.heap.size w W6 := hB2.grown hg6 hB2.size fun r e => nomatch e
          clear Hr Hr' Hl Hl' hB3 hB4 hB5 hB6 hg3 hg4 hg5 hg2 hT2 hx2
          have hle : (Oc.spans head.toNat T').length ≤ 4096 := Nat.le_trans (len_spans head.toNat T') hT6.s.sz
          go_wp2_with fail
          by_cases hn0 : Oc.spans head.toNat T' = []
          · have hn1 := Lib.hid (show (Oc.spans head.toNat T').length = 0 by rw [hn0]; rfl)
            clear hn0
            rw [hn1.out]
            refine wp_loop_rounds 1 ?_
            rw [rounds_succ]
            go_wp2_with fail
            go_roundg (gk - 1)
            case measure => omega
            case rel => exact ⟨j + 1, T', by omega, by go_num, hT6, hB6'⟩
          · have hn1 : 0 < (Oc.spans head.toNat T').length := List.length_pos_iff.2 hn0
            clear hn0
            obtain ⟨gx, rfl⟩ : ∃ gx, ax = some ⟨gx, 0, none⟩ := by
              rcases hx6.2 with ⟨h', h0⟩ | ⟨gx, cx', cur, h', _⟩
              · omega
              · cases h'; exact ⟨_, rfl⟩
            obtain ⟨gy, rfl⟩ : ∃ gy, ay = some ⟨gy, 0, none⟩ := by
              rcases hy6.2 with ⟨h', h0⟩ | ⟨gx, cx', cur, h', _⟩
              · omega
              · cases h'; exact ⟨_, rfl⟩
            have hgx := hxf gx rfl
            have hgy := hyf gy rfl
            have hcl := cellsS_length (Oc.spans head.toNat T')
            obtain ⟨L, hL⟩ : ∃ L, Oc.spans head.toNat T' = L := ⟨_, rfl⟩
            rw [hL] at hx6 hy6 hle hn1 hcl ⊢
            clear hL hx hy hxf hyf
            obtain ⟨wo, rfl⟩ : ∃ wo : World, wo = wr := ⟨_, rfl⟩
            obtain ⟨ko, rfl⟩ : ∃ ko : Nat, ko = gk := ⟨_, rfl⟩
            go_loopg [20] L.length (fun gq i wq => ∃ (k : Nat) (xs : List Value), k + gq = L.length ∧ i = .int .i64 k ∧ wq.ownsRow wc.heap.size 34 2 (.slice (some ⟨gx, 0, none⟩) L.length cx) L.length xs ∧ (∀ q, 2 * k ≤ q → xs[q]? = (Oc.cellsS L)[q]?) ∧ W6.grownBy wq (some gx))
            case atStart => exact ⟨0, _, by omega, rfl, hx6, fun _ _ => rfl, Oc.only_refl _ _⟩
            case round =>
              obtain ⟨k, xs, hk, rfl, hxo, hxs, hgq⟩ := hrel
              have Hxs := Oc.hide hxs
              clear hxs
              have hyq := Oc.owns_kept hy6 hgq fun r e => by cases e; simp [Value.ownBlock]; omega
              by_cases hkl : k < L.length
              · have dk : decide ((k : Int) < (L.length : Int)) = true := by simpa using hkl
                have dk2 : decide (k < L.length) = true := by simpa using hkl
                obtain ⟨z, hz⟩ : ∃ z, L[k]? = some z := ⟨_, List.getElem?_eq_getElem hkl⟩
                have hget := cellsS_get _ _ _ hz
                obtain ⟨y0, _⟩ := owns_cell hyq hget.1
                obtain ⟨y1, _⟩ := owns_cell hyq hget.2
                rw [← Oc.unhide Hxs _ (by omega), ← Oc.unhide Hxs _ (by omega)] at hget
                obtain ⟨x0, fx0⟩ := owns_cell hxo hget.1
                obtain ⟨x1, fx1⟩ := owns_cell hxo hget.2
                rw [Nat.mul_comm] at x0 x1 fx0 fx1 y0 y1 hget
                obtain ⟨hget0, hget1⟩ := hget
                clear hz
                have k0 : 0 ≤ (k : Int) := by omega
                have k1 : (k : Int) < (L.length : Int) := by omega
                go_wp2_with fail
                go_quiet (fail)
                generalize hwq : World.drewN _ _ = wq2
                have hgq2 : wr.grownBy wq2 none := by rw [← hwq]; exact Oc.only_drewN (Oc.only_refl _ _) _
                have hx2 := Oc.owns_kept hxo hgq2 fun r e => nomatch e
                clear hwq
                have q0 := (owns_cell hx2 hget0).1
                have q1 := (owns_cell hx2 hget0).2
                have q2 := (owns_cell hx2 hget1).1
                have q3 := (owns_cell hx2 hget1).2
                go_wp2_with fail
                have hst := owns_store (owns_store hx2 (k * 2) (.int .i64 0)) (k * 2 + 1) (.int .i64 0)
                have hgs : wq2.grownBy ((wq2.setCell ⟨gx, k * 2, none⟩ (.int .i64 0)).setCell ⟨gx, k * 2 + 1, none⟩ (.int .i64 0)) (some gx) := Oc.only_setCell (Oc.only_setCell (Oc.only_refl wq2 (some gx)) (p := ⟨gx, k * 2, none⟩) (.inl rfl) (.int .i64 0)) (p := ⟨gx, k * 2 + 1, none⟩) (.inl rfl) (.int .i64 0)
                go_roundg (gk - 1)
                case measure => omega
                case rel =>
                  refine ⟨k + 1, _, by omega, by go_num, hst, fun q hq => ?_, Oc.only_trans (Oc.only_trans hgq (hgq2.but _)) hgs⟩
                  rw [List.getElem?_set_ne (by omega), List.getElem?_set_ne (by omega)]
                  exact Oc.unhide Hxs q (by omega)
              · have dk : decide ((k : Int) < (L.length : Int)) = false := by simpa using hkl
                have dk2 : decide (k < L.length) = false := by simpa using hkl
                go_wp2_with fail
                go_roundg (ko - 1)
                case measure => omega
                case rel => exact ⟨j + 1, T', by omega, by go_num, ⟨hT6.s.kept hgq (by simp; omega) (by simp; omega), hT6.r.kept hgq (by simp; omega) (by simp; omega), hT6.lo, hT6.ne⟩, hB6'.grown hgq hB6'.size fun r e => by cases e; have := hT6.lo; omega⟩
      · have dj : decide ((j : Int) < (len : Int)) = false := by simpa using hjl
        have dj2 : decide (j < len) = false := by simpa using hjl
        go_wp2_with fail
        go_ret
        exact ⟨rfl, hB⟩
end Go.Proofs.Ytbkemnfhmaekbaa
