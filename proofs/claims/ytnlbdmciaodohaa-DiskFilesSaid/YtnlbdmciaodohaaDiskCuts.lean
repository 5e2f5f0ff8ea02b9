/- The law DiskCuts. -/
import Derived.Test.YtnlbdmciaodohaaDiskAwake
import Derived.Test.YtnlbdmciaodohaaLeaves
import Derived.Deep.DeepCutAuto
import Derived.Deep.LoopGhost
namespace Oc
open Go Go.RowKit
set_option linter.unusedVariables false
/-- One call asked for. -/
structure Opv where
  kind : Int
  k : Int
  x : Int
  z : Int
  i : Int
  a : Option Addr
  l : Nat
  c : Nat
  zs : List Int
/-- .. at o of block b. -/
structure OpAt (w : World) (b o : Nat) (x : Opv) : Prop where
  c0 : w.cell? ⟨b, o, none⟩ = some (.int .i64 x.kind)
  c1 : w.cell? ⟨b, o + 1, none⟩ = some (.int .i64 x.k)
  c2 : w.cell? ⟨b, o + 2, none⟩ = some (.int .i64 x.x)
  c3 : w.cell? ⟨b, o + 3, none⟩ = some (.int .i64 x.z)
  c4 : w.cell? ⟨b, o + 4, none⟩ = some (.int .i64 x.i)
  c5 : w.cell? ⟨b, o + 5, none⟩ = some (.slice x.a x.l x.c)
  row : IsRow .u8 w x.a x.l x.c x.zs
  hk : I x.kind
  h1 : I x.k
  h2 : I x.x
  h3 : I x.z
  hi : I x.i
abbrev OpLeaves : List Leaf := [.int .i64, .int .i64, .int .i64, .int .i64, .int .i64, .row .u8]
theorem ops_at {w : World} {a : Option Addr} {len cap : Nat} (h : IsStructs OpLeaves w a len cap) {k : Nat} (hk : k < len) :
    ∃ b off, a = some ⟨b, off, none⟩ ∧ b < w.heap.size ∧ len ≤ cap ∧ cap ≤ maxLen ∧ ∀ j, j < len → ∃ x, OpAt w b (off + j * 6) x := by
  rcases h with h | ⟨b, off, rfl, hb, h1, h2, h3⟩
  · omega
  refine ⟨b, off, rfl, hb, h1, h2, fun j hj => ?_⟩
  have g := h3 j hj
  obtain ⟨v0, e0, n0, rfl, f0⟩ := g 0 _ rfl
  obtain ⟨v1, e1, n1, rfl, f1⟩ := g 1 _ rfl
  obtain ⟨v2, e2, n2, rfl, f2⟩ := g 2 _ rfl
  obtain ⟨v3, e3, n3, rfl, f3⟩ := g 3 _ rfl
  obtain ⟨v4, e4, n4, rfl, f4⟩ := g 4 _ rfl
  obtain ⟨v5, e5, a5, l5, c5, zs5, rfl, f5⟩ := g 5 _ rfl
  exact ⟨⟨n0, n1, n2, n3, n4, a5, l5, c5, zs5⟩, e0, e1, e2, e3, e4, e5, f5, I_of f0, I_of f1, I_of f2, I_of f3, I_of f4⟩
theorem IsRow_below {K : IntKind} {w w' : World} {n₀ : Nat} {a : Option Addr} {l c : Nat} {zs : List Int} (h : IsRow K w a l c zs) (hB : Below n₀ w w') (hn : w.heap.size ≤ n₀) : IsRow K w' a l c zs := by
  rcases h with h | ⟨p, rfl, h1, h2, h3, h4, h5⟩
  · exact .inl h
  · refine .inr ⟨p, rfl, h1, h2, h3, fun i hi => ?_, h5⟩
    have := h4 i hi
    exact (hB.cell (by have := block_lt_of_cell this; omega)).trans this
theorem OpAt.below {w w' : World} {n₀ b o : Nat} {x : Opv} (h : OpAt w b o x) (hB : Below n₀ w w') (hb : b < w.heap.size) (hn : w.heap.size = n₀) : OpAt w' b o x := by
  subst hn
  exact ⟨(hB.cell (p := ⟨b, _, none⟩) hb).trans h.c0, (hB.cell (p := ⟨b, _, none⟩) hb).trans h.c1, (hB.cell (p := ⟨b, _, none⟩) hb).trans h.c2, (hB.cell (p := ⟨b, _, none⟩) hb).trans h.c3, (hB.cell (p := ⟨b, _, none⟩) hb).trans h.c4, (hB.cell (p := ⟨b, _, none⟩) hb).trans h.c5, IsRow_below h.row hB (Nat.le_refl _), h.hk, h.h1, h.h2, h.h3, h.hi⟩
def Opv.key (x : Opv) : Key := ⟨x.k, x.x, x.z, x.i⟩
/-- The cells a region reads. -/
def OpS (b o : Nat) (x : Opv) (w : World) : Prop := w.cell? ⟨b, o + 1, none⟩ = some (.int .i64 x.k) ∧ w.cell? ⟨b, o + 2, none⟩ = some (.int .i64 x.x) ∧ w.cell? ⟨b, o + 3, none⟩ = some (.int .i64 x.z) ∧ w.cell? ⟨b, o + 4, none⟩ = some (.int .i64 x.i) ∧ w.cell? ⟨b, o + 5, none⟩ = some (.slice x.a x.l x.c)
theorem OpAt.reads {w : World} {b o : Nat} {x : Opv} (h : OpAt w b o x) : OpS b o x w := ⟨h.c1, h.c2, h.c3, h.c4, h.c5⟩
/-- What a write with the power running out comes to. -/
theorem cut_cases (M : Dm) (o : Bool) (lf d n : Int) (p : Key) (l : Nat) (v : List Int) (h0 : 0 ≤ d) (hd : d ≤ max n 0) (hl : lf = max n 0 - d) (ho : o = decide (n ≤ d)) :
    (Ds.err ⟨M, o, lf, d⟩ p l = 1 ∧ Ds.write ⟨M, o, lf, d⟩ p l v = ⟨M, o, lf, d⟩) ∨
    (Ds.err ⟨M, o, lf, d⟩ p l = 8 ∧ n ≤ d ∧ Ds.write ⟨M, o, lf, d⟩ p l v = ⟨M, o, lf, d⟩) ∨
    (Ds.err ⟨M, o, lf, d⟩ p l = 0 ∧ d < n ∧ Ds.write ⟨M, o, lf, d⟩ p l v = ⟨put M p v, decide (n ≤ d + 1), max n 0 - (d + 1), d + 1⟩ ∧ Ds.err ⟨M, false, -1, d⟩ p l = 0 ∧ Ds.write ⟨M, false, -1, d⟩ p l v = ⟨put M p v, false, -1, d + 1⟩) := by
  by_cases hb : p.i < 0 ∨ 4096 ≤ p.i ∨ l ≠ 32
  · have he : Ds.err ⟨M, o, lf, d⟩ p l = 1 := by unfold Ds.err; rw [if_pos hb]
    exact .inl ⟨he, by unfold Ds.write; rw [he]; rfl⟩
  · by_cases hn : n ≤ d
    · have : o = true := by rw [ho]; simpa using hn
      subst this
      have he : Ds.err ⟨M, true, lf, d⟩ p l = 8 := by unfold Ds.err; rw [if_neg hb, if_pos rfl]
      exact .inr (.inl ⟨he, hn, by unfold Ds.write; rw [he]; rfl⟩)
    · have : o = false := by rw [ho]; simpa using hn
      subst this
      have he : ∀ q, Ds.err ⟨M, false, q, d⟩ p l = 0 := fun q => by unfold Ds.err; rw [if_neg hb, if_neg (by simp)]
      refine .inr (.inr ⟨he _, by omega, ?_, he _, ?_⟩)
      · unfold Ds.write
        rw [he, if_pos rfl, if_pos (by show 0 < lf; omega), if_pos (by show 0 < lf; omega)]
        congr 1
        · show decide (lf - 1 = 0) = _
          apply decide_eq_decide.2; omega
        · show lf - 1 = _; omega
      · unfold Ds.write
        rw [he, if_pos rfl, if_neg (by show ¬ (0 : Int) < -1; decide), if_neg (by show ¬ (0 : Int) < -1; decide)]
theorem cut_new (n : Int) : Ds.new.cut n = ⟨[], decide (n ≤ 0), max n 0 - 0, 0⟩ := by
  unfold Ds.cut Ds.new
  simp only [Ds.mk.injEq, Bool.false_or, true_and, and_true]
  exact ⟨decide_eq_decide.2 (by omega), by omega⟩
/-- What the law's first loop keeps. -/
structure CutJ (ty : Nat) (n₀ : Nat) (w wr : World) (b bm b2 bm2 : Nat) (n : Int) (k : Nat) (M : Dm) (d : Int) : Prop where
  D1 : DkAt ty wr b bm ⟨M, decide (n ≤ d), max n 0 - d, d⟩
  D2 : DkAt ty wr b2 bm2 ⟨M, false, -1, d⟩
  B : Below n₀ w wr
  d0 : 0 ≤ d
  dn : d ≤ max n 0
  dk : d ≤ k
structure BlksJ (n₀ b bm b2 bm2 : Nat) : Prop where
  far : n₀ ≤ b ∧ n₀ ≤ bm ∧ n₀ ≤ b2 ∧ n₀ ≤ bm2
  apart : b ≠ b2 ∧ b ≠ bm2 ∧ bm ≠ b2 ∧ bm ≠ bm2
end Oc
namespace Go.Proofs.Ytnlbdmciaodohaa
set_option linter.unusedVariables false
set_option linter.unusedSimpArgs false
open Go.RowKit
set_option maxHeartbeats 4000000
theorem diskCuts_low (n : Int) (a : Option Addr) (len cap : Nat) (w : World) (h : 200 < len) :
    Calls Try.prog 3 #[.slice a len cap, .int .i64 n] w fun e w' => e = .returned (.bool true) ∧ Below w.heap.size w w' := by
  have d2 : decide (200 < (len : Int)) = true := by simp; omega
  have d3 : decide (200 < len) = true := by simp; omega
  go_enter Try.func3, Try.ntmps3
  go_wp2_with fail
  refine (awake_any _).mono ?_
  rintro e w1 ⟨rfl, hB1⟩
  go_wp2_with fail
  refine (dnew_any _).mono ?_
  rintro e w2 ⟨b, bm, rfl, hD2, hb, hbm, hg2⟩
  have hB2 : Below w.heap.size w w2 := hB1.grown hg2 hB1.size fun r e => nomatch e
  go_wp2_with fail
  refine (dnew_any _).mono ?_
  rintro e w3 ⟨b2, bm2, rfl, hD3, hb2, hbm2, hg3⟩
  have hB3 : Below w.heap.size w w3 := hB2.grown hg3 hB2.size fun r e => nomatch e
  go_wp2_with fail
  go_ret
  exact ⟨rfl, hB3⟩
set_option maxRecDepth 100000 in
theorem diskCuts_high (n : Int) (a : Option Addr) (len cap : Nat) (w : World) (hl : Oc.IsStructs Oc.OpLeaves w a len cap) (hn : Oc.I n) (h : len ≤ 200) :
    Calls Try.prog 3 #[.slice a len cap, .int .i64 n] w fun e w' => e = .returned (.bool true) ∧ Below w.heap.size w w' := by
  have d2 : decide (200 < (len : Int)) = false := by simp; omega
  have d3 : decide (200 < len) = false := by simp; omega
  have hfo : Try.prog.follows .mixedOrders = true := by kernel_rfl
  go_enter Try.func3, Try.ntmps3
  go_wp2_with fail
  refine (awake_any _).mono ?_
  rintro e w1 ⟨rfl, hB1⟩
  go_wp2_with fail
  refine (dnew_any _).mono ?_
  rintro e w2 ⟨b, bm, rfl, hD2, hb, hbm, hg2⟩
  have hB2 : Below w.heap.size w w2 := hB1.grown hg2 hB1.size fun r e => nomatch e
  go_wp2_with fail
  refine (dnew_any _).mono ?_
  rintro e w3 ⟨b2, bm2, rfl, hD3, hb2, hbm2, hg3⟩
  have hB3 : Below w.heap.size w w3 := hB2.grown hg3 hB2.size fun r e => nomatch e
  have hD2' := hD2.kept (Oc.Turns.of_none (l := []) hg3) (by simp) (by simp)
  obtain ⟨q1, q2⟩ := hD2.cells.2.2
  have hX : Oc.BlksJ w.heap.size b bm b2 bm2 := ⟨by have := hB1.size; have := hB2.size; omega, by omega⟩
  clear hB1 hB2 hg2 hg3 hD2 hb hbm hb2 hbm2 q1 q2
  go_wp2_with fail
  refine (dcut_any b bm _ n hn _ hD2').mono ?_
  rintro e w4 ⟨rfl, hD4, ht4⟩
  have hJ : Oc.CutJ 54 w.heap.size w w4 b bm b2 bm2 n 0 [] 0 :=
    ⟨by rw [← Oc.cut_new n]; exact hD4,
      hD3.kept ht4 (by have := hX.apart; simp; omega) (by have := hX.apart; simp; omega), ht4.below hB3 hB3.size (by have := hX.far; simp; omega), by omega, by omega, by omega⟩
  clear hD4 ht4 hB3 hD3 hD2'
  go_wp2_with fail
  go_loopg [8, 9] len (fun gk dn i wr => ∃ (k : Nat) (M : Oc.Dm) (d : Int), k + gk = len ∧ dn = .int .i64 d ∧ i = .int .i64 k ∧ Oc.CutJ 54 w.heap.size w wr b bm b2 bm2 n k M d)
  case atStart => exact ⟨0, [], 0, by omega, rfl, rfl, hJ⟩
  case round =>
    obtain ⟨k, M, d, hk, rfl, rfl, hR⟩ := hrel
    clear hJ
    by_cases hkl : k < len
    · have dk : decide ((k : Int) < (len : Int)) = true := by simpa using hkl
      have dk2 : decide (k < len) = true := by simpa using hkl
      obtain ⟨lb, off, rfl, hlb, hlc, hcm, hops⟩ := Oc.ops_at hl hkl
      obtain ⟨x, hx0⟩ := hops k hkl
      clear hops
      have hx := hx0.below hR.B hlb rfl
      have k0 : 0 ≤ (k : Int) := by omega
      have k1 : (k : Int) < (len : Int) := by omega
      have dd := And.intro hR.d0 hR.dk
      have hc := Oc.hide (Oc.cut_cases M (decide (n ≤ d)) (max n 0 - d) d n x.key x.l (x.zs.take 32) hR.d0 hR.dn rfl rfl)
      go_wp2_with fail
      have hS0 : Oc.OpS lb (off + k * 6) x wr.drew := hx.reads
      refine Oc.wp_region_T (Oc.OpS lb (off + k * 6) x) [] hfo ?_
      refine Oc.anyT_take (i := 0) (v := .pointer (some ⟨b, 0, none⟩)) rfl (by kernel_rfl) (fun _ _ _ h => h) hS0 rfl (by rintro w' ⟨q0, q1, q2, q3, q4⟩; go_simp) ?_
      try simp only [Act.put, List.getElem_toArray, List.getElem_cons_zero, List.getElem_cons_succ, List.setIfInBounds_toArray, List.set_cons_zero, List.set_cons_succ]
      refine Oc.anyT_take (i := 1) (v := .slice (some ⟨lb, off, none⟩) len cap) rfl (by kernel_rfl) (fun _ _ _ h => h) hS0 rfl (by rintro w' ⟨q0, q1, q2, q3, q4⟩; go_simp) ?_
      try simp only [Act.put, List.getElem_toArray, List.getElem_cons_zero, List.getElem_cons_succ, List.setIfInBounds_toArray, List.set_cons_zero, List.set_cons_succ]
      refine Oc.anyT_take (i := 2) (v := .int .i64 k) rfl (by kernel_rfl) (fun _ _ _ h => h) hS0 rfl (by rintro w' ⟨q0, q1, q2, q3, q4⟩; go_simp) ?_
      try simp only [Act.put, List.getElem_toArray, List.getElem_cons_zero, List.getElem_cons_succ, List.setIfInBounds_toArray, List.set_cons_zero, List.set_cons_succ]
      refine Oc.anyT_take (i := 3) (v := .pointer (some ⟨lb, off + k * 6, none⟩)) rfl (by kernel_rfl) (fun _ _ _ h => h) hS0 rfl (by rintro w' ⟨q0, q1, q2, q3, q4⟩; go_simp) ?_
      try simp only [Act.put, List.getElem_toArray, List.getElem_cons_zero, List.getElem_cons_succ, List.setIfInBounds_toArray, List.set_cons_zero, List.set_cons_succ]
      refine Oc.anyT_take (i := 4) (v := .pointer (some ⟨lb, off + k * 6 + 1, none⟩)) rfl (by kernel_rfl) (fun _ _ _ h => h) hS0 rfl (by rintro w' ⟨q0, q1, q2, q3, q4⟩; go_simp) ?_
      try simp only [Act.put, List.getElem_toArray, List.getElem_cons_zero, List.getElem_cons_succ, List.setIfInBounds_toArray, List.set_cons_zero, List.set_cons_succ]
      refine Oc.anyT_take (i := 5) (v := .agg #[.int .i64 x.k, .int .i64 x.x, .int .i64 x.z]) rfl (by kernel_rfl) (fun _ _ _ h => h) hS0 rfl (by rintro w' ⟨q0, q1, q2, q3, q4⟩; go_simp) ?_
      try simp only [Act.put, List.getElem_toArray, List.getElem_cons_zero, List.getElem_cons_succ, List.setIfInBounds_toArray, List.set_cons_zero, List.set_cons_succ]
      refine Oc.anyT_take (i := 6) (v := .slice (some ⟨lb, off, none⟩) len cap) rfl (by kernel_rfl) (fun _ _ _ h => h) hS0 rfl (by rintro w' ⟨q0, q1, q2, q3, q4⟩; go_simp) ?_
      try simp only [Act.put, List.getElem_toArray, List.getElem_cons_zero, List.getElem_cons_succ, List.setIfInBounds_toArray, List.set_cons_zero, List.set_cons_succ]
      refine Oc.anyT_take (i := 7) (v := .int .i64 k) rfl (by kernel_rfl) (fun _ _ _ h => h) hS0 rfl (by rintro w' ⟨q0, q1, q2, q3, q4⟩; go_simp) ?_
      try simp only [Act.put, List.getElem_toArray, List.getElem_cons_zero, List.getElem_cons_succ, List.setIfInBounds_toArray, List.set_cons_zero, List.set_cons_succ]
      refine Oc.anyT_take (i := 8) (v := .pointer (some ⟨lb, off + k * 6, none⟩)) rfl (by kernel_rfl) (fun _ _ _ h => h) hS0 rfl (by rintro w' ⟨q0, q1, q2, q3, q4⟩; go_simp) ?_
      try simp only [Act.put, List.getElem_toArray, List.getElem_cons_zero, List.getElem_cons_succ, List.setIfInBounds_toArray, List.set_cons_zero, List.set_cons_succ]
      refine Oc.anyT_take (i := 9) (v := .pointer (some ⟨lb, off + k * 6 + 4, none⟩)) rfl (by kernel_rfl) (fun _ _ _ h => h) hS0 rfl (by rintro w' ⟨q0, q1, q2, q3, q4⟩; go_simp) ?_
      try simp only [Act.put, List.getElem_toArray, List.getElem_cons_zero, List.getElem_cons_succ, List.setIfInBounds_toArray, List.set_cons_zero, List.set_cons_succ]
      refine Oc.anyT_take (i := 10) (v := .int .i64 x.i) rfl (by kernel_rfl) (fun _ _ _ h => h) hS0 rfl (by rintro w' ⟨q0, q1, q2, q3, q4⟩; go_simp) ?_
      try simp only [Act.put, List.getElem_toArray, List.getElem_cons_zero, List.getElem_cons_succ, List.setIfInBounds_toArray, List.set_cons_zero, List.set_cons_succ]
      refine Oc.anyT_take (i := 11) (v := .slice (some ⟨lb, off, none⟩) len cap) rfl (by kernel_rfl) (fun _ _ _ h => h) hS0 rfl (by rintro w' ⟨q0, q1, q2, q3, q4⟩; go_simp) ?_
      try simp only [Act.put, List.getElem_toArray, List.getElem_cons_zero, List.getElem_cons_succ, List.setIfInBounds_toArray, List.set_cons_zero, List.set_cons_succ]
      refine Oc.anyT_take (i := 12) (v := .int .i64 k) rfl (by kernel_rfl) (fun _ _ _ h => h) hS0 rfl (by rintro w' ⟨q0, q1, q2, q3, q4⟩; go_simp) ?_
      try simp only [Act.put, List.getElem_toArray, List.getElem_cons_zero, List.getElem_cons_succ, List.setIfInBounds_toArray, List.set_cons_zero, List.set_cons_succ]
      refine Oc.anyT_take (i := 13) (v := .pointer (some ⟨lb, off + k * 6, none⟩)) rfl (by kernel_rfl) (fun _ _ _ h => h) hS0 rfl (by rintro w' ⟨q0, q1, q2, q3, q4⟩; go_simp) ?_
      try simp only [Act.put, List.getElem_toArray, List.getElem_cons_zero, List.getElem_cons_succ, List.setIfInBounds_toArray, List.set_cons_zero, List.set_cons_succ]
      refine Oc.anyT_take (i := 14) (v := .pointer (some ⟨lb, off + k * 6 + 5, none⟩)) rfl (by kernel_rfl) (fun _ _ _ h => h) hS0 rfl (by rintro w' ⟨q0, q1, q2, q3, q4⟩; go_simp) ?_
      try simp only [Act.put, List.getElem_toArray, List.getElem_cons_zero, List.getElem_cons_succ, List.setIfInBounds_toArray, List.set_cons_zero, List.set_cons_succ]
      refine Oc.anyT_take (i := 15) (v := .slice x.a x.l x.c) rfl (by kernel_rfl) (fun _ _ _ h => h) hS0 rfl (by rintro w' ⟨q0, q1, q2, q3, q4⟩; go_simp) ?_
      try simp only [Act.put, List.getElem_toArray, List.getElem_cons_zero, List.getElem_cons_succ, List.setIfInBounds_toArray, List.set_cons_zero, List.set_cons_succ]
      refine Oc.anyT_next (i := 16) rfl (by kernel_rfl) (fun K hK => ?_)
      go_simp
      refine (dwrite_any b bm _ x.key _ x.l x.c _ hx.hi (by rcases hx.row with ⟨_, h0, _⟩ | ⟨_, _, h1, h2, _⟩; all_goals omega) _ (Oc.IsRow_below hx0.row hR.B.drew (Nat.le_refl _)) (hR.D1.kept ((Oc.Turns.refl [] wr).drew) (by simp) (by simp)) (by show d < _; omega)).mono ?_
      rintro e w5 ⟨rfl, hDw5, ht0⟩
      have htw5 : Oc.Turns [b, bm] wr w5 := ((Oc.Turns.refl _ wr).drew).trans ht0
      have hBw5 := htw5.below hR.B hR.B.size (by have := hX.far; simp; omega)
      refine hK _ _ (fun _ => (hx0.below hBw5 hlb rfl).reads) ?_
      clear hK K hS0 ht0
      try simp only [Act.put, List.getElem_toArray, List.getElem_cons_zero, List.getElem_cons_succ, List.setIfInBounds_toArray, List.set_cons_zero, List.set_cons_succ]
      have hS0 : Oc.OpS lb (off + k * 6) x w5 := (hx0.below hBw5 hlb rfl).reads
      refine Oc.anyT_take (i := 17) (v := .int .i64 (Oc.Ds.err ⟨M, decide (n ≤ d), max n 0 - d, d⟩ x.key x.l)) rfl (by kernel_rfl) (fun _ _ _ h => h) hS0 rfl (by rintro w' ⟨q0, q1, q2, q3, q4⟩; go_simp) ?_
      try simp only [Act.put, List.getElem_toArray, List.getElem_cons_zero, List.getElem_cons_succ, List.setIfInBounds_toArray, List.set_cons_zero, List.set_cons_succ]
      refine Oc.anyT_done (by kernel_rfl) ?_ _
      clear hS0
      have hE5 := hR.D2.kept htw5 (by have := hX.apart; simp; omega) (by have := hX.apart; simp; omega)
      have d200 : d < 200 := by omega
      rcases Oc.unhide hc with ⟨he, hw⟩ | ⟨he, hn1, hw⟩ | ⟨he, hn1, hw, he2, hw2⟩
      · rw [he]; rw [hw] at hDw5
        have hN : Oc.CutJ 54 w.heap.size w w5 b bm b2 bm2 n (k + 1) M d := ⟨hDw5, hE5, hBw5, hR.d0, hR.dn, by have := hR.dk; omega⟩
        clear hc hw he
        go_wp2_with fail
        go_roundg (gk - 1)
        case measure => omega
        case rel => exact ⟨k + 1, M, d, by omega, rfl, by go_num, hN⟩
      · rw [he]; rw [hw] at hDw5
        have hN : Oc.CutJ 54 w.heap.size w w5 b bm b2 bm2 n (k + 1) M d := ⟨hDw5, hE5, hBw5, hR.d0, hR.dn, by have := hR.dk; omega⟩
        have dl : decide (d < n) = false := by simp; omega
        clear hc hw he
        go_wp2_with fail
        go_roundg (gk - 1)
        case measure => omega
        case rel => exact ⟨k + 1, M, d, by omega, rfl, by go_num, hN⟩
      · rw [he]; rw [hw] at hDw5
        have dl : decide (d < n) = true := by simpa using hn1
        have Hw := Oc.hide (And.intro he2 hw2)
        clear hc hw he he2 hw2
        go_wp2_with fail
        have hx5 := hx0.below hBw5 hlb rfl
        have hS0 : Oc.OpS lb (off + k * 6) x w5.drew := hx5.reads
        refine Oc.wp_region_T (Oc.OpS lb (off + k * 6) x) [] hfo ?_
        refine Oc.anyT_take (i := 0) (v := .pointer (some ⟨b2, 0, none⟩)) rfl (by kernel_rfl) (fun _ _ _ h => h) hS0 rfl (by rintro w' ⟨q0, q1, q2, q3, q4⟩; go_simp) ?_
        try simp only [Act.put, List.getElem_toArray, List.getElem_cons_zero, List.getElem_cons_succ, List.setIfInBounds_toArray, List.set_cons_zero, List.set_cons_succ]
        refine Oc.anyT_take (i := 1) (v := .slice (some ⟨lb, off, none⟩) len cap) rfl (by kernel_rfl) (fun _ _ _ h => h) hS0 rfl (by rintro w' ⟨q0, q1, q2, q3, q4⟩; go_simp) ?_
        try simp only [Act.put, List.getElem_toArray, List.getElem_cons_zero, List.getElem_cons_succ, List.setIfInBounds_toArray, List.set_cons_zero, List.set_cons_succ]
        refine Oc.anyT_take (i := 2) (v := .int .i64 k) rfl (by kernel_rfl) (fun _ _ _ h => h) hS0 rfl (by rintro w' ⟨q0, q1, q2, q3, q4⟩; go_simp) ?_
        try simp only [Act.put, List.getElem_toArray, List.getElem_cons_zero, List.getElem_cons_succ, List.setIfInBounds_toArray, List.set_cons_zero, List.set_cons_succ]
        refine Oc.anyT_take (i := 3) (v := .pointer (some ⟨lb, off + k * 6, none⟩)) rfl (by kernel_rfl) (fun _ _ _ h => h) hS0 rfl (by rintro w' ⟨q0, q1, q2, q3, q4⟩; go_simp) ?_
        try simp only [Act.put, List.getElem_toArray, List.getElem_cons_zero, List.getElem_cons_succ, List.setIfInBounds_toArray, List.set_cons_zero, List.set_cons_succ]
        refine Oc.anyT_take (i := 4) (v := .pointer (some ⟨lb, off + k * 6 + 1, none⟩)) rfl (by kernel_rfl) (fun _ _ _ h => h) hS0 rfl (by rintro w' ⟨q0, q1, q2, q3, q4⟩; go_simp) ?_
        try simp only [Act.put, List.getElem_toArray, List.getElem_cons_zero, List.getElem_cons_succ, List.setIfInBounds_toArray, List.set_cons_zero, List.set_cons_succ]
        refine Oc.anyT_take (i := 5) (v := .agg #[.int .i64 x.k, .int .i64 x.x, .int .i64 x.z]) rfl (by kernel_rfl) (fun _ _ _ h => h) hS0 rfl (by rintro w' ⟨q0, q1, q2, q3, q4⟩; go_simp) ?_
        try simp only [Act.put, List.getElem_toArray, List.getElem_cons_zero, List.getElem_cons_succ, List.setIfInBounds_toArray, List.set_cons_zero, List.set_cons_succ]
        refine Oc.anyT_take (i := 6) (v := .slice (some ⟨lb, off, none⟩) len cap) rfl (by kernel_rfl) (fun _ _ _ h => h) hS0 rfl (by rintro w' ⟨q0, q1, q2, q3, q4⟩; go_simp) ?_
        try simp only [Act.put, List.getElem_toArray, List.getElem_cons_zero, List.getElem_cons_succ, List.setIfInBounds_toArray, List.set_cons_zero, List.set_cons_succ]
        refine Oc.anyT_take (i := 7) (v := .int .i64 k) rfl (by kernel_rfl) (fun _ _ _ h => h) hS0 rfl (by rintro w' ⟨q0, q1, q2, q3, q4⟩; go_simp) ?_
        try simp only [Act.put, List.getElem_toArray, List.getElem_cons_zero, List.getElem_cons_succ, List.setIfInBounds_toArray, List.set_cons_zero, List.set_cons_succ]
        refine Oc.anyT_take (i := 8) (v := .pointer (some ⟨lb, off + k * 6, none⟩)) rfl (by kernel_rfl) (fun _ _ _ h => h) hS0 rfl (by rintro w' ⟨q0, q1, q2, q3, q4⟩; go_simp) ?_
        try simp only [Act.put, List.getElem_toArray, List.getElem_cons_zero, List.getElem_cons_succ, List.setIfInBounds_toArray, List.set_cons_zero, List.set_cons_succ]
        refine Oc.anyT_take (i := 9) (v := .pointer (some ⟨lb, off + k * 6 + 4, none⟩)) rfl (by kernel_rfl) (fun _ _ _ h => h) hS0 rfl (by rintro w' ⟨q0, q1, q2, q3, q4⟩; go_simp) ?_
        try simp only [Act.put, List.getElem_toArray, List.getElem_cons_zero, List.getElem_cons_succ, List.setIfInBounds_toArray, List.set_cons_zero, List.set_cons_succ]
        refine Oc.anyT_take (i := 10) (v := .int .i64 x.i) rfl (by kernel_rfl) (fun _ _ _ h => h) hS0 rfl (by rintro w' ⟨q0, q1, q2, q3, q4⟩; go_simp) ?_
        try simp only [Act.put, List.getElem_toArray, List.getElem_cons_zero, List.getElem_cons_succ, List.setIfInBounds_toArray, List.set_cons_zero, List.set_cons_succ]
        refine Oc.anyT_take (i := 11) (v := .slice (some ⟨lb, off, none⟩) len cap) rfl (by kernel_rfl) (fun _ _ _ h => h) hS0 rfl (by rintro w' ⟨q0, q1, q2, q3, q4⟩; go_simp) ?_
        try simp only [Act.put, List.getElem_toArray, List.getElem_cons_zero, List.getElem_cons_succ, List.setIfInBounds_toArray, List.set_cons_zero, List.set_cons_succ]
        refine Oc.anyT_take (i := 12) (v := .int .i64 k) rfl (by kernel_rfl) (fun _ _ _ h => h) hS0 rfl (by rintro w' ⟨q0, q1, q2, q3, q4⟩; go_simp) ?_
        try simp only [Act.put, List.getElem_toArray, List.getElem_cons_zero, List.getElem_cons_succ, List.setIfInBounds_toArray, List.set_cons_zero, List.set_cons_succ]
        refine Oc.anyT_take (i := 13) (v := .pointer (some ⟨lb, off + k * 6, none⟩)) rfl (by kernel_rfl) (fun _ _ _ h => h) hS0 rfl (by rintro w' ⟨q0, q1, q2, q3, q4⟩; go_simp) ?_
        try simp only [Act.put, List.getElem_toArray, List.getElem_cons_zero, List.getElem_cons_succ, List.setIfInBounds_toArray, List.set_cons_zero, List.set_cons_succ]
        refine Oc.anyT_take (i := 14) (v := .pointer (some ⟨lb, off + k * 6 + 5, none⟩)) rfl (by kernel_rfl) (fun _ _ _ h => h) hS0 rfl (by rintro w' ⟨q0, q1, q2, q3, q4⟩; go_simp) ?_
        try simp only [Act.put, List.getElem_toArray, List.getElem_cons_zero, List.getElem_cons_succ, List.setIfInBounds_toArray, List.set_cons_zero, List.set_cons_succ]
        refine Oc.anyT_take (i := 15) (v := .slice x.a x.l x.c) rfl (by kernel_rfl) (fun _ _ _ h => h) hS0 rfl (by rintro w' ⟨q0, q1, q2, q3, q4⟩; go_simp) ?_
        try simp only [Act.put, List.getElem_toArray, List.getElem_cons_zero, List.getElem_cons_succ, List.setIfInBounds_toArray, List.set_cons_zero, List.set_cons_succ]
        refine Oc.anyT_next (i := 16) rfl (by kernel_rfl) (fun K hK => ?_)
        go_simp
        refine (dwrite_any b2 bm2 _ x.key _ x.l x.c _ hx.hi (by rcases hx.row with ⟨_, h0, _⟩ | ⟨_, _, h1, h2, _⟩; all_goals omega) _ (Oc.IsRow_below hx0.row hBw5.drew (Nat.le_refl _)) (hE5.kept ((Oc.Turns.refl [] w5).drew) (by simp) (by simp)) (by show d < _; omega)).mono ?_
        rintro e w6 ⟨rfl, hDw6, ht0⟩
        have htw6 : Oc.Turns [b2, bm2] w5 w6 := ((Oc.Turns.refl _ w5).drew).trans ht0
        have hBw6 := htw6.below hBw5 hBw5.size (by have := hX.far; simp; omega)
        refine hK _ _ (fun _ => (hx0.below hBw6 hlb rfl).reads) ?_
        clear hK K hS0 ht0
        try simp only [Act.put, List.getElem_toArray, List.getElem_cons_zero, List.getElem_cons_succ, List.setIfInBounds_toArray, List.set_cons_zero, List.set_cons_succ]
        have hS0 : Oc.OpS lb (off + k * 6) x w6 := (hx0.below hBw6 hlb rfl).reads
        refine Oc.anyT_take (i := 17) (v := .int .i64 (Oc.Ds.err ⟨M, false, -1, d⟩ x.key x.l)) rfl (by kernel_rfl) (fun _ _ _ h => h) hS0 rfl (by rintro w' ⟨q0, q1, q2, q3, q4⟩; go_simp) ?_
        try simp only [Act.put, List.getElem_toArray, List.getElem_cons_zero, List.getElem_cons_succ, List.setIfInBounds_toArray, List.set_cons_zero, List.set_cons_succ]
        refine Oc.anyT_done (by kernel_rfl) ?_ _
        clear hS0
        obtain ⟨he2, hw2⟩ := Oc.unhide Hw
        rw [he2]; rw [hw2] at hDw6
        have hD6 := hDw5.kept htw6 (by have := hX.apart; simp; omega) (by have := hX.apart; simp; omega)
        have hN : Oc.CutJ 54 w.heap.size w w6 b bm b2 bm2 n (k + 1) (Oc.put M x.key (x.zs.take 32)) (d + 1) := ⟨hD6, hDw6, hBw6, by omega, by omega, by have := hR.dk; omega⟩
        clear he2 hw2 Hw
        go_wp2_with fail
        go_roundg (gk - 1)
        case measure => omega
        case rel => exact ⟨k + 1, _, d + 1, by omega, by go_num, by go_num, hN⟩
    · have dk : decide ((k : Int) < (len : Int)) = false := by simpa using hkl
      have dk2 : decide (k < len) = false := by simpa using hkl
      have d200 : 0 ≤ d ∧ d ≤ 200 := by have := hR.d0; have := hR.dk; omega
      go_wp2_with fail
      refine (dup_any b bm _ _ hR.D1).mono ?_
      rintro e w5 ⟨rfl, hD5, ht5⟩
      replace hD5 : Oc.DkAt 54 w5 b bm ⟨M, false, -1, d⟩ := hD5
      have hE5 := hR.D2.kept ht5 (by have := hX.apart; simp; omega) (by have := hX.apart; simp; omega)
      have hB5 := ht5.below hR.B hR.B.size (by have := hX.far; simp; omega)
      clear ht5 hR dk dk2
      go_wp2_with fail
      obtain ⟨wo, rfl⟩ : ∃ wo : World, wo = wr := ⟨_, rfl⟩
      obtain ⟨ko, rfl⟩ : ∃ ko : Nat, ko = gk := ⟨_, rfl⟩
      obtain ⟨kk, rfl⟩ : ∃ kk : Nat, kk = k := ⟨_, rfl⟩
      go_loopg [12] len (fun gk i wr => ∃ k : Nat, k + gk = len ∧ i = .int .i64 k ∧ Oc.DkAt 54 wr b bm ⟨M, false, -1, d⟩ ∧ Oc.DkAt 54 wr b2 bm2 ⟨M, false, -1, d⟩ ∧ Below w.heap.size w wr)
      case atStart => exact ⟨0, by omega, rfl, hD5, hE5, hB5⟩
      case round =>
        obtain ⟨k, hk, rfl, hD, hE, hB⟩ := hrel
        clear hD5 hE5 hB5
        by_cases hkl : k < len
        · have dk : decide ((k : Int) < (len : Int)) = true := by simpa using hkl
          have dk2 : decide (k < len) = true := by simpa using hkl
          obtain ⟨lb, off, rfl, hlb, hlc, hcm, hops⟩ := Oc.ops_at hl hkl
          obtain ⟨x, hx0⟩ := hops k hkl
          clear hops
          have hx := hx0.below hB hlb rfl
          have k0 : 0 ≤ (k : Int) := by omega
          have k1 : (k : Int) < (len : Int) := by omega
          have hrr : Oc.Ds.rerr ⟨M, false, -1, d⟩ x.key.i = 0 ∨ Oc.Ds.rerr ⟨M, false, -1, d⟩ x.key.i = 1 := by
            unfold Oc.Ds.rerr; split
            · exact .inr rfl
            · exact .inl rfl
          rcases hrr with hrr | hrr
          · go_wp2_with fail
            have hS0 : Oc.OpS lb (off + k * 6) x wr.drew := hx.reads
            refine Oc.wp_region_T (Oc.OpS lb (off + k * 6) x) [] hfo ?_
            refine Oc.anyT_take (i := 0) (v := .pointer (some ⟨b, 0, none⟩)) rfl (by kernel_rfl) (fun _ _ _ h => h) hS0 rfl (by rintro w' ⟨q0, q1, q2, q3, q4⟩; go_simp) ?_
            try simp only [Act.put, List.getElem_toArray, List.getElem_cons_zero, List.getElem_cons_succ, List.setIfInBounds_toArray, List.set_cons_zero, List.set_cons_succ]
            refine Oc.anyT_take (i := 1) (v := .slice (some ⟨lb, off, none⟩) len cap) rfl (by kernel_rfl) (fun _ _ _ h => h) hS0 rfl (by rintro w' ⟨q0, q1, q2, q3, q4⟩; go_simp) ?_
            try simp only [Act.put, List.getElem_toArray, List.getElem_cons_zero, List.getElem_cons_succ, List.setIfInBounds_toArray, List.set_cons_zero, List.set_cons_succ]
            refine Oc.anyT_take (i := 2) (v := .int .i64 k) rfl (by kernel_rfl) (fun _ _ _ h => h) hS0 rfl (by rintro w' ⟨q0, q1, q2, q3, q4⟩; go_simp) ?_
            try simp only [Act.put, List.getElem_toArray, List.getElem_cons_zero, List.getElem_cons_succ, List.setIfInBounds_toArray, List.set_cons_zero, List.set_cons_succ]
            refine Oc.anyT_take (i := 3) (v := .pointer (some ⟨lb, off + k * 6, none⟩)) rfl (by kernel_rfl) (fun _ _ _ h => h) hS0 rfl (by rintro w' ⟨q0, q1, q2, q3, q4⟩; go_simp) ?_
            try simp only [Act.put, List.getElem_toArray, List.getElem_cons_zero, List.getElem_cons_succ, List.setIfInBounds_toArray, List.set_cons_zero, List.set_cons_succ]
            refine Oc.anyT_take (i := 4) (v := .pointer (some ⟨lb, off + k * 6 + 1, none⟩)) rfl (by kernel_rfl) (fun _ _ _ h => h) hS0 rfl (by rintro w' ⟨q0, q1, q2, q3, q4⟩; go_simp) ?_
            try simp only [Act.put, List.getElem_toArray, List.getElem_cons_zero, List.getElem_cons_succ, List.setIfInBounds_toArray, List.set_cons_zero, List.set_cons_succ]
            refine Oc.anyT_take (i := 5) (v := .agg #[.int .i64 x.k, .int .i64 x.x, .int .i64 x.z]) rfl (by kernel_rfl) (fun _ _ _ h => h) hS0 rfl (by rintro w' ⟨q0, q1, q2, q3, q4⟩; go_simp) ?_
            try simp only [Act.put, List.getElem_toArray, List.getElem_cons_zero, List.getElem_cons_succ, List.setIfInBounds_toArray, List.set_cons_zero, List.set_cons_succ]
            refine Oc.anyT_take (i := 6) (v := .slice (some ⟨lb, off, none⟩) len cap) rfl (by kernel_rfl) (fun _ _ _ h => h) hS0 rfl (by rintro w' ⟨q0, q1, q2, q3, q4⟩; go_simp) ?_
            try simp only [Act.put, List.getElem_toArray, List.getElem_cons_zero, List.getElem_cons_succ, List.setIfInBounds_toArray, List.set_cons_zero, List.set_cons_succ]
            refine Oc.anyT_take (i := 7) (v := .int .i64 k) rfl (by kernel_rfl) (fun _ _ _ h => h) hS0 rfl (by rintro w' ⟨q0, q1, q2, q3, q4⟩; go_simp) ?_
            try simp only [Act.put, List.getElem_toArray, List.getElem_cons_zero, List.getElem_cons_succ, List.setIfInBounds_toArray, List.set_cons_zero, List.set_cons_succ]
            refine Oc.anyT_take (i := 8) (v := .pointer (some ⟨lb, off + k * 6, none⟩)) rfl (by kernel_rfl) (fun _ _ _ h => h) hS0 rfl (by rintro w' ⟨q0, q1, q2, q3, q4⟩; go_simp) ?_
            try simp only [Act.put, List.getElem_toArray, List.getElem_cons_zero, List.getElem_cons_succ, List.setIfInBounds_toArray, List.set_cons_zero, List.set_cons_succ]
            refine Oc.anyT_take (i := 9) (v := .pointer (some ⟨lb, off + k * 6 + 4, none⟩)) rfl (by kernel_rfl) (fun _ _ _ h => h) hS0 rfl (by rintro w' ⟨q0, q1, q2, q3, q4⟩; go_simp) ?_
            try simp only [Act.put, List.getElem_toArray, List.getElem_cons_zero, List.getElem_cons_succ, List.setIfInBounds_toArray, List.set_cons_zero, List.set_cons_succ]
            refine Oc.anyT_take (i := 10) (v := .int .i64 x.i) rfl (by kernel_rfl) (fun _ _ _ h => h) hS0 rfl (by rintro w' ⟨q0, q1, q2, q3, q4⟩; go_simp) ?_
            try simp only [Act.put, List.getElem_toArray, List.getElem_cons_zero, List.getElem_cons_succ, List.setIfInBounds_toArray, List.set_cons_zero, List.set_cons_succ]
            refine Oc.anyT_next (i := 11) rfl (by kernel_rfl) (fun K hK => ?_)
            go_simp
            refine (dread_any b bm _ x.key hx0.hi _ (hD.kept ((Oc.Turns.refl [] wr).drew) (by simp) (by simp))).mono ?_
            rintro e wA (⟨_, nb1, rfl, hblknb1, hnb, hgwA⟩ | ⟨h0, _⟩)
            case inr => exact absurd hrr h0
            have htwA : Oc.Turns [] wr wA := ((Oc.Turns.refl [] wr).drew).trans (Oc.Turns.of_none hgwA)
            have hDwA := hD.kept htwA (by simp) (by simp)
            have hEwA := hE.kept htwA (by simp) (by simp)
            have hBwA := htwA.below hB hB.size (by simp)
            have hS1 : Oc.OpS lb (off + k * 6) x wA := (hx0.below hBwA hlb rfl).reads
            refine hK _ _ (fun _ => hS1) ?_
            clear hK K hS0 hgwA
            try simp only [Act.put, List.getElem_toArray, List.getElem_cons_zero, List.getElem_cons_succ, List.setIfInBounds_toArray, List.set_cons_zero, List.set_cons_succ]
            refine Oc.anyT_take (i := 12) (v := .tuple #[.slice (some ⟨nb1, 0, none⟩) 32 32, .int .i64 0]) rfl (by kernel_rfl) (fun _ _ _ h => h) hS1 rfl (by rintro w' ⟨q0, q1, q2, q3, q4⟩; go_simp) ?_
            try simp only [Act.put, List.getElem_toArray, List.getElem_cons_zero, List.getElem_cons_succ, List.setIfInBounds_toArray, List.set_cons_zero, List.set_cons_succ]
            refine Oc.anyT_take (i := 13) (v := .slice (some ⟨nb1, 0, none⟩) 32 32) rfl (by kernel_rfl) (fun _ _ _ h => h) hS1 rfl (by rintro w' ⟨q0, q1, q2, q3, q4⟩; go_simp) ?_
            try simp only [Act.put, List.getElem_toArray, List.getElem_cons_zero, List.getElem_cons_succ, List.setIfInBounds_toArray, List.set_cons_zero, List.set_cons_succ]
            refine Oc.anyT_take (i := 14) (v := .int .i64 0) rfl (by kernel_rfl) (fun _ _ _ h => h) hS1 rfl (by rintro w' ⟨q0, q1, q2, q3, q4⟩; go_simp) ?_
            try simp only [Act.put, List.getElem_toArray, List.getElem_cons_zero, List.getElem_cons_succ, List.setIfInBounds_toArray, List.set_cons_zero, List.set_cons_succ]
            refine Oc.anyT_take (i := 15) (v := .slice (some ⟨nb1, 0, none⟩) 32 32) rfl (by kernel_rfl) (fun _ _ _ h => h) hS1 rfl (by rintro w' ⟨q0, q1, q2, q3, q4⟩; go_simp) ?_
            try simp only [Act.put, List.getElem_toArray, List.getElem_cons_zero, List.getElem_cons_succ, List.setIfInBounds_toArray, List.set_cons_zero, List.set_cons_succ]
            refine Oc.anyT_take (i := 16) (v := .int .i64 0) rfl (by kernel_rfl) (fun _ _ _ h => h) hS1 rfl (by rintro w' ⟨q0, q1, q2, q3, q4⟩; go_simp) ?_
            try simp only [Act.put, List.getElem_toArray, List.getElem_cons_zero, List.getElem_cons_succ, List.setIfInBounds_toArray, List.set_cons_zero, List.set_cons_succ]
            refine Oc.anyT_done (by kernel_rfl) ?_ _
            clear hS1
            go_wp2_with fail
            have hS0 : Oc.OpS lb (off + k * 6) x wA.drew := (hx0.below hBwA hlb rfl).reads
            refine Oc.wp_region_T (Oc.OpS lb (off + k * 6) x) [] hfo ?_
            refine Oc.anyT_take (i := 0) (v := .pointer (some ⟨b2, 0, none⟩)) rfl (by kernel_rfl) (fun _ _ _ h => h) hS0 rfl (by rintro w' ⟨q0, q1, q2, q3, q4⟩; go_simp) ?_
            try simp only [Act.put, List.getElem_toArray, List.getElem_cons_zero, List.getElem_cons_succ, List.setIfInBounds_toArray, List.set_cons_zero, List.set_cons_succ]
            refine Oc.anyT_take (i := 1) (v := .slice (some ⟨lb, off, none⟩) len cap) rfl (by kernel_rfl) (fun _ _ _ h => h) hS0 rfl (by rintro w' ⟨q0, q1, q2, q3, q4⟩; go_simp) ?_
            try simp only [Act.put, List.getElem_toArray, List.getElem_cons_zero, List.getElem_cons_succ, List.setIfInBounds_toArray, List.set_cons_zero, List.set_cons_succ]
            refine Oc.anyT_take (i := 2) (v := .int .i64 k) rfl (by kernel_rfl) (fun _ _ _ h => h) hS0 rfl (by rintro w' ⟨q0, q1, q2, q3, q4⟩; go_simp) ?_
            try simp only [Act.put, List.getElem_toArray, List.getElem_cons_zero, List.getElem_cons_succ, List.setIfInBounds_toArray, List.set_cons_zero, List.set_cons_succ]
            refine Oc.anyT_take (i := 3) (v := .pointer (some ⟨lb, off + k * 6, none⟩)) rfl (by kernel_rfl) (fun _ _ _ h => h) hS0 rfl (by rintro w' ⟨q0, q1, q2, q3, q4⟩; go_simp) ?_
            try simp only [Act.put, List.getElem_toArray, List.getElem_cons_zero, List.getElem_cons_succ, List.setIfInBounds_toArray, List.set_cons_zero, List.set_cons_succ]
            refine Oc.anyT_take (i := 4) (v := .pointer (some ⟨lb, off + k * 6 + 1, none⟩)) rfl (by kernel_rfl) (fun _ _ _ h => h) hS0 rfl (by rintro w' ⟨q0, q1, q2, q3, q4⟩; go_simp) ?_
            try simp only [Act.put, List.getElem_toArray, List.getElem_cons_zero, List.getElem_cons_succ, List.setIfInBounds_toArray, List.set_cons_zero, List.set_cons_succ]
            refine Oc.anyT_take (i := 5) (v := .agg #[.int .i64 x.k, .int .i64 x.x, .int .i64 x.z]) rfl (by kernel_rfl) (fun _ _ _ h => h) hS0 rfl (by rintro w' ⟨q0, q1, q2, q3, q4⟩; go_simp) ?_
            try simp only [Act.put, List.getElem_toArray, List.getElem_cons_zero, List.getElem_cons_succ, List.setIfInBounds_toArray, List.set_cons_zero, List.set_cons_succ]
            refine Oc.anyT_take (i := 6) (v := .slice (some ⟨lb, off, none⟩) len cap) rfl (by kernel_rfl) (fun _ _ _ h => h) hS0 rfl (by rintro w' ⟨q0, q1, q2, q3, q4⟩; go_simp) ?_
            try simp only [Act.put, List.getElem_toArray, List.getElem_cons_zero, List.getElem_cons_succ, List.setIfInBounds_toArray, List.set_cons_zero, List.set_cons_succ]
            refine Oc.anyT_take (i := 7) (v := .int .i64 k) rfl (by kernel_rfl) (fun _ _ _ h => h) hS0 rfl (by rintro w' ⟨q0, q1, q2, q3, q4⟩; go_simp) ?_
            try simp only [Act.put, List.getElem_toArray, List.getElem_cons_zero, List.getElem_cons_succ, List.setIfInBounds_toArray, List.set_cons_zero, List.set_cons_succ]
            refine Oc.anyT_take (i := 8) (v := .pointer (some ⟨lb, off + k * 6, none⟩)) rfl (by kernel_rfl) (fun _ _ _ h => h) hS0 rfl (by rintro w' ⟨q0, q1, q2, q3, q4⟩; go_simp) ?_
            try simp only [Act.put, List.getElem_toArray, List.getElem_cons_zero, List.getElem_cons_succ, List.setIfInBounds_toArray, List.set_cons_zero, List.set_cons_succ]
            refine Oc.anyT_take (i := 9) (v := .pointer (some ⟨lb, off + k * 6 + 4, none⟩)) rfl (by kernel_rfl) (fun _ _ _ h => h) hS0 rfl (by rintro w' ⟨q0, q1, q2, q3, q4⟩; go_simp) ?_
            try simp only [Act.put, List.getElem_toArray, List.getElem_cons_zero, List.getElem_cons_succ, List.setIfInBounds_toArray, List.set_cons_zero, List.set_cons_succ]
            refine Oc.anyT_take (i := 10) (v := .int .i64 x.i) rfl (by kernel_rfl) (fun _ _ _ h => h) hS0 rfl (by rintro w' ⟨q0, q1, q2, q3, q4⟩; go_simp) ?_
            try simp only [Act.put, List.getElem_toArray, List.getElem_cons_zero, List.getElem_cons_succ, List.setIfInBounds_toArray, List.set_cons_zero, List.set_cons_succ]
            refine Oc.anyT_next (i := 11) rfl (by kernel_rfl) (fun K hK => ?_)
            go_simp
            refine (dread_any b2 bm2 _ x.key hx0.hi _ (hEwA.kept ((Oc.Turns.refl [] wA).drew) (by simp) (by simp))).mono ?_
            rintro e wB (⟨_, nb2, rfl, hblknb2, hnb, hgwB⟩ | ⟨h0, _⟩)
            case inr => exact absurd hrr h0
            have htwB : Oc.Turns [] wA wB := ((Oc.Turns.refl [] wA).drew).trans (Oc.Turns.of_none hgwB)
            have hDwB := hDwA.kept htwB (by simp) (by simp)
            have hEwB := hEwA.kept htwB (by simp) (by simp)
            have hBwB := htwB.below hBwA hBwA.size (by simp)
            have hS1 : Oc.OpS lb (off + k * 6) x wB := (hx0.below hBwB hlb rfl).reads
            refine hK _ _ (fun _ => hS1) ?_
            clear hK K hS0 hgwB
            try simp only [Act.put, List.getElem_toArray, List.getElem_cons_zero, List.getElem_cons_succ, List.setIfInBounds_toArray, List.set_cons_zero, List.set_cons_succ]
            refine Oc.anyT_take (i := 12) (v := .tuple #[.slice (some ⟨nb2, 0, none⟩) 32 32, .int .i64 0]) rfl (by kernel_rfl) (fun _ _ _ h => h) hS1 rfl (by rintro w' ⟨q0, q1, q2, q3, q4⟩; go_simp) ?_
            try simp only [Act.put, List.getElem_toArray, List.getElem_cons_zero, List.getElem_cons_succ, List.setIfInBounds_toArray, List.set_cons_zero, List.set_cons_succ]
            refine Oc.anyT_take (i := 13) (v := .slice (some ⟨nb2, 0, none⟩) 32 32) rfl (by kernel_rfl) (fun _ _ _ h => h) hS1 rfl (by rintro w' ⟨q0, q1, q2, q3, q4⟩; go_simp) ?_
            try simp only [Act.put, List.getElem_toArray, List.getElem_cons_zero, List.getElem_cons_succ, List.setIfInBounds_toArray, List.set_cons_zero, List.set_cons_succ]
            refine Oc.anyT_take (i := 14) (v := .int .i64 0) rfl (by kernel_rfl) (fun _ _ _ h => h) hS1 rfl (by rintro w' ⟨q0, q1, q2, q3, q4⟩; go_simp) ?_
            try simp only [Act.put, List.getElem_toArray, List.getElem_cons_zero, List.getElem_cons_succ, List.setIfInBounds_toArray, List.set_cons_zero, List.set_cons_succ]
            refine Oc.anyT_take (i := 15) (v := .slice (some ⟨nb2, 0, none⟩) 32 32) rfl (by kernel_rfl) (fun _ _ _ h => h) hS1 rfl (by rintro w' ⟨q0, q1, q2, q3, q4⟩; go_simp) ?_
            try simp only [Act.put, List.getElem_toArray, List.getElem_cons_zero, List.getElem_cons_succ, List.setIfInBounds_toArray, List.set_cons_zero, List.set_cons_succ]
            refine Oc.anyT_take (i := 16) (v := .int .i64 0) rfl (by kernel_rfl) (fun _ _ _ h => h) hS1 rfl (by rintro w' ⟨q0, q1, q2, q3, q4⟩; go_simp) ?_
            try simp only [Act.put, List.getElem_toArray, List.getElem_cons_zero, List.getElem_cons_succ, List.setIfInBounds_toArray, List.set_cons_zero, List.set_cons_succ]
            refine Oc.anyT_done (by kernel_rfl) ?_ _
            clear hS1
            have hRl := (Oc.get_ok hE.ok x.key).1
            replace hblknb1 : Oc.Blk wA nb1 55 (Oc.get M x.key) := hblknb1
            replace hblknb2 : Oc.Blk wB nb2 55 (Oc.get M x.key) := hblknb2
            have hq1 := run_string32 (hblknb1.kept htwB (by simp)) hRl
            have hq2 := run_string32 hblknb2 hRl
            go_wp2_with fail
            go_roundg (gk - 1)
            case measure => omega
            case rel => exact ⟨k + 1, by omega, by go_num, hDwB, hEwB, hBwB⟩
          · go_wp2_with fail
            have hS0 : Oc.OpS lb (off + k * 6) x wr.drew := hx.reads
            refine Oc.wp_region_T (Oc.OpS lb (off + k * 6) x) [] hfo ?_
            refine Oc.anyT_take (i := 0) (v := .pointer (some ⟨b, 0, none⟩)) rfl (by kernel_rfl) (fun _ _ _ h => h) hS0 rfl (by rintro w' ⟨q0, q1, q2, q3, q4⟩; go_simp) ?_
            try simp only [Act.put, List.getElem_toArray, List.getElem_cons_zero, List.getElem_cons_succ, List.setIfInBounds_toArray, List.set_cons_zero, List.set_cons_succ]
            refine Oc.anyT_take (i := 1) (v := .slice (some ⟨lb, off, none⟩) len cap) rfl (by kernel_rfl) (fun _ _ _ h => h) hS0 rfl (by rintro w' ⟨q0, q1, q2, q3, q4⟩; go_simp) ?_
            try simp only [Act.put, List.getElem_toArray, List.getElem_cons_zero, List.getElem_cons_succ, List.setIfInBounds_toArray, List.set_cons_zero, List.set_cons_succ]
            refine Oc.anyT_take (i := 2) (v := .int .i64 k) rfl (by kernel_rfl) (fun _ _ _ h => h) hS0 rfl (by rintro w' ⟨q0, q1, q2, q3, q4⟩; go_simp) ?_
            try simp only [Act.put, List.getElem_toArray, List.getElem_cons_zero, List.getElem_cons_succ, List.setIfInBounds_toArray, List.set_cons_zero, List.set_cons_succ]
            refine Oc.anyT_take (i := 3) (v := .pointer (some ⟨lb, off + k * 6, none⟩)) rfl (by kernel_rfl) (fun _ _ _ h => h) hS0 rfl (by rintro w' ⟨q0, q1, q2, q3, q4⟩; go_simp) ?_
            try simp only [Act.put, List.getElem_toArray, List.getElem_cons_zero, List.getElem_cons_succ, List.setIfInBounds_toArray, List.set_cons_zero, List.set_cons_succ]
            refine Oc.anyT_take (i := 4) (v := .pointer (some ⟨lb, off + k * 6 + 1, none⟩)) rfl (by kernel_rfl) (fun _ _ _ h => h) hS0 rfl (by rintro w' ⟨q0, q1, q2, q3, q4⟩; go_simp) ?_
            try simp only [Act.put, List.getElem_toArray, List.getElem_cons_zero, List.getElem_cons_succ, List.setIfInBounds_toArray, List.set_cons_zero, List.set_cons_succ]
            refine Oc.anyT_take (i := 5) (v := .agg #[.int .i64 x.k, .int .i64 x.x, .int .i64 x.z]) rfl (by kernel_rfl) (fun _ _ _ h => h) hS0 rfl (by rintro w' ⟨q0, q1, q2, q3, q4⟩; go_simp) ?_
            try simp only [Act.put, List.getElem_toArray, List.getElem_cons_zero, List.getElem_cons_succ, List.setIfInBounds_toArray, List.set_cons_zero, List.set_cons_succ]
            refine Oc.anyT_take (i := 6) (v := .slice (some ⟨lb, off, none⟩) len cap) rfl (by kernel_rfl) (fun _ _ _ h => h) hS0 rfl (by rintro w' ⟨q0, q1, q2, q3, q4⟩; go_simp) ?_
            try simp only [Act.put, List.getElem_toArray, List.getElem_cons_zero, List.getElem_cons_succ, List.setIfInBounds_toArray, List.set_cons_zero, List.set_cons_succ]
            refine Oc.anyT_take (i := 7) (v := .int .i64 k) rfl (by kernel_rfl) (fun _ _ _ h => h) hS0 rfl (by rintro w' ⟨q0, q1, q2, q3, q4⟩; go_simp) ?_
            try simp only [Act.put, List.getElem_toArray, List.getElem_cons_zero, List.getElem_cons_succ, List.setIfInBounds_toArray, List.set_cons_zero, List.set_cons_succ]
            refine Oc.anyT_take (i := 8) (v := .pointer (some ⟨lb, off + k * 6, none⟩)) rfl (by kernel_rfl) (fun _ _ _ h => h) hS0 rfl (by rintro w' ⟨q0, q1, q2, q3, q4⟩; go_simp) ?_
            try simp only [Act.put, List.getElem_toArray, List.getElem_cons_zero, List.getElem_cons_succ, List.setIfInBounds_toArray, List.set_cons_zero, List.set_cons_succ]
            refine Oc.anyT_take (i := 9) (v := .pointer (some ⟨lb, off + k * 6 + 4, none⟩)) rfl (by kernel_rfl) (fun _ _ _ h => h) hS0 rfl (by rintro w' ⟨q0, q1, q2, q3, q4⟩; go_simp) ?_
            try simp only [Act.put, List.getElem_toArray, List.getElem_cons_zero, List.getElem_cons_succ, List.setIfInBounds_toArray, List.set_cons_zero, List.set_cons_succ]
            refine Oc.anyT_take (i := 10) (v := .int .i64 x.i) rfl (by kernel_rfl) (fun _ _ _ h => h) hS0 rfl (by rintro w' ⟨q0, q1, q2, q3, q4⟩; go_simp) ?_
            try simp only [Act.put, List.getElem_toArray, List.getElem_cons_zero, List.getElem_cons_succ, List.setIfInBounds_toArray, List.set_cons_zero, List.set_cons_succ]
            refine Oc.anyT_next (i := 11) rfl (by kernel_rfl) (fun K hK => ?_)
            go_simp
            refine (dread_any b bm _ x.key hx0.hi _ (hD.kept ((Oc.Turns.refl [] wr).drew) (by simp) (by simp))).mono ?_
            rintro e wA (⟨h0, _⟩ | ⟨_, rfl, hgwA⟩)
            · exact absurd (hrr.symm.trans h0) (by decide)
            rw [hrr]
            have htwA : Oc.Turns [] wr wA := ((Oc.Turns.refl [] wr).drew).trans (Oc.Turns.of_none hgwA)
            have hDwA := hD.kept htwA (by simp) (by simp)
            have hEwA := hE.kept htwA (by simp) (by simp)
            have hBwA := htwA.below hB hB.size (by simp)
            have hS1 : Oc.OpS lb (off + k * 6) x wA := (hx0.below hBwA hlb rfl).reads
            refine hK _ _ (fun _ => hS1) ?_
            clear hK K hS0 hgwA
            try simp only [Act.put, List.getElem_toArray, List.getElem_cons_zero, List.getElem_cons_succ, List.setIfInBounds_toArray, List.set_cons_zero, List.set_cons_succ]
            refine Oc.anyT_take (i := 12) (v := .tuple #[.slice none 0 0, .int .i64 1]) rfl (by kernel_rfl) (fun _ _ _ h => h) hS1 rfl (by rintro w' ⟨q0, q1, q2, q3, q4⟩; go_simp) ?_
            try simp only [Act.put, List.getElem_toArray, List.getElem_cons_zero, List.getElem_cons_succ, List.setIfInBounds_toArray, List.set_cons_zero, List.set_cons_succ]
            refine Oc.anyT_take (i := 13) (v := .slice none 0 0) rfl (by kernel_rfl) (fun _ _ _ h => h) hS1 rfl (by rintro w' ⟨q0, q1, q2, q3, q4⟩; go_simp) ?_
            try simp only [Act.put, List.getElem_toArray, List.getElem_cons_zero, List.getElem_cons_succ, List.setIfInBounds_toArray, List.set_cons_zero, List.set_cons_succ]
            refine Oc.anyT_take (i := 14) (v := .int .i64 1) rfl (by kernel_rfl) (fun _ _ _ h => h) hS1 rfl (by rintro w' ⟨q0, q1, q2, q3, q4⟩; go_simp) ?_
            try simp only [Act.put, List.getElem_toArray, List.getElem_cons_zero, List.getElem_cons_succ, List.setIfInBounds_toArray, List.set_cons_zero, List.set_cons_succ]
            refine Oc.anyT_take (i := 15) (v := .slice none 0 0) rfl (by kernel_rfl) (fun _ _ _ h => h) hS1 rfl (by rintro w' ⟨q0, q1, q2, q3, q4⟩; go_simp) ?_
            try simp only [Act.put, List.getElem_toArray, List.getElem_cons_zero, List.getElem_cons_succ, List.setIfInBounds_toArray, List.set_cons_zero, List.set_cons_succ]
            refine Oc.anyT_take (i := 16) (v := .int .i64 1) rfl (by kernel_rfl) (fun _ _ _ h => h) hS1 rfl (by rintro w' ⟨q0, q1, q2, q3, q4⟩; go_simp) ?_
            try simp only [Act.put, List.getElem_toArray, List.getElem_cons_zero, List.getElem_cons_succ, List.setIfInBounds_toArray, List.set_cons_zero, List.set_cons_succ]
            refine Oc.anyT_done (by kernel_rfl) ?_ _
            clear hS1
            go_wp2_with fail
            have hS0 : Oc.OpS lb (off + k * 6) x wA.drew := (hx0.below hBwA hlb rfl).reads
            refine Oc.wp_region_T (Oc.OpS lb (off + k * 6) x) [] hfo ?_
            refine Oc.anyT_take (i := 0) (v := .pointer (some ⟨b2, 0, none⟩)) rfl (by kernel_rfl) (fun _ _ _ h => h) hS0 rfl (by rintro w' ⟨q0, q1, q2, q3, q4⟩; go_simp) ?_
            try simp only [Act.put, List.getElem_toArray, List.getElem_cons_zero, List.getElem_cons_succ, List.setIfInBounds_toArray, List.set_cons_zero, List.set_cons_succ]
            refine Oc.anyT_take (i := 1) (v := .slice (some ⟨lb, off, none⟩) len cap) rfl (by kernel_rfl) (fun _ _ _ h => h) hS0 rfl (by rintro w' ⟨q0, q1, q2, q3, q4⟩; go_simp) ?_
            try simp only [Act.put, List.getElem_toArray, List.getElem_cons_zero, List.getElem_cons_succ, List.setIfInBounds_toArray, List.set_cons_zero, List.set_cons_succ]
            refine Oc.anyT_take (i := 2) (v := .int .i64 k) rfl (by kernel_rfl) (fun _ _ _ h => h) hS0 rfl (by rintro w' ⟨q0, q1, q2, q3, q4⟩; go_simp) ?_
            try simp only [Act.put, List.getElem_toArray, List.getElem_cons_zero, List.getElem_cons_succ, List.setIfInBounds_toArray, List.set_cons_zero, List.set_cons_succ]
            refine Oc.anyT_take (i := 3) (v := .pointer (some ⟨lb, off + k * 6, none⟩)) rfl (by kernel_rfl) (fun _ _ _ h => h) hS0 rfl (by rintro w' ⟨q0, q1, q2, q3, q4⟩; go_simp) ?_
            try simp only [Act.put, List.getElem_toArray, List.getElem_cons_zero, List.getElem_cons_succ, List.setIfInBounds_toArray, List.set_cons_zero, List.set_cons_succ]
            refine Oc.anyT_take (i := 4) (v := .pointer (some ⟨lb, off + k * 6 + 1, none⟩)) rfl (by kernel_rfl) (fun _ _ _ h => h) hS0 rfl (by rintro w' ⟨q0, q1, q2, q3, q4⟩; go_simp) ?_
            try simp only [Act.put, List.getElem_toArray, List.getElem_cons_zero, List.getElem_cons_succ, List.setIfInBounds_toArray, List.set_cons_zero, List.set_cons_succ]
            refine Oc.anyT_take (i := 5) (v := .agg #[.int .i64 x.k, .int .i64 x.x, .int .i64 x.z]) rfl (by kernel_rfl) (fun _ _ _ h => h) hS0 rfl (by rintro w' ⟨q0, q1, q2, q3, q4⟩; go_simp) ?_
            try simp only [Act.put, List.getElem_toArray, List.getElem_cons_zero, List.getElem_cons_succ, List.setIfInBounds_toArray, List.set_cons_zero, List.set_cons_succ]
            refine Oc.anyT_take (i := 6) (v := .slice (some ⟨lb, off, none⟩) len cap) rfl (by kernel_rfl) (fun _ _ _ h => h) hS0 rfl (by rintro w' ⟨q0, q1, q2, q3, q4⟩; go_simp) ?_
            try simp only [Act.put, List.getElem_toArray, List.getElem_cons_zero, List.getElem_cons_succ, List.setIfInBounds_toArray, List.set_cons_zero, List.set_cons_succ]
            refine Oc.anyT_take (i := 7) (v := .int .i64 k) rfl (by kernel_rfl) (fun _ _ _ h => h) hS0 rfl (by rintro w' ⟨q0, q1, q2, q3, q4⟩; go_simp) ?_
            try simp only [Act.put, List.getElem_toArray, List.getElem_cons_zero, List.getElem_cons_succ, List.setIfInBounds_toArray, List.set_cons_zero, List.set_cons_succ]
            refine Oc.anyT_take (i := 8) (v := .pointer (some ⟨lb, off + k * 6, none⟩)) rfl (by kernel_rfl) (fun _ _ _ h => h) hS0 rfl (by rintro w' ⟨q0, q1, q2, q3, q4⟩; go_simp) ?_
            try simp only [Act.put, List.getElem_toArray, List.getElem_cons_zero, List.getElem_cons_succ, List.setIfInBounds_toArray, List.set_cons_zero, List.set_cons_succ]
            refine Oc.anyT_take (i := 9) (v := .pointer (some ⟨lb, off + k * 6 + 4, none⟩)) rfl (by kernel_rfl) (fun _ _ _ h => h) hS0 rfl (by rintro w' ⟨q0, q1, q2, q3, q4⟩; go_simp) ?_
            try simp only [Act.put, List.getElem_toArray, List.getElem_cons_zero, List.getElem_cons_succ, List.setIfInBounds_toArray, List.set_cons_zero, List.set_cons_succ]
            refine Oc.anyT_take (i := 10) (v := .int .i64 x.i) rfl (by kernel_rfl) (fun _ _ _ h => h) hS0 rfl (by rintro w' ⟨q0, q1, q2, q3, q4⟩; go_simp) ?_
            try simp only [Act.put, List.getElem_toArray, List.getElem_cons_zero, List.getElem_cons_succ, List.setIfInBounds_toArray, List.set_cons_zero, List.set_cons_succ]
            refine Oc.anyT_next (i := 11) rfl (by kernel_rfl) (fun K hK => ?_)
            go_simp
            refine (dread_any b2 bm2 _ x.key hx0.hi _ (hEwA.kept ((Oc.Turns.refl [] wA).drew) (by simp) (by simp))).mono ?_
            rintro e wB (⟨h0, _⟩ | ⟨_, rfl, hgwB⟩)
            · exact absurd (hrr.symm.trans h0) (by decide)
            rw [hrr]
            have htwB : Oc.Turns [] wA wB := ((Oc.Turns.refl [] wA).drew).trans (Oc.Turns.of_none hgwB)
            have hDwB := hDwA.kept htwB (by simp) (by simp)
            have hEwB := hEwA.kept htwB (by simp) (by simp)
            have hBwB := htwB.below hBwA hBwA.size (by simp)
            have hS1 : Oc.OpS lb (off + k * 6) x wB := (hx0.below hBwB hlb rfl).reads
            refine hK _ _ (fun _ => hS1) ?_
            clear hK K hS0 hgwB
            try simp only [Act.put, List.getElem_toArray, List.getElem_cons_zero, List.getElem_cons_succ, List.setIfInBounds_toArray, List.set_cons_zero, List.set_cons_succ]
            refine Oc.anyT_take (i := 12) (v := .tuple #[.slice none 0 0, .int .i64 1]) rfl (by kernel_rfl) (fun _ _ _ h => h) hS1 rfl (by rintro w' ⟨q0, q1, q2, q3, q4⟩; go_simp) ?_
            try simp only [Act.put, List.getElem_toArray, List.getElem_cons_zero, List.getElem_cons_succ, List.setIfInBounds_toArray, List.set_cons_zero, List.set_cons_succ]
            refine Oc.anyT_take (i := 13) (v := .slice none 0 0) rfl (by kernel_rfl) (fun _ _ _ h => h) hS1 rfl (by rintro w' ⟨q0, q1, q2, q3, q4⟩; go_simp) ?_
            try simp only [Act.put, List.getElem_toArray, List.getElem_cons_zero, List.getElem_cons_succ, List.setIfInBounds_toArray, List.set_cons_zero, List.set_cons_succ]
            refine Oc.anyT_take (i := 14) (v := .int .i64 1) rfl (by kernel_rfl) (fun _ _ _ h => h) hS1 rfl (by rintro w' ⟨q0, q1, q2, q3, q4⟩; go_simp) ?_
            try simp only [Act.put, List.getElem_toArray, List.getElem_cons_zero, List.getElem_cons_succ, List.setIfInBounds_toArray, List.set_cons_zero, List.set_cons_succ]
            refine Oc.anyT_take (i := 15) (v := .slice none 0 0) rfl (by kernel_rfl) (fun _ _ _ h => h) hS1 rfl (by rintro w' ⟨q0, q1, q2, q3, q4⟩; go_simp) ?_
            try simp only [Act.put, List.getElem_toArray, List.getElem_cons_zero, List.getElem_cons_succ, List.setIfInBounds_toArray, List.set_cons_zero, List.set_cons_succ]
            refine Oc.anyT_take (i := 16) (v := .int .i64 1) rfl (by kernel_rfl) (fun _ _ _ h => h) hS1 rfl (by rintro w' ⟨q0, q1, q2, q3, q4⟩; go_simp) ?_
            try simp only [Act.put, List.getElem_toArray, List.getElem_cons_zero, List.getElem_cons_succ, List.setIfInBounds_toArray, List.set_cons_zero, List.set_cons_succ]
            refine Oc.anyT_done (by kernel_rfl) ?_ _
            clear hS1
            have hq1 : (convert 31 9 (.slice none 0 0)).run Try.prog wB = .ok (.string ByteArray.empty) wB := run_convert_bytes_nil (P := Try.prog) wB 31 5 Try.underlying31 Try.underlying5 0 0 9 Try.underlying9
            go_wp2_with fail
            go_roundg (gk - 1)
            case measure => omega
            case rel => exact ⟨k + 1, by omega, by go_num, hDwB, hEwB, hBwB⟩
        · have dk : decide ((k : Int) < (len : Int)) = false := by simpa using hkl
          have dk2 : decide (k < len) = false := by simpa using hkl
          go_wp2_with fail
          refine (dwrites_any b bm _ _ hD).mono ?_
          rintro e w9 ⟨rfl, rfl⟩
          go_wp2_with fail
          go_ret
          exact ⟨by simp, hB⟩
theorem diskCuts_true (a : Option Addr) (len cap : Nat) (n : Int) (w : World) (hl : Oc.IsStructs Oc.OpLeaves w a len cap) (hn : Oc.I n) :
    Calls Try.prog 3 #[.slice a len cap, .int .i64 n] w fun e w' => e = .returned (.bool true) ∧ Below w.heap.size w w' := by
  by_cases h : 200 < len
  · exact diskCuts_low n a len cap w h
  · exact diskCuts_high n a len cap w hl hn (by omega)
end Go.Proofs.Ytnlbdmciaodohaa
