/- The walks through a write that goes through, and through a read. -/
import Derived.Test.YtnlbdmciaodohaaDiskWalks
namespace Oc
open Go Go.RowKit
set_option linter.unusedVariables false
theorem put_ok {M : Dm} (h : DmOk M) {p : Key} {v : List Int} (hi : 0 ≤ p.i ∧ p.i < 4096) (hv : v.length = 32 ∧ ∀ c ∈ v, 0 ≤ c ∧ c < 256) : DmOk (put M p v) := by
  intro x hx
  unfold put at hx
  have hp : ∀ y : Key × List Int, y = (p, v) → 0 ≤ y.1.i ∧ y.1.i < 4096 ∧ y.2.length = 32 ∧ ∀ c ∈ y.2, 0 ≤ c ∧ c < 256 := fun y e => by subst e; exact ⟨hi.1, hi.2, hv.1, hv.2⟩
  split at hx
  · rcases List.mem_or_eq_of_mem_set hx with hx | hx
    · exact h x hx
    · exact hp x hx
  · rcases List.mem_append.1 hx with hx | hx
    · exact h x hx
    · exact hp x (by simpa using hx)
theorem get_ok {M : Dm} (h : DmOk M) (p : Key) : (get M p).length = 32 ∧ ∀ c ∈ get M p, 0 ≤ c ∧ c < 256 := by
  unfold get
  rcases look_spec p M 0 with ⟨h1, _⟩ | ⟨j, v, h1, h2⟩
  · rw [h1]; unfold zeros; exact ⟨by simp, fun c hc => by obtain ⟨_, rfl⟩ := List.mem_replicate.1 hc; omega⟩
  · rw [h1]; have := h (p, v) (List.mem_of_getElem? h2); exact ⟨this.2.2.1, this.2.2.2⟩
end Oc
namespace Go.Proofs.Ytnlbdmciaodohaa
set_option linter.unusedVariables false
set_option linter.unusedSimpArgs false
open Go.RowKit
open Go.ChangeMaps (setBlock)
set_option maxHeartbeats 4000000
set_option maxRecDepth 100000 in
theorem dwrite_ok (b bm : Nat) (s : Oc.Ds) (p : Oc.Key) (a : Option Addr) (cap : Nat) (zs : List Int) (hi : 0 ≤ p.i ∧ p.i < 4096) (hout : s.out = false) (w : World) (hz : Oc.IsRow .u8 w a 32 cap zs) (hD : Oc.DkAt 54 w b bm s) (hwr : s.writes < 4611686018427387904) :
    Calls Try.prog 10 #[.pointer (some ⟨b, 0, none⟩), .agg #[.int .i64 p.k, .int .i64 p.x, .int .i64 p.z], .int .i64 p.i, .slice a 32 cap] w (WrPost b bm s p 32 (zs.take 32) w) := by
  have he : s.err p 32 = 0 := by unfold Oc.Ds.err; rw [if_neg (by omega), if_neg (by rw [hout]; simp)]
  have hs : s.write p 32 (zs.take 32) = { M := Oc.put s.M p (zs.take 32), writes := s.writes + 1, left := if 0 < s.left then s.left - 1 else s.left, out := if 0 < s.left then decide (s.left - 1 = 0) else s.out } := by unfold Oc.Ds.write; rw [he]; rfl
  have HE := Oc.hide (And.intro he hs)
  clear he hs
  obtain ⟨sb, off, rfl, hsb, hcap, hcm, hzl, hcell, hwf⟩ := hz.spot (by omega)
  have hv : (zs.take 32).length = 32 := by simp; omega
  have hvb : ∀ c ∈ zs.take 32, 0 ≤ c ∧ c < 256 := fun c hc => by
    obtain ⟨j, hj⟩ := List.mem_iff_getElem?.1 hc
    have hj32 : j < 32 := by have := (List.getElem?_eq_some_iff.1 hj).1; omega
    have := hwf j hj32
    rw [List.getElem?_take_of_lt hj32] at hj
    rw [List.getD_eq_getElem?_getD, hj, Option.getD_some] at this
    have hmin : IntKind.u8.min = 0 := rfl
    have hmax : IntKind.u8.max = 255 := rfl
    simp only [Lit.wf, Bool.and_eq_true, decide_eq_true_eq, hmin, hmax] at this
    omega
  have hrange : w.rangeAt sb off ((zs.take 32).map (Value.int .u8)) := fun j v hj => by
    rw [List.getElem?_map] at hj
    cases hq : (zs.take 32)[j]? with
    | none => rw [hq] at hj; cases hj
    | some c =>
      rw [hq] at hj; cases hj
      have hj32 : j < 32 := by have := (List.getElem?_eq_some_iff.1 hq).1; omega
      rw [hcell j hj32]
      rw [List.getElem?_take_of_lt hj32] at hq
      rw [List.getD_eq_getElem?_getD, hq]; rfl
  have hsbm : sb ≠ bm := fun e => by
    have h1 := hcell 0 (by omega)
    have h2 : w.heap[bm]? = _ := hD.map
    rw [e] at h1
    simp [World.cell?, h2] at h1
  have hok' := Oc.put_ok hD.ok hi ⟨hv, hvb⟩ (p := p)
  have HV := Oc.hide (And.intro hv hok')
  clear hcell hwf hvb hok' hv
  generalize zs.take 32 = vs at *
  obtain ⟨⟨c0, c1, c2, c3⟩, _, hb, hbm⟩ := hD.cells
  rw [hout] at c1
  have d1 : decide (p.i < 0) = false := by simp; omega
  have d2 : decide (4096 ≤ p.i) = false := by simp; omega
  obtain ⟨hi0, hi1⟩ := hi
  go_enter Try.func10, Try.ntmps10
  go_wp2
  obtain ⟨w0, hw0⟩ : ∃ w0, w0 = w.alloc (.cells #[.int .i64 p.k, .int .i64 p.x, .int .i64 p.z] 30) := ⟨_, rfl⟩
  have ht0 : Oc.Turns [] w w0 := by rw [hw0]; exact (Oc.Turns.refl [] w).alloc _
  have hD0 := hD.kept ht0 (by simp) (by simp)
  have hf0 : w0.heap[w.heap.size]? = some (.cells #[.int .i64 p.k, .int .i64 p.x, .int .i64 p.z] 30 (0, 0)) := by rw [hw0]; exact heap_alloc_new w _
  have hr0 : w0.rangeAt sb off (vs.map (Value.int .u8)) := by rw [hw0]; exact World.rangeAt_alloc hrange _
  rw [← hw0]
  clear hw0 c0 c1 c2 c3 hrange
  have hfo : Try.prog.follows .mixedOrders = true := by kernel_rfl
  obtain ⟨⟨c0, c1, c2, c3⟩, _, _, _⟩ := hD0.cells
  have g0 := cell_of_row w0 w.heap.size 0 _ _ _ hf0
  have g1 := cell_of_row w0 w.heap.size 1 _ _ _ hf0
  have g2 := cell_of_row w0 w.heap.size 2 _ _ _ hf0
  simp at g0 g1 g2
  let hSS : World → Prop := fun W' : World => W'.cell? ⟨b, 0, none⟩ = some (.map (some bm)) ∧ W'.cell? ⟨w.heap.size, 0, none⟩ = some (.int .i64 p.k) ∧ W'.cell? ⟨w.heap.size, 1, none⟩ = some (.int .i64 p.x) ∧ W'.cell? ⟨w.heap.size, 2, none⟩ = some (.int .i64 p.z) ∧ W'.rangeAt sb off (vs.map (Value.int .u8)) ∧ True
  have hS0 : hSS w0.drew := ⟨c0, g0, g1, g2, (World.rangeAt_drew _ _ _ _).2 hr0, trivial⟩
  refine Oc.wp_region_T hSS [] hfo ?_
  have har : ∀ W', (Instr.arrayAt 55 (.slice (some ⟨sb, off, none⟩) 32 cap)).run Try.prog W' = .ok (.pointer (some ⟨sb, off, none⟩)) W' := fun W' => by
    have hu := Try.underlying55
    unfold Instr.arrayAt
    simp only [Sem.run_bind, run_underlying hu, Result.andThen]
    rfl
  refine Oc.anyT_take (i := 0) (v := .pointer (some ⟨b, 0, none⟩)) rfl (by kernel_rfl) (fun _ _ _ h => h) hS0 rfl (by rintro w' ⟨q0, q1, q2, q3, q4, q5⟩; go_simp) ?_
  simp only [Act.put, List.getElem_toArray, List.getElem_cons_zero, List.getElem_cons_succ, List.setIfInBounds_toArray, List.set_cons_zero, List.set_cons_succ]
  refine Oc.anyT_take (i := 1) (v := .pointer (some ⟨b, 0, none⟩)) rfl (by kernel_rfl) (fun _ _ _ h => h) hS0 rfl (by rintro w' ⟨q0, q1, q2, q3, q4, q5⟩; go_simp) ?_
  simp only [Act.put, List.getElem_toArray, List.getElem_cons_zero, List.getElem_cons_succ, List.setIfInBounds_toArray, List.set_cons_zero, List.set_cons_succ]
  refine Oc.anyT_take (i := 2) (v := .pointer (some ⟨b, 0, none⟩)) rfl (by kernel_rfl) (fun _ _ _ h => h) hS0 rfl (by rintro w' ⟨q0, q1, q2, q3, q4, q5⟩; go_simp) ?_
  simp only [Act.put, List.getElem_toArray, List.getElem_cons_zero, List.getElem_cons_succ, List.setIfInBounds_toArray, List.set_cons_zero, List.set_cons_succ]
  refine Oc.anyT_take (i := 3) (v := .map (some bm)) rfl (by kernel_rfl) (fun _ _ _ h => h) hS0 rfl (by rintro w' ⟨q0, q1, q2, q3, q4, q5⟩; go_simp) ?_
  simp only [Act.put, List.getElem_toArray, List.getElem_cons_zero, List.getElem_cons_succ, List.setIfInBounds_toArray, List.set_cons_zero, List.set_cons_succ]
  refine Oc.anyT_take (i := 4) (v := .agg #[.int .i64 p.k, .int .i64 p.x, .int .i64 p.z]) rfl (by kernel_rfl) (fun _ _ _ h => h) hS0 rfl (by rintro w' ⟨q0, q1, q2, q3, q4, q5⟩; go_simp) ?_
  simp only [Act.put, List.getElem_toArray, List.getElem_cons_zero, List.getElem_cons_succ, List.setIfInBounds_toArray, List.set_cons_zero, List.set_cons_succ]
  refine Oc.anyT_take (i := 5) (v := .int .i64 p.i) rfl (by kernel_rfl) (fun _ _ _ h => h) hS0 rfl (by rintro w' ⟨q0, q1, q2, q3, q4, q5⟩; go_simp) ?_
  simp only [Act.put, List.getElem_toArray, List.getElem_cons_zero, List.getElem_cons_succ, List.setIfInBounds_toArray, List.set_cons_zero, List.set_cons_succ]
  refine Oc.anyT_take (i := 6) (v := .agg #[.int .i64 p.k, .int .i64 p.x, .int .i64 p.z, .int .i64 p.i]) rfl (by kernel_rfl) (fun _ _ _ h => h) hS0 rfl (by rintro w' ⟨q0, q1, q2, q3, q4, q5⟩; go_simp) ?_
  simp only [Act.put, List.getElem_toArray, List.getElem_cons_zero, List.getElem_cons_succ, List.setIfInBounds_toArray, List.set_cons_zero, List.set_cons_succ]
  refine Oc.anyT_take (i := 7) (v := .slice (some ⟨sb, off, none⟩) 32 cap) rfl (by kernel_rfl) (fun _ _ _ h => h) hS0 rfl (by rintro w' ⟨q0, q1, q2, q3, q4, q5⟩; go_simp) ?_
  simp only [Act.put, List.getElem_toArray, List.getElem_cons_zero, List.getElem_cons_succ, List.setIfInBounds_toArray, List.set_cons_zero, List.set_cons_succ]
  refine Oc.anyT_take (i := 8) (v := .pointer (some ⟨sb, off, none⟩)) rfl (by kernel_rfl) (fun _ _ _ h => h) hS0 rfl (by rintro w' ⟨q0, q1, q2, q3, q4, q5⟩; go_simp) ?_
  simp only [Act.put, List.getElem_toArray, List.getElem_cons_zero, List.getElem_cons_succ, List.setIfInBounds_toArray, List.set_cons_zero, List.set_cons_succ]
  refine Oc.anyT_takeY (i := 9) (v := Oc.encV vs) rfl (by kernel_rfl) (fun _ _ _ h => h) hS0 (yieldsIf_load_mid rfl 55 (.tmp 34) rfl sb off rfl (vs.map (Value.int .u8)) _ (fun w' q => q.2.2.2.2.1) Try.underlying55 rfl (by rw [List.length_map, (Oc.unhide HV).1]; kernel_rfl)) ?_
  try simp only [Act.put, List.getElem_toArray, List.getElem_cons_zero, List.getElem_cons_succ, List.setIfInBounds_toArray, List.set_cons_zero, List.set_cons_succ]
  refine Oc.anyT_next (i := 10) rfl (by kernel_rfl) (fun K hK => ?_)
  refine step_updateD rfl (.tmp 29) (.tmp 32) (.tmp 35) rfl bm s.M (show Oc.MapAt w0.drew bm s.M from hD0.map) p vs rfl rfl rfl ?_
  have hbn : Oc.Turns [bm] w0 (setBlock w0.drew bm (.map (Oc.ents (Oc.put s.M p vs)) (Oc.put s.M p vs).length)) := ((Oc.Turns.refl [bm] w0).drew).trans (Oc.Turns.of_some (grownBy_setBlock _ _ _) (by simp))
  refine hK _ _ (fun _ => ?_) ?_
  · have e0 := cell_of_row _ b 0 _ _ _ (hbn.kept hD0.str (by simpa using hD.ne))
    have e1 := cell_of_row _ w.heap.size 0 _ _ _ (hbn.kept hf0 (by simp; omega))
    have e2 := cell_of_row _ w.heap.size 1 _ _ _ (hbn.kept hf0 (by simp; omega))
    have e3 := cell_of_row _ w.heap.size 2 _ _ _ (hbn.kept hf0 (by simp; omega))
    simp at e0 e1 e2 e3
    refine ⟨e0, e1, e2, e3, fun j v hj => ?_, trivial⟩
    rw [World.cell?_of_block (hbn.block sb (Nat.lt_of_lt_of_le hsb ht0.size) (by simp; exact hsbm))]
    exact hr0 j v hj
  clear hK K
  refine Oc.anyT_done (by kernel_rfl) ?_ _
  obtain ⟨w1, hw1⟩ : ∃ w1, w1 = setBlock w0.drew bm (.map (Oc.ents (Oc.put s.M p vs)) (Oc.put s.M p vs).length) := ⟨_, rfl⟩
  have ht1 : Oc.Turns [bm] w0 w1 := by rw [hw1]; exact ((Oc.Turns.refl [bm] w0).drew).trans (Oc.Turns.of_some (grownBy_setBlock _ _ _) (by simp))
  have hm1 : Oc.MapAt w1 bm (Oc.put s.M p vs) := by rw [hw1]; exact setBlock_same (show bm < w0.drew.heap.size from (Array.getElem?_eq_some_iff.1 hD0.map).1)
  have hs1 := ht1.kept hD0.str (by simpa using hD.ne)
  rw [← hw1]
  clear hw1 hS0 hSS c0 c1 c2 c3 g0 g1 g2 hr0
  try simp only [Act.put, List.getElem_toArray, List.getElem_cons_zero, List.getElem_cons_succ, List.setIfInBounds_toArray, List.set_cons_zero, List.set_cons_succ]
  have c1 := cell_of_row w1 b 1 _ _ _ hs1
  have c2 := cell_of_row w1 b 2 _ _ _ hs1
  have c3 := cell_of_row w1 b 3 _ _ _ hs1
  simp at c1 c2 c3
  rw [hout] at c1
  have f1 := frozen_of_row w1 b 1 _ _ hs1
  have f2 := frozen_of_row w1 b 2 _ _ hs1
  have f3 := frozen_of_row w1 b 3 _ _ hs1
  have hw0 := hD.wr.1
  have hw9 := hD.wr.2
  have hl0 := hD.lf.1
  have hl9 := hD.lf.2
  have htw : Oc.Turns [b, bm] w w1 := (ht0.mono (by simp)).trans (ht1.mono (by simp))
  have hmb : bm ∉ [b] := by simpa using hD.ne.symm
  by_cases hl : 0 < s.left
  · have dl : decide (0 < s.left) = true := by simpa using hl
    have hfin : Oc.DkAt 54 (((w1.setCell ⟨b, 3, none⟩ (.int .i64 (s.writes + 1))).setCell ⟨b, 2, none⟩ (.int .i64 (s.left - 1))).setCell ⟨b, 1, none⟩ (.bool (s.left - 1 == 0))) b bm (s.write p 32 vs) ∧
        Oc.Turns [b, bm] w (((w1.setCell ⟨b, 3, none⟩ (.int .i64 (s.writes + 1))).setCell ⟨b, 2, none⟩ (.int .i64 (s.left - 1))).setCell ⟨b, 1, none⟩ (.bool (s.left - 1 == 0))) := by
      have k1 := heap_setCell_same w1 b 3 _ _ (.int .i64 (s.writes + 1)) hs1
      have k2 := heap_setCell_same _ b 2 _ _ (.int .i64 (s.left - 1)) k1
      have k3 := heap_setCell_same _ b 1 _ _ (.bool (s.left - 1 == 0)) k2
      have ht := (((Oc.Turns.refl [b] w1).setCell (p := ⟨b, 3, none⟩) (.inl (by simp)) (.int .i64 (s.writes + 1))).setCell (p := ⟨b, 2, none⟩) (.inl (by simp)) (.int .i64 (s.left - 1))).setCell (p := ⟨b, 1, none⟩) (.inl (by simp)) (.bool (s.left - 1 == 0))
      rw [(Oc.unhide HE).2]
      refine ⟨⟨?_, ht.kept hm1 hmb, (Oc.unhide HV).2, ?_, ?_⟩, htw.trans (ht.mono (by simp))⟩
      · rw [k3]; simp [hl]; by_cases e : s.left - 1 = 0 <;> simp [e]
      · simp [hl]; omega
      · simp; omega
    have Hfin := Oc.hide hfin
    clear hfin
    go_wp2
    go_ret
    unfold WrPost
    rw [(Oc.unhide HE).1]
    exact ⟨rfl, Oc.unhide Hfin⟩
  · have dl : decide (0 < s.left) = false := by simpa using hl
    have hfin : Oc.DkAt 54 (w1.setCell ⟨b, 3, none⟩ (.int .i64 (s.writes + 1))) b bm (s.write p 32 vs) ∧ Oc.Turns [b, bm] w (w1.setCell ⟨b, 3, none⟩ (.int .i64 (s.writes + 1))) := by
      have k1 := heap_setCell_same w1 b 3 _ _ (.int .i64 (s.writes + 1)) hs1
      have ht := (Oc.Turns.refl [b] w1).setCell (p := ⟨b, 3, none⟩) (.inl (by simp)) (.int .i64 (s.writes + 1))
      rw [(Oc.unhide HE).2]
      refine ⟨⟨?_, ht.kept hm1 hmb, (Oc.unhide HV).2, ?_, ?_⟩, htw.trans (ht.mono (by simp))⟩
      · rw [k1]; simp [hl]
      · simp [hl]; omega
      · simp; omega
    have Hfin := Oc.hide hfin
    clear hfin
    go_wp2
    go_ret
    unfold WrPost
    rw [(Oc.unhide HE).1]
    exact ⟨rfl, Oc.unhide Hfin⟩
theorem dwrite_any (b bm : Nat) (s : Oc.Ds) (p : Oc.Key) (a : Option Addr) (len cap : Nat) (zs : List Int) (hi : Oc.I p.i) (hlen : len ≤ maxLen) (w : World) (hz : Oc.IsRow .u8 w a len cap zs) (hD : Oc.DkAt 54 w b bm s) (hwr : s.writes < 4611686018427387904) :
    Calls Try.prog 10 #[.pointer (some ⟨b, 0, none⟩), .agg #[.int .i64 p.k, .int .i64 p.x, .int .i64 p.z], .int .i64 p.i, .slice a len cap] w (WrPost b bm s p len (zs.take 32) w) := by
  by_cases hbad : p.i < 0 ∨ 4096 ≤ p.i ∨ len ≠ 32
  · have := dwrite_arg b bm s p a len cap (zs.take 32) hi hlen w hD hbad
    exact this
  · obtain rfl : len = 32 := by omega
    cases hout : s.out with
    | true => exact dwrite_down b bm s p a cap (zs.take 32) (by omega) hout w hD
    | false => exact dwrite_ok b bm s p a cap zs (by omega) hout w hz hD hwr
def RdPost (b bm : Nat) (s : Oc.Ds) (p : Oc.Key) (w : World) (e : Ending) (w' : World) : Prop :=
  (s.rerr p.i = 0 ∧ ∃ nb, e = .returned (.tuple #[.slice (some ⟨nb, 0, none⟩) 32 32, .int .i64 0]) ∧ w'.heap[nb]? = some (.cells (Oc.bytesV (Oc.get s.M p)) 55 (0, 0)) ∧ w.heap.size ≤ nb ∧ w.grownBy w' none) ∨
  (s.rerr p.i ≠ 0 ∧ e = .returned (.tuple #[.slice none 0 0, .int .i64 (s.rerr p.i)]) ∧ w.grownBy w' none)
set_option maxRecDepth 100000 in
theorem dread_any (b bm : Nat) (s : Oc.Ds) (p : Oc.Key) (hi : Oc.I p.i) (w : World) (hD : Oc.DkAt 54 w b bm s) :
    Calls Try.prog 12 #[.pointer (some ⟨b, 0, none⟩), .agg #[.int .i64 p.k, .int .i64 p.x, .int .i64 p.z], .int .i64 p.i] w (RdPost b bm s p w) := by
  have hga := World.grownBy_alloc w (.cells #[.int .i64 p.k, .int .i64 p.x, .int .i64 p.z] 30) none
  obtain ⟨⟨c0, c1, c2, c3⟩, _, hb, hbm⟩ := hD.cells
  by_cases h1 : p.i < 0
  · have he : s.rerr p.i = 1 := by unfold Oc.Ds.rerr; rw [if_pos (.inl h1)]
    have d1 : decide (p.i < 0) = true := by simpa using h1
    have hpost : RdPost b bm s p w (.returned (.tuple #[.slice none 0 0, .int .i64 1])) (w.alloc (.cells #[.int .i64 p.k, .int .i64 p.x, .int .i64 p.z] 30)) := .inr ⟨by omega, by rw [he], hga⟩
    have Hpost := Oc.hide hpost
    clear hpost he
    go_enter Try.func12, Try.ntmps12
    go_wp2
    go_ret2
    exact Oc.unhide Hpost
  · have d1 : decide (p.i < 0) = false := by simpa using h1
    by_cases h2 : 4096 ≤ p.i
    · have he : s.rerr p.i = 1 := by unfold Oc.Ds.rerr; rw [if_pos (.inr h2)]
      have d2 : decide (4096 ≤ p.i) = true := by simpa using h2
      have hpost : RdPost b bm s p w (.returned (.tuple #[.slice none 0 0, .int .i64 1])) (w.alloc (.cells #[.int .i64 p.k, .int .i64 p.x, .int .i64 p.z] 30)) := .inr ⟨by omega, by rw [he], hga⟩
      have Hpost := Oc.hide hpost
      clear hpost he
      go_enter Try.func12, Try.ntmps12
      go_wp2
      go_ret2
      exact Oc.unhide Hpost
    · have d2 : decide (4096 ≤ p.i) = false := by simpa using h2
      cases hout : s.out with
      | true =>
        have he : s.rerr p.i = 8 := by unfold Oc.Ds.rerr; rw [if_neg (by omega), if_pos hout]
        rw [hout] at c1
        have hpost : RdPost b bm s p w (.returned (.tuple #[.slice none 0 0, .int .i64 8])) (w.alloc (.cells #[.int .i64 p.k, .int .i64 p.x, .int .i64 p.z] 30)) := .inr ⟨by omega, by rw [he], hga⟩
        have Hpost := Oc.hide hpost
        clear hpost he hout
        go_enter Try.func12, Try.ntmps12
        go_wp2
        go_ret2
        exact Oc.unhide Hpost
      | false =>
        have he : s.rerr p.i = 0 := by unfold Oc.Ds.rerr; rw [if_neg (by omega), if_neg (by rw [hout]; simp)]
        rw [hout] at c1
        have HE := Lib.hid he
        clear hout he
        go_enter Try.func12, Try.ntmps12
        go_wp2
        obtain ⟨w0, hw0⟩ : ∃ w0, w0 = w.alloc (.cells #[.int .i64 p.k, .int .i64 p.x, .int .i64 p.z] 30) := ⟨_, rfl⟩
        have ht0 : Oc.Turns [] w w0 := by rw [hw0]; exact (Oc.Turns.refl [] w).alloc _
        have hD0 := hD.kept ht0 (by simp) (by simp)
        have hf0 : w0.heap[w.heap.size]? = some (.cells #[.int .i64 p.k, .int .i64 p.x, .int .i64 p.z] 30 (0, 0)) := by rw [hw0]; exact heap_alloc_new w _
        rw [← hw0]
        clear hw0 c0 c1 c2 c3 hga
        have hfo : Try.prog.follows .mixedOrders = true := by kernel_rfl
        obtain ⟨⟨c0, c1, c2, c3⟩, _, _, _⟩ := hD0.cells
        have g0 := cell_of_row w0 w.heap.size 0 _ _ _ hf0
        have g1 := cell_of_row w0 w.heap.size 1 _ _ _ hf0
        have g2 := cell_of_row w0 w.heap.size 2 _ _ _ hf0
        simp at g0 g1 g2
        let hSS : World → Prop := fun W' : World => W'.cell? ⟨b, 0, none⟩ = some (.map (some bm)) ∧ W'.cell? ⟨w.heap.size, 0, none⟩ = some (.int .i64 p.k) ∧ W'.cell? ⟨w.heap.size, 1, none⟩ = some (.int .i64 p.x) ∧ W'.cell? ⟨w.heap.size, 2, none⟩ = some (.int .i64 p.z) ∧ True ∧ Oc.MapAt W' bm s.M
        have hS0 : hSS w0.drew := ⟨c0, g0, g1, g2, trivial, hD0.map⟩
        refine Oc.wp_region_T hSS [] hfo ?_
        refine Oc.anyT_take (i := 0) (v := .pointer (some ⟨b, 0, none⟩)) rfl (by kernel_rfl) (fun _ _ _ h => h) hS0 rfl (by rintro w' ⟨q0, q1, q2, q3, q4, q5⟩; go_simp) ?_
        simp only [Act.put, List.getElem_toArray, List.getElem_cons_zero, List.getElem_cons_succ, List.setIfInBounds_toArray, List.set_cons_zero, List.set_cons_succ]
        refine Oc.anyT_take (i := 1) (v := .pointer (some ⟨b, 0, none⟩)) rfl (by kernel_rfl) (fun _ _ _ h => h) hS0 rfl (by rintro w' ⟨q0, q1, q2, q3, q4, q5⟩; go_simp) ?_
        simp only [Act.put, List.getElem_toArray, List.getElem_cons_zero, List.getElem_cons_succ, List.setIfInBounds_toArray, List.set_cons_zero, List.set_cons_succ]
        refine Oc.anyT_take (i := 2) (v := .pointer (some ⟨b, 0, none⟩)) rfl (by kernel_rfl) (fun _ _ _ h => h) hS0 rfl (by rintro w' ⟨q0, q1, q2, q3, q4, q5⟩; go_simp) ?_
        simp only [Act.put, List.getElem_toArray, List.getElem_cons_zero, List.getElem_cons_succ, List.setIfInBounds_toArray, List.set_cons_zero, List.set_cons_succ]
        refine Oc.anyT_take (i := 3) (v := .map (some bm)) rfl (by kernel_rfl) (fun _ _ _ h => h) hS0 rfl (by rintro w' ⟨q0, q1, q2, q3, q4, q5⟩; go_simp) ?_
        simp only [Act.put, List.getElem_toArray, List.getElem_cons_zero, List.getElem_cons_succ, List.setIfInBounds_toArray, List.set_cons_zero, List.set_cons_succ]
        refine Oc.anyT_take (i := 4) (v := .agg #[.int .i64 p.k, .int .i64 p.x, .int .i64 p.z]) rfl (by kernel_rfl) (fun _ _ _ h => h) hS0 rfl (by rintro w' ⟨q0, q1, q2, q3, q4, q5⟩; go_simp) ?_
        simp only [Act.put, List.getElem_toArray, List.getElem_cons_zero, List.getElem_cons_succ, List.setIfInBounds_toArray, List.set_cons_zero, List.set_cons_succ]
        refine Oc.anyT_take (i := 5) (v := .int .i64 p.i) rfl (by kernel_rfl) (fun _ _ _ h => h) hS0 rfl (by rintro w' ⟨q0, q1, q2, q3, q4, q5⟩; go_simp) ?_
        simp only [Act.put, List.getElem_toArray, List.getElem_cons_zero, List.getElem_cons_succ, List.setIfInBounds_toArray, List.set_cons_zero, List.set_cons_succ]
        refine Oc.anyT_take (i := 6) (v := .agg #[.int .i64 p.k, .int .i64 p.x, .int .i64 p.z, .int .i64 p.i]) rfl (by kernel_rfl) (fun _ _ _ h => h) hS0 rfl (by rintro w' ⟨q0, q1, q2, q3, q4, q5⟩; go_simp) ?_
        simp only [Act.put, List.getElem_toArray, List.getElem_cons_zero, List.getElem_cons_succ, List.setIfInBounds_toArray, List.set_cons_zero, List.set_cons_succ]
        refine Oc.anyT_takeY (i := 7) (v := Oc.encV (Oc.get s.M p)) rfl (by kernel_rfl) (fun _ _ _ h => h) hS0 (yieldsIf_lookupD rfl (.tmp 24) (.tmp 27) rfl bm s.M p rfl rfl (fun w' q => q.2.2.2.2.2)) ?_
        try simp only [Act.put, List.getElem_toArray, List.getElem_cons_zero, List.getElem_cons_succ, List.setIfInBounds_toArray, List.set_cons_zero, List.set_cons_succ]
        have hgl := (Oc.get_ok hD.ok p).1
        have hV := Oc.hide hgl
        clear hgl
        refine Oc.anyT_next (i := 8) rfl (by kernel_rfl) (fun K hK => ?_)
        go_simp
        have hS_of : ∀ (l : List Nat) (W' : World), Oc.Turns l w0 W' → b ∉ l → bm ∉ l → w.heap.size ∉ l → hSS W' := fun l W' hT n1 n2 n3 => by
          have e0 := cell_of_row _ b 0 _ _ _ (hT.kept hD0.str n1)
          have e1 := cell_of_row _ w.heap.size 0 _ _ _ (hT.kept hf0 n3)
          have e2 := cell_of_row _ w.heap.size 1 _ _ _ (hT.kept hf0 n3)
          have e3 := cell_of_row _ w.heap.size 2 _ _ _ (hT.kept hf0 n3)
          simp at e0 e1 e2 e3
          exact ⟨e0, e1, e2, e3, trivial, hT.kept hD0.map n2⟩
        have hfl : w.heap.size < w0.heap.size := (Array.getElem?_eq_some_iff.1 hf0).1
        have hb0 := hD0.cells.2.2
        refine hK _ _ (fun _ => hS_of [] _ (((Oc.Turns.refl [] w0).alloc _).drew) (by simp) (by simp) (by simp)) ?_
        clear hK K
        generalize hw2 : World.drew _ = w2
        obtain ⟨Z, hZs, hZ⟩ : ∃ Z : Array Value, Z.size = 32 ∧ w2.heap[w0.heap.size]? = some (.cells Z 55 (0, 0)) := ⟨_, rfl, by rw [← hw2]; exact heap_alloc_new w0 _⟩
        have ht2 : Oc.Turns [] w0 w2 := by rw [← hw2]; exact ((Oc.Turns.refl [] w0).alloc _).drew
        clear hw2
        try simp only [Act.put, List.getElem_toArray, List.getElem_cons_zero, List.getElem_cons_succ, List.setIfInBounds_toArray, List.set_cons_zero, List.set_cons_succ]
        refine Oc.anyT_next (i := 9) rfl (by kernel_rfl) (fun K hK => ?_)
        refine Oc.step_wp rfl ?_
        have hl32 : ((Oc.get s.M p).map (Value.int .u8)).toArray.size = 32 := by simp [Oc.unhide hV]
        refine wp_store_mid 55 (.tmp 8) (.tmp 28) rfl w0.heap.size 0 ((Oc.get s.M p).map (Value.int .u8)).toArray rfl rfl ?_ ?_ ?_ ?_
        · intro j hj
          rw [hl32] at hj
          refine ⟨?_, frozen_of_row w2 _ _ _ _ hZ⟩
          rw [cell_of_row w2 _ _ _ _ _ hZ]
          simp; omega
        · rw [hl32]; kernel_rfl
        · simp [Value.oneCell']
        have ht3 : Oc.Turns [w0.heap.size] w0 (w2.setCells w0.heap.size 0 ((Oc.get s.M p).map (Value.int .u8)).toArray.toList) := Oc.Turns.setCells (by simp) _ _ _ (ht2.mono (by simp))
        have hblk := Oc.setCells_block ((Oc.get s.M p).map (Value.int .u8)).toArray.toList w2 w0.heap.size 0 Z 55 hZ
        rw [Oc.over_all _ _ (by rw [hZs]; simpa using hl32)] at hblk
        refine hK _ _ (fun _ => hS_of _ _ ht3 (by simp; omega) (by simp; omega) (by simp; omega)) ?_
        clear hK K
        generalize hw3 : w2.setCells w0.heap.size 0 ((Oc.get s.M p).map (Value.int .u8)).toArray.toList = w3 at ht3 hblk
        clear hw3
        try simp only [Act.put, List.getElem_toArray, List.getElem_cons_zero, List.getElem_cons_succ, List.setIfInBounds_toArray, List.set_cons_zero, List.set_cons_succ]
        refine Oc.anyT_done (by kernel_rfl) ?_ _
        go_wp2
        go_ret2
        refine .inl ⟨HE.out, w0.heap.size, rfl, by simpa [Oc.bytesV] using hblk, ht0.size, ?_⟩
        exact ⟨ht3.os.trans ht0.os, ht3.tape.trans ht0.tape, ht3.output.trans ht0.output, Nat.le_trans ht0.size ht3.size, fun k hk _ => (ht3.block k (Nat.lt_of_lt_of_le hk ht0.size) (by simp; have := ht0.size; omega)).trans (ht0.block k hk (by simp))⟩
end Go.Proofs.Ytnlbdmciaodohaa
