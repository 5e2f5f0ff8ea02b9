/- The chapter's examples. -/
import Derived.Test.YtnlbdmciaodohaaDiskLen
import Derived.Laws.BytesArg
namespace Oc
open Go Go.RowKit
set_option linter.unusedVariables false
/-- A block of bytes, whole. -/
def Blk (w : World) (nb T : Nat) (vs : List Int) : Prop := w.heap[nb]? = some (.cells (bytesV vs) T (0, 0))
theorem Blk.kept {w w' : World} {nb T : Nat} {vs : List Int} {l : List Nat} (h : Blk w nb T vs) (ht : Turns l w w') (hn : nb ∉ l) : Blk w' nb T vs := ht.kept h hn
theorem Blk.cell {w : World} {nb T : Nat} {vs : List Int} (h : Blk w nb T vs) {k : Nat} (hk : k < vs.length) : w.cell? ⟨nb, k, none⟩ = some (.int .u8 (vs.getD k 0)) := by
  rw [cell_of_row w nb k _ _ _ h]
  refine bytesV_get ?_
  rw [List.getElem?_eq_getElem hk, List.getD_eq_getElem?_getD, List.getElem?_eq_getElem hk]; rfl
theorem Blk.isRow {w : World} {nb T : Nat} {vs : List Int} (h : Blk w nb T vs) (hv : ∀ c ∈ vs, 0 ≤ c ∧ c < 256) (hl : vs.length ≤ maxLen) : IsRow .u8 w (some ⟨nb, 0, none⟩) vs.length vs.length vs :=
  .inr ⟨⟨nb, 0, none⟩, rfl, Nat.le_refl _, hl, rfl, fun i hi => by
    rw [show (⟨nb, 0, none⟩ : Addr).add i = ⟨nb, i, none⟩ by unfold Addr.add; split <;> simp_all]
    exact h.cell hi, fun n hn => by
    have hmin : IntKind.u8.min = 0 := rfl
    have hmax : IntKind.u8.max = 255 := rfl
    have := hv n hn
    simp only [Lit.wf, Bool.and_eq_true, decide_eq_true_eq, hmin, hmax]
    omega⟩
/-- A row being filled. -/
def fillRow (c : Int) (k : Nat) : List Int := List.replicate k c ++ List.replicate (32 - k) 0
theorem fillRow_set (c : Int) (k : Nat) (h : k < 32) : (bytesV (fillRow c k)).setIfInBounds k (.int .u8 c) = bytesV (fillRow c (k + 1)) := by
  apply Array.ext'
  simp only [bytesV, List.setIfInBounds_toArray]
  rw [← List.map_set]
  congr 1
  unfold fillRow
  apply List.ext_getElem?
  intro i
  rw [List.getElem?_set]
  simp only [List.getElem?_append, List.length_replicate, List.getElem?_replicate, List.length_append]
  repeat' split
  all_goals first | rfl | (exfalso; omega)
theorem run_stringOf {P : Program} {w : World} {nb T : Nat} {vs : List Int} (h : Blk w nb T vs) (src e dst : TypeId) (hs : P.underlying src = some (.slice e)) (he : P.underlying e = some (.int .u8)) (hd : P.underlying dst = some .string) (cap : Nat) :
    (convert src dst (.slice (some ⟨nb, 0, none⟩) vs.length cap)).run P w = .ok (.string (strOfNums vs)) w :=
  run_convert_bytes_arg w src e hs he nb 0 vs.length cap vs rfl (fun i hi => by rw [Nat.zero_add]; exact h.cell hi) dst hd
end Oc
namespace Go.Proofs.Ytnlbdmciaodohaa
set_option linter.unusedVariables false
set_option linter.unusedSimpArgs false
open Go.RowKit
set_option maxHeartbeats 4000000
theorem run_bytes32 (w : World) : (Instr.makeSlice 31 (.int .i64 32) (.int .i64 32)).run Try.prog w = .ok (.slice (some ⟨w.heap.size, 0, none⟩) 32 32) (w.alloc (.cells (Oc.bytesV (List.replicate 32 0)) 5)) := by
  have infoI : (Try.prog.info? 5).map (fun i => (i.zero, i.size, i.bytes)) = some (some (.int .u8 0), 1, 1) := by kernel_rfl
  obtain ⟨i0, hi, hz0, hz1, hz2⟩ := info_parts infoI
  rw [run_make w 31 5 i0 (.int .u8 0) Try.underlying31 hi hz0 .i64 .i64 32 32 (by omega) (by omega) (by rw [hz2]; omega) (by omega), hz1]
  have : ∀ n : Nat, madeCells (Value.int .u8 0).cells n = Oc.bytesV (List.replicate n 0) := fun n => by
    unfold madeCells Oc.bytesV
    apply Array.ext'
    apply List.ext_getElem?
    intro i
    simp [Value.cells]
    by_cases h : i < n
    · simp [h]
      rw [Nat.mod_one]; rfl
    · simp [h]
  rw [show Int.toNat 32 * 1 = 32 from rfl, this]
  rfl
theorem run_string32 {w : World} {nb T : Nat} {R : List Int} (h : Oc.Blk w nb T R) (hR : R.length = 32) : (convert 31 9 (.slice (some ⟨nb, 0, none⟩) 32 32)).run Try.prog w = .ok (.string (strOfNums R)) w := by
  have h1 := Oc.run_stringOf (P := Try.prog) h 31 5 9 Try.underlying31 Try.underlying5 Try.underlying9 32
  rw [hR] at h1
  exact h1
theorem block_any (c : Int) (hc : 0 ≤ c ∧ c < 256) (w : World) : Calls Try.prog 22 #[.int .u8 c] w fun e w' => ∃ nb, e = .returned (.slice (some ⟨nb, 0, none⟩) 32 32) ∧ Oc.Blk w' nb 5 (List.replicate 32 c) ∧ w.heap.size ≤ nb ∧ w.grownBy w' none := by
  go_enter Try.func22, Try.ntmps22
  have hmk := run_bytes32 w
  simp only [show (List.replicate 32 (0:Int)) = Oc.fillRow c 0 from rfl] at hmk
  go_wp2
  generalize hw1 : World.alloc w _ = w1
  have hb1 : w1.heap[w.heap.size]? = some (.cells (Oc.bytesV (Oc.fillRow c 0)) 5 (0, 0)) := by rw [← hw1]; exact heap_alloc_new w _
  have ht1 : Oc.Turns [] w w1 := by rw [← hw1]; exact (Oc.Turns.refl [] w).alloc _
  clear hw1
  go_loopw [4] (fun i wr => ∃ k : Nat, k ≤ 32 ∧ i = .int .i64 k ∧ wr.heap[w.heap.size]? = some (.cells (Oc.bytesV (Oc.fillRow c k)) 5 (0, 0)) ∧ Oc.Turns [w.heap.size] w wr) (fun i _ => 32 - (intOf i).toNat)
  case atStart => exact ⟨0, by omega, rfl, hb1, ht1.mono (by simp)⟩
  case round =>
    clear hb1 ht1
    obtain ⟨k, hk, rfl, hrow, htr⟩ := hrel
    by_cases hlt : k < 32
    · have dk : decide ((k : Int) < 32) = true := by simp; omega
      have hset := heap_setCell_same wr w.heap.size k _ _ (.int .u8 c) hrow
      rw [Oc.fillRow_set c k hlt] at hset
      have Hset := Oc.hide hset
      have htr' := htr.setCell (p := ⟨w.heap.size, k, none⟩) (.inl (by simp)) (.int .u8 c)
      obtain ⟨o, ho⟩ : ∃ o, (Oc.fillRow c k)[k]? = some o := ⟨_, List.getElem?_eq_getElem (by simp [Oc.fillRow]; omega)⟩
      have rc : wr.cell? ⟨w.heap.size, k, none⟩ = some (.int .u8 o) := by rw [cell_of_row wr _ k _ _ _ hrow]; exact Oc.bytesV_get ho
      have rf := frozen_of_row wr w.heap.size k _ _ hrow
      clear hset hrow ho htr
      go_wp2
      go_roundw
      case rel => exact ⟨k + 1, by omega, by go_num, Oc.unhide Hset, htr'⟩
      case measure => simp [intOf]; omega
    · obtain rfl : k = 32 := by omega
      go_wp2
      go_ret
      exact ⟨w.heap.size, rfl, by have h := hrow; simp only [Oc.fillRow, Nat.sub_self, List.replicate_zero, List.append_nil] at h; exact h, Nat.le_refl _, htr.os, htr.tape, htr.output, htr.size, fun j hj _ => htr.block j hj (by simp; omega)⟩
set_option maxRecDepth 100000 in
theorem awake_any (w : World) : Calls Try.prog 7 #[] w fun e w' => e = .returned (.bool true) ∧ Below w.heap.size w w' := by
  go_enter Try.func7, Try.ntmps7
  go_wp2_with fail
  refine (dnew_any _).mono ?_
  rintro e w1 ⟨b, bm, rfl, hD1, hb, hbm, hg1⟩
  have hB1 : Below w.heap.size w w1 := (Below.refl _ w).grown hg1 (Nat.le_refl _) fun r e => nomatch e
  go_wp2_with fail
  generalize hw2 : World.alloc w1 _ = w2
  have hf2 : w2.heap[w1.heap.size]? = some (.cells #[.int .i64 2, .int .i64 0, .int .i64 0] 30 (0, 0)) := by rw [← hw2]; exact heap_alloc_new w1 _
  have ht2 : Oc.Turns [] w1 w2 := by rw [← hw2]; exact (Oc.Turns.refl [] w1).alloc _
  have hD2 := hD1.kept ht2 (by simp) (by simp)
  have hB2 := ht2.below hB1 hB1.size (by simp)
  obtain ⟨fb, hfb⟩ : ∃ fb, fb = w1.heap.size := ⟨_, rfl⟩
  have hbf : b ≠ fb ∧ bm ≠ fb := by have := hD1.cells.2.2; omega
  rw [← hfb] at hf2 ⊢
  have hfw : fb < w2.heap.size := (Array.getElem?_eq_some_iff.1 hf2).1
  clear hw2 hD1 hB1 ht2 hg1 hfb
  have hfo : Try.prog.follows .mixedOrders = true := by kernel_rfl
  have hcells : ∀ W : World, W.heap[fb]? = some (.cells #[.int .i64 2, .int .i64 0, .int .i64 0] 30 (0, 0)) → W.cell? ⟨fb, 0, none⟩ = some (.int .i64 2) ∧ W.cell? ⟨fb, 1, none⟩ = some (.int .i64 0) ∧ W.cell? ⟨fb, 2, none⟩ = some (.int .i64 0) := fun W hW => by
    have e0 := cell_of_row W fb 0 _ _ _ hW
    have e1 := cell_of_row W fb 1 _ _ _ hW
    have e2 := cell_of_row W fb 2 _ _ _ hW
    simp at e0 e1 e2
    exact ⟨e0, e1, e2⟩
  have Hcells := @Oc.hide _ hcells
  clear hcells
  let hSS : World → Prop := fun W' : World => W'.cell? ⟨fb, 0, none⟩ = some (.int .i64 2) ∧ W'.cell? ⟨fb, 1, none⟩ = some (.int .i64 0) ∧ W'.cell? ⟨fb, 2, none⟩ = some (.int .i64 0)
  have hS0 : hSS w2.drew := Oc.unhide Hcells w2.drew hf2
  refine Oc.wp_region_T hSS [] hfo ?_
  refine Oc.anyT_take (i := 0) (v := .pointer (some ⟨b, 0, none⟩)) rfl (by kernel_rfl) (fun _ _ _ h => h) hS0 rfl (by rintro w' ⟨q0, q1, q2⟩; go_simp) ?_
  try simp only [Act.put, List.getElem_toArray, List.getElem_cons_zero, List.getElem_cons_succ, List.setIfInBounds_toArray, List.set_cons_zero, List.set_cons_succ]
  refine Oc.anyT_take (i := 1) (v := .agg #[.int .i64 2, .int .i64 0, .int .i64 0]) rfl (by kernel_rfl) (fun _ _ _ h => h) hS0 rfl (by rintro w' ⟨q0, q1, q2⟩; go_simp) ?_
  try simp only [Act.put, List.getElem_toArray, List.getElem_cons_zero, List.getElem_cons_succ, List.setIfInBounds_toArray, List.set_cons_zero, List.set_cons_succ]
  refine Oc.anyT_next (i := 2) rfl (by kernel_rfl) (fun K hK => ?_)
  go_simp
  refine (block_any 1 (by decide) _).mono ?_
  rintro e w2a ⟨nb2, rfl, hbl, hnb, hga⟩
  have hta : Oc.Turns [] w2 w2a := ((Oc.Turns.refl [] w2).drew).trans (Oc.Turns.of_none hga)
  have hfa := hta.kept hf2 (by simp)
  have hDa := hD2.kept hta (by simp) (by simp)
  have hBa := hta.below hB2 hB2.size (by simp)
  have hrow := hbl.isRow (by simp; try decide) (by unfold maxLen; simp)
  simp only [List.length_replicate] at hrow
  refine hK _ _ (fun _ => Oc.unhide Hcells _ hfa) ?_
  clear hK K
  try simp only [Act.put, List.getElem_toArray, List.getElem_cons_zero, List.getElem_cons_succ, List.setIfInBounds_toArray, List.set_cons_zero, List.set_cons_succ]
  refine Oc.anyT_next (i := 3) rfl (by kernel_rfl) (fun K hK => ?_)
  go_simp
  refine (dwrite_any b bm _ ⟨2, 0, 0, 3⟩ _ 32 32 _ (by unfold Oc.I; decide) (by unfold maxLen; decide) _ hrow hDa (by decide)).mono ?_
  rintro e w3 ⟨rfl, hD3, htb⟩
  replace hD3 : Oc.DkAt 54 w3 b bm ⟨[(⟨2, 0, 0, 3⟩, (List.replicate 32 1))], false, -1, 1⟩ := hD3
  have hf3 := htb.kept hfa (by simp; omega)
  have hB3 := htb.below hBa hBa.size (by simp; omega)
  rw [show (Oc.Ds.err Oc.Ds.new ⟨2, 0, 0, 3⟩ 32) = 0 from rfl]
  refine hK _ _ (fun _ => Oc.unhide Hcells _ hf3) ?_
  clear hK K hta hfa hDa hBa hrow htb hbl hga hnb hS0
  try simp only [Act.put, List.getElem_toArray, List.getElem_cons_zero, List.getElem_cons_succ, List.setIfInBounds_toArray, List.set_cons_zero, List.set_cons_succ]
  refine Oc.anyT_next (i := 4) rfl (by kernel_rfl) (fun K hK => ?_)
  go_simp
  refine hK _ _ (fun _ => Oc.unhide Hcells _ hf3) ?_
  clear hK K
  refine Oc.anyT_done (by kernel_rfl) ?_ _
  have hc3 := Oc.unhide Hcells w3 hf3
  obtain ⟨x0, x1, x2⟩ := hc3
  go_wp2_with fail
  refine (dlen_any b bm _ ⟨2, 0, 0, 0⟩ _ hD3).mono ?_
  rintro e w4 ⟨n4, rfl, hn4, hg4⟩
  have ht4 : Oc.Turns [] w3 w4 := Oc.Turns.of_none hg4
  obtain rfl : n4 = 4 := hn4.one ⟨fun x hx hf => by simp at hx; subst hx; decide, .inr ⟨_, List.mem_singleton.2 rfl, by decide, by decide⟩, by decide, by decide⟩
  have hD4 := hD3.kept ht4 (by simp) (by simp)
  have hf4 := ht4.kept hf3 (by simp)
  have hB4 := ht4.below hB3 hB3.size (by simp)
  clear ht4 hg4 hn4 hD3 hf3 hB3 x0 x1 x2
  go_wp2_with fail
  refine (dcut_any b bm _ 1 (by unfold Oc.I; omega) _ hD4).mono ?_
  rintro e w5 ⟨rfl, hD5, ht5⟩
  replace hD5 : Oc.DkAt 54 w5 b bm ⟨[(⟨2, 0, 0, 3⟩, (List.replicate 32 1))], false, 1, 1⟩ := hD5
  have hf5 := ht5.kept hf4 (by simp; omega)
  have hB5 := ht5.below hB4 hB4.size (by simp; omega)
  clear ht5 hD4 hf4 hB4
  go_wp2_with fail
  have hS0 : hSS w5.drew := Oc.unhide Hcells w5.drew hf5
  refine Oc.wp_region_T hSS [] hfo ?_
  refine Oc.anyT_take (i := 0) (v := .pointer (some ⟨b, 0, none⟩)) rfl (by kernel_rfl) (fun _ _ _ h => h) hS0 rfl (by rintro w' ⟨q0, q1, q2⟩; go_simp) ?_
  try simp only [Act.put, List.getElem_toArray, List.getElem_cons_zero, List.getElem_cons_succ, List.setIfInBounds_toArray, List.set_cons_zero, List.set_cons_succ]
  refine Oc.anyT_take (i := 1) (v := .agg #[.int .i64 2, .int .i64 0, .int .i64 0]) rfl (by kernel_rfl) (fun _ _ _ h => h) hS0 rfl (by rintro w' ⟨q0, q1, q2⟩; go_simp) ?_
  try simp only [Act.put, List.getElem_toArray, List.getElem_cons_zero, List.getElem_cons_succ, List.setIfInBounds_toArray, List.set_cons_zero, List.set_cons_succ]
  refine Oc.anyT_next (i := 2) rfl (by kernel_rfl) (fun K hK => ?_)
  go_simp
  refine (block_any 2 (by decide) _).mono ?_
  rintro e w5a ⟨nb5, rfl, hbl, hnb, hga⟩
  have hta : Oc.Turns [] w5 w5a := ((Oc.Turns.refl [] w5).drew).trans (Oc.Turns.of_none hga)
  have hfa := hta.kept hf5 (by simp)
  have hDa := hD5.kept hta (by simp) (by simp)
  have hBa := hta.below hB5 hB5.size (by simp)
  have hrow := hbl.isRow (by simp; try decide) (by unfold maxLen; simp)
  simp only [List.length_replicate] at hrow
  refine hK _ _ (fun _ => Oc.unhide Hcells _ hfa) ?_
  clear hK K
  try simp only [Act.put, List.getElem_toArray, List.getElem_cons_zero, List.getElem_cons_succ, List.setIfInBounds_toArray, List.set_cons_zero, List.set_cons_succ]
  refine Oc.anyT_next (i := 3) rfl (by kernel_rfl) (fun K hK => ?_)
  go_simp
  refine (dwrite_any b bm _ ⟨2, 0, 0, 3⟩ _ 32 32 _ (by unfold Oc.I; decide) (by unfold maxLen; decide) _ hrow hDa (by decide)).mono ?_
  rintro e w6 ⟨rfl, hD6, htb⟩
  replace hD6 : Oc.DkAt 54 w6 b bm ⟨[(⟨2, 0, 0, 3⟩, (List.replicate 32 2))], true, 0, 2⟩ := hD6
  have hf6 := htb.kept hfa (by simp; omega)
  have hB6 := htb.below hBa hBa.size (by simp; omega)
  rw [show (Oc.Ds.err ⟨[(⟨2, 0, 0, 3⟩, (List.replicate 32 1))], false, 1, 1⟩ ⟨2, 0, 0, 3⟩ 32) = 0 from rfl]
  refine hK _ _ (fun _ => Oc.unhide Hcells _ hf6) ?_
  clear hK K hta hfa hDa hBa hrow htb hbl hga hnb hS0
  try simp only [Act.put, List.getElem_toArray, List.getElem_cons_zero, List.getElem_cons_succ, List.setIfInBounds_toArray, List.set_cons_zero, List.set_cons_succ]
  refine Oc.anyT_next (i := 4) rfl (by kernel_rfl) (fun K hK => ?_)
  go_simp
  refine hK _ _ (fun _ => Oc.unhide Hcells _ hf6) ?_
  clear hK K
  refine Oc.anyT_done (by kernel_rfl) ?_ _
  go_wp2_with fail
  refine (don_any b bm _ _ hD6).mono ?_
  rintro e w6' ⟨rfl, rfl⟩
  go_wp2_with fail
  have hS0 : hSS w6.drew := Oc.unhide Hcells w6.drew hf6
  refine Oc.wp_region_T hSS [] hfo ?_
  refine Oc.anyT_take (i := 0) (v := .pointer (some ⟨b, 0, none⟩)) rfl (by kernel_rfl) (fun _ _ _ h => h) hS0 rfl (by rintro w' ⟨q0, q1, q2⟩; go_simp) ?_
  try simp only [Act.put, List.getElem_toArray, List.getElem_cons_zero, List.getElem_cons_succ, List.setIfInBounds_toArray, List.set_cons_zero, List.set_cons_succ]
  refine Oc.anyT_take (i := 1) (v := .agg #[.int .i64 2, .int .i64 0, .int .i64 0]) rfl (by kernel_rfl) (fun _ _ _ h => h) hS0 rfl (by rintro w' ⟨q0, q1, q2⟩; go_simp) ?_
  try simp only [Act.put, List.getElem_toArray, List.getElem_cons_zero, List.getElem_cons_succ, List.setIfInBounds_toArray, List.set_cons_zero, List.set_cons_succ]
  refine Oc.anyT_next (i := 2) rfl (by kernel_rfl) (fun K hK => ?_)
  go_simp
  refine (block_any 3 (by decide) _).mono ?_
  rintro e w6a ⟨nb6, rfl, hbl, hnb, hga⟩
  have hta : Oc.Turns [] w6 w6a := ((Oc.Turns.refl [] w6).drew).trans (Oc.Turns.of_none hga)
  have hfa := hta.kept hf6 (by simp)
  have hDa := hD6.kept hta (by simp) (by simp)
  have hBa := hta.below hB6 hB6.size (by simp)
  have hrow := hbl.isRow (by simp; try decide) (by unfold maxLen; simp)
  simp only [List.length_replicate] at hrow
  refine hK _ _ (fun _ => Oc.unhide Hcells _ hfa) ?_
  clear hK K
  try simp only [Act.put, List.getElem_toArray, List.getElem_cons_zero, List.getElem_cons_succ, List.setIfInBounds_toArray, List.set_cons_zero, List.set_cons_succ]
  refine Oc.anyT_next (i := 3) rfl (by kernel_rfl) (fun K hK => ?_)
  go_simp
  refine (dwrite_any b bm _ ⟨2, 0, 0, 3⟩ _ 32 32 _ (by unfold Oc.I; decide) (by unfold maxLen; decide) _ hrow hDa (by decide)).mono ?_
  rintro e w7 ⟨rfl, hD7, htb⟩
  replace hD7 : Oc.DkAt 54 w7 b bm ⟨[(⟨2, 0, 0, 3⟩, (List.replicate 32 2))], true, 0, 2⟩ := hD7
  have hf7 := htb.kept hfa (by simp; omega)
  have hB7 := htb.below hBa hBa.size (by simp; omega)
  rw [show (Oc.Ds.err ⟨[(⟨2, 0, 0, 3⟩, (List.replicate 32 2))], true, 0, 2⟩ ⟨2, 0, 0, 3⟩ 32) = 8 from rfl]
  refine hK _ _ (fun _ => Oc.unhide Hcells _ hf7) ?_
  clear hK K hta hfa hDa hBa hrow htb hbl hga hnb hS0
  try simp only [Act.put, List.getElem_toArray, List.getElem_cons_zero, List.getElem_cons_succ, List.setIfInBounds_toArray, List.set_cons_zero, List.set_cons_succ]
  refine Oc.anyT_next (i := 4) rfl (by kernel_rfl) (fun K hK => ?_)
  go_simp
  refine hK _ _ (fun _ => Oc.unhide Hcells _ hf7) ?_
  clear hK K
  refine Oc.anyT_done (by kernel_rfl) ?_ _
  have hc7 := Oc.unhide Hcells w7 hf7
  obtain ⟨x0, x1, x2⟩ := hc7
  go_wp2_with fail
  refine (dread_any b bm _ ⟨2, 0, 0, 3⟩ (by unfold Oc.I; decide) _ hD7).mono ?_
  rintro e w8 (⟨h0, _⟩ | ⟨_, rfl, hg8⟩)
  · exact absurd h0 (by decide)
  have ht8 : Oc.Turns [] w7 w8 := Oc.Turns.of_none hg8
  have hD8 := hD7.kept ht8 (by simp) (by simp)
  have hf8 := ht8.kept hf7 (by simp)
  have hB8 := ht8.below hB7 hB7.size (by simp)
  rw [show Oc.Ds.rerr ⟨[(⟨2, 0, 0, 3⟩, (List.replicate 32 2))], true, 0, 2⟩ 3 = 8 from rfl]
  clear ht8 hg8 hD7 hf7 hB7 x0 x1 x2
  go_wp2_with fail
  refine (dup_any b bm _ _ hD8).mono ?_
  rintro e w9 ⟨rfl, hD9, ht9⟩
  replace hD9 : Oc.DkAt 54 w9 b bm ⟨[(⟨2, 0, 0, 3⟩, (List.replicate 32 2))], false, -1, 2⟩ := hD9
  have hf9 := ht9.kept hf8 (by simp; omega)
  have hB9 := ht9.below hB8 hB8.size (by simp; omega)
  clear ht9 hD8 hf8 hB8
  have hc9 := Oc.unhide Hcells w9 hf9
  obtain ⟨x0, x1, x2⟩ := hc9
  go_wp2_with fail
  refine (dread_any b bm _ ⟨2, 0, 0, 3⟩ (by unfold Oc.I; decide) _ hD9).mono ?_
  rintro e wA (⟨_, nb, rfl, hblk, hnb, hgA⟩ | ⟨h0, _⟩)
  case inr => exact absurd (show Oc.Ds.rerr ⟨[(⟨2, 0, 0, 3⟩, (List.replicate 32 2))], false, -1, 2⟩ 3 = 0 from rfl) h0
  replace hblk : Oc.Blk wA nb 55 (List.replicate 32 2) := hblk
  have htA : Oc.Turns [] w9 wA := Oc.Turns.of_none hgA
  have hDA := hD9.kept htA (by simp) (by simp)
  have hBA := htA.below hB9 hB9.size (by simp)
  clear htA hgA hD9 hf9 hB9 x0 x1 x2 hnb Hcells
  go_wp2_with fail
  obtain ⟨R, hR⟩ : ∃ r, r = List.replicate 32 (2 : Int) := ⟨_, rfl⟩
  have hRl : R.length = 32 := by rw [hR]; rfl
  rw [← hR] at hblk
  let hSS2 : World → Prop := fun W' : World => Oc.Blk W' nb 55 R
  have hS0 : hSS2 wA.drew := hblk
  refine Oc.wp_region_T hSS2 [] hfo ?_
  refine Oc.anyT_take (i := 0) (v := .int .i64 0) rfl (by kernel_rfl) (fun _ _ _ h => h) hS0 rfl (by rintro w' q0; go_simp) ?_
  try simp only [Act.put, List.getElem_toArray, List.getElem_cons_zero, List.getElem_cons_succ, List.setIfInBounds_toArray, List.set_cons_zero, List.set_cons_succ]
  refine Oc.anyT_take (i := 1) (v := .bool true) rfl (by kernel_rfl) (fun _ _ _ h => h) hS0 rfl (by rintro w' q0; go_simp) ?_
  try simp only [Act.put, List.getElem_toArray, List.getElem_cons_zero, List.getElem_cons_succ, List.setIfInBounds_toArray, List.set_cons_zero, List.set_cons_succ]
  refine Oc.anyT_take (i := 2) (v := .bool true) rfl (by kernel_rfl) (fun _ _ _ h => h) hS0 rfl (by rintro w' q0; go_simp) ?_
  try simp only [Act.put, List.getElem_toArray, List.getElem_cons_zero, List.getElem_cons_succ, List.setIfInBounds_toArray, List.set_cons_zero, List.set_cons_succ]
  refine Oc.anyT_take (i := 3) (v := .int .i64 4) rfl (by kernel_rfl) (fun _ _ _ h => h) hS0 rfl (by rintro w' q0; go_simp) ?_
  try simp only [Act.put, List.getElem_toArray, List.getElem_cons_zero, List.getElem_cons_succ, List.setIfInBounds_toArray, List.set_cons_zero, List.set_cons_succ]
  refine Oc.anyT_take (i := 4) (v := .bool true) rfl (by kernel_rfl) (fun _ _ _ h => h) hS0 rfl (by rintro w' q0; go_simp) ?_
  try simp only [Act.put, List.getElem_toArray, List.getElem_cons_zero, List.getElem_cons_succ, List.setIfInBounds_toArray, List.set_cons_zero, List.set_cons_succ]
  refine Oc.anyT_take (i := 5) (v := .bool true) rfl (by kernel_rfl) (fun _ _ _ h => h) hS0 rfl (by rintro w' q0; go_simp) ?_
  try simp only [Act.put, List.getElem_toArray, List.getElem_cons_zero, List.getElem_cons_succ, List.setIfInBounds_toArray, List.set_cons_zero, List.set_cons_succ]
  refine Oc.anyT_take (i := 6) (v := .bool true) rfl (by kernel_rfl) (fun _ _ _ h => h) hS0 rfl (by rintro w' q0; go_simp) ?_
  try simp only [Act.put, List.getElem_toArray, List.getElem_cons_zero, List.getElem_cons_succ, List.setIfInBounds_toArray, List.set_cons_zero, List.set_cons_succ]
  refine Oc.anyT_take (i := 7) (v := .pointer (some ⟨b, 0, none⟩)) rfl (by kernel_rfl) (fun _ _ _ h => h) hS0 rfl (by rintro w' q0; go_simp) ?_
  try simp only [Act.put, List.getElem_toArray, List.getElem_cons_zero, List.getElem_cons_succ, List.setIfInBounds_toArray, List.set_cons_zero, List.set_cons_succ]
  refine Oc.anyT_take (i := 8) (v := .agg #[.int .i64 3, .int .i64 0, .int .i64 0]) rfl (by kernel_rfl) (fun _ _ _ h => h) hS0 rfl (by rintro w' q0; go_simp) ?_
  try simp only [Act.put, List.getElem_toArray, List.getElem_cons_zero, List.getElem_cons_succ, List.setIfInBounds_toArray, List.set_cons_zero, List.set_cons_succ]
  refine Oc.anyT_next (i := 9) rfl (by kernel_rfl) (fun K hK => ?_)
  go_simp
  refine (dlen_any b bm _ ⟨3, 0, 0, 0⟩ _ (hDA.kept ((Oc.Turns.refl [] wA).drew) (by simp) (by simp))).mono ?_
  rintro e wB ⟨nB, rfl, hnB, hgB⟩
  have htB : Oc.Turns [] wA wB := ((Oc.Turns.refl [] wA).drew).trans (Oc.Turns.of_none hgB)
  obtain rfl : nB = 0 := hnB.one ⟨fun x hx hf => by simp at hx; subst hx; exact absurd hf (by decide), .inl rfl, by decide, by decide⟩
  have hDB := hDA.kept htB (by simp) (by simp)
  have hBB := htB.below hBA hBA.size (by simp)
  have hS1 : hSS2 wB := hblk.kept htB (by simp)
  refine hK _ _ (fun _ => hS1) ?_
  clear hK K hgB hnB htB hDA hBA hS0
  try simp only [Act.put, List.getElem_toArray, List.getElem_cons_zero, List.getElem_cons_succ, List.setIfInBounds_toArray, List.set_cons_zero, List.set_cons_succ]
  refine Oc.anyT_take (i := 10) (v := .bool true) rfl (by kernel_rfl) (fun _ _ _ h => h) hS1 rfl (by rintro w' q0; go_simp) ?_
  try simp only [Act.put, List.getElem_toArray, List.getElem_cons_zero, List.getElem_cons_succ, List.setIfInBounds_toArray, List.set_cons_zero, List.set_cons_succ]
  refine Oc.anyT_take (i := 11) (v := .bool true) rfl (by kernel_rfl) (fun _ _ _ h => h) hS1 rfl (by rintro w' q0; go_simp) ?_
  try simp only [Act.put, List.getElem_toArray, List.getElem_cons_zero, List.getElem_cons_succ, List.setIfInBounds_toArray, List.set_cons_zero, List.set_cons_succ]
  refine Oc.anyT_take (i := 12) (v := .bool true) rfl (by kernel_rfl) (fun _ _ _ h => h) hS1 rfl (by rintro w' q0; go_simp) ?_
  try simp only [Act.put, List.getElem_toArray, List.getElem_cons_zero, List.getElem_cons_succ, List.setIfInBounds_toArray, List.set_cons_zero, List.set_cons_succ]
  refine Oc.anyT_take (i := 13) (v := .int .i64 0) rfl (by kernel_rfl) (fun _ _ _ h => h) hS1 rfl (by rintro w' q0; go_simp) ?_
  try simp only [Act.put, List.getElem_toArray, List.getElem_cons_zero, List.getElem_cons_succ, List.setIfInBounds_toArray, List.set_cons_zero, List.set_cons_succ]
  refine Oc.anyT_take (i := 14) (v := .bool true) rfl (by kernel_rfl) (fun _ _ _ h => h) hS1 rfl (by rintro w' q0; go_simp) ?_
  try simp only [Act.put, List.getElem_toArray, List.getElem_cons_zero, List.getElem_cons_succ, List.setIfInBounds_toArray, List.set_cons_zero, List.set_cons_succ]
  refine Oc.anyT_take (i := 15) (v := .bool true) rfl (by kernel_rfl) (fun _ _ _ h => h) hS1 rfl (by rintro w' q0; go_simp) ?_
  try simp only [Act.put, List.getElem_toArray, List.getElem_cons_zero, List.getElem_cons_succ, List.setIfInBounds_toArray, List.set_cons_zero, List.set_cons_succ]
  refine Oc.anyT_take (i := 16) (v := .bool true) rfl (by kernel_rfl) (fun _ _ _ h => h) hS1 rfl (by rintro w' q0; go_simp) ?_
  try simp only [Act.put, List.getElem_toArray, List.getElem_cons_zero, List.getElem_cons_succ, List.setIfInBounds_toArray, List.set_cons_zero, List.set_cons_succ]
  refine Oc.anyT_take (i := 17) (v := .bool false) rfl (by kernel_rfl) (fun _ _ _ h => h) hS1 rfl (by rintro w' q0; go_simp) ?_
  try simp only [Act.put, List.getElem_toArray, List.getElem_cons_zero, List.getElem_cons_succ, List.setIfInBounds_toArray, List.set_cons_zero, List.set_cons_succ]
  refine Oc.anyT_take (i := 18) (v := .bool true) rfl (by kernel_rfl) (fun _ _ _ h => h) hS1 rfl (by rintro w' q0; go_simp) ?_
  try simp only [Act.put, List.getElem_toArray, List.getElem_cons_zero, List.getElem_cons_succ, List.setIfInBounds_toArray, List.set_cons_zero, List.set_cons_succ]
  refine Oc.anyT_take (i := 19) (v := .bool true) rfl (by kernel_rfl) (fun _ _ _ h => h) hS1 rfl (by rintro w' q0; go_simp) ?_
  try simp only [Act.put, List.getElem_toArray, List.getElem_cons_zero, List.getElem_cons_succ, List.setIfInBounds_toArray, List.set_cons_zero, List.set_cons_succ]
  refine Oc.anyT_take (i := 20) (v := .bool true) rfl (by kernel_rfl) (fun _ _ _ h => h) hS1 rfl (by rintro w' q0; go_simp) ?_
  try simp only [Act.put, List.getElem_toArray, List.getElem_cons_zero, List.getElem_cons_succ, List.setIfInBounds_toArray, List.set_cons_zero, List.set_cons_succ]
  refine Oc.anyT_take (i := 21) (v := .int .i64 8) rfl (by kernel_rfl) (fun _ _ _ h => h) hS1 rfl (by rintro w' q0; go_simp) ?_
  try simp only [Act.put, List.getElem_toArray, List.getElem_cons_zero, List.getElem_cons_succ, List.setIfInBounds_toArray, List.set_cons_zero, List.set_cons_succ]
  refine Oc.anyT_take (i := 22) (v := .bool true) rfl (by kernel_rfl) (fun _ _ _ h => h) hS1 rfl (by rintro w' q0; go_simp) ?_
  try simp only [Act.put, List.getElem_toArray, List.getElem_cons_zero, List.getElem_cons_succ, List.setIfInBounds_toArray, List.set_cons_zero, List.set_cons_succ]
  refine Oc.anyT_take (i := 23) (v := .bool true) rfl (by kernel_rfl) (fun _ _ _ h => h) hS1 rfl (by rintro w' q0; go_simp) ?_
  try simp only [Act.put, List.getElem_toArray, List.getElem_cons_zero, List.getElem_cons_succ, List.setIfInBounds_toArray, List.set_cons_zero, List.set_cons_succ]
  refine Oc.anyT_take (i := 24) (v := .bool true) rfl (by kernel_rfl) (fun _ _ _ h => h) hS1 rfl (by rintro w' q0; go_simp) ?_
  try simp only [Act.put, List.getElem_toArray, List.getElem_cons_zero, List.getElem_cons_succ, List.setIfInBounds_toArray, List.set_cons_zero, List.set_cons_succ]
  refine Oc.anyT_take (i := 25) (v := .int .i64 8) rfl (by kernel_rfl) (fun _ _ _ h => h) hS1 rfl (by rintro w' q0; go_simp) ?_
  try simp only [Act.put, List.getElem_toArray, List.getElem_cons_zero, List.getElem_cons_succ, List.setIfInBounds_toArray, List.set_cons_zero, List.set_cons_succ]
  refine Oc.anyT_take (i := 26) (v := .bool true) rfl (by kernel_rfl) (fun _ _ _ h => h) hS1 rfl (by rintro w' q0; go_simp) ?_
  try simp only [Act.put, List.getElem_toArray, List.getElem_cons_zero, List.getElem_cons_succ, List.setIfInBounds_toArray, List.set_cons_zero, List.set_cons_succ]
  refine Oc.anyT_take (i := 27) (v := .bool true) rfl (by kernel_rfl) (fun _ _ _ h => h) hS1 rfl (by rintro w' q0; go_simp) ?_
  try simp only [Act.put, List.getElem_toArray, List.getElem_cons_zero, List.getElem_cons_succ, List.setIfInBounds_toArray, List.set_cons_zero, List.set_cons_succ]
  refine Oc.anyT_take (i := 28) (v := .bool true) rfl (by kernel_rfl) (fun _ _ _ h => h) hS1 rfl (by rintro w' q0; go_simp) ?_
  try simp only [Act.put, List.getElem_toArray, List.getElem_cons_zero, List.getElem_cons_succ, List.setIfInBounds_toArray, List.set_cons_zero, List.set_cons_succ]
  refine Oc.anyT_take (i := 29) (v := .int .i64 0) rfl (by kernel_rfl) (fun _ _ _ h => h) hS1 rfl (by rintro w' q0; go_simp) ?_
  try simp only [Act.put, List.getElem_toArray, List.getElem_cons_zero, List.getElem_cons_succ, List.setIfInBounds_toArray, List.set_cons_zero, List.set_cons_succ]
  refine Oc.anyT_take (i := 30) (v := .bool true) rfl (by kernel_rfl) (fun _ _ _ h => h) hS1 rfl (by rintro w' q0; go_simp) ?_
  try simp only [Act.put, List.getElem_toArray, List.getElem_cons_zero, List.getElem_cons_succ, List.setIfInBounds_toArray, List.set_cons_zero, List.set_cons_succ]
  refine Oc.anyT_take (i := 31) (v := .bool true) rfl (by kernel_rfl) (fun _ _ _ h => h) hS1 rfl (by rintro w' q0; go_simp) ?_
  try simp only [Act.put, List.getElem_toArray, List.getElem_cons_zero, List.getElem_cons_succ, List.setIfInBounds_toArray, List.set_cons_zero, List.set_cons_succ]
  refine Oc.anyT_take (i := 32) (v := .bool true) rfl (by kernel_rfl) (fun _ _ _ h => h) hS1 rfl (by rintro w' q0; go_simp) ?_
  try simp only [Act.put, List.getElem_toArray, List.getElem_cons_zero, List.getElem_cons_succ, List.setIfInBounds_toArray, List.set_cons_zero, List.set_cons_succ]
  refine Oc.anyT_take (i := 33) (v := .slice (some ⟨nb, 0, none⟩) 32 32) rfl (by kernel_rfl) (fun _ _ _ h => h) hS1 rfl (by rintro w' q0; go_simp) ?_
  try simp only [Act.put, List.getElem_toArray, List.getElem_cons_zero, List.getElem_cons_succ, List.setIfInBounds_toArray, List.set_cons_zero, List.set_cons_succ]
  refine Oc.anyT_take (i := 34) (v := .string (strOfNums R)) rfl (by kernel_rfl) (fun _ _ _ h => h) hS1 rfl (by rintro w' q0; have hq := run_string32 q0 hRl; go_simp) ?_
  try simp only [Act.put, List.getElem_toArray, List.getElem_cons_zero, List.getElem_cons_succ, List.setIfInBounds_toArray, List.set_cons_zero, List.set_cons_succ]
  refine Oc.anyT_next (i := 35) rfl (by kernel_rfl) (fun K hK => ?_)
  go_simp
  refine (block_any 2 (by decide) _).mono ?_
  rintro e wC ⟨nc, rfl, hblc, hnc, hgC⟩
  have htC : Oc.Turns [] wB wC := Oc.Turns.of_none hgC
  have hDC := hDB.kept htC (by simp) (by simp)
  have hBC := htC.below hBB hBB.size (by simp)
  have hS2 : hSS2 wC := Oc.Blk.kept hS1 htC (by simp)
  refine hK _ _ (fun _ => hS2) ?_
  rw [← hR] at hblc
  clear hK K hgC htC hDB hBB
  try simp only [Act.put, List.getElem_toArray, List.getElem_cons_zero, List.getElem_cons_succ, List.setIfInBounds_toArray, List.set_cons_zero, List.set_cons_succ]
  refine Oc.anyT_next (i := 36) rfl (by kernel_rfl) (fun K hK => ?_)
  have hq := run_string32 hblc hRl
  go_simp
  refine hK _ _ (fun _ => hS2) ?_
  clear hK K
  try simp only [Act.put, List.getElem_toArray, List.getElem_cons_zero, List.getElem_cons_succ, List.setIfInBounds_toArray, List.set_cons_zero, List.set_cons_succ]
  refine Oc.anyT_take (i := 37) (v := .bool true) rfl (by kernel_rfl) (fun _ _ _ h => h) hS2 rfl (by rintro w' q0; go_simp) ?_
  try simp only [Act.put, List.getElem_toArray, List.getElem_cons_zero, List.getElem_cons_succ, List.setIfInBounds_toArray, List.set_cons_zero, List.set_cons_succ]
  refine Oc.anyT_take (i := 38) (v := .bool true) rfl (by kernel_rfl) (fun _ _ _ h => h) hS2 rfl (by rintro w' q0; go_simp) ?_
  try simp only [Act.put, List.getElem_toArray, List.getElem_cons_zero, List.getElem_cons_succ, List.setIfInBounds_toArray, List.set_cons_zero, List.set_cons_succ]
  refine Oc.anyT_take (i := 39) (v := .bool true) rfl (by kernel_rfl) (fun _ _ _ h => h) hS2 rfl (by rintro w' q0; go_simp) ?_
  try simp only [Act.put, List.getElem_toArray, List.getElem_cons_zero, List.getElem_cons_succ, List.setIfInBounds_toArray, List.set_cons_zero, List.set_cons_succ]
  refine Oc.anyT_take (i := 40) (v := .pointer (some ⟨b, 0, none⟩)) rfl (by kernel_rfl) (fun _ _ _ h => h) hS2 rfl (by rintro w' q0; go_simp) ?_
  try simp only [Act.put, List.getElem_toArray, List.getElem_cons_zero, List.getElem_cons_succ, List.setIfInBounds_toArray, List.set_cons_zero, List.set_cons_succ]
  refine Oc.anyT_next (i := 41) rfl (by kernel_rfl) (fun K hK => ?_)
  go_simp
  refine (dwrites_any b bm _ _ hDC).mono ?_
  rintro e wD ⟨rfl, rfl⟩
  refine hK _ _ (fun _ => hS2) ?_
  clear hK K
  try simp only [Act.put, List.getElem_toArray, List.getElem_cons_zero, List.getElem_cons_succ, List.setIfInBounds_toArray, List.set_cons_zero, List.set_cons_succ]
  refine Oc.anyT_take (i := 42) (v := .bool true) rfl (by kernel_rfl) (fun _ _ _ h => h) hS2 rfl (by rintro w' q0; go_simp) ?_
  try simp only [Act.put, List.getElem_toArray, List.getElem_cons_zero, List.getElem_cons_succ, List.setIfInBounds_toArray, List.set_cons_zero, List.set_cons_succ]
  refine Oc.anyT_take (i := 43) (v := .bool true) rfl (by kernel_rfl) (fun _ _ _ h => h) hS2 rfl (by rintro w' q0; go_simp) ?_
  try simp only [Act.put, List.getElem_toArray, List.getElem_cons_zero, List.getElem_cons_succ, List.setIfInBounds_toArray, List.set_cons_zero, List.set_cons_succ]
  refine Oc.anyT_take (i := 44) (v := .bool true) rfl (by kernel_rfl) (fun _ _ _ h => h) hS2 rfl (by rintro w' q0; go_simp) ?_
  try simp only [Act.put, List.getElem_toArray, List.getElem_cons_zero, List.getElem_cons_succ, List.setIfInBounds_toArray, List.set_cons_zero, List.set_cons_succ]
  refine Oc.anyT_done (by kernel_rfl) ?_ _
  go_wp2
  go_ret
  exact ⟨rfl, hBC⟩
end Go.Proofs.Ytnlbdmciaodohaa
