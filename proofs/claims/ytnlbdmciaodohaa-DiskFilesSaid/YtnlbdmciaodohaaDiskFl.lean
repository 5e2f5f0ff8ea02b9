/- The law DiskFiles. -/
import Derived.Test.YtnlbdmciaodohaaDiskCuts
import Derived.Test.YtnlbdmciaodohaaDiskFiles
namespace Oc
open Go Go.RowKit
set_option linter.unusedVariables false
theorem put_len (M : Dm) (p : Key) (v : List Int) : (put M p v).length ≤ M.length + 1 := by
  unfold put
  split <;> simp
theorem write_len (s : Ds) (p : Key) (l : Nat) (v : List Int) : (s.write p l v).M.length ≤ s.M.length + 1 ∧ (s.write p l v).writes ≤ s.writes + 1 := by
  unfold Ds.write
  split
  · exact ⟨put_len _ _ _, Int.le_refl _⟩
  · exact ⟨by omega, by omega⟩
theorem FlVal.kept {n₀ : Nat} {w w' : World} {T : Nat} {v : Value} {L : List Fl} {l : List Nat} (h : FlVal n₀ w T v L) (ht : Turns l w w') (hl : ∀ r ∈ l, r < n₀) : FlVal n₀ w' T v L := by
  rcases h with h | ⟨g, C, cap, h1, h2, h3, h4, h5⟩
  · exact .inl h
  · exact .inr ⟨g, C, cap, h1, h2, ht.kept h3 (fun hc => by have := hl g hc; omega), h4, h5⟩
def Fl.key (f : Fl) : Key := ⟨f.1, f.2.1, f.2.2, 0⟩
theorem inF_iff (p : Key) (f : Fl) : inF p f.key = true ↔ p.file = f := by
  obtain ⟨a, b, c⟩ := f
  unfold inF Fl.key Key.file
  simp
theorem len_in {M : Dm} {L : List Fl} {f : Fl} {n : Int} (hF : FilesOf M L) (hok : DmOk M) (h : IsLen M f.key n) : 0 < n ↔ f ∈ L := by
  rw [hF.2.1]
  constructor
  · intro hn
    rcases h.2.1 with h0 | ⟨x, hx, hf, _⟩
    · omega
    · exact ⟨x, hx, (inF_iff _ _).1 hf⟩
  · rintro ⟨x, hx, hf⟩
    have h1 := h.1 x hx ((inF_iff _ _).2 hf)
    have h2 := (hok x hx).1
    omega
end Oc
namespace Go.Proofs.Ytnlbdmciaodohaa
set_option linter.unusedVariables false
set_option linter.unusedSimpArgs false
open Go.RowKit
set_option maxHeartbeats 4000000
theorem diskFiles_low (f : Oc.Fl) (a : Option Addr) (len cap : Nat) (w : World) (h : 200 < len) :
    Calls Try.prog 5 #[.slice a len cap, .agg #[.int .i64 f.1, .int .i64 f.2.1, .int .i64 f.2.2]] w fun e w' => e = .returned (.bool true) ∧ Below w.heap.size w w' := by
  have d2 : decide (200 < (len : Int)) = true := by simp; omega
  have d3 : decide (200 < len) = true := by simp; omega
  have hB0 : Below w.heap.size w (w.alloc (.cells #[.int .i64 f.1, .int .i64 f.2.1, .int .i64 f.2.2] 30)) := (Below.refl _ w).alloc (Nat.le_refl _) _
  go_enter Try.func5, Try.ntmps5
  go_wp2_with fail
  refine (awake_any _).mono ?_
  rintro e w1 ⟨rfl, hB1⟩
  replace hB1 := hB0.trans (hB1.mono (by simp))
  go_wp2_with fail
  refine (dnew_any _).mono ?_
  rintro e w2 ⟨b, bm, rfl, hD2, hb, hbm, hg2⟩
  have hB2 : Below w.heap.size w w2 := hB1.grown hg2 hB1.size fun r e => nomatch e
  go_wp2_with fail
  go_ret
  exact ⟨rfl, hB2⟩
set_option maxRecDepth 100000 in
theorem diskFiles_high (f : Oc.Fl) (a : Option Addr) (len cap : Nat) (w : World) (hl : Oc.IsStructs Oc.OpLeaves w a len cap) (h : len ≤ 200) :
    Calls Try.prog 5 #[.slice a len cap, .agg #[.int .i64 f.1, .int .i64 f.2.1, .int .i64 f.2.2]] w fun e w' => e = .returned (.bool true) ∧ Below w.heap.size w w' := by
  have d2 : decide (200 < (len : Int)) = false := by simp; omega
  have d3 : decide (200 < len) = false := by simp; omega
  have hfo : Try.prog.follows .mixedOrders = true := by kernel_rfl
  have hB0 : Below w.heap.size w (w.alloc (.cells #[.int .i64 f.1, .int .i64 f.2.1, .int .i64 f.2.2] 30)) := (Below.refl _ w).alloc (Nat.le_refl _) _
  have hf0 : (w.alloc (.cells #[.int .i64 f.1, .int .i64 f.2.1, .int .i64 f.2.2] 30)).heap[w.heap.size]? = some (.cells #[.int .i64 f.1, .int .i64 f.2.1, .int .i64 f.2.2] 30 (0, 0)) := heap_alloc_new w _
  go_enter Try.func5, Try.ntmps5
  go_wp2_with fail
  refine (awake_any _).mono ?_
  rintro e w1 ⟨rfl, hB1⟩
  have hf1 := (hB1.block w.heap.size (by simp)).trans hf0
  replace hB1 := hB0.trans (hB1.mono (by simp))
  have hz1 : w.heap.size < w1.heap.size := (Array.getElem?_eq_some_iff.1 hf1).1
  clear hB0 hf0
  go_wp2_with fail
  refine (dnew_any _).mono ?_
  rintro e w2 ⟨b, bm, rfl, hD2, hb, hbm, hg2⟩
  have hf2 := (hg2.block w.heap.size hz1 (by simp)).trans hf1
  have hB2 : Below w.heap.size w w2 := hB1.grown hg2 hB1.size fun r e => nomatch e
  have hX : w.heap.size < b ∧ w.heap.size < bm := by omega
  clear hB1 hf1 hg2 hz1 hb hbm
  go_wp2_with fail
  go_loopg [7] len (fun gk i wr => ∃ (k : Nat) (s : Oc.Ds), k + gk = len ∧ i = .int .i64 k ∧ Oc.DkAt 54 wr b bm s ∧ s.M.length ≤ k ∧ s.writes ≤ k ∧ Below w.heap.size w wr ∧ wr.heap[w.heap.size]? = some (.cells #[.int .i64 f.1, .int .i64 f.2.1, .int .i64 f.2.2] 30 (0, 0)))
  case atStart => exact ⟨0, Oc.Ds.new, by omega, rfl, hD2, by simp [Oc.Ds.new], by simp [Oc.Ds.new], hB2, hf2⟩
  case round =>
    obtain ⟨k, s, hk, rfl, hD, hs1, hs2, hB, hfb⟩ := hrel
    clear hD2 hB2 hf2
    by_cases hkl : k < len
    · have dk : decide ((k : Int) < (len : Int)) = true := by simpa using hkl
      have dk2 : decide (k < len) = true := by simpa using hkl
      obtain ⟨lb, off, rfl, hlb, hlc, hcm, hops⟩ := Oc.ops_at hl hkl
      obtain ⟨x, hx0⟩ := hops k hkl
      clear hops
      have hx := hx0.below hB hlb rfl
      have k0 : 0 ≤ (k : Int) := by omega
      have k1 : (k : Int) < (len : Int) := by omega
      go_wp2_with fail
      have hS0 : Oc.OpS lb (off + k * 6) x wr.drew := hx.reads
      refine Oc.wp_region_T (Oc.OpS lb (off + k * 6) x) [] hfo ?_
      refine Oc.anyT_take (i := 0) (v := .pointer (some ⟨b, 0, none⟩)) rfl (by kernel_rfl) (fun _ _ _ h => h) hS0 rfl (by rintro w' ⟨q0, q1, q2, q3, q4⟩; go_simp) ?_
      try simp only [Act.put, List.getElem_toArray, List.getElem_cons_zero, List.getElem_cons_succ, List.setIfInBounds_toArray, List.set_cons_zero, List.set_cons_succ]
      refine Oc.anyT_take (i := 1) (v := .slice (some ⟨lb, off, none⟩) len cap) rfl (by kernel_rfl) (fun _ _ _ h => h) hS0 rfl (by rintro w' ⟨q0, q1, q2, q3, q4⟩; go_simp) ?_
      try simp only [Act.put, List.getElem_toArray, List.getElem_cons_zero, List.getElem_cons_succ, List.setIfInBounds_toArray, List.set_cons_zero, List.set_cons_succ]
      refine Oc.anyT_take (i := 2) (v := .int .i64 k) rfl (by kernel_rfl) (fun _ _ _ h => h) hS0 rfl (by rintro w' ⟨q0, q1, q2, q3, q4⟩; go_simp) ?_
      try simp only [Act.put, List.getElem_toArray, List.getElem_cons_zero, List.getElem_cons_succ, List.setIfInBounds_toArray, List.set_cons_zero, List.set_cons_succ]
      refine Oc.anyT_take (i := 3) (v := .pointer (some ⟨lb, off + k * 6, none⟩)) rfl (by kernel_rfl) (fun _ _ _ h => h) hS0 rfl (by rintro w' ⟨q0, q1, q2, q3, q4⟩; go_simp) ?_
      try simp only [Act.put, List.getElem_toArray, List.getElem_cons_zero, List.getElem_cons_succ, List.setIfInBounds_toArray, List.set_cons_zero, List.set_cons_succ]
      refine Oc.anyT_take (i := 4) (v := .pointer (some ⟨lb, off + k * 6 + 1, none⟩)) rfl (by kernel_rfl) (fun _ _ _ h => h) hS0 rfl (by rintro w' ⟨q0, q1, q2, q3, q4⟩; go_simp) ?_
      try simp only [Act.put, List.getElem_toArray, List.getElem_cons_zero, List.getElem_cons_succ, List.setIfInBounds_toArray, List.set_cons_zero, List.set_cons_succ]
      refine Oc.anyT_take (i := 5) (v := .agg #[.int .i64 x.k, .int .i64 x.x, .int .i64 x.z]) rfl (by kernel_rfl) (fun _ _ _ h => h) hS0 rfl (by rintro w' ⟨q0, q1, q2, q3, q4⟩; go_simp) ?_
      try simp only [Act.put, List.getElem_toArray, List.getElem_cons_zero, List.getElem_cons_succ, List.setIfInBounds_toArray, List.set_cons_zero, List.set_cons_succ]
      refine Oc.anyT_take (i := 6) (v := .slice (some ⟨lb, off, none⟩) len cap) rfl (by kernel_rfl) (fun _ _ _ h => h) hS0 rfl (by rintro w' ⟨q0, q1, q2, q3, q4⟩; go_simp) ?_
      try simp only [Act.put, List.getElem_toArray, List.getElem_cons_zero, List.getElem_cons_succ, List.setIfInBounds_toArray, List.set_cons_zero, List.set_cons_succ]
      refine Oc.anyT_take (i := 7) (v := .int .i64 k) rfl (by kernel_rfl) (fun _ _ _ h => h) hS0 rfl (by rintro w' ⟨q0, q1, q2, q3, q4⟩; go_simp) ?_
      try simp only [Act.put, List.getElem_toArray, List.getElem_cons_zero, List.getElem_cons_succ, List.setIfInBounds_toArray, List.set_cons_zero, List.set_cons_succ]
      refine Oc.anyT_take (i := 8) (v := .pointer (some ⟨lb, off + k * 6, none⟩)) rfl (by kernel_rfl) (fun _ _ _ h => h) hS0 rfl (by rintro w' ⟨q0, q1, q2, q3, q4⟩; go_simp) ?_
      try simp only [Act.put, List.getElem_toArray, List.getElem_cons_zero, List.getElem_cons_succ, List.setIfInBounds_toArray, List.set_cons_zero, List.set_cons_succ]
      refine Oc.anyT_take (i := 9) (v := .pointer (some ⟨lb, off + k * 6 + 4, none⟩)) rfl (by kernel_rfl) (fun _ _ _ h => h) hS0 rfl (by rintro w' ⟨q0, q1, q2, q3, q4⟩; go_simp) ?_
      try simp only [Act.put, List.getElem_toArray, List.getElem_cons_zero, List.getElem_cons_succ, List.setIfInBounds_toArray, List.set_cons_zero, List.set_cons_succ]
      refine Oc.anyT_take (i := 10) (v := .int .i64 x.i) rfl (by kernel_rfl) (fun _ _ _ h => h) hS0 rfl (by rintro w' ⟨q0, q1, q2, q3, q4⟩; go_simp) ?_
      try simp only [Act.put, List.getElem_toArray, List.getElem_cons_zero, List.getElem_cons_succ, List.setIfInBounds_toArray, List.set_cons_zero, List.set_cons_succ]
      refine Oc.anyT_take (i := 11) (v := .slice (some ⟨lb, off, none⟩) len cap) rfl (by kernel_rfl) (fun _ _ _ h => h) hS0 rfl (by rintro w' ⟨q0, q1, q2, q3, q4⟩; go_simp) ?_
      try simp only [Act.put, List.getElem_toArray, List.getElem_cons_zero, List.getElem_cons_succ, List.setIfInBounds_toArray, List.set_cons_zero, List.set_cons_succ]
      refine Oc.anyT_take (i := 12) (v := .int .i64 k) rfl (by kernel_rfl) (fun _ _ _ h => h) hS0 rfl (by rintro w' ⟨q0, q1, q2, q3, q4⟩; go_simp) ?_
      try simp only [Act.put, List.getElem_toArray, List.getElem_cons_zero, List.getElem_cons_succ, List.setIfInBounds_toArray, List.set_cons_zero, List.set_cons_succ]
      refine Oc.anyT_take (i := 13) (v := .pointer (some ⟨lb, off + k * 6, none⟩)) rfl (by kernel_rfl) (fun _ _ _ h => h) hS0 rfl (by rintro w' ⟨q0, q1, q2, q3, q4⟩; go_simp) ?_
      try simp only [Act.put, List.getElem_toArray, List.getElem_cons_zero, List.getElem_cons_succ, List.setIfInBounds_toArray, List.set_cons_zero, List.set_cons_succ]
      refine Oc.anyT_take (i := 14) (v := .pointer (some ⟨lb, off + k * 6 + 5, none⟩)) rfl (by kernel_rfl) (fun _ _ _ h => h) hS0 rfl (by rintro w' ⟨q0, q1, q2, q3, q4⟩; go_simp) ?_
      try simp only [Act.put, List.getElem_toArray, List.getElem_cons_zero, List.getElem_cons_succ, List.setIfInBounds_toArray, List.set_cons_zero, List.set_cons_succ]
      refine Oc.anyT_take (i := 15) (v := .slice x.a x.l x.c) rfl (by kernel_rfl) (fun _ _ _ h => h) hS0 rfl (by rintro w' ⟨q0, q1, q2, q3, q4⟩; go_simp) ?_
      try simp only [Act.put, List.getElem_toArray, List.getElem_cons_zero, List.getElem_cons_succ, List.setIfInBounds_toArray, List.set_cons_zero, List.set_cons_succ]
      refine Oc.anyT_next (i := 16) rfl (by kernel_rfl) (fun K hK => ?_)
      go_simp
      refine (dwrite_any b bm _ x.key _ x.l x.c _ hx.hi (by rcases hx.row with ⟨_, h0, _⟩ | ⟨_, _, h1, h2, _⟩; all_goals omega) _ (Oc.IsRow_below hx0.row hB.drew (Nat.le_refl _)) (hD.kept ((Oc.Turns.refl [] wr).drew) (by simp) (by simp)) (by omega)).mono ?_
      rintro e w5 ⟨rfl, hDw5, ht0⟩
      have htw5 : Oc.Turns [b, bm] wr w5 := ((Oc.Turns.refl _ wr).drew).trans ht0
      have hBw5 := htw5.below hB hB.size (by simp; omega)
      refine hK _ _ (fun _ => (hx0.below hBw5 hlb rfl).reads) ?_
      clear hK K hS0 ht0
      try simp only [Act.put, List.getElem_toArray, List.getElem_cons_zero, List.getElem_cons_succ, List.setIfInBounds_toArray, List.set_cons_zero, List.set_cons_succ]
      refine Oc.anyT_done (by kernel_rfl) ?_ _
      have hf5 := htw5.kept hfb (by simp; omega)
      have hwl := Oc.write_len s x.key x.l (x.zs.take 32)
      clear hD hB hfb htw5 hx
      go_wp2_with fail
      go_roundg (gk - 1)
      case measure => omega
      case rel => exact ⟨k + 1, _, by omega, by go_num, hDw5, by omega, by omega, hBw5, hf5⟩
    · have dk : decide ((k : Int) < (len : Int)) = false := by simpa using hkl
      have dk2 : decide (k < len) = false := by simpa using hkl
      go_wp2_with fail
      refine (dfiles_any b bm s _ hD (by omega)).mono ?_
      rintro e w6 ⟨v, L, rfl, hF, hv, hB6⟩
      have ht6 : Oc.Turns [] wr w6 := Oc.Turns.of_below hB6
      have hD6 := hD.kept ht6 (by simp) (by simp)
      have hf6 := ht6.kept hfb (by simp)
      have hBB := ht6.below hB hB.size (by simp)
      have hfar : b < wr.heap.size ∧ bm < wr.heap.size ∧ w.heap.size < wr.heap.size := ⟨hD.cells.2.2.1, hD.cells.2.2.2, (Array.getElem?_eq_some_iff.1 hfb).1⟩
      have hLl : L.length ≤ 1000000 := by have := hF.2.2; omega
      obtain ⟨av, lv, cv, rfl, hlv⟩ : ∃ av lv cv, v = .slice av lv cv ∧ lv = L.length := by
        rcases hv with ⟨rfl, rfl⟩ | ⟨g, C, cap', rfl, _⟩
        · exact ⟨_, _, _, rfl, rfl⟩
        · exact ⟨_, _, _, rfl, rfl⟩
      have HLv := Oc.hide hlv
      have HF := Oc.hide hF
      have Hv := Oc.hide hv
      have hlv6 : lv ≤ 1000000 := by omega
      clear hD hB hfb hB6 ht6 hF hv hlv
      go_wp2_with fail
      obtain ⟨wo, rfl⟩ : ∃ wo : World, wo = wr := ⟨_, rfl⟩
      obtain ⟨ko, rfl⟩ : ∃ ko : Nat, ko = gk := ⟨_, rfl⟩
      obtain ⟨kk, rfl⟩ : ∃ kk : Nat, kk = k := ⟨_, rfl⟩
      go_loopg [9, 10] lv (fun gk fv iv wr => ∃ (i : Nat) (fd : Bool), i + gk = lv ∧ fv = .bool fd ∧ iv = .int .i64 i ∧ fd = decide (f ∈ L.take i) ∧ Oc.DkAt 54 wr b bm s ∧ Oc.FlVal wo.heap.size wr 30 (.slice av lv cv) L ∧ Below w.heap.size w wr ∧ wr.heap[w.heap.size]? = some (.cells #[.int .i64 f.1, .int .i64 f.2.1, .int .i64 f.2.2] 30 (0, 0)))
      case atStart => exact ⟨0, false, by omega, rfl, rfl, by simp, hD6, Oc.unhide Hv, hBB, hf6⟩
      case round =>
        clear hD6 Hv hBB hf6
        obtain ⟨i, fd, hik, rfl, rfl, hfd, hD, hv, hB, hfb⟩ := hrel
        have HFd := Oc.hide hfd
        clear hfd
        by_cases hil : i < lv
        · have di : decide ((i : Int) < (lv : Int)) = true := by simpa using hil
          have di2 : decide (i < lv) = true := by simpa using hil
          have i0 : 0 ≤ (i : Int) := by omega
          have i1 : (i : Int) < (lv : Int) := by omega
          have hlv := Oc.unhide HLv
          obtain ⟨g, C, cap', hve, hgf, hw0, hC, _⟩ : ∃ g C cap', Value.slice av lv cv = .slice (some ⟨g, 0, none⟩) L.length cap' ∧ wo.heap.size ≤ g ∧ wr.heap[g]? = some (.cells C 30 (0, 0)) ∧ Oc.RowC C L ∧ L.length ≤ cap' := by
            rcases hv with ⟨h1, h2⟩ | h
            · rw [h2] at hlv; simp at hlv; omega
            · exact h
          obtain ⟨rfl, hll, rfl⟩ : av = some ⟨g, 0, none⟩ ∧ lv = L.length ∧ cv = cap' := by simpa using hve
          have HLL := Oc.hide hll
          clear hll
          obtain ⟨x, hx⟩ : ∃ x, L[i]? = some x := ⟨_, List.getElem?_eq_getElem (by omega)⟩
          have HX := Oc.hide hx
          obtain ⟨x0, x1, x2⟩ := row_cells hC hw0 hx
          have Hrow := @Oc.hide _ (fun (W : World) (hW : W.heap[g]? = some (.cells C 30 (0, 0))) => row_cells hC hW hx)
          have HC := Oc.hide hC
          have HVe := Oc.hide hve
          have hlenb : ∀ n, Oc.IsLen s.M (Oc.Fl.key x) n → 0 < n ∧ n ≤ 4096 := fun n hn => ⟨(Oc.len_in (Oc.unhide HF) hD.ok hn).2 (List.mem_of_getElem? hx), hn.2.2.2⟩
          have Hlenb := @Oc.hide _ hlenb
          clear hC hve hx hlenb hlv
          go_wp2_with fail
          refine (dlen_any b bm s (Oc.Fl.key x) _ hD).mono ?_
          rintro e w7 ⟨n, rfl, hn, hg7⟩
          obtain ⟨n0, n1⟩ := Oc.unhide Hlenb n hn
          have dn0 : decide (n < 1) = false := by simp; omega
          have dn1 : decide (4096 < n) = false := by simpa using n1
          have ht7 : Oc.Turns [] wr w7 := Oc.Turns.of_none hg7
          have hD7 := hD.kept ht7 (by simp) (by simp)
          have hv7 := hv.kept ht7 (by simp)
          have hB7 := ht7.below hB hB.size (by simp)
          have hf7 := ht7.kept hfb (by simp)
          have hw7 := ht7.kept hw0 (by simp)
          obtain ⟨x0', x1', x2'⟩ := Oc.unhide Hrow w7 hw7
          have f0 := cell_of_row w7 w.heap.size 0 _ _ _ hf7
          have f1 := cell_of_row w7 w.heap.size 1 _ _ _ hf7
          have f2 := cell_of_row w7 w.heap.size 2 _ _ _ hf7
          simp at f0 f1 f2
          have heq := run_eqlF x f
          have HW7 := Oc.hide hw7
          clear hn hg7 ht7 hD hv hB hfb hw0 x0 x1 x2 hw7
          go_wp2_with fail
          have hq : ∃ fd', fd' = decide (f ∈ L.take (i + 1)) ∧ fd' = (fd || decide (x = f)) := by
            refine ⟨_, rfl, ?_⟩
            rw [Oc.unhide HFd, List.take_add_one, Oc.unhide HX, Bool.eq_iff_iff]
            simp
            exact ⟨Or.imp_right Eq.symm, Or.imp_right Eq.symm⟩
          obtain ⟨fd', HFd', hfo'⟩ := hq
          have HFd2 := Oc.hide HFd'
          clear HFd'
          cases fd
          all_goals
            simp only [Bool.false_or, Bool.true_or] at hfo'
            go_quiet (fail)
            generalize hwq : w7.drewN _ = wq
            have htq : Oc.Turns [] w7 wq := by rw [← hwq]; exact (Oc.Turns.refl [] w7).drewN _
            have hD8 := hD7.kept htq (by simp) (by simp)
            have hv8 := hv7.kept htq (by simp)
            have hB8 := htq.below hB7 hB7.size (by simp)
            have hf8 := htq.kept hf7 (by simp)
            have hwg := htq.kept (Oc.unhide HW7) (by simp)
            clear hwq htq hD7 hv7 hB7 hf7 x0' x1' x2' f0 f1 f2 heq
            rcases Nat.eq_zero_or_pos i with hi0 | hi0
            · subst hi0
              have HWg := Oc.hide hwg
              clear hwg
              go_wp2_with fail
              go_roundg (gk - 1)
              case measure => omega
              case rel => exact ⟨1, fd', by omega, by rw [hfo'], by go_num, Oc.unhide HFd2, hD8, hv8, hB8, hf8⟩
            · obtain ⟨m, rfl⟩ : ∃ m, i = m + 1 := ⟨i - 1, by omega⟩
              have hll := Oc.unhide HLL
              obtain ⟨y, hy⟩ : ∃ y, L[m]? = some y := ⟨_, List.getElem?_eq_getElem (by omega)⟩
              have hlt : Oc.ltF y x := by
                have h' := (List.pairwise_iff_getElem.1 (Oc.unhide HF).1) m (m + 1) (by omega) (by omega) (by omega)
                rw [(List.getElem?_eq_some_iff.1 hy).2, (List.getElem?_eq_some_iff.1 (Oc.unhide HX)).2] at h'
                exact h'
              obtain ⟨x0, x1, x2⟩ := Oc.unhide Hrow wq hwg
              obtain ⟨y0, y1, y2⟩ := row_cells (Oc.unhide HC) hwg hy
              have hga := (Below.heap_alloc wq (.cells #[.int .i64 y.1, .int .i64 y.2.1, .int .i64 y.2.2] 30) g (Array.getElem?_eq_some_iff.1 hwg).1).trans hwg
              obtain ⟨xa0, xa1, xa2⟩ := Oc.unhide Hrow _ hga
              have m0 : 0 ≤ (m : Int) := by omega
              have m1 : (m : Int) < (lv : Int) := by omega
              have m2 : (m : Int) + 1 < (lv : Int) := by omega
              have m3 : ((m : Int) + 1 == 0) = false := by rw [beq_eq_false_iff_ne]; omega
              have HWg := Oc.hide hwg
              clear hwg hy hll hga
              rcases hlt with h1 | ⟨h1, h2 | ⟨h2, h3⟩⟩
              · have c1 : decide (x.1 < y.1) = false := by simp; omega
                have b1 : (y.1 == x.1) = false := by rw [beq_eq_false_iff_ne]; omega
                clear h1
                go_wp2_with fail
                go_roundg (gk - 1)
                case measure => omega
                case rel => exact ⟨m + 1 + 1, fd', by omega, by rw [hfo'], by go_num, Oc.unhide HFd2, hD8.kept (((Oc.Turns.refl [] wq).alloc _).alloc _) (by simp) (by simp), hv8.kept (((Oc.Turns.refl [] wq).alloc _).alloc _) (by simp), (hB8.alloc hB8.size _).alloc (by have := hB8.size; simp; omega) _, (((Oc.Turns.refl [] wq).alloc _).alloc _).kept hf8 (by simp)⟩
              · have c1 : decide (x.1 < y.1) = false := by simp; omega
                have b1 : (y.1 == x.1) = true := by rw [beq_iff_eq]; omega
                have c2 : decide (x.2.1 < y.2.1) = false := by simp; omega
                have b2 : (y.2.1 == x.2.1) = false := by rw [beq_eq_false_iff_ne]; omega
                clear h1 h2
                go_wp2_with fail
                go_roundg (gk - 1)
                case measure => omega
                case rel => exact ⟨m + 1 + 1, fd', by omega, by rw [hfo'], by go_num, Oc.unhide HFd2, hD8.kept (((Oc.Turns.refl [] wq).alloc _).alloc _) (by simp) (by simp), hv8.kept (((Oc.Turns.refl [] wq).alloc _).alloc _) (by simp), (hB8.alloc hB8.size _).alloc (by have := hB8.size; simp; omega) _, (((Oc.Turns.refl [] wq).alloc _).alloc _).kept hf8 (by simp)⟩
              · have c1 : decide (x.1 < y.1) = false := by simp; omega
                have b1 : (y.1 == x.1) = true := by rw [beq_iff_eq]; omega
                have c2 : decide (x.2.1 < y.2.1) = false := by simp; omega
                have b2 : (y.2.1 == x.2.1) = true := by rw [beq_iff_eq]; omega
                have c3 : decide (x.2.2 ≤ y.2.2) = false := by simp; omega
                clear h1 h2 h3
                go_wp2_with fail
                go_roundg (gk - 1)
                case measure => omega
                case rel => exact ⟨m + 1 + 1, fd', by omega, by rw [hfo'], by go_num, Oc.unhide HFd2, hD8.kept (((Oc.Turns.refl [] wq).alloc _).alloc _) (by simp) (by simp), hv8.kept (((Oc.Turns.refl [] wq).alloc _).alloc _) (by simp), (hB8.alloc hB8.size _).alloc (by have := hB8.size; simp; omega) _, (((Oc.Turns.refl [] wq).alloc _).alloc _).kept hf8 (by simp)⟩
        · have di : decide ((i : Int) < (lv : Int)) = false := by simpa using hil
          have di2 : decide (i < lv) = false := by simpa using hil
          have f0 := cell_of_row wr w.heap.size 0 _ _ _ hfb
          have f1 := cell_of_row wr w.heap.size 1 _ _ _ hfb
          have f2 := cell_of_row wr w.heap.size 2 _ _ _ hfb
          simp at f0 f1 f2
          have HFB := Oc.hide hfb
          clear hfb
          go_wp2_with fail
          refine (dlen_any b bm s (Oc.Fl.key f) _ hD).mono ?_
          rintro e w7 ⟨n, rfl, hn, hg7⟩
          have hB7 := (Oc.Turns.of_none (l := []) hg7).below hB hB.size (by simp)
          have hfin : fd = decide (0 < n) := by
            rw [Oc.unhide HFd, show L.take i = L by rw [List.take_of_length_le]; have := Oc.unhide HLv; omega]
            exact decide_eq_decide.2 (Oc.len_in (Oc.unhide HF) hD.ok hn).symm
          subst hfin
          clear hn hg7
          go_wp2_with fail
          go_ret
          exact ⟨by simp, hB7⟩
theorem diskFiles_true (a : Option Addr) (len cap : Nat) (p q r : Int) (w : World) (hl : Oc.IsStructs Oc.OpLeaves w a len cap) (_ : Oc.I p) (_ : Oc.I q) (_ : Oc.I r) :
    Calls Try.prog 5 #[.slice a len cap, .agg #[.int .i64 p, .int .i64 q, .int .i64 r]] w fun e w' => e = .returned (.bool true) ∧ Below w.heap.size w w' := by
  by_cases h : 200 < len
  · exact diskFiles_low (p, q, r) a len cap w h
  · exact diskFiles_high (p, q, r) a len cap w hl (by omega)
end Go.Proofs.Ytnlbdmciaodohaa
