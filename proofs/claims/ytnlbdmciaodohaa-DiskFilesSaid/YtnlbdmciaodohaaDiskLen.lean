/- Len: a range over the map. -/
import Derived.Test.YtnlbdmciaodohaaDiskWrite
import Derived.Deep.LoopGhost
import Derived.Deep.DeepCutAuto
namespace Oc
open Go Go.RowKit
set_option linter.unusedVariables false
/-- Is a place in a file? -/
def inF (p q : Key) : Bool := p.k == q.k && (p.x == q.x && p.z == q.z)
/-- How many blocks a file (of the place q) has. -/
def IsLen (M : Dm) (q : Key) (n : Int) : Prop := (∀ x ∈ M, inF x.1 q = true → x.1.i + 1 ≤ n) ∧ (n = 0 ∨ ∃ x ∈ M, inF x.1 q = true ∧ n = x.1.i + 1) ∧ 0 ≤ n ∧ n ≤ 4096
theorem IsLen.one {M : Dm} {q : Key} {n m : Int} (h : IsLen M q n) (k : IsLen M q m) : n = m := by
  obtain ⟨h1, h2, h3, _⟩ := h
  obtain ⟨k1, k2, k3, _⟩ := k
  have a : n ≤ m := by
    rcases h2 with h2 | ⟨x, hx, hf, rfl⟩
    · omega
    · exact k1 x hx hf
  have b : m ≤ n := by
    rcases k2 with k2 | ⟨x, hx, hf, rfl⟩
    · omega
    · exact h1 x hx hf
  omega
/-- .. as far as it has been seen. -/
def LenS (M : Dm) (seen : List Nat) (q : Key) (n : Int) : Prop := (∀ j ∈ seen, ∀ x, M[j]? = some x → inF x.1 q = true → x.1.i + 1 ≤ n) ∧ (n = 0 ∨ ∃ x ∈ M, inF x.1 q = true ∧ n = x.1.i + 1) ∧ 0 ≤ n ∧ n ≤ 4096
theorem LenS.all {M : Dm} {seen : List Nat} {q : Key} {n : Int} (h : LenS M seen q n) (hall : ∀ j, j < M.length → j ∈ seen) : IsLen M q n :=
  ⟨fun x hx hf => by
    obtain ⟨j, hj⟩ := List.mem_iff_getElem?.1 hx
    exact h.1 j (hall j (List.getElem?_eq_some_iff.1 hj).1) x hj hf, h.2⟩
theorem LenS.skip {M : Dm} {seen : List Nat} {q : Key} {n : Int} (h : LenS M seen q n) {j : Nat} {x : Key × List Int} (hj : M[j]? = some x) (hx : inF x.1 q = false ∨ x.1.i + 1 ≤ n) : LenS M (seen ++ [j]) q n :=
  ⟨fun j' hj' y hy hf => by
    rcases List.mem_append.1 hj' with hj' | hj'
    · exact h.1 j' hj' y hy hf
    · obtain rfl := List.mem_singleton.1 hj'
      rw [hj] at hy; cases hy
      rcases hx with hx | hx
      · rw [hx] at hf; cases hf
      · exact hx, h.2⟩
theorem LenS.step {M : Dm} {seen : List Nat} {q : Key} {n : Int} (h : LenS M seen q n) (hok : DmOk M) {j : Nat} {x : Key × List Int} (hj : M[j]? = some x) (hf : inF x.1 q = true) (hx : n ≤ x.1.i + 1) : LenS M (seen ++ [j]) q (x.1.i + 1) := by
  have hm := List.mem_of_getElem? hj
  obtain ⟨o1, o2, _⟩ := hok x hm
  refine ⟨fun j' hj' y hy hf' => ?_, .inr ⟨x, hm, hf, rfl⟩, by omega, by omega⟩
  rcases List.mem_append.1 hj' with hj' | hj'
  · have := h.1 j' hj' y hy hf'; omega
  · obtain rfl := List.mem_singleton.1 hj'
    rw [hj] at hy; cases hy; exact Int.le_refl _
end Oc
namespace Go.Proofs.Ytnlbdmciaodohaa
set_option linter.unusedVariables false
set_option linter.unusedSimpArgs false
open Go.RowKit
set_option maxHeartbeats 4000000
theorem dlen_any (b bm : Nat) (s : Oc.Ds) (q : Oc.Key) (w : World) (hD : Oc.DkAt 54 w b bm s) :
    Calls Try.prog 20 #[.pointer (some ⟨b, 0, none⟩), .agg #[.int .i64 q.k, .int .i64 q.x, .int .i64 q.z]] w fun e w' => ∃ n, e = .returned (.int .i64 n) ∧ Oc.IsLen s.M q n ∧ w.grownBy w' none := by
  obtain ⟨⟨c0, c1, c2, c3⟩, _, hb, hbm⟩ := hD.cells
  have ht0 : Oc.Turns [] w (w.alloc (.cells #[.int .i64 q.k, .int .i64 q.x, .int .i64 q.z] 30)) := (Oc.Turns.refl [] w).alloc _
  have hM0 : Oc.MapAt (w.alloc (.cells #[.int .i64 q.k, .int .i64 q.x, .int .i64 q.z] 30)) bm s.M := ht0.kept hD.map (by simp)
  have hok := hD.ok
  have HOk := Oc.hide hok
  clear hok
  go_enter Try.func20, Try.ntmps20
  go_wp2_with (at_range; refine wpList_rangeD _ rfl _ rfl bm s.M rfl hM0 ?_; intro hit)
  go_frame
  obtain ⟨W1, hW1⟩ : ∃ W1, W1 = (w.alloc (.cells #[.int .i64 q.k, .int .i64 q.x, .int .i64 q.z] 30)).alloc (.mapIter (some bm) s.M.length #[] s.M.length) := ⟨_, rfl⟩
  have htw : Oc.Turns [] w W1 := by rw [hW1]; exact ht0.alloc _
  have hf1 : W1.heap[w.heap.size]? = some (.cells #[.int .i64 q.k, .int .i64 q.x, .int .i64 q.z] 30 (0, 0)) := by rw [hW1]; exact (Below.heap_alloc _ _ _ (by simp)).trans (heap_alloc_new w _)
  have hz1 : W1.heap.size = w.heap.size + 2 := by rw [hW1]; simp
  rw [show (w.alloc (.cells #[.int .i64 q.k, .int .i64 q.x, .int .i64 q.z] 30)).heap.size = w.heap.size + 1 by simp] at hit ⊢
  rw [← hW1] at hit ⊢
  have hz1' := Nat.le_of_eq hz1
  have hz1'' := Nat.le_of_eq hz1.symm
  clear hW1 c0 c1 c2 c3 hM0 ht0 hz1
  go_loopg [5] s.M.length (fun gk n wr => ∃ (seen : List Nat) (m : Int), seen.length + gk = s.M.length ∧ n = .int .i64 m ∧ Oc.IterAt wr (w.heap.size + 1) bm s.M seen ∧ Oc.LenS s.M seen q m ∧ Oc.Turns [w.heap.size + 1] W1 wr)
  case atStart => exact ⟨[], 0, by simp, rfl, hit, ⟨(fun j hj => nomatch hj), .inl rfl, by decide, by decide⟩, Oc.Turns.refl _ _⟩
  case round =>
    clear hit
    obtain ⟨seen, m, hsk, rfl, hitr, hlen, htr⟩ := hrel
    have HL := Oc.hide hlen
    have hm0 := hlen.2.2.1
    have hm1 := hlen.2.2.2
    clear hlen
    go_wp2_with (at_next; refine wpList_nextD _ rfl _ rfl (w.heap.size + 1) bm s.M seen rfl hitr (by omega) ?_ ?_)
    · intro hall
      have hfin := (Oc.unhide HL).all hall
      have Hfin := Oc.hide hfin
      clear hall hfin
      go_wp2
      go_ret
      refine ⟨m, rfl, Oc.unhide Hfin, ?_⟩
      exact ⟨htr.os.trans htw.os, htr.tape.trans htw.tape, htr.output.trans htw.output, Nat.le_trans htw.size htr.size, fun k hk _ => (htr.block k (Nat.lt_of_lt_of_le hk htw.size) (by simp; omega)).trans (htw.block k hk (by simp))⟩
    · intro j kx vx w' hj hns hit' hg' hsz hen
      simp only [Oc.encK] at hen
      have hlt : seen.length < s.M.length := by
        have := Oc.nodup_le s.M.length (seen ++ [j]) hit'.nd hit'.lt
        simp at this; omega
      have hob := (Oc.unhide HOk) _ (List.mem_of_getElem? hj)
      obtain ⟨o1, o2, _⟩ := hob
      simp only at o1 o2
      have htr' : Oc.Turns [w.heap.size + 1] W1 w' := htr.trans (Oc.Turns.of_some hg' (by simp))
      have hf' := htr'.kept hf1 (by simp)
      have g0 := cell_of_row w' w.heap.size 0 _ _ _ hf'
      have g1 := cell_of_row w' w.heap.size 1 _ _ _ hf'
      have g2 := cell_of_row w' w.heap.size 2 _ _ _ hf'
      simp at g0 g1 g2
      have hwl : w.heap.size < w'.heap.size := (Array.getElem?_eq_some_iff.1 hf').1
      have hita : ∀ o, Oc.IterAt (w'.alloc o) (w.heap.size + 1) bm s.M (seen ++ [j]) := fun o =>
        ⟨(Below.heap_alloc w' o _ (Array.getElem?_eq_some_iff.1 hit'.it).1).trans hit'.it, (Below.heap_alloc w' o _ (Array.getElem?_eq_some_iff.1 hit'.map).1).trans hit'.map, hit'.nd, hit'.lt⟩
      have Hita := Oc.hide hita
      have Hj := Oc.hide hj
      have Htr := Oc.hide (fun o => htr'.alloc o)
      clear hit' hg' hita hj htr' htr hitr hsz
      by_cases hF : Oc.inF kx q = true
      · have hF2 := hF
        simp only [Oc.inF, Bool.and_eq_true, beq_iff_eq] at hF2
        obtain ⟨e1, e2, e3⟩ := hF2
        have b1 : (kx.k == q.k) = true := by simpa using e1
        have b2 : (kx.x == q.x) = true := by simpa using e2
        have b3 : (kx.z == q.z) = true := by simpa using e3
        have HF := Oc.hide hF
        clear hF e1 e2 e3
        by_cases hm : m ≤ kx.i + 1
        · go_wp2
          all_goals
            go_roundg (gk - 1)
            case measure => omega
            case rel => exact ⟨seen ++ [j], kx.i + 1, by simp; omega, by first | rfl | (congr 1; omega), Oc.unhide Hita _, (Oc.unhide HL).step (Oc.unhide HOk) (Oc.unhide Hj) (Oc.unhide HF) hm, Oc.unhide Htr _⟩
        · go_wp2
          all_goals
            go_roundg (gk - 1)
            case measure => omega
            case rel => exact ⟨seen ++ [j], m, by simp; omega, by first | rfl | (congr 1; omega), Oc.unhide Hita _, (Oc.unhide HL).skip (Oc.unhide Hj) (.inr (by simp; omega)), Oc.unhide Htr _⟩
      · have HF := Oc.hide (show Oc.inF kx q = false by simpa using hF)
        have hall : ∀ (X : Act → World → Prop), True := fun _ => trivial
        by_cases e1 : kx.k = q.k
        · have b1 : (kx.k == q.k) = true := by simpa using e1
          by_cases e2 : kx.x = q.x
          · have b2 : (kx.x == q.x) = true := by simpa using e2
            have e3 : kx.z ≠ q.z := fun e3 => hF (by simp [Oc.inF, e1, e2, e3])
            have b3 : (kx.z == q.z) = false := by simpa using e3
            clear hF e1 e2
            go_wp2
            go_roundg (gk - 1)
            case measure => omega
            case rel => exact ⟨seen ++ [j], m, by simp; omega, rfl, Oc.unhide Hita _, (Oc.unhide HL).skip (Oc.unhide Hj) (.inl (Oc.unhide HF)), Oc.unhide Htr _⟩
          · have b2 : (kx.x == q.x) = false := by simpa using e2
            clear hF e1
            go_wp2
            go_roundg (gk - 1)
            case measure => omega
            case rel => exact ⟨seen ++ [j], m, by simp; omega, rfl, Oc.unhide Hita _, (Oc.unhide HL).skip (Oc.unhide Hj) (.inl (Oc.unhide HF)), Oc.unhide Htr _⟩
        · have b1 : (kx.k == q.k) = false := by simpa using e1
          clear hF
          go_wp2
          go_roundg (gk - 1)
          case measure => omega
          case rel => exact ⟨seen ++ [j], m, by simp; omega, rfl, Oc.unhide Hita _, (Oc.unhide HL).skip (Oc.unhide Hj) (.inl (Oc.unhide HF)), Oc.unhide Htr _⟩
end Go.Proofs.Ytnlbdmciaodohaa
