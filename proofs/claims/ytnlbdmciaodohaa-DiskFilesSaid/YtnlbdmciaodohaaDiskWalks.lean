/- The walks through a disk: New, Cut, Up, On, Writes, Write, Read. -/
import Derived.Test.YtnlbdmciaodohaaDiskMap
import Derived.Test.YtnlbdmciaodohaaTurns
import Derived.Test.YtnlbdmciaodohaaHeld
import Derived.Deep.RegionHeld3
namespace Oc
open Go Go.RowKit
set_option linter.unusedVariables false
/-- What a disk has: its blocks, is the power out, how many writes till it goes out, how many writes there were. -/
structure Ds where
  M : Dm
  out : Bool
  left : Int
  writes : Int
def DmOk (M : Dm) : Prop := ∀ x ∈ M, 0 ≤ x.1.i ∧ x.1.i < 4096 ∧ x.2.length = 32 ∧ ∀ c ∈ x.2, 0 ≤ c ∧ c < 256
def Ds.new : Ds := ⟨[], false, -1, 0⟩
def Ds.cut (s : Ds) (n : Int) : Ds := { s with left := max n 0, out := s.out || decide (n < 1) }
def Ds.up (s : Ds) : Ds := { s with out := false, left := -1 }
/-- A write: an error's number. -/
def Ds.err (s : Ds) (p : Key) (len : Nat) : Int := if p.i < 0 ∨ 4096 ≤ p.i ∨ len ≠ 32 then 1 else if s.out then 8 else 0
def Ds.write (s : Ds) (p : Key) (len : Nat) (v : List Int) : Ds :=
  if s.err p len = 0 then { M := put s.M p v, writes := s.writes + 1, left := if 0 < s.left then s.left - 1 else s.left, out := if 0 < s.left then decide (s.left - 1 = 0) else s.out } else s
def Ds.rerr (s : Ds) (i : Int) : Int := if i < 0 ∨ 4096 ≤ i then 1 else if s.out then 8 else 0
structure DkAt (ty : Nat) (w : World) (b bm : Nat) (s : Ds) : Prop where
  str : w.heap[b]? = some (.cells #[.map (some bm), .bool s.out, .int .i64 s.left, .int .i64 s.writes] ty (0, 0))
  map : MapAt w bm s.M
  ok : DmOk s.M
  lf : -1 ≤ s.left ∧ s.left ≤ 9223372036854775807
  wr : 0 ≤ s.writes ∧ s.writes ≤ 4611686018427387904
theorem DkAt.ne {ty : Nat} {w : World} {b bm : Nat} {s : Ds} (h : DkAt ty w b bm s) : b ≠ bm := fun e => by
  have h1 := h.str
  have h2 : w.heap[bm]? = _ := h.map
  rw [e, h2] at h1; cases h1
theorem DkAt.cells {ty : Nat} {w : World} {b bm : Nat} {s : Ds} (h : DkAt ty w b bm s) :
    (w.cell? ⟨b, 0, none⟩ = some (.map (some bm)) ∧ w.cell? ⟨b, 1, none⟩ = some (.bool s.out) ∧ w.cell? ⟨b, 2, none⟩ = some (.int .i64 s.left) ∧ w.cell? ⟨b, 3, none⟩ = some (.int .i64 s.writes)) ∧
    (w.frozen? ⟨b, 0, none⟩ = false ∧ w.frozen? ⟨b, 1, none⟩ = false ∧ w.frozen? ⟨b, 2, none⟩ = false ∧ w.frozen? ⟨b, 3, none⟩ = false) ∧ b < w.heap.size ∧ bm < w.heap.size := by
  have c0 := cell_of_row w b 0 _ _ _ h.str
  have c1 := cell_of_row w b 1 _ _ _ h.str
  have c2 := cell_of_row w b 2 _ _ _ h.str
  have c3 := cell_of_row w b 3 _ _ _ h.str
  simp at c0 c1 c2 c3
  exact ⟨⟨c0, c1, c2, c3⟩, ⟨frozen_of_row w b _ _ _ h.str, frozen_of_row w b _ _ _ h.str, frozen_of_row w b _ _ _ h.str, frozen_of_row w b _ _ _ h.str⟩, (Array.getElem?_eq_some_iff.1 h.str).1, (Array.getElem?_eq_some_iff.1 h.map).1⟩
theorem DkAt.kept {ty : Nat} {w w' : World} {b bm : Nat} {s : Ds} {l : List Nat} (h : DkAt ty w b bm s) (ht : Turns l w w') (h1 : b ∉ l) (h2 : bm ∉ l) : DkAt ty w' b bm s :=
  ⟨ht.kept h.str h1, ht.kept h.map h2, h.ok, h.lf, h.wr⟩
end Oc
namespace Go.Proofs.Ytnlbdmciaodohaa
set_option linter.unusedVariables false
set_option linter.unusedSimpArgs false
open Go.RowKit
set_option maxHeartbeats 2000000
theorem dnew_any (w : World) : Calls Try.prog 8 #[] w fun e w' => ∃ b bm, e = .returned (.pointer (some ⟨b, 0, none⟩)) ∧ Oc.DkAt 54 w' b bm Oc.Ds.new ∧ w.heap.size ≤ b ∧ w.heap.size ≤ bm ∧ w.grownBy w' none := by
  have hmm := @run_makeMap Try.prog
  go_enter Try.func8, Try.ntmps8
  go_wp2
  go_ret
  refine ⟨w.heap.size + 1, w.heap.size, rfl, ⟨?_, ?_, fun x hx => by simp [Oc.Ds.new] at hx, by decide, by decide⟩, by omega, by omega, Oc.only_alloc (Oc.only_alloc (Oc.only_refl _ _) _) _⟩
  · have := heap_alloc_new (w.alloc (.map #[] 0)) (.cells #[.map (some w.heap.size), .bool false, .int .i64 (-1), .int .i64 0] 54)
    rwa [World.size_alloc] at this
  · exact (Below.heap_alloc _ _ _ (by simp)).trans (heap_alloc_new w _)
theorem dcut_any (b bm : Nat) (s : Oc.Ds) (n : Int) (hn : Oc.I n) (w : World) (hD : Oc.DkAt 54 w b bm s) :
    Calls Try.prog 9 #[.pointer (some ⟨b, 0, none⟩), .int .i64 n] w fun e w' => e = .returned (.tuple #[]) ∧ Oc.DkAt 54 w' b bm (s.cut n) ∧ Oc.Turns [b] w w' := by
  obtain ⟨⟨c0, c1, c2, c3⟩, ⟨f0, f1, f2, f3⟩, hb, hbm⟩ := hD.cells
  obtain ⟨n0, n1⟩ := hn
  have hfin : ∀ (o : Bool) (l : Int), o = (s.out || decide (n < 1)) → l = max n 0 → Oc.DkAt 54 ((w.setCell ⟨b, 2, none⟩ (.int .i64 l)).setCell ⟨b, 1, none⟩ (.bool o)) b bm (s.cut n) ∧ Oc.Turns [b] w ((w.setCell ⟨b, 2, none⟩ (.int .i64 l)).setCell ⟨b, 1, none⟩ (.bool o)) := by
    rintro o l rfl rfl
    have ht := ((Oc.Turns.refl [b] w).setCell (p := ⟨b, 2, none⟩) (.inl (by simp)) (.int .i64 (max n 0))).setCell (p := ⟨b, 1, none⟩) (.inl (by simp)) (.bool (s.out || decide (n < 1)))
    refine ⟨⟨?_, ht.kept hD.map (by simpa using hD.ne.symm), hD.ok, by simp [Oc.Ds.cut]; omega, hD.wr⟩, ht⟩
    have h1 := heap_setCell_same w b 2 _ _ (.int .i64 (max n 0)) hD.str
    have h2 := heap_setCell_same _ b 1 _ _ (.bool (s.out || decide (n < 1))) h1
    simpa [Oc.Ds.cut] using h2
  have Hfin := Oc.hide hfin
  clear hfin
  have hmx : (n < 0 → max n 0 = 0) ∧ (0 ≤ n → max n 0 = n) := by omega
  cases hout : s.out
  all_goals
    rw [hout] at c1
    have Hout := Lib.hid hout
    clear hout
    go_enter Try.func9, Try.ntmps9
    go_wp2
    all_goals
      go_end0
      exact ⟨rfl, Oc.unhide Hfin _ _ (by rw [Hout.out]; simp) (by omega)⟩
theorem dup_any (b bm : Nat) (s : Oc.Ds) (w : World) (hD : Oc.DkAt 54 w b bm s) :
    Calls Try.prog 11 #[.pointer (some ⟨b, 0, none⟩)] w fun e w' => e = .returned (.tuple #[]) ∧ Oc.DkAt 54 w' b bm s.up ∧ Oc.Turns [b] w w' := by
  obtain ⟨⟨c0, c1, c2, c3⟩, ⟨f0, f1, f2, f3⟩, hb, hbm⟩ := hD.cells
  have hfin : Oc.DkAt 54 ((w.setCell ⟨b, 1, none⟩ (.bool false)).setCell ⟨b, 2, none⟩ (.int .i64 (-1))) b bm s.up ∧ Oc.Turns [b] w ((w.setCell ⟨b, 1, none⟩ (.bool false)).setCell ⟨b, 2, none⟩ (.int .i64 (-1))) := by
    have ht := ((Oc.Turns.refl [b] w).setCell (p := ⟨b, 1, none⟩) (.inl (by simp)) (.bool false)).setCell (p := ⟨b, 2, none⟩) (.inl (by simp)) (.int .i64 (-1))
    refine ⟨⟨?_, ht.kept hD.map (by simpa using hD.ne.symm), hD.ok, by simp [Oc.Ds.up], hD.wr⟩, ht⟩
    have h1 := heap_setCell_same w b 1 _ _ (.bool false) hD.str
    have h2 := heap_setCell_same _ b 2 _ _ (.int .i64 (-1)) h1
    simpa [Oc.Ds.up] using h2
  have Hfin := Oc.hide hfin
  clear hfin
  go_enter Try.func11, Try.ntmps11
  go_wp2
  go_end0
  exact ⟨rfl, Oc.unhide Hfin⟩
theorem don_any (b bm : Nat) (s : Oc.Ds) (w : World) (hD : Oc.DkAt 54 w b bm s) :
    Calls Try.prog 19 #[.pointer (some ⟨b, 0, none⟩)] w fun e w' => e = .returned (.bool (!s.out)) ∧ w = w' := by
  obtain ⟨⟨c0, c1, c2, c3⟩, _, hb, hbm⟩ := hD.cells
  go_enter Try.func19, Try.ntmps19
  go_wp2
  go_ret
  exact ⟨rfl, rfl⟩
theorem dwrites_any (b bm : Nat) (s : Oc.Ds) (w : World) (hD : Oc.DkAt 54 w b bm s) :
    Calls Try.prog 13 #[.pointer (some ⟨b, 0, none⟩)] w fun e w' => e = .returned (.int .i64 s.writes) ∧ w = w' := by
  obtain ⟨⟨c0, c1, c2, c3⟩, _, hb, hbm⟩ := hD.cells
  go_enter Try.func13, Try.ntmps13
  go_wp2
  go_ret
  exact ⟨rfl, rfl⟩
/-- What a write leaves. -/
def WrPost (b bm : Nat) (s : Oc.Ds) (p : Oc.Key) (len : Nat) (v : List Int) (w : World) (e : Ending) (w' : World) : Prop :=
  e = .returned (.int .i64 (s.err p len)) ∧ Oc.DkAt 54 w' b bm (s.write p len v) ∧ Oc.Turns [b, bm] w w'
theorem dwrite_arg (b bm : Nat) (s : Oc.Ds) (p : Oc.Key) (a : Option Addr) (len cap : Nat) (zs : List Int) (hi : Oc.I p.i) (hlen : len ≤ maxLen) (w : World) (hD : Oc.DkAt 54 w b bm s) (hbad : p.i < 0 ∨ 4096 ≤ p.i ∨ len ≠ 32) :
    Calls Try.prog 10 #[.pointer (some ⟨b, 0, none⟩), .agg #[.int .i64 p.k, .int .i64 p.x, .int .i64 p.z], .int .i64 p.i, .slice a len cap] w (WrPost b bm s p len zs w) := by
  have he : s.err p len = 1 := by unfold Oc.Ds.err; rw [if_pos hbad]
  have hs : s.write p len zs = s := by unfold Oc.Ds.write; rw [he]; rfl
  unfold WrPost
  rw [he, hs]
  have ht := (Oc.Turns.refl [b, bm] w).alloc (.cells #[.int .i64 p.k, .int .i64 p.x, .int .i64 p.z] 30)
  have hD1 : Oc.DkAt 54 (w.alloc (.cells #[.int .i64 p.k, .int .i64 p.x, .int .i64 p.z] 30)) b bm s := hD.kept ((Oc.Turns.refl [] w).alloc _) (by simp) (by simp)
  unfold maxLen at hlen
  clear he hs
  by_cases h1 : p.i < 0
  · have d1 : decide (p.i < 0) = true := by simpa using h1
    go_enter Try.func10, Try.ntmps10
    go_wp2
    go_ret
    exact ⟨rfl, hD1, ht⟩
  · have d1 : decide (p.i < 0) = false := by simpa using h1
    by_cases h2 : 4096 ≤ p.i
    · have d2 : decide (4096 ≤ p.i) = true := by simpa using h2
      go_enter Try.func10, Try.ntmps10
      go_wp2
      go_ret
      exact ⟨rfl, hD1, ht⟩
    · have d2 : decide (4096 ≤ p.i) = false := by simpa using h2
      have h3 : len ≠ 32 := by omega
      have d3 : ((len : Int) == 32) = false := by rw [beq_eq_false_iff_ne]; omega
      have d3' : ((len : Int) != 32) = true := by rw [bne_iff_ne]; omega
      go_enter Try.func10, Try.ntmps10
      go_wp2
      go_ret
      exact ⟨rfl, hD1, ht⟩
theorem dwrite_down (b bm : Nat) (s : Oc.Ds) (p : Oc.Key) (a : Option Addr) (cap : Nat) (zs : List Int) (hi : 0 ≤ p.i ∧ p.i < 4096) (hout : s.out = true) (w : World) (hD : Oc.DkAt 54 w b bm s) :
    Calls Try.prog 10 #[.pointer (some ⟨b, 0, none⟩), .agg #[.int .i64 p.k, .int .i64 p.x, .int .i64 p.z], .int .i64 p.i, .slice a 32 cap] w (WrPost b bm s p 32 zs w) := by
  have he : s.err p 32 = 8 := by unfold Oc.Ds.err; rw [if_neg (by omega), if_pos hout]
  have hs : s.write p 32 zs = s := by unfold Oc.Ds.write; rw [he]; rfl
  unfold WrPost
  rw [he, hs]
  have ht := (Oc.Turns.refl [b, bm] w).alloc (.cells #[.int .i64 p.k, .int .i64 p.x, .int .i64 p.z] 30)
  have hD1 : Oc.DkAt 54 (w.alloc (.cells #[.int .i64 p.k, .int .i64 p.x, .int .i64 p.z] 30)) b bm s := hD.kept ((Oc.Turns.refl [] w).alloc _) (by simp) (by simp)
  obtain ⟨⟨c0, c1, c2, c3⟩, _, hb, hbm⟩ := hD.cells
  rw [hout] at c1
  have d1 : decide (p.i < 0) = false := by simp; omega
  have d2 : decide (4096 ≤ p.i) = false := by simp; omega
  clear he hs hout
  go_enter Try.func10, Try.ntmps10
  go_wp2
  go_ret
  exact ⟨rfl, hD1, ht⟩
end Go.Proofs.Ytnlbdmciaodohaa
